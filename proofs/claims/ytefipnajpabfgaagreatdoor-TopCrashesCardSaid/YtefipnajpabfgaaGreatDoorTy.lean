/- What the types of the program are. -/
import Derived.Test.YtefipnajpabfgaaGreatDoorL7
import Derived.Test.YtefipnajpabfgaaGreatDoorL6
import Derived.Test.YtefipnajpabfgaaGreatDoorProg
import Derived.KernelRfl
set_option linter.all false
set_option maxRecDepth 40000
set_option maxHeartbeats 16000000
set_option linter.unusedSimpArgs false
set_option linter.unusedVariables false
/- What the types of the program are. -/
/- What the types of the program are. -/
/- What the program's types are, and which functions may be entered. Written by gen_types.py. -/
namespace Go.Proofs.YtefipnajpabfgaaGreatDoor
open Go.Nm
@[go_sem] theorem ty3 : tiOf Tryz.prog 3 = some ⟨1, 8, [.i .i64 0], false, .int .i64⟩ := by kernel_rfl
@[go_sem] theorem ty4 : tiOf Tryz.prog 4 = some ⟨1, 1, [.b false], false, .bool⟩ := by kernel_rfl
@[go_sem] theorem ty5 : tiOf Tryz.prog 5 = some ⟨1, 1, [.i .u8 0], false, .int .u8⟩ := by kernel_rfl
@[go_sem] theorem ty9 : tiOf Tryz.prog 9 = some ⟨1, 16, [.s []], false, .str⟩ := by kernel_rfl
@[go_sem] theorem ni9 : notIntT Tryz.prog 9 = true := by kernel_rfl
@[go_sem] theorem ty22 : tiOf Tryz.prog 22 = some ⟨1, 24, [.fz [] (some 0)], false, .slice 34⟩ := by kernel_rfl
@[go_sem] theorem ni22 : notIntT Tryz.prog 22 = true := by kernel_rfl
@[go_sem] theorem ty23 : tiOf Tryz.prog 23 = some ⟨1, 8, [.np], false, .ptr 114⟩ := by kernel_rfl
@[go_sem] theorem ty24 : tiOf Tryz.prog 24 = some ⟨1, 8, [.np], false, .ptr 106⟩ := by kernel_rfl
@[go_sem] theorem ty25 : tiOf Tryz.prog 25 = some ⟨1, 8, [.np], false, .ptr 84⟩ := by kernel_rfl
@[go_sem] theorem ty28 : tiOf Tryz.prog 28 = some ⟨1, 8, [.np], false, .ptr 70⟩ := by kernel_rfl
@[go_sem] theorem ty30 : tiOf Tryz.prog 30 = some ⟨1, 8, [.i .u64 0], false, .int .u64⟩ := by kernel_rfl
@[go_sem] theorem ty31 : tiOf Tryz.prog 31 = some ⟨1, 8, [.nfn], false, .func⟩ := by kernel_rfl
@[go_sem] theorem ty32 : tiOf Tryz.prog 32 = some ⟨1, 24, [.fz [] (some 0)], false, .slice 44⟩ := by kernel_rfl
@[go_sem] theorem ni32 : notIntT Tryz.prog 32 = true := by kernel_rfl
@[go_sem] theorem ty34 : tiOf Tryz.prog 34 = some ⟨4, 48, [.i .u64 0, .i .u64 0, .i .u64 0, .fz [] (some 0)], true, .struct [(0, 30), (1, 30), (2, 30), (3, 32)]⟩ := by kernel_rfl
@[go_sem] theorem pl34 : plOf Tryz.prog 34 = some [(0, 1), (1, 1), (2, 1), (3, 1)] := by kernel_rfl
@[go_sem] theorem ty36 : tiOf Tryz.prog 36 = some ⟨1, 8, [.i .i64 0], false, .int .i64⟩ := by kernel_rfl
@[go_sem] theorem ty38 : tiOf Tryz.prog 38 = some ⟨2, 16, [.i .u64 0, .i .i64 0], true, .struct [(0, 30), (1, 36)]⟩ := by kernel_rfl
@[go_sem] theorem pl38 : plOf Tryz.prog 38 = some [(0, 1), (1, 1)] := by kernel_rfl
@[go_sem] theorem ty44 : tiOf Tryz.prog 44 = some ⟨3, 40, [.s [], .s [], .b false], true, .struct [(0, 9), (1, 9), (2, 4)]⟩ := by kernel_rfl
@[go_sem] theorem pl44 : plOf Tryz.prog 44 = some [(0, 1), (1, 1), (2, 1)] := by kernel_rfl
@[go_sem] theorem ty48 : tiOf Tryz.prog 48 = some ⟨1, 24, [.fz [] (some 0)], false, .slice 100⟩ := by kernel_rfl
@[go_sem] theorem ni48 : notIntT Tryz.prog 48 = true := by kernel_rfl
@[go_sem] theorem ty52 : tiOf Tryz.prog 52 = some ⟨5, 48, [.s [], .s [], .b false, .b false, .i .i64 0], true, .struct [(0, 9), (1, 9), (2, 4), (3, 4), (4, 3)]⟩ := by kernel_rfl
@[go_sem] theorem pl52 : plOf Tryz.prog 52 = some [(0, 1), (1, 1), (2, 1), (3, 1), (4, 1)] := by kernel_rfl
@[go_sem] theorem ty57 : tiOf Tryz.prog 57 = some ⟨1, 24, [.fz [] (some 0)], false, .slice 4⟩ := by kernel_rfl
@[go_sem] theorem ty58 : tiOf Tryz.prog 58 = some ⟨1, 24, [.fz [] (some 0)], false, .slice 109⟩ := by kernel_rfl
@[go_sem] theorem ty67 : tiOf Tryz.prog 67 = some ⟨1, 8, [.nm], false, .map 9 30⟩ := by kernel_rfl
@[go_sem] theorem ty68 : tiOf Tryz.prog 68 = some ⟨1, 8, [.nm], false, .map 30 74⟩ := by kernel_rfl
@[go_sem] theorem ty70 : tiOf Tryz.prog 70 = some ⟨3, 24, [.i .u64 0, .nm, .nm], true, .struct [(0, 30), (1, 67), (2, 68)]⟩ := by kernel_rfl
@[go_sem] theorem pl70 : plOf Tryz.prog 70 = some [(0, 1), (1, 1), (2, 1)] := by kernel_rfl
@[go_sem] theorem ty74 : tiOf Tryz.prog 74 = some ⟨3, 24, [.i .u64 0, .i .u64 0, .i .i64 0], true, .struct [(0, 30), (1, 38)]⟩ := by kernel_rfl
@[go_sem] theorem pl74 : plOf Tryz.prog 74 = some [(0, 1), (1, 2)] := by kernel_rfl
@[go_sem] theorem ty77 : tiOf Tryz.prog 77 = some ⟨2, 16, [.nfn, .i .i64 0], true, .struct [(0, 31), (1, 36)]⟩ := by kernel_rfl
@[go_sem] theorem pl77 : plOf Tryz.prog 77 = some [(0, 1), (1, 1)] := by kernel_rfl
@[go_sem] theorem ty78 : tiOf Tryz.prog 78 = some ⟨6, 48, [.nfn, .i .i64 0, .nfn, .i .i64 0, .nfn, .i .i64 0], true, .arr 3 77⟩ := by kernel_rfl
@[go_sem] theorem pl78 : plOf Tryz.prog 78 = some [(0, 2), (2, 2), (4, 2)] := by kernel_rfl
@[go_sem] theorem ty84 : tiOf Tryz.prog 84 = some ⟨3, 24, [.np, .i .u64 0, .i .u64 0], true, .struct [(0, 24), (1, 30), (2, 30)]⟩ := by kernel_rfl
@[go_sem] theorem pl84 : plOf Tryz.prog 84 = some [(0, 1), (1, 1), (2, 1)] := by kernel_rfl
@[go_sem] theorem ty85 : tiOf Tryz.prog 85 = some ⟨3, 40, [.s [], .s [], .b false], true, .struct [(0, 9), (1, 9), (2, 4)]⟩ := by kernel_rfl
@[go_sem] theorem pl85 : plOf Tryz.prog 85 = some [(0, 1), (1, 1), (2, 1)] := by kernel_rfl
@[go_sem] theorem ty87 : tiOf Tryz.prog 87 = some ⟨1, 24, [.fz [] (some 0)], false, .slice 85⟩ := by kernel_rfl
@[go_sem] theorem ni87 : notIntT Tryz.prog 87 = true := by kernel_rfl
@[go_sem] theorem ty91 : tiOf Tryz.prog 91 = some ⟨3, 32, [.i .u64 0, .s [], .b false], true, .struct [(0, 30), (1, 9), (2, 4)]⟩ := by kernel_rfl
@[go_sem] theorem pl91 : plOf Tryz.prog 91 = some [(0, 1), (1, 1), (2, 1)] := by kernel_rfl
@[go_sem] theorem ty94 : tiOf Tryz.prog 94 = some ⟨1, 24, [.fz [] (some 0)], false, .slice 91⟩ := by kernel_rfl
@[go_sem] theorem ni94 : notIntT Tryz.prog 94 = true := by kernel_rfl
@[go_sem] theorem ty100 : tiOf Tryz.prog 100 = some ⟨2, 32, [.s [], .s []], true, .struct [(0, 9), (1, 9)]⟩ := by kernel_rfl
@[go_sem] theorem pl100 : plOf Tryz.prog 100 = some [(0, 1), (1, 1)] := by kernel_rfl
@[go_sem] theorem eq100 : eqKinds Tryz.prog 100 = some [.str, .str] := by kernel_rfl
@[go_sem] theorem ty102 : tiOf Tryz.prog 102 = some ⟨1, 8, [.np], false, .ptr 160⟩ := by kernel_rfl
@[go_sem] theorem ty103 : tiOf Tryz.prog 103 = some ⟨1, 8, [.np], false, .ptr 157⟩ := by kernel_rfl
@[go_sem] theorem ty104 : tiOf Tryz.prog 104 = some ⟨1, 8, [.np], false, .ptr 151⟩ := by kernel_rfl
@[go_sem] theorem ty106 : tiOf Tryz.prog 106 = some ⟨3, 24, [.np, .np, .np], true, .struct [(0, 102), (1, 103), (2, 104)]⟩ := by kernel_rfl
@[go_sem] theorem pl106 : plOf Tryz.prog 106 = some [(0, 1), (1, 1), (2, 1)] := by kernel_rfl
@[go_sem] theorem ty107 : tiOf Tryz.prog 107 = some ⟨1, 8, [.nm], false, .map 3 3⟩ := by kernel_rfl
@[go_sem] theorem ty109 : tiOf Tryz.prog 109 = some ⟨2, 16, [.i .i64 0, .i .i64 0], true, .struct [(0, 3), (1, 3)]⟩ := by kernel_rfl
@[go_sem] theorem ty110 : tiOf Tryz.prog 110 = some ⟨1, 8, [.nm], false, .map 3 136⟩ := by kernel_rfl
@[go_sem] theorem ty111 : tiOf Tryz.prog 111 = some ⟨1, 8, [.nm], false, .map 3 136⟩ := by kernel_rfl
@[go_sem] theorem ty112 : tiOf Tryz.prog 112 = some ⟨1, 24, [.fz [] (some 0)], false, .slice 116⟩ := by kernel_rfl
@[go_sem] theorem ni112 : notIntT Tryz.prog 112 = true := by kernel_rfl
@[go_sem] theorem ty114 : tiOf Tryz.prog 114 = some ⟨5, 56, [.i .i64 0, .i .i64 0, .nm, .nm, .fz [] (some 0)], true, .struct [(0, 3), (1, 3), (2, 111), (3, 111), (4, 112)]⟩ := by kernel_rfl
@[go_sem] theorem pl114 : plOf Tryz.prog 114 = some [(0, 1), (1, 1), (2, 1), (3, 1), (4, 1)] := by kernel_rfl
@[go_sem] theorem ty116 : tiOf Tryz.prog 116 = some ⟨1, 8, [.nfn], false, .func⟩ := by kernel_rfl
@[go_sem] theorem ty123 : tiOf Tryz.prog 123 = some ⟨1, 24, [.fz [] (some 0)], false, .slice 127⟩ := by kernel_rfl
@[go_sem] theorem ni123 : notIntT Tryz.prog 123 = true := by kernel_rfl
@[go_sem] theorem ty127 : tiOf Tryz.prog 127 = some ⟨2, 24, [.i .u64 0, .s []], true, .struct [(0, 30), (1, 9)]⟩ := by kernel_rfl
@[go_sem] theorem pl127 : plOf Tryz.prog 127 = some [(0, 1), (1, 1)] := by kernel_rfl
@[go_sem] theorem ty134 : tiOf Tryz.prog 134 = some ⟨1, 8, [.np], false, .ptr 193⟩ := by kernel_rfl
@[go_sem] theorem ty136 : tiOf Tryz.prog 136 = some ⟨1, 24, [.fz [] (some 0)], false, .slice 5⟩ := by kernel_rfl
@[go_sem] theorem ni136 : notIntT Tryz.prog 136 = true := by kernel_rfl
@[go_sem] theorem ty149 : tiOf Tryz.prog 149 = some ⟨1, 24, [.fz [] (some 0)], false, .slice 169⟩ := by kernel_rfl
@[go_sem] theorem ni149 : notIntT Tryz.prog 149 = true := by kernel_rfl
@[go_sem] theorem ty151 : tiOf Tryz.prog 151 = some ⟨8, 96, [.np, .i .i64 0, .i .i64 0, .i .i64 0, .fz [] (some 0), .fz [] (some 0), .i .u64 0, .i .u64 0], true, .struct [(0, 23), (1, 3), (2, 3), (3, 3), (4, 149), (5, 136), (6, 30), (7, 30)]⟩ := by kernel_rfl
@[go_sem] theorem pl151 : plOf Tryz.prog 151 = some [(0, 1), (1, 1), (2, 1), (3, 1), (4, 1), (5, 1), (6, 1), (7, 1)] := by kernel_rfl
@[go_sem] theorem ty155 : tiOf Tryz.prog 155 = some ⟨1, 8, [.nm], false, .map 3 219⟩ := by kernel_rfl
@[go_sem] theorem ty157 : tiOf Tryz.prog 157 = some ⟨8, 64, [.np, .np, .i .i64 0, .i .i64 0, .i .u64 0, .nm, .nm, .nm], true, .struct [(0, 23), (1, 152), (2, 3), (3, 3), (4, 30), (5, 155), (6, 110), (7, 107)]⟩ := by kernel_rfl
@[go_sem] theorem pl157 : plOf Tryz.prog 157 = some [(0, 1), (1, 1), (2, 1), (3, 1), (4, 1), (5, 1), (6, 1), (7, 1)] := by kernel_rfl
@[go_sem] theorem ty160 : tiOf Tryz.prog 160 = some ⟨1, 8, [.np], true, .struct [(0, 103)]⟩ := by kernel_rfl
@[go_sem] theorem pl160 : plOf Tryz.prog 160 = some [(0, 1)] := by kernel_rfl
@[go_sem] theorem ty161 : tiOf Tryz.prog 161 = some ⟨1, 24, [.fz [] (some 0)], false, .slice 3⟩ := by kernel_rfl
@[go_sem] theorem ni161 : notIntT Tryz.prog 161 = true := by kernel_rfl
@[go_sem] theorem ty165 : tiOf Tryz.prog 165 = some ⟨3, 40, [.b false, .i .i64 0, .fz [] (some 0)], true, .struct [(0, 4), (1, 3), (2, 48)]⟩ := by kernel_rfl
@[go_sem] theorem pl165 : plOf Tryz.prog 165 = some [(0, 1), (1, 1), (2, 1)] := by kernel_rfl
@[go_sem] theorem ty166 : tiOf Tryz.prog 166 = some ⟨1, 24, [.fz [] (some 0)], false, .slice 171⟩ := by kernel_rfl
@[go_sem] theorem ni166 : notIntT Tryz.prog 166 = true := by kernel_rfl
@[go_sem] theorem ty169 : tiOf Tryz.prog 169 = some ⟨3, 24, [.i .i64 0, .i .u64 0, .i .u64 0], true, .struct [(0, 3), (1, 30), (2, 30)]⟩ := by kernel_rfl
@[go_sem] theorem pl169 : plOf Tryz.prog 169 = some [(0, 1), (1, 1), (2, 1)] := by kernel_rfl
@[go_sem] theorem ty171 : tiOf Tryz.prog 171 = some ⟨4, 48, [.i .i64 0, .i .u64 0, .i .u64 0, .fz [] (some 0)], true, .struct [(0, 169), (3, 123)]⟩ := by kernel_rfl
@[go_sem] theorem pl171 : plOf Tryz.prog 171 = some [(0, 3), (3, 1)] := by kernel_rfl
@[go_sem] theorem ty187 : tiOf Tryz.prog 187 = some ⟨1, 24, [.fz [] (some 0)], false, .slice 190⟩ := by kernel_rfl
@[go_sem] theorem ni187 : notIntT Tryz.prog 187 = true := by kernel_rfl
@[go_sem] theorem ty190 : tiOf Tryz.prog 190 = some ⟨5, 56, [.i .i64 0, .i .i64 0, .b false, .i .i64 0, .fz [] (some 0)], true, .struct [(0, 3), (1, 3), (2, 165)]⟩ := by kernel_rfl
@[go_sem] theorem pl190 : plOf Tryz.prog 190 = some [(0, 1), (1, 1), (2, 3)] := by kernel_rfl
@[go_sem] theorem ty193 : tiOf Tryz.prog 193 = some ⟨2, 32, [.fz [] (some 0), .i .i64 0], true, .struct [(0, 136), (1, 36)]⟩ := by kernel_rfl
@[go_sem] theorem pl193 : plOf Tryz.prog 193 = some [(0, 1), (1, 1)] := by kernel_rfl
@[go_sem] theorem ty198 : tiOf Tryz.prog 198 = some ⟨2, 32, [.fz [] (some 0), .i .i64 0], true, .struct [(0, 136), (1, 36)]⟩ := by kernel_rfl
@[go_sem] theorem pl198 : plOf Tryz.prog 198 = some [(0, 1), (1, 1)] := by kernel_rfl
@[go_sem] theorem ty199 : tiOf Tryz.prog 199 = some ⟨1, 24, [.fz [] (some 0)], false, .slice 30⟩ := by kernel_rfl
@[go_sem] theorem ty212 : tiOf Tryz.prog 212 = some ⟨4, 32, [.np, .i .i64 0, .i .u64 0, .i .i64 0], true, .struct [(0, 23), (1, 3), (2, 30), (3, 3)]⟩ := by kernel_rfl
@[go_sem] theorem pl212 : plOf Tryz.prog 212 = some [(0, 1), (1, 1), (2, 1), (3, 1)] := by kernel_rfl
@[go_sem] theorem ty219 : tiOf Tryz.prog 219 = some ⟨2, 16, [.i .i64 0, .i .i64 0], true, .struct [(0, 3), (1, 3)]⟩ := by kernel_rfl
@[go_sem] theorem ty224 : tiOf Tryz.prog 224 = some ⟨5, 56, [.i .i64 0, .i .i64 0, .s [], .s [], .b false], true, .struct [(0, 3), (1, 3), (2, 9), (3, 9), (4, 4)]⟩ := by kernel_rfl
@[go_sem] theorem pl224 : plOf Tryz.prog 224 = some [(0, 1), (1, 1), (2, 1), (3, 1), (4, 1)] := by kernel_rfl
@[go_sem] theorem ty225 : tiOf Tryz.prog 225 = some ⟨1, 24, [.fz [] (some 0)], false, .slice 224⟩ := by kernel_rfl
@[go_sem] theorem ty226 : tiOf Tryz.prog 226 = some ⟨1, 24, [.fz [] (some 0)], false, .slice 165⟩ := by kernel_rfl
@[go_sem] theorem ni226 : notIntT Tryz.prog 226 = true := by kernel_rfl
@[go_sem] theorem ty250 : tiOf Tryz.prog 250 = some ⟨1, 8, [.i .u64 0], false, .int .u64⟩ := by kernel_rfl
@[go_sem] theorem ty251 : tiOf Tryz.prog 251 = some ⟨9, 72, [.i .u64 0, .i .u64 0, .i .u64 0, .i .u64 0, .i .u64 0, .i .u64 0, .i .u64 0, .i .u64 0, .i .u64 0], true, .arr 9 250⟩ := by kernel_rfl
@[go_sem] theorem ty254 : tiOf Tryz.prog 254 = some ⟨1, 24, [.fz [] (some 0)], false, .slice 9⟩ := by kernel_rfl
@[go_sem] theorem ty278 : tiOf Tryz.prog 278 = some ⟨1, 4, [.i .u32 0], false, .int .u32⟩ := by kernel_rfl
@[go_sem] theorem ty290 : tiOf Tryz.prog 290 = some ⟨16, 64, [.i .u32 0, .i .u32 0, .i .u32 0, .i .u32 0, .i .u32 0, .i .u32 0, .i .u32 0, .i .u32 0, .i .u32 0, .i .u32 0, .i .u32 0, .i .u32 0, .i .u32 0, .i .u32 0, .i .u32 0, .i .u32 0], true, .arr 16 278⟩ := by kernel_rfl
@[go_sem] theorem en5 : enterable Tryz.prog 5 = true := by kernel_rfl
@[go_sem] theorem en6 : enterable Tryz.prog 6 = true := by kernel_rfl
@[go_sem] theorem en7 : enterable Tryz.prog 7 = true := by kernel_rfl
@[go_sem] theorem en8 : enterable Tryz.prog 8 = true := by kernel_rfl
@[go_sem] theorem en9 : enterable Tryz.prog 9 = true := by kernel_rfl
@[go_sem] theorem en10 : enterable Tryz.prog 10 = true := by kernel_rfl
@[go_sem] theorem en11 : enterable Tryz.prog 11 = true := by kernel_rfl
@[go_sem] theorem en12 : enterable Tryz.prog 12 = true := by kernel_rfl
@[go_sem] theorem en13 : enterable Tryz.prog 13 = true := by kernel_rfl
@[go_sem] theorem en14 : enterable Tryz.prog 14 = true := by kernel_rfl
@[go_sem] theorem en15 : enterable Tryz.prog 15 = true := by kernel_rfl
@[go_sem] theorem en16 : enterable Tryz.prog 16 = true := by kernel_rfl
@[go_sem] theorem en17 : enterable Tryz.prog 17 = true := by kernel_rfl
@[go_sem] theorem en18 : enterable Tryz.prog 18 = true := by kernel_rfl
@[go_sem] theorem en19 : enterable Tryz.prog 19 = true := by kernel_rfl
@[go_sem] theorem en20 : enterable Tryz.prog 20 = true := by kernel_rfl
@[go_sem] theorem en21 : enterable Tryz.prog 21 = true := by kernel_rfl
@[go_sem] theorem en22 : enterable Tryz.prog 22 = true := by kernel_rfl
@[go_sem] theorem en23 : enterable Tryz.prog 23 = true := by kernel_rfl
@[go_sem] theorem en24 : enterable Tryz.prog 24 = true := by kernel_rfl
@[go_sem] theorem en25 : enterable Tryz.prog 25 = true := by kernel_rfl
@[go_sem] theorem en26 : enterable Tryz.prog 26 = true := by kernel_rfl
@[go_sem] theorem en27 : enterable Tryz.prog 27 = true := by kernel_rfl
@[go_sem] theorem en28 : enterable Tryz.prog 28 = true := by kernel_rfl
@[go_sem] theorem en29 : enterable Tryz.prog 29 = true := by kernel_rfl
@[go_sem] theorem en30 : enterable Tryz.prog 30 = true := by kernel_rfl
@[go_sem] theorem en31 : enterable Tryz.prog 31 = true := by kernel_rfl
@[go_sem] theorem en32 : enterable Tryz.prog 32 = true := by kernel_rfl
@[go_sem] theorem en33 : enterable Tryz.prog 33 = true := by kernel_rfl
@[go_sem] theorem en34 : enterable Tryz.prog 34 = true := by kernel_rfl
@[go_sem] theorem en35 : enterable Tryz.prog 35 = true := by kernel_rfl
@[go_sem] theorem en36 : enterable Tryz.prog 36 = true := by kernel_rfl
@[go_sem] theorem en37 : enterable Tryz.prog 37 = true := by kernel_rfl
@[go_sem] theorem en38 : enterable Tryz.prog 38 = true := by kernel_rfl
@[go_sem] theorem en41 : enterable Tryz.prog 41 = true := by kernel_rfl
@[go_sem] theorem en42 : enterable Tryz.prog 42 = true := by kernel_rfl
@[go_sem] theorem en43 : enterable Tryz.prog 43 = true := by kernel_rfl
@[go_sem] theorem en44 : enterable Tryz.prog 44 = true := by kernel_rfl
@[go_sem] theorem en45 : enterable Tryz.prog 45 = true := by kernel_rfl
@[go_sem] theorem en46 : enterable Tryz.prog 46 = true := by kernel_rfl
@[go_sem] theorem en47 : enterable Tryz.prog 47 = true := by kernel_rfl
@[go_sem] theorem en48 : enterable Tryz.prog 48 = true := by kernel_rfl
@[go_sem] theorem en49 : enterable Tryz.prog 49 = true := by kernel_rfl
@[go_sem] theorem en50 : enterable Tryz.prog 50 = true := by kernel_rfl
@[go_sem] theorem en51 : enterable Tryz.prog 51 = true := by kernel_rfl
@[go_sem] theorem en52 : enterable Tryz.prog 52 = true := by kernel_rfl
@[go_sem] theorem en53 : enterable Tryz.prog 53 = true := by kernel_rfl
@[go_sem] theorem en54 : enterable Tryz.prog 54 = true := by kernel_rfl
@[go_sem] theorem en55 : enterable Tryz.prog 55 = true := by kernel_rfl
@[go_sem] theorem en56 : enterable Tryz.prog 56 = true := by kernel_rfl
@[go_sem] theorem en57 : enterable Tryz.prog 57 = true := by kernel_rfl
@[go_sem] theorem en58 : enterable Tryz.prog 58 = true := by kernel_rfl
@[go_sem] theorem en59 : enterable Tryz.prog 59 = true := by kernel_rfl
@[go_sem] theorem en60 : enterable Tryz.prog 60 = true := by kernel_rfl
@[go_sem] theorem en61 : enterable Tryz.prog 61 = true := by kernel_rfl
@[go_sem] theorem en62 : enterable Tryz.prog 62 = true := by kernel_rfl
@[go_sem] theorem en63 : enterable Tryz.prog 63 = true := by kernel_rfl
@[go_sem] theorem en64 : enterable Tryz.prog 64 = true := by kernel_rfl
@[go_sem] theorem en65 : enterable Tryz.prog 65 = true := by kernel_rfl
@[go_sem] theorem en66 : enterable Tryz.prog 66 = true := by kernel_rfl
@[go_sem] theorem en68 : enterable Tryz.prog 68 = true := by kernel_rfl
@[go_sem] theorem en69 : enterable Tryz.prog 69 = true := by kernel_rfl
@[go_sem] theorem en70 : enterable Tryz.prog 70 = true := by kernel_rfl
@[go_sem] theorem en71 : enterable Tryz.prog 71 = true := by kernel_rfl
@[go_sem] theorem en72 : enterable Tryz.prog 72 = true := by kernel_rfl
@[go_sem] theorem en73 : enterable Tryz.prog 73 = true := by kernel_rfl
@[go_sem] theorem en74 : enterable Tryz.prog 74 = true := by kernel_rfl
@[go_sem] theorem en75 : enterable Tryz.prog 75 = true := by kernel_rfl
@[go_sem] theorem en76 : enterable Tryz.prog 76 = true := by kernel_rfl
@[go_sem] theorem en77 : enterable Tryz.prog 77 = true := by kernel_rfl
@[go_sem] theorem en78 : enterable Tryz.prog 78 = true := by kernel_rfl
@[go_sem] theorem en79 : enterable Tryz.prog 79 = true := by kernel_rfl
@[go_sem] theorem en80 : enterable Tryz.prog 80 = true := by kernel_rfl
@[go_sem] theorem en82 : enterable Tryz.prog 82 = true := by kernel_rfl
@[go_sem] theorem en83 : enterable Tryz.prog 83 = true := by kernel_rfl
@[go_sem] theorem en84 : enterable Tryz.prog 84 = true := by kernel_rfl
@[go_sem] theorem en85 : enterable Tryz.prog 85 = true := by kernel_rfl
@[go_sem] theorem en88 : enterable Tryz.prog 88 = true := by kernel_rfl
@[go_sem] theorem en89 : enterable Tryz.prog 89 = true := by kernel_rfl
@[go_sem] theorem en90 : enterable Tryz.prog 90 = true := by kernel_rfl
@[go_sem] theorem en91 : enterable Tryz.prog 91 = true := by kernel_rfl
@[go_sem] theorem en92 : enterable Tryz.prog 92 = true := by kernel_rfl
@[go_sem] theorem en93 : enterable Tryz.prog 93 = true := by kernel_rfl
@[go_sem] theorem en94 : enterable Tryz.prog 94 = true := by kernel_rfl
@[go_sem] theorem en95 : enterable Tryz.prog 95 = true := by kernel_rfl
@[go_sem] theorem en96 : enterable Tryz.prog 96 = true := by kernel_rfl
@[go_sem] theorem en97 : enterable Tryz.prog 97 = true := by kernel_rfl
@[go_sem] theorem en98 : enterable Tryz.prog 98 = true := by kernel_rfl
@[go_sem] theorem en99 : enterable Tryz.prog 99 = true := by kernel_rfl
@[go_sem] theorem en100 : enterable Tryz.prog 100 = true := by kernel_rfl
@[go_sem] theorem en101 : enterable Tryz.prog 101 = true := by kernel_rfl
@[go_sem] theorem en102 : enterable Tryz.prog 102 = true := by kernel_rfl
@[go_sem] theorem en103 : enterable Tryz.prog 103 = true := by kernel_rfl
@[go_sem] theorem en106 : enterable Tryz.prog 106 = true := by kernel_rfl
@[go_sem] theorem en107 : enterable Tryz.prog 107 = true := by kernel_rfl
@[go_sem] theorem en108 : enterable Tryz.prog 108 = true := by kernel_rfl
@[go_sem] theorem en109 : enterable Tryz.prog 109 = true := by kernel_rfl
@[go_sem] theorem en110 : enterable Tryz.prog 110 = true := by kernel_rfl
@[go_sem] theorem en111 : enterable Tryz.prog 111 = true := by kernel_rfl
@[go_sem] theorem en112 : enterable Tryz.prog 112 = true := by kernel_rfl
@[go_sem] theorem en113 : enterable Tryz.prog 113 = true := by kernel_rfl
@[go_sem] theorem en114 : enterable Tryz.prog 114 = true := by kernel_rfl
@[go_sem] theorem en115 : enterable Tryz.prog 115 = true := by kernel_rfl
@[go_sem] theorem en116 : enterable Tryz.prog 116 = true := by kernel_rfl
@[go_sem] theorem en117 : enterable Tryz.prog 117 = true := by kernel_rfl
@[go_sem] theorem en118 : enterable Tryz.prog 118 = true := by kernel_rfl
@[go_sem] theorem en123 : enterable Tryz.prog 123 = true := by kernel_rfl
@[go_sem] theorem en124 : enterable Tryz.prog 124 = true := by kernel_rfl
@[go_sem] theorem en125 : enterable Tryz.prog 125 = true := by kernel_rfl
@[go_sem] theorem en126 : enterable Tryz.prog 126 = true := by kernel_rfl
@[go_sem] theorem en127 : enterable Tryz.prog 127 = true := by kernel_rfl
@[go_sem] theorem en128 : enterable Tryz.prog 128 = true := by kernel_rfl
@[go_sem] theorem en129 : enterable Tryz.prog 129 = true := by kernel_rfl
@[go_sem] theorem en130 : enterable Tryz.prog 130 = true := by kernel_rfl
@[go_sem] theorem en131 : enterable Tryz.prog 131 = true := by kernel_rfl
@[go_sem] theorem en132 : enterable Tryz.prog 132 = true := by kernel_rfl
@[go_sem] theorem en133 : enterable Tryz.prog 133 = true := by kernel_rfl
@[go_sem] theorem en134 : enterable Tryz.prog 134 = true := by kernel_rfl
@[go_sem] theorem en137 : enterable Tryz.prog 137 = true := by kernel_rfl
@[go_sem] theorem en138 : enterable Tryz.prog 138 = true := by kernel_rfl
@[go_sem] theorem en139 : enterable Tryz.prog 139 = true := by kernel_rfl
@[go_sem] theorem en140 : enterable Tryz.prog 140 = true := by kernel_rfl
@[go_sem] theorem en141 : enterable Tryz.prog 141 = true := by kernel_rfl
@[go_sem] theorem en142 : enterable Tryz.prog 142 = true := by kernel_rfl
@[go_sem] theorem en143 : enterable Tryz.prog 143 = true := by kernel_rfl
@[go_sem] theorem en144 : enterable Tryz.prog 144 = true := by kernel_rfl
@[go_sem] theorem en145 : enterable Tryz.prog 145 = true := by kernel_rfl
@[go_sem] theorem en147 : enterable Tryz.prog 147 = true := by kernel_rfl
@[go_sem] theorem en148 : enterable Tryz.prog 148 = true := by kernel_rfl
@[go_sem] theorem en151 : enterable Tryz.prog 151 = true := by kernel_rfl
@[go_sem] theorem en152 : enterable Tryz.prog 152 = true := by kernel_rfl
@[go_sem] theorem en153 : enterable Tryz.prog 153 = true := by kernel_rfl
@[go_sem] theorem en154 : enterable Tryz.prog 154 = true := by kernel_rfl
@[go_sem] theorem en155 : enterable Tryz.prog 155 = true := by kernel_rfl
@[go_sem] theorem en156 : enterable Tryz.prog 156 = true := by kernel_rfl
@[go_sem] theorem en157 : enterable Tryz.prog 157 = true := by kernel_rfl
@[go_sem] theorem en158 : enterable Tryz.prog 158 = true := by kernel_rfl
@[go_sem] theorem en160 : enterable Tryz.prog 160 = true := by kernel_rfl
@[go_sem] theorem en161 : enterable Tryz.prog 161 = true := by kernel_rfl
@[go_sem] theorem en162 : enterable Tryz.prog 162 = true := by kernel_rfl
@[go_sem] theorem en167 : enterable Tryz.prog 167 = true := by kernel_rfl
@[go_sem] theorem en168 : enterable Tryz.prog 168 = true := by kernel_rfl
@[go_sem] theorem en169 : enterable Tryz.prog 169 = true := by kernel_rfl
@[go_sem] theorem en170 : enterable Tryz.prog 170 = true := by kernel_rfl
@[go_sem] theorem en173 : enterable Tryz.prog 173 = true := by kernel_rfl
@[go_sem] theorem en176 : enterable Tryz.prog 176 = true := by kernel_rfl
@[go_sem] theorem en177 : enterable Tryz.prog 177 = true := by kernel_rfl
theorem mixed : Tryz.prog.follows .mixedOrders = true := by kernel_rfl
end Go.Proofs.YtefipnajpabfgaaGreatDoor
