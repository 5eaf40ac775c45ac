/- What the program's types are, and which functions may be entered. Written by gen_types.py. -/
import Derived.Test.YteoihmgigmiajaaNm23
import Derived.Test.YteoihmgigmiajaaProg
import Derived.KernelRfl
set_option linter.all false
namespace Go.Proofs.Yteoihmgigmiajaa
open Go.Nm
@[go_sem] theorem ty1 : tiOf Try.prog 1 = some ⟨1, 8, [.nfn], false, .func⟩ := by kernel_rfl
@[go_sem] theorem ty2 : tiOf Try.prog 2 = some ⟨1, 8, [.i .i64 0], false, .int .i64⟩ := by kernel_rfl
@[go_sem] theorem ty3 : tiOf Try.prog 3 = some ⟨1, 8, [.i .i64 0], false, .int .i64⟩ := by kernel_rfl
@[go_sem] theorem ty4 : tiOf Try.prog 4 = some ⟨1, 1, [.b false], false, .bool⟩ := by kernel_rfl
@[go_sem] theorem ty5 : tiOf Try.prog 5 = some ⟨1, 1, [.i .u8 0], false, .int .u8⟩ := by kernel_rfl
@[go_sem] theorem ty6 : tiOf Try.prog 6 = some ⟨1, 1, [.i .u8 0], false, .int .u8⟩ := by kernel_rfl
@[go_sem] theorem ty7 : tiOf Try.prog 7 = some ⟨4, 24, [.i .i64 0, .i .i64 0, .b false, .i .u8 0], true, .struct [(0, 2), (1, 3), (2, 4), (3, 6)]⟩ := by kernel_rfl
@[go_sem] theorem pl7 : plOf Try.prog 7 = some [(0, 1), (1, 1), (2, 1), (3, 1)] := by kernel_rfl
@[go_sem] theorem eq7 : eqKinds Try.prog 7 = some [.int .i64, .int .i64, .bool, .int .u8] := by kernel_rfl
@[go_sem] theorem ty8 : tiOf Try.prog 8 = some ⟨4, 24, [.i .i64 0, .i .i64 0, .b false, .i .u8 0], true, .struct [(0, 2), (1, 3), (2, 4), (3, 6)]⟩ := by kernel_rfl
@[go_sem] theorem pl8 : plOf Try.prog 8 = some [(0, 1), (1, 1), (2, 1), (3, 1)] := by kernel_rfl
@[go_sem] theorem eq8 : eqKinds Try.prog 8 = some [.int .i64, .int .i64, .bool, .int .u8] := by kernel_rfl
@[go_sem] theorem ty9 : tiOf Try.prog 9 = some ⟨1, 16, [.s []], false, .str⟩ := by kernel_rfl
@[go_sem] theorem ni9 : notIntT Try.prog 9 = true := by kernel_rfl
@[go_sem] theorem ty10 : tiOf Try.prog 10 = some ⟨1, 16, [.s []], false, .str⟩ := by kernel_rfl
@[go_sem] theorem ni10 : notIntT Try.prog 10 = true := by kernel_rfl
@[go_sem] theorem ty11 : tiOf Try.prog 11 = some ⟨1, 16, [.s []], false, .str⟩ := by kernel_rfl
@[go_sem] theorem ni11 : notIntT Try.prog 11 = true := by kernel_rfl
@[go_sem] theorem ty12 : tiOf Try.prog 12 = some ⟨1, 8, [.i .u64 0], false, .int .u64⟩ := by kernel_rfl
@[go_sem] theorem ty13 : tiOf Try.prog 13 = some ⟨2, 24, [.s [], .i .u64 0], true, .struct [(0, 9), (1, 12)]⟩ := by kernel_rfl
@[go_sem] theorem pl13 : plOf Try.prog 13 = some [(0, 1), (1, 1)] := by kernel_rfl
@[go_sem] theorem ty14 : tiOf Try.prog 14 = some ⟨2, 24, [.s [], .i .u64 0], true, .struct [(0, 9), (1, 12)]⟩ := by kernel_rfl
@[go_sem] theorem pl14 : plOf Try.prog 14 = some [(0, 1), (1, 1)] := by kernel_rfl
@[go_sem] theorem ty15 : tiOf Try.prog 15 = some ⟨1, 8, [.np], false, .ptr 57⟩ := by kernel_rfl
@[go_sem] theorem ty16 : tiOf Try.prog 16 = some ⟨1, 8, [.np], false, .ptr 60⟩ := by kernel_rfl
@[go_sem] theorem ty17 : tiOf Try.prog 17 = some ⟨1, 8, [.np], false, .ptr 69⟩ := by kernel_rfl
@[go_sem] theorem ty18 : tiOf Try.prog 18 = some ⟨1, 8, [.np], true, .struct [(0, 17)]⟩ := by kernel_rfl
@[go_sem] theorem pl18 : plOf Try.prog 18 = some [(0, 1)] := by kernel_rfl
@[go_sem] theorem ty19 : tiOf Try.prog 19 = some ⟨1, 8, [.np], true, .struct [(0, 17)]⟩ := by kernel_rfl
@[go_sem] theorem pl19 : plOf Try.prog 19 = some [(0, 1)] := by kernel_rfl
@[go_sem] theorem ty21 : tiOf Try.prog 21 = some ⟨1, 4, [.i .i32 0], false, .int .i32⟩ := by kernel_rfl
@[go_sem] theorem ty22 : tiOf Try.prog 22 = some ⟨1, 24, [.fz [] (some 0)], false, .slice 31⟩ := by kernel_rfl
@[go_sem] theorem ni22 : notIntT Try.prog 22 = true := by kernel_rfl
@[go_sem] theorem ty23 : tiOf Try.prog 23 = some ⟨1, 8, [.np], false, .ptr 48⟩ := by kernel_rfl
@[go_sem] theorem ty24 : tiOf Try.prog 24 = some ⟨1, 8, [.i .i64 0], false, .int .i64⟩ := by kernel_rfl
@[go_sem] theorem ty26 : tiOf Try.prog 26 = some ⟨1, 8, [.nfn], false, .func⟩ := by kernel_rfl
@[go_sem] theorem ty27 : tiOf Try.prog 27 = some ⟨1, 8, [.nfn], false, .func⟩ := by kernel_rfl
@[go_sem] theorem ty28 : tiOf Try.prog 28 = some ⟨1, 8, [.nm], false, .map 9 3⟩ := by kernel_rfl
@[go_sem] theorem ty29 : tiOf Try.prog 29 = some ⟨1, 24, [.fz [] (some 0)], false, .slice 33⟩ := by kernel_rfl
@[go_sem] theorem ni29 : notIntT Try.prog 29 = true := by kernel_rfl
@[go_sem] theorem ty30 : tiOf Try.prog 30 = some ⟨5, 56, [.i .i64 0, .i .i64 0, .i .i64 0, .i .i64 0, .fz [] (some 0)], true, .struct [(0, 3), (1, 3), (2, 3), (3, 3), (4, 29)]⟩ := by kernel_rfl
@[go_sem] theorem pl30 : plOf Try.prog 30 = some [(0, 1), (1, 1), (2, 1), (3, 1), (4, 1)] := by kernel_rfl
@[go_sem] theorem ty31 : tiOf Try.prog 31 = some ⟨5, 56, [.i .i64 0, .i .i64 0, .i .i64 0, .i .i64 0, .fz [] (some 0)], true, .struct [(0, 3), (1, 3), (2, 3), (3, 3), (4, 29)]⟩ := by kernel_rfl
@[go_sem] theorem pl31 : plOf Try.prog 31 = some [(0, 1), (1, 1), (2, 1), (3, 1), (4, 1)] := by kernel_rfl
@[go_sem] theorem ty32 : tiOf Try.prog 32 = some ⟨3, 32, [.i .i64 0, .i .i64 0, .s []], true, .struct [(0, 3), (1, 3), (2, 9)]⟩ := by kernel_rfl
@[go_sem] theorem pl32 : plOf Try.prog 32 = some [(0, 1), (1, 1), (2, 1)] := by kernel_rfl
@[go_sem] theorem eq32 : eqKinds Try.prog 32 = some [.int .i64, .int .i64, .str] := by kernel_rfl
@[go_sem] theorem ty33 : tiOf Try.prog 33 = some ⟨3, 32, [.i .i64 0, .i .i64 0, .s []], true, .struct [(0, 3), (1, 3), (2, 9)]⟩ := by kernel_rfl
@[go_sem] theorem pl33 : plOf Try.prog 33 = some [(0, 1), (1, 1), (2, 1)] := by kernel_rfl
@[go_sem] theorem eq33 : eqKinds Try.prog 33 = some [.int .i64, .int .i64, .str] := by kernel_rfl
@[go_sem] theorem ty34 : tiOf Try.prog 34 = some ⟨1, 8, [.nfn], false, .func⟩ := by kernel_rfl
@[go_sem] theorem ty36 : tiOf Try.prog 36 = some ⟨1, 8, [.nfn], false, .func⟩ := by kernel_rfl
@[go_sem] theorem ty37 : tiOf Try.prog 37 = some ⟨1, 8, [.nfn], false, .func⟩ := by kernel_rfl
@[go_sem] theorem ty38 : tiOf Try.prog 38 = some ⟨1, 8, [.nfn], false, .func⟩ := by kernel_rfl
@[go_sem] theorem ty39 : tiOf Try.prog 39 = some ⟨1, 8, [.nfn], false, .func⟩ := by kernel_rfl
@[go_sem] theorem ty40 : tiOf Try.prog 40 = some ⟨1, 8, [.nfn], false, .func⟩ := by kernel_rfl
@[go_sem] theorem ty41 : tiOf Try.prog 41 = some ⟨1, 24, [.fz [] (some 0)], false, .slice 4⟩ := by kernel_rfl
@[go_sem] theorem ni41 : notIntT Try.prog 41 = true := by kernel_rfl
@[go_sem] theorem ty42 : tiOf Try.prog 42 = some ⟨1, 8, [.nfn], false, .func⟩ := by kernel_rfl
@[go_sem] theorem ty44 : tiOf Try.prog 44 = some ⟨1, 8, [.nfn], false, .func⟩ := by kernel_rfl
@[go_sem] theorem ty45 : tiOf Try.prog 45 = some ⟨1, 8, [.nfn], false, .func⟩ := by kernel_rfl
@[go_sem] theorem ty46 : tiOf Try.prog 46 = some ⟨1, 8, [.nfn], false, .func⟩ := by kernel_rfl
@[go_sem] theorem ty47 : tiOf Try.prog 47 = some ⟨2, 32, [.i .i64 0, .fz [] (some 0)], true, .struct [(0, 3), (1, 29)]⟩ := by kernel_rfl
@[go_sem] theorem pl47 : plOf Try.prog 47 = some [(0, 1), (1, 1)] := by kernel_rfl
@[go_sem] theorem ty48 : tiOf Try.prog 48 = some ⟨2, 32, [.i .i64 0, .fz [] (some 0)], true, .struct [(0, 3), (1, 29)]⟩ := by kernel_rfl
@[go_sem] theorem pl48 : plOf Try.prog 48 = some [(0, 1), (1, 1)] := by kernel_rfl
@[go_sem] theorem ty49 : tiOf Try.prog 49 = some ⟨1, 8, [.nfn], false, .func⟩ := by kernel_rfl
@[go_sem] theorem ty50 : tiOf Try.prog 50 = some ⟨1, 8, [.nfn], false, .func⟩ := by kernel_rfl
@[go_sem] theorem ty51 : tiOf Try.prog 51 = some ⟨1, 8, [.nfn], false, .func⟩ := by kernel_rfl
@[go_sem] theorem ty52 : tiOf Try.prog 52 = some ⟨1, 8, [.nfn], false, .func⟩ := by kernel_rfl
@[go_sem] theorem ty53 : tiOf Try.prog 53 = some ⟨1, 8, [.nfn], false, .func⟩ := by kernel_rfl
@[go_sem] theorem ty54 : tiOf Try.prog 54 = some ⟨1, 8, [.nfn], false, .func⟩ := by kernel_rfl
@[go_sem] theorem ty55 : tiOf Try.prog 55 = some ⟨1, 8, [.nfn], false, .func⟩ := by kernel_rfl
@[go_sem] theorem ty56 : tiOf Try.prog 56 = some ⟨4, 40, [.np, .np, .np, .s []], true, .struct [(0, 17), (1, 17), (2, 17), (3, 9)]⟩ := by kernel_rfl
@[go_sem] theorem pl56 : plOf Try.prog 56 = some [(0, 1), (1, 1), (2, 1), (3, 1)] := by kernel_rfl
@[go_sem] theorem ty57 : tiOf Try.prog 57 = some ⟨4, 40, [.np, .np, .np, .s []], true, .struct [(0, 17), (1, 17), (2, 17), (3, 9)]⟩ := by kernel_rfl
@[go_sem] theorem pl57 : plOf Try.prog 57 = some [(0, 1), (1, 1), (2, 1), (3, 1)] := by kernel_rfl
@[go_sem] theorem ty58 : tiOf Try.prog 58 = some ⟨0, 0, [], true, .arr 0 16⟩ := by kernel_rfl
@[go_sem] theorem pl58 : plOf Try.prog 58 = some [] := by kernel_rfl
@[go_sem] theorem ty59 : tiOf Try.prog 59 = some ⟨0, 0, [], true, .struct [(0, 58)]⟩ := by kernel_rfl
@[go_sem] theorem pl59 : plOf Try.prog 59 = some [(0, 0)] := by kernel_rfl
@[go_sem] theorem ty60 : tiOf Try.prog 60 = some ⟨0, 0, [], true, .struct [(0, 58)]⟩ := by kernel_rfl
@[go_sem] theorem pl60 : plOf Try.prog 60 = some [(0, 0)] := by kernel_rfl
@[go_sem] theorem ty61 : tiOf Try.prog 61 = some ⟨1, 4, [.i .u32 0], false, .int .u32⟩ := by kernel_rfl
@[go_sem] theorem ty62 : tiOf Try.prog 62 = some ⟨1, 1, [.i .u8 0], false, .int .u8⟩ := by kernel_rfl
@[go_sem] theorem ty63 : tiOf Try.prog 63 = some ⟨1, 1, [.i .u8 0], false, .int .u8⟩ := by kernel_rfl
@[go_sem] theorem ty64 : tiOf Try.prog 64 = some ⟨1, 8, [.nfn], false, .func⟩ := by kernel_rfl
@[go_sem] theorem ty65 : tiOf Try.prog 65 = some ⟨1, 8, [.np], false, .ptr 5⟩ := by kernel_rfl
@[go_sem] theorem ty66 : tiOf Try.prog 66 = some ⟨1, 4, [.i .i32 0], false, .int .i32⟩ := by kernel_rfl
@[go_sem] theorem ty67 : tiOf Try.prog 67 = some ⟨1, 4, [.i .i32 0], false, .int .i32⟩ := by kernel_rfl
@[go_sem] theorem ty68 : tiOf Try.prog 68 = some ⟨11, 48, [.i .u64 0, .i .u64 0, .i .u32 0, .i .u8 0, .i .u8 0, .i .u8 0, .i .u8 0, .nfn, .np, .i .i32 0, .i .i32 0], true, .struct [(0, 12), (1, 12), (2, 61), (3, 62), (4, 5), (5, 5), (6, 63), (7, 64), (8, 65), (9, 66), (10, 67)]⟩ := by kernel_rfl
@[go_sem] theorem pl68 : plOf Try.prog 68 = some [(0, 1), (1, 1), (2, 1), (3, 1), (4, 1), (5, 1), (6, 1), (7, 1), (8, 1), (9, 1), (10, 1)] := by kernel_rfl
@[go_sem] theorem ty69 : tiOf Try.prog 69 = some ⟨11, 48, [.i .u64 0, .i .u64 0, .i .u32 0, .i .u8 0, .i .u8 0, .i .u8 0, .i .u8 0, .nfn, .np, .i .i32 0, .i .i32 0], true, .struct [(0, 12), (1, 12), (2, 61), (3, 62), (4, 5), (5, 5), (6, 63), (7, 64), (8, 65), (9, 66), (10, 67)]⟩ := by kernel_rfl
@[go_sem] theorem pl69 : plOf Try.prog 69 = some [(0, 1), (1, 1), (2, 1), (3, 1), (4, 1), (5, 1), (6, 1), (7, 1), (8, 1), (9, 1), (10, 1)] := by kernel_rfl
@[go_sem] theorem ty70 : tiOf Try.prog 70 = some ⟨1, 8, [.np], false, .other⟩ := by kernel_rfl
@[go_sem] theorem en2 : enterable Try.prog 2 = true := by kernel_rfl
@[go_sem] theorem en3 : enterable Try.prog 3 = true := by kernel_rfl
@[go_sem] theorem en4 : enterable Try.prog 4 = true := by kernel_rfl
@[go_sem] theorem en5 : enterable Try.prog 5 = true := by kernel_rfl
@[go_sem] theorem en6 : enterable Try.prog 6 = true := by kernel_rfl
@[go_sem] theorem en7 : enterable Try.prog 7 = true := by kernel_rfl
@[go_sem] theorem en8 : enterable Try.prog 8 = true := by kernel_rfl
@[go_sem] theorem en9 : enterable Try.prog 9 = true := by kernel_rfl
@[go_sem] theorem en10 : enterable Try.prog 10 = true := by kernel_rfl
@[go_sem] theorem en11 : enterable Try.prog 11 = true := by kernel_rfl
@[go_sem] theorem en12 : enterable Try.prog 12 = true := by kernel_rfl
@[go_sem] theorem en13 : enterable Try.prog 13 = true := by kernel_rfl
@[go_sem] theorem en14 : enterable Try.prog 14 = true := by kernel_rfl
@[go_sem] theorem en15 : enterable Try.prog 15 = true := by kernel_rfl
@[go_sem] theorem en16 : enterable Try.prog 16 = true := by kernel_rfl
@[go_sem] theorem en17 : enterable Try.prog 17 = true := by kernel_rfl
@[go_sem] theorem en18 : enterable Try.prog 18 = true := by kernel_rfl
@[go_sem] theorem en19 : enterable Try.prog 19 = true := by kernel_rfl
@[go_sem] theorem en20 : enterable Try.prog 20 = true := by kernel_rfl
@[go_sem] theorem en21 : enterable Try.prog 21 = true := by kernel_rfl
@[go_sem] theorem en22 : enterable Try.prog 22 = true := by kernel_rfl
theorem mixed : Try.prog.follows .mixedOrders = true := by kernel_rfl
end Go.Proofs.Yteoihmgigmiajaa
