/- The evaluator's facts, gathered under one name for the simplifier. -/
import Derived.Test.YtiipndbcddgjlaaNm21
import Derived.Attr
set_option linter.all false
set_option linter.unusedSimpArgs false
set_option linter.unusedVariables false
namespace Go.Nm
attribute [go_sem] retSV SV.mv mvs subL SObj.mv posOf back
attribute [go_sem ↓] evStep evOp evDraw evDStep
attribute [go_sem] callOf opnd cst pv1 Env.get Env.put enterEnv SV.cells List.all_cons List.all_nil SV.one Bool.and_true Bool.true_and and_true true_and rdOK usesN setAll List.length_nil List.replicate List.nil_append
  List.cons_append List.getElem?_cons_zero List.getElem?_cons_succ List.set evFieldAddr Nat.lt_add_one Nat.zero_add Nat.add_zero evLoad evStore rdCells wrCells Nat.zero_lt_one List.length_cons TK.agg
  evBin slotOf List.getElem?_toArray Option.bind_some gdOf strip isSuf sameK gdObs gdOb Op.operands evLen evPick List.getD_cons_zero List.getD_cons_succ List.append_nil Bool.false_eq_true List.take_zero
  List.take_succ_cons List.drop_zero List.drop_succ_cons List.take_nil List.drop_nil List.map_cons List.map_nil beq_iff_eq beq_eq_false_iff_ne Bool.cond_true_left Bool.cond_false_right
  Bool.cond_true_right Bool.cond_false_left imp_self implies_true forall_const Bool.or_eq_false_iff Bool.and_eq_true Call.operands Array.toList_append Array.toList_map List.append_assoc
  List.zip_nil_left List.zip_cons_cons Int.toNat_natCast List.length_map Option.getD_some Option.getD_none decide_eq_true_eq decide_eq_false_iff_not evIndexAddr evIndex evSlice evConvert evMapUpdate
  evLookup evBuild evBuildSlice evNil evField evFunc evAppend bndSV natSV pvOf pures SV.pure? purEls idxOK fillSV srcOf isNilPV eqCells SV.tupAt keyKind isU8 PV.one isAggSV List.mem_cons
  List.not_mem_nil or_false forall_eq_or_imp forall_eq ne_eq not_false_eq_true zeroPV List.headD_cons Array.toList_empty Option.map_some Option.map_none beq_self_eq_true Bool.not_false Bool.not_true
  Bool.and_self Bool.or_true Bool.or_false Bool.true_or Bool.false_or Bool.and_false Bool.false_and decide_true decide_false true_implies false_implies Bool.true_eq_false eq_self
end Go.Nm
