/- Proved here: what functions of the program compute, and plain laws. No condition. -/
import Derived.Test.YtjaklhbifgbiaaaShown
set_option linter.unusedSimpArgs false
set_option linter.unusedVariables false
namespace Go.Proofs.Ytjaklhbifgbiaaa
open Go Go.AM

theorem few03 (bs : List UInt8) (hl : bs.length ≤ 9223372036854775807) : AFun Try.prog 12 [.d (.sl 1 (bs.map encB))] [] (.d (.sl 1 ((bs.take 300).map encB))) [] := by
  refine AFun.of_walk hP Try.func12 rfl rfl rfl (by simp) rfl ?_
  simp only [Try.f12, FinR, evRes, evRVs, evRV, am1, am2, am3, am4, am5, am6, am7, am8, am9, am10, am11, am12, am13, am14, am15, List.size_toArray, List.replicate_zero, List.length_map, List.length_append, List.length_nil, List.length_cons, List.getElem?_map, List.getElem?_toArray, List.getElem?_cons_zero, List.getElem?_cons_succ, List.getD_cons_zero, List.getD_cons_succ, List.map_cons, List.map_nil, List.toList_toArray, List.all_cons, List.all_nil, List.flatMap_cons, List.flatMap_nil, List.reverse_cons, List.reverse_nil, List.take_succ_cons, List.take_zero, List.drop_succ_cons, List.drop_zero, List.nil_append, List.cons_append, List.append_nil, Option.map_some, Option.map_none, Option.some_or, Option.none_or, Option.bind_some, Option.getD_some, Option.getD_none, Option.isNone_some, Option.isSome_some, Option.isSome_none, Option.isNone_none, if_true, if_false, beq_self_eq_true, List.length_set, List.isEmpty_cons, List.isEmpty_nil, List.mem_cons, List.not_mem_nil, Int.reduceNe, Int.reduceEq, ne_eq, not_false_eq_true, Int.reduceBEq, Int.reduceBNe, Int.reduceAdd, Int.reduceSub, Int.reduceMul, Int.reduceNeg, Int.reduceLE, Int.reduceLT, Nat.reduceEqDiff, Nat.reduceLT, Nat.reduceLeDiff, Nat.reduceAdd, Nat.reduceMul, Nat.reduceSub, reduceCtorEq, ↓reduceIte, Int.reduceToNat, tys1, tys2, tys3, tys4]
  have e : (if (300 : Int) < bs.length then (300 : Int) else bs.length) = ((min bs.length 300 : Nat) : Int) := by
    by_cases h : 300 < bs.length
    · rw [if_pos (by omega), Nat.min_eq_right (by omega)]; rfl
    · rw [if_neg (by omega), Nat.min_eq_left (by omega)]
  rw [e]
  refine ⟨⟨by omega, by omega⟩, _, [], [], rfl, Ent.plain rfl rfl rfl trivial rfl, ?_, rfl⟩
  have e2 : bs.take 300 = bs.take (min bs.length 300) := by rw [Nat.min_comm]; exact List.take_eq_take_min
  simp only [frz, ren, ← List.map_take, Int.toNat_natCast]
  rw [e2]
end Go.Proofs.Ytjaklhbifgbiaaa
