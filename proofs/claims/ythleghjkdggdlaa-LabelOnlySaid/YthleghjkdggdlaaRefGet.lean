/- Proved here: what functions of the program compute, and plain laws. No condition. -/
import Derived.Test.YthleghjkdggdlaaGet
set_option linter.unusedSimpArgs false
set_option linter.unusedVariables false
namespace Go.Proofs.Ythleghjkdggdlaa
open Go Go.AM

theorem refGet (l : List Lab) (n : List UInt8) (hl : l.length ≤ 9223372036854775807) :
    AFun Try.prog 14 [.d (.sl 2 (l.map encL)), str n] [] (.tup [str (getOf l n).1, bool (getOf l n).2]) [] := by
  refine AFun.of_walk hP Try.func14 rfl rfl rfl (by simp) rfl ?_
  simp only [Try.f14, str, am1, am2, am3, am4, am5, am6, am7, am8, am9, am10, am11, am12, am13, am14, am15, am16, List.size_toArray, List.replicate_zero, List.length_map, List.length_append, List.length_nil, List.length_cons, List.getElem?_map, List.getElem?_toArray, List.getElem?_cons_zero, List.getElem?_cons_succ, List.getD_cons_zero, List.getD_cons_succ, List.map_cons, List.map_nil, List.toList_toArray, List.all_cons, List.all_nil, List.flatMap_cons, List.flatMap_nil, List.reverse_cons, List.reverse_nil, List.take_succ_cons, List.take_zero, List.drop_succ_cons, List.drop_zero, List.nil_append, List.cons_append, List.append_nil, Option.map_some, Option.map_none, Option.some_or, Option.none_or, Option.bind_some, Option.getD_some, Option.getD_none, Option.isNone_some, Option.isSome_some, Option.isSome_none, Option.isNone_none, if_true, if_false, beq_self_eq_true, List.length_set, List.isEmpty_cons, List.isEmpty_nil, List.mem_cons, List.not_mem_nil, Int.reduceNe, Int.reduceEq, ne_eq, not_false_eq_true, Int.reduceBEq, Int.reduceBNe, Int.reduceAdd, Int.reduceSub, Int.reduceMul, Int.reduceNeg, Int.reduceLE, Int.reduceLT, Nat.reduceEqDiff, Nat.reduceLT, Nat.reduceLeDiff, Nat.reduceAdd, Nat.reduceMul, Nat.reduceSub, reduceCtorEq, ↓reduceIte, Int.reduceToNat, tys1, tys2, tys3, tys4, tys5, tys6, tys7]
  refine ALoopW.intro 25 0 (ι := { i : Nat // i ≤ l.length ∧ ∀ x ∈ l.take i, (x.1 == n) = false }) (fun i => [(0, .d (.sl 2 (l.map encL))), (1, str n), (6, int i.1)]) (fun _ => []) (fun i => l.length - i.1) ⟨0, by omega, by simp⟩ [] [] ?_ (fun ⟨i, hi, hall⟩ => ?_)
  · exact Ent.plain rfl rfl rfl (⟨.inr rfl, .inr rfl, .inr rfl, trivial⟩) rfl
  rcases Nat.lt_or_ge i l.length with hlt | hge
  · have hb : l[i]? = some l[i] := List.getElem?_eq_getElem hlt
    have hlt2 : ((i : Int) < l.length) := by omega
    have e1 : IntKind.i64.wrap ((i : Int) + 1) = ((i + 1 : Nat) : Int) := by rw [IntWalk.i64_in _ (by omega)]; simp
    rcases hx : (l[i].1 == n) with _ | _
    · simp only [str, int, hb, hlt2, encL, bl_toList, hx, e1, Int.natCast_nonneg, am1, am2, am3, am4, am5, am6, am7, am8, am9, am10, am11, am12, am13, am14, am15, am16, List.size_toArray, List.replicate_zero, List.length_map, List.length_append, List.length_nil, List.length_cons, List.getElem?_map, List.getElem?_toArray, List.getElem?_cons_zero, List.getElem?_cons_succ, List.getD_cons_zero, List.getD_cons_succ, List.map_cons, List.map_nil, List.toList_toArray, List.all_cons, List.all_nil, List.flatMap_cons, List.flatMap_nil, List.reverse_cons, List.reverse_nil, List.take_succ_cons, List.take_zero, List.drop_succ_cons, List.drop_zero, List.nil_append, List.cons_append, List.append_nil, Option.map_some, Option.map_none, Option.some_or, Option.none_or, Option.bind_some, Option.getD_some, Option.getD_none, Option.isNone_some, Option.isSome_some, Option.isSome_none, Option.isNone_none, if_true, if_false, beq_self_eq_true, List.length_set, List.isEmpty_cons, List.isEmpty_nil, List.mem_cons, List.not_mem_nil, Int.reduceNe, Int.reduceEq, ne_eq, not_false_eq_true, Int.reduceBEq, Int.reduceBNe, Int.reduceAdd, Int.reduceSub, Int.reduceMul, Int.reduceNeg, Int.reduceLE, Int.reduceLT, Nat.reduceEqDiff, Nat.reduceLT, Nat.reduceLeDiff, Nat.reduceAdd, Nat.reduceMul, Nat.reduceSub, reduceCtorEq, ↓reduceIte, Int.reduceToNat, tys1, tys2, tys3, tys4, tys5, tys6, tys7]
      refine ⟨⟨i + 1, by omega, ?_⟩, [], [], Ent.plain rfl rfl rfl (⟨.inr rfl, .inr rfl, .inr rfl, trivial⟩) rfl, by show l.length - (i + 1) < l.length - i; omega⟩
      intro x hx'
      rw [List.take_succ_eq_append_getElem hlt] at hx'
      rcases List.mem_append.1 hx' with h | h
      · exact hall x h
      · simp at h; subst h; exact hx
    · have hf : l.find? (fun x => x.1 == n) = some l[i] := by
        rw [List.find?_eq_some_iff_getElem]
        refine ⟨hx, i, hlt, rfl, fun j hj => ?_⟩
        have := hall l[j] (List.mem_take_iff_getElem.2 ⟨j, by omega, rfl⟩)
        simp [this]
      have e : getOf l n = (l[i].2.1, true) := by unfold getOf; rw [hf]
      simp only [str, int, hb, hlt2, encL, bl_toList, hx, e, Int.natCast_nonneg, FinR, evRes, evRVs, evRV, am1, am2, am3, am4, am5, am6, am7, am8, am9, am10, am11, am12, am13, am14, am15, am16, List.size_toArray, List.replicate_zero, List.length_map, List.length_append, List.length_nil, List.length_cons, List.getElem?_map, List.getElem?_toArray, List.getElem?_cons_zero, List.getElem?_cons_succ, List.getD_cons_zero, List.getD_cons_succ, List.map_cons, List.map_nil, List.toList_toArray, List.all_cons, List.all_nil, List.flatMap_cons, List.flatMap_nil, List.reverse_cons, List.reverse_nil, List.take_succ_cons, List.take_zero, List.drop_succ_cons, List.drop_zero, List.nil_append, List.cons_append, List.append_nil, Option.map_some, Option.map_none, Option.some_or, Option.none_or, Option.bind_some, Option.getD_some, Option.getD_none, Option.isNone_some, Option.isSome_some, Option.isSome_none, Option.isNone_none, if_true, if_false, beq_self_eq_true, List.length_set, List.isEmpty_cons, List.isEmpty_nil, List.mem_cons, List.not_mem_nil, Int.reduceNe, Int.reduceEq, ne_eq, not_false_eq_true, Int.reduceBEq, Int.reduceBNe, Int.reduceAdd, Int.reduceSub, Int.reduceMul, Int.reduceNeg, Int.reduceLE, Int.reduceLT, Nat.reduceEqDiff, Nat.reduceLT, Nat.reduceLeDiff, Nat.reduceAdd, Nat.reduceMul, Nat.reduceSub, reduceCtorEq, ↓reduceIte, Int.reduceToNat, tys1, tys2, tys3, tys4, tys5, tys6, tys7]
      exact ⟨_, [], [], rfl, Ent.plain rfl rfl rfl trivial rfl, rfl, rfl⟩
  · have hlt2 : ¬ ((i : Int) < l.length) := by omega
    have hi' : i = l.length := by omega
    have hf : l.find? (fun x => x.1 == n) = none := by
      rw [List.find?_eq_none]
      intro x hx
      have := hall x (by rw [hi', List.take_length]; exact hx)
      simp [this]
    have e : getOf l n = ([], false) := by unfold getOf; rw [hf]
    simp only [str, int, bool, hlt2, e, FinR, evRes, evRVs, evRV, am1, am2, am3, am4, am5, am6, am7, am8, am9, am10, am11, am12, am13, am14, am15, am16, List.size_toArray, List.replicate_zero, List.length_map, List.length_append, List.length_nil, List.length_cons, List.getElem?_map, List.getElem?_toArray, List.getElem?_cons_zero, List.getElem?_cons_succ, List.getD_cons_zero, List.getD_cons_succ, List.map_cons, List.map_nil, List.toList_toArray, List.all_cons, List.all_nil, List.flatMap_cons, List.flatMap_nil, List.reverse_cons, List.reverse_nil, List.take_succ_cons, List.take_zero, List.drop_succ_cons, List.drop_zero, List.nil_append, List.cons_append, List.append_nil, Option.map_some, Option.map_none, Option.some_or, Option.none_or, Option.bind_some, Option.getD_some, Option.getD_none, Option.isNone_some, Option.isSome_some, Option.isSome_none, Option.isNone_none, if_true, if_false, beq_self_eq_true, List.length_set, List.isEmpty_cons, List.isEmpty_nil, List.mem_cons, List.not_mem_nil, Int.reduceNe, Int.reduceEq, ne_eq, not_false_eq_true, Int.reduceBEq, Int.reduceBNe, Int.reduceAdd, Int.reduceSub, Int.reduceMul, Int.reduceNeg, Int.reduceLE, Int.reduceLT, Nat.reduceEqDiff, Nat.reduceLT, Nat.reduceLeDiff, Nat.reduceAdd, Nat.reduceMul, Nat.reduceSub, reduceCtorEq, ↓reduceIte, Int.reduceToNat, tys1, tys2, tys3, tys4, tys5, tys6, tys7]
    exact ⟨_, [], [], rfl, Ent.plain rfl rfl rfl trivial rfl, rfl, rfl⟩
end Go.Proofs.Ythleghjkdggdlaa
