/- Proved here: what functions of the program compute, and plain laws. No condition. -/
import Derived.Test.YthleghjkdggdlaaRight5
set_option linter.unusedSimpArgs false
set_option linter.unusedVariables false
namespace Go.Proofs.Ythleghjkdggdlaa
open Go Go.AM

def okL (x : Lab) : Bool := decide (x.1.length ≤ 100) && decide (x.2.1.length ≤ 100)
def fewL (l : List Lab) : List Lab := (l.take 12).takeWhile okL

theorem takeWhile_stop {α : Type} (p : α → Bool) : ∀ (l : List α) (i : Nat), (∀ x ∈ l.take i, p x = true) → (∀ x, l[i]? = some x → p x = false) → l.takeWhile p = l.take i
  | [], i, _, _ => by simp
  | x :: l, 0, _, h => by simp [List.takeWhile, h x rfl]
  | x :: l, i + 1, h1, h2 => by
    rw [List.takeWhile_cons_of_pos (h1 x (by simp)), List.take_succ_cons, takeWhile_stop p l i (fun y hy => h1 y (by simp [hy])) (fun y hy => h2 y (by simpa using hy))]

theorem fewL_at (l : List Lab) (i : Nat) (hi : i ≤ 12) (h : ∀ x ∈ l.take i, okL x = true) (hs : i = 12 ∨ i = l.length ∨ ∃ x, l[i]? = some x ∧ okL x = false) : fewL l = l.take i := by
  unfold fewL
  rw [takeWhile_stop okL (l.take 12) i (fun x hx => h x (by rw [List.take_take] at hx; rw [Nat.min_eq_left hi] at hx; exact hx)) (fun x hx => ?_)]
  · rw [List.take_take, Nat.min_eq_left hi]
  · rw [List.getElem?_take] at hx
    split at hx
    · rename_i hlt
      rcases hs with rfl | rfl | ⟨y, hy, hb⟩
      · omega
      · simp at hx
      · rw [hy] at hx; cases hx; exact hb
    · cases hx

theorem few05 (l : List Lab) (hl : l.length ≤ 9223372036854775807) (hx : ∀ x ∈ l, x.1.length ≤ 9223372036854775807 ∧ x.2.1.length ≤ 9223372036854775807) :
    AFun Try.prog 10 [.d (.sl 2 (l.map encL))] [] (.d (.sl 2 ((fewL l).map encL))) [] := by
  refine AFun.of_walk hP Try.func10 rfl rfl rfl (by simp) rfl ?_
  simp only [Try.f10, am1, am2, am3, am4, am5, am6, am7, am8, am9, am10, am11, am12, am13, am14, am15, am16, List.size_toArray, List.replicate_zero, List.length_map, List.length_append, List.length_nil, List.length_cons, List.getElem?_map, List.getElem?_toArray, List.getElem?_cons_zero, List.getElem?_cons_succ, List.getD_cons_zero, List.getD_cons_succ, List.map_cons, List.map_nil, List.toList_toArray, List.all_cons, List.all_nil, List.flatMap_cons, List.flatMap_nil, List.reverse_cons, List.reverse_nil, List.take_succ_cons, List.take_zero, List.drop_succ_cons, List.drop_zero, List.nil_append, List.cons_append, List.append_nil, Option.map_some, Option.map_none, Option.some_or, Option.none_or, Option.bind_some, Option.getD_some, Option.getD_none, Option.isNone_some, Option.isSome_some, Option.isSome_none, Option.isNone_none, if_true, if_false, beq_self_eq_true, List.length_set, List.isEmpty_cons, List.isEmpty_nil, List.mem_cons, List.not_mem_nil, Int.reduceNe, Int.reduceEq, ne_eq, not_false_eq_true, Int.reduceBEq, Int.reduceBNe, Int.reduceAdd, Int.reduceSub, Int.reduceMul, Int.reduceNeg, Int.reduceLE, Int.reduceLT, Nat.reduceEqDiff, Nat.reduceLT, Nat.reduceLeDiff, Nat.reduceAdd, Nat.reduceMul, Nat.reduceSub, reduceCtorEq, ↓reduceIte, Int.reduceToNat, tys1, tys2, tys3, tys4, tys5, tys6, tys7]
  refine ALoopW.intro 31 0 (ι := { i : Nat // i ≤ l.length ∧ i ≤ 12 ∧ ∀ x ∈ l.take i, okL x = true }) (fun i => [(0, .d (.sl 2 (l.map encL))), (5, .d (.sl 2 (l.map encL))), (6, .d (.lit (.int .i64 l.length))), (7, .d (.lit (.int .i64 i.1)))]) (fun _ => []) (fun i => l.length - i.1) ⟨0, by omega, by omega, by simp⟩ [] [] ?_ (fun ⟨i, hi, h12, hall⟩ => ?_)
  · exact Ent.plain rfl rfl rfl ⟨.inr rfl, .inr rfl, .inr rfl, .inr rfl, trivial⟩ rfl
  rcases Nat.lt_or_ge i l.length with hlt | hge
  · have hb : l[i]? = some l[i] := List.getElem?_eq_getElem hlt
    have hlt2 : ((i : Int) < l.length) := by omega
    have e1 : IntKind.i64.wrap ((i : Int) + 1) = ((i + 1 : Nat) : Int) := by rw [IntWalk.i64_in _ (by omega)]; simp
    have hle : ((i : Int) ≤ l.length) := by omega
    have hend : ∀ (hs : i = 12 ∨ i = l.length ∨ ∃ x, l[i]? = some x ∧ okL x = false), List.take i (List.map encL l) = (fewL l).map encL := fun hs => by rw [fewL_at l i h12 hall hs, List.map_take]
    rcases Nat.lt_or_ge i 12 with h12' | h12'
    · have g1 : ¬ ((12 : Int) ≤ i) := by omega
      rcases Nat.lt_or_ge 100 l[i].1.length with hn | hn
      · have g2 : ((100 : Int) < l[i].1.length) := by omega
        simp only [hb, hlt2, encL, g1, g2, bl_size, Int.natCast_nonneg, hle, FinR, evRes, evRVs, evRV, am1, am2, am3, am4, am5, am6, am7, am8, am9, am10, am11, am12, am13, am14, am15, am16, List.size_toArray, List.replicate_zero, List.length_map, List.length_append, List.length_nil, List.length_cons, List.getElem?_map, List.getElem?_toArray, List.getElem?_cons_zero, List.getElem?_cons_succ, List.getD_cons_zero, List.getD_cons_succ, List.map_cons, List.map_nil, List.toList_toArray, List.all_cons, List.all_nil, List.flatMap_cons, List.flatMap_nil, List.reverse_cons, List.reverse_nil, List.take_succ_cons, List.take_zero, List.drop_succ_cons, List.drop_zero, List.nil_append, List.cons_append, List.append_nil, Option.map_some, Option.map_none, Option.some_or, Option.none_or, Option.bind_some, Option.getD_some, Option.getD_none, Option.isNone_some, Option.isSome_some, Option.isSome_none, Option.isNone_none, if_true, if_false, beq_self_eq_true, List.length_set, List.isEmpty_cons, List.isEmpty_nil, List.mem_cons, List.not_mem_nil, Int.reduceNe, Int.reduceEq, ne_eq, not_false_eq_true, Int.reduceBEq, Int.reduceBNe, Int.reduceAdd, Int.reduceSub, Int.reduceMul, Int.reduceNeg, Int.reduceLE, Int.reduceLT, Nat.reduceEqDiff, Nat.reduceLT, Nat.reduceLeDiff, Nat.reduceAdd, Nat.reduceMul, Nat.reduceSub, reduceCtorEq, ↓reduceIte, Int.reduceToNat, tys1, tys2, tys3, tys4, tys5, tys6, tys7]
        rw [hend (.inr (.inr ⟨l[i], hb, by simp [okL]; omega⟩))]
        exact ⟨_, [], [], rfl, Ent.plain rfl rfl rfl trivial rfl, rfl, rfl⟩
      · have g2 : ¬ ((100 : Int) < l[i].1.length) := by omega
        rcases Nat.lt_or_ge 100 l[i].2.1.length with hn2 | hn2
        · have g3 : ((100 : Int) < l[i].2.1.length) := by omega
          simp only [hb, hlt2, encL, g1, g2, g3, bl_size, Int.natCast_nonneg, hle, FinR, evRes, evRVs, evRV, am1, am2, am3, am4, am5, am6, am7, am8, am9, am10, am11, am12, am13, am14, am15, am16, List.size_toArray, List.replicate_zero, List.length_map, List.length_append, List.length_nil, List.length_cons, List.getElem?_map, List.getElem?_toArray, List.getElem?_cons_zero, List.getElem?_cons_succ, List.getD_cons_zero, List.getD_cons_succ, List.map_cons, List.map_nil, List.toList_toArray, List.all_cons, List.all_nil, List.flatMap_cons, List.flatMap_nil, List.reverse_cons, List.reverse_nil, List.take_succ_cons, List.take_zero, List.drop_succ_cons, List.drop_zero, List.nil_append, List.cons_append, List.append_nil, Option.map_some, Option.map_none, Option.some_or, Option.none_or, Option.bind_some, Option.getD_some, Option.getD_none, Option.isNone_some, Option.isSome_some, Option.isSome_none, Option.isNone_none, if_true, if_false, beq_self_eq_true, List.length_set, List.isEmpty_cons, List.isEmpty_nil, List.mem_cons, List.not_mem_nil, Int.reduceNe, Int.reduceEq, ne_eq, not_false_eq_true, Int.reduceBEq, Int.reduceBNe, Int.reduceAdd, Int.reduceSub, Int.reduceMul, Int.reduceNeg, Int.reduceLE, Int.reduceLT, Nat.reduceEqDiff, Nat.reduceLT, Nat.reduceLeDiff, Nat.reduceAdd, Nat.reduceMul, Nat.reduceSub, reduceCtorEq, ↓reduceIte, Int.reduceToNat, tys1, tys2, tys3, tys4, tys5, tys6, tys7]
          rw [hend (.inr (.inr ⟨l[i], hb, by simp [okL]; omega⟩))]
          exact ⟨_, [], [], rfl, Ent.plain rfl rfl rfl trivial rfl, rfl, rfl⟩
        · have g3 : ¬ ((100 : Int) < l[i].2.1.length) := by omega
          simp only [hb, hlt2, encL, g1, g2, g3, e1, bl_size, Int.natCast_nonneg, hle, am1, am2, am3, am4, am5, am6, am7, am8, am9, am10, am11, am12, am13, am14, am15, am16, List.size_toArray, List.replicate_zero, List.length_map, List.length_append, List.length_nil, List.length_cons, List.getElem?_map, List.getElem?_toArray, List.getElem?_cons_zero, List.getElem?_cons_succ, List.getD_cons_zero, List.getD_cons_succ, List.map_cons, List.map_nil, List.toList_toArray, List.all_cons, List.all_nil, List.flatMap_cons, List.flatMap_nil, List.reverse_cons, List.reverse_nil, List.take_succ_cons, List.take_zero, List.drop_succ_cons, List.drop_zero, List.nil_append, List.cons_append, List.append_nil, Option.map_some, Option.map_none, Option.some_or, Option.none_or, Option.bind_some, Option.getD_some, Option.getD_none, Option.isNone_some, Option.isSome_some, Option.isSome_none, Option.isNone_none, if_true, if_false, beq_self_eq_true, List.length_set, List.isEmpty_cons, List.isEmpty_nil, List.mem_cons, List.not_mem_nil, Int.reduceNe, Int.reduceEq, ne_eq, not_false_eq_true, Int.reduceBEq, Int.reduceBNe, Int.reduceAdd, Int.reduceSub, Int.reduceMul, Int.reduceNeg, Int.reduceLE, Int.reduceLT, Nat.reduceEqDiff, Nat.reduceLT, Nat.reduceLeDiff, Nat.reduceAdd, Nat.reduceMul, Nat.reduceSub, reduceCtorEq, ↓reduceIte, Int.reduceToNat, tys1, tys2, tys3, tys4, tys5, tys6, tys7]
          refine ⟨⟨i + 1, by omega, by omega, fun x hx' => ?_⟩, [], [], Ent.plain rfl rfl rfl ⟨.inr rfl, .inr rfl, .inr rfl, .inr rfl, trivial⟩ rfl, by show l.length - (i + 1) < l.length - i; omega⟩
          rw [List.take_succ_eq_append_getElem hlt] at hx'
          rcases List.mem_append.1 hx' with h | h
          · exact hall x h
          · simp at h; subst h; simp [okL]; omega
    · have g1 : ((12 : Int) ≤ i) := by omega
      simp only [hb, hlt2, encL, g1, bl_size, Int.natCast_nonneg, hle, FinR, evRes, evRVs, evRV, am1, am2, am3, am4, am5, am6, am7, am8, am9, am10, am11, am12, am13, am14, am15, am16, List.size_toArray, List.replicate_zero, List.length_map, List.length_append, List.length_nil, List.length_cons, List.getElem?_map, List.getElem?_toArray, List.getElem?_cons_zero, List.getElem?_cons_succ, List.getD_cons_zero, List.getD_cons_succ, List.map_cons, List.map_nil, List.toList_toArray, List.all_cons, List.all_nil, List.flatMap_cons, List.flatMap_nil, List.reverse_cons, List.reverse_nil, List.take_succ_cons, List.take_zero, List.drop_succ_cons, List.drop_zero, List.nil_append, List.cons_append, List.append_nil, Option.map_some, Option.map_none, Option.some_or, Option.none_or, Option.bind_some, Option.getD_some, Option.getD_none, Option.isNone_some, Option.isSome_some, Option.isSome_none, Option.isNone_none, if_true, if_false, beq_self_eq_true, List.length_set, List.isEmpty_cons, List.isEmpty_nil, List.mem_cons, List.not_mem_nil, Int.reduceNe, Int.reduceEq, ne_eq, not_false_eq_true, Int.reduceBEq, Int.reduceBNe, Int.reduceAdd, Int.reduceSub, Int.reduceMul, Int.reduceNeg, Int.reduceLE, Int.reduceLT, Nat.reduceEqDiff, Nat.reduceLT, Nat.reduceLeDiff, Nat.reduceAdd, Nat.reduceMul, Nat.reduceSub, reduceCtorEq, ↓reduceIte, Int.reduceToNat, tys1, tys2, tys3, tys4, tys5, tys6, tys7]
      rw [hend (.inl (by omega))]
      exact ⟨_, [], [], rfl, Ent.plain rfl rfl rfl trivial rfl, rfl, rfl⟩
  · have hlt2 : ¬ ((i : Int) < l.length) := by omega
    have hi' : i = l.length := by omega
    have e : fewL l = l := by rw [fewL_at l i h12 hall (.inr (.inl hi')), hi', List.take_length]
    simp only [hlt2, FinR, evRes, evRVs, evRV, am1, am2, am3, am4, am5, am6, am7, am8, am9, am10, am11, am12, am13, am14, am15, am16, List.size_toArray, List.replicate_zero, List.length_map, List.length_append, List.length_nil, List.length_cons, List.getElem?_map, List.getElem?_toArray, List.getElem?_cons_zero, List.getElem?_cons_succ, List.getD_cons_zero, List.getD_cons_succ, List.map_cons, List.map_nil, List.toList_toArray, List.all_cons, List.all_nil, List.flatMap_cons, List.flatMap_nil, List.reverse_cons, List.reverse_nil, List.take_succ_cons, List.take_zero, List.drop_succ_cons, List.drop_zero, List.nil_append, List.cons_append, List.append_nil, Option.map_some, Option.map_none, Option.some_or, Option.none_or, Option.bind_some, Option.getD_some, Option.getD_none, Option.isNone_some, Option.isSome_some, Option.isSome_none, Option.isNone_none, if_true, if_false, beq_self_eq_true, List.length_set, List.isEmpty_cons, List.isEmpty_nil, List.mem_cons, List.not_mem_nil, Int.reduceNe, Int.reduceEq, ne_eq, not_false_eq_true, Int.reduceBEq, Int.reduceBNe, Int.reduceAdd, Int.reduceSub, Int.reduceMul, Int.reduceNeg, Int.reduceLE, Int.reduceLT, Nat.reduceEqDiff, Nat.reduceLT, Nat.reduceLeDiff, Nat.reduceAdd, Nat.reduceMul, Nat.reduceSub, reduceCtorEq, ↓reduceIte, Int.reduceToNat, tys1, tys2, tys3, tys4, tys5, tys6, tys7]
    rw [e]
    exact ⟨_, [], [], rfl, Ent.plain rfl rfl rfl trivial rfl, rfl, rfl⟩
end Go.Proofs.Ythleghjkdggdlaa
