/- Proved here: what functions of the program compute, and plain laws. No condition. -/
import Derived.Test.YtldckdbdgbpmpaaOfLaw
import Derived.Test.YtldckdbdgbpmpaaSome
set_option linter.unusedSimpArgs false
set_option linter.unusedVariables false
namespace Go.Proofs.Ytldckdbdgbpmpaa
open Go Go.AM

theorem lastOf_one (k : Int) (x : PtT) : lastOf k [x] = if x.1 = k then some x else none := by
  unfold lastOf fk
  by_cases h : x.1 = k <;> simp [h]
theorem ins_mem {l R : List PtT} {x : PtT} (hR : R = ofP l) {res : List PtT} (hr : Rise res) (h : ∀ q, q ∈ res ↔ q = x ∨ (q ∈ R ∧ q.1 ≠ x.1)) : res = ofP (l ++ [x]) := by
  refine ofP_of hr fun q => ?_
  rw [h q, hR, ofP_mem, lastOf_append, lastOf_one]
  by_cases e : x.1 = q.1
  · rw [if_pos e, Option.some_or]
    constructor
    · rintro (rfl | ⟨_, h2⟩)
      · rfl
      · exact absurd e.symm h2
    · intro h; left; exact (Option.some.inj h).symm
  · rw [if_neg e, Option.none_or]
    constructor
    · rintro (rfl | ⟨h1, _⟩)
      · exact absurd rfl e
      · exact h1
    · intro h; exact .inr ⟨h, fun e' => e e'.symm⟩
theorem ins_lt {l R A C : List PtT} {x : PtT} (hR : R = ofP l) (hAC : R = A ++ C) (hA : ∀ a ∈ A, a.1 < x.1) (hC : ∀ c ∈ C, x.1 < c.1) : A ++ [x] ++ C = ofP (l ++ [x]) := by
  have hri : Rise R := by rw [hR]; exact ofP_rise l
  rw [hAC] at hri
  have hp := List.pairwise_append.1 hri
  refine ins_mem hR ?_ fun q => ?_
  · refine List.pairwise_append.2 ⟨List.pairwise_append.2 ⟨hp.1, List.pairwise_singleton _ _, fun a ha b hb => ?_⟩, hp.2.1, fun a ha b hb => ?_⟩
    · rw [List.mem_singleton.1 hb]; exact hA a ha
    · rcases List.mem_append.1 ha with ha | ha
      · exact hp.2.2 a ha b hb
      · rw [List.mem_singleton.1 ha]; exact hC b hb
  · rw [hAC]
    constructor
    · intro h
      rcases List.mem_append.1 h with h | h
      · rcases List.mem_append.1 h with h | h
        · exact .inr ⟨List.mem_append_left _ h, fun e => by have := hA q h; omega⟩
        · exact .inl (List.mem_singleton.1 h)
      · exact .inr ⟨List.mem_append_right _ h, fun e => by have := hC q h; omega⟩
    · rintro (rfl | ⟨h, _⟩)
      · simp
      · rcases List.mem_append.1 h with h | h <;> simp [h]
theorem ins_eq {l R A C : List PtT} {x y : PtT} (hR : R = ofP l) (hAC : R = A ++ y :: C) (hy : y.1 = x.1) : A ++ x :: C = ofP (l ++ [x]) := by
  have hri : Rise R := by rw [hR]; exact ofP_rise l
  rw [hAC] at hri
  have hp := List.pairwise_append.1 hri
  have hp2 := List.pairwise_cons.1 hp.2.1
  refine ins_mem hR ?_ fun q => ?_
  · refine List.pairwise_append.2 ⟨hp.1, List.pairwise_cons.2 ⟨fun c hc => by have := hp2.1 c hc; omega, hp2.2⟩, fun a ha b hb => ?_⟩
    rcases List.mem_cons.1 hb with rfl | hb
    · have := hp.2.2 a ha y (by simp); omega
    · exact hp.2.2 a ha b (List.mem_cons_of_mem _ hb)
  · rw [hAC]
    constructor
    · intro h
      rcases List.mem_append.1 h with h | h
      · exact .inr ⟨List.mem_append_left _ h, fun e => by have := hp.2.2 q h y (by simp); omega⟩
      · rcases List.mem_cons.1 h with h | h
        · exact .inl h
        · exact .inr ⟨List.mem_append_right _ (List.mem_cons_of_mem _ h), fun e => by have := hp2.1 q h; omega⟩
    · rintro (rfl | ⟨h, h2⟩)
      · simp
      · rcases List.mem_append.1 h with h | h
        · simp [h]
        · rcases List.mem_cons.1 h with rfl | h
          · exact absurd hy h2
          · simp [h]
theorem ofP_len1 (l : List PtT) : (ofP l).length ≤ l.length := by
  have h1 : ∀ l : List PtT, (lasts l).length ≤ l.length := fun l => by
    induction l with
    | nil => exact Nat.le_refl _
    | cons x l ih =>
      cases l with
      | nil => exact Nat.le_refl _
      | cons y l =>
        by_cases e : x.1 = y.1
        · rw [lasts_same e]; simp at ih ⊢; omega
        · rw [lasts_ne e]; simp at ih ⊢; omega
  have := h1 (sortP l)
  rw [sortP_len] at this
  exact this

set_option maxRecDepth 8000 in
theorem refOf (l : List PtT) (hl : l.length ≤ 10000000000) : AFun Try.prog 21 [.d (.sl 2 (l.map encP))] [] (.d (.sl 2 ((ofP l).map encP))) [] := by
  refine AFun.of_walk hP Try.func21 rfl rfl rfl (by simp) rfl ?_
  simp only [Try.f21, am, simprocAttr, tys]
  refine ALoopW.ghost 3 2 rfl ?_
  simp only [am, simprocAttr, tys]
  refine ALoopW.intro 75 0 (ι := { z : Nat × List PtT // z.1 ≤ l.length ∧ z.2 = ofP (l.take z.1) }) (fun z => [(0, .d (.sl 2 (l.map encP))), (3, .own 0), (4, int z.1.1)]) (fun z => [.own 2 (z.1.2.map encP)]) (fun z => l.length - z.1.1)
    ⟨(0, []), Nat.zero_le _, rfl⟩ [] [0] ?_ (fun ⟨⟨i, R⟩, hi, hR⟩ => ?_)
  · exact ⟨rfl, rfl, by simp, (fun i hi => absurd hi (Nat.not_lt_zero _)), ⟨.inr rfl, .inr rfl, .inr rfl, trivial⟩, ⟨.inr ⟨by decide, rfl⟩, trivial⟩, rfl, by decide, rfl, (by first | rfl | (simp [scRow, tkC_scs]; done) | (simp [scRow, scB]; done))⟩
  simp only at hi hR ⊢
  rcases Nat.lt_or_ge i l.length with hlt | hge
  case' inr =>
    have hI : ¬ ((i : Int) < ((l.length : Nat) : Int)) := by omega
    rw [List.take_of_length_le hge] at hR
    rw [← hR]
    simp only [int, hI, List.length_map, FinR, evRes, evRVs, evRV, am, simprocAttr, tys]
    exact ⟨_, [0], [], rfl, ⟨rfl, rfl, by simp, (fun i hi => absurd hi (Nat.not_lt_zero _)), trivial, trivial, rfl, by decide, rfl, (by first | rfl | (simp [scRow, tkC_scs]; done) | (simp [scRow, scB]; done))⟩, rfl, rfl⟩
  have hI : ((i : Int) < ((l.length : Nat) : Int)) := by omega
  have hb : l[i]? = some l[i] := List.getElem?_eq_getElem hlt
  have wi : IntKind.i64.wrap ((i : Int) + 1) = ((i + 1 : Nat) : Int) := by rw [IntWalk.i64_in _ (by omega)]; simp
  have htk : l.take (i + 1) = l.take i ++ [l[i]] := List.take_succ_eq_append_getElem hlt
  have hRl : R.length ≤ i := by rw [hR]; have := ofP_len1 (l.take i); rw [List.length_take] at this; omega
  generalize l[i] = x at *
  have hnx : ∀ r, r = ofP (l.take i ++ [x]) → r = ofP (l.take (i + 1)) := fun r h => by rw [htk]; exact h
  have hri : Rise R := by rw [hR]; exact ofP_rise _
  simp only [int, hI, List.length_map, am, simprocAttr, tys]
  refine ALoopW.intro 75 0 (ι := { k : Nat // k ≤ R.length ∧ ∀ c ∈ R.drop k, x.1 < c.1 }) (fun k => [(0, .d (.sl 2 (l.map encP))), (3, .own 0), (4, int i), (5, int k.1)]) (fun _ => [.own 2 (R.map encP)]) (fun k => k.1)
    ⟨R.length, Nat.le_refl _, fun c hc => by rw [List.drop_of_length_le (Nat.le_refl _)] at hc; cases hc⟩ [] [0] ?_ (fun ⟨k, hk, hC⟩ => ?_)
  · exact ⟨rfl, rfl, by simp, (fun i hi => absurd hi (Nat.not_lt_zero _)), ⟨.inr rfl, .inr rfl, .inr rfl, .inr rfl, trivial⟩, ⟨.inr ⟨by decide, rfl⟩, trivial⟩, rfl, by decide, rfl, (by first | rfl | (simp [scRow, tkC_scs]; done) | (simp [scRow, scB]; done))⟩
  simp only at hk hC ⊢
  -- what stands behind the place
  have hins : (∀ a ∈ R.take k, a.1 < x.1) → R.take k ++ [x] ++ R.drop k = ofP (l.take (i + 1)) := fun hA => hnx _ (ins_lt hR (List.take_append_drop k R).symm hA hC)
  have hkr : ((k : Int) ≤ ((R.length : Nat) : Int)) := by omega
  have hlr : (((R.length : Nat) : Int) ≤ ((R.length : Nat) : Int)) := Int.le_refl _
  have hk0 : ((0 : Int) ≤ (k : Int)) := by omega
  have eapp : (∀ a ∈ R.take k, a.1 < x.1) → ((R.map encP).take k ++ [[DV.lit (.int .i64 x.1), DV.lit (.int .i64 x.2.1)]]) ++ ((R.map encP).drop k).take (R.length - k) = (ofP (l.take (i + 1))).map encP := fun h => by
    have hd : ((R.map encP).drop k).take (R.length - k) = (R.map encP).drop k := List.take_of_length_le (by rw [List.length_drop, List.length_map]; exact Nat.le_refl _)
    rw [← hins h, List.map_append, List.map_append, List.map_take, List.map_drop, hd]; rfl
  have hlen1 : ((R.map encP).take k).length = k := by rw [List.length_take, List.length_map]; omega
  have hlen2 : (((R.map encP).drop k).take (R.length - k)).length = R.length - k := by rw [List.length_take, List.length_drop, List.length_map]; omega
  by_cases hkz : k = 0
  · have hz : ¬ ((0 : Int) < (k : Int)) := by omega
    have eapp := eapp (by subst hkz; simp)
    generalize hO : ofP (l.take (i + 1)) = O at *
    simp only [int, hI, hz, hb, hkr, hlr, hk0, hlen1, hlen2, encP, List.length_map, Int.natCast_nonneg, Int.toNat_natCast, Nat.sub_zero, am, simprocAttr, tys]
    refine ⟨by kernel_rfl, by kernel_rfl, ?_⟩
    simp only [wi, eapp, hlen1, hlen2, List.length_append, List.length_singleton, Nat.sub_zero, am, simprocAttr, tys]
    refine ⟨⟨by omega, by omega⟩, ⟨by omega, by omega⟩, by kernel_rfl, ⟨by omega, by omega⟩, ⟨(i + 1, O), hlt, hO.symm⟩, [], [2691], ⟨rfl, rfl, by simp, (fun i hi => absurd hi (Nat.not_lt_zero _)), ⟨.inr rfl, .inr rfl, .inr rfl, trivial⟩, ⟨.inr ⟨by decide, rfl⟩, trivial⟩, rfl, by decide, rfl, (by first | rfl | (simp [scRow, tkC_scs]; done) | (simp [scRow, scB]; done))⟩, by show l.length - (i + 1) < l.length - i; omega⟩
  · obtain ⟨m, hm⟩ : ∃ m, k = m + 1 := ⟨k - 1, by omega⟩
    have hz : ((0 : Int) < (k : Int)) := by omega
    have wm : IntKind.i64.wrap ((k : Int) - 1) = ((m : Nat) : Int) := by rw [IntWalk.i64_in _ (by omega)]; omega
    have hmr : ((m : Int) < ((R.length : Nat) : Int)) := by omega
    have hmR : m < R.length := by omega
    have hy : R[m]? = some (R[m]'hmR) := List.getElem?_eq_getElem hmR
    have hdr : R.drop m = (R[m]'hmR) :: R.drop k := by rw [hm]; exact List.drop_eq_getElem_cons hmR
    have hRm : R = R.take m ++ (R[m]'hmR) :: R.drop k := by rw [← hdr]; exact (List.take_append_drop m R).symm
    have htk2 : R.take k = R.take m ++ [R[m]'hmR] := by rw [hm]; exact List.take_succ_eq_append_getElem hmR
    generalize R[m]'hmR = y at *
    have hA : y.1 < x.1 → ∀ a ∈ R.take k, a.1 < x.1 := fun h a ha => by
      rw [htk2] at ha
      rcases List.mem_append.1 ha with ha | ha
      · have hp := hri
        rw [hRm] at hp
        have := (List.pairwise_append.1 hp).2.2 a ha y (by simp)
        omega
      · rw [List.mem_singleton.1 ha]; exact h
    by_cases hgt : x.1 < y.1
    · simp only [int, hI, hz, hb, hy, wm, hmr, hgt, encP, List.length_map, List.getElem?_map, Option.map_some, Int.natCast_nonneg, Int.toNat_natCast, am, simprocAttr, tys]
      refine ⟨by kernel_rfl, ?_⟩
      exact ⟨⟨m, by omega, fun c hc => by rw [hdr] at hc; rcases List.mem_cons.1 hc with rfl | hc; exact hgt; exact hC c hc⟩, [], [0], ⟨rfl, rfl, by simp, (fun i hi => absurd hi (Nat.not_lt_zero _)), ⟨.inr rfl, .inr rfl, .inr rfl, .inr rfl, trivial⟩, ⟨.inr ⟨by decide, rfl⟩, trivial⟩, rfl, by decide, rfl, (by first | rfl | (simp [scRow, tkC_scs]; done) | (simp [scRow, scB]; done))⟩, by show m < k; omega⟩
    · by_cases heq : y.1 = x.1
      · have he := hnx _ (ins_eq hR hRm heq)
        have hq : (y.1 == x.1) = true := beq_iff_eq.2 heq
        have eset : (R.map encP).set m [DV.lit (.int .i64 x.1), DV.lit (.int .i64 x.2.1)] = (ofP (l.take (i + 1))).map encP := by
          rw [← he]
          have h1 : (R.map encP).set m (encP x) = (R.set m x).map encP := List.map_set.symm
          have h2 : R.set m x = R.take m ++ x :: R.drop k := by rw [List.set_eq_take_append_cons_drop, if_pos (by omega), hm]
          rw [← h2, ← h1]; rfl
        generalize hO : ofP (l.take (i + 1)) = O at *
        simp only [int, hI, hz, hb, hy, wm, hmr, hgt, hq, encP, List.length_map, List.getElem?_map, Option.map_some, Int.natCast_nonneg, Int.toNat_natCast, am, simprocAttr, tys]
        refine ⟨by kernel_rfl, by kernel_rfl, ?_⟩
        simp only [wi, eset, am, simprocAttr, tys]
        exact ⟨⟨(i + 1, O), hlt, hO.symm⟩, [], [0], ⟨rfl, rfl, by simp, (fun i hi => absurd hi (Nat.not_lt_zero _)), ⟨.inr rfl, .inr rfl, .inr rfl, trivial⟩, ⟨.inr ⟨by decide, rfl⟩, trivial⟩, rfl, by decide, rfl, (by first | rfl | (simp [scRow, tkC_scs]; done) | (simp [scRow, scB]; done))⟩, by show l.length - (i + 1) < l.length - i; omega⟩
      · have hq : (y.1 == x.1) = false := beq_eq_false_iff_ne.2 heq
        have eapp := eapp (hA (by omega))
        generalize hO : ofP (l.take (i + 1)) = O at *
        simp only [int, hI, hz, hb, hy, wm, hmr, hgt, hq, hkr, hlr, hk0, hlen1, hlen2, encP, List.length_map, List.getElem?_map, Option.map_some, Int.natCast_nonneg, Int.toNat_natCast, Nat.sub_zero, am, simprocAttr, tys]
        refine ⟨by kernel_rfl, by kernel_rfl, ?_⟩
        simp only [wi, eapp, hlen1, hlen2, List.length_append, List.length_singleton, Nat.sub_zero, am, simprocAttr, tys]
        refine ⟨⟨by omega, by omega⟩, ⟨by omega, by omega⟩, by kernel_rfl, ⟨by omega, by omega⟩, ⟨(i + 1, O), hlt, hO.symm⟩, [], [2691], ⟨rfl, rfl, by simp, (fun i hi => absurd hi (Nat.not_lt_zero _)), ⟨.inr rfl, .inr rfl, .inr rfl, trivial⟩, ⟨.inr ⟨by decide, rfl⟩, trivial⟩, rfl, by decide, rfl, (by first | rfl | (simp [scRow, tkC_scs]; done) | (simp [scRow, scB]; done))⟩, by show l.length - (i + 1) < l.length - i; omega⟩
end Go.Proofs.Ytldckdbdgbpmpaa
