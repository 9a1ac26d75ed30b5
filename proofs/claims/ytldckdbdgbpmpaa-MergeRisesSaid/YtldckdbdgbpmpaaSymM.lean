/- Proved here: what functions of the program compute, and plain laws. No condition. -/
import Derived.Test.YtldckdbdgbpmpaaMergeL
set_option linter.unusedSimpArgs false
set_option linter.unusedVariables false
namespace Go.Proofs.Ytldckdbdgbpmpaa
open Go Go.AM

abbrev ofC : PV := .clo (.func 27) [] []
theorem cmpN_neg {x y : Int} (h : x < y) : cmpN x y < 0 := by unfold cmpN; rw [if_pos h]; decide
theorem cmpN_pos {x y : Int} (h : ¬ x < y) : ¬ (cmpN x y < 0) := by
  have := cmpN_lt x y
  rw [decide_eq_false h] at this
  exact of_decide_eq_false this
theorem at_B (X A B Z : List PtT) (t : Nat) (h : t < B.length) : (X ++ A ++ B ++ Z)[X.length + A.length + t]? = some B[t] := by
  rw [List.append_assoc (X ++ A), List.getElem?_append_right (by rw [List.length_append]; omega), List.getElem?_append_left (by rw [List.length_append]; omega), show X.length + A.length + t - (X ++ A).length = t from by rw [List.length_append]; omega]
  exact List.getElem?_eq_getElem h
theorem at_A (X A B Z : List PtT) (t : Nat) (h : t < A.length) : (X ++ A ++ B ++ Z)[X.length + t]? = some A[t] := by
  rw [List.append_assoc (X ++ A), List.getElem?_append_left (by rw [List.length_append]; omega), List.getElem?_append_right (by omega), show X.length + t - X.length = t from by omega]
  exact List.getElem?_eq_getElem h
theorem half_w (i j : Nat) (h : i + j ≤ 9223372036854775807) : IntKind.i64.wrap ((i : Int) + (j : Int)) = ((i + j : Nat) : Int) ∧ IntKind.u64.wrap ((i + j : Nat) : Int) = ((i + j : Nat) : Int) ∧ IntKind.i64.wrap (((i + j) / 2 : Nat) : Int) = (((i + j) / 2 : Nat) : Int) := by
  refine ⟨?_, ?_, ?_⟩
  · rw [IntWalk.i64_in _ (by omega)]; simp
  · rw [IntWalk.u64_in _ (by omega)]
  · rw [IntWalk.i64_in _ (by omega)]
abbrev SymM (n : Nat) : Prop := ∀ (X A B Z : List PtT), A.length + B.length ≤ n → 0 < A.length → 0 < B.length → Srt A → Srt B → X.length + A.length + B.length + Z.length ≤ 100000000000 → ∀ (a m b : Nat), a = X.length → m = X.length + A.length → b = X.length + A.length + B.length →
    AFun Try.prog 36 [.own 0, int a, int m, int b, ofC] [.own 2 ((X ++ A ++ B ++ Z).map encP)] (.tup []) [.own 2 ((X ++ sortP (A ++ B) ++ Z).map encP)]

set_option maxRecDepth 8000 in
set_option maxHeartbeats 4000000 in
theorem symL (X B Z : List PtT) (x : PtT) (hB0 : 0 < B.length) (hB : Srt B) (hl : X.length + 1 + B.length + Z.length ≤ 100000000000) (a m b : Nat) (ha : a = X.length) (hm : m = X.length + 1) (hb : b = X.length + 1 + B.length) :
    AFun Try.prog 36 [.own 0, int a, int m, int b, ofC] [.own 2 ((X ++ [x] ++ B ++ Z).map encP)] (.tup []) [.own 2 ((X ++ sortP ([x] ++ B) ++ Z).map encP)] := by
  refine AFun.of_walk hP Try.func36 rfl rfl rfl (by simp) rfl ?_
  have w0 : IntKind.i64.wrap ((m : Int) - (a : Int)) = ((1 : Nat) : Int) := by rw [IntWalk.i64_in _ (by omega)]; omega
  have h11 : (((1 : Nat) : Int) == 1) = true := rfl
  have hD : (X ++ [x] ++ B ++ Z).length = a + 1 + B.length + Z.length := by simp; omega
  have hgx : (X ++ [x] ++ B ++ Z)[a]? = some x := by simp [ha]
  have hgy : ∀ t, (h : t < B.length) → (X ++ [x] ++ B ++ Z)[m + t]? = some B[t] := fun t h => by have := at_B X [x] B Z t h; rw [hm]; simpa using this
  obtain ⟨D, eD⟩ : ∃ D, X ++ [x] ++ B ++ Z = D := ⟨_, rfl⟩
  obtain ⟨R, hR⟩ : ∃ R, sortP ([x] ++ B) = R := ⟨_, rfl⟩
  rw [eD] at hD hgx hgy ⊢
  rw [hR]
  simp only [Try.f36, int, ofC, w0, h11, am, simprocAttr, tys]
  refine ALoopW.intro 220 1 (ι := { z : Nat × Nat // z.1 ≤ z.2 ∧ z.2 ≤ B.length ∧ (z.1 = 0 ∨ ∃ y, B[z.1 - 1]? = some y ∧ y.1 < x.1) ∧ (z.2 = B.length ∨ ∃ y, B[z.2]? = some y ∧ x.1 ≤ y.1) })
    (fun z => [(0, .own 0), (1, int a), (4, ofC), (10, int ((m + z.1.1 : Nat) : Int)), (11, int ((m + z.1.2 : Nat) : Int))]) (fun _ => [.own 2 (D.map encP)]) (fun z => z.1.2 - z.1.1)
    ⟨(0, B.length), by omega, by simp, .inl rfl, .inl rfl⟩ [] [0] ?_ (fun ⟨⟨lo, hi⟩, h1, h2, h3, h4⟩ => ?_)
  · have e1 : ((b : Nat) : Int) = ((m + B.length : Nat) : Int) := by omega
    simp only [e1, Nat.add_zero]
    exact ⟨rfl, rfl, by simp, (fun i hi => .inr ((by decide : ∀ i, i < 1 → ([0] : List Nat).getD i 0 = i) i hi)), ⟨.inr rfl, .inr rfl, .inr rfl, .inr rfl, .inr rfl, trivial⟩, ⟨.inr ⟨by decide, rfl⟩, trivial⟩, rfl, by decide, rfl, (by first | rfl | (simp [scRow, tkC_scs]; done) | (simp [scRow, scB]; done))⟩
  simp only at h1 h2 h3 h4 ⊢
  rcases Nat.lt_or_ge lo hi with hlt | hge
  · have hltI : (((m + lo : Nat) : Int) < ((m + hi : Nat) : Int)) := by omega
    obtain ⟨w1, w2, w3⟩ := half_w (m + lo) (m + hi) (by omega)
    obtain ⟨c, hc⟩ : ∃ c, (m + lo + (m + hi)) / 2 = m + c := ⟨(m + lo + (m + hi)) / 2 - m, by omega⟩
    have hs := shr1 (m + lo + (m + hi))
    rw [hc] at w3 hs
    have hc1 : lo ≤ c ∧ c < hi := by omega
    have hcB : c < B.length := by omega
    have hy := hgy c hcB
    have i1 : ((m + c : Nat) : Int) < ((a + 1 + B.length + Z.length : Nat) : Int) := by omega
    have i2 : (a : Int) < ((a + 1 + B.length + Z.length : Nat) : Int) := by omega
    have hyB : B[c]? = some B[c] := List.getElem?_eq_getElem hcB
    generalize B[c] = y at *
    have ch := of1 y x
    simp only [encP] at ch
    have w4 : IntKind.i64.wrap (((m + c : Nat) : Int) + 1) = ((m + (c + 1) : Nat) : Int) := by rw [IntWalk.i64_in _ (by omega)]; omega
    simp only [int, ofC, hltI, w1, w2, w3, hs, hy, hgx, hD, i1, i2, encP, Int.natCast_nonneg, Int.toNat_natCast, am, simprocAttr, tys]
    refine ACallD.of (ch) (by kernel_rfl) [] [] rfl (by simp) (by simp) (by simp) (by simp) (by repeat' (first | exact trivial | exact .inl rfl | exact .inr rfl | exact .inr ⟨rfl, rfl, rfl, by simp; done⟩ | exact .inr ⟨rfl, by simp; done⟩ | exact .inr ⟨rfl, rfl, by simp; done⟩ | apply And.intro)) (by repeat' (first | exact trivial | rfl | exact (tkC_ren.1 _ _).symm | (simp; done) | apply And.intro)) (by first | exact .inl rfl | (refine .inr ⟨trivial, ?_⟩; first | (intro row h; rcases List.mem_singleton.1 h with rfl; exact nvB _) | (intro row h; cases h; done) | (simp; done)) | (refine .inr ⟨by simp [nvP, nvP.nvPs, nvD, nilS, errno], ?_⟩; first | (intro row h; rcases List.mem_singleton.1 h with rfl; exact nvB _) | (intro row h; cases h; done) | (simp [nvRow, nvD, nvP]; done))) rfl rfl rfl rfl ?_
    by_cases hlt2 : y.1 < x.1
    · have hn := cmpN_neg hlt2
      simp only [int, hn, w4, am, simprocAttr, tys]
      refine ⟨by kernel_rfl, ?_⟩
      exact ⟨⟨(c + 1, hi), by omega, h2, .inr ⟨y, by simpa using hyB, hlt2⟩, h4⟩, [], [0], ⟨rfl, rfl, by simp, (fun i hi => .inr ((by decide : ∀ i, i < 1 → ([0] : List Nat).getD i 0 = i) i hi)), ⟨.inr rfl, .inr rfl, .inr rfl, .inr rfl, .inr rfl, trivial⟩, ⟨.inr ⟨by decide, rfl⟩, trivial⟩, rfl, by decide, rfl, (by first | rfl | (simp [scRow, tkC_scs]; done) | (simp [scRow, scB]; done))⟩, by show hi - (c + 1) < hi - lo; omega⟩
    · have hn := cmpN_pos hlt2
      simp only [int, hn, am, simprocAttr, tys]
      refine ⟨by kernel_rfl, ?_⟩
      exact ⟨⟨(lo, c), by omega, by omega, h3, .inr ⟨y, hyB, by omega⟩⟩, [], [0], ⟨rfl, rfl, by simp, (fun i hi => .inr ((by decide : ∀ i, i < 1 → ([0] : List Nat).getD i 0 = i) i hi)), ⟨.inr rfl, .inr rfl, .inr rfl, .inr rfl, .inr rfl, trivial⟩, ⟨.inr ⟨by decide, rfl⟩, trivial⟩, rfl, by decide, rfl, (by first | rfl | (simp [scRow, tkC_scs]; done) | (simp [scRow, scB]; done))⟩, by show c - lo < hi - lo; omega⟩
  · have hltI : ¬ (((m + lo : Nat) : Int) < ((m + hi : Nat) : Int)) := by omega
    obtain rfl : lo = hi := by omega
    have hres : B.take lo ++ x :: B.drop lo = sortP ([x] ++ B) := by
      refine ins_left hB (fun z hz => ?_) (fun z hz => ?_)
      · rcases h3 with rfl | ⟨y, hy, hyx⟩
        · simp at hz
        · by_cases h0 : lo = 0
          · subst h0; simp at hz
          · have := take_le hB (by omega) hy z hz; omega
      · rcases h4 with rfl | ⟨y, hy, hyx⟩
        · simp at hz
        · have := drop_ge hB hy z hz; omega
    rw [hR] at hres
    rw [← hres]
    have w5 : IntKind.i64.wrap (((m + lo : Nat) : Int) - 1) = ((a + lo : Nat) : Int) := by rw [IntWalk.i64_in _ (by omega)]; omega
    simp only [int, ofC, hltI, w5, am, simprocAttr, tys]
    refine ALoopW.intro 220 1 (ι := { t : Nat // t ≤ lo }) (fun t => [(0, .own 0), (10, int ((m + lo : Nat) : Int)), (13, int ((a + t.1 : Nat) : Int))]) (fun t => [.own 2 ((X ++ B.take t.1 ++ x :: (B.drop t.1 ++ Z)).map encP)]) (fun t => lo - t.1) ⟨0, by omega⟩ [] [0] ?_ (fun ⟨t, ht⟩ => ?_)
    · rw [← eD]
      simp only [List.take_zero, List.drop_zero, List.append_nil, Nat.add_zero, List.append_assoc, List.singleton_append]
      exact ⟨rfl, rfl, by simp, (fun i hi => .inr ((by decide : ∀ i, i < 1 → ([0] : List Nat).getD i 0 = i) i hi)), ⟨.inr rfl, .inr rfl, .inr rfl, trivial⟩, ⟨.inr ⟨by decide, rfl⟩, trivial⟩, rfl, by decide, rfl, (by first | rfl | (simp [scRow, tkC_scs]; done) | (simp [scRow, scB]; done))⟩
    simp only at ht ⊢
    rcases Nat.lt_or_ge t lo with htl | hte
    · have hltI2 : (((a + t : Nat) : Int) < ((a + lo : Nat) : Int)) := by omega
      have htB : t < B.length := by omega
      have e1 : B.drop t = B[t] :: B.drop (t + 1) := List.drop_eq_getElem_cons htB
      have e2 : B.take (t + 1) = B.take t ++ [B[t]] := List.take_succ_eq_append_getElem htB
      have lX : (X ++ B.take t).length = a + t := by rw [List.length_append, List.length_take]; omega
      have lZ : (B.drop (t + 1) ++ Z).length = B.length - (t + 1) + Z.length := by rw [List.length_append, List.length_drop]
      have hnext : X ++ B.take (t + 1) ++ x :: (B.drop (t + 1) ++ Z) = (X ++ B.take t) ++ B[t] :: ([] ++ x :: (B.drop (t + 1) ++ Z)) := by rw [e2]; simp only [List.append_assoc, List.cons_append, List.nil_append]
      have hcur : X ++ B.take t ++ x :: (B.drop t ++ Z) = (X ++ B.take t) ++ x :: ([] ++ B[t] :: (B.drop (t + 1) ++ Z)) := by rw [e1]; simp only [List.append_assoc, List.cons_append, List.nil_append]
      rw [hcur]
      generalize B[t] = y at *
      generalize X ++ B.take t = X' at *
      generalize eZ : B.drop (t + 1) ++ Z = Z' at hcur hnext lZ ⊢
      have hs := swap_sets X' [] Z' x y
      have g1 := swap_get1 X' [] Z' x y
      have g2 := swap_get2 X' [] Z' x y
      rw [lX] at hs g1 g2
      simp only [List.length_nil, Nat.add_zero] at hs g2
      have hD2 : (X' ++ x :: ([] ++ y :: Z')).length = a + t + 2 + Z'.length := by
        rw [List.length_append, List.length_cons, List.length_append, List.length_cons, lX]; simp; omega
      generalize X' ++ x :: ([] ++ y :: Z') = E at *
      have w6 : IntKind.i64.wrap (((a + t : Nat) : Int) + 1) = ((a + t + 1 : Nat) : Int) := by rw [IntWalk.i64_in _ (by omega)]; simp
      have i1 : ((a + t : Nat) : Int) < ((a + t + 2 + Z'.length : Nat) : Int) := by omega
      have i2 : ((a + t + 1 : Nat) : Int) < ((a + t + 2 + Z'.length : Nat) : Int) := by omega
      have g3 : (E.set (a + t) y)[a + t + 1]? = some y := by rw [List.getElem?_set_ne (by omega)]; exact g2
      have m1 : ∀ (l : List PtT) (k : Nat) (z : PtT), (l.map encP).set k (encP z) = (l.set k z).map encP := fun l k z => mapSet2 l k z
      have hsl : (E.set (a + t) y).length = a + t + 2 + Z'.length := by rw [List.length_set, hD2]
      simp only [encP] at m1
      simp only [int, w5, hltI2, w6, hD2, i1, i2, g1, g2, g3, hsl, m1, encP, Int.natCast_nonneg, Int.toNat_natCast, am, simprocAttr, tys]
      refine ⟨by kernel_rfl, ?_⟩
      have hs' := hs.trans hnext.symm
      rw [← eZ] at hs'
      simp only [w6, hs', am, simprocAttr, tys]
      exact ⟨⟨t + 1, by omega⟩, [], [0], ⟨rfl, rfl, by simp, (fun i hi => .inr ((by decide : ∀ i, i < 1 → ([0] : List Nat).getD i 0 = i) i hi)), ⟨.inr rfl, .inr rfl, .inr rfl, trivial⟩, ⟨.inr ⟨by decide, rfl⟩, trivial⟩, rfl, by decide, rfl, (by first | rfl | (simp [scRow, tkC_scs]; done) | (simp [scRow, scB]; done))⟩, by show lo - (t + 1) < lo - t; omega⟩
    · have hltI2 : ¬ (((a + t : Nat) : Int) < ((a + lo : Nat) : Int)) := by omega
      obtain rfl : t = lo := by omega
      have ef : X ++ B.take t ++ x :: (B.drop t ++ Z) = X ++ (B.take t ++ x :: B.drop t) ++ Z := by simp only [List.append_assoc, List.cons_append]
      rw [ef]
      simp only [int, w5, hltI2, FinR, evRes, evRVs, evRV, am, simprocAttr, tys]
      exact ⟨_, [], [0], rfl, ⟨rfl, rfl, by simp, (fun i hi => .inr ((by decide : ∀ i, i < 1 → ([0] : List Nat).getD i 0 = i) i hi)), trivial, ⟨.inr ⟨by decide, rfl⟩, trivial⟩, rfl, by decide, rfl, (by first | rfl | (simp [scRow, tkC_scs]; done) | (simp [scRow, scB]; done))⟩, rfl, rfl⟩
end Go.Proofs.Ytldckdbdgbpmpaa
