/- Proved here: what functions of the program compute, and plain laws. No condition. -/
import Derived.Test.YtldckdbdgbpmpaaSymM
set_option linter.unusedSimpArgs false
set_option linter.unusedVariables false
namespace Go.Proofs.Ytldckdbdgbpmpaa
open Go Go.AM

set_option maxRecDepth 8000 in
set_option maxHeartbeats 4000000 in
theorem symR (X A Z : List PtT) (y : PtT) (hA0 : 1 < A.length) (hA : Srt A) (hl : X.length + A.length + 1 + Z.length ≤ 100000000000) (a m b : Nat) (ha : a = X.length) (hm : m = X.length + A.length) (hb : b = X.length + A.length + 1) :
    AFun Try.prog 36 [.own 0, int a, int m, int b, ofC] [.own 2 ((X ++ A ++ [y] ++ Z).map encP)] (.tup []) [.own 2 ((X ++ sortP (A ++ [y]) ++ Z).map encP)] := by
  refine AFun.of_walk hP Try.func36 rfl rfl rfl (by simp) rfl ?_
  have w0 : IntKind.i64.wrap ((m : Int) - (a : Int)) = ((A.length : Nat) : Int) := by rw [IntWalk.i64_in _ (by omega)]; omega
  have w0' : IntKind.i64.wrap ((b : Int) - (m : Int)) = ((1 : Nat) : Int) := by rw [IntWalk.i64_in _ (by omega)]; omega
  have h10 : (((A.length : Nat) : Int) == 1) = false := by rw [beq_eq_false_iff_ne]; omega
  have h11 : (((1 : Nat) : Int) == 1) = true := rfl
  have hD : (X ++ A ++ [y] ++ Z).length = a + A.length + 1 + Z.length := by simp; omega
  have hgy : (X ++ A ++ [y] ++ Z)[m]? = some y := by simp [hm]
  have hgx : ∀ t, (h : t < A.length) → (X ++ A ++ [y] ++ Z)[a + t]? = some A[t] := fun t h => by have := at_A X A [y] Z t h; rw [ha]; exact this
  obtain ⟨D, eD⟩ : ∃ D, X ++ A ++ [y] ++ Z = D := ⟨_, rfl⟩
  obtain ⟨R, hR⟩ : ∃ R, sortP (A ++ [y]) = R := ⟨_, rfl⟩
  rw [eD] at hD hgx hgy ⊢
  rw [hR]
  simp only [Try.f36, int, ofC, w0, w0', h10, h11, am, simprocAttr, tys]
  refine ALoopW.intro 220 1 (ι := { z : Nat × Nat // z.1 ≤ z.2 ∧ z.2 ≤ A.length ∧ (z.1 = 0 ∨ ∃ x, A[z.1 - 1]? = some x ∧ x.1 ≤ y.1) ∧ (z.2 = A.length ∨ ∃ x, A[z.2]? = some x ∧ y.1 < x.1) })
    (fun z => [(0, .own 0), (2, int m), (4, ofC), (14, int ((a + z.1.1 : Nat) : Int)), (15, int ((a + z.1.2 : Nat) : Int))]) (fun _ => [.own 2 (D.map encP)]) (fun z => z.1.2 - z.1.1)
    ⟨(0, A.length), by omega, by simp, .inl rfl, .inl rfl⟩ [] [0] ?_ (fun ⟨⟨lo, hi⟩, h1, h2, h3, h4⟩ => ?_)
  · have e1 : ((m : Nat) : Int) = ((a + A.length : Nat) : Int) := by omega
    simp only [e1, Nat.add_zero]
    exact ⟨rfl, rfl, by simp, (fun i hi => .inr ((by decide : ∀ i, i < 1 → ([0] : List Nat).getD i 0 = i) i hi)), ⟨.inr rfl, .inr rfl, .inr rfl, .inr rfl, .inr rfl, trivial⟩, ⟨.inr ⟨by decide, rfl⟩, trivial⟩, rfl, by decide, rfl, (by first | rfl | (simp [scRow, tkC_scs]; done) | (simp [scRow, scB]; done))⟩
  simp only at h1 h2 h3 h4 ⊢
  rcases Nat.lt_or_ge lo hi with hlt | hge
  · have hltI : (((a + lo : Nat) : Int) < ((a + hi : Nat) : Int)) := by omega
    obtain ⟨w1, w2, w3⟩ := half_w (a + lo) (a + hi) (by omega)
    obtain ⟨c, hc⟩ : ∃ c, (a + lo + (a + hi)) / 2 = a + c := ⟨(a + lo + (a + hi)) / 2 - a, by omega⟩
    have hs := shr1 (a + lo + (a + hi))
    rw [hc] at w3 hs
    have hc1 : lo ≤ c ∧ c < hi := by omega
    have hcB : c < A.length := by omega
    have hy := hgx c hcB
    have i1 : ((a + c : Nat) : Int) < ((a + A.length + 1 + Z.length : Nat) : Int) := by omega
    have i2 : (m : Int) < ((a + A.length + 1 + Z.length : Nat) : Int) := by omega
    have hyB : A[c]? = some A[c] := List.getElem?_eq_getElem hcB
    generalize A[c] = x at *
    have ch := of1 y x
    simp only [encP] at ch
    have w4 : IntKind.i64.wrap (((a + c : Nat) : Int) + 1) = ((a + (c + 1) : Nat) : Int) := by rw [IntWalk.i64_in _ (by omega)]; omega
    simp only [int, ofC, hltI, w1, w2, w3, hs, hy, hgy, hD, i1, i2, encP, Int.natCast_nonneg, Int.toNat_natCast, am, simprocAttr, tys]
    refine ACallD.of (ch) (by kernel_rfl) [] [] rfl (by simp) (by simp) (by simp) (by simp) (by repeat' (first | exact trivial | exact .inl rfl | exact .inr rfl | exact .inr ⟨rfl, rfl, rfl, by simp; done⟩ | exact .inr ⟨rfl, by simp; done⟩ | exact .inr ⟨rfl, rfl, by simp; done⟩ | apply And.intro)) (by repeat' (first | exact trivial | rfl | exact (tkC_ren.1 _ _).symm | (simp; done) | apply And.intro)) (by first | exact .inl rfl | (refine .inr ⟨trivial, ?_⟩; first | (intro row h; rcases List.mem_singleton.1 h with rfl; exact nvB _) | (intro row h; rcases List.mem_singleton.1 h with rfl; exact nvP2 _) | (intro row h; cases h; done) | (simp; done)) | (refine .inr ⟨by simp [nvP, nvP.nvPs, nvD, nilS, errno], ?_⟩; first | (intro row h; rcases List.mem_singleton.1 h with rfl; exact nvB _) | (intro row h; cases h; done) | (simp [nvRow, nvD, nvP]; done))) rfl rfl rfl rfl ?_
    by_cases hlt2 : y.1 < x.1
    · have hn := cmpN_neg hlt2
      simp only [int, hn, am, simprocAttr, tys]
      refine ⟨by kernel_rfl, ?_⟩
      exact ⟨⟨(lo, c), by omega, by omega, h3, .inr ⟨x, hyB, hlt2⟩⟩, [], [0], ⟨rfl, rfl, by simp, (fun i hi => .inr ((by decide : ∀ i, i < 1 → ([0] : List Nat).getD i 0 = i) i hi)), ⟨.inr rfl, .inr rfl, .inr rfl, .inr rfl, .inr rfl, trivial⟩, ⟨.inr ⟨by decide, rfl⟩, trivial⟩, rfl, by decide, rfl, (by first | rfl | (simp [scRow, tkC_scs]; done) | (simp [scRow, scB]; done))⟩, by show c - lo < hi - lo; omega⟩
    · have hn := cmpN_pos hlt2
      simp only [int, hn, w4, am, simprocAttr, tys]
      refine ⟨by kernel_rfl, ?_⟩
      exact ⟨⟨(c + 1, hi), by omega, h2, .inr ⟨x, by simpa using hyB, by omega⟩, h4⟩, [], [0], ⟨rfl, rfl, by simp, (fun i hi => .inr ((by decide : ∀ i, i < 1 → ([0] : List Nat).getD i 0 = i) i hi)), ⟨.inr rfl, .inr rfl, .inr rfl, .inr rfl, .inr rfl, trivial⟩, ⟨.inr ⟨by decide, rfl⟩, trivial⟩, rfl, by decide, rfl, (by first | rfl | (simp [scRow, tkC_scs]; done) | (simp [scRow, scB]; done))⟩, by show hi - (c + 1) < hi - lo; omega⟩
  · have hltI : ¬ (((a + lo : Nat) : Int) < ((a + hi : Nat) : Int)) := by omega
    obtain rfl : lo = hi := by omega
    have hres : A.take lo ++ y :: A.drop lo = sortP (A ++ [y]) := by
      refine ins_right hA (fun z hz => ?_) (fun z hz => ?_)
      · rcases h3 with rfl | ⟨x, hx, hyx⟩
        · simp at hz
        · by_cases h0 : lo = 0
          · subst h0; simp at hz
          · have := take_le hA (by omega) hx z hz; omega
      · rcases h4 with rfl | ⟨x, hx, hyx⟩
        · simp at hz
        · have := drop_ge hA hx z hz; omega
    rw [hR] at hres
    rw [← hres]
    simp only [int, ofC, hltI, am, simprocAttr, tys]
    refine ALoopW.intro 220 1 (ι := { t : Nat // lo ≤ t ∧ t ≤ A.length }) (fun t => [(0, .own 0), (14, int ((a + lo : Nat) : Int)), (17, int ((a + t.1 : Nat) : Int))]) (fun t => [.own 2 ((X ++ A.take t.1 ++ y :: (A.drop t.1 ++ Z)).map encP)]) (fun t => t.1 - lo) ⟨A.length, by omega, by omega⟩ [] [0] ?_ (fun ⟨t, ht0, ht⟩ => ?_)
    · rw [← eD]
      have e1 : ((m : Nat) : Int) = ((a + A.length : Nat) : Int) := by omega
      simp only [e1, List.take_length, List.drop_length, List.nil_append, List.append_assoc, List.singleton_append]
      exact ⟨rfl, rfl, by simp, (fun i hi => .inr ((by decide : ∀ i, i < 1 → ([0] : List Nat).getD i 0 = i) i hi)), ⟨.inr rfl, .inr rfl, .inr rfl, trivial⟩, ⟨.inr ⟨by decide, rfl⟩, trivial⟩, rfl, by decide, rfl, (by first | rfl | (simp [scRow, tkC_scs]; done) | (simp [scRow, scB]; done))⟩
    simp only at ht0 ht ⊢
    rcases Nat.lt_or_ge lo t with htl | hte
    · obtain ⟨t, rfl⟩ : ∃ s, t = s + 1 := ⟨t - 1, by omega⟩
      have hltI2 : (((a + lo : Nat) : Int) < ((a + (t + 1) : Nat) : Int)) := by omega
      have htB : t < A.length := by omega
      have e1 : A.drop t = A[t] :: A.drop (t + 1) := List.drop_eq_getElem_cons htB
      have e2 : A.take (t + 1) = A.take t ++ [A[t]] := List.take_succ_eq_append_getElem htB
      have lX : (X ++ A.take t).length = a + t := by rw [List.length_append, List.length_take]; omega
      have hcur : X ++ A.take (t + 1) ++ y :: (A.drop (t + 1) ++ Z) = (X ++ A.take t) ++ A[t] :: ([] ++ y :: (A.drop (t + 1) ++ Z)) := by rw [e2]; simp only [List.append_assoc, List.cons_append, List.nil_append]
      have hnext : X ++ A.take t ++ y :: (A.drop t ++ Z) = (X ++ A.take t) ++ y :: ([] ++ A[t] :: (A.drop (t + 1) ++ Z)) := by rw [e1]; simp only [List.append_assoc, List.cons_append, List.nil_append]
      have lZ : (A.drop (t + 1) ++ Z).length = A.length - (t + 1) + Z.length := by rw [List.length_append, List.length_drop]
      rw [hcur]
      generalize A[t] = x at *
      generalize eX : X ++ A.take t = X' at hcur hnext lX ⊢
      generalize eZ : A.drop (t + 1) ++ Z = Z' at hcur hnext lZ ⊢
      have hs := swap_sets X' [] Z' x y
      have g1 := swap_get1 X' [] Z' x y
      have g2 := swap_get2 X' [] Z' x y
      rw [lX] at hs g1 g2
      simp only [List.length_nil, Nat.add_zero] at hs g2
      have hD2 : (X' ++ x :: ([] ++ y :: Z')).length = a + t + 2 + Z'.length := by
        rw [List.length_append, List.length_cons, List.length_append, List.length_cons, lX]; simp; omega
      generalize X' ++ x :: ([] ++ y :: Z') = E at *
      rw [List.set_comm _ _ (by omega)] at hs
      have w6 : IntKind.i64.wrap (((a + (t + 1) : Nat) : Int) - 1) = ((a + t : Nat) : Int) := by rw [IntWalk.i64_in _ (by omega)]; omega
      have i1 : ((a + t : Nat) : Int) < ((a + t + 2 + Z'.length : Nat) : Int) := by omega
      have i2 : ((a + t + 1 : Nat) : Int) < ((a + t + 2 + Z'.length : Nat) : Int) := by omega
      have g3 : (E.set (a + t + 1) x)[a + t]? = some x := by rw [List.getElem?_set_ne (by omega)]; exact g1
      have m1 : ∀ (l : List PtT) (k : Nat) (z : PtT), (l.map encP).set k (encP z) = (l.set k z).map encP := fun l k z => mapSet2 l k z
      have hsl : (E.set (a + t + 1) x).length = a + t + 2 + Z'.length := by rw [List.length_set, hD2]
      have ea : a + (t + 1) = a + t + 1 := rfl
      simp only [ea] at w6 hltI2
      simp only [encP] at m1
      simp only [int, ea, hltI2, w6, hD2, i1, i2, g1, g2, g3, hsl, m1, encP, Int.natCast_nonneg, Int.toNat_natCast, am, simprocAttr, tys]
      refine ⟨by kernel_rfl, ?_⟩
      have hs' := hs.trans hnext.symm
      rw [← eX] at hs'
      simp only [w6, hs', am, simprocAttr, tys]
      exact ⟨⟨t, by omega, by omega⟩, [], [0], ⟨rfl, rfl, by simp, (fun i hi => .inr ((by decide : ∀ i, i < 1 → ([0] : List Nat).getD i 0 = i) i hi)), ⟨.inr rfl, .inr rfl, .inr rfl, trivial⟩, ⟨.inr ⟨by decide, rfl⟩, trivial⟩, rfl, by decide, rfl, (by first | rfl | (simp [scRow, tkC_scs]; done) | (simp [scRow, scB]; done))⟩, by show t - lo < t + 1 - lo; omega⟩
    · have hltI2 : ¬ (((a + lo : Nat) : Int) < ((a + t : Nat) : Int)) := by omega
      obtain rfl : lo = t := by omega
      have ef : X ++ A.take lo ++ y :: (A.drop lo ++ Z) = X ++ (A.take lo ++ y :: A.drop lo) ++ Z := by simp only [List.append_assoc, List.cons_append]
      rw [ef]
      simp only [int, hltI2, FinR, evRes, evRVs, evRV, am, simprocAttr, tys]
      exact ⟨_, [], [0], rfl, ⟨rfl, rfl, by simp, (fun i hi => .inr ((by decide : ∀ i, i < 1 → ([0] : List Nat).getD i 0 = i) i hi)), trivial, ⟨.inr ⟨by decide, rfl⟩, trivial⟩, rfl, by decide, rfl, (by first | rfl | (simp [scRow, tkC_scs]; done) | (simp [scRow, scB]; done))⟩, rfl, rfl⟩
end Go.Proofs.Ytldckdbdgbpmpaa
