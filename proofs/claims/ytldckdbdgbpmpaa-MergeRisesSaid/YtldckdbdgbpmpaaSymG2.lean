/- Proved here: what functions of the program compute, and plain laws. No condition. -/
import Derived.Test.YtldckdbdgbpmpaaSymG1
set_option linter.unusedSimpArgs false
set_option linter.unusedVariables false
namespace Go.Proofs.Ytldckdbdgbpmpaa
open Go Go.AM

set_option maxRecDepth 8000 in
set_option maxHeartbeats 8000000 in
theorem symG2 (n : Nat) (IH : SymM n) (X A B Z : List PtT) (hsz : A.length + B.length ≤ n + 1) (hA0 : 1 < A.length) (hB0 : 1 < B.length) (hA : Srt A) (hB : Srt B) (hl : X.length + A.length + B.length + Z.length ≤ 100000000000) (a m b : Nat) (hq : A.length ≤ (A.length + B.length) / 2) (ha : a = X.length) (hm : m = X.length + A.length) (hb : b = X.length + A.length + B.length) :
    AFun Try.prog 36 [.own 0, int a, int m, int b, ofC] [.own 2 ((X ++ A ++ B ++ Z).map encP)] (.tup []) [.own 2 ((X ++ sortP (A ++ B) ++ Z).map encP)] := by
  refine AFun.of_walk hP Try.func36 rfl rfl rfl (by simp) rfl ?_
  have w0 : IntKind.i64.wrap ((m : Int) - (a : Int)) = ((A.length : Nat) : Int) := by rw [IntWalk.i64_in _ (by omega)]; omega
  have w0' : IntKind.i64.wrap ((b : Int) - (m : Int)) = ((B.length : Nat) : Int) := by rw [IntWalk.i64_in _ (by omega)]; omega
  have h10 : (((A.length : Nat) : Int) == 1) = false := by rw [beq_eq_false_iff_ne]; omega
  have h11 : (((B.length : Nat) : Int) == 1) = false := by rw [beq_eq_false_iff_ne]; omega
  have hD : (X ++ A ++ B ++ Z).length = a + A.length + B.length + Z.length := by simp; omega
  have hgx : ∀ t, (h : t < A.length) → (X ++ A ++ B ++ Z)[a + t]? = some A[t] := fun t h => by rw [ha]; exact at_A X A B Z t h
  have hgy : ∀ t, (h : t < B.length) → (X ++ A ++ B ++ Z)[m + t]? = some B[t] := fun t h => by rw [hm]; exact at_B X A B Z t h
  obtain ⟨v1, v2, v3⟩ := half_w a b (by omega)
  obtain ⟨hf, ehf⟩ : ∃ hf, (A.length + B.length) / 2 = hf := ⟨_, rfl⟩
  have hv := shr1 (a + b)
  have emid : (a + b) / 2 = a + hf := by omega
  rw [emid] at v3 hv
  have v4 : IntKind.i64.wrap (((a + hf : Nat) : Int) + (m : Int)) = ((a + hf + m : Nat) : Int) := by rw [IntWalk.i64_in _ (by omega)]; simp
  obtain ⟨N1, eN1⟩ : ∃ N1, N1 + 1 = a + hf + m := ⟨a + hf + m - 1, by omega⟩
  have v5 : IntKind.i64.wrap (((a + hf + m : Nat) : Int) - 1) = ((N1 : Nat) : Int) := by rw [IntWalk.i64_in _ (by omega)]; omega
  obtain ⟨D0, eD⟩ : ∃ D, X ++ A ++ B ++ Z = D := ⟨_, rfl⟩
  obtain ⟨D3, eD3⟩ : ∃ D, X ++ sortP (A ++ B) ++ Z = D := ⟨_, rfl⟩
  rw [eD3]
  rw [eD] at hD hgx hgy ⊢
  -- where the search begins and ends
  obtain ⟨s0, r0, hs0, hr0, hsr, hcase⟩ : ∃ s0 r0, s0 ≤ r0 ∧ r0 ≤ A.length ∧ r0 ≤ hf ∧ ((¬ (A.length ≤ hf) ∧ s0 + B.length = hf ∧ r0 = hf) ∨ (A.length ≤ hf ∧ s0 = 0 ∧ r0 = A.length)) := by
    by_cases h : A.length ≤ hf
    · exact ⟨0, A.length, by omega, by omega, by omega, .inr ⟨h, rfl, rfl⟩⟩
    · exact ⟨hf - B.length, hf, by omega, by omega, by omega, .inl ⟨h, by omega, rfl⟩⟩
  have hkey : ∀ s p, s0 ≤ s → s ≤ r0 → s + p = hf → p ≤ B.length := fun s p h1 h2 h3 => by omega
  have hkey2 : ∀ t u, s0 ≤ t → t < r0 → t + 1 + u = hf → u < B.length := fun t u h1 h2 h3 => by omega
  have hcs : CS A.length B.length hf s0 r0 := hcase
  have es0 : A.length ≤ hf → s0 = 0 ∧ r0 = A.length := fun h => by omega
  have es1 : ¬ (A.length ≤ hf) → s0 + B.length = hf ∧ r0 = hf := fun h => by omega
  have v7 : ¬ (A.length ≤ hf) → IntKind.i64.wrap (((a + hf + m : Nat) : Int) - (b : Int)) = ((a + s0 : Nat) : Int) := fun h => by rw [IntWalk.i64_in _ (by omega)]; omega
  have hmm : ¬ (((a + hf : Nat) : Int) < (m : Int)) := by omega
  · obtain ⟨es2, es3⟩ := es0 (by omega)
    clear hcase es0 es1 v7
    have e20 : ((a : Nat) : Int) = ((a + s0 : Nat) : Int) := by omega
    have e21 : ((m : Nat) : Int) = ((a + r0 : Nat) : Int) := by omega
    simp only [Try.f36, int, ofC, w0, w0', h10, h11, v1, v2, v3, v4, v5, hv, hmm, am, simprocAttr, tys]
    have hf1 : 1 ≤ hf ∧ hf + 1 ≤ A.length + B.length := by omega
    clear v1 v2 v3 v4 v5 hv emid ehf w0 w0' h10 h11 hmm hq
    refine ALoopW.intro 220 1 (ι := { z : Nat × Nat // s0 ≤ z.1 ∧ z.1 ≤ z.2 ∧ z.2 ≤ r0 ∧ SG A B hf s0 z.1 ∧ RG A B hf r0 z.2 })
      (fun z => [(0, .own 0), (1, int a), (2, int m), (3, int b), (4, ofC), (18, int ((a + hf : Nat) : Int)), (19, int ((a + hf + m : Nat) : Int)), (20, int ((a + z.1.1 : Nat) : Int)), (21, int ((a + z.1.2 : Nat) : Int)), (22, int ((N1 : Nat) : Int))]) (fun _ => [.own 2 (D0.map encP)]) (fun z => z.1.2 - z.1.1)
      ⟨(s0, r0), Nat.le_refl _, hs0, Nat.le_refl _, .inl rfl, .inl rfl⟩ [] [0] ?_ (fun ⟨⟨lo, hi⟩, q0, q1, q2, q3, q4⟩ => ?_)
    · obtain rfl : s0 = 0 := by omega
      obtain rfl : r0 = A.length := by omega
      have e30 : (m : Int) = ((a + A.length : Nat) : Int) := by omega
      simp only [Nat.add_zero, ← e30]
      exact ⟨rfl, rfl, by simp, (fun i hi => .inr ((by decide : ∀ i, i < 1 → ([0] : List Nat).getD i 0 = i) i hi)), ⟨.inr rfl, .inr rfl, .inr rfl, .inr rfl, .inr rfl, .inr rfl, .inr rfl, .inr rfl, .inr rfl, .inr rfl, trivial⟩, ⟨.inr ⟨by decide, rfl⟩, trivial⟩, rfl, by decide, rfl, (by first | rfl | (simp [scRow, tkC_scs]; done) | (simp [scRow, scB]; done))⟩
    simp only at q0 q1 q2 q3 q4 ⊢
    rcases Nat.lt_or_ge lo hi with hlt | hge
    · have hltI : (((a + lo : Nat) : Int) < ((a + hi : Nat) : Int)) := by omega
      obtain ⟨w1, w2, w3⟩ := half_w (a + lo) (a + hi) (by omega)
      obtain ⟨c, hc⟩ : ∃ c, (a + lo + (a + hi)) / 2 = a + c := ⟨(a + lo + (a + hi)) / 2 - a, by omega⟩
      have hs := shr1 (a + lo + (a + hi))
      rw [hc] at w3 hs
      have hc1 : lo ≤ c ∧ c < hi := by omega
      have hcA : c < A.length := by omega
      obtain ⟨u, hu⟩ : ∃ u, c + 1 + u = hf := ⟨hf - c - 1, by omega⟩
      have hcB : u < B.length := hkey2 c u (Nat.le_trans q0 hc1.1) (Nat.lt_of_lt_of_le hc1.2 q2) hu
      have hx := hgx c hcA
      have hy := hgy u hcB
      have hxA : A[c]? = some A[c] := List.getElem?_eq_getElem hcA
      have hyB : B[u]? = some B[u] := List.getElem?_eq_getElem hcB
      generalize A[c] = x at *
      generalize B[u] = y at *
      have ch := of1 y x
      simp only [encP] at ch
      have w4 : IntKind.i64.wrap (((a + c : Nat) : Int) + 1) = ((a + (c + 1) : Nat) : Int) := by rw [IntWalk.i64_in _ (by omega)]; omega
      have w5 : IntKind.i64.wrap (((N1 : Nat) : Int) - ((a + c : Nat) : Int)) = ((m + u : Nat) : Int) := by rw [IntWalk.i64_in _ (by omega)]; omega
      have i1 : ((a + c : Nat) : Int) < ((a + A.length + B.length + Z.length : Nat) : Int) := by omega
      have i2 : ((m + u : Nat) : Int) < ((a + A.length + B.length + Z.length : Nat) : Int) := by omega
      simp only [int, ofC, hltI, w1, w2, w3, w5, hs, hx, hy, hD, i1, i2, encP, Int.natCast_nonneg, Int.toNat_natCast, am, simprocAttr, tys]
      refine ACallD.of (ch) (by kernel_rfl) [] [] rfl (by simp) (by simp) (by simp) (by simp) (by repeat' (first | exact trivial | exact .inl rfl | exact .inr rfl | exact .inr ⟨rfl, rfl, rfl, by simp; done⟩ | exact .inr ⟨rfl, by simp; done⟩ | exact .inr ⟨rfl, rfl, by simp; done⟩ | apply And.intro)) (by repeat' (first | exact trivial | rfl | exact (tkC_ren.1 _ _).symm | (simp; done) | apply And.intro)) (by first | exact .inl rfl | (refine .inr ⟨trivial, ?_⟩; first | (intro row h; rcases List.mem_singleton.1 h with rfl; exact nvB _) | (intro row h; rcases List.mem_singleton.1 h with rfl; exact nvP2 _) | (intro row h; cases h; done) | (simp; done)) | (refine .inr ⟨by simp [nvP, nvP.nvPs, nvD, nilS, errno], ?_⟩; first | (intro row h; rcases List.mem_singleton.1 h with rfl; exact nvB _) | (intro row h; cases h; done) | (simp [nvRow, nvD, nvP]; done))) rfl rfl rfl rfl ?_
      by_cases hlt2 : y.1 < x.1
      · have hn := cmpN_neg hlt2
        have hGR : GR A B hf c := ⟨x, y, u, hxA, hyB, hu, hlt2⟩
        simp only [int, hn, am, simprocAttr, tys]
        refine ⟨by kernel_rfl, ?_⟩
        exact ⟨⟨(lo, c), q0, hc1.1, Nat.le_of_lt (Nat.lt_of_lt_of_le hc1.2 q2), q3, .inr hGR⟩, [], [0], ⟨rfl, rfl, by simp, (fun i hi => .inr ((by decide : ∀ i, i < 1 → ([0] : List Nat).getD i 0 = i) i hi)), ⟨.inr rfl, .inr rfl, .inr rfl, .inr rfl, .inr rfl, .inr rfl, .inr rfl, .inr rfl, .inr rfl, .inr rfl, trivial⟩, ⟨.inr ⟨by decide, rfl⟩, trivial⟩, rfl, by decide, rfl, (by first | rfl | (simp [scRow, tkC_scs]; done) | (simp [scRow, scB]; done))⟩, by show c - lo < hi - lo; omega⟩
      · have hn := cmpN_pos hlt2
        have hGL : GL A B hf (c + 1) := ⟨x, y, u, hxA, hyB, hu, Nat.succ_pos c, Int.not_lt.1 hlt2⟩
        simp only [int, hn, w4, am, simprocAttr, tys]
        refine ⟨by kernel_rfl, ?_⟩
        exact ⟨⟨(c + 1, hi), Nat.le_succ_of_le (Nat.le_trans q0 hc1.1), hc1.2, q2, .inr hGL, q4⟩, [], [0], ⟨rfl, rfl, by simp, (fun i hi => .inr ((by decide : ∀ i, i < 1 → ([0] : List Nat).getD i 0 = i) i hi)), ⟨.inr rfl, .inr rfl, .inr rfl, .inr rfl, .inr rfl, .inr rfl, .inr rfl, .inr rfl, .inr rfl, .inr rfl, trivial⟩, ⟨.inr ⟨by decide, rfl⟩, trivial⟩, rfl, by decide, rfl, (by first | rfl | (simp [scRow, tkC_scs]; done) | (simp [scRow, scB]; done))⟩, by show hi - (c + 1) < hi - lo; omega⟩
    have hltI : ¬ (((a + lo : Nat) : Int) < ((a + hi : Nat) : Int)) := by omega
    obtain rfl : lo = hi := by omega
    obtain ⟨p, hp⟩ : ∃ p, lo + p = hf := ⟨hf - lo, by omega⟩
    have k1 : ∀ x ∈ A.drop lo, ∀ y ∈ B.take p, y.1 < x.1 := fun z hz y' hy' => by
      rcases q4 with rfl | ⟨x, y, u, hx, hy, hlh, hyx⟩
      · rcases hcs with ⟨_, _, e⟩ | ⟨_, _, e⟩
        · obtain rfl : p = 0 := by omega
          simp at hy'
        · rw [e, List.drop_length] at hz; simp at hz
      · have g1 := drop_ge hA hx z hz
        obtain rfl : p = u + 1 := by omega
        have g2 := take_le hB (lo := u + 1) (Nat.succ_pos u) hy y' hy'
        omega
    have k2 : ∀ x ∈ A.take lo, ∀ y ∈ B.drop p, x.1 ≤ y.1 := fun z hz y' hy' => by
      rcases q3 with rfl | ⟨x, y, u, hx, hy, hu, hlh, hyx⟩
      · rcases hcs with ⟨_, e, _⟩ | ⟨_, e, _⟩
        · rw [List.drop_of_length_le (by omega)] at hy'; simp at hy'
        · rw [e] at hz; simp at hz
      · have g1 := take_le hA hlh hx z hz
        obtain rfl : u = p := by omega
        have g2 := drop_ge hB hy y' hy'
        omega
    have hBl := hkey lo p q0 q2 hp
    clear q3 q4 hcs hkey hkey2 hgx hgy
    have lA1 : (A.take lo).length = lo := by rw [List.length_take]; omega
    have lA2 : lo + (A.drop lo).length = A.length := by rw [List.length_drop]; omega
    have lB1 : (B.take p).length = p := by rw [List.length_take]; omega
    have lB2 : p + (B.drop p).length = B.length := by rw [List.length_drop]; omega
    have eA : A.take lo ++ A.drop lo = A := List.take_append_drop _ _
    have eB : B.take (p) ++ B.drop (p) = B := List.take_append_drop _ _
    have sA : Srt (A.take lo ++ A.drop lo) := by rw [eA]; exact hA
    have sB : Srt (B.take (p) ++ B.drop (p)) := by rw [eB]; exact hB
    have hms := merge_split sA sB k1 k2
    obtain ⟨sA1, sA2, _⟩ := srt_app sA
    obtain ⟨sB1, sB2, _⟩ := srt_app sB
    generalize A.take lo = A1 at *
    generalize A.drop lo = A2 at *
    generalize B.take (p) = B1 at *
    generalize B.drop (p) = B2 at *
    rw [eA, eB] at hms
    obtain ⟨S1, eS1⟩ : ∃ S, sortP (A1 ++ B1) = S := ⟨_, rfl⟩
    obtain ⟨S2, eS2⟩ : ∃ S, sortP (A2 ++ B2) = S := ⟨_, rfl⟩
    have lS1 : S1.length = hf := by rw [← eS1, sortP_len, List.length_append]; omega
    rw [eS1, eS2] at hms
    have f0 : X ++ A1 ++ A2 ++ B1 ++ (B2 ++ Z) = D0 := by rw [← eD, ← eA, ← eB]; simp only [List.append_assoc]
    obtain ⟨D1, f1⟩ : ∃ D, X ++ A1 ++ B1 ++ A2 ++ (B2 ++ Z) = D := ⟨_, rfl⟩
    obtain ⟨D2, f2⟩ : ∃ D, X ++ S1 ++ (A2 ++ B2 ++ Z) = D := ⟨_, rfl⟩
    have f3 : X ++ S1 ++ S2 ++ Z = D3 := by rw [← eD3, ← hms]; simp only [List.append_assoc]
    have g0 : lo ≤ A.length := by omega
    have v6 : IntKind.i64.wrap (((a + hf + m : Nat) : Int) - ((a + lo : Nat) : Int)) = ((m + (p) : Nat) : Int) := by rw [IntWalk.i64_in _ (by omega)]; omega
    -- the three steps
    have cR : 0 < A2.length → 0 < B1.length → AFun Try.prog 37 [.own 0, int ((a + lo : Nat) : Int), int m, int ((m + (p) : Nat) : Int), ofC] [.own 2 (D0.map encP)] (.tup []) [.own 2 (D1.map encP)] := fun h1 h2 => by
      have := rotateC (X ++ A1) A2 B1 (B2 ++ Z) 27 h1 h2 (by simp; omega) (a + lo) m (m + (p)) (by simp; omega) (by simp; omega) (by simp; omega)
      rw [f0, f1] at this
      exact this
    have c1 : 0 < A1.length → 0 < B1.length → AFun Try.prog 36 [.own 0, int a, int ((a + lo : Nat) : Int), int ((a + hf : Nat) : Int), ofC] [.own 2 (D1.map encP)] (.tup []) [.own 2 (D2.map encP)] := fun h1 h2 => by
      have := IH X A1 B1 (A2 ++ (B2 ++ Z)) (by omega) h1 h2 sA1 sB1 (by simp; omega) a (a + lo) (a + hf) ha (by omega) (by omega)
      rw [eS1, ← List.append_assoc _ A2, f1, show X ++ S1 ++ (A2 ++ (B2 ++ Z)) = D2 from by rw [← f2]; simp only [List.append_assoc]] at this
      exact this
    have c2 : 0 < A2.length → 0 < B2.length → AFun Try.prog 36 [.own 0, int ((a + hf : Nat) : Int), int ((m + (p) : Nat) : Int), int b, ofC] [.own 2 (D2.map encP)] (.tup []) [.own 2 (D3.map encP)] := fun h1 h2 => by
      have := IH (X ++ S1) A2 B2 Z (by omega) h1 h2 sA2 sB2 (by simp; omega) (a + hf) (m + (p)) b (by simp; omega) (by simp; omega) (by simp; omega)
      rw [eS2, f3, show X ++ S1 ++ A2 ++ B2 ++ Z = D2 from by rw [← f2]; simp only [List.append_assoc]] at this
      exact this
    have nR : ¬ (0 < A2.length ∧ 0 < B1.length) → D0 = D1 := fun h => by
      rw [← f0, ← f1]
      by_cases h1 : 0 < A2.length
      · obtain rfl : B1 = [] := List.length_eq_zero_iff.1 (by omega)
        simp only [List.append_assoc, List.nil_append]
      · obtain rfl : A2 = [] := List.length_eq_zero_iff.1 (by omega)
        simp only [List.append_assoc, List.nil_append]
    have n1 : ¬ (0 < A1.length ∧ 0 < B1.length) → D1 = D2 := fun h => by
      have : S1 = A1 ++ B1 := by
        rw [← eS1]
        by_cases h1 : 0 < A1.length
        · obtain rfl : B1 = [] := List.length_eq_zero_iff.1 (by omega)
          rw [List.append_nil]; exact sortP_srt sA1
        · obtain rfl : A1 = [] := List.length_eq_zero_iff.1 (by omega)
          exact sortP_srt sB1
      rw [← f1, ← f2, this]; simp only [List.append_assoc]
    have n2 : ¬ (0 < A2.length ∧ 0 < B2.length) → D2 = D3 := fun h => by
      have : S2 = A2 ++ B2 := by
        rw [← eS2]
        by_cases h1 : 0 < A2.length
        · obtain rfl : B2 = [] := List.length_eq_zero_iff.1 (by omega)
          rw [List.append_nil]; exact sortP_srt sA2
        · obtain rfl : A2 = [] := List.length_eq_zero_iff.1 (by omega)
          exact sortP_srt sB2
      rw [← f2, ← f3, this]; simp only [List.append_assoc]
    clear hms k1 k2 sA sB sA1 sA2 sB1 sB2 hD eD eD3 f0 f1 f2 f3 eS1 eS2 IH hA hB eA eB
    have t1 : decide (((a + lo : Nat) : Int) < (m : Int)) = decide (0 < A2.length) := by rw [Bool.eq_iff_iff, decide_eq_true_eq, decide_eq_true_eq]; omega
    have t2 : decide ((m : Int) < ((m + (p) : Nat) : Int)) = decide (0 < B1.length) := by rw [Bool.eq_iff_iff, decide_eq_true_eq, decide_eq_true_eq]; omega
    have t3 : decide ((a : Int) < ((a + lo : Nat) : Int)) = decide (0 < A1.length) := by rw [Bool.eq_iff_iff, decide_eq_true_eq, decide_eq_true_eq]; omega
    have t4 : decide (((a + lo : Nat) : Int) < ((a + hf : Nat) : Int)) = decide (0 < B1.length) := by rw [Bool.eq_iff_iff, decide_eq_true_eq, decide_eq_true_eq]; omega
    have t5 : decide (((a + hf : Nat) : Int) < ((m + (p) : Nat) : Int)) = decide (0 < A2.length) := by rw [Bool.eq_iff_iff, decide_eq_true_eq, decide_eq_true_eq]; omega
    have t6 : decide (((m + (p) : Nat) : Int) < (b : Int)) = decide (0 < B2.length) := by rw [Bool.eq_iff_iff, decide_eq_true_eq, decide_eq_true_eq]; omega
    simp only [int, ofC, hltI, v6, t1, t2, t3, t4, t5, t6, am, simprocAttr, tys]
    rcases zA2 : decide (0 < A2.length) with _ | _ <;> rcases zB1 : decide (0 < B1.length) with _ | _ <;> rcases zA1 : decide (0 < A1.length) with _ | _ <;> rcases zB2 : decide (0 < B2.length) with _ | _
    · exfalso; have := of_decide_eq_false zA2; have := of_decide_eq_false zB2; omega
    · exfalso; have := of_decide_eq_false zA1; have := of_decide_eq_false zB1; omega
    · exfalso; have := of_decide_eq_false zA2; have := of_decide_eq_false zB2; omega
    · have hb_A2 : ¬ (0 < A2.length) := of_decide_eq_false zA2
      have hb_B1 : ¬ (0 < B1.length) := of_decide_eq_false zB1
      have hb_A1 : 0 < A1.length := of_decide_eq_true zA1
      have hb_B2 : 0 < B2.length := of_decide_eq_true zB2
      simp only [int, ofC, v6, t1, t2, t3, t4, t5, t6, zA2, zB1, zA1, zB2, am, simprocAttr, tys]
      rw [nR (fun h => hb_A2 h.1)]
      rw [n1 (fun h => hb_B1 h.2)]
      rw [n2 (fun h => hb_A2 h.1)]
      simp only [int, ofC, v6, t1, t2, t3, t4, t5, t6, zA2, zB1, zA1, zB2, FinR, evRes, evRVs, evRV, am, simprocAttr, tys]
      exact ⟨_, [], [0], rfl, ⟨rfl, rfl, by simp, (fun i hi => .inr ((by decide : ∀ i, i < 1 → ([0] : List Nat).getD i 0 = i) i hi)), trivial, ⟨.inr ⟨by decide, rfl⟩, trivial⟩, rfl, by decide, rfl, (by first | rfl | (simp [scRow, tkC_scs]; done) | (simp [scRow, scB]; done))⟩, rfl, rfl⟩
    · exfalso; have := of_decide_eq_false zA2; have := of_decide_eq_false zB2; omega
    · have hb_A2 : ¬ (0 < A2.length) := of_decide_eq_false zA2
      have hb_B1 : 0 < B1.length := of_decide_eq_true zB1
      have hb_A1 : ¬ (0 < A1.length) := of_decide_eq_false zA1
      have hb_B2 : 0 < B2.length := of_decide_eq_true zB2
      simp only [int, ofC, v6, t1, t2, t3, t4, t5, t6, zA2, zB1, zA1, zB2, am, simprocAttr, tys]
      rw [nR (fun h => hb_A2 h.1)]
      rw [n1 (fun h => hb_A1 h.1)]
      rw [n2 (fun h => hb_A2 h.1)]
      simp only [int, ofC, v6, t1, t2, t3, t4, t5, t6, zA2, zB1, zA1, zB2, FinR, evRes, evRVs, evRV, am, simprocAttr, tys]
      exact ⟨_, [], [0], rfl, ⟨rfl, rfl, by simp, (fun i hi => .inr ((by decide : ∀ i, i < 1 → ([0] : List Nat).getD i 0 = i) i hi)), trivial, ⟨.inr ⟨by decide, rfl⟩, trivial⟩, rfl, by decide, rfl, (by first | rfl | (simp [scRow, tkC_scs]; done) | (simp [scRow, scB]; done))⟩, rfl, rfl⟩
    · exfalso; have := of_decide_eq_false zA2; have := of_decide_eq_false zB2; omega
    · have hb_A2 : ¬ (0 < A2.length) := of_decide_eq_false zA2
      have hb_B1 : 0 < B1.length := of_decide_eq_true zB1
      have hb_A1 : 0 < A1.length := of_decide_eq_true zA1
      have hb_B2 : 0 < B2.length := of_decide_eq_true zB2
      simp only [int, ofC, v6, t1, t2, t3, t4, t5, t6, zA2, zB1, zA1, zB2, am, simprocAttr, tys]
      rw [nR (fun h => hb_A2 h.1)]
      refine ACall.of (c1 hb_A1 hb_B1) [0] [] rfl (by simp) (by simp) (by simp) (by repeat' (first | exact trivial | exact .inl rfl | exact .inr rfl | exact .inr ⟨rfl, rfl, rfl, by simp; done⟩ | exact .inr ⟨rfl, by simp; done⟩ | exact .inr ⟨rfl, rfl, by simp; done⟩ | apply And.intro)) (by repeat' (first | exact trivial | rfl | exact (tkC_ren.1 _ _).symm | (simp; done) | apply And.intro)) (by first | exact .inl rfl | (refine .inr ⟨trivial, ?_⟩; first | (intro row h; rcases List.mem_singleton.1 h with rfl; exact nvB _) | (intro row h; rcases List.mem_singleton.1 h with rfl; exact nvP2 _) | (intro row h; cases h; done) | (simp; done)) | (refine .inr ⟨by simp [nvP, nvP.nvPs, nvD, nilS, errno], ?_⟩; first | (intro row h; rcases List.mem_singleton.1 h with rfl; exact nvB _) | (intro row h; cases h; done) | (simp [nvRow, nvD, nvP]; done))) ?_
      simp only [int, ofC, v6, t1, t2, t3, t4, t5, t6, zA2, zB1, zA1, zB2, am, simprocAttr, tys]
      rw [n2 (fun h => hb_A2 h.1)]
      simp only [int, ofC, v6, t1, t2, t3, t4, t5, t6, zA2, zB1, zA1, zB2, FinR, evRes, evRVs, evRV, am, simprocAttr, tys]
      exact ⟨_, [], [0], rfl, ⟨rfl, rfl, by simp, (fun i hi => .inr ((by decide : ∀ i, i < 1 → ([0] : List Nat).getD i 0 = i) i hi)), trivial, ⟨.inr ⟨by decide, rfl⟩, trivial⟩, rfl, by decide, rfl, (by first | rfl | (simp [scRow, tkC_scs]; done) | (simp [scRow, scB]; done))⟩, rfl, rfl⟩
    · exfalso; have := of_decide_eq_false zA1; have := of_decide_eq_false zB1; omega
    · exfalso; have := of_decide_eq_false zA1; have := of_decide_eq_false zB1; omega
    · have hb_A2 : 0 < A2.length := of_decide_eq_true zA2
      have hb_B1 : ¬ (0 < B1.length) := of_decide_eq_false zB1
      have hb_A1 : 0 < A1.length := of_decide_eq_true zA1
      have hb_B2 : ¬ (0 < B2.length) := of_decide_eq_false zB2
      simp only [int, ofC, v6, t1, t2, t3, t4, t5, t6, zA2, zB1, zA1, zB2, am, simprocAttr, tys]
      rw [nR (fun h => hb_B1 h.2)]
      rw [n1 (fun h => hb_B1 h.2)]
      rw [n2 (fun h => hb_B2 h.2)]
      simp only [int, ofC, v6, t1, t2, t3, t4, t5, t6, zA2, zB1, zA1, zB2, FinR, evRes, evRVs, evRV, am, simprocAttr, tys]
      exact ⟨_, [], [0], rfl, ⟨rfl, rfl, by simp, (fun i hi => .inr ((by decide : ∀ i, i < 1 → ([0] : List Nat).getD i 0 = i) i hi)), trivial, ⟨.inr ⟨by decide, rfl⟩, trivial⟩, rfl, by decide, rfl, (by first | rfl | (simp [scRow, tkC_scs]; done) | (simp [scRow, scB]; done))⟩, rfl, rfl⟩
    · have hb_A2 : 0 < A2.length := of_decide_eq_true zA2
      have hb_B1 : ¬ (0 < B1.length) := of_decide_eq_false zB1
      have hb_A1 : 0 < A1.length := of_decide_eq_true zA1
      have hb_B2 : 0 < B2.length := of_decide_eq_true zB2
      simp only [int, ofC, v6, t1, t2, t3, t4, t5, t6, zA2, zB1, zA1, zB2, am, simprocAttr, tys]
      rw [nR (fun h => hb_B1 h.2)]
      rw [n1 (fun h => hb_B1 h.2)]
      refine ACall.of (c2 hb_A2 hb_B2) [0] [] rfl (by simp) (by simp) (by simp) (by repeat' (first | exact trivial | exact .inl rfl | exact .inr rfl | exact .inr ⟨rfl, rfl, rfl, by simp; done⟩ | exact .inr ⟨rfl, by simp; done⟩ | exact .inr ⟨rfl, rfl, by simp; done⟩ | apply And.intro)) (by repeat' (first | exact trivial | rfl | exact (tkC_ren.1 _ _).symm | (simp; done) | apply And.intro)) (by first | exact .inl rfl | (refine .inr ⟨trivial, ?_⟩; first | (intro row h; rcases List.mem_singleton.1 h with rfl; exact nvB _) | (intro row h; rcases List.mem_singleton.1 h with rfl; exact nvP2 _) | (intro row h; cases h; done) | (simp; done)) | (refine .inr ⟨by simp [nvP, nvP.nvPs, nvD, nilS, errno], ?_⟩; first | (intro row h; rcases List.mem_singleton.1 h with rfl; exact nvB _) | (intro row h; cases h; done) | (simp [nvRow, nvD, nvP]; done))) ?_
      simp only [int, ofC, v6, t1, t2, t3, t4, t5, t6, zA2, zB1, zA1, zB2, am, simprocAttr, tys]
      simp only [int, ofC, v6, t1, t2, t3, t4, t5, t6, zA2, zB1, zA1, zB2, FinR, evRes, evRVs, evRV, am, simprocAttr, tys]
      exact ⟨_, [], [0], rfl, ⟨rfl, rfl, by simp, (fun i hi => .inr ((by decide : ∀ i, i < 1 → ([0] : List Nat).getD i 0 = i) i hi)), trivial, ⟨.inr ⟨by decide, rfl⟩, trivial⟩, rfl, by decide, rfl, (by first | rfl | (simp [scRow, tkC_scs]; done) | (simp [scRow, scB]; done))⟩, rfl, rfl⟩
    · have hb_A2 : 0 < A2.length := of_decide_eq_true zA2
      have hb_B1 : 0 < B1.length := of_decide_eq_true zB1
      have hb_A1 : ¬ (0 < A1.length) := of_decide_eq_false zA1
      have hb_B2 : ¬ (0 < B2.length) := of_decide_eq_false zB2
      simp only [int, ofC, v6, t1, t2, t3, t4, t5, t6, zA2, zB1, zA1, zB2, am, simprocAttr, tys]
      refine ACall.of (cR hb_A2 hb_B1) [0] [] rfl (by simp) (by simp) (by simp) (by repeat' (first | exact trivial | exact .inl rfl | exact .inr rfl | exact .inr ⟨rfl, rfl, rfl, by simp; done⟩ | exact .inr ⟨rfl, by simp; done⟩ | exact .inr ⟨rfl, rfl, by simp; done⟩ | apply And.intro)) (by repeat' (first | exact trivial | rfl | exact (tkC_ren.1 _ _).symm | (simp; done) | apply And.intro)) (by first | exact .inl rfl | (refine .inr ⟨trivial, ?_⟩; first | (intro row h; rcases List.mem_singleton.1 h with rfl; exact nvB _) | (intro row h; rcases List.mem_singleton.1 h with rfl; exact nvP2 _) | (intro row h; cases h; done) | (simp; done)) | (refine .inr ⟨by simp [nvP, nvP.nvPs, nvD, nilS, errno], ?_⟩; first | (intro row h; rcases List.mem_singleton.1 h with rfl; exact nvB _) | (intro row h; cases h; done) | (simp [nvRow, nvD, nvP]; done))) ?_
      simp only [int, ofC, v6, t1, t2, t3, t4, t5, t6, zA2, zB1, zA1, zB2, am, simprocAttr, tys]
      rw [n1 (fun h => hb_A1 h.1)]
      rw [n2 (fun h => hb_B2 h.2)]
      simp only [int, ofC, v6, t1, t2, t3, t4, t5, t6, zA2, zB1, zA1, zB2, FinR, evRes, evRVs, evRV, am, simprocAttr, tys]
      exact ⟨_, [], [0], rfl, ⟨rfl, rfl, by simp, (fun i hi => .inr ((by decide : ∀ i, i < 1 → ([0] : List Nat).getD i 0 = i) i hi)), trivial, ⟨.inr ⟨by decide, rfl⟩, trivial⟩, rfl, by decide, rfl, (by first | rfl | (simp [scRow, tkC_scs]; done) | (simp [scRow, scB]; done))⟩, rfl, rfl⟩
    · have hb_A2 : 0 < A2.length := of_decide_eq_true zA2
      have hb_B1 : 0 < B1.length := of_decide_eq_true zB1
      have hb_A1 : ¬ (0 < A1.length) := of_decide_eq_false zA1
      have hb_B2 : 0 < B2.length := of_decide_eq_true zB2
      simp only [int, ofC, v6, t1, t2, t3, t4, t5, t6, zA2, zB1, zA1, zB2, am, simprocAttr, tys]
      refine ACall.of (cR hb_A2 hb_B1) [0] [] rfl (by simp) (by simp) (by simp) (by repeat' (first | exact trivial | exact .inl rfl | exact .inr rfl | exact .inr ⟨rfl, rfl, rfl, by simp; done⟩ | exact .inr ⟨rfl, by simp; done⟩ | exact .inr ⟨rfl, rfl, by simp; done⟩ | apply And.intro)) (by repeat' (first | exact trivial | rfl | exact (tkC_ren.1 _ _).symm | (simp; done) | apply And.intro)) (by first | exact .inl rfl | (refine .inr ⟨trivial, ?_⟩; first | (intro row h; rcases List.mem_singleton.1 h with rfl; exact nvB _) | (intro row h; rcases List.mem_singleton.1 h with rfl; exact nvP2 _) | (intro row h; cases h; done) | (simp; done)) | (refine .inr ⟨by simp [nvP, nvP.nvPs, nvD, nilS, errno], ?_⟩; first | (intro row h; rcases List.mem_singleton.1 h with rfl; exact nvB _) | (intro row h; cases h; done) | (simp [nvRow, nvD, nvP]; done))) ?_
      simp only [int, ofC, v6, t1, t2, t3, t4, t5, t6, zA2, zB1, zA1, zB2, am, simprocAttr, tys]
      rw [n1 (fun h => hb_A1 h.1)]
      refine ACall.of (c2 hb_A2 hb_B2) [0] [] rfl (by simp) (by simp) (by simp) (by repeat' (first | exact trivial | exact .inl rfl | exact .inr rfl | exact .inr ⟨rfl, rfl, rfl, by simp; done⟩ | exact .inr ⟨rfl, by simp; done⟩ | exact .inr ⟨rfl, rfl, by simp; done⟩ | apply And.intro)) (by repeat' (first | exact trivial | rfl | exact (tkC_ren.1 _ _).symm | (simp; done) | apply And.intro)) (by first | exact .inl rfl | (refine .inr ⟨trivial, ?_⟩; first | (intro row h; rcases List.mem_singleton.1 h with rfl; exact nvB _) | (intro row h; rcases List.mem_singleton.1 h with rfl; exact nvP2 _) | (intro row h; cases h; done) | (simp; done)) | (refine .inr ⟨by simp [nvP, nvP.nvPs, nvD, nilS, errno], ?_⟩; first | (intro row h; rcases List.mem_singleton.1 h with rfl; exact nvB _) | (intro row h; cases h; done) | (simp [nvRow, nvD, nvP]; done))) ?_
      simp only [int, ofC, v6, t1, t2, t3, t4, t5, t6, zA2, zB1, zA1, zB2, am, simprocAttr, tys]
      simp only [int, ofC, v6, t1, t2, t3, t4, t5, t6, zA2, zB1, zA1, zB2, FinR, evRes, evRVs, evRV, am, simprocAttr, tys]
      exact ⟨_, [], [0], rfl, ⟨rfl, rfl, by simp, (fun i hi => .inr ((by decide : ∀ i, i < 1 → ([0] : List Nat).getD i 0 = i) i hi)), trivial, ⟨.inr ⟨by decide, rfl⟩, trivial⟩, rfl, by decide, rfl, (by first | rfl | (simp [scRow, tkC_scs]; done) | (simp [scRow, scB]; done))⟩, rfl, rfl⟩
    · have hb_A2 : 0 < A2.length := of_decide_eq_true zA2
      have hb_B1 : 0 < B1.length := of_decide_eq_true zB1
      have hb_A1 : 0 < A1.length := of_decide_eq_true zA1
      have hb_B2 : ¬ (0 < B2.length) := of_decide_eq_false zB2
      simp only [int, ofC, v6, t1, t2, t3, t4, t5, t6, zA2, zB1, zA1, zB2, am, simprocAttr, tys]
      refine ACall.of (cR hb_A2 hb_B1) [0] [] rfl (by simp) (by simp) (by simp) (by repeat' (first | exact trivial | exact .inl rfl | exact .inr rfl | exact .inr ⟨rfl, rfl, rfl, by simp; done⟩ | exact .inr ⟨rfl, by simp; done⟩ | exact .inr ⟨rfl, rfl, by simp; done⟩ | apply And.intro)) (by repeat' (first | exact trivial | rfl | exact (tkC_ren.1 _ _).symm | (simp; done) | apply And.intro)) (by first | exact .inl rfl | (refine .inr ⟨trivial, ?_⟩; first | (intro row h; rcases List.mem_singleton.1 h with rfl; exact nvB _) | (intro row h; rcases List.mem_singleton.1 h with rfl; exact nvP2 _) | (intro row h; cases h; done) | (simp; done)) | (refine .inr ⟨by simp [nvP, nvP.nvPs, nvD, nilS, errno], ?_⟩; first | (intro row h; rcases List.mem_singleton.1 h with rfl; exact nvB _) | (intro row h; cases h; done) | (simp [nvRow, nvD, nvP]; done))) ?_
      simp only [int, ofC, v6, t1, t2, t3, t4, t5, t6, zA2, zB1, zA1, zB2, am, simprocAttr, tys]
      refine ACall.of (c1 hb_A1 hb_B1) [0] [] rfl (by simp) (by simp) (by simp) (by repeat' (first | exact trivial | exact .inl rfl | exact .inr rfl | exact .inr ⟨rfl, rfl, rfl, by simp; done⟩ | exact .inr ⟨rfl, by simp; done⟩ | exact .inr ⟨rfl, rfl, by simp; done⟩ | apply And.intro)) (by repeat' (first | exact trivial | rfl | exact (tkC_ren.1 _ _).symm | (simp; done) | apply And.intro)) (by first | exact .inl rfl | (refine .inr ⟨trivial, ?_⟩; first | (intro row h; rcases List.mem_singleton.1 h with rfl; exact nvB _) | (intro row h; rcases List.mem_singleton.1 h with rfl; exact nvP2 _) | (intro row h; cases h; done) | (simp; done)) | (refine .inr ⟨by simp [nvP, nvP.nvPs, nvD, nilS, errno], ?_⟩; first | (intro row h; rcases List.mem_singleton.1 h with rfl; exact nvB _) | (intro row h; cases h; done) | (simp [nvRow, nvD, nvP]; done))) ?_
      simp only [int, ofC, v6, t1, t2, t3, t4, t5, t6, zA2, zB1, zA1, zB2, am, simprocAttr, tys]
      rw [n2 (fun h => hb_B2 h.2)]
      simp only [int, ofC, v6, t1, t2, t3, t4, t5, t6, zA2, zB1, zA1, zB2, FinR, evRes, evRVs, evRV, am, simprocAttr, tys]
      exact ⟨_, [], [0], rfl, ⟨rfl, rfl, by simp, (fun i hi => .inr ((by decide : ∀ i, i < 1 → ([0] : List Nat).getD i 0 = i) i hi)), trivial, ⟨.inr ⟨by decide, rfl⟩, trivial⟩, rfl, by decide, rfl, (by first | rfl | (simp [scRow, tkC_scs]; done) | (simp [scRow, scB]; done))⟩, rfl, rfl⟩
    · have hb_A2 : 0 < A2.length := of_decide_eq_true zA2
      have hb_B1 : 0 < B1.length := of_decide_eq_true zB1
      have hb_A1 : 0 < A1.length := of_decide_eq_true zA1
      have hb_B2 : 0 < B2.length := of_decide_eq_true zB2
      simp only [int, ofC, v6, t1, t2, t3, t4, t5, t6, zA2, zB1, zA1, zB2, am, simprocAttr, tys]
      refine ACall.of (cR hb_A2 hb_B1) [0] [] rfl (by simp) (by simp) (by simp) (by repeat' (first | exact trivial | exact .inl rfl | exact .inr rfl | exact .inr ⟨rfl, rfl, rfl, by simp; done⟩ | exact .inr ⟨rfl, by simp; done⟩ | exact .inr ⟨rfl, rfl, by simp; done⟩ | apply And.intro)) (by repeat' (first | exact trivial | rfl | exact (tkC_ren.1 _ _).symm | (simp; done) | apply And.intro)) (by first | exact .inl rfl | (refine .inr ⟨trivial, ?_⟩; first | (intro row h; rcases List.mem_singleton.1 h with rfl; exact nvB _) | (intro row h; rcases List.mem_singleton.1 h with rfl; exact nvP2 _) | (intro row h; cases h; done) | (simp; done)) | (refine .inr ⟨by simp [nvP, nvP.nvPs, nvD, nilS, errno], ?_⟩; first | (intro row h; rcases List.mem_singleton.1 h with rfl; exact nvB _) | (intro row h; cases h; done) | (simp [nvRow, nvD, nvP]; done))) ?_
      simp only [int, ofC, v6, t1, t2, t3, t4, t5, t6, zA2, zB1, zA1, zB2, am, simprocAttr, tys]
      refine ACall.of (c1 hb_A1 hb_B1) [0] [] rfl (by simp) (by simp) (by simp) (by repeat' (first | exact trivial | exact .inl rfl | exact .inr rfl | exact .inr ⟨rfl, rfl, rfl, by simp; done⟩ | exact .inr ⟨rfl, by simp; done⟩ | exact .inr ⟨rfl, rfl, by simp; done⟩ | apply And.intro)) (by repeat' (first | exact trivial | rfl | exact (tkC_ren.1 _ _).symm | (simp; done) | apply And.intro)) (by first | exact .inl rfl | (refine .inr ⟨trivial, ?_⟩; first | (intro row h; rcases List.mem_singleton.1 h with rfl; exact nvB _) | (intro row h; rcases List.mem_singleton.1 h with rfl; exact nvP2 _) | (intro row h; cases h; done) | (simp; done)) | (refine .inr ⟨by simp [nvP, nvP.nvPs, nvD, nilS, errno], ?_⟩; first | (intro row h; rcases List.mem_singleton.1 h with rfl; exact nvB _) | (intro row h; cases h; done) | (simp [nvRow, nvD, nvP]; done))) ?_
      simp only [int, ofC, v6, t1, t2, t3, t4, t5, t6, zA2, zB1, zA1, zB2, am, simprocAttr, tys]
      refine ACall.of (c2 hb_A2 hb_B2) [0] [] rfl (by simp) (by simp) (by simp) (by repeat' (first | exact trivial | exact .inl rfl | exact .inr rfl | exact .inr ⟨rfl, rfl, rfl, by simp; done⟩ | exact .inr ⟨rfl, by simp; done⟩ | exact .inr ⟨rfl, rfl, by simp; done⟩ | apply And.intro)) (by repeat' (first | exact trivial | rfl | exact (tkC_ren.1 _ _).symm | (simp; done) | apply And.intro)) (by first | exact .inl rfl | (refine .inr ⟨trivial, ?_⟩; first | (intro row h; rcases List.mem_singleton.1 h with rfl; exact nvB _) | (intro row h; rcases List.mem_singleton.1 h with rfl; exact nvP2 _) | (intro row h; cases h; done) | (simp; done)) | (refine .inr ⟨by simp [nvP, nvP.nvPs, nvD, nilS, errno], ?_⟩; first | (intro row h; rcases List.mem_singleton.1 h with rfl; exact nvB _) | (intro row h; cases h; done) | (simp [nvRow, nvD, nvP]; done))) ?_
      simp only [int, ofC, v6, t1, t2, t3, t4, t5, t6, zA2, zB1, zA1, zB2, am, simprocAttr, tys]
      simp only [int, ofC, v6, t1, t2, t3, t4, t5, t6, zA2, zB1, zA1, zB2, FinR, evRes, evRVs, evRV, am, simprocAttr, tys]
      exact ⟨_, [], [0], rfl, ⟨rfl, rfl, by simp, (fun i hi => .inr ((by decide : ∀ i, i < 1 → ([0] : List Nat).getD i 0 = i) i hi)), trivial, ⟨.inr ⟨by decide, rfl⟩, trivial⟩, rfl, by decide, rfl, (by first | rfl | (simp [scRow, tkC_scs]; done) | (simp [scRow, scB]; done))⟩, rfl, rfl⟩
end Go.Proofs.Ytldckdbdgbpmpaa
