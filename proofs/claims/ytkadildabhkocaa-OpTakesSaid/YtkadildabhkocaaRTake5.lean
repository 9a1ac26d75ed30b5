/- Proved here: what functions of the program compute, and plain laws. No condition. -/
import Derived.Test.YtkadildabhkocaaTake5
import Derived.Test.YtkadildabhkocaaRNum
set_option linter.unusedSimpArgs false
set_option linter.unusedVariables false
namespace Go.Proofs.Ytkadildabhkocaa
open Go Go.AM

set_option maxRecDepth 8000 in
theorem refLTake (b : List UInt8) (hl : b.length ≤ 100000000) : AFun Try.prog 37 [byts b] [] (takeLR (takeLb b)) [] := by
  refine AFun.of_walk hP Try.func37 rfl rfl rfl (by simp) rfl ?_
  simp only [Try.f37, byts, am, simprocAttr, tys]
  refine ⟨by omega, ?_⟩
  refine ACall.frz [1] ?_
  simp only [am, simprocAttr, tys]
  refine ACall.of (refNum (some b) (by intro bs h; cases h; omega)) [2] [] rfl (by simp) (by simp) (by simp) (by repeat' (first | exact trivial | exact .inl rfl | exact .inr rfl | exact .inr ⟨rfl, by simp⟩ | exact .inr ⟨rfl, rfl, by simp⟩ | apply And.intro)) (by repeat' (first | exact trivial | rfl | exact (tkC_ren.1 _ _).symm | (simp; done) | apply And.intro)) (by first | exact .inl rfl | (refine .inr ⟨trivial, ?_⟩; first | (intro row h; rcases List.mem_singleton.1 h with rfl; exact nvB _) | (intro row h; cases h; done) | (simp; done)) | (refine .inr ⟨by simp [nvP, nvP.nvPs, nvD, nilS, errno], ?_⟩; first | (intro row h; rcases List.mem_singleton.1 h with rfl; exact nvB _) | (intro row h; cases h; done) | (simp [nvRow, nvD, nvP]; done))) ?_
  have hB0 : TkB b.length (some b) := fun bs h => by cases h; exact Nat.le_refl _
  have hB1 := numT_B (some b) hB0
  have hn64 : (numT (some b)).1 < 18446744073709551616 := (numT_lt (some b) (by intro bs h; cases h; omega)).1
  have hbw0 : ∀ l r', rightL l = true → b = putLb l ++ r' → (numT (some b)).1 = l.length ∧ (numT (some b)).2 = some (fl encLab l ++ r') := fun l r' hok h => by
    obtain ⟨h8, _⟩ := rightL_len hok
    rw [h]
    unfold putLb putL
    rw [List.append_assoc, numT_leb _ _ (by omega)]
    exact ⟨rfl, rfl⟩
  generalize (numT (some b)).1 = n at *
  generalize (numT (some b)).2 = t0 at *
  have hmin : (if (7 : Int) < (n : Int) then (7 : Int) else (n : Int)) = ((min n 7 : Nat) : Int) := by
    by_cases h : 7 < n
    · rw [if_pos (by omega), Nat.min_eq_right (by omega)]; rfl
    · rw [if_neg (by omega), Nat.min_eq_left (by omega)]
  have w0 : IntKind.i64.wrap ((min n 7 : Nat) : Int) = ((min n 7 : Nat) : Int) := IntWalk.i64_in _ (by omega)
  simp only [tkC_ren, u64, am, simprocAttr, tys]
  refine ALoopW.ghost 7 2 rfl ?_
  simp only [am, simprocAttr, tys]
  refine ALoopW.intro 73 0 (ι := { z : Nat × List Lab × Tk // z.1 ≤ min n 7 ∧ z.2.1.length = z.1 ∧ TkB b.length z.2.2 ∧ (∀ x ∈ z.2.1, x.1.length ≤ b.length ∧ x.2.1.length ≤ b.length) ∧
      (∀ l r', rightL l = true → b = putLb l ++ r' → n = l.length ∧ z.2.1 = l.take z.1 ∧ z.2.2 = some (fl encLab (l.drop z.1) ++ r')) })
    (fun z => [(0, .d (.sl 1 (b.map encB))), (5, .ptr 0 0), (6, .d (.lit (.int .u64 n))), (7, .own 1), (8, .d (.lit (.int .i64 z.1.1)))]) (fun z => [.box (tkC z.1.2.2), .own 2 (z.1.2.1.map encL)]) (fun z => min n 7 - z.1.1)
    ⟨(0, [], t0), by omega, rfl, hB1, by simp, by
      intro l r' hok h
      obtain ⟨g1, g2⟩ := hbw0 l r' hok h
      exact ⟨g1, rfl, g2⟩⟩ [] [2, 3] ?_ (fun ⟨⟨k, o, t⟩, hk1, hok, htB, hoB, hbw⟩ => ?_)
  · refine ⟨rfl, rfl, by simp, (fun i hi => absurd hi (Nat.not_lt_zero _)), ⟨.inr rfl, .inr rfl, .inr rfl, .inr rfl, .inr rfl, trivial⟩, ⟨.inr ⟨by decide, ?_⟩, .inr ⟨by decide, ?_⟩, trivial⟩, rfl, by decide, rfl, (by first | rfl | simp [scRow, tkC_scs])⟩
    · exact tkC_row _ _ _ _
    · rfl
  simp only at hk1 hok htB hoB hbw
  rcases Nat.lt_or_ge k (min n 7) with hlt | hge
  · have hltI : ((k : Int) < ((min n 7 : Nat) : Int)) := by omega
    have w1 : IntKind.i64.wrap ((k : Int) + 1) = ((k + 1 : Nat) : Int) := by rw [IntWalk.i64_in _ (by omega)]; simp
    obtain ⟨hB2, hs2⟩ := textT_B t htB
    obtain ⟨hB3, hs3⟩ := textT_B (textT t).2 hB2
    have hbw1 : ∀ l r', rightL l = true → b = putLb l ++ r' → n = l.length ∧ o ++ [((textT t).1, (textT (textT t).2).1, ())] = l.take (k + 1) ∧ (textT (textT t).2).2 = some (fl encLab (l.drop (k + 1)) ++ r') := fun l r' hrl hb => by
      obtain ⟨g0, g1, g2⟩ := hbw l r' hrl hb
      obtain ⟨h8', _, hall⟩ := rightL_len hrl
      have hkl : k < l.length := by omega
      rw [List.drop_eq_getElem_cons hkl, fl_cons, List.append_assoc] at g2
      obtain ⟨q3, q4⟩ := lab_bwd l[k] (fl encLab (l.drop (k + 1)) ++ r') (hall _ (List.getElem_mem hkl))
      rw [g2]
      simp only [q3, q4]
      refine ⟨g0, ?_, trivial⟩
      rw [List.take_succ_eq_append_getElem hkl, ← g1]
    have eapp : o.map encL ++ [[DV.lit (.string ⟨⟨(textT t).1⟩⟩), DV.lit (.string ⟨⟨(textT (textT t).2).1⟩⟩)]] = (o ++ [((textT t).1, (textT (textT t).2).1, ())]).map encL := by rw [List.map_append]; rfl
    simp only [hmin, w0, hltI, am, simprocAttr, tys]
    refine ACall.of (refText t (htB.le (by omega))) [0] [] rfl (by simp) (by simp) (by simp) (by repeat' (first | exact trivial | exact .inl rfl | exact .inr rfl | exact .inr ⟨rfl, by simp⟩ | exact .inr ⟨rfl, rfl, by simp⟩ | apply And.intro)) (by repeat' (first | exact trivial | rfl | exact (tkC_ren.1 _ _).symm | (simp; done) | apply And.intro)) (by first | exact .inl rfl | (refine .inr ⟨trivial, ?_⟩; first | (intro row h; rcases List.mem_singleton.1 h with rfl; exact nvB _) | (intro row h; cases h; done) | (simp; done)) | (refine .inr ⟨by simp [nvP, nvP.nvPs, nvD, nilS, errno], ?_⟩; first | (intro row h; rcases List.mem_singleton.1 h with rfl; exact nvB _) | (intro row h; cases h; done) | (simp [nvRow, nvD, nvP]; done))) ?_
    simp only [tkC_ren, str, am, simprocAttr, tys]
    refine ACall.of (refText (textT t).2 (hB2.le (by omega))) [0] [] rfl (by simp) (by simp) (by simp) (by repeat' (first | exact trivial | exact .inl rfl | exact .inr rfl | exact .inr ⟨rfl, by simp⟩ | exact .inr ⟨rfl, rfl, by simp⟩ | apply And.intro)) (by repeat' (first | exact trivial | rfl | exact (tkC_ren.1 _ _).symm | (simp; done) | apply And.intro)) (by first | exact .inl rfl | (refine .inr ⟨trivial, ?_⟩; first | (intro row h; rcases List.mem_singleton.1 h with rfl; exact nvB _) | (intro row h; cases h; done) | (simp; done)) | (refine .inr ⟨by simp [nvP, nvP.nvPs, nvD, nilS, errno], ?_⟩; first | (intro row h; rcases List.mem_singleton.1 h with rfl; exact nvB _) | (intro row h; cases h; done) | (simp [nvRow, nvD, nvP]; done))) ?_
    simp only [tkC_ren, str, w1, eapp, am, simprocAttr, tys]
    refine ⟨by omega, ⟨(k + 1, o ++ [((textT t).1, (textT (textT t).2).1, ())], (textT (textT t).2).2), by omega, by simp [hok], hB3, ?_, hbw1⟩, [], [0, 4], ⟨rfl, rfl, by simp, (fun i hi => absurd hi (Nat.not_lt_zero _)), ⟨.inr rfl, .inr rfl, .inr rfl, .inr rfl, .inr rfl, trivial⟩, ⟨.inr ⟨by decide, ?_⟩, .inr ⟨by decide, ?_⟩, trivial⟩, rfl, by decide, rfl, (by first | rfl | simp [scRow, tkC_scs])⟩, by show min n 7 - (k + 1) < min n 7 - k; omega⟩
    · intro x hx
      rcases List.mem_append.1 hx with hx | hx
      · exact hoB x hx
      · simp only [List.mem_singleton] at hx
        subst hx; exact ⟨hs2, hs3⟩
    · exact tkC_row _ _ _ _
    · rfl
  · have hltI : ¬ ((k : Int) < ((min n 7 : Nat) : Int)) := by omega
    have hox : ∀ x ∈ o, x.1.length ≤ 9223372036854775807 ∧ x.2.1.length ≤ 9223372036854775807 := fun x hx => by have := hoB x hx; omega
    simp only [hmin, w0, hltI, am, simprocAttr, tys]
    rcases hro : rightL o with _ | _
    · have ht : takeLb b = none := takeLb_none b fun l r' hrl hb => by
        obtain ⟨g0, g1, g2⟩ := hbw l r' hrl hb
        obtain ⟨h8', _⟩ := rightL_len hrl
        rw [List.take_of_length_le (by omega)] at g1
        rw [g1, hrl] at hro; cases hro
      refine ACall.of (refLPutN o (by omega) hox hro) [] [1] rfl (by simp) (by simp) (by simp) (by repeat' (first | exact trivial | exact .inl rfl | exact .inr rfl | exact .inr ⟨rfl, by simp⟩ | exact .inr ⟨rfl, rfl, by simp⟩ | apply And.intro)) (by repeat' (first | exact trivial | rfl | exact (tkC_ren.1 _ _).symm | (simp; done) | apply And.intro)) (by first | exact .inl rfl | (refine .inr ⟨trivial, ?_⟩; first | (intro row h; rcases List.mem_singleton.1 h with rfl; exact nvB _) | (intro row h; cases h; done) | (simp; done)) | (refine .inr ⟨by simp [nvP, nvP.nvPs, nvD, nilS, errno], ?_⟩; first | (intro row h; rcases List.mem_singleton.1 h with rfl; exact nvB _) | (intro row h; cases h; done) | (simp [nvRow, nvD, nvP]; done))) ?_
      rcases t with _ | rest
      · simp only [tkC, bool, errno, nilS, ht, takeLR, FinR, evRes, evRVs, evRV, am, simprocAttr, tys]
        exact ⟨by kernel_rfl, ⟨_, [], [], rfl, Ent.plain rfl rfl rfl trivial rfl, rfl, rfl⟩⟩
      · simp only [tkC, bool, byts, errno, nilS, ht, takeLR, FinR, evRes, evRVs, evRV, am, simprocAttr, tys]
        exact ⟨by kernel_rfl, ⟨_, [], [], rfl, Ent.plain rfl rfl rfl trivial rfl, rfl, rfl⟩⟩
    · refine ACall.of (refLPut o (by omega) hox hro) [] [1] rfl (by simp) (by simp) (by simp) (by repeat' (first | exact trivial | exact .inl rfl | exact .inr rfl | exact .inr ⟨rfl, by simp⟩ | exact .inr ⟨rfl, rfl, by simp⟩ | apply And.intro)) (by repeat' (first | exact trivial | rfl | exact (tkC_ren.1 _ _).symm | (simp; done) | apply And.intro)) (by first | exact .inl rfl | (refine .inr ⟨trivial, ?_⟩; first | (intro row h; rcases List.mem_singleton.1 h with rfl; exact nvB _) | (intro row h; cases h; done) | (simp; done)) | (refine .inr ⟨by simp [nvP, nvP.nvPs, nvD, nilS, errno], ?_⟩; first | (intro row h; rcases List.mem_singleton.1 h with rfl; exact nvB _) | (intro row h; cases h; done) | (simp [nvRow, nvD, nvP]; done))) ?_
      have hpl := putLb_len hro
      rcases htt : t with _ | rest
      · have ht : takeLb b = none := takeLb_none b fun l r' hrl hb => by
          obtain ⟨g0, g1, g2⟩ := hbw l r' hrl hb
          rw [htt] at g2; cases g2
        simp only [tkC, bool, errno, nilS, ht, takeLR, FinR, evRes, evRVs, evRV, am, simprocAttr, tys]
        exact ⟨by kernel_rfl, ⟨_, [], [], rfl, Ent.plain rfl rfl rfl trivial rfl, rfl, rfl⟩⟩
      · have hbo : ∀ l r', rightL l = true → b = putLb l ++ r' → l = o := fun l r' hrl hb => by
          obtain ⟨g0, g1, g2⟩ := hbw l r' hrl hb
          obtain ⟨h8', _⟩ := rightL_len hrl
          rw [List.take_of_length_le (by omega)] at g1
          exact g1.symm
        rcases Nat.lt_or_ge b.length (putLb o).length with hlb | hlb
        · have hI : ((b.length : Int) < ((putLb o).length : Int)) := by omega
          have ht : takeLb b = none := takeLb_none b fun l r' hrl hb => by
            have := hbo l r' hrl hb
            subst this
            have := congrArg List.length hb
            simp only [List.length_append] at this; omega
          simp only [tkC, bool, byts, errno, nilS, hI, ht, takeLR, FinR, evRes, evRVs, evRV, am, simprocAttr, tys]
          exact ⟨by kernel_rfl, ⟨_, [], [], rfl, Ent.plain rfl rfl rfl trivial rfl, rfl, rfl⟩⟩
        · have hI : ¬ ((b.length : Int) < ((putLb o).length : Int)) := by omega
          have hI2 : (((putLb o).length : Int) ≤ (b.length : Int)) := by omega
          rcases hq : (putLb o == b.take (putLb o).length) with _ | _
          · have ht : takeLb b = none := takeLb_none b fun l r' hrl hb => by
              have := hbo l r' hrl hb
              subst this
              rw [beq_eq_false_iff_ne] at hq
              apply hq
              conv => rhs; rw [hb]
              simp
            simp only [tkC, bool, byts, errno, nilS, hI, hI2, hq, ht, takeLR, strOf_encB, bl_toList, Int.natCast_nonneg, Int.toNat_natCast, ← List.map_take, List.drop_zero, FinR, evRes, evRVs, evRV, am, simprocAttr, tys]
            exact ⟨by kernel_rfl, ⟨_, [], [], rfl, Ent.plain rfl rfl rfl trivial rfl, rfl, rfl⟩⟩
          · have hb3 : b = putLb o ++ b.drop (putLb o).length := by
              have := eq_of_beq hq
              conv => lhs; rw [← List.take_append_drop (putLb o).length b, ← this]
            have ht : takeLb b = some (o, b.drop (putLb o).length) := by
              conv => lhs; rw [hb3]
              exact takeLb_put o _ hro
            have hdl : (b.drop (putLb o).length).length ≤ b.length := by simp
            simp only [tkC, bool, byts, errno, nilS, hI, hI2, hq, ht, takeLR, strOf_encB, bl_toList, Int.natCast_nonneg, Int.toNat_natCast, ← List.map_take, ← List.map_drop, List.take_length, List.drop_zero, FinR, evRes, evRVs, evRV, am, simprocAttr, tys]
            exact ⟨by kernel_rfl, by omega, by omega, ⟨_, [1, 1604], [], rfl, ⟨rfl, rfl, by simp, (fun i hi => absurd hi (Nat.not_lt_zero _)), trivial, trivial, rfl, by decide, rfl, (by first | rfl | simp [scRow, tkC_scs])⟩, rfl, rfl⟩⟩
end Go.Proofs.Ytkadildabhkocaa
