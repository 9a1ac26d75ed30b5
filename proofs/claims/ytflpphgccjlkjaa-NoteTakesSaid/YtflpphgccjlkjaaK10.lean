/- Proved here: what the functions of the program compute. No condition. -/
import Derived.Test.YtflpphgccjlkjaaK4
import Derived.Test.YtflpphgccjlkjaaK6
import Derived.Test.YtflpphgccjlkjaaK8
import Derived.Test.YtflpphgccjlkjaaK7
set_option linter.all false
set_option linter.unusedSimpArgs false
set_option linter.unusedVariables false
set_option linter.unusedSimpArgs false
set_option linter.unusedVariables false
namespace Go.Proofs.Ytflpphgccjlkjaa
open Go Go.AM

set_option maxRecDepth 8000 in
theorem refLTake (b : List UInt8) (hl : b.length ≤ 100000000) : AFun Try.prog 68 [byts b] [] (takeLR (takeLb b)) [] := by
  refine AFun.of_walk hP Try.func68 rfl rfl rfl (by simp) rfl ?_
  simp only [Try.f68, byts, am, simprocAttr, tys]
  refine ⟨by omega, ?_⟩
  refine ACall.frz [1] ?_
  simp only [am, simprocAttr, tys]
  refine ACall.of (refNum (some b) (by intro bs h; cases h; omega)) [2] [] rfl (by simp) (by simp) (by simp) (by repeat' (first | exact trivial | exact .inl rfl | exact .inr rfl | exact .inr ⟨rfl, rfl, rfl, by simp; done⟩ | exact .inr ⟨rfl, by simp; done⟩ | exact .inr ⟨rfl, rfl, by simp; done⟩ | apply And.intro)) (by repeat' (first | exact trivial | rfl | exact (tkC_ren.1 _ _).symm | (simp; done) | apply And.intro)) (by first | exact .inl rfl | (refine .inr ⟨trivial, ?_⟩; first | (intro row h; rcases List.mem_singleton.1 h with rfl; exact nvB _) | (intro row h; cases h; done) | (simp; done)) | (refine .inr ⟨by simp [nvP, nvP.nvPs, nvD, nilS, errno], ?_⟩; first | (intro row h; rcases List.mem_singleton.1 h with rfl; exact nvB _) | (intro row h; cases h; done) | (simp [nvRow, nvD, nvP]; done))) ?_
  have hB0 : TkB b.length (some b) := fun bs h => by cases h; exact Nat.le_refl _
  have hB1 := numT_B (some b) hB0
  have hn64 : (numT (some b)).1 < 18446744073709551616 := (numT_lt (some b) (by intro bs h; cases h; omega)).1
  have hbw0 : ∀ l r', rightL l = true → b = putLb l ++ r' → (numT (some b)).1 = l.length ∧ (numT (some b)).2 = some (fl encLab l ++ r') := fun l r' hok h => by
    obtain ⟨h8, _⟩ := rightL_len hok
    rw [h]
    unfold putLb putL
    rw [List.append_assoc, numT_leb _ _ (by omega)]
    exact ⟨rfl, rfl⟩
  generalize (numT (some b)).1 = n at *
  generalize (numT (some b)).2 = t0 at *
  have hmin : (if (7 : Int) < (n : Int) then (7 : Int) else (n : Int)) = ((min n 7 : Nat) : Int) := by
    by_cases h : 7 < n
    · rw [if_pos (by omega), Nat.min_eq_right (by omega)]; rfl
    · rw [if_neg (by omega), Nat.min_eq_left (by omega)]
  have w0 : IntKind.i64.wrap ((min n 7 : Nat) : Int) = ((min n 7 : Nat) : Int) := IntWalk.i64_in _ (by omega)
  simp only [tkC_ren, u64, am, simprocAttr, tys]
  refine ALoopW.ghost 7 2 rfl ?_
  simp only [am, simprocAttr, tys]
  refine ALoopW.intro 73 0 (ι := { z : Nat × List Lab × Tk // z.1 ≤ min n 7 ∧ z.2.1.length = z.1 ∧ TkB b.length z.2.2 ∧ (∀ x ∈ z.2.1, x.1.length ≤ b.length ∧ x.2.1.length ≤ b.length) ∧
      (∀ l r', rightL l = true → b = putLb l ++ r' → n = l.length ∧ z.2.1 = l.take z.1 ∧ z.2.2 = some (fl encLab (l.drop z.1) ++ r')) })
    (fun z => [(0, .d (.sl 1 (b.map encB))), (5, .ptr 0 0), (6, .d (.lit (.int .u64 n))), (7, .own 1), (8, .d (.lit (.int .i64 z.1.1)))]) (fun z => [.box (tkC z.1.2.2), .own 2 (z.1.2.1.map encL)]) (fun z => min n 7 - z.1.1)
    ⟨(0, [], t0), by omega, rfl, hB1, by simp, by
      intro l r' hok h
      obtain ⟨g1, g2⟩ := hbw0 l r' hok h
      exact ⟨g1, rfl, g2⟩⟩ [] [2, 3] ?_ (fun ⟨⟨k, o, t⟩, hk1, hok, htB, hoB, hbw⟩ => ?_)
  · refine ⟨rfl, rfl, by simp, (fun i hi => absurd hi (Nat.not_lt_zero _)), ⟨.inr rfl, .inr rfl, .inr rfl, .inr rfl, .inr rfl, trivial⟩, ⟨.inr ⟨by decide, ?_⟩, .inr ⟨by decide, ?_⟩, trivial⟩, rfl, by decide, rfl, (by first | rfl | simp [scRow, tkC_scs])⟩
    · exact tkC_row _ _ _ _
    · rfl
  simp only at hk1 hok htB hoB hbw
  rcases Nat.lt_or_ge k (min n 7) with hlt | hge
  · have hltI : ((k : Int) < ((min n 7 : Nat) : Int)) := by omega
    have w1 : IntKind.i64.wrap ((k : Int) + 1) = ((k + 1 : Nat) : Int) := by rw [IntWalk.i64_in _ (by omega)]; simp
    obtain ⟨hB2, hs2⟩ := textT_B t htB
    obtain ⟨hB3, hs3⟩ := textT_B (textT t).2 hB2
    have hbw1 : ∀ l r', rightL l = true → b = putLb l ++ r' → n = l.length ∧ o ++ [((textT t).1, (textT (textT t).2).1, ())] = l.take (k + 1) ∧ (textT (textT t).2).2 = some (fl encLab (l.drop (k + 1)) ++ r') := fun l r' hrl hb => by
      obtain ⟨g0, g1, g2⟩ := hbw l r' hrl hb
      obtain ⟨h8', _, hall⟩ := rightL_len hrl
      have hkl : k < l.length := by omega
      rw [List.drop_eq_getElem_cons hkl, fl_cons, List.append_assoc] at g2
      obtain ⟨q3, q4⟩ := lab_bwd l[k] (fl encLab (l.drop (k + 1)) ++ r') (hall _ (List.getElem_mem hkl))
      rw [g2]
      simp only [q3, q4]
      refine ⟨g0, ?_, trivial⟩
      rw [List.take_succ_eq_append_getElem hkl, ← g1]
    have eapp : o.map encL ++ [[DV.lit (.string ⟨⟨(textT t).1⟩⟩), DV.lit (.string ⟨⟨(textT (textT t).2).1⟩⟩)]] = (o ++ [((textT t).1, (textT (textT t).2).1, ())]).map encL := by rw [List.map_append]; rfl
    simp only [hmin, w0, hltI, am, simprocAttr, tys]
    refine ACall.of (refText t (htB.le (by omega))) [0] [] rfl (by simp) (by simp) (by simp) (by repeat' (first | exact trivial | exact .inl rfl | exact .inr rfl | exact .inr ⟨rfl, rfl, rfl, by simp; done⟩ | exact .inr ⟨rfl, by simp; done⟩ | exact .inr ⟨rfl, rfl, by simp; done⟩ | apply And.intro)) (by repeat' (first | exact trivial | rfl | exact (tkC_ren.1 _ _).symm | (simp; done) | apply And.intro)) (by first | exact .inl rfl | (refine .inr ⟨trivial, ?_⟩; first | (intro row h; rcases List.mem_singleton.1 h with rfl; exact nvB _) | (intro row h; cases h; done) | (simp; done)) | (refine .inr ⟨by simp [nvP, nvP.nvPs, nvD, nilS, errno], ?_⟩; first | (intro row h; rcases List.mem_singleton.1 h with rfl; exact nvB _) | (intro row h; cases h; done) | (simp [nvRow, nvD, nvP]; done))) ?_
    simp only [tkC_ren, str, am, simprocAttr, tys]
    refine ACall.of (refText (textT t).2 (hB2.le (by omega))) [0] [] rfl (by simp) (by simp) (by simp) (by repeat' (first | exact trivial | exact .inl rfl | exact .inr rfl | exact .inr ⟨rfl, rfl, rfl, by simp; done⟩ | exact .inr ⟨rfl, by simp; done⟩ | exact .inr ⟨rfl, rfl, by simp; done⟩ | apply And.intro)) (by repeat' (first | exact trivial | rfl | exact (tkC_ren.1 _ _).symm | (simp; done) | apply And.intro)) (by first | exact .inl rfl | (refine .inr ⟨trivial, ?_⟩; first | (intro row h; rcases List.mem_singleton.1 h with rfl; exact nvB _) | (intro row h; cases h; done) | (simp; done)) | (refine .inr ⟨by simp [nvP, nvP.nvPs, nvD, nilS, errno], ?_⟩; first | (intro row h; rcases List.mem_singleton.1 h with rfl; exact nvB _) | (intro row h; cases h; done) | (simp [nvRow, nvD, nvP]; done))) ?_
    simp only [tkC_ren, str, w1, eapp, am, simprocAttr, tys]
    refine ⟨by omega, ⟨(k + 1, o ++ [((textT t).1, (textT (textT t).2).1, ())], (textT (textT t).2).2), by omega, by simp [hok], hB3, ?_, hbw1⟩, [], [0, 4], ⟨rfl, rfl, by simp, (fun i hi => absurd hi (Nat.not_lt_zero _)), ⟨.inr rfl, .inr rfl, .inr rfl, .inr rfl, .inr rfl, trivial⟩, ⟨.inr ⟨by decide, ?_⟩, .inr ⟨by decide, ?_⟩, trivial⟩, rfl, by decide, rfl, (by first | rfl | simp [scRow, tkC_scs])⟩, by show min n 7 - (k + 1) < min n 7 - k; omega⟩
    · intro x hx
      rcases List.mem_append.1 hx with hx | hx
      · exact hoB x hx
      · simp only [List.mem_singleton] at hx
        subst hx; exact ⟨hs2, hs3⟩
    · exact tkC_row _ _ _ _
    · rfl
  · have hltI : ¬ ((k : Int) < ((min n 7 : Nat) : Int)) := by omega
    have hox : ∀ x ∈ o, x.1.length ≤ 9223372036854775807 ∧ x.2.1.length ≤ 9223372036854775807 := fun x hx => by have := hoB x hx; omega
    simp only [hmin, w0, hltI, am, simprocAttr, tys]
    rcases hro : rightL o with _ | _
    · have ht : takeLb b = none := takeLb_none b fun l r' hrl hb => by
        obtain ⟨g0, g1, g2⟩ := hbw l r' hrl hb
        obtain ⟨h8', _⟩ := rightL_len hrl
        rw [List.take_of_length_le (by omega)] at g1
        rw [g1, hrl] at hro; cases hro
      refine ACall.of (refLPutN o (by omega) hox hro) [] [1] rfl (by simp) (by simp) (by simp) (by repeat' (first | exact trivial | exact .inl rfl | exact .inr rfl | exact .inr ⟨rfl, rfl, rfl, by simp; done⟩ | exact .inr ⟨rfl, by simp; done⟩ | exact .inr ⟨rfl, rfl, by simp; done⟩ | apply And.intro)) (by repeat' (first | exact trivial | rfl | exact (tkC_ren.1 _ _).symm | (simp; done) | apply And.intro)) (by first | exact .inl rfl | (refine .inr ⟨trivial, ?_⟩; first | (intro row h; rcases List.mem_singleton.1 h with rfl; exact nvB _) | (intro row h; cases h; done) | (simp; done)) | (refine .inr ⟨by simp [nvP, nvP.nvPs, nvD, nilS, errno], ?_⟩; first | (intro row h; rcases List.mem_singleton.1 h with rfl; exact nvB _) | (intro row h; cases h; done) | (simp [nvRow, nvD, nvP]; done))) ?_
      rcases t with _ | rest
      · simp only [tkC, bool, errno, nilS, ht, takeLR, FinR, evRes, evRVs, evRV, am, simprocAttr, tys]
        exact ⟨by kernel_rfl, ⟨_, [], [], rfl, Ent.plain rfl rfl rfl trivial rfl, rfl, rfl⟩⟩
      · simp only [tkC, bool, byts, errno, nilS, ht, takeLR, FinR, evRes, evRVs, evRV, am, simprocAttr, tys]
        exact ⟨by kernel_rfl, ⟨_, [], [], rfl, Ent.plain rfl rfl rfl trivial rfl, rfl, rfl⟩⟩
    · refine ACall.of (refLPut o (by omega) hox hro) [] [1] rfl (by simp) (by simp) (by simp) (by repeat' (first | exact trivial | exact .inl rfl | exact .inr rfl | exact .inr ⟨rfl, rfl, rfl, by simp; done⟩ | exact .inr ⟨rfl, by simp; done⟩ | exact .inr ⟨rfl, rfl, by simp; done⟩ | apply And.intro)) (by repeat' (first | exact trivial | rfl | exact (tkC_ren.1 _ _).symm | (simp; done) | apply And.intro)) (by first | exact .inl rfl | (refine .inr ⟨trivial, ?_⟩; first | (intro row h; rcases List.mem_singleton.1 h with rfl; exact nvB _) | (intro row h; cases h; done) | (simp; done)) | (refine .inr ⟨by simp [nvP, nvP.nvPs, nvD, nilS, errno], ?_⟩; first | (intro row h; rcases List.mem_singleton.1 h with rfl; exact nvB _) | (intro row h; cases h; done) | (simp [nvRow, nvD, nvP]; done))) ?_
      have hpl := putLb_len hro
      rcases htt : t with _ | rest
      · have ht : takeLb b = none := takeLb_none b fun l r' hrl hb => by
          obtain ⟨g0, g1, g2⟩ := hbw l r' hrl hb
          rw [htt] at g2; cases g2
        simp only [tkC, bool, errno, nilS, ht, takeLR, FinR, evRes, evRVs, evRV, am, simprocAttr, tys]
        exact ⟨by kernel_rfl, ⟨_, [], [], rfl, Ent.plain rfl rfl rfl trivial rfl, rfl, rfl⟩⟩
      · have hbo : ∀ l r', rightL l = true → b = putLb l ++ r' → l = o := fun l r' hrl hb => by
          obtain ⟨g0, g1, g2⟩ := hbw l r' hrl hb
          obtain ⟨h8', _⟩ := rightL_len hrl
          rw [List.take_of_length_le (by omega)] at g1
          exact g1.symm
        rcases Nat.lt_or_ge b.length (putLb o).length with hlb | hlb
        · have hI : ((b.length : Int) < ((putLb o).length : Int)) := by omega
          have ht : takeLb b = none := takeLb_none b fun l r' hrl hb => by
            have := hbo l r' hrl hb
            subst this
            have := congrArg List.length hb
            simp only [List.length_append] at this; omega
          simp only [tkC, bool, byts, errno, nilS, hI, ht, takeLR, FinR, evRes, evRVs, evRV, am, simprocAttr, tys]
          exact ⟨by kernel_rfl, ⟨_, [], [], rfl, Ent.plain rfl rfl rfl trivial rfl, rfl, rfl⟩⟩
        · have hI : ¬ ((b.length : Int) < ((putLb o).length : Int)) := by omega
          have hI2 : (((putLb o).length : Int) ≤ (b.length : Int)) := by omega
          rcases hq : (putLb o == b.take (putLb o).length) with _ | _
          · have ht : takeLb b = none := takeLb_none b fun l r' hrl hb => by
              have := hbo l r' hrl hb
              subst this
              rw [beq_eq_false_iff_ne] at hq
              apply hq
              conv => rhs; rw [hb]
              simp
            simp only [tkC, bool, byts, errno, nilS, hI, hI2, hq, ht, takeLR, strOf_encB, bl_toList, Int.natCast_nonneg, Int.toNat_natCast, ← List.map_take, List.drop_zero, FinR, evRes, evRVs, evRV, am, simprocAttr, tys]
            exact ⟨by kernel_rfl, ⟨_, [], [], rfl, Ent.plain rfl rfl rfl trivial rfl, rfl, rfl⟩⟩
          · have hb3 : b = putLb o ++ b.drop (putLb o).length := by
              have := eq_of_beq hq
              conv => lhs; rw [← List.take_append_drop (putLb o).length b, ← this]
            have ht : takeLb b = some (o, b.drop (putLb o).length) := by
              conv => lhs; rw [hb3]
              exact takeLb_put o _ hro
            have hdl : (b.drop (putLb o).length).length ≤ b.length := by simp
            simp only [tkC, bool, byts, errno, nilS, hI, hI2, hq, ht, takeLR, strOf_encB, bl_toList, Int.natCast_nonneg, Int.toNat_natCast, ← List.map_take, ← List.map_drop, List.take_length, List.drop_zero, FinR, evRes, evRVs, evRV, am, simprocAttr, tys]
            exact ⟨by kernel_rfl, by omega, by omega, ⟨_, [1, 1604], [], rfl, ⟨rfl, rfl, by simp, (fun i hi => absurd hi (Nat.not_lt_zero _)), trivial, trivial, rfl, by decide, rfl, (by first | rfl | simp [scRow, tkC_scs])⟩, rfl, rfl⟩⟩
end Go.Proofs.Ytflpphgccjlkjaa

set_option linter.unusedSimpArgs false
set_option linter.unusedVariables false
namespace Go.Proofs.Ytflpphgccjlkjaa
open Go Go.AM

def opT : Tk → UInt8 × Tk
  | none => (0, none)
  | some [] => (0, some [])
  | some (c :: r) => (c, some r)
theorem opT_B {n : Nat} (t : Tk) (h : TkB n t) : TkB n (opT t).2 := by
  intro r hr
  rcases t with _ | _ | ⟨c, s⟩
  · cases hr
  · cases hr; simp
  · cases hr
    have := h _ rfl
    simp at this; omega

set_option maxRecDepth 8000 in
theorem refMTake (b : List UInt8) (hl : b.length ≤ 100000000) : AFun Try.prog 70 [byts b] [] (takeAR (takeA b)) [] := by
  refine AFun.of_walk hP Try.func70 rfl rfl rfl (by simp) rfl ?_
  simp only [Try.f70, byts, am, simprocAttr, tys]
  refine ⟨by omega, ?_⟩
  refine ACall.frz [1] ?_
  simp only [am, simprocAttr, tys]
  refine ACall.of (refNum (some b) (by intro bs h; cases h; omega)) [2] [] rfl (by simp) (by simp) (by simp) (by repeat' (first | exact trivial | exact .inl rfl | exact .inr rfl | exact .inr ⟨rfl, rfl, rfl, by simp; done⟩ | exact .inr ⟨rfl, by simp; done⟩ | exact .inr ⟨rfl, rfl, by simp; done⟩ | apply And.intro)) (by repeat' (first | exact trivial | rfl | exact (tkC_ren.1 _ _).symm | (simp; done) | apply And.intro)) (by first | exact .inl rfl | (refine .inr ⟨trivial, ?_⟩; first | (intro row h; rcases List.mem_singleton.1 h with rfl; exact nvB _) | (intro row h; cases h; done) | (simp; done)) | (refine .inr ⟨by simp [nvP, nvP.nvPs, nvD, nilS, errno], ?_⟩; first | (intro row h; rcases List.mem_singleton.1 h with rfl; exact nvB _) | (intro row h; cases h; done) | (simp [nvRow, nvD, nvP]; done))) ?_
  have hB0 : TkB b.length (some b) := fun bs h => by cases h; exact Nat.le_refl _
  have hB1 := numT_B (some b) hB0
  have hn64 : (numT (some b)).1 < 18446744073709551616 := (numT_lt (some b) (by intro bs h; cases h; omega)).1
  have hbw0 : ∀ l r', rightA l = true → b = putA l ++ r' → (numT (some b)).1 = l.length ∧ (numT (some b)).2 = some (fl encAsk l ++ r') := fun l r' hok h => by
    obtain ⟨h8, _⟩ := rightA_len hok
    rw [h]
    unfold putA putL
    rw [List.append_assoc, numT_leb _ _ (by omega)]
    exact ⟨rfl, rfl⟩
  generalize (numT (some b)).1 = n at *
  generalize (numT (some b)).2 = t0 at *
  have hmin : (if (9 : Int) < (n : Int) then (9 : Int) else (n : Int)) = ((min n 9 : Nat) : Int) := by
    by_cases h : 9 < n
    · rw [if_pos (by omega), Nat.min_eq_right (by omega)]; rfl
    · rw [if_neg (by omega), Nat.min_eq_left (by omega)]
  have w0 : IntKind.i64.wrap ((min n 9 : Nat) : Int) = ((min n 9 : Nat) : Int) := IntWalk.i64_in _ (by omega)
  simp only [tkC_ren, u64, am, simprocAttr, tys]
  refine ALoopW.ghost 7 3 rfl ?_
  simp only [am, simprocAttr, tys]
  refine ALoopW.intro 95 0 (ι := { z : Nat × List Ask × Tk // z.1 ≤ min n 9 ∧ z.2.1.length = z.1 ∧ TkB b.length z.2.2 ∧ (∀ x ∈ z.2.1, x.2.1.length ≤ b.length) ∧
      (∀ l r', rightA l = true → b = putA l ++ r' → n = l.length ∧ z.2.1 = l.take z.1 ∧ z.2.2 = some (fl encAsk (l.drop z.1) ++ r')) })
    (fun z => [(0, .d (.sl 1 (b.map encB))), (5, .ptr 0 0), (6, .d (.lit (.int .u64 n))), (7, .own 1), (8, .d (.lit (.int .i64 z.1.1)))]) (fun z => [.box (tkC z.1.2.2), .own 3 (z.1.2.1.map encA)]) (fun z => min n 9 - z.1.1)
    ⟨(0, [], t0), by omega, rfl, hB1, by simp, by
      intro l r' hok h
      obtain ⟨g1, g2⟩ := hbw0 l r' hok h
      exact ⟨g1, rfl, g2⟩⟩ [] [2, 3] ?_ (fun ⟨⟨k, o, t⟩, hk1, hok, htB, hoB, hbw⟩ => ?_)
  · refine ⟨rfl, rfl, by simp, (fun i hi => absurd hi (Nat.not_lt_zero _)), ⟨.inr rfl, .inr rfl, .inr rfl, .inr rfl, .inr rfl, trivial⟩, ⟨.inr ⟨by decide, ?_⟩, .inr ⟨by decide, ?_⟩, trivial⟩, rfl, by decide, rfl, (by first | rfl | simp [scRow, tkC_scs])⟩
    · exact tkC_row _ _ _ _
    · rfl
  simp only at hk1 hok htB hoB hbw
  rcases Nat.lt_or_ge k (min n 9) with hlt | hge
  · have hltI : ((k : Int) < ((min n 9 : Nat) : Int)) := by omega
    have w1 : IntKind.i64.wrap ((k : Int) + 1) = ((k + 1 : Nat) : Int) := by rw [IntWalk.i64_in _ (by omega)]; simp
    have hC := opT_B t htB
    obtain ⟨hB2, hs2⟩ := textT_B (opT t).2 hC
    obtain ⟨hB3, hs3⟩ := textT_B (textT (opT t).2).2 hB2
    have hbw1 : ∀ l r', rightA l = true → b = putA l ++ r' → n = l.length ∧ o ++ [((opT t).1, (textT (opT t).2).1, (textT (textT (opT t).2).2).1, ())] = l.take (k + 1) ∧ (textT (textT (opT t).2).2).2 = some (fl encAsk (l.drop (k + 1)) ++ r') := fun l r' hrl hb => by
      obtain ⟨g0, g1, g2⟩ := hbw l r' hrl hb
      obtain ⟨h8', hall⟩ := rightA_len hrl
      have hkl : k < l.length := by omega
      rw [List.drop_eq_getElem_cons hkl, fl_cons, List.append_assoc] at g2
      obtain ⟨q1, q2, q3, q4⟩ := ask_bwd l[k] (fl encAsk (l.drop (k + 1)) ++ r') (hall _ (List.getElem_mem hkl))
      have e : opT t = (l[k].1, some (lebT l[k].2.1 ++ (lebT l[k].2.2.1 ++ (fl encAsk (l.drop (k + 1)) ++ r')))) := by
        rw [g2]; unfold encAsk; simp [opT]
      rw [e]
      simp only [q3, q4]
      refine ⟨g0, ?_, trivial⟩
      rw [List.take_succ_eq_append_getElem hkl, ← g1]
    rcases t with _ | _ | ⟨c, rr⟩
    · skip
      have eapp : o.map encA ++ [[DV.lit (.int .u8 0), DV.lit (.string ⟨⟨(textT ((none : Tk))).1⟩⟩), DV.lit (.string ⟨⟨(textT (textT ((none : Tk))).2).1⟩⟩)]] = (o ++ [((opT ((none : Tk))).1, (textT (opT ((none : Tk))).2).1, (textT (textT (opT ((none : Tk))).2).2).1, ())]).map encA := by rw [List.map_append]; rfl
      simp only [hmin, w0, hltI, tkC_s, nilS, byts, bool, am, simprocAttr, tys]
      refine ACall.of (refText ((none : Tk)) ((by simpa [opT] using hC : TkB b.length ((none : Tk))).le (by omega))) [0] [] rfl (by simp) (by simp) (by simp) (by repeat' (first | exact trivial | exact .inl rfl | exact .inr rfl | exact .inr ⟨rfl, rfl, rfl, by simp; done⟩ | exact .inr ⟨rfl, by simp; done⟩ | exact .inr ⟨rfl, rfl, by simp; done⟩ | apply And.intro)) (by repeat' (first | exact trivial | rfl | exact (tkC_ren.1 _ _).symm | (simp; done) | apply And.intro)) (by first | exact .inl rfl | (refine .inr ⟨trivial, ?_⟩; first | (intro row h; rcases List.mem_singleton.1 h with rfl; exact nvB _) | (intro row h; cases h; done) | (simp; done)) | (refine .inr ⟨by simp [nvP, nvP.nvPs, nvD, nilS, errno], ?_⟩; first | (intro row h; rcases List.mem_singleton.1 h with rfl; exact nvB _) | (intro row h; cases h; done) | (simp [nvRow, nvD, nvP]; done))) ?_
      simp only [tkC_ren, str, am, simprocAttr, tys]
      refine ACall.of (refText (textT ((none : Tk))).2 ((by simpa [opT] using hB2 : TkB b.length (textT ((none : Tk))).2).le (by omega))) [0] [] rfl (by simp) (by simp) (by simp) (by repeat' (first | exact trivial | exact .inl rfl | exact .inr rfl | exact .inr ⟨rfl, rfl, rfl, by simp; done⟩ | exact .inr ⟨rfl, by simp; done⟩ | exact .inr ⟨rfl, rfl, by simp; done⟩ | apply And.intro)) (by repeat' (first | exact trivial | rfl | exact (tkC_ren.1 _ _).symm | (simp; done) | apply And.intro)) (by first | exact .inl rfl | (refine .inr ⟨trivial, ?_⟩; first | (intro row h; rcases List.mem_singleton.1 h with rfl; exact nvB _) | (intro row h; cases h; done) | (simp; done)) | (refine .inr ⟨by simp [nvP, nvP.nvPs, nvD, nilS, errno], ?_⟩; first | (intro row h; rcases List.mem_singleton.1 h with rfl; exact nvB _) | (intro row h; cases h; done) | (simp [nvRow, nvD, nvP]; done))) ?_
      simp only [tkC_ren, str, w1, eapp, am, simprocAttr, tys]
      refine ⟨by omega, ⟨(k + 1, o ++ [((opT ((none : Tk))).1, (textT (opT ((none : Tk))).2).1, (textT (textT (opT ((none : Tk))).2).2).1, ())], (textT (textT (opT ((none : Tk))).2).2).2), by omega, by simp [hok], hB3, ?_, hbw1⟩, [], [0, 4], ⟨rfl, rfl, by simp, (fun i hi => absurd hi (Nat.not_lt_zero _)), ⟨.inr rfl, .inr rfl, .inr rfl, .inr rfl, .inr rfl, trivial⟩, ⟨.inr ⟨by decide, ?_⟩, .inr ⟨by decide, ?_⟩, trivial⟩, rfl, by decide, rfl, (by first | rfl | simp [scRow, tkC_scs])⟩, by show min n 9 - (k + 1) < min n 9 - k; omega⟩
      · intro x hx
        rcases List.mem_append.1 hx with hx | hx
        · exact hoB x hx
        · simp only [List.mem_singleton] at hx
          subst hx; exact hs2
      · exact tkC_row _ _ _ _
      · rfl
    · skip
      have eapp : o.map encA ++ [[DV.lit (.int .u8 0), DV.lit (.string ⟨⟨(textT ((some [] : Tk))).1⟩⟩), DV.lit (.string ⟨⟨(textT (textT ((some [] : Tk))).2).1⟩⟩)]] = (o ++ [((opT ((some [] : Tk))).1, (textT (opT ((some [] : Tk))).2).1, (textT (textT (opT ((some [] : Tk))).2).2).1, ())]).map encA := by rw [List.map_append]; rfl
      simp only [hmin, w0, hltI, tkC_s, nilS, byts, bool, am, simprocAttr, tys]
      refine ACall.of (refText ((some [] : Tk)) ((by simpa [opT] using hC : TkB b.length ((some [] : Tk))).le (by omega))) [0] [] rfl (by simp) (by simp) (by simp) (by repeat' (first | exact trivial | exact .inl rfl | exact .inr rfl | exact .inr ⟨rfl, rfl, rfl, by simp; done⟩ | exact .inr ⟨rfl, by simp; done⟩ | exact .inr ⟨rfl, rfl, by simp; done⟩ | apply And.intro)) (by repeat' (first | exact trivial | rfl | exact (tkC_ren.1 _ _).symm | (simp; done) | apply And.intro)) (by first | exact .inl rfl | (refine .inr ⟨trivial, ?_⟩; first | (intro row h; rcases List.mem_singleton.1 h with rfl; exact nvB _) | (intro row h; cases h; done) | (simp; done)) | (refine .inr ⟨by simp [nvP, nvP.nvPs, nvD, nilS, errno], ?_⟩; first | (intro row h; rcases List.mem_singleton.1 h with rfl; exact nvB _) | (intro row h; cases h; done) | (simp [nvRow, nvD, nvP]; done))) ?_
      simp only [tkC_ren, str, am, simprocAttr, tys]
      refine ACall.of (refText (textT ((some [] : Tk))).2 ((by simpa [opT] using hB2 : TkB b.length (textT ((some [] : Tk))).2).le (by omega))) [0] [] rfl (by simp) (by simp) (by simp) (by repeat' (first | exact trivial | exact .inl rfl | exact .inr rfl | exact .inr ⟨rfl, rfl, rfl, by simp; done⟩ | exact .inr ⟨rfl, by simp; done⟩ | exact .inr ⟨rfl, rfl, by simp; done⟩ | apply And.intro)) (by repeat' (first | exact trivial | rfl | exact (tkC_ren.1 _ _).symm | (simp; done) | apply And.intro)) (by first | exact .inl rfl | (refine .inr ⟨trivial, ?_⟩; first | (intro row h; rcases List.mem_singleton.1 h with rfl; exact nvB _) | (intro row h; cases h; done) | (simp; done)) | (refine .inr ⟨by simp [nvP, nvP.nvPs, nvD, nilS, errno], ?_⟩; first | (intro row h; rcases List.mem_singleton.1 h with rfl; exact nvB _) | (intro row h; cases h; done) | (simp [nvRow, nvD, nvP]; done))) ?_
      simp only [tkC_ren, str, w1, eapp, am, simprocAttr, tys]
      refine ⟨by omega, ⟨(k + 1, o ++ [((opT ((some [] : Tk))).1, (textT (opT ((some [] : Tk))).2).1, (textT (textT (opT ((some [] : Tk))).2).2).1, ())], (textT (textT (opT ((some [] : Tk))).2).2).2), by omega, by simp [hok], hB3, ?_, hbw1⟩, [], [0, 4], ⟨rfl, rfl, by simp, (fun i hi => absurd hi (Nat.not_lt_zero _)), ⟨.inr rfl, .inr rfl, .inr rfl, .inr rfl, .inr rfl, trivial⟩, ⟨.inr ⟨by decide, ?_⟩, .inr ⟨by decide, ?_⟩, trivial⟩, rfl, by decide, rfl, (by first | rfl | simp [scRow, tkC_scs])⟩, by show min n 9 - (k + 1) < min n 9 - k; omega⟩
      · intro x hx
        rcases List.mem_append.1 hx with hx | hx
        · exact hoB x hx
        · simp only [List.mem_singleton] at hx
          subst hx; exact hs2
      · exact tkC_row _ _ _ _
      · rfl
    · have hI0 : ((0 : Int) < ((rr.length + 1 : Nat) : Int)) := by omega
      have eapp : o.map encA ++ [[DV.lit (.int .u8 (c.toNat : Int)), DV.lit (.string ⟨⟨(textT ((some rr : Tk))).1⟩⟩), DV.lit (.string ⟨⟨(textT (textT ((some rr : Tk))).2).1⟩⟩)]] = (o ++ [((opT ((some (c :: rr) : Tk))).1, (textT (opT ((some (c :: rr) : Tk))).2).1, (textT (textT (opT ((some (c :: rr) : Tk))).2).2).1, ())]).map encA := by rw [List.map_append]; rfl
      simp only [hmin, w0, hltI, tkC_s, nilS, byts, bool, hI0, encB, ← List.map_take, List.take_length, am, simprocAttr, tys]
      refine ⟨by omega, ?_⟩
      refine ACall.of (refText ((some rr : Tk)) ((by simpa [opT] using hC : TkB b.length ((some rr : Tk))).le (by omega))) [0] [] rfl (by simp) (by simp) (by simp) (by repeat' (first | exact trivial | exact .inl rfl | exact .inr rfl | exact .inr ⟨rfl, rfl, rfl, by simp; done⟩ | exact .inr ⟨rfl, by simp; done⟩ | exact .inr ⟨rfl, rfl, by simp; done⟩ | apply And.intro)) (by repeat' (first | exact trivial | rfl | exact (tkC_ren.1 _ _).symm | (simp; done) | apply And.intro)) (by first | exact .inl rfl | (refine .inr ⟨trivial, ?_⟩; first | (intro row h; rcases List.mem_singleton.1 h with rfl; exact nvB _) | (intro row h; cases h; done) | (simp; done)) | (refine .inr ⟨by simp [nvP, nvP.nvPs, nvD, nilS, errno], ?_⟩; first | (intro row h; rcases List.mem_singleton.1 h with rfl; exact nvB _) | (intro row h; cases h; done) | (simp [nvRow, nvD, nvP]; done))) ?_
      simp only [tkC_ren, str, am, simprocAttr, tys]
      refine ACall.of (refText (textT ((some rr : Tk))).2 ((by simpa [opT] using hB2 : TkB b.length (textT ((some rr : Tk))).2).le (by omega))) [0] [] rfl (by simp) (by simp) (by simp) (by repeat' (first | exact trivial | exact .inl rfl | exact .inr rfl | exact .inr ⟨rfl, rfl, rfl, by simp; done⟩ | exact .inr ⟨rfl, by simp; done⟩ | exact .inr ⟨rfl, rfl, by simp; done⟩ | apply And.intro)) (by repeat' (first | exact trivial | rfl | exact (tkC_ren.1 _ _).symm | (simp; done) | apply And.intro)) (by first | exact .inl rfl | (refine .inr ⟨trivial, ?_⟩; first | (intro row h; rcases List.mem_singleton.1 h with rfl; exact nvB _) | (intro row h; cases h; done) | (simp; done)) | (refine .inr ⟨by simp [nvP, nvP.nvPs, nvD, nilS, errno], ?_⟩; first | (intro row h; rcases List.mem_singleton.1 h with rfl; exact nvB _) | (intro row h; cases h; done) | (simp [nvRow, nvD, nvP]; done))) ?_
      simp only [tkC_ren, str, w1, eapp, am, simprocAttr, tys]
      refine ⟨by omega, ⟨(k + 1, o ++ [((opT ((some (c :: rr) : Tk))).1, (textT (opT ((some (c :: rr) : Tk))).2).1, (textT (textT (opT ((some (c :: rr) : Tk))).2).2).1, ())], (textT (textT (opT ((some (c :: rr) : Tk))).2).2).2), by omega, by simp [hok], hB3, ?_, hbw1⟩, [], [0, 4], ⟨rfl, rfl, by simp, (fun i hi => absurd hi (Nat.not_lt_zero _)), ⟨.inr rfl, .inr rfl, .inr rfl, .inr rfl, .inr rfl, trivial⟩, ⟨.inr ⟨by decide, ?_⟩, .inr ⟨by decide, ?_⟩, trivial⟩, rfl, by decide, rfl, (by first | rfl | simp [scRow, tkC_scs])⟩, by show min n 9 - (k + 1) < min n 9 - k; omega⟩
      · intro x hx
        rcases List.mem_append.1 hx with hx | hx
        · exact hoB x hx
        · simp only [List.mem_singleton] at hx
          subst hx; exact hs2
      · exact tkC_row _ _ _ _
      · rfl
  · have hltI : ¬ ((k : Int) < ((min n 9 : Nat) : Int)) := by omega
    simp only [hmin, w0, hltI, am, simprocAttr, tys]
    rcases hro : rightA o with _ | _
    · have ht : takeA b = none := takeA_none b fun l r' hrl hb => by
        obtain ⟨g0, g1, g2⟩ := hbw l r' hrl hb
        obtain ⟨h8', _⟩ := rightA_len hrl
        rw [List.take_of_length_le (by omega)] at g1
        rw [g1, hrl] at hro; cases hro
      refine ACall.of (refMPutN o (by omega) (fun x hx => by have := hoB x hx; omega) hro) [] [1] rfl (by simp) (by simp) (by simp) (by repeat' (first | exact trivial | exact .inl rfl | exact .inr rfl | exact .inr ⟨rfl, rfl, rfl, by simp; done⟩ | exact .inr ⟨rfl, by simp; done⟩ | exact .inr ⟨rfl, rfl, by simp; done⟩ | apply And.intro)) (by repeat' (first | exact trivial | rfl | exact (tkC_ren.1 _ _).symm | (simp; done) | apply And.intro)) (by first | exact .inl rfl | (refine .inr ⟨trivial, ?_⟩; first | (intro row h; rcases List.mem_singleton.1 h with rfl; exact nvB _) | (intro row h; cases h; done) | (simp; done)) | (refine .inr ⟨by simp [nvP, nvP.nvPs, nvD, nilS, errno], ?_⟩; first | (intro row h; rcases List.mem_singleton.1 h with rfl; exact nvB _) | (intro row h; cases h; done) | (simp [nvRow, nvD, nvP]; done))) ?_
      rcases t with _ | rest
      · simp only [tkC, bool, errno, nilS, ht, takeAR, FinR, evRes, evRVs, evRV, am, simprocAttr, tys]
        exact ⟨by kernel_rfl, ⟨_, [], [], rfl, Ent.plain rfl rfl rfl trivial rfl, rfl, rfl⟩⟩
      · simp only [tkC, bool, byts, errno, nilS, ht, takeAR, FinR, evRes, evRVs, evRV, am, simprocAttr, tys]
        exact ⟨by kernel_rfl, ⟨_, [], [], rfl, Ent.plain rfl rfl rfl trivial rfl, rfl, rfl⟩⟩
    · refine ACall.of (refMPut o (by omega) (fun x hx => by have := hoB x hx; omega) hro) [] [1] rfl (by simp) (by simp) (by simp) (by repeat' (first | exact trivial | exact .inl rfl | exact .inr rfl | exact .inr ⟨rfl, rfl, rfl, by simp; done⟩ | exact .inr ⟨rfl, by simp; done⟩ | exact .inr ⟨rfl, rfl, by simp; done⟩ | apply And.intro)) (by repeat' (first | exact trivial | rfl | exact (tkC_ren.1 _ _).symm | (simp; done) | apply And.intro)) (by first | exact .inl rfl | (refine .inr ⟨trivial, ?_⟩; first | (intro row h; rcases List.mem_singleton.1 h with rfl; exact nvB _) | (intro row h; cases h; done) | (simp; done)) | (refine .inr ⟨by simp [nvP, nvP.nvPs, nvD, nilS, errno], ?_⟩; first | (intro row h; rcases List.mem_singleton.1 h with rfl; exact nvB _) | (intro row h; cases h; done) | (simp [nvRow, nvD, nvP]; done))) ?_
      have hpl := putA_len hro
      rcases htt : t with _ | rest
      · have ht : takeA b = none := takeA_none b fun l r' hrl hb => by
          obtain ⟨g0, g1, g2⟩ := hbw l r' hrl hb
          rw [htt] at g2; cases g2
        simp only [tkC, bool, errno, nilS, ht, takeAR, FinR, evRes, evRVs, evRV, am, simprocAttr, tys]
        exact ⟨by kernel_rfl, ⟨_, [], [], rfl, Ent.plain rfl rfl rfl trivial rfl, rfl, rfl⟩⟩
      · have hbo : ∀ l r', rightA l = true → b = putA l ++ r' → l = o := fun l r' hrl hb => by
          obtain ⟨g0, g1, g2⟩ := hbw l r' hrl hb
          obtain ⟨h8', _⟩ := rightA_len hrl
          rw [List.take_of_length_le (by omega)] at g1
          exact g1.symm
        rcases Nat.lt_or_ge b.length (putA o).length with hlb | hlb
        · have hI : ((b.length : Int) < ((putA o).length : Int)) := by omega
          have ht : takeA b = none := takeA_none b fun l r' hrl hb => by
            have := hbo l r' hrl hb
            subst this
            have := congrArg List.length hb
            simp only [List.length_append] at this; omega
          simp only [tkC, bool, byts, errno, nilS, hI, ht, takeAR, FinR, evRes, evRVs, evRV, am, simprocAttr, tys]
          exact ⟨by kernel_rfl, ⟨_, [], [], rfl, Ent.plain rfl rfl rfl trivial rfl, rfl, rfl⟩⟩
        · have hI : ¬ ((b.length : Int) < ((putA o).length : Int)) := by omega
          have hI2 : (((putA o).length : Int) ≤ (b.length : Int)) := by omega
          rcases hq : (putA o == b.take (putA o).length) with _ | _
          · have ht : takeA b = none := takeA_none b fun l r' hrl hb => by
              have := hbo l r' hrl hb
              subst this
              rw [beq_eq_false_iff_ne] at hq
              apply hq
              conv => rhs; rw [hb]
              simp
            simp only [tkC, bool, byts, errno, nilS, hI, hI2, hq, ht, takeAR, strOf_encB, bl_toList, Int.natCast_nonneg, Int.toNat_natCast, ← List.map_take, List.drop_zero, FinR, evRes, evRVs, evRV, am, simprocAttr, tys]
            exact ⟨by kernel_rfl, ⟨_, [], [], rfl, Ent.plain rfl rfl rfl trivial rfl, rfl, rfl⟩⟩
          · have hb3 : b = putA o ++ b.drop (putA o).length := by
              have := eq_of_beq hq
              conv => lhs; rw [← List.take_append_drop (putA o).length b, ← this]
            have ht : takeA b = some (o, b.drop (putA o).length) := by
              conv => lhs; rw [hb3]
              exact takeA_put o _ hro
            have hdl : (b.drop (putA o).length).length ≤ b.length := by simp
            simp only [tkC, bool, byts, errno, nilS, hI, hI2, hq, ht, takeAR, strOf_encB, bl_toList, Int.natCast_nonneg, Int.toNat_natCast, ← List.map_take, ← List.map_drop, List.take_length, List.drop_zero, FinR, evRes, evRVs, evRV, am, simprocAttr, tys]
            exact ⟨by kernel_rfl, by omega, by omega, ⟨_, [1, 1604], [], rfl, ⟨rfl, rfl, by simp, (fun i hi => absurd hi (Nat.not_lt_zero _)), trivial, trivial, rfl, by decide, rfl, (by first | rfl | simp [scRow, tkC_scs])⟩, rfl, rfl⟩⟩
end Go.Proofs.Ytflpphgccjlkjaa

set_option linter.unusedSimpArgs false
set_option linter.unusedVariables false
namespace Go.Proofs.Ytflpphgccjlkjaa
open Go Go.AM

theorem argO14 {f : Nat} {A B : List DV} {r : PV} {out : List Row} (h : AFun Try.prog f [.d (.agg B)] [] r out) (hc : cle A B) : AFun Try.prog f [.d (.agg A)] [] r out := by
  intro Bs β X w vs hk h0 hm ha
  refine h Bs β X w vs hk h0 hm ?_
  unfold repPs at *
  obtain ⟨u, us, e, h1, h2⟩ := ha
  refine ⟨u, us, e, ?_, h2⟩
  unfold repP rep at *
  obtain ⟨vs', e', h3⟩ := h1
  exact ⟨vs', e', reps_cle hc h3⟩
theorem numT_no {b : List UInt8} (h : takeNum b = none) : numT (some b) = (0, none) := by simp only [numT, h]
theorem numT_sm {b : List UInt8} {u : Nat} {r : List UInt8} (h : takeNum b = some (u, r)) : numT (some b) = (u, some r) := by simp only [numT, h]
theorem numT_bad : numT none = (0, none) := rfl

theorem refOTakeE : AFun Try.prog 46 [byts []] [] failO [] := by
  refine AFun.of_walk hP Try.func46 rfl rfl rfl (by simp) rfl ?_
  simp only [Try.f46, byts, nilS, errno, FinR, evRes, evRVs, evRV, am, simprocAttr, tys]
  exact ⟨_, [], [], rfl, Ent.plain rfl rfl rfl trivial rfl, rfl, rfl⟩

set_option maxRecDepth 8000 in
set_option maxHeartbeats 4000000 in
theorem refOTakeC (c : UInt8) (r : List UInt8) (hl : r.length ≤ 10000000) : AFun Try.prog 46 [byts (c :: r)] [] (takeOR (takeO (c :: r))) [] := by
  have hfail : AFun Try.prog 46 [byts (c :: r)] [] failO [] → AFun Try.prog 46 [byts (c :: r)] [] (takeOR none) [] := fun h => AFun.cle h ⟨.inl rfl, .inr ⟨rfl, 2, rfl⟩, .inl rfl, .inl rfl, .inr ⟨rfl, 3, rfl⟩, trivial⟩
  have hI : ((0 : Int) < (((c :: r : List UInt8).length : Nat) : Int)) := by rw [List.length_cons]; omega
  have hI1 : ((1 : Int) ≤ (((c :: r : List UInt8).length : Nat) : Int)) := by rw [List.length_cons]; omega
  have hE : ((((c :: r : List UInt8).length : Nat) : Int) == 0) = false := by rw [beq_eq_false_iff_ne, List.length_cons]; omega
  have h0 : (c :: r : List UInt8)[0]? = some c := rfl
  have hd : (c :: r : List UInt8).drop 1 = r := rfl
  have e1 : ((c.toNat : Int) == 1) = decide (c = 1) := u8eq c 1 (by omega)
  have e3 : ((c.toNat : Int) == 3) = decide (c = 3) := u8eq c 3 (by omega)
  have e4 : ((c.toNat : Int) == 4) = decide (c = 4) := u8eq c 4 (by omega)
  have hfail2 : takeK c r = none → AFun Try.prog 46 [byts (c :: r)] [] failO [] → AFun Try.prog 46 [byts (c :: r)] [] (takeOR (takeO (c :: r))) [] := fun h w => by
    have e : takeO (c :: r) = none := h
    rw [e]; exact hfail w
  have hok : ∀ (o : OpT) (rest : List UInt8) (A : List DV), takeK c r = some (o, rest) → cle A (encO o) → AFun Try.prog 46 [byts (c :: r)] [] (.tup [.d (.agg A), byts rest, errno 0]) [] → AFun Try.prog 46 [byts (c :: r)] [] (takeOR (takeO (c :: r))) [] := fun o rest A h hc w => by
    have e : takeO (c :: r) = some (o, rest) := h
    rw [e]; exact AFun.cle w hc
  by_cases k1 : c = 1
  · have d1 : decide (c = 1) = true := decide_eq_true k1
    have cT := refLTake r (by omega)
    rcases hk : takeLb r with _ | ⟨l, r1⟩
    · refine hfail2 (by unfold takeK; rw [if_pos k1, hk]) ?_
      rw [hk] at cT
      generalize (c :: r : List UInt8) = bb at *
      refine AFun.of_walk hP Try.func46 rfl rfl rfl (by simp) rfl ?_
      simp only [Try.f46, byts, hE, hI, hI1, h0, encB, Int.toNat_zero, ← List.map_drop, ← List.map_take, List.take_length, hd, Int.toNat_one, Int.toNat_natCast, List.nil_append, e1, d1, am, simprocAttr, tys]
      refine ⟨Int.le_refl _, by simp; omega, ?_⟩
      refine ACall.frz [3] ?_
      try simp only [am, simprocAttr, tys]
      refine ACall.of (cT) [] [] rfl (by simp) (by simp) (by simp) (by repeat' (first | exact trivial | exact .inl rfl | exact .inr rfl | exact .inr ⟨rfl, rfl, rfl, by simp; done⟩ | exact .inr ⟨rfl, by simp; done⟩ | exact .inr ⟨rfl, rfl, by simp; done⟩ | apply And.intro)) (by repeat' (first | exact trivial | rfl | exact (tkC_ren.1 _ _).symm | (simp; done) | apply And.intro)) (by first | exact .inl rfl | (refine .inr ⟨trivial, ?_⟩; first | (intro row h; rcases List.mem_singleton.1 h with rfl; exact nvB _) | (intro row h; cases h; done) | (simp; done)) | (refine .inr ⟨by simp [nvP, nvP.nvPs, nvD, nilS, errno], ?_⟩; first | (intro row h; rcases List.mem_singleton.1 h with rfl; exact nvB _) | (intro row h; cases h; done) | (simp [nvRow, nvD, nvP]; done))) ?_
      simp only [takeLR, nilS, errno, FinR, evRes, evRVs, evRV, am, simprocAttr, tys]
      exact ⟨_, [], [], rfl, Ent.plain rfl rfl rfl trivial rfl, rfl, rfl⟩
    · rw [hk] at cT
      have hrl : r1.length ≤ r.length := by rw [(takeLb_some hk).2]; simp
      rcases hn1 : takeNum r1 with _ | ⟨u, r2⟩
      · refine hfail2 (by unfold takeK; rw [if_pos k1, hk]; simp only [hn1]) ?_
        generalize (c :: r : List UInt8) = bb at *
        refine AFun.of_walk hP Try.func46 rfl rfl rfl (by simp) rfl ?_
        simp only [Try.f46, byts, hE, hI, hI1, h0, encB, Int.toNat_zero, ← List.map_drop, ← List.map_take, List.take_length, hd, Int.toNat_one, Int.toNat_natCast, List.nil_append, e1, d1, am, simprocAttr, tys]
        refine ⟨Int.le_refl _, by simp; omega, ?_⟩
        refine ACall.frz [3] ?_
        try simp only [am, simprocAttr, tys]
        refine ACall.of (cT) [] [] rfl (by simp) (by simp) (by simp) (by repeat' (first | exact trivial | exact .inl rfl | exact .inr rfl | exact .inr ⟨rfl, rfl, rfl, by simp; done⟩ | exact .inr ⟨rfl, by simp; done⟩ | exact .inr ⟨rfl, rfl, by simp; done⟩ | apply And.intro)) (by repeat' (first | exact trivial | rfl | exact (tkC_ren.1 _ _).symm | (simp; done) | apply And.intro)) (by first | exact .inl rfl | (refine .inr ⟨trivial, ?_⟩; first | (intro row h; rcases List.mem_singleton.1 h with rfl; exact nvB _) | (intro row h; cases h; done) | (simp; done)) | (refine .inr ⟨by simp [nvP, nvP.nvPs, nvD, nilS, errno], ?_⟩; first | (intro row h; rcases List.mem_singleton.1 h with rfl; exact nvB _) | (intro row h; cases h; done) | (simp [nvRow, nvD, nvP]; done))) ?_
        simp only [takeLR, byts, errno, am, simprocAttr, tys]
        refine ACall.of (refInt (some r1) (by intro bs h; cases h <;> omega)) [4] [] rfl (by simp) (by simp) (by simp) (by repeat' (first | exact trivial | exact .inl rfl | exact .inr rfl | exact .inr ⟨rfl, rfl, rfl, by simp; done⟩ | exact .inr ⟨rfl, by simp; done⟩ | exact .inr ⟨rfl, rfl, by simp; done⟩ | apply And.intro)) (by repeat' (first | exact trivial | rfl | exact (tkC_ren.1 _ _).symm | (simp; done) | apply And.intro)) (by first | exact .inl rfl | (refine .inr ⟨trivial, ?_⟩; first | (intro row h; rcases List.mem_singleton.1 h with rfl; exact nvB _) | (intro row h; cases h; done) | (simp; done)) | (refine .inr ⟨by simp [nvP, nvP.nvPs, nvD, nilS, errno], ?_⟩; first | (intro row h; rcases List.mem_singleton.1 h with rfl; exact nvB _) | (intro row h; cases h; done) | (simp [nvRow, nvD, nvP]; done))) ?_
        simp only [numT_no hn1, int, tkC_ren, am, simprocAttr, tys]
        refine ACall.of (refInt (none) (by intro bs h; cases h <;> omega)) [4] [] rfl (by simp) (by simp) (by simp) (by repeat' (first | exact trivial | exact .inl rfl | exact .inr rfl | exact .inr ⟨rfl, rfl, rfl, by simp; done⟩ | exact .inr ⟨rfl, by simp; done⟩ | exact .inr ⟨rfl, rfl, by simp; done⟩ | apply And.intro)) (by repeat' (first | exact trivial | rfl | exact (tkC_ren.1 _ _).symm | (simp; done) | apply And.intro)) (by first | exact .inl rfl | (refine .inr ⟨trivial, ?_⟩; first | (intro row h; rcases List.mem_singleton.1 h with rfl; exact nvB _) | (intro row h; cases h; done) | (simp; done)) | (refine .inr ⟨by simp [nvP, nvP.nvPs, nvD, nilS, errno], ?_⟩; first | (intro row h; rcases List.mem_singleton.1 h with rfl; exact nvB _) | (intro row h; cases h; done) | (simp [nvRow, nvD, nvP]; done))) ?_
        simp only [numT_bad, int, tkC_ren, am, simprocAttr, tys]
        simp only [tkC, bool, nilS, errno, FinR, evRes, evRVs, evRV, am, simprocAttr, tys]
        exact ⟨_, [], [], rfl, Ent.plain rfl rfl rfl trivial rfl, rfl, rfl⟩
      · have hr2 : r2.length ≤ r1.length := by rw [(takeNum_some hn1).2]; simp
        rcases hn2 : takeNum r2 with _ | ⟨u2, r3⟩
        · refine hfail2 (by unfold takeK; rw [if_pos k1, hk]; simp only [hn1, hn2]) ?_
          generalize (c :: r : List UInt8) = bb at *
          refine AFun.of_walk hP Try.func46 rfl rfl rfl (by simp) rfl ?_
          simp only [Try.f46, byts, hE, hI, hI1, h0, encB, Int.toNat_zero, ← List.map_drop, ← List.map_take, List.take_length, hd, Int.toNat_one, Int.toNat_natCast, List.nil_append, e1, d1, am, simprocAttr, tys]
          refine ⟨Int.le_refl _, by simp; omega, ?_⟩
          refine ACall.frz [3] ?_
          try simp only [am, simprocAttr, tys]
          refine ACall.of (cT) [] [] rfl (by simp) (by simp) (by simp) (by repeat' (first | exact trivial | exact .inl rfl | exact .inr rfl | exact .inr ⟨rfl, rfl, rfl, by simp; done⟩ | exact .inr ⟨rfl, by simp; done⟩ | exact .inr ⟨rfl, rfl, by simp; done⟩ | apply And.intro)) (by repeat' (first | exact trivial | rfl | exact (tkC_ren.1 _ _).symm | (simp; done) | apply And.intro)) (by first | exact .inl rfl | (refine .inr ⟨trivial, ?_⟩; first | (intro row h; rcases List.mem_singleton.1 h with rfl; exact nvB _) | (intro row h; cases h; done) | (simp; done)) | (refine .inr ⟨by simp [nvP, nvP.nvPs, nvD, nilS, errno], ?_⟩; first | (intro row h; rcases List.mem_singleton.1 h with rfl; exact nvB _) | (intro row h; cases h; done) | (simp [nvRow, nvD, nvP]; done))) ?_
          simp only [takeLR, byts, errno, am, simprocAttr, tys]
          refine ACall.of (refInt (some r1) (by intro bs h; cases h <;> omega)) [4] [] rfl (by simp) (by simp) (by simp) (by repeat' (first | exact trivial | exact .inl rfl | exact .inr rfl | exact .inr ⟨rfl, rfl, rfl, by simp; done⟩ | exact .inr ⟨rfl, by simp; done⟩ | exact .inr ⟨rfl, rfl, by simp; done⟩ | apply And.intro)) (by repeat' (first | exact trivial | rfl | exact (tkC_ren.1 _ _).symm | (simp; done) | apply And.intro)) (by first | exact .inl rfl | (refine .inr ⟨trivial, ?_⟩; first | (intro row h; rcases List.mem_singleton.1 h with rfl; exact nvB _) | (intro row h; cases h; done) | (simp; done)) | (refine .inr ⟨by simp [nvP, nvP.nvPs, nvD, nilS, errno], ?_⟩; first | (intro row h; rcases List.mem_singleton.1 h with rfl; exact nvB _) | (intro row h; cases h; done) | (simp [nvRow, nvD, nvP]; done))) ?_
          simp only [numT_sm hn1, int, tkC_ren, am, simprocAttr, tys]
          refine ACall.of (refInt (some r2) (by intro bs h; cases h <;> omega)) [4] [] rfl (by simp) (by simp) (by simp) (by repeat' (first | exact trivial | exact .inl rfl | exact .inr rfl | exact .inr ⟨rfl, rfl, rfl, by simp; done⟩ | exact .inr ⟨rfl, by simp; done⟩ | exact .inr ⟨rfl, rfl, by simp; done⟩ | apply And.intro)) (by repeat' (first | exact trivial | rfl | exact (tkC_ren.1 _ _).symm | (simp; done) | apply And.intro)) (by first | exact .inl rfl | (refine .inr ⟨trivial, ?_⟩; first | (intro row h; rcases List.mem_singleton.1 h with rfl; exact nvB _) | (intro row h; cases h; done) | (simp; done)) | (refine .inr ⟨by simp [nvP, nvP.nvPs, nvD, nilS, errno], ?_⟩; first | (intro row h; rcases List.mem_singleton.1 h with rfl; exact nvB _) | (intro row h; cases h; done) | (simp [nvRow, nvD, nvP]; done))) ?_
          simp only [numT_no hn2, int, tkC_ren, am, simprocAttr, tys]
          simp only [tkC, bool, nilS, errno, FinR, evRes, evRVs, evRV, am, simprocAttr, tys]
          exact ⟨_, [], [], rfl, Ent.plain rfl rfl rfl trivial rfl, rfl, rfl⟩
        · have hr3 : r3.length ≤ r2.length := by rw [(takeNum_some hn2).2]; simp
          have hro : rightO (c, l, (unfold' u, unfold' u2, ()), [], ()) = true := by unfold rightO noA; rw [if_pos k1]; simp [(takeLb_some hk).1]
          have hle : cle [.lit (.int .u8 c.toNat), .sl 2 (l.map encL), i64D (unfold' u), i64D (unfold' u2), nlD] (encO (c, l, (unfold' u, unfold' u2, ()), [], ())) := ⟨.inl rfl, .inl rfl, .inl rfl, .inl rfl, .inr ⟨rfl, 3, rfl⟩, trivial⟩
          have cR := argO14 (refORight _ (fit_of hro (unfold_I64 _ (takeNum_some hn1).1) (unfold_I64 _ (takeNum_some hn2).1)).toFit) hle
          rw [hro] at cR
          refine hok (c, l, (unfold' u, unfold' u2, ()), [], ()) r3 [.lit (.int .u8 c.toNat), .sl 2 (l.map encL), i64D (unfold' u), i64D (unfold' u2), nlD] (by unfold takeK; rw [if_pos k1, hk]; simp only [hn1, hn2]) hle ?_
          generalize (c :: r : List UInt8) = bb at *
          refine AFun.of_walk hP Try.func46 rfl rfl rfl (by simp) rfl ?_
          simp only [Try.f46, byts, hE, hI, hI1, h0, encB, Int.toNat_zero, ← List.map_drop, ← List.map_take, List.take_length, hd, Int.toNat_one, Int.toNat_natCast, List.nil_append, e1, d1, am, simprocAttr, tys]
          refine ⟨Int.le_refl _, by simp; omega, ?_⟩
          refine ACall.frz [3] ?_
          try simp only [am, simprocAttr, tys]
          refine ACall.of (cT) [] [] rfl (by simp) (by simp) (by simp) (by repeat' (first | exact trivial | exact .inl rfl | exact .inr rfl | exact .inr ⟨rfl, rfl, rfl, by simp; done⟩ | exact .inr ⟨rfl, by simp; done⟩ | exact .inr ⟨rfl, rfl, by simp; done⟩ | apply And.intro)) (by repeat' (first | exact trivial | rfl | exact (tkC_ren.1 _ _).symm | (simp; done) | apply And.intro)) (by first | exact .inl rfl | (refine .inr ⟨trivial, ?_⟩; first | (intro row h; rcases List.mem_singleton.1 h with rfl; exact nvB _) | (intro row h; cases h; done) | (simp; done)) | (refine .inr ⟨by simp [nvP, nvP.nvPs, nvD, nilS, errno], ?_⟩; first | (intro row h; rcases List.mem_singleton.1 h with rfl; exact nvB _) | (intro row h; cases h; done) | (simp [nvRow, nvD, nvP]; done))) ?_
          simp only [takeLR, byts, errno, am, simprocAttr, tys]
          refine ACall.of (refInt (some r1) (by intro bs h; cases h <;> omega)) [4] [] rfl (by simp) (by simp) (by simp) (by repeat' (first | exact trivial | exact .inl rfl | exact .inr rfl | exact .inr ⟨rfl, rfl, rfl, by simp; done⟩ | exact .inr ⟨rfl, by simp; done⟩ | exact .inr ⟨rfl, rfl, by simp; done⟩ | apply And.intro)) (by repeat' (first | exact trivial | rfl | exact (tkC_ren.1 _ _).symm | (simp; done) | apply And.intro)) (by first | exact .inl rfl | (refine .inr ⟨trivial, ?_⟩; first | (intro row h; rcases List.mem_singleton.1 h with rfl; exact nvB _) | (intro row h; cases h; done) | (simp; done)) | (refine .inr ⟨by simp [nvP, nvP.nvPs, nvD, nilS, errno], ?_⟩; first | (intro row h; rcases List.mem_singleton.1 h with rfl; exact nvB _) | (intro row h; cases h; done) | (simp [nvRow, nvD, nvP]; done))) ?_
          simp only [numT_sm hn1, int, tkC_ren, am, simprocAttr, tys]
          refine ACall.of (refInt (some r2) (by intro bs h; cases h <;> omega)) [4] [] rfl (by simp) (by simp) (by simp) (by repeat' (first | exact trivial | exact .inl rfl | exact .inr rfl | exact .inr ⟨rfl, rfl, rfl, by simp; done⟩ | exact .inr ⟨rfl, by simp; done⟩ | exact .inr ⟨rfl, rfl, by simp; done⟩ | apply And.intro)) (by repeat' (first | exact trivial | rfl | exact (tkC_ren.1 _ _).symm | (simp; done) | apply And.intro)) (by first | exact .inl rfl | (refine .inr ⟨trivial, ?_⟩; first | (intro row h; rcases List.mem_singleton.1 h with rfl; exact nvB _) | (intro row h; cases h; done) | (simp; done)) | (refine .inr ⟨by simp [nvP, nvP.nvPs, nvD, nilS, errno], ?_⟩; first | (intro row h; rcases List.mem_singleton.1 h with rfl; exact nvB _) | (intro row h; cases h; done) | (simp [nvRow, nvD, nvP]; done))) ?_
          simp only [numT_sm hn2, int, tkC_ren, am, simprocAttr, tys]
          try simp only [tkC, bool, byts, am, simprocAttr, tys]
          refine ACall.of (cR) [] [] rfl (by simp) (by simp) (by simp) (by repeat' (first | exact trivial | exact .inl rfl | exact .inr rfl | exact .inr ⟨rfl, rfl, rfl, by simp; done⟩ | exact .inr ⟨rfl, by simp; done⟩ | exact .inr ⟨rfl, rfl, by simp; done⟩ | apply And.intro)) (by repeat' (first | exact trivial | rfl | exact (tkC_ren.1 _ _).symm | (simp; done) | apply And.intro)) (by first | exact .inl rfl | (refine .inr ⟨trivial, ?_⟩; first | (intro row h; rcases List.mem_singleton.1 h with rfl; exact nvB _) | (intro row h; cases h; done) | (simp; done)) | (refine .inr ⟨by simp [nvP, nvP.nvPs, nvD, nilS, errno], ?_⟩; first | (intro row h; rcases List.mem_singleton.1 h with rfl; exact nvB _) | (intro row h; cases h; done) | (simp [nvRow, nvD, nvP]; done))) ?_
          simp only [bool, am, simprocAttr, tys]
          refine ⟨by simp; omega, ?_⟩
          simp only [List.nil_append, errno, FinR, evRes, evRVs, evRV, am, simprocAttr, tys]
          exact ⟨by kernel_rfl, ⟨_, [389], [], rfl, ⟨rfl, rfl, by simp, (fun i hi => absurd hi (Nat.not_lt_zero _)), trivial, trivial, rfl, by decide, rfl, (by first | rfl | simp [scRow, tkC_scs])⟩, rfl, rfl⟩⟩
  · have d1 : decide (c = 1) = false := decide_eq_false k1
    by_cases k3 : c = 3
    · have d3 : decide (c = 3) = true := decide_eq_true k3
      rcases hn1 : takeNum r with _ | ⟨u, r1⟩
      · refine hfail2 (by unfold takeK; rw [if_neg k1, if_pos k3]; simp only [hn1]) ?_
        generalize (c :: r : List UInt8) = bb at *
        refine AFun.of_walk hP Try.func46 rfl rfl rfl (by simp) rfl ?_
        simp only [Try.f46, byts, hE, hI, hI1, h0, encB, Int.toNat_zero, ← List.map_drop, ← List.map_take, List.take_length, hd, Int.toNat_one, Int.toNat_natCast, List.nil_append, e1, d1, e3, d3, am, simprocAttr, tys]
        refine ⟨Int.le_refl _, by simp; omega, ?_⟩
        refine ACall.frz [3] ?_
        try simp only [am, simprocAttr, tys]
        refine ACall.of (refInt (some r) (by intro bs h; cases h <;> omega)) [4] [] rfl (by simp) (by simp) (by simp) (by repeat' (first | exact trivial | exact .inl rfl | exact .inr rfl | exact .inr ⟨rfl, rfl, rfl, by simp; done⟩ | exact .inr ⟨rfl, by simp; done⟩ | exact .inr ⟨rfl, rfl, by simp; done⟩ | apply And.intro)) (by repeat' (first | exact trivial | rfl | exact (tkC_ren.1 _ _).symm | (simp; done) | apply And.intro)) (by first | exact .inl rfl | (refine .inr ⟨trivial, ?_⟩; first | (intro row h; rcases List.mem_singleton.1 h with rfl; exact nvB _) | (intro row h; cases h; done) | (simp; done)) | (refine .inr ⟨by simp [nvP, nvP.nvPs, nvD, nilS, errno], ?_⟩; first | (intro row h; rcases List.mem_singleton.1 h with rfl; exact nvB _) | (intro row h; cases h; done) | (simp [nvRow, nvD, nvP]; done))) ?_
        simp only [numT_no hn1, int, tkC_ren, am, simprocAttr, tys]
        simp only [tkC, bool, nilS, errno, FinR, evRes, evRVs, evRV, am, simprocAttr, tys]
        exact ⟨_, [], [], rfl, Ent.plain rfl rfl rfl trivial rfl, rfl, rfl⟩
      · have hr3 : r1.length ≤ r.length := by rw [(takeNum_some hn1).2]; simp
        have hro : rightO (c, [], (unfold' u, 0, ()), [], ()) = true := by unfold rightO noA noL z2; rw [if_neg k1, if_neg (by show ¬ c = 4; rw [k3]; decide), if_pos k3]; rfl
        have hle : cle [.lit (.int .u8 c.toNat), nlD, i64D (unfold' u), i64D 0, nlD] (encO (c, [], (unfold' u, 0, ()), [], ())) := ⟨.inl rfl, .inr ⟨rfl, 2, rfl⟩, .inl rfl, .inl rfl, .inr ⟨rfl, 3, rfl⟩, trivial⟩
        have cR := argO14 (refORight _ (fit_of hro (unfold_I64 _ (takeNum_some hn1).1) i64_0).toFit) hle
        rw [hro] at cR
        refine hok (c, [], (unfold' u, 0, ()), [], ()) r1 [.lit (.int .u8 c.toNat), nlD, i64D (unfold' u), i64D 0, nlD] (by unfold takeK; rw [if_neg k1, if_pos k3]; simp only [hn1]) hle ?_
        generalize (c :: r : List UInt8) = bb at *
        refine AFun.of_walk hP Try.func46 rfl rfl rfl (by simp) rfl ?_
        simp only [Try.f46, byts, hE, hI, hI1, h0, encB, Int.toNat_zero, ← List.map_drop, ← List.map_take, List.take_length, hd, Int.toNat_one, Int.toNat_natCast, List.nil_append, e1, d1, e3, d3, am, simprocAttr, tys]
        refine ⟨Int.le_refl _, by simp; omega, ?_⟩
        refine ACall.frz [3] ?_
        try simp only [am, simprocAttr, tys]
        refine ACall.of (refInt (some r) (by intro bs h; cases h <;> omega)) [4] [] rfl (by simp) (by simp) (by simp) (by repeat' (first | exact trivial | exact .inl rfl | exact .inr rfl | exact .inr ⟨rfl, rfl, rfl, by simp; done⟩ | exact .inr ⟨rfl, by simp; done⟩ | exact .inr ⟨rfl, rfl, by simp; done⟩ | apply And.intro)) (by repeat' (first | exact trivial | rfl | exact (tkC_ren.1 _ _).symm | (simp; done) | apply And.intro)) (by first | exact .inl rfl | (refine .inr ⟨trivial, ?_⟩; first | (intro row h; rcases List.mem_singleton.1 h with rfl; exact nvB _) | (intro row h; cases h; done) | (simp; done)) | (refine .inr ⟨by simp [nvP, nvP.nvPs, nvD, nilS, errno], ?_⟩; first | (intro row h; rcases List.mem_singleton.1 h with rfl; exact nvB _) | (intro row h; cases h; done) | (simp [nvRow, nvD, nvP]; done))) ?_
        simp only [numT_sm hn1, int, tkC_ren, am, simprocAttr, tys]
        try simp only [tkC, bool, byts, am, simprocAttr, tys]
        refine ACall.of (cR) [] [] rfl (by simp) (by simp) (by simp) (by repeat' (first | exact trivial | exact .inl rfl | exact .inr rfl | exact .inr ⟨rfl, rfl, rfl, by simp; done⟩ | exact .inr ⟨rfl, by simp; done⟩ | exact .inr ⟨rfl, rfl, by simp; done⟩ | apply And.intro)) (by repeat' (first | exact trivial | rfl | exact (tkC_ren.1 _ _).symm | (simp; done) | apply And.intro)) (by first | exact .inl rfl | (refine .inr ⟨trivial, ?_⟩; first | (intro row h; rcases List.mem_singleton.1 h with rfl; exact nvB _) | (intro row h; cases h; done) | (simp; done)) | (refine .inr ⟨by simp [nvP, nvP.nvPs, nvD, nilS, errno], ?_⟩; first | (intro row h; rcases List.mem_singleton.1 h with rfl; exact nvB _) | (intro row h; cases h; done) | (simp [nvRow, nvD, nvP]; done))) ?_
        simp only [bool, am, simprocAttr, tys]
        refine ⟨by simp; omega, ?_⟩
        simp only [List.nil_append, errno, FinR, evRes, evRVs, evRV, am, simprocAttr, tys]
        exact ⟨by kernel_rfl, ⟨_, [389], [], rfl, ⟨rfl, rfl, by simp, (fun i hi => absurd hi (Nat.not_lt_zero _)), trivial, trivial, rfl, by decide, rfl, (by first | rfl | simp [scRow, tkC_scs])⟩, rfl, rfl⟩⟩
    · have d3 : decide (c = 3) = false := decide_eq_false k3
      by_cases k4 : c = 4
      · have d4 : decide (c = 4) = true := decide_eq_true k4
        have cT := refMTake r (by omega)
        rcases hk : takeA r with _ | ⟨l, r1⟩
        · refine hfail2 (by unfold takeK; rw [if_neg k1, if_neg k3, if_pos k4, hk]) ?_
          rw [hk] at cT
          generalize (c :: r : List UInt8) = bb at *
          refine AFun.of_walk hP Try.func46 rfl rfl rfl (by simp) rfl ?_
          simp only [Try.f46, byts, hE, hI, hI1, h0, encB, Int.toNat_zero, ← List.map_drop, ← List.map_take, List.take_length, hd, Int.toNat_one, Int.toNat_natCast, List.nil_append, e1, d1, e3, d3, e4, d4, am, simprocAttr, tys]
          refine ⟨Int.le_refl _, by simp; omega, ?_⟩
          refine ACall.frz [3] ?_
          try simp only [am, simprocAttr, tys]
          refine ACall.of (cT) [] [] rfl (by simp) (by simp) (by simp) (by repeat' (first | exact trivial | exact .inl rfl | exact .inr rfl | exact .inr ⟨rfl, rfl, rfl, by simp; done⟩ | exact .inr ⟨rfl, by simp; done⟩ | exact .inr ⟨rfl, rfl, by simp; done⟩ | apply And.intro)) (by repeat' (first | exact trivial | rfl | exact (tkC_ren.1 _ _).symm | (simp; done) | apply And.intro)) (by first | exact .inl rfl | (refine .inr ⟨trivial, ?_⟩; first | (intro row h; rcases List.mem_singleton.1 h with rfl; exact nvB _) | (intro row h; cases h; done) | (simp; done)) | (refine .inr ⟨by simp [nvP, nvP.nvPs, nvD, nilS, errno], ?_⟩; first | (intro row h; rcases List.mem_singleton.1 h with rfl; exact nvB _) | (intro row h; cases h; done) | (simp [nvRow, nvD, nvP]; done))) ?_
          simp only [takeAR, nilS, errno, FinR, evRes, evRVs, evRV, am, simprocAttr, tys]
          exact ⟨_, [], [], rfl, Ent.plain rfl rfl rfl trivial rfl, rfl, rfl⟩
        · rw [hk] at cT
          have hr3 : r1.length ≤ r.length := by rw [(takeA_some hk).2]; simp
          have hro : rightO (c, [], (0, 0, ()), l, ()) = true := by unfold rightO noL z1 z2; rw [if_neg k1, if_pos k4]; simp [(takeA_some hk).1]
          have hle : cle [.lit (.int .u8 c.toNat), nlD, i64D 0, i64D 0, .sl 3 (l.map encA)] (encO (c, [], (0, 0, ()), l, ())) := ⟨.inl rfl, .inr ⟨rfl, 2, rfl⟩, .inl rfl, .inl rfl, .inl rfl, trivial⟩
          have cR := argO14 (refORight _ (fit_of hro i64_0 i64_0).toFit) hle
          rw [hro] at cR
          refine hok (c, [], (0, 0, ()), l, ()) r1 [.lit (.int .u8 c.toNat), nlD, i64D 0, i64D 0, .sl 3 (l.map encA)] (by unfold takeK; rw [if_neg k1, if_neg k3, if_pos k4, hk]) hle ?_
          generalize (c :: r : List UInt8) = bb at *
          refine AFun.of_walk hP Try.func46 rfl rfl rfl (by simp) rfl ?_
          simp only [Try.f46, byts, hE, hI, hI1, h0, encB, Int.toNat_zero, ← List.map_drop, ← List.map_take, List.take_length, hd, Int.toNat_one, Int.toNat_natCast, List.nil_append, e1, d1, e3, d3, e4, d4, am, simprocAttr, tys]
          refine ⟨Int.le_refl _, by simp; omega, ?_⟩
          refine ACall.frz [3] ?_
          try simp only [am, simprocAttr, tys]
          refine ACall.of (cT) [] [] rfl (by simp) (by simp) (by simp) (by repeat' (first | exact trivial | exact .inl rfl | exact .inr rfl | exact .inr ⟨rfl, rfl, rfl, by simp; done⟩ | exact .inr ⟨rfl, by simp; done⟩ | exact .inr ⟨rfl, rfl, by simp; done⟩ | apply And.intro)) (by repeat' (first | exact trivial | rfl | exact (tkC_ren.1 _ _).symm | (simp; done) | apply And.intro)) (by first | exact .inl rfl | (refine .inr ⟨trivial, ?_⟩; first | (intro row h; rcases List.mem_singleton.1 h with rfl; exact nvB _) | (intro row h; cases h; done) | (simp; done)) | (refine .inr ⟨by simp [nvP, nvP.nvPs, nvD, nilS, errno], ?_⟩; first | (intro row h; rcases List.mem_singleton.1 h with rfl; exact nvB _) | (intro row h; cases h; done) | (simp [nvRow, nvD, nvP]; done))) ?_
          simp only [takeAR, byts, errno, am, simprocAttr, tys]
          try simp only [tkC, bool, byts, am, simprocAttr, tys]
          refine ACall.of (cR) [] [] rfl (by simp) (by simp) (by simp) (by repeat' (first | exact trivial | exact .inl rfl | exact .inr rfl | exact .inr ⟨rfl, rfl, rfl, by simp; done⟩ | exact .inr ⟨rfl, by simp; done⟩ | exact .inr ⟨rfl, rfl, by simp; done⟩ | apply And.intro)) (by repeat' (first | exact trivial | rfl | exact (tkC_ren.1 _ _).symm | (simp; done) | apply And.intro)) (by first | exact .inl rfl | (refine .inr ⟨trivial, ?_⟩; first | (intro row h; rcases List.mem_singleton.1 h with rfl; exact nvB _) | (intro row h; cases h; done) | (simp; done)) | (refine .inr ⟨by simp [nvP, nvP.nvPs, nvD, nilS, errno], ?_⟩; first | (intro row h; rcases List.mem_singleton.1 h with rfl; exact nvB _) | (intro row h; cases h; done) | (simp [nvRow, nvD, nvP]; done))) ?_
          simp only [bool, am, simprocAttr, tys]
          refine ⟨by simp; omega, ?_⟩
          simp only [List.nil_append, errno, FinR, evRes, evRVs, evRV, am, simprocAttr, tys]
          exact ⟨by kernel_rfl, ⟨_, [389], [], rfl, ⟨rfl, rfl, by simp, (fun i hi => absurd hi (Nat.not_lt_zero _)), trivial, trivial, rfl, by decide, rfl, (by first | rfl | simp [scRow, tkC_scs])⟩, rfl, rfl⟩⟩
      · have d4 : decide (c = 4) = false := decide_eq_false k4
        have hle : cle [.lit (.int .u8 c.toNat), nlD, i64D 0, i64D 0, nlD] (encO (c, [], (0, 0, ()), [], ())) := ⟨.inl rfl, .inr ⟨rfl, 2, rfl⟩, .inl rfl, .inl rfl, .inr ⟨rfl, 3, rfl⟩, trivial⟩
        have cR := argO14 (refORight (c, [], (0, 0, ()), [], ()) ⟨by simp, by simp, by simp, by simp⟩) hle
        by_cases k2 : c = 2
        · have hro : rightO (c, [], (0, 0, ()), [], ()) = true := by unfold rightO; rw [if_neg k1, if_neg k4, if_neg k3, if_pos k2]; rfl
          rw [hro] at cR
          refine hok (c, [], (0, 0, ()), [], ()) r [.lit (.int .u8 c.toNat), nlD, i64D 0, i64D 0, nlD] (by unfold takeK; rw [if_neg k1, if_neg k3, if_neg k4, if_pos k2]) hle ?_
          generalize (c :: r : List UInt8) = bb at *
          refine AFun.of_walk hP Try.func46 rfl rfl rfl (by simp) rfl ?_
          simp only [Try.f46, byts, hE, hI, hI1, h0, encB, Int.toNat_zero, ← List.map_drop, ← List.map_take, List.take_length, hd, Int.toNat_one, Int.toNat_natCast, List.nil_append, e1, d1, e3, d3, e4, d4, am, simprocAttr, tys]
          refine ⟨Int.le_refl _, by simp; omega, ?_⟩
          refine ACall.frz [3] ?_
          try simp only [am, simprocAttr, tys]
          try simp only [tkC, bool, byts, am, simprocAttr, tys]
          refine ACall.of (cR) [] [] rfl (by simp) (by simp) (by simp) (by repeat' (first | exact trivial | exact .inl rfl | exact .inr rfl | exact .inr ⟨rfl, rfl, rfl, by simp; done⟩ | exact .inr ⟨rfl, by simp; done⟩ | exact .inr ⟨rfl, rfl, by simp; done⟩ | apply And.intro)) (by repeat' (first | exact trivial | rfl | exact (tkC_ren.1 _ _).symm | (simp; done) | apply And.intro)) (by first | exact .inl rfl | (refine .inr ⟨trivial, ?_⟩; first | (intro row h; rcases List.mem_singleton.1 h with rfl; exact nvB _) | (intro row h; cases h; done) | (simp; done)) | (refine .inr ⟨by simp [nvP, nvP.nvPs, nvD, nilS, errno], ?_⟩; first | (intro row h; rcases List.mem_singleton.1 h with rfl; exact nvB _) | (intro row h; cases h; done) | (simp [nvRow, nvD, nvP]; done))) ?_
          simp only [bool, am, simprocAttr, tys]
          refine ⟨by simp; omega, ?_⟩
          simp only [List.nil_append, errno, FinR, evRes, evRVs, evRV, am, simprocAttr, tys]
          exact ⟨by kernel_rfl, ⟨_, [389], [], rfl, ⟨rfl, rfl, by simp, (fun i hi => absurd hi (Nat.not_lt_zero _)), trivial, trivial, rfl, by decide, rfl, (by first | rfl | simp [scRow, tkC_scs])⟩, rfl, rfl⟩⟩
        · have hro : rightO (c, [], (0, 0, ()), [], ()) = false := by unfold rightO; rw [if_neg k1, if_neg k4, if_neg k3, if_neg k2]
          rw [hro] at cR
          refine hfail2 (by unfold takeK; rw [if_neg k1, if_neg k3, if_neg k4, if_neg k2]) ?_
          generalize (c :: r : List UInt8) = bb at *
          refine AFun.of_walk hP Try.func46 rfl rfl rfl (by simp) rfl ?_
          simp only [Try.f46, byts, hE, hI, hI1, h0, encB, Int.toNat_zero, ← List.map_drop, ← List.map_take, List.take_length, hd, Int.toNat_one, Int.toNat_natCast, List.nil_append, e1, d1, e3, d3, e4, d4, am, simprocAttr, tys]
          refine ⟨Int.le_refl _, by simp; omega, ?_⟩
          refine ACall.frz [3] ?_
          try simp only [am, simprocAttr, tys]
          refine ACall.of (cR) [] [] rfl (by simp) (by simp) (by simp) (by repeat' (first | exact trivial | exact .inl rfl | exact .inr rfl | exact .inr ⟨rfl, rfl, rfl, by simp; done⟩ | exact .inr ⟨rfl, by simp; done⟩ | exact .inr ⟨rfl, rfl, by simp; done⟩ | apply And.intro)) (by repeat' (first | exact trivial | rfl | exact (tkC_ren.1 _ _).symm | (simp; done) | apply And.intro)) (by first | exact .inl rfl | (refine .inr ⟨trivial, ?_⟩; first | (intro row h; rcases List.mem_singleton.1 h with rfl; exact nvB _) | (intro row h; cases h; done) | (simp; done)) | (refine .inr ⟨by simp [nvP, nvP.nvPs, nvD, nilS, errno], ?_⟩; first | (intro row h; rcases List.mem_singleton.1 h with rfl; exact nvB _) | (intro row h; cases h; done) | (simp [nvRow, nvD, nvP]; done))) ?_
          simp only [bool, nilS, errno, FinR, evRes, evRVs, evRV, am, simprocAttr, tys]
          exact ⟨_, [], [], rfl, Ent.plain rfl rfl rfl trivial rfl, rfl, rfl⟩

theorem refOTake (b : List UInt8) (hl : b.length ≤ 10000000) : AFun Try.prog 46 [byts b] [] (takeOR (takeO b)) [] := by
  cases b with
  | nil => exact AFun.cle refOTakeE ⟨.inl rfl, .inr ⟨rfl, 2, rfl⟩, .inl rfl, .inl rfl, .inr ⟨rfl, 3, rfl⟩, trivial⟩
  | cons c r => exact refOTakeC c r (by simp at hl; omega)
end Go.Proofs.Ytflpphgccjlkjaa

set_option linter.unusedSimpArgs false
set_option linter.unusedVariables false
namespace Go.Proofs.Ytflpphgccjlkjaa
open Go Go.AM

theorem sealed_take (n : Nat) (r : List UInt8) (hn : n ≤ r.length) : (sealed (r.take n)).length = (leb n).length + n + 4 ∧ (n + 4 ≤ r.length → (sealed (r.take n) == (leb n ++ r).take ((leb n).length + n + 4)) = decide ((r.drop n).take 4 = be32 (crc (leb n ++ r.take n)))) := by
  have hx : (r.take n).length = n := by rw [List.length_take]; omega
  refine ⟨by rw [sealed_len, hx], fun h4 => ?_⟩
  have e : (leb n ++ r).take ((leb n).length + n + 4) = leb n ++ r.take n ++ (r.drop n).take 4 := by
    rw [Nat.add_assoc, List.take_length_add_append, List.append_assoc, List.take_add]
  rw [e]
  unfold sealed
  rw [hx, Bool.eq_iff_iff, beq_iff_eq, decide_eq_true_eq, List.append_cancel_left_eq]
  exact eq_comm

set_option maxRecDepth 8000 in
theorem refSTake (b : List UInt8) (hl : b.length ≤ 100000000) : AFun Try.prog 44 [byts b] [] (takeR (takeSeal b)) [] := by
  refine AFun.of_walk hP Try.func44 rfl rfl rfl (by simp) rfl ?_
  simp only [Try.f44, byts, am, simprocAttr, tys]
  refine ⟨by omega, ?_⟩
  refine ACall.frz [1] ?_
  simp only [am, simprocAttr, tys]
  refine ACall.of (refNum (some b) (by intro bs h; cases h; omega)) [2] [] rfl (by simp) (by simp) (by simp) (by repeat' (first | exact trivial | exact .inl rfl | exact .inr rfl | exact .inr ⟨rfl, rfl, rfl, by simp; done⟩ | exact .inr ⟨rfl, by simp; done⟩ | exact .inr ⟨rfl, rfl, by simp; done⟩ | apply And.intro)) (by repeat' (first | exact trivial | rfl | exact (tkC_ren.1 _ _).symm | (simp; done) | apply And.intro)) (by first | exact .inl rfl | (refine .inr ⟨trivial, ?_⟩; first | (intro row h; rcases List.mem_singleton.1 h with rfl; exact nvB _) | (intro row h; cases h; done) | (simp; done)) | (refine .inr ⟨by simp [nvP, nvP.nvPs, nvD, nilS, errno], ?_⟩; first | (intro row h; rcases List.mem_singleton.1 h with rfl; exact nvB _) | (intro row h; cases h; done) | (simp [nvRow, nvD, nvP]; done))) ?_
  simp only [tkC_ren, am, simprocAttr, tys]
  rcases hk : takeNum b with _ | ⟨n, r⟩
  · have ht : takeSeal b = none := by unfold takeSeal; rw [hk]
    simp only [ht, takeR, numT, hk, tkC, nilS, bool, byts, u64, FinR, evRes, evRVs, evRV, am, simprocAttr, tys]
    exact ⟨_, [], [], rfl, Ent.plain rfl rfl rfl trivial rfl, rfl, rfl⟩
  · obtain ⟨g4, g5⟩ := takeNum_some hk
    have g6 := leb_pos n
    have g7 := leb_ten n g4
    have gl : b.length = (leb n).length + r.length := by rw [g5]; simp
    have w1 : IntKind.u64.wrap (r.length : Int) = r.length := IntWalk.u64_in _ (by omega)
    rcases Nat.lt_or_ge r.length n with hn | hn
    · have hnI : ((r.length : Int) < (n : Int)) := by omega
      have ht : takeSeal b = none := by
        unfold takeSeal; rw [hk]
        simp only
        rw [if_neg (by omega)]
      simp only [ht, takeR, numT, hk, tkC, nilS, bool, byts, u64, w1, hnI, FinR, evRes, evRVs, evRV, am, simprocAttr, tys]
      exact ⟨_, [], [], rfl, Ent.plain rfl rfl rfl trivial rfl, rfl, rfl⟩
    · have hnI : ¬ ((r.length : Int) < (n : Int)) := by omega
      have hnI2 : ((n : Int) ≤ (r.length : Int)) := by omega
      have hxl : (r.take n).length = n := by rw [List.length_take]; omega
      obtain ⟨q1, q2⟩ := sealed_take n r hn
      simp only [numT, hk, tkC, nilS, bool, byts, u64, w1, hnI, hnI2, hxl, Int.natCast_nonneg, Int.toNat_natCast, ← List.map_take, ← List.map_drop, List.drop_zero, am, simprocAttr, tys]
      refine ⟨by omega, ?_⟩
      refine ACall.of (refSPut (r.take n) (by omega)) [] [4] rfl (by simp) (by simp) (by simp) (by repeat' (first | exact trivial | exact .inl rfl | exact .inr rfl | exact .inr ⟨rfl, rfl, rfl, by simp; done⟩ | exact .inr ⟨rfl, by simp; done⟩ | exact .inr ⟨rfl, rfl, by simp; done⟩ | apply And.intro)) (by repeat' (first | exact trivial | rfl | exact (tkC_ren.1 _ _).symm | (simp; done) | apply And.intro)) (by first | exact .inl rfl | (refine .inr ⟨trivial, ?_⟩; first | (intro row h; rcases List.mem_singleton.1 h with rfl; exact nvB _) | (intro row h; cases h; done) | (simp; done)) | (refine .inr ⟨by simp [nvP, nvP.nvPs, nvD, nilS, errno], ?_⟩; first | (intro row h; rcases List.mem_singleton.1 h with rfl; exact nvB _) | (intro row h; cases h; done) | (simp [nvRow, nvD, nvP]; done))) ?_
      rcases Nat.lt_or_ge r.length (n + 4) with h4 | h4
      · have hI : ((b.length : Int) < (((leb n).length + n + 4 : Nat) : Int)) := by omega
        have ht : takeSeal b = none := by
          unfold takeSeal; rw [hk]
          simp only
          rw [if_neg (by omega)]
        simp only [ht, takeR, nilS, q1, hI, FinR, evRes, evRVs, evRV, am, simprocAttr, tys]
        exact ⟨by kernel_rfl, ⟨_, [], [], rfl, Ent.plain rfl rfl rfl trivial rfl, rfl, rfl⟩⟩
      · have hI : ¬ ((b.length : Int) < (((leb n).length + n + 4 : Nat) : Int)) := by omega
        have hI2 : ((((leb n).length + n + 4 : Nat) : Int) ≤ (b.length : Int)) := by omega
        have q3 := q2 h4
        rw [← g5] at q3
        have t5 : b.drop ((leb n).length + n + 4) = r.drop (n + 4) := by rw [g5, Nat.add_assoc, List.drop_length_add_append]
        rcases hq : decide ((r.drop n).take 4 = be32 (crc (leb n ++ r.take n))) with _ | _
        · have ht : takeSeal b = none := by
            unfold takeSeal; rw [hk]
            simp only
            rw [if_neg (fun h => by rw [decide_eq_false_iff_not] at hq; exact hq h.2)]
          simp only [ht, takeR, nilS, q1, q3, hq, hI, hI2, Int.natCast_nonneg, Int.toNat_natCast, ← List.map_take, ← List.map_drop, List.drop_zero, strOf_encB, bl_toList, FinR, evRes, evRVs, evRV, am, simprocAttr, tys]
          exact ⟨by kernel_rfl, ⟨_, [], [], rfl, Ent.plain rfl rfl rfl trivial rfl, rfl, rfl⟩⟩
        · have ht : takeSeal b = some (r.take n, r.drop (n + 4)) := by
            unfold takeSeal; rw [hk]
            simp only
            rw [if_pos ⟨by omega, of_decide_eq_true hq⟩]
          have l2 : (r.drop (n + 4)).length ≤ r.length := by simp
          simp only [ht, takeR, byts, errno, q1, q3, hq, hI, hI2, t5, Int.natCast_nonneg, Int.toNat_natCast, ← List.map_take, ← List.map_drop, List.drop_zero, List.take_length, strOf_encB, bl_toList, FinR, evRes, evRVs, evRV, am, simprocAttr, tys]
          exact ⟨by kernel_rfl, by omega, by omega, ⟨_, [4, 967], [], rfl, ⟨rfl, rfl, by simp, (fun i hi => absurd hi (Nat.not_lt_zero _)), trivial, trivial, rfl, by decide, rfl, (by first | rfl | simp [scRow, tkC_scs])⟩, rfl, rfl⟩⟩
end Go.Proofs.Ytflpphgccjlkjaa
