/- Proved here: what functions of the program compute, and plain laws. No condition. -/
import Derived.Test.YtkadildabhkocaaDec5
import Derived.Test.YtkadildabhkocaaTkLaw5
import Derived.Test.YtkadildabhkocaaClone
set_option linter.unusedSimpArgs false
set_option linter.unusedVariables false
namespace Go.Proofs.Ytkadildabhkocaa
open Go Go.AM

def takeLR : Option (List Lab × List UInt8) → PV
  | none => .tup [nilS, nilS, errno 6]
  | some (l, r) => .tup [.d (.sl 2 (l.map encL)), byts r, errno 0]
theorem textT_none {t : Tk} (h : (textT t).2 = none) : (textT t).1 = [] := by
  unfold textT at h ⊢
  rcases hk2 : (numT t).2 with _ | s
  · rfl
  · rw [hk2] at h
    simp only at h ⊢
    split at h
    · rename_i h'; rw [if_pos h']
    · cases h
theorem lab_fwd {t : Tk} {r3 : List UInt8} (h : (textT (textT t).2).2 = some r3) : t = some (encLab ((textT t).1, (textT (textT t).2).1, ()) ++ r3) := by
  have e2 := textT_some h
  have e1 := textT_some e2
  conv => lhs; rw [e1]
  simp [encLab]
theorem lab_bwd (a : Lab) (r : List UInt8) (ha : a.1.length ≤ 16 ∧ a.2.1.length ≤ 64) : textT (some (encLab a ++ r)) = (a.1, some (lebT a.2.1 ++ r)) ∧ textT (some (lebT a.2.1 ++ r)) = (a.2.1, some r) := by
  refine ⟨?_, textT_lebT _ _ (by omega)⟩
  have := textT_lebT a.1 (lebT a.2.1 ++ r) (by omega)
  unfold encLab
  simpa using this
theorem right_vals {l : List Lab} (h : rightL l = true) : l ≠ [] ∧ ∀ x ∈ l, x.2.1 ≠ [] := by
  obtain ⟨h1, h2, h3⟩ := (rightL_iff l).1 h
  refine ⟨fun e => by subst e; simp at h2, fun x hx e => ?_⟩
  obtain ⟨i, hi, rfl⟩ := List.getElem_of_mem hx
  have := h1 i hi
  rw [okAt_get l i hi] at this
  simp only [Bool.and_eq_true, valOk, decide_eq_true_eq] at this
  rw [e] at this; simp at this

set_option maxRecDepth 8000 in
theorem labelTake (b : List UInt8) (hl : b.length ≤ 100000000) : AFun Try.prog 34 [byts b] [] (takeLR (takeLb b)) [] := by
  refine AFun.of_walk hP Try.func34 rfl rfl rfl (by simp) rfl ?_
  simp only [Try.f34, am, simprocAttr, tys]
  refine ACall.of (octsNew b (by omega)) [] [] rfl (by simp) (by simp) (by simp) (by repeat' (first | exact trivial | exact .inl rfl | exact .inr rfl | exact .inr ⟨rfl, by simp⟩ | exact .inr ⟨rfl, rfl, by simp⟩ | apply And.intro)) (by repeat' (first | exact trivial | rfl | exact (tkC_ren.1 _ _).symm | (simp; done) | apply And.intro)) (by first | exact .inl rfl | (refine .inr ⟨trivial, ?_⟩; first | (intro row h; rcases List.mem_singleton.1 h with rfl; exact nvB _) | (intro row h; cases h; done) | (simp; done)) | (refine .inr ⟨by simp [nvP, nvP.nvPs, nvD, nilS, errno], ?_⟩; first | (intro row h; rcases List.mem_singleton.1 h with rfl; exact nvB _) | (intro row h; cases h; done) | (simp [nvRow, nvD, nvP]; done))) ?_
  simp only [tkC_ren, am, simprocAttr, tys]
  refine ACall.of (tkNum (some b) (by intro bs h; cases h; omega)) [0] [] rfl (by simp) (by simp) (by simp) (by repeat' (first | exact trivial | exact .inl rfl | exact .inr rfl | exact .inr ⟨rfl, by simp⟩ | exact .inr ⟨rfl, rfl, by simp⟩ | apply And.intro)) (by repeat' (first | exact trivial | rfl | exact (tkC_ren.1 _ _).symm | (simp; done) | apply And.intro)) (by first | exact .inl rfl | (refine .inr ⟨trivial, ?_⟩; first | (intro row h; rcases List.mem_singleton.1 h with rfl; exact nvB _) | (intro row h; cases h; done) | (simp; done)) | (refine .inr ⟨by simp [nvP, nvP.nvPs, nvD, nilS, errno], ?_⟩; first | (intro row h; rcases List.mem_singleton.1 h with rfl; exact nvB _) | (intro row h; cases h; done) | (simp [nvRow, nvD, nvP]; done))) ?_
  have hB0 : TkB b.length (some b) := fun bs h => by cases h; exact Nat.le_refl _
  rcases hk : takeNum b with _ | ⟨n, r⟩
  · have ht : takeLb b = none := by unfold takeLb takeL; rw [hk]
    have hr0 := labelRight [] (by simp) (by simp)
    rw [show rightL [] = false from rfl] at hr0
    simp only [numT, hk, u64, tkC_ren, am, simprocAttr, tys]
    refine ALoopW.intro 40 0 (ι := Unit) (fun _ => [(7, nilS), (15, .d (.lit (.int .u64 0))), (16, .d (.lit (.int .u64 0)))]) (fun _ => []) (fun _ => 0) () [] [] ?_ (fun _ => ?_)
    · exact Ent.plain rfl rfl rfl (⟨.inr rfl, .inr rfl, .inr rfl, trivial⟩) rfl
    have h0 : ¬ ((0 : Int) < 0) := by omega
    simp only [nilS, h0, am, simprocAttr, tys]
    refine ACall.of (hr0) [] [] rfl (by simp) (by simp) (by simp) (by repeat' (first | exact trivial | exact .inl rfl | exact .inr rfl | exact .inr ⟨rfl, by simp⟩ | exact .inr ⟨rfl, rfl, by simp⟩ | apply And.intro)) (by repeat' (first | exact trivial | rfl | exact (tkC_ren.1 _ _).symm | (simp; done) | apply And.intro)) (by first | exact .inl rfl | (refine .inr ⟨trivial, ?_⟩; first | (intro row h; rcases List.mem_singleton.1 h with rfl; exact nvB _) | (intro row h; cases h; done) | (simp; done)) | (refine .inr ⟨by simp [nvP, nvP.nvPs, nvD, nilS, errno], ?_⟩; first | (intro row h; rcases List.mem_singleton.1 h with rfl; exact nvB _) | (intro row h; cases h; done) | (simp [nvRow, nvD, nvP]; done))) ?_
    simp only [bool, ht, takeLR, nilS, errno, FinR, evRes, evRVs, evRV, am, simprocAttr, tys]
    exact ⟨_, [], [], rfl, Ent.plain rfl rfl rfl trivial rfl, rfl, rfl⟩
  · obtain ⟨hn64, hbr⟩ := takeNum_some hk
    have hnl : ∀ l r', b = putLb l ++ r' → l.length < 18446744073709551616 → l.length = n ∧ r = fl encLab l ++ r' := fun l r' h hl64 => by
      unfold putLb putL at h
      rw [hbr, List.append_assoc] at h
      obtain ⟨h1, h2⟩ := leb_prefix_free hn64 hl64 h
      exact ⟨h1.symm, h2⟩
    rcases Nat.lt_or_ge 6 n with h8 | h8
    · have h8I : ((6 : Int) < (n : Int)) := by omega
      have ht : takeLb b = none := by
        unfold takeLb takeL; rw [hk]
        simp only
        rw [if_neg (by omega)]
      simp only [numT, hk, u64, h8I, ht, takeLR, nilS, errno, tkC_ren, FinR, evRes, evRVs, evRV, am, simprocAttr, tys]
      exact ⟨_, [], [], rfl, Ent.plain rfl rfl rfl trivial rfl, rfl, rfl⟩
    · have h8I : ¬ ((6 : Int) < (n : Int)) := by omega
      have hr0 : TkB b.length (some r) := fun bs h => by cases h; rw [hbr]; simp
      simp only [numT, hk, u64, h8I, tkC_ren, am, simprocAttr, tys]
      refine ALoopW.ghost 7 2 rfl ?_
      simp only [am, simprocAttr, tys]
      refine ALoopW.intro 40 0 (ι := { z : Nat × List Lab × Tk // z.1 ≤ n ∧ z.2.1.length = z.1 ∧ TkB b.length z.2.2 ∧ (∀ x ∈ z.2.1, x.1.length ≤ b.length ∧ x.2.1.length ≤ b.length) ∧ (z.2.2 = none → ∃ x ∈ z.2.1, x.2.1 = []) ∧ (∀ r', z.2.2 = some r' → b = leb n ++ fl encLab z.2.1 ++ r') ∧
          (∀ l r', rightL l = true → b = putLb l ++ r' → z.2.1 = l.take z.1 ∧ z.2.2 = some (fl encLab (l.drop z.1) ++ r')) })
        (fun z => [(0, .d (.sl 1 (b.map encB))), (5, .ptr 0 0), (7, .own 1), (15, .d (.lit (.int .u64 n))), (16, .d (.lit (.int .u64 z.1.1)))]) (fun z => [.box (tkC z.1.2.2), .own 2 (z.1.2.1.map encL)]) (fun z => n - z.1.1)
        ⟨(0, [], some r), by omega, rfl, hr0, by simp, (by intro h; cases h), by intro r' h; cases h; simp only [fl_nil, List.append_nil]; exact hbr, by
          intro l r' hok h
          obtain ⟨h8', _⟩ := rightL_len hok
          obtain ⟨g1, g2⟩ := hnl l r' h (by omega)
          exact ⟨rfl, by rw [g2]; rfl⟩⟩ [] [0, 1] ?_ (fun ⟨⟨k, o, t⟩, hk1, hok, htB, hoB, hno, hfw, hbw⟩ => ?_)
      · exact ⟨rfl, rfl, by simp, (fun i hi => absurd hi (Nat.not_lt_zero _)), ⟨.inr rfl, .inr rfl, .inr rfl, .inr rfl, .inr rfl, trivial⟩, ⟨.inr ⟨by decide, rfl⟩, .inr ⟨by decide, rfl⟩, trivial⟩, rfl, by decide, rfl, (by first | rfl | simp [scRow, tkC_scs])⟩
      simp only at hk1 hok htB hoB hno hfw hbw
      rcases Nat.lt_or_ge k n with hlt | hge
      · have hltI : ((k : Int) < (n : Int)) := by omega
        have w1 : IntKind.u64.wrap ((k : Int) + 1) = ((k + 1 : Nat) : Int) := by rw [IntWalk.u64_in _ (by omega)]; simp
        obtain ⟨hB2, hs2⟩ := textT_B t htB
        obtain ⟨hB3, hs3⟩ := textT_B (textT t).2 hB2
        simp only [hltI, am, simprocAttr, tys]
        refine ACall.of (tkText t (htB.le (by omega))) [0] [] rfl (by simp) (by simp) (by simp) (by repeat' (first | exact trivial | exact .inl rfl | exact .inr rfl | exact .inr ⟨rfl, by simp⟩ | exact .inr ⟨rfl, rfl, by simp⟩ | apply And.intro)) (by repeat' (first | exact trivial | rfl | exact (tkC_ren.1 _ _).symm | (simp; done) | apply And.intro)) (by first | exact .inl rfl | (refine .inr ⟨trivial, ?_⟩; first | (intro row h; rcases List.mem_singleton.1 h with rfl; exact nvB _) | (intro row h; cases h; done) | (simp; done)) | (refine .inr ⟨by simp [nvP, nvP.nvPs, nvD, nilS, errno], ?_⟩; first | (intro row h; rcases List.mem_singleton.1 h with rfl; exact nvB _) | (intro row h; cases h; done) | (simp [nvRow, nvD, nvP]; done))) ?_
        simp only [tkC_ren, str, am, simprocAttr, tys]
        refine ACall.of (tkText (textT t).2 (hB2.le (by omega))) [0] [] rfl (by simp) (by simp) (by simp) (by repeat' (first | exact trivial | exact .inl rfl | exact .inr rfl | exact .inr ⟨rfl, by simp⟩ | exact .inr ⟨rfl, rfl, by simp⟩ | apply And.intro)) (by repeat' (first | exact trivial | rfl | exact (tkC_ren.1 _ _).symm | (simp; done) | apply And.intro)) (by first | exact .inl rfl | (refine .inr ⟨trivial, ?_⟩; first | (intro row h; rcases List.mem_singleton.1 h with rfl; exact nvB _) | (intro row h; cases h; done) | (simp; done)) | (refine .inr ⟨by simp [nvP, nvP.nvPs, nvD, nilS, errno], ?_⟩; first | (intro row h; rcases List.mem_singleton.1 h with rfl; exact nvB _) | (intro row h; cases h; done) | (simp [nvRow, nvD, nvP]; done))) ?_
        have eapp : o.map encL ++ [[DV.lit (.string ⟨⟨(textT t).1⟩⟩), DV.lit (.string ⟨⟨(textT (textT t).2).1⟩⟩)]] = (o ++ [((textT t).1, (textT (textT t).2).1, ())]).map encL := by rw [List.map_append]; rfl
        simp only [tkC_ren, str, w1, eapp, am, simprocAttr, tys]
        refine ⟨by omega, ⟨(k + 1, o ++ [((textT t).1, (textT (textT t).2).1, ())], (textT (textT t).2).2), by omega, by simp [hok], hB3, ?_, ?_, ?_, ?_⟩, [], [0, 3], ⟨rfl, rfl, by simp, (fun i hi => absurd hi (Nat.not_lt_zero _)), ⟨.inr rfl, .inr rfl, .inr rfl, .inr rfl, .inr rfl, trivial⟩, ⟨.inr ⟨by decide, ?_⟩, .inr ⟨by decide, ?_⟩, trivial⟩, rfl, by decide, rfl, (by first | rfl | simp [scRow, tkC_scs])⟩, by show n - (k + 1) < n - k; omega⟩
        · intro x hx
          rcases List.mem_append.1 hx with hx | hx
          · exact hoB x hx
          · simp only [List.mem_singleton] at hx
            subst hx; exact ⟨hs2, hs3⟩
        · intro h
          exact ⟨_, List.mem_append_right _ (List.mem_singleton.2 rfl), textT_none h⟩
        · intro r' h
          have e1 := lab_fwd h
          have e2 := hfw _ e1
          rw [e2, fl_snoc]
          simp only [List.append_assoc]
        · intro l r' hrl hb
          obtain ⟨g1, g2⟩ := hbw l r' hrl hb
          obtain ⟨h8', _, hall⟩ := rightL_len hrl
          obtain ⟨g3, _⟩ := hnl l r' hb (by omega)
          have hkl : k < l.length := by omega
          rw [List.drop_eq_getElem_cons hkl, fl_cons, List.append_assoc] at g2
          obtain ⟨q3, q4⟩ := lab_bwd l[k] (fl encLab (l.drop (k + 1)) ++ r') (hall _ (List.getElem_mem hkl))
          rw [g2]
          simp only [q3, q4]
          refine ⟨?_, trivial⟩
          rw [List.take_succ_eq_append_getElem hkl, ← g1]
        · exact tkC_row _ _ _ _
        · rfl
      · have hltI : ¬ ((k : Int) < (n : Int)) := by omega
        have hkn : k = n := by omega
        subst hkn
        simp only [hltI, am, simprocAttr, tys]
        refine ACall.of (labelRight o (by omega) (fun x hx => by have := hoB x hx; omega)) [] [1] rfl (by simp) (by simp) (by simp) (by repeat' (first | exact trivial | exact .inl rfl | exact .inr rfl | exact .inr ⟨rfl, by simp⟩ | exact .inr ⟨rfl, rfl, by simp⟩ | apply And.intro)) (by repeat' (first | exact trivial | rfl | exact (tkC_ren.1 _ _).symm | (simp; done) | apply And.intro)) (by first | exact .inl rfl | (refine .inr ⟨trivial, ?_⟩; first | (intro row h; rcases List.mem_singleton.1 h with rfl; exact nvB _) | (intro row h; cases h; done) | (simp; done)) | (refine .inr ⟨by simp [nvP, nvP.nvPs, nvD, nilS, errno], ?_⟩; first | (intro row h; rcases List.mem_singleton.1 h with rfl; exact nvB _) | (intro row h; cases h; done) | (simp [nvRow, nvD, nvP]; done))) ?_
        rcases hro : rightL o with _ | _
        · have ht : takeLb b = none := takeLb_none b fun l r' hrl hb => by
            obtain ⟨g1, g2⟩ := hbw l r' hrl hb
            obtain ⟨h8', _⟩ := rightL_len hrl
            obtain ⟨g3, _⟩ := hnl l r' hb (by omega)
            rw [List.take_of_length_le (by omega)] at g1
            rw [g1, hrl] at hro; cases hro
          simp only [bool, ht, takeLR, nilS, errno, FinR, evRes, evRVs, evRV, am, simprocAttr, tys]
          exact ⟨_, [], [], rfl, Ent.plain rfl rfl rfl trivial rfl, rfl, rfl⟩
        · rcases htt : t with _ | rest
          · obtain ⟨x, hx, he⟩ := hno htt
            exact absurd he ((right_vals hro).2 x hx)
          · have hbr2 := hfw rest htt
            have hb3 : b = putLb o ++ rest := by rw [hbr2]; unfold putLb putL; rw [hok]
            have ht : takeLb b = some (o, rest) := by rw [hb3]; exact takeLb_put o rest hro
            have hlr : rest.length ≤ b.length := htB rest htt
            have w3 : IntKind.i64.wrap ((b.length : Int) - rest.length) = ((b.length - rest.length : Nat) : Int) := by rw [IntWalk.i64_in _ (by omega)]; omega
            have w4 : b.drop (b.length - rest.length) = rest := by rw [hb3]; exact drop_tail _ _
            simp only [bool, am, simprocAttr, tys]
            refine ACall.of (tkLeft (some rest)) [0] [] rfl (by simp) (by simp) (by simp) (by repeat' (first | exact trivial | exact .inl rfl | exact .inr rfl | exact .inr ⟨rfl, by simp⟩ | exact .inr ⟨rfl, rfl, by simp⟩ | apply And.intro)) (by repeat' (first | exact trivial | rfl | exact (tkC_ren.1 _ _).symm | (simp; done) | apply And.intro)) (by first | exact .inl rfl | (refine .inr ⟨trivial, ?_⟩; first | (intro row h; rcases List.mem_singleton.1 h with rfl; exact nvB _) | (intro row h; cases h; done) | (simp; done)) | (refine .inr ⟨by simp [nvP, nvP.nvPs, nvD, nilS, errno], ?_⟩; first | (intro row h; rcases List.mem_singleton.1 h with rfl; exact nvB _) | (intro row h; cases h; done) | (simp [nvRow, nvD, nvP]; done))) ?_
            simp only [leftT, int, w3, Int.natCast_nonneg, Int.toNat_natCast, ← List.map_take, ← List.map_drop, List.take_length, w4, tkC_ren, am, simprocAttr, tys]
            refine ⟨by omega, ?_⟩
            refine ACall.of (cloneB rest (by omega)) [] [] rfl (by simp) (by simp) (by simp) (by repeat' (first | exact trivial | exact .inl rfl | exact .inr rfl | exact .inr ⟨rfl, by simp⟩ | exact .inr ⟨rfl, rfl, by simp⟩ | apply And.intro)) (by repeat' (first | exact trivial | rfl | exact (tkC_ren.1 _ _).symm | (simp; done) | apply And.intro)) (by first | exact .inl rfl | (refine .inr ⟨trivial, ?_⟩; first | (intro row h; rcases List.mem_singleton.1 h with rfl; exact nvB _) | (intro row h; cases h; done) | (simp; done)) | (refine .inr ⟨by simp [nvP, nvP.nvPs, nvD, nilS, errno], ?_⟩; first | (intro row h; rcases List.mem_singleton.1 h with rfl; exact nvB _) | (intro row h; cases h; done) | (simp [nvRow, nvD, nvP]; done))) ?_
            simp only [ht, takeLR, byts, errno, FinR, evRes, evRVs, evRV, am, simprocAttr, tys]
            exact ⟨_, [1], [], rfl, ⟨rfl, rfl, by simp, (fun i hi => absurd hi (Nat.not_lt_zero _)), trivial, trivial, rfl, by decide, rfl, (by first | rfl | simp [scRow, tkC_scs])⟩, rfl, rfl⟩
end Go.Proofs.Ytkadildabhkocaa
