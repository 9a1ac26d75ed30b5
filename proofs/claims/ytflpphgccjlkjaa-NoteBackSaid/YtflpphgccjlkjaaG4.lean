/- Proved here: what the functions of the program compute. No condition. -/
import Derived.Test.YtflpphgccjlkjaaG1
import Derived.Test.YtflpphgccjlkjaaG3
import Derived.Test.YtflpphgccjlkjaaG2
set_option linter.all false
set_option linter.unusedSimpArgs false
set_option linter.unusedVariables false
set_option linter.unusedSimpArgs false
set_option linter.unusedVariables false
namespace Go.Proofs.Ytflpphgccjlkjaa
open Go Go.AM

theorem cloneB (b : List UInt8) (hl : b.length ≤ 100000000000000) : AFun Try.prog 85 [byts b] [] (byts b) [] := by
  rcases b with _ | ⟨x, b⟩
  · refine AFun.nil0 1 fun a cap => ?_
    rcases a with _ | a
    · refine AFun.weaken (r := nilS) ?_ trivial (fun rows β w X v h => nil_sl 1 rows β w X v h)
      refine AFun.of_walk hP Try.func85 rfl rfl rfl (by simp) rfl ?_
      simp only [Try.f85, nilS, FinR, evRes, evRVs, evRV, am, simprocAttr, tys]
      exact ⟨_, [], [], rfl, Ent.plain rfl rfl rfl trivial rfl, rfl, rfl⟩
    · refine AFun.of_walk hP Try.func85 rfl rfl rfl (by simp) rfl ?_
      simp only [Try.f85, FinR, evRes, evRVs, evRV, am, simprocAttr, tys]
      exact ⟨_, [1], [], rfl, ⟨rfl, rfl, by simp, (fun i hi => absurd hi (Nat.not_lt_zero _)), trivial, trivial, rfl, by decide, rfl, (by first | rfl | simp [scRow, tkC_scs])⟩, rfl, rfl⟩
  · have hlen : 0 < (x :: b).length := by simp
    refine AFun.of_walk hP Try.func85 rfl rfl rfl (by simp) rfl ?_
    generalize x :: b = y at *
    simp only [Try.f85, byts, hlen, FinR, evRes, evRVs, evRV, am, simprocAttr, tys]
    exact ⟨by omega, ⟨_, [1], [], rfl, ⟨rfl, rfl, by simp, (fun i hi => absurd hi (Nat.not_lt_zero _)), trivial, trivial, rfl, by decide, rfl, (by first | rfl | simp [scRow, tkC_scs])⟩, rfl, rfl⟩⟩
end Go.Proofs.Ytflpphgccjlkjaa

set_option linter.unusedSimpArgs false
set_option linter.unusedVariables false
namespace Go.Proofs.Ytflpphgccjlkjaa
open Go Go.AM

def takeLR : Option (List Lab × List UInt8) → PV
  | none => .tup [nilS, nilS, errno 6]
  | some (l, r) => .tup [.d (.sl 2 (l.map encL)), byts r, errno 0]
theorem textT_none {t : Tk} (h : (textT t).2 = none) : (textT t).1 = [] := by
  unfold textT at h ⊢
  rcases hk2 : (numT t).2 with _ | s
  · rfl
  · rw [hk2] at h
    simp only at h ⊢
    split at h
    · rename_i h'; rw [if_pos h']
    · cases h
theorem lab_fwd {t : Tk} {r3 : List UInt8} (h : (textT (textT t).2).2 = some r3) : t = some (encLab ((textT t).1, (textT (textT t).2).1, ()) ++ r3) := by
  have e2 := textT_some h
  have e1 := textT_some e2
  conv => lhs; rw [e1]
  simp [encLab]
theorem lab_bwd (a : Lab) (r : List UInt8) (ha : a.1.length ≤ 16 ∧ a.2.1.length ≤ 64) : textT (some (encLab a ++ r)) = (a.1, some (lebT a.2.1 ++ r)) ∧ textT (some (lebT a.2.1 ++ r)) = (a.2.1, some r) := by
  refine ⟨?_, textT_lebT _ _ (by omega)⟩
  have := textT_lebT a.1 (lebT a.2.1 ++ r) (by omega)
  unfold encLab
  simpa using this
theorem right_vals {l : List Lab} (h : rightL l = true) : l ≠ [] ∧ ∀ x ∈ l, x.2.1 ≠ [] := by
  obtain ⟨h1, h2, h3⟩ := (rightL_iff l).1 h
  refine ⟨fun e => by subst e; simp at h2, fun x hx e => ?_⟩
  obtain ⟨i, hi, rfl⟩ := List.getElem_of_mem hx
  have := h1 i hi
  rw [okAt_get l i hi] at this
  simp only [Bool.and_eq_true, valOk, decide_eq_true_eq] at this
  rw [e] at this; simp at this

set_option maxRecDepth 8000 in
theorem labelTake (b : List UInt8) (hl : b.length ≤ 100000000) : AFun Try.prog 86 [byts b] [] (takeLR (takeLb b)) [] := by
  refine AFun.of_walk hP Try.func86 rfl rfl rfl (by simp) rfl ?_
  simp only [Try.f86, am, simprocAttr, tys]
  refine ACall.of (octsNew b (by omega)) [] [] rfl (by simp) (by simp) (by simp) (by repeat' (first | exact trivial | exact .inl rfl | exact .inr rfl | exact .inr ⟨rfl, rfl, rfl, by simp; done⟩ | exact .inr ⟨rfl, by simp; done⟩ | exact .inr ⟨rfl, rfl, by simp; done⟩ | apply And.intro)) (by repeat' (first | exact trivial | rfl | exact (tkC_ren.1 _ _).symm | (simp; done) | apply And.intro)) (by first | exact .inl rfl | (refine .inr ⟨trivial, ?_⟩; first | (intro row h; rcases List.mem_singleton.1 h with rfl; exact nvB _) | (intro row h; cases h; done) | (simp; done)) | (refine .inr ⟨by simp [nvP, nvP.nvPs, nvD, nilS, errno], ?_⟩; first | (intro row h; rcases List.mem_singleton.1 h with rfl; exact nvB _) | (intro row h; cases h; done) | (simp [nvRow, nvD, nvP]; done))) ?_
  simp only [tkC_ren, am, simprocAttr, tys]
  refine ACall.of (tkNum (some b) (by intro bs h; cases h; omega)) [0] [] rfl (by simp) (by simp) (by simp) (by repeat' (first | exact trivial | exact .inl rfl | exact .inr rfl | exact .inr ⟨rfl, rfl, rfl, by simp; done⟩ | exact .inr ⟨rfl, by simp; done⟩ | exact .inr ⟨rfl, rfl, by simp; done⟩ | apply And.intro)) (by repeat' (first | exact trivial | rfl | exact (tkC_ren.1 _ _).symm | (simp; done) | apply And.intro)) (by first | exact .inl rfl | (refine .inr ⟨trivial, ?_⟩; first | (intro row h; rcases List.mem_singleton.1 h with rfl; exact nvB _) | (intro row h; cases h; done) | (simp; done)) | (refine .inr ⟨by simp [nvP, nvP.nvPs, nvD, nilS, errno], ?_⟩; first | (intro row h; rcases List.mem_singleton.1 h with rfl; exact nvB _) | (intro row h; cases h; done) | (simp [nvRow, nvD, nvP]; done))) ?_
  have hB0 : TkB b.length (some b) := fun bs h => by cases h; exact Nat.le_refl _
  rcases hk : takeNum b with _ | ⟨n, r⟩
  · have ht : takeLb b = none := by unfold takeLb takeL; rw [hk]
    have hr0 := labelRight [] (by simp) (by simp)
    rw [show rightL [] = false from rfl] at hr0
    simp only [numT, hk, u64, tkC_ren, am, simprocAttr, tys]
    refine ALoopW.intro 40 0 (ι := Unit) (fun _ => [(7, nilS), (15, .d (.lit (.int .u64 0))), (16, .d (.lit (.int .u64 0)))]) (fun _ => []) (fun _ => 0) () [] [] ?_ (fun _ => ?_)
    · exact Ent.plain rfl rfl rfl (⟨.inr rfl, .inr rfl, .inr rfl, trivial⟩) rfl
    have h0 : ¬ ((0 : Int) < 0) := by omega
    simp only [nilS, h0, am, simprocAttr, tys]
    refine ACall.of (hr0) [] [] rfl (by simp) (by simp) (by simp) (by repeat' (first | exact trivial | exact .inl rfl | exact .inr rfl | exact .inr ⟨rfl, rfl, rfl, by simp; done⟩ | exact .inr ⟨rfl, by simp; done⟩ | exact .inr ⟨rfl, rfl, by simp; done⟩ | apply And.intro)) (by repeat' (first | exact trivial | rfl | exact (tkC_ren.1 _ _).symm | (simp; done) | apply And.intro)) (by first | exact .inl rfl | (refine .inr ⟨trivial, ?_⟩; first | (intro row h; rcases List.mem_singleton.1 h with rfl; exact nvB _) | (intro row h; cases h; done) | (simp; done)) | (refine .inr ⟨by simp [nvP, nvP.nvPs, nvD, nilS, errno], ?_⟩; first | (intro row h; rcases List.mem_singleton.1 h with rfl; exact nvB _) | (intro row h; cases h; done) | (simp [nvRow, nvD, nvP]; done))) ?_
    simp only [bool, ht, takeLR, nilS, errno, FinR, evRes, evRVs, evRV, am, simprocAttr, tys]
    exact ⟨_, [], [], rfl, Ent.plain rfl rfl rfl trivial rfl, rfl, rfl⟩
  · obtain ⟨hn64, hbr⟩ := takeNum_some hk
    have hnl : ∀ l r', b = putLb l ++ r' → l.length < 18446744073709551616 → l.length = n ∧ r = fl encLab l ++ r' := fun l r' h hl64 => by
      unfold putLb putL at h
      rw [hbr, List.append_assoc] at h
      obtain ⟨h1, h2⟩ := leb_prefix_free hn64 hl64 h
      exact ⟨h1.symm, h2⟩
    rcases Nat.lt_or_ge 6 n with h8 | h8
    · have h8I : ((6 : Int) < (n : Int)) := by omega
      have ht : takeLb b = none := by
        unfold takeLb takeL; rw [hk]
        simp only
        rw [if_neg (by omega)]
      simp only [numT, hk, u64, h8I, ht, takeLR, nilS, errno, tkC_ren, FinR, evRes, evRVs, evRV, am, simprocAttr, tys]
      exact ⟨_, [], [], rfl, Ent.plain rfl rfl rfl trivial rfl, rfl, rfl⟩
    · have h8I : ¬ ((6 : Int) < (n : Int)) := by omega
      have hr0 : TkB b.length (some r) := fun bs h => by cases h; rw [hbr]; simp
      simp only [numT, hk, u64, h8I, tkC_ren, am, simprocAttr, tys]
      refine ALoopW.ghost 7 2 rfl ?_
      simp only [am, simprocAttr, tys]
      refine ALoopW.intro 40 0 (ι := { z : Nat × List Lab × Tk // z.1 ≤ n ∧ z.2.1.length = z.1 ∧ TkB b.length z.2.2 ∧ (∀ x ∈ z.2.1, x.1.length ≤ b.length ∧ x.2.1.length ≤ b.length) ∧ (z.2.2 = none → ∃ x ∈ z.2.1, x.2.1 = []) ∧ (∀ r', z.2.2 = some r' → b = leb n ++ fl encLab z.2.1 ++ r') ∧
          (∀ l r', rightL l = true → b = putLb l ++ r' → z.2.1 = l.take z.1 ∧ z.2.2 = some (fl encLab (l.drop z.1) ++ r')) })
        (fun z => [(0, .d (.sl 1 (b.map encB))), (5, .ptr 0 0), (7, .own 1), (15, .d (.lit (.int .u64 n))), (16, .d (.lit (.int .u64 z.1.1)))]) (fun z => [.box (tkC z.1.2.2), .own 2 (z.1.2.1.map encL)]) (fun z => n - z.1.1)
        ⟨(0, [], some r), by omega, rfl, hr0, by simp, (by intro h; cases h), by intro r' h; cases h; simp only [fl_nil, List.append_nil]; exact hbr, by
          intro l r' hok h
          obtain ⟨h8', _⟩ := rightL_len hok
          obtain ⟨g1, g2⟩ := hnl l r' h (by omega)
          exact ⟨rfl, by rw [g2]; rfl⟩⟩ [] [0, 1] ?_ (fun ⟨⟨k, o, t⟩, hk1, hok, htB, hoB, hno, hfw, hbw⟩ => ?_)
      · exact ⟨rfl, rfl, by simp, (fun i hi => absurd hi (Nat.not_lt_zero _)), ⟨.inr rfl, .inr rfl, .inr rfl, .inr rfl, .inr rfl, trivial⟩, ⟨.inr ⟨by decide, rfl⟩, .inr ⟨by decide, rfl⟩, trivial⟩, rfl, by decide, rfl, (by first | rfl | simp [scRow, tkC_scs])⟩
      simp only at hk1 hok htB hoB hno hfw hbw
      rcases Nat.lt_or_ge k n with hlt | hge
      · have hltI : ((k : Int) < (n : Int)) := by omega
        have w1 : IntKind.u64.wrap ((k : Int) + 1) = ((k + 1 : Nat) : Int) := by rw [IntWalk.u64_in _ (by omega)]; simp
        obtain ⟨hB2, hs2⟩ := textT_B t htB
        obtain ⟨hB3, hs3⟩ := textT_B (textT t).2 hB2
        simp only [hltI, am, simprocAttr, tys]
        refine ACall.of (tkText t (htB.le (by omega))) [0] [] rfl (by simp) (by simp) (by simp) (by repeat' (first | exact trivial | exact .inl rfl | exact .inr rfl | exact .inr ⟨rfl, rfl, rfl, by simp; done⟩ | exact .inr ⟨rfl, by simp; done⟩ | exact .inr ⟨rfl, rfl, by simp; done⟩ | apply And.intro)) (by repeat' (first | exact trivial | rfl | exact (tkC_ren.1 _ _).symm | (simp; done) | apply And.intro)) (by first | exact .inl rfl | (refine .inr ⟨trivial, ?_⟩; first | (intro row h; rcases List.mem_singleton.1 h with rfl; exact nvB _) | (intro row h; cases h; done) | (simp; done)) | (refine .inr ⟨by simp [nvP, nvP.nvPs, nvD, nilS, errno], ?_⟩; first | (intro row h; rcases List.mem_singleton.1 h with rfl; exact nvB _) | (intro row h; cases h; done) | (simp [nvRow, nvD, nvP]; done))) ?_
        simp only [tkC_ren, str, am, simprocAttr, tys]
        refine ACall.of (tkText (textT t).2 (hB2.le (by omega))) [0] [] rfl (by simp) (by simp) (by simp) (by repeat' (first | exact trivial | exact .inl rfl | exact .inr rfl | exact .inr ⟨rfl, rfl, rfl, by simp; done⟩ | exact .inr ⟨rfl, by simp; done⟩ | exact .inr ⟨rfl, rfl, by simp; done⟩ | apply And.intro)) (by repeat' (first | exact trivial | rfl | exact (tkC_ren.1 _ _).symm | (simp; done) | apply And.intro)) (by first | exact .inl rfl | (refine .inr ⟨trivial, ?_⟩; first | (intro row h; rcases List.mem_singleton.1 h with rfl; exact nvB _) | (intro row h; cases h; done) | (simp; done)) | (refine .inr ⟨by simp [nvP, nvP.nvPs, nvD, nilS, errno], ?_⟩; first | (intro row h; rcases List.mem_singleton.1 h with rfl; exact nvB _) | (intro row h; cases h; done) | (simp [nvRow, nvD, nvP]; done))) ?_
        have eapp : o.map encL ++ [[DV.lit (.string ⟨⟨(textT t).1⟩⟩), DV.lit (.string ⟨⟨(textT (textT t).2).1⟩⟩)]] = (o ++ [((textT t).1, (textT (textT t).2).1, ())]).map encL := by rw [List.map_append]; rfl
        simp only [tkC_ren, str, w1, eapp, am, simprocAttr, tys]
        refine ⟨by omega, ⟨(k + 1, o ++ [((textT t).1, (textT (textT t).2).1, ())], (textT (textT t).2).2), by omega, by simp [hok], hB3, ?_, ?_, ?_, ?_⟩, [], [0, 3], ⟨rfl, rfl, by simp, (fun i hi => absurd hi (Nat.not_lt_zero _)), ⟨.inr rfl, .inr rfl, .inr rfl, .inr rfl, .inr rfl, trivial⟩, ⟨.inr ⟨by decide, ?_⟩, .inr ⟨by decide, ?_⟩, trivial⟩, rfl, by decide, rfl, (by first | rfl | simp [scRow, tkC_scs])⟩, by show n - (k + 1) < n - k; omega⟩
        · intro x hx
          rcases List.mem_append.1 hx with hx | hx
          · exact hoB x hx
          · simp only [List.mem_singleton] at hx
            subst hx; exact ⟨hs2, hs3⟩
        · intro h
          exact ⟨_, List.mem_append_right _ (List.mem_singleton.2 rfl), textT_none h⟩
        · intro r' h
          have e1 := lab_fwd h
          have e2 := hfw _ e1
          rw [e2, fl_snoc]
          simp only [List.append_assoc]
        · intro l r' hrl hb
          obtain ⟨g1, g2⟩ := hbw l r' hrl hb
          obtain ⟨h8', _, hall⟩ := rightL_len hrl
          obtain ⟨g3, _⟩ := hnl l r' hb (by omega)
          have hkl : k < l.length := by omega
          rw [List.drop_eq_getElem_cons hkl, fl_cons, List.append_assoc] at g2
          obtain ⟨q3, q4⟩ := lab_bwd l[k] (fl encLab (l.drop (k + 1)) ++ r') (hall _ (List.getElem_mem hkl))
          rw [g2]
          simp only [q3, q4]
          refine ⟨?_, trivial⟩
          rw [List.take_succ_eq_append_getElem hkl, ← g1]
        · exact tkC_row _ _ _ _
        · rfl
      · have hltI : ¬ ((k : Int) < (n : Int)) := by omega
        have hkn : k = n := by omega
        subst hkn
        simp only [hltI, am, simprocAttr, tys]
        refine ACall.of (labelRight o (by omega) (fun x hx => by have := hoB x hx; omega)) [] [1] rfl (by simp) (by simp) (by simp) (by repeat' (first | exact trivial | exact .inl rfl | exact .inr rfl | exact .inr ⟨rfl, rfl, rfl, by simp; done⟩ | exact .inr ⟨rfl, by simp; done⟩ | exact .inr ⟨rfl, rfl, by simp; done⟩ | apply And.intro)) (by repeat' (first | exact trivial | rfl | exact (tkC_ren.1 _ _).symm | (simp; done) | apply And.intro)) (by first | exact .inl rfl | (refine .inr ⟨trivial, ?_⟩; first | (intro row h; rcases List.mem_singleton.1 h with rfl; exact nvB _) | (intro row h; cases h; done) | (simp; done)) | (refine .inr ⟨by simp [nvP, nvP.nvPs, nvD, nilS, errno], ?_⟩; first | (intro row h; rcases List.mem_singleton.1 h with rfl; exact nvB _) | (intro row h; cases h; done) | (simp [nvRow, nvD, nvP]; done))) ?_
        rcases hro : rightL o with _ | _
        · have ht : takeLb b = none := takeLb_none b fun l r' hrl hb => by
            obtain ⟨g1, g2⟩ := hbw l r' hrl hb
            obtain ⟨h8', _⟩ := rightL_len hrl
            obtain ⟨g3, _⟩ := hnl l r' hb (by omega)
            rw [List.take_of_length_le (by omega)] at g1
            rw [g1, hrl] at hro; cases hro
          simp only [bool, ht, takeLR, nilS, errno, FinR, evRes, evRVs, evRV, am, simprocAttr, tys]
          exact ⟨_, [], [], rfl, Ent.plain rfl rfl rfl trivial rfl, rfl, rfl⟩
        · rcases htt : t with _ | rest
          · obtain ⟨x, hx, he⟩ := hno htt
            exact absurd he ((right_vals hro).2 x hx)
          · have hbr2 := hfw rest htt
            have hb3 : b = putLb o ++ rest := by rw [hbr2]; unfold putLb putL; rw [hok]
            have ht : takeLb b = some (o, rest) := by rw [hb3]; exact takeLb_put o rest hro
            have hlr : rest.length ≤ b.length := htB rest htt
            have w3 : IntKind.i64.wrap ((b.length : Int) - rest.length) = ((b.length - rest.length : Nat) : Int) := by rw [IntWalk.i64_in _ (by omega)]; omega
            have w4 : b.drop (b.length - rest.length) = rest := by rw [hb3]; exact drop_tail _ _
            simp only [bool, am, simprocAttr, tys]
            refine ACall.of (tkLeft (some rest)) [0] [] rfl (by simp) (by simp) (by simp) (by repeat' (first | exact trivial | exact .inl rfl | exact .inr rfl | exact .inr ⟨rfl, rfl, rfl, by simp; done⟩ | exact .inr ⟨rfl, by simp; done⟩ | exact .inr ⟨rfl, rfl, by simp; done⟩ | apply And.intro)) (by repeat' (first | exact trivial | rfl | exact (tkC_ren.1 _ _).symm | (simp; done) | apply And.intro)) (by first | exact .inl rfl | (refine .inr ⟨trivial, ?_⟩; first | (intro row h; rcases List.mem_singleton.1 h with rfl; exact nvB _) | (intro row h; cases h; done) | (simp; done)) | (refine .inr ⟨by simp [nvP, nvP.nvPs, nvD, nilS, errno], ?_⟩; first | (intro row h; rcases List.mem_singleton.1 h with rfl; exact nvB _) | (intro row h; cases h; done) | (simp [nvRow, nvD, nvP]; done))) ?_
            simp only [leftT, int, w3, Int.natCast_nonneg, Int.toNat_natCast, ← List.map_take, ← List.map_drop, List.take_length, w4, tkC_ren, am, simprocAttr, tys]
            refine ⟨by omega, ?_⟩
            refine ACall.of (cloneB rest (by omega)) [] [] rfl (by simp) (by simp) (by simp) (by repeat' (first | exact trivial | exact .inl rfl | exact .inr rfl | exact .inr ⟨rfl, rfl, rfl, by simp; done⟩ | exact .inr ⟨rfl, by simp; done⟩ | exact .inr ⟨rfl, rfl, by simp; done⟩ | apply And.intro)) (by repeat' (first | exact trivial | rfl | exact (tkC_ren.1 _ _).symm | (simp; done) | apply And.intro)) (by first | exact .inl rfl | (refine .inr ⟨trivial, ?_⟩; first | (intro row h; rcases List.mem_singleton.1 h with rfl; exact nvB _) | (intro row h; cases h; done) | (simp; done)) | (refine .inr ⟨by simp [nvP, nvP.nvPs, nvD, nilS, errno], ?_⟩; first | (intro row h; rcases List.mem_singleton.1 h with rfl; exact nvB _) | (intro row h; cases h; done) | (simp [nvRow, nvD, nvP]; done))) ?_
            simp only [ht, takeLR, byts, errno, FinR, evRes, evRVs, evRV, am, simprocAttr, tys]
            exact ⟨_, [1], [], rfl, ⟨rfl, rfl, by simp, (fun i hi => absurd hi (Nat.not_lt_zero _)), trivial, trivial, rfl, by decide, rfl, (by first | rfl | simp [scRow, tkC_scs])⟩, rfl, rfl⟩
end Go.Proofs.Ytflpphgccjlkjaa

set_option linter.unusedSimpArgs false
set_option linter.unusedVariables false
namespace Go.Proofs.Ytflpphgccjlkjaa
open Go Go.AM

/-! ## what is asked by bytes -/
def decAsk (bs : List UInt8) : Option (Ask × List UInt8) :=
  match bs with
  | [] => none
  | c :: r => match takeText r with
    | none => none
    | some (s, r1) => match takeText r1 with
      | none => none
      | some (v, r2) => some ((c, s, v, ()), r2)
theorem decAsk_some (bs : List UInt8) (x : Ask) (r : List UInt8) (h : decAsk bs = some (x, r)) : bs = encAsk x ++ r := by
  unfold decAsk at h
  split at h
  · cases h
  · rename_i c r0
    split at h
    · cases h
    · rename_i s r1 h1
      split at h
      · cases h
      · rename_i v r2 h2
        simp only [Option.some.injEq, Prod.mk.injEq] at h
        obtain ⟨rfl, rfl⟩ := h
        rw [(takeText_some h1).1, (takeText_some h2).1]
        simp [encAsk]
theorem decAsk_enc (x : Ask) (h1 : x.2.1.length < 18446744073709551616) (h2 : x.2.2.1.length < 18446744073709551616) (r : List UInt8) : decAsk (encAsk x ++ r) = some (x, r) := by
  unfold encAsk decAsk
  simp only [List.cons_append, List.append_assoc, takeText_lebT _ _ h1, takeText_lebT _ _ h2]

def takeA (b : List UInt8) : Option (List Ask × List UInt8) := takeL decAsk rightA 8 b
theorem takeA_some {b : List UInt8} {l : List Ask} {r : List UInt8} (h : takeA b = some (l, r)) : rightA l = true ∧ b = putA l ++ r := takeL_some encAsk decAsk decAsk_some h
theorem takeA_put (l : List Ask) (r : List UInt8) (h : rightA l = true) : takeA (putA l ++ r) = some (l, r) := by
  obtain ⟨h8, hall⟩ := rightA_len h
  refine takeL_put encAsk decAsk r h h8 (by omega) fun x hx r => ?_
  obtain ⟨h1, h2⟩ := mayOk_len (hall x hx)
  exact decAsk_enc x (by omega) (by omega) r
theorem takeA_none (b : List UInt8) (h : ∀ l r, rightA l = true → b = putA l ++ r → False) : takeA b = none := by
  rcases hk : takeA b with _ | ⟨l, r⟩
  · rfl
  · obtain ⟨h1, h2⟩ := takeA_some hk
    exact (h l r h1 h2).elim
def takeAR : Option (List Ask × List UInt8) → PV
  | none => .tup [nilS, nilS, errno 6]
  | some (l, r) => .tup [.d (.sl 3 (l.map encA)), byts r, errno 0]

theorem leb_op (c : UInt8) (h : c.toNat < 128) : leb c.toNat = [c] := by rw [leb, if_pos h]; simp

/-- one more -/
theorem ask_fwd {t : Tk} {r3 : List UInt8} (hop : (numT t).1 ≤ 4) (h : (textT (textT (numT t).2).2).2 = some r3) :
    t = some (encAsk (UInt8.ofNat (numT t).1, (textT (numT t).2).1, (textT (textT (numT t).2).2).1, ()) ++ r3) := by
  have e2 := textT_some h
  have e1 := textT_some e2
  obtain ⟨_, e0⟩ := numT_some e1
  have : leb (numT t).1 = [UInt8.ofNat (numT t).1] := by rw [leb, if_pos (by omega)]
  rw [this] at e0
  conv => lhs; rw [e0]
  simp [encAsk]
theorem ask_bwd (a : Ask) (r : List UInt8) (ha : mayOk a = true) : numT (some (encAsk a ++ r)) = (a.1.toNat, some (lebT a.2.1 ++ (lebT a.2.2.1 ++ r))) ∧ a.1.toNat ≤ 4 ∧
    textT (some (lebT a.2.1 ++ (lebT a.2.2.1 ++ r))) = (a.2.1, some (lebT a.2.2.1 ++ r)) ∧ textT (some (lebT a.2.2.1 ++ r)) = (a.2.2.1, some r) := by
  obtain ⟨h1, h2⟩ := mayOk_len ha
  have h4 : a.1.toNat ≤ 4 := by
    have hm : mayOk a = (nameOk a.2.1 && decide (a.2.2.1.length ≤ 64) && (if a.1 = 1 then !(a.2.2.1 == []) else if a.1 = 4 then a.2.2.1 == [] else decide (a.1 = 2) || decide (a.1 = 3))) := rfl
    rw [hm] at ha
    simp only [Bool.and_eq_true] at ha
    have h3 := ha.2
    by_cases q1 : a.1 = 1
    · rw [q1]; decide
    · rw [if_neg q1] at h3
      by_cases q4 : a.1 = 4
      · rw [q4]; decide
      · rw [if_neg q4] at h3
        simp only [Bool.or_eq_true, decide_eq_true_eq] at h3
        rcases h3 with q | q <;> rw [q] <;> decide
  refine ⟨?_, h4, textT_lebT _ _ (by omega), textT_lebT _ _ (by omega)⟩
  have := numT_leb a.1.toNat (lebT a.2.1 ++ (lebT a.2.2.1 ++ r)) (by omega)
  rw [leb_op a.1 (by omega)] at this
  unfold encAsk
  simpa using this

set_option maxRecDepth 8000 in
theorem matchTake (b : List UInt8) (hl : b.length ≤ 100000000) : AFun Try.prog 88 [byts b] [] (takeAR (takeA b)) [] := by
  refine AFun.of_walk hP Try.func88 rfl rfl rfl (by simp) rfl ?_
  simp only [Try.f88, am, simprocAttr, tys]
  refine ACall.of (octsNew b (by omega)) [] [] rfl (by simp) (by simp) (by simp) (by repeat' (first | exact trivial | exact .inl rfl | exact .inr rfl | exact .inr ⟨rfl, rfl, rfl, by simp; done⟩ | exact .inr ⟨rfl, by simp; done⟩ | exact .inr ⟨rfl, rfl, by simp; done⟩ | apply And.intro)) (by repeat' (first | exact trivial | rfl | exact (tkC_ren.1 _ _).symm | (simp; done) | apply And.intro)) (by first | exact .inl rfl | (refine .inr ⟨trivial, ?_⟩; first | (intro row h; rcases List.mem_singleton.1 h with rfl; exact nvB _) | (intro row h; cases h; done) | (simp; done)) | (refine .inr ⟨by simp [nvP, nvP.nvPs, nvD, nilS, errno], ?_⟩; first | (intro row h; rcases List.mem_singleton.1 h with rfl; exact nvB _) | (intro row h; cases h; done) | (simp [nvRow, nvD, nvP]; done))) ?_
  simp only [tkC_ren, am, simprocAttr, tys]
  refine ACall.of (tkNum (some b) (by intro bs h; cases h; omega)) [0] [] rfl (by simp) (by simp) (by simp) (by repeat' (first | exact trivial | exact .inl rfl | exact .inr rfl | exact .inr ⟨rfl, rfl, rfl, by simp; done⟩ | exact .inr ⟨rfl, by simp; done⟩ | exact .inr ⟨rfl, rfl, by simp; done⟩ | apply And.intro)) (by repeat' (first | exact trivial | rfl | exact (tkC_ren.1 _ _).symm | (simp; done) | apply And.intro)) (by first | exact .inl rfl | (refine .inr ⟨trivial, ?_⟩; first | (intro row h; rcases List.mem_singleton.1 h with rfl; exact nvB _) | (intro row h; cases h; done) | (simp; done)) | (refine .inr ⟨by simp [nvP, nvP.nvPs, nvD, nilS, errno], ?_⟩; first | (intro row h; rcases List.mem_singleton.1 h with rfl; exact nvB _) | (intro row h; cases h; done) | (simp [nvRow, nvD, nvP]; done))) ?_
  have hB0 : TkB b.length (some b) := fun bs h => by cases h; exact Nat.le_refl _
  rcases hk : takeNum b with _ | ⟨n, r⟩
  · have ht : takeA b = none := by unfold takeA takeL; rw [hk]
    simp only [numT, hk, u64, tkC_ren, am, simprocAttr, tys]
    refine ACall.of (tkLeft none) [0] [] rfl (by simp) (by simp) (by simp) (by repeat' (first | exact trivial | exact .inl rfl | exact .inr rfl | exact .inr ⟨rfl, rfl, rfl, by simp; done⟩ | exact .inr ⟨rfl, by simp; done⟩ | exact .inr ⟨rfl, rfl, by simp; done⟩ | apply And.intro)) (by repeat' (first | exact trivial | rfl | exact (tkC_ren.1 _ _).symm | (simp; done) | apply And.intro)) (by first | exact .inl rfl | (refine .inr ⟨trivial, ?_⟩; first | (intro row h; rcases List.mem_singleton.1 h with rfl; exact nvB _) | (intro row h; cases h; done) | (simp; done)) | (refine .inr ⟨by simp [nvP, nvP.nvPs, nvD, nilS, errno], ?_⟩; first | (intro row h; rcases List.mem_singleton.1 h with rfl; exact nvB _) | (intro row h; cases h; done) | (simp [nvRow, nvD, nvP]; done))) ?_
    simp only [leftT, int, tkC_ren, am, simprocAttr, tys]
    refine ACall.of (tkEnd none) [0] [] rfl (by simp) (by simp) (by simp) (by repeat' (first | exact trivial | exact .inl rfl | exact .inr rfl | exact .inr ⟨rfl, rfl, rfl, by simp; done⟩ | exact .inr ⟨rfl, by simp; done⟩ | exact .inr ⟨rfl, rfl, by simp; done⟩ | apply And.intro)) (by repeat' (first | exact trivial | rfl | exact (tkC_ren.1 _ _).symm | (simp; done) | apply And.intro)) (by first | exact .inl rfl | (refine .inr ⟨trivial, ?_⟩; first | (intro row h; rcases List.mem_singleton.1 h with rfl; exact nvB _) | (intro row h; cases h; done) | (simp; done)) | (refine .inr ⟨by simp [nvP, nvP.nvPs, nvD, nilS, errno], ?_⟩; first | (intro row h; rcases List.mem_singleton.1 h with rfl; exact nvB _) | (intro row h; cases h; done) | (simp [nvRow, nvD, nvP]; done))) ?_
    simp only [ht, takeAR, nilS, endT, errno, FinR, evRes, evRVs, evRV, am, simprocAttr, tys]
    exact ⟨_, [], [], rfl, Ent.plain rfl rfl rfl trivial rfl, rfl, rfl⟩
  · obtain ⟨hn64, hbr⟩ := takeNum_some hk
    have hnl : ∀ l r', b = putA l ++ r' → l.length < 18446744073709551616 → l.length = n ∧ r = fl encAsk l ++ r' := fun l r' h hl64 => by
      unfold putA putL at h
      rw [hbr, List.append_assoc] at h
      obtain ⟨h1, h2⟩ := leb_prefix_free hn64 hl64 h
      exact ⟨h1.symm, h2⟩
    rcases Nat.lt_or_ge 8 n with h8 | h8
    · have h8I : ((8 : Int) < (n : Int)) := by omega
      have ht : takeA b = none := by
        unfold takeA takeL; rw [hk]
        simp only
        rw [if_neg (by omega)]
      simp only [numT, hk, u64, h8I, ht, takeAR, nilS, errno, tkC_ren, FinR, evRes, evRVs, evRV, am, simprocAttr, tys]
      exact ⟨_, [], [], rfl, Ent.plain rfl rfl rfl trivial rfl, rfl, rfl⟩
    · have h8I : ¬ ((8 : Int) < (n : Int)) := by omega
      have hr0 : TkB b.length (some r) := fun bs h => by cases h; rw [hbr]; simp
      simp only [numT, hk, u64, h8I, tkC_ren, am, simprocAttr, tys]
      refine ACall.of (tkLeft (some r)) [0] [] rfl (by simp) (by simp) (by simp) (by repeat' (first | exact trivial | exact .inl rfl | exact .inr rfl | exact .inr ⟨rfl, rfl, rfl, by simp; done⟩ | exact .inr ⟨rfl, by simp; done⟩ | exact .inr ⟨rfl, rfl, by simp; done⟩ | apply And.intro)) (by repeat' (first | exact trivial | rfl | exact (tkC_ren.1 _ _).symm | (simp; done) | apply And.intro)) (by first | exact .inl rfl | (refine .inr ⟨trivial, ?_⟩; first | (intro row h; rcases List.mem_singleton.1 h with rfl; exact nvB _) | (intro row h; cases h; done) | (simp; done)) | (refine .inr ⟨by simp [nvP, nvP.nvPs, nvD, nilS, errno], ?_⟩; first | (intro row h; rcases List.mem_singleton.1 h with rfl; exact nvB _) | (intro row h; cases h; done) | (simp [nvRow, nvD, nvP]; done))) ?_
      rcases hlz : (((r.length : Nat) : Int) == 0) with _ | _
      case' false =>
        simp only [leftT, int, hlz, tkC_ren, am, simprocAttr, tys]
      case' true =>
        have hE : endT (some r) = 0 := by
          have : r = [] := List.eq_nil_of_length_eq_zero (by have := eq_of_beq hlz; omega)
          rw [this]; rfl
        simp only [leftT, int, hlz, tkC_ren, am, simprocAttr, tys]
        refine ACall.of (tkEnd (some r)) [0] [] rfl (by simp) (by simp) (by simp) (by repeat' (first | exact trivial | exact .inl rfl | exact .inr rfl | exact .inr ⟨rfl, rfl, rfl, by simp; done⟩ | exact .inr ⟨rfl, by simp; done⟩ | exact .inr ⟨rfl, rfl, by simp; done⟩ | apply And.intro)) (by repeat' (first | exact trivial | rfl | exact (tkC_ren.1 _ _).symm | (simp; done) | apply And.intro)) (by first | exact .inl rfl | (refine .inr ⟨trivial, ?_⟩; first | (intro row h; rcases List.mem_singleton.1 h with rfl; exact nvB _) | (intro row h; cases h; done) | (simp; done)) | (refine .inr ⟨by simp [nvP, nvP.nvPs, nvD, nilS, errno], ?_⟩; first | (intro row h; rcases List.mem_singleton.1 h with rfl; exact nvB _) | (intro row h; cases h; done) | (simp [nvRow, nvD, nvP]; done))) ?_
        simp only [hE, errno, tkC_ren, am, simprocAttr, tys]
      all_goals
        refine ALoopW.ghost 7 3 rfl ?_
        simp only [am, simprocAttr, tys]
        refine ALoopW.intro 67 0 (ι := { z : Nat × List Ask × Tk // z.1 ≤ n ∧ z.2.1.length = z.1 ∧ TkB b.length z.2.2 ∧ (∀ x ∈ z.2.1, x.2.1.length ≤ b.length) ∧ (∀ r', z.2.2 = some r' → b = leb n ++ fl encAsk z.2.1 ++ r') ∧
            (∀ l r', rightA l = true → b = putA l ++ r' → z.2.1 = l.take z.1 ∧ z.2.2 = some (fl encAsk (l.drop z.1) ++ r')) })
          (fun z => [(0, .d (.sl 1 (b.map encB))), (5, .ptr 0 0), (7, .own 1), (26, .d (.lit (.int .u64 n))), (27, .d (.lit (.int .u64 z.1.1)))]) (fun z => [.box (tkC z.1.2.2), .own 3 (z.1.2.1.map encA)]) (fun z => n - z.1.1)
          ⟨(0, [], some r), by omega, rfl, hr0, by simp, by intro r' h; cases h; simp only [fl_nil, List.append_nil]; exact hbr, by
            intro l r' hok h
            obtain ⟨h8', _⟩ := rightA_len hok
            obtain ⟨g1, g2⟩ := hnl l r' h (by omega)
            exact ⟨rfl, by rw [g2]; rfl⟩⟩ [] [0, 1] ?_ (fun ⟨⟨k, o, t⟩, hk1, hok, htB, hoB, hfw, hbw⟩ => ?_)
        · exact ⟨rfl, rfl, by simp, (fun i hi => absurd hi (Nat.not_lt_zero _)), ⟨.inr rfl, .inr rfl, .inr rfl, .inr rfl, .inr rfl, trivial⟩, ⟨.inr ⟨by decide, rfl⟩, .inr ⟨by decide, rfl⟩, trivial⟩, rfl, by decide, rfl, (by first | rfl | simp [scRow, tkC_scs])⟩
        simp only at hk1 hok htB hoB hfw hbw
        rcases Nat.lt_or_ge k n with hlt | hge
        · have hltI : ((k : Int) < (n : Int)) := by omega
          have w1 : IntKind.u64.wrap ((k : Int) + 1) = ((k + 1 : Nat) : Int) := by rw [IntWalk.u64_in _ (by omega)]; simp
          have hB1 := numT_B t htB
          obtain ⟨hB2, hs2⟩ := textT_B (numT t).2 hB1
          obtain ⟨hB3, hs3⟩ := textT_B (textT (numT t).2).2 hB2
          simp only [hltI, am, simprocAttr, tys]
          refine ACall.of (tkNum t (htB.le (by omega))) [0] [] rfl (by simp) (by simp) (by simp) (by repeat' (first | exact trivial | exact .inl rfl | exact .inr rfl | exact .inr ⟨rfl, rfl, rfl, by simp; done⟩ | exact .inr ⟨rfl, by simp; done⟩ | exact .inr ⟨rfl, rfl, by simp; done⟩ | apply And.intro)) (by repeat' (first | exact trivial | rfl | exact (tkC_ren.1 _ _).symm | (simp; done) | apply And.intro)) (by first | exact .inl rfl | (refine .inr ⟨trivial, ?_⟩; first | (intro row h; rcases List.mem_singleton.1 h with rfl; exact nvB _) | (intro row h; cases h; done) | (simp; done)) | (refine .inr ⟨by simp [nvP, nvP.nvPs, nvD, nilS, errno], ?_⟩; first | (intro row h; rcases List.mem_singleton.1 h with rfl; exact nvB _) | (intro row h; cases h; done) | (simp [nvRow, nvD, nvP]; done))) ?_
          simp only [tkC_ren, u64, am, simprocAttr, tys]
          refine ACall.of (tkText (numT t).2 (hB1.le (by omega))) [0] [] rfl (by simp) (by simp) (by simp) (by repeat' (first | exact trivial | exact .inl rfl | exact .inr rfl | exact .inr ⟨rfl, rfl, rfl, by simp; done⟩ | exact .inr ⟨rfl, by simp; done⟩ | exact .inr ⟨rfl, rfl, by simp; done⟩ | apply And.intro)) (by repeat' (first | exact trivial | rfl | exact (tkC_ren.1 _ _).symm | (simp; done) | apply And.intro)) (by first | exact .inl rfl | (refine .inr ⟨trivial, ?_⟩; first | (intro row h; rcases List.mem_singleton.1 h with rfl; exact nvB _) | (intro row h; cases h; done) | (simp; done)) | (refine .inr ⟨by simp [nvP, nvP.nvPs, nvD, nilS, errno], ?_⟩; first | (intro row h; rcases List.mem_singleton.1 h with rfl; exact nvB _) | (intro row h; cases h; done) | (simp [nvRow, nvD, nvP]; done))) ?_
          rcases Nat.lt_or_ge 4 (numT t).1 with hop | hop
          · have hopI : ((4 : Int) < (((numT t).1 : Nat) : Int)) := by omega
            have ht : takeA b = none := takeA_none b fun l r' hrl hb => by
              obtain ⟨g1, g2⟩ := hbw l r' hrl hb
              obtain ⟨h8', hall⟩ := rightA_len hrl
              obtain ⟨g3, _⟩ := hnl l r' hb (by omega)
              have hkl : k < l.length := by omega
              rw [List.drop_eq_getElem_cons hkl, fl_cons, List.append_assoc] at g2
              obtain ⟨q1, q2, _⟩ := ask_bwd l[k] (fl encAsk (l.drop (k + 1)) ++ r') (hall _ (List.getElem_mem hkl))
              rw [g2, q1] at hop
              simp only at hop
              omega
            simp only [tkC_ren, hopI, ht, takeAR, nilS, errno, FinR, evRes, evRVs, evRV, am, simprocAttr, tys]
            exact ⟨_, [], [], rfl, Ent.plain rfl rfl rfl trivial rfl, rfl, rfl⟩
          · have hopI : ¬ ((4 : Int) < (((numT t).1 : Nat) : Int)) := by omega
            have w2 : IntKind.u8.wrap (((numT t).1 : Nat) : Int) = (((UInt8.ofNat (numT t).1).toNat : Nat) : Int) := low8 _ (by omega)
            simp only [tkC_ren, hopI, w2, str, am, simprocAttr, tys]
            refine ACall.of (tkText (textT (numT t).2).2 (hB2.le (by omega))) [0] [] rfl (by simp) (by simp) (by simp) (by repeat' (first | exact trivial | exact .inl rfl | exact .inr rfl | exact .inr ⟨rfl, rfl, rfl, by simp; done⟩ | exact .inr ⟨rfl, by simp; done⟩ | exact .inr ⟨rfl, rfl, by simp; done⟩ | apply And.intro)) (by repeat' (first | exact trivial | rfl | exact (tkC_ren.1 _ _).symm | (simp; done) | apply And.intro)) (by first | exact .inl rfl | (refine .inr ⟨trivial, ?_⟩; first | (intro row h; rcases List.mem_singleton.1 h with rfl; exact nvB _) | (intro row h; cases h; done) | (simp; done)) | (refine .inr ⟨by simp [nvP, nvP.nvPs, nvD, nilS, errno], ?_⟩; first | (intro row h; rcases List.mem_singleton.1 h with rfl; exact nvB _) | (intro row h; cases h; done) | (simp [nvRow, nvD, nvP]; done))) ?_
            have eapp : o.map encA ++ [[DV.lit (.int .u8 (((UInt8.ofNat (numT t).1).toNat : Nat) : Int)), DV.lit (.string ⟨⟨(textT (numT t).2).1⟩⟩), DV.lit (.string ⟨⟨(textT (textT (numT t).2).2).1⟩⟩)]] = (o ++ [(UInt8.ofNat (numT t).1, (textT (numT t).2).1, (textT (textT (numT t).2).2).1, ())]).map encA := by rw [List.map_append]; rfl
            simp only [tkC_ren, str, w1, eapp, am, simprocAttr, tys]
            refine ⟨by omega, ⟨(k + 1, o ++ [(UInt8.ofNat (numT t).1, (textT (numT t).2).1, (textT (textT (numT t).2).2).1, ())], (textT (textT (numT t).2).2).2), by omega, by simp [hok], hB3, ?_, ?_, ?_⟩, [], [0, 3], ⟨rfl, rfl, by simp, (fun i hi => absurd hi (Nat.not_lt_zero _)), ⟨.inr rfl, .inr rfl, .inr rfl, .inr rfl, .inr rfl, trivial⟩, ⟨.inr ⟨by decide, ?_⟩, .inr ⟨by decide, ?_⟩, trivial⟩, rfl, by decide, rfl, (by first | rfl | simp [scRow, tkC_scs])⟩, by show n - (k + 1) < n - k; omega⟩
            · intro x hx
              rcases List.mem_append.1 hx with hx | hx
              · exact hoB x hx
              · simp only [List.mem_singleton] at hx
                subst hx; exact hs2
            · intro r' h
              have e1 := ask_fwd hop h
              have e2 := hfw _ e1
              rw [e2, fl_snoc]
              simp only [List.append_assoc]
            · intro l r' hrl hb
              obtain ⟨g1, g2⟩ := hbw l r' hrl hb
              obtain ⟨h8', hall⟩ := rightA_len hrl
              obtain ⟨g3, _⟩ := hnl l r' hb (by omega)
              have hkl : k < l.length := by omega
              rw [List.drop_eq_getElem_cons hkl, fl_cons, List.append_assoc] at g2
              obtain ⟨q1, q2, q3, q4⟩ := ask_bwd l[k] (fl encAsk (l.drop (k + 1)) ++ r') (hall _ (List.getElem_mem hkl))
              rw [g2, q1]
              simp only [q3, q4]
              refine ⟨?_, trivial⟩
              rw [List.take_succ_eq_append_getElem hkl, ← g1]
              simp
            · exact tkC_row _ _ _ _
            · rfl
        · have hltI : ¬ ((k : Int) < (n : Int)) := by omega
          have hkn : k = n := by omega
          subst hkn
          simp only [hltI, am, simprocAttr, tys]
          refine ACall.of (matchRight o (by omega) (fun x hx => by have := hoB x hx; omega)) [] [1] rfl (by simp) (by simp) (by simp) (by repeat' (first | exact trivial | exact .inl rfl | exact .inr rfl | exact .inr ⟨rfl, rfl, rfl, by simp; done⟩ | exact .inr ⟨rfl, by simp; done⟩ | exact .inr ⟨rfl, rfl, by simp; done⟩ | apply And.intro)) (by repeat' (first | exact trivial | rfl | exact (tkC_ren.1 _ _).symm | (simp; done) | apply And.intro)) (by first | exact .inl rfl | (refine .inr ⟨trivial, ?_⟩; first | (intro row h; rcases List.mem_singleton.1 h with rfl; exact nvB _) | (intro row h; cases h; done) | (simp; done)) | (refine .inr ⟨by simp [nvP, nvP.nvPs, nvD, nilS, errno], ?_⟩; first | (intro row h; rcases List.mem_singleton.1 h with rfl; exact nvB _) | (intro row h; cases h; done) | (simp [nvRow, nvD, nvP]; done))) ?_
          rcases hro : rightA o with _ | _
          · have ht : takeA b = none := takeA_none b fun l r' hrl hb => by
              obtain ⟨g1, g2⟩ := hbw l r' hrl hb
              obtain ⟨h8', _⟩ := rightA_len hrl
              obtain ⟨g3, _⟩ := hnl l r' hb (by omega)
              rw [List.take_of_length_le (by omega)] at g1
              rw [g1, hrl] at hro; cases hro
            simp only [bool, ht, takeAR, nilS, errno, FinR, evRes, evRVs, evRV, am, simprocAttr, tys]
            exact ⟨_, [], [], rfl, Ent.plain rfl rfl rfl trivial rfl, rfl, rfl⟩
          · rcases htt : t with _ | rest
            · have ht : takeA b = none := takeA_none b fun l r' hrl hb => by
                obtain ⟨g1, g2⟩ := hbw l r' hrl hb
                rw [htt] at g2; cases g2
              simp only [bool, am, simprocAttr, tys]
              refine ACall.of (tkLeft none) [0] [] rfl (by simp) (by simp) (by simp) (by repeat' (first | exact trivial | exact .inl rfl | exact .inr rfl | exact .inr ⟨rfl, rfl, rfl, by simp; done⟩ | exact .inr ⟨rfl, by simp; done⟩ | exact .inr ⟨rfl, rfl, by simp; done⟩ | apply And.intro)) (by repeat' (first | exact trivial | rfl | exact (tkC_ren.1 _ _).symm | (simp; done) | apply And.intro)) (by first | exact .inl rfl | (refine .inr ⟨trivial, ?_⟩; first | (intro row h; rcases List.mem_singleton.1 h with rfl; exact nvB _) | (intro row h; cases h; done) | (simp; done)) | (refine .inr ⟨by simp [nvP, nvP.nvPs, nvD, nilS, errno], ?_⟩; first | (intro row h; rcases List.mem_singleton.1 h with rfl; exact nvB _) | (intro row h; cases h; done) | (simp [nvRow, nvD, nvP]; done))) ?_
              simp only [leftT, int, tkC_ren, am, simprocAttr, tys]
              refine ACall.of (tkEnd none) [0] [] rfl (by simp) (by simp) (by simp) (by repeat' (first | exact trivial | exact .inl rfl | exact .inr rfl | exact .inr ⟨rfl, rfl, rfl, by simp; done⟩ | exact .inr ⟨rfl, by simp; done⟩ | exact .inr ⟨rfl, rfl, by simp; done⟩ | apply And.intro)) (by repeat' (first | exact trivial | rfl | exact (tkC_ren.1 _ _).symm | (simp; done) | apply And.intro)) (by first | exact .inl rfl | (refine .inr ⟨trivial, ?_⟩; first | (intro row h; rcases List.mem_singleton.1 h with rfl; exact nvB _) | (intro row h; cases h; done) | (simp; done)) | (refine .inr ⟨by simp [nvP, nvP.nvPs, nvD, nilS, errno], ?_⟩; first | (intro row h; rcases List.mem_singleton.1 h with rfl; exact nvB _) | (intro row h; cases h; done) | (simp [nvRow, nvD, nvP]; done))) ?_
              simp only [endT, ht, takeAR, nilS, errno, FinR, evRes, evRVs, evRV, am, simprocAttr, tys]
              exact ⟨_, [], [], rfl, Ent.plain rfl rfl rfl trivial rfl, rfl, rfl⟩
            · have hbr2 := hfw rest htt
              have hb3 : b = putA o ++ rest := by rw [hbr2]; unfold putA putL; rw [hok]
              have ht : takeA b = some (o, rest) := by rw [hb3]; exact takeA_put o rest hro
              have hlr : rest.length ≤ b.length := htB rest htt
              have w3 : IntKind.i64.wrap ((b.length : Int) - rest.length) = ((b.length - rest.length : Nat) : Int) := by rw [IntWalk.i64_in _ (by omega)]; omega
              have w4 : b.drop (b.length - rest.length) = rest := by rw [hb3]; exact drop_tail _ _
              simp only [bool, am, simprocAttr, tys]
              refine ACall.of (tkLeft (some rest)) [0] [] rfl (by simp) (by simp) (by simp) (by repeat' (first | exact trivial | exact .inl rfl | exact .inr rfl | exact .inr ⟨rfl, rfl, rfl, by simp; done⟩ | exact .inr ⟨rfl, by simp; done⟩ | exact .inr ⟨rfl, rfl, by simp; done⟩ | apply And.intro)) (by repeat' (first | exact trivial | rfl | exact (tkC_ren.1 _ _).symm | (simp; done) | apply And.intro)) (by first | exact .inl rfl | (refine .inr ⟨trivial, ?_⟩; first | (intro row h; rcases List.mem_singleton.1 h with rfl; exact nvB _) | (intro row h; cases h; done) | (simp; done)) | (refine .inr ⟨by simp [nvP, nvP.nvPs, nvD, nilS, errno], ?_⟩; first | (intro row h; rcases List.mem_singleton.1 h with rfl; exact nvB _) | (intro row h; cases h; done) | (simp [nvRow, nvD, nvP]; done))) ?_
              rcases hlz2 : (((rest.length : Nat) : Int) == 0) with _ | _
              case' false =>
                simp only [leftT, int, hlz2, tkC_ren, am, simprocAttr, tys]
              case' true =>
                have hE : endT (some rest) = 0 := by
                  have : rest = [] := List.eq_nil_of_length_eq_zero (by have := eq_of_beq hlz2; omega)
                  rw [this]; rfl
                simp only [leftT, int, hlz2, tkC_ren, am, simprocAttr, tys]
                refine ACall.of (tkEnd (some rest)) [0] [] rfl (by simp) (by simp) (by simp) (by repeat' (first | exact trivial | exact .inl rfl | exact .inr rfl | exact .inr ⟨rfl, rfl, rfl, by simp; done⟩ | exact .inr ⟨rfl, by simp; done⟩ | exact .inr ⟨rfl, rfl, by simp; done⟩ | apply And.intro)) (by repeat' (first | exact trivial | rfl | exact (tkC_ren.1 _ _).symm | (simp; done) | apply And.intro)) (by first | exact .inl rfl | (refine .inr ⟨trivial, ?_⟩; first | (intro row h; rcases List.mem_singleton.1 h with rfl; exact nvB _) | (intro row h; cases h; done) | (simp; done)) | (refine .inr ⟨by simp [nvP, nvP.nvPs, nvD, nilS, errno], ?_⟩; first | (intro row h; rcases List.mem_singleton.1 h with rfl; exact nvB _) | (intro row h; cases h; done) | (simp [nvRow, nvD, nvP]; done))) ?_
                simp only [hE, errno, tkC_ren, am, simprocAttr, tys]
              all_goals
                refine ACall.of (tkLeft (some rest)) [0] [] rfl (by simp) (by simp) (by simp) (by repeat' (first | exact trivial | exact .inl rfl | exact .inr rfl | exact .inr ⟨rfl, rfl, rfl, by simp; done⟩ | exact .inr ⟨rfl, by simp; done⟩ | exact .inr ⟨rfl, rfl, by simp; done⟩ | apply And.intro)) (by repeat' (first | exact trivial | rfl | exact (tkC_ren.1 _ _).symm | (simp; done) | apply And.intro)) (by first | exact .inl rfl | (refine .inr ⟨trivial, ?_⟩; first | (intro row h; rcases List.mem_singleton.1 h with rfl; exact nvB _) | (intro row h; cases h; done) | (simp; done)) | (refine .inr ⟨by simp [nvP, nvP.nvPs, nvD, nilS, errno], ?_⟩; first | (intro row h; rcases List.mem_singleton.1 h with rfl; exact nvB _) | (intro row h; cases h; done) | (simp [nvRow, nvD, nvP]; done))) ?_
                simp only [leftT, int, w3, Int.natCast_nonneg, Int.toNat_natCast, ← List.map_take, ← List.map_drop, List.take_length, w4, tkC_ren, am, simprocAttr, tys]
                refine ⟨by omega, ?_⟩
                refine ACall.of (cloneB rest (by omega)) [] [] rfl (by simp) (by simp) (by simp) (by repeat' (first | exact trivial | exact .inl rfl | exact .inr rfl | exact .inr ⟨rfl, rfl, rfl, by simp; done⟩ | exact .inr ⟨rfl, by simp; done⟩ | exact .inr ⟨rfl, rfl, by simp; done⟩ | apply And.intro)) (by repeat' (first | exact trivial | rfl | exact (tkC_ren.1 _ _).symm | (simp; done) | apply And.intro)) (by first | exact .inl rfl | (refine .inr ⟨trivial, ?_⟩; first | (intro row h; rcases List.mem_singleton.1 h with rfl; exact nvB _) | (intro row h; cases h; done) | (simp; done)) | (refine .inr ⟨by simp [nvP, nvP.nvPs, nvD, nilS, errno], ?_⟩; first | (intro row h; rcases List.mem_singleton.1 h with rfl; exact nvB _) | (intro row h; cases h; done) | (simp [nvRow, nvD, nvP]; done))) ?_
                simp only [ht, takeAR, byts, errno, FinR, evRes, evRVs, evRV, am, simprocAttr, tys]
                exact ⟨_, [1], [], rfl, ⟨rfl, rfl, by simp, (fun i hi => absurd hi (Nat.not_lt_zero _)), trivial, trivial, rfl, by decide, rfl, (by first | rfl | simp [scRow, tkC_scs])⟩, rfl, rfl⟩
end Go.Proofs.Ytflpphgccjlkjaa

set_option linter.unusedSimpArgs false
set_option linter.unusedVariables false
namespace Go.Proofs.Ytflpphgccjlkjaa
open Go Go.AM

theorem tkInt (t : Tk) (hl : ∀ bs, t = some bs → bs.length ≤ 100000000000000) : AFun Try.prog 99 [.ptr 0 0] [.box (tkC t)] (int (unfold' (numT t).1)) [.box (tkC (numT t).2)] := by
  refine AFun.of_walk hP Try.func99 rfl rfl rfl (by simp) rfl ?_
  obtain ⟨hn, hr⟩ := numT_lt t hl
  simp only [Try.f99, am, simprocAttr, tys]
  refine ACall.of (tkNum t hl) [0] [] rfl (by simp) (by simp) (by simp) (by repeat' (first | exact trivial | exact .inl rfl | exact .inr rfl | exact .inr ⟨rfl, rfl, rfl, by simp; done⟩ | exact .inr ⟨rfl, by simp; done⟩ | exact .inr ⟨rfl, rfl, by simp; done⟩ | apply And.intro)) (by repeat' (first | exact trivial | rfl | exact (tkC_ren.1 _ _).symm | (simp; done) | apply And.intro)) (by first | exact .inl rfl | (refine .inr ⟨trivial, ?_⟩; first | (intro row h; rcases List.mem_singleton.1 h with rfl; exact nvB _) | (intro row h; cases h; done) | (simp; done)) | (refine .inr ⟨by simp [nvP, nvP.nvPs, nvD, nilS, errno], ?_⟩; first | (intro row h; rcases List.mem_singleton.1 h with rfl; exact nvB _) | (intro row h; cases h; done) | (simp [nvRow, nvD, nvP]; done))) ?_
  simp only [tkC_ren, u64, am, simprocAttr, tys]
  refine ACall.of (octsOpen (numT t).1 hn) [] [] rfl (by simp) (by simp) (by simp) (by repeat' (first | exact trivial | exact .inl rfl | exact .inr rfl | exact .inr ⟨rfl, rfl, rfl, by simp; done⟩ | exact .inr ⟨rfl, by simp; done⟩ | exact .inr ⟨rfl, rfl, by simp; done⟩ | apply And.intro)) (by repeat' (first | exact trivial | rfl | exact (tkC_ren.1 _ _).symm | (simp; done) | apply And.intro)) (by first | exact .inl rfl | (refine .inr ⟨trivial, ?_⟩; first | (intro row h; rcases List.mem_singleton.1 h with rfl; exact nvB _) | (intro row h; cases h; done) | (simp; done)) | (refine .inr ⟨by simp [nvP, nvP.nvPs, nvD, nilS, errno], ?_⟩; first | (intro row h; rcases List.mem_singleton.1 h with rfl; exact nvB _) | (intro row h; cases h; done) | (simp [nvRow, nvD, nvP]; done))) ?_
  simp only [int, FinR, evRes, evRVs, evRV, am, simprocAttr, tys]
  rcases (numT t).2 with _ | r
  · exact ⟨_, [], [0], rfl, ⟨rfl, rfl, by simp, (fun i hi => .inr ((by decide : ∀ i, i < 1 → ([0] : List Nat).getD i 0 = i) i hi)), trivial, ⟨.inr ⟨by decide, rfl⟩, trivial⟩, rfl, by decide, rfl, (by first | rfl | simp [scRow, tkC_scs])⟩, rfl, rfl⟩
  · exact ⟨_, [], [0], rfl, ⟨rfl, rfl, by simp, (fun i hi => .inr ((by decide : ∀ i, i < 1 → ([0] : List Nat).getD i 0 = i) i hi)), trivial, ⟨.inr ⟨by decide, rfl⟩, trivial⟩, rfl, by decide, rfl, (by first | rfl | simp [scRow, tkC_scs])⟩, rfl, rfl⟩

theorem refInt (t : Tk) (hl : ∀ bs, t = some bs → bs.length ≤ 100000000000000) : AFun Try.prog 69 [.ptr 0 0] [.box (tkC t)] (int (unfold' (numT t).1)) [.box (tkC (numT t).2)] := by
  refine AFun.of_walk hP Try.func69 rfl rfl rfl (by simp) rfl ?_
  obtain ⟨hn, hr⟩ := numT_lt t hl
  simp only [Try.f69, am, simprocAttr, tys]
  refine ACall.of (refNum t hl) [0] [] rfl (by simp) (by simp) (by simp) (by repeat' (first | exact trivial | exact .inl rfl | exact .inr rfl | exact .inr ⟨rfl, rfl, rfl, by simp; done⟩ | exact .inr ⟨rfl, by simp; done⟩ | exact .inr ⟨rfl, rfl, by simp; done⟩ | apply And.intro)) (by repeat' (first | exact trivial | rfl | exact (tkC_ren.1 _ _).symm | (simp; done) | apply And.intro)) (by first | exact .inl rfl | (refine .inr ⟨trivial, ?_⟩; first | (intro row h; rcases List.mem_singleton.1 h with rfl; exact nvB _) | (intro row h; cases h; done) | (simp; done)) | (refine .inr ⟨by simp [nvP, nvP.nvPs, nvD, nilS, errno], ?_⟩; first | (intro row h; rcases List.mem_singleton.1 h with rfl; exact nvB _) | (intro row h; cases h; done) | (simp [nvRow, nvD, nvP]; done))) ?_
  simp only [tkC_ren, u64, am, simprocAttr, tys]
  refine ACall.of (refOpen (numT t).1 hn) [] [] rfl (by simp) (by simp) (by simp) (by repeat' (first | exact trivial | exact .inl rfl | exact .inr rfl | exact .inr ⟨rfl, rfl, rfl, by simp; done⟩ | exact .inr ⟨rfl, by simp; done⟩ | exact .inr ⟨rfl, rfl, by simp; done⟩ | apply And.intro)) (by repeat' (first | exact trivial | rfl | exact (tkC_ren.1 _ _).symm | (simp; done) | apply And.intro)) (by first | exact .inl rfl | (refine .inr ⟨trivial, ?_⟩; first | (intro row h; rcases List.mem_singleton.1 h with rfl; exact nvB _) | (intro row h; cases h; done) | (simp; done)) | (refine .inr ⟨by simp [nvP, nvP.nvPs, nvD, nilS, errno], ?_⟩; first | (intro row h; rcases List.mem_singleton.1 h with rfl; exact nvB _) | (intro row h; cases h; done) | (simp [nvRow, nvD, nvP]; done))) ?_
  simp only [int, FinR, evRes, evRVs, evRV, am, simprocAttr, tys]
  rcases (numT t).2 with _ | r
  · exact ⟨_, [], [0], rfl, ⟨rfl, rfl, by simp, (fun i hi => .inr ((by decide : ∀ i, i < 1 → ([0] : List Nat).getD i 0 = i) i hi)), trivial, ⟨.inr ⟨by decide, rfl⟩, trivial⟩, rfl, by decide, rfl, (by first | rfl | simp [scRow, tkC_scs])⟩, rfl, rfl⟩
  · exact ⟨_, [], [0], rfl, ⟨rfl, rfl, by simp, (fun i hi => .inr ((by decide : ∀ i, i < 1 → ([0] : List Nat).getD i 0 = i) i hi)), trivial, ⟨.inr ⟨by decide, rfl⟩, trivial⟩, rfl, by decide, rfl, (by first | rfl | simp [scRow, tkC_scs])⟩, rfl, rfl⟩

end Go.Proofs.Ytflpphgccjlkjaa

set_option linter.unusedSimpArgs false
set_option linter.unusedVariables false
namespace Go.Proofs.Ytflpphgccjlkjaa
open Go Go.AM

theorem lebI_free {a b : Int} {r s : List UInt8} (ha : I64 a) (hb : I64 b) (h : lebI a ++ r = lebI b ++ s) : a = b ∧ r = s := by
  obtain ⟨h1, h2⟩ := leb_prefix_free (fold_lt a ha) (fold_lt b hb) h
  refine ⟨?_, h2⟩
  have := congrArg unfold' h1
  rwa [unfold_fold, unfold_fold] at this
theorem sameO_iff (o p : OpT) : sameO o p = true ↔ o = p := by
  obtain ⟨a, b, ⟨c, d, ⟨⟩⟩, e, ⟨⟩⟩ := o
  obtain ⟨a', b', ⟨c', d', ⟨⟩⟩, e', ⟨⟩⟩ := p
  simp [sameO, ptB]
  intro _
  constructor
  · rintro ⟨⟨h2, h3⟩, h4, h5⟩; exact ⟨h4, ⟨h2, h3⟩, h5⟩
  · rintro ⟨h4, ⟨h2, h3⟩, h5⟩; exact ⟨⟨h2, h3⟩, h4, h5⟩
theorem noL_nil {o : OpT} (h : noL o = true) : o.2.1 = [] := List.length_eq_zero_iff.1 (of_decide_eq_true h)
theorem noA_nil {o : OpT} (h : noA o = true) : o.2.2.2.1 = [] := List.length_eq_zero_iff.1 (of_decide_eq_true h)
theorem putO_inj {o p : OpT} (ho : FitI o) (hp : FitI p) (h1 : rightO o = true) (h2 : rightO p = true) (h : putO o = putO p) : o = p := by
  have hk : o.1 = p.1 := (List.cons.inj h).1
  have ht := (List.cons.inj h).2
  rw [← sameO_iff]
  unfold rightO at h1 h2
  rw [← hk] at h2 ht
  have kk : (o.1 == p.1) = true := by rw [hk]; simp
  by_cases k1 : o.1 = 1
  · rw [if_pos k1] at h1 h2
    rw [if_pos k1, if_pos k1] at ht
    simp only [Bool.and_eq_true] at h1 h2
    have e1 := takeLb_put o.2.1 (lebI o.2.2.1.1 ++ lebI o.2.2.1.2.1) h1.1
    have e2 := takeLb_put p.2.1 (lebI p.2.2.1.1 ++ lebI p.2.2.1.2.1) h2.1
    rw [← List.append_assoc, ht, List.append_assoc, e2] at e1
    simp only [Option.some.injEq, Prod.mk.injEq] at e1
    obtain ⟨g1, g2⟩ := e1
    obtain ⟨g3, g4⟩ := lebI_free hp.p1 ho.p1 g2
    have g5 := (lebI_free (r := []) (s := []) hp.p2 ho.p2 (by rw [List.append_nil, List.append_nil]; exact g4)).1
    unfold sameO ptB
    rw [kk, noA_nil h1.2, noA_nil h2.2, g1, g3, g5]; simp
  · rw [if_neg k1] at h1 h2
    rw [if_neg k1, if_neg k1] at ht
    by_cases k4 : o.1 = 4
    · have k3 : ¬ o.1 = 3 := by rw [k4]; decide
      rw [if_pos k4] at h1 h2
      rw [if_neg k3, if_neg k3, if_pos k4, if_pos k4] at ht
      simp only [Bool.and_eq_true, z1, z2, beq_iff_eq] at h1 h2
      have e1 := takeA_put o.2.2.2.1 [] h1.1
      have e2 := takeA_put p.2.2.2.1 [] h2.1
      rw [ht, e2] at e1
      simp only [Option.some.injEq, Prod.mk.injEq] at e1
      unfold sameO ptB
      rw [kk, noL_nil h1.2.1, noL_nil h2.2.1, e1.1, h1.2.2.1, h1.2.2.2, h2.2.2.1, h2.2.2.2]; simp
    · rw [if_neg k4] at h1 h2
      by_cases k3 : o.1 = 3
      · rw [if_pos k3] at h1 h2
        rw [if_pos k3, if_pos k3] at ht
        simp only [Bool.and_eq_true, z2, beq_iff_eq] at h1 h2
        have g5 := (lebI_free (r := []) (s := []) ho.p1 hp.p1 (by rw [List.append_nil, List.append_nil]; exact ht)).1
        unfold sameO ptB
        rw [kk, noL_nil h1.1, noL_nil h2.1, noA_nil h1.2.1, noA_nil h2.2.1, g5, h1.2.2, h2.2.2]; simp
      · rw [if_neg k3] at h1 h2
        by_cases k2 : o.1 = 2
        · rw [if_pos k2] at h1 h2
          simp only [Bool.and_eq_true, z1, z2, beq_iff_eq] at h1 h2
          unfold sameO ptB
          rw [kk, noL_nil h1.1, noL_nil h2.1, noA_nil h1.2.1, noA_nil h2.2.1, h1.2.2.1, h2.2.2.1, h1.2.2.2, h2.2.2.2]; simp
        · rw [if_neg k2] at h1; cases h1
theorem kind_key {o p : OpT} (ho : FitI o) (hp : FitI p) (h1 : rightO o = true) (h2 : rightO p = true) : ((putO o == putO p) == sameO o p) = true := by
  rw [beq_iff_eq, Bool.eq_iff_iff, beq_iff_eq, sameO_iff]
  exact ⟨putO_inj ho hp h1 h2, fun h => by rw [h]⟩
end Go.Proofs.Ytflpphgccjlkjaa
