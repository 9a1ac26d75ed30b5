/- Proved here: what functions of the program compute, and plain laws. No condition. -/
import Derived.Test.YtldckdbdgbpmpaaHeapW
import Derived.Test.YtldckdbdgbpmpaaHeapL
set_option linter.unusedSimpArgs false
set_option linter.unusedVariables false
namespace Go.Proofs.Ytldckdbdgbpmpaa
open Go Go.AM

set_option maxRecDepth 8000 in
theorem heapUp (h : List RunT) (j : Nat) (hj : j < h.length) (hne : NE h) (hl : h.length ≤ 1000000) : AFun Try.prog 31 [.ifc 45 (.ptr 0 0), int j] [.box [.own 1], .own 2 (h.map encR)] (.tup []) [.box [.own 1], .own 2 ((upF (j + 1) h j).map encR)] := by
  refine AFun.of_walk hP Try.func31 rfl rfl rfl (by simp) rfl ?_
  simp only [Try.f31, int, am, simprocAttr, tys]
  generalize hH : upF (j + 1) h j = H
  refine ALoopW.intro 23 2 (ι := { z : Nat × Nat × List RunT // z.2.1 < z.2.2.length ∧ z.2.1 < z.1 ∧ z.2.2.length ≤ 1000000 ∧ NE z.2.2 ∧ upF z.1 z.2.2 z.2.1 = H }) (fun z => [(0, .ifc 45 (.ptr 0 0)), (1, int z.1.2.1)]) (fun z => [.box [.own 1], .own 2 (z.1.2.2.map encR)]) (fun z => z.1.1)
    ⟨(j + 1, j, h), hj, Nat.lt_succ_self j, hl, hne, hH⟩ [] [0, 1] ?_ (fun ⟨⟨k, j, h⟩, hj, hk, hl, hne, hH⟩ => ?_)
  · exact ⟨rfl, rfl, by simp, (fun i hi => .inr ((by decide : ∀ i, i < 2 → ([0, 1] : List Nat).getD i 0 = i) i hi)), ⟨.inr rfl, .inr rfl, trivial⟩, ⟨.inr ⟨by decide, rfl⟩, .inr ⟨by decide, rfl⟩, trivial⟩, rfl, by decide, rfl, (by first | rfl | (simp [scRow, tkC_scs]; done) | (simp [scRow, scB]; done))⟩
  simp only at hj hk hl hne hH ⊢
  obtain _ | k := k
  · exact absurd hk (Nat.not_lt_zero _)
  obtain ⟨p, hp⟩ : ∃ p, p = (j - 1) / 2 := ⟨_, rfl⟩
  have hq : (IntKind.i64.wrap ((j : Int) - 1)).tdiv 2 = ((p : Nat) : Int) := by
    rw [IntWalk.i64_in _ (by omega)]
    rcases Nat.eq_zero_or_pos j with h0 | h0
    · subst h0; subst hp; decide
    · rw [Int.tdiv_eq_ediv_of_nonneg (by omega)]; omega
  have hpj : p ≤ j := by omega
  simp only [upF, ← hp] at hH
  have wp : IntKind.i64.wrap ((p : Nat) : Int) = ((p : Nat) : Int) := IntWalk.i64_in _ (by omega)
  by_cases e : p = j
  · rw [if_pos e] at hH
    have hE : (((p : Nat) : Int) == ((j : Nat) : Int)) = true := by rw [beq_iff_eq]; omega
    rw [← hH]
    simp only [int, hq, wp, hE, FinR, evRes, evRVs, evRV, am, simprocAttr, tys]
    exact ⟨_, [], [0, 1], rfl, ⟨rfl, rfl, by simp, (fun i hi => .inr ((by decide : ∀ i, i < 2 → ([0, 1] : List Nat).getD i 0 = i) i hi)), trivial, ⟨.inr ⟨by decide, rfl⟩, .inr ⟨by decide, rfl⟩, trivial⟩, rfl, by decide, rfl, (by first | rfl | (simp [scRow, tkC_scs]; done) | (simp [scRow, scB]; done))⟩, rfl, rfl⟩
  · rw [if_neg e] at hH
    have hE : (((p : Nat) : Int) == ((j : Nat) : Int)) = false := by rw [beq_eq_false_iff_ne]; omega
    have cL := runsLess h j p (at0 h j) (at0 h p) (at0_some hj) (at0_some (by omega)) (hne _ (at0_mem hj)) (hne _ (at0_mem (by omega)))
    have cS := runsSwap h p j (at0 h p) (at0 h j) (at0_some (by omega)) (at0_some hj)
    simp only [int, hq, wp, hE, am, simprocAttr, tys]
    refine ACall.of (cL) [1] [] rfl (by simp) (by simp) (by simp) (by repeat' (first | exact trivial | exact .inl rfl | exact .inr rfl | exact .inr ⟨rfl, rfl, rfl, by simp; done⟩ | exact .inr ⟨rfl, by simp; done⟩ | exact .inr ⟨rfl, rfl, by simp; done⟩ | apply And.intro)) (by repeat' (first | exact trivial | rfl | exact (tkC_ren.1 _ _).symm | (simp; done) | apply And.intro)) (by first | exact .inl rfl | (refine .inr ⟨trivial, ?_⟩; first | (intro row h; rcases List.mem_singleton.1 h with rfl; exact nvB _) | (intro row h; rcases List.mem_singleton.1 h with rfl; exact nvP2 _) | (intro row h; cases h; done) | (simp; done)) | (refine .inr ⟨by simp [nvP, nvP.nvPs, nvD, nilS, errno], ?_⟩; first | (intro row h; rcases List.mem_singleton.1 h with rfl; exact nvB _) | (intro row h; cases h; done) | (simp [nvRow, nvD, nvP]; done))) ?_
    by_cases hlt : ltR (at0 h j) (at0 h p) = true
    · rw [if_pos hlt] at hH
      simp only [bool, hlt, am, simprocAttr, tys]
      refine ACall.of (cS) [1] [] rfl (by simp) (by simp) (by simp) (by repeat' (first | exact trivial | exact .inl rfl | exact .inr rfl | exact .inr ⟨rfl, rfl, rfl, by simp; done⟩ | exact .inr ⟨rfl, by simp; done⟩ | exact .inr ⟨rfl, rfl, by simp; done⟩ | apply And.intro)) (by repeat' (first | exact trivial | rfl | exact (tkC_ren.1 _ _).symm | (simp; done) | apply And.intro)) (by first | exact .inl rfl | (refine .inr ⟨trivial, ?_⟩; first | (intro row h; rcases List.mem_singleton.1 h with rfl; exact nvB _) | (intro row h; rcases List.mem_singleton.1 h with rfl; exact nvP2 _) | (intro row h; cases h; done) | (simp; done)) | (refine .inr ⟨by simp [nvP, nvP.nvPs, nvD, nilS, errno], ?_⟩; first | (intro row h; rcases List.mem_singleton.1 h with rfl; exact nvB _) | (intro row h; cases h; done) | (simp [nvRow, nvD, nvP]; done))) ?_
      simp only [am, simprocAttr, tys]
      exact ⟨⟨(k, p, swapL h p j), by rw [swapL_len]; show p < h.length; omega, by show p < k; omega, by rw [swapL_len]; exact hl, hne.perm (swapL_perm (by omega) hj), hH⟩, [], [0, 1], ⟨rfl, rfl, by simp, (fun i hi => .inr ((by decide : ∀ i, i < 2 → ([0, 1] : List Nat).getD i 0 = i) i hi)), ⟨.inr rfl, .inr rfl, trivial⟩, ⟨.inr ⟨by decide, rfl⟩, .inr ⟨by decide, rfl⟩, trivial⟩, rfl, by decide, rfl, (by first | rfl | (simp [scRow, tkC_scs]; done) | (simp [scRow, scB]; done))⟩, Nat.lt_succ_self k⟩
    · rw [if_neg hlt] at hH
      have hlf : ltR (at0 h j) (at0 h p) = false := by simpa using hlt
      rw [← hH]
      simp only [bool, hlf, FinR, evRes, evRVs, evRV, am, simprocAttr, tys]
      exact ⟨_, [], [0, 1], rfl, ⟨rfl, rfl, by simp, (fun i hi => .inr ((by decide : ∀ i, i < 2 → ([0, 1] : List Nat).getD i 0 = i) i hi)), trivial, ⟨.inr ⟨by decide, rfl⟩, .inr ⟨by decide, rfl⟩, trivial⟩, rfl, by decide, rfl, (by first | rfl | (simp [scRow, tkC_scs]; done) | (simp [scRow, scB]; done))⟩, rfl, rfl⟩
end Go.Proofs.Ytldckdbdgbpmpaa
