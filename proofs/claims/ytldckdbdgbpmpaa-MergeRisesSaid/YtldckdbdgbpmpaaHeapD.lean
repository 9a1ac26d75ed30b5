/- Proved here: what functions of the program compute, and plain laws. No condition. -/
import Derived.Test.YtldckdbdgbpmpaaHeapU
set_option linter.unusedSimpArgs false
set_option linter.unusedVariables false
namespace Go.Proofs.Ytldckdbdgbpmpaa
open Go Go.AM

def downI : Nat → List RunT → Nat → Nat → Nat
  | 0, _, i, _ => i
  | k + 1, h, i, n => if n ≤ 2 * i + 1 then i else if ltR (at0 h (kid h i n)) (at0 h i) then downI k (swapL h i (kid h i n)) (kid h i n) n else i

set_option maxRecDepth 8000 in
theorem heapDown1 (h : List RunT) (i0 n : Nat) (hn : n ≤ h.length) (hi : i0 ≤ n) (hne : NE h) (hl : h.length ≤ 1000000) :
    AFun Try.prog 32 [.ifc 45 (.ptr 0 0), int i0, int n] [.box [.own 1], .own 2 (h.map encR)] (bool (decide (((i0 : Nat) : Int) < ((downI (n - i0) h i0 n : Nat) : Int)))) [.box [.own 1], .own 2 ((downF (n - i0) h i0 n).map encR)] := by
  refine AFun.of_walk hP Try.func32 rfl rfl rfl (by simp) rfl ?_
  simp only [Try.f32, int, bool, am, simprocAttr, tys]
  generalize hH : downF (n - i0) h i0 n = H
  generalize hI : downI (n - i0) h i0 n = I
  refine ALoopW.intro 48 2 (ι := { z : Nat × Nat × List RunT // n ≤ z.2.1 + z.1 ∧ n ≤ z.2.2.length ∧ z.2.2.length ≤ 1000000 ∧ z.2.1 ≤ n ∧ NE z.2.2 ∧ downF z.1 z.2.2 z.2.1 n = H ∧ downI z.1 z.2.2 z.2.1 n = I })
    (fun z => [(0, .ifc 45 (.ptr 0 0)), (1, int i0), (2, int n), (7, int z.1.2.1)]) (fun z => [.box [.own 1], .own 2 (z.1.2.2.map encR)]) (fun z => z.1.1)
    ⟨(n - i0, i0, h), by show n ≤ i0 + (n - i0); omega, hn, hl, hi, hne, hH, hI⟩ [] [0, 1] ?_ (fun ⟨⟨k, i, h⟩, hk, hn, hl, hi, hne, hH, hI⟩ => ?_)
  · exact ⟨rfl, rfl, by simp, (fun i hi => .inr ((by decide : ∀ i, i < 2 → ([0, 1] : List Nat).getD i 0 = i) i hi)), ⟨.inr rfl, .inr rfl, .inr rfl, .inr rfl, trivial⟩, ⟨.inr ⟨by decide, rfl⟩, .inr ⟨by decide, rfl⟩, trivial⟩, rfl, by decide, rfl, (by first | rfl | (simp [scRow, tkC_scs]; done) | (simp [scRow, scB]; done))⟩
  simp only at hk hn hl hi hne hH hI ⊢
  have m1 : IntKind.i64.wrap (2 * (i : Int)) = ((2 * i : Nat) : Int) := by rw [IntWalk.i64_in _ (by omega)]; omega
  have m2 : IntKind.i64.wrap (((2 * i : Nat) : Int) + 1) = ((2 * i + 1 : Nat) : Int) := by rw [IntWalk.i64_in _ (by omega)]; omega
  have m3 : IntKind.i64.wrap (((2 * i + 1 : Nat) : Int) + 1) = ((2 * i + 2 : Nat) : Int) := by rw [IntWalk.i64_in _ (by omega)]; omega
  by_cases e : n ≤ 2 * i + 1
  · have hF : H = h ∧ I = i := by
      cases k with
      | zero => exact ⟨hH.symm, hI.symm⟩
      | succ k => rw [downF, if_pos e] at hH; rw [downI, if_pos e] at hI; exact ⟨hH.symm, hI.symm⟩
    rw [hF.1, hF.2]
    have c1 : ((n : Int) ≤ ((2 * i + 1 : Nat) : Int)) := by omega
    simp only [int, bool, m1, m2, c1, FinR, evRes, evRVs, evRV, am, simprocAttr, tys]
    exact ⟨_, [], [0, 1], rfl, ⟨rfl, rfl, by simp, (fun i hi => .inr ((by decide : ∀ i, i < 2 → ([0, 1] : List Nat).getD i 0 = i) i hi)), trivial, ⟨.inr ⟨by decide, rfl⟩, .inr ⟨by decide, rfl⟩, trivial⟩, rfl, by decide, rfl, (by first | rfl | (simp [scRow, tkC_scs]; done) | (simp [scRow, scB]; done))⟩, rfl, rfl⟩
  obtain _ | k := k
  · omega
  rw [downF, if_neg e] at hH
  rw [downI, if_neg e] at hI
  have c1 : ¬ ((n : Int) ≤ ((2 * i + 1 : Nat) : Int)) := by omega
  have c2 : ¬ (((2 * i + 1 : Nat) : Int) < 0) := by omega
  obtain ⟨k1, k2, k3, k4⟩ := kid_spec (h := h) e
  have cK := runsLess h (kid h i n) i (at0 h (kid h i n)) (at0 h i) (at0_some (by omega)) (at0_some (by omega)) (hne _ (at0_mem (by omega))) (hne _ (at0_mem (by omega)))
  have cS := runsSwap h i (kid h i n) (at0 h i) (at0 h (kid h i n)) (at0_some (by omega)) (at0_some (by omega))
  by_cases e2 : 2 * i + 2 < n
  · have c3 : (((2 * i + 2 : Nat) : Int) < (n : Int)) := by omega
    have cL := runsLess h (2 * i + 2) (2 * i + 1) (at0 h (2 * i + 2)) (at0 h (2 * i + 1)) (at0_some (by omega)) (at0_some (by omega)) (hne _ (at0_mem (by omega))) (hne _ (at0_mem (by omega)))
    simp only [int] at cL
    simp only [int, bool, m1, m2, m3, c1, c2, c3, am, simprocAttr, tys]
    refine ACall.of (cL) [1] [] rfl (by simp) (by simp) (by simp) (by repeat' (first | exact trivial | exact .inl rfl | exact .inr rfl | exact .inr ⟨rfl, rfl, rfl, by simp; done⟩ | exact .inr ⟨rfl, by simp; done⟩ | exact .inr ⟨rfl, rfl, by simp; done⟩ | apply And.intro)) (by repeat' (first | exact trivial | rfl | exact (tkC_ren.1 _ _).symm | (simp; done) | apply And.intro)) (by first | exact .inl rfl | (refine .inr ⟨trivial, ?_⟩; first | (intro row h; rcases List.mem_singleton.1 h with rfl; exact nvB _) | (intro row h; rcases List.mem_singleton.1 h with rfl; exact nvP2 _) | (intro row h; cases h; done) | (simp; done)) | (refine .inr ⟨by simp [nvP, nvP.nvPs, nvD, nilS, errno], ?_⟩; first | (intro row h; rcases List.mem_singleton.1 h with rfl; exact nvB _) | (intro row h; cases h; done) | (simp [nvRow, nvD, nvP]; done))) ?_
    by_cases e3 : ltR (at0 h (2 * i + 2)) (at0 h (2 * i + 1)) = true
    · have ek : kid h i n = 2 * i + 2 := by unfold kid; exact if_pos ⟨e2, e3⟩
      rw [ek] at hH hI cK cS
      simp only [bool, e3, am, simprocAttr, tys]
      refine ACall.of (cK) [1] [] rfl (by simp) (by simp) (by simp) (by repeat' (first | exact trivial | exact .inl rfl | exact .inr rfl | exact .inr ⟨rfl, rfl, rfl, by simp; done⟩ | exact .inr ⟨rfl, by simp; done⟩ | exact .inr ⟨rfl, rfl, by simp; done⟩ | apply And.intro)) (by repeat' (first | exact trivial | rfl | exact (tkC_ren.1 _ _).symm | (simp; done) | apply And.intro)) (by first | exact .inl rfl | (refine .inr ⟨trivial, ?_⟩; first | (intro row h; rcases List.mem_singleton.1 h with rfl; exact nvB _) | (intro row h; rcases List.mem_singleton.1 h with rfl; exact nvP2 _) | (intro row h; cases h; done) | (simp; done)) | (refine .inr ⟨by simp [nvP, nvP.nvPs, nvD, nilS, errno], ?_⟩; first | (intro row h; rcases List.mem_singleton.1 h with rfl; exact nvB _) | (intro row h; cases h; done) | (simp [nvRow, nvD, nvP]; done))) ?_
      by_cases hlt : ltR (at0 h (2 * i + 2)) (at0 h i) = true
      · rw [if_pos hlt] at hH hI
        simp only [bool, hlt, am, simprocAttr, tys]
        refine ACall.of (cS) [1] [] rfl (by simp) (by simp) (by simp) (by repeat' (first | exact trivial | exact .inl rfl | exact .inr rfl | exact .inr ⟨rfl, rfl, rfl, by simp; done⟩ | exact .inr ⟨rfl, by simp; done⟩ | exact .inr ⟨rfl, rfl, by simp; done⟩ | apply And.intro)) (by repeat' (first | exact trivial | rfl | exact (tkC_ren.1 _ _).symm | (simp; done) | apply And.intro)) (by first | exact .inl rfl | (refine .inr ⟨trivial, ?_⟩; first | (intro row h; rcases List.mem_singleton.1 h with rfl; exact nvB _) | (intro row h; rcases List.mem_singleton.1 h with rfl; exact nvP2 _) | (intro row h; cases h; done) | (simp; done)) | (refine .inr ⟨by simp [nvP, nvP.nvPs, nvD, nilS, errno], ?_⟩; first | (intro row h; rcases List.mem_singleton.1 h with rfl; exact nvB _) | (intro row h; cases h; done) | (simp [nvRow, nvD, nvP]; done))) ?_
        simp only [am, simprocAttr, tys]
        exact ⟨⟨(k, 2 * i + 2, swapL h i (2 * i + 2)), by show n ≤ 2 * i + 2 + k; omega, by rw [swapL_len]; exact hn, by rw [swapL_len]; exact hl, by show 2 * i + 2 ≤ n; omega, hne.perm (swapL_perm (by omega) (by omega)), hH, hI⟩, [], [0, 1], ⟨rfl, rfl, by simp, (fun i hi => .inr ((by decide : ∀ i, i < 2 → ([0, 1] : List Nat).getD i 0 = i) i hi)), ⟨.inr rfl, .inr rfl, .inr rfl, .inr rfl, trivial⟩, ⟨.inr ⟨by decide, rfl⟩, .inr ⟨by decide, rfl⟩, trivial⟩, rfl, by decide, rfl, (by first | rfl | (simp [scRow, tkC_scs]; done) | (simp [scRow, scB]; done))⟩, Nat.lt_succ_self k⟩
      · rw [if_neg hlt] at hH hI
        have hlf : ltR (at0 h (2 * i + 2)) (at0 h i) = false := by simpa using hlt
        rw [← hH, ← hI]
        simp only [bool, int, hlf, FinR, evRes, evRVs, evRV, am, simprocAttr, tys]
        exact ⟨_, [], [0, 1], rfl, ⟨rfl, rfl, by simp, (fun i hi => .inr ((by decide : ∀ i, i < 2 → ([0, 1] : List Nat).getD i 0 = i) i hi)), trivial, ⟨.inr ⟨by decide, rfl⟩, .inr ⟨by decide, rfl⟩, trivial⟩, rfl, by decide, rfl, (by first | rfl | (simp [scRow, tkC_scs]; done) | (simp [scRow, scB]; done))⟩, rfl, rfl⟩
    · have ek : kid h i n = 2 * i + 1 := by unfold kid; exact if_neg (fun h => e3 h.2)
      have e3' : ltR (at0 h (2 * i + 2)) (at0 h (2 * i + 1)) = false := by simpa using e3
      rw [ek] at hH hI cK cS
      simp only [bool, e3', am, simprocAttr, tys]
      refine ACall.of (cK) [1] [] rfl (by simp) (by simp) (by simp) (by repeat' (first | exact trivial | exact .inl rfl | exact .inr rfl | exact .inr ⟨rfl, rfl, rfl, by simp; done⟩ | exact .inr ⟨rfl, by simp; done⟩ | exact .inr ⟨rfl, rfl, by simp; done⟩ | apply And.intro)) (by repeat' (first | exact trivial | rfl | exact (tkC_ren.1 _ _).symm | (simp; done) | apply And.intro)) (by first | exact .inl rfl | (refine .inr ⟨trivial, ?_⟩; first | (intro row h; rcases List.mem_singleton.1 h with rfl; exact nvB _) | (intro row h; rcases List.mem_singleton.1 h with rfl; exact nvP2 _) | (intro row h; cases h; done) | (simp; done)) | (refine .inr ⟨by simp [nvP, nvP.nvPs, nvD, nilS, errno], ?_⟩; first | (intro row h; rcases List.mem_singleton.1 h with rfl; exact nvB _) | (intro row h; cases h; done) | (simp [nvRow, nvD, nvP]; done))) ?_
      by_cases hlt : ltR (at0 h (2 * i + 1)) (at0 h i) = true
      · rw [if_pos hlt] at hH hI
        simp only [bool, hlt, am, simprocAttr, tys]
        refine ACall.of (cS) [1] [] rfl (by simp) (by simp) (by simp) (by repeat' (first | exact trivial | exact .inl rfl | exact .inr rfl | exact .inr ⟨rfl, rfl, rfl, by simp; done⟩ | exact .inr ⟨rfl, by simp; done⟩ | exact .inr ⟨rfl, rfl, by simp; done⟩ | apply And.intro)) (by repeat' (first | exact trivial | rfl | exact (tkC_ren.1 _ _).symm | (simp; done) | apply And.intro)) (by first | exact .inl rfl | (refine .inr ⟨trivial, ?_⟩; first | (intro row h; rcases List.mem_singleton.1 h with rfl; exact nvB _) | (intro row h; rcases List.mem_singleton.1 h with rfl; exact nvP2 _) | (intro row h; cases h; done) | (simp; done)) | (refine .inr ⟨by simp [nvP, nvP.nvPs, nvD, nilS, errno], ?_⟩; first | (intro row h; rcases List.mem_singleton.1 h with rfl; exact nvB _) | (intro row h; cases h; done) | (simp [nvRow, nvD, nvP]; done))) ?_
        simp only [am, simprocAttr, tys]
        exact ⟨⟨(k, 2 * i + 1, swapL h i (2 * i + 1)), by show n ≤ 2 * i + 1 + k; omega, by rw [swapL_len]; exact hn, by rw [swapL_len]; exact hl, by show 2 * i + 1 ≤ n; omega, hne.perm (swapL_perm (by omega) (by omega)), hH, hI⟩, [], [0, 1], ⟨rfl, rfl, by simp, (fun i hi => .inr ((by decide : ∀ i, i < 2 → ([0, 1] : List Nat).getD i 0 = i) i hi)), ⟨.inr rfl, .inr rfl, .inr rfl, .inr rfl, trivial⟩, ⟨.inr ⟨by decide, rfl⟩, .inr ⟨by decide, rfl⟩, trivial⟩, rfl, by decide, rfl, (by first | rfl | (simp [scRow, tkC_scs]; done) | (simp [scRow, scB]; done))⟩, Nat.lt_succ_self k⟩
      · rw [if_neg hlt] at hH hI
        have hlf : ltR (at0 h (2 * i + 1)) (at0 h i) = false := by simpa using hlt
        rw [← hH, ← hI]
        simp only [bool, int, hlf, FinR, evRes, evRVs, evRV, am, simprocAttr, tys]
        exact ⟨_, [], [0, 1], rfl, ⟨rfl, rfl, by simp, (fun i hi => .inr ((by decide : ∀ i, i < 2 → ([0, 1] : List Nat).getD i 0 = i) i hi)), trivial, ⟨.inr ⟨by decide, rfl⟩, .inr ⟨by decide, rfl⟩, trivial⟩, rfl, by decide, rfl, (by first | rfl | (simp [scRow, tkC_scs]; done) | (simp [scRow, scB]; done))⟩, rfl, rfl⟩
  · have c3 : ¬ (((2 * i + 2 : Nat) : Int) < (n : Int)) := by omega
    have ek : kid h i n = 2 * i + 1 := by unfold kid; exact if_neg (fun h => e2 h.1)
    rw [ek] at hH hI cK cS
    simp only [int] at cK
    simp only [int, bool, m1, m2, m3, c1, c2, c3, am, simprocAttr, tys]
    refine ACall.of (cK) [1] [] rfl (by simp) (by simp) (by simp) (by repeat' (first | exact trivial | exact .inl rfl | exact .inr rfl | exact .inr ⟨rfl, rfl, rfl, by simp; done⟩ | exact .inr ⟨rfl, by simp; done⟩ | exact .inr ⟨rfl, rfl, by simp; done⟩ | apply And.intro)) (by repeat' (first | exact trivial | rfl | exact (tkC_ren.1 _ _).symm | (simp; done) | apply And.intro)) (by first | exact .inl rfl | (refine .inr ⟨trivial, ?_⟩; first | (intro row h; rcases List.mem_singleton.1 h with rfl; exact nvB _) | (intro row h; rcases List.mem_singleton.1 h with rfl; exact nvP2 _) | (intro row h; cases h; done) | (simp; done)) | (refine .inr ⟨by simp [nvP, nvP.nvPs, nvD, nilS, errno], ?_⟩; first | (intro row h; rcases List.mem_singleton.1 h with rfl; exact nvB _) | (intro row h; cases h; done) | (simp [nvRow, nvD, nvP]; done))) ?_
    by_cases hlt : ltR (at0 h (2 * i + 1)) (at0 h i) = true
    · rw [if_pos hlt] at hH hI
      simp only [bool, hlt, am, simprocAttr, tys]
      refine ACall.of (cS) [1] [] rfl (by simp) (by simp) (by simp) (by repeat' (first | exact trivial | exact .inl rfl | exact .inr rfl | exact .inr ⟨rfl, rfl, rfl, by simp; done⟩ | exact .inr ⟨rfl, by simp; done⟩ | exact .inr ⟨rfl, rfl, by simp; done⟩ | apply And.intro)) (by repeat' (first | exact trivial | rfl | exact (tkC_ren.1 _ _).symm | (simp; done) | apply And.intro)) (by first | exact .inl rfl | (refine .inr ⟨trivial, ?_⟩; first | (intro row h; rcases List.mem_singleton.1 h with rfl; exact nvB _) | (intro row h; rcases List.mem_singleton.1 h with rfl; exact nvP2 _) | (intro row h; cases h; done) | (simp; done)) | (refine .inr ⟨by simp [nvP, nvP.nvPs, nvD, nilS, errno], ?_⟩; first | (intro row h; rcases List.mem_singleton.1 h with rfl; exact nvB _) | (intro row h; cases h; done) | (simp [nvRow, nvD, nvP]; done))) ?_
      simp only [am, simprocAttr, tys]
      exact ⟨⟨(k, 2 * i + 1, swapL h i (2 * i + 1)), by show n ≤ 2 * i + 1 + k; omega, by rw [swapL_len]; exact hn, by rw [swapL_len]; exact hl, by show 2 * i + 1 ≤ n; omega, hne.perm (swapL_perm (by omega) (by omega)), hH, hI⟩, [], [0, 1], ⟨rfl, rfl, by simp, (fun i hi => .inr ((by decide : ∀ i, i < 2 → ([0, 1] : List Nat).getD i 0 = i) i hi)), ⟨.inr rfl, .inr rfl, .inr rfl, .inr rfl, trivial⟩, ⟨.inr ⟨by decide, rfl⟩, .inr ⟨by decide, rfl⟩, trivial⟩, rfl, by decide, rfl, (by first | rfl | (simp [scRow, tkC_scs]; done) | (simp [scRow, scB]; done))⟩, Nat.lt_succ_self k⟩
    · rw [if_neg hlt] at hH hI
      have hlf : ltR (at0 h (2 * i + 1)) (at0 h i) = false := by simpa using hlt
      rw [← hH, ← hI]
      simp only [bool, int, hlf, FinR, evRes, evRVs, evRV, am, simprocAttr, tys]
      exact ⟨_, [], [0, 1], rfl, ⟨rfl, rfl, by simp, (fun i hi => .inr ((by decide : ∀ i, i < 2 → ([0, 1] : List Nat).getD i 0 = i) i hi)), trivial, ⟨.inr ⟨by decide, rfl⟩, .inr ⟨by decide, rfl⟩, trivial⟩, rfl, by decide, rfl, (by first | rfl | (simp [scRow, tkC_scs]; done) | (simp [scRow, scB]; done))⟩, rfl, rfl⟩
theorem heapDown (h : List RunT) (i0 n : Nat) (hn : n ≤ h.length) (hi : i0 ≤ n) (hne : NE h) (hl : h.length ≤ 1000000) :
    AFun Try.prog 32 [.ifc 45 (.ptr 0 0), int i0, int n] [.box [.own 1], .own 2 (h.map encR)] .any [.box [.own 1], .own 2 ((downF (n - i0) h i0 n).map encR)] :=
  AFun.weaken (heapDown1 h i0 n hn hi hne hl) trivial (fun rows β w X v h => by unfold repP; trivial)
end Go.Proofs.Ytldckdbdgbpmpaa
