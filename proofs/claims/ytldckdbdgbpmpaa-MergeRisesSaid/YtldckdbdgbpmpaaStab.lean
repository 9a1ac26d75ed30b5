/- Proved here: what functions of the program compute, and plain laws. No condition. -/
import Derived.Test.YtldckdbdgbpmpaaBlocks
import Derived.Test.YtldckdbdgbpmpaaSymG
set_option linter.unusedSimpArgs false
set_option linter.unusedVariables false
namespace Go.Proofs.Ytldckdbdgbpmpaa
open Go Go.AM

theorem insP (A S B : List PtT) (hl : (A ++ S ++ B).length ≤ 100000000000000) (a b : Nat) (ha : a = A.length) (hb : b = A.length + S.length) :
    AFun Try.prog 35 [.own 0, int a, int b, ofC] [.own 2 ((A ++ S ++ B).map encP)] (.tup []) [.own 2 ((A ++ sortP S ++ B).map encP)] := by
  have h := insSort A S B 27 (fun x y => cmpN x.1 y.1) (by kernel_rfl) nvP2 (fun x _ y _ => of1 x y) hl a b ha hb
  rw [isort_cmp] at h
  exact h

set_option maxRecDepth 8000 in
set_option maxHeartbeats 4000000 in
theorem stableC (l : List PtT) (hl : l.length ≤ 10000000000) :
    AFun Try.prog 33 [.own 0, int l.length, ofC] [.own 2 (l.map encP)] (.tup []) [.own 2 ((sortP l).map encP)] := by
  refine AFun.of_walk hP Try.func33 rfl rfl rfl (by simp) rfl ?_
  simp only [Try.f33, int, ofC, am, simprocAttr, tys]
  obtain ⟨n, en⟩ : ∃ n, l.length = n := ⟨_, rfl⟩
  rw [en] at hl ⊢
  refine ALoopW.intro 63 1 (ι := { z : Nat × List PtT // 20 * z.1 ≤ n ∧ StB 20 l l z.1 z.2 }) (fun z => [(0, .own 0), (1, int n), (2, ofC), (6, int 20), (7, int ((20 * z.1.1 : Nat) : Int)), (8, int ((20 * z.1.1 + 20 : Nat) : Int))]) (fun z => [.own 2 (z.1.2.map encP)]) (fun z => n - z.1.1)
    ⟨(0, l), by omega, StB.zero 20 l l rfl⟩ [] [0] ?_ (fun ⟨⟨k, M⟩, hk, hst⟩ => ?_)
  · exact ⟨rfl, rfl, by simp, (fun i hi => .inr ((by decide : ∀ i, i < 1 → ([0] : List Nat).getD i 0 = i) i hi)), ⟨.inr rfl, .inr rfl, .inr rfl, .inr rfl, .inr rfl, .inr rfl, trivial⟩, ⟨.inr ⟨by decide, rfl⟩, trivial⟩, rfl, by decide, rfl, (by first | rfl | (simp [scRow, tkC_scs]; done) | (simp [scRow, scB]; done))⟩
  simp only at hk hst ⊢
  have hML := hst.len
  have lA : (M.take (20 * k)).length = 20 * k := by rw [List.length_take]; omega
  have hrest := hst.rest
  rcases Nat.lt_or_ge n (20 * k + 20) with hlt | hge
  case' inr =>
    have hI : (((20 * k + 20 : Nat) : Int) ≤ (n : Int)) := by omega
    have eM : M = M.take (20 * k) ++ ck 20 k l ++ (M.drop (20 * k)).drop 20 := by
      unfold ck; rw [← hrest, List.append_assoc, List.take_append_drop, List.take_append_drop]
    have lS : (ck 20 k l).length = 20 := by rw [ck_len]; omega
    have lS' : (sortP (ck 20 k l)).length = (ck 20 k l).length := sortP_len _
    have hnext := hst.step eM lA lS rfl lS'
    have c := insP (M.take (20 * k)) (ck 20 k l) ((M.drop (20 * k)).drop 20) (by rw [← eM]; omega) (20 * k) (20 * k + 20) lA.symm (by omega)
    rw [← eM] at c
    have w1 : IntKind.i64.wrap (((20 * k + 20 : Nat) : Int) + 20) = ((20 * (k + 1) + 20 : Nat) : Int) := by rw [IntWalk.i64_in _ (by omega)]; omega
    simp only [int, ofC, hI, am, simprocAttr, tys]
    refine ACall.of (c) [0] [] rfl (by simp) (by simp) (by simp) (by repeat' (first | exact trivial | exact .inl rfl | exact .inr rfl | exact .inr ⟨rfl, rfl, rfl, by simp; done⟩ | exact .inr ⟨rfl, by simp; done⟩ | exact .inr ⟨rfl, rfl, by simp; done⟩ | apply And.intro)) (by repeat' (first | exact trivial | rfl | exact (tkC_ren.1 _ _).symm | (simp; done) | apply And.intro)) (by first | exact .inl rfl | (refine .inr ⟨trivial, ?_⟩; first | (intro row h; rcases List.mem_singleton.1 h with rfl; exact nvB _) | (intro row h; rcases List.mem_singleton.1 h with rfl; exact nvP2 _) | (intro row h; cases h; done) | (simp; done)) | (refine .inr ⟨by simp [nvP, nvP.nvPs, nvD, nilS, errno], ?_⟩; first | (intro row h; rcases List.mem_singleton.1 h with rfl; exact nvB _) | (intro row h; cases h; done) | (simp [nvRow, nvD, nvP]; done))) ?_
    simp only [w1, am, simprocAttr, tys]
    have e2 : ((20 * k + 20 : Nat) : Int) = ((20 * (k + 1) : Nat) : Int) := by omega
    rw [e2]
    exact ⟨⟨(k + 1, _), by omega, hnext⟩, [], [0], ⟨rfl, rfl, by simp, (fun i hi => .inr ((by decide : ∀ i, i < 1 → ([0] : List Nat).getD i 0 = i) i hi)), ⟨.inr rfl, .inr rfl, .inr rfl, .inr rfl, .inr rfl, .inr rfl, trivial⟩, ⟨.inr ⟨by decide, rfl⟩, trivial⟩, rfl, by decide, rfl, (by first | rfl | (simp [scRow, tkC_scs]; done) | (simp [scRow, scB]; done))⟩, by show n - (k + 1) < n - k; omega⟩
  have hI : ¬ (((20 * k + 20 : Nat) : Int) ≤ (n : Int)) := by omega
  have eM : M = M.take (20 * k) ++ M.drop (20 * k) := (List.take_append_drop _ _).symm
  have eck : M.drop (20 * k) = ck 20 k l := by unfold ck; rw [← hrest, List.take_of_length_le (by rw [List.length_drop]; omega)]
  have lS : (M.drop (20 * k)).length ≤ 20 := by rw [List.length_drop]; omega
  have hblk := hst.fin eM lA lS (S' := sortP (ck 20 k l)) rfl (by rw [sortP_len, eck])
  have c := insP (M.take (20 * k)) (M.drop (20 * k)) [] (by rw [List.append_nil, ← eM]; omega) (20 * k) n lA.symm (by rw [List.length_drop]; omega)
  rw [List.append_nil, List.append_nil, ← eM, eck] at c
  simp only [int, ofC, hI, am, simprocAttr, tys]
  refine ACall.of (c) [0] [] rfl (by simp) (by simp) (by simp) (by repeat' (first | exact trivial | exact .inl rfl | exact .inr rfl | exact .inr ⟨rfl, rfl, rfl, by simp; done⟩ | exact .inr ⟨rfl, by simp; done⟩ | exact .inr ⟨rfl, rfl, by simp; done⟩ | apply And.intro)) (by repeat' (first | exact trivial | rfl | exact (tkC_ren.1 _ _).symm | (simp; done) | apply And.intro)) (by first | exact .inl rfl | (refine .inr ⟨trivial, ?_⟩; first | (intro row h; rcases List.mem_singleton.1 h with rfl; exact nvB _) | (intro row h; rcases List.mem_singleton.1 h with rfl; exact nvP2 _) | (intro row h; cases h; done) | (simp; done)) | (refine .inr ⟨by simp [nvP, nvP.nvPs, nvD, nilS, errno], ?_⟩; first | (intro row h; rcases List.mem_singleton.1 h with rfl; exact nvB _) | (intro row h; cases h; done) | (simp [nvRow, nvD, nvP]; done))) ?_
  simp only [am, simprocAttr, tys]
  generalize M.take (20 * k) ++ sortP (ck 20 k l) = W at *
  clear c eck lS eM lA hrest hML hst
  refine ALoopW.intro 63 1 (ι := { z : Nat × List PtT // 20 ≤ z.1 ∧ z.1 ≤ 20 + 2 * n ∧ Blk z.1 l z.2 }) (fun z => [(0, .own 0), (1, int n), (2, ofC), (6, int z.1.1)]) (fun z => [.own 2 (z.1.2.map encP)]) (fun z => n - z.1.1)
    ⟨(20, W), by omega, by omega, hblk⟩ [] [0] ?_ (fun ⟨⟨s, W⟩, hs0, hs1, hblk⟩ => ?_)
  · exact ⟨rfl, rfl, by simp, (fun i hi => .inr ((by decide : ∀ i, i < 1 → ([0] : List Nat).getD i 0 = i) i hi)), ⟨.inr rfl, .inr rfl, .inr rfl, .inr rfl, trivial⟩, ⟨.inr ⟨by decide, rfl⟩, trivial⟩, rfl, by decide, rfl, (by first | rfl | (simp [scRow, tkC_scs]; done) | (simp [scRow, scB]; done))⟩
  simp only at hs0 hs1 hblk ⊢
  rcases Nat.lt_or_ge s n with hlt2 | hge2
  case' inr =>
    have hI2 : ¬ ((s : Int) < (n : Int)) := by omega
    have e := blk_whole hblk (by omega)
    rw [e]
    simp only [int, ofC, hI2, FinR, evRes, evRVs, evRV, am, simprocAttr, tys]
    exact ⟨_, [], [0], rfl, ⟨rfl, rfl, by simp, (fun i hi => .inr ((by decide : ∀ i, i < 1 → ([0] : List Nat).getD i 0 = i) i hi)), trivial, ⟨.inr ⟨by decide, rfl⟩, trivial⟩, rfl, by decide, rfl, (by first | rfl | (simp [scRow, tkC_scs]; done) | (simp [scRow, scB]; done))⟩, rfl, rfl⟩
  have hI2 : ((s : Int) < (n : Int)) := by omega
  obtain ⟨d, hd⟩ : ∃ d, 2 * s = d := ⟨_, rfl⟩
  have u1 : IntKind.i64.wrap (2 * (s : Int)) = ((d : Nat) : Int) := by rw [IntWalk.i64_in _ (by omega)]; omega
  have u1' : IntKind.i64.wrap ((s : Int) * 2) = ((d : Nat) : Int) := by rw [IntWalk.i64_in _ (by omega)]; omega
  have hWl := hblk.1
  simp only [int, ofC, hI2, u1, u1', am, simprocAttr, tys]
  refine ALoopW.intro 63 1 (ι := { z : Nat × List PtT // d * z.1 ≤ n ∧ StB d l W z.1 z.2 }) (fun z => [(0, .own 0), (1, int n), (2, ofC), (6, int s), (7, int ((d * z.1.1 : Nat) : Int)), (8, int ((d * z.1.1 + d : Nat) : Int))]) (fun z => [.own 2 (z.1.2.map encP)]) (fun z => n - d * z.1.1)
    ⟨(0, W), by omega, StB.zero d l W (by omega)⟩ [] [0] ?_ (fun ⟨⟨k, M⟩, hk, hst⟩ => ?_)
  · simp only [Nat.mul_zero, Nat.zero_add]
    exact ⟨rfl, rfl, by simp, (fun i hi => .inr ((by decide : ∀ i, i < 1 → ([0] : List Nat).getD i 0 = i) i hi)), ⟨.inr rfl, .inr rfl, .inr rfl, .inr rfl, .inr rfl, .inr rfl, trivial⟩, ⟨.inr ⟨by decide, rfl⟩, trivial⟩, rfl, by decide, rfl, (by first | rfl | (simp [scRow, tkC_scs]; done) | (simp [scRow, scB]; done))⟩
  simp only at hk hst ⊢
  have hML := hst.len
  have lA : (M.take (d * k)).length = d * k := by rw [List.length_take]; omega
  have hrest := hst.rest
  have hks : d * (k + 1) = d * k + d := Nat.mul_succ d k
  have e2k : s * (2 * k) = d * k := by rw [← hd, Nat.mul_comm 2 s, Nat.mul_assoc]
  have e2k1 : s * (2 * k + 1) = d * k + s := by rw [Nat.mul_succ, e2k]
  have b1 := hblk.2 (2 * k)
  have b2 := hblk.2 (2 * k + 1)
  have hck2 : ck d k l = ck s (2 * k) l ++ ck s (2 * k + 1) l := by rw [← hd]; exact ck_two s k l
  have s1 : Srt (ck s (2 * k) W) := by rw [b1]; exact sortP_sorted _
  have s2 : Srt (ck s (2 * k + 1) W) := by rw [b2]; exact sortP_sorted _
  have hS' : sortP (ck s (2 * k) W ++ ck s (2 * k + 1) W) = sortP (ck d k l) := by rw [b1, b2, sortP_two, hck2]
  have l1 := ck_len s (2 * k) W
  have l2 := ck_len s (2 * k + 1) W
  rw [e2k] at l1
  rw [e2k1] at l2
  have hpre : M.drop (d * k) = ck s (2 * k) W ++ (ck s (2 * k + 1) W ++ (M.drop (d * k)).drop d) := by
    unfold ck
    rw [e2k, e2k1, hrest]
    generalize hT : W.drop (d * k) = T
    have : W.drop (d * k + s) = T.drop s := by rw [← hT, List.drop_drop]
    rw [this, ← hd, show 2 * s = s + s from by omega, ← List.drop_drop, List.take_append_drop, List.take_append_drop]
  have eM : M = M.take (d * k) ++ (ck s (2 * k) W ++ ck s (2 * k + 1) W) ++ (M.drop (d * k)).drop d := by
    rw [List.append_assoc, List.append_assoc, ← hpre, List.take_append_drop]
  have l3 : ((M.drop (d * k)).drop d).length = n - d * k - d := by rw [List.length_drop, List.length_drop]; omega
  generalize ck s (2 * k) W = P1 at *
  generalize ck s (2 * k + 1) W = P2 at *
  rcases Nat.lt_or_ge n (d * k + d) with hlt3 | hge3
  case' inr =>
    have hI3 : (((d * k + d : Nat) : Int) ≤ (n : Int)) := by omega
    have lS : (P1 ++ P2).length = d := by rw [List.length_append]; omega
    have hnext := hst.step eM lA lS hS' (by rw [sortP_len])
    have c := symAll _ (M.take (d * k)) P1 P2 ((M.drop (d * k)).drop d) (Nat.le_refl _) (by omega) (by omega) s1 s2 (by omega) (d * k) (d * k + s) (d * k + d) lA.symm (by omega) (by omega)
    rw [List.append_assoc _ P1 P2, ← eM] at c
    have u2 : IntKind.i64.wrap (((d * k : Nat) : Int) + (s : Int)) = ((d * k + s : Nat) : Int) := by rw [IntWalk.i64_in _ (by omega)]; simp
    have u3 : IntKind.i64.wrap (((d * k + d : Nat) : Int) + ((d : Nat) : Int)) = ((d * (k + 1) + d : Nat) : Int) := by rw [IntWalk.i64_in _ (by omega)]; omega
    simp only [int, ofC, hI3, u1, u2, am, simprocAttr, tys]
    refine ACall.of (c) [0] [] rfl (by simp) (by simp) (by simp) (by repeat' (first | exact trivial | exact .inl rfl | exact .inr rfl | exact .inr ⟨rfl, rfl, rfl, by simp; done⟩ | exact .inr ⟨rfl, by simp; done⟩ | exact .inr ⟨rfl, rfl, by simp; done⟩ | apply And.intro)) (by repeat' (first | exact trivial | rfl | exact (tkC_ren.1 _ _).symm | (simp; done) | apply And.intro)) (by first | exact .inl rfl | (refine .inr ⟨trivial, ?_⟩; first | (intro row h; rcases List.mem_singleton.1 h with rfl; exact nvB _) | (intro row h; rcases List.mem_singleton.1 h with rfl; exact nvP2 _) | (intro row h; cases h; done) | (simp; done)) | (refine .inr ⟨by simp [nvP, nvP.nvPs, nvD, nilS, errno], ?_⟩; first | (intro row h; rcases List.mem_singleton.1 h with rfl; exact nvB _) | (intro row h; cases h; done) | (simp [nvRow, nvD, nvP]; done))) ?_
    simp only [u1, u3, am, simprocAttr, tys]
    have e2 : ((d * k + d : Nat) : Int) = ((d * (k + 1) : Nat) : Int) := by omega
    rw [e2]
    exact ⟨⟨(k + 1, _), by omega, hnext⟩, [], [0], ⟨rfl, rfl, by simp, (fun i hi => .inr ((by decide : ∀ i, i < 1 → ([0] : List Nat).getD i 0 = i) i hi)), ⟨.inr rfl, .inr rfl, .inr rfl, .inr rfl, .inr rfl, .inr rfl, trivial⟩, ⟨.inr ⟨by decide, rfl⟩, trivial⟩, rfl, by decide, rfl, (by first | rfl | (simp [scRow, tkC_scs]; done) | (simp [scRow, scB]; done))⟩, by show n - d * (k + 1) < n - d * k; omega⟩
  have hI3 : ¬ (((d * k + d : Nat) : Int) ≤ (n : Int)) := by omega
  have hB0 : (M.drop (d * k)).drop d = [] := List.length_eq_zero_iff.1 (by omega)
  rw [hB0, List.append_nil] at eM
  have lS : (P1 ++ P2).length ≤ d := by rw [List.length_append]; omega
  have hfin := hst.fin eM lA lS hS' (by rw [sortP_len])
  have u2 : IntKind.i64.wrap (((d * k : Nat) : Int) + (s : Int)) = ((d * k + s : Nat) : Int) := by rw [IntWalk.i64_in _ (by omega)]; simp
  rcases Nat.lt_or_ge (d * k + s) n with hm | hm
  · have hI4 : (((d * k + s : Nat) : Int) < (n : Int)) := by omega
    have c := symAll _ (M.take (d * k)) P1 P2 [] (Nat.le_refl _) (by omega) (by omega) s1 s2 (by simp; omega) (d * k) (d * k + s) n lA.symm (by omega) (by omega)
    rw [List.append_nil, List.append_nil, List.append_assoc _ P1 P2, ← eM] at c
    simp only [int, ofC, hI3, hI4, u1, u1', u2, am, simprocAttr, tys]
    refine ACall.of (c) [0] [] rfl (by simp) (by simp) (by simp) (by repeat' (first | exact trivial | exact .inl rfl | exact .inr rfl | exact .inr ⟨rfl, rfl, rfl, by simp; done⟩ | exact .inr ⟨rfl, by simp; done⟩ | exact .inr ⟨rfl, rfl, by simp; done⟩ | apply And.intro)) (by repeat' (first | exact trivial | rfl | exact (tkC_ren.1 _ _).symm | (simp; done) | apply And.intro)) (by first | exact .inl rfl | (refine .inr ⟨trivial, ?_⟩; first | (intro row h; rcases List.mem_singleton.1 h with rfl; exact nvB _) | (intro row h; rcases List.mem_singleton.1 h with rfl; exact nvP2 _) | (intro row h; cases h; done) | (simp; done)) | (refine .inr ⟨by simp [nvP, nvP.nvPs, nvD, nilS, errno], ?_⟩; first | (intro row h; rcases List.mem_singleton.1 h with rfl; exact nvB _) | (intro row h; cases h; done) | (simp [nvRow, nvD, nvP]; done))) ?_
    simp only [u1', am, simprocAttr, tys]
    exact ⟨⟨(d, _), by omega, by omega, hfin⟩, [], [0], ⟨rfl, rfl, by simp, (fun i hi => .inr ((by decide : ∀ i, i < 1 → ([0] : List Nat).getD i 0 = i) i hi)), ⟨.inr rfl, .inr rfl, .inr rfl, .inr rfl, trivial⟩, ⟨.inr ⟨by decide, rfl⟩, trivial⟩, rfl, by decide, rfl, (by first | rfl | (simp [scRow, tkC_scs]; done) | (simp [scRow, scB]; done))⟩, by show n - d < n - s; omega⟩
  · have hI4 : ¬ (((d * k + s : Nat) : Int) < (n : Int)) := by omega
    have hP2 : P2 = [] := List.length_eq_zero_iff.1 (by omega)
    have hMM : M.take (d * k) ++ sortP (P1 ++ P2) = M := by
      rw [hP2, List.append_nil, sortP_srt s1]
      rw [hP2, List.append_nil] at eM
      exact eM.symm
    rw [hMM] at hfin
    simp only [int, ofC, hI3, hI4, u1, u1', u2, am, simprocAttr, tys]
    exact ⟨⟨(d, M), by omega, by omega, hfin⟩, [], [0], ⟨rfl, rfl, by simp, (fun i hi => .inr ((by decide : ∀ i, i < 1 → ([0] : List Nat).getD i 0 = i) i hi)), ⟨.inr rfl, .inr rfl, .inr rfl, .inr rfl, trivial⟩, ⟨.inr ⟨by decide, rfl⟩, trivial⟩, rfl, by decide, rfl, (by first | rfl | (simp [scRow, tkC_scs]; done) | (simp [scRow, scB]; done))⟩, by show n - d < n - s; omega⟩

theorem sortStableP (l : List PtT) (hl : l.length ≤ 10000000000) :
    AFun Try.prog 26 [.own 0, ofC] [.own 2 (l.map encP)] (.tup []) [.own 2 ((sortP l).map encP)] := by
  refine AFun.of_walk hP Try.func26 rfl rfl rfl (by simp) rfl ?_
  simp only [Try.f26, ofC, List.length_map, am, simprocAttr, tys]
  refine ACall.of (stableC l hl) [0] [] rfl (by simp) (by simp) (by simp) (by repeat' (first | exact trivial | exact .inl rfl | exact .inr rfl | exact .inr ⟨rfl, rfl, rfl, by simp; done⟩ | exact .inr ⟨rfl, by simp; done⟩ | exact .inr ⟨rfl, rfl, by simp; done⟩ | apply And.intro)) (by repeat' (first | exact trivial | rfl | exact (tkC_ren.1 _ _).symm | (simp; done) | apply And.intro)) (by first | exact .inl rfl | (refine .inr ⟨trivial, ?_⟩; first | (intro row h; rcases List.mem_singleton.1 h with rfl; exact nvB _) | (intro row h; rcases List.mem_singleton.1 h with rfl; exact nvP2 _) | (intro row h; cases h; done) | (simp; done)) | (refine .inr ⟨by simp [nvP, nvP.nvPs, nvD, nilS, errno], ?_⟩; first | (intro row h; rcases List.mem_singleton.1 h with rfl; exact nvB _) | (intro row h; cases h; done) | (simp [nvRow, nvD, nvP]; done))) ?_
  simp only [FinR, evRes, evRVs, evRV, am, simprocAttr, tys]
  exact ⟨_, [], [0], rfl, ⟨rfl, rfl, by simp, (fun i hi => .inr ((by decide : ∀ i, i < 1 → ([0] : List Nat).getD i 0 = i) i hi)), trivial, ⟨.inr ⟨by decide, rfl⟩, trivial⟩, rfl, by decide, rfl, (by first | rfl | (simp [scRow, tkC_scs]; done) | (simp [scRow, scB]; done))⟩, rfl, rfl⟩
end Go.Proofs.Ytldckdbdgbpmpaa
