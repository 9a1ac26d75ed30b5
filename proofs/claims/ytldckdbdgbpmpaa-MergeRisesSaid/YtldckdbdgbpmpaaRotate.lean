/- Proved here: what functions of the program compute, and plain laws. No condition. -/
import Derived.Test.YtldckdbdgbpmpaaSwapR
set_option linter.unusedSimpArgs false
set_option linter.unusedVariables false
namespace Go.Proofs.Ytldckdbdgbpmpaa
open Go Go.AM

structure Rot (X A B Z : List PtT) (m : Nat) where
  P : List PtT
  U : List PtT
  V : List PtT
  Q : List PtT
  hm : X.length + P.length + U.length = m
  hu : 0 < U.length
  hv : 0 < V.length
  he : P ++ V ++ U ++ Q = B ++ A
def Rot.row {X A B Z : List PtT} {m : Nat} (r : Rot X A B Z m) : List PtT := X ++ r.P ++ r.U ++ r.V ++ (r.Q ++ Z)
theorem Rot.len {X A B Z : List PtT} {m : Nat} (r : Rot X A B Z m) : r.P.length + r.V.length + r.U.length + r.Q.length = B.length + A.length := by
  have := congrArg List.length r.he
  simpa [Nat.add_assoc] using this

set_option maxRecDepth 8000 in
set_option maxHeartbeats 1000000 in
theorem rotateC (X A B Z : List PtT) (f : Nat) (hA : 0 < A.length) (hB : 0 < B.length) (hl : X.length + A.length + B.length + Z.length ≤ 100000000000) (a m b : Nat) (ha : a = X.length) (hm : m = X.length + A.length) (hb : b = X.length + A.length + B.length) :
    AFun Try.prog 37 [.own 0, int a, int m, int b, .clo (.func f) [] []] [.own 2 ((X ++ A ++ B ++ Z).map encP)] (.tup []) [.own 2 ((X ++ B ++ A ++ Z).map encP)] := by
  refine AFun.of_walk hP Try.func37 rfl rfl rfl (by simp) rfl ?_
  have w1 : IntKind.i64.wrap ((m : Int) - (a : Int)) = ((A.length : Nat) : Int) := by rw [IntWalk.i64_in _ (by omega)]; omega
  have w2 : IntKind.i64.wrap ((b : Int) - (m : Int)) = ((B.length : Nat) : Int) := by rw [IntWalk.i64_in _ (by omega)]; omega
  simp only [Try.f37, int, w1, w2, am, simprocAttr, tys]
  refine ALoopW.intro 58 1 (ι := Rot X A B Z m) (fun r => [(0, .own 0), (2, int m), (4, .clo (.func f) [] []), (10, int r.U.length), (11, int r.V.length)]) (fun r => [.own 2 (r.row.map encP)]) (fun r => r.U.length + r.V.length)
    ⟨[], A, B, [], by simp; omega, hA, hB, by simp⟩ [] [0] ?_ (fun r => ?_)
  · refine ⟨rfl, rfl, by simp, (fun i hi => .inr ((by decide : ∀ i, i < 1 → ([0] : List Nat).getD i 0 = i) i hi)), ⟨.inr rfl, .inr rfl, .inr rfl, .inr rfl, .inr rfl, trivial⟩, ⟨.inr ⟨by decide, ?_⟩, trivial⟩, rfl, by decide, rfl, (by first | rfl | (simp [scRow, tkC_scs]; done) | (simp [scRow, scB]; done))⟩
    simp only [Rot.row, List.append_nil, List.nil_append]; rfl
  have hlen := r.len
  obtain ⟨P, U, V, Q, rm, ru, rv, re⟩ := r
  simp only [Rot.row] at hlen ⊢
  have w3 : IntKind.i64.wrap ((m : Int) - (U.length : Int)) = ((X.length + P.length : Nat) : Int) := by rw [IntWalk.i64_in _ (by omega)]; omega
  rcases Nat.lt_trichotomy U.length V.length with hlt | heq | hgt
  · have hne : (((U.length : Nat) : Int) != ((V.length : Nat) : Int)) = true := by rw [bne_iff_ne]; omega
    have hg : ¬ (((V.length : Nat) : Int) < ((U.length : Nat) : Int)) := by omega
    have lV1 : (V.take (V.length - U.length)).length = V.length - U.length := by rw [List.length_take]; omega
    have lV2 : (V.drop (V.length - U.length)).length = U.length := by rw [List.length_drop]; omega
    have eV : V.take (V.length - U.length) ++ V.drop (V.length - U.length) = V := List.take_append_drop _ _
    generalize V.take (V.length - U.length) = V1 at *
    generalize V.drop (V.length - U.length) = V2 at *
    have lVV : V.length = V1.length + V2.length := by rw [← eV, List.length_append]
    have w4 : IntKind.i64.wrap ((m : Int) + ((V.length : Nat) : Int)) = ((m + V.length : Nat) : Int) := by rw [IntWalk.i64_in _ (by omega)]; simp
    have w5 : IntKind.i64.wrap (((m + V.length : Nat) : Int) - ((U.length : Nat) : Int)) = ((m + V.length - U.length : Nat) : Int) := by rw [IntWalk.i64_in _ (by omega)]; omega
    have w6 : IntKind.i64.wrap (((V.length : Nat) : Int) - ((U.length : Nat) : Int)) = ((V1.length : Nat) : Int) := by rw [IntWalk.i64_in _ (by omega)]; omega
    have c := swapRange (X ++ P) U V1 V2 (Q ++ Z) f (by omega) (by simp; omega) (X.length + P.length) (m + V.length - U.length) U.length (by simp) (by simp; omega) rfl
    have e0 : X ++ P ++ U ++ V1 ++ V2 ++ (Q ++ Z) = X ++ P ++ U ++ V ++ (Q ++ Z) := by rw [← eV]; simp only [List.append_assoc]
    rw [e0] at c
    simp only [int, hne, hg, w3, w4, w5, am, simprocAttr, tys]
    refine ACall.of (c) [0] [] rfl (by simp) (by simp) (by simp) (by repeat' (first | exact trivial | exact .inl rfl | exact .inr rfl | exact .inr ⟨rfl, rfl, rfl, by simp; done⟩ | exact .inr ⟨rfl, by simp; done⟩ | exact .inr ⟨rfl, rfl, by simp; done⟩ | apply And.intro)) (by repeat' (first | exact trivial | rfl | exact (tkC_ren.1 _ _).symm | (simp; done) | apply And.intro)) (by first | exact .inl rfl | (refine .inr ⟨trivial, ?_⟩; first | (intro row h; rcases List.mem_singleton.1 h with rfl; exact nvB _) | (intro row h; cases h; done) | (simp; done)) | (refine .inr ⟨by simp [nvP, nvP.nvPs, nvD, nilS, errno], ?_⟩; first | (intro row h; rcases List.mem_singleton.1 h with rfl; exact nvB _) | (intro row h; cases h; done) | (simp [nvRow, nvD, nvP]; done))) ?_
    simp only [w6, am, simprocAttr, tys]
    refine ⟨⟨P, V2, V1, U ++ Q, by omega, by omega, by omega, by rw [← re, ← eV]; simp only [List.append_assoc]⟩, [], [0], ?_, by show V2.length + V1.length < U.length + V.length; omega⟩
    have e1 : X ++ P ++ V2 ++ V1 ++ U ++ (Q ++ Z) = X ++ P ++ V2 ++ V1 ++ (U ++ Q ++ Z) := by simp only [List.append_assoc]
    rw [e1]
    have l2 : ((U.length : Nat) : Int) = ((V2.length : Nat) : Int) := by omega
    rw [l2]
    exact ⟨rfl, rfl, by simp, (fun i hi => .inr ((by decide : ∀ i, i < 1 → ([0] : List Nat).getD i 0 = i) i hi)), ⟨.inr rfl, .inr rfl, .inr rfl, .inr rfl, .inr rfl, trivial⟩, ⟨.inr ⟨by decide, rfl⟩, trivial⟩, rfl, by decide, rfl, (by first | rfl | (simp [scRow, tkC_scs]; done) | (simp [scRow, scB]; done))⟩
  · have hne : (((U.length : Nat) : Int) != ((V.length : Nat) : Int)) = false := by rw [heq]; simp
    have c := swapRange (X ++ P) U [] V (Q ++ Z) f (by omega) (by simp; omega) (X.length + P.length) m U.length (by simp) (by simp; omega) rfl
    have e0 : X ++ P ++ U ++ [] ++ V ++ (Q ++ Z) = X ++ P ++ U ++ V ++ (Q ++ Z) := by simp only [List.append_assoc, List.nil_append]
    have e1 : X ++ P ++ V ++ [] ++ U ++ (Q ++ Z) = X ++ B ++ A ++ Z := by
      have : X ++ (P ++ V ++ U ++ Q) ++ Z = X ++ (B ++ A) ++ Z := by rw [re]
      simpa only [List.append_assoc, List.nil_append] using this
    rw [e0, e1] at c
    simp only [int, hne, w3, am, simprocAttr, tys]
    refine ACall.of (c) [0] [] rfl (by simp) (by simp) (by simp) (by repeat' (first | exact trivial | exact .inl rfl | exact .inr rfl | exact .inr ⟨rfl, rfl, rfl, by simp; done⟩ | exact .inr ⟨rfl, by simp; done⟩ | exact .inr ⟨rfl, rfl, by simp; done⟩ | apply And.intro)) (by repeat' (first | exact trivial | rfl | exact (tkC_ren.1 _ _).symm | (simp; done) | apply And.intro)) (by first | exact .inl rfl | (refine .inr ⟨trivial, ?_⟩; first | (intro row h; rcases List.mem_singleton.1 h with rfl; exact nvB _) | (intro row h; cases h; done) | (simp; done)) | (refine .inr ⟨by simp [nvP, nvP.nvPs, nvD, nilS, errno], ?_⟩; first | (intro row h; rcases List.mem_singleton.1 h with rfl; exact nvB _) | (intro row h; cases h; done) | (simp [nvRow, nvD, nvP]; done))) ?_
    simp only [FinR, evRes, evRVs, evRV, am, simprocAttr, tys]
    exact ⟨_, [], [0], rfl, ⟨rfl, rfl, by simp, (fun i hi => .inr ((by decide : ∀ i, i < 1 → ([0] : List Nat).getD i 0 = i) i hi)), trivial, ⟨.inr ⟨by decide, rfl⟩, trivial⟩, rfl, by decide, rfl, (by first | rfl | (simp [scRow, tkC_scs]; done) | (simp [scRow, scB]; done))⟩, rfl, rfl⟩
  · have hne : (((U.length : Nat) : Int) != ((V.length : Nat) : Int)) = true := by rw [bne_iff_ne]; omega
    have hg : (((V.length : Nat) : Int) < ((U.length : Nat) : Int)) := by omega
    have lU1 : (U.take V.length).length = V.length := by rw [List.length_take]; omega
    have lU2 : (U.drop V.length).length = U.length - V.length := by rw [List.length_drop]
    have eU : U.take V.length ++ U.drop V.length = U := List.take_append_drop _ _
    generalize U.take V.length = U1 at *
    generalize U.drop V.length = U2 at *
    have w6 : IntKind.i64.wrap (((U.length : Nat) : Int) - ((V.length : Nat) : Int)) = ((U2.length : Nat) : Int) := by rw [IntWalk.i64_in _ (by omega)]; omega
    have c := swapRange (X ++ P) U1 U2 V (Q ++ Z) f (by omega) (by simp; omega) (X.length + P.length) m V.length (by simp) (by simp; omega) (by omega)
    have e0 : X ++ P ++ U1 ++ U2 ++ V ++ (Q ++ Z) = X ++ P ++ U ++ V ++ (Q ++ Z) := by rw [← eU]; simp only [List.append_assoc]
    rw [e0] at c
    simp only [int, hne, hg, w3, am, simprocAttr, tys]
    refine ACall.of (c) [0] [] rfl (by simp) (by simp) (by simp) (by repeat' (first | exact trivial | exact .inl rfl | exact .inr rfl | exact .inr ⟨rfl, rfl, rfl, by simp; done⟩ | exact .inr ⟨rfl, by simp; done⟩ | exact .inr ⟨rfl, rfl, by simp; done⟩ | apply And.intro)) (by repeat' (first | exact trivial | rfl | exact (tkC_ren.1 _ _).symm | (simp; done) | apply And.intro)) (by first | exact .inl rfl | (refine .inr ⟨trivial, ?_⟩; first | (intro row h; rcases List.mem_singleton.1 h with rfl; exact nvB _) | (intro row h; cases h; done) | (simp; done)) | (refine .inr ⟨by simp [nvP, nvP.nvPs, nvD, nilS, errno], ?_⟩; first | (intro row h; rcases List.mem_singleton.1 h with rfl; exact nvB _) | (intro row h; cases h; done) | (simp [nvRow, nvD, nvP]; done))) ?_
    simp only [w6, am, simprocAttr, tys]
    refine ⟨⟨P ++ V, U2, U1, Q, by simp; omega, by omega, by omega, by rw [← re, ← eU]; simp only [List.append_assoc]⟩, [], [0], ?_, by show U2.length + U1.length < U.length + V.length; omega⟩
    have e1 : X ++ P ++ V ++ U2 ++ U1 ++ (Q ++ Z) = X ++ (P ++ V) ++ U2 ++ U1 ++ (Q ++ Z) := by simp only [List.append_assoc]
    rw [e1]
    have l2 : ((V.length : Nat) : Int) = ((U1.length : Nat) : Int) := by omega
    rw [l2]
    exact ⟨rfl, rfl, by simp, (fun i hi => .inr ((by decide : ∀ i, i < 1 → ([0] : List Nat).getD i 0 = i) i hi)), ⟨.inr rfl, .inr rfl, .inr rfl, .inr rfl, .inr rfl, trivial⟩, ⟨.inr ⟨by decide, rfl⟩, trivial⟩, rfl, by decide, rfl, (by first | rfl | (simp [scRow, tkC_scs]; done) | (simp [scRow, scB]; done))⟩
end Go.Proofs.Ytldckdbdgbpmpaa
