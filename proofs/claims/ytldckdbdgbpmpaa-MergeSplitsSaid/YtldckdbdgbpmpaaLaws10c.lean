/- Proved here: what functions of the program compute, and plain laws. No condition. -/
import Derived.Test.YtldckdbdgbpmpaaShown10
set_option linter.unusedSimpArgs false
set_option linter.unusedVariables false
namespace Go.Proofs.Ytldckdbdgbpmpaa
open Go Go.AM

set_option maxRecDepth 8000 in
theorem lawSplits (a : List PtT) (t : Int) (ha : a.length ≤ 9223372036854775807) :
    AFun Try.prog 9 [.d (.sl 2 (a.map encP)), int t] [] (bool true) [] := by
  refine AFun.of_walk hP Try.func9 rfl rfl rfl (by simp) rfl ?_
  have cF := few10 a ha
  have la : (a.take 600).length ≤ 600 := by rw [List.length_take]; omega
  generalize a.take 600 = x at *
  have cS := mergeSplit x t (by omega)
  have cO := mergeOf x (by omega)
  have n2 := ofP_len x
  have hlf := low_filter (ofP x) t (ofP_rise x).srt
  have e5 := same04 (ofP x) (ofP x) (by omega) (by omega)
  simp only [decide_true] at e5
  have hAZ := List.take_append_drop (lowN (ofP x) t) (ofP x)
  have hA : ∀ z ∈ (ofP x).take (lowN (ofP x) t), z.1 < t := fun z hz => by rw [← hlf.1] at hz; simpa using (List.mem_filter.1 hz).2
  have hZ : ∀ z ∈ (ofP x).drop (lowN (ofP x) t), ¬ z.1 < t := fun z hz => by rw [← hlf.2] at hz; simpa using (List.mem_filter.1 hz).2
  have lA : ((ofP x).take (lowN (ofP x) t)).length ≤ 600 := by rw [List.length_take]; omega
  have lZ : ((ofP x).drop (lowN (ofP x) t)).length ≤ 600 := by rw [List.length_drop]; omega
  clear hlf
  generalize (ofP x).take (lowN (ofP x) t) = A at *
  generalize (ofP x).drop (lowN (ofP x) t) = Z at *
  generalize ofP x = C at *
  simp only [int] at cS
  have hAZm : A.map encP ++ Z.map encP = C.map encP := by rw [← List.map_append, hAZ]
  simp only [Try.f9, int, am, simprocAttr, tys]
  refine ACall.of (shown10) [] [] rfl (by simp) (by simp) (by simp) (by repeat' (first | exact trivial | exact .inl rfl | exact .inr rfl | exact .inr ⟨rfl, rfl, rfl, by simp; done⟩ | exact .inr ⟨rfl, by simp; done⟩ | exact .inr ⟨rfl, rfl, by simp; done⟩ | apply And.intro)) (by repeat' (first | exact trivial | rfl | exact (tkC_ren.1 _ _).symm | (simp; done) | apply And.intro)) (by first | exact .inl rfl | (refine .inr ⟨trivial, ?_⟩; first | (intro row h; rcases List.mem_singleton.1 h with rfl; exact nvB _) | (intro row h; cases h; done) | (simp; done)) | (refine .inr ⟨by simp [nvP, nvP.nvPs, nvD, nilS, errno], ?_⟩; first | (intro row h; rcases List.mem_singleton.1 h with rfl; exact nvB _) | (intro row h; cases h; done) | (simp [nvRow, nvD, nvP]; done))) ?_
  simp only [bool, am, simprocAttr, tys]
  refine ACall.of (cF) [] [] rfl (by simp) (by simp) (by simp) (by repeat' (first | exact trivial | exact .inl rfl | exact .inr rfl | exact .inr ⟨rfl, rfl, rfl, by simp; done⟩ | exact .inr ⟨rfl, by simp; done⟩ | exact .inr ⟨rfl, rfl, by simp; done⟩ | apply And.intro)) (by repeat' (first | exact trivial | rfl | exact (tkC_ren.1 _ _).symm | (simp; done) | apply And.intro)) (by first | exact .inl rfl | (refine .inr ⟨trivial, ?_⟩; first | (intro row h; rcases List.mem_singleton.1 h with rfl; exact nvB _) | (intro row h; cases h; done) | (simp; done)) | (refine .inr ⟨by simp [nvP, nvP.nvPs, nvD, nilS, errno], ?_⟩; first | (intro row h; rcases List.mem_singleton.1 h with rfl; exact nvB _) | (intro row h; cases h; done) | (simp [nvRow, nvD, nvP]; done))) ?_
  simp only [am, simprocAttr, tys]
  refine ACall.of (cS) [] [] rfl (by simp) (by simp) (by simp) (by repeat' (first | exact trivial | exact .inl rfl | exact .inr rfl | exact .inr ⟨rfl, rfl, rfl, by simp; done⟩ | exact .inr ⟨rfl, by simp; done⟩ | exact .inr ⟨rfl, rfl, by simp; done⟩ | apply And.intro)) (by repeat' (first | exact trivial | rfl | exact (tkC_ren.1 _ _).symm | (simp; done) | apply And.intro)) (by first | exact .inl rfl | (refine .inr ⟨trivial, ?_⟩; first | (intro row h; rcases List.mem_singleton.1 h with rfl; exact nvB _) | (intro row h; cases h; done) | (simp; done)) | (refine .inr ⟨by simp [nvP, nvP.nvPs, nvD, nilS, errno], ?_⟩; first | (intro row h; rcases List.mem_singleton.1 h with rfl; exact nvB _) | (intro row h; cases h; done) | (simp [nvRow, nvD, nvP]; done))) ?_
  simp only [List.length_map, am, simprocAttr, tys]
  refine ALoopW.intro 54 0 (ι := { i : Nat // i ≤ A.length }) (fun i => [(0, .d (.sl 2 (a.map encP))), (1, int t), (5, bool true), (6, .d (.sl 2 (A.map encP))), (7, .d (.sl 2 (Z.map encP))), (20, .d (.sl 2 (A.map encP))), (21, int A.length), (22, int i.1)]) (fun _ => []) (fun i => A.length - i.1)
    ⟨0, Nat.zero_le _⟩ [] [] ?_ (fun ⟨i, hi⟩ => ?_)
  · exact Ent.plain rfl rfl rfl (⟨.inr rfl, .inr rfl, .inr rfl, .inr rfl, .inr rfl, .inr rfl, .inr rfl, .inr rfl, trivial⟩) rfl
  simp only at hi ⊢
  rcases Nat.lt_or_ge i A.length with hlt | hge
  · have hI : ((i : Int) < ((A.length : Nat) : Int)) := by omega
    have hb : A[i]? = some A[i] := List.getElem?_eq_getElem hlt
    have wi : IntKind.i64.wrap ((i : Int) + 1) = ((i + 1 : Nat) : Int) := by rw [IntWalk.i64_in _ (by omega)]; simp
    have hz := hA _ (List.getElem_mem hlt)
    generalize A[i] = z at *
    have hge : ¬ t ≤ z.1 := by omega
    simp only [int, bool, hI, hb, wi, hge, encP, List.length_map, Int.natCast_nonneg, Int.toNat_natCast, am, simprocAttr, tys]
    exact ⟨⟨i + 1, hlt⟩, [], [], Ent.plain rfl rfl rfl (⟨.inr rfl, .inr rfl, .inr rfl, .inr rfl, .inr rfl, .inr rfl, .inr rfl, .inr rfl, trivial⟩) rfl, by show A.length - (i + 1) < A.length - i; omega⟩
  have hI : ¬ ((i : Int) < ((A.length : Nat) : Int)) := by omega
  simp only [int, bool, hI, List.length_map, am, simprocAttr, tys]
  refine ALoopW.intro 54 0 (ι := { i : Nat // i ≤ Z.length }) (fun i => [(0, .d (.sl 2 (a.map encP))), (1, int t), (5, bool true), (6, .d (.sl 2 (A.map encP))), (7, .d (.sl 2 (Z.map encP))), (31, .d (.sl 2 (Z.map encP))), (32, int Z.length), (33, int i.1)]) (fun _ => []) (fun i => Z.length - i.1)
    ⟨0, Nat.zero_le _⟩ [] [] ?_ (fun ⟨i, hi⟩ => ?_)
  · exact Ent.plain rfl rfl rfl (⟨.inr rfl, .inr rfl, .inr rfl, .inr rfl, .inr rfl, .inr rfl, .inr rfl, .inr rfl, trivial⟩) rfl
  simp only at hi ⊢
  rcases Nat.lt_or_ge i Z.length with hlt | hge
  · have hI : ((i : Int) < ((Z.length : Nat) : Int)) := by omega
    have hb : Z[i]? = some Z[i] := List.getElem?_eq_getElem hlt
    have wi : IntKind.i64.wrap ((i : Int) + 1) = ((i + 1 : Nat) : Int) := by rw [IntWalk.i64_in _ (by omega)]; simp
    have hz := hZ _ (List.getElem_mem hlt)
    generalize Z[i] = z at *
    simp only [int, bool, hI, hb, wi, hz, encP, List.length_map, Int.natCast_nonneg, Int.toNat_natCast, am, simprocAttr, tys]
    exact ⟨⟨i + 1, hlt⟩, [], [], Ent.plain rfl rfl rfl (⟨.inr rfl, .inr rfl, .inr rfl, .inr rfl, .inr rfl, .inr rfl, .inr rfl, .inr rfl, trivial⟩) rfl, by show Z.length - (i + 1) < Z.length - i; omega⟩
  have hI : ¬ ((i : Int) < ((Z.length : Nat) : Int)) := by omega
  simp only [int, bool, hI, hAZm, List.length_map, am, simprocAttr, tys]
  refine ⟨⟨by omega, by omega⟩, ⟨by omega, by omega⟩, ?_⟩
  refine ACall.of (cF) [] [] rfl (by simp) (by simp) (by simp) (by repeat' (first | exact trivial | exact .inl rfl | exact .inr rfl | exact .inr ⟨rfl, rfl, rfl, by simp; done⟩ | exact .inr ⟨rfl, by simp; done⟩ | exact .inr ⟨rfl, rfl, by simp; done⟩ | apply And.intro)) (by repeat' (first | exact trivial | rfl | exact (tkC_ren.1 _ _).symm | (simp; done) | apply And.intro)) (by first | exact .inl rfl | (refine .inr ⟨trivial, ?_⟩; first | (intro row h; rcases List.mem_singleton.1 h with rfl; exact nvB _) | (intro row h; cases h; done) | (simp; done)) | (refine .inr ⟨by simp [nvP, nvP.nvPs, nvD, nilS, errno], ?_⟩; first | (intro row h; rcases List.mem_singleton.1 h with rfl; exact nvB _) | (intro row h; cases h; done) | (simp [nvRow, nvD, nvP]; done))) ?_
  simp only [am, simprocAttr, tys]
  refine ACall.of (cO) [] [] rfl (by simp) (by simp) (by simp) (by repeat' (first | exact trivial | exact .inl rfl | exact .inr rfl | exact .inr ⟨rfl, rfl, rfl, by simp; done⟩ | exact .inr ⟨rfl, by simp; done⟩ | exact .inr ⟨rfl, rfl, by simp; done⟩ | apply And.intro)) (by repeat' (first | exact trivial | rfl | exact (tkC_ren.1 _ _).symm | (simp; done) | apply And.intro)) (by first | exact .inl rfl | (refine .inr ⟨trivial, ?_⟩; first | (intro row h; rcases List.mem_singleton.1 h with rfl; exact nvB _) | (intro row h; cases h; done) | (simp; done)) | (refine .inr ⟨by simp [nvP, nvP.nvPs, nvD, nilS, errno], ?_⟩; first | (intro row h; rcases List.mem_singleton.1 h with rfl; exact nvB _) | (intro row h; cases h; done) | (simp [nvRow, nvD, nvP]; done))) ?_
  simp only [am, simprocAttr, tys]
  refine ACall.of (e5) [] [2] rfl (by simp) (by simp) (by simp) (by repeat' (first | exact trivial | exact .inl rfl | exact .inr rfl | exact .inr ⟨rfl, rfl, rfl, by simp; done⟩ | exact .inr ⟨rfl, by simp; done⟩ | exact .inr ⟨rfl, rfl, by simp; done⟩ | apply And.intro)) (by repeat' (first | exact trivial | rfl | exact (tkC_ren.1 _ _).symm | (simp; done) | apply And.intro)) (by first | exact .inl rfl | (refine .inr ⟨trivial, ?_⟩; first | (intro row h; rcases List.mem_singleton.1 h with rfl; exact nvB _) | (intro row h; cases h; done) | (simp; done)) | (refine .inr ⟨by simp [nvP, nvP.nvPs, nvD, nilS, errno], ?_⟩; first | (intro row h; rcases List.mem_singleton.1 h with rfl; exact nvB _) | (intro row h; cases h; done) | (simp [nvRow, nvD, nvP]; done))) ?_
  simp only [bool, FinR, evRes, evRVs, evRV, am, simprocAttr, tys]
  exact ⟨_, [], [], rfl, Ent.plain rfl rfl rfl trivial rfl, rfl, rfl⟩
end Go.Proofs.Ytldckdbdgbpmpaa
