/- Proved here: what functions of the program compute, and plain laws. No condition. -/
import Derived.Test.YtkadildabhkocaaLaws14c
set_option linter.unusedSimpArgs false
set_option linter.unusedVariables false
namespace Go.Proofs.Ytkadildabhkocaa
open Go Go.AM

/-- what of the first 20 is right -/
def selM (l : List OpT) (i : Nat) : List OpT := (((l.take 20).take i).map fewO).filter rightO
theorem selM_step {l : List OpT} {i : Nat} (h : i < l.length) (h20 : i < 20) (hr : rightO (fewO l[i]) = true) : selM l (i + 1) = selM l i ++ [fewO l[i]] := by
  have e : (l.take 20).take (i + 1) = (l.take 20).take i ++ [l[i]] := by
    rw [List.take_succ_eq_append_getElem (by simp; omega)]; simp
  unfold selM
  rw [e, List.map_append, List.filter_append]
  simp [hr]
theorem selM_no {l : List OpT} {i : Nat} (h : i < l.length) (hr : rightO (fewO l[i]) = false) : selM l (i + 1) = selM l i := by
  unfold selM
  rcases Nat.lt_or_ge i 20 with h20 | h20
  · have e : (l.take 20).take (i + 1) = (l.take 20).take i ++ [l[i]] := by
      rw [List.take_succ_eq_append_getElem (by simp; omega)]; simp
    rw [e, List.map_append, List.filter_append]
    simp [hr]
  · have h1 : (l.take 20).take (i + 1) = l.take 20 := List.take_of_length_le (by simp; omega)
    have h2 : (l.take 20).take i = l.take 20 := List.take_of_length_le (by simp; omega)
    rw [h1, h2]
theorem selM_far {l : List OpT} {i : Nat} (h20 : 20 ≤ i) : selM l (i + 1) = selM l i := by
  unfold selM
  have h1 : (l.take 20).take (i + 1) = l.take 20 := List.take_of_length_le (by simp; omega)
  have h2 : (l.take 20).take i = l.take 20 := List.take_of_length_le (by simp; omega)
  rw [h1, h2]
theorem selM_len (l : List OpT) (i : Nat) : (selM l i).length ≤ 20 := by
  unfold selM
  refine Nat.le_trans (List.length_filter_le _ _) ?_
  simp; omega
theorem selM_mem {l : List OpT} {i : Nat} {x : OpT} (h : x ∈ selM l i) : rightO x = true ∧ ∃ y ∈ l, x = fewO y := by
  unfold selM at h
  obtain ⟨h1, h2⟩ := List.mem_filter.1 h
  obtain ⟨y, hy, rfl⟩ := List.mem_map.1 h1
  exact ⟨h2, y, List.mem_of_mem_take (List.mem_of_mem_take hy), rfl⟩

set_option maxRecDepth 8000 in
set_option maxHeartbeats 2000000 in
theorem lawOpMany (l : List OpT) (hl : l.length ≤ 9223372036854775807) (hx : ∀ x ∈ l, x.2.1.length ≤ 9223372036854775807 ∧ x.2.2.2.1.length ≤ 9223372036854775807 ∧ I64 x.2.2.1.1 ∧ I64 x.2.2.1.2.1) :
    AFun Try.prog 7 [.d (.sl 5 (l.map encO))] [] (bool true) [] := by
  refine AFun.of_walk hP Try.func7 rfl rfl rfl (by simp) rfl ?_
  have hlen : ∀ i, (fl putO (selM l i)).length ≤ 20 * 920 := fun i => by
    have := fl_len putO 920 (selM l i) fun x hx' => by
      obtain ⟨h1, y, hy, rfl⟩ := selM_mem hx'
      exact putO_len (fewO_fit (hx y hy).2.2.1 (hx y hy).2.2.2) h1
    have := selM_len l i
    omega
  have hsl := selM_len l
  simp only [Try.f7, am, simprocAttr, tys]
  refine ACall.of (shown14) [] [] rfl (by simp) (by simp) (by simp) (by repeat' (first | exact trivial | exact .inl rfl | exact .inr rfl | exact .inr ⟨rfl, by simp⟩ | exact .inr ⟨rfl, rfl, by simp⟩ | apply And.intro)) (by repeat' (first | exact trivial | rfl | exact (tkC_ren.1 _ _).symm | (simp; done) | apply And.intro)) (by first | exact .inl rfl | (refine .inr ⟨trivial, ?_⟩; first | (intro row h; rcases List.mem_singleton.1 h with rfl; exact nvB _) | (intro row h; cases h; done) | (simp; done)) | (refine .inr ⟨by simp [nvP, nvP.nvPs, nvD, nilS, errno], ?_⟩; first | (intro row h; rcases List.mem_singleton.1 h with rfl; exact nvB _) | (intro row h; cases h; done) | (simp [nvRow, nvD, nvP]; done))) ?_
  simp only [bool, bl_size, List.length_map, am, simprocAttr, tys]
  refine ALoopW.ghost 4 1 rfl ?_
  simp only [am, simprocAttr, tys]
  refine ALoopW.ghost 5 5 rfl ?_
  simp only [am, simprocAttr, tys]
  refine ALoopW.intro 72 0 (ι := { i : Nat // i ≤ l.length }) (fun i => [(3, bool true), (4, .own 0), (5, .own 1), (16, .d (.sl 5 (l.map encO))), (17, int l.length), (18, int i.1)])
    (fun i => [.own 1 ((fl putO (selM l i.1)).map encB), .own 5 ((selM l i.1).map encO)]) (fun i => l.length - i.1) ⟨0, by omega⟩ [] [0, 1] ?_ (fun ⟨i, hi⟩ => ?_)
  · exact ⟨rfl, rfl, by simp, (fun i hi => absurd hi (Nat.not_lt_zero _)), ⟨.inr rfl, .inr rfl, .inr rfl, .inr rfl, .inr rfl, .inr rfl, trivial⟩, ⟨.inr ⟨by decide, rfl⟩, .inr ⟨by decide, rfl⟩, trivial⟩, rfl, by decide, rfl, (by first | rfl | simp [scRow, tkC_scs])⟩
  simp only
  rcases Nat.lt_or_ge i l.length with hlt | hge
  · have hb : l[i]? = some l[i] := List.getElem?_eq_getElem hlt
    have hltI : ((i : Int) < l.length) := by omega
    have e1 : IntKind.i64.wrap ((i : Int) + 1) = ((i + 1 : Nat) : Int) := by rw [IntWalk.i64_in _ (by omega)]; simp
    obtain ⟨x1, x2, x3, x4⟩ := hx l[i] (List.getElem_mem hlt)
    have fa := few14 l[i] x1 x2
    have fitA := fewO_fit x3 x4
    have hstep := @selM_step l i hlt
    have hno := @selM_no l i hlt
    have hfar := @selM_far l i
    have hs1 := hsl i
    have hl1 := hlen i
    generalize fewO l[i] = A at *
    have cPN := opPutN A fitA
    have cP := opPut A fitA
    simp only [encO] at fa cPN cP
    simp only [int, bool, hltI, hb, encO, Int.natCast_nonneg, Int.toNat_natCast, am, simprocAttr, tys]
    refine ACall.of (fa) [] [] rfl (by simp) (by simp) (by simp) (by repeat' (first | exact trivial | exact .inl rfl | exact .inr rfl | exact .inr ⟨rfl, by simp⟩ | exact .inr ⟨rfl, rfl, by simp⟩ | apply And.intro)) (by repeat' (first | exact trivial | rfl | exact (tkC_ren.1 _ _).symm | (simp; done) | apply And.intro)) (by first | exact .inl rfl | (refine .inr ⟨trivial, ?_⟩; first | (intro row h; rcases List.mem_singleton.1 h with rfl; exact nvB _) | (intro row h; cases h; done) | (simp; done)) | (refine .inr ⟨by simp [nvP, nvP.nvPs, nvD, nilS, errno], ?_⟩; first | (intro row h; rcases List.mem_singleton.1 h with rfl; exact nvB _) | (intro row h; cases h; done) | (simp [nvRow, nvD, nvP]; done))) ?_
    simp only [am, simprocAttr, tys]
    rcases hr : rightO A with _ | _
    · have hno := hno hr
      refine ACall.of (cPN hr) [] [] rfl (by simp) (by simp) (by simp) (by repeat' (first | exact trivial | exact .inl rfl | exact .inr rfl | exact .inr ⟨rfl, by simp⟩ | exact .inr ⟨rfl, rfl, by simp⟩ | apply And.intro)) (by repeat' (first | exact trivial | rfl | exact (tkC_ren.1 _ _).symm | (simp; done) | apply And.intro)) (by first | exact .inl rfl | (refine .inr ⟨trivial, ?_⟩; first | (intro row h; rcases List.mem_singleton.1 h with rfl; exact nvB _) | (intro row h; cases h; done) | (simp; done)) | (refine .inr ⟨by simp [nvP, nvP.nvPs, nvD, nilS, errno], ?_⟩; first | (intro row h; rcases List.mem_singleton.1 h with rfl; exact nvB _) | (intro row h; cases h; done) | (simp [nvRow, nvD, nvP]; done))) ?_
      rcases Nat.lt_or_ge i 20 with h20 | h20
      case' inl => have h20I : ((i : Int) < 20) := by omega
      case' inr => have h20I : ¬ ((i : Int) < 20) := by omega
      all_goals
        simp only [nilS, errno, bool, h20I, e1, am, simprocAttr, tys]
        refine ⟨⟨i + 1, by omega⟩, [], [0, 1], ⟨rfl, rfl, by simp, (fun i hi => absurd hi (Nat.not_lt_zero _)), ⟨.inr rfl, .inr rfl, .inr rfl, .inr rfl, .inr rfl, .inr rfl, trivial⟩, ⟨.inr ⟨by decide, ?_⟩, .inr ⟨by decide, ?_⟩, trivial⟩, rfl, by decide, rfl, (by first | rfl | simp [scRow, tkC_scs])⟩, by show l.length - (i + 1) < l.length - i; omega⟩
        · simp only [hno]; rfl
        · simp only [hno]; rfl
    · refine ACall.of (cP hr) [] [] rfl (by simp) (by simp) (by simp) (by repeat' (first | exact trivial | exact .inl rfl | exact .inr rfl | exact .inr ⟨rfl, by simp⟩ | exact .inr ⟨rfl, rfl, by simp⟩ | apply And.intro)) (by repeat' (first | exact trivial | rfl | exact (tkC_ren.1 _ _).symm | (simp; done) | apply And.intro)) (by first | exact .inl rfl | (refine .inr ⟨trivial, ?_⟩; first | (intro row h; rcases List.mem_singleton.1 h with rfl; exact nvB _) | (intro row h; cases h; done) | (simp; done)) | (refine .inr ⟨by simp [nvP, nvP.nvPs, nvD, nilS, errno], ?_⟩; first | (intro row h; rcases List.mem_singleton.1 h with rfl; exact nvB _) | (intro row h; cases h; done) | (simp [nvRow, nvD, nvP]; done))) ?_
      rcases Nat.lt_or_ge i 20 with h20 | h20
      · have h20I : ((i : Int) < 20) := by omega
        have ea : (fl putO (selM l i)).map encB ++ (putO A).map encB = (fl putO (selM l (i + 1))).map encB := by rw [hstep h20 hr, fl_snoc, List.map_append]
        have eb : (selM l i).map encO ++ [[DV.lit (.int .u8 (A.1.toNat : Int)), .sl 2 (A.2.1.map encL), .lit (.int .i64 A.2.2.1.1), .lit (.int .i64 A.2.2.1.2.1), .sl 3 (A.2.2.2.1.map encA)]] = (selM l (i + 1)).map encO := by rw [hstep h20 hr, List.map_append]; rfl
        have hpl := putO_len fitA hr
        simp only [nilS, errno, bool, h20I, e1, ea, am, simprocAttr, tys]
        refine ⟨by omega, ?_⟩
        refine ACallD.of (fa) (by kernel_rfl) [] [] rfl (by simp) (by simp) (by simp) (by simp) (by repeat' (first | exact trivial | exact .inl rfl | exact .inr rfl | exact .inr ⟨rfl, by simp⟩ | exact .inr ⟨rfl, rfl, by simp⟩ | apply And.intro)) (by repeat' (first | exact trivial | rfl | exact (tkC_ren.1 _ _).symm | (simp; done) | apply And.intro)) (by first | exact .inl rfl | (refine .inr ⟨trivial, ?_⟩; first | (intro row h; rcases List.mem_singleton.1 h with rfl; exact nvB _) | (intro row h; cases h; done) | (simp; done)) | (refine .inr ⟨by simp [nvP, nvP.nvPs, nvD, nilS, errno], ?_⟩; first | (intro row h; rcases List.mem_singleton.1 h with rfl; exact nvB _) | (intro row h; cases h; done) | (simp [nvRow, nvD, nvP]; done))) rfl rfl rfl rfl ?_
        simp only [eb, e1, am, simprocAttr, tys]
        exact ⟨by omega, by kernel_rfl, ⟨i + 1, by omega⟩, [], [132, 452], ⟨rfl, rfl, by simp, (fun i hi => absurd hi (Nat.not_lt_zero _)), ⟨.inr rfl, .inr rfl, .inr rfl, .inr rfl, .inr rfl, .inr rfl, trivial⟩, ⟨.inr ⟨by decide, rfl⟩, .inr ⟨by decide, rfl⟩, trivial⟩, rfl, by decide, rfl, (by first | rfl | simp [scRow, tkC_scs])⟩, by show l.length - (i + 1) < l.length - i; omega⟩
      · have h20I : ¬ ((i : Int) < 20) := by omega
        simp only [nilS, errno, bool, h20I, e1, am, simprocAttr, tys]
        refine ⟨⟨i + 1, by omega⟩, [], [0, 1], ⟨rfl, rfl, by simp, (fun i hi => absurd hi (Nat.not_lt_zero _)), ⟨.inr rfl, .inr rfl, .inr rfl, .inr rfl, .inr rfl, .inr rfl, trivial⟩, ⟨.inr ⟨by decide, ?_⟩, .inr ⟨by decide, ?_⟩, trivial⟩, rfl, by decide, rfl, (by first | rfl | simp [scRow, tkC_scs])⟩, by show l.length - (i + 1) < l.length - i; omega⟩
        · simp only [hfar h20]; rfl
        · simp only [hfar h20]; rfl
  · have hltI : ¬ ((i : Int) < l.length) := by omega
    have hS := hsl i
    have hmem : ∀ x ∈ selM l i, rightO x = true ∧ FitI x := fun x hx' => by
      obtain ⟨h1, y, hy, rfl⟩ := selM_mem hx'
      exact ⟨h1, fewO_fit (hx y hy).2.2.1 (hx y hy).2.2.2⟩
    have hBl := hlen i
    generalize selM l i = S at *
    simp only [int, bool, hltI, List.length_map, am, simprocAttr, tys]
    refine ALoopW.intro 72 0 (ι := { i : Nat // i ≤ S.length }) (fun i => [(3, bool true), (4, byts (fl putO (S.drop i.1))), (44, .d (.sl 5 (S.map encO))), (45, int S.length), (46, int i.1)])
      (fun _ => []) (fun i => S.length - i.1) ⟨0, by omega⟩ [0, 1] [] ?_ (fun ⟨k, hk⟩ => ?_)
    · exact ⟨rfl, rfl, by simp, (fun i hi => absurd hi (Nat.not_lt_zero _)), ⟨.inr rfl, .inr rfl, .inr rfl, .inr rfl, .inr rfl, trivial⟩, trivial, rfl, by decide, rfl, (by first | rfl | simp [scRow, tkC_scs])⟩
    simp only
    rcases Nat.lt_or_ge k S.length with hlt2 | hge2
    · have hb : S[k]? = some S[k] := List.getElem?_eq_getElem hlt2
      have hltI2 : ((k : Int) < S.length) := by omega
      have e1 : IntKind.i64.wrap ((k : Int) + 1) = ((k + 1 : Nat) : Int) := by rw [IntWalk.i64_in _ (by omega)]; simp
      obtain ⟨h1, h2⟩ := hmem S[k] (List.getElem_mem hlt2)
      have hd : fl putO (S.drop k) = putO S[k] ++ fl putO (S.drop (k + 1)) := by rw [List.drop_eq_getElem_cons hlt2, fl_cons]
      have hdl : (fl putO (S.drop k)).length ≤ 10000000 := by
        have : (fl putO (S.drop k)).length ≤ (fl putO S).length := by
          conv => rhs; rw [← List.take_append_drop k S, fl_app]
          simp
        omega
      have c1 := opTake (fl putO (S.drop k)) hdl
      rw [hd, takeO_put _ h2 h1] at c1
      have cS := opSame S[k] S[k] h2.l h2.l h2.a h2.a
      rw [same_self] at cS
      simp only [takeOR, encO, byts] at c1 cS
      simp only [int, bool, byts, hltI2, hb, hd, encO, Int.natCast_nonneg, Int.toNat_natCast, am, simprocAttr, tys]
      refine ACall.of (c1) [] [] rfl (by simp) (by simp) (by simp) (by repeat' (first | exact trivial | exact .inl rfl | exact .inr rfl | exact .inr ⟨rfl, by simp⟩ | exact .inr ⟨rfl, rfl, by simp⟩ | apply And.intro)) (by repeat' (first | exact trivial | rfl | exact (tkC_ren.1 _ _).symm | (simp; done) | apply And.intro)) (by first | exact .inl rfl | (refine .inr ⟨trivial, ?_⟩; first | (intro row h; rcases List.mem_singleton.1 h with rfl; exact nvB _) | (intro row h; cases h; done) | (simp; done)) | (refine .inr ⟨by simp [nvP, nvP.nvPs, nvD, nilS, errno], ?_⟩; first | (intro row h; rcases List.mem_singleton.1 h with rfl; exact nvB _) | (intro row h; cases h; done) | (simp [nvRow, nvD, nvP]; done))) ?_
      simp only [byts, errno, am, simprocAttr, tys]
      refine ACall.of (cS) [] [] rfl (by simp) (by simp) (by simp) (by repeat' (first | exact trivial | exact .inl rfl | exact .inr rfl | exact .inr ⟨rfl, by simp⟩ | exact .inr ⟨rfl, rfl, by simp⟩ | apply And.intro)) (by repeat' (first | exact trivial | rfl | exact (tkC_ren.1 _ _).symm | (simp; done) | apply And.intro)) (by first | exact .inl rfl | (refine .inr ⟨trivial, ?_⟩; first | (intro row h; rcases List.mem_singleton.1 h with rfl; exact nvB _) | (intro row h; cases h; done) | (simp; done)) | (refine .inr ⟨by simp [nvP, nvP.nvPs, nvD, nilS, errno], ?_⟩; first | (intro row h; rcases List.mem_singleton.1 h with rfl; exact nvB _) | (intro row h; cases h; done) | (simp [nvRow, nvD, nvP]; done))) ?_
      simp only [bool, e1, am, simprocAttr, tys]
      exact ⟨⟨k + 1, by omega⟩, [], [], Ent.plain rfl rfl rfl (⟨.inr rfl, .inr rfl, .inr rfl, .inr rfl, .inr rfl, trivial⟩) rfl, by show S.length - (k + 1) < S.length - k; omega⟩
    · have hltI2 : ¬ ((k : Int) < S.length) := by omega
      have hd : fl putO (S.drop k) = [] := by rw [List.drop_of_length_le (by omega)]; rfl
      simp only [int, bool, byts, hltI2, hd, List.map_nil, List.length_nil, FinR, evRes, evRVs, evRV, am, simprocAttr, tys]
      exact ⟨_, [], [], rfl, Ent.plain rfl rfl rfl trivial rfl, rfl, rfl⟩
end Go.Proofs.Ytkadildabhkocaa
