/- Proved here: what functions of the program compute, and plain laws. No condition. -/
import Derived.Test.YtkadildabhkocaaRight5
import Derived.Test.YtkadildabhkocaaCodec
set_option linter.unusedSimpArgs false
set_option linter.unusedVariables false
namespace Go.Proofs.Ytkadildabhkocaa
open Go Go.AM

/-! ## labels as bytes -/
def encLab (a : Lab) : List UInt8 := lebT a.1 ++ lebT a.2.1
def putLb (l : List Lab) : List UInt8 := putL encLab l
theorem rightL_len {l : List Lab} (h : rightL l = true) : l.length ≤ 6 ∧ 1 ≤ l.length ∧ ∀ a ∈ l, a.1.length ≤ 16 ∧ a.2.1.length ≤ 64 := by
  obtain ⟨h1, h2, h3⟩ := (rightL_iff l).1 h
  refine ⟨h3, h2, fun a ha => ?_⟩
  obtain ⟨i, hi, rfl⟩ := List.getElem_of_mem ha
  have := h1 i hi
  rw [okAt_get l i hi] at this
  simp only [Bool.and_eq_true, valOk, decide_eq_true_eq] at this
  have hn := nameOk_len this.1.1
  omega
theorem encLab_len {a : Lab} (h : a.1.length ≤ 16 ∧ a.2.1.length ≤ 64) : (encLab a).length ≤ 110 := by
  obtain ⟨h1, h2⟩ := h
  have := lebT_len a.1 (by omega)
  have := lebT_len a.2.1 (by omega)
  unfold encLab; simp; omega
theorem flL_len {l : List Lab} (h : ∀ a ∈ l, a.1.length ≤ 16 ∧ a.2.1.length ≤ 64) (h8 : l.length ≤ 6) : (fl encLab l).length ≤ 880 := by
  have := fl_len encLab 110 l fun x hx => encLab_len (h x hx)
  have := Nat.mul_le_mul_right 110 h8
  omega
theorem putLb_len {l : List Lab} (h : rightL l = true) : (putLb l).length ≤ 890 := by
  obtain ⟨h1, _, h2⟩ := rightL_len h
  have := flL_len h2 h1
  have := leb_ten l.length (by omega)
  unfold putLb putL; simp; omega

theorem labelPutN (l : List Lab) (hl : l.length ≤ 9223372036854775807) (hx : ∀ x ∈ l, x.1.length ≤ 9223372036854775807 ∧ x.2.1.length ≤ 9223372036854775807) (hr : rightL l = false) : AFun Try.prog 19 [.d (.sl 2 (l.map encL))] [] (.tup [nilS, errno 50]) [] := by
  refine AFun.of_walk hP Try.func19 rfl rfl rfl (by simp) rfl ?_
  simp only [Try.f19, am, simprocAttr, tys]
  refine ACall.of (labelRight l hl hx) [] [] rfl (by simp) (by simp) (by simp) (by repeat' (first | exact trivial | exact .inl rfl | exact .inr rfl | exact .inr ⟨rfl, by simp⟩ | exact .inr ⟨rfl, rfl, by simp⟩ | apply And.intro)) (by repeat' (first | exact trivial | rfl | exact (tkC_ren.1 _ _).symm | (simp; done) | apply And.intro)) (by first | exact .inl rfl | (refine .inr ⟨trivial, ?_⟩; first | (intro row h; rcases List.mem_singleton.1 h with rfl; exact nvB _) | (intro row h; cases h; done) | (simp; done)) | (refine .inr ⟨by simp [nvP, nvP.nvPs, nvD, nilS, errno], ?_⟩; first | (intro row h; rcases List.mem_singleton.1 h with rfl; exact nvB _) | (intro row h; cases h; done) | (simp [nvRow, nvD, nvP]; done))) ?_
  rw [hr]
  simp only [bool, nilS, errno, FinR, evRes, evRVs, evRV, am, simprocAttr, tys]
  exact ⟨_, [], [], rfl, Ent.plain rfl rfl rfl trivial rfl, rfl, rfl⟩

set_option maxRecDepth 8000 in
theorem labelPut (l : List Lab) (hl : l.length ≤ 9223372036854775807) (hx : ∀ x ∈ l, x.1.length ≤ 9223372036854775807 ∧ x.2.1.length ≤ 9223372036854775807) (hr : rightL l = true) : AFun Try.prog 19 [.d (.sl 2 (l.map encL))] [] (.tup [.own 0, errno 0]) [.own 1 ((putLb l).map encB)] := by
  refine AFun.of_walk hP Try.func19 rfl rfl rfl (by simp) rfl ?_
  simp only [Try.f19, am, simprocAttr, tys]
  refine ACall.of (labelRight l hl hx) [] [] rfl (by simp) (by simp) (by simp) (by repeat' (first | exact trivial | exact .inl rfl | exact .inr rfl | exact .inr ⟨rfl, by simp⟩ | exact .inr ⟨rfl, rfl, by simp⟩ | apply And.intro)) (by repeat' (first | exact trivial | rfl | exact (tkC_ren.1 _ _).symm | (simp; done) | apply And.intro)) (by first | exact .inl rfl | (refine .inr ⟨trivial, ?_⟩; first | (intro row h; rcases List.mem_singleton.1 h with rfl; exact nvB _) | (intro row h; cases h; done) | (simp; done)) | (refine .inr ⟨by simp [nvP, nvP.nvPs, nvD, nilS, errno], ?_⟩; first | (intro row h; rcases List.mem_singleton.1 h with rfl; exact nvB _) | (intro row h; cases h; done) | (simp [nvRow, nvD, nvP]; done))) ?_
  rw [hr]
  · obtain ⟨h8, _, hall⟩ := rightL_len hr
    have e1 : IntKind.u64.wrap (l.length : Int) = l.length := IntWalk.u64_in _ (by omega)
    simp only [bool, e1, am, simprocAttr, tys]
    refine ACall.of (octsPut [] l.length (by simp) (by omega)) [] [] rfl (by simp) (by simp) (by simp) (by repeat' (first | exact trivial | exact .inl rfl | exact .inr rfl | exact .inr ⟨rfl, by simp⟩ | exact .inr ⟨rfl, rfl, by simp⟩ | apply And.intro)) (by repeat' (first | exact trivial | rfl | exact (tkC_ren.1 _ _).symm | (simp; done) | apply And.intro)) (by first | exact .inl rfl | (refine .inr ⟨trivial, ?_⟩; first | (intro row h; rcases List.mem_singleton.1 h with rfl; exact nvB _) | (intro row h; cases h; done) | (simp; done)) | (refine .inr ⟨by simp [nvP, nvP.nvPs, nvD, nilS, errno], ?_⟩; first | (intro row h; rcases List.mem_singleton.1 h with rfl; exact nvB _) | (intro row h; cases h; done) | (simp [nvRow, nvD, nvP]; done))) ?_
    simp only [am, simprocAttr, tys]
    refine ALoopW.intro 29 0 (ι := { i : Nat // i ≤ l.length }) (fun i => [(4, .own 0), (14, .d (.sl 2 (l.map encL))), (15, int l.length), (16, int i.1)]) (fun i => [.own 1 ((leb l.length ++ fl encLab (l.take i.1)).map encB)]) (fun i => l.length - i.1) ⟨0, by omega⟩ [] [0] ?_ (fun ⟨i, hi⟩ => ?_)
    · refine ⟨rfl, rfl, by simp, (fun i hi => absurd hi (Nat.not_lt_zero _)), ⟨.inr rfl, .inr rfl, .inr rfl, .inr rfl, trivial⟩, ⟨.inr ⟨by decide, ?_⟩, trivial⟩, rfl, by decide, rfl, (by first | rfl | simp [scRow, tkC_scs])⟩
      simp only [List.take_zero, fl_nil, List.append_nil]; rfl
    rcases Nat.lt_or_ge i l.length with hlt | hge
    · have hb : l[i]? = some l[i] := List.getElem?_eq_getElem hlt
      have hlt2 : ((i : Int) < l.length) := by omega
      have e2 : IntKind.i64.wrap ((i : Int) + 1) = ((i + 1 : Nat) : Int) := by rw [IntWalk.i64_in _ (by omega)]; simp
      have hm := hall l[i] (List.getElem_mem hlt)
      have hpre := flL_len (l := l.take i) (fun a ha => hall a (List.mem_of_mem_take ha)) (by simp; omega)
      have h10 := leb_ten l.length (by omega)
      have hst : fl encLab (l.take (i + 1)) = fl encLab (l.take i) ++ encLab l[i] := by rw [List.take_succ_eq_append_getElem hlt, fl_snoc]
      have hpl : (leb l.length ++ fl encLab (l.take i)).length ≤ 890 := by rw [List.length_append]; omega
      have hnext : (leb l.length ++ fl encLab (l.take i) ++ lebT l[i].1 ++ lebT l[i].2.1) = leb l.length ++ fl encLab (l.take (i + 1)) := by
        rw [hst]; unfold encLab; simp only [List.append_assoc]
      generalize leb l.length ++ fl encLab (l.take i) = pre at *
      have t1 := lebT_len l[i].1 (by omega)
      have hput1 := octsPutText pre l[i].1 (by omega) (by omega)
      have hput2 := octsPutText (pre ++ lebT l[i].1) l[i].2.1 (by rw [List.length_append]; omega) (by omega)
      simp only [int, hb, hlt2, encL, Int.natCast_nonneg, am, simprocAttr, tys]
      refine ACallD.of (hput1) (by kernel_rfl) [] [0] rfl (by simp) (by simp) (by simp) (by simp) (by repeat' (first | exact trivial | exact .inl rfl | exact .inr rfl | exact .inr ⟨rfl, by simp⟩ | exact .inr ⟨rfl, rfl, by simp⟩ | apply And.intro)) (by repeat' (first | exact trivial | rfl | exact (tkC_ren.1 _ _).symm | (simp; done) | apply And.intro)) (by first | exact .inl rfl | (refine .inr ⟨trivial, ?_⟩; first | (intro row h; rcases List.mem_singleton.1 h with rfl; exact nvB _) | (intro row h; cases h; done) | (simp; done)) | (refine .inr ⟨by simp [nvP, nvP.nvPs, nvD, nilS, errno], ?_⟩; first | (intro row h; rcases List.mem_singleton.1 h with rfl; exact nvB _) | (intro row h; cases h; done) | (simp [nvRow, nvD, nvP]; done))) rfl rfl rfl rfl ?_
      simp only [am, simprocAttr, tys]
      refine ACallD.of (hput2) (by kernel_rfl) [] [194] rfl (by simp) (by simp) (by simp) (by simp) (by repeat' (first | exact trivial | exact .inl rfl | exact .inr rfl | exact .inr ⟨rfl, by simp⟩ | exact .inr ⟨rfl, rfl, by simp⟩ | apply And.intro)) (by repeat' (first | exact trivial | rfl | exact (tkC_ren.1 _ _).symm | (simp; done) | apply And.intro)) (by first | exact .inl rfl | (refine .inr ⟨trivial, ?_⟩; first | (intro row h; rcases List.mem_singleton.1 h with rfl; exact nvB _) | (intro row h; cases h; done) | (simp; done)) | (refine .inr ⟨by simp [nvP, nvP.nvPs, nvD, nilS, errno], ?_⟩; first | (intro row h; rcases List.mem_singleton.1 h with rfl; exact nvB _) | (intro row h; cases h; done) | (simp [nvRow, nvD, nvP]; done))) rfl rfl rfl rfl ?_
      simp only [e2, am, simprocAttr, tys]
      refine ⟨by kernel_rfl, ⟨i + 1, by omega⟩, [], [386], ⟨rfl, rfl, by simp, (fun i hi => absurd hi (Nat.not_lt_zero _)), ⟨.inr rfl, .inr rfl, .inr rfl, .inr rfl, trivial⟩, ⟨.inr ⟨by decide, ?_⟩, trivial⟩, rfl, by decide, rfl, (by first | rfl | simp [scRow, tkC_scs])⟩, by show l.length - (i + 1) < l.length - i; omega⟩
      exact congrArg (fun z => Row.own 1 (List.map encB z)) hnext
    · have hlt2 : ¬ ((i : Int) < l.length) := by omega
      have hfull : l.take i = l := List.take_of_length_le hge
      simp only [int, hlt2, hfull, byts, errno, FinR, evRes, evRVs, evRV, am, simprocAttr, tys]
      exact ⟨_, [], [0], rfl, ⟨rfl, rfl, by simp, (fun i hi => absurd hi (Nat.not_lt_zero _)), trivial, ⟨.inr ⟨by decide, rfl⟩, trivial⟩, rfl, by decide, rfl, (by first | rfl | simp [scRow, tkC_scs])⟩, rfl, rfl⟩

theorem refLPutN (l : List Lab) (hl : l.length ≤ 9223372036854775807) (hx : ∀ x ∈ l, x.1.length ≤ 9223372036854775807 ∧ x.2.1.length ≤ 9223372036854775807) (hr : rightL l = false) : AFun Try.prog 22 [.d (.sl 2 (l.map encL))] [] (.tup [nilS, errno 50]) [] := by
  refine AFun.of_walk hP Try.func22 rfl rfl rfl (by simp) rfl ?_
  simp only [Try.f22, am, simprocAttr, tys]
  refine ACall.of (refRight5 l hl hx) [] [] rfl (by simp) (by simp) (by simp) (by repeat' (first | exact trivial | exact .inl rfl | exact .inr rfl | exact .inr ⟨rfl, by simp⟩ | exact .inr ⟨rfl, rfl, by simp⟩ | apply And.intro)) (by repeat' (first | exact trivial | rfl | exact (tkC_ren.1 _ _).symm | (simp; done) | apply And.intro)) (by first | exact .inl rfl | (refine .inr ⟨trivial, ?_⟩; first | (intro row h; rcases List.mem_singleton.1 h with rfl; exact nvB _) | (intro row h; cases h; done) | (simp; done)) | (refine .inr ⟨by simp [nvP, nvP.nvPs, nvD, nilS, errno], ?_⟩; first | (intro row h; rcases List.mem_singleton.1 h with rfl; exact nvB _) | (intro row h; cases h; done) | (simp [nvRow, nvD, nvP]; done))) ?_
  rw [hr]
  simp only [bool, nilS, errno, FinR, evRes, evRVs, evRV, am, simprocAttr, tys]
  exact ⟨_, [], [], rfl, Ent.plain rfl rfl rfl trivial rfl, rfl, rfl⟩

set_option maxRecDepth 8000 in
theorem refLPut (l : List Lab) (hl : l.length ≤ 9223372036854775807) (hx : ∀ x ∈ l, x.1.length ≤ 9223372036854775807 ∧ x.2.1.length ≤ 9223372036854775807) (hr : rightL l = true) : AFun Try.prog 22 [.d (.sl 2 (l.map encL))] [] (.tup [.own 0, errno 0]) [.own 1 ((putLb l).map encB)] := by
  refine AFun.of_walk hP Try.func22 rfl rfl rfl (by simp) rfl ?_
  simp only [Try.f22, am, simprocAttr, tys]
  refine ACall.of (refRight5 l hl hx) [] [] rfl (by simp) (by simp) (by simp) (by repeat' (first | exact trivial | exact .inl rfl | exact .inr rfl | exact .inr ⟨rfl, by simp⟩ | exact .inr ⟨rfl, rfl, by simp⟩ | apply And.intro)) (by repeat' (first | exact trivial | rfl | exact (tkC_ren.1 _ _).symm | (simp; done) | apply And.intro)) (by first | exact .inl rfl | (refine .inr ⟨trivial, ?_⟩; first | (intro row h; rcases List.mem_singleton.1 h with rfl; exact nvB _) | (intro row h; cases h; done) | (simp; done)) | (refine .inr ⟨by simp [nvP, nvP.nvPs, nvD, nilS, errno], ?_⟩; first | (intro row h; rcases List.mem_singleton.1 h with rfl; exact nvB _) | (intro row h; cases h; done) | (simp [nvRow, nvD, nvP]; done))) ?_
  rw [hr]
  · obtain ⟨h8, _, hall⟩ := rightL_len hr
    have e1 : IntKind.u64.wrap (l.length : Int) = l.length := IntWalk.u64_in _ (by omega)
    simp only [bool, e1, am, simprocAttr, tys]
    refine ACall.of (refPut [] l.length (by simp) (by omega)) [] [] rfl (by simp) (by simp) (by simp) (by repeat' (first | exact trivial | exact .inl rfl | exact .inr rfl | exact .inr ⟨rfl, by simp⟩ | exact .inr ⟨rfl, rfl, by simp⟩ | apply And.intro)) (by repeat' (first | exact trivial | rfl | exact (tkC_ren.1 _ _).symm | (simp; done) | apply And.intro)) (by first | exact .inl rfl | (refine .inr ⟨trivial, ?_⟩; first | (intro row h; rcases List.mem_singleton.1 h with rfl; exact nvB _) | (intro row h; cases h; done) | (simp; done)) | (refine .inr ⟨by simp [nvP, nvP.nvPs, nvD, nilS, errno], ?_⟩; first | (intro row h; rcases List.mem_singleton.1 h with rfl; exact nvB _) | (intro row h; cases h; done) | (simp [nvRow, nvD, nvP]; done))) ?_
    simp only [am, simprocAttr, tys]
    refine ALoopW.intro 34 0 (ι := { i : Nat // i ≤ l.length }) (fun i => [(0, .d (.sl 2 (l.map encL))), (4, .own 0), (5, int i.1)]) (fun i => [.own 1 ((leb l.length ++ fl encLab (l.take i.1)).map encB)]) (fun i => l.length - i.1) ⟨0, by omega⟩ [] [0] ?_ (fun ⟨i, hi⟩ => ?_)
    · refine ⟨rfl, rfl, by simp, (fun i hi => absurd hi (Nat.not_lt_zero _)), ⟨.inr rfl, .inr rfl, .inr rfl, trivial⟩, ⟨.inr ⟨by decide, ?_⟩, trivial⟩, rfl, by decide, rfl, (by first | rfl | simp [scRow, tkC_scs])⟩
      simp only [List.take_zero, fl_nil, List.append_nil]; rfl
    rcases Nat.lt_or_ge i l.length with hlt | hge
    · have hb : l[i]? = some l[i] := List.getElem?_eq_getElem hlt
      have hlt2 : ((i : Int) < l.length) := by omega
      have e2 : IntKind.i64.wrap ((i : Int) + 1) = ((i + 1 : Nat) : Int) := by rw [IntWalk.i64_in _ (by omega)]; simp
      have hm := hall l[i] (List.getElem_mem hlt)
      have hpre := flL_len (l := l.take i) (fun a ha => hall a (List.mem_of_mem_take ha)) (by simp; omega)
      have h10 := leb_ten l.length (by omega)
      have hst : fl encLab (l.take (i + 1)) = fl encLab (l.take i) ++ encLab l[i] := by rw [List.take_succ_eq_append_getElem hlt, fl_snoc]
      have hpl : (leb l.length ++ fl encLab (l.take i)).length ≤ 890 := by rw [List.length_append]; omega
      have hnext : (leb l.length ++ fl encLab (l.take i) ++ lebT l[i].1 ++ lebT l[i].2.1) = leb l.length ++ fl encLab (l.take (i + 1)) := by
        rw [hst]; unfold encLab; simp only [List.append_assoc]
      generalize leb l.length ++ fl encLab (l.take i) = pre at *
      have t1 := lebT_len l[i].1 (by omega)
      have hput1 := refPutText pre l[i].1 (by omega) (by omega)
      have hput2 := refPutText (pre ++ lebT l[i].1) l[i].2.1 (by rw [List.length_append]; omega) (by omega)
      simp only [int, hb, hlt2, encL, Int.natCast_nonneg, am, simprocAttr, tys]
      refine ACall.of (hput1) [] [0] rfl (by simp) (by simp) (by simp) (by repeat' (first | exact trivial | exact .inl rfl | exact .inr rfl | exact .inr ⟨rfl, by simp⟩ | exact .inr ⟨rfl, rfl, by simp⟩ | apply And.intro)) (by repeat' (first | exact trivial | rfl | exact (tkC_ren.1 _ _).symm | (simp; done) | apply And.intro)) (by first | exact .inl rfl | (refine .inr ⟨trivial, ?_⟩; first | (intro row h; rcases List.mem_singleton.1 h with rfl; exact nvB _) | (intro row h; cases h; done) | (simp; done)) | (refine .inr ⟨by simp [nvP, nvP.nvPs, nvD, nilS, errno], ?_⟩; first | (intro row h; rcases List.mem_singleton.1 h with rfl; exact nvB _) | (intro row h; cases h; done) | (simp [nvRow, nvD, nvP]; done))) ?_
      simp only [hb, hlt2, encL, Int.natCast_nonneg, am, simprocAttr, tys]
      refine ACall.of (hput2) [] [1] rfl (by simp) (by simp) (by simp) (by repeat' (first | exact trivial | exact .inl rfl | exact .inr rfl | exact .inr ⟨rfl, by simp⟩ | exact .inr ⟨rfl, rfl, by simp⟩ | apply And.intro)) (by repeat' (first | exact trivial | rfl | exact (tkC_ren.1 _ _).symm | (simp; done) | apply And.intro)) (by first | exact .inl rfl | (refine .inr ⟨trivial, ?_⟩; first | (intro row h; rcases List.mem_singleton.1 h with rfl; exact nvB _) | (intro row h; cases h; done) | (simp; done)) | (refine .inr ⟨by simp [nvP, nvP.nvPs, nvD, nilS, errno], ?_⟩; first | (intro row h; rcases List.mem_singleton.1 h with rfl; exact nvB _) | (intro row h; cases h; done) | (simp [nvRow, nvD, nvP]; done))) ?_
      simp only [e2, am, simprocAttr, tys]
      refine ⟨⟨i + 1, by omega⟩, [], [2], ⟨rfl, rfl, by simp, (fun i hi => absurd hi (Nat.not_lt_zero _)), ⟨.inr rfl, .inr rfl, .inr rfl, trivial⟩, ⟨.inr ⟨by decide, ?_⟩, trivial⟩, rfl, by decide, rfl, (by first | rfl | simp [scRow, tkC_scs])⟩, by show l.length - (i + 1) < l.length - i; omega⟩
      exact congrArg (fun z => Row.own 1 (List.map encB z)) hnext
    · have hlt2 : ¬ ((i : Int) < l.length) := by omega
      have hfull : l.take i = l := List.take_of_length_le hge
      simp only [int, hlt2, hfull, byts, errno, FinR, evRes, evRVs, evRV, am, simprocAttr, tys]
      exact ⟨_, [], [0], rfl, ⟨rfl, rfl, by simp, (fun i hi => absurd hi (Nat.not_lt_zero _)), trivial, ⟨.inr ⟨by decide, rfl⟩, trivial⟩, rfl, by decide, rfl, (by first | rfl | simp [scRow, tkC_scs])⟩, rfl, rfl⟩

end Go.Proofs.Ytkadildabhkocaa
