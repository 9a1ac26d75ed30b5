/- Proved here: what the functions of the program compute. No condition. -/
import Derived.Test.YtflpphgccjlkjaaG1
set_option linter.all false
set_option linter.unusedSimpArgs false
set_option linter.unusedVariables false
set_option linter.unusedSimpArgs false
set_option linter.unusedVariables false
namespace Go.Proofs.Ytflpphgccjlkjaa
open Go Go.AM

/-! ## labels as bytes -/
def encLab (a : Lab) : List UInt8 := lebT a.1 ++ lebT a.2.1
def putLb (l : List Lab) : List UInt8 := putL encLab l
theorem rightL_len {l : List Lab} (h : rightL l = true) : l.length ≤ 6 ∧ 1 ≤ l.length ∧ ∀ a ∈ l, a.1.length ≤ 16 ∧ a.2.1.length ≤ 64 := by
  obtain ⟨h1, h2, h3⟩ := (rightL_iff l).1 h
  refine ⟨h3, h2, fun a ha => ?_⟩
  obtain ⟨i, hi, rfl⟩ := List.getElem_of_mem ha
  have := h1 i hi
  rw [okAt_get l i hi] at this
  simp only [Bool.and_eq_true, valOk, decide_eq_true_eq] at this
  have hn := nameOk_len this.1.1
  omega
theorem encLab_len {a : Lab} (h : a.1.length ≤ 16 ∧ a.2.1.length ≤ 64) : (encLab a).length ≤ 110 := by
  obtain ⟨h1, h2⟩ := h
  have := lebT_len a.1 (by omega)
  have := lebT_len a.2.1 (by omega)
  unfold encLab; simp; omega
theorem flL_len {l : List Lab} (h : ∀ a ∈ l, a.1.length ≤ 16 ∧ a.2.1.length ≤ 64) (h8 : l.length ≤ 6) : (fl encLab l).length ≤ 880 := by
  have := fl_len encLab 110 l fun x hx => encLab_len (h x hx)
  have := Nat.mul_le_mul_right 110 h8
  omega
theorem putLb_len {l : List Lab} (h : rightL l = true) : (putLb l).length ≤ 890 := by
  obtain ⟨h1, _, h2⟩ := rightL_len h
  have := flL_len h2 h1
  have := leb_ten l.length (by omega)
  unfold putLb putL; simp; omega

theorem labelPutN (l : List Lab) (hl : l.length ≤ 9223372036854775807) (hx : ∀ x ∈ l, x.1.length ≤ 9223372036854775807 ∧ x.2.1.length ≤ 9223372036854775807) (hr : rightL l = false) : AFun Try.prog 50 [.d (.sl 2 (l.map encL))] [] (.tup [nilS, errno 50]) [] := by
  refine AFun.of_walk hP Try.func50 rfl rfl rfl (by simp) rfl ?_
  simp only [Try.f50, am, simprocAttr, tys]
  refine ACall.of (labelRight l hl hx) [] [] rfl (by simp) (by simp) (by simp) (by repeat' (first | exact trivial | exact .inl rfl | exact .inr rfl | exact .inr ⟨rfl, rfl, rfl, by simp; done⟩ | exact .inr ⟨rfl, by simp; done⟩ | exact .inr ⟨rfl, rfl, by simp; done⟩ | apply And.intro)) (by repeat' (first | exact trivial | rfl | exact (tkC_ren.1 _ _).symm | (simp; done) | apply And.intro)) (by first | exact .inl rfl | (refine .inr ⟨trivial, ?_⟩; first | (intro row h; rcases List.mem_singleton.1 h with rfl; exact nvB _) | (intro row h; cases h; done) | (simp; done)) | (refine .inr ⟨by simp [nvP, nvP.nvPs, nvD, nilS, errno], ?_⟩; first | (intro row h; rcases List.mem_singleton.1 h with rfl; exact nvB _) | (intro row h; cases h; done) | (simp [nvRow, nvD, nvP]; done))) ?_
  rw [hr]
  simp only [bool, nilS, errno, FinR, evRes, evRVs, evRV, am, simprocAttr, tys]
  exact ⟨_, [], [], rfl, Ent.plain rfl rfl rfl trivial rfl, rfl, rfl⟩

set_option maxRecDepth 8000 in
theorem labelPut (l : List Lab) (hl : l.length ≤ 9223372036854775807) (hx : ∀ x ∈ l, x.1.length ≤ 9223372036854775807 ∧ x.2.1.length ≤ 9223372036854775807) (hr : rightL l = true) : AFun Try.prog 50 [.d (.sl 2 (l.map encL))] [] (.tup [.own 0, errno 0]) [.own 1 ((putLb l).map encB)] := by
  refine AFun.of_walk hP Try.func50 rfl rfl rfl (by simp) rfl ?_
  simp only [Try.f50, am, simprocAttr, tys]
  refine ACall.of (labelRight l hl hx) [] [] rfl (by simp) (by simp) (by simp) (by repeat' (first | exact trivial | exact .inl rfl | exact .inr rfl | exact .inr ⟨rfl, rfl, rfl, by simp; done⟩ | exact .inr ⟨rfl, by simp; done⟩ | exact .inr ⟨rfl, rfl, by simp; done⟩ | apply And.intro)) (by repeat' (first | exact trivial | rfl | exact (tkC_ren.1 _ _).symm | (simp; done) | apply And.intro)) (by first | exact .inl rfl | (refine .inr ⟨trivial, ?_⟩; first | (intro row h; rcases List.mem_singleton.1 h with rfl; exact nvB _) | (intro row h; cases h; done) | (simp; done)) | (refine .inr ⟨by simp [nvP, nvP.nvPs, nvD, nilS, errno], ?_⟩; first | (intro row h; rcases List.mem_singleton.1 h with rfl; exact nvB _) | (intro row h; cases h; done) | (simp [nvRow, nvD, nvP]; done))) ?_
  rw [hr]
  · obtain ⟨h8, _, hall⟩ := rightL_len hr
    have e1 : IntKind.u64.wrap (l.length : Int) = l.length := IntWalk.u64_in _ (by omega)
    simp only [bool, e1, am, simprocAttr, tys]
    refine ACall.of (octsPut [] l.length (by simp) (by omega)) [] [] rfl (by simp) (by simp) (by simp) (by repeat' (first | exact trivial | exact .inl rfl | exact .inr rfl | exact .inr ⟨rfl, rfl, rfl, by simp; done⟩ | exact .inr ⟨rfl, by simp; done⟩ | exact .inr ⟨rfl, rfl, by simp; done⟩ | apply And.intro)) (by repeat' (first | exact trivial | rfl | exact (tkC_ren.1 _ _).symm | (simp; done) | apply And.intro)) (by first | exact .inl rfl | (refine .inr ⟨trivial, ?_⟩; first | (intro row h; rcases List.mem_singleton.1 h with rfl; exact nvB _) | (intro row h; cases h; done) | (simp; done)) | (refine .inr ⟨by simp [nvP, nvP.nvPs, nvD, nilS, errno], ?_⟩; first | (intro row h; rcases List.mem_singleton.1 h with rfl; exact nvB _) | (intro row h; cases h; done) | (simp [nvRow, nvD, nvP]; done))) ?_
    simp only [am, simprocAttr, tys]
    refine ALoopW.intro 29 0 (ι := { i : Nat // i ≤ l.length }) (fun i => [(4, .own 0), (14, .d (.sl 2 (l.map encL))), (15, int l.length), (16, int i.1)]) (fun i => [.own 1 ((leb l.length ++ fl encLab (l.take i.1)).map encB)]) (fun i => l.length - i.1) ⟨0, by omega⟩ [] [0] ?_ (fun ⟨i, hi⟩ => ?_)
    · refine ⟨rfl, rfl, by simp, (fun i hi => absurd hi (Nat.not_lt_zero _)), ⟨.inr rfl, .inr rfl, .inr rfl, .inr rfl, trivial⟩, ⟨.inr ⟨by decide, ?_⟩, trivial⟩, rfl, by decide, rfl, (by first | rfl | simp [scRow, tkC_scs])⟩
      simp only [List.take_zero, fl_nil, List.append_nil]; rfl
    rcases Nat.lt_or_ge i l.length with hlt | hge
    · have hb : l[i]? = some l[i] := List.getElem?_eq_getElem hlt
      have hlt2 : ((i : Int) < l.length) := by omega
      have e2 : IntKind.i64.wrap ((i : Int) + 1) = ((i + 1 : Nat) : Int) := by rw [IntWalk.i64_in _ (by omega)]; simp
      have hm := hall l[i] (List.getElem_mem hlt)
      have hpre := flL_len (l := l.take i) (fun a ha => hall a (List.mem_of_mem_take ha)) (by simp; omega)
      have h10 := leb_ten l.length (by omega)
      have hst : fl encLab (l.take (i + 1)) = fl encLab (l.take i) ++ encLab l[i] := by rw [List.take_succ_eq_append_getElem hlt, fl_snoc]
      have hpl : (leb l.length ++ fl encLab (l.take i)).length ≤ 890 := by rw [List.length_append]; omega
      have hnext : (leb l.length ++ fl encLab (l.take i) ++ lebT l[i].1 ++ lebT l[i].2.1) = leb l.length ++ fl encLab (l.take (i + 1)) := by
        rw [hst]; unfold encLab; simp only [List.append_assoc]
      generalize leb l.length ++ fl encLab (l.take i) = pre at *
      have t1 := lebT_len l[i].1 (by omega)
      have hput1 := octsPutText pre l[i].1 (by omega) (by omega)
      have hput2 := octsPutText (pre ++ lebT l[i].1) l[i].2.1 (by rw [List.length_append]; omega) (by omega)
      simp only [int, hb, hlt2, encL, Int.natCast_nonneg, am, simprocAttr, tys]
      refine ACallD.of (hput1) (by kernel_rfl) [] [0] rfl (by simp) (by simp) (by simp) (by simp) (by repeat' (first | exact trivial | exact .inl rfl | exact .inr rfl | exact .inr ⟨rfl, rfl, rfl, by simp; done⟩ | exact .inr ⟨rfl, by simp; done⟩ | exact .inr ⟨rfl, rfl, by simp; done⟩ | apply And.intro)) (by repeat' (first | exact trivial | rfl | exact (tkC_ren.1 _ _).symm | (simp; done) | apply And.intro)) (by first | exact .inl rfl | (refine .inr ⟨trivial, ?_⟩; first | (intro row h; rcases List.mem_singleton.1 h with rfl; exact nvB _) | (intro row h; cases h; done) | (simp; done)) | (refine .inr ⟨by simp [nvP, nvP.nvPs, nvD, nilS, errno], ?_⟩; first | (intro row h; rcases List.mem_singleton.1 h with rfl; exact nvB _) | (intro row h; cases h; done) | (simp [nvRow, nvD, nvP]; done))) rfl rfl rfl rfl ?_
      simp only [am, simprocAttr, tys]
      refine ACallD.of (hput2) (by kernel_rfl) [] [194] rfl (by simp) (by simp) (by simp) (by simp) (by repeat' (first | exact trivial | exact .inl rfl | exact .inr rfl | exact .inr ⟨rfl, rfl, rfl, by simp; done⟩ | exact .inr ⟨rfl, by simp; done⟩ | exact .inr ⟨rfl, rfl, by simp; done⟩ | apply And.intro)) (by repeat' (first | exact trivial | rfl | exact (tkC_ren.1 _ _).symm | (simp; done) | apply And.intro)) (by first | exact .inl rfl | (refine .inr ⟨trivial, ?_⟩; first | (intro row h; rcases List.mem_singleton.1 h with rfl; exact nvB _) | (intro row h; cases h; done) | (simp; done)) | (refine .inr ⟨by simp [nvP, nvP.nvPs, nvD, nilS, errno], ?_⟩; first | (intro row h; rcases List.mem_singleton.1 h with rfl; exact nvB _) | (intro row h; cases h; done) | (simp [nvRow, nvD, nvP]; done))) rfl rfl rfl rfl ?_
      simp only [e2, am, simprocAttr, tys]
      refine ⟨by kernel_rfl, ⟨i + 1, by omega⟩, [], [386], ⟨rfl, rfl, by simp, (fun i hi => absurd hi (Nat.not_lt_zero _)), ⟨.inr rfl, .inr rfl, .inr rfl, .inr rfl, trivial⟩, ⟨.inr ⟨by decide, ?_⟩, trivial⟩, rfl, by decide, rfl, (by first | rfl | simp [scRow, tkC_scs])⟩, by show l.length - (i + 1) < l.length - i; omega⟩
      exact congrArg (fun z => Row.own 1 (List.map encB z)) hnext
    · have hlt2 : ¬ ((i : Int) < l.length) := by omega
      have hfull : l.take i = l := List.take_of_length_le hge
      simp only [int, hlt2, hfull, byts, errno, FinR, evRes, evRVs, evRV, am, simprocAttr, tys]
      exact ⟨_, [], [0], rfl, ⟨rfl, rfl, by simp, (fun i hi => absurd hi (Nat.not_lt_zero _)), trivial, ⟨.inr ⟨by decide, rfl⟩, trivial⟩, rfl, by decide, rfl, (by first | rfl | simp [scRow, tkC_scs])⟩, rfl, rfl⟩

theorem refLPutN (l : List Lab) (hl : l.length ≤ 9223372036854775807) (hx : ∀ x ∈ l, x.1.length ≤ 9223372036854775807 ∧ x.2.1.length ≤ 9223372036854775807) (hr : rightL l = false) : AFun Try.prog 54 [.d (.sl 2 (l.map encL))] [] (.tup [nilS, errno 50]) [] := by
  refine AFun.of_walk hP Try.func54 rfl rfl rfl (by simp) rfl ?_
  simp only [Try.f54, am, simprocAttr, tys]
  refine ACall.of (refRight5 l hl hx) [] [] rfl (by simp) (by simp) (by simp) (by repeat' (first | exact trivial | exact .inl rfl | exact .inr rfl | exact .inr ⟨rfl, rfl, rfl, by simp; done⟩ | exact .inr ⟨rfl, by simp; done⟩ | exact .inr ⟨rfl, rfl, by simp; done⟩ | apply And.intro)) (by repeat' (first | exact trivial | rfl | exact (tkC_ren.1 _ _).symm | (simp; done) | apply And.intro)) (by first | exact .inl rfl | (refine .inr ⟨trivial, ?_⟩; first | (intro row h; rcases List.mem_singleton.1 h with rfl; exact nvB _) | (intro row h; cases h; done) | (simp; done)) | (refine .inr ⟨by simp [nvP, nvP.nvPs, nvD, nilS, errno], ?_⟩; first | (intro row h; rcases List.mem_singleton.1 h with rfl; exact nvB _) | (intro row h; cases h; done) | (simp [nvRow, nvD, nvP]; done))) ?_
  rw [hr]
  simp only [bool, nilS, errno, FinR, evRes, evRVs, evRV, am, simprocAttr, tys]
  exact ⟨_, [], [], rfl, Ent.plain rfl rfl rfl trivial rfl, rfl, rfl⟩

set_option maxRecDepth 8000 in
theorem refLPut (l : List Lab) (hl : l.length ≤ 9223372036854775807) (hx : ∀ x ∈ l, x.1.length ≤ 9223372036854775807 ∧ x.2.1.length ≤ 9223372036854775807) (hr : rightL l = true) : AFun Try.prog 54 [.d (.sl 2 (l.map encL))] [] (.tup [.own 0, errno 0]) [.own 1 ((putLb l).map encB)] := by
  refine AFun.of_walk hP Try.func54 rfl rfl rfl (by simp) rfl ?_
  simp only [Try.f54, am, simprocAttr, tys]
  refine ACall.of (refRight5 l hl hx) [] [] rfl (by simp) (by simp) (by simp) (by repeat' (first | exact trivial | exact .inl rfl | exact .inr rfl | exact .inr ⟨rfl, rfl, rfl, by simp; done⟩ | exact .inr ⟨rfl, by simp; done⟩ | exact .inr ⟨rfl, rfl, by simp; done⟩ | apply And.intro)) (by repeat' (first | exact trivial | rfl | exact (tkC_ren.1 _ _).symm | (simp; done) | apply And.intro)) (by first | exact .inl rfl | (refine .inr ⟨trivial, ?_⟩; first | (intro row h; rcases List.mem_singleton.1 h with rfl; exact nvB _) | (intro row h; cases h; done) | (simp; done)) | (refine .inr ⟨by simp [nvP, nvP.nvPs, nvD, nilS, errno], ?_⟩; first | (intro row h; rcases List.mem_singleton.1 h with rfl; exact nvB _) | (intro row h; cases h; done) | (simp [nvRow, nvD, nvP]; done))) ?_
  rw [hr]
  · obtain ⟨h8, _, hall⟩ := rightL_len hr
    have e1 : IntKind.u64.wrap (l.length : Int) = l.length := IntWalk.u64_in _ (by omega)
    simp only [bool, e1, am, simprocAttr, tys]
    refine ACall.of (refPut [] l.length (by simp) (by omega)) [] [] rfl (by simp) (by simp) (by simp) (by repeat' (first | exact trivial | exact .inl rfl | exact .inr rfl | exact .inr ⟨rfl, rfl, rfl, by simp; done⟩ | exact .inr ⟨rfl, by simp; done⟩ | exact .inr ⟨rfl, rfl, by simp; done⟩ | apply And.intro)) (by repeat' (first | exact trivial | rfl | exact (tkC_ren.1 _ _).symm | (simp; done) | apply And.intro)) (by first | exact .inl rfl | (refine .inr ⟨trivial, ?_⟩; first | (intro row h; rcases List.mem_singleton.1 h with rfl; exact nvB _) | (intro row h; cases h; done) | (simp; done)) | (refine .inr ⟨by simp [nvP, nvP.nvPs, nvD, nilS, errno], ?_⟩; first | (intro row h; rcases List.mem_singleton.1 h with rfl; exact nvB _) | (intro row h; cases h; done) | (simp [nvRow, nvD, nvP]; done))) ?_
    simp only [am, simprocAttr, tys]
    refine ALoopW.intro 34 0 (ι := { i : Nat // i ≤ l.length }) (fun i => [(0, .d (.sl 2 (l.map encL))), (4, .own 0), (5, int i.1)]) (fun i => [.own 1 ((leb l.length ++ fl encLab (l.take i.1)).map encB)]) (fun i => l.length - i.1) ⟨0, by omega⟩ [] [0] ?_ (fun ⟨i, hi⟩ => ?_)
    · refine ⟨rfl, rfl, by simp, (fun i hi => absurd hi (Nat.not_lt_zero _)), ⟨.inr rfl, .inr rfl, .inr rfl, trivial⟩, ⟨.inr ⟨by decide, ?_⟩, trivial⟩, rfl, by decide, rfl, (by first | rfl | simp [scRow, tkC_scs])⟩
      simp only [List.take_zero, fl_nil, List.append_nil]; rfl
    rcases Nat.lt_or_ge i l.length with hlt | hge
    · have hb : l[i]? = some l[i] := List.getElem?_eq_getElem hlt
      have hlt2 : ((i : Int) < l.length) := by omega
      have e2 : IntKind.i64.wrap ((i : Int) + 1) = ((i + 1 : Nat) : Int) := by rw [IntWalk.i64_in _ (by omega)]; simp
      have hm := hall l[i] (List.getElem_mem hlt)
      have hpre := flL_len (l := l.take i) (fun a ha => hall a (List.mem_of_mem_take ha)) (by simp; omega)
      have h10 := leb_ten l.length (by omega)
      have hst : fl encLab (l.take (i + 1)) = fl encLab (l.take i) ++ encLab l[i] := by rw [List.take_succ_eq_append_getElem hlt, fl_snoc]
      have hpl : (leb l.length ++ fl encLab (l.take i)).length ≤ 890 := by rw [List.length_append]; omega
      have hnext : (leb l.length ++ fl encLab (l.take i) ++ lebT l[i].1 ++ lebT l[i].2.1) = leb l.length ++ fl encLab (l.take (i + 1)) := by
        rw [hst]; unfold encLab; simp only [List.append_assoc]
      generalize leb l.length ++ fl encLab (l.take i) = pre at *
      have t1 := lebT_len l[i].1 (by omega)
      have hput1 := refPutText pre l[i].1 (by omega) (by omega)
      have hput2 := refPutText (pre ++ lebT l[i].1) l[i].2.1 (by rw [List.length_append]; omega) (by omega)
      simp only [int, hb, hlt2, encL, Int.natCast_nonneg, am, simprocAttr, tys]
      refine ACall.of (hput1) [] [0] rfl (by simp) (by simp) (by simp) (by repeat' (first | exact trivial | exact .inl rfl | exact .inr rfl | exact .inr ⟨rfl, rfl, rfl, by simp; done⟩ | exact .inr ⟨rfl, by simp; done⟩ | exact .inr ⟨rfl, rfl, by simp; done⟩ | apply And.intro)) (by repeat' (first | exact trivial | rfl | exact (tkC_ren.1 _ _).symm | (simp; done) | apply And.intro)) (by first | exact .inl rfl | (refine .inr ⟨trivial, ?_⟩; first | (intro row h; rcases List.mem_singleton.1 h with rfl; exact nvB _) | (intro row h; cases h; done) | (simp; done)) | (refine .inr ⟨by simp [nvP, nvP.nvPs, nvD, nilS, errno], ?_⟩; first | (intro row h; rcases List.mem_singleton.1 h with rfl; exact nvB _) | (intro row h; cases h; done) | (simp [nvRow, nvD, nvP]; done))) ?_
      simp only [hb, hlt2, encL, Int.natCast_nonneg, am, simprocAttr, tys]
      refine ACall.of (hput2) [] [1] rfl (by simp) (by simp) (by simp) (by repeat' (first | exact trivial | exact .inl rfl | exact .inr rfl | exact .inr ⟨rfl, rfl, rfl, by simp; done⟩ | exact .inr ⟨rfl, by simp; done⟩ | exact .inr ⟨rfl, rfl, by simp; done⟩ | apply And.intro)) (by repeat' (first | exact trivial | rfl | exact (tkC_ren.1 _ _).symm | (simp; done) | apply And.intro)) (by first | exact .inl rfl | (refine .inr ⟨trivial, ?_⟩; first | (intro row h; rcases List.mem_singleton.1 h with rfl; exact nvB _) | (intro row h; cases h; done) | (simp; done)) | (refine .inr ⟨by simp [nvP, nvP.nvPs, nvD, nilS, errno], ?_⟩; first | (intro row h; rcases List.mem_singleton.1 h with rfl; exact nvB _) | (intro row h; cases h; done) | (simp [nvRow, nvD, nvP]; done))) ?_
      simp only [e2, am, simprocAttr, tys]
      refine ⟨⟨i + 1, by omega⟩, [], [2], ⟨rfl, rfl, by simp, (fun i hi => absurd hi (Nat.not_lt_zero _)), ⟨.inr rfl, .inr rfl, .inr rfl, trivial⟩, ⟨.inr ⟨by decide, ?_⟩, trivial⟩, rfl, by decide, rfl, (by first | rfl | simp [scRow, tkC_scs])⟩, by show l.length - (i + 1) < l.length - i; omega⟩
      exact congrArg (fun z => Row.own 1 (List.map encB z)) hnext
    · have hlt2 : ¬ ((i : Int) < l.length) := by omega
      have hfull : l.take i = l := List.take_of_length_le hge
      simp only [int, hlt2, hfull, byts, errno, FinR, evRes, evRVs, evRV, am, simprocAttr, tys]
      exact ⟨_, [], [0], rfl, ⟨rfl, rfl, by simp, (fun i hi => absurd hi (Nat.not_lt_zero _)), trivial, ⟨.inr ⟨by decide, rfl⟩, trivial⟩, rfl, by decide, rfl, (by first | rfl | simp [scRow, tkC_scs])⟩, rfl, rfl⟩

end Go.Proofs.Ytflpphgccjlkjaa

set_option linter.unusedSimpArgs false
set_option linter.unusedVariables false
namespace Go.Proofs.Ytflpphgccjlkjaa
open Go Go.AM

/-! ## what is asked, as bytes -/
def encAsk (a : Ask) : List UInt8 := a.1 :: (lebT a.2.1 ++ lebT a.2.2.1)
def putA (l : List Ask) : List UInt8 := putL encAsk l
theorem mayOk_len {a : Ask} (h : mayOk a = true) : a.2.1.length ≤ 16 ∧ a.2.2.1.length ≤ 64 := by
  unfold mayOk nameOk at h
  simp only [Bool.and_eq_true, decide_eq_true_eq] at h
  exact ⟨h.1.1.1.1.2, h.1.2⟩
theorem rightA_len {l : List Ask} (h : rightA l = true) : l.length ≤ 8 ∧ ∀ a ∈ l, mayOk a = true := by
  unfold rightA at h
  simp only [Bool.and_eq_true, decide_eq_true_eq, List.all_eq_true] at h
  exact ⟨h.2, h.1⟩
theorem encAsk_len {a : Ask} (h : mayOk a = true) : (encAsk a).length ≤ 110 := by
  obtain ⟨h1, h2⟩ := mayOk_len h
  have := lebT_len a.2.1 (by omega)
  have := lebT_len a.2.2.1 (by omega)
  unfold encAsk; simp; omega
theorem flA_len {l : List Ask} (h : ∀ a ∈ l, mayOk a = true) (h8 : l.length ≤ 8) : (fl encAsk l).length ≤ 880 := by
  have := fl_len encAsk 110 l fun x hx => encAsk_len (h x hx)
  have := Nat.mul_le_mul_right 110 h8
  omega
theorem putA_len {l : List Ask} (h : rightA l = true) : (putA l).length ≤ 890 := by
  obtain ⟨h1, h2⟩ := rightA_len h
  have := flA_len h2 h1
  have := leb_ten l.length (by omega)
  unfold putA putL; simp; omega

theorem oneB (v : Nat) (h : v < 256) : ([[DV.lit (.int .u8 ((UInt8.ofNat v).toNat : Int))]] : List (List DV)) = [UInt8.ofNat v].map encB := rfl

theorem matchPutN (l : List Ask) (hl : l.length ≤ 9223372036854775807) (hn : ∀ a ∈ l, a.2.1.length ≤ 9223372036854775807) (hr : rightA l = false) : AFun Try.prog 52 [.d (.sl 3 (l.map encA))] [] (.tup [nilS, errno 1]) [] := by
  refine AFun.of_walk hP Try.func52 rfl rfl rfl (by simp) rfl ?_
  simp only [Try.f52, am, simprocAttr, tys]
  refine ACall.of (matchRight l hl hn) [] [] rfl (by simp) (by simp) (by simp) (by repeat' (first | exact trivial | exact .inl rfl | exact .inr rfl | exact .inr ⟨rfl, rfl, rfl, by simp; done⟩ | exact .inr ⟨rfl, by simp; done⟩ | exact .inr ⟨rfl, rfl, by simp; done⟩ | apply And.intro)) (by repeat' (first | exact trivial | rfl | exact (tkC_ren.1 _ _).symm | (simp; done) | apply And.intro)) (by first | exact .inl rfl | (refine .inr ⟨trivial, ?_⟩; first | (intro row h; rcases List.mem_singleton.1 h with rfl; exact nvB _) | (intro row h; cases h; done) | (simp; done)) | (refine .inr ⟨by simp [nvP, nvP.nvPs, nvD, nilS, errno], ?_⟩; first | (intro row h; rcases List.mem_singleton.1 h with rfl; exact nvB _) | (intro row h; cases h; done) | (simp [nvRow, nvD, nvP]; done))) ?_
  rw [hr]
  simp only [bool, nilS, errno, FinR, evRes, evRVs, evRV, am, simprocAttr, tys]
  exact ⟨_, [], [], rfl, Ent.plain rfl rfl rfl trivial rfl, rfl, rfl⟩

set_option maxRecDepth 8000 in
theorem matchPut (l : List Ask) (hl : l.length ≤ 9223372036854775807) (hn : ∀ a ∈ l, a.2.1.length ≤ 9223372036854775807) (hr : rightA l = true) : AFun Try.prog 52 [.d (.sl 3 (l.map encA))] [] (.tup [.own 0, errno 0]) [.own 1 ((putA l).map encB)] := by
  refine AFun.of_walk hP Try.func52 rfl rfl rfl (by simp) rfl ?_
  simp only [Try.f52, am, simprocAttr, tys]
  refine ACall.of (matchRight l hl hn) [] [] rfl (by simp) (by simp) (by simp) (by repeat' (first | exact trivial | exact .inl rfl | exact .inr rfl | exact .inr ⟨rfl, rfl, rfl, by simp; done⟩ | exact .inr ⟨rfl, by simp; done⟩ | exact .inr ⟨rfl, rfl, by simp; done⟩ | apply And.intro)) (by repeat' (first | exact trivial | rfl | exact (tkC_ren.1 _ _).symm | (simp; done) | apply And.intro)) (by first | exact .inl rfl | (refine .inr ⟨trivial, ?_⟩; first | (intro row h; rcases List.mem_singleton.1 h with rfl; exact nvB _) | (intro row h; cases h; done) | (simp; done)) | (refine .inr ⟨by simp [nvP, nvP.nvPs, nvD, nilS, errno], ?_⟩; first | (intro row h; rcases List.mem_singleton.1 h with rfl; exact nvB _) | (intro row h; cases h; done) | (simp [nvRow, nvD, nvP]; done))) ?_
  rw [hr]
  · obtain ⟨h8, hall⟩ := rightA_len hr
    have e1 : IntKind.u64.wrap (l.length : Int) = l.length := IntWalk.u64_in _ (by omega)
    simp only [bool, e1, am, simprocAttr, tys]
    refine ACall.of (octsPut [] l.length (by simp) (by omega)) [] [] rfl (by simp) (by simp) (by simp) (by repeat' (first | exact trivial | exact .inl rfl | exact .inr rfl | exact .inr ⟨rfl, rfl, rfl, by simp; done⟩ | exact .inr ⟨rfl, by simp; done⟩ | exact .inr ⟨rfl, rfl, by simp; done⟩ | apply And.intro)) (by repeat' (first | exact trivial | rfl | exact (tkC_ren.1 _ _).symm | (simp; done) | apply And.intro)) (by first | exact .inl rfl | (refine .inr ⟨trivial, ?_⟩; first | (intro row h; rcases List.mem_singleton.1 h with rfl; exact nvB _) | (intro row h; cases h; done) | (simp; done)) | (refine .inr ⟨by simp [nvP, nvP.nvPs, nvD, nilS, errno], ?_⟩; first | (intro row h; rcases List.mem_singleton.1 h with rfl; exact nvB _) | (intro row h; cases h; done) | (simp [nvRow, nvD, nvP]; done))) ?_
    simp only [am, simprocAttr, tys]
    refine ALoopW.intro 33 0 (ι := { i : Nat // i ≤ l.length }) (fun i => [(4, .own 0), (14, .d (.sl 3 (l.map encA))), (15, int l.length), (16, int i.1)]) (fun i => [.own 1 ((leb l.length ++ fl encAsk (l.take i.1)).map encB)]) (fun i => l.length - i.1) ⟨0, by omega⟩ [] [0] ?_ (fun ⟨i, hi⟩ => ?_)
    · refine ⟨rfl, rfl, by simp, (fun i hi => absurd hi (Nat.not_lt_zero _)), ⟨.inr rfl, .inr rfl, .inr rfl, .inr rfl, trivial⟩, ⟨.inr ⟨by decide, ?_⟩, trivial⟩, rfl, by decide, rfl, (by first | rfl | simp [scRow, tkC_scs])⟩
      simp only [List.take_zero, fl_nil, List.append_nil]; rfl
    rcases Nat.lt_or_ge i l.length with hlt | hge
    · have hb : l[i]? = some l[i] := List.getElem?_eq_getElem hlt
      have hlt2 : ((i : Int) < l.length) := by omega
      have e2 : IntKind.i64.wrap ((i : Int) + 1) = ((i + 1 : Nat) : Int) := by rw [IntWalk.i64_in _ (by omega)]; simp
      have hm := mayOk_len (hall l[i] (List.getElem_mem hlt))
      have hpre := flA_len (l := l.take i) (fun a ha => hall a (List.mem_of_mem_take ha)) (by simp; omega)
      have h10 := leb_ten l.length (by omega)
      have hst : fl encAsk (l.take (i + 1)) = fl encAsk (l.take i) ++ encAsk l[i] := by rw [List.take_succ_eq_append_getElem hlt, fl_snoc]
      have hpl : (leb l.length ++ fl encAsk (l.take i)).length ≤ 890 := by rw [List.length_append]; omega
      have hnext : (leb l.length ++ fl encAsk (l.take i) ++ [l[i].1] ++ lebT l[i].2.1 ++ lebT l[i].2.2.1) = leb l.length ++ fl encAsk (l.take (i + 1)) := by
        rw [hst]; unfold encAsk; simp only [List.append_assoc, List.cons_append, List.nil_append]
      generalize leb l.length ++ fl encAsk (l.take i) = pre at *
      have t1 := lebT_len l[i].2.1 (by omega)
      have hput1 := octsPutText (pre ++ [l[i].1]) l[i].2.1 (by rw [List.length_append]; simp; omega) (by omega)
      have hput2 := octsPutText (pre ++ [l[i].1] ++ lebT l[i].2.1) l[i].2.2.1 (by rw [List.length_append, List.length_append]; simp; omega) (by omega)
      have eapp : pre.map encB ++ [[DV.lit (.int .u8 (l[i].1.toNat : Int))]] = (pre ++ [l[i].1]).map encB := by rw [List.map_append]; rfl
      simp only [int, hb, hlt2, encA, Int.natCast_nonneg, eapp, am, simprocAttr, tys]
      refine ⟨by omega, ?_⟩
      refine ACallD.of (hput1) (by kernel_rfl) [] [258] rfl (by simp) (by simp) (by simp) (by simp) (by repeat' (first | exact trivial | exact .inl rfl | exact .inr rfl | exact .inr ⟨rfl, rfl, rfl, by simp; done⟩ | exact .inr ⟨rfl, by simp; done⟩ | exact .inr ⟨rfl, rfl, by simp; done⟩ | apply And.intro)) (by repeat' (first | exact trivial | rfl | exact (tkC_ren.1 _ _).symm | (simp; done) | apply And.intro)) (by first | exact .inl rfl | (refine .inr ⟨trivial, ?_⟩; first | (intro row h; rcases List.mem_singleton.1 h with rfl; exact nvB _) | (intro row h; cases h; done) | (simp; done)) | (refine .inr ⟨by simp [nvP, nvP.nvPs, nvD, nilS, errno], ?_⟩; first | (intro row h; rcases List.mem_singleton.1 h with rfl; exact nvB _) | (intro row h; cases h; done) | (simp [nvRow, nvD, nvP]; done))) rfl rfl rfl rfl ?_
      simp only [am, simprocAttr, tys]
      refine ACallD.of (hput2) (by kernel_rfl) [] [450] rfl (by simp) (by simp) (by simp) (by simp) (by repeat' (first | exact trivial | exact .inl rfl | exact .inr rfl | exact .inr ⟨rfl, rfl, rfl, by simp; done⟩ | exact .inr ⟨rfl, by simp; done⟩ | exact .inr ⟨rfl, rfl, by simp; done⟩ | apply And.intro)) (by repeat' (first | exact trivial | rfl | exact (tkC_ren.1 _ _).symm | (simp; done) | apply And.intro)) (by first | exact .inl rfl | (refine .inr ⟨trivial, ?_⟩; first | (intro row h; rcases List.mem_singleton.1 h with rfl; exact nvB _) | (intro row h; cases h; done) | (simp; done)) | (refine .inr ⟨by simp [nvP, nvP.nvPs, nvD, nilS, errno], ?_⟩; first | (intro row h; rcases List.mem_singleton.1 h with rfl; exact nvB _) | (intro row h; cases h; done) | (simp [nvRow, nvD, nvP]; done))) rfl rfl rfl rfl ?_
      simp only [e2, am, simprocAttr, tys]
      refine ⟨by kernel_rfl, ⟨i + 1, by omega⟩, [], [642], ⟨rfl, rfl, by simp, (fun i hi => absurd hi (Nat.not_lt_zero _)), ⟨.inr rfl, .inr rfl, .inr rfl, .inr rfl, trivial⟩, ⟨.inr ⟨by decide, ?_⟩, trivial⟩, rfl, by decide, rfl, (by first | rfl | simp [scRow, tkC_scs])⟩, by show l.length - (i + 1) < l.length - i; omega⟩
      exact congrArg (fun z => Row.own 1 (List.map encB z)) hnext
    · have hlt2 : ¬ ((i : Int) < l.length) := by omega
      have hfull : l.take i = l := List.take_of_length_le hge
      simp only [int, hlt2, hfull, byts, errno, FinR, evRes, evRVs, evRV, am, simprocAttr, tys]
      exact ⟨_, [], [0], rfl, ⟨rfl, rfl, by simp, (fun i hi => absurd hi (Nat.not_lt_zero _)), trivial, ⟨.inr ⟨by decide, rfl⟩, trivial⟩, rfl, by decide, rfl, (by first | rfl | simp [scRow, tkC_scs])⟩, rfl, rfl⟩

theorem refMPutN (l : List Ask) (hl : l.length ≤ 9223372036854775807) (hn : ∀ a ∈ l, a.2.1.length ≤ 9223372036854775807) (hr : rightA l = false) : AFun Try.prog 56 [.d (.sl 3 (l.map encA))] [] (.tup [nilS, errno 1]) [] := by
  refine AFun.of_walk hP Try.func56 rfl rfl rfl (by simp) rfl ?_
  simp only [Try.f56, am, simprocAttr, tys]
  refine ACall.of (refRight l hl hn) [] [] rfl (by simp) (by simp) (by simp) (by repeat' (first | exact trivial | exact .inl rfl | exact .inr rfl | exact .inr ⟨rfl, rfl, rfl, by simp; done⟩ | exact .inr ⟨rfl, by simp; done⟩ | exact .inr ⟨rfl, rfl, by simp; done⟩ | apply And.intro)) (by repeat' (first | exact trivial | rfl | exact (tkC_ren.1 _ _).symm | (simp; done) | apply And.intro)) (by first | exact .inl rfl | (refine .inr ⟨trivial, ?_⟩; first | (intro row h; rcases List.mem_singleton.1 h with rfl; exact nvB _) | (intro row h; cases h; done) | (simp; done)) | (refine .inr ⟨by simp [nvP, nvP.nvPs, nvD, nilS, errno], ?_⟩; first | (intro row h; rcases List.mem_singleton.1 h with rfl; exact nvB _) | (intro row h; cases h; done) | (simp [nvRow, nvD, nvP]; done))) ?_
  rw [hr]
  simp only [bool, nilS, errno, FinR, evRes, evRVs, evRV, am, simprocAttr, tys]
  exact ⟨_, [], [], rfl, Ent.plain rfl rfl rfl trivial rfl, rfl, rfl⟩

set_option maxRecDepth 8000 in
theorem refMPut (l : List Ask) (hl : l.length ≤ 9223372036854775807) (hn : ∀ a ∈ l, a.2.1.length ≤ 9223372036854775807) (hr : rightA l = true) : AFun Try.prog 56 [.d (.sl 3 (l.map encA))] [] (.tup [.own 0, errno 0]) [.own 1 ((putA l).map encB)] := by
  refine AFun.of_walk hP Try.func56 rfl rfl rfl (by simp) rfl ?_
  simp only [Try.f56, am, simprocAttr, tys]
  refine ACall.of (refRight l hl hn) [] [] rfl (by simp) (by simp) (by simp) (by repeat' (first | exact trivial | exact .inl rfl | exact .inr rfl | exact .inr ⟨rfl, rfl, rfl, by simp; done⟩ | exact .inr ⟨rfl, by simp; done⟩ | exact .inr ⟨rfl, rfl, by simp; done⟩ | apply And.intro)) (by repeat' (first | exact trivial | rfl | exact (tkC_ren.1 _ _).symm | (simp; done) | apply And.intro)) (by first | exact .inl rfl | (refine .inr ⟨trivial, ?_⟩; first | (intro row h; rcases List.mem_singleton.1 h with rfl; exact nvB _) | (intro row h; cases h; done) | (simp; done)) | (refine .inr ⟨by simp [nvP, nvP.nvPs, nvD, nilS, errno], ?_⟩; first | (intro row h; rcases List.mem_singleton.1 h with rfl; exact nvB _) | (intro row h; cases h; done) | (simp [nvRow, nvD, nvP]; done))) ?_
  rw [hr]
  · obtain ⟨h8, hall⟩ := rightA_len hr
    have e1 : IntKind.u64.wrap (l.length : Int) = l.length := IntWalk.u64_in _ (by omega)
    simp only [bool, e1, am, simprocAttr, tys]
    refine ACall.of (refPut [] l.length (by simp) (by omega)) [] [] rfl (by simp) (by simp) (by simp) (by repeat' (first | exact trivial | exact .inl rfl | exact .inr rfl | exact .inr ⟨rfl, rfl, rfl, by simp; done⟩ | exact .inr ⟨rfl, by simp; done⟩ | exact .inr ⟨rfl, rfl, by simp; done⟩ | apply And.intro)) (by repeat' (first | exact trivial | rfl | exact (tkC_ren.1 _ _).symm | (simp; done) | apply And.intro)) (by first | exact .inl rfl | (refine .inr ⟨trivial, ?_⟩; first | (intro row h; rcases List.mem_singleton.1 h with rfl; exact nvB _) | (intro row h; cases h; done) | (simp; done)) | (refine .inr ⟨by simp [nvP, nvP.nvPs, nvD, nilS, errno], ?_⟩; first | (intro row h; rcases List.mem_singleton.1 h with rfl; exact nvB _) | (intro row h; cases h; done) | (simp [nvRow, nvD, nvP]; done))) ?_
    simp only [am, simprocAttr, tys]
    refine ALoopW.intro 42 0 (ι := { i : Nat // i ≤ l.length }) (fun i => [(0, .d (.sl 3 (l.map encA))), (4, .own 0), (5, int i.1)]) (fun i => [.own 1 ((leb l.length ++ fl encAsk (l.take i.1)).map encB)]) (fun i => l.length - i.1) ⟨0, by omega⟩ [] [0] ?_ (fun ⟨i, hi⟩ => ?_)
    · refine ⟨rfl, rfl, by simp, (fun i hi => absurd hi (Nat.not_lt_zero _)), ⟨.inr rfl, .inr rfl, .inr rfl, trivial⟩, ⟨.inr ⟨by decide, ?_⟩, trivial⟩, rfl, by decide, rfl, (by first | rfl | simp [scRow, tkC_scs])⟩
      simp only [List.take_zero, fl_nil, List.append_nil]; rfl
    rcases Nat.lt_or_ge i l.length with hlt | hge
    · have hb : l[i]? = some l[i] := List.getElem?_eq_getElem hlt
      have hlt2 : ((i : Int) < l.length) := by omega
      have e2 : IntKind.i64.wrap ((i : Int) + 1) = ((i + 1 : Nat) : Int) := by rw [IntWalk.i64_in _ (by omega)]; simp
      have hm := mayOk_len (hall l[i] (List.getElem_mem hlt))
      have hpre := flA_len (l := l.take i) (fun a ha => hall a (List.mem_of_mem_take ha)) (by simp; omega)
      have h10 := leb_ten l.length (by omega)
      have hst : fl encAsk (l.take (i + 1)) = fl encAsk (l.take i) ++ encAsk l[i] := by rw [List.take_succ_eq_append_getElem hlt, fl_snoc]
      have hpl : (leb l.length ++ fl encAsk (l.take i)).length ≤ 890 := by rw [List.length_append]; omega
      have hnext : (leb l.length ++ fl encAsk (l.take i) ++ [l[i].1] ++ lebT l[i].2.1 ++ lebT l[i].2.2.1) = leb l.length ++ fl encAsk (l.take (i + 1)) := by
        rw [hst]; unfold encAsk; simp only [List.append_assoc, List.cons_append, List.nil_append]
      generalize leb l.length ++ fl encAsk (l.take i) = pre at *
      have t1 := lebT_len l[i].2.1 (by omega)
      have hput1 := refPutText (pre ++ [l[i].1]) l[i].2.1 (by rw [List.length_append]; simp; omega) (by omega)
      have hput2 := refPutText (pre ++ [l[i].1] ++ lebT l[i].2.1) l[i].2.2.1 (by rw [List.length_append, List.length_append]; simp; omega) (by omega)
      have eapp : pre.map encB ++ [[DV.lit (.int .u8 (l[i].1.toNat : Int))]] = (pre ++ [l[i].1]).map encB := by rw [List.map_append]; rfl
      simp only [int, hb, hlt2, encA, Int.natCast_nonneg, eapp, am, simprocAttr, tys]
      refine ⟨by omega, ?_⟩
      refine ACall.of (hput1) [] [2] rfl (by simp) (by simp) (by simp) (by repeat' (first | exact trivial | exact .inl rfl | exact .inr rfl | exact .inr ⟨rfl, rfl, rfl, by simp; done⟩ | exact .inr ⟨rfl, by simp; done⟩ | exact .inr ⟨rfl, rfl, by simp; done⟩ | apply And.intro)) (by repeat' (first | exact trivial | rfl | exact (tkC_ren.1 _ _).symm | (simp; done) | apply And.intro)) (by first | exact .inl rfl | (refine .inr ⟨trivial, ?_⟩; first | (intro row h; rcases List.mem_singleton.1 h with rfl; exact nvB _) | (intro row h; cases h; done) | (simp; done)) | (refine .inr ⟨by simp [nvP, nvP.nvPs, nvD, nilS, errno], ?_⟩; first | (intro row h; rcases List.mem_singleton.1 h with rfl; exact nvB _) | (intro row h; cases h; done) | (simp [nvRow, nvD, nvP]; done))) ?_
      simp only [hb, hlt2, encA, Int.natCast_nonneg, am, simprocAttr, tys]
      refine ACall.of (hput2) [] [3] rfl (by simp) (by simp) (by simp) (by repeat' (first | exact trivial | exact .inl rfl | exact .inr rfl | exact .inr ⟨rfl, rfl, rfl, by simp; done⟩ | exact .inr ⟨rfl, by simp; done⟩ | exact .inr ⟨rfl, rfl, by simp; done⟩ | apply And.intro)) (by repeat' (first | exact trivial | rfl | exact (tkC_ren.1 _ _).symm | (simp; done) | apply And.intro)) (by first | exact .inl rfl | (refine .inr ⟨trivial, ?_⟩; first | (intro row h; rcases List.mem_singleton.1 h with rfl; exact nvB _) | (intro row h; cases h; done) | (simp; done)) | (refine .inr ⟨by simp [nvP, nvP.nvPs, nvD, nilS, errno], ?_⟩; first | (intro row h; rcases List.mem_singleton.1 h with rfl; exact nvB _) | (intro row h; cases h; done) | (simp [nvRow, nvD, nvP]; done))) ?_
      simp only [e2, am, simprocAttr, tys]
      refine ⟨⟨i + 1, by omega⟩, [], [4], ⟨rfl, rfl, by simp, (fun i hi => absurd hi (Nat.not_lt_zero _)), ⟨.inr rfl, .inr rfl, .inr rfl, trivial⟩, ⟨.inr ⟨by decide, ?_⟩, trivial⟩, rfl, by decide, rfl, (by first | rfl | simp [scRow, tkC_scs])⟩, by show l.length - (i + 1) < l.length - i; omega⟩
      exact congrArg (fun z => Row.own 1 (List.map encB z)) hnext
    · have hlt2 : ¬ ((i : Int) < l.length) := by omega
      have hfull : l.take i = l := List.take_of_length_le hge
      simp only [int, hlt2, hfull, byts, errno, FinR, evRes, evRVs, evRV, am, simprocAttr, tys]
      exact ⟨_, [], [0], rfl, ⟨rfl, rfl, by simp, (fun i hi => absurd hi (Nat.not_lt_zero _)), trivial, ⟨.inr ⟨by decide, rfl⟩, trivial⟩, rfl, by decide, rfl, (by first | rfl | simp [scRow, tkC_scs])⟩, rfl, rfl⟩
end Go.Proofs.Ytflpphgccjlkjaa

set_option linter.unusedSimpArgs false
set_option linter.unusedVariables false
namespace Go.Proofs.Ytflpphgccjlkjaa
open Go Go.AM

def I64 (n : Int) : Prop := -9223372036854775808 ≤ n ∧ n ≤ 9223372036854775807
def fold (n : Int) : Nat := if n < 0 then 2 * (-(n + 1)).toNat + 1 else 2 * n.toNat
def unfold' (u : Nat) : Int := if u % 2 = 1 then -((u / 2 : Nat) : Int) - 1 else ((u / 2 : Nat) : Int)

theorem fold_lt (n : Int) (h : I64 n) : fold n < 18446744073709551616 := by
  obtain ⟨h1, h2⟩ := h
  unfold fold; split <;> omega
theorem unfold_I64 (u : Nat) (h : u < 18446744073709551616) : I64 (unfold' u) := by
  unfold unfold' I64; split <;> omega
theorem unfold_fold (n : Int) : unfold' (fold n) = n := by
  unfold fold unfold'
  split
  · rw [if_pos (by omega)]; omega
  · rw [if_neg (by omega)]; omega
theorem fold_unfold (u : Nat) : fold (unfold' u) = u := by
  unfold fold unfold'
  split
  · rw [if_pos (by omega)]; omega
  · rw [if_neg (by omega)]; omega

theorem xorAll (a : Nat) (h : a < 18446744073709551616) : evBits .xor .u64 (a : Int) 18446744073709551615 = ((18446744073709551615 - a : Nat) : Int) := by
  have e1 : (18446744073709551615 : Int) = (((BitVec.allOnes 64).toNat : Nat) : Int) := by decide
  have e2 : (a : Int) = (((BitVec.ofNat 64 a).toNat : Nat) : Int) := by rw [BitVec.toNat_ofNat, Nat.mod_eq_of_lt h]
  rw [e1, e2, x64, BitVec.xor_allOnes, BitVec.toNat_not, BitVec.toNat_ofNat, Nat.mod_eq_of_lt (show a < 2 ^ 64 by omega)]
theorem xor0 (a : Nat) (h : a < 18446744073709551616) : evBits .xor .u64 (a : Int) 0 = (a : Int) := by
  have e1 : (0 : Int) = (((0#64).toNat : Nat) : Int) := by decide
  have e2 : (a : Int) = (((BitVec.ofNat 64 a).toNat : Nat) : Int) := by rw [BitVec.toNat_ofNat, Nat.mod_eq_of_lt h]
  rw [e1, e2, x64, BitVec.xor_zero]

theorem octsFold (n : Int) (h : I64 n) : AFun Try.prog 78 [int n] [] (u64 (fold n)) [] := by
  refine AFun.of_walk hP Try.func78 rfl rfl rfl (by simp) rfl ?_
  obtain ⟨h1, h2⟩ := h
  have key : evBits .xor .u64 (IntKind.u64.wrap (IntKind.u64.wrap n * 2 ^ min 1 IntKind.u64.bits)) (IntKind.u64.wrap (n.fdiv (2 ^ min 63 IntKind.i64.bits))) = ((fold n : Nat) : Int) := by
    have p1 : (2 : Int) ^ min 1 IntKind.u64.bits = 2 := by decide
    have p2 : (2 : Int) ^ min 63 IntKind.i64.bits = 9223372036854775808 := by decide
    rw [p1, p2]
    by_cases hn : n < 0
    · have e1 : n.fdiv 9223372036854775808 = -1 := by
        rw [Int.fdiv_eq_ediv_of_nonneg _ (by omega)]; omega
      have e2 : IntKind.u64.wrap (-1) = 18446744073709551615 := by decide
      have e3 : IntKind.u64.wrap (IntKind.u64.wrap n * 2) = (((2 * n + 18446744073709551616).toNat : Nat) : Int) := by
        rw [IntKind.wrap_u64, IntKind.wrap_u64]; omega
      rw [e1, e2, e3, xorAll _ (by omega)]
      unfold fold; rw [if_pos hn]; omega
    · have e1 : n.fdiv 9223372036854775808 = 0 := by
        rw [Int.fdiv_eq_ediv_of_nonneg _ (by omega)]; omega
      have e2 : IntKind.u64.wrap 0 = 0 := by decide
      have e3 : IntKind.u64.wrap (IntKind.u64.wrap n * 2) = (((2 * n).toNat : Nat) : Int) := by
        rw [IntKind.wrap_u64, IntKind.wrap_u64]; omega
      rw [e1, e2, e3, xor0 _ (by omega)]
      unfold fold; rw [if_neg hn]; omega
  simp only [Try.f78, int, u64, key, FinR, evRes, evRVs, evRV, am, simprocAttr, tys]
  exact ⟨_, [], [], rfl, Ent.plain rfl rfl rfl trivial rfl, rfl, rfl⟩

theorem octsOpen (u : Nat) (h : u < 18446744073709551616) : AFun Try.prog 104 [u64 u] [] (int (unfold' u)) [] := by
  refine AFun.of_walk hP Try.func104 rfl rfl rfl (by simp) rfl ?_
  have key : evBits .xor .i64 (IntKind.i64.wrap ((u : Int).fdiv (2 ^ min 1 IntKind.u64.bits))) (IntKind.i64.wrap (0 - IntKind.i64.wrap (evBits .and .u64 (u : Int) 1))) = unfold' u := by
    have p1 : (2 : Int) ^ min 1 IntKind.u64.bits = 2 := by decide
    have e1 : (u : Int).fdiv 2 = ((u / 2 : Nat) : Int) := by
      rw [Int.fdiv_eq_ediv_of_nonneg _ (by omega)]; rfl
    have e2 : evBits .and .u64 (u : Int) 1 = ((u % 2 : Nat) : Int) := by
      have g1 : (1 : Int) = (((1#64).toNat : Nat) : Int) := by decide
      have g2 : (u : Int) = (((BitVec.ofNat 64 u).toNat : Nat) : Int) := by rw [BitVec.toNat_ofNat, Nat.mod_eq_of_lt h]
      rw [g1, g2, n64, BitVec.toNat_and, BitVec.toNat_ofNat, Nat.mod_eq_of_lt (show u < 2 ^ 64 by omega)]
      show ((u &&& 1 : Nat) : Int) = _
      rw [Nat.and_one_is_mod]
    have e3 : IntKind.i64.wrap ((u / 2 : Nat) : Int) = ((u / 2 : Nat) : Int) := IntWalk.i64_in _ (by omega)
    have e4 : IntKind.i64.wrap ((u % 2 : Nat) : Int) = ((u % 2 : Nat) : Int) := IntWalk.i64_in _ (by omega)
    have e5 : IntKind.i64.wrap (0 - ((u % 2 : Nat) : Int)) = 0 - ((u % 2 : Nat) : Int) := IntWalk.i64_in _ (by omega)
    rw [p1, e1, e2, e3, e4, e5]
    have hb : ((u / 2 : Nat) : Int) = (((BitVec.ofNat 64 (u / 2)).toNat : Nat) : Int) := by rw [BitVec.toNat_ofNat, Nat.mod_eq_of_lt (by omega)]
    show IntKind.i64.wrap ((BitVec.ofInt 64 ((u / 2 : Nat) : Int) ^^^ BitVec.ofInt 64 (0 - ((u % 2 : Nat) : Int))).toNat : Int) = _
    rw [hb, ofInt_bv]
    unfold unfold'
    by_cases hu : u % 2 = 1
    · have g : BitVec.ofInt 64 (0 - ((u % 2 : Nat) : Int)) = BitVec.allOnes 64 := by rw [hu]; decide
      rw [g, BitVec.xor_allOnes, BitVec.toNat_not, BitVec.toNat_ofNat, Nat.mod_eq_of_lt (show u / 2 < 2 ^ 64 by omega), if_pos hu]
      rw [IntKind.wrap_i64]; omega
    · have hu0 : u % 2 = 0 := by omega
      have g : BitVec.ofInt 64 (0 - ((u % 2 : Nat) : Int)) = 0#64 := by rw [hu0]; decide
      rw [g, BitVec.xor_zero, BitVec.toNat_ofNat, Nat.mod_eq_of_lt (show u / 2 < 2 ^ 64 by omega), if_neg hu]
      rw [IntKind.wrap_i64]; omega
  simp only [Try.f104, int, u64, key, FinR, evRes, evRVs, evRV, am, simprocAttr, tys]
  exact ⟨_, [], [], rfl, Ent.plain rfl rfl rfl trivial rfl, rfl, rfl⟩

theorem refFold (n : Int) (h : I64 n) : AFun Try.prog 80 [int n] [] (u64 (fold n)) [] := by
  refine AFun.of_walk hP Try.func80 rfl rfl rfl (by simp) rfl ?_
  obtain ⟨h1, h2⟩ := h
  by_cases hn : n < 0
  · have e : IntKind.u64.wrap (IntKind.u64.wrap (IntKind.u64.wrap (IntKind.i64.wrap (0 - IntKind.i64.wrap (n + 1))) * 2) + 1) = ((fold n : Nat) : Int) := by
      rw [IntWalk.i64_in (n + 1) (by omega), IntWalk.i64_in _ (by omega), IntWalk.u64_in (0 - (n + 1)) (by omega), IntWalk.u64_in ((0 - (n + 1)) * 2) (by omega), IntWalk.u64_in _ (by omega)]
      unfold fold; rw [if_pos hn]; omega
    simp only [Try.f80, int, u64, hn, e, FinR, evRes, evRVs, evRV, am, simprocAttr, tys]
    exact ⟨_, [], [], rfl, Ent.plain rfl rfl rfl trivial rfl, rfl, rfl⟩
  · have e : IntKind.u64.wrap (IntKind.u64.wrap n * 2) = ((fold n : Nat) : Int) := by
      rw [IntWalk.u64_in n (by omega), IntWalk.u64_in _ (by omega)]
      unfold fold; rw [if_neg hn]; omega
    simp only [Try.f80, int, u64, hn, e, FinR, evRes, evRVs, evRV, am, simprocAttr, tys]
    exact ⟨_, [], [], rfl, Ent.plain rfl rfl rfl trivial rfl, rfl, rfl⟩

theorem refOpen (u : Nat) (h : u < 18446744073709551616) : AFun Try.prog 90 [u64 u] [] (int (unfold' u)) [] := by
  refine AFun.of_walk hP Try.func90 rfl rfl rfl (by simp) rfl ?_
  have e1 : (u : Int).tmod 2 = ((u % 2 : Nat) : Int) := rfl
  have e2 : IntKind.u64.wrap ((u : Int).tdiv 2) = ((u / 2 : Nat) : Int) := IntWalk.u64_in _ (by have : (u : Int).tdiv 2 = ((u / 2 : Nat) : Int) := rfl; omega)
  have e3 : IntKind.i64.wrap ((u / 2 : Nat) : Int) = ((u / 2 : Nat) : Int) := IntWalk.i64_in _ (by omega)
  have e4 : IntKind.i64.wrap (0 - ((u / 2 : Nat) : Int)) = 0 - ((u / 2 : Nat) : Int) := IntWalk.i64_in _ (by omega)
  have e5 : IntKind.i64.wrap (0 - ((u / 2 : Nat) : Int) - 1) = 0 - ((u / 2 : Nat) : Int) - 1 := IntWalk.i64_in _ (by omega)
  by_cases hu : u % 2 = 1
  · have e6 : (((u % 2 : Nat) : Int) == 1) = true := by rw [beq_iff_eq]; omega
    have e7 : unfold' u = 0 - ((u / 2 : Nat) : Int) - 1 := by unfold unfold'; rw [if_pos hu]; omega
    simp only [Try.f90, int, u64, e1, e2, e3, e4, e5, e6, e7, FinR, evRes, evRVs, evRV, am, simprocAttr, tys]
    exact ⟨_, [], [], rfl, Ent.plain rfl rfl rfl trivial rfl, rfl, rfl⟩
  · have e6 : (((u % 2 : Nat) : Int) == 1) = false := by rw [beq_eq_false_iff_ne]; omega
    have e7 : unfold' u = ((u / 2 : Nat) : Int) := by unfold unfold'; rw [if_neg hu]
    simp only [Try.f90, int, u64, e1, e2, e3, e6, e7, FinR, evRes, evRVs, evRV, am, simprocAttr, tys]
    exact ⟨_, [], [], rfl, Ent.plain rfl rfl rfl trivial rfl, rfl, rfl⟩

def lebI (n : Int) : List UInt8 := leb (fold n)

theorem octsPutInt (bs : List UInt8) (n : Int) (hl : bs.length ≤ 100000000000000) (hn : I64 n) :
    AFun Try.prog 51 [byts bs, int n] [] (.own 0) [.own 1 ((bs ++ lebI n).map encB)] := by
  refine AFun.of_walk hP Try.func51 rfl rfl rfl (by simp) rfl ?_
  simp only [Try.f51, byts, int, am, simprocAttr, tys]
  refine ACall.of (octsFold n hn) [] [] rfl (by simp) (by simp) (by simp) (by repeat' (first | exact trivial | exact .inl rfl | exact .inr rfl | exact .inr ⟨rfl, rfl, rfl, by simp; done⟩ | exact .inr ⟨rfl, by simp; done⟩ | exact .inr ⟨rfl, rfl, by simp; done⟩ | apply And.intro)) (by repeat' (first | exact trivial | rfl | exact (tkC_ren.1 _ _).symm | (simp; done) | apply And.intro)) (by first | exact .inl rfl | (refine .inr ⟨trivial, ?_⟩; first | (intro row h; rcases List.mem_singleton.1 h with rfl; exact nvB _) | (intro row h; cases h; done) | (simp; done)) | (refine .inr ⟨by simp [nvP, nvP.nvPs, nvD, nilS, errno], ?_⟩; first | (intro row h; rcases List.mem_singleton.1 h with rfl; exact nvB _) | (intro row h; cases h; done) | (simp [nvRow, nvD, nvP]; done))) ?_
  simp only [u64, am, simprocAttr, tys]
  refine ACall.of (octsPut bs (fold n) hl (fold_lt n hn)) [] [] rfl (by simp) (by simp) (by simp) (by repeat' (first | exact trivial | exact .inl rfl | exact .inr rfl | exact .inr ⟨rfl, rfl, rfl, by simp; done⟩ | exact .inr ⟨rfl, by simp; done⟩ | exact .inr ⟨rfl, rfl, by simp; done⟩ | apply And.intro)) (by repeat' (first | exact trivial | rfl | exact (tkC_ren.1 _ _).symm | (simp; done) | apply And.intro)) (by first | exact .inl rfl | (refine .inr ⟨trivial, ?_⟩; first | (intro row h; rcases List.mem_singleton.1 h with rfl; exact nvB _) | (intro row h; cases h; done) | (simp; done)) | (refine .inr ⟨by simp [nvP, nvP.nvPs, nvD, nilS, errno], ?_⟩; first | (intro row h; rcases List.mem_singleton.1 h with rfl; exact nvB _) | (intro row h; cases h; done) | (simp [nvRow, nvD, nvP]; done))) ?_
  simp only [lebI, FinR, evRes, evRVs, evRV, am, simprocAttr, tys]
  exact ⟨_, [], [0], rfl, ⟨rfl, rfl, by simp, (fun i hi => absurd hi (Nat.not_lt_zero _)), trivial, ⟨.inr ⟨by decide, rfl⟩, trivial⟩, rfl, by decide, rfl, (by first | rfl | simp [scRow, tkC_scs])⟩, rfl, rfl⟩

theorem refPutInt (bs : List UInt8) (n : Int) (hl : bs.length ≤ 100000000000000) (hn : I64 n) :
    AFun Try.prog 55 [byts bs, int n] [] (.own 0) [.own 1 ((bs ++ lebI n).map encB)] := by
  refine AFun.of_walk hP Try.func55 rfl rfl rfl (by simp) rfl ?_
  simp only [Try.f55, byts, int, am, simprocAttr, tys]
  refine ACall.of (refFold n hn) [] [] rfl (by simp) (by simp) (by simp) (by repeat' (first | exact trivial | exact .inl rfl | exact .inr rfl | exact .inr ⟨rfl, rfl, rfl, by simp; done⟩ | exact .inr ⟨rfl, by simp; done⟩ | exact .inr ⟨rfl, rfl, by simp; done⟩ | apply And.intro)) (by repeat' (first | exact trivial | rfl | exact (tkC_ren.1 _ _).symm | (simp; done) | apply And.intro)) (by first | exact .inl rfl | (refine .inr ⟨trivial, ?_⟩; first | (intro row h; rcases List.mem_singleton.1 h with rfl; exact nvB _) | (intro row h; cases h; done) | (simp; done)) | (refine .inr ⟨by simp [nvP, nvP.nvPs, nvD, nilS, errno], ?_⟩; first | (intro row h; rcases List.mem_singleton.1 h with rfl; exact nvB _) | (intro row h; cases h; done) | (simp [nvRow, nvD, nvP]; done))) ?_
  simp only [u64, am, simprocAttr, tys]
  refine ACall.of (refPut bs (fold n) hl (fold_lt n hn)) [] [] rfl (by simp) (by simp) (by simp) (by repeat' (first | exact trivial | exact .inl rfl | exact .inr rfl | exact .inr ⟨rfl, rfl, rfl, by simp; done⟩ | exact .inr ⟨rfl, by simp; done⟩ | exact .inr ⟨rfl, rfl, by simp; done⟩ | apply And.intro)) (by repeat' (first | exact trivial | rfl | exact (tkC_ren.1 _ _).symm | (simp; done) | apply And.intro)) (by first | exact .inl rfl | (refine .inr ⟨trivial, ?_⟩; first | (intro row h; rcases List.mem_singleton.1 h with rfl; exact nvB _) | (intro row h; cases h; done) | (simp; done)) | (refine .inr ⟨by simp [nvP, nvP.nvPs, nvD, nilS, errno], ?_⟩; first | (intro row h; rcases List.mem_singleton.1 h with rfl; exact nvB _) | (intro row h; cases h; done) | (simp [nvRow, nvD, nvP]; done))) ?_
  simp only [lebI, FinR, evRes, evRVs, evRV, am, simprocAttr, tys]
  exact ⟨_, [], [0], rfl, ⟨rfl, rfl, by simp, (fun i hi => absurd hi (Nat.not_lt_zero _)), trivial, ⟨.inr ⟨by decide, rfl⟩, trivial⟩, rfl, by decide, rfl, (by first | rfl | simp [scRow, tkC_scs])⟩, rfl, rfl⟩

end Go.Proofs.Ytflpphgccjlkjaa

set_option linter.unusedSimpArgs false
set_option linter.unusedVariables false
namespace Go.Proofs.Ytflpphgccjlkjaa
open Go Go.AM

def eqLb (x y : Lab) : Bool := x.1 == y.1 && x.2.1 == y.2.1
theorem eqLb_iff (x y : Lab) : eqLb x y = true ↔ x = y := by
  obtain ⟨a, b, ⟨⟩⟩ := x
  obtain ⟨d, e, ⟨⟩⟩ := y
  simp [eqLb]
theorem eqLb_cells (x y : Lab) : eqLits [.string, .string] (encL x) (encL y) = some (eqLb x y) := by
  simp only [encL, eqLits, eqK, bl_toList, if_true, Bool.and_true, eqLb]

theorem same5 (x y : List Lab) (hx : x.length ≤ 9223372036854775807) (hy : y.length ≤ 9223372036854775807) : AFun Try.prog 83 [.d (.sl 2 (x.map encL)), .d (.sl 2 (y.map encL))] [] (bool (decide (x = y))) [] := by
  refine AFun.of_walk hP Try.func83 rfl rfl rfl (by simp) rfl ?_
  rcases hlen : (((x.length : Nat) : Int) != (y.length : Int)) with _ | _
  · have hle : x.length = y.length := by simp at hlen; omega
    simp only [Try.f83, hlen, am, simprocAttr, tys]
    refine ALoopW.intro 26 0 (ι := { i : Nat // i ≤ x.length ∧ x.take i = y.take i }) (fun i => [(0, .d (.sl 2 (x.map encL))), (1, .d (.sl 2 (y.map encL))), (5, int i.1)]) (fun _ => []) (fun i => x.length - i.1) ⟨0, by omega, by simp⟩ [] [] ?_ (fun ⟨i, hi, heq⟩ => ?_)
    · exact Ent.plain rfl rfl rfl (⟨.inr rfl, .inr rfl, .inr rfl, trivial⟩) rfl
    rcases Nat.lt_or_ge i x.length with hlt | hge
    · have hlt' : i < y.length := by omega
      have hb : x[i]? = some x[i] := List.getElem?_eq_getElem hlt
      have hb' : y[i]? = some y[i] := List.getElem?_eq_getElem hlt'
      have hlt2 : ((i : Int) < x.length) := by omega
      have hlt3 : ((i : Int) < y.length) := by omega
      have e1 : IntKind.i64.wrap ((i : Int) + 1) = ((i + 1 : Nat) : Int) := by rw [IntWalk.i64_in _ (by omega)]; simp
      have hc := eqLb_cells x[i] y[i]
      rcases hq : eqLb x[i] y[i] with _ | _
      · rw [hq] at hc
        have hne : ¬ x = y := by
          intro h
          have : x[i] = y[i] := by simp only [h]
          rw [(eqLb_iff _ _).2 this] at hq; cases hq
        have hd : decide (x = y) = false := decide_eq_false hne
        simp only [encL] at hc
        simp only [int, hb, hb', hlt2, hlt3, encL, hc, hd, bool, Int.natCast_nonneg, FinR, evRes, evRVs, evRV, am, simprocAttr, tys]
        exact ⟨by kernel_rfl, ⟨_, [], [], rfl, Ent.plain rfl rfl rfl trivial rfl, rfl, rfl⟩⟩
      · rw [hq] at hc
        have he := (eqLb_iff _ _).1 hq
        simp only [encL] at hc
        simp only [int, hb, hb', hlt2, hlt3, encL, hc, e1, Int.natCast_nonneg, am, simprocAttr, tys]
        exact ⟨by kernel_rfl, ⟨i + 1, by omega, by rw [List.take_succ_eq_append_getElem hlt, List.take_succ_eq_append_getElem hlt', heq, he]⟩, [], [], Ent.plain rfl rfl rfl (⟨.inr rfl, .inr rfl, .inr rfl, trivial⟩) rfl, by show x.length - (i + 1) < x.length - i; omega⟩
    · have hlt2 : ¬ ((i : Int) < x.length) := by omega
      have hxy : x = y := by rwa [List.take_of_length_le hge, List.take_of_length_le (by omega)] at heq
      have hd : decide (x = y) = true := decide_eq_true hxy
      simp only [int, hlt2, hd, bool, FinR, evRes, evRVs, evRV, am, simprocAttr, tys]
      exact ⟨_, [], [], rfl, Ent.plain rfl rfl rfl trivial rfl, rfl, rfl⟩
  · have hne : ¬ x = y := by intro h; rw [h] at hlen; simp at hlen
    have hd : decide (x = y) = false := decide_eq_false hne
    simp only [Try.f83, hlen, hd, bool, FinR, evRes, evRVs, evRV, am, simprocAttr, tys]
    exact ⟨_, [], [], rfl, Ent.plain rfl rfl rfl trivial rfl, rfl, rfl⟩
end Go.Proofs.Ytflpphgccjlkjaa

set_option linter.unusedSimpArgs false
set_option linter.unusedVariables false
namespace Go.Proofs.Ytflpphgccjlkjaa
open Go Go.AM

def eqA (x y : Ask) : Bool := x.1 == y.1 && (x.2.1 == y.2.1 && x.2.2.1 == y.2.2.1)
theorem eqA_iff (x y : Ask) : eqA x y = true ↔ x = y := by
  obtain ⟨a, b, c, ⟨⟩⟩ := x
  obtain ⟨d, e, f, ⟨⟩⟩ := y
  simp [eqA]
theorem eqA_cells (x y : Ask) : eqLits [.int .u8, .string, .string] (encA x) (encA y) = some (eqA x y) := by
  have e : ((x.1.toNat : Int) == (y.1.toNat : Int)) = (x.1 == y.1) := by
    rw [Bool.eq_iff_iff, beq_iff_eq, beq_iff_eq]
    constructor
    · intro h; apply UInt8.toNat_inj.1; omega
    · intro h; rw [h]
  simp only [encA, eqLits, eqK, bl_toList, e, if_true, Bool.and_true, eqA]

theorem same7 (x y : List Ask) (hx : x.length ≤ 9223372036854775807) (hy : y.length ≤ 9223372036854775807) : AFun Try.prog 84 [.d (.sl 3 (x.map encA)), .d (.sl 3 (y.map encA))] [] (bool (decide (x = y))) [] := by
  refine AFun.of_walk hP Try.func84 rfl rfl rfl (by simp) rfl ?_
  rcases hlen : (((x.length : Nat) : Int) != (y.length : Int)) with _ | _
  · have hle : x.length = y.length := by simp at hlen; omega
    simp only [Try.f84, hlen, am, simprocAttr, tys]
    refine ALoopW.intro 26 0 (ι := { i : Nat // i ≤ x.length ∧ x.take i = y.take i }) (fun i => [(0, .d (.sl 3 (x.map encA))), (1, .d (.sl 3 (y.map encA))), (5, int i.1)]) (fun _ => []) (fun i => x.length - i.1) ⟨0, by omega, by simp⟩ [] [] ?_ (fun ⟨i, hi, heq⟩ => ?_)
    · exact Ent.plain rfl rfl rfl (⟨.inr rfl, .inr rfl, .inr rfl, trivial⟩) rfl
    rcases Nat.lt_or_ge i x.length with hlt | hge
    · have hlt' : i < y.length := by omega
      have hb : x[i]? = some x[i] := List.getElem?_eq_getElem hlt
      have hb' : y[i]? = some y[i] := List.getElem?_eq_getElem hlt'
      have hlt2 : ((i : Int) < x.length) := by omega
      have hlt3 : ((i : Int) < y.length) := by omega
      have e1 : IntKind.i64.wrap ((i : Int) + 1) = ((i + 1 : Nat) : Int) := by rw [IntWalk.i64_in _ (by omega)]; simp
      have hc := eqA_cells x[i] y[i]
      rcases hq : eqA x[i] y[i] with _ | _
      · rw [hq] at hc
        have hne : ¬ x = y := by
          intro h
          have : x[i] = y[i] := by simp only [h]
          rw [(eqA_iff _ _).2 this] at hq; cases hq
        have hd : decide (x = y) = false := decide_eq_false hne
        simp only [encA] at hc
        simp only [int, hb, hb', hlt2, hlt3, encA, hc, hd, bool, Int.natCast_nonneg, FinR, evRes, evRVs, evRV, am, simprocAttr, tys]
        exact ⟨by kernel_rfl, ⟨_, [], [], rfl, Ent.plain rfl rfl rfl trivial rfl, rfl, rfl⟩⟩
      · rw [hq] at hc
        have he := (eqA_iff _ _).1 hq
        simp only [encA] at hc
        simp only [int, hb, hb', hlt2, hlt3, encA, hc, e1, Int.natCast_nonneg, am, simprocAttr, tys]
        exact ⟨by kernel_rfl, ⟨i + 1, by omega, by rw [List.take_succ_eq_append_getElem hlt, List.take_succ_eq_append_getElem hlt', heq, he]⟩, [], [], Ent.plain rfl rfl rfl (⟨.inr rfl, .inr rfl, .inr rfl, trivial⟩) rfl, by show x.length - (i + 1) < x.length - i; omega⟩
    · have hlt2 : ¬ ((i : Int) < x.length) := by omega
      have hxy : x = y := by rwa [List.take_of_length_le hge, List.take_of_length_le (by omega)] at heq
      have hd : decide (x = y) = true := decide_eq_true hxy
      simp only [int, hlt2, hd, bool, FinR, evRes, evRVs, evRV, am, simprocAttr, tys]
      exact ⟨_, [], [], rfl, Ent.plain rfl rfl rfl trivial rfl, rfl, rfl⟩
  · have hne : ¬ x = y := by intro h; rw [h] at hlen; simp at hlen
    have hd : decide (x = y) = false := decide_eq_false hne
    simp only [Try.f84, hlen, hd, bool, FinR, evRes, evRVs, evRV, am, simprocAttr, tys]
    exact ⟨_, [], [], rfl, Ent.plain rfl rfl rfl trivial rfl, rfl, rfl⟩
end Go.Proofs.Ytflpphgccjlkjaa

set_option linter.unusedSimpArgs false
set_option linter.unusedVariables false
namespace Go.Proofs.Ytflpphgccjlkjaa
open Go Go.AM

theorem equalL (x y : List Lab) (hx : x.length ≤ 9223372036854775807) (hy : y.length ≤ 9223372036854775807) : AFun Try.prog 71 [.d (.sl 2 (x.map encL)), .d (.sl 2 (y.map encL))] [] (bool (decide (x = y))) [] := by
  refine AFun.of_walk hP Try.func71 rfl rfl rfl (by simp) rfl ?_
  rcases hlen : (((x.length : Nat) : Int) != (y.length : Int)) with _ | _
  · have hle : x.length = y.length := by simp at hlen; omega
    simp only [Try.f71, hlen, am, simprocAttr, tys]
    refine ALoopW.intro 26 0 (ι := { i : Nat // i ≤ x.length ∧ x.take i = y.take i }) (fun i => [(0, .d (.sl 2 (x.map encL))), (1, .d (.sl 2 (y.map encL))), (12, int x.length), (13, int i.1)]) (fun _ => []) (fun i => x.length - i.1) ⟨0, by omega, by simp⟩ [] [] ?_ (fun ⟨i, hi, heq⟩ => ?_)
    · exact Ent.plain rfl rfl rfl (⟨.inr rfl, .inr rfl, .inr rfl, .inr rfl, trivial⟩) rfl
    rcases Nat.lt_or_ge i x.length with hlt | hge
    · have hlt' : i < y.length := by omega
      have hb : x[i]? = some x[i] := List.getElem?_eq_getElem hlt
      have hb' : y[i]? = some y[i] := List.getElem?_eq_getElem hlt'
      have hlt2 : ((i : Int) < x.length) := by omega
      have hlt3 : ((i : Int) < y.length) := by omega
      have e1 : IntKind.i64.wrap ((i : Int) + 1) = ((i + 1 : Nat) : Int) := by rw [IntWalk.i64_in _ (by omega)]; simp
      have hc := eqLb_cells x[i] y[i]
      rcases hq : eqLb x[i] y[i] with _ | _
      · rw [hq] at hc
        have hne : ¬ x = y := by
          intro h
          have : x[i] = y[i] := by simp only [h]
          rw [(eqLb_iff _ _).2 this] at hq; cases hq
        have hd : decide (x = y) = false := decide_eq_false hne
        simp only [encL] at hc
        simp only [int, hb, hb', hlt2, hlt3, encL, hc, hd, bool, Int.natCast_nonneg, FinR, evRes, evRVs, evRV, am, simprocAttr, tys]
        exact ⟨by kernel_rfl, ⟨_, [], [], rfl, Ent.plain rfl rfl rfl trivial rfl, rfl, rfl⟩⟩
      · rw [hq] at hc
        have he := (eqLb_iff _ _).1 hq
        simp only [encL] at hc
        simp only [int, hb, hb', hlt2, hlt3, encL, hc, e1, Int.natCast_nonneg, am, simprocAttr, tys]
        exact ⟨by kernel_rfl, ⟨i + 1, by omega, by rw [List.take_succ_eq_append_getElem hlt, List.take_succ_eq_append_getElem hlt', heq, he]⟩, [], [], Ent.plain rfl rfl rfl (⟨.inr rfl, .inr rfl, .inr rfl, .inr rfl, trivial⟩) rfl, by show x.length - (i + 1) < x.length - i; omega⟩
    · have hlt2 : ¬ ((i : Int) < x.length) := by omega
      have hxy : x = y := by rwa [List.take_of_length_le hge, List.take_of_length_le (by omega)] at heq
      have hd : decide (x = y) = true := decide_eq_true hxy
      simp only [int, hlt2, hd, bool, FinR, evRes, evRVs, evRV, am, simprocAttr, tys]
      exact ⟨_, [], [], rfl, Ent.plain rfl rfl rfl trivial rfl, rfl, rfl⟩
  · have hne : ¬ x = y := by intro h; rw [h] at hlen; simp at hlen
    have hd : decide (x = y) = false := decide_eq_false hne
    simp only [Try.f71, hlen, hd, bool, FinR, evRes, evRVs, evRV, am, simprocAttr, tys]
    exact ⟨_, [], [], rfl, Ent.plain rfl rfl rfl trivial rfl, rfl, rfl⟩

theorem equalA (x y : List Ask) (hx : x.length ≤ 9223372036854775807) (hy : y.length ≤ 9223372036854775807) : AFun Try.prog 72 [.d (.sl 3 (x.map encA)), .d (.sl 3 (y.map encA))] [] (bool (decide (x = y))) [] := by
  refine AFun.of_walk hP Try.func72 rfl rfl rfl (by simp) rfl ?_
  rcases hlen : (((x.length : Nat) : Int) != (y.length : Int)) with _ | _
  · have hle : x.length = y.length := by simp at hlen; omega
    simp only [Try.f72, hlen, am, simprocAttr, tys]
    refine ALoopW.intro 26 0 (ι := { i : Nat // i ≤ x.length ∧ x.take i = y.take i }) (fun i => [(0, .d (.sl 3 (x.map encA))), (1, .d (.sl 3 (y.map encA))), (12, int x.length), (13, int i.1)]) (fun _ => []) (fun i => x.length - i.1) ⟨0, by omega, by simp⟩ [] [] ?_ (fun ⟨i, hi, heq⟩ => ?_)
    · exact Ent.plain rfl rfl rfl (⟨.inr rfl, .inr rfl, .inr rfl, .inr rfl, trivial⟩) rfl
    rcases Nat.lt_or_ge i x.length with hlt | hge
    · have hlt' : i < y.length := by omega
      have hb : x[i]? = some x[i] := List.getElem?_eq_getElem hlt
      have hb' : y[i]? = some y[i] := List.getElem?_eq_getElem hlt'
      have hlt2 : ((i : Int) < x.length) := by omega
      have hlt3 : ((i : Int) < y.length) := by omega
      have e1 : IntKind.i64.wrap ((i : Int) + 1) = ((i + 1 : Nat) : Int) := by rw [IntWalk.i64_in _ (by omega)]; simp
      have hc := eqA_cells x[i] y[i]
      rcases hq : eqA x[i] y[i] with _ | _
      · rw [hq] at hc
        have hne : ¬ x = y := by
          intro h
          have : x[i] = y[i] := by simp only [h]
          rw [(eqA_iff _ _).2 this] at hq; cases hq
        have hd : decide (x = y) = false := decide_eq_false hne
        simp only [encA] at hc
        simp only [int, hb, hb', hlt2, hlt3, encA, hc, hd, bool, Int.natCast_nonneg, FinR, evRes, evRVs, evRV, am, simprocAttr, tys]
        exact ⟨by kernel_rfl, ⟨_, [], [], rfl, Ent.plain rfl rfl rfl trivial rfl, rfl, rfl⟩⟩
      · rw [hq] at hc
        have he := (eqA_iff _ _).1 hq
        simp only [encA] at hc
        simp only [int, hb, hb', hlt2, hlt3, encA, hc, e1, Int.natCast_nonneg, am, simprocAttr, tys]
        exact ⟨by kernel_rfl, ⟨i + 1, by omega, by rw [List.take_succ_eq_append_getElem hlt, List.take_succ_eq_append_getElem hlt', heq, he]⟩, [], [], Ent.plain rfl rfl rfl (⟨.inr rfl, .inr rfl, .inr rfl, .inr rfl, trivial⟩) rfl, by show x.length - (i + 1) < x.length - i; omega⟩
    · have hlt2 : ¬ ((i : Int) < x.length) := by omega
      have hxy : x = y := by rwa [List.take_of_length_le hge, List.take_of_length_le (by omega)] at heq
      have hd : decide (x = y) = true := decide_eq_true hxy
      simp only [int, hlt2, hd, bool, FinR, evRes, evRVs, evRV, am, simprocAttr, tys]
      exact ⟨_, [], [], rfl, Ent.plain rfl rfl rfl trivial rfl, rfl, rfl⟩
  · have hne : ¬ x = y := by intro h; rw [h] at hlen; simp at hlen
    have hd : decide (x = y) = false := decide_eq_false hne
    simp only [Try.f72, hlen, hd, bool, FinR, evRes, evRVs, evRV, am, simprocAttr, tys]
    exact ⟨_, [], [], rfl, Ent.plain rfl rfl rfl trivial rfl, rfl, rfl⟩

end Go.Proofs.Ytflpphgccjlkjaa

set_option linter.unusedSimpArgs false
set_option linter.unusedVariables false
namespace Go.Proofs.Ytflpphgccjlkjaa
open Go Go.AM

/-! ## something that is done -/
abbrev Pt := Int × Int × Unit
abbrev OpT := UInt8 × List Lab × Pt × List Ask × Unit
def encO (o : OpT) : List DV := [.lit (.int .u8 o.1.toNat), .sl 2 (o.2.1.map encL), .lit (.int .i64 o.2.2.1.1), .lit (.int .i64 o.2.2.1.2.1), .sl 3 (o.2.2.2.1.map encA)]
def ptB (o p : OpT) : Bool := o.2.2.1.1 == p.2.2.1.1 && o.2.2.1.2.1 == p.2.2.1.2.1
def sameO (o p : OpT) : Bool := o.1 == p.1 && (ptB o p && (decide (o.2.1 = p.2.1) && decide (o.2.2.2.1 = p.2.2.2.1)))
theorem pt_cells (o p : OpT) : eqLits [.int .i64, .int .i64] [.lit (.int .i64 o.2.2.1.1), .lit (.int .i64 o.2.2.1.2.1)] [.lit (.int .i64 p.2.2.1.1), .lit (.int .i64 p.2.2.1.2.1)] = some (ptB o p) := by
  simp only [eqLits, eqK, if_true, Bool.and_true, ptB]

theorem opSame (o p : OpT) (h1 : o.2.1.length ≤ 9223372036854775807) (h2 : p.2.1.length ≤ 9223372036854775807) (h3 : o.2.2.2.1.length ≤ 9223372036854775807) (h4 : p.2.2.2.1.length ≤ 9223372036854775807) :
    AFun Try.prog 47 [.d (.agg (encO o)), .d (.agg (encO p))] [] (bool (sameO o p)) [] := by
  refine AFun.of_walk hP Try.func47 rfl rfl rfl (by simp) rfl ?_
  have e0 : ((o.1.toNat : Int) == (p.1.toNat : Int)) = (o.1 == p.1) := by
    rw [Bool.eq_iff_iff, beq_iff_eq, beq_iff_eq]
    constructor
    · intro h; apply UInt8.toNat_inj.1; omega
    · intro h; rw [h]
  have hc := pt_cells o p
  unfold sameO
  rcases q0 : o.1 == p.1 with _ | _
  · simp only [Try.f47, encO, e0, q0, bool, Bool.false_and, FinR, evRes, evRVs, evRV, am, simprocAttr, tys]
    exact ⟨_, [], [], rfl, Ent.plain rfl rfl rfl trivial rfl, rfl, rfl⟩
  · rcases q1 : ptB o p with _ | _
    · rw [q1] at hc
      simp only [Try.f47, encO, e0, q0, hc, bool, Bool.false_and, Bool.true_and, FinR, evRes, evRVs, evRV, am, simprocAttr, tys]
      exact ⟨_, [], [], rfl, Ent.plain rfl rfl rfl trivial rfl, rfl, rfl⟩
    · rw [q1] at hc
      simp only [Try.f47, encO, e0, q0, hc, bool, Bool.true_and, am, simprocAttr, tys]
      refine ACall.of (equalL o.2.1 p.2.1 h1 h2) [] [] rfl (by simp) (by simp) (by simp) (by repeat' (first | exact trivial | exact .inl rfl | exact .inr rfl | exact .inr ⟨rfl, rfl, rfl, by simp; done⟩ | exact .inr ⟨rfl, by simp; done⟩ | exact .inr ⟨rfl, rfl, by simp; done⟩ | apply And.intro)) (by repeat' (first | exact trivial | rfl | exact (tkC_ren.1 _ _).symm | (simp; done) | apply And.intro)) (by first | exact .inl rfl | (refine .inr ⟨trivial, ?_⟩; first | (intro row h; rcases List.mem_singleton.1 h with rfl; exact nvB _) | (intro row h; cases h; done) | (simp; done)) | (refine .inr ⟨by simp [nvP, nvP.nvPs, nvD, nilS, errno], ?_⟩; first | (intro row h; rcases List.mem_singleton.1 h with rfl; exact nvB _) | (intro row h; cases h; done) | (simp [nvRow, nvD, nvP]; done))) ?_
      rcases q2 : decide (o.2.1 = p.2.1) with _ | _
      · simp only [bool, Bool.false_and, FinR, evRes, evRVs, evRV, am, simprocAttr, tys]
        exact ⟨_, [], [], rfl, Ent.plain rfl rfl rfl trivial rfl, rfl, rfl⟩
      · simp only [bool, Bool.true_and, am, simprocAttr, tys]
        refine ACall.of (equalA o.2.2.2.1 p.2.2.2.1 h3 h4) [] [] rfl (by simp) (by simp) (by simp) (by repeat' (first | exact trivial | exact .inl rfl | exact .inr rfl | exact .inr ⟨rfl, rfl, rfl, by simp; done⟩ | exact .inr ⟨rfl, by simp; done⟩ | exact .inr ⟨rfl, rfl, by simp; done⟩ | apply And.intro)) (by repeat' (first | exact trivial | rfl | exact (tkC_ren.1 _ _).symm | (simp; done) | apply And.intro)) (by first | exact .inl rfl | (refine .inr ⟨trivial, ?_⟩; first | (intro row h; rcases List.mem_singleton.1 h with rfl; exact nvB _) | (intro row h; cases h; done) | (simp; done)) | (refine .inr ⟨by simp [nvP, nvP.nvPs, nvD, nilS, errno], ?_⟩; first | (intro row h; rcases List.mem_singleton.1 h with rfl; exact nvB _) | (intro row h; cases h; done) | (simp [nvRow, nvD, nvP]; done))) ?_
        simp only [bool, FinR, evRes, evRVs, evRV, am, simprocAttr, tys]
        exact ⟨_, [], [], rfl, Ent.plain rfl rfl rfl trivial rfl, rfl, rfl⟩

theorem refOSame (o p : OpT) (h1 : o.2.1.length ≤ 9223372036854775807) (h2 : p.2.1.length ≤ 9223372036854775807) (h3 : o.2.2.2.1.length ≤ 9223372036854775807) (h4 : p.2.2.2.1.length ≤ 9223372036854775807) :
    AFun Try.prog 63 [.d (.agg (encO o)), .d (.agg (encO p))] [] (bool (sameO o p)) [] := by
  refine AFun.of_walk hP Try.func63 rfl rfl rfl (by simp) rfl ?_
  have e0 : ((o.1.toNat : Int) == (p.1.toNat : Int)) = (o.1 == p.1) := by
    rw [Bool.eq_iff_iff, beq_iff_eq, beq_iff_eq]
    constructor
    · intro h; apply UInt8.toNat_inj.1; omega
    · intro h; rw [h]
  have hc := pt_cells o p
  unfold sameO
  rcases q0 : o.1 == p.1 with _ | _
  · simp only [Try.f63, encO, e0, q0, bool, Bool.false_and, FinR, evRes, evRVs, evRV, am, simprocAttr, tys]
    exact ⟨_, [], [], rfl, Ent.plain rfl rfl rfl trivial rfl, rfl, rfl⟩
  · rcases q1 : ptB o p with _ | _
    · rw [q1] at hc
      simp only [Try.f63, encO, e0, q0, hc, bool, Bool.false_and, Bool.true_and, FinR, evRes, evRVs, evRV, am, simprocAttr, tys]
      exact ⟨_, [], [], rfl, Ent.plain rfl rfl rfl trivial rfl, rfl, rfl⟩
    · rw [q1] at hc
      simp only [Try.f63, encO, e0, q0, hc, bool, Bool.true_and, am, simprocAttr, tys]
      refine ACall.of (same5 o.2.1 p.2.1 h1 h2) [] [] rfl (by simp) (by simp) (by simp) (by repeat' (first | exact trivial | exact .inl rfl | exact .inr rfl | exact .inr ⟨rfl, rfl, rfl, by simp; done⟩ | exact .inr ⟨rfl, by simp; done⟩ | exact .inr ⟨rfl, rfl, by simp; done⟩ | apply And.intro)) (by repeat' (first | exact trivial | rfl | exact (tkC_ren.1 _ _).symm | (simp; done) | apply And.intro)) (by first | exact .inl rfl | (refine .inr ⟨trivial, ?_⟩; first | (intro row h; rcases List.mem_singleton.1 h with rfl; exact nvB _) | (intro row h; cases h; done) | (simp; done)) | (refine .inr ⟨by simp [nvP, nvP.nvPs, nvD, nilS, errno], ?_⟩; first | (intro row h; rcases List.mem_singleton.1 h with rfl; exact nvB _) | (intro row h; cases h; done) | (simp [nvRow, nvD, nvP]; done))) ?_
      rcases q2 : decide (o.2.1 = p.2.1) with _ | _
      · simp only [bool, Bool.false_and, FinR, evRes, evRVs, evRV, am, simprocAttr, tys]
        exact ⟨_, [], [], rfl, Ent.plain rfl rfl rfl trivial rfl, rfl, rfl⟩
      · simp only [bool, Bool.true_and, am, simprocAttr, tys]
        refine ACall.of (same7 o.2.2.2.1 p.2.2.2.1 h3 h4) [] [] rfl (by simp) (by simp) (by simp) (by repeat' (first | exact trivial | exact .inl rfl | exact .inr rfl | exact .inr ⟨rfl, rfl, rfl, by simp; done⟩ | exact .inr ⟨rfl, by simp; done⟩ | exact .inr ⟨rfl, rfl, by simp; done⟩ | apply And.intro)) (by repeat' (first | exact trivial | rfl | exact (tkC_ren.1 _ _).symm | (simp; done) | apply And.intro)) (by first | exact .inl rfl | (refine .inr ⟨trivial, ?_⟩; first | (intro row h; rcases List.mem_singleton.1 h with rfl; exact nvB _) | (intro row h; cases h; done) | (simp; done)) | (refine .inr ⟨by simp [nvP, nvP.nvPs, nvD, nilS, errno], ?_⟩; first | (intro row h; rcases List.mem_singleton.1 h with rfl; exact nvB _) | (intro row h; cases h; done) | (simp [nvRow, nvD, nvP]; done))) ?_
        simp only [bool, FinR, evRes, evRVs, evRV, am, simprocAttr, tys]
        exact ⟨_, [], [], rfl, Ent.plain rfl rfl rfl trivial rfl, rfl, rfl⟩
end Go.Proofs.Ytflpphgccjlkjaa

set_option linter.unusedSimpArgs false
set_option linter.unusedVariables false
namespace Go.Proofs.Ytflpphgccjlkjaa
open Go Go.AM
end Go.Proofs.Ytflpphgccjlkjaa

set_option linter.unusedSimpArgs false
set_option linter.unusedVariables false
namespace Go.Proofs.Ytflpphgccjlkjaa
open Go Go.AM

def noL (o : OpT) : Bool := decide (o.2.1.length = 0)
def noA (o : OpT) : Bool := decide (o.2.2.2.1.length = 0)
def z1 (o : OpT) : Bool := o.2.2.1.1 == 0
def z2 (o : OpT) : Bool := o.2.2.1.2.1 == 0
def rightO (o : OpT) : Bool :=
  if o.1 = 1 then rightL o.2.1 && noA o
  else if o.1 = 4 then rightA o.2.2.2.1 && (noL o && (z1 o && z2 o))
  else if o.1 = 3 then noL o && (noA o && z2 o)
  else if o.1 = 2 then noL o && (noA o && (z1 o && z2 o))
  else false
structure Fit (o : OpT) : Prop where
  l : o.2.1.length ≤ 9223372036854775807
  a : o.2.2.2.1.length ≤ 9223372036854775807
  lx : ∀ x ∈ o.2.1, x.1.length ≤ 9223372036854775807 ∧ x.2.1.length ≤ 9223372036854775807
  ax : ∀ x ∈ o.2.2.2.1, x.2.1.length ≤ 9223372036854775807

theorem pt_zero (o : OpT) : eqLits [.int .i64, .int .i64] [.lit (.int .i64 o.2.2.1.1), .lit (.int .i64 o.2.2.1.2.1)] [.lit (.int .i64 0), .lit (.int .i64 0)] = some (z1 o && z2 o) := by
  simp only [eqLits, eqK, if_true, Bool.and_true, z1, z2]
theorem pt_zero2 (o : OpT) : eqLits [.int .i64, .int .i64] [.lit (.int .i64 0), .lit (.int .i64 o.2.2.1.2.1)] [.lit (.int .i64 0), .lit (.int .i64 0)] = some (z2 o) := by
  simp only [eqLits, eqK, if_true, Bool.and_true, z2, beq_self_eq_true, Bool.true_and]

set_option maxRecDepth 8000 in
set_option maxHeartbeats 1000000 in
theorem opRight (o : OpT) (h : Fit o) : AFun Try.prog 49 [.d (.agg (encO o))] [] (bool (rightO o)) [] := by
  refine AFun.of_walk hP Try.func49 rfl rfl rfl (by simp) rfl ?_
  have c1 : ((o.1.toNat : Int) == 1) = decide (o.1 = 1) := u8eq o.1 1 (by omega)
  have c2 : ((o.1.toNat : Int) == 2) = decide (o.1 = 2) := u8eq o.1 2 (by omega)
  have c3 : ((o.1.toNat : Int) == 3) = decide (o.1 = 3) := u8eq o.1 3 (by omega)
  have c4 : ((o.1.toNat : Int) == 4) = decide (o.1 = 4) := u8eq o.1 4 (by omega)
  have cL := labelRight o.2.1 h.l h.lx
  have cA := matchRight o.2.2.2.1 h.a h.ax
  have hz := pt_zero o
  have hz2 := pt_zero2 o
  have hl : decide ((0 : Int) < (o.2.1.length : Int)) = !noL o := by
    unfold noL
    by_cases q : o.2.1.length = 0
    · rw [decide_eq_true q, decide_eq_false (by omega)]; rfl
    · rw [decide_eq_false q, decide_eq_true (by omega)]; rfl
  have ha : decide ((0 : Int) < (o.2.2.2.1.length : Int)) = !noA o := by
    unfold noA
    by_cases q : o.2.2.2.1.length = 0
    · rw [decide_eq_true q, decide_eq_false (by omega)]; rfl
    · rw [decide_eq_false q, decide_eq_true (by omega)]; rfl
  by_cases h1 : o.1 = 1
  · have hr : rightO o = (rightL o.2.1 && noA o) := by unfold rightO; rw [if_pos h1]
    have d1 : decide (o.1 = 1) = true := decide_eq_true h1
    rw [hr]
    simp only [Try.f49, encO, hl, ha, c1, d1, am, simprocAttr, tys]
    refine ⟨by kernel_rfl, ?_⟩
    refine ACall.of (cL) [] [] rfl (by simp) (by simp) (by simp) (by repeat' (first | exact trivial | exact .inl rfl | exact .inr rfl | exact .inr ⟨rfl, rfl, rfl, by simp; done⟩ | exact .inr ⟨rfl, by simp; done⟩ | exact .inr ⟨rfl, rfl, by simp; done⟩ | apply And.intro)) (by repeat' (first | exact trivial | rfl | exact (tkC_ren.1 _ _).symm | (simp; done) | apply And.intro)) (by first | exact .inl rfl | (refine .inr ⟨trivial, ?_⟩; first | (intro row h; rcases List.mem_singleton.1 h with rfl; exact nvB _) | (intro row h; cases h; done) | (simp; done)) | (refine .inr ⟨by simp [nvP, nvP.nvPs, nvD, nilS, errno], ?_⟩; first | (intro row h; rcases List.mem_singleton.1 h with rfl; exact nvB _) | (intro row h; cases h; done) | (simp [nvRow, nvD, nvP]; done))) ?_
    rcases rightL o.2.1 with _ | _
    · simp only [bool, Bool.false_and, FinR, evRes, evRVs, evRV, am, simprocAttr, tys]
      exact ⟨_, [], [], rfl, Ent.plain rfl rfl rfl trivial rfl, rfl, rfl⟩
    · simp only [bool, Bool.true_and, Bool.not_not, FinR, evRes, evRVs, evRV, am, simprocAttr, tys]
      exact ⟨_, [], [], rfl, Ent.plain rfl rfl rfl trivial rfl, rfl, rfl⟩
  · have d1 : decide (o.1 = 1) = false := decide_eq_false h1
    by_cases h4 : o.1 = 4
    · have hr : rightO o = (rightA o.2.2.2.1 && (noL o && (z1 o && z2 o))) := by unfold rightO; rw [if_neg h1, if_pos h4]
      have d4 : decide (o.1 = 4) = true := decide_eq_true h4
      rw [hr]
      simp only [Try.f49, encO, hl, ha, c1, d1, c4, d4, am, simprocAttr, tys]
      refine ⟨by kernel_rfl, ?_⟩
      refine ACall.of (cA) [] [] rfl (by simp) (by simp) (by simp) (by repeat' (first | exact trivial | exact .inl rfl | exact .inr rfl | exact .inr ⟨rfl, rfl, rfl, by simp; done⟩ | exact .inr ⟨rfl, by simp; done⟩ | exact .inr ⟨rfl, rfl, by simp; done⟩ | apply And.intro)) (by repeat' (first | exact trivial | rfl | exact (tkC_ren.1 _ _).symm | (simp; done) | apply And.intro)) (by first | exact .inl rfl | (refine .inr ⟨trivial, ?_⟩; first | (intro row h; rcases List.mem_singleton.1 h with rfl; exact nvB _) | (intro row h; cases h; done) | (simp; done)) | (refine .inr ⟨by simp [nvP, nvP.nvPs, nvD, nilS, errno], ?_⟩; first | (intro row h; rcases List.mem_singleton.1 h with rfl; exact nvB _) | (intro row h; cases h; done) | (simp [nvRow, nvD, nvP]; done))) ?_
      rcases rightA o.2.2.2.1 with _ | _
      · simp only [bool, Bool.false_and, FinR, evRes, evRVs, evRV, am, simprocAttr, tys]
        exact ⟨_, [], [], rfl, Ent.plain rfl rfl rfl trivial rfl, rfl, rfl⟩
      · rcases hnl : noL o with _ | _
        · simp only [bool, Bool.true_and, Bool.false_and, Bool.not_not, hnl, hz, FinR, evRes, evRVs, evRV, am, simprocAttr, tys]
          exact ⟨_, [], [], rfl, Ent.plain rfl rfl rfl trivial rfl, rfl, rfl⟩
        · simp only [bool, Bool.true_and, Bool.not_not, hnl, hz, FinR, evRes, evRVs, evRV, am, simprocAttr, tys]
          exact ⟨_, [], [], rfl, Ent.plain rfl rfl rfl trivial rfl, rfl, rfl⟩
    · have d4 : decide (o.1 = 4) = false := decide_eq_false h4
      by_cases h3 : o.1 = 3
      · have hr : rightO o = (noL o && (noA o && z2 o)) := by unfold rightO; rw [if_neg h1, if_neg h4, if_pos h3]
        have d3 : decide (o.1 = 3) = true := decide_eq_true h3
        rw [hr]
        rcases hnl : noL o with _ | _
        · simp only [Try.f49, encO, hl, ha, hnl, c1, d1, c4, d4, c3, d3, bool, Bool.true_and, Bool.false_and, Bool.not_not, Bool.not_false, Bool.not_true, FinR, evRes, evRVs, evRV, am, simprocAttr, tys]
          exact ⟨by kernel_rfl, ⟨_, [], [], rfl, Ent.plain rfl rfl rfl trivial rfl, rfl, rfl⟩⟩
        · rcases hna : noA o with _ | _
          · simp only [Try.f49, encO, hl, ha, hnl, hna, c1, d1, c4, d4, c3, d3, bool, Bool.true_and, Bool.false_and, Bool.not_not, Bool.not_false, Bool.not_true, FinR, evRes, evRVs, evRV, am, simprocAttr, tys]
            exact ⟨by kernel_rfl, ⟨_, [], [], rfl, Ent.plain rfl rfl rfl trivial rfl, rfl, rfl⟩⟩
          · simp only [Try.f49, encO, hl, ha, hnl, hna, hz2, c1, d1, c4, d4, c3, d3, bool, Bool.true_and, Bool.false_and, Bool.not_not, Bool.not_false, Bool.not_true, FinR, evRes, evRVs, evRV, am, simprocAttr, tys]
            exact ⟨by kernel_rfl, ⟨_, [], [], rfl, Ent.plain rfl rfl rfl trivial rfl, rfl, rfl⟩⟩
      · have d3 : decide (o.1 = 3) = false := decide_eq_false h3
        by_cases h2 : o.1 = 2
        · have hr : rightO o = (noL o && (noA o && (z1 o && z2 o))) := by unfold rightO; rw [if_neg h1, if_neg h4, if_neg h3, if_pos h2]
          have d2 : decide (o.1 = 2) = true := decide_eq_true h2
          rw [hr]
          rcases hnl : noL o with _ | _
          · simp only [Try.f49, encO, hl, ha, hnl, c1, d1, c4, d4, c3, d3, c2, d2, bool, Bool.true_and, Bool.false_and, Bool.not_not, Bool.not_false, Bool.not_true, FinR, evRes, evRVs, evRV, am, simprocAttr, tys]
            exact ⟨by kernel_rfl, ⟨_, [], [], rfl, Ent.plain rfl rfl rfl trivial rfl, rfl, rfl⟩⟩
          · rcases hna : noA o with _ | _
            · simp only [Try.f49, encO, hl, ha, hnl, hna, c1, d1, c4, d4, c3, d3, c2, d2, bool, Bool.true_and, Bool.false_and, Bool.not_not, Bool.not_false, Bool.not_true, FinR, evRes, evRVs, evRV, am, simprocAttr, tys]
              exact ⟨by kernel_rfl, ⟨_, [], [], rfl, Ent.plain rfl rfl rfl trivial rfl, rfl, rfl⟩⟩
            · simp only [Try.f49, encO, hl, ha, hnl, hna, hz, c1, d1, c4, d4, c3, d3, c2, d2, bool, Bool.true_and, Bool.false_and, Bool.not_not, Bool.not_false, Bool.not_true, FinR, evRes, evRVs, evRV, am, simprocAttr, tys]
              exact ⟨by kernel_rfl, ⟨_, [], [], rfl, Ent.plain rfl rfl rfl trivial rfl, rfl, rfl⟩⟩
        · have d2 : decide (o.1 = 2) = false := decide_eq_false h2
          have hr : rightO o = false := by unfold rightO; rw [if_neg h1, if_neg h4, if_neg h3, if_neg h2]
          rw [hr]
          simp only [Try.f49, encO, hl, ha, c1, d1, c4, d4, c3, d3, c2, d2, bool, FinR, evRes, evRVs, evRV, am, simprocAttr, tys]
          exact ⟨by kernel_rfl, ⟨_, [], [], rfl, Ent.plain rfl rfl rfl trivial rfl, rfl, rfl⟩⟩

set_option maxRecDepth 8000 in
set_option maxHeartbeats 1000000 in
theorem refORight (o : OpT) (h : Fit o) : AFun Try.prog 36 [.d (.agg (encO o))] [] (bool (rightO o)) [] := by
  refine AFun.of_walk hP Try.func36 rfl rfl rfl (by simp) rfl ?_
  have c1 : ((o.1.toNat : Int) == 1) = decide (o.1 = 1) := u8eq o.1 1 (by omega)
  have c2 : ((o.1.toNat : Int) == 2) = decide (o.1 = 2) := u8eq o.1 2 (by omega)
  have c3 : ((o.1.toNat : Int) == 3) = decide (o.1 = 3) := u8eq o.1 3 (by omega)
  have c4 : ((o.1.toNat : Int) == 4) = decide (o.1 = 4) := u8eq o.1 4 (by omega)
  have cL := refRight5 o.2.1 h.l h.lx
  have cA := refRight o.2.2.2.1 h.a h.ax
  have hz := pt_zero o
  have hl : ((o.2.1.length : Int) == 0) = noL o := by
    unfold noL
    by_cases q : o.2.1.length = 0
    · rw [decide_eq_true q, beq_iff_eq]; omega
    · rw [decide_eq_false q, beq_eq_false_iff_ne]; omega
  have ha : ((o.2.2.2.1.length : Int) == 0) = noA o := by
    unfold noA
    by_cases q : o.2.2.2.1.length = 0
    · rw [decide_eq_true q, beq_iff_eq]; omega
    · rw [decide_eq_false q, beq_eq_false_iff_ne]; omega
  have hz2 : (o.2.2.1.2.1 == 0) = z2 o := rfl
  by_cases h1 : o.1 = 1
  · have hr : rightO o = (rightL o.2.1 && noA o) := by unfold rightO; rw [if_pos h1]
    have d1 : decide (o.1 = 1) = true := decide_eq_true h1
    rw [hr]
    simp only [Try.f36, encO, hl, ha, hz, c1, d1, am, simprocAttr, tys]
    refine ACall.of (cL) [] [] rfl (by simp) (by simp) (by simp) (by repeat' (first | exact trivial | exact .inl rfl | exact .inr rfl | exact .inr ⟨rfl, rfl, rfl, by simp; done⟩ | exact .inr ⟨rfl, by simp; done⟩ | exact .inr ⟨rfl, rfl, by simp; done⟩ | apply And.intro)) (by repeat' (first | exact trivial | rfl | exact (tkC_ren.1 _ _).symm | (simp; done) | apply And.intro)) (by first | exact .inl rfl | (refine .inr ⟨trivial, ?_⟩; first | (intro row h; rcases List.mem_singleton.1 h with rfl; exact nvB _) | (intro row h; cases h; done) | (simp; done)) | (refine .inr ⟨by simp [nvP, nvP.nvPs, nvD, nilS, errno], ?_⟩; first | (intro row h; rcases List.mem_singleton.1 h with rfl; exact nvB _) | (intro row h; cases h; done) | (simp [nvRow, nvD, nvP]; done))) ?_
    rcases rightL o.2.1 with _ | _
    · simp only [bool, Bool.false_and, FinR, evRes, evRVs, evRV, am, simprocAttr, tys]
      exact ⟨_, [], [], rfl, Ent.plain rfl rfl rfl trivial rfl, rfl, rfl⟩
    · simp only [bool, Bool.true_and, ha, FinR, evRes, evRVs, evRV, am, simprocAttr, tys]
      exact ⟨_, [], [], rfl, Ent.plain rfl rfl rfl trivial rfl, rfl, rfl⟩
  · have d1 : decide (o.1 = 1) = false := decide_eq_false h1
    by_cases h2 : o.1 = 2
    · have h4 : ¬ o.1 = 4 := by rw [h2]; decide
      have h3 : ¬ o.1 = 3 := by rw [h2]; decide
      have hr : rightO o = (noL o && (noA o && (z1 o && z2 o))) := by unfold rightO; rw [if_neg h1, if_neg h4, if_neg h3, if_pos h2]
      have d2 : decide (o.1 = 2) = true := decide_eq_true h2
      rw [hr]
      rcases hnl : noL o with _ | _
      · simp only [Try.f36, encO, hl, ha, hz, hnl, c1, d1, c2, d2, bool, Bool.true_and, Bool.false_and, FinR, evRes, evRVs, evRV, am, simprocAttr, tys]
        exact ⟨_, [], [], rfl, Ent.plain rfl rfl rfl trivial rfl, rfl, rfl⟩
      · rcases hna : noA o with _ | _
        · simp only [Try.f36, encO, hl, ha, hz, hnl, hna, c1, d1, c2, d2, bool, Bool.true_and, Bool.false_and, FinR, evRes, evRVs, evRV, am, simprocAttr, tys]
          exact ⟨_, [], [], rfl, Ent.plain rfl rfl rfl trivial rfl, rfl, rfl⟩
        · simp only [Try.f36, encO, hl, ha, hz, hnl, hna, c1, d1, c2, d2, bool, Bool.true_and, Bool.false_and, FinR, evRes, evRVs, evRV, am, simprocAttr, tys]
          exact ⟨_, [], [], rfl, Ent.plain rfl rfl rfl trivial rfl, rfl, rfl⟩
    · have d2 : decide (o.1 = 2) = false := decide_eq_false h2
      by_cases h3 : o.1 = 3
      · have h4 : ¬ o.1 = 4 := by rw [h3]; decide
        have hr : rightO o = (noL o && (noA o && z2 o)) := by unfold rightO; rw [if_neg h1, if_neg h4, if_pos h3]
        have d3 : decide (o.1 = 3) = true := decide_eq_true h3
        rw [hr]
        rcases hnl : noL o with _ | _
        · simp only [Try.f36, encO, hl, ha, hz, hnl, c1, d1, c2, d2, c3, d3, bool, Bool.true_and, Bool.false_and, FinR, evRes, evRVs, evRV, am, simprocAttr, tys]
          exact ⟨_, [], [], rfl, Ent.plain rfl rfl rfl trivial rfl, rfl, rfl⟩
        · rcases hna : noA o with _ | _
          · simp only [Try.f36, encO, hl, ha, hz, hnl, hna, c1, d1, c2, d2, c3, d3, bool, Bool.true_and, Bool.false_and, FinR, evRes, evRVs, evRV, am, simprocAttr, tys]
            exact ⟨_, [], [], rfl, Ent.plain rfl rfl rfl trivial rfl, rfl, rfl⟩
          · simp only [Try.f36, encO, hl, ha, hz, hz2, hnl, hna, c1, d1, c2, d2, c3, d3, bool, Bool.true_and, Bool.false_and, FinR, evRes, evRVs, evRV, am, simprocAttr, tys]
            exact ⟨_, [], [], rfl, Ent.plain rfl rfl rfl trivial rfl, rfl, rfl⟩
      · have d3 : decide (o.1 = 3) = false := decide_eq_false h3
        by_cases h4 : o.1 = 4
        · have hr : rightO o = (rightA o.2.2.2.1 && (noL o && (z1 o && z2 o))) := by unfold rightO; rw [if_neg h1, if_pos h4]
          have d4 : decide (o.1 = 4) = true := decide_eq_true h4
          rw [hr]
          simp only [Try.f36, encO, hl, ha, hz, c1, d1, c2, d2, c3, d3, c4, d4, am, simprocAttr, tys]
          refine ACall.of (cA) [] [] rfl (by simp) (by simp) (by simp) (by repeat' (first | exact trivial | exact .inl rfl | exact .inr rfl | exact .inr ⟨rfl, rfl, rfl, by simp; done⟩ | exact .inr ⟨rfl, by simp; done⟩ | exact .inr ⟨rfl, rfl, by simp; done⟩ | apply And.intro)) (by repeat' (first | exact trivial | rfl | exact (tkC_ren.1 _ _).symm | (simp; done) | apply And.intro)) (by first | exact .inl rfl | (refine .inr ⟨trivial, ?_⟩; first | (intro row h; rcases List.mem_singleton.1 h with rfl; exact nvB _) | (intro row h; cases h; done) | (simp; done)) | (refine .inr ⟨by simp [nvP, nvP.nvPs, nvD, nilS, errno], ?_⟩; first | (intro row h; rcases List.mem_singleton.1 h with rfl; exact nvB _) | (intro row h; cases h; done) | (simp [nvRow, nvD, nvP]; done))) ?_
          rcases rightA o.2.2.2.1 with _ | _
          · simp only [bool, Bool.false_and, FinR, evRes, evRVs, evRV, am, simprocAttr, tys]
            exact ⟨_, [], [], rfl, Ent.plain rfl rfl rfl trivial rfl, rfl, rfl⟩
          · rcases hnl : noL o with _ | _
            · simp only [bool, hl, hnl, Bool.true_and, Bool.false_and, FinR, evRes, evRVs, evRV, am, simprocAttr, tys]
              exact ⟨_, [], [], rfl, Ent.plain rfl rfl rfl trivial rfl, rfl, rfl⟩
            · simp only [bool, hl, hnl, Bool.true_and, FinR, evRes, evRVs, evRV, am, simprocAttr, tys]
              exact ⟨_, [], [], rfl, Ent.plain rfl rfl rfl trivial rfl, rfl, rfl⟩
        · have d4 : decide (o.1 = 4) = false := decide_eq_false h4
          have hr : rightO o = false := by unfold rightO; rw [if_neg h1, if_neg h4, if_neg h3, if_neg h2]
          rw [hr]
          simp only [Try.f36, encO, hl, ha, hz, c1, d1, c2, d2, c3, d3, c4, d4, bool, FinR, evRes, evRVs, evRV, am, simprocAttr, tys]
          exact ⟨_, [], [], rfl, Ent.plain rfl rfl rfl trivial rfl, rfl, rfl⟩
end Go.Proofs.Ytflpphgccjlkjaa
