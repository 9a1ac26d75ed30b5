/- Proved here: what the functions of the program compute. No condition. -/
import Derived.Test.YtflpphgccjlkjaaT2
set_option linter.all false
set_option linter.unusedSimpArgs false
set_option linter.unusedVariables false
set_option linter.unusedSimpArgs false
set_option linter.unusedVariables false
namespace Go.Proofs.Ytflpphgccjlkjaa
open Go Go.AM

/-! ## what is asked, as bytes -/
def encAsk (a : Ask) : List UInt8 := a.1 :: (lebT a.2.1 ++ lebT a.2.2.1)
def putA (l : List Ask) : List UInt8 := putL encAsk l
theorem mayOk_len {a : Ask} (h : mayOk a = true) : a.2.1.length ≤ 16 ∧ a.2.2.1.length ≤ 64 := by
  unfold mayOk nameOk at h
  simp only [Bool.and_eq_true, decide_eq_true_eq] at h
  exact ⟨h.1.1.1.1.2, h.1.2⟩
theorem rightA_len {l : List Ask} (h : rightA l = true) : l.length ≤ 8 ∧ ∀ a ∈ l, mayOk a = true := by
  unfold rightA at h
  simp only [Bool.and_eq_true, decide_eq_true_eq, List.all_eq_true] at h
  exact ⟨h.2, h.1⟩
theorem encAsk_len {a : Ask} (h : mayOk a = true) : (encAsk a).length ≤ 110 := by
  obtain ⟨h1, h2⟩ := mayOk_len h
  have := lebT_len a.2.1 (by omega)
  have := lebT_len a.2.2.1 (by omega)
  unfold encAsk; simp; omega
theorem flA_len {l : List Ask} (h : ∀ a ∈ l, mayOk a = true) (h8 : l.length ≤ 8) : (fl encAsk l).length ≤ 880 := by
  have := fl_len encAsk 110 l fun x hx => encAsk_len (h x hx)
  have := Nat.mul_le_mul_right 110 h8
  omega
theorem putA_len {l : List Ask} (h : rightA l = true) : (putA l).length ≤ 890 := by
  obtain ⟨h1, h2⟩ := rightA_len h
  have := flA_len h2 h1
  have := leb_ten l.length (by omega)
  unfold putA putL; simp; omega

theorem oneB (v : Nat) (h : v < 256) : ([[DV.lit (.int .u8 ((UInt8.ofNat v).toNat : Int))]] : List (List DV)) = [UInt8.ofNat v].map encB := rfl

theorem matchPutN (l : List Ask) (hl : l.length ≤ 9223372036854775807) (hn : ∀ a ∈ l, a.2.1.length ≤ 9223372036854775807) (hr : rightA l = false) : AFun Try.prog 52 [.d (.sl 3 (l.map encA))] [] (.tup [nilS, errno 1]) [] := by
  refine AFun.of_walk hP Try.func52 rfl rfl rfl (by simp) rfl ?_
  simp only [Try.f52, am, simprocAttr, tys]
  refine ACall.of (matchRight l hl hn) [] [] rfl (by simp) (by simp) (by simp) (by repeat' (first | exact trivial | exact .inl rfl | exact .inr rfl | exact .inr ⟨rfl, rfl, rfl, by simp; done⟩ | exact .inr ⟨rfl, by simp; done⟩ | exact .inr ⟨rfl, rfl, by simp; done⟩ | apply And.intro)) (by repeat' (first | exact trivial | rfl | exact (tkC_ren.1 _ _).symm | (simp; done) | apply And.intro)) (by first | exact .inl rfl | (refine .inr ⟨trivial, ?_⟩; first | (intro row h; rcases List.mem_singleton.1 h with rfl; exact nvB _) | (intro row h; cases h; done) | (simp; done)) | (refine .inr ⟨by simp [nvP, nvP.nvPs, nvD, nilS, errno], ?_⟩; first | (intro row h; rcases List.mem_singleton.1 h with rfl; exact nvB _) | (intro row h; cases h; done) | (simp [nvRow, nvD, nvP]; done))) ?_
  rw [hr]
  simp only [bool, nilS, errno, FinR, evRes, evRVs, evRV, am, simprocAttr, tys]
  exact ⟨_, [], [], rfl, Ent.plain rfl rfl rfl trivial rfl, rfl, rfl⟩

set_option maxRecDepth 8000 in
theorem matchPut (l : List Ask) (hl : l.length ≤ 9223372036854775807) (hn : ∀ a ∈ l, a.2.1.length ≤ 9223372036854775807) (hr : rightA l = true) : AFun Try.prog 52 [.d (.sl 3 (l.map encA))] [] (.tup [.own 0, errno 0]) [.own 1 ((putA l).map encB)] := by
  refine AFun.of_walk hP Try.func52 rfl rfl rfl (by simp) rfl ?_
  simp only [Try.f52, am, simprocAttr, tys]
  refine ACall.of (matchRight l hl hn) [] [] rfl (by simp) (by simp) (by simp) (by repeat' (first | exact trivial | exact .inl rfl | exact .inr rfl | exact .inr ⟨rfl, rfl, rfl, by simp; done⟩ | exact .inr ⟨rfl, by simp; done⟩ | exact .inr ⟨rfl, rfl, by simp; done⟩ | apply And.intro)) (by repeat' (first | exact trivial | rfl | exact (tkC_ren.1 _ _).symm | (simp; done) | apply And.intro)) (by first | exact .inl rfl | (refine .inr ⟨trivial, ?_⟩; first | (intro row h; rcases List.mem_singleton.1 h with rfl; exact nvB _) | (intro row h; cases h; done) | (simp; done)) | (refine .inr ⟨by simp [nvP, nvP.nvPs, nvD, nilS, errno], ?_⟩; first | (intro row h; rcases List.mem_singleton.1 h with rfl; exact nvB _) | (intro row h; cases h; done) | (simp [nvRow, nvD, nvP]; done))) ?_
  rw [hr]
  · obtain ⟨h8, hall⟩ := rightA_len hr
    have e1 : IntKind.u64.wrap (l.length : Int) = l.length := IntWalk.u64_in _ (by omega)
    simp only [bool, e1, am, simprocAttr, tys]
    refine ACall.of (octsPut [] l.length (by simp) (by omega)) [] [] rfl (by simp) (by simp) (by simp) (by repeat' (first | exact trivial | exact .inl rfl | exact .inr rfl | exact .inr ⟨rfl, rfl, rfl, by simp; done⟩ | exact .inr ⟨rfl, by simp; done⟩ | exact .inr ⟨rfl, rfl, by simp; done⟩ | apply And.intro)) (by repeat' (first | exact trivial | rfl | exact (tkC_ren.1 _ _).symm | (simp; done) | apply And.intro)) (by first | exact .inl rfl | (refine .inr ⟨trivial, ?_⟩; first | (intro row h; rcases List.mem_singleton.1 h with rfl; exact nvB _) | (intro row h; cases h; done) | (simp; done)) | (refine .inr ⟨by simp [nvP, nvP.nvPs, nvD, nilS, errno], ?_⟩; first | (intro row h; rcases List.mem_singleton.1 h with rfl; exact nvB _) | (intro row h; cases h; done) | (simp [nvRow, nvD, nvP]; done))) ?_
    simp only [am, simprocAttr, tys]
    refine ALoopW.intro 33 0 (ι := { i : Nat // i ≤ l.length }) (fun i => [(4, .own 0), (14, .d (.sl 3 (l.map encA))), (15, int l.length), (16, int i.1)]) (fun i => [.own 1 ((leb l.length ++ fl encAsk (l.take i.1)).map encB)]) (fun i => l.length - i.1) ⟨0, by omega⟩ [] [0] ?_ (fun ⟨i, hi⟩ => ?_)
    · refine ⟨rfl, rfl, by simp, (fun i hi => absurd hi (Nat.not_lt_zero _)), ⟨.inr rfl, .inr rfl, .inr rfl, .inr rfl, trivial⟩, ⟨.inr ⟨by decide, ?_⟩, trivial⟩, rfl, by decide, rfl, (by first | rfl | simp [scRow, tkC_scs])⟩
      simp only [List.take_zero, fl_nil, List.append_nil]; rfl
    rcases Nat.lt_or_ge i l.length with hlt | hge
    · have hb : l[i]? = some l[i] := List.getElem?_eq_getElem hlt
      have hlt2 : ((i : Int) < l.length) := by omega
      have e2 : IntKind.i64.wrap ((i : Int) + 1) = ((i + 1 : Nat) : Int) := by rw [IntWalk.i64_in _ (by omega)]; simp
      have hm := mayOk_len (hall l[i] (List.getElem_mem hlt))
      have hpre := flA_len (l := l.take i) (fun a ha => hall a (List.mem_of_mem_take ha)) (by simp; omega)
      have h10 := leb_ten l.length (by omega)
      have hst : fl encAsk (l.take (i + 1)) = fl encAsk (l.take i) ++ encAsk l[i] := by rw [List.take_succ_eq_append_getElem hlt, fl_snoc]
      have hpl : (leb l.length ++ fl encAsk (l.take i)).length ≤ 890 := by rw [List.length_append]; omega
      have hnext : (leb l.length ++ fl encAsk (l.take i) ++ [l[i].1] ++ lebT l[i].2.1 ++ lebT l[i].2.2.1) = leb l.length ++ fl encAsk (l.take (i + 1)) := by
        rw [hst]; unfold encAsk; simp only [List.append_assoc, List.cons_append, List.nil_append]
      generalize leb l.length ++ fl encAsk (l.take i) = pre at *
      have t1 := lebT_len l[i].2.1 (by omega)
      have hput1 := octsPutText (pre ++ [l[i].1]) l[i].2.1 (by rw [List.length_append]; simp; omega) (by omega)
      have hput2 := octsPutText (pre ++ [l[i].1] ++ lebT l[i].2.1) l[i].2.2.1 (by rw [List.length_append, List.length_append]; simp; omega) (by omega)
      have eapp : pre.map encB ++ [[DV.lit (.int .u8 (l[i].1.toNat : Int))]] = (pre ++ [l[i].1]).map encB := by rw [List.map_append]; rfl
      simp only [int, hb, hlt2, encA, Int.natCast_nonneg, eapp, am, simprocAttr, tys]
      refine ⟨by omega, ?_⟩
      refine ACallD.of (hput1) (by kernel_rfl) [] [258] rfl (by simp) (by simp) (by simp) (by simp) (by repeat' (first | exact trivial | exact .inl rfl | exact .inr rfl | exact .inr ⟨rfl, rfl, rfl, by simp; done⟩ | exact .inr ⟨rfl, by simp; done⟩ | exact .inr ⟨rfl, rfl, by simp; done⟩ | apply And.intro)) (by repeat' (first | exact trivial | rfl | exact (tkC_ren.1 _ _).symm | (simp; done) | apply And.intro)) (by first | exact .inl rfl | (refine .inr ⟨trivial, ?_⟩; first | (intro row h; rcases List.mem_singleton.1 h with rfl; exact nvB _) | (intro row h; cases h; done) | (simp; done)) | (refine .inr ⟨by simp [nvP, nvP.nvPs, nvD, nilS, errno], ?_⟩; first | (intro row h; rcases List.mem_singleton.1 h with rfl; exact nvB _) | (intro row h; cases h; done) | (simp [nvRow, nvD, nvP]; done))) rfl rfl rfl rfl ?_
      simp only [am, simprocAttr, tys]
      refine ACallD.of (hput2) (by kernel_rfl) [] [450] rfl (by simp) (by simp) (by simp) (by simp) (by repeat' (first | exact trivial | exact .inl rfl | exact .inr rfl | exact .inr ⟨rfl, rfl, rfl, by simp; done⟩ | exact .inr ⟨rfl, by simp; done⟩ | exact .inr ⟨rfl, rfl, by simp; done⟩ | apply And.intro)) (by repeat' (first | exact trivial | rfl | exact (tkC_ren.1 _ _).symm | (simp; done) | apply And.intro)) (by first | exact .inl rfl | (refine .inr ⟨trivial, ?_⟩; first | (intro row h; rcases List.mem_singleton.1 h with rfl; exact nvB _) | (intro row h; cases h; done) | (simp; done)) | (refine .inr ⟨by simp [nvP, nvP.nvPs, nvD, nilS, errno], ?_⟩; first | (intro row h; rcases List.mem_singleton.1 h with rfl; exact nvB _) | (intro row h; cases h; done) | (simp [nvRow, nvD, nvP]; done))) rfl rfl rfl rfl ?_
      simp only [e2, am, simprocAttr, tys]
      refine ⟨by kernel_rfl, ⟨i + 1, by omega⟩, [], [642], ⟨rfl, rfl, by simp, (fun i hi => absurd hi (Nat.not_lt_zero _)), ⟨.inr rfl, .inr rfl, .inr rfl, .inr rfl, trivial⟩, ⟨.inr ⟨by decide, ?_⟩, trivial⟩, rfl, by decide, rfl, (by first | rfl | simp [scRow, tkC_scs])⟩, by show l.length - (i + 1) < l.length - i; omega⟩
      exact congrArg (fun z => Row.own 1 (List.map encB z)) hnext
    · have hlt2 : ¬ ((i : Int) < l.length) := by omega
      have hfull : l.take i = l := List.take_of_length_le hge
      simp only [int, hlt2, hfull, byts, errno, FinR, evRes, evRVs, evRV, am, simprocAttr, tys]
      exact ⟨_, [], [0], rfl, ⟨rfl, rfl, by simp, (fun i hi => absurd hi (Nat.not_lt_zero _)), trivial, ⟨.inr ⟨by decide, rfl⟩, trivial⟩, rfl, by decide, rfl, (by first | rfl | simp [scRow, tkC_scs])⟩, rfl, rfl⟩

theorem refMPutN (l : List Ask) (hl : l.length ≤ 9223372036854775807) (hn : ∀ a ∈ l, a.2.1.length ≤ 9223372036854775807) (hr : rightA l = false) : AFun Try.prog 56 [.d (.sl 3 (l.map encA))] [] (.tup [nilS, errno 1]) [] := by
  refine AFun.of_walk hP Try.func56 rfl rfl rfl (by simp) rfl ?_
  simp only [Try.f56, am, simprocAttr, tys]
  refine ACall.of (refRight l hl hn) [] [] rfl (by simp) (by simp) (by simp) (by repeat' (first | exact trivial | exact .inl rfl | exact .inr rfl | exact .inr ⟨rfl, rfl, rfl, by simp; done⟩ | exact .inr ⟨rfl, by simp; done⟩ | exact .inr ⟨rfl, rfl, by simp; done⟩ | apply And.intro)) (by repeat' (first | exact trivial | rfl | exact (tkC_ren.1 _ _).symm | (simp; done) | apply And.intro)) (by first | exact .inl rfl | (refine .inr ⟨trivial, ?_⟩; first | (intro row h; rcases List.mem_singleton.1 h with rfl; exact nvB _) | (intro row h; cases h; done) | (simp; done)) | (refine .inr ⟨by simp [nvP, nvP.nvPs, nvD, nilS, errno], ?_⟩; first | (intro row h; rcases List.mem_singleton.1 h with rfl; exact nvB _) | (intro row h; cases h; done) | (simp [nvRow, nvD, nvP]; done))) ?_
  rw [hr]
  simp only [bool, nilS, errno, FinR, evRes, evRVs, evRV, am, simprocAttr, tys]
  exact ⟨_, [], [], rfl, Ent.plain rfl rfl rfl trivial rfl, rfl, rfl⟩

set_option maxRecDepth 8000 in
theorem refMPut (l : List Ask) (hl : l.length ≤ 9223372036854775807) (hn : ∀ a ∈ l, a.2.1.length ≤ 9223372036854775807) (hr : rightA l = true) : AFun Try.prog 56 [.d (.sl 3 (l.map encA))] [] (.tup [.own 0, errno 0]) [.own 1 ((putA l).map encB)] := by
  refine AFun.of_walk hP Try.func56 rfl rfl rfl (by simp) rfl ?_
  simp only [Try.f56, am, simprocAttr, tys]
  refine ACall.of (refRight l hl hn) [] [] rfl (by simp) (by simp) (by simp) (by repeat' (first | exact trivial | exact .inl rfl | exact .inr rfl | exact .inr ⟨rfl, rfl, rfl, by simp; done⟩ | exact .inr ⟨rfl, by simp; done⟩ | exact .inr ⟨rfl, rfl, by simp; done⟩ | apply And.intro)) (by repeat' (first | exact trivial | rfl | exact (tkC_ren.1 _ _).symm | (simp; done) | apply And.intro)) (by first | exact .inl rfl | (refine .inr ⟨trivial, ?_⟩; first | (intro row h; rcases List.mem_singleton.1 h with rfl; exact nvB _) | (intro row h; cases h; done) | (simp; done)) | (refine .inr ⟨by simp [nvP, nvP.nvPs, nvD, nilS, errno], ?_⟩; first | (intro row h; rcases List.mem_singleton.1 h with rfl; exact nvB _) | (intro row h; cases h; done) | (simp [nvRow, nvD, nvP]; done))) ?_
  rw [hr]
  · obtain ⟨h8, hall⟩ := rightA_len hr
    have e1 : IntKind.u64.wrap (l.length : Int) = l.length := IntWalk.u64_in _ (by omega)
    simp only [bool, e1, am, simprocAttr, tys]
    refine ACall.of (refPut [] l.length (by simp) (by omega)) [] [] rfl (by simp) (by simp) (by simp) (by repeat' (first | exact trivial | exact .inl rfl | exact .inr rfl | exact .inr ⟨rfl, rfl, rfl, by simp; done⟩ | exact .inr ⟨rfl, by simp; done⟩ | exact .inr ⟨rfl, rfl, by simp; done⟩ | apply And.intro)) (by repeat' (first | exact trivial | rfl | exact (tkC_ren.1 _ _).symm | (simp; done) | apply And.intro)) (by first | exact .inl rfl | (refine .inr ⟨trivial, ?_⟩; first | (intro row h; rcases List.mem_singleton.1 h with rfl; exact nvB _) | (intro row h; cases h; done) | (simp; done)) | (refine .inr ⟨by simp [nvP, nvP.nvPs, nvD, nilS, errno], ?_⟩; first | (intro row h; rcases List.mem_singleton.1 h with rfl; exact nvB _) | (intro row h; cases h; done) | (simp [nvRow, nvD, nvP]; done))) ?_
    simp only [am, simprocAttr, tys]
    refine ALoopW.intro 42 0 (ι := { i : Nat // i ≤ l.length }) (fun i => [(0, .d (.sl 3 (l.map encA))), (4, .own 0), (5, int i.1)]) (fun i => [.own 1 ((leb l.length ++ fl encAsk (l.take i.1)).map encB)]) (fun i => l.length - i.1) ⟨0, by omega⟩ [] [0] ?_ (fun ⟨i, hi⟩ => ?_)
    · refine ⟨rfl, rfl, by simp, (fun i hi => absurd hi (Nat.not_lt_zero _)), ⟨.inr rfl, .inr rfl, .inr rfl, trivial⟩, ⟨.inr ⟨by decide, ?_⟩, trivial⟩, rfl, by decide, rfl, (by first | rfl | simp [scRow, tkC_scs])⟩
      simp only [List.take_zero, fl_nil, List.append_nil]; rfl
    rcases Nat.lt_or_ge i l.length with hlt | hge
    · have hb : l[i]? = some l[i] := List.getElem?_eq_getElem hlt
      have hlt2 : ((i : Int) < l.length) := by omega
      have e2 : IntKind.i64.wrap ((i : Int) + 1) = ((i + 1 : Nat) : Int) := by rw [IntWalk.i64_in _ (by omega)]; simp
      have hm := mayOk_len (hall l[i] (List.getElem_mem hlt))
      have hpre := flA_len (l := l.take i) (fun a ha => hall a (List.mem_of_mem_take ha)) (by simp; omega)
      have h10 := leb_ten l.length (by omega)
      have hst : fl encAsk (l.take (i + 1)) = fl encAsk (l.take i) ++ encAsk l[i] := by rw [List.take_succ_eq_append_getElem hlt, fl_snoc]
      have hpl : (leb l.length ++ fl encAsk (l.take i)).length ≤ 890 := by rw [List.length_append]; omega
      have hnext : (leb l.length ++ fl encAsk (l.take i) ++ [l[i].1] ++ lebT l[i].2.1 ++ lebT l[i].2.2.1) = leb l.length ++ fl encAsk (l.take (i + 1)) := by
        rw [hst]; unfold encAsk; simp only [List.append_assoc, List.cons_append, List.nil_append]
      generalize leb l.length ++ fl encAsk (l.take i) = pre at *
      have t1 := lebT_len l[i].2.1 (by omega)
      have hput1 := refPutText (pre ++ [l[i].1]) l[i].2.1 (by rw [List.length_append]; simp; omega) (by omega)
      have hput2 := refPutText (pre ++ [l[i].1] ++ lebT l[i].2.1) l[i].2.2.1 (by rw [List.length_append, List.length_append]; simp; omega) (by omega)
      have eapp : pre.map encB ++ [[DV.lit (.int .u8 (l[i].1.toNat : Int))]] = (pre ++ [l[i].1]).map encB := by rw [List.map_append]; rfl
      simp only [int, hb, hlt2, encA, Int.natCast_nonneg, eapp, am, simprocAttr, tys]
      refine ⟨by omega, ?_⟩
      refine ACall.of (hput1) [] [2] rfl (by simp) (by simp) (by simp) (by repeat' (first | exact trivial | exact .inl rfl | exact .inr rfl | exact .inr ⟨rfl, rfl, rfl, by simp; done⟩ | exact .inr ⟨rfl, by simp; done⟩ | exact .inr ⟨rfl, rfl, by simp; done⟩ | apply And.intro)) (by repeat' (first | exact trivial | rfl | exact (tkC_ren.1 _ _).symm | (simp; done) | apply And.intro)) (by first | exact .inl rfl | (refine .inr ⟨trivial, ?_⟩; first | (intro row h; rcases List.mem_singleton.1 h with rfl; exact nvB _) | (intro row h; cases h; done) | (simp; done)) | (refine .inr ⟨by simp [nvP, nvP.nvPs, nvD, nilS, errno], ?_⟩; first | (intro row h; rcases List.mem_singleton.1 h with rfl; exact nvB _) | (intro row h; cases h; done) | (simp [nvRow, nvD, nvP]; done))) ?_
      simp only [hb, hlt2, encA, Int.natCast_nonneg, am, simprocAttr, tys]
      refine ACall.of (hput2) [] [3] rfl (by simp) (by simp) (by simp) (by repeat' (first | exact trivial | exact .inl rfl | exact .inr rfl | exact .inr ⟨rfl, rfl, rfl, by simp; done⟩ | exact .inr ⟨rfl, by simp; done⟩ | exact .inr ⟨rfl, rfl, by simp; done⟩ | apply And.intro)) (by repeat' (first | exact trivial | rfl | exact (tkC_ren.1 _ _).symm | (simp; done) | apply And.intro)) (by first | exact .inl rfl | (refine .inr ⟨trivial, ?_⟩; first | (intro row h; rcases List.mem_singleton.1 h with rfl; exact nvB _) | (intro row h; cases h; done) | (simp; done)) | (refine .inr ⟨by simp [nvP, nvP.nvPs, nvD, nilS, errno], ?_⟩; first | (intro row h; rcases List.mem_singleton.1 h with rfl; exact nvB _) | (intro row h; cases h; done) | (simp [nvRow, nvD, nvP]; done))) ?_
      simp only [e2, am, simprocAttr, tys]
      refine ⟨⟨i + 1, by omega⟩, [], [4], ⟨rfl, rfl, by simp, (fun i hi => absurd hi (Nat.not_lt_zero _)), ⟨.inr rfl, .inr rfl, .inr rfl, trivial⟩, ⟨.inr ⟨by decide, ?_⟩, trivial⟩, rfl, by decide, rfl, (by first | rfl | simp [scRow, tkC_scs])⟩, by show l.length - (i + 1) < l.length - i; omega⟩
      exact congrArg (fun z => Row.own 1 (List.map encB z)) hnext
    · have hlt2 : ¬ ((i : Int) < l.length) := by omega
      have hfull : l.take i = l := List.take_of_length_le hge
      simp only [int, hlt2, hfull, byts, errno, FinR, evRes, evRVs, evRV, am, simprocAttr, tys]
      exact ⟨_, [], [0], rfl, ⟨rfl, rfl, by simp, (fun i hi => absurd hi (Nat.not_lt_zero _)), trivial, ⟨.inr ⟨by decide, rfl⟩, trivial⟩, rfl, by decide, rfl, (by first | rfl | simp [scRow, tkC_scs])⟩, rfl, rfl⟩
end Go.Proofs.Ytflpphgccjlkjaa

set_option linter.unusedSimpArgs false
set_option linter.unusedVariables false
namespace Go.Proofs.Ytflpphgccjlkjaa
open Go Go.AM

def I64 (n : Int) : Prop := -9223372036854775808 ≤ n ∧ n ≤ 9223372036854775807
def fold (n : Int) : Nat := if n < 0 then 2 * (-(n + 1)).toNat + 1 else 2 * n.toNat
def unfold' (u : Nat) : Int := if u % 2 = 1 then -((u / 2 : Nat) : Int) - 1 else ((u / 2 : Nat) : Int)

theorem fold_lt (n : Int) (h : I64 n) : fold n < 18446744073709551616 := by
  obtain ⟨h1, h2⟩ := h
  unfold fold; split <;> omega
theorem unfold_I64 (u : Nat) (h : u < 18446744073709551616) : I64 (unfold' u) := by
  unfold unfold' I64; split <;> omega
theorem unfold_fold (n : Int) : unfold' (fold n) = n := by
  unfold fold unfold'
  split
  · rw [if_pos (by omega)]; omega
  · rw [if_neg (by omega)]; omega
theorem fold_unfold (u : Nat) : fold (unfold' u) = u := by
  unfold fold unfold'
  split
  · rw [if_pos (by omega)]; omega
  · rw [if_neg (by omega)]; omega

theorem xorAll (a : Nat) (h : a < 18446744073709551616) : evBits .xor .u64 (a : Int) 18446744073709551615 = ((18446744073709551615 - a : Nat) : Int) := by
  have e1 : (18446744073709551615 : Int) = (((BitVec.allOnes 64).toNat : Nat) : Int) := by decide
  have e2 : (a : Int) = (((BitVec.ofNat 64 a).toNat : Nat) : Int) := by rw [BitVec.toNat_ofNat, Nat.mod_eq_of_lt h]
  rw [e1, e2, x64, BitVec.xor_allOnes, BitVec.toNat_not, BitVec.toNat_ofNat, Nat.mod_eq_of_lt (show a < 2 ^ 64 by omega)]
theorem xor0 (a : Nat) (h : a < 18446744073709551616) : evBits .xor .u64 (a : Int) 0 = (a : Int) := by
  have e1 : (0 : Int) = (((0#64).toNat : Nat) : Int) := by decide
  have e2 : (a : Int) = (((BitVec.ofNat 64 a).toNat : Nat) : Int) := by rw [BitVec.toNat_ofNat, Nat.mod_eq_of_lt h]
  rw [e1, e2, x64, BitVec.xor_zero]

theorem octsFold (n : Int) (h : I64 n) : AFun Try.prog 78 [int n] [] (u64 (fold n)) [] := by
  refine AFun.of_walk hP Try.func78 rfl rfl rfl (by simp) rfl ?_
  obtain ⟨h1, h2⟩ := h
  have key : evBits .xor .u64 (IntKind.u64.wrap (IntKind.u64.wrap n * 2 ^ min 1 IntKind.u64.bits)) (IntKind.u64.wrap (n.fdiv (2 ^ min 63 IntKind.i64.bits))) = ((fold n : Nat) : Int) := by
    have p1 : (2 : Int) ^ min 1 IntKind.u64.bits = 2 := by decide
    have p2 : (2 : Int) ^ min 63 IntKind.i64.bits = 9223372036854775808 := by decide
    rw [p1, p2]
    by_cases hn : n < 0
    · have e1 : n.fdiv 9223372036854775808 = -1 := by
        rw [Int.fdiv_eq_ediv_of_nonneg _ (by omega)]; omega
      have e2 : IntKind.u64.wrap (-1) = 18446744073709551615 := by decide
      have e3 : IntKind.u64.wrap (IntKind.u64.wrap n * 2) = (((2 * n + 18446744073709551616).toNat : Nat) : Int) := by
        rw [IntKind.wrap_u64, IntKind.wrap_u64]; omega
      rw [e1, e2, e3, xorAll _ (by omega)]
      unfold fold; rw [if_pos hn]; omega
    · have e1 : n.fdiv 9223372036854775808 = 0 := by
        rw [Int.fdiv_eq_ediv_of_nonneg _ (by omega)]; omega
      have e2 : IntKind.u64.wrap 0 = 0 := by decide
      have e3 : IntKind.u64.wrap (IntKind.u64.wrap n * 2) = (((2 * n).toNat : Nat) : Int) := by
        rw [IntKind.wrap_u64, IntKind.wrap_u64]; omega
      rw [e1, e2, e3, xor0 _ (by omega)]
      unfold fold; rw [if_neg hn]; omega
  simp only [Try.f78, int, u64, key, FinR, evRes, evRVs, evRV, am, simprocAttr, tys]
  exact ⟨_, [], [], rfl, Ent.plain rfl rfl rfl trivial rfl, rfl, rfl⟩

theorem octsOpen (u : Nat) (h : u < 18446744073709551616) : AFun Try.prog 104 [u64 u] [] (int (unfold' u)) [] := by
  refine AFun.of_walk hP Try.func104 rfl rfl rfl (by simp) rfl ?_
  have key : evBits .xor .i64 (IntKind.i64.wrap ((u : Int).fdiv (2 ^ min 1 IntKind.u64.bits))) (IntKind.i64.wrap (0 - IntKind.i64.wrap (evBits .and .u64 (u : Int) 1))) = unfold' u := by
    have p1 : (2 : Int) ^ min 1 IntKind.u64.bits = 2 := by decide
    have e1 : (u : Int).fdiv 2 = ((u / 2 : Nat) : Int) := by
      rw [Int.fdiv_eq_ediv_of_nonneg _ (by omega)]; rfl
    have e2 : evBits .and .u64 (u : Int) 1 = ((u % 2 : Nat) : Int) := by
      have g1 : (1 : Int) = (((1#64).toNat : Nat) : Int) := by decide
      have g2 : (u : Int) = (((BitVec.ofNat 64 u).toNat : Nat) : Int) := by rw [BitVec.toNat_ofNat, Nat.mod_eq_of_lt h]
      rw [g1, g2, n64, BitVec.toNat_and, BitVec.toNat_ofNat, Nat.mod_eq_of_lt (show u < 2 ^ 64 by omega)]
      show ((u &&& 1 : Nat) : Int) = _
      rw [Nat.and_one_is_mod]
    have e3 : IntKind.i64.wrap ((u / 2 : Nat) : Int) = ((u / 2 : Nat) : Int) := IntWalk.i64_in _ (by omega)
    have e4 : IntKind.i64.wrap ((u % 2 : Nat) : Int) = ((u % 2 : Nat) : Int) := IntWalk.i64_in _ (by omega)
    have e5 : IntKind.i64.wrap (0 - ((u % 2 : Nat) : Int)) = 0 - ((u % 2 : Nat) : Int) := IntWalk.i64_in _ (by omega)
    rw [p1, e1, e2, e3, e4, e5]
    have hb : ((u / 2 : Nat) : Int) = (((BitVec.ofNat 64 (u / 2)).toNat : Nat) : Int) := by rw [BitVec.toNat_ofNat, Nat.mod_eq_of_lt (by omega)]
    show IntKind.i64.wrap ((BitVec.ofInt 64 ((u / 2 : Nat) : Int) ^^^ BitVec.ofInt 64 (0 - ((u % 2 : Nat) : Int))).toNat : Int) = _
    rw [hb, ofInt_bv]
    unfold unfold'
    by_cases hu : u % 2 = 1
    · have g : BitVec.ofInt 64 (0 - ((u % 2 : Nat) : Int)) = BitVec.allOnes 64 := by rw [hu]; decide
      rw [g, BitVec.xor_allOnes, BitVec.toNat_not, BitVec.toNat_ofNat, Nat.mod_eq_of_lt (show u / 2 < 2 ^ 64 by omega), if_pos hu]
      rw [IntKind.wrap_i64]; omega
    · have hu0 : u % 2 = 0 := by omega
      have g : BitVec.ofInt 64 (0 - ((u % 2 : Nat) : Int)) = 0#64 := by rw [hu0]; decide
      rw [g, BitVec.xor_zero, BitVec.toNat_ofNat, Nat.mod_eq_of_lt (show u / 2 < 2 ^ 64 by omega), if_neg hu]
      rw [IntKind.wrap_i64]; omega
  simp only [Try.f104, int, u64, key, FinR, evRes, evRVs, evRV, am, simprocAttr, tys]
  exact ⟨_, [], [], rfl, Ent.plain rfl rfl rfl trivial rfl, rfl, rfl⟩

theorem refFold (n : Int) (h : I64 n) : AFun Try.prog 80 [int n] [] (u64 (fold n)) [] := by
  refine AFun.of_walk hP Try.func80 rfl rfl rfl (by simp) rfl ?_
  obtain ⟨h1, h2⟩ := h
  by_cases hn : n < 0
  · have e : IntKind.u64.wrap (IntKind.u64.wrap (IntKind.u64.wrap (IntKind.i64.wrap (0 - IntKind.i64.wrap (n + 1))) * 2) + 1) = ((fold n : Nat) : Int) := by
      rw [IntWalk.i64_in (n + 1) (by omega), IntWalk.i64_in _ (by omega), IntWalk.u64_in (0 - (n + 1)) (by omega), IntWalk.u64_in ((0 - (n + 1)) * 2) (by omega), IntWalk.u64_in _ (by omega)]
      unfold fold; rw [if_pos hn]; omega
    simp only [Try.f80, int, u64, hn, e, FinR, evRes, evRVs, evRV, am, simprocAttr, tys]
    exact ⟨_, [], [], rfl, Ent.plain rfl rfl rfl trivial rfl, rfl, rfl⟩
  · have e : IntKind.u64.wrap (IntKind.u64.wrap n * 2) = ((fold n : Nat) : Int) := by
      rw [IntWalk.u64_in n (by omega), IntWalk.u64_in _ (by omega)]
      unfold fold; rw [if_neg hn]; omega
    simp only [Try.f80, int, u64, hn, e, FinR, evRes, evRVs, evRV, am, simprocAttr, tys]
    exact ⟨_, [], [], rfl, Ent.plain rfl rfl rfl trivial rfl, rfl, rfl⟩

theorem refOpen (u : Nat) (h : u < 18446744073709551616) : AFun Try.prog 90 [u64 u] [] (int (unfold' u)) [] := by
  refine AFun.of_walk hP Try.func90 rfl rfl rfl (by simp) rfl ?_
  have e1 : (u : Int).tmod 2 = ((u % 2 : Nat) : Int) := rfl
  have e2 : IntKind.u64.wrap ((u : Int).tdiv 2) = ((u / 2 : Nat) : Int) := IntWalk.u64_in _ (by have : (u : Int).tdiv 2 = ((u / 2 : Nat) : Int) := rfl; omega)
  have e3 : IntKind.i64.wrap ((u / 2 : Nat) : Int) = ((u / 2 : Nat) : Int) := IntWalk.i64_in _ (by omega)
  have e4 : IntKind.i64.wrap (0 - ((u / 2 : Nat) : Int)) = 0 - ((u / 2 : Nat) : Int) := IntWalk.i64_in _ (by omega)
  have e5 : IntKind.i64.wrap (0 - ((u / 2 : Nat) : Int) - 1) = 0 - ((u / 2 : Nat) : Int) - 1 := IntWalk.i64_in _ (by omega)
  by_cases hu : u % 2 = 1
  · have e6 : (((u % 2 : Nat) : Int) == 1) = true := by rw [beq_iff_eq]; omega
    have e7 : unfold' u = 0 - ((u / 2 : Nat) : Int) - 1 := by unfold unfold'; rw [if_pos hu]; omega
    simp only [Try.f90, int, u64, e1, e2, e3, e4, e5, e6, e7, FinR, evRes, evRVs, evRV, am, simprocAttr, tys]
    exact ⟨_, [], [], rfl, Ent.plain rfl rfl rfl trivial rfl, rfl, rfl⟩
  · have e6 : (((u % 2 : Nat) : Int) == 1) = false := by rw [beq_eq_false_iff_ne]; omega
    have e7 : unfold' u = ((u / 2 : Nat) : Int) := by unfold unfold'; rw [if_neg hu]
    simp only [Try.f90, int, u64, e1, e2, e3, e6, e7, FinR, evRes, evRVs, evRV, am, simprocAttr, tys]
    exact ⟨_, [], [], rfl, Ent.plain rfl rfl rfl trivial rfl, rfl, rfl⟩

def lebI (n : Int) : List UInt8 := leb (fold n)

theorem octsPutInt (bs : List UInt8) (n : Int) (hl : bs.length ≤ 100000000000000) (hn : I64 n) :
    AFun Try.prog 51 [byts bs, int n] [] (.own 0) [.own 1 ((bs ++ lebI n).map encB)] := by
  refine AFun.of_walk hP Try.func51 rfl rfl rfl (by simp) rfl ?_
  simp only [Try.f51, byts, int, am, simprocAttr, tys]
  refine ACall.of (octsFold n hn) [] [] rfl (by simp) (by simp) (by simp) (by repeat' (first | exact trivial | exact .inl rfl | exact .inr rfl | exact .inr ⟨rfl, rfl, rfl, by simp; done⟩ | exact .inr ⟨rfl, by simp; done⟩ | exact .inr ⟨rfl, rfl, by simp; done⟩ | apply And.intro)) (by repeat' (first | exact trivial | rfl | exact (tkC_ren.1 _ _).symm | (simp; done) | apply And.intro)) (by first | exact .inl rfl | (refine .inr ⟨trivial, ?_⟩; first | (intro row h; rcases List.mem_singleton.1 h with rfl; exact nvB _) | (intro row h; cases h; done) | (simp; done)) | (refine .inr ⟨by simp [nvP, nvP.nvPs, nvD, nilS, errno], ?_⟩; first | (intro row h; rcases List.mem_singleton.1 h with rfl; exact nvB _) | (intro row h; cases h; done) | (simp [nvRow, nvD, nvP]; done))) ?_
  simp only [u64, am, simprocAttr, tys]
  refine ACall.of (octsPut bs (fold n) hl (fold_lt n hn)) [] [] rfl (by simp) (by simp) (by simp) (by repeat' (first | exact trivial | exact .inl rfl | exact .inr rfl | exact .inr ⟨rfl, rfl, rfl, by simp; done⟩ | exact .inr ⟨rfl, by simp; done⟩ | exact .inr ⟨rfl, rfl, by simp; done⟩ | apply And.intro)) (by repeat' (first | exact trivial | rfl | exact (tkC_ren.1 _ _).symm | (simp; done) | apply And.intro)) (by first | exact .inl rfl | (refine .inr ⟨trivial, ?_⟩; first | (intro row h; rcases List.mem_singleton.1 h with rfl; exact nvB _) | (intro row h; cases h; done) | (simp; done)) | (refine .inr ⟨by simp [nvP, nvP.nvPs, nvD, nilS, errno], ?_⟩; first | (intro row h; rcases List.mem_singleton.1 h with rfl; exact nvB _) | (intro row h; cases h; done) | (simp [nvRow, nvD, nvP]; done))) ?_
  simp only [lebI, FinR, evRes, evRVs, evRV, am, simprocAttr, tys]
  exact ⟨_, [], [0], rfl, ⟨rfl, rfl, by simp, (fun i hi => absurd hi (Nat.not_lt_zero _)), trivial, ⟨.inr ⟨by decide, rfl⟩, trivial⟩, rfl, by decide, rfl, (by first | rfl | simp [scRow, tkC_scs])⟩, rfl, rfl⟩

theorem refPutInt (bs : List UInt8) (n : Int) (hl : bs.length ≤ 100000000000000) (hn : I64 n) :
    AFun Try.prog 55 [byts bs, int n] [] (.own 0) [.own 1 ((bs ++ lebI n).map encB)] := by
  refine AFun.of_walk hP Try.func55 rfl rfl rfl (by simp) rfl ?_
  simp only [Try.f55, byts, int, am, simprocAttr, tys]
  refine ACall.of (refFold n hn) [] [] rfl (by simp) (by simp) (by simp) (by repeat' (first | exact trivial | exact .inl rfl | exact .inr rfl | exact .inr ⟨rfl, rfl, rfl, by simp; done⟩ | exact .inr ⟨rfl, by simp; done⟩ | exact .inr ⟨rfl, rfl, by simp; done⟩ | apply And.intro)) (by repeat' (first | exact trivial | rfl | exact (tkC_ren.1 _ _).symm | (simp; done) | apply And.intro)) (by first | exact .inl rfl | (refine .inr ⟨trivial, ?_⟩; first | (intro row h; rcases List.mem_singleton.1 h with rfl; exact nvB _) | (intro row h; cases h; done) | (simp; done)) | (refine .inr ⟨by simp [nvP, nvP.nvPs, nvD, nilS, errno], ?_⟩; first | (intro row h; rcases List.mem_singleton.1 h with rfl; exact nvB _) | (intro row h; cases h; done) | (simp [nvRow, nvD, nvP]; done))) ?_
  simp only [u64, am, simprocAttr, tys]
  refine ACall.of (refPut bs (fold n) hl (fold_lt n hn)) [] [] rfl (by simp) (by simp) (by simp) (by repeat' (first | exact trivial | exact .inl rfl | exact .inr rfl | exact .inr ⟨rfl, rfl, rfl, by simp; done⟩ | exact .inr ⟨rfl, by simp; done⟩ | exact .inr ⟨rfl, rfl, by simp; done⟩ | apply And.intro)) (by repeat' (first | exact trivial | rfl | exact (tkC_ren.1 _ _).symm | (simp; done) | apply And.intro)) (by first | exact .inl rfl | (refine .inr ⟨trivial, ?_⟩; first | (intro row h; rcases List.mem_singleton.1 h with rfl; exact nvB _) | (intro row h; cases h; done) | (simp; done)) | (refine .inr ⟨by simp [nvP, nvP.nvPs, nvD, nilS, errno], ?_⟩; first | (intro row h; rcases List.mem_singleton.1 h with rfl; exact nvB _) | (intro row h; cases h; done) | (simp [nvRow, nvD, nvP]; done))) ?_
  simp only [lebI, FinR, evRes, evRVs, evRV, am, simprocAttr, tys]
  exact ⟨_, [], [0], rfl, ⟨rfl, rfl, by simp, (fun i hi => absurd hi (Nat.not_lt_zero _)), trivial, ⟨.inr ⟨by decide, rfl⟩, trivial⟩, rfl, by decide, rfl, (by first | rfl | simp [scRow, tkC_scs])⟩, rfl, rfl⟩

end Go.Proofs.Ytflpphgccjlkjaa

set_option linter.unusedSimpArgs false
set_option linter.unusedVariables false
namespace Go.Proofs.Ytflpphgccjlkjaa
open Go Go.AM

def putO (o : OpT) : List UInt8 := o.1 :: (if o.1 = 1 then putLb o.2.1 ++ lebI o.2.2.1.1 ++ lebI o.2.2.1.2.1 else if o.1 = 3 then lebI o.2.2.1.1 else if o.1 = 4 then putA o.2.2.2.1 else [])
structure FitI (o : OpT) : Prop extends Fit o where
  p1 : I64 o.2.2.1.1
  p2 : I64 o.2.2.1.2.1
theorem lebI_len (n : Int) (h : I64 n) : (lebI n).length ≤ 10 := leb_ten _ (fold_lt n h)

theorem opPutN (o : OpT) (h : FitI o) (hr : rightO o = false) : AFun Try.prog 25 [.d (.agg (encO o))] [] (.tup [nilS, errno 1]) [] := by
  refine AFun.of_walk hP Try.func25 rfl rfl rfl (by simp) rfl ?_
  have c := opRight o h.toFit
  rw [hr] at c
  simp only [encO] at c
  simp only [Try.f25, encO, am, simprocAttr, tys]
  refine ACall.of (c) [] [] rfl (by simp) (by simp) (by simp) (by repeat' (first | exact trivial | exact .inl rfl | exact .inr rfl | exact .inr ⟨rfl, rfl, rfl, by simp; done⟩ | exact .inr ⟨rfl, by simp; done⟩ | exact .inr ⟨rfl, rfl, by simp; done⟩ | apply And.intro)) (by repeat' (first | exact trivial | rfl | exact (tkC_ren.1 _ _).symm | (simp; done) | apply And.intro)) (by first | exact .inl rfl | (refine .inr ⟨trivial, ?_⟩; first | (intro row h; rcases List.mem_singleton.1 h with rfl; exact nvB _) | (intro row h; cases h; done) | (simp; done)) | (refine .inr ⟨by simp [nvP, nvP.nvPs, nvD, nilS, errno], ?_⟩; first | (intro row h; rcases List.mem_singleton.1 h with rfl; exact nvB _) | (intro row h; cases h; done) | (simp [nvRow, nvD, nvP]; done))) ?_
  simp only [bool, nilS, errno, FinR, evRes, evRVs, evRV, am, simprocAttr, tys]
  exact ⟨_, [], [], rfl, Ent.plain rfl rfl rfl trivial rfl, rfl, rfl⟩

set_option maxRecDepth 8000 in
set_option maxHeartbeats 1000000 in
theorem opPut (o : OpT) (h : FitI o) (hr : rightO o = true) : AFun Try.prog 25 [.d (.agg (encO o))] [] (.tup [.own 0, errno 0]) [.own 1 ((putO o).map encB)] := by
  refine AFun.of_walk hP Try.func25 rfl rfl rfl (by simp) rfl ?_
  have c := opRight o h.toFit
  rw [hr] at c
  simp only [encO] at c
  have c1 : ((o.1.toNat : Int) == 1) = decide (o.1 = 1) := u8eq o.1 1 (by omega)
  have c3 : ((o.1.toNat : Int) == 3) = decide (o.1 = 3) := u8eq o.1 3 (by omega)
  have c4 : ((o.1.toNat : Int) == 4) = decide (o.1 = 4) := u8eq o.1 4 (by omega)
  have l1 := lebI_len _ h.p1
  have l2 := lebI_len _ h.p2
  have eb : ∀ x : List UInt8, [[DV.lit (.int .u8 (o.1.toNat : Int))]] ++ x.map encB = (o.1 :: x).map encB := fun x => rfl
  have eb1 : [[DV.lit (.int .u8 (o.1.toNat : Int))]] = [o.1].map encB := rfl
  by_cases h1 : o.1 = 1
  · have d1 : decide (o.1 = 1) = true := decide_eq_true h1
    have hl : rightL o.2.1 = true := by unfold rightO at hr; rw [if_pos h1] at hr; exact (Bool.and_eq_true _ _ ▸ hr).1
    have hpl := putLb_len hl
    have e : putO o = ([o.1] ++ putLb o.2.1) ++ lebI o.2.2.1.1 ++ lebI o.2.2.1.2.1 := by unfold putO; rw [if_pos h1]; simp
    have q1 := octsPutInt ([o.1] ++ putLb o.2.1) o.2.2.1.1 (by rw [List.length_append]; simp; omega) h.p1
    have q2 := octsPutInt ([o.1] ++ putLb o.2.1 ++ lebI o.2.2.1.1) o.2.2.1.2.1 (by rw [List.length_append, List.length_append]; simp; omega) h.p2
    rw [e]
    simp only [Try.f25, encO, am, simprocAttr, tys]
    refine ACall.of (c) [] [] rfl (by simp) (by simp) (by simp) (by repeat' (first | exact trivial | exact .inl rfl | exact .inr rfl | exact .inr ⟨rfl, rfl, rfl, by simp; done⟩ | exact .inr ⟨rfl, by simp; done⟩ | exact .inr ⟨rfl, rfl, by simp; done⟩ | apply And.intro)) (by repeat' (first | exact trivial | rfl | exact (tkC_ren.1 _ _).symm | (simp; done) | apply And.intro)) (by first | exact .inl rfl | (refine .inr ⟨trivial, ?_⟩; first | (intro row h; rcases List.mem_singleton.1 h with rfl; exact nvB _) | (intro row h; cases h; done) | (simp; done)) | (refine .inr ⟨by simp [nvP, nvP.nvPs, nvD, nilS, errno], ?_⟩; first | (intro row h; rcases List.mem_singleton.1 h with rfl; exact nvB _) | (intro row h; cases h; done) | (simp [nvRow, nvD, nvP]; done))) ?_
    simp only [bool, c1, d1, am, simprocAttr, tys]
    refine ACall.of (labelPut o.2.1 h.l h.lx hl) [] [] rfl (by simp) (by simp) (by simp) (by repeat' (first | exact trivial | exact .inl rfl | exact .inr rfl | exact .inr ⟨rfl, rfl, rfl, by simp; done⟩ | exact .inr ⟨rfl, by simp; done⟩ | exact .inr ⟨rfl, rfl, by simp; done⟩ | apply And.intro)) (by repeat' (first | exact trivial | rfl | exact (tkC_ren.1 _ _).symm | (simp; done) | apply And.intro)) (by first | exact .inl rfl | (refine .inr ⟨trivial, ?_⟩; first | (intro row h; rcases List.mem_singleton.1 h with rfl; exact nvB _) | (intro row h; cases h; done) | (simp; done)) | (refine .inr ⟨by simp [nvP, nvP.nvPs, nvD, nilS, errno], ?_⟩; first | (intro row h; rcases List.mem_singleton.1 h with rfl; exact nvB _) | (intro row h; cases h; done) | (simp [nvRow, nvD, nvP]; done))) ?_
    simp only [errno, eb1, ← List.map_append, am, simprocAttr, tys]
    refine ⟨by simp; omega, ?_⟩
    refine ACallD.of (q1) (by kernel_rfl) [] [131] rfl (by simp) (by simp) (by simp) (by simp) (by repeat' (first | exact trivial | exact .inl rfl | exact .inr rfl | exact .inr ⟨rfl, rfl, rfl, by simp; done⟩ | exact .inr ⟨rfl, by simp; done⟩ | exact .inr ⟨rfl, rfl, by simp; done⟩ | apply And.intro)) (by repeat' (first | exact trivial | rfl | exact (tkC_ren.1 _ _).symm | (simp; done) | apply And.intro)) (by first | exact .inl rfl | (refine .inr ⟨trivial, ?_⟩; first | (intro row h; rcases List.mem_singleton.1 h with rfl; exact nvB _) | (intro row h; cases h; done) | (simp; done)) | (refine .inr ⟨by simp [nvP, nvP.nvPs, nvD, nilS, errno], ?_⟩; first | (intro row h; rcases List.mem_singleton.1 h with rfl; exact nvB _) | (intro row h; cases h; done) | (simp [nvRow, nvD, nvP]; done))) rfl rfl rfl rfl ?_
    simp only [am, simprocAttr, tys]
    refine ACallD.of (q2) (by kernel_rfl) [] [387] rfl (by simp) (by simp) (by simp) (by simp) (by repeat' (first | exact trivial | exact .inl rfl | exact .inr rfl | exact .inr ⟨rfl, rfl, rfl, by simp; done⟩ | exact .inr ⟨rfl, by simp; done⟩ | exact .inr ⟨rfl, rfl, by simp; done⟩ | apply And.intro)) (by repeat' (first | exact trivial | rfl | exact (tkC_ren.1 _ _).symm | (simp; done) | apply And.intro)) (by first | exact .inl rfl | (refine .inr ⟨trivial, ?_⟩; first | (intro row h; rcases List.mem_singleton.1 h with rfl; exact nvB _) | (intro row h; cases h; done) | (simp; done)) | (refine .inr ⟨by simp [nvP, nvP.nvPs, nvD, nilS, errno], ?_⟩; first | (intro row h; rcases List.mem_singleton.1 h with rfl; exact nvB _) | (intro row h; cases h; done) | (simp [nvRow, nvD, nvP]; done))) rfl rfl rfl rfl ?_
    simp only [errno, FinR, evRes, evRVs, evRV, am, simprocAttr, tys]
    exact ⟨by kernel_rfl, ⟨_, [], [643], rfl, ⟨rfl, rfl, by simp, (fun i hi => absurd hi (Nat.not_lt_zero _)), trivial, ⟨.inr ⟨by decide, rfl⟩, trivial⟩, rfl, by decide, rfl, (by first | rfl | simp [scRow, tkC_scs])⟩, rfl, rfl⟩⟩
  · have d1 : decide (o.1 = 1) = false := decide_eq_false h1
    by_cases h3 : o.1 = 3
    · have d3 : decide (o.1 = 3) = true := decide_eq_true h3
      have e : putO o = [o.1] ++ lebI o.2.2.1.1 := by unfold putO; rw [if_neg h1, if_pos h3]; rfl
      have q1 := octsPutInt [o.1] o.2.2.1.1 (by simp) h.p1
      rw [e]
      simp only [Try.f25, encO, am, simprocAttr, tys]
      refine ACall.of (c) [] [] rfl (by simp) (by simp) (by simp) (by repeat' (first | exact trivial | exact .inl rfl | exact .inr rfl | exact .inr ⟨rfl, rfl, rfl, by simp; done⟩ | exact .inr ⟨rfl, by simp; done⟩ | exact .inr ⟨rfl, rfl, by simp; done⟩ | apply And.intro)) (by repeat' (first | exact trivial | rfl | exact (tkC_ren.1 _ _).symm | (simp; done) | apply And.intro)) (by first | exact .inl rfl | (refine .inr ⟨trivial, ?_⟩; first | (intro row h; rcases List.mem_singleton.1 h with rfl; exact nvB _) | (intro row h; cases h; done) | (simp; done)) | (refine .inr ⟨by simp [nvP, nvP.nvPs, nvD, nilS, errno], ?_⟩; first | (intro row h; rcases List.mem_singleton.1 h with rfl; exact nvB _) | (intro row h; cases h; done) | (simp [nvRow, nvD, nvP]; done))) ?_
      simp only [bool, c1, d1, c3, d3, am, simprocAttr, tys]
      refine ACall.of (q1) [] [1] rfl (by simp) (by simp) (by simp) (by repeat' (first | exact trivial | exact .inl rfl | exact .inr rfl | exact .inr ⟨rfl, rfl, rfl, by simp; done⟩ | exact .inr ⟨rfl, by simp; done⟩ | exact .inr ⟨rfl, rfl, by simp; done⟩ | apply And.intro)) (by repeat' (first | exact trivial | rfl | exact (tkC_ren.1 _ _).symm | (simp; done) | apply And.intro)) (by first | exact .inl rfl | (refine .inr ⟨trivial, ?_⟩; first | (intro row h; rcases List.mem_singleton.1 h with rfl; exact nvB _) | (intro row h; cases h; done) | (simp; done)) | (refine .inr ⟨by simp [nvP, nvP.nvPs, nvD, nilS, errno], ?_⟩; first | (intro row h; rcases List.mem_singleton.1 h with rfl; exact nvB _) | (intro row h; cases h; done) | (simp [nvRow, nvD, nvP]; done))) ?_
      simp only [errno, FinR, evRes, evRVs, evRV, am, simprocAttr, tys]
      exact ⟨_, [], [2], rfl, ⟨rfl, rfl, by simp, (fun i hi => absurd hi (Nat.not_lt_zero _)), trivial, ⟨.inr ⟨by decide, rfl⟩, trivial⟩, rfl, by decide, rfl, (by first | rfl | simp [scRow, tkC_scs])⟩, rfl, rfl⟩
    · have d3 : decide (o.1 = 3) = false := decide_eq_false h3
      by_cases h4 : o.1 = 4
      · have d4 : decide (o.1 = 4) = true := decide_eq_true h4
        have ha : rightA o.2.2.2.1 = true := by unfold rightO at hr; rw [if_neg h1, if_pos h4] at hr; exact (Bool.and_eq_true _ _ ▸ hr).1
        have hpl := putA_len ha
        have e : putO o = [o.1] ++ putA o.2.2.2.1 := by unfold putO; rw [if_neg h1, if_neg h3, if_pos h4]; rfl
        rw [e]
        simp only [Try.f25, encO, am, simprocAttr, tys]
        refine ACall.of (c) [] [] rfl (by simp) (by simp) (by simp) (by repeat' (first | exact trivial | exact .inl rfl | exact .inr rfl | exact .inr ⟨rfl, rfl, rfl, by simp; done⟩ | exact .inr ⟨rfl, by simp; done⟩ | exact .inr ⟨rfl, rfl, by simp; done⟩ | apply And.intro)) (by repeat' (first | exact trivial | rfl | exact (tkC_ren.1 _ _).symm | (simp; done) | apply And.intro)) (by first | exact .inl rfl | (refine .inr ⟨trivial, ?_⟩; first | (intro row h; rcases List.mem_singleton.1 h with rfl; exact nvB _) | (intro row h; cases h; done) | (simp; done)) | (refine .inr ⟨by simp [nvP, nvP.nvPs, nvD, nilS, errno], ?_⟩; first | (intro row h; rcases List.mem_singleton.1 h with rfl; exact nvB _) | (intro row h; cases h; done) | (simp [nvRow, nvD, nvP]; done))) ?_
        simp only [bool, c1, d1, c3, d3, c4, d4, am, simprocAttr, tys]
        refine ACall.of (matchPut o.2.2.2.1 h.a h.ax ha) [] [] rfl (by simp) (by simp) (by simp) (by repeat' (first | exact trivial | exact .inl rfl | exact .inr rfl | exact .inr ⟨rfl, rfl, rfl, by simp; done⟩ | exact .inr ⟨rfl, by simp; done⟩ | exact .inr ⟨rfl, rfl, by simp; done⟩ | apply And.intro)) (by repeat' (first | exact trivial | rfl | exact (tkC_ren.1 _ _).symm | (simp; done) | apply And.intro)) (by first | exact .inl rfl | (refine .inr ⟨trivial, ?_⟩; first | (intro row h; rcases List.mem_singleton.1 h with rfl; exact nvB _) | (intro row h; cases h; done) | (simp; done)) | (refine .inr ⟨by simp [nvP, nvP.nvPs, nvD, nilS, errno], ?_⟩; first | (intro row h; rcases List.mem_singleton.1 h with rfl; exact nvB _) | (intro row h; cases h; done) | (simp [nvRow, nvD, nvP]; done))) ?_
        simp only [errno, eb1, ← List.map_append, FinR, evRes, evRVs, evRV, am, simprocAttr, tys]
        exact ⟨by simp; omega, ⟨_, [], [3], rfl, ⟨rfl, rfl, by simp, (fun i hi => absurd hi (Nat.not_lt_zero _)), trivial, ⟨.inr ⟨by decide, rfl⟩, trivial⟩, rfl, by decide, rfl, (by first | rfl | simp [scRow, tkC_scs])⟩, rfl, rfl⟩⟩
      · have d4 : decide (o.1 = 4) = false := decide_eq_false h4
        have e : putO o = [o.1] := by unfold putO; rw [if_neg h1, if_neg h3, if_neg h4]
        rw [e]
        simp only [Try.f25, encO, am, simprocAttr, tys]
        refine ACall.of (c) [] [] rfl (by simp) (by simp) (by simp) (by repeat' (first | exact trivial | exact .inl rfl | exact .inr rfl | exact .inr ⟨rfl, rfl, rfl, by simp; done⟩ | exact .inr ⟨rfl, by simp; done⟩ | exact .inr ⟨rfl, rfl, by simp; done⟩ | apply And.intro)) (by repeat' (first | exact trivial | rfl | exact (tkC_ren.1 _ _).symm | (simp; done) | apply And.intro)) (by first | exact .inl rfl | (refine .inr ⟨trivial, ?_⟩; first | (intro row h; rcases List.mem_singleton.1 h with rfl; exact nvB _) | (intro row h; cases h; done) | (simp; done)) | (refine .inr ⟨by simp [nvP, nvP.nvPs, nvD, nilS, errno], ?_⟩; first | (intro row h; rcases List.mem_singleton.1 h with rfl; exact nvB _) | (intro row h; cases h; done) | (simp [nvRow, nvD, nvP]; done))) ?_
        simp only [bool, c1, d1, c3, d3, c4, d4, errno, FinR, evRes, evRVs, evRV, am, simprocAttr, tys]
        exact ⟨_, [], [1], rfl, ⟨rfl, rfl, by simp, (fun i hi => absurd hi (Nat.not_lt_zero _)), trivial, ⟨.inr ⟨by decide, rfl⟩, trivial⟩, rfl, by decide, rfl, (by first | rfl | simp [scRow, tkC_scs])⟩, rfl, rfl⟩

theorem refOPutN (o : OpT) (h : FitI o) (hr : rightO o = false) : AFun Try.prog 28 [.d (.agg (encO o))] [] (.tup [nilS, errno 1]) [] := by
  refine AFun.of_walk hP Try.func28 rfl rfl rfl (by simp) rfl ?_
  have c := refORight o h.toFit
  rw [hr] at c
  simp only [encO] at c
  simp only [Try.f28, encO, am, simprocAttr, tys]
  refine ACall.of (c) [] [] rfl (by simp) (by simp) (by simp) (by repeat' (first | exact trivial | exact .inl rfl | exact .inr rfl | exact .inr ⟨rfl, rfl, rfl, by simp; done⟩ | exact .inr ⟨rfl, by simp; done⟩ | exact .inr ⟨rfl, rfl, by simp; done⟩ | apply And.intro)) (by repeat' (first | exact trivial | rfl | exact (tkC_ren.1 _ _).symm | (simp; done) | apply And.intro)) (by first | exact .inl rfl | (refine .inr ⟨trivial, ?_⟩; first | (intro row h; rcases List.mem_singleton.1 h with rfl; exact nvB _) | (intro row h; cases h; done) | (simp; done)) | (refine .inr ⟨by simp [nvP, nvP.nvPs, nvD, nilS, errno], ?_⟩; first | (intro row h; rcases List.mem_singleton.1 h with rfl; exact nvB _) | (intro row h; cases h; done) | (simp [nvRow, nvD, nvP]; done))) ?_
  simp only [bool, nilS, errno, FinR, evRes, evRVs, evRV, am, simprocAttr, tys]
  exact ⟨_, [], [], rfl, Ent.plain rfl rfl rfl trivial rfl, rfl, rfl⟩

set_option maxRecDepth 8000 in
set_option maxHeartbeats 1000000 in
theorem refOPut (o : OpT) (h : FitI o) (hr : rightO o = true) : AFun Try.prog 28 [.d (.agg (encO o))] [] (.tup [.own 0, errno 0]) [.own 1 ((putO o).map encB)] := by
  refine AFun.of_walk hP Try.func28 rfl rfl rfl (by simp) rfl ?_
  have c := refORight o h.toFit
  rw [hr] at c
  simp only [encO] at c
  have c1 : ((o.1.toNat : Int) == 1) = decide (o.1 = 1) := u8eq o.1 1 (by omega)
  have c3 : ((o.1.toNat : Int) == 3) = decide (o.1 = 3) := u8eq o.1 3 (by omega)
  have c4 : ((o.1.toNat : Int) == 4) = decide (o.1 = 4) := u8eq o.1 4 (by omega)
  have l1 := lebI_len _ h.p1
  have l2 := lebI_len _ h.p2
  have eb1 : [[DV.lit (.int .u8 (o.1.toNat : Int))]] = [o.1].map encB := rfl
  by_cases h1 : o.1 = 1
  · have d1 : decide (o.1 = 1) = true := decide_eq_true h1
    have hl : rightL o.2.1 = true := by unfold rightO at hr; rw [if_pos h1] at hr; exact (Bool.and_eq_true _ _ ▸ hr).1
    have hpl := putLb_len hl
    have e : putO o = ([o.1] ++ putLb o.2.1) ++ lebI o.2.2.1.1 ++ lebI o.2.2.1.2.1 := by unfold putO; rw [if_pos h1]; simp
    have q1 := refPutInt ([o.1] ++ putLb o.2.1) o.2.2.1.1 (by rw [List.length_append]; simp; omega) h.p1
    have q2 := refPutInt ([o.1] ++ putLb o.2.1 ++ lebI o.2.2.1.1) o.2.2.1.2.1 (by rw [List.length_append, List.length_append]; simp; omega) h.p2
    rw [e]
    simp only [Try.f28, encO, am, simprocAttr, tys]
    refine ACall.of (c) [] [] rfl (by simp) (by simp) (by simp) (by repeat' (first | exact trivial | exact .inl rfl | exact .inr rfl | exact .inr ⟨rfl, rfl, rfl, by simp; done⟩ | exact .inr ⟨rfl, by simp; done⟩ | exact .inr ⟨rfl, rfl, by simp; done⟩ | apply And.intro)) (by repeat' (first | exact trivial | rfl | exact (tkC_ren.1 _ _).symm | (simp; done) | apply And.intro)) (by first | exact .inl rfl | (refine .inr ⟨trivial, ?_⟩; first | (intro row h; rcases List.mem_singleton.1 h with rfl; exact nvB _) | (intro row h; cases h; done) | (simp; done)) | (refine .inr ⟨by simp [nvP, nvP.nvPs, nvD, nilS, errno], ?_⟩; first | (intro row h; rcases List.mem_singleton.1 h with rfl; exact nvB _) | (intro row h; cases h; done) | (simp [nvRow, nvD, nvP]; done))) ?_
    simp only [bool, c1, d1, am, simprocAttr, tys]
    refine ACall.of (refLPut o.2.1 h.l h.lx hl) [] [] rfl (by simp) (by simp) (by simp) (by repeat' (first | exact trivial | exact .inl rfl | exact .inr rfl | exact .inr ⟨rfl, rfl, rfl, by simp; done⟩ | exact .inr ⟨rfl, by simp; done⟩ | exact .inr ⟨rfl, rfl, by simp; done⟩ | apply And.intro)) (by repeat' (first | exact trivial | rfl | exact (tkC_ren.1 _ _).symm | (simp; done) | apply And.intro)) (by first | exact .inl rfl | (refine .inr ⟨trivial, ?_⟩; first | (intro row h; rcases List.mem_singleton.1 h with rfl; exact nvB _) | (intro row h; cases h; done) | (simp; done)) | (refine .inr ⟨by simp [nvP, nvP.nvPs, nvD, nilS, errno], ?_⟩; first | (intro row h; rcases List.mem_singleton.1 h with rfl; exact nvB _) | (intro row h; cases h; done) | (simp [nvRow, nvD, nvP]; done))) ?_
    simp only [errno, eb1, ← List.map_append, am, simprocAttr, tys]
    refine ⟨by simp; omega, ?_⟩
    refine ACall.of (q1) [] [3] rfl (by simp) (by simp) (by simp) (by repeat' (first | exact trivial | exact .inl rfl | exact .inr rfl | exact .inr ⟨rfl, rfl, rfl, by simp; done⟩ | exact .inr ⟨rfl, by simp; done⟩ | exact .inr ⟨rfl, rfl, by simp; done⟩ | apply And.intro)) (by repeat' (first | exact trivial | rfl | exact (tkC_ren.1 _ _).symm | (simp; done) | apply And.intro)) (by first | exact .inl rfl | (refine .inr ⟨trivial, ?_⟩; first | (intro row h; rcases List.mem_singleton.1 h with rfl; exact nvB _) | (intro row h; cases h; done) | (simp; done)) | (refine .inr ⟨by simp [nvP, nvP.nvPs, nvD, nilS, errno], ?_⟩; first | (intro row h; rcases List.mem_singleton.1 h with rfl; exact nvB _) | (intro row h; cases h; done) | (simp [nvRow, nvD, nvP]; done))) ?_
    simp only [am, simprocAttr, tys]
    refine ACall.of (q2) [] [4] rfl (by simp) (by simp) (by simp) (by repeat' (first | exact trivial | exact .inl rfl | exact .inr rfl | exact .inr ⟨rfl, rfl, rfl, by simp; done⟩ | exact .inr ⟨rfl, by simp; done⟩ | exact .inr ⟨rfl, rfl, by simp; done⟩ | apply And.intro)) (by repeat' (first | exact trivial | rfl | exact (tkC_ren.1 _ _).symm | (simp; done) | apply And.intro)) (by first | exact .inl rfl | (refine .inr ⟨trivial, ?_⟩; first | (intro row h; rcases List.mem_singleton.1 h with rfl; exact nvB _) | (intro row h; cases h; done) | (simp; done)) | (refine .inr ⟨by simp [nvP, nvP.nvPs, nvD, nilS, errno], ?_⟩; first | (intro row h; rcases List.mem_singleton.1 h with rfl; exact nvB _) | (intro row h; cases h; done) | (simp [nvRow, nvD, nvP]; done))) ?_
    simp only [errno, FinR, evRes, evRVs, evRV, am, simprocAttr, tys]
    exact ⟨_, [], [5], rfl, ⟨rfl, rfl, by simp, (fun i hi => absurd hi (Nat.not_lt_zero _)), trivial, ⟨.inr ⟨by decide, rfl⟩, trivial⟩, rfl, by decide, rfl, (by first | rfl | simp [scRow, tkC_scs])⟩, rfl, rfl⟩
  · have d1 : decide (o.1 = 1) = false := decide_eq_false h1
    by_cases h3 : o.1 = 3
    · have d3 : decide (o.1 = 3) = true := decide_eq_true h3
      have e : putO o = [o.1] ++ lebI o.2.2.1.1 := by unfold putO; rw [if_neg h1, if_pos h3]; rfl
      have q1 := refPutInt [o.1] o.2.2.1.1 (by simp) h.p1
      rw [e]
      simp only [Try.f28, encO, am, simprocAttr, tys]
      refine ACall.of (c) [] [] rfl (by simp) (by simp) (by simp) (by repeat' (first | exact trivial | exact .inl rfl | exact .inr rfl | exact .inr ⟨rfl, rfl, rfl, by simp; done⟩ | exact .inr ⟨rfl, by simp; done⟩ | exact .inr ⟨rfl, rfl, by simp; done⟩ | apply And.intro)) (by repeat' (first | exact trivial | rfl | exact (tkC_ren.1 _ _).symm | (simp; done) | apply And.intro)) (by first | exact .inl rfl | (refine .inr ⟨trivial, ?_⟩; first | (intro row h; rcases List.mem_singleton.1 h with rfl; exact nvB _) | (intro row h; cases h; done) | (simp; done)) | (refine .inr ⟨by simp [nvP, nvP.nvPs, nvD, nilS, errno], ?_⟩; first | (intro row h; rcases List.mem_singleton.1 h with rfl; exact nvB _) | (intro row h; cases h; done) | (simp [nvRow, nvD, nvP]; done))) ?_
      simp only [bool, c1, d1, c3, d3, am, simprocAttr, tys]
      refine ACall.of (q1) [] [1] rfl (by simp) (by simp) (by simp) (by repeat' (first | exact trivial | exact .inl rfl | exact .inr rfl | exact .inr ⟨rfl, rfl, rfl, by simp; done⟩ | exact .inr ⟨rfl, by simp; done⟩ | exact .inr ⟨rfl, rfl, by simp; done⟩ | apply And.intro)) (by repeat' (first | exact trivial | rfl | exact (tkC_ren.1 _ _).symm | (simp; done) | apply And.intro)) (by first | exact .inl rfl | (refine .inr ⟨trivial, ?_⟩; first | (intro row h; rcases List.mem_singleton.1 h with rfl; exact nvB _) | (intro row h; cases h; done) | (simp; done)) | (refine .inr ⟨by simp [nvP, nvP.nvPs, nvD, nilS, errno], ?_⟩; first | (intro row h; rcases List.mem_singleton.1 h with rfl; exact nvB _) | (intro row h; cases h; done) | (simp [nvRow, nvD, nvP]; done))) ?_
      simp only [errno, FinR, evRes, evRVs, evRV, am, simprocAttr, tys]
      exact ⟨_, [], [2], rfl, ⟨rfl, rfl, by simp, (fun i hi => absurd hi (Nat.not_lt_zero _)), trivial, ⟨.inr ⟨by decide, rfl⟩, trivial⟩, rfl, by decide, rfl, (by first | rfl | simp [scRow, tkC_scs])⟩, rfl, rfl⟩
    · have d3 : decide (o.1 = 3) = false := decide_eq_false h3
      by_cases h4 : o.1 = 4
      · have d4 : decide (o.1 = 4) = true := decide_eq_true h4
        have ha : rightA o.2.2.2.1 = true := by unfold rightO at hr; rw [if_neg h1, if_pos h4] at hr; exact (Bool.and_eq_true _ _ ▸ hr).1
        have hpl := putA_len ha
        have e : putO o = [o.1] ++ putA o.2.2.2.1 := by unfold putO; rw [if_neg h1, if_neg h3, if_pos h4]; rfl
        rw [e]
        simp only [Try.f28, encO, am, simprocAttr, tys]
        refine ACall.of (c) [] [] rfl (by simp) (by simp) (by simp) (by repeat' (first | exact trivial | exact .inl rfl | exact .inr rfl | exact .inr ⟨rfl, rfl, rfl, by simp; done⟩ | exact .inr ⟨rfl, by simp; done⟩ | exact .inr ⟨rfl, rfl, by simp; done⟩ | apply And.intro)) (by repeat' (first | exact trivial | rfl | exact (tkC_ren.1 _ _).symm | (simp; done) | apply And.intro)) (by first | exact .inl rfl | (refine .inr ⟨trivial, ?_⟩; first | (intro row h; rcases List.mem_singleton.1 h with rfl; exact nvB _) | (intro row h; cases h; done) | (simp; done)) | (refine .inr ⟨by simp [nvP, nvP.nvPs, nvD, nilS, errno], ?_⟩; first | (intro row h; rcases List.mem_singleton.1 h with rfl; exact nvB _) | (intro row h; cases h; done) | (simp [nvRow, nvD, nvP]; done))) ?_
        simp only [bool, c1, d1, c3, d3, c4, d4, am, simprocAttr, tys]
        refine ACall.of (refMPut o.2.2.2.1 h.a h.ax ha) [] [] rfl (by simp) (by simp) (by simp) (by repeat' (first | exact trivial | exact .inl rfl | exact .inr rfl | exact .inr ⟨rfl, rfl, rfl, by simp; done⟩ | exact .inr ⟨rfl, by simp; done⟩ | exact .inr ⟨rfl, rfl, by simp; done⟩ | apply And.intro)) (by repeat' (first | exact trivial | rfl | exact (tkC_ren.1 _ _).symm | (simp; done) | apply And.intro)) (by first | exact .inl rfl | (refine .inr ⟨trivial, ?_⟩; first | (intro row h; rcases List.mem_singleton.1 h with rfl; exact nvB _) | (intro row h; cases h; done) | (simp; done)) | (refine .inr ⟨by simp [nvP, nvP.nvPs, nvD, nilS, errno], ?_⟩; first | (intro row h; rcases List.mem_singleton.1 h with rfl; exact nvB _) | (intro row h; cases h; done) | (simp [nvRow, nvD, nvP]; done))) ?_
        simp only [errno, eb1, ← List.map_append, FinR, evRes, evRVs, evRV, am, simprocAttr, tys]
        exact ⟨by simp; omega, ⟨_, [], [3], rfl, ⟨rfl, rfl, by simp, (fun i hi => absurd hi (Nat.not_lt_zero _)), trivial, ⟨.inr ⟨by decide, rfl⟩, trivial⟩, rfl, by decide, rfl, (by first | rfl | simp [scRow, tkC_scs])⟩, rfl, rfl⟩⟩
      · have d4 : decide (o.1 = 4) = false := decide_eq_false h4
        have e : putO o = [o.1] := by unfold putO; rw [if_neg h1, if_neg h3, if_neg h4]
        rw [e]
        simp only [Try.f28, encO, am, simprocAttr, tys]
        refine ACall.of (c) [] [] rfl (by simp) (by simp) (by simp) (by repeat' (first | exact trivial | exact .inl rfl | exact .inr rfl | exact .inr ⟨rfl, rfl, rfl, by simp; done⟩ | exact .inr ⟨rfl, by simp; done⟩ | exact .inr ⟨rfl, rfl, by simp; done⟩ | apply And.intro)) (by repeat' (first | exact trivial | rfl | exact (tkC_ren.1 _ _).symm | (simp; done) | apply And.intro)) (by first | exact .inl rfl | (refine .inr ⟨trivial, ?_⟩; first | (intro row h; rcases List.mem_singleton.1 h with rfl; exact nvB _) | (intro row h; cases h; done) | (simp; done)) | (refine .inr ⟨by simp [nvP, nvP.nvPs, nvD, nilS, errno], ?_⟩; first | (intro row h; rcases List.mem_singleton.1 h with rfl; exact nvB _) | (intro row h; cases h; done) | (simp [nvRow, nvD, nvP]; done))) ?_
        simp only [bool, c1, d1, c3, d3, c4, d4, errno, FinR, evRes, evRVs, evRV, am, simprocAttr, tys]
        exact ⟨_, [], [1], rfl, ⟨rfl, rfl, by simp, (fun i hi => absurd hi (Nat.not_lt_zero _)), trivial, ⟨.inr ⟨by decide, rfl⟩, trivial⟩, rfl, by decide, rfl, (by first | rfl | simp [scRow, tkC_scs])⟩, rfl, rfl⟩
end Go.Proofs.Ytflpphgccjlkjaa

set_option linter.unusedSimpArgs false
set_option linter.unusedVariables false
namespace Go.Proofs.Ytflpphgccjlkjaa
open Go Go.AM
theorem wfI64 {n : Int} (h : (Lit.int .i64 n).wf = true) : I64 n := by
  simp only [Lit.wf, Bool.and_eq_true, decide_eq_true_eq] at h
  exact h
theorem AFun.arg1 {f : Nat} {p p' : PV} {r : PV} {out : List Row} (h : AFun Try.prog f [p] [] r out) (hp : ∀ rows β w X v, repP rows β w X p' v → repP rows β w X p v) : AFun Try.prog f [p'] [] r out := by
  intro B β X w vs hk h0 hm hq
  refine h B β X w vs hk h0 hm ?_
  unfold repPs at *
  obtain ⟨u, us, e, h1, h2⟩ := hq
  exact ⟨u, us, e, hp _ _ _ _ _ h1, h2⟩
theorem nil_rep (sz : Nat) (w : World) (X : Nat → Prop) (v : Value) (h : rep w X (.lit (.slice none 0 0)) v) : rep w X (.sl sz []) v := by
  have := nil_sl sz (lrows []) (fun _ => ⟨none, 0⟩) w X v (by unfold repP; exact h)
  unfold repP at this; exact this
theorem nilO {a b c : DV} (rows : AM.Rows) (β : Nat → AM.Loc) (w : World) (X : Nat → Prop) (v : Value) (h : repP rows β w X (.d (.agg [a, .lit (.slice none 0 0), b, c, .lit (.slice none 0 0)])) v) : repP rows β w X (.d (.agg [a, .sl 2 [], b, c, .sl 3 []])) v := by
  unfold repP rep at *
  obtain ⟨vs, e, h⟩ := h
  refine ⟨vs, e, ?_⟩
  simp only [reps] at *
  obtain ⟨u1, s1, e1, o1, r1, u2, s2, e2, o2, r2, u3, s3, e3, o3, r3, u4, s4, e4, o4, r4, u5, s5, e5, o5, r5, e6⟩ := h
  exact ⟨u1, s1, e1, o1, r1, u2, s2, e2, o2, nil_rep 2 w X u2 r2, u3, s3, e3, o3, r3, u4, s4, e4, o4, r4, u5, s5, e5, o5, nil_rep 3 w X u5 r5, e6⟩
end Go.Proofs.Ytflpphgccjlkjaa

set_option linter.unusedSimpArgs false
set_option linter.unusedVariables false
namespace Go.Proofs.Ytflpphgccjlkjaa
open Go Go.AM

/-! ## labels of bytes -/
def decLab (bs : List UInt8) : Option (Lab × List UInt8) :=
  match takeText bs with
  | none => none
  | some (s, r1) => match takeText r1 with
    | none => none
    | some (v, r2) => some ((s, v, ()), r2)
theorem decLab_some (bs : List UInt8) (x : Lab) (r : List UInt8) (h : decLab bs = some (x, r)) : bs = encLab x ++ r := by
  unfold decLab at h
  split at h
  · cases h
  · rename_i s r1 h1
    split at h
    · cases h
    · rename_i v r2 h2
      simp only [Option.some.injEq, Prod.mk.injEq] at h
      obtain ⟨rfl, rfl⟩ := h
      rw [(takeText_some h1).1, (takeText_some h2).1]
      simp [encLab]
theorem decLab_enc (x : Lab) (h1 : x.1.length < 18446744073709551616) (h2 : x.2.1.length < 18446744073709551616) (r : List UInt8) : decLab (encLab x ++ r) = some (x, r) := by
  unfold encLab decLab
  simp only [List.append_assoc, takeText_lebT _ _ h1, takeText_lebT _ _ h2]

def takeLb (b : List UInt8) : Option (List Lab × List UInt8) := takeL decLab rightL 6 b
theorem takeLb_some {b : List UInt8} {l : List Lab} {r : List UInt8} (h : takeLb b = some (l, r)) : rightL l = true ∧ b = putLb l ++ r := takeL_some encLab decLab decLab_some h
theorem takeLb_put (l : List Lab) (r : List UInt8) (h : rightL l = true) : takeLb (putLb l ++ r) = some (l, r) := by
  obtain ⟨h8, _, hall⟩ := rightL_len h
  refine takeL_put encLab decLab r h h8 (by omega) fun x hx r => ?_
  obtain ⟨h1, h2⟩ := hall x hx
  exact decLab_enc x (by omega) (by omega) r
theorem takeLb_none (b : List UInt8) (h : ∀ l r, rightL l = true → b = putLb l ++ r → False) : takeLb b = none := by
  rcases hk : takeLb b with _ | ⟨l, r⟩
  · rfl
  · obtain ⟨h1, h2⟩ := takeLb_some hk
    exact (h l r h1 h2).elim
theorem putLb_inj {l m : List Lab} (h1 : rightL l = true) (h2 : rightL m = true) (h : putLb l = putLb m) : l = m := by
  have e1 := takeLb_put l [] h1
  have e2 := takeLb_put m [] h2
  rw [h, e2] at e1
  simpa using e1.symm

end Go.Proofs.Ytflpphgccjlkjaa

set_option linter.unusedSimpArgs false
set_option linter.unusedVariables false
namespace Go.Proofs.Ytflpphgccjlkjaa
open Go Go.AM

/-! ## the number of bits -/
def bl (n : Nat) : Nat := if n = 0 then 0 else n.log2 + 1
theorem bl_le (n k : Nat) : bl n ≤ k ↔ n < 2 ^ k := by
  unfold bl
  split
  · rename_i h; subst h; simp [Nat.pow_pos]
  · rename_i h
    rw [← Nat.log2_lt h]; omega
theorem bl_shift (n k : Nat) (h : 2 ^ k ≤ n) : bl n = bl (n / 2 ^ k) + k := by
  have hk : 0 < 2 ^ k := Nat.pow_pos (by omega)
  apply Nat.le_antisymm
  · rw [bl_le]
    have := (bl_le (n / 2 ^ k) _).1 (Nat.le_refl _)
    rw [Nat.pow_add]
    exact (Nat.div_lt_iff_lt_mul hk).1 this
  · have h0 : n / 2 ^ k ≠ 0 := by
      have := Nat.div_pos h hk; omega
    have h1 : k < bl n := by
      rcases Nat.lt_or_ge k (bl n) with h1 | h1
      · exact h1
      · have := (bl_le n k).1 h1; omega
    have : bl (n / 2 ^ k) ≤ bl n - k := by
      rw [bl_le]
      have := (bl_le n _).1 (Nat.le_refl _)
      rw [Nat.div_lt_iff_lt_mul hk, ← Nat.pow_add]
      rwa [show bl n - k + k = bl n from by omega]
    omega
theorem tab_eq : ∀ m, m < 256 → ([0, 1, 2, 2, 3, 3, 3, 3, 4, 4, 4, 4, 4, 4, 4, 4, 5, 5, 5, 5, 5, 5, 5, 5, 5, 5, 5, 5, 5, 5, 5, 5, 6, 6, 6, 6, 6, 6, 6, 6, 6, 6, 6, 6, 6, 6, 6, 6, 6, 6, 6, 6, 6, 6, 6, 6, 6, 6, 6, 6, 6, 6, 6, 6, 7, 7, 7, 7, 7, 7, 7, 7, 7, 7, 7, 7, 7, 7, 7, 7, 7, 7, 7, 7, 7, 7, 7, 7, 7, 7, 7, 7, 7, 7, 7, 7, 7, 7, 7, 7, 7, 7, 7, 7, 7, 7, 7, 7, 7, 7, 7, 7, 7, 7, 7, 7, 7, 7, 7, 7, 7, 7, 7, 7, 7, 7, 7, 7, 8, 8, 8, 8, 8, 8, 8, 8, 8, 8, 8, 8, 8, 8, 8, 8, 8, 8, 8, 8, 8, 8, 8, 8, 8, 8, 8, 8, 8, 8, 8, 8, 8, 8, 8, 8, 8, 8, 8, 8, 8, 8, 8, 8, 8, 8, 8, 8, 8, 8, 8, 8, 8, 8, 8, 8, 8, 8, 8, 8, 8, 8, 8, 8, 8, 8, 8, 8, 8, 8, 8, 8, 8, 8, 8, 8, 8, 8, 8, 8, 8, 8, 8, 8, 8, 8, 8, 8, 8, 8, 8, 8, 8, 8, 8, 8, 8, 8, 8, 8, 8, 8, 8, 8, 8, 8, 8, 8, 8, 8, 8, 8, 8, 8, 8, 8, 8, 8, 8, 8, 8, 8, 8, 8, 8, 8, 8, 8] : List UInt8).getD m 0 = UInt8.ofNat (bl m) := by decide +kernel

theorem sr64n (n k : Nat) (hk : k ≤ 64) : (n : Int).fdiv (2 ^ min k IntKind.u64.bits) = ((n / 2 ^ k : Nat) : Int) := by
  show (n : Int).fdiv (2 ^ min k 64) = _
  rw [Nat.min_eq_left hk, fdiv_nat, Nat.shiftRight_eq_div_pow]

theorem bl8 (m : Nat) (h : m < 256) : bl m ≤ 8 := (bl_le m 8).2 (by omega)
theorem bl_u8 (m : Nat) (h : m < 256) : ((UInt8.ofNat (bl m)).toNat : Int) = bl m := by
  have := bl8 m h
  rw [u8ofNat _ (by omega)]

theorem i64c : IntKind.i64.wrap 0 = 0 ∧ IntKind.i64.wrap 8 = 8 ∧ IntKind.i64.wrap 16 = 16 ∧ IntKind.i64.wrap 24 = 24 ∧ IntKind.i64.wrap 32 = 32 ∧ IntKind.i64.wrap 40 = 40 ∧ IntKind.i64.wrap 48 = 48 ∧ IntKind.i64.wrap 56 = 56 := by decide
set_option maxRecDepth 20000 in
theorem len64 (n : Nat) (hn : n < 18446744073709551616) : AFun Try.prog 64 [u64 n] [] (int (bl n)) [] := by
  refine AFun.of_walk hP Try.func64 rfl rfl rfl (by simp) rfl ?_
  rcases Nat.lt_or_ge (n) 4294967296 with h0 | h0
  · have g0 : ¬ ((4294967296 : Int) ≤ ((n : Nat) : Int)) := by omega
    rcases Nat.lt_or_ge (n) 65536 with h1 | h1
    · have g1 : ¬ ((65536 : Int) ≤ ((n : Nat) : Int)) := by omega
      rcases Nat.lt_or_ge (n) 256 with h2 | h2
      · have g2 : ¬ ((256 : Int) ≤ ((n : Nat) : Int)) := by omega
        have hm : n < 256 := by omega
        have hb := bl8 (n) hm
        have w1 : IntKind.u8.wrap ((n : Nat) : Int) = ((n : Nat) : Int) := by rw [IntKind.wrap_u8]; omega
        have w2 : IntKind.i64.wrap ((bl (n) : Nat) : Int) = bl (n) := IntWalk.i64_in _ (by omega)
        have w3 : IntKind.i64.wrap ((0 : Int) + bl (n)) = bl n := by rw [IntWalk.i64_in _ (by omega)]; omega
        simp only [Try.f64, u64, sr64n _ 32 (by omega), sr64n _ 16 (by omega), sr64n _ 8 (by omega), g0, g1, g2, w1, w2, w3, bl_size, Int.natCast_nonneg, Int.toNat_natCast, tab_eq _ hm, bl_u8 _ hm, i64c, List.append_eq, List.length_cons, List.length_nil, FinR, evRes, evRVs, evRV, am, simprocAttr, tys]
        exact ⟨by omega, _, [], [], rfl, Ent.plain rfl rfl rfl trivial rfl, rfl, rfl⟩
      · have g2 : ((256 : Int) ≤ ((n : Nat) : Int)) := by omega
        have b2 := bl_shift (n) 8 (by omega)
        have hm : n / 2 ^ 8 < 256 := by omega
        have hb := bl8 (n / 2 ^ 8) hm
        have w1 : IntKind.u8.wrap ((n / 2 ^ 8 : Nat) : Int) = ((n / 2 ^ 8 : Nat) : Int) := by rw [IntKind.wrap_u8]; omega
        have w2 : IntKind.i64.wrap ((bl (n / 2 ^ 8) : Nat) : Int) = bl (n / 2 ^ 8) := IntWalk.i64_in _ (by omega)
        have w3 : IntKind.i64.wrap ((8 : Int) + bl (n / 2 ^ 8)) = bl n := by rw [IntWalk.i64_in _ (by omega)]; omega
        simp only [Try.f64, u64, sr64n _ 32 (by omega), sr64n _ 16 (by omega), sr64n _ 8 (by omega), g0, g1, g2, w1, w2, w3, bl_size, Int.natCast_nonneg, Int.toNat_natCast, tab_eq _ hm, bl_u8 _ hm, i64c, List.append_eq, List.length_cons, List.length_nil, FinR, evRes, evRVs, evRV, am, simprocAttr, tys]
        exact ⟨by omega, _, [], [], rfl, Ent.plain rfl rfl rfl trivial rfl, rfl, rfl⟩
    · have g1 : ((65536 : Int) ≤ ((n : Nat) : Int)) := by omega
      have b1 := bl_shift (n) 16 (by omega)
      rcases Nat.lt_or_ge (n / 2 ^ 16) 256 with h2 | h2
      · have g2 : ¬ ((256 : Int) ≤ ((n / 2 ^ 16 : Nat) : Int)) := by omega
        have hm : n / 2 ^ 16 < 256 := by omega
        have hb := bl8 (n / 2 ^ 16) hm
        have w1 : IntKind.u8.wrap ((n / 2 ^ 16 : Nat) : Int) = ((n / 2 ^ 16 : Nat) : Int) := by rw [IntKind.wrap_u8]; omega
        have w2 : IntKind.i64.wrap ((bl (n / 2 ^ 16) : Nat) : Int) = bl (n / 2 ^ 16) := IntWalk.i64_in _ (by omega)
        have w3 : IntKind.i64.wrap ((16 : Int) + bl (n / 2 ^ 16)) = bl n := by rw [IntWalk.i64_in _ (by omega)]; omega
        simp only [Try.f64, u64, sr64n _ 32 (by omega), sr64n _ 16 (by omega), sr64n _ 8 (by omega), g0, g1, g2, w1, w2, w3, bl_size, Int.natCast_nonneg, Int.toNat_natCast, tab_eq _ hm, bl_u8 _ hm, i64c, List.append_eq, List.length_cons, List.length_nil, FinR, evRes, evRVs, evRV, am, simprocAttr, tys]
        exact ⟨by omega, _, [], [], rfl, Ent.plain rfl rfl rfl trivial rfl, rfl, rfl⟩
      · have g2 : ((256 : Int) ≤ ((n / 2 ^ 16 : Nat) : Int)) := by omega
        have b2 := bl_shift (n / 2 ^ 16) 8 (by omega)
        have hm : (n / 2 ^ 16) / 2 ^ 8 < 256 := by omega
        have hb := bl8 ((n / 2 ^ 16) / 2 ^ 8) hm
        have w1 : IntKind.u8.wrap (((n / 2 ^ 16) / 2 ^ 8 : Nat) : Int) = (((n / 2 ^ 16) / 2 ^ 8 : Nat) : Int) := by rw [IntKind.wrap_u8]; omega
        have w2 : IntKind.i64.wrap ((bl ((n / 2 ^ 16) / 2 ^ 8) : Nat) : Int) = bl ((n / 2 ^ 16) / 2 ^ 8) := IntWalk.i64_in _ (by omega)
        have w3 : IntKind.i64.wrap ((24 : Int) + bl ((n / 2 ^ 16) / 2 ^ 8)) = bl n := by rw [IntWalk.i64_in _ (by omega)]; omega
        simp only [Try.f64, u64, sr64n _ 32 (by omega), sr64n _ 16 (by omega), sr64n _ 8 (by omega), g0, g1, g2, w1, w2, w3, bl_size, Int.natCast_nonneg, Int.toNat_natCast, tab_eq _ hm, bl_u8 _ hm, i64c, List.append_eq, List.length_cons, List.length_nil, FinR, evRes, evRVs, evRV, am, simprocAttr, tys]
        exact ⟨by omega, _, [], [], rfl, Ent.plain rfl rfl rfl trivial rfl, rfl, rfl⟩
  · have g0 : ((4294967296 : Int) ≤ ((n : Nat) : Int)) := by omega
    have b0 := bl_shift (n) 32 (by omega)
    rcases Nat.lt_or_ge (n / 2 ^ 32) 65536 with h1 | h1
    · have g1 : ¬ ((65536 : Int) ≤ ((n / 2 ^ 32 : Nat) : Int)) := by omega
      rcases Nat.lt_or_ge (n / 2 ^ 32) 256 with h2 | h2
      · have g2 : ¬ ((256 : Int) ≤ ((n / 2 ^ 32 : Nat) : Int)) := by omega
        have hm : n / 2 ^ 32 < 256 := by omega
        have hb := bl8 (n / 2 ^ 32) hm
        have w1 : IntKind.u8.wrap ((n / 2 ^ 32 : Nat) : Int) = ((n / 2 ^ 32 : Nat) : Int) := by rw [IntKind.wrap_u8]; omega
        have w2 : IntKind.i64.wrap ((bl (n / 2 ^ 32) : Nat) : Int) = bl (n / 2 ^ 32) := IntWalk.i64_in _ (by omega)
        have w3 : IntKind.i64.wrap ((32 : Int) + bl (n / 2 ^ 32)) = bl n := by rw [IntWalk.i64_in _ (by omega)]; omega
        simp only [Try.f64, u64, sr64n _ 32 (by omega), sr64n _ 16 (by omega), sr64n _ 8 (by omega), g0, g1, g2, w1, w2, w3, bl_size, Int.natCast_nonneg, Int.toNat_natCast, tab_eq _ hm, bl_u8 _ hm, i64c, List.append_eq, List.length_cons, List.length_nil, FinR, evRes, evRVs, evRV, am, simprocAttr, tys]
        exact ⟨by omega, _, [], [], rfl, Ent.plain rfl rfl rfl trivial rfl, rfl, rfl⟩
      · have g2 : ((256 : Int) ≤ ((n / 2 ^ 32 : Nat) : Int)) := by omega
        have b2 := bl_shift (n / 2 ^ 32) 8 (by omega)
        have hm : (n / 2 ^ 32) / 2 ^ 8 < 256 := by omega
        have hb := bl8 ((n / 2 ^ 32) / 2 ^ 8) hm
        have w1 : IntKind.u8.wrap (((n / 2 ^ 32) / 2 ^ 8 : Nat) : Int) = (((n / 2 ^ 32) / 2 ^ 8 : Nat) : Int) := by rw [IntKind.wrap_u8]; omega
        have w2 : IntKind.i64.wrap ((bl ((n / 2 ^ 32) / 2 ^ 8) : Nat) : Int) = bl ((n / 2 ^ 32) / 2 ^ 8) := IntWalk.i64_in _ (by omega)
        have w3 : IntKind.i64.wrap ((40 : Int) + bl ((n / 2 ^ 32) / 2 ^ 8)) = bl n := by rw [IntWalk.i64_in _ (by omega)]; omega
        simp only [Try.f64, u64, sr64n _ 32 (by omega), sr64n _ 16 (by omega), sr64n _ 8 (by omega), g0, g1, g2, w1, w2, w3, bl_size, Int.natCast_nonneg, Int.toNat_natCast, tab_eq _ hm, bl_u8 _ hm, i64c, List.append_eq, List.length_cons, List.length_nil, FinR, evRes, evRVs, evRV, am, simprocAttr, tys]
        exact ⟨by omega, _, [], [], rfl, Ent.plain rfl rfl rfl trivial rfl, rfl, rfl⟩
    · have g1 : ((65536 : Int) ≤ ((n / 2 ^ 32 : Nat) : Int)) := by omega
      have b1 := bl_shift (n / 2 ^ 32) 16 (by omega)
      rcases Nat.lt_or_ge ((n / 2 ^ 32) / 2 ^ 16) 256 with h2 | h2
      · have g2 : ¬ ((256 : Int) ≤ (((n / 2 ^ 32) / 2 ^ 16 : Nat) : Int)) := by omega
        have hm : (n / 2 ^ 32) / 2 ^ 16 < 256 := by omega
        have hb := bl8 ((n / 2 ^ 32) / 2 ^ 16) hm
        have w1 : IntKind.u8.wrap (((n / 2 ^ 32) / 2 ^ 16 : Nat) : Int) = (((n / 2 ^ 32) / 2 ^ 16 : Nat) : Int) := by rw [IntKind.wrap_u8]; omega
        have w2 : IntKind.i64.wrap ((bl ((n / 2 ^ 32) / 2 ^ 16) : Nat) : Int) = bl ((n / 2 ^ 32) / 2 ^ 16) := IntWalk.i64_in _ (by omega)
        have w3 : IntKind.i64.wrap ((48 : Int) + bl ((n / 2 ^ 32) / 2 ^ 16)) = bl n := by rw [IntWalk.i64_in _ (by omega)]; omega
        simp only [Try.f64, u64, sr64n _ 32 (by omega), sr64n _ 16 (by omega), sr64n _ 8 (by omega), g0, g1, g2, w1, w2, w3, bl_size, Int.natCast_nonneg, Int.toNat_natCast, tab_eq _ hm, bl_u8 _ hm, i64c, List.append_eq, List.length_cons, List.length_nil, FinR, evRes, evRVs, evRV, am, simprocAttr, tys]
        exact ⟨by omega, _, [], [], rfl, Ent.plain rfl rfl rfl trivial rfl, rfl, rfl⟩
      · have g2 : ((256 : Int) ≤ (((n / 2 ^ 32) / 2 ^ 16 : Nat) : Int)) := by omega
        have b2 := bl_shift ((n / 2 ^ 32) / 2 ^ 16) 8 (by omega)
        have hm : ((n / 2 ^ 32) / 2 ^ 16) / 2 ^ 8 < 256 := by omega
        have hb := bl8 (((n / 2 ^ 32) / 2 ^ 16) / 2 ^ 8) hm
        have w1 : IntKind.u8.wrap ((((n / 2 ^ 32) / 2 ^ 16) / 2 ^ 8 : Nat) : Int) = ((((n / 2 ^ 32) / 2 ^ 16) / 2 ^ 8 : Nat) : Int) := by rw [IntKind.wrap_u8]; omega
        have w2 : IntKind.i64.wrap ((bl (((n / 2 ^ 32) / 2 ^ 16) / 2 ^ 8) : Nat) : Int) = bl (((n / 2 ^ 32) / 2 ^ 16) / 2 ^ 8) := IntWalk.i64_in _ (by omega)
        have w3 : IntKind.i64.wrap ((56 : Int) + bl (((n / 2 ^ 32) / 2 ^ 16) / 2 ^ 8)) = bl n := by rw [IntWalk.i64_in _ (by omega)]; omega
        simp only [Try.f64, u64, sr64n _ 32 (by omega), sr64n _ 16 (by omega), sr64n _ 8 (by omega), g0, g1, g2, w1, w2, w3, bl_size, Int.natCast_nonneg, Int.toNat_natCast, tab_eq _ hm, bl_u8 _ hm, i64c, List.append_eq, List.length_cons, List.length_nil, FinR, evRes, evRVs, evRV, am, simprocAttr, tys]
        exact ⟨by omega, _, [], [], rfl, Ent.plain rfl rfl rfl trivial rfl, rfl, rfl⟩
end Go.Proofs.Ytflpphgccjlkjaa

set_option linter.unusedSimpArgs false
set_option linter.unusedVariables false
namespace Go.Proofs.Ytflpphgccjlkjaa
open Go Go.AM

/-! ## a taker: what is left, or bad -/
abbrev Tk := Option (List UInt8)
def tkC : Tk → List PV
  | some bs => [byts bs, bool false]
  | none => [.d (.lit (.slice none 0 0)), bool true]
theorem tkC_ren : (∀ σ t, renRow σ (.box (tkC t)) = .box (tkC t)) ∧ (∀ σ t, rens σ (tkC t) = tkC t) := by
  constructor <;> intro σ t <;> cases t <;> rfl
theorem tkC_row (rows : AM.Rows) (F : List Nat) (σ : Nat → Nat) (t : Tk) : frzRow rows F (.box (tkC t)) = renRow σ (.box (tkC t)) := by
  cases t <;> rfl
theorem tkC_s : (∀ bs, tkC (some bs) = [byts bs, bool false]) ∧ tkC none = [nilS, bool true] := ⟨fun _ => rfl, rfl⟩
theorem tkC_scs (n : Nat) (t : Tk) : scBs n (tkC t) = true := by
  cases t <;> rfl
def numT : Tk → Nat × Tk
  | none => (0, none)
  | some bs => match takeNum bs with | none => (0, none) | some (n, r) => (n, some r)
def textT (t : Tk) : List UInt8 × Tk := match (numT t).2 with
  | none => ([], none)
  | some r => if r.length < (numT t).1 then ([], none) else (r.take (numT t).1, some (r.drop (numT t).1))
def leftT : Tk → Nat | some bs => bs.length | none => 0
def endT : Tk → Int | some [] => 0 | _ => 6

theorem octsNew (b : List UInt8) (hl : b.length ≤ 100000000000000) : AFun Try.prog 39 [byts b] [] (.ptr 0 0) [.box (tkC (some b))] := by
  refine AFun.of_walk hP Try.func39 rfl rfl rfl (by simp) rfl ?_
  simp only [Try.f39, byts, FinR, evRes, evRVs, evRV, am, simprocAttr, tys]
  refine ⟨by omega, ?_⟩
  exact ⟨_, [1], [2], rfl, ⟨rfl, rfl, by simp, (fun i hi => absurd hi (Nat.not_lt_zero _)), trivial, ⟨.inr ⟨by decide, rfl⟩, trivial⟩, rfl, by decide, rfl, (by first | rfl | simp [scRow, tkC_scs])⟩, rfl, rfl⟩

theorem tkFail (t : Tk) : AFun Try.prog 65 [.ptr 0 0] [.box (tkC t)] (.tup []) [.box (tkC none)] := by
  refine AFun.of_walk hP Try.func65 rfl rfl rfl (by simp) rfl ?_
  rcases t with _ | bs
  · simp only [Try.f65, tkC, byts, bool, FinR, evRes, evRVs, evRV, am, simprocAttr, tys]
    exact ⟨_, [], [0], rfl, ⟨rfl, rfl, by simp, (fun i hi => .inr ((by decide : ∀ i, i < 1 → ([0] : List Nat).getD i 0 = i) i hi)), trivial, ⟨.inr ⟨by decide, rfl⟩, trivial⟩, rfl, by decide, rfl, (by first | rfl | simp [scRow, tkC_scs])⟩, rfl, rfl⟩
  · simp only [Try.f65, tkC, byts, bool, FinR, evRes, evRVs, evRV, am, simprocAttr, tys]
    exact ⟨_, [], [0], rfl, ⟨rfl, rfl, by simp, (fun i hi => .inr ((by decide : ∀ i, i < 1 → ([0] : List Nat).getD i 0 = i) i hi)), trivial, ⟨.inr ⟨by decide, rfl⟩, trivial⟩, rfl, by decide, rfl, (by first | rfl | simp [scRow, tkC_scs])⟩, rfl, rfl⟩

theorem tkLeft (t : Tk) : AFun Try.prog 41 [.ptr 0 0] [.box (tkC t)] (int (leftT t)) [.box (tkC t)] := by
  refine AFun.of_walk hP Try.func41 rfl rfl rfl (by simp) rfl ?_
  rcases t with _ | bs
  · simp only [Try.f41, tkC, byts, bool, FinR, evRes, evRVs, evRV, am, simprocAttr, tys]
    exact ⟨_, [], [0], rfl, ⟨rfl, rfl, by simp, (fun i hi => .inr ((by decide : ∀ i, i < 1 → ([0] : List Nat).getD i 0 = i) i hi)), trivial, ⟨.inr ⟨by decide, rfl⟩, trivial⟩, rfl, by decide, rfl, (by first | rfl | simp [scRow, tkC_scs])⟩, rfl, rfl⟩
  · simp only [Try.f41, tkC, byts, bool, FinR, evRes, evRVs, evRV, am, simprocAttr, tys]
    exact ⟨_, [], [0], rfl, ⟨rfl, rfl, by simp, (fun i hi => .inr ((by decide : ∀ i, i < 1 → ([0] : List Nat).getD i 0 = i) i hi)), trivial, ⟨.inr ⟨by decide, rfl⟩, trivial⟩, rfl, by decide, rfl, (by first | rfl | simp [scRow, tkC_scs])⟩, rfl, rfl⟩

/-! ### a number is taken -/
theorem acc_or (p : List UInt8) (c : UInt8) (h : p.length ≤ 8 ∨ p.length = 9 ∧ c.toNat ≤ 1) :
    evBits .or .u64 ((val p : Nat) : Int) (IntKind.u64.wrap (IntKind.u64.wrap (evBits .andNot .u8 (c.toNat : Int) 128) * 2 ^ min (7 * (p.length : Int)).toNat IntKind.u64.bits)) = ((val (p ++ [c]) : Nat) : Int) := by
  have key : ∀ m, m < 256 → (BitVec.ofNat 8 m &&& ~~~ 128#8).toNat = m % 128 := by decide +kernel
  have e1 : evBits .andNot .u8 (c.toNat : Int) 128 = ((c.toNat % 128 : Nat) : Int) := by
    show IntKind.u8.wrap ((BitVec.ofInt 8 (c.toNat : Int) &&& ~~~ BitVec.ofInt 8 128).toNat : Int) = _
    have e2 : BitVec.ofInt 8 (c.toNat : Int) = BitVec.ofNat 8 c.toNat := by simp
    have e3 : BitVec.ofInt 8 128 = 128#8 := rfl
    have := c.toNat_lt
    rw [e2, e3, key _ this, IntKind.wrap_u8]; omega
  have hm : c.toNat % 128 < 128 := Nat.mod_lt _ (by omega)
  have e4 : (7 * (p.length : Int)).toNat = 7 * p.length := by omega
  have e5 : min (7 * p.length) IntKind.u64.bits = 7 * p.length := by
    show min (7 * p.length) 64 = _
    omega
  have e6 : (128 : Nat) ^ p.length = 2 ^ (7 * p.length) := by rw [Nat.pow_mul]
  have hv := val_lt p
  have hb : c.toNat % 128 * 2 ^ (7 * p.length) + 2 ^ (7 * p.length) ≤ 18446744073709551616 := by
    rcases h with h | ⟨h, hc⟩
    · have h1 : c.toNat % 128 * 2 ^ (7 * p.length) + 2 ^ (7 * p.length) = (c.toNat % 128 + 1) * 2 ^ (7 * p.length) := by rw [Nat.add_mul, Nat.one_mul]
      have h2 : (c.toNat % 128 + 1) * 2 ^ (7 * p.length) ≤ 128 * 2 ^ (7 * p.length) := Nat.mul_le_mul_right _ (by omega)
      have h3 : 128 * 2 ^ (7 * p.length) = 2 ^ (7 * p.length + 7) := by rw [Nat.pow_add]; omega
      have h4 : 2 ^ (7 * p.length + 7) ≤ 9223372036854775808 := Nat.pow_le_pow_right (n := 2) (by omega) (show 7 * p.length + 7 ≤ 63 by omega)
      omega
    · have h3 : (2 : Nat) ^ (7 * p.length) = 9223372036854775808 := by rw [h]
      have : c.toNat % 128 ≤ 1 := by omega
      have h2 : c.toNat % 128 * 2 ^ (7 * p.length) ≤ 1 * 2 ^ (7 * p.length) := Nat.mul_le_mul_right _ this
      omega
  have hpos : 0 < 2 ^ (7 * p.length) := Nat.pow_pos (by omega)
  rw [e1, e4, e5, IntWalk.u64_in ((c.toNat % 128 : Nat) : Int) (by omega)]
  have e10 := val_snoc p c
  rw [e6, Nat.mul_comm] at e10
  rw [e6] at hv
  have e11 := Nat.shiftLeft_add_eq_or_of_lt hv (c.toNat % 128)
  rw [Nat.shiftLeft_eq] at e11
  have e7 : (((c.toNat % 128 : Nat) : Int) * 2 ^ (7 * p.length)) = ((c.toNat % 128 * 2 ^ (7 * p.length) : Nat) : Int) := by simp
  rw [e7]
  generalize c.toNat % 128 * 2 ^ (7 * p.length) = q at *
  generalize 2 ^ (7 * p.length) = z at *
  have e8 : ((val p : Nat) : Int) = (((BitVec.ofNat 64 (val p)).toNat : Nat) : Int) := by
    rw [BitVec.toNat_ofNat, Nat.mod_eq_of_lt (by omega)]
  have e9 : ((q : Nat) : Int) = (((BitVec.ofNat 64 q).toNat : Nat) : Int) := by
    rw [BitVec.toNat_ofNat, Nat.mod_eq_of_lt (by omega)]
  rw [IntWalk.u64_in (q : Int) (by omega), e8, e9, o64, BitVec.toNat_or, BitVec.toNat_ofNat, BitVec.toNat_ofNat, Nat.mod_eq_of_lt (show val p < 2 ^ 64 by omega), Nat.mod_eq_of_lt (show q < 2 ^ 64 by omega), e10, Nat.or_comm, ← e11, Nat.add_comm]

theorem and128 (c : UInt8) : (evBits .and .u8 (c.toNat : Int) 128 != 0) = isC c := by
  have key : ∀ m, m < 256 → ((((BitVec.ofNat 8 m &&& 128#8).toNat : Nat) : Int) != 0) = decide (128 ≤ m) := by decide +kernel
  have e : evBits .and .u8 (c.toNat : Int) 128 = (((c.toBitVec &&& 128#8).toNat : Nat) : Int) := n8 c.toBitVec 128#8
  have e2 : c.toBitVec = BitVec.ofNat 8 c.toNat := by apply BitVec.eq_of_toNat_eq; rw [BitVec.toNat_ofNat, Nat.mod_eq_of_lt c.toNat_lt]; rfl
  rw [e, e2, key _ c.toNat_lt]; rfl

theorem val_snoc_bl (p : List UInt8) (c : UInt8) (hc : c.toNat < 128) (hl : p.length ≤ 9) : max 1 ((bl (val (p ++ [c])) + 6) / 7) = p.length + 1 ↔ (p = [] ∨ c.toNat ≠ 0) := by
  have hv := val_lt p
  have e6 : (128 : Nat) ^ p.length = 2 ^ (7 * p.length) := by rw [Nat.pow_mul]
  rw [e6] at hv
  have es := val_snoc p c
  rw [Nat.mod_eq_of_lt hc, e6] at es
  by_cases h0 : c.toNat = 0
  · rw [h0, Nat.mul_zero, Nat.add_zero] at es
    by_cases hp : p = []
    · subst hp
      simp only [val] at es
      rw [es]
      simp [bl]
    · have hpos : 0 < p.length := by cases p <;> simp at hp ⊢
      have hb := (bl_le (val (p ++ [c])) (7 * p.length)).2 (by omega)
      constructor
      · intro h; omega
      · intro h; rcases h with h | h
        · exact absurd h hp
        · exact absurd h0 h
  · have hpos : 0 < 2 ^ (7 * p.length) := Nat.pow_pos (by omega)
    have h1 : 2 ^ (7 * p.length) ≤ val (p ++ [c]) := by
      have : 2 ^ (7 * p.length) * 1 ≤ 2 ^ (7 * p.length) * c.toNat := Nat.mul_le_mul_left _ (by omega)
      omega
    have h2 : val (p ++ [c]) < 2 ^ (7 * p.length + 7) := by
      rw [Nat.pow_add]
      have : 2 ^ (7 * p.length) * c.toNat ≤ 2 ^ (7 * p.length) * 127 := Nat.mul_le_mul_left _ (by omega)
      omega
    have hb1 := (bl_le (val (p ++ [c])) (7 * p.length + 7)).2 h2
    have hb2 : ¬ bl (val (p ++ [c])) ≤ 7 * p.length := fun h => by have := (bl_le _ _).1 h; omega
    constructor
    · intro _; exact .inr h0
    · intro _; omega
theorem numT_lt (t : Tk) (h : ∀ bs, t = some bs → bs.length ≤ 100000000000000) : (numT t).1 < 18446744073709551616 ∧ ∀ r, (numT t).2 = some r → r.length ≤ 100000000000000 := by
  rcases t with _ | bs
  · exact ⟨by simp [numT], by simp [numT]⟩
  · rcases hk : takeNum bs with _ | ⟨n, r⟩
    · simp only [numT, hk]
      exact ⟨by omega, fun r hr => by cases hr⟩
    · obtain ⟨h1, h2⟩ := takeNum_some hk
      simp only [numT, hk]
      refine ⟨h1, fun r' hr => ?_⟩
      simp only [Option.some.injEq] at hr
      subst hr
      have := h bs rfl
      have := congrArg List.length h2
      simp only [List.length_append] at this
      omega

theorem numT_none (t : Tk) (h : (numT t).2 = none) : (numT t).1 = 0 := by
  rcases t with _ | bs
  · rfl
  · rcases hk : takeNum bs with _ | ⟨n, r⟩
    · simp only [numT, hk]
    · simp only [numT, hk] at h
      cases h

end Go.Proofs.Ytflpphgccjlkjaa
