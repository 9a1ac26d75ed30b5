/- Proved here: what functions of the program compute, and plain laws. No condition. -/
import Derived.Test.YtkadildabhkocaaRRight7
import Derived.Test.YtkadildabhkocaaCodec
set_option linter.unusedSimpArgs false
set_option linter.unusedVariables false
namespace Go.Proofs.Ytkadildabhkocaa
open Go Go.AM

/-! ## what is asked, as bytes -/
def encAsk (a : Ask) : List UInt8 := a.1 :: (lebT a.2.1 ++ lebT a.2.2.1)
def putA (l : List Ask) : List UInt8 := putL encAsk l
theorem mayOk_len {a : Ask} (h : mayOk a = true) : a.2.1.length ≤ 16 ∧ a.2.2.1.length ≤ 64 := by
  unfold mayOk nameOk at h
  simp only [Bool.and_eq_true, decide_eq_true_eq] at h
  exact ⟨h.1.1.1.1.2, h.1.2⟩
theorem rightA_len {l : List Ask} (h : rightA l = true) : l.length ≤ 8 ∧ ∀ a ∈ l, mayOk a = true := by
  unfold rightA at h
  simp only [Bool.and_eq_true, decide_eq_true_eq, List.all_eq_true] at h
  exact ⟨h.2, h.1⟩
theorem encAsk_len {a : Ask} (h : mayOk a = true) : (encAsk a).length ≤ 110 := by
  obtain ⟨h1, h2⟩ := mayOk_len h
  have := lebT_len a.2.1 (by omega)
  have := lebT_len a.2.2.1 (by omega)
  unfold encAsk; simp; omega
theorem flA_len {l : List Ask} (h : ∀ a ∈ l, mayOk a = true) (h8 : l.length ≤ 8) : (fl encAsk l).length ≤ 880 := by
  have := fl_len encAsk 110 l fun x hx => encAsk_len (h x hx)
  have := Nat.mul_le_mul_right 110 h8
  omega
theorem putA_len {l : List Ask} (h : rightA l = true) : (putA l).length ≤ 890 := by
  obtain ⟨h1, h2⟩ := rightA_len h
  have := flA_len h2 h1
  have := leb_ten l.length (by omega)
  unfold putA putL; simp; omega

theorem oneB (v : Nat) (h : v < 256) : ([[DV.lit (.int .u8 ((UInt8.ofNat v).toNat : Int))]] : List (List DV)) = [UInt8.ofNat v].map encB := rfl

theorem matchPutN (l : List Ask) (hl : l.length ≤ 9223372036854775807) (hn : ∀ a ∈ l, a.2.1.length ≤ 9223372036854775807) (hr : rightA l = false) : AFun Try.prog 21 [.d (.sl 3 (l.map encA))] [] (.tup [nilS, errno 1]) [] := by
  refine AFun.of_walk hP Try.func21 rfl rfl rfl (by simp) rfl ?_
  simp only [Try.f21, am, simprocAttr, tys]
  refine ACall.of (matchRight l hl hn) [] [] rfl (by simp) (by simp) (by simp) (by repeat' (first | exact trivial | exact .inl rfl | exact .inr rfl | exact .inr ⟨rfl, by simp⟩ | exact .inr ⟨rfl, rfl, by simp⟩ | apply And.intro)) (by repeat' (first | exact trivial | rfl | exact (tkC_ren.1 _ _).symm | (simp; done) | apply And.intro)) (by first | exact .inl rfl | (refine .inr ⟨trivial, ?_⟩; first | (intro row h; rcases List.mem_singleton.1 h with rfl; exact nvB _) | (intro row h; cases h; done) | (simp; done)) | (refine .inr ⟨by simp [nvP, nvP.nvPs, nvD, nilS, errno], ?_⟩; first | (intro row h; rcases List.mem_singleton.1 h with rfl; exact nvB _) | (intro row h; cases h; done) | (simp [nvRow, nvD, nvP]; done))) ?_
  rw [hr]
  simp only [bool, nilS, errno, FinR, evRes, evRVs, evRV, am, simprocAttr, tys]
  exact ⟨_, [], [], rfl, Ent.plain rfl rfl rfl trivial rfl, rfl, rfl⟩

set_option maxRecDepth 8000 in
theorem matchPut (l : List Ask) (hl : l.length ≤ 9223372036854775807) (hn : ∀ a ∈ l, a.2.1.length ≤ 9223372036854775807) (hr : rightA l = true) : AFun Try.prog 21 [.d (.sl 3 (l.map encA))] [] (.tup [.own 0, errno 0]) [.own 1 ((putA l).map encB)] := by
  refine AFun.of_walk hP Try.func21 rfl rfl rfl (by simp) rfl ?_
  simp only [Try.f21, am, simprocAttr, tys]
  refine ACall.of (matchRight l hl hn) [] [] rfl (by simp) (by simp) (by simp) (by repeat' (first | exact trivial | exact .inl rfl | exact .inr rfl | exact .inr ⟨rfl, by simp⟩ | exact .inr ⟨rfl, rfl, by simp⟩ | apply And.intro)) (by repeat' (first | exact trivial | rfl | exact (tkC_ren.1 _ _).symm | (simp; done) | apply And.intro)) (by first | exact .inl rfl | (refine .inr ⟨trivial, ?_⟩; first | (intro row h; rcases List.mem_singleton.1 h with rfl; exact nvB _) | (intro row h; cases h; done) | (simp; done)) | (refine .inr ⟨by simp [nvP, nvP.nvPs, nvD, nilS, errno], ?_⟩; first | (intro row h; rcases List.mem_singleton.1 h with rfl; exact nvB _) | (intro row h; cases h; done) | (simp [nvRow, nvD, nvP]; done))) ?_
  rw [hr]
  · obtain ⟨h8, hall⟩ := rightA_len hr
    have e1 : IntKind.u64.wrap (l.length : Int) = l.length := IntWalk.u64_in _ (by omega)
    simp only [bool, e1, am, simprocAttr, tys]
    refine ACall.of (octsPut [] l.length (by simp) (by omega)) [] [] rfl (by simp) (by simp) (by simp) (by repeat' (first | exact trivial | exact .inl rfl | exact .inr rfl | exact .inr ⟨rfl, by simp⟩ | exact .inr ⟨rfl, rfl, by simp⟩ | apply And.intro)) (by repeat' (first | exact trivial | rfl | exact (tkC_ren.1 _ _).symm | (simp; done) | apply And.intro)) (by first | exact .inl rfl | (refine .inr ⟨trivial, ?_⟩; first | (intro row h; rcases List.mem_singleton.1 h with rfl; exact nvB _) | (intro row h; cases h; done) | (simp; done)) | (refine .inr ⟨by simp [nvP, nvP.nvPs, nvD, nilS, errno], ?_⟩; first | (intro row h; rcases List.mem_singleton.1 h with rfl; exact nvB _) | (intro row h; cases h; done) | (simp [nvRow, nvD, nvP]; done))) ?_
    simp only [am, simprocAttr, tys]
    refine ALoopW.intro 33 0 (ι := { i : Nat // i ≤ l.length }) (fun i => [(4, .own 0), (14, .d (.sl 3 (l.map encA))), (15, int l.length), (16, int i.1)]) (fun i => [.own 1 ((leb l.length ++ fl encAsk (l.take i.1)).map encB)]) (fun i => l.length - i.1) ⟨0, by omega⟩ [] [0] ?_ (fun ⟨i, hi⟩ => ?_)
    · refine ⟨rfl, rfl, by simp, (fun i hi => absurd hi (Nat.not_lt_zero _)), ⟨.inr rfl, .inr rfl, .inr rfl, .inr rfl, trivial⟩, ⟨.inr ⟨by decide, ?_⟩, trivial⟩, rfl, by decide, rfl, (by first | rfl | simp [scRow, tkC_scs])⟩
      simp only [List.take_zero, fl_nil, List.append_nil]; rfl
    rcases Nat.lt_or_ge i l.length with hlt | hge
    · have hb : l[i]? = some l[i] := List.getElem?_eq_getElem hlt
      have hlt2 : ((i : Int) < l.length) := by omega
      have e2 : IntKind.i64.wrap ((i : Int) + 1) = ((i + 1 : Nat) : Int) := by rw [IntWalk.i64_in _ (by omega)]; simp
      have hm := mayOk_len (hall l[i] (List.getElem_mem hlt))
      have hpre := flA_len (l := l.take i) (fun a ha => hall a (List.mem_of_mem_take ha)) (by simp; omega)
      have h10 := leb_ten l.length (by omega)
      have hst : fl encAsk (l.take (i + 1)) = fl encAsk (l.take i) ++ encAsk l[i] := by rw [List.take_succ_eq_append_getElem hlt, fl_snoc]
      have hpl : (leb l.length ++ fl encAsk (l.take i)).length ≤ 890 := by rw [List.length_append]; omega
      have hnext : (leb l.length ++ fl encAsk (l.take i) ++ [l[i].1] ++ lebT l[i].2.1 ++ lebT l[i].2.2.1) = leb l.length ++ fl encAsk (l.take (i + 1)) := by
        rw [hst]; unfold encAsk; simp only [List.append_assoc, List.cons_append, List.nil_append]
      generalize leb l.length ++ fl encAsk (l.take i) = pre at *
      have t1 := lebT_len l[i].2.1 (by omega)
      have hput1 := octsPutText (pre ++ [l[i].1]) l[i].2.1 (by rw [List.length_append]; simp; omega) (by omega)
      have hput2 := octsPutText (pre ++ [l[i].1] ++ lebT l[i].2.1) l[i].2.2.1 (by rw [List.length_append, List.length_append]; simp; omega) (by omega)
      have eapp : pre.map encB ++ [[DV.lit (.int .u8 (l[i].1.toNat : Int))]] = (pre ++ [l[i].1]).map encB := by rw [List.map_append]; rfl
      simp only [int, hb, hlt2, encA, Int.natCast_nonneg, eapp, am, simprocAttr, tys]
      refine ⟨by omega, ?_⟩
      refine ACallD.of (hput1) (by kernel_rfl) [] [258] rfl (by simp) (by simp) (by simp) (by simp) (by repeat' (first | exact trivial | exact .inl rfl | exact .inr rfl | exact .inr ⟨rfl, by simp⟩ | exact .inr ⟨rfl, rfl, by simp⟩ | apply And.intro)) (by repeat' (first | exact trivial | rfl | exact (tkC_ren.1 _ _).symm | (simp; done) | apply And.intro)) (by first | exact .inl rfl | (refine .inr ⟨trivial, ?_⟩; first | (intro row h; rcases List.mem_singleton.1 h with rfl; exact nvB _) | (intro row h; cases h; done) | (simp; done)) | (refine .inr ⟨by simp [nvP, nvP.nvPs, nvD, nilS, errno], ?_⟩; first | (intro row h; rcases List.mem_singleton.1 h with rfl; exact nvB _) | (intro row h; cases h; done) | (simp [nvRow, nvD, nvP]; done))) rfl rfl rfl rfl ?_
      simp only [am, simprocAttr, tys]
      refine ACallD.of (hput2) (by kernel_rfl) [] [450] rfl (by simp) (by simp) (by simp) (by simp) (by repeat' (first | exact trivial | exact .inl rfl | exact .inr rfl | exact .inr ⟨rfl, by simp⟩ | exact .inr ⟨rfl, rfl, by simp⟩ | apply And.intro)) (by repeat' (first | exact trivial | rfl | exact (tkC_ren.1 _ _).symm | (simp; done) | apply And.intro)) (by first | exact .inl rfl | (refine .inr ⟨trivial, ?_⟩; first | (intro row h; rcases List.mem_singleton.1 h with rfl; exact nvB _) | (intro row h; cases h; done) | (simp; done)) | (refine .inr ⟨by simp [nvP, nvP.nvPs, nvD, nilS, errno], ?_⟩; first | (intro row h; rcases List.mem_singleton.1 h with rfl; exact nvB _) | (intro row h; cases h; done) | (simp [nvRow, nvD, nvP]; done))) rfl rfl rfl rfl ?_
      simp only [e2, am, simprocAttr, tys]
      refine ⟨by kernel_rfl, ⟨i + 1, by omega⟩, [], [642], ⟨rfl, rfl, by simp, (fun i hi => absurd hi (Nat.not_lt_zero _)), ⟨.inr rfl, .inr rfl, .inr rfl, .inr rfl, trivial⟩, ⟨.inr ⟨by decide, ?_⟩, trivial⟩, rfl, by decide, rfl, (by first | rfl | simp [scRow, tkC_scs])⟩, by show l.length - (i + 1) < l.length - i; omega⟩
      exact congrArg (fun z => Row.own 1 (List.map encB z)) hnext
    · have hlt2 : ¬ ((i : Int) < l.length) := by omega
      have hfull : l.take i = l := List.take_of_length_le hge
      simp only [int, hlt2, hfull, byts, errno, FinR, evRes, evRVs, evRV, am, simprocAttr, tys]
      exact ⟨_, [], [0], rfl, ⟨rfl, rfl, by simp, (fun i hi => absurd hi (Nat.not_lt_zero _)), trivial, ⟨.inr ⟨by decide, rfl⟩, trivial⟩, rfl, by decide, rfl, (by first | rfl | simp [scRow, tkC_scs])⟩, rfl, rfl⟩

theorem refMPutN (l : List Ask) (hl : l.length ≤ 9223372036854775807) (hn : ∀ a ∈ l, a.2.1.length ≤ 9223372036854775807) (hr : rightA l = false) : AFun Try.prog 24 [.d (.sl 3 (l.map encA))] [] (.tup [nilS, errno 1]) [] := by
  refine AFun.of_walk hP Try.func24 rfl rfl rfl (by simp) rfl ?_
  simp only [Try.f24, am, simprocAttr, tys]
  refine ACall.of (refRight l hl hn) [] [] rfl (by simp) (by simp) (by simp) (by repeat' (first | exact trivial | exact .inl rfl | exact .inr rfl | exact .inr ⟨rfl, by simp⟩ | exact .inr ⟨rfl, rfl, by simp⟩ | apply And.intro)) (by repeat' (first | exact trivial | rfl | exact (tkC_ren.1 _ _).symm | (simp; done) | apply And.intro)) (by first | exact .inl rfl | (refine .inr ⟨trivial, ?_⟩; first | (intro row h; rcases List.mem_singleton.1 h with rfl; exact nvB _) | (intro row h; cases h; done) | (simp; done)) | (refine .inr ⟨by simp [nvP, nvP.nvPs, nvD, nilS, errno], ?_⟩; first | (intro row h; rcases List.mem_singleton.1 h with rfl; exact nvB _) | (intro row h; cases h; done) | (simp [nvRow, nvD, nvP]; done))) ?_
  rw [hr]
  simp only [bool, nilS, errno, FinR, evRes, evRVs, evRV, am, simprocAttr, tys]
  exact ⟨_, [], [], rfl, Ent.plain rfl rfl rfl trivial rfl, rfl, rfl⟩

set_option maxRecDepth 8000 in
theorem refMPut (l : List Ask) (hl : l.length ≤ 9223372036854775807) (hn : ∀ a ∈ l, a.2.1.length ≤ 9223372036854775807) (hr : rightA l = true) : AFun Try.prog 24 [.d (.sl 3 (l.map encA))] [] (.tup [.own 0, errno 0]) [.own 1 ((putA l).map encB)] := by
  refine AFun.of_walk hP Try.func24 rfl rfl rfl (by simp) rfl ?_
  simp only [Try.f24, am, simprocAttr, tys]
  refine ACall.of (refRight l hl hn) [] [] rfl (by simp) (by simp) (by simp) (by repeat' (first | exact trivial | exact .inl rfl | exact .inr rfl | exact .inr ⟨rfl, by simp⟩ | exact .inr ⟨rfl, rfl, by simp⟩ | apply And.intro)) (by repeat' (first | exact trivial | rfl | exact (tkC_ren.1 _ _).symm | (simp; done) | apply And.intro)) (by first | exact .inl rfl | (refine .inr ⟨trivial, ?_⟩; first | (intro row h; rcases List.mem_singleton.1 h with rfl; exact nvB _) | (intro row h; cases h; done) | (simp; done)) | (refine .inr ⟨by simp [nvP, nvP.nvPs, nvD, nilS, errno], ?_⟩; first | (intro row h; rcases List.mem_singleton.1 h with rfl; exact nvB _) | (intro row h; cases h; done) | (simp [nvRow, nvD, nvP]; done))) ?_
  rw [hr]
  · obtain ⟨h8, hall⟩ := rightA_len hr
    have e1 : IntKind.u64.wrap (l.length : Int) = l.length := IntWalk.u64_in _ (by omega)
    simp only [bool, e1, am, simprocAttr, tys]
    refine ACall.of (refPut [] l.length (by simp) (by omega)) [] [] rfl (by simp) (by simp) (by simp) (by repeat' (first | exact trivial | exact .inl rfl | exact .inr rfl | exact .inr ⟨rfl, by simp⟩ | exact .inr ⟨rfl, rfl, by simp⟩ | apply And.intro)) (by repeat' (first | exact trivial | rfl | exact (tkC_ren.1 _ _).symm | (simp; done) | apply And.intro)) (by first | exact .inl rfl | (refine .inr ⟨trivial, ?_⟩; first | (intro row h; rcases List.mem_singleton.1 h with rfl; exact nvB _) | (intro row h; cases h; done) | (simp; done)) | (refine .inr ⟨by simp [nvP, nvP.nvPs, nvD, nilS, errno], ?_⟩; first | (intro row h; rcases List.mem_singleton.1 h with rfl; exact nvB _) | (intro row h; cases h; done) | (simp [nvRow, nvD, nvP]; done))) ?_
    simp only [am, simprocAttr, tys]
    refine ALoopW.intro 42 0 (ι := { i : Nat // i ≤ l.length }) (fun i => [(0, .d (.sl 3 (l.map encA))), (4, .own 0), (5, int i.1)]) (fun i => [.own 1 ((leb l.length ++ fl encAsk (l.take i.1)).map encB)]) (fun i => l.length - i.1) ⟨0, by omega⟩ [] [0] ?_ (fun ⟨i, hi⟩ => ?_)
    · refine ⟨rfl, rfl, by simp, (fun i hi => absurd hi (Nat.not_lt_zero _)), ⟨.inr rfl, .inr rfl, .inr rfl, trivial⟩, ⟨.inr ⟨by decide, ?_⟩, trivial⟩, rfl, by decide, rfl, (by first | rfl | simp [scRow, tkC_scs])⟩
      simp only [List.take_zero, fl_nil, List.append_nil]; rfl
    rcases Nat.lt_or_ge i l.length with hlt | hge
    · have hb : l[i]? = some l[i] := List.getElem?_eq_getElem hlt
      have hlt2 : ((i : Int) < l.length) := by omega
      have e2 : IntKind.i64.wrap ((i : Int) + 1) = ((i + 1 : Nat) : Int) := by rw [IntWalk.i64_in _ (by omega)]; simp
      have hm := mayOk_len (hall l[i] (List.getElem_mem hlt))
      have hpre := flA_len (l := l.take i) (fun a ha => hall a (List.mem_of_mem_take ha)) (by simp; omega)
      have h10 := leb_ten l.length (by omega)
      have hst : fl encAsk (l.take (i + 1)) = fl encAsk (l.take i) ++ encAsk l[i] := by rw [List.take_succ_eq_append_getElem hlt, fl_snoc]
      have hpl : (leb l.length ++ fl encAsk (l.take i)).length ≤ 890 := by rw [List.length_append]; omega
      have hnext : (leb l.length ++ fl encAsk (l.take i) ++ [l[i].1] ++ lebT l[i].2.1 ++ lebT l[i].2.2.1) = leb l.length ++ fl encAsk (l.take (i + 1)) := by
        rw [hst]; unfold encAsk; simp only [List.append_assoc, List.cons_append, List.nil_append]
      generalize leb l.length ++ fl encAsk (l.take i) = pre at *
      have t1 := lebT_len l[i].2.1 (by omega)
      have hput1 := refPutText (pre ++ [l[i].1]) l[i].2.1 (by rw [List.length_append]; simp; omega) (by omega)
      have hput2 := refPutText (pre ++ [l[i].1] ++ lebT l[i].2.1) l[i].2.2.1 (by rw [List.length_append, List.length_append]; simp; omega) (by omega)
      have eapp : pre.map encB ++ [[DV.lit (.int .u8 (l[i].1.toNat : Int))]] = (pre ++ [l[i].1]).map encB := by rw [List.map_append]; rfl
      simp only [int, hb, hlt2, encA, Int.natCast_nonneg, eapp, am, simprocAttr, tys]
      refine ⟨by omega, ?_⟩
      refine ACall.of (hput1) [] [2] rfl (by simp) (by simp) (by simp) (by repeat' (first | exact trivial | exact .inl rfl | exact .inr rfl | exact .inr ⟨rfl, by simp⟩ | exact .inr ⟨rfl, rfl, by simp⟩ | apply And.intro)) (by repeat' (first | exact trivial | rfl | exact (tkC_ren.1 _ _).symm | (simp; done) | apply And.intro)) (by first | exact .inl rfl | (refine .inr ⟨trivial, ?_⟩; first | (intro row h; rcases List.mem_singleton.1 h with rfl; exact nvB _) | (intro row h; cases h; done) | (simp; done)) | (refine .inr ⟨by simp [nvP, nvP.nvPs, nvD, nilS, errno], ?_⟩; first | (intro row h; rcases List.mem_singleton.1 h with rfl; exact nvB _) | (intro row h; cases h; done) | (simp [nvRow, nvD, nvP]; done))) ?_
      simp only [hb, hlt2, encA, Int.natCast_nonneg, am, simprocAttr, tys]
      refine ACall.of (hput2) [] [3] rfl (by simp) (by simp) (by simp) (by repeat' (first | exact trivial | exact .inl rfl | exact .inr rfl | exact .inr ⟨rfl, by simp⟩ | exact .inr ⟨rfl, rfl, by simp⟩ | apply And.intro)) (by repeat' (first | exact trivial | rfl | exact (tkC_ren.1 _ _).symm | (simp; done) | apply And.intro)) (by first | exact .inl rfl | (refine .inr ⟨trivial, ?_⟩; first | (intro row h; rcases List.mem_singleton.1 h with rfl; exact nvB _) | (intro row h; cases h; done) | (simp; done)) | (refine .inr ⟨by simp [nvP, nvP.nvPs, nvD, nilS, errno], ?_⟩; first | (intro row h; rcases List.mem_singleton.1 h with rfl; exact nvB _) | (intro row h; cases h; done) | (simp [nvRow, nvD, nvP]; done))) ?_
      simp only [e2, am, simprocAttr, tys]
      refine ⟨⟨i + 1, by omega⟩, [], [4], ⟨rfl, rfl, by simp, (fun i hi => absurd hi (Nat.not_lt_zero _)), ⟨.inr rfl, .inr rfl, .inr rfl, trivial⟩, ⟨.inr ⟨by decide, ?_⟩, trivial⟩, rfl, by decide, rfl, (by first | rfl | simp [scRow, tkC_scs])⟩, by show l.length - (i + 1) < l.length - i; omega⟩
      exact congrArg (fun z => Row.own 1 (List.map encB z)) hnext
    · have hlt2 : ¬ ((i : Int) < l.length) := by omega
      have hfull : l.take i = l := List.take_of_length_le hge
      simp only [int, hlt2, hfull, byts, errno, FinR, evRes, evRVs, evRV, am, simprocAttr, tys]
      exact ⟨_, [], [0], rfl, ⟨rfl, rfl, by simp, (fun i hi => absurd hi (Nat.not_lt_zero _)), trivial, ⟨.inr ⟨by decide, rfl⟩, trivial⟩, rfl, by decide, rfl, (by first | rfl | simp [scRow, tkC_scs])⟩, rfl, rfl⟩
end Go.Proofs.Ytkadildabhkocaa
