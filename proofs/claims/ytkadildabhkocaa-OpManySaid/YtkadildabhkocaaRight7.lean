/- Proved here: what functions of the program compute, and plain laws. No condition. -/
import Derived.Test.YtkadildabhkocaaRName
import Derived.Test.YtkadildabhkocaaGet
set_option linter.unusedSimpArgs false
set_option linter.unusedVariables false
namespace Go.Proofs.Ytkadildabhkocaa
open Go Go.AM

/-- the first that p is true of -/
theorem idxAsk0 (l : List Ask) (p : Ask → Bool) (f : Nat) (hl : l.length ≤ 9223372036854775807) (hf : isFn Try.prog f = true)
    (hc : ∀ a ∈ l, AFun Try.prog f [.d (.agg (encA a))] [] (bool (p a)) []) :
    AFun Try.prog 64 [.d (.sl 3 (l.map encA)), .clo (.func f) [] []] []
      (int (ixI (l.findIdx? p))) [] := by
  refine AFun.of_walk hP Try.func64 rfl rfl rfl (by simp) rfl ?_
  simp only [Try.f64, am, simprocAttr, tys]
  refine ALoopW.intro 19 0 (ι := { i : Nat // i ≤ l.length ∧ (l.take i).findIdx? p = none }) (fun i => [(0, .d (.sl 3 (l.map encA))), (1, .clo (.func f) [] []), (6, .d (.sl 3 (l.map encA))), (7, .d (.lit (.int .i64 l.length))), (8, .d (.lit (.int .i64 i.1)))]) (fun _ => []) (fun i => l.length - i.1) ⟨0, by omega, by simp⟩ [] [] ?_ (fun ⟨i, hi, hfd⟩ => ?_)
  · exact Ent.plain rfl rfl rfl (⟨.inr rfl, .inr rfl, .inr rfl, .inr rfl, .inr rfl, trivial⟩) rfl
  rcases Nat.lt_or_ge i l.length with hlt | hge
  · have hb : l[i]? = some l[i] := List.getElem?_eq_getElem hlt
    have hlt2 : ((i : Int) < l.length) := by omega
    have hst := findIdx_step p l i hlt hfd
    have e1 : IntKind.i64.wrap ((i : Int) + 1) = ((i + 1 : Nat) : Int) := by rw [IntWalk.i64_in _ (by omega)]; simp
    simp only [hb, hlt2, encA, Int.natCast_nonneg, hf, am, simprocAttr, tys]
    refine ACall.of (hc l[i] (List.getElem_mem hlt)) [] [] rfl (by simp) (by simp) (by simp) (by repeat' (first | exact trivial | exact .inl rfl | exact .inr rfl | exact .inr ⟨rfl, by simp⟩ | exact .inr ⟨rfl, rfl, by simp⟩ | apply And.intro)) (by repeat' (first | exact trivial | rfl | exact (tkC_ren.1 _ _).symm | (simp; done) | apply And.intro)) (by first | exact .inl rfl | (refine .inr ⟨trivial, ?_⟩; first | (intro row h; rcases List.mem_singleton.1 h with rfl; exact nvB _) | (intro row h; cases h; done) | (simp; done)) | (refine .inr ⟨by simp [nvP, nvP.nvPs, nvD, nilS, errno], ?_⟩; first | (intro row h; rcases List.mem_singleton.1 h with rfl; exact nvB _) | (intro row h; cases h; done) | (simp [nvRow, nvD, nvP]; done))) ?_
    simp only [e1, bool, am, simprocAttr, tys]
    rcases hp : p l[i] with _ | _
    · rw [hp] at hst
      simp only [am, simprocAttr, tys] at hst
      simp only [am, simprocAttr, tys]
      exact ⟨⟨i + 1, by omega, hst⟩, [], [], Ent.plain rfl rfl rfl (⟨.inr rfl, .inr rfl, .inr rfl, .inr rfl, .inr rfl, trivial⟩) rfl, by show l.length - (i + 1) < l.length - i; omega⟩
    · rw [hp] at hst
      simp only [am, simprocAttr, tys] at hst
      have hfull : l.findIdx? p = some i := by
        conv => lhs; rw [← List.take_append_drop (i + 1) l]
        rw [List.findIdx?_append, hst]; rfl
      simp only [hfull, ixI, int, FinR, evRes, evRVs, evRV, am, simprocAttr, tys]
      exact ⟨_, [], [], rfl, Ent.plain rfl rfl rfl trivial rfl, rfl, rfl⟩
  · have hlt2 : ¬ ((i : Int) < l.length) := by omega
    have hi' : i = l.length := by omega
    subst hi'
    rw [List.take_length] at hfd
    simp only [hlt2, hfd, ixI, FinR, evRes, evRVs, evRV, int, am, simprocAttr, tys]
    exact ⟨_, [], [], rfl, Ent.plain rfl rfl rfl trivial rfl, rfl, rfl⟩

theorem containsAsk0 (l : List Ask) (p : Ask → Bool) (f : Nat) (hl : l.length ≤ 9223372036854775807) (hf : isFn Try.prog f = true)
    (hc : ∀ a ∈ l, AFun Try.prog f [.d (.agg (encA a))] [] (bool (p a)) []) :
    AFun Try.prog 49 [.d (.sl 3 (l.map encA)), .clo (.func f) [] []] [] (bool (l.any p)) [] := by
  refine AFun.of_walk hP Try.func49 rfl rfl rfl (by simp) rfl ?_
  simp only [Try.f49, am, simprocAttr, tys]
  refine ACall.of (idxAsk0 l p f hl hf hc) [] [] rfl (by simp) (by simp) (by simp) (by repeat' (first | exact trivial | exact .inl rfl | exact .inr rfl | exact .inr ⟨rfl, by simp⟩ | exact .inr ⟨rfl, rfl, by simp⟩ | apply And.intro)) (by repeat' (first | exact trivial | rfl | exact (tkC_ren.1 _ _).symm | (simp; done) | apply And.intro)) (by first | exact .inl rfl | (refine .inr ⟨trivial, ?_⟩; first | (intro row h; rcases List.mem_singleton.1 h with rfl; exact nvB _) | (intro row h; cases h; done) | (simp; done)) | (refine .inr ⟨by simp [nvP, nvP.nvPs, nvD, nilS, errno], ?_⟩; first | (intro row h; rcases List.mem_singleton.1 h with rfl; exact nvB _) | (intro row h; cases h; done) | (simp [nvRow, nvD, nvP]; done))) ?_
  simp only [int, findIdx_any, FinR, evRes, evRVs, evRV, am, simprocAttr, tys]
  exact ⟨_, [], [], rfl, Ent.plain rfl rfl rfl trivial rfl, rfl, rfl⟩


/-- whether one thing may be asked -/
def mayOk (a : Ask) : Bool := nameOk a.2.1 && decide (a.2.2.1.length ≤ 64) && (if a.1 = 1 then !(a.2.2.1 == []) else if a.1 = 4 then a.2.2.1 == [] else decide (a.1 = 2) || decide (a.1 = 3))
def rightA (l : List Ask) : Bool := l.all mayOk && decide (l.length ≤ 8)

theorem matchMay (a : Ask) (hn : a.2.1.length ≤ 9223372036854775807) : AFun Try.prog 51 [.d (.agg (encA a))] [] (bool (mayOk a)) [] := by
  obtain ⟨op, name, val, _⟩ := a
  refine AFun.of_walk hP Try.func51 rfl rfl rfl (by simp) rfl ?_
  have e2 : ((op.toNat : Int) == 2) = decide (op = 2) := u8eq op 2 (by omega)
  have e1 : ((op.toNat : Int) == 1) = decide (op = 1) := u8eq op 1 (by omega)
  have e3 : ((op.toNat : Int) == 3) = decide (op = 3) := u8eq op 3 (by omega)
  have e4 : ((op.toNat : Int) == 4) = decide (op = 4) := u8eq op 4 (by omega)
  simp only [Try.f51, encA, mayOk, am, simprocAttr, tys]
  refine ACall.of (labelName name hn) [] [] rfl (by simp) (by simp) (by simp) (by repeat' (first | exact trivial | exact .inl rfl | exact .inr rfl | exact .inr ⟨rfl, by simp⟩ | exact .inr ⟨rfl, rfl, by simp⟩ | apply And.intro)) (by repeat' (first | exact trivial | rfl | exact (tkC_ren.1 _ _).symm | (simp; done) | apply And.intro)) (by first | exact .inl rfl | (refine .inr ⟨trivial, ?_⟩; first | (intro row h; rcases List.mem_singleton.1 h with rfl; exact nvB _) | (intro row h; cases h; done) | (simp; done)) | (refine .inr ⟨by simp [nvP, nvP.nvPs, nvD, nilS, errno], ?_⟩; first | (intro row h; rcases List.mem_singleton.1 h with rfl; exact nvB _) | (intro row h; cases h; done) | (simp [nvRow, nvD, nvP]; done))) ?_
  rcases hnm : nameOk name with _ | _
  · simp only [bool, FinR, evRes, evRVs, evRV, am, simprocAttr, tys]
    exact ⟨_, [], [], rfl, Ent.plain rfl rfl rfl trivial rfl, rfl, rfl⟩
  · rcases Nat.lt_or_ge 64 val.length with hv | hv
    · have hI : ((64 : Int) < val.length) := by omega
      have hd : decide (val.length ≤ 64) = false := decide_eq_false (by omega)
      simp only [bool, bl_size, hI, hd, FinR, evRes, evRVs, evRV, am, simprocAttr, tys]
      exact ⟨_, [], [], rfl, Ent.plain rfl rfl rfl trivial rfl, rfl, rfl⟩
    · have hI : ¬ ((64 : Int) < val.length) := by omega
      have hd : decide (val.length ≤ 64) = true := decide_eq_true (by omega)
      by_cases h1 : op = 1
      · simp only [bool, bl_size, bl_toList, hI, hd, e1, h1, FinR, evRes, evRVs, evRV, am, simprocAttr, tys]
        exact ⟨_, [], [], rfl, Ent.plain rfl rfl rfl trivial rfl, rfl, rfl⟩
      · by_cases h4 : op = 4
        · simp only [bool, bl_size, bl_toList, hI, hd, e1, h1, e4, h4, FinR, evRes, evRVs, evRV, am, simprocAttr, tys]
          exact ⟨_, [], [], rfl, Ent.plain rfl rfl rfl trivial rfl, rfl, rfl⟩
        · by_cases h2 : op = 2
          · simp only [bool, bl_size, bl_toList, hI, hd, e1, h1, e4, h4, e2, h2, FinR, evRes, evRVs, evRV, am, simprocAttr, tys]
            exact ⟨_, [], [], rfl, Ent.plain rfl rfl rfl trivial rfl, rfl, rfl⟩
          · by_cases h3 : op = 3
            · simp only [bool, bl_size, bl_toList, hI, hd, e1, h1, e4, h4, e2, h2, e3, h3, FinR, evRes, evRVs, evRV, am, simprocAttr, tys]
              exact ⟨_, [], [], rfl, Ent.plain rfl rfl rfl trivial rfl, rfl, rfl⟩
            · simp only [bool, bl_size, bl_toList, hI, hd, e1, h1, e4, h4, e2, h2, e3, h3, FinR, evRes, evRVs, evRV, am, simprocAttr, tys]
              exact ⟨_, [], [], rfl, Ent.plain rfl rfl rfl trivial rfl, rfl, rfl⟩

theorem right1 (a : Ask) (hn : a.2.1.length ≤ 9223372036854775807) : AFun Try.prog 50 [.d (.agg (encA a))] [] (bool (!(mayOk a))) [] := by
  refine AFun.of_walk hP Try.func50 rfl rfl rfl (by simp) rfl ?_
  simp only [Try.f50, encA, am, simprocAttr, tys]
  refine ACall.of (matchMay a hn) [] [] rfl (by simp) (by simp) (by simp) (by repeat' (first | exact trivial | exact .inl rfl | exact .inr rfl | exact .inr ⟨rfl, by simp⟩ | exact .inr ⟨rfl, rfl, by simp⟩ | apply And.intro)) (by repeat' (first | exact trivial | rfl | exact (tkC_ren.1 _ _).symm | (simp; done) | apply And.intro)) (by first | exact .inl rfl | (refine .inr ⟨trivial, ?_⟩; first | (intro row h; rcases List.mem_singleton.1 h with rfl; exact nvB _) | (intro row h; cases h; done) | (simp; done)) | (refine .inr ⟨by simp [nvP, nvP.nvPs, nvD, nilS, errno], ?_⟩; first | (intro row h; rcases List.mem_singleton.1 h with rfl; exact nvB _) | (intro row h; cases h; done) | (simp [nvRow, nvD, nvP]; done))) ?_
  simp only [bool, FinR, evRes, evRVs, evRV, am, simprocAttr, tys]
  exact ⟨_, [], [], rfl, Ent.plain rfl rfl rfl trivial rfl, rfl, rfl⟩

theorem matchRight (l : List Ask) (hl : l.length ≤ 9223372036854775807) (hn : ∀ a ∈ l, a.2.1.length ≤ 9223372036854775807) : AFun Try.prog 26 [.d (.sl 3 (l.map encA))] [] (bool (rightA l)) [] := by
  refine AFun.of_walk hP Try.func26 rfl rfl rfl (by simp) rfl ?_
  unfold rightA
  have e : decide (l.length ≤ 8) = decide ((l.length : Int) ≤ 8) := by rw [decide_eq_decide]; omega
  rw [e]
  rcases h8 : decide ((l.length : Int) ≤ 8) with _ | _
  · simp only [Try.f26, h8, bool, Bool.and_false, FinR, evRes, evRVs, evRV, am, simprocAttr, tys]
    exact ⟨_, [], [], rfl, Ent.plain rfl rfl rfl trivial rfl, rfl, rfl⟩
  · simp only [Try.f26, h8, am, simprocAttr, tys]
    refine ACall.of (containsAsk0 l (fun x => !(mayOk x)) 50 hl (by kernel_rfl) (fun x hx => right1 x (hn x hx))) [] [] rfl (by simp) (by simp) (by simp) (by repeat' (first | exact trivial | exact .inl rfl | exact .inr rfl | exact .inr ⟨rfl, by simp⟩ | exact .inr ⟨rfl, rfl, by simp⟩ | apply And.intro)) (by repeat' (first | exact trivial | rfl | exact (tkC_ren.1 _ _).symm | (simp; done) | apply And.intro)) (by first | exact .inl rfl | (refine .inr ⟨trivial, ?_⟩; first | (intro row h; rcases List.mem_singleton.1 h with rfl; exact nvB _) | (intro row h; cases h; done) | (simp; done)) | (refine .inr ⟨by simp [nvP, nvP.nvPs, nvD, nilS, errno], ?_⟩; first | (intro row h; rcases List.mem_singleton.1 h with rfl; exact nvB _) | (intro row h; cases h; done) | (simp [nvRow, nvD, nvP]; done))) ?_
    have e2 : (!(l.any fun x => !(mayOk x))) = l.all mayOk := by simp [List.not_any_eq_all_not]
    simp only [e2, bool, FinR, evRes, evRVs, evRV, am, simprocAttr, tys]
    exact ⟨_, [], [], rfl, Ent.plain rfl rfl rfl trivial rfl, rfl, rfl⟩
end Go.Proofs.Ytkadildabhkocaa
