/- Proved here: what the functions of the program compute. No condition. -/
import Derived.Test.YtflpphgccjlkjaaT1
set_option linter.all false
set_option linter.unusedSimpArgs false
set_option linter.unusedVariables false
set_option linter.unusedSimpArgs false
set_option linter.unusedVariables false
namespace Go.Proofs.Ytflpphgccjlkjaa
open Go Go.AM

theorem all_step {α : Type} (p : α → Bool) (l : List α) (i : Nat) (hi : i < l.length) (h : ∀ x ∈ l.take i, p x = true) (hp : p l[i] = true) : ∀ x ∈ l.take (i + 1), p x = true := by
  intro x hx
  rw [List.take_succ_eq_append_getElem hi] at hx
  rcases List.mem_append.1 hx with h' | h'
  · exact h x h'
  · simp at h'; subst h'; exact hp
theorem all_not {α : Type} (p : α → Bool) (l : List α) (i : Nat) (hi : i < l.length) (hp : p l[i] = false) : l.all p = false := by
  rw [List.all_eq_false]; exact ⟨l[i], List.getElem_mem hi, by simp [hp]⟩


set_option maxRecDepth 8000 in
theorem refRight (l : List Ask) (hl : l.length ≤ 9223372036854775807) (hn : ∀ a ∈ l, a.2.1.length ≤ 9223372036854775807) : AFun Try.prog 62 [.d (.sl 3 (l.map encA))] [] (bool (rightA l)) [] := by
  refine AFun.of_walk hP Try.func62 rfl rfl rfl (by simp) rfl ?_
  simp only [Try.f62, am, simprocAttr, tys]
  refine ALoopW.intro 58 0 (ι := { i : Nat // i ≤ l.length ∧ ∀ x ∈ l.take i, mayOk x = true }) (fun i => [(0, .d (.sl 3 (l.map encA))), (3, int i.1)]) (fun _ => []) (fun i => l.length - i.1) ⟨0, by omega, by simp⟩ [] [] ?_ (fun ⟨i, hi, hall⟩ => ?_)
  · exact Ent.plain rfl rfl rfl (⟨.inr rfl, .inr rfl, trivial⟩) rfl
  rcases Nat.lt_or_ge i l.length with hlt | hge
  · have hb : l[i]? = some l[i] := List.getElem?_eq_getElem hlt
    have hlt2 : ((i : Int) < l.length) := by omega
    have e1 : IntKind.i64.wrap ((i : Int) + 1) = ((i + 1 : Nat) : Int) := by rw [IntWalk.i64_in _ (by omega)]; simp
    have hnn := hn l[i] (List.getElem_mem hlt)
    have hrej : mayOk l[i] = false → rightA l = false := fun h => by unfold rightA; rw [all_not mayOk l i hlt h]; rfl
    have hcont := all_step mayOk l i hlt hall
    generalize hA : l[i] = A at *
    obtain ⟨op, name, val, u⟩ := A
    simp only at hnn
    have hm : mayOk (op, name, val, u) = (nameOk name && decide (val.length ≤ 64) && (if op = 1 then !(val == []) else if op = 4 then val == [] else decide (op = 2) || decide (op = 3))) := rfl
    have c1 : ((op.toNat : Int) == 1) = decide (op = 1) := u8eq op 1 (by omega)
    have c4 : ((op.toNat : Int) == 4) = decide (op = 4) := u8eq op 4 (by omega)
    have hn0 : ∀ k : Nat, k < 256 → (op = UInt8.ofNat k ↔ op.toNat = k) := fun k hk => by
      constructor
      · intro h; subst h; simp; omega
      · intro h; apply UInt8.toNat_inj.1; simp; omega
    have d1 : op = 1 ↔ op.toNat = 1 := hn0 1 (by omega)
    have d2 : op = 2 ↔ op.toNat = 2 := hn0 2 (by omega)
    have d3 : op = 3 ↔ op.toNat = 3 := hn0 3 (by omega)
    have d4 : op = 4 ↔ op.toNat = 4 := hn0 4 (by omega)
    rcases Nat.lt_or_ge op.toNat 1 with g1 | g1
    · have g1I : ((op.toNat : Int) < 1) := by omega
      have hr := hrej (by rw [hm, if_neg (by rw [d1]; omega), if_neg (by rw [d4]; omega), decide_eq_false (show ¬ op = 2 by rw [d2]; omega), decide_eq_false (show ¬ op = 3 by rw [d3]; omega)]; simp)
      simp only [int, hb, hA, hlt2, encA, g1I, hr, bool, Int.natCast_nonneg, FinR, evRes, evRVs, evRV, am, simprocAttr, tys]
      exact ⟨_, [], [], rfl, Ent.plain rfl rfl rfl trivial rfl, rfl, rfl⟩
    · have g1I : ¬ ((op.toNat : Int) < 1) := by omega
      rcases Nat.lt_or_ge 4 op.toNat with g4 | g4
      · have g4I : ((4 : Int) < (op.toNat : Int)) := by omega
        have hr := hrej (by rw [hm, if_neg (by rw [d1]; omega), if_neg (by rw [d4]; omega), decide_eq_false (show ¬ op = 2 by rw [d2]; omega), decide_eq_false (show ¬ op = 3 by rw [d3]; omega)]; simp)
        simp only [int, hb, hA, hlt2, encA, g1I, g4I, hr, bool, Int.natCast_nonneg, FinR, evRes, evRVs, evRV, am, simprocAttr, tys]
        exact ⟨_, [], [], rfl, Ent.plain rfl rfl rfl trivial rfl, rfl, rfl⟩
      · have g4I : ¬ ((4 : Int) < (op.toNat : Int)) := by omega
        simp only [int, hb, hA, hlt2, encA, g1I, g4I, Int.natCast_nonneg, am, simprocAttr, tys]
        refine ACall.of (refName name hnn) [] [] rfl (by simp) (by simp) (by simp) (by repeat' (first | exact trivial | exact .inl rfl | exact .inr rfl | exact .inr ⟨rfl, rfl, rfl, by simp; done⟩ | exact .inr ⟨rfl, by simp; done⟩ | exact .inr ⟨rfl, rfl, by simp; done⟩ | apply And.intro)) (by repeat' (first | exact trivial | rfl | exact (tkC_ren.1 _ _).symm | (simp; done) | apply And.intro)) (by first | exact .inl rfl | (refine .inr ⟨trivial, ?_⟩; first | (intro row h; rcases List.mem_singleton.1 h with rfl; exact nvB _) | (intro row h; cases h; done) | (simp; done)) | (refine .inr ⟨by simp [nvP, nvP.nvPs, nvD, nilS, errno], ?_⟩; first | (intro row h; rcases List.mem_singleton.1 h with rfl; exact nvB _) | (intro row h; cases h; done) | (simp [nvRow, nvD, nvP]; done))) ?_
        rcases hnm : nameOk name with _ | _
        · have hr := hrej (by rw [hm, hnm]; simp)
          simp only [hr, bool, FinR, evRes, evRVs, evRV, am, simprocAttr, tys]
          exact ⟨_, [], [], rfl, Ent.plain rfl rfl rfl trivial rfl, rfl, rfl⟩
        · rcases Nat.lt_or_ge 64 val.length with hv | hv
          · have hI : ((64 : Int) < val.length) := by omega
            have hr := hrej (by rw [hm, decide_eq_false (show ¬ val.length ≤ 64 by omega)]; simp)
            simp only [hr, hI, bl_size, bool, FinR, evRes, evRVs, evRV, am, simprocAttr, tys]
            exact ⟨_, [], [], rfl, Ent.plain rfl rfl rfl trivial rfl, rfl, rfl⟩
          · have hI : ¬ ((64 : Int) < val.length) := by omega
            rw [hnm, decide_eq_true hv] at hm
            by_cases h4 : op = 4
            · have h1 : ¬ op = 1 := by rw [d1, d4.1 h4]; omega
              rw [if_neg h1, if_pos h4] at hm
              have hd1 : decide (op = 1) = false := decide_eq_false h1
              have hd4 : decide (op = 4) = true := decide_eq_true h4
              rcases hve : (val == []) with _ | _
              · have hr := hrej (by rw [hm, hve]; rfl)
                simp only [hr, hI, bl_size, bl_toList, bool, c4, c1, hd4, hd1, hve, FinR, evRes, evRVs, evRV, am, simprocAttr, tys]
                exact ⟨_, [], [], rfl, Ent.plain rfl rfl rfl trivial rfl, rfl, rfl⟩
              · have hc := hcont (by rw [hm, hve]; rfl)
                simp only [hI, bl_size, bl_toList, bool, c4, c1, hd4, hd1, hve, e1, am, simprocAttr, tys]
                exact ⟨⟨i + 1, by omega, hc⟩, [], [], Ent.plain rfl rfl rfl (⟨.inr rfl, .inr rfl, trivial⟩) rfl, by show l.length - (i + 1) < l.length - i; omega⟩
            · have hd4 : decide (op = 4) = false := decide_eq_false h4
              by_cases h1 : op = 1
              · rw [if_pos h1] at hm
                have hd1 : decide (op = 1) = true := decide_eq_true h1
                rcases hve : (val == []) with _ | _
                · have hc := hcont (by rw [hm, hve]; rfl)
                  simp only [hI, bl_size, bl_toList, bool, c4, c1, hd4, hd1, hve, e1, am, simprocAttr, tys]
                  exact ⟨⟨i + 1, by omega, hc⟩, [], [], Ent.plain rfl rfl rfl (⟨.inr rfl, .inr rfl, trivial⟩) rfl, by show l.length - (i + 1) < l.length - i; omega⟩
                · have hr := hrej (by rw [hm, hve]; rfl)
                  simp only [hr, hI, bl_size, bl_toList, bool, c4, c1, hd4, hd1, hve, FinR, evRes, evRVs, evRV, am, simprocAttr, tys]
                  exact ⟨_, [], [], rfl, Ent.plain rfl rfl rfl trivial rfl, rfl, rfl⟩
              · rw [if_neg h1, if_neg h4] at hm
                have hd1 : decide (op = 1) = false := decide_eq_false h1
                have hc := hcont (by
                  rw [hm]
                  by_cases h2 : op = 2
                  · rw [decide_eq_true h2]; rfl
                  · rw [decide_eq_true (show op = 3 by rw [d3]; rw [d1] at h1; rw [d2] at h2; rw [d4] at h4; omega)]; simp)
                simp only [hI, bl_size, bl_toList, bool, c4, c1, hd4, hd1, e1, am, simprocAttr, tys]
                exact ⟨⟨i + 1, by omega, hc⟩, [], [], Ent.plain rfl rfl rfl (⟨.inr rfl, .inr rfl, trivial⟩) rfl, by show l.length - (i + 1) < l.length - i; omega⟩
  · have hlt2 : ¬ ((i : Int) < l.length) := by omega
    have hi' : i = l.length := by omega
    have e : rightA l = decide ((l.length : Int) ≤ 8) := by
      unfold rightA
      have : l.all mayOk = true := by rw [List.all_eq_true]; intro x hx; exact hall x (by rw [hi', List.take_length]; exact hx)
      rw [this, Bool.true_and, decide_eq_decide]; omega
    simp only [int, bool, hlt2, e, FinR, evRes, evRVs, evRV, am, simprocAttr, tys]
    exact ⟨_, [], [], rfl, Ent.plain rfl rfl rfl trivial rfl, rfl, rfl⟩
end Go.Proofs.Ytflpphgccjlkjaa

set_option linter.unusedSimpArgs false
set_option linter.unusedVariables false
namespace Go.Proofs.Ytflpphgccjlkjaa
open Go Go.AM

/-! ## the order of texts -/
abbrev lt (x y : List UInt8) : Bool := Op.bytesLess x y
theorem lt_cons (a b : UInt8) (x y : List UInt8) : lt (a :: x) (b :: y) = (decide (a < b) || (a == b && lt x y)) := rfl
theorem lt_irrefl : ∀ x, lt x x = false
  | [] => rfl
  | a :: x => by
    have := lt_irrefl x
    rw [lt_cons, this]
    simp
theorem lt_tri : ∀ x y, x = y ∨ lt x y = true ∨ lt y x = true
  | [], [] => .inl rfl
  | [], b :: y => .inr (.inl rfl)
  | a :: x, [] => .inr (.inr rfl)
  | a :: x, b :: y => by
    have ih := lt_tri x y
    rw [lt_cons, lt_cons]
    rcases Nat.lt_trichotomy a.toNat b.toNat with h | h | h
    · right; left
      have : a < b := UInt8.lt_iff_toNat_lt.2 h
      simp [this]
    · have hab : a = b := UInt8.toNat_inj.1 h
      subst hab
      rcases ih with rfl | h' | h'
      · left; rfl
      · right; left; simp [h']
      · right; right; simp [h']
    · right; right
      have : b < a := UInt8.lt_iff_toNat_lt.2 h
      simp [this]
theorem lt_trans : ∀ x y z, lt x y = true → lt y z = true → lt x z = true
  | _, [], z, h, _ => by simp [lt, Op.bytesLess] at h
  | _, _ :: _, [], _, h => by simp [lt, Op.bytesLess] at h
  | [], _ :: _, c :: z, _, _ => rfl
  | a :: x, b :: y, c :: z, h1, h2 => by
    have ih := lt_trans x y z
    rw [lt_cons] at h1 h2 ⊢
    simp only [Bool.or_eq_true, decide_eq_true_eq, Bool.and_eq_true, beq_iff_eq] at *
    rcases h1 with h1 | ⟨rfl, h1⟩
    · rcases h2 with h2 | ⟨rfl, h2⟩
      · left; rw [UInt8.lt_iff_toNat_lt] at *; omega
      · left; exact h1
    · rcases h2 with h2 | ⟨rfl, h2⟩
      · left; exact h2
      · right; exact ⟨rfl, ih h1 h2⟩
theorem lt_asymm {x y : List UInt8} (h : lt x y = true) : lt y x = false := by
  rcases h2 : lt y x with _ | _
  · rfl
  · have := lt_trans x y x h h2
    rw [lt_irrefl] at this; cases this
theorem lt_ne {x y : List UInt8} (h : lt x y = true) : (x == y) = false := by
  rw [beq_eq_false_iff_ne]
  intro e; subst e; rw [lt_irrefl] at h; cases h
theorem not_le (x y : List UInt8) : (lt x y || x == y) = !(lt y x) := by
  rcases lt_tri x y with rfl | h | h
  · simp [lt_irrefl]
  · rw [h, lt_asymm h]; rfl
  · rw [h, lt_asymm h, Bool.false_or, Bool.not_true]
    have := lt_ne h
    rw [beq_eq_false_iff_ne] at this ⊢
    exact fun e => this e.symm
theorem lt_nil (x : List UInt8) (h : 1 ≤ x.length) : lt [] x = true := by
  cases x with
  | nil => simp at h
  | cons a x => rfl
end Go.Proofs.Ytflpphgccjlkjaa

set_option linter.unusedSimpArgs false
set_option linter.unusedVariables false
namespace Go.Proofs.Ytflpphgccjlkjaa
open Go Go.AM

/-! ## labels that tell a series -/
def valOk (v : List UInt8) : Bool := decide (1 ≤ v.length) && decide (v.length ≤ 64)
def prevOk (l : List Lab) (i : Nat) (n : List UInt8) : Bool := match i with | 0 => true | j + 1 => match l[j]? with | some y => lt y.1 n | none => true
def okAt (l : List Lab) (i : Nat) : Bool := match l[i]? with
  | none => true
  | some x => nameOk x.1 && valOk x.2.1 && prevOk l i x.1
def rightL (l : List Lab) : Bool := (List.range l.length).all (okAt l) && (decide (1 ≤ l.length) && decide (l.length ≤ 6))

theorem rightL_iff (l : List Lab) : rightL l = true ↔ (∀ i, i < l.length → okAt l i = true) ∧ 1 ≤ l.length ∧ l.length ≤ 6 := by
  unfold rightL
  simp [List.all_eq_true]
theorem rightL_not (l : List Lab) (i : Nat) (hi : i < l.length) (h : okAt l i = false) : rightL l = false := by
  rcases hr : rightL l with _ | _
  · rfl
  · have := ((rightL_iff l).1 hr).1 i hi
    rw [h] at this; cases this
theorem rightL_of (l : List Lab) (h : ∀ i, i < l.length → okAt l i = true) : rightL l = (decide (1 ≤ l.length) && decide (l.length ≤ 6)) := by
  unfold rightL
  have : (List.range l.length).all (okAt l) = true := by
    rw [List.all_eq_true]; intro i hi; exact h i (List.mem_range.1 hi)
  rw [this, Bool.true_and]
theorem okAt_get (l : List Lab) (i : Nat) (hi : i < l.length) : okAt l i = (nameOk l[i].1 && valOk l[i].2.1 && prevOk l i l[i].1) := by
  unfold okAt
  rw [List.getElem?_eq_getElem hi]
def lastN (l : List Lab) (i : Nat) : List UInt8 := match i with | 0 => [] | j + 1 => match l[j]? with | some y => y.1 | none => []
theorem nameOk_len {s : List UInt8} (h : nameOk s = true) : 1 ≤ s.length ∧ s.length ≤ 16 := by
  unfold nameOk at h
  simp only [Bool.and_eq_true, decide_eq_true_eq] at h
  exact h.1.1
theorem okAt_last (l : List Lab) (i : Nat) (hi : i < l.length) (hn : nameOk l[i].1 = true) : okAt l i = (valOk l[i].2.1 && lt (lastN l i) l[i].1) := by
  rw [okAt_get l i hi, hn, Bool.true_and]
  congr 1
  cases i with
  | zero => simp only [lastN, prevOk]; exact (lt_nil _ (nameOk_len hn).1).symm
  | succ j =>
    have hj : l[j]? = some l[j] := List.getElem?_eq_getElem (by omega)
    simp only [lastN, prevOk, hj]

theorem withinL (l : List Lab) (m : Int) : AFun Try.prog 94 [.d (.sl 2 (l.map encL)), int m] [] (bool (decide (1 ≤ l.length) && decide ((l.length : Int) ≤ m))) [] := by
  refine AFun.of_walk hP Try.func94 rfl rfl rfl (by simp) rfl ?_
  have e : decide (1 ≤ l.length) = decide ((1 : Int) ≤ l.length) := by rw [decide_eq_decide]; omega
  rw [e]
  rcases h1 : decide ((1 : Int) ≤ l.length) with _ | _ <;>
    (simp only [Try.f94, int, bool, h1, FinR, evRes, evRVs, evRV, am, simprocAttr, tys]; exact ⟨_, [], [], rfl, Ent.plain rfl rfl rfl trivial rfl, rfl, rfl⟩)

theorem labelRight (l : List Lab) (hl : l.length ≤ 9223372036854775807) (hx : ∀ x ∈ l, x.1.length ≤ 9223372036854775807 ∧ x.2.1.length ≤ 9223372036854775807) :
    AFun Try.prog 75 [.d (.sl 2 (l.map encL))] [] (bool (rightL l)) [] := by
  refine AFun.of_walk hP Try.func75 rfl rfl rfl (by simp) rfl ?_
  simp only [Try.f75, am, simprocAttr, tys]
  refine ALoopW.intro 33 0 (ι := { i : Nat // i ≤ l.length ∧ ∀ j, j < i → okAt l j = true }) (fun i => [(0, .d (.sl 2 (l.map encL))), (3, str (lastN l i.1)), (6, .d (.sl 2 (l.map encL))), (7, int l.length), (8, int i.1)]) (fun _ => []) (fun i => l.length - i.1) ⟨0, by omega, by intro j hj; omega⟩ [] [] ?_ (fun ⟨i, hi, hall⟩ => ?_)
  · exact Ent.plain rfl rfl rfl (⟨.inr rfl, .inr rfl, .inr rfl, .inr rfl, .inr rfl, trivial⟩) rfl
  rcases Nat.lt_or_ge i l.length with hlt | hge
  · have hb : l[i]? = some l[i] := List.getElem?_eq_getElem hlt
    have hlt2 : ((i : Int) < l.length) := by omega
    have e1 : IntKind.i64.wrap ((i : Int) + 1) = ((i + 1 : Nat) : Int) := by rw [IntWalk.i64_in _ (by omega)]; simp
    obtain ⟨x1, x2⟩ := hx l[i] (List.getElem_mem hlt)
    have hcont : okAt l i = true → ∀ j, j < i + 1 → okAt l j = true := fun h j hj => by
      rcases Nat.lt_or_ge j i with hj' | hj'
      · exact hall j hj'
      · have : j = i := by omega
        subst this; exact h
    have hlast : lastN l (i + 1) = l[i].1 := by simp only [lastN, hb]
    have hw := within l[i].2.1 64 x2
    have e64 : decide ((l[i].2.1.length : Int) ≤ 64) = decide (l[i].2.1.length ≤ 64) := by rw [decide_eq_decide]; omega
    rw [e64] at hw
    have hv : (decide (1 ≤ l[i].2.1.length) && decide (l[i].2.1.length ≤ 64)) = valOk l[i].2.1 := rfl
    rw [hv] at hw
    simp only [int, str, hb, hlt2, encL, Int.natCast_nonneg, am, simprocAttr, tys]
    refine ACall.of (labelName l[i].1 x1) [] [] rfl (by simp) (by simp) (by simp) (by repeat' (first | exact trivial | exact .inl rfl | exact .inr rfl | exact .inr ⟨rfl, rfl, rfl, by simp; done⟩ | exact .inr ⟨rfl, by simp; done⟩ | exact .inr ⟨rfl, rfl, by simp; done⟩ | apply And.intro)) (by repeat' (first | exact trivial | rfl | exact (tkC_ren.1 _ _).symm | (simp; done) | apply And.intro)) (by first | exact .inl rfl | (refine .inr ⟨trivial, ?_⟩; first | (intro row h; rcases List.mem_singleton.1 h with rfl; exact nvB _) | (intro row h; cases h; done) | (simp; done)) | (refine .inr ⟨by simp [nvP, nvP.nvPs, nvD, nilS, errno], ?_⟩; first | (intro row h; rcases List.mem_singleton.1 h with rfl; exact nvB _) | (intro row h; cases h; done) | (simp [nvRow, nvD, nvP]; done))) ?_
    rcases hn : nameOk l[i].1 with _ | _
    · have hr := rightL_not l i hlt (by rw [okAt_get l i hlt, hn]; rfl)
      simp only [bool, hr, FinR, evRes, evRVs, evRV, am, simprocAttr, tys]
      exact ⟨_, [], [], rfl, Ent.plain rfl rfl rfl trivial rfl, rfl, rfl⟩
    · have ho := okAt_last l i hlt hn
      simp only [bool, am, simprocAttr, tys]
      refine ACall.of (hw) [] [] rfl (by simp) (by simp) (by simp) (by repeat' (first | exact trivial | exact .inl rfl | exact .inr rfl | exact .inr ⟨rfl, rfl, rfl, by simp; done⟩ | exact .inr ⟨rfl, by simp; done⟩ | exact .inr ⟨rfl, rfl, by simp; done⟩ | apply And.intro)) (by repeat' (first | exact trivial | rfl | exact (tkC_ren.1 _ _).symm | (simp; done) | apply And.intro)) (by first | exact .inl rfl | (refine .inr ⟨trivial, ?_⟩; first | (intro row h; rcases List.mem_singleton.1 h with rfl; exact nvB _) | (intro row h; cases h; done) | (simp; done)) | (refine .inr ⟨by simp [nvP, nvP.nvPs, nvD, nilS, errno], ?_⟩; first | (intro row h; rcases List.mem_singleton.1 h with rfl; exact nvB _) | (intro row h; cases h; done) | (simp [nvRow, nvD, nvP]; done))) ?_
      rcases hvo : valOk l[i].2.1 with _ | _
      · have hr := rightL_not l i hlt (by rw [ho, hvo]; rfl)
        simp only [bool, hr, FinR, evRes, evRVs, evRV, am, simprocAttr, tys]
        exact ⟨_, [], [], rfl, Ent.plain rfl rfl rfl trivial rfl, rfl, rfl⟩
      · have hle := not_le l[i].1 (lastN l i)
        have hle' : (Op.bytesLess l[i].1 (lastN l i) || l[i].1 == lastN l i) = !(lt (lastN l i) l[i].1) := hle
        rcases hlt3 : lt (lastN l i) l[i].1 with _ | _
        · rw [hlt3] at hle'
          have hr := rightL_not l i hlt (by rw [ho, hvo, hlt3]; rfl)
          simp only [bool, hr, bl_toList, hle', FinR, evRes, evRVs, evRV, am, simprocAttr, tys]
          exact ⟨_, [], [], rfl, Ent.plain rfl rfl rfl trivial rfl, rfl, rfl⟩
        · rw [hlt3] at hle'
          have hc := hcont (by rw [ho, hvo, hlt3]; rfl)
          simp only [bool, bl_toList, hle', e1, am, simprocAttr, tys]
          refine ⟨⟨i + 1, by omega, hc⟩, [], [], Ent.plain rfl rfl rfl (⟨.inr ?_, .inr ?_, .inr ?_, .inr ?_, .inr ?_, trivial⟩) rfl, by show l.length - (i + 1) < l.length - i; omega⟩
          · rfl
          · exact congrArg str hlast.symm
          · rfl
          · rfl
          · rfl
  · have hlt2 : ¬ ((i : Int) < l.length) := by omega
    have hr := rightL_of l (fun j hj => hall j (by omega))
    have e6 : decide ((l.length : Int) ≤ 6) = decide (l.length ≤ 6) := by rw [decide_eq_decide]; omega
    have hw := withinL l 6
    rw [e6, ← hr] at hw
    simp only [int, hlt2, am, simprocAttr, tys]
    refine ACall.of (hw) [] [] rfl (by simp) (by simp) (by simp) (by repeat' (first | exact trivial | exact .inl rfl | exact .inr rfl | exact .inr ⟨rfl, rfl, rfl, by simp; done⟩ | exact .inr ⟨rfl, by simp; done⟩ | exact .inr ⟨rfl, rfl, by simp; done⟩ | apply And.intro)) (by repeat' (first | exact trivial | rfl | exact (tkC_ren.1 _ _).symm | (simp; done) | apply And.intro)) (by first | exact .inl rfl | (refine .inr ⟨trivial, ?_⟩; first | (intro row h; rcases List.mem_singleton.1 h with rfl; exact nvB _) | (intro row h; cases h; done) | (simp; done)) | (refine .inr ⟨by simp [nvP, nvP.nvPs, nvD, nilS, errno], ?_⟩; first | (intro row h; rcases List.mem_singleton.1 h with rfl; exact nvB _) | (intro row h; cases h; done) | (simp [nvRow, nvD, nvP]; done))) ?_
    simp only [bool, FinR, evRes, evRVs, evRV, am, simprocAttr, tys]
    exact ⟨_, [], [], rfl, Ent.plain rfl rfl rfl trivial rfl, rfl, rfl⟩

set_option maxRecDepth 8000 in
theorem refRight5 (l : List Lab) (hl : l.length ≤ 9223372036854775807) (hx : ∀ x ∈ l, x.1.length ≤ 9223372036854775807 ∧ x.2.1.length ≤ 9223372036854775807) :
    AFun Try.prog 61 [.d (.sl 2 (l.map encL))] [] (bool (rightL l)) [] := by
  refine AFun.of_walk hP Try.func61 rfl rfl rfl (by simp) rfl ?_
  simp only [Try.f61, am, simprocAttr, tys]
  refine ALoopW.intro 61 0 (ι := { i : Nat // i ≤ l.length ∧ ∀ j, j < i → okAt l j = true }) (fun i => [(0, .d (.sl 2 (l.map encL))), (3, int i.1)]) (fun _ => []) (fun i => l.length - i.1) ⟨0, by omega, by intro j hj; omega⟩ [] [] ?_ (fun ⟨i, hi, hall⟩ => ?_)
  · exact Ent.plain rfl rfl rfl (⟨.inr rfl, .inr rfl, trivial⟩) rfl
  rcases Nat.lt_or_ge i l.length with hlt | hge
  · have hb : l[i]? = some l[i] := List.getElem?_eq_getElem hlt
    have hlt2 : ((i : Int) < l.length) := by omega
    have e1 : IntKind.i64.wrap ((i : Int) + 1) = ((i + 1 : Nat) : Int) := by rw [IntWalk.i64_in _ (by omega)]; simp
    obtain ⟨x1, x2⟩ := hx l[i] (List.getElem_mem hlt)
    have hcont : okAt l i = true → ∀ j, j < i + 1 → okAt l j = true := fun h j hj => by
      rcases Nat.lt_or_ge j i with hj' | hj'
      · exact hall j hj'
      · have : j = i := by omega
        subst this; exact h
    simp only [int, hb, hlt2, encL, Int.natCast_nonneg, am, simprocAttr, tys]
    refine ACallD.of (refName l[i].1 x1) (by kernel_rfl) [] [] rfl (by simp) (by simp) (by simp) (by simp) (by repeat' (first | exact trivial | exact .inl rfl | exact .inr rfl | exact .inr ⟨rfl, rfl, rfl, by simp; done⟩ | exact .inr ⟨rfl, by simp; done⟩ | exact .inr ⟨rfl, rfl, by simp; done⟩ | apply And.intro)) (by repeat' (first | exact trivial | rfl | exact (tkC_ren.1 _ _).symm | (simp; done) | apply And.intro)) (by first | exact .inl rfl | (refine .inr ⟨trivial, ?_⟩; first | (intro row h; rcases List.mem_singleton.1 h with rfl; exact nvB _) | (intro row h; cases h; done) | (simp; done)) | (refine .inr ⟨by simp [nvP, nvP.nvPs, nvD, nilS, errno], ?_⟩; first | (intro row h; rcases List.mem_singleton.1 h with rfl; exact nvB _) | (intro row h; cases h; done) | (simp [nvRow, nvD, nvP]; done))) rfl rfl rfl rfl ?_
    rcases hn : nameOk l[i].1 with _ | _
    · have hr := rightL_not l i hlt (by rw [okAt_get l i hlt, hn]; rfl)
      simp only [bool, hr, FinR, evRes, evRVs, evRV, am, simprocAttr, tys]
      exact ⟨by kernel_rfl, ⟨_, [], [], rfl, Ent.plain rfl rfl rfl trivial rfl, rfl, rfl⟩⟩
    · have ho := okAt_last l i hlt hn
      rcases Nat.lt_or_ge l[i].2.1.length 1 with hv1 | hv1
      · have hI : ((l[i].2.1.length : Int) < 1) := by omega
        have hr := rightL_not l i hlt (by rw [ho]; unfold valOk; rw [decide_eq_false (show ¬ 1 ≤ l[i].2.1.length by omega)]; rfl)
        simp only [bool, bl_size, hb, hlt2, encL, Int.natCast_nonneg, hI, hr, FinR, evRes, evRVs, evRV, am, simprocAttr, tys]
        exact ⟨by kernel_rfl, ⟨_, [], [], rfl, Ent.plain rfl rfl rfl trivial rfl, rfl, rfl⟩⟩
      · have hI : ¬ ((l[i].2.1.length : Int) < 1) := by omega
        rcases Nat.lt_or_ge 64 l[i].2.1.length with hv2 | hv2
        · have hI2 : ((64 : Int) < (l[i].2.1.length : Int)) := by omega
          have hr := rightL_not l i hlt (by rw [ho]; unfold valOk; rw [decide_eq_false (show ¬ l[i].2.1.length ≤ 64 by omega), Bool.and_false]; rfl)
          simp only [bool, bl_size, hb, hlt2, encL, Int.natCast_nonneg, hI, hI2, hr, FinR, evRes, evRVs, evRV, am, simprocAttr, tys]
          exact ⟨by kernel_rfl, ⟨_, [], [], rfl, Ent.plain rfl rfl rfl trivial rfl, rfl, rfl⟩⟩
        · have hI2 : ¬ ((64 : Int) < (l[i].2.1.length : Int)) := by omega
          have hvo : valOk l[i].2.1 = true := by unfold valOk; rw [decide_eq_true hv1, decide_eq_true hv2]; rfl
          rw [hvo, Bool.true_and] at ho
          rcases Nat.eq_zero_or_pos i with h0 | h0
          · have h0I : ¬ ((0 : Int) < (i : Int)) := by omega
            have hc := hcont (by rw [ho]; subst h0; exact lt_nil _ (nameOk_len hn).1)
            simp only [bool, bl_size, hb, hlt2, encL, Int.natCast_nonneg, hI, hI2, h0I, e1, am, simprocAttr, tys]
            exact ⟨by kernel_rfl, ⟨i + 1, by omega, hc⟩, [], [], Ent.plain rfl rfl rfl (⟨.inr rfl, .inr rfl, trivial⟩) rfl, by show l.length - (i + 1) < l.length - i; omega⟩
          · have h0I : ((0 : Int) < (i : Int)) := by omega
            have e2 : IntKind.i64.wrap ((i : Int) - 1) = ((i - 1 : Nat) : Int) := by rw [IntWalk.i64_in _ (by omega)]; omega
            have hlt4 : (((i - 1 : Nat) : Int) < (l.length : Int)) := by omega
            have hlti : i - 1 < l.length := by omega
            have hb2 : l[i - 1]? = some l[i - 1] := List.getElem?_eq_getElem hlti
            have hla : lastN l i = l[i - 1].1 := by
              obtain ⟨k, rfl⟩ : ∃ k, i = k + 1 := ⟨i - 1, by omega⟩
              simp only [lastN]
              have : l[k]? = some l[k] := List.getElem?_eq_getElem (by omega)
              rw [this]; rfl
            rw [hla] at ho
            have hle' : (Op.bytesLess l[i].1 l[i - 1].1 || l[i].1 == l[i - 1].1) = !(lt l[i - 1].1 l[i].1) := not_le l[i].1 l[i - 1].1
            rcases hlt3 : lt l[i - 1].1 l[i].1 with _ | _
            · rw [hlt3] at hle'
              have hr := rightL_not l i hlt (by rw [ho, hlt3])
              simp only [bool, bl_size, bl_toList, hb, hb2, hlt2, hlt4, encL, hI, hI2, h0I, e2, hr, hle', Int.natCast_nonneg, FinR, evRes, evRVs, evRV, am, simprocAttr, tys]
              exact ⟨by kernel_rfl, ⟨_, [], [], rfl, Ent.plain rfl rfl rfl trivial rfl, rfl, rfl⟩⟩
            · rw [hlt3] at hle'
              have hc := hcont (by rw [ho, hlt3])
              simp only [bool, bl_size, bl_toList, hb, hb2, hlt2, hlt4, encL, hI, hI2, h0I, e1, e2, hle', Int.natCast_nonneg, am, simprocAttr, tys]
              exact ⟨by kernel_rfl, ⟨i + 1, by omega, hc⟩, [], [], Ent.plain rfl rfl rfl (⟨.inr rfl, .inr rfl, trivial⟩) rfl, by show l.length - (i + 1) < l.length - i; omega⟩
  · have hlt2 : ¬ ((i : Int) < l.length) := by omega
    have hr := rightL_of l (fun j hj => hall j (by omega))
    have e6 : decide (l.length ≤ 6) = decide ((l.length : Int) ≤ 6) := by rw [decide_eq_decide]; omega
    have e1' : decide (1 ≤ l.length) = decide ((1 : Int) ≤ (l.length : Int)) := by rw [decide_eq_decide]; omega
    rw [e6, e1'] at hr
    rcases h1 : decide ((1 : Int) ≤ (l.length : Int)) with _ | _
    · rw [h1] at hr
      simp only [int, bool, hlt2, h1, hr, FinR, evRes, evRVs, evRV, am, simprocAttr, tys]
      exact ⟨_, [], [], rfl, Ent.plain rfl rfl rfl trivial rfl, rfl, rfl⟩
    · rw [h1] at hr
      simp only [int, bool, hlt2, h1, hr, FinR, evRes, evRVs, evRV, am, simprocAttr, tys]
      exact ⟨_, [], [], rfl, Ent.plain rfl rfl rfl trivial rfl, rfl, rfl⟩
end Go.Proofs.Ytflpphgccjlkjaa

set_option linter.unusedSimpArgs false
set_option linter.unusedVariables false
namespace Go.Proofs.Ytflpphgccjlkjaa
open Go Go.AM

def noL (o : OpT) : Bool := decide (o.2.1.length = 0)
def noA (o : OpT) : Bool := decide (o.2.2.2.1.length = 0)
def z1 (o : OpT) : Bool := o.2.2.1.1 == 0
def z2 (o : OpT) : Bool := o.2.2.1.2.1 == 0
def rightO (o : OpT) : Bool :=
  if o.1 = 1 then rightL o.2.1 && noA o
  else if o.1 = 4 then rightA o.2.2.2.1 && (noL o && (z1 o && z2 o))
  else if o.1 = 3 then noL o && (noA o && z2 o)
  else if o.1 = 2 then noL o && (noA o && (z1 o && z2 o))
  else false
structure Fit (o : OpT) : Prop where
  l : o.2.1.length ≤ 9223372036854775807
  a : o.2.2.2.1.length ≤ 9223372036854775807
  lx : ∀ x ∈ o.2.1, x.1.length ≤ 9223372036854775807 ∧ x.2.1.length ≤ 9223372036854775807
  ax : ∀ x ∈ o.2.2.2.1, x.2.1.length ≤ 9223372036854775807

theorem pt_zero (o : OpT) : eqLits [.int .i64, .int .i64] [.lit (.int .i64 o.2.2.1.1), .lit (.int .i64 o.2.2.1.2.1)] [.lit (.int .i64 0), .lit (.int .i64 0)] = some (z1 o && z2 o) := by
  simp only [eqLits, eqK, if_true, Bool.and_true, z1, z2]
theorem pt_zero2 (o : OpT) : eqLits [.int .i64, .int .i64] [.lit (.int .i64 0), .lit (.int .i64 o.2.2.1.2.1)] [.lit (.int .i64 0), .lit (.int .i64 0)] = some (z2 o) := by
  simp only [eqLits, eqK, if_true, Bool.and_true, z2, beq_self_eq_true, Bool.true_and]

set_option maxRecDepth 8000 in
set_option maxHeartbeats 1000000 in
theorem opRight (o : OpT) (h : Fit o) : AFun Try.prog 49 [.d (.agg (encO o))] [] (bool (rightO o)) [] := by
  refine AFun.of_walk hP Try.func49 rfl rfl rfl (by simp) rfl ?_
  have c1 : ((o.1.toNat : Int) == 1) = decide (o.1 = 1) := u8eq o.1 1 (by omega)
  have c2 : ((o.1.toNat : Int) == 2) = decide (o.1 = 2) := u8eq o.1 2 (by omega)
  have c3 : ((o.1.toNat : Int) == 3) = decide (o.1 = 3) := u8eq o.1 3 (by omega)
  have c4 : ((o.1.toNat : Int) == 4) = decide (o.1 = 4) := u8eq o.1 4 (by omega)
  have cL := labelRight o.2.1 h.l h.lx
  have cA := matchRight o.2.2.2.1 h.a h.ax
  have hz := pt_zero o
  have hz2 := pt_zero2 o
  have hl : decide ((0 : Int) < (o.2.1.length : Int)) = !noL o := by
    unfold noL
    by_cases q : o.2.1.length = 0
    · rw [decide_eq_true q, decide_eq_false (by omega)]; rfl
    · rw [decide_eq_false q, decide_eq_true (by omega)]; rfl
  have ha : decide ((0 : Int) < (o.2.2.2.1.length : Int)) = !noA o := by
    unfold noA
    by_cases q : o.2.2.2.1.length = 0
    · rw [decide_eq_true q, decide_eq_false (by omega)]; rfl
    · rw [decide_eq_false q, decide_eq_true (by omega)]; rfl
  by_cases h1 : o.1 = 1
  · have hr : rightO o = (rightL o.2.1 && noA o) := by unfold rightO; rw [if_pos h1]
    have d1 : decide (o.1 = 1) = true := decide_eq_true h1
    rw [hr]
    simp only [Try.f49, encO, hl, ha, c1, d1, am, simprocAttr, tys]
    refine ⟨by kernel_rfl, ?_⟩
    refine ACall.of (cL) [] [] rfl (by simp) (by simp) (by simp) (by repeat' (first | exact trivial | exact .inl rfl | exact .inr rfl | exact .inr ⟨rfl, rfl, rfl, by simp; done⟩ | exact .inr ⟨rfl, by simp; done⟩ | exact .inr ⟨rfl, rfl, by simp; done⟩ | apply And.intro)) (by repeat' (first | exact trivial | rfl | exact (tkC_ren.1 _ _).symm | (simp; done) | apply And.intro)) (by first | exact .inl rfl | (refine .inr ⟨trivial, ?_⟩; first | (intro row h; rcases List.mem_singleton.1 h with rfl; exact nvB _) | (intro row h; cases h; done) | (simp; done)) | (refine .inr ⟨by simp [nvP, nvP.nvPs, nvD, nilS, errno], ?_⟩; first | (intro row h; rcases List.mem_singleton.1 h with rfl; exact nvB _) | (intro row h; cases h; done) | (simp [nvRow, nvD, nvP]; done))) ?_
    rcases rightL o.2.1 with _ | _
    · simp only [bool, Bool.false_and, FinR, evRes, evRVs, evRV, am, simprocAttr, tys]
      exact ⟨_, [], [], rfl, Ent.plain rfl rfl rfl trivial rfl, rfl, rfl⟩
    · simp only [bool, Bool.true_and, Bool.not_not, FinR, evRes, evRVs, evRV, am, simprocAttr, tys]
      exact ⟨_, [], [], rfl, Ent.plain rfl rfl rfl trivial rfl, rfl, rfl⟩
  · have d1 : decide (o.1 = 1) = false := decide_eq_false h1
    by_cases h4 : o.1 = 4
    · have hr : rightO o = (rightA o.2.2.2.1 && (noL o && (z1 o && z2 o))) := by unfold rightO; rw [if_neg h1, if_pos h4]
      have d4 : decide (o.1 = 4) = true := decide_eq_true h4
      rw [hr]
      simp only [Try.f49, encO, hl, ha, c1, d1, c4, d4, am, simprocAttr, tys]
      refine ⟨by kernel_rfl, ?_⟩
      refine ACall.of (cA) [] [] rfl (by simp) (by simp) (by simp) (by repeat' (first | exact trivial | exact .inl rfl | exact .inr rfl | exact .inr ⟨rfl, rfl, rfl, by simp; done⟩ | exact .inr ⟨rfl, by simp; done⟩ | exact .inr ⟨rfl, rfl, by simp; done⟩ | apply And.intro)) (by repeat' (first | exact trivial | rfl | exact (tkC_ren.1 _ _).symm | (simp; done) | apply And.intro)) (by first | exact .inl rfl | (refine .inr ⟨trivial, ?_⟩; first | (intro row h; rcases List.mem_singleton.1 h with rfl; exact nvB _) | (intro row h; cases h; done) | (simp; done)) | (refine .inr ⟨by simp [nvP, nvP.nvPs, nvD, nilS, errno], ?_⟩; first | (intro row h; rcases List.mem_singleton.1 h with rfl; exact nvB _) | (intro row h; cases h; done) | (simp [nvRow, nvD, nvP]; done))) ?_
      rcases rightA o.2.2.2.1 with _ | _
      · simp only [bool, Bool.false_and, FinR, evRes, evRVs, evRV, am, simprocAttr, tys]
        exact ⟨_, [], [], rfl, Ent.plain rfl rfl rfl trivial rfl, rfl, rfl⟩
      · rcases hnl : noL o with _ | _
        · simp only [bool, Bool.true_and, Bool.false_and, Bool.not_not, hnl, hz, FinR, evRes, evRVs, evRV, am, simprocAttr, tys]
          exact ⟨_, [], [], rfl, Ent.plain rfl rfl rfl trivial rfl, rfl, rfl⟩
        · simp only [bool, Bool.true_and, Bool.not_not, hnl, hz, FinR, evRes, evRVs, evRV, am, simprocAttr, tys]
          exact ⟨_, [], [], rfl, Ent.plain rfl rfl rfl trivial rfl, rfl, rfl⟩
    · have d4 : decide (o.1 = 4) = false := decide_eq_false h4
      by_cases h3 : o.1 = 3
      · have hr : rightO o = (noL o && (noA o && z2 o)) := by unfold rightO; rw [if_neg h1, if_neg h4, if_pos h3]
        have d3 : decide (o.1 = 3) = true := decide_eq_true h3
        rw [hr]
        rcases hnl : noL o with _ | _
        · simp only [Try.f49, encO, hl, ha, hnl, c1, d1, c4, d4, c3, d3, bool, Bool.true_and, Bool.false_and, Bool.not_not, Bool.not_false, Bool.not_true, FinR, evRes, evRVs, evRV, am, simprocAttr, tys]
          exact ⟨by kernel_rfl, ⟨_, [], [], rfl, Ent.plain rfl rfl rfl trivial rfl, rfl, rfl⟩⟩
        · rcases hna : noA o with _ | _
          · simp only [Try.f49, encO, hl, ha, hnl, hna, c1, d1, c4, d4, c3, d3, bool, Bool.true_and, Bool.false_and, Bool.not_not, Bool.not_false, Bool.not_true, FinR, evRes, evRVs, evRV, am, simprocAttr, tys]
            exact ⟨by kernel_rfl, ⟨_, [], [], rfl, Ent.plain rfl rfl rfl trivial rfl, rfl, rfl⟩⟩
          · simp only [Try.f49, encO, hl, ha, hnl, hna, hz2, c1, d1, c4, d4, c3, d3, bool, Bool.true_and, Bool.false_and, Bool.not_not, Bool.not_false, Bool.not_true, FinR, evRes, evRVs, evRV, am, simprocAttr, tys]
            exact ⟨by kernel_rfl, ⟨_, [], [], rfl, Ent.plain rfl rfl rfl trivial rfl, rfl, rfl⟩⟩
      · have d3 : decide (o.1 = 3) = false := decide_eq_false h3
        by_cases h2 : o.1 = 2
        · have hr : rightO o = (noL o && (noA o && (z1 o && z2 o))) := by unfold rightO; rw [if_neg h1, if_neg h4, if_neg h3, if_pos h2]
          have d2 : decide (o.1 = 2) = true := decide_eq_true h2
          rw [hr]
          rcases hnl : noL o with _ | _
          · simp only [Try.f49, encO, hl, ha, hnl, c1, d1, c4, d4, c3, d3, c2, d2, bool, Bool.true_and, Bool.false_and, Bool.not_not, Bool.not_false, Bool.not_true, FinR, evRes, evRVs, evRV, am, simprocAttr, tys]
            exact ⟨by kernel_rfl, ⟨_, [], [], rfl, Ent.plain rfl rfl rfl trivial rfl, rfl, rfl⟩⟩
          · rcases hna : noA o with _ | _
            · simp only [Try.f49, encO, hl, ha, hnl, hna, c1, d1, c4, d4, c3, d3, c2, d2, bool, Bool.true_and, Bool.false_and, Bool.not_not, Bool.not_false, Bool.not_true, FinR, evRes, evRVs, evRV, am, simprocAttr, tys]
              exact ⟨by kernel_rfl, ⟨_, [], [], rfl, Ent.plain rfl rfl rfl trivial rfl, rfl, rfl⟩⟩
            · simp only [Try.f49, encO, hl, ha, hnl, hna, hz, c1, d1, c4, d4, c3, d3, c2, d2, bool, Bool.true_and, Bool.false_and, Bool.not_not, Bool.not_false, Bool.not_true, FinR, evRes, evRVs, evRV, am, simprocAttr, tys]
              exact ⟨by kernel_rfl, ⟨_, [], [], rfl, Ent.plain rfl rfl rfl trivial rfl, rfl, rfl⟩⟩
        · have d2 : decide (o.1 = 2) = false := decide_eq_false h2
          have hr : rightO o = false := by unfold rightO; rw [if_neg h1, if_neg h4, if_neg h3, if_neg h2]
          rw [hr]
          simp only [Try.f49, encO, hl, ha, c1, d1, c4, d4, c3, d3, c2, d2, bool, FinR, evRes, evRVs, evRV, am, simprocAttr, tys]
          exact ⟨by kernel_rfl, ⟨_, [], [], rfl, Ent.plain rfl rfl rfl trivial rfl, rfl, rfl⟩⟩

set_option maxRecDepth 8000 in
set_option maxHeartbeats 1000000 in
theorem refORight (o : OpT) (h : Fit o) : AFun Try.prog 36 [.d (.agg (encO o))] [] (bool (rightO o)) [] := by
  refine AFun.of_walk hP Try.func36 rfl rfl rfl (by simp) rfl ?_
  have c1 : ((o.1.toNat : Int) == 1) = decide (o.1 = 1) := u8eq o.1 1 (by omega)
  have c2 : ((o.1.toNat : Int) == 2) = decide (o.1 = 2) := u8eq o.1 2 (by omega)
  have c3 : ((o.1.toNat : Int) == 3) = decide (o.1 = 3) := u8eq o.1 3 (by omega)
  have c4 : ((o.1.toNat : Int) == 4) = decide (o.1 = 4) := u8eq o.1 4 (by omega)
  have cL := refRight5 o.2.1 h.l h.lx
  have cA := refRight o.2.2.2.1 h.a h.ax
  have hz := pt_zero o
  have hl : ((o.2.1.length : Int) == 0) = noL o := by
    unfold noL
    by_cases q : o.2.1.length = 0
    · rw [decide_eq_true q, beq_iff_eq]; omega
    · rw [decide_eq_false q, beq_eq_false_iff_ne]; omega
  have ha : ((o.2.2.2.1.length : Int) == 0) = noA o := by
    unfold noA
    by_cases q : o.2.2.2.1.length = 0
    · rw [decide_eq_true q, beq_iff_eq]; omega
    · rw [decide_eq_false q, beq_eq_false_iff_ne]; omega
  have hz2 : (o.2.2.1.2.1 == 0) = z2 o := rfl
  by_cases h1 : o.1 = 1
  · have hr : rightO o = (rightL o.2.1 && noA o) := by unfold rightO; rw [if_pos h1]
    have d1 : decide (o.1 = 1) = true := decide_eq_true h1
    rw [hr]
    simp only [Try.f36, encO, hl, ha, hz, c1, d1, am, simprocAttr, tys]
    refine ACall.of (cL) [] [] rfl (by simp) (by simp) (by simp) (by repeat' (first | exact trivial | exact .inl rfl | exact .inr rfl | exact .inr ⟨rfl, rfl, rfl, by simp; done⟩ | exact .inr ⟨rfl, by simp; done⟩ | exact .inr ⟨rfl, rfl, by simp; done⟩ | apply And.intro)) (by repeat' (first | exact trivial | rfl | exact (tkC_ren.1 _ _).symm | (simp; done) | apply And.intro)) (by first | exact .inl rfl | (refine .inr ⟨trivial, ?_⟩; first | (intro row h; rcases List.mem_singleton.1 h with rfl; exact nvB _) | (intro row h; cases h; done) | (simp; done)) | (refine .inr ⟨by simp [nvP, nvP.nvPs, nvD, nilS, errno], ?_⟩; first | (intro row h; rcases List.mem_singleton.1 h with rfl; exact nvB _) | (intro row h; cases h; done) | (simp [nvRow, nvD, nvP]; done))) ?_
    rcases rightL o.2.1 with _ | _
    · simp only [bool, Bool.false_and, FinR, evRes, evRVs, evRV, am, simprocAttr, tys]
      exact ⟨_, [], [], rfl, Ent.plain rfl rfl rfl trivial rfl, rfl, rfl⟩
    · simp only [bool, Bool.true_and, ha, FinR, evRes, evRVs, evRV, am, simprocAttr, tys]
      exact ⟨_, [], [], rfl, Ent.plain rfl rfl rfl trivial rfl, rfl, rfl⟩
  · have d1 : decide (o.1 = 1) = false := decide_eq_false h1
    by_cases h2 : o.1 = 2
    · have h4 : ¬ o.1 = 4 := by rw [h2]; decide
      have h3 : ¬ o.1 = 3 := by rw [h2]; decide
      have hr : rightO o = (noL o && (noA o && (z1 o && z2 o))) := by unfold rightO; rw [if_neg h1, if_neg h4, if_neg h3, if_pos h2]
      have d2 : decide (o.1 = 2) = true := decide_eq_true h2
      rw [hr]
      rcases hnl : noL o with _ | _
      · simp only [Try.f36, encO, hl, ha, hz, hnl, c1, d1, c2, d2, bool, Bool.true_and, Bool.false_and, FinR, evRes, evRVs, evRV, am, simprocAttr, tys]
        exact ⟨_, [], [], rfl, Ent.plain rfl rfl rfl trivial rfl, rfl, rfl⟩
      · rcases hna : noA o with _ | _
        · simp only [Try.f36, encO, hl, ha, hz, hnl, hna, c1, d1, c2, d2, bool, Bool.true_and, Bool.false_and, FinR, evRes, evRVs, evRV, am, simprocAttr, tys]
          exact ⟨_, [], [], rfl, Ent.plain rfl rfl rfl trivial rfl, rfl, rfl⟩
        · simp only [Try.f36, encO, hl, ha, hz, hnl, hna, c1, d1, c2, d2, bool, Bool.true_and, Bool.false_and, FinR, evRes, evRVs, evRV, am, simprocAttr, tys]
          exact ⟨_, [], [], rfl, Ent.plain rfl rfl rfl trivial rfl, rfl, rfl⟩
    · have d2 : decide (o.1 = 2) = false := decide_eq_false h2
      by_cases h3 : o.1 = 3
      · have h4 : ¬ o.1 = 4 := by rw [h3]; decide
        have hr : rightO o = (noL o && (noA o && z2 o)) := by unfold rightO; rw [if_neg h1, if_neg h4, if_pos h3]
        have d3 : decide (o.1 = 3) = true := decide_eq_true h3
        rw [hr]
        rcases hnl : noL o with _ | _
        · simp only [Try.f36, encO, hl, ha, hz, hnl, c1, d1, c2, d2, c3, d3, bool, Bool.true_and, Bool.false_and, FinR, evRes, evRVs, evRV, am, simprocAttr, tys]
          exact ⟨_, [], [], rfl, Ent.plain rfl rfl rfl trivial rfl, rfl, rfl⟩
        · rcases hna : noA o with _ | _
          · simp only [Try.f36, encO, hl, ha, hz, hnl, hna, c1, d1, c2, d2, c3, d3, bool, Bool.true_and, Bool.false_and, FinR, evRes, evRVs, evRV, am, simprocAttr, tys]
            exact ⟨_, [], [], rfl, Ent.plain rfl rfl rfl trivial rfl, rfl, rfl⟩
          · simp only [Try.f36, encO, hl, ha, hz, hz2, hnl, hna, c1, d1, c2, d2, c3, d3, bool, Bool.true_and, Bool.false_and, FinR, evRes, evRVs, evRV, am, simprocAttr, tys]
            exact ⟨_, [], [], rfl, Ent.plain rfl rfl rfl trivial rfl, rfl, rfl⟩
      · have d3 : decide (o.1 = 3) = false := decide_eq_false h3
        by_cases h4 : o.1 = 4
        · have hr : rightO o = (rightA o.2.2.2.1 && (noL o && (z1 o && z2 o))) := by unfold rightO; rw [if_neg h1, if_pos h4]
          have d4 : decide (o.1 = 4) = true := decide_eq_true h4
          rw [hr]
          simp only [Try.f36, encO, hl, ha, hz, c1, d1, c2, d2, c3, d3, c4, d4, am, simprocAttr, tys]
          refine ACall.of (cA) [] [] rfl (by simp) (by simp) (by simp) (by repeat' (first | exact trivial | exact .inl rfl | exact .inr rfl | exact .inr ⟨rfl, rfl, rfl, by simp; done⟩ | exact .inr ⟨rfl, by simp; done⟩ | exact .inr ⟨rfl, rfl, by simp; done⟩ | apply And.intro)) (by repeat' (first | exact trivial | rfl | exact (tkC_ren.1 _ _).symm | (simp; done) | apply And.intro)) (by first | exact .inl rfl | (refine .inr ⟨trivial, ?_⟩; first | (intro row h; rcases List.mem_singleton.1 h with rfl; exact nvB _) | (intro row h; cases h; done) | (simp; done)) | (refine .inr ⟨by simp [nvP, nvP.nvPs, nvD, nilS, errno], ?_⟩; first | (intro row h; rcases List.mem_singleton.1 h with rfl; exact nvB _) | (intro row h; cases h; done) | (simp [nvRow, nvD, nvP]; done))) ?_
          rcases rightA o.2.2.2.1 with _ | _
          · simp only [bool, Bool.false_and, FinR, evRes, evRVs, evRV, am, simprocAttr, tys]
            exact ⟨_, [], [], rfl, Ent.plain rfl rfl rfl trivial rfl, rfl, rfl⟩
          · rcases hnl : noL o with _ | _
            · simp only [bool, hl, hnl, Bool.true_and, Bool.false_and, FinR, evRes, evRVs, evRV, am, simprocAttr, tys]
              exact ⟨_, [], [], rfl, Ent.plain rfl rfl rfl trivial rfl, rfl, rfl⟩
            · simp only [bool, hl, hnl, Bool.true_and, FinR, evRes, evRVs, evRV, am, simprocAttr, tys]
              exact ⟨_, [], [], rfl, Ent.plain rfl rfl rfl trivial rfl, rfl, rfl⟩
        · have d4 : decide (o.1 = 4) = false := decide_eq_false h4
          have hr : rightO o = false := by unfold rightO; rw [if_neg h1, if_neg h4, if_neg h3, if_neg h2]
          rw [hr]
          simp only [Try.f36, encO, hl, ha, hz, c1, d1, c2, d2, c3, d3, c4, d4, bool, FinR, evRes, evRVs, evRV, am, simprocAttr, tys]
          exact ⟨_, [], [], rfl, Ent.plain rfl rfl rfl trivial rfl, rfl, rfl⟩
end Go.Proofs.Ytflpphgccjlkjaa

set_option linter.unusedSimpArgs false
set_option linter.unusedVariables false
namespace Go.Proofs.Ytflpphgccjlkjaa
open Go Go.AM

def leb (n : Nat) : List UInt8 := if n < 128 then [UInt8.ofNat n] else UInt8.ofNat (n % 128 + 128) :: leb (n / 128)
  decreasing_by omega

theorem or128 (n : Nat) : evBits .or .u8 (IntKind.u8.wrap (n : Int)) 128 = ((UInt8.ofNat (n % 128 + 128)).toNat : Int) := by
  have key : ∀ m, m < 256 → (BitVec.ofNat 8 m ||| 128#8).toNat = m % 128 + 128 := by decide +kernel
  have e : IntKind.u8.wrap (n : Int) = (((BitVec.ofNat 8 (n % 256)).toNat : Nat) : Int) := by rw [IntKind.wrap_u8]; simp
  have e2 : (128 : Int) = (((128#8).toNat : Nat) : Int) := rfl
  rw [e, e2, o8, key _ (Nat.mod_lt _ (by omega))]
  simp; omega
theorem low8 (n : Nat) (h : n < 128) : IntKind.u8.wrap (n : Int) = ((UInt8.ofNat n).toNat : Int) := by
  rw [IntKind.wrap_u8]
  have : (UInt8.ofNat n).toNat = n := by simp; omega
  rw [this]; omega
theorem shr7 (n : Nat) : (n : Int).fdiv (2 ^ min 7 IntKind.u64.bits) = ((n / 128 : Nat) : Int) := by
  show (n : Int).fdiv (2 ^ 7) = _
  rw [fdiv_nat, Nat.shiftRight_eq_div_pow]

theorem leb_len : ∀ (k n : Nat), n < 128 ^ (k + 1) → (leb n).length ≤ k + 1
  | 0, n, h => by
    rw [leb, if_pos (by simpa using h)]; simp
  | k + 1, n, h => by
    rw [leb]
    split
    · simp
    · simp only [List.length_cons]
      have := leb_len k (n / 128) (by rw [Nat.pow_succ] at h; omega)
      omega

theorem leb_pos (n : Nat) : 0 < (leb n).length := by rw [leb]; split <;> simp

theorem octsPut (bs : List UInt8) (n : Nat) (hl : bs.length ≤ 100000000000000) (hn : n < 18446744073709551616) :
    AFun Try.prog 24 [.d (.sl 1 (bs.map encB)), .d (.lit (.int .u64 n))] [] (.own 0) [.own 1 ((bs ++ leb n).map encB)] := by
  refine AFun.of_walk hP Try.func24 rfl rfl rfl (by simp) rfl ?_
  have e1 : IntKind.i64.wrap ((bs.length : Int) + 10) = ((bs.length + 10 : Nat) : Int) := by rw [IntWalk.i64_in _ (by omega)]; simp
  simp only [Try.f24, e1, am, simprocAttr, tys]
  refine ⟨by omega, by omega, ?_⟩
  have hlen := leb_len 9 n (by omega)
  refine ALoopW.intro 27 0 (ι := { p : List UInt8 × Nat // p.1 ++ leb p.2 = leb n ∧ p.2 < 18446744073709551616 }) (fun p => [(1, .d (.lit (.int .u64 p.1.2))), (5, .own 0)]) (fun p => [.own 1 (bs.map encB ++ p.1.1.map encB)]) (fun p => p.1.2) ⟨([], n), by simp, hn⟩ [] [1] ?_ (fun ⟨⟨pre, m⟩, h1, h2⟩ => ?_)
  · refine ⟨rfl, rfl, Nat.zero_le _, fun i hi => by omega, ⟨.inr rfl, .inr rfl, trivial⟩, ⟨.inr ⟨by decide, ?_⟩, trivial⟩, rfl, by decide, rfl, rfl⟩
    simp only [List.map_nil, List.append_nil]; rfl
  · simp only at h1 h2
    have hpl : pre.length ≤ 10 := by have := congrArg List.length h1; simp at this; omega
    have hmp := leb_pos m
    simp only [or128, shr7, am, simprocAttr, tys]
    split
    · rename_i hm
      have hm' : 128 ≤ m := by have := of_decide_eq_true hm; omega
      refine ⟨by omega, ⟨(pre ++ [UInt8.ofNat (m % 128 + 128)], m / 128), ?_, ?_⟩, [], [2], ⟨rfl, rfl, Nat.zero_le _, fun i hi => by omega, ⟨.inr rfl, .inr rfl, trivial⟩, ⟨.inr ⟨by decide, ?_⟩, trivial⟩, rfl, by decide, rfl, rfl⟩, ?_⟩
      · rw [← h1]
        conv => rhs; rw [leb]
        rw [if_neg (by omega)]; simp
      · show m / 128 < _; omega
      · simp only [List.map_append, ← List.append_assoc]; rfl
      · show m / 128 < m; omega
    · rename_i hm
      have hm' : m < 128 := by
        have : ¬ ((128 : Int) ≤ m) := fun h => hm (decide_eq_true h)
        omega
      refine ⟨by omega, ?_⟩
      simp only [low8 m hm', FinR, evRes, evRVs, evRV, am, simprocAttr, tys]
      refine ⟨_, [], [2], rfl, ⟨rfl, rfl, Nat.zero_le _, fun i hi => by omega, trivial, ⟨.inr ⟨by decide, ?_⟩, trivial⟩, rfl, by decide, rfl, rfl⟩, rfl, rfl⟩
      have e2 : leb m = [UInt8.ofNat m] := by rw [leb, if_pos hm']
      rw [← h1, e2]
      simp only [List.map_append, ← List.append_assoc]; rfl
end Go.Proofs.Ytflpphgccjlkjaa

set_option linter.unusedSimpArgs false
set_option linter.unusedVariables false
namespace Go.Proofs.Ytflpphgccjlkjaa
open Go Go.AM

theorem add128 (n : Nat) : IntKind.u8.wrap (IntKind.u64.wrap ((n : Int).tmod 128 + 128)) = ((UInt8.ofNat (n % 128 + 128)).toNat : Int) := by
  have e : (n : Int).tmod 128 = ((n % 128 : Nat) : Int) := rfl
  rw [e, IntWalk.u64_in _ (by omega), IntKind.wrap_u8]; simp

theorem div128 (n : Nat) (hn : n < 18446744073709551616) : IntKind.u64.wrap ((n : Int).tdiv 128) = ((n / 128 : Nat) : Int) := by
  have e : (n : Int).tdiv 128 = ((n / 128 : Nat) : Int) := rfl
  rw [e, IntWalk.u64_in _ (by omega)]

theorem refPut (bs : List UInt8) (n : Nat) (hl : bs.length ≤ 100000000000000) (hn : n < 18446744073709551616) :
    AFun Try.prog 27 [.d (.sl 1 (bs.map encB)), .d (.lit (.int .u64 n))] [] (.own 0) [.own 1 ((bs ++ leb n).map encB)] := by
  refine AFun.of_walk hP Try.func27 rfl rfl rfl (by simp) rfl ?_
  simp only [Try.f27, am, simprocAttr, tys]
  refine ⟨by omega, ?_⟩
  have hlen := leb_len 9 n (by omega)
  refine ALoopW.intro 25 0 (ι := { p : List UInt8 × Nat // p.1 ++ leb p.2 = leb n ∧ p.2 < 18446744073709551616 }) (fun p => [(1, .d (.lit (.int .u64 p.1.2))), (5, .own 0)]) (fun p => [.own 1 (bs.map encB ++ p.1.1.map encB)]) (fun p => p.1.2) ⟨([], n), by simp, hn⟩ [] [1] ?_ (fun ⟨⟨pre, m⟩, h1, h2⟩ => ?_)
  · refine ⟨rfl, rfl, Nat.zero_le _, fun i hi => by omega, ⟨.inr rfl, .inr rfl, trivial⟩, ⟨.inr ⟨by decide, ?_⟩, trivial⟩, rfl, by decide, rfl, rfl⟩
    simp only [List.map_nil, List.append_nil]; rfl
  · simp only at h1 h2
    have hpl : pre.length ≤ 10 := by have := congrArg List.length h1; simp at this; omega
    have hmp := leb_pos m
    simp only [add128, div128 m h2, am, simprocAttr, tys]
    split
    · rename_i hm
      have hm' : 128 ≤ m := by have := of_decide_eq_true hm; omega
      refine ⟨by omega, ⟨(pre ++ [UInt8.ofNat (m % 128 + 128)], m / 128), ?_, ?_⟩, [], [2], ⟨rfl, rfl, Nat.zero_le _, fun i hi => by omega, ⟨.inr rfl, .inr rfl, trivial⟩, ⟨.inr ⟨by decide, ?_⟩, trivial⟩, rfl, by decide, rfl, rfl⟩, ?_⟩
      · rw [← h1]
        conv => rhs; rw [leb]
        rw [if_neg (by omega)]; simp
      · show m / 128 < _; omega
      · simp only [List.map_append, ← List.append_assoc]; rfl
      · show m / 128 < m; omega
    · rename_i hm
      have hm' : m < 128 := by
        have : ¬ ((127 : Int) < m) := fun h => hm (decide_eq_true h)
        omega
      refine ⟨by omega, ?_⟩
      simp only [low8 m hm', FinR, evRes, evRVs, evRV, am, simprocAttr, tys]
      refine ⟨_, [], [2], rfl, ⟨rfl, rfl, Nat.zero_le _, fun i hi => by omega, trivial, ⟨.inr ⟨by decide, ?_⟩, trivial⟩, rfl, by decide, rfl, rfl⟩, rfl, rfl⟩
      have e2 : leb m = [UInt8.ofNat m] := by rw [leb, if_pos hm']
      rw [← h1, e2]
      simp only [List.map_append, ← List.append_assoc]; rfl
end Go.Proofs.Ytflpphgccjlkjaa

set_option linter.unusedSimpArgs false
set_option linter.unusedVariables false
namespace Go.Proofs.Ytflpphgccjlkjaa
open Go Go.AM

/-! ## numbers by sevens -/
def isC (b : UInt8) : Bool := decide (128 ≤ b.toNat)
def val : List UInt8 → Nat
  | [] => 0
  | b :: bs => b.toNat % 128 + 128 * val bs

theorem u8ofNat (n : Nat) (h : n < 256) : (UInt8.ofNat n).toNat = n := by simp; omega

theorem val_leb : ∀ n, val (leb n) = n := by
  intro n
  induction n using Nat.strongRecOn with
  | _ n ih =>
    rw [leb]
    split
    · rename_i h
      simp only [val, u8ofNat n (by omega)]; omega
    · rename_i h
      simp only [val]
      rw [ih (n / 128) (by omega), u8ofNat _ (by omega)]; omega

theorem leb_shape : ∀ n, ∃ p c, leb n = p ++ [c] ∧ p.all isC = true ∧ c.toNat < 128 ∧ (p ≠ [] → c.toNat ≠ 0) := by
  intro n
  induction n using Nat.strongRecOn with
  | _ n ih =>
    rw [leb]
    split
    · rename_i h
      exact ⟨[], UInt8.ofNat n, rfl, rfl, by rw [u8ofNat n (by omega)]; exact h, fun h => absurd rfl h⟩
    · rename_i h
      obtain ⟨p, c, h1, h2, h3, h4⟩ := ih (n / 128) (by omega)
      refine ⟨UInt8.ofNat (n % 128 + 128) :: p, c, by rw [h1]; rfl, ?_, h3, fun _ => ?_⟩
      · simp only [List.all_cons, h2, Bool.and_true, isC, decide_eq_true_eq, u8ofNat _ (show n % 128 + 128 < 256 by omega)]; omega
      · by_cases hp : p = []
        · subst hp
          intro hc
          have := val_leb (n / 128)
          rw [h1] at this
          simp only [List.nil_append, val, hc] at this
          omega
        · exact h4 hp

theorem val_snoc : ∀ (p : List UInt8) (c : UInt8), val (p ++ [c]) = val p + 128 ^ p.length * (c.toNat % 128)
  | [], c => by simp [val]
  | b :: p, c => by
    simp only [List.cons_append, val, val_snoc p c, List.length_cons, Nat.pow_succ]
    rw [Nat.mul_add, Nat.mul_comm (128 ^ p.length) 128, Nat.mul_assoc]; omega

theorem val_lt : ∀ (p : List UInt8), val p < 128 ^ p.length
  | [] => by simp [val]
  | b :: p => by
    have := val_lt p
    simp only [val, List.length_cons, Nat.pow_succ]
    have := Nat.mod_lt b.toNat (show 0 < 128 by omega)
    omega

theorem leb_val : ∀ (p : List UInt8) (c : UInt8), p.all isC = true → c.toNat < 128 → (p ≠ [] → c.toNat ≠ 0) → leb (val (p ++ [c])) = p ++ [c]
  | [], c, _, hc, _ => by
    have e : val [c] = c.toNat := by simp only [val]; omega
    rw [List.nil_append, e, leb, if_pos hc]
    simp
  | b :: p, c, hp, hc, h0 => by
    simp only [List.all_cons, Bool.and_eq_true] at hp
    have hb : 128 ≤ b.toNat := of_decide_eq_true hp.1
    have hb2 := b.toNat_lt
    have ih := leb_val p c hp.2 hc (fun _ => h0 (by simp))
    have hne : val (p ++ [c]) ≠ 0 := by
      rw [val_snoc, Nat.mod_eq_of_lt hc]
      have h1 : 0 < 128 ^ p.length := Nat.pow_pos (by omega)
      have h2 : 0 < c.toNat := Nat.pos_of_ne_zero (h0 (by simp))
      have := Nat.mul_pos h1 h2
      omega
    simp only [List.cons_append]
    have e : val (b :: (p ++ [c])) = b.toNat % 128 + 128 * val (p ++ [c]) := rfl
    rw [e, leb, if_neg (by omega)]
    have e1 : (b.toNat % 128 + 128 * val (p ++ [c])) / 128 = val (p ++ [c]) := by omega
    have e2 : (b.toNat % 128 + 128 * val (p ++ [c])) % 128 + 128 = b.toNat := by omega
    rw [e1, e2, ih]
    simp

/-- what a number is at the head of bytes, and what is behind it -/
def takeNum (bs : List UInt8) : Option (Nat × List UInt8) :=
  match bs.dropWhile isC with
  | [] => none
  | c :: r => if (bs.takeWhile isC = [] ∨ c.toNat ≠ 0) ∧ val (bs.takeWhile isC ++ [c]) < 18446744073709551616 then some (val (bs.takeWhile isC ++ [c]), r) else none

theorem isC_span (p : List UInt8) (c : UInt8) (r : List UInt8) (hp : p.all isC = true) (hc : c.toNat < 128) : (p ++ c :: r).takeWhile isC = p ∧ (p ++ c :: r).dropWhile isC = c :: r := by
  have hcc : isC c = false := by simp [isC]; omega
  rw [List.all_eq_true] at hp
  exact ⟨by rw [List.takeWhile_append_of_pos hp, List.takeWhile_cons_of_neg (by simp [hcc]), List.append_nil], by rw [List.dropWhile_append_of_pos hp, List.dropWhile_cons_of_neg (by simp [hcc])]⟩

theorem takeNum_at (p : List UInt8) (c : UInt8) (r : List UInt8) (hp : p.all isC = true) (hc : c.toNat < 128) :
    takeNum (p ++ c :: r) = if (p = [] ∨ c.toNat ≠ 0) ∧ val (p ++ [c]) < 18446744073709551616 then some (val (p ++ [c]), r) else none := by
  obtain ⟨h1, h2⟩ := isC_span p c r hp hc
  unfold takeNum
  rw [h1, h2]

theorem takeNum_all (p : List UInt8) (hp : p.all isC = true) : takeNum p = none := by
  rw [List.all_eq_true] at hp
  unfold takeNum
  have : p.dropWhile isC = [] := by
    have := List.dropWhile_append_of_pos hp (l₂ := [])
    simpa using this
  rw [this]

theorem takeNum_leb (n : Nat) (r : List UInt8) (hn : n < 18446744073709551616) : takeNum (leb n ++ r) = some (n, r) := by
  obtain ⟨p, c, h1, h2, h3, h4⟩ := leb_shape n
  have e := val_leb n
  rw [h1] at e
  have h5 : p = [] ∨ c.toNat ≠ 0 := by
    by_cases hp : p = []
    · exact .inl hp
    · exact .inr (h4 hp)
  rw [h1, List.append_assoc, List.singleton_append, takeNum_at p c r h2 h3, e, if_pos ⟨h5, hn⟩]

theorem takeNum_some {bs : List UInt8} {n : Nat} {r : List UInt8} (h : takeNum bs = some (n, r)) : n < 18446744073709551616 ∧ bs = leb n ++ r := by
  have hb : bs.takeWhile isC ++ bs.dropWhile isC = bs := List.takeWhile_append_dropWhile
  have hp : (bs.takeWhile isC).all isC = true := List.all_takeWhile
  unfold takeNum at h
  split at h
  · cases h
  · rename_i c r' hd
    split at h
    · rename_i hc
      simp only [Option.some.injEq, Prod.mk.injEq] at h
      obtain ⟨rfl, rfl⟩ := h
      have hcc : c.toNat < 128 := by
        have := List.head?_dropWhile_not isC bs
        rw [hd] at this
        simp [isC] at this; omega
      refine ⟨hc.2, ?_⟩
      rw [leb_val _ _ hp hcc (fun hne => hc.1.resolve_left hne), List.append_assoc, List.singleton_append, ← hd, hb]
    · cases h

theorem leb_ten (n : Nat) (hn : n < 18446744073709551616) : (leb n).length ≤ 10 := leb_len 9 n (by omega)

/-- ten that go on, or nine and more than one behind, are no number -/
theorem takeNum_long (p : List UInt8) (r : List UInt8) (hp : p.all isC = true) (hl : 10 ≤ p.length) : takeNum (p ++ r) = none := by
  rcases h : takeNum (p ++ r) with _ | ⟨n, s⟩
  · rfl
  · obtain ⟨h1, h2⟩ := takeNum_some h
    exfalso
    have h3 := leb_ten n h1
    obtain ⟨q, c, e1, e2, e3, e4⟩ := leb_shape n
    rw [e1] at h2 h3
    simp at h3
    have g : (p ++ r)[q.length]? = some c := by rw [h2]; simp
    rw [List.getElem?_append_left (by omega)] at g
    have := List.all_eq_true.1 hp c (List.mem_of_getElem? g)
    simp [isC] at this; omega

theorem takeNum_nine (p : List UInt8) (c : UInt8) (r : List UInt8) (hp : p.all isC = true) (hl : p.length = 9) (hc : 1 < c.toNat) : takeNum (p ++ c :: r) = none := by
  by_cases h : 128 ≤ c.toNat
  · have := takeNum_long (p ++ [c]) r (by simp [hp, isC, h]) (by simp [hl])
    simpa using this
  · rw [takeNum_at p c r hp (by omega), if_neg]
    intro ⟨_, h2⟩
    rw [val_snoc, hl, Nat.mod_eq_of_lt (by omega)] at h2
    omega

theorem leb_prefix_free {n m : Nat} {r s : List UInt8} (hn : n < 18446744073709551616) (hm : m < 18446744073709551616) (h : leb n ++ r = leb m ++ s) : n = m ∧ r = s := by
  have h1 := takeNum_leb n r hn
  rw [h, takeNum_leb m s hm] at h1
  simp only [Option.some.injEq, Prod.mk.injEq] at h1
  exact ⟨h1.1.symm, h1.2.symm⟩
end Go.Proofs.Ytflpphgccjlkjaa

set_option linter.unusedSimpArgs false
set_option linter.unusedVariables false
namespace Go.Proofs.Ytflpphgccjlkjaa
open Go Go.AM

def lebT (s : List UInt8) : List UInt8 := leb s.length ++ s
theorem lebT_len (s : List UInt8) (h : s.length ≤ 100000000000000) : (lebT s).length ≤ s.length + 10 := by
  have := leb_ten s.length (by omega)
  unfold lebT; simp; omega

theorem octsPutText (bs s : List UInt8) (hl : bs.length ≤ 10000000000000) (hs : s.length ≤ 10000000000000) :
    AFun Try.prog 77 [byts bs, str s] [] (.own 0) [.own 1 ((bs ++ lebT s).map encB)] := by
  refine AFun.of_walk hP Try.func77 rfl rfl rfl (by simp) rfl ?_
  have e1 : IntKind.u64.wrap (s.length : Int) = s.length := IntWalk.u64_in _ (by omega)
  have h10 := leb_ten s.length (by omega)
  simp only [Try.f77, byts, str, bl_size, e1, am, simprocAttr, tys]
  refine ACall.of (octsPut bs s.length (by omega) (by omega)) [] [] rfl (by simp) (by simp) (by simp) (by repeat' (first | exact trivial | exact .inl rfl | exact .inr rfl | exact .inr ⟨rfl, rfl, rfl, by simp; done⟩ | exact .inr ⟨rfl, by simp; done⟩ | exact .inr ⟨rfl, rfl, by simp; done⟩ | apply And.intro)) (by repeat' (first | exact trivial | rfl | exact (tkC_ren.1 _ _).symm | (simp; done) | apply And.intro)) (by first | exact .inl rfl | (refine .inr ⟨trivial, ?_⟩; first | (intro row h; rcases List.mem_singleton.1 h with rfl; exact nvB _) | (intro row h; cases h; done) | (simp; done)) | (refine .inr ⟨by simp [nvP, nvP.nvPs, nvD, nilS, errno], ?_⟩; first | (intro row h; rcases List.mem_singleton.1 h with rfl; exact nvB _) | (intro row h; cases h; done) | (simp [nvRow, nvD, nvP]; done))) ?_
  simp only [FinR, evRes, evRVs, evRV, am, simprocAttr, tys]
  refine ⟨by omega, ⟨_, [], [1], rfl, ⟨rfl, rfl, by simp, (fun i hi => absurd hi (Nat.not_lt_zero _)), trivial, ⟨.inr ⟨by decide, ?_⟩, trivial⟩, rfl, by decide, rfl, (by first | rfl | simp [scRow, tkC_scs])⟩, rfl, rfl⟩⟩
  simp only [lebT, List.map_append, List.append_assoc]; rfl

theorem refPutText (bs s : List UInt8) (hl : bs.length ≤ 10000000000000) (hs : s.length ≤ 10000000000000) :
    AFun Try.prog 79 [byts bs, str s] [] (.own 0) [.own 1 ((bs ++ lebT s).map encB)] := by
  refine AFun.of_walk hP Try.func79 rfl rfl rfl (by simp) rfl ?_
  have e1 : IntKind.u64.wrap (s.length : Int) = s.length := IntWalk.u64_in _ (by omega)
  have h10 := leb_ten s.length (by omega)
  simp only [Try.f79, byts, str, bl_size, e1, am, simprocAttr, tys]
  refine ACall.of (refPut bs s.length (by omega) (by omega)) [] [] rfl (by simp) (by simp) (by simp) (by repeat' (first | exact trivial | exact .inl rfl | exact .inr rfl | exact .inr ⟨rfl, rfl, rfl, by simp; done⟩ | exact .inr ⟨rfl, by simp; done⟩ | exact .inr ⟨rfl, rfl, by simp; done⟩ | apply And.intro)) (by repeat' (first | exact trivial | rfl | exact (tkC_ren.1 _ _).symm | (simp; done) | apply And.intro)) (by first | exact .inl rfl | (refine .inr ⟨trivial, ?_⟩; first | (intro row h; rcases List.mem_singleton.1 h with rfl; exact nvB _) | (intro row h; cases h; done) | (simp; done)) | (refine .inr ⟨by simp [nvP, nvP.nvPs, nvD, nilS, errno], ?_⟩; first | (intro row h; rcases List.mem_singleton.1 h with rfl; exact nvB _) | (intro row h; cases h; done) | (simp [nvRow, nvD, nvP]; done))) ?_
  simp only [FinR, evRes, evRVs, evRV, am, simprocAttr, tys]
  refine ⟨by omega, ⟨_, [], [1], rfl, ⟨rfl, rfl, by simp, (fun i hi => absurd hi (Nat.not_lt_zero _)), trivial, ⟨.inr ⟨by decide, ?_⟩, trivial⟩, rfl, by decide, rfl, (by first | rfl | simp [scRow, tkC_scs])⟩, rfl, rfl⟩⟩
  simp only [lebT, List.map_append, List.append_assoc]; rfl

end Go.Proofs.Ytflpphgccjlkjaa

set_option linter.unusedSimpArgs false
set_option linter.unusedVariables false
namespace Go.Proofs.Ytflpphgccjlkjaa
open Go Go.AM

/-! ## lists, one behind the other -/
def fl {α : Type} (f : α → List UInt8) (l : List α) : List UInt8 := (l.map f).flatten
theorem fl_snoc {α : Type} (f : α → List UInt8) (l : List α) (x : α) : fl f (l ++ [x]) = fl f l ++ f x := by simp [fl]
theorem fl_cons {α : Type} (f : α → List UInt8) (l : List α) (x : α) : fl f (x :: l) = f x ++ fl f l := by simp [fl]
theorem fl_nil {α : Type} (f : α → List UInt8) : fl f [] = [] := rfl
theorem fl_app {α : Type} (f : α → List UInt8) (l m : List α) : fl f (l ++ m) = fl f l ++ fl f m := by simp [fl]
theorem fl_len {α : Type} (f : α → List UInt8) (k : Nat) : ∀ (l : List α), (∀ x ∈ l, (f x).length ≤ k) → (fl f l).length ≤ l.length * k
  | [], _ => by simp [fl]
  | x :: l, h => by
    have h1 := fl_len f k l fun y hy => h y (by simp [hy])
    have h2 := h x (by simp)
    rw [fl_cons, List.length_append, List.length_cons, Nat.add_mul]; omega

/-- a text at the head of bytes -/
def takeText (bs : List UInt8) : Option (List UInt8 × List UInt8) :=
  match takeNum bs with
  | none => none
  | some (n, r) => if r.length < n then none else some (r.take n, r.drop n)
theorem takeText_some {bs s r : List UInt8} (h : takeText bs = some (s, r)) : bs = lebT s ++ r ∧ s.length < 18446744073709551616 := by
  unfold takeText at h
  split at h
  · cases h
  · rename_i n t hk
    obtain ⟨h1, h2⟩ := takeNum_some hk
    split at h
    · cases h
    · rename_i hlt
      simp only [Option.some.injEq, Prod.mk.injEq] at h
      obtain ⟨rfl, rfl⟩ := h
      have hl : (t.take n).length = n := by rw [List.length_take]; omega
      refine ⟨?_, by rw [hl]; exact h1⟩
      unfold lebT
      rw [hl, List.append_assoc, List.take_append_drop, h2]
theorem takeText_lebT (s r : List UInt8) (h : s.length < 18446744073709551616) : takeText (lebT s ++ r) = some (s, r) := by
  unfold takeText lebT
  rw [List.append_assoc, takeNum_leb _ _ h]
  simp

section
variable {α : Type} (enc : α → List UInt8) (dec : List UInt8 → Option (α × List UInt8))
def decN : Nat → List UInt8 → Option (List α × List UInt8)
  | 0, bs => some ([], bs)
  | n + 1, bs => match dec bs with
    | none => none
    | some (x, r) => match decN n r with
      | none => none
      | some (l, r') => some (x :: l, r')
theorem decN_some (hd : ∀ bs x r, dec bs = some (x, r) → bs = enc x ++ r) : ∀ (n : Nat) (bs : List UInt8) (l : List α) (r : List UInt8), decN dec n bs = some (l, r) → l.length = n ∧ bs = fl enc l ++ r
  | 0, bs, l, r, h => by
    simp only [decN, Option.some.injEq, Prod.mk.injEq] at h
    obtain ⟨rfl, rfl⟩ := h
    exact ⟨rfl, rfl⟩
  | n + 1, bs, l, r, h => by
    simp only [decN] at h
    split at h
    · cases h
    · rename_i x r1 hx
      split at h
      · cases h
      · rename_i l1 r2 hl
        simp only [Option.some.injEq, Prod.mk.injEq] at h
        obtain ⟨rfl, rfl⟩ := h
        obtain ⟨e1, e2⟩ := decN_some hd n r1 l1 r2 hl
        refine ⟨by simp [e1], ?_⟩
        rw [hd _ _ _ hx, e2, fl_cons, List.append_assoc]
theorem decN_enc : ∀ (l : List α) (r : List UInt8), (∀ x ∈ l, ∀ r, dec (enc x ++ r) = some (x, r)) → decN dec l.length (fl enc l ++ r) = some (l, r)
  | [], r, _ => rfl
  | x :: l, r, h => by
    simp only [List.length_cons, decN, fl_cons, List.append_assoc, h x (by simp)]
    rw [decN_enc l r fun y hy => h y (by simp [hy])]

/-- a list: how many, and each -/
def putL (l : List α) : List UInt8 := leb l.length ++ fl enc l
def takeL (ok : List α → Bool) (m : Nat) (bs : List UInt8) : Option (List α × List UInt8) :=
  match takeNum bs with
  | none => none
  | some (n, r) => if n ≤ m then (match decN dec n r with
    | none => none
    | some (l, r') => if ok l = true then some (l, r') else none) else none
theorem takeL_some {ok : List α → Bool} {m : Nat} (hd : ∀ bs x r, dec bs = some (x, r) → bs = enc x ++ r) {bs : List UInt8} {l : List α} {r : List UInt8} (h : takeL dec ok m bs = some (l, r)) : ok l = true ∧ bs = putL enc l ++ r := by
  unfold takeL at h
  split at h
  · cases h
  · rename_i n s hk
    obtain ⟨h1, h2⟩ := takeNum_some hk
    split at h
    · split at h
      · cases h
      · rename_i l1 r1 hl
        split at h
        · rename_i hok
          simp only [Option.some.injEq, Prod.mk.injEq] at h
          obtain ⟨rfl, rfl⟩ := h
          obtain ⟨e1, e2⟩ := decN_some enc dec hd n s l1 r1 hl
          exact ⟨hok, by unfold putL; rw [e1, List.append_assoc, ← e2, h2]⟩
        · cases h
    · cases h
theorem takeL_put {ok : List α → Bool} {m : Nat} {l : List α} (r : List UInt8) (hok : ok l = true) (hm : l.length ≤ m) (hm2 : m < 18446744073709551616) (hd : ∀ x ∈ l, ∀ r, dec (enc x ++ r) = some (x, r)) : takeL dec ok m (putL enc l ++ r) = some (l, r) := by
  unfold takeL putL
  rw [List.append_assoc, takeNum_leb _ _ (by omega)]
  simp only [hm, if_true, decN_enc enc dec l r hd, hok]
end
end Go.Proofs.Ytflpphgccjlkjaa

set_option linter.unusedSimpArgs false
set_option linter.unusedVariables false
namespace Go.Proofs.Ytflpphgccjlkjaa
open Go Go.AM

/-! ## labels as bytes -/
def encLab (a : Lab) : List UInt8 := lebT a.1 ++ lebT a.2.1
def putLb (l : List Lab) : List UInt8 := putL encLab l
theorem rightL_len {l : List Lab} (h : rightL l = true) : l.length ≤ 6 ∧ 1 ≤ l.length ∧ ∀ a ∈ l, a.1.length ≤ 16 ∧ a.2.1.length ≤ 64 := by
  obtain ⟨h1, h2, h3⟩ := (rightL_iff l).1 h
  refine ⟨h3, h2, fun a ha => ?_⟩
  obtain ⟨i, hi, rfl⟩ := List.getElem_of_mem ha
  have := h1 i hi
  rw [okAt_get l i hi] at this
  simp only [Bool.and_eq_true, valOk, decide_eq_true_eq] at this
  have hn := nameOk_len this.1.1
  omega
theorem encLab_len {a : Lab} (h : a.1.length ≤ 16 ∧ a.2.1.length ≤ 64) : (encLab a).length ≤ 110 := by
  obtain ⟨h1, h2⟩ := h
  have := lebT_len a.1 (by omega)
  have := lebT_len a.2.1 (by omega)
  unfold encLab; simp; omega
theorem flL_len {l : List Lab} (h : ∀ a ∈ l, a.1.length ≤ 16 ∧ a.2.1.length ≤ 64) (h8 : l.length ≤ 6) : (fl encLab l).length ≤ 880 := by
  have := fl_len encLab 110 l fun x hx => encLab_len (h x hx)
  have := Nat.mul_le_mul_right 110 h8
  omega
theorem putLb_len {l : List Lab} (h : rightL l = true) : (putLb l).length ≤ 890 := by
  obtain ⟨h1, _, h2⟩ := rightL_len h
  have := flL_len h2 h1
  have := leb_ten l.length (by omega)
  unfold putLb putL; simp; omega

theorem labelPutN (l : List Lab) (hl : l.length ≤ 9223372036854775807) (hx : ∀ x ∈ l, x.1.length ≤ 9223372036854775807 ∧ x.2.1.length ≤ 9223372036854775807) (hr : rightL l = false) : AFun Try.prog 50 [.d (.sl 2 (l.map encL))] [] (.tup [nilS, errno 50]) [] := by
  refine AFun.of_walk hP Try.func50 rfl rfl rfl (by simp) rfl ?_
  simp only [Try.f50, am, simprocAttr, tys]
  refine ACall.of (labelRight l hl hx) [] [] rfl (by simp) (by simp) (by simp) (by repeat' (first | exact trivial | exact .inl rfl | exact .inr rfl | exact .inr ⟨rfl, rfl, rfl, by simp; done⟩ | exact .inr ⟨rfl, by simp; done⟩ | exact .inr ⟨rfl, rfl, by simp; done⟩ | apply And.intro)) (by repeat' (first | exact trivial | rfl | exact (tkC_ren.1 _ _).symm | (simp; done) | apply And.intro)) (by first | exact .inl rfl | (refine .inr ⟨trivial, ?_⟩; first | (intro row h; rcases List.mem_singleton.1 h with rfl; exact nvB _) | (intro row h; cases h; done) | (simp; done)) | (refine .inr ⟨by simp [nvP, nvP.nvPs, nvD, nilS, errno], ?_⟩; first | (intro row h; rcases List.mem_singleton.1 h with rfl; exact nvB _) | (intro row h; cases h; done) | (simp [nvRow, nvD, nvP]; done))) ?_
  rw [hr]
  simp only [bool, nilS, errno, FinR, evRes, evRVs, evRV, am, simprocAttr, tys]
  exact ⟨_, [], [], rfl, Ent.plain rfl rfl rfl trivial rfl, rfl, rfl⟩

set_option maxRecDepth 8000 in
theorem labelPut (l : List Lab) (hl : l.length ≤ 9223372036854775807) (hx : ∀ x ∈ l, x.1.length ≤ 9223372036854775807 ∧ x.2.1.length ≤ 9223372036854775807) (hr : rightL l = true) : AFun Try.prog 50 [.d (.sl 2 (l.map encL))] [] (.tup [.own 0, errno 0]) [.own 1 ((putLb l).map encB)] := by
  refine AFun.of_walk hP Try.func50 rfl rfl rfl (by simp) rfl ?_
  simp only [Try.f50, am, simprocAttr, tys]
  refine ACall.of (labelRight l hl hx) [] [] rfl (by simp) (by simp) (by simp) (by repeat' (first | exact trivial | exact .inl rfl | exact .inr rfl | exact .inr ⟨rfl, rfl, rfl, by simp; done⟩ | exact .inr ⟨rfl, by simp; done⟩ | exact .inr ⟨rfl, rfl, by simp; done⟩ | apply And.intro)) (by repeat' (first | exact trivial | rfl | exact (tkC_ren.1 _ _).symm | (simp; done) | apply And.intro)) (by first | exact .inl rfl | (refine .inr ⟨trivial, ?_⟩; first | (intro row h; rcases List.mem_singleton.1 h with rfl; exact nvB _) | (intro row h; cases h; done) | (simp; done)) | (refine .inr ⟨by simp [nvP, nvP.nvPs, nvD, nilS, errno], ?_⟩; first | (intro row h; rcases List.mem_singleton.1 h with rfl; exact nvB _) | (intro row h; cases h; done) | (simp [nvRow, nvD, nvP]; done))) ?_
  rw [hr]
  · obtain ⟨h8, _, hall⟩ := rightL_len hr
    have e1 : IntKind.u64.wrap (l.length : Int) = l.length := IntWalk.u64_in _ (by omega)
    simp only [bool, e1, am, simprocAttr, tys]
    refine ACall.of (octsPut [] l.length (by simp) (by omega)) [] [] rfl (by simp) (by simp) (by simp) (by repeat' (first | exact trivial | exact .inl rfl | exact .inr rfl | exact .inr ⟨rfl, rfl, rfl, by simp; done⟩ | exact .inr ⟨rfl, by simp; done⟩ | exact .inr ⟨rfl, rfl, by simp; done⟩ | apply And.intro)) (by repeat' (first | exact trivial | rfl | exact (tkC_ren.1 _ _).symm | (simp; done) | apply And.intro)) (by first | exact .inl rfl | (refine .inr ⟨trivial, ?_⟩; first | (intro row h; rcases List.mem_singleton.1 h with rfl; exact nvB _) | (intro row h; cases h; done) | (simp; done)) | (refine .inr ⟨by simp [nvP, nvP.nvPs, nvD, nilS, errno], ?_⟩; first | (intro row h; rcases List.mem_singleton.1 h with rfl; exact nvB _) | (intro row h; cases h; done) | (simp [nvRow, nvD, nvP]; done))) ?_
    simp only [am, simprocAttr, tys]
    refine ALoopW.intro 29 0 (ι := { i : Nat // i ≤ l.length }) (fun i => [(4, .own 0), (14, .d (.sl 2 (l.map encL))), (15, int l.length), (16, int i.1)]) (fun i => [.own 1 ((leb l.length ++ fl encLab (l.take i.1)).map encB)]) (fun i => l.length - i.1) ⟨0, by omega⟩ [] [0] ?_ (fun ⟨i, hi⟩ => ?_)
    · refine ⟨rfl, rfl, by simp, (fun i hi => absurd hi (Nat.not_lt_zero _)), ⟨.inr rfl, .inr rfl, .inr rfl, .inr rfl, trivial⟩, ⟨.inr ⟨by decide, ?_⟩, trivial⟩, rfl, by decide, rfl, (by first | rfl | simp [scRow, tkC_scs])⟩
      simp only [List.take_zero, fl_nil, List.append_nil]; rfl
    rcases Nat.lt_or_ge i l.length with hlt | hge
    · have hb : l[i]? = some l[i] := List.getElem?_eq_getElem hlt
      have hlt2 : ((i : Int) < l.length) := by omega
      have e2 : IntKind.i64.wrap ((i : Int) + 1) = ((i + 1 : Nat) : Int) := by rw [IntWalk.i64_in _ (by omega)]; simp
      have hm := hall l[i] (List.getElem_mem hlt)
      have hpre := flL_len (l := l.take i) (fun a ha => hall a (List.mem_of_mem_take ha)) (by simp; omega)
      have h10 := leb_ten l.length (by omega)
      have hst : fl encLab (l.take (i + 1)) = fl encLab (l.take i) ++ encLab l[i] := by rw [List.take_succ_eq_append_getElem hlt, fl_snoc]
      have hpl : (leb l.length ++ fl encLab (l.take i)).length ≤ 890 := by rw [List.length_append]; omega
      have hnext : (leb l.length ++ fl encLab (l.take i) ++ lebT l[i].1 ++ lebT l[i].2.1) = leb l.length ++ fl encLab (l.take (i + 1)) := by
        rw [hst]; unfold encLab; simp only [List.append_assoc]
      generalize leb l.length ++ fl encLab (l.take i) = pre at *
      have t1 := lebT_len l[i].1 (by omega)
      have hput1 := octsPutText pre l[i].1 (by omega) (by omega)
      have hput2 := octsPutText (pre ++ lebT l[i].1) l[i].2.1 (by rw [List.length_append]; omega) (by omega)
      simp only [int, hb, hlt2, encL, Int.natCast_nonneg, am, simprocAttr, tys]
      refine ACallD.of (hput1) (by kernel_rfl) [] [0] rfl (by simp) (by simp) (by simp) (by simp) (by repeat' (first | exact trivial | exact .inl rfl | exact .inr rfl | exact .inr ⟨rfl, rfl, rfl, by simp; done⟩ | exact .inr ⟨rfl, by simp; done⟩ | exact .inr ⟨rfl, rfl, by simp; done⟩ | apply And.intro)) (by repeat' (first | exact trivial | rfl | exact (tkC_ren.1 _ _).symm | (simp; done) | apply And.intro)) (by first | exact .inl rfl | (refine .inr ⟨trivial, ?_⟩; first | (intro row h; rcases List.mem_singleton.1 h with rfl; exact nvB _) | (intro row h; cases h; done) | (simp; done)) | (refine .inr ⟨by simp [nvP, nvP.nvPs, nvD, nilS, errno], ?_⟩; first | (intro row h; rcases List.mem_singleton.1 h with rfl; exact nvB _) | (intro row h; cases h; done) | (simp [nvRow, nvD, nvP]; done))) rfl rfl rfl rfl ?_
      simp only [am, simprocAttr, tys]
      refine ACallD.of (hput2) (by kernel_rfl) [] [194] rfl (by simp) (by simp) (by simp) (by simp) (by repeat' (first | exact trivial | exact .inl rfl | exact .inr rfl | exact .inr ⟨rfl, rfl, rfl, by simp; done⟩ | exact .inr ⟨rfl, by simp; done⟩ | exact .inr ⟨rfl, rfl, by simp; done⟩ | apply And.intro)) (by repeat' (first | exact trivial | rfl | exact (tkC_ren.1 _ _).symm | (simp; done) | apply And.intro)) (by first | exact .inl rfl | (refine .inr ⟨trivial, ?_⟩; first | (intro row h; rcases List.mem_singleton.1 h with rfl; exact nvB _) | (intro row h; cases h; done) | (simp; done)) | (refine .inr ⟨by simp [nvP, nvP.nvPs, nvD, nilS, errno], ?_⟩; first | (intro row h; rcases List.mem_singleton.1 h with rfl; exact nvB _) | (intro row h; cases h; done) | (simp [nvRow, nvD, nvP]; done))) rfl rfl rfl rfl ?_
      simp only [e2, am, simprocAttr, tys]
      refine ⟨by kernel_rfl, ⟨i + 1, by omega⟩, [], [386], ⟨rfl, rfl, by simp, (fun i hi => absurd hi (Nat.not_lt_zero _)), ⟨.inr rfl, .inr rfl, .inr rfl, .inr rfl, trivial⟩, ⟨.inr ⟨by decide, ?_⟩, trivial⟩, rfl, by decide, rfl, (by first | rfl | simp [scRow, tkC_scs])⟩, by show l.length - (i + 1) < l.length - i; omega⟩
      exact congrArg (fun z => Row.own 1 (List.map encB z)) hnext
    · have hlt2 : ¬ ((i : Int) < l.length) := by omega
      have hfull : l.take i = l := List.take_of_length_le hge
      simp only [int, hlt2, hfull, byts, errno, FinR, evRes, evRVs, evRV, am, simprocAttr, tys]
      exact ⟨_, [], [0], rfl, ⟨rfl, rfl, by simp, (fun i hi => absurd hi (Nat.not_lt_zero _)), trivial, ⟨.inr ⟨by decide, rfl⟩, trivial⟩, rfl, by decide, rfl, (by first | rfl | simp [scRow, tkC_scs])⟩, rfl, rfl⟩

theorem refLPutN (l : List Lab) (hl : l.length ≤ 9223372036854775807) (hx : ∀ x ∈ l, x.1.length ≤ 9223372036854775807 ∧ x.2.1.length ≤ 9223372036854775807) (hr : rightL l = false) : AFun Try.prog 54 [.d (.sl 2 (l.map encL))] [] (.tup [nilS, errno 50]) [] := by
  refine AFun.of_walk hP Try.func54 rfl rfl rfl (by simp) rfl ?_
  simp only [Try.f54, am, simprocAttr, tys]
  refine ACall.of (refRight5 l hl hx) [] [] rfl (by simp) (by simp) (by simp) (by repeat' (first | exact trivial | exact .inl rfl | exact .inr rfl | exact .inr ⟨rfl, rfl, rfl, by simp; done⟩ | exact .inr ⟨rfl, by simp; done⟩ | exact .inr ⟨rfl, rfl, by simp; done⟩ | apply And.intro)) (by repeat' (first | exact trivial | rfl | exact (tkC_ren.1 _ _).symm | (simp; done) | apply And.intro)) (by first | exact .inl rfl | (refine .inr ⟨trivial, ?_⟩; first | (intro row h; rcases List.mem_singleton.1 h with rfl; exact nvB _) | (intro row h; cases h; done) | (simp; done)) | (refine .inr ⟨by simp [nvP, nvP.nvPs, nvD, nilS, errno], ?_⟩; first | (intro row h; rcases List.mem_singleton.1 h with rfl; exact nvB _) | (intro row h; cases h; done) | (simp [nvRow, nvD, nvP]; done))) ?_
  rw [hr]
  simp only [bool, nilS, errno, FinR, evRes, evRVs, evRV, am, simprocAttr, tys]
  exact ⟨_, [], [], rfl, Ent.plain rfl rfl rfl trivial rfl, rfl, rfl⟩

set_option maxRecDepth 8000 in
theorem refLPut (l : List Lab) (hl : l.length ≤ 9223372036854775807) (hx : ∀ x ∈ l, x.1.length ≤ 9223372036854775807 ∧ x.2.1.length ≤ 9223372036854775807) (hr : rightL l = true) : AFun Try.prog 54 [.d (.sl 2 (l.map encL))] [] (.tup [.own 0, errno 0]) [.own 1 ((putLb l).map encB)] := by
  refine AFun.of_walk hP Try.func54 rfl rfl rfl (by simp) rfl ?_
  simp only [Try.f54, am, simprocAttr, tys]
  refine ACall.of (refRight5 l hl hx) [] [] rfl (by simp) (by simp) (by simp) (by repeat' (first | exact trivial | exact .inl rfl | exact .inr rfl | exact .inr ⟨rfl, rfl, rfl, by simp; done⟩ | exact .inr ⟨rfl, by simp; done⟩ | exact .inr ⟨rfl, rfl, by simp; done⟩ | apply And.intro)) (by repeat' (first | exact trivial | rfl | exact (tkC_ren.1 _ _).symm | (simp; done) | apply And.intro)) (by first | exact .inl rfl | (refine .inr ⟨trivial, ?_⟩; first | (intro row h; rcases List.mem_singleton.1 h with rfl; exact nvB _) | (intro row h; cases h; done) | (simp; done)) | (refine .inr ⟨by simp [nvP, nvP.nvPs, nvD, nilS, errno], ?_⟩; first | (intro row h; rcases List.mem_singleton.1 h with rfl; exact nvB _) | (intro row h; cases h; done) | (simp [nvRow, nvD, nvP]; done))) ?_
  rw [hr]
  · obtain ⟨h8, _, hall⟩ := rightL_len hr
    have e1 : IntKind.u64.wrap (l.length : Int) = l.length := IntWalk.u64_in _ (by omega)
    simp only [bool, e1, am, simprocAttr, tys]
    refine ACall.of (refPut [] l.length (by simp) (by omega)) [] [] rfl (by simp) (by simp) (by simp) (by repeat' (first | exact trivial | exact .inl rfl | exact .inr rfl | exact .inr ⟨rfl, rfl, rfl, by simp; done⟩ | exact .inr ⟨rfl, by simp; done⟩ | exact .inr ⟨rfl, rfl, by simp; done⟩ | apply And.intro)) (by repeat' (first | exact trivial | rfl | exact (tkC_ren.1 _ _).symm | (simp; done) | apply And.intro)) (by first | exact .inl rfl | (refine .inr ⟨trivial, ?_⟩; first | (intro row h; rcases List.mem_singleton.1 h with rfl; exact nvB _) | (intro row h; cases h; done) | (simp; done)) | (refine .inr ⟨by simp [nvP, nvP.nvPs, nvD, nilS, errno], ?_⟩; first | (intro row h; rcases List.mem_singleton.1 h with rfl; exact nvB _) | (intro row h; cases h; done) | (simp [nvRow, nvD, nvP]; done))) ?_
    simp only [am, simprocAttr, tys]
    refine ALoopW.intro 34 0 (ι := { i : Nat // i ≤ l.length }) (fun i => [(0, .d (.sl 2 (l.map encL))), (4, .own 0), (5, int i.1)]) (fun i => [.own 1 ((leb l.length ++ fl encLab (l.take i.1)).map encB)]) (fun i => l.length - i.1) ⟨0, by omega⟩ [] [0] ?_ (fun ⟨i, hi⟩ => ?_)
    · refine ⟨rfl, rfl, by simp, (fun i hi => absurd hi (Nat.not_lt_zero _)), ⟨.inr rfl, .inr rfl, .inr rfl, trivial⟩, ⟨.inr ⟨by decide, ?_⟩, trivial⟩, rfl, by decide, rfl, (by first | rfl | simp [scRow, tkC_scs])⟩
      simp only [List.take_zero, fl_nil, List.append_nil]; rfl
    rcases Nat.lt_or_ge i l.length with hlt | hge
    · have hb : l[i]? = some l[i] := List.getElem?_eq_getElem hlt
      have hlt2 : ((i : Int) < l.length) := by omega
      have e2 : IntKind.i64.wrap ((i : Int) + 1) = ((i + 1 : Nat) : Int) := by rw [IntWalk.i64_in _ (by omega)]; simp
      have hm := hall l[i] (List.getElem_mem hlt)
      have hpre := flL_len (l := l.take i) (fun a ha => hall a (List.mem_of_mem_take ha)) (by simp; omega)
      have h10 := leb_ten l.length (by omega)
      have hst : fl encLab (l.take (i + 1)) = fl encLab (l.take i) ++ encLab l[i] := by rw [List.take_succ_eq_append_getElem hlt, fl_snoc]
      have hpl : (leb l.length ++ fl encLab (l.take i)).length ≤ 890 := by rw [List.length_append]; omega
      have hnext : (leb l.length ++ fl encLab (l.take i) ++ lebT l[i].1 ++ lebT l[i].2.1) = leb l.length ++ fl encLab (l.take (i + 1)) := by
        rw [hst]; unfold encLab; simp only [List.append_assoc]
      generalize leb l.length ++ fl encLab (l.take i) = pre at *
      have t1 := lebT_len l[i].1 (by omega)
      have hput1 := refPutText pre l[i].1 (by omega) (by omega)
      have hput2 := refPutText (pre ++ lebT l[i].1) l[i].2.1 (by rw [List.length_append]; omega) (by omega)
      simp only [int, hb, hlt2, encL, Int.natCast_nonneg, am, simprocAttr, tys]
      refine ACall.of (hput1) [] [0] rfl (by simp) (by simp) (by simp) (by repeat' (first | exact trivial | exact .inl rfl | exact .inr rfl | exact .inr ⟨rfl, rfl, rfl, by simp; done⟩ | exact .inr ⟨rfl, by simp; done⟩ | exact .inr ⟨rfl, rfl, by simp; done⟩ | apply And.intro)) (by repeat' (first | exact trivial | rfl | exact (tkC_ren.1 _ _).symm | (simp; done) | apply And.intro)) (by first | exact .inl rfl | (refine .inr ⟨trivial, ?_⟩; first | (intro row h; rcases List.mem_singleton.1 h with rfl; exact nvB _) | (intro row h; cases h; done) | (simp; done)) | (refine .inr ⟨by simp [nvP, nvP.nvPs, nvD, nilS, errno], ?_⟩; first | (intro row h; rcases List.mem_singleton.1 h with rfl; exact nvB _) | (intro row h; cases h; done) | (simp [nvRow, nvD, nvP]; done))) ?_
      simp only [hb, hlt2, encL, Int.natCast_nonneg, am, simprocAttr, tys]
      refine ACall.of (hput2) [] [1] rfl (by simp) (by simp) (by simp) (by repeat' (first | exact trivial | exact .inl rfl | exact .inr rfl | exact .inr ⟨rfl, rfl, rfl, by simp; done⟩ | exact .inr ⟨rfl, by simp; done⟩ | exact .inr ⟨rfl, rfl, by simp; done⟩ | apply And.intro)) (by repeat' (first | exact trivial | rfl | exact (tkC_ren.1 _ _).symm | (simp; done) | apply And.intro)) (by first | exact .inl rfl | (refine .inr ⟨trivial, ?_⟩; first | (intro row h; rcases List.mem_singleton.1 h with rfl; exact nvB _) | (intro row h; cases h; done) | (simp; done)) | (refine .inr ⟨by simp [nvP, nvP.nvPs, nvD, nilS, errno], ?_⟩; first | (intro row h; rcases List.mem_singleton.1 h with rfl; exact nvB _) | (intro row h; cases h; done) | (simp [nvRow, nvD, nvP]; done))) ?_
      simp only [e2, am, simprocAttr, tys]
      refine ⟨⟨i + 1, by omega⟩, [], [2], ⟨rfl, rfl, by simp, (fun i hi => absurd hi (Nat.not_lt_zero _)), ⟨.inr rfl, .inr rfl, .inr rfl, trivial⟩, ⟨.inr ⟨by decide, ?_⟩, trivial⟩, rfl, by decide, rfl, (by first | rfl | simp [scRow, tkC_scs])⟩, by show l.length - (i + 1) < l.length - i; omega⟩
      exact congrArg (fun z => Row.own 1 (List.map encB z)) hnext
    · have hlt2 : ¬ ((i : Int) < l.length) := by omega
      have hfull : l.take i = l := List.take_of_length_le hge
      simp only [int, hlt2, hfull, byts, errno, FinR, evRes, evRVs, evRV, am, simprocAttr, tys]
      exact ⟨_, [], [0], rfl, ⟨rfl, rfl, by simp, (fun i hi => absurd hi (Nat.not_lt_zero _)), trivial, ⟨.inr ⟨by decide, rfl⟩, trivial⟩, rfl, by decide, rfl, (by first | rfl | simp [scRow, tkC_scs])⟩, rfl, rfl⟩

end Go.Proofs.Ytflpphgccjlkjaa
