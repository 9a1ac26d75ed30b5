/- Proved here: a part of an abstract machine for the walks of this program, and that it tells the truth about the model. No condition. -/
import Derived.Test.YtjaklhbifgbiaaaAmX
set_option linter.unusedSimpArgs false
set_option linter.unusedVariables false
namespace Go.AM
open Go

/-! ## regions whose order is drawn -/
structure FP where
  ir : List Nat
  iw : List Nat
  im : List Nat

/-- what an operation of a region comes to -/
structure Step where
  fp : FP
  p : PV
  u : List (Nat × Row)

structure Agree (ops : Array Oper) (o : Oper) (f : FP) (s s2 : St) : Prop where
  n : s2.N = s.N
  k : s2.kl = s.kl
  nx : s2.nx = s.nx
  reg : ∀ t ∈ o.looksAt ops, s2.regs t = s.regs t
  row : ∀ i ∈ f.ir, s2.rows i = s.rows i

/-- the operation, or that it is passed over -/
def DoesG (P : Program) (ops : Array Oper) (o : Oper) (x : Step) (s : St) (m : Nat) : Prop :=
  ∀ B β X w a, SRel B β X w a s → Fresh s m → ∀ (K : Act → World → Prop) Q, (∀ a' w', Sat B (s.app o.dst x.p x.u) a' w' → K a' w') →
    if Region.wanted o (yielded ops a.tmps) then o.wp P a w K Q ∨ (o.asks P a w ∧ LetsOut Q) else K (a.put o.dst undef) w

def SOk (P : Program) (ops : Array Oper) (o : Oper) (x : Step) (m : Nat) (s : St) : Prop := ∀ s2, Agree ops o x.fp s s2 → DoesG P ops o x s2 m

/-- in the text's order -/
def Run (P : Program) (ops : Array Oper) (n0 : Nat) (E : Nat → Step) : List Nat → St → St → Prop
  | [], s, s' => s = s'
  | j :: l, s, s' => match ops[j]? with
    | some o => SOk P ops o (E j) (n0 + 64 * j) s ∧ Run P ops n0 E l (s.app o.dst (E j).p (E j).u) s'
    | none => False

def apartI (a b : List Nat) : Bool := a.all fun i => !b.contains i

/-- two operations that do not meet -/
def apartB (ops : Array Oper) (o1 o2 : Oper) (f1 f2 : FP) : Bool :=
  o1.apart ops o2 && (apartI f1.iw f2.ir && apartI f1.iw f2.iw && apartI f2.iw f1.ir)

theorem apartI_spec {a b : List Nat} (h : apartI a b = true) : ∀ i ∈ a, i ∉ b := fun i hi hb => by
  unfold apartI at h
  rw [List.all_eq_true] at h
  have := h i hi
  simp [hb] at this

theorem app_regs_ne {s : St} {d : Option Nat} {p : PV} {u : List (Nat × Row)} {t : Nat} (h : ∀ d', d = some d' → d' ≠ t) : (s.app d p u).regs t = s.regs t := by
  cases d with
  | none => rfl
  | some d => simp only [St.app, St.put]; exact upd_ne _ _ (Ne.symm (h d rfl))

theorem app_rows {s : St} {d : Option Nat} {p : PV} {u : List (Nat × Row)} : (s.app d p u).rows = updRows s.rows u := by cases d <;> rfl
theorem app_nx {s : St} {d : Option Nat} {p : PV} {u : List (Nat × Row)} : (s.app d p u).nx = s.nx := by cases d <;> rfl
theorem app_N {s : St} {d : Option Nat} {p : PV} {u : List (Nat × Row)} : (s.app d p u).N = s.N := by cases d <;> rfl
theorem app_kl {s : St} {d : Option Nat} {p : PV} {u : List (Nat × Row)} : (s.app d p u).kl = s.kl := by cases d <;> rfl

theorem updRows_comm : ∀ (u v : List (Nat × Row)) (rows : Rows), (∀ x ∈ u, ∀ y ∈ v, x.1 ≠ y.1) → updRows (updRows rows u) v = updRows (updRows rows v) u := by
  intro u v rows h
  funext i
  have key : ∀ (w : List (Nat × Row)) (rows rows' : Rows) (i : Nat), rows i = rows' i → updRows rows w i = updRows rows' w i := by
    intro w
    induction w with
    | nil => intro rows rows' i h; exact h
    | cons x w ih =>
      obtain ⟨j, r⟩ := x
      intro rows rows' i h
      simp only [updRows]
      refine ih _ _ _ ?_
      simp only [upd]; split
      · rfl
      · exact h
  by_cases hu : ∃ x ∈ u, x.1 = i
  · obtain ⟨x, hx, hxi⟩ := hu
    have hv : ∀ y ∈ v, y.1 ≠ i := fun y hy e => h x hx y hy (by rw [hxi, e])
    rw [updRows_notin v _ i hv]
    exact key u _ _ i (updRows_notin v _ i hv).symm
  · have hu' : ∀ x ∈ u, x.1 ≠ i := fun x hx e => hu ⟨x, hx, e⟩
    rw [updRows_notin u (updRows rows v) i hu']
    exact key v _ _ i (updRows_notin u _ i hu')

theorem St.ext' {a b : St} (h1 : a.N = b.N) (h2 : a.kl = b.kl) (h3 : a.regs = b.regs) (h4 : a.rows = b.rows) (h5 : a.nx = b.nx) : a = b := by
  cases a; cases b; simp only at *; subst h1; subst h2; subst h3; subst h4; subst h5; rfl

theorem app_comm {s : St} {d1 d2 : Option Nat} {p1 p2 : PV} {u1 u2 : List (Nat × Row)} (hd : ∀ d, d1 = some d → d2 ≠ some d) (hu : ∀ x ∈ u1, ∀ y ∈ u2, x.1 ≠ y.1) :
    (s.app d1 p1 u1).app d2 p2 u2 = (s.app d2 p2 u2).app d1 p1 u1 := by
  refine St.ext' (by simp [app_N]) (by simp [app_kl]) ?_ (by simp only [app_rows]; exact updRows_comm _ _ _ hu) (by simp [app_nx])
  cases d1 with
  | none => cases d2 <;> rfl
  | some d1 => cases d2 with
    | none => rfl
    | some d2 =>
      have hne : d1 ≠ d2 := fun e => hd d1 rfl (by rw [e])
      funext t
      simp only [St.app, St.put, upd]
      split <;> split <;> first | rfl | (exfalso; omega)

/-- what the steps of a region keep to -/
structure Steps (ops : Array Oper) (n0 : Nat) (E : Nat → Step) (before : Nat → Nat → Bool) : Prop where
  w : ∀ (j : Nat) (o : Oper), ops[j]? = some o → ∀ x ∈ (E j).u, x.1 ∈ (E j).fp.iw
  m : ∀ (j : Nat) (o : Oper), ops[j]? = some o → (o.dst ≠ none → Sc (· ∈ (E j).fp.im) (E j).p) ∧ ∀ i cells, (i, Row.box cells) ∈ (E j).u → Scs (· ∈ (E j).fp.im) cells
  s : ∀ (j : Nat) (o : Oper), ops[j]? = some o → ∀ i, i ∈ (E j).fp.im ∨ i ∈ (E j).fp.iw → i < n0 ∨ ∃ k, (k = j ∨ before k j = true) ∧ n0 + 64 * k ≤ i ∧ i < n0 + 64 * k + 64
  a : ∀ (i j : Nat) (o1 o2 : Oper), i < j → ops[i]? = some o1 → ops[j]? = some o2 → before i j = true ∨ apartB ops o1 o2 (E i).fp (E j).fp = true
  e : ∀ (j : Nat) (o : Oper), ops[j]? = some o → ∀ e ∈ o.after.toList, Region.binds .any e = true → e.on < j ∧ before e.on j = true
  t : ∀ (j : Nat) (o : Oper), ops[j]? = some o → ∀ k, before k j = true → ∃ e ∈ o.after.toList, Region.binds .any e = true ∧ (k = e.on ∨ before k e.on = true)

theorem Agree.refl {ops : Array Oper} {o : Oper} {f : FP} {s : St} : Agree ops o f s s := ⟨rfl, rfl, rfl, fun _ _ => rfl, fun _ _ => rfl⟩

/-- one operation made ahead of another one -/
theorem Agree.skip {ops : Array Oper} {o1 o2 : Oper} {f : FP} {s s2 : St} {p : PV} {u : List (Nat × Row)} (hd : ∀ d, o1.dst = some d → d ∉ o2.looksAt ops) (hu : ∀ x ∈ u, x.1 ∉ f.ir) (h : Agree ops o2 f s s2) :
    Agree ops o2 f (s.app o1.dst p u) s2 :=
  ⟨by rw [app_N]; exact h.n, by rw [app_kl]; exact h.k, by rw [app_nx]; exact h.nx,
    fun t ht => by rw [app_regs_ne fun d hd' e => hd d hd' (e ▸ ht)]; exact h.reg t ht,
    fun i hi => by rw [app_rows, updRows_notin _ _ _ fun x hx e => hu x hx (e ▸ hi)]; exact h.row i hi⟩

theorem Agree.unskip {ops : Array Oper} {o1 o2 : Oper} {f : FP} {s s2 : St} {p : PV} {u : List (Nat × Row)} (hd : ∀ d, o1.dst = some d → d ∉ o2.looksAt ops) (hu : ∀ x ∈ u, x.1 ∉ f.ir) (h : Agree ops o2 f (s.app o1.dst p u) s2) :
    Agree ops o2 f s s2 :=
  ⟨by rw [h.n, app_N], by rw [h.k, app_kl], by rw [h.nx, app_nx],
    fun t ht => by rw [h.reg t ht, app_regs_ne fun d hd' e => hd d hd' (e ▸ ht)],
    fun i hi => by rw [h.row i hi, app_rows, updRows_notin _ _ _ fun x hx e => hu x hx (e ▸ hi)]⟩

section
variable {P : Program} {ops : Array Oper} {n0 : Nat} {E : Nat → Step} {before : Nat → Nat → Bool}

theorem Run.front (hS : Steps ops n0 E before) {j : Nat} {o : Oper} (hj : ops[j]? = some o) {s' : St} : ∀ {l : List Nat} {s : St}, Run P ops n0 E l s s' → j ∈ l → l.Pairwise (· < ·) → (∀ i ∈ l, before i j = false) →
    SOk P ops o (E j) (n0 + 64 * j) s ∧ Run P ops n0 E (l.erase j) (s.app o.dst (E j).p (E j).u) s'
  | [], s, _, hm, _, _ => by simp at hm
  | i :: l, s, h, hm, hp, hb => by
    by_cases hij : i = j
    · subst hij
      unfold Run at h
      rw [hj] at h
      simp only [List.erase_cons_head]
      exact h
    · have hmem : j ∈ l := by simpa [Ne.symm hij] using hm
      have hlt : i < j := (List.pairwise_cons.1 hp).1 j hmem
      unfold Run at h
      split at h
      · rename_i o1 hi
        obtain ⟨h1, h2⟩ := h
        obtain ⟨g1, g2⟩ := Run.front hS hj h2 hmem (List.pairwise_cons.1 hp).2 (fun k hk => hb k (by simp [hk]))
        have hap : apartB ops o1 o (E i).fp (E j).fp = true := by
          rcases hS.a i j o1 o hlt hi hj with h | h
          · rw [hb i (by simp)] at h; cases h
          · exact h
        unfold apartB at hap
        simp only [Bool.and_eq_true] at hap
        obtain ⟨a1, ⟨a2, a3⟩, a4⟩ := hap
        obtain ⟨b1, b2, b3⟩ := Oper.apart_spec a1
        have c2 := apartI_spec a2
        have c3 := apartI_spec a3
        have c4 := apartI_spec a4
        have w1 := hS.w i o1 hi
        have w2 := hS.w j o hj
        refine ⟨fun s2 hs2 => g1 s2 (hs2.skip b1 fun x hx => c2 _ (w1 x hx)), ?_⟩
        rw [List.erase_cons_tail (by simpa using hij)]
        unfold Run
        rw [hi]
        refine ⟨fun s2 hs2 => h1 s2 (hs2.unskip b3 fun x hx => c4 _ (w2 x hx)), ?_⟩
        have hcomm : (s.app o1.dst (E i).p (E i).u).app o.dst (E j).p (E j).u = (s.app o.dst (E j).p (E j).u).app o1.dst (E i).p (E i).u :=
          app_comm b2 fun x hx y hy e => c3 x.1 (w1 x hx) (e ▸ w2 y hy)
        rw [← hcomm]
        exact g2
      · exact h.elim

def InD (n0 : Nat) (l : Array Bool) (i : Nat) : Prop := i < n0 ∨ ∃ k, l.getD k false = true ∧ n0 + 64 * k ≤ i ∧ i < n0 + 64 * k + 64

structure Inv (ops : Array Oper) (n0 : Nat) (l : Array Bool) (s : St) : Prop where
  reg : ∀ t, Sc (InD n0 l) (s.regs t)
  row : ∀ i cells, s.rows i = .box cells → Scs (InD n0 l) cells
  live : ∀ i, s.rows i ≠ .dead → InD n0 l i
  kl : s.kl ≤ n0
  nx : s.nx = n0 + 64 * ops.size

theorem Inv.fresh {l : Array Bool} {s : St} (h : Inv ops n0 l s) {j : Nat} (hj : j < ops.size) (hl : l.getD j false = false) : Fresh s (n0 + 64 * j) := by
  have hno : ∀ i, n0 + 64 * j ≤ i → i < n0 + 64 * j + 64 → ∀ x, InD n0 l x → x ≠ i := fun i h1 h2 x hx e => by
    subst e
    rcases hx with hx | ⟨k, hk, h3, h4⟩
    · omega
    · have : k = j := by omega
      subst this; rw [hl] at hk; cases hk
  refine ⟨by rw [h.nx]; omega, by have := h.kl; omega, fun i h1 h2 => ?_, fun i h1 h2 t => Sc.mono (fun x hx => hno i h1 h2 x hx) _ (h.reg t), fun i h1 h2 k cells hc => Scs.mono (fun x hx => hno i h1 h2 x hx) _ (h.row k cells hc)⟩
  cases hr : s.rows i with
  | dead => rfl
  | _ => exact absurd rfl (hno i h1 h2 i (h.live i (by rw [hr]; simp)))

theorem updRows_cases : ∀ (u : List (Nat × Row)) (rows : Rows) (i : Nat), updRows rows u i = rows i ∨ (i, updRows rows u i) ∈ u
  | [], rows, i => .inl rfl
  | (j, r) :: u, rows, i => by
    simp only [updRows]
    rcases updRows_cases u (upd rows j r) i with h | h
    · by_cases hi : i = j
      · subst hi; rw [upd_same] at h; right; rw [h]; simp
      · rw [upd_ne _ _ hi] at h; exact .inl h
    · right; simp [h]

theorem set_getD {l : Array Bool} {j k : Nat} (hj : j < l.size) : (l.setIfInBounds j true).getD k false = if k = j then true else l.getD k false := by
  rw [Array.getD_eq_getD_getElem?, Array.getD_eq_getD_getElem?, Array.getElem?_setIfInBounds]
  by_cases h : j = k
  · subst h; simp [hj]
  · rw [if_neg h, if_neg (Ne.symm h)]

theorem Inv.step (hS : Steps ops n0 E before) {l : Array Bool} {s : St} (h : Inv ops n0 l s) {j : Nat} {o : Oper} (hj : ops[j]? = some o) (hs : l.size = ops.size) (hb : ∀ k, before k j = true → l.getD k false = true) :
    Inv ops n0 (l.setIfInBounds j true) (s.app o.dst (E j).p (E j).u) := by
  have hjs : j < l.size := by rw [hs]; exact (Array.getElem?_eq_some_iff.1 hj).1
  have h1 : ∀ i, InD n0 l i → InD n0 (l.setIfInBounds j true) i := fun i hi => by
    rcases hi with hi | ⟨k, hk, h3⟩
    · exact .inl hi
    · exact .inr ⟨k, by rw [set_getD hjs]; split <;> simp [hk], h3⟩
  have h2 : ∀ i, i ∈ (E j).fp.im ∨ i ∈ (E j).fp.iw → InD n0 (l.setIfInBounds j true) i := fun i hi => by
    rcases hS.s j o hj i hi with h | ⟨k, hk, h3⟩
    · exact .inl h
    · refine .inr ⟨k, ?_, h3⟩
      rw [set_getD hjs]
      rcases hk with rfl | hk
      · simp
      · split
        · rfl
        · exact hb k hk
  refine ⟨fun t => ?_, fun i cells hc => ?_, fun i hi => ?_, by rw [app_kl]; exact h.kl, by rw [app_nx]; exact h.nx⟩
  · cases hd : o.dst with
    | none => exact Sc.mono h1 _ (h.reg t)
    | some d =>
      simp only [St.app, St.put]
      by_cases ht : t = d
      · subst ht; rw [upd_same]
        exact Sc.mono (fun i hi => h2 i (.inl hi)) _ ((hS.m j o hj).1 (by rw [hd]; simp))
      · rw [upd_ne _ _ ht]; exact Sc.mono h1 _ (h.reg t)
  · rw [app_rows] at hc
    rcases updRows_cases (E j).u s.rows i with h3 | h3
    · rw [h3] at hc; exact Scs.mono h1 _ (h.row i cells hc)
    · rw [hc] at h3
      exact Scs.mono (fun i hi => h2 i (.inl hi)) _ ((hS.m j o hj).2 i cells h3)
  · rw [app_rows] at hi
    rcases updRows_cases (E j).u s.rows i with h3 | h3
    · rw [h3] at hi; exact h1 i (h.live i hi)
    · exact h2 i (.inr (hS.w j o hj _ h3))

def remL (ops : Array Oper) (l : Array Bool) : List Nat := (List.range ops.size).filter fun i => !l.getD i true

theorem getD_tf {l : Array Bool} {i : Nat} (h : i < l.size) : l.getD i true = l.getD i false := by
  rw [Array.getD_eq_getD_getElem?, Array.getD_eq_getD_getElem?, Array.getElem?_eq_getElem h]; rfl

theorem remL_set {l : Array Bool} {j : Nat} (hs : l.size = ops.size) (hj : j < ops.size) : remL ops (l.setIfInBounds j true) = (remL ops l).erase j := by
  unfold remL
  have hn : ((List.range ops.size).filter fun i => !l.getD i true).Nodup := List.nodup_range.sublist List.filter_sublist
  rw [hn.erase_eq_filter, List.filter_filter]
  refine List.filter_congr fun i hi => ?_
  have hi' := List.mem_range.1 hi
  rw [getD_tf (by simp; omega), getD_tf (l := l) (by omega), set_getD (by omega)]
  by_cases h : i = j
  · subst h; simp
  · simp [h]

theorem any_sound {B : Base} (hS : Steps ops n0 E before) {s' : St} {Q : Exit → Act → World → Prop} (hQ : ∀ a w, Sat B s' a w → Q .normal a w) : ∀ (fuel : Nat) (l : Array Bool) (s : St) (a : Act) (w : World), l.size = ops.size →
    Run P ops n0 E (remL ops l) s s' → Inv ops n0 l s → (∀ k, l.getD k false = true → ∀ i, before i k = true → l.getD i false = true) → Sat B s a w → (remL ops l).length ≤ fuel → wpAny P .any ops Q fuel l a w := by
  -- where none is ready all are made
  have hnil : ∀ (l : Array Bool), l.size = ops.size → Region.ready .any ops l = [] → remL ops l = [] := fun l hs hr => by
    cases hrem : remL ops l with
    | nil => rfl
    | cons i rest =>
      exfalso
      have hpw : (remL ops l).Pairwise (· < ·) := List.Pairwise.filter _ List.pairwise_lt_range
      have hi : i ∈ remL ops l := by rw [hrem]; simp
      have hi2 := List.mem_filter.1 hi
      have hin := List.mem_range.1 hi2.1
      have : i ∈ Region.ready .any ops l := by
        unfold Region.ready
        refine List.mem_filter.2 ⟨hi2.1, ?_⟩
        simp only [Bool.and_eq_true]
        refine ⟨hi2.2, ?_⟩
        rw [Array.getElem?_eq_getElem hin]
        simp only [Option.map_some, Option.getD_some]
        rw [Array.all_eq_true']
        intro e he
        cases hb : Region.binds .any e with
        | false => rfl
        | true =>
          simp only [Bool.not_true, Bool.false_or]
          obtain ⟨h1, _⟩ := hS.e i ops[i] (Array.getElem?_eq_getElem hin) e (by simpa using he) hb
          cases hl : l.getD e.on false with
          | true => rfl
          | false =>
            have hm : e.on ∈ remL ops l := List.mem_filter.2 ⟨List.mem_range.2 (by omega), by rw [getD_tf (by omega), hl]; rfl⟩
            rw [hrem] at hm hpw
            rcases List.mem_cons.1 hm with h | h
            · omega
            · have := (List.pairwise_cons.1 hpw).1 _ h; omega
      rw [hr] at this
      simp at this
  intro fuel
  induction fuel with
  | zero =>
    intro l s a w hs hrun _ _ hsat hlen
    have h0 : remL ops l = [] := List.eq_nil_of_length_eq_zero (by omega)
    refine ⟨?_, hQ a w ?_⟩
    · cases hr : Region.ready .any ops l with
      | nil => rfl
      | cons i rest =>
        exfalso
        have hi : i ∈ Region.ready .any ops l := by rw [hr]; simp
        unfold Region.ready at hi
        have hi2 := List.mem_filter.1 hi
        simp only [Bool.and_eq_true] at hi2
        have : i ∈ remL ops l := List.mem_filter.2 ⟨hi2.1, hi2.2.1⟩
        rw [h0] at this
        simp at this
    · rw [h0] at hrun; unfold Run at hrun; rw [← hrun]; exact hsat
  | succ fuel ih =>
    intro l s a w hs hrun hinv hcl hsat hlen
    refine ⟨fun hr => ?_, fun i hi => ?_⟩
    · rw [hnil l hs hr] at hrun; unfold Run at hrun; exact hQ a w (hrun ▸ hsat)
    · unfold Region.ready at hi
      have hi2 := List.mem_filter.1 hi
      simp only [Bool.and_eq_true] at hi2
      have hin := List.mem_range.1 hi2.1
      have hmem : i ∈ remL ops l := List.mem_filter.2 ⟨hi2.1, hi2.2.1⟩
      have hli : l.getD i false = false := by
        have := hi2.2.1
        rw [getD_tf (by omega)] at this
        simpa using this
      have hj : ops[i]? = some ops[i] := Array.getElem?_eq_getElem hin
      have hpre : ∀ k, before k i = true → l.getD k false = true := fun k hk => by
        obtain ⟨e, he, hb, hk2⟩ := hS.t i ops[i] hj k hk
        have hall := hi2.2.2
        rw [hj] at hall
        simp only [Option.map_some, Option.getD_some] at hall
        rw [Array.all_eq_true'] at hall
        have h1 := hall e (by simpa using he)
        rw [hb] at h1
        simp only [Bool.not_true, Bool.false_or] at h1
        rcases hk2 with rfl | hk2
        · exact h1
        · exact hcl e.on h1 k hk2
      have hpw : (remL ops l).Pairwise (· < ·) := List.Pairwise.filter _ List.pairwise_lt_range
      obtain ⟨g1, g2⟩ := Run.front hS hj hrun hmem hpw (fun k hk => by
        cases hb : before k i with
        | false => rfl
        | true =>
          have h1 := hpre k hb
          have h2 := (List.mem_filter.1 hk).2
          have h3 := List.mem_range.1 (List.mem_filter.1 hk).1
          rw [getD_tf (by omega), h1] at h2
          cases h2)
      obtain ⟨β, X, hrel⟩ := hsat
      have hdo := g1 s Agree.refl B β X w a hrel (hinv.fresh hin hli) (wpAny P .any ops Q fuel (l.setIfInBounds i true)) Q (fun a' w' hsat' => by
        refine ih _ _ a' w' (by simp [hs]) (by rw [remL_set hs hin]; exact g2) (hinv.step hS hj hs hpre) (fun k hk i' hb => ?_) hsat' ?_
        · rw [set_getD (by omega)] at hk ⊢
          split
          · rfl
          · split at hk
            · rename_i hki; subst hki; exact hpre i' hb
            · exact hcl k hk i' hb
        · rw [remL_set hs hin, List.length_erase_of_mem hmem]; omega)
      unfold wpOp
      rw [hj]
      exact hdo
end
end Go.AM
