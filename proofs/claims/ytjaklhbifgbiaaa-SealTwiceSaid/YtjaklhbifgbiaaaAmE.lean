/- Proved here: a part of an abstract machine for the walks of this program, and that it tells the truth about the model. No condition. -/
import Derived.Test.YtjaklhbifgbiaaaAmD
set_option linter.unusedSimpArgs false
set_option linter.unusedVariables false
namespace Go.AM
open Go

/-! ## types -/
inductive TK where
  | bool | int (k : IntKind) | string | slice (e : TypeId) | array (n : Nat) (e : TypeId) | struct (fs : List (Nat × TypeId)) | pointer (e : TypeId) | func | iface | other

structure Ty where
  k : TK
  size : Nat
  bytes : Nat
  zero : Option Value

def tkOf : TypeDesc → TK
  | .bool => .bool
  | .int k => .int k
  | .string => .string
  | .slice e => .slice e
  | .array n e => .array n e
  | .struct fs => .struct (fs.toList.map fun f => (f.offset, f.type))
  | .pointer e => .pointer e
  | .func _ _ _ => .func
  | .interface _ => .iface
  | _ => .other

def tyOf (P : Program) (t : TypeId) : Option Ty :=
  match P.info? t, P.underlying t with
  | some i, some u => some { k := tkOf u, size := i.size, bytes := i.bytes, zero := i.zero }
  | _, _ => none

def TK.agg : TK → Bool
  | .array _ _ => true
  | .struct _ => true
  | _ => false

theorem tyOf_spec {P : Program} {t : TypeId} {ty : Ty} (h : tyOf P t = some ty) :
    ∃ i u, P.info? t = some i ∧ P.underlying t = some u ∧ ty.k = tkOf u ∧ ty.size = i.size ∧ ty.bytes = i.bytes ∧ ty.zero = i.zero := by
  unfold tyOf at h
  split at h
  · rename_i i u h1 h2
    simp only [Option.some.injEq] at h
    subst h
    exact ⟨i, u, h1, h2, rfl, rfl, rfl, rfl⟩
  · cases h

section
variable {P : Program} {t : TypeId} {ty : Ty}
theorem tyOf_slice (h : tyOf P t = some ty) {e : TypeId} (hk : ty.k = .slice e) : P.underlying t = some (.slice e) := by
  obtain ⟨i, u, _, h2, h3, _⟩ := tyOf_spec h
  rw [h2]; rw [h3] at hk
  cases u <;> simp [tkOf] at hk ⊢; exact hk
theorem tyOf_string (h : tyOf P t = some ty) (hk : ty.k = .string) : P.underlying t = some .string := by
  obtain ⟨i, u, _, h2, h3, _⟩ := tyOf_spec h
  rw [h2]; rw [h3] at hk
  cases u <;> simp [tkOf] at hk ⊢
theorem tyOf_bool (h : tyOf P t = some ty) (hk : ty.k = .bool) : P.underlying t = some .bool := by
  obtain ⟨i, u, _, h2, h3, _⟩ := tyOf_spec h
  rw [h2]; rw [h3] at hk
  cases u <;> simp [tkOf] at hk ⊢
theorem tyOf_int (h : tyOf P t = some ty) {k : IntKind} (hk : ty.k = .int k) : P.underlying t = some (.int k) := by
  obtain ⟨i, u, _, h2, h3, _⟩ := tyOf_spec h
  rw [h2]; rw [h3] at hk
  cases u <;> simp [tkOf] at hk ⊢; exact hk
theorem tyOf_pointer (h : tyOf P t = some ty) {e : TypeId} (hk : ty.k = .pointer e) : P.underlying t = some (.pointer e) := by
  obtain ⟨i, u, _, h2, h3, _⟩ := tyOf_spec h
  rw [h2]; rw [h3] at hk
  cases u <;> simp [tkOf] at hk ⊢; exact hk
theorem tyOf_array (h : tyOf P t = some ty) {n : Nat} {e : TypeId} (hk : ty.k = .array n e) : P.underlying t = some (.array n e) := by
  obtain ⟨i, u, _, h2, h3, _⟩ := tyOf_spec h
  rw [h2]; rw [h3] at hk
  cases u <;> simp [tkOf] at hk ⊢; exact hk
theorem tyOf_struct (h : tyOf P t = some ty) {fs : List (Nat × TypeId)} (hk : ty.k = .struct fs) : ∃ gs : Array Field, P.underlying t = some (.struct gs) ∧ fs = gs.toList.map fun f => (f.offset, f.type) := by
  obtain ⟨i, u, _, h2, h3, _⟩ := tyOf_spec h
  rw [h2]; rw [h3] at hk
  cases u with
  | struct gs => simp only [tkOf, TK.struct.injEq] at hk; exact ⟨gs, rfl, hk.symm⟩
  | _ => simp [tkOf] at hk
theorem tyOf_size (h : tyOf P t = some ty) (w : World) : (sizeOf t).run P w = .ok ty.size w := by
  obtain ⟨i, u, h1, h2, h3, h4, _⟩ := tyOf_spec h
  simp [sizeOf, typeInfo, h1, h4]
theorem tyOf_agg (h : tyOf P t = some ty) (w : World) : (isAgg t).run P w = .ok ty.k.agg w := by
  obtain ⟨i, u, h1, h2, h3, h4, _⟩ := tyOf_spec h
  simp only [isAgg, Sem.run_bind, run_underlying h2, Result.andThen_ok, h3]
  cases u <;> rfl
theorem tyOf_zero (h : tyOf P t = some ty) {z : Value} (hz : ty.zero = some z) (w : World) : (zeroValue t).run P w = .ok z w := by
  obtain ⟨i, u, h1, h2, h3, h4, h5, h6⟩ := tyOf_spec h
  rw [h6] at hz
  simp [zeroValue, typeInfo, h1, hz]
end

/-! ## cells -/
def allD : List PV → Option (List DV)
  | [] => some []
  | .d x :: ps => match allD ps with | some ds => some (x :: ds) | none => none
  | _ => none

theorem allD_eq : ∀ {ps : List PV} {ds : List DV}, allD ps = some ds → ps = ds.map .d
  | [], ds, h => by simp [allD] at h; subst h; rfl
  | .d x :: ps, ds, h => by
    simp only [allD] at h
    split at h
    · rename_i ds' h'
      simp only [Option.some.injEq] at h; subst h
      simp [allD_eq h']
    · cases h
  | .own _ :: ps, ds, h => by simp [allD] at h
  | .win _ _ _ :: ps, ds, h => by simp [allD] at h
  | .ptr _ _ :: ps, ds, h => by simp [allD] at h
  | .eptr _ _ _ :: ps, ds, h => by simp [allD] at h
  | .iptr _ :: ps, ds, h => by simp [allD] at h
  | .clo _ _ _ :: ps, ds, h => by simp [allD] at h
  | .ifc _ _ :: ps, ds, h => by simp [allD] at h
  | .agg _ :: ps, ds, h => by simp [allD] at h
  | .tup _ :: ps, ds, h => by simp [allD] at h
  | .any :: ps, ds, h => by simp [allD] at h

def mkAgg (ps : List PV) : PV := match allD ps with | some ds => .d (.agg ds) | none => .agg ps

theorem repPs_d {rows : Rows} {β : Nat → Loc} {w : World} {X : Nat → Prop} : ∀ {ds : List DV} {vs : List Value}, repPs rows β w X (ds.map .d) vs → (∀ u ∈ vs, oc u = true) → reps w X ds vs
  | [], vs, h, _ => by simpa [repPs, reps] using h
  | d :: ds, vs, h, ho => by
    simp only [List.map_cons] at h
    unfold repPs at h
    obtain ⟨u, us, h1, h2, h3⟩ := h
    subst h1
    unfold reps
    exact ⟨u, us, rfl, ho u (by simp), by simpa [repP] using h2, repPs_d h3 fun x hx => ho x (by simp [hx])⟩

theorem repPs_of_reps {rows : Rows} {β : Nat → Loc} {w : World} {X : Nat → Prop} : ∀ {ds : List DV} {vs : List Value}, reps w X ds vs → repPs rows β w X (ds.map .d) vs
  | [], vs, h => by simpa [repPs, reps] using h
  | d :: ds, vs, h => by
    unfold reps at h
    obtain ⟨u, us, h1, h2, h3, h4⟩ := h
    subst h1
    simp only [List.map_cons]
    unfold repPs
    exact ⟨u, us, rfl, by simpa [repP] using h3, repPs_of_reps h4⟩

theorem Scs_d (S : Nat → Prop) : ∀ (ds : List DV), Scs S (ds.map .d)
  | [] => trivial
  | _ :: ds => ⟨trivial, Scs_d S ds⟩

theorem mkAgg_ok {rows : Rows} {β : Nat → Loc} {w : World} {X : Nat → Prop} {ps : List PV} {vs : List Value} (h : repPs rows β w X ps vs) (ho : ∀ u ∈ vs, oc u = true) :
    repP rows β w X (mkAgg ps) (.agg vs.toArray) := by
  unfold mkAgg
  split
  · rename_i ds hd
    have := allD_eq hd
    subst this
    unfold repP rep
    exact ⟨vs, rfl, repPs_d h ho⟩
  · unfold repP
    exact ⟨vs, rfl, h, ho⟩

theorem Sc_mkAgg {S : Nat → Prop} {ps : List PV} (h : Scs S ps) : Sc S (mkAgg ps) := by
  unfold mkAgg
  split
  · trivial
  · exact h

theorem repPs_length {rows : Rows} {β : Nat → Loc} {w : World} {X : Nat → Prop} : ∀ {ps : List PV} {vs : List Value}, repPs rows β w X ps vs → vs.length = ps.length
  | [], vs, h => by unfold repPs at h; simp [h]
  | c :: cs, vs, h => by
    unfold repPs at h
    obtain ⟨u, us, h1, h2, h3⟩ := h
    simp [h1, repPs_length h3]

theorem repPs_split {rows : Rows} {β : Nat → Loc} {w : World} {X : Nat → Prop} : ∀ {xs ys : List PV} {vs : List Value}, repPs rows β w X (xs ++ ys) vs → repPs rows β w X xs (vs.take xs.length) ∧ repPs rows β w X ys (vs.drop xs.length)
  | [], ys, vs, h => by simpa [repPs] using h
  | c :: cs, ys, vs, h => by
    have h' : repPs rows β w X (c :: (cs ++ ys)) vs := h
    unfold repPs at h'
    obtain ⟨u, us', h1, h3, h4⟩ := h'
    subst h1
    have := repPs_split h4
    simp only [List.length_cons, List.take_succ_cons, List.drop_succ_cons]
    refine ⟨?_, this.2⟩
    unfold repPs
    exact ⟨u, _, rfl, h3, this.1⟩

theorem repPs_append {rows : Rows} {β : Nat → Loc} {w : World} {X : Nat → Prop} : ∀ {xs ys : List PV} {us vs : List Value}, repPs rows β w X xs us → repPs rows β w X ys vs → repPs rows β w X (xs ++ ys) (us ++ vs)
  | [], ys, us, vs, h, k => by unfold repPs at h; subst h; simpa using k
  | c :: cs, ys, us, vs, h, k => by
    unfold repPs at h
    obtain ⟨u, us', h1, h3, h4⟩ := h
    subst h1
    show repPs rows β w X (c :: (cs ++ ys)) (u :: (us' ++ vs))
    unfold repPs
    exact ⟨u, us' ++ vs, rfl, h3, repPs_append h4 k⟩

theorem repPs_take {rows : Rows} {β : Nat → Loc} {w : World} {X : Nat → Prop} {ps : List PV} {vs : List Value} (k : Nat) (h : repPs rows β w X ps vs) : repPs rows β w X (ps.take k) (vs.take k) := by
  have hl := repPs_length h
  by_cases hk : k ≤ ps.length
  · have := (repPs_split (xs := ps.take k) (ys := ps.drop k) (by rw [List.take_append_drop]; exact h)).1
    rwa [List.length_take, Nat.min_eq_left hk] at this
  · have e1 : ps.take k = ps := List.take_of_length_le (by omega)
    have e2 : vs.take k = vs := List.take_of_length_le (by omega)
    rw [e1, e2]; exact h

theorem repPs_drop {rows : Rows} {β : Nat → Loc} {w : World} {X : Nat → Prop} {ps : List PV} {vs : List Value} (k : Nat) (h : repPs rows β w X ps vs) : repPs rows β w X (ps.drop k) (vs.drop k) := by
  have hl := repPs_length h
  by_cases hk : k ≤ ps.length
  · have := (repPs_split (xs := ps.take k) (ys := ps.drop k) (by rw [List.take_append_drop]; exact h)).2
    rwa [List.length_take, Nat.min_eq_left hk] at this
  · have e1 : ps.drop k = [] := List.drop_of_length_le (by omega)
    have e2 : vs.drop k = [] := List.drop_of_length_le (by omega)
    rw [e1, e2]; simp [repPs]

theorem Scs.append {S : Nat → Prop} {xs ys : List PV} (h : Scs S xs) (k : Scs S ys) : Scs S (xs ++ ys) :=
  Scs.of_mem fun p hp => (List.mem_append.1 hp).elim (Scs.mem h p) (Scs.mem k p)
theorem Scs.take {S : Nat → Prop} {xs : List PV} (k : Nat) (h : Scs S xs) : Scs S (xs.take k) := Scs.of_mem fun p hp => Scs.mem h p (List.mem_of_mem_take hp)
theorem Scs.drop {S : Nat → Prop} {xs : List PV} (k : Nat) (h : Scs S xs) : Scs S (xs.drop k) := Scs.of_mem fun p hp => Scs.mem h p (List.mem_of_mem_drop hp)

/-- the cells of a value -/
def cellsP (rows : Rows) : PV → Option (List PV)
  | .agg ps => some ps
  | .d (.agg cs) => some (cs.map .d)
  | .d (.lit v) => if oc v then some [.d (.lit v)] else none
  | .d (.sl sz el) => some [.d (.sl sz el)]
  | .own i => match rows i with | .own _ _ => some [.own i] | _ => none
  | .ptr i off => match rows i with | .dead => none | _ => some [.ptr i off]
  | .clo f a b => some [.clo f a b]
  | .ifc t x => some [.ifc t x]
  | _ => none

theorem cells_one {v : Value} (h : oc v = true) : v.cells = #[v] := by cases v <;> simp [oc] at h <;> rfl

theorem cellsP_ok {rows : Rows} {β : Nat → Loc} {w : World} {X : Nat → Prop} {S : Nat → Prop} {p : PV} {v : Value} {ps : List PV} (h : repP rows β w X p v) (hs : Sc S p) (hc : cellsP rows p = some ps) :
    repPs rows β w X ps v.cells.toList ∧ (∀ u ∈ v.cells.toList, oc u = true) ∧ Scs S ps := by
  have one : ∀ {q : PV} {u : Value}, repP rows β w X q u → oc u = true → repPs rows β w X [q] u.cells.toList ∧ (∀ x ∈ u.cells.toList, oc x = true) := fun {q u} hq ho => by
    rw [cells_one ho]
    refine ⟨?_, by simpa using ho⟩
    unfold repPs
    exact ⟨u, [], rfl, hq, by simp [repPs]⟩
  cases p with
  | agg ps' =>
    simp only [cellsP, Option.some.injEq] at hc; subst hc
    unfold repP at h
    obtain ⟨vs, rfl, h2, h3⟩ := h
    exact ⟨by simpa [Value.cells] using h2, by simpa [Value.cells] using h3, hs⟩
  | d x =>
    cases x with
    | agg cs =>
      simp only [cellsP, Option.some.injEq] at hc; subst hc
      unfold repP rep at h
      obtain ⟨vs, rfl, h2⟩ := h
      exact ⟨by simpa [Value.cells] using repPs_of_reps h2, by simpa [Value.cells] using reps_oc h2, Scs_d _ _⟩
    | lit u =>
      simp only [cellsP] at hc
      split at hc
      · rename_i ho
        simp only [Option.some.injEq] at hc; subst hc
        have : v = u := by simpa [repP, rep] using h
        subst this
        exact ⟨(one h ho).1, (one h ho).2, trivial, trivial⟩
      · cases hc
    | sl sz el =>
      simp only [cellsP, Option.some.injEq] at hc; subst hc
      have h' := h
      unfold repP rep at h'
      obtain ⟨a, cap, vs, rfl, _⟩ := h'
      exact ⟨(one h rfl).1, (one h rfl).2, trivial, trivial⟩
  | own i =>
    simp only [cellsP] at hc
    split at hc
    · rename_i sz el hr
      simp only [Option.some.injEq] at hc; subst hc
      have h' := h
      unfold repP at h'
      have := h' sz el hr
      subst this
      exact ⟨(one h rfl).1, (one h rfl).2, hs, trivial⟩
    · cases hc
  | ptr i off =>
    simp only [cellsP] at hc
    split at hc
    · cases hc
    · rename_i hr
      simp only [Option.some.injEq] at hc; subst hc
      have h' := h
      unfold repP at h'
      obtain ⟨b, _, rfl⟩ := h' (fun e => hr e)
      exact ⟨(one h rfl).1, (one h rfl).2, hs, trivial⟩
  | clo f a b =>
    simp only [cellsP, Option.some.injEq] at hc; subst hc
    have h' := h
    unfold repP at h'
    obtain ⟨fs, cs, rfl, _⟩ := h'
    exact ⟨(one h rfl).1, (one h rfl).2, hs, trivial⟩
  | ifc t x =>
    simp only [cellsP, Option.some.injEq] at hc; subst hc
    have h' := h
    unfold repP at h'
    obtain ⟨u, rfl, _⟩ := h'
    exact ⟨(one h rfl).1, (one h rfl).2, hs, trivial⟩
  | _ => simp [cellsP] at hc
end Go.AM
