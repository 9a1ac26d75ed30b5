/- Proved here: the data of the walks: pure values and how memory shows them. No condition. -/
import Derived.WalkKit
set_option linter.unusedSimpArgs false
set_option linter.unusedVariables false
namespace Go.AM
open Go

def oc : Value → Bool | .agg _ | .tuple _ => false | _ => true

/-- immutable data -/
inductive DV where
  | lit (v : Value)
  | sl (sz : Nat) (el : List (List DV))
  | agg (cells : List DV)

mutual
def rep (w : World) (X : Nat → Prop) : DV → Value → Prop
  | .lit u, v => v = u
  | .sl sz el, v => ∃ a cap vs, v = .slice a el.length cap ∧ el.length ≤ cap ∧ cap ≤ maxLen ∧ repss w X sz el vs ∧
      (vs ≠ [] → ∃ b off, a = some ⟨b, off, none⟩ ∧ ¬ X b ∧ ∀ j u, vs[j]? = some u → w.cell? ⟨b, off + j, none⟩ = some u)
  | .agg cs, v => ∃ vs : List Value, v = .agg vs.toArray ∧ reps w X cs vs
def reps (w : World) (X : Nat → Prop) : List DV → List Value → Prop
  | [], vs => vs = []
  | c :: cs, vs => ∃ u us, vs = u :: us ∧ oc u = true ∧ rep w X c u ∧ reps w X cs us
def repss (w : World) (X : Nat → Prop) (sz : Nat) : List (List DV) → List Value → Prop
  | [], vs => vs = []
  | e :: el, vs => ∃ us ws, vs = us ++ ws ∧ us.length = sz ∧ reps w X e us ∧ repss w X sz el ws
end

/-- what lies outside X stays as it is, and outside -/
def KeepX (w : World) (X : Nat → Prop) (w' : World) (X' : Nat → Prop) : Prop :=
  ∀ b, b < w.heap.size → ¬ X b → w'.heap[b]? = w.heap[b]? ∧ ¬ X' b

theorem KeepX.refl (w : World) (X : Nat → Prop) : KeepX w X w X := fun _ _ h => ⟨rfl, h⟩

theorem KeepX.cell {w w' : World} {X X' : Nat → Prop} (h : KeepX w X w' X') {p : Addr} {u : Value} (hx : ¬ X p.block) (hc : w.cell? p = some u) :
    w'.cell? p = some u ∧ ¬ X' p.block := by
  have hb := World.block_lt_of_cell? w p hc
  obtain ⟨h1, h2⟩ := h _ hb hx
  exact ⟨(World.cell?_of_block h1).trans hc, h2⟩

mutual
theorem rep_mono {w w' : World} {X X' : Nat → Prop} (hk : KeepX w X w' X') : ∀ (x : DV) (v : Value), rep w X x v → rep w' X' x v
  | .lit u, v, h => by unfold rep at *; exact h
  | .sl sz el, v, h => by
    unfold rep at *
    obtain ⟨a, cap, vs, h1, h2, h3, h4, h5⟩ := h
    refine ⟨a, cap, vs, h1, h2, h3, repss_mono hk sz el vs h4, fun hne => ?_⟩
    obtain ⟨b, off, h6, h7, h8⟩ := h5 hne
    refine ⟨b, off, h6, ?_, fun j u hu => (hk.cell (p := ⟨b, off + j, none⟩) h7 (h8 j u hu)).1⟩
    cases vs with
    | nil => exact absurd rfl hne
    | cons u us => exact (hk.cell (p := ⟨b, off + 0, none⟩) h7 (h8 0 u rfl)).2
  | .agg cs, v, h => by
    unfold rep at *
    obtain ⟨vs, h1, h2⟩ := h
    exact ⟨vs, h1, reps_mono hk cs vs h2⟩
theorem reps_mono {w w' : World} {X X' : Nat → Prop} (hk : KeepX w X w' X') : ∀ (xs : List DV) (vs : List Value), reps w X xs vs → reps w' X' xs vs
  | [], vs, h => by unfold reps at *; exact h
  | c :: cs, vs, h => by
    unfold reps at *
    obtain ⟨u, us, h1, h2, h3, h4⟩ := h
    exact ⟨u, us, h1, h2, rep_mono hk c u h3, reps_mono hk cs us h4⟩
theorem repss_mono {w w' : World} {X X' : Nat → Prop} (hk : KeepX w X w' X') (sz : Nat) : ∀ (el : List (List DV)) (vs : List Value), repss w X sz el vs → repss w' X' sz el vs
  | [], vs, h => by unfold repss at *; exact h
  | e :: el, vs, h => by
    unfold repss at *
    obtain ⟨us, ws, h1, h2, h3, h4⟩ := h
    exact ⟨us, ws, h1, h2, reps_mono hk e us h3, repss_mono hk sz el ws h4⟩
end

theorem reps_length {w : World} {X : Nat → Prop} : ∀ {xs : List DV} {vs : List Value}, reps w X xs vs → vs.length = xs.length
  | [], vs, h => by unfold reps at h; simp [h]
  | c :: cs, vs, h => by
    unfold reps at h
    obtain ⟨u, us, h1, h2, h3, h4⟩ := h
    simp [h1, reps_length h4]

theorem reps_oc {w : World} {X : Nat → Prop} : ∀ {xs : List DV} {vs : List Value}, reps w X xs vs → ∀ u ∈ vs, oc u = true
  | [], vs, h => by unfold reps at h; simp [h]
  | c :: cs, vs, h => by
    unfold reps at h
    obtain ⟨u, us, h1, h2, h3, h4⟩ := h
    subst h1
    intro x hx
    rcases List.mem_cons.1 hx with rfl | hx
    · exact h2
    · exact reps_oc h4 x hx

theorem reps_get {w : World} {X : Nat → Prop} : ∀ {xs : List DV} {vs : List Value}, reps w X xs vs → ∀ (j : Nat) (x : DV), xs[j]? = some x → ∃ u, vs[j]? = some u ∧ oc u = true ∧ rep w X x u
  | [], vs, h => by intro j x hx; simp at hx
  | c :: cs, vs, h => by
    unfold reps at h
    obtain ⟨u, us, h1, h2, h3, h4⟩ := h
    subst h1
    intro j x hx
    cases j with
    | zero => simp at hx; subst hx; exact ⟨u, rfl, h2, h3⟩
    | succ j => simpa using reps_get h4 j x (by simpa using hx)

theorem reps_append {w : World} {X : Nat → Prop} : ∀ {xs ys : List DV} {us vs : List Value}, reps w X xs us → reps w X ys vs → reps w X (xs ++ ys) (us ++ vs)
  | [], ys, us, vs, h, k => by unfold reps at h; subst h; simpa using k
  | c :: cs, ys, us, vs, h, k => by
    unfold reps at h
    obtain ⟨u, us', h1, h2, h3, h4⟩ := h
    subst h1
    show reps w X (c :: (cs ++ ys)) (u :: (us' ++ vs))
    unfold reps
    exact ⟨u, us' ++ vs, rfl, h2, h3, reps_append h4 k⟩

theorem reps_split {w : World} {X : Nat → Prop} : ∀ {xs ys : List DV} {vs : List Value}, reps w X (xs ++ ys) vs → reps w X xs (vs.take xs.length) ∧ reps w X ys (vs.drop xs.length)
  | [], ys, vs, h => by simpa [reps] using h
  | c :: cs, ys, vs, h => by
    have h' : reps w X (c :: (cs ++ ys)) vs := h
    unfold reps at h'
    obtain ⟨u, us', h1, h2, h3, h4⟩ := h'
    subst h1
    have := reps_split h4
    simp only [List.length_cons, List.take_succ_cons, List.drop_succ_cons]
    refine ⟨?_, this.2⟩
    unfold reps
    exact ⟨u, _, rfl, h2, h3, this.1⟩

theorem repss_length {w : World} {X : Nat → Prop} {sz : Nat} : ∀ {el : List (List DV)} {vs : List Value}, repss w X sz el vs → vs.length = el.length * sz
  | [], vs, h => by unfold repss at h; simp [h]
  | e :: el, vs, h => by
    unfold repss at h
    obtain ⟨us, ws, h1, h2, h3, h4⟩ := h
    subst h1
    simp [h2, repss_length h4, Nat.add_mul]; omega

theorem repss_oc {w : World} {X : Nat → Prop} {sz : Nat} : ∀ {el : List (List DV)} {vs : List Value}, repss w X sz el vs → ∀ u ∈ vs, oc u = true
  | [], vs, h => by unfold repss at h; simp [h]
  | e :: el, vs, h => by
    unfold repss at h
    obtain ⟨us, ws, h1, h2, h3, h4⟩ := h
    subst h1
    intro x hx
    rcases List.mem_append.1 hx with hx | hx
    · exact reps_oc h3 x hx
    · exact repss_oc h4 x hx

theorem repss_append {w : World} {X : Nat → Prop} {sz : Nat} : ∀ {xs ys : List (List DV)} {us vs : List Value}, repss w X sz xs us → repss w X sz ys vs → repss w X sz (xs ++ ys) (us ++ vs)
  | [], ys, us, vs, h, k => by unfold repss at h; subst h; simpa using k
  | c :: cs, ys, us, vs, h, k => by
    unfold repss at h
    obtain ⟨u, us', h1, h2, h3, h4⟩ := h
    subst h1
    show repss w X sz (c :: (cs ++ ys)) (u ++ us' ++ vs)
    unfold repss
    exact ⟨u, us' ++ vs, by simp, h2, h3, repss_append h4 k⟩

theorem repss_take {w : World} {X : Nat → Prop} {sz : Nat} : ∀ {el : List (List DV)} {vs : List Value} (k : Nat), repss w X sz el vs → repss w X sz (el.take k) (vs.take (k * sz))
  | el, vs, 0, h => by simp [repss]
  | [], vs, k + 1, h => by unfold repss at h; subst h; simp [repss]
  | e :: el, vs, k + 1, h => by
    unfold repss at h
    obtain ⟨us, ws, h1, h2, h3, h4⟩ := h
    subst h1
    simp only [List.take_succ_cons]
    unfold repss
    refine ⟨us, ws.take (k * sz), ?_, h2, h3, repss_take k h4⟩
    rw [List.take_append, List.take_of_length_le (by rw [h2, Nat.add_mul]; omega)]
    congr 2
    rw [h2, Nat.add_mul]; omega

theorem repss_drop {w : World} {X : Nat → Prop} {sz : Nat} : ∀ {el : List (List DV)} {vs : List Value} (k : Nat), repss w X sz el vs → repss w X sz (el.drop k) (vs.drop (k * sz))
  | el, vs, 0, h => by simpa using h
  | [], vs, k + 1, h => by unfold repss at h; subst h; simp [repss]
  | e :: el, vs, k + 1, h => by
    unfold repss at h
    obtain ⟨us, ws, h1, h2, h3, h4⟩ := h
    subst h1
    simp only [List.drop_succ_cons]
    have := repss_drop k h4
    rw [List.drop_append, List.drop_of_length_le (l := us) (by rw [h2, Nat.add_mul]; omega), List.nil_append, show (k + 1) * sz - us.length = k * sz from by rw [h2, Nat.add_mul]; omega]
    exact this

/-- the cells of element k -/
theorem repss_get {w : World} {X : Nat → Prop} {sz : Nat} : ∀ {el : List (List DV)} {vs : List Value}, repss w X sz el vs → ∀ (k : Nat) (e : List DV), el[k]? = some e →
    e.length = sz ∧ reps w X e ((vs.drop (k * sz)).take sz) ∧ k * sz + sz ≤ vs.length
  | [], vs, h => by intro k e he; simp at he
  | c :: el, vs, h => by
    unfold repss at h
    obtain ⟨us, ws, h1, h2, h3, h4⟩ := h
    subst h1
    intro k e he
    cases k with
    | zero =>
      simp at he; subst he
      have := reps_length h3
      refine ⟨by omega, ?_, by simp; omega⟩
      simp only [Nat.zero_mul, List.drop_zero]
      rw [List.take_append, List.take_of_length_le (by omega), show sz - us.length = 0 from by omega]
      simpa using h3
    | succ k =>
      obtain ⟨a1, a2, a3⟩ := repss_get h4 k e (by simpa using he)
      refine ⟨a1, ?_, by simp [Nat.add_mul]; omega⟩
      rw [List.drop_append, List.drop_of_length_le (l := us) (by rw [h2, Nat.add_mul]; omega), List.nil_append, show (k + 1) * sz - us.length = k * sz from by rw [h2, Nat.add_mul]; omega]
      exact a2

theorem repss_elen {w : World} {X : Nat → Prop} {sz : Nat} {el : List (List DV)} {vs : List Value} (h : repss w X sz el vs) : ∀ e ∈ el, e.length = sz := by
  intro e he
  obtain ⟨k, hk⟩ := List.getElem?_of_mem he
  exact (repss_get h k e hk).1

theorem repss_flat {w : World} {X : Nat → Prop} {sz : Nat} : ∀ {el : List (List DV)} {vs : List Value}, repss w X sz el vs → reps w X el.flatten vs
  | [], vs, h => by unfold repss at h; subst h; simp [reps]
  | e :: el, vs, h => by
    unfold repss at h
    obtain ⟨us, ws, h1, h2, h3, h4⟩ := h
    subst h1
    simpa using reps_append h3 (repss_flat h4)

/-- set element k -/
theorem repss_set {w : World} {X : Nat → Prop} {sz : Nat} : ∀ {el : List (List DV)} {vs : List Value}, repss w X sz el vs → ∀ (k : Nat) (e : List DV) (us : List Value), k < el.length → us.length = sz → reps w X e us →
    repss w X sz (el.set k e) (vs.take (k * sz) ++ us ++ vs.drop (k * sz + sz))
  | [], vs, h => by intro k e us hk; simp at hk
  | c :: el, vs, h => by
    unfold repss at h
    obtain ⟨xs, ws, h1, h2, h3, h4⟩ := h
    subst h1
    intro k e us hk hu hr
    cases k with
    | zero =>
      simp only [List.set_cons_zero, Nat.zero_mul, List.take_zero, List.nil_append, Nat.zero_add]
      unfold repss
      refine ⟨us, ws, ?_, hu, hr, h4⟩
      rw [List.drop_append, List.drop_of_length_le (by omega), List.nil_append, show sz - xs.length = 0 from by omega]; simp
    | succ k =>
      simp only [List.set_cons_succ]
      unfold repss
      refine ⟨xs, _, ?_, h2, h3, repss_set h4 k e us (by simpa using hk) hu hr⟩
      have e1 : (k + 1) * sz - xs.length = k * sz := by rw [h2, Nat.add_mul]; omega
      have e2 : (k + 1) * sz + sz - xs.length = k * sz + sz := by rw [h2, Nat.add_mul]; omega
      rw [List.take_append, List.take_of_length_le (by rw [h2, Nat.add_mul]; omega), e1, List.drop_append, List.drop_of_length_le (l := xs) (by rw [h2, Nat.add_mul]; omega), e2]
      simp [List.append_assoc]

end Go.AM
