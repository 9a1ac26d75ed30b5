/- Proved here: a part of an abstract machine for the walks of this program, and that it tells the truth about the model. No condition. -/
import Derived.Test.YtjaklhbifgbiaaaAmS
set_option linter.unusedSimpArgs false
set_option linter.unusedVariables false
namespace Go.AM
open Go

/-! ## a call by a function's own contract -/
/-- from the callee's numbers to the caller's -/
def sig (ι : List Nat) (nx : Nat) (j : Nat) : Nat := if j < ι.length then ι.getD j 0 else nx + (j - ι.length)

def plc (σ : Nat → Nat) : Nat → List Row → List (Nat × Row)
  | _, [] => []
  | j, r :: rs => (σ j, renRow σ r) :: plc σ (j + 1) rs

def nvD : DV → Prop
  | .lit _ => True
  | .sl _ _ => False
  | .agg _ => False

def nvP : PV → Prop
  | .d x => nvD x
  | .own _ => True
  | .win _ _ _ => True
  | .ptr _ _ => True
  | .eptr _ _ _ => True
  | .iptr _ => False
  | .clo _ _ _ => False
  | .ifc _ _ => False
  | .agg _ => False
  | .tup ps => nvPs ps
  | .any => True
where nvPs : List PV → Prop
  | [] => True
  | p :: ps => nvP p ∧ nvPs ps

def nvRow : Row → Prop
  | .dead => True
  | .box cells => ∀ p ∈ cells, nvP p
  | .own _ el => ∀ e ∈ el, ∀ x ∈ e, nvD x
  | .iter _ _ => True

/-- what a caller may hand over where the callee wants p: T: rows that are only read meanwhile -/
def argOk (rows : Rows) (T : List Nat) (σ : Nat → Nat) (p' p : PV) : Prop :=
  p' = ren σ p ∨ match p with
    | .d (.sl sz el) => (match p' with
      | .own i => rows i = .own sz el ∧ i ∈ T
      | .win i off m => (match rows i with | .own sz' el' => sz' = sz ∧ el = (el'.drop off).take m ∧ i ∈ T | _ => False)
      | .d (.lit (.slice none 0 0)) => el = []
      | _ => False)
    | _ => False

def argsOk (rows : Rows) (T : List Nat) (σ : Nat → Nat) : List PV → List PV → Prop
  | [], [] => True
  | p' :: ps', p :: ps => argOk rows T σ p' p ∧ argsOk rows T σ ps' ps
  | _, _ => False

def lentOk (rows : Rows) (T : List Nat) (σ : Nat → Nat) : Nat → List Row → Prop
  | _, [] => True
  | j, r :: rs => rows (σ j) = renRow σ r ∧ r ≠ .dead ∧ σ j ∉ T ∧ lentOk rows T σ (j + 1) rs

theorem lentOk_get {rows : Rows} {T : List Nat} {σ : Nat → Nat} : ∀ {k : Nat} {rs : List Row}, lentOk rows T σ k rs → ∀ j r, rs[j]? = some r → rows (σ (k + j)) = renRow σ r ∧ r ≠ .dead ∧ σ (k + j) ∉ T
  | k, [], _, j, r, hj => by simp at hj
  | k, r0 :: rs, h, j, r, hj => by
    unfold lentOk at h
    cases j with
    | zero => simp at hj; subst hj; exact ⟨h.1, h.2.1, h.2.2.1⟩
    | succ j =>
      have := lentOk_get h.2.2.2 j r (by simpa using hj)
      rwa [show k + 1 + j = k + (j + 1) from by omega] at this

theorem updRows_notin : ∀ (l : List (Nat × Row)) (rows : Rows) (i : Nat), (∀ x ∈ l, x.1 ≠ i) → updRows rows l i = rows i
  | [], rows, i, _ => rfl
  | (j, r) :: l, rows, i, h => by
    unfold updRows
    rw [updRows_notin l _ i fun x hx => h x (by simp [hx]), upd_ne _ _ (Ne.symm (h (j, r) (by simp)))]

theorem updRows_plc {σ : Nat → Nat} : ∀ (rs : List Row) (rows : Rows) (k : Nat) (j : Nat), (∀ a b, k ≤ a → a < k + rs.length → k ≤ b → b < k + rs.length → σ a = σ b → a = b) → j < rs.length →
    updRows rows (plc σ k rs) (σ (k + j)) = renRow σ (rs.getD j .dead)
  | [], rows, k, j, _, hj => by simp at hj
  | r :: rs, rows, k, j, hinj, hj => by
    simp only [plc, updRows]
    cases j with
    | zero =>
      rw [updRows_notin _ _ _ ?_]
      · simp [upd_same]
      · intro x hx
        have aux : ∀ (rs : List Row) (k' : Nat), x ∈ plc σ k' rs → ∃ a, k' ≤ a ∧ a < k' + rs.length ∧ x.1 = σ a := by
          intro rs
          induction rs with
          | nil => intro k' hx; simp [plc] at hx
          | cons r rs ih =>
            intro k' hx
            simp only [plc, List.mem_cons] at hx
            rcases hx with hx | hx
            · exact ⟨k', Nat.le_refl _, by simp, by rw [hx]⟩
            · obtain ⟨a, h1, h2, h3⟩ := ih (k' + 1) hx
              exact ⟨a, by omega, by simp; omega, h3⟩
        obtain ⟨a, h1, h2, h3⟩ := aux rs (k + 1) hx
        rw [h3]
        intro e
        have := hinj a k (by omega) (by simp; omega) (by omega) (by simp) (by simpa using e)
        omega
    | succ j =>
      have := updRows_plc rs (upd rows (σ k) (renRow σ r)) (k + 1) j (fun a b h1 h2 h3 h4 => hinj a b (by omega) (by simp; omega) (by omega) (by simp; omega)) (by simpa using hj)
      rw [show k + (j + 1) = k + 1 + j from by omega, this]
      simp

theorem plc_mem {σ : Nat → Nat} {x : Nat × Row} : ∀ (rs : List Row) (k' : Nat), x ∈ plc σ k' rs → ∃ a, k' ≤ a ∧ a < k' + rs.length ∧ x.1 = σ a
  | [], k', hx => by simp [plc] at hx
  | r :: rs, k', hx => by
    simp only [plc, List.mem_cons] at hx
    rcases hx with hx | hx
    · exact ⟨k', Nat.le_refl _, by simp, by rw [hx]⟩
    · obtain ⟨a, h1, h2, h3⟩ := plc_mem rs (k' + 1) hx
      exact ⟨a, by omega, by simp; omega, h3⟩

/-! ### renaming forth -/
theorem rep_nv {w w' : World} {X X' : Nat → Prop} {x : DV} {v : Value} (h : nvD x) (hr : rep w X x v) : rep w' X' x v := by
  cases x with
  | lit u => unfold rep at *; exact hr
  | sl sz el => exact h.elim
  | agg cs => exact h.elim

theorem reps_nv {w w' : World} {X X' : Nat → Prop} : ∀ {xs : List DV} {vs : List Value}, (∀ x ∈ xs, nvD x) → reps w X xs vs → reps w' X' xs vs
  | [], vs, _, h => by unfold reps at *; exact h
  | c :: cs, vs, hn, h => by
    unfold reps at *
    obtain ⟨u, us, h1, h2, h3, h4⟩ := h
    exact ⟨u, us, h1, h2, rep_nv (hn c (by simp)) h3, reps_nv (fun x hx => hn x (by simp [hx])) h4⟩

theorem repss_nv {w w' : World} {X X' : Nat → Prop} {sz : Nat} : ∀ {el : List (List DV)} {vs : List Value}, (∀ e ∈ el, ∀ x ∈ e, nvD x) → repss w X sz el vs → repss w' X' sz el vs
  | [], vs, _, h => by unfold repss at *; exact h
  | e :: el, vs, hn, h => by
    unfold repss at *
    obtain ⟨us, ws, h1, h2, h3, h4⟩ := h
    exact ⟨us, ws, h1, h2, reps_nv (hn e (by simp)) h3, repss_nv (fun e' he => hn e' (by simp [he])) h4⟩

section
variable {rows rows2 : Rows} {β β2 : Nat → Loc} {w : World} {X X2 : Nat → Prop} {σ : Nat → Nat} {m : Nat}

mutual
/-- with the same world outside: T empty -/
theorem repP_ren (hx : ∀ b, X2 b → X b) (hr : ∀ j, j < m → rows2 (σ j) = renRow σ (rows j) ∧ (rows j ≠ .dead → β2 (σ j) = β j)) : ∀ (p : PV) (v : Value), Sc (· < m) p → repP rows β w X p v → repP rows2 β2 w X2 (ren σ p) v
  | .d x, v, _, h => by unfold ren; unfold repP at *; exact rep_mono (fun _ _ h1 => ⟨rfl, fun h2 => h1 (hx _ h2)⟩) x v h
  | .own i, v, hs, h => by
    unfold ren; unfold repP at *
    obtain ⟨h1, h2⟩ := hr i hs
    intro sz el hi
    rw [h1] at hi
    cases hri : rows i with
    | own sz' el' => rw [hri] at hi; simp only [renRow, Row.own.injEq] at hi; obtain ⟨rfl, rfl⟩ := hi; rw [h2 (by rw [hri]; simp)]; exact h _ _ hri
    | _ => rw [hri] at hi; simp [renRow] at hi
  | .win i off k, v, hs, h => by
    unfold ren; unfold repP at *
    obtain ⟨h1, h2⟩ := hr i hs
    intro sz el hi
    rw [h1] at hi
    cases hri : rows i with
    | own sz' el' => rw [hri] at hi; simp only [renRow, Row.own.injEq] at hi; obtain ⟨rfl, rfl⟩ := hi; rw [h2 (by rw [hri]; simp)]; exact h _ _ hri
    | _ => rw [hri] at hi; simp [renRow] at hi
  | .ptr i off, v, hs, h => by
    unfold ren; unfold repP at *
    obtain ⟨h1, h2⟩ := hr i hs
    intro hi
    have hd : rows i ≠ .dead := fun e => hi (by rw [h1, e]; rfl)
    rw [h2 hd]; exact h hd
  | .eptr i k c, v, hs, h => by
    unfold ren; unfold repP at *
    obtain ⟨h1, h2⟩ := hr i hs
    intro sz el hi
    rw [h1] at hi
    cases hri : rows i with
    | own sz' el' => rw [hri] at hi; simp only [renRow, Row.own.injEq] at hi; obtain ⟨rfl, rfl⟩ := hi; rw [h2 (by rw [hri]; simp)]; exact h _ _ hri
    | _ => rw [hri] at hi; simp [renRow] at hi
  | .iptr cs, v, _, h => by
    unfold ren; unfold repP at *
    obtain ⟨b, off, vs, h1, h2, h3, h4, h5⟩ := h
    exact ⟨b, off, vs, h1, reps_mono (fun _ _ h1 => ⟨rfl, fun h2 => h1 (hx _ h2)⟩) cs vs h2, h3, fun h => h4 (hx _ h), h5⟩
  | .clo fn f c, v, hs, h => by
    unfold ren; unfold repP at *
    obtain ⟨fs, cs, h1, h2, h3⟩ := h
    exact ⟨fs, cs, h1, repPs_ren hx hr f fs hs.1 h2, repPs_ren hx hr c cs hs.2 h3⟩
  | .ifc t x, v, hs, h => by
    unfold ren; unfold repP at *
    obtain ⟨u, h1, h2⟩ := h
    exact ⟨u, h1, repP_ren hx hr x u hs h2⟩
  | .agg ps, v, hs, h => by
    unfold ren; unfold repP at *
    obtain ⟨vs, h1, h2, h3⟩ := h
    exact ⟨vs, h1, repPs_ren hx hr ps vs hs h2, h3⟩
  | .tup ps, v, hs, h => by
    unfold ren; unfold repP at *
    obtain ⟨vs, h1, h2⟩ := h
    exact ⟨vs, h1, repPs_ren hx hr ps vs hs h2⟩
  | .any, v, _, h => by simp [ren, repP]
theorem repPs_ren (hx : ∀ b, X2 b → X b) (hr : ∀ j, j < m → rows2 (σ j) = renRow σ (rows j) ∧ (rows j ≠ .dead → β2 (σ j) = β j)) : ∀ (ps : List PV) (vs : List Value), Scs (· < m) ps → repPs rows β w X ps vs → repPs rows2 β2 w X2 (rens σ ps) vs
  | [], vs, _, h => by unfold rens; simpa [repPs] using h
  | c :: cs, vs, hs, h => by
    unfold rens; unfold repPs at *
    obtain ⟨u, us, h1, h2, h3⟩ := h
    exact ⟨u, us, h1, repP_ren hx hr c u hs.1 h2, repPs_ren hx hr cs us hs.2 h3⟩
end
mutual
/-- without views: whatever X -/
theorem repP_ren' (hr : ∀ j, j < m → rows2 (σ j) = renRow σ (rows j) ∧ (rows j ≠ .dead → β2 (σ j) = β j)) : ∀ (p : PV) (v : Value), nvP p → Sc (· < m) p → repP rows β w X p v → repP rows2 β2 w X2 (ren σ p) v
  | .d x, v, hn, _, h => by unfold ren; unfold repP at *; exact rep_nv hn h
  | .own i, v, _, hs, h => by
    have := repP_ren (X2 := X) (fun _ h => h) hr (.own i) v hs h
    unfold ren at *; unfold repP at *; exact this
  | .win i off k, v, _, hs, h => by
    have := repP_ren (X2 := X) (fun _ h => h) hr (.win i off k) v hs h
    unfold ren at *; unfold repP at *; exact this
  | .ptr i off, v, _, hs, h => by
    have := repP_ren (X2 := X) (fun _ h => h) hr (.ptr i off) v hs h
    unfold ren at *; unfold repP at *; exact this
  | .eptr i k c, v, _, hs, h => by
    have := repP_ren (X2 := X) (fun _ h => h) hr (.eptr i k c) v hs h
    unfold ren at *; unfold repP at *; exact this
  | .iptr cs, v, hn, _, h => hn.elim
  | .clo fn f c, v, hn, hs, h => hn.elim
  | .ifc t x, v, hn, hs, h => hn.elim
  | .agg ps, v, hn, hs, h => hn.elim
  | .tup ps, v, hn, hs, h => by
    unfold ren; unfold repP at *
    obtain ⟨vs, h1, h2⟩ := h
    exact ⟨vs, h1, repPs_ren' hr ps vs hn hs h2⟩
  | .any, v, _, _, h => by simp [ren, repP]
theorem repPs_ren' (hr : ∀ j, j < m → rows2 (σ j) = renRow σ (rows j) ∧ (rows j ≠ .dead → β2 (σ j) = β j)) : ∀ (ps : List PV) (vs : List Value), nvP.nvPs ps → Scs (· < m) ps → repPs rows β w X ps vs → repPs rows2 β2 w X2 (rens σ ps) vs
  | [], vs, _, _, h => by unfold rens; simpa [repPs] using h
  | c :: cs, vs, hn, hs, h => by
    unfold rens; unfold repPs at *
    obtain ⟨u, us, h1, h2, h3⟩ := h
    exact ⟨u, us, h1, repP_ren' hr c u hn.1 hs.1 h2, repPs_ren' hr cs us hn.2 hs.2 h3⟩
end
end

theorem nvPs_of_mem : ∀ {ps : List PV}, (∀ p ∈ ps, nvP p) → nvP.nvPs ps
  | [], _ => trivial
  | p :: ps, h => ⟨h p (by simp), nvPs_of_mem fun q hq => h q (by simp [hq])⟩

mutual
theorem Sc_ren {S : Nat → Prop} {σ : Nat → Nat} {m : Nat} (hσ : ∀ j, j < m → S (σ j)) : ∀ p, Sc (· < m) p → Sc S (ren σ p)
  | .d _, _ => trivial
  | .own i, h => hσ i h
  | .win i _ _, h => hσ i h
  | .ptr i _, h => hσ i h
  | .eptr i _ _, h => hσ i h
  | .iptr _, _ => trivial
  | .clo _ f c, h => ⟨Scs_ren hσ f h.1, Scs_ren hσ c h.2⟩
  | .ifc _ x, h => Sc_ren hσ x h
  | .agg ps, h => Scs_ren hσ ps h
  | .tup ps, h => Scs_ren hσ ps h
  | .any, _ => trivial
theorem Scs_ren {S : Nat → Prop} {σ : Nat → Nat} {m : Nat} (hσ : ∀ j, j < m → S (σ j)) : ∀ ps, Scs (· < m) ps → Scs S (rens σ ps)
  | [], _ => trivial
  | p :: ps, h => ⟨Sc_ren hσ p h.1, Scs_ren hσ ps h.2⟩
end
end Go.AM
