/- Proved here: a part of an abstract machine for the walks of this program, and that it tells the truth about the model. No condition. -/
import Derived.Test.YtjaklhbifgbiaaaAmP
set_option linter.unusedSimpArgs false
set_option linter.unusedVariables false
namespace Go.AM
open Go

/-! ## to rename rows -/
mutual
def ren (σ : Nat → Nat) : PV → PV
  | .d x => .d x
  | .own i => .own (σ i)
  | .win i off m => .win (σ i) off m
  | .ptr i off => .ptr (σ i) off
  | .eptr i k c => .eptr (σ i) k c
  | .iptr cs => .iptr cs
  | .clo fn f c => .clo fn (rens σ f) (rens σ c)
  | .ifc t x => .ifc t (ren σ x)
  | .agg ps => .agg (rens σ ps)
  | .tup ps => .tup (rens σ ps)
  | .any => .any
def rens (σ : Nat → Nat) : List PV → List PV
  | [] => []
  | p :: ps => ren σ p :: rens σ ps
end

def renRow (σ : Nat → Nat) : Row → Row
  | .box cells => .box (rens σ cells)
  | r => r

/-- the row that a renamed one was -/
def RowIs (σ : Nat → Nat) (r r2 : Row) : Prop := r2 = .dead ∨ r = renRow σ r2

mutual
theorem repP_unren {rows rows2 : Rows} {β : Nat → Loc} {w : World} {X : Nat → Prop} {σ : Nat → Nat} (hr : ∀ i, RowIs σ (rows (σ i)) (rows2 i)) : ∀ (p : PV) (v : Value),
    repP rows β w X (ren σ p) v → repP rows2 (fun i => β (σ i)) w X p v
  | .d x, v, h => by unfold ren at h; unfold repP at *; exact h
  | .own i, v, h => by
    unfold ren at h; unfold repP at *
    intro sz el hi
    rcases hr i with h1 | h1
    · rw [hi] at h1; cases h1
    · rw [hi] at h1; exact h sz el h1
  | .win i off m, v, h => by
    unfold ren at h; unfold repP at *
    intro sz el hi
    rcases hr i with h1 | h1
    · rw [hi] at h1; cases h1
    · rw [hi] at h1; exact h sz el h1
  | .ptr i off, v, h => by
    unfold ren at h; unfold repP at *
    intro hi
    rcases hr i with h1 | h1
    · exact absurd h1 hi
    · refine h fun h0 => hi ?_
      rw [h0] at h1
      cases hri : rows2 i <;> rw [hri] at h1 <;> simp [renRow] at h1 ⊢
  | .eptr i k c, v, h => by
    unfold ren at h; unfold repP at *
    intro sz el hi
    rcases hr i with h1 | h1
    · rw [hi] at h1; cases h1
    · rw [hi] at h1; exact h sz el h1
  | .iptr cs, v, h => by unfold ren at h; unfold repP at *; exact h
  | .clo fn f c, v, h => by
    unfold ren at h; unfold repP at *
    obtain ⟨fs, cs, h1, h2, h3⟩ := h
    exact ⟨fs, cs, h1, repPs_unren hr f fs h2, repPs_unren hr c cs h3⟩
  | .ifc t x, v, h => by
    unfold ren at h; unfold repP at *
    obtain ⟨u, h1, h2⟩ := h
    exact ⟨u, h1, repP_unren hr x u h2⟩
  | .agg ps, v, h => by
    unfold ren at h; unfold repP at *
    obtain ⟨vs, h1, h2, h3⟩ := h
    exact ⟨vs, h1, repPs_unren hr ps vs h2, h3⟩
  | .tup ps, v, h => by
    unfold ren at h; unfold repP at *
    obtain ⟨vs, h1, h2⟩ := h
    exact ⟨vs, h1, repPs_unren hr ps vs h2⟩
  | .any, v, h => by simp [repP]
theorem repPs_unren {rows rows2 : Rows} {β : Nat → Loc} {w : World} {X : Nat → Prop} {σ : Nat → Nat} (hr : ∀ i, RowIs σ (rows (σ i)) (rows2 i)) : ∀ (ps : List PV) (vs : List Value),
    repPs rows β w X (rens σ ps) vs → repPs rows2 (fun i => β (σ i)) w X ps vs
  | [], vs, h => by unfold rens at h; simpa [repPs] using h
  | c :: cs, vs, h => by
    unfold rens at h; unfold repPs at *
    obtain ⟨u, us, h1, h2, h3⟩ := h
    exact ⟨u, us, h1, repP_unren hr c u h2, repPs_unren hr cs us h3⟩
end

/-- rows chosen and renamed -/
theorem Mem.rename {B : Base} {β : Nat → Loc} {X : Nat → Prop} {w : World} {rows rows2 : Rows} {nx nx2 : Nat} {σ : Nat → Nat} (hm : Mem B β X w rows nx) (hr : ∀ i, RowIs σ (rows (σ i)) (rows2 i))
    (hinj : ∀ i j, rows2 i ≠ .dead → rows2 j ≠ .dead → σ i = σ j → i = j) (hd : ∀ i, nx2 ≤ i → rows2 i = .dead) (hs : ∀ i cells, rows2 i = .box cells → Scs (· < nx2) cells)
    (hk : B.kl ≤ nx2) (hkl : ∀ i, i < B.kl → rows2 i ≠ .dead → σ i = i) : Mem B (fun i => β (σ i)) X w rows2 nx2 := by
  have hbl : ∀ i b, rblk (β (σ i)) (rows2 i) = some b → rows2 i ≠ .dead ∧ rblk (β (σ i)) (rows (σ i)) = some b := fun i b hb => by
    rcases hr i with h1 | h1
    · rw [h1] at hb; simp [rblk] at hb
    · refine ⟨fun h0 => by rw [h0] at hb; simp [rblk] at hb, ?_⟩
      rw [h1]
      cases hri : rows2 i <;> rw [hri] at hb <;> exact hb
  refine ⟨fun i => ?_, fun i j b hi hj => hinj i j (hbl i b hi).1 (hbl j b hj).1 (hm.inj _ _ b (hbl i b hi).2 (hbl j b hj).2), hd, hs, hm.os, hm.tape, hm.output, hm.size, hm.keep, hm.xs,
    fun i b hi hlt => hm.lent _ b (hbl i b hi).2 hlt, hm.fx, hk, fun i hi => ?_⟩
  · have hrow := hm.ok (σ i)
    rcases hr i with h1 | h1
    · rw [h1]; trivial
    rw [h1] at hrow
    cases hri : rows2 i with
    | dead => trivial
    | box cells =>
      rw [hri] at hrow
      obtain ⟨b, cs, e, fr, g1, g2, g3, g4, g5, g6⟩ := hrow
      exact ⟨b, cs, e, fr, g1, g2, g3, g4, repPs_unren hr cells _ g5, g6⟩
    | own sz el => rw [hri] at hrow; exact hrow
    | iter s pos => rw [hri] at hrow; exact hrow
  · by_cases hd2 : rows2 i = .dead
    · rw [hd2]; exact ⟨by cases B.rows0 i <;> simp [RowC], fun h => absurd rfl h⟩
    · have hσ := hkl i hi hd2
      obtain ⟨h1, h2⟩ := hm.lk i hi
      rcases hr i with h3 | h3
      · exact absurd h3 hd2
      · rw [hσ] at h3
        rw [h3] at h1 h2
        rw [hσ]
        refine ⟨h1.trans ?_, fun _ => h2 ?_⟩
        · cases hri : rows2 i <;> simp [renRow, RowC]
        · cases hri : rows2 i <;> rw [hri] at hd2 <;> simp [renRow] at hd2 ⊢

def lrows (l : List Row) : Rows := fun i => l.getD i .dead
def lk : List (Nat × PV) → Nat → PV
  | [], _ => .any
  | (d, p) :: l, t => if t = d then p else lk l t

/-- a state that is told in full -/
def mkSt (N kl : Nat) (regs : List (Nat × PV)) (rows : List Row) : St := { N, kl, regs := lk regs, rows := lrows rows, nx := rows.length }

mutual
def scB (n : Nat) : PV → Bool
  | .d _ => true
  | .own i => i < n
  | .win i _ _ => i < n
  | .ptr i _ => i < n
  | .eptr i _ _ => i < n
  | .iptr _ => true
  | .clo _ f c => scBs n f && scBs n c
  | .ifc _ x => scB n x
  | .agg ps => scBs n ps
  | .tup ps => scBs n ps
  | .any => true
def scBs (n : Nat) : List PV → Bool
  | [] => true
  | p :: ps => scB n p && scBs n ps
end

mutual
theorem scB_ok {n : Nat} : ∀ (p : PV), scB n p = true → Sc (· < n) p
  | .d _, _ => trivial
  | .own i, h => by simp only [scB, decide_eq_true_eq] at h; exact h
  | .win i _ _, h => by simp only [scB, decide_eq_true_eq] at h; exact h
  | .ptr i _, h => by simp only [scB, decide_eq_true_eq] at h; exact h
  | .eptr i _ _, h => by simp only [scB, decide_eq_true_eq] at h; exact h
  | .iptr _, _ => trivial
  | .clo _ f c, h => by simp only [scB, Bool.and_eq_true] at h; exact ⟨scBs_ok f h.1, scBs_ok c h.2⟩
  | .ifc _ x, h => scB_ok x (by simpa [scB] using h)
  | .agg ps, h => scBs_ok ps (by simpa [scB] using h)
  | .tup ps, h => scBs_ok ps (by simpa [scB] using h)
  | .any, _ => trivial
theorem scBs_ok {n : Nat} : ∀ (ps : List PV), scBs n ps = true → Scs (· < n) ps
  | [], _ => trivial
  | p :: ps, h => by simp only [scBs, Bool.and_eq_true] at h; exact ⟨scB_ok p h.1, scBs_ok ps h.2⟩
end

def scRow (n : Nat) : Row → Bool | .box cells => scBs n cells | _ => true

def aliveR : Row → Bool | .dead => false | _ => true

/-- the rows of the aim, one by one -/
def rowsEnt (rows : Rows) (F : List Nat) (ρ : List Nat) : Nat → List Row → Prop
  | _, [] => True
  | k, r :: rs => (r = .dead ∨ (ρ.getD k 0 ∉ F ∧ frzRow rows F (rows (ρ.getD k 0)) = renRow (fun i => ρ.getD i 0) r)) ∧ rowsEnt rows F ρ (k + 1) rs

def regsEnt (s : St) (F : List Nat) (ρ : List Nat) : List (Nat × PV) → Prop
  | [] => True
  | (d, p) :: l => (p = .any ∨ frz s.rows F (s.regs d) = ren (fun i => ρ.getD i 0) p) ∧ regsEnt s F ρ l

/-- the state s tells all that the list tells: rows F frozen, row number k of the aim is row ρ[k] -/
structure Ent (s : St) (F : List Nat) (ρ : List Nat) (N kl : Nat) (regs : List (Nat × PV)) (rows : List Row) : Prop where
  n : s.N = N
  k : s.kl = kl
  kle : kl ≤ rows.length
  klr : ∀ i, i < kl → rows.getD i .dead = .dead ∨ ρ.getD i 0 = i
  rg : regsEnt s F ρ regs
  rw : rowsEnt s.rows F ρ 0 rows
  len : ρ.length = rows.length
  nodup : ρ.Nodup
  sc : (regs.all fun x => scB rows.length x.2) = true
  scr : (rows.all (scRow rows.length)) = true

theorem rowsEnt_get {rows : Rows} {F ρ : List Nat} : ∀ {k : Nat} {rs : List Row}, rowsEnt rows F ρ k rs → ∀ j r, rs[j]? = some r →
    r = .dead ∨ (ρ.getD (k + j) 0 ∉ F ∧ frzRow rows F (rows (ρ.getD (k + j) 0)) = renRow (fun i => ρ.getD i 0) r)
  | k, [], _, j, r, hj => by simp at hj
  | k, r0 :: rs, h, j, r, hj => by
    unfold rowsEnt at h
    cases j with
    | zero => simp at hj; subst hj; exact h.1
    | succ j =>
      have := rowsEnt_get h.2 j r (by simpa using hj)
      rwa [show k + 1 + j = k + (j + 1) from by omega] at this

theorem Ent.core {s : St} {F ρ : List Nat} {N kl : Nat} {regs : List (Nat × PV)} {rows : List Row} (h : Ent s F ρ N kl regs rows) {B : Base} {β : Nat → Loc} {X : Nat → Prop} {a : Act} {w : World} (hr : SRel B β X w a s) :
    ∃ β' X', Mem B β' X' w (lrows rows) rows.length ∧ ∀ p q v, repP s.rows β w X p v → frz s.rows F p = ren (fun i => ρ.getD i 0) q → repP (lrows rows) β' w X' q v := by
  have hm := hr.mem.freeze F
  have hrow : ∀ i, RowIs (fun i => ρ.getD i 0) (frzRows s.rows F (ρ.getD i 0)) (lrows rows i) := fun i => by
    unfold lrows
    cases hi : rows[i]? with
    | none => left; simp [List.getD, hi]
    | some r =>
      have hg : rows.getD i .dead = r := by simp [List.getD, hi]
      rw [hg]
      rcases rowsEnt_get h.rw i r hi with h1 | ⟨h1, h2⟩
      · exact .inl h1
      · right
        rw [Nat.zero_add] at h1 h2
        simp only [frzRows, h1, if_false]; exact h2
  have hlt : ∀ i, lrows rows i ≠ .dead → i < rows.length := fun i hi => by
    rcases Nat.lt_or_ge i rows.length with hlt | hge
    · exact hlt
    · exact absurd (by simp [lrows, List.getD, List.getElem?_eq_none hge]) hi
  have hm2 := hm.rename (nx2 := rows.length) hrow (fun i j hi hj he => by
      have h1 := hlt i hi
      have h2 := hlt j hj
      rw [← h.len] at h1 h2
      rw [List.getD_eq_getElem?_getD, List.getD_eq_getElem?_getD] at he
      refine (List.getElem?_inj h1 h.nodup).1 ?_
      rw [List.getElem?_eq_getElem h1, List.getElem?_eq_getElem h2] at he ⊢
      simpa using he)
    (fun i hi => by simp [lrows, List.getD, List.getElem?_eq_none hi])
    (fun i cells hc => by
      have h1 : i < rows.length := hlt i (by rw [hc]; simp)
      have h2 := h.scr
      rw [List.all_eq_true] at h2
      have h3 := h2 rows[i] (List.getElem_mem h1)
      have h4 : rows[i] = .box cells := by
        have : lrows rows i = rows[i] := by simp [lrows, List.getD, List.getElem?_eq_getElem h1]
        rw [← this]; exact hc
      rw [h4] at h3
      exact scBs_ok cells h3)
    (by rw [← hr.kl, h.k]; exact h.kle) (fun i hi hd => by
      rw [← hr.kl, h.k] at hi
      rcases h.klr i hi with h1 | h1
      · exact absurd h1 hd
      · exact h1)
  exact ⟨_, _, hm2, fun p q v hp hq => repP_unren hrow q v (by rw [← hq]; exact repP_frz hr.mem p v hp)⟩

theorem Ent.sat {s : St} {F ρ : List Nat} {N kl : Nat} {regs : List (Nat × PV)} {rows : List Row} (h : Ent s F ρ N kl regs rows) {B : Base} {a : Act} {w : World} (hs : Sat B s a w) :
    Sat B (mkSt N kl regs rows) a w := by
  obtain ⟨β, X, hr⟩ := hs
  obtain ⟨β', X', hm2, hp⟩ := h.core hr
  refine ⟨β', X', hm2, hr.defers, by rw [hr.size, h.n]; rfl, by rw [← hr.kl, h.k]; rfl, fun t => ?_, fun t => ?_⟩
  · have aux : ∀ l : List (Nat × PV), regsEnt s F ρ l → repP (lrows rows) β' w X' (lk l t) (a.tmps.getD t undef) := by
      intro l
      induction l with
      | nil => intro _; simp [lk, repP]
      | cons x l ih =>
        obtain ⟨d, p⟩ := x
        intro hl
        unfold regsEnt at hl
        unfold lk
        by_cases ht : t = d
        · subst ht
          rw [if_pos rfl]
          rcases hl.1 with h1 | h1
          · subst h1; simp [repP]
          · exact hp _ p _ (hr.rg t) h1
        · rw [if_neg ht]; exact ih hl.2
    exact aux regs h.rg
  · have aux : ∀ l : List (Nat × PV), (l.all fun x => scB rows.length x.2) = true → Sc (· < rows.length) (lk l t) := by
      intro l
      induction l with
      | nil => intro _; trivial
      | cons x l ih =>
        obtain ⟨d, p⟩ := x
        intro hl
        simp only [List.all_cons, Bool.and_eq_true] at hl
        unfold lk
        split
        · exact scB_ok p hl.1
        · exact ih hl.2
    exact aux regs h.sc
end Go.AM
