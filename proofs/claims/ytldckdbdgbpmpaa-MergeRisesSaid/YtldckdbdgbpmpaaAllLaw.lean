/- Proved here: what functions of the program compute, and plain laws. No condition. -/
import Derived.Test.YtldckdbdgbpmpaaHeapL
import Derived.Test.YtldckdbdgbpmpaaOfLaw
set_option linter.unusedSimpArgs false
set_option linter.unusedVariables false
namespace Go.Proofs.Ytldckdbdgbpmpaa
open Go Go.AM

/-! ## several lists, put together by a heap: plain law -/
def runsOf : Nat → List (List PtT) → List RunT
  | _, [] => []
  | i, l :: ls => (if l = [] then [] else [((i : Int), ofP l)]) ++ runsOf (i + 1) ls
theorem runsOf_cons (i : Nat) (l : List PtT) (ls : List (List PtT)) : runsOf i (l :: ls) = (if l = [] then [] else [((i : Int), ofP l)]) ++ runsOf (i + 1) ls := rfl
theorem runsOf_app : ∀ (a b : List (List PtT)) (i : Nat), runsOf i (a ++ b) = runsOf i a ++ runsOf (i + a.length) b
  | [], b, i => rfl
  | l :: a, b, i => by
    show _ ++ runsOf (i + 1) (a ++ b) = _ ++ runsOf (i + 1) a ++ _
    rw [runsOf_app a b (i + 1), List.append_assoc, show i + 1 + a.length = i + (l :: a).length from by simp; omega]
theorem runsOf_len : ∀ (a : List (List PtT)) (i : Nat), (runsOf i a).length ≤ a.length
  | [], i => Nat.le_refl _
  | l :: a, i => by
    have := runsOf_len a (i + 1)
    rw [runsOf_cons]
    split <;> simp <;> omega
theorem lastOf_none_iff (k : Int) (l : List PtT) : lastOf k l = none ↔ ∀ x ∈ l, x.1 ≠ k := by
  constructor
  · intro h x hx e
    unfold lastOf at h
    have : fk k l = [] := List.getLast?_eq_none_iff.1 h
    have hm : x ∈ fk k l := List.mem_filter.2 ⟨hx, by simp [e]⟩
    rw [this] at hm; cases hm
  · exact lastOf_none
theorem ofP_nil : ofP [] = [] := rfl
theorem ofP_ne {l : List PtT} (h : l ≠ []) : ofP l ≠ [] := by
  intro e
  obtain ⟨x, hx⟩ := List.exists_mem_of_ne_nil l h
  have h1 : lastOf x.1 (ofP l) = lastOf x.1 l := lastOf_ofP _ _
  rw [e, lastOf_none (by simp)] at h1
  exact (lastOf_none_iff _ _).1 h1.symm x hx rfl
theorem runsOf_mem : ∀ (ls : List (List PtT)) (i : Nat) (r : RunT), r ∈ runsOf i ls → (i : Int) ≤ r.1 ∧ r.2 ≠ [] ∧ Rise r.2
  | [], i, r, h => by cases h
  | l :: ls, i, r, h => by
    rw [runsOf_cons] at h
    rcases List.mem_append.1 h with h | h
    · split at h
      · cases h
      · rename_i hl
        rw [List.mem_singleton.1 h]
        exact ⟨Int.le_refl _, ofP_ne hl, ofP_rise l⟩
    · have := runsOf_mem ls (i + 1) r h
      exact ⟨by omega, this.2⟩
theorem runsOf_nd : ∀ (ls : List (List PtT)) (i : Nat), ((runsOf i ls).map Prod.fst).Nodup
  | [], i => List.nodup_nil
  | l :: ls, i => by
    rw [runsOf_cons]
    split
    · exact runsOf_nd ls (i + 1)
    · show (((i : Int)) :: (runsOf (i + 1) ls).map Prod.fst).Nodup
      refine List.nodup_cons.2 ⟨fun h => ?_, runsOf_nd ls (i + 1)⟩
      obtain ⟨r, hr, e⟩ := List.mem_map.1 h
      have := (runsOf_mem ls (i + 1) r hr).1
      omega
theorem runsOf_has : ∀ (ls : List (List PtT)) (i : Nat) (k : Int), (∃ r ∈ runsOf i ls, ∃ q ∈ r.2, q.1 = k) ↔ lastOf k ls.flatten ≠ none
  | [], i, k => by simp [runsOf, lastOf, fk]
  | l :: ls, i, k => by
    have ih := runsOf_has ls (i + 1) k
    rw [List.flatten_cons, lastOf_append]
    have ho : lastOf k l ≠ none ↔ ∃ q ∈ ofP l, q.1 = k := by
      rw [← lastOf_ofP, ne_eq, lastOf_none_iff]
      constructor
      · intro h
        refine Classical.byContradiction fun hc => h fun x hx e => hc ⟨x, hx, e⟩
      · rintro ⟨q, hq, e⟩ h; exact h q hq e
    rw [runsOf_cons]
    constructor
    · rintro ⟨r, hr, q, hq, e⟩
      rcases List.mem_append.1 hr with hr | hr
      · split at hr
        · cases hr
        · rw [List.mem_singleton.1 hr] at hq
          have := ho.2 ⟨q, hq, e⟩
          cases h1 : lastOf k ls.flatten <;> simp [this]
      · have := ih.1 ⟨r, hr, q, hq, e⟩
        cases h1 : lastOf k ls.flatten
        · exact absurd h1 this
        · simp
    · intro h
      cases h1 : lastOf k ls.flatten with
      | some y =>
        obtain ⟨r, hr, q, hq, e⟩ := ih.2 (by rw [h1]; simp)
        exact ⟨r, List.mem_append_right _ hr, q, hq, e⟩
      | none =>
        rw [h1, Option.none_or] at h
        obtain ⟨q, hq, e⟩ := ho.1 h
        refine ⟨(i, ofP l), List.mem_append_left _ ?_, q, hq, e⟩
        have hl : l ≠ [] := fun e2 => by subst e2; rw [ofP_nil] at hq; cases hq
        rw [if_neg hl]; simp

/-- q is what is told of its time: of the runs that have it the one with the greatest number has q -/
def Best (h : List RunT) (q : PtT) : Prop := ∃ r ∈ h, q ∈ r.2 ∧ ∀ r' ∈ h, ∀ q' ∈ r'.2, q'.1 = q.1 → r'.1 ≤ r.1
theorem Best.perm {a b : List RunT} {q : PtT} (p : a.Perm b) (h : Best a q) : Best b q := by
  obtain ⟨r, hr, hq, hm⟩ := h
  exact ⟨r, p.subset hr, hq, fun r' hr' => hm r' (p.symm.subset hr')⟩
theorem best_runsOf : ∀ (ls : List (List PtT)) (i : Nat) (q : PtT), Best (runsOf i ls) q ↔ lastOf q.1 ls.flatten = some q
  | [], i, q => by simp [Best, runsOf, lastOf, fk]
  | l :: ls, i, q => by
    have ih := best_runsOf ls (i + 1) q
    have hh := runsOf_has ls (i + 1) q.1
    rw [List.flatten_cons, lastOf_append]
    cases h1 : lastOf q.1 ls.flatten with
    | some y =>
      rw [h1] at ih
      rw [Option.some_or, ← ih]
      obtain ⟨r0, hr0, q0, hq0, e0⟩ := hh.2 (by rw [h1]; simp)
      rw [runsOf_cons]
      constructor
      · rintro ⟨r, hr, hq, hm⟩
        have h2 := hm r0 (List.mem_append_right _ hr0) q0 hq0 e0
        have h3 := (runsOf_mem ls (i + 1) r0 hr0).1
        rcases List.mem_append.1 hr with hr | hr
        · split at hr
          · cases hr
          · rw [List.mem_singleton.1 hr] at h2
            simp only at h2
            omega
        · exact ⟨r, hr, hq, fun r' hr' => hm r' (List.mem_append_right _ hr')⟩
      · rintro ⟨r, hr, hq, hm⟩
        refine ⟨r, List.mem_append_right _ hr, hq, fun r' hr' q' hq' e' => ?_⟩
        rcases List.mem_append.1 hr' with hr' | hr'
        · split at hr'
          · cases hr'
          · have := (runsOf_mem ls (i + 1) r hr).1
            rw [List.mem_singleton.1 hr']
            show (i : Int) ≤ r.1
            omega
        · exact hm r' hr' q' hq' e'
    | none =>
      rw [h1] at hh
      have hno : ∀ r ∈ runsOf (i + 1) ls, ∀ q' ∈ r.2, q'.1 ≠ q.1 := fun r hr q' hq' e => hh.1 ⟨r, hr, q', hq', e⟩ rfl
      rw [Option.none_or, ← ofP_mem]
      rw [runsOf_cons]
      constructor
      · rintro ⟨r, hr, hq, hm⟩
        rcases List.mem_append.1 hr with hr | hr
        · split at hr
          · cases hr
          · rw [List.mem_singleton.1 hr] at hq; exact hq
        · exact absurd rfl (hno r hr q hq)
      · intro hq
        have hl : l ≠ [] := fun e2 => by subst e2; rw [ofP_nil] at hq; cases hq
        rw [if_neg hl]
        refine ⟨(i, ofP l), by simp, hq, fun r' hr' q' hq' e' => ?_⟩
        rcases List.mem_append.1 hr' with hr' | hr'
        · rw [List.mem_singleton.1 hr']; exact Int.le_refl _
        · exact absurd e' (hno r' hr' q' hq')

structure Core (h : List RunT) (R F : List PtT) : Prop where
  ne : NE h
  ri : ∀ r ∈ h, Rise r.2
  nd : (h.map Prod.fst).Nodup
  rr : Rise R
  me : ∀ q, q ∈ F ↔ q ∈ R ∨ (Best h q ∧ ∀ p ∈ R, p.1 ≠ q.1)
  be : ∀ p ∈ R, ∀ r ∈ h, p.1 ≤ hd r

theorem Core.perm {a b : List RunT} {R F : List PtT} (p : a.Perm b) (h : Core a R F) : Core b R F where
  ne := h.ne.perm p.symm
  ri := fun r hr => h.ri r (p.symm.subset hr)
  nd := (p.map Prod.fst).nodup_iff.1 h.nd
  rr := h.rr
  me := fun q => by
    rw [h.me q]
    constructor
    · exact fun hx => hx.imp id fun hx => ⟨hx.1.perm p, hx.2⟩
    · exact fun hx => hx.imp id fun hx => ⟨hx.1.perm p.symm, hx.2⟩
  be := fun q hq r hr => h.be q hq r (p.symm.subset hr)
theorem Core.start (ls : List (List PtT)) : Core (runsOf 0 ls) [] (ofP ls.flatten) where
  ne := fun r hr => (runsOf_mem ls 0 r hr).2.1
  ri := fun r hr => (runsOf_mem ls 0 r hr).2.2
  nd := runsOf_nd ls 0
  rr := List.Pairwise.nil
  me := fun q => by rw [ofP_mem, best_runsOf]; simp
  be := fun p hp => by cases hp
theorem Core.done {R F : List PtT} (h : Core [] R F) (hF : Rise F) : R = F := by
  refine rise_ext h.rr hF fun q => ?_
  rw [h.me q]
  constructor
  · exact .inl
  · rintro (h1 | ⟨⟨r, hr, _⟩, _⟩)
    · exact h1
    · cases hr

def left (x : RunT) (tl : List PtT) : List RunT := if tl = [] then [] else [(x.1, tl)]
theorem mem_left {x r : RunT} {tl : List PtT} : r ∈ left x tl ↔ tl ≠ [] ∧ r = (x.1, tl) := by
  unfold left
  split
  · rename_i h; simp [h]
  · rename_i h; simp [h]
section
variable {x : RunT} {rest : List RunT} {R F : List PtT} {p : PtT} {tl : List PtT}
theorem hd_eq (hx : x.2 = p :: tl) : hd x = p.1 := by unfold hd; rw [hx]
theorem best_first (hc : Core (x :: rest) R F) (hx : x.2 = p :: tl) (hm : ∀ r ∈ rest, ¬ ltR r x = true) {q : PtT} (hq : q.1 = p.1) : Best (x :: rest) q ↔ q = p := by
  have hhx := hd_eq hx
  have hpx : p ∈ x.2 := by rw [hx]; simp
  have hhead : ∀ r ∈ rest, ∀ q' ∈ r.2, q'.1 = p.1 → r.1 ≤ x.1 := fun r hr q' hq' e => by
    have h1 := hm r hr
    rw [ltR_iff, hhx] at h1
    have h2 : hd r ≤ q'.1 := by
      have hri := hc.ri r (List.mem_cons_of_mem _ hr)
      unfold hd
      rcases hr2 : r.2 with _ | ⟨y, l⟩
      · rw [hr2] at hq'; cases hq'
      · rw [hr2] at hri hq'
        rcases List.mem_cons.1 hq' with rfl | hq'
        · exact Int.le_refl _
        · exact Int.le_of_lt ((List.pairwise_cons.1 hri).1 q' hq')
    omega
  constructor
  · rintro ⟨r, hr, hqr, hmax⟩
    have h1 := hmax x (by simp) p hpx hq.symm
    have hrx : r = x := by
      rcases List.mem_cons.1 hr with rfl | hr
      · rfl
      · have h2 := hhead r hr q hqr hq
        have hnd := hc.nd
        rw [List.map_cons] at hnd
        exact absurd (List.mem_map.2 ⟨r, hr, (by omega : r.1 = x.1)⟩) (List.nodup_cons.1 hnd).1
    subst hrx
    have hri := hc.ri r (by simp)
    rw [hx] at hri hqr
    rcases List.mem_cons.1 hqr with h | h
    · exact h
    · have := (List.pairwise_cons.1 hri).1 q h
      omega
  · rintro rfl
    refine ⟨x, by simp, hpx, fun r' hr' q' hq' e => ?_⟩
    rcases List.mem_cons.1 hr' with rfl | hr'
    · exact Int.le_refl _
    · exact hhead r' hr' q' hq' e
theorem best_other (hx : x.2 = p :: tl) {q : PtT} (hq : q.1 ≠ p.1) : Best (x :: rest) q ↔ Best (left x tl ++ rest) q := by
  have htl : ∀ q' : PtT, q'.1 = q.1 → q' ∈ x.2 → q' ∈ tl := fun q' e h => by
    rw [hx] at h
    rcases List.mem_cons.1 h with rfl | h
    · exact absurd e.symm hq
    · exact h
  constructor
  · rintro ⟨r, hr, hqr, hm⟩
    have hm' : ∀ r' ∈ left x tl ++ rest, ∀ q' ∈ r'.2, q'.1 = q.1 → r'.1 ≤ r.1 := fun r' hr' q' hq' e => by
      rcases List.mem_append.1 hr' with hr' | hr'
      · obtain ⟨_, rfl⟩ := mem_left.1 hr'
        exact hm x (by simp) q' (by rw [hx]; exact List.mem_cons_of_mem _ hq') e
      · exact hm r' (List.mem_cons_of_mem _ hr') q' hq' e
    rcases List.mem_cons.1 hr with rfl | hr
    · have h1 := htl q rfl hqr
      exact ⟨(r.1, tl), List.mem_append_left _ (mem_left.2 ⟨List.ne_nil_of_mem h1, rfl⟩), h1, hm'⟩
    · exact ⟨r, List.mem_append_right _ hr, hqr, hm'⟩
  · rintro ⟨r, hr, hqr, hm⟩
    have hm' : ∀ r' ∈ x :: rest, ∀ q' ∈ r'.2, q'.1 = q.1 → r'.1 ≤ r.1 := fun r' hr' q' hq' e => by
      rcases List.mem_cons.1 hr' with rfl | hr'
      · have h1 := htl q' e hq'
        exact hm (r'.1, tl) (List.mem_append_left _ (mem_left.2 ⟨List.ne_nil_of_mem h1, rfl⟩)) q' h1 e
      · exact hm r' (List.mem_append_right _ hr') q' hq' e
    rcases List.mem_append.1 hr with hr | hr
    · obtain ⟨_, rfl⟩ := mem_left.1 hr
      exact ⟨x, by simp, by rw [hx]; exact List.mem_cons_of_mem _ hqr, hm'⟩
    · exact ⟨r, List.mem_cons_of_mem _ hr, hqr, hm'⟩
theorem core_left (hc : Core (x :: rest) R F) (hx : x.2 = p :: tl) :
    NE (left x tl ++ rest) ∧ (∀ r ∈ left x tl ++ rest, Rise r.2) ∧ ((left x tl ++ rest).map Prod.fst).Nodup ∧ ∀ r ∈ left x tl, p.1 < hd r := by
  have hri := hc.ri x (by simp)
  rw [hx] at hri
  refine ⟨fun r hr => ?_, fun r hr => ?_, ?_, fun r hr => ?_⟩
  · rcases List.mem_append.1 hr with hr | hr
    · obtain ⟨h, rfl⟩ := mem_left.1 hr; exact h
    · exact hc.ne r (List.mem_cons_of_mem _ hr)
  · rcases List.mem_append.1 hr with hr | hr
    · obtain ⟨h, rfl⟩ := mem_left.1 hr; exact (List.pairwise_cons.1 hri).2
    · exact hc.ri r (List.mem_cons_of_mem _ hr)
  · have hnd := hc.nd
    unfold left
    split
    · exact (List.nodup_cons.1 hnd).2
    · exact hnd
  · obtain ⟨h, rfl⟩ := mem_left.1 hr
    unfold hd
    rcases tl with _ | ⟨y, tl⟩
    · exact absurd rfl h
    · exact (List.pairwise_cons.1 hri).1 y (by simp)
theorem Core.more (hc : Core (x :: rest) R F) (hx : x.2 = p :: tl) (hm : ∀ r ∈ rest, ¬ ltR r x = true) (hR : ∀ y ∈ R, y.1 ≠ p.1) : Core (left x tl ++ rest) (R ++ [p]) F := by
  obtain ⟨l1, l2, l3, l4⟩ := core_left hc hx
  have hhx := hd_eq hx
  have hlt : ∀ y ∈ R, y.1 < p.1 := fun y hy => by have := hc.be y hy x (by simp); have := hR y hy; omega
  refine ⟨l1, l2, l3, ?_, fun q => ?_, fun y hy r hr => ?_⟩
  · refine List.pairwise_append.2 ⟨hc.rr, List.pairwise_singleton _ _, fun y hy z hz => ?_⟩
    rw [List.mem_singleton.1 hz]; exact hlt y hy
  · rw [hc.me q]
    by_cases e : q.1 = p.1
    · rw [best_first hc hx hm e]
      constructor
      · rintro (h | ⟨h, _⟩)
        · exact absurd e (hR q h)
        · left; simp [h]
      · rintro (h | ⟨_, h⟩)
        · rcases List.mem_append.1 h with h | h
          · exact absurd e (hR q h)
          · rw [List.mem_singleton.1 h]; exact .inr ⟨rfl, hR⟩
        · exact absurd e.symm (h p (by simp))
    · rw [best_other hx e]
      constructor
      · rintro (h | ⟨h1, h2⟩)
        · left; simp [h]
        · refine .inr ⟨h1, fun y hy => ?_⟩
          rcases List.mem_append.1 hy with hy | hy
          · exact h2 y hy
          · rw [List.mem_singleton.1 hy]; exact fun e' => e e'.symm
      · rintro (h | ⟨h1, h2⟩)
        · rcases List.mem_append.1 h with h | h
          · exact .inl h
          · rw [List.mem_singleton.1 h] at e; exact absurd rfl e
        · exact .inr ⟨h1, fun y hy => h2 y (List.mem_append_left _ hy)⟩
  · have hyp : y.1 ≤ p.1 := by
      rcases List.mem_append.1 hy with hy | hy
      · exact Int.le_of_lt (hlt y hy)
      · rw [List.mem_singleton.1 hy]; exact Int.le_refl _
    rcases List.mem_append.1 hr with hr | hr
    · have := l4 r hr; omega
    · have := hm r hr
      rw [ltR_iff, hhx] at this
      omega
theorem Core.same (hc : Core (x :: rest) R F) (hx : x.2 = p :: tl) (hm : ∀ r ∈ rest, ¬ ltR r x = true) {y : PtT} (hy : y ∈ R) (hyp : y.1 = p.1) : Core (left x tl ++ rest) R F := by
  obtain ⟨l1, l2, l3, l4⟩ := core_left hc hx
  have hhx := hd_eq hx
  refine ⟨l1, l2, l3, hc.rr, fun q => ?_, fun z hz r hr => ?_⟩
  · rw [hc.me q]
    by_cases e : q.1 = p.1
    · constructor
      · rintro (h | ⟨_, h⟩)
        · exact .inl h
        · exact absurd (hyp.trans e.symm) (h y hy)
      · rintro (h | ⟨_, h⟩)
        · exact .inl h
        · exact absurd (hyp.trans e.symm) (h y hy)
    · rw [best_other hx e]
  · have h1 := hc.be z hz x (by simp)
    rcases List.mem_append.1 hr with hr | hr
    · have := l4 r hr; omega
    · have := hm r hr
      rw [ltR_iff, hhx] at this
      omega
theorem core_last {h : List RunT} {S : List PtT} {y : PtT} (hc : Core h (S ++ [y]) F) (hyp : y.1 ≠ p.1) (hle : y.1 ≤ p.1) : ∀ z ∈ S ++ [y], z.1 ≠ p.1 := by
  have := List.pairwise_append.1 hc.rr
  intro z hz
  rcases List.mem_append.1 hz with hz | hz
  · have := this.2.2 z hz y (by simp); omega
  · rw [List.mem_singleton.1 hz]; exact hyp
end
def tot : List RunT → Nat
  | [] => 0
  | r :: h => r.2.length + tot h
theorem tot_perm {a b : List RunT} (p : a.Perm b) : tot a = tot b := by
  induction p with
  | nil => rfl
  | cons x _ ih => simp only [tot, ih]
  | swap x y l => simp only [tot]; omega
  | trans _ _ i1 i2 => exact i1.trans i2
theorem tot_app (a b : List RunT) : tot (a ++ b) = tot a + tot b := by
  induction a with
  | nil => simp [tot]
  | cons x a ih => simp only [List.cons_append, tot, ih]; omega
theorem tot_left (x : RunT) (tl : List PtT) : tot (left x tl) = tl.length := by
  unfold left
  split
  · rename_i h; subst h; rfl
  · simp [tot]
end Go.Proofs.Ytldckdbdgbpmpaa
