/- Proved here: the data of the walks: pure values and how memory shows them, and operations on them. No condition. -/
import Derived.WalkKit
set_option linter.unusedSimpArgs false
set_option linter.unusedVariables false
namespace Go.AM
open Go

def oc : Value → Bool | .agg _ | .tuple _ => false | _ => true

/-- immutable data -/
inductive DV where
  | lit (v : Value)
  | sl (sz : Nat) (el : List (List DV))
  | agg (cells : List DV)

mutual
def rep (w : World) (X : Nat → Prop) : DV → Value → Prop
  | .lit u, v => v = u
  | .sl sz el, v => ∃ a cap vs, v = .slice a el.length cap ∧ el.length ≤ cap ∧ cap ≤ maxLen ∧ repss w X sz el vs ∧
      (vs ≠ [] → ∃ b off, a = some ⟨b, off, none⟩ ∧ ¬ X b ∧ ∀ j u, vs[j]? = some u → w.cell? ⟨b, off + j, none⟩ = some u)
  | .agg cs, v => ∃ vs : List Value, v = .agg vs.toArray ∧ reps w X cs vs
def reps (w : World) (X : Nat → Prop) : List DV → List Value → Prop
  | [], vs => vs = []
  | c :: cs, vs => ∃ u us, vs = u :: us ∧ oc u = true ∧ rep w X c u ∧ reps w X cs us
def repss (w : World) (X : Nat → Prop) (sz : Nat) : List (List DV) → List Value → Prop
  | [], vs => vs = []
  | e :: el, vs => ∃ us ws, vs = us ++ ws ∧ us.length = sz ∧ reps w X e us ∧ repss w X sz el ws
end

/-- what lies outside X stays as it is, and outside -/
def KeepX (w : World) (X : Nat → Prop) (w' : World) (X' : Nat → Prop) : Prop :=
  ∀ b, b < w.heap.size → ¬ X b → w'.heap[b]? = w.heap[b]? ∧ ¬ X' b

theorem KeepX.refl (w : World) (X : Nat → Prop) : KeepX w X w X := fun _ _ h => ⟨rfl, h⟩

theorem KeepX.cell {w w' : World} {X X' : Nat → Prop} (h : KeepX w X w' X') {p : Addr} {u : Value} (hx : ¬ X p.block) (hc : w.cell? p = some u) :
    w'.cell? p = some u ∧ ¬ X' p.block := by
  have hb := World.block_lt_of_cell? w p hc
  obtain ⟨h1, h2⟩ := h _ hb hx
  exact ⟨(World.cell?_of_block h1).trans hc, h2⟩

mutual
theorem rep_mono {w w' : World} {X X' : Nat → Prop} (hk : KeepX w X w' X') : ∀ (x : DV) (v : Value), rep w X x v → rep w' X' x v
  | .lit u, v, h => by unfold rep at *; exact h
  | .sl sz el, v, h => by
    unfold rep at *
    obtain ⟨a, cap, vs, h1, h2, h3, h4, h5⟩ := h
    refine ⟨a, cap, vs, h1, h2, h3, repss_mono hk sz el vs h4, fun hne => ?_⟩
    obtain ⟨b, off, h6, h7, h8⟩ := h5 hne
    refine ⟨b, off, h6, ?_, fun j u hu => (hk.cell (p := ⟨b, off + j, none⟩) h7 (h8 j u hu)).1⟩
    cases vs with
    | nil => exact absurd rfl hne
    | cons u us => exact (hk.cell (p := ⟨b, off + 0, none⟩) h7 (h8 0 u rfl)).2
  | .agg cs, v, h => by
    unfold rep at *
    obtain ⟨vs, h1, h2⟩ := h
    exact ⟨vs, h1, reps_mono hk cs vs h2⟩
theorem reps_mono {w w' : World} {X X' : Nat → Prop} (hk : KeepX w X w' X') : ∀ (xs : List DV) (vs : List Value), reps w X xs vs → reps w' X' xs vs
  | [], vs, h => by unfold reps at *; exact h
  | c :: cs, vs, h => by
    unfold reps at *
    obtain ⟨u, us, h1, h2, h3, h4⟩ := h
    exact ⟨u, us, h1, h2, rep_mono hk c u h3, reps_mono hk cs us h4⟩
theorem repss_mono {w w' : World} {X X' : Nat → Prop} (hk : KeepX w X w' X') (sz : Nat) : ∀ (el : List (List DV)) (vs : List Value), repss w X sz el vs → repss w' X' sz el vs
  | [], vs, h => by unfold repss at *; exact h
  | e :: el, vs, h => by
    unfold repss at *
    obtain ⟨us, ws, h1, h2, h3, h4⟩ := h
    exact ⟨us, ws, h1, h2, reps_mono hk e us h3, repss_mono hk sz el ws h4⟩
end

theorem reps_length {w : World} {X : Nat → Prop} : ∀ {xs : List DV} {vs : List Value}, reps w X xs vs → vs.length = xs.length
  | [], vs, h => by unfold reps at h; simp [h]
  | c :: cs, vs, h => by
    unfold reps at h
    obtain ⟨u, us, h1, h2, h3, h4⟩ := h
    simp [h1, reps_length h4]

theorem reps_oc {w : World} {X : Nat → Prop} : ∀ {xs : List DV} {vs : List Value}, reps w X xs vs → ∀ u ∈ vs, oc u = true
  | [], vs, h => by unfold reps at h; simp [h]
  | c :: cs, vs, h => by
    unfold reps at h
    obtain ⟨u, us, h1, h2, h3, h4⟩ := h
    subst h1
    intro x hx
    rcases List.mem_cons.1 hx with rfl | hx
    · exact h2
    · exact reps_oc h4 x hx

theorem reps_get {w : World} {X : Nat → Prop} : ∀ {xs : List DV} {vs : List Value}, reps w X xs vs → ∀ (j : Nat) (x : DV), xs[j]? = some x → ∃ u, vs[j]? = some u ∧ oc u = true ∧ rep w X x u
  | [], vs, h => by intro j x hx; simp at hx
  | c :: cs, vs, h => by
    unfold reps at h
    obtain ⟨u, us, h1, h2, h3, h4⟩ := h
    subst h1
    intro j x hx
    cases j with
    | zero => simp at hx; subst hx; exact ⟨u, rfl, h2, h3⟩
    | succ j => simpa using reps_get h4 j x (by simpa using hx)

theorem reps_append {w : World} {X : Nat → Prop} : ∀ {xs ys : List DV} {us vs : List Value}, reps w X xs us → reps w X ys vs → reps w X (xs ++ ys) (us ++ vs)
  | [], ys, us, vs, h, k => by unfold reps at h; subst h; simpa using k
  | c :: cs, ys, us, vs, h, k => by
    unfold reps at h
    obtain ⟨u, us', h1, h2, h3, h4⟩ := h
    subst h1
    show reps w X (c :: (cs ++ ys)) (u :: (us' ++ vs))
    unfold reps
    exact ⟨u, us' ++ vs, rfl, h2, h3, reps_append h4 k⟩

theorem reps_split {w : World} {X : Nat → Prop} : ∀ {xs ys : List DV} {vs : List Value}, reps w X (xs ++ ys) vs → reps w X xs (vs.take xs.length) ∧ reps w X ys (vs.drop xs.length)
  | [], ys, vs, h => by simpa [reps] using h
  | c :: cs, ys, vs, h => by
    have h' : reps w X (c :: (cs ++ ys)) vs := h
    unfold reps at h'
    obtain ⟨u, us', h1, h2, h3, h4⟩ := h'
    subst h1
    have := reps_split h4
    simp only [List.length_cons, List.take_succ_cons, List.drop_succ_cons]
    refine ⟨?_, this.2⟩
    unfold reps
    exact ⟨u, _, rfl, h2, h3, this.1⟩

theorem repss_length {w : World} {X : Nat → Prop} {sz : Nat} : ∀ {el : List (List DV)} {vs : List Value}, repss w X sz el vs → vs.length = el.length * sz
  | [], vs, h => by unfold repss at h; simp [h]
  | e :: el, vs, h => by
    unfold repss at h
    obtain ⟨us, ws, h1, h2, h3, h4⟩ := h
    subst h1
    simp [h2, repss_length h4, Nat.add_mul]; omega

theorem repss_oc {w : World} {X : Nat → Prop} {sz : Nat} : ∀ {el : List (List DV)} {vs : List Value}, repss w X sz el vs → ∀ u ∈ vs, oc u = true
  | [], vs, h => by unfold repss at h; simp [h]
  | e :: el, vs, h => by
    unfold repss at h
    obtain ⟨us, ws, h1, h2, h3, h4⟩ := h
    subst h1
    intro x hx
    rcases List.mem_append.1 hx with hx | hx
    · exact reps_oc h3 x hx
    · exact repss_oc h4 x hx

theorem repss_append {w : World} {X : Nat → Prop} {sz : Nat} : ∀ {xs ys : List (List DV)} {us vs : List Value}, repss w X sz xs us → repss w X sz ys vs → repss w X sz (xs ++ ys) (us ++ vs)
  | [], ys, us, vs, h, k => by unfold repss at h; subst h; simpa using k
  | c :: cs, ys, us, vs, h, k => by
    unfold repss at h
    obtain ⟨u, us', h1, h2, h3, h4⟩ := h
    subst h1
    show repss w X sz (c :: (cs ++ ys)) (u ++ us' ++ vs)
    unfold repss
    exact ⟨u, us' ++ vs, by simp, h2, h3, repss_append h4 k⟩

theorem repss_take {w : World} {X : Nat → Prop} {sz : Nat} : ∀ {el : List (List DV)} {vs : List Value} (k : Nat), repss w X sz el vs → repss w X sz (el.take k) (vs.take (k * sz))
  | el, vs, 0, h => by simp [repss]
  | [], vs, k + 1, h => by unfold repss at h; subst h; simp [repss]
  | e :: el, vs, k + 1, h => by
    unfold repss at h
    obtain ⟨us, ws, h1, h2, h3, h4⟩ := h
    subst h1
    simp only [List.take_succ_cons]
    unfold repss
    refine ⟨us, ws.take (k * sz), ?_, h2, h3, repss_take k h4⟩
    rw [List.take_append, List.take_of_length_le (by rw [h2, Nat.add_mul]; omega)]
    congr 2
    rw [h2, Nat.add_mul]; omega

theorem repss_drop {w : World} {X : Nat → Prop} {sz : Nat} : ∀ {el : List (List DV)} {vs : List Value} (k : Nat), repss w X sz el vs → repss w X sz (el.drop k) (vs.drop (k * sz))
  | el, vs, 0, h => by simpa using h
  | [], vs, k + 1, h => by unfold repss at h; subst h; simp [repss]
  | e :: el, vs, k + 1, h => by
    unfold repss at h
    obtain ⟨us, ws, h1, h2, h3, h4⟩ := h
    subst h1
    simp only [List.drop_succ_cons]
    have := repss_drop k h4
    rw [List.drop_append, List.drop_of_length_le (l := us) (by rw [h2, Nat.add_mul]; omega), List.nil_append, show (k + 1) * sz - us.length = k * sz from by rw [h2, Nat.add_mul]; omega]
    exact this

/-- the cells of element k -/
theorem repss_get {w : World} {X : Nat → Prop} {sz : Nat} : ∀ {el : List (List DV)} {vs : List Value}, repss w X sz el vs → ∀ (k : Nat) (e : List DV), el[k]? = some e →
    e.length = sz ∧ reps w X e ((vs.drop (k * sz)).take sz) ∧ k * sz + sz ≤ vs.length
  | [], vs, h => by intro k e he; simp at he
  | c :: el, vs, h => by
    unfold repss at h
    obtain ⟨us, ws, h1, h2, h3, h4⟩ := h
    subst h1
    intro k e he
    cases k with
    | zero =>
      simp at he; subst he
      have := reps_length h3
      refine ⟨by omega, ?_, by simp; omega⟩
      simp only [Nat.zero_mul, List.drop_zero]
      rw [List.take_append, List.take_of_length_le (by omega), show sz - us.length = 0 from by omega]
      simpa using h3
    | succ k =>
      obtain ⟨a1, a2, a3⟩ := repss_get h4 k e (by simpa using he)
      refine ⟨a1, ?_, by simp [Nat.add_mul]; omega⟩
      rw [List.drop_append, List.drop_of_length_le (l := us) (by rw [h2, Nat.add_mul]; omega), List.nil_append, show (k + 1) * sz - us.length = k * sz from by rw [h2, Nat.add_mul]; omega]
      exact a2

theorem repss_elen {w : World} {X : Nat → Prop} {sz : Nat} {el : List (List DV)} {vs : List Value} (h : repss w X sz el vs) : ∀ e ∈ el, e.length = sz := by
  intro e he
  obtain ⟨k, hk⟩ := List.getElem?_of_mem he
  exact (repss_get h k e hk).1

theorem repss_flat {w : World} {X : Nat → Prop} {sz : Nat} : ∀ {el : List (List DV)} {vs : List Value}, repss w X sz el vs → reps w X el.flatten vs
  | [], vs, h => by unfold repss at h; subst h; simp [reps]
  | e :: el, vs, h => by
    unfold repss at h
    obtain ⟨us, ws, h1, h2, h3, h4⟩ := h
    subst h1
    simpa using reps_append h3 (repss_flat h4)

/-- set element k -/
theorem repss_set {w : World} {X : Nat → Prop} {sz : Nat} : ∀ {el : List (List DV)} {vs : List Value}, repss w X sz el vs → ∀ (k : Nat) (e : List DV) (us : List Value), k < el.length → us.length = sz → reps w X e us →
    repss w X sz (el.set k e) (vs.take (k * sz) ++ us ++ vs.drop (k * sz + sz))
  | [], vs, h => by intro k e us hk; simp at hk
  | c :: el, vs, h => by
    unfold repss at h
    obtain ⟨xs, ws, h1, h2, h3, h4⟩ := h
    subst h1
    intro k e us hk hu hr
    cases k with
    | zero =>
      simp only [List.set_cons_zero, Nat.zero_mul, List.take_zero, List.nil_append, Nat.zero_add]
      unfold repss
      refine ⟨us, ws, ?_, hu, hr, h4⟩
      rw [List.drop_append, List.drop_of_length_le (by omega), List.nil_append, show sz - xs.length = 0 from by omega]; simp
    | succ k =>
      simp only [List.set_cons_succ]
      unfold repss
      refine ⟨xs, _, ?_, h2, h3, repss_set h4 k e us (by simpa using hk) hu hr⟩
      have e1 : (k + 1) * sz - xs.length = k * sz := by rw [h2, Nat.add_mul]; omega
      have e2 : (k + 1) * sz + sz - xs.length = k * sz + sz := by rw [h2, Nat.add_mul]; omega
      rw [List.take_append, List.take_of_length_le (by rw [h2, Nat.add_mul]; omega), e1, List.drop_append, List.drop_of_length_le (l := xs) (by rw [h2, Nat.add_mul]; omega), e2]
      simp [List.append_assoc]

end Go.AM

namespace Go.AM
open Go

inductive PV where
  | d (x : DV)
  | own (i : Nat)
  | win (i off m : Nat)
  | ptr (i off : Nat)
  | mp (i : Nat)
  | eptr (i k c : Nat)
  | iptr (cells : List DV)
  | clo (fn : Fn) (first cap : List PV)
  | ifc (t : TypeId) (x : PV)
  | agg (cells : List PV)
  | tup (vs : List PV)
  | any

/-- a map's key -/
inductive MKd where
  | int (k : IntKind)
  | str
  | str2
deriving DecidableEq
inductive MKey where
  | int (k : IntKind) (n : Int)
  | str (s : ByteArray)
  | str2 (s t : ByteArray)
deriving DecidableEq
def MKey.kd : MKey → MKd
  | .int k _ => .int k
  | .str _ => .str
  | .str2 _ _ => .str2
def MKey.val : MKey → Value
  | .int k n => .int k n
  | .str s => .string s
  | .str2 s t => .agg #[.string s, .string t]

inductive Row where
  | dead
  | box (cells : List PV)
  | own (sz : Nat) (el : List (List DV))
  | iter (s : ByteArray) (pos : Nat)
  | map (kd : MKd) (clock : Nat) (ents : List (MKey × Nat × PV))
  | itm (src since : Nat) (seen : List Nat) (last : Nat)

structure Loc where
  a : Option Addr
  cap : Nat

abbrev Rows := Nat → Row

mutual
def repP (rows : Rows) (β : Nat → Loc) (w : World) (X : Nat → Prop) : PV → Value → Prop
  | .d x, v => rep w X x v
  | .own i, v => (∀ sz el, rows i = .own sz el → v = .slice (β i).a el.length (β i).cap) ∧
      ∀ cells, rows i = .box cells → cells.length ≤ (β i).cap ∧ v = .slice (β i).a cells.length (β i).cap
  | .win i off m, v => (∀ sz el, rows i = .own sz el → off + m ≤ el.length ∧
      v = .slice (if (β i).cap = off then (β i).a else (β i).a.map (·.add (off * sz))) m ((β i).cap - off)) ∧
      ∀ cells, rows i = .box cells → ∃ b cap, (β i).a = some ⟨b, 0, none⟩ ∧ v = .slice (some ⟨b, off, none⟩) m cap ∧ m ≤ cap ∧ cap ≤ maxLen
  | .ptr i off, v => rows i ≠ .dead → ∃ b, (β i).a = some ⟨b, 0, none⟩ ∧ v = .pointer (some ⟨b, off, none⟩)
  | .mp i, v => rows i ≠ .dead → ∃ b, (β i).a = some ⟨b, 0, none⟩ ∧ v = .map (some b)
  | .eptr i k c, v => ∀ sz el, rows i = .own sz el → k < el.length ∧ ∃ b, (β i).a = some ⟨b, 0, none⟩ ∧ v = .pointer (some ⟨b, k * sz + c, none⟩)
  | .iptr cs, v => ∃ b off vs, v = .pointer (some ⟨b, off, none⟩) ∧ reps w X cs vs ∧ vs ≠ [] ∧ ¬ X b ∧ ∀ j u, vs[j]? = some u → w.cell? ⟨b, off + j, none⟩ = some u
  | .clo fn f c, v => ∃ fs cs : List Value, v = .func fn fs.toArray cs.toArray ∧ repPs rows β w X f fs ∧ repPs rows β w X c cs
  | .ifc t x, v => ∃ u, v = .iface t u ∧ repP rows β w X x u
  | .agg ps, v => ∃ vs : List Value, v = .agg vs.toArray ∧ repPs rows β w X ps vs ∧ ∀ u ∈ vs, oc u = true
  | .tup ps, v => ∃ vs : List Value, v = .tuple vs.toArray ∧ repPs rows β w X ps vs
  | .any, _ => True
def repPs (rows : Rows) (β : Nat → Loc) (w : World) (X : Nat → Prop) : List PV → List Value → Prop
  | [], vs => vs = []
  | c :: cs, vs => ∃ u us, vs = u :: us ∧ repP rows β w X c u ∧ repPs rows β w X cs us
end

mutual
/-- all ids in p meet S -/
def Sc (S : Nat → Prop) : PV → Prop
  | .d _ => True
  | .own i => S i
  | .win i _ _ => S i
  | .ptr i _ => S i
  | .mp i => S i
  | .eptr i _ _ => S i
  | .iptr _ => True
  | .clo _ f c => Scs S f ∧ Scs S c
  | .ifc _ x => Sc S x
  | .agg ps => Scs S ps
  | .tup ps => Scs S ps
  | .any => True
def Scs (S : Nat → Prop) : List PV → Prop
  | [] => True
  | c :: cs => Sc S c ∧ Scs S cs
end

mutual
theorem Sc.mono {S T : Nat → Prop} (h : ∀ i, S i → T i) : ∀ p, Sc S p → Sc T p
  | .d _, _ => trivial
  | .own i, k => h i k
  | .win i _ _, k => h i k
  | .ptr i _, k => h i k
  | .mp i, k => h i k
  | .eptr i _ _, k => h i k
  | .iptr _, _ => trivial
  | .clo _ f c, k => ⟨Scs.mono h f k.1, Scs.mono h c k.2⟩
  | .ifc _ x, k => Sc.mono h x k
  | .agg ps, k => Scs.mono h ps k
  | .tup ps, k => Scs.mono h ps k
  | .any, _ => trivial
theorem Scs.mono {S T : Nat → Prop} (h : ∀ i, S i → T i) : ∀ ps, Scs S ps → Scs T ps
  | [], _ => trivial
  | c :: cs, k => ⟨Sc.mono h c k.1, Scs.mono h cs k.2⟩
end

theorem Scs.mem {S : Nat → Prop} : ∀ {ps : List PV}, Scs S ps → ∀ p ∈ ps, Sc S p
  | [], _, p, hp => by simp at hp
  | c :: cs, h, p, hp => by
    rcases List.mem_cons.1 hp with rfl | hp
    · exact h.1
    · exact Scs.mem h.2 p hp

theorem Scs.of_mem {S : Nat → Prop} : ∀ {ps : List PV}, (∀ p ∈ ps, Sc S p) → Scs S ps
  | [], _ => trivial
  | c :: cs, h => ⟨h c (by simp), Scs.of_mem fun p hp => h p (by simp [hp])⟩

/-- a row that has become another one -/
def RowC : Row → Row → Prop
  | _, .dead => True
  | .box cells, .box cells' => cells'.length = cells.length
  | .own sz el, .own sz' el' => sz' = sz ∧ el'.length = el.length
  | .iter _ _, .iter _ _ => True
  | .map kd _ _, .map kd' _ _ => kd' = kd
  | .itm _ _ _ _, .itm _ _ _ _ => True
  | _, _ => False

theorem RowC.trans {a b c : Row} (h : RowC a b) (k : RowC b c) : RowC a c := by
  cases a <;> cases b <;> cases c <;> simp_all [RowC]

theorem RowC.refl (r : Row) : RowC r r := by cases r <;> simp [RowC]

mutual
theorem repP_mono {rows rows' : Rows} {β β' : Nat → Loc} {w w' : World} {X X' : Nat → Prop} {S : Nat → Prop} (hk : KeepX w X w' X')
    (hr : ∀ i, S i → RowC (rows i) (rows' i) ∧ (rows' i ≠ .dead → β' i = β i)) : ∀ (p : PV) (v : Value), Sc S p → repP rows β w X p v → repP rows' β' w' X' p v
  | .d x, v, _, h => by unfold repP at *; exact rep_mono hk x v h
  | .own i, v, hs, h => by
    unfold repP at *
    refine ⟨?_, ?_⟩
    · intro sz el hi
      obtain ⟨h1, h2⟩ := hr i hs
      rw [hi] at h1 h2
      rw [h2 (by simp)]
      cases hri : rows i with
      | own sz0 el0 => rw [hri] at h1; simp only [RowC] at h1; rw [h1.2]; exact h.1 sz0 el0 hri
      | _ => rw [hri] at h1; simp [RowC] at h1
    · intro cells hi
      obtain ⟨h1, h2⟩ := hr i hs
      rw [hi] at h1 h2
      rw [h2 (by simp)]
      cases hri : rows i with
      | box c0 => rw [hri] at h1; simp only [RowC] at h1; rw [h1]; exact h.2 c0 hri
      | _ => rw [hri] at h1; simp [RowC] at h1
  | .win i off m, v, hs, h => by
    unfold repP at *
    refine ⟨?_, ?_⟩
    · intro sz el hi
      obtain ⟨h1, h2⟩ := hr i hs
      rw [hi] at h1 h2
      rw [h2 (by simp)]
      cases hri : rows i with
      | own sz0 el0 => rw [hri] at h1; simp only [RowC] at h1; rw [h1.2, h1.1]; exact h.1 sz0 el0 hri
      | _ => rw [hri] at h1; simp [RowC] at h1
    · intro cells hi
      obtain ⟨h1, h2⟩ := hr i hs
      rw [hi] at h1 h2
      rw [h2 (by simp)]
      cases hri : rows i with
      | box c0 => exact h.2 c0 hri
      | _ => rw [hri] at h1; simp [RowC] at h1
  | .ptr i off, v, hs, h => by
    unfold repP at *
    intro hi
    obtain ⟨h1, h2⟩ := hr i hs
    rw [h2 hi]
    refine h fun h0 => ?_
    rw [h0] at h1
    cases hri : rows' i <;> rw [hri] at h1 hi <;> simp [RowC] at h1 hi
  | .mp i, v, hs, h => by
    unfold repP at *
    intro hi
    obtain ⟨h1, h2⟩ := hr i hs
    rw [h2 hi]
    refine h fun h0 => ?_
    rw [h0] at h1
    cases hri : rows' i <;> rw [hri] at h1 hi <;> simp [RowC] at h1 hi
  | .eptr i k c, v, hs, h => by
    unfold repP at *
    intro sz el hi
    obtain ⟨h1, h2⟩ := hr i hs
    rw [hi] at h1 h2
    rw [h2 (by simp)]
    cases hri : rows i with
    | own sz0 el0 => rw [hri] at h1; simp only [RowC] at h1; rw [h1.2, h1.1]; exact h sz0 el0 hri
    | _ => rw [hri] at h1; simp [RowC] at h1
  | .iptr cs, v, _, h => by
    unfold repP at *
    obtain ⟨b, off, vs, h1, h2, h3, h4, h5⟩ := h
    refine ⟨b, off, vs, h1, reps_mono hk cs vs h2, h3, ?_, fun j u hu => (hk.cell (p := ⟨b, off + j, none⟩) h4 (h5 j u hu)).1⟩
    cases vs with
    | nil => exact absurd rfl h3
    | cons u us => exact (hk.cell (p := ⟨b, off + 0, none⟩) h4 (h5 0 u rfl)).2
  | .clo fn f c, v, hs, h => by
    unfold repP at *
    obtain ⟨fs, cs, h1, h2, h3⟩ := h
    exact ⟨fs, cs, h1, repPs_mono hk hr f fs hs.1 h2, repPs_mono hk hr c cs hs.2 h3⟩
  | .ifc t x, v, hs, h => by
    unfold repP at *
    obtain ⟨u, h1, h2⟩ := h
    exact ⟨u, h1, repP_mono hk hr x u hs h2⟩
  | .agg ps, v, hs, h => by
    unfold repP at *
    obtain ⟨vs, h1, h2, h3⟩ := h
    exact ⟨vs, h1, repPs_mono hk hr ps vs hs h2, h3⟩
  | .tup ps, v, hs, h => by
    unfold repP at *
    obtain ⟨vs, h1, h2⟩ := h
    exact ⟨vs, h1, repPs_mono hk hr ps vs hs h2⟩
  | .any, v, _, h => by unfold repP; trivial
theorem repPs_mono {rows rows' : Rows} {β β' : Nat → Loc} {w w' : World} {X X' : Nat → Prop} {S : Nat → Prop} (hk : KeepX w X w' X')
    (hr : ∀ i, S i → RowC (rows i) (rows' i) ∧ (rows' i ≠ .dead → β' i = β i)) : ∀ (ps : List PV) (vs : List Value), Scs S ps → repPs rows β w X ps vs → repPs rows' β' w' X' ps vs
  | [], vs, _, h => by unfold repPs at *; exact h
  | c :: cs, vs, hs, h => by
    unfold repPs at *
    obtain ⟨u, us, h1, h2, h3⟩ := h
    exact ⟨u, us, h1, repP_mono hk hr c u hs.1 h2, repPs_mono hk hr cs us hs.2 h3⟩
end

def Thaw (fr : Nat × Nat) (n : Nat) : Prop := fr.1 ≤ fr.2 ∧ ∀ j, j < n → ¬ (fr.1 ≤ j ∧ j < fr.2)

theorem Thaw.mono {fr : Nat × Nat} {m n : Nat} (h : Thaw fr m) (hn : n ≤ m) : Thaw fr n := ⟨h.1, fun j hj => h.2 j (by omega)⟩

/-- what stands in a map -/
def repEs (rows : Rows) (β : Nat → Loc) (w : World) (X : Nat → Prop) : List (MKey × Nat × PV) → List MapEntry → Prop
  | [], es => es = []
  | (k, n, p) :: l, es => ∃ e es', es = e :: es' ∧ e.key = k.val ∧ e.born = n ∧ repP rows β w X p e.val ∧ repEs rows β w X l es'

def rowOk (rows : Rows) (β : Nat → Loc) (w : World) (X : Nat → Prop) (l : Loc) : Row → Prop
  | .dead => True
  | .box cells => ∃ b cs e fr, l.a = some ⟨b, 0, none⟩ ∧ X b ∧ w.heap[b]? = some (.cells cs e fr) ∧ Thaw fr (cs.size + 1) ∧ repPs rows β w X cells (cs.toList.take cells.length) ∧
      (∀ u ∈ cs.toList.take cells.length, oc u = true) ∧ l.cap ≤ cs.size ∧ l.cap ≤ maxLen
  | .own sz el => el.length ≤ l.cap ∧ l.cap ≤ maxLen ∧
      ((l.cap = 0 ∧ el = []) ∨ ∃ b cs e fr, 0 < l.cap ∧ l.a = some ⟨b, 0, none⟩ ∧ X b ∧ w.heap[b]? = some (.cells cs e fr) ∧ Thaw fr cs.size ∧ cs.size = l.cap * sz ∧
        repss w X sz el (cs.toList.take (el.length * sz)))
  | .iter s pos => ∃ b, l.a = some ⟨b, 0, none⟩ ∧ X b ∧ w.heap[b]? = some (.stringIter s pos)
  | .map kd clock ents => ∃ b es, l.a = some ⟨b, 0, none⟩ ∧ X b ∧ w.heap[b]? = some (.map es clock) ∧ repEs rows β w X ents es.toList ∧ ∀ e ∈ ents, e.1.kd = kd
  | .itm src since seen last => ∃ b mb, l.a = some ⟨b, 0, none⟩ ∧ X b ∧ w.heap[b]? = some (.mapIter (some mb) since seen.toArray last) ∧ (rows src ≠ .dead → (β src).a = some ⟨mb, 0, none⟩)

def rblk (l : Loc) : Row → Option Nat
  | .dead => none
  | .own _ _ => if l.cap = 0 then none else l.a.map (·.block)
  | _ => l.a.map (·.block)

/-- all that a row tells of meets S -/
def rowSc (S : Nat → Prop) : Row → Prop
  | .box cells => Scs S cells
  | .map _ _ ents => ∀ e ∈ ents, Sc S e.2.2
  | .itm src _ _ _ => S src
  | _ => True

theorem rowSc.mono {S T : Nat → Prop} (h : ∀ i, S i → T i) : ∀ r, rowSc S r → rowSc T r
  | .box cells, k => Scs.mono h cells k
  | .map _ _ _, k => fun e he => Sc.mono h _ (k e he)
  | .itm src _ _ _, k => h src k
  | .dead, _ => trivial
  | .own _ _, _ => trivial
  | .iter _ _, _ => trivial

structure Base where
  w0 : World
  L : Nat → Prop
  X0 : Nat → Prop
  kl : Nat
  loc : Nat → Loc
  rows0 : Rows

structure St where
  N : Nat
  kl : Nat
  regs : Nat → PV
  rows : Rows
  nx : Nat

structure Mem (B : Base) (β : Nat → Loc) (X : Nat → Prop) (w : World) (rows : Rows) (nx : Nat) : Prop where
  ok : ∀ i, rowOk rows β w X (β i) (rows i)
  inj : ∀ i j b, rblk (β i) (rows i) = some b → rblk (β j) (rows j) = some b → i = j
  dead : ∀ i, nx ≤ i → rows i = .dead
  sr : ∀ i, rowSc (· < nx) (rows i)
  os : w.os = B.w0.os
  tape : w.tape = B.w0.tape
  output : w.output = B.w0.output
  size : B.w0.heap.size ≤ w.heap.size
  keep : ∀ b, b < B.w0.heap.size → ¬ B.L b → w.heap[b]? = B.w0.heap[b]?
  xs : ∀ b, b < B.w0.heap.size → X b → B.X0 b
  lent : ∀ i b, rblk (β i) (rows i) = some b → b < B.w0.heap.size → B.L b
  fx : ∀ b, b < B.w0.heap.size → B.X0 b → ¬ B.L b → X b
  kln : B.kl ≤ nx
  lk : ∀ i, i < B.kl → RowC (B.rows0 i) (rows i) ∧ (rows i ≠ .dead → β i = B.loc i)

theorem Mem.scr {B : Base} {β : Nat → Loc} {X : Nat → Prop} {w : World} {rows : Rows} {nx : Nat} (h : Mem B β X w rows nx) (i : Nat) (cells : List PV) (hc : rows i = .box cells) : Scs (· < nx) cells := by
  have := h.sr i
  rw [hc] at this
  exact this

structure SRel (B : Base) (β : Nat → Loc) (X : Nat → Prop) (w : World) (a : Act) (s : St) : Prop where
  mem : Mem B β X w s.rows s.nx
  defers : a.defers = []
  size : a.tmps.size = s.N
  kl : s.kl = B.kl
  rg : ∀ t, repP s.rows β w X (s.regs t) (a.tmps.getD t undef)
  sc : ∀ t, Sc (· < s.nx) (s.regs t)

def Sat (B : Base) (s : St) (a : Act) (w : World) : Prop := ∃ β X, SRel B β X w a s

end Go.AM

namespace Go.AM
open Go

def upd {α : Type} (f : Nat → α) (i : Nat) (x : α) : Nat → α := fun j => if j = i then x else f j
theorem upd_same {α : Type} (f : Nat → α) (i : Nat) (x : α) : upd f i x i = x := by simp [upd]
theorem upd_ne {α : Type} (f : Nat → α) {i j : Nat} (x : α) (h : j ≠ i) : upd f i x j = f j := by simp [upd, h]

theorem repEs_mono {rows rows' : Rows} {β β' : Nat → Loc} {w w' : World} {X X' : Nat → Prop} {S : Nat → Prop} (hk : KeepX w X w' X')
    (hr : ∀ i, S i → RowC (rows i) (rows' i) ∧ (rows' i ≠ .dead → β' i = β i)) : ∀ (ents : List (MKey × Nat × PV)) (es : List MapEntry), (∀ e ∈ ents, Sc S e.2.2) → repEs rows β w X ents es → repEs rows' β' w' X' ents es
  | [], es, _, h => h
  | (k, n, p) :: l, es, hs, h => by
    obtain ⟨e, es', h1, h2, h3, h4, h5⟩ := h
    exact ⟨e, es', h1, h2, h3, repP_mono hk hr p _ (hs (k, n, p) List.mem_cons_self) h4, repEs_mono hk hr l es' (fun x hx => hs x (List.mem_cons_of_mem _ hx)) h5⟩

theorem RowC.ne_dead {a b : Row} (h : RowC a b) (hb : b ≠ .dead) : a ≠ .dead := by
  cases a <;> cases b <;> simp_all [RowC]

theorem rowOk_mono {rows rows' : Rows} {β β' : Nat → Loc} {w w' : World} {X X' : Nat → Prop} {S : Nat → Prop} {l : Loc} {r : Row} (hk : KeepX w X w' X')
    (hr : ∀ i, S i → RowC (rows i) (rows' i) ∧ (rows' i ≠ .dead → β' i = β i)) (hs : rowSc S r)
    (hb : ∀ b, rblk l r = some b → w'.heap[b]? = w.heap[b]? ∧ (X b → X' b)) (h : rowOk rows β w X l r) : rowOk rows' β' w' X' l r := by
  cases r with
  | dead => trivial
  | box cells =>
    obtain ⟨b, cs, e, fr, h1, h2, h3, h4, h5, h6⟩ := h
    obtain ⟨k1, k2⟩ := hb b (by simp [rblk, h1])
    exact ⟨b, cs, e, fr, h1, k2 h2, k1.trans h3, h4, repPs_mono hk hr cells _ hs h5, h6⟩
  | own sz el =>
    obtain ⟨h1, h2, h3⟩ := h
    refine ⟨h1, h2, ?_⟩
    rcases h3 with h3 | ⟨b, cs, e, fr, h3, h4, h5, h6, h7, h8, h9⟩
    · exact .inl h3
    · obtain ⟨k1, k2⟩ := hb b (by simp [rblk, h4]; omega)
      exact .inr ⟨b, cs, e, fr, h3, h4, k2 h5, k1.trans h6, h7, h8, repss_mono hk sz el _ h9⟩
  | iter s pos =>
    obtain ⟨b, h1, h2, h3⟩ := h
    obtain ⟨k1, k2⟩ := hb b (by simp [rblk, h1])
    exact ⟨b, h1, k2 h2, k1.trans h3⟩
  | map kd clock ents =>
    obtain ⟨b, es, h1, h2, h3, h4, h5⟩ := h
    obtain ⟨k1, k2⟩ := hb b (by simp [rblk, h1])
    exact ⟨b, es, h1, k2 h2, k1.trans h3, repEs_mono hk hr ents _ hs h4, h5⟩
  | itm src since seen last =>
    obtain ⟨b, mb, h1, h2, h3, h4⟩ := h
    obtain ⟨k1, k2⟩ := hb b (by simp [rblk, h1])
    obtain ⟨c1, c2⟩ := hr src hs
    exact ⟨b, mb, h1, k2 h2, k1.trans h3, fun hd => by rw [c2 hd]; exact h4 (c1.ne_dead hd)⟩

theorem rowOk_blk {rows : Rows} {β : Nat → Loc} {w : World} {X : Nat → Prop} {l : Loc} {r : Row} (h : rowOk rows β w X l r) {b : Nat} (hb : rblk l r = some b) :
    b < w.heap.size ∧ X b := by
  cases r with
  | dead => simp [rblk] at hb
  | box cells =>
    obtain ⟨b', cs, e, fr, h1, h2, h3, _⟩ := h
    simp [rblk, h1] at hb; subst hb
    exact ⟨(Array.getElem?_eq_some_iff.1 h3).1, h2⟩
  | own sz el =>
    obtain ⟨h1, h2, h3⟩ := h
    rcases h3 with ⟨h3, _⟩ | ⟨b', cs, e, fr, h3, h4, h5, h6, _⟩
    · simp [rblk, h3] at hb
    · simp [rblk, h4, Nat.ne_of_gt h3] at hb; subst hb
      exact ⟨(Array.getElem?_eq_some_iff.1 h6).1, h5⟩
  | iter s pos =>
    obtain ⟨b', h1, h2, h3⟩ := h
    simp [rblk, h1] at hb; subst hb
    exact ⟨(Array.getElem?_eq_some_iff.1 h3).1, h2⟩
  | map kd clock ents =>
    obtain ⟨b', es, h1, h2, h3, _⟩ := h
    simp [rblk, h1] at hb; subst hb
    exact ⟨(Array.getElem?_eq_some_iff.1 h3).1, h2⟩
  | itm src since seen last =>
    obtain ⟨b', mb, h1, h2, h3, _⟩ := h
    simp [rblk, h1] at hb; subst hb
    exact ⟨(Array.getElem?_eq_some_iff.1 h3).1, h2⟩

/-- a draw: nothing turns -/
theorem Mem.drew {B : Base} {β : Nat → Loc} {X : Nat → Prop} {w w' : World} {rows : Rows} {nx : Nat} (h : Mem B β X w rows nx)
    (hh : w'.heap = w.heap) (h1 : w'.os = w.os) (h2 : w'.tape = w.tape) (h3 : w'.output = w.output) : Mem B β X w' rows nx := by
  have hk : KeepX w X w' X := fun b _ hx => ⟨by rw [hh], hx⟩
  refine ⟨fun i => ?_, h.inj, h.dead, h.sr, h1.trans h.os, h2.trans h.tape, h3.trans h.output, by rw [hh]; exact h.size, fun b hb hl => by rw [hh]; exact h.keep b hb hl, h.xs, h.lent, h.fx, h.kln, h.lk⟩
  exact rowOk_mono (S := (· < nx)) hk (fun i _ => ⟨RowC.refl _, fun _ => rfl⟩) (h.sr i) (fun b _ => ⟨by rw [hh], fun x => x⟩) (h.ok i)

theorem KeepX.heap {w w' : World} {X : Nat → Prop} (hh : w'.heap = w.heap) : KeepX w X w' X := fun b _ hx => ⟨by rw [hh], hx⟩

theorem heap_push_old (w : World) (o : Obj) {b : Nat} (h : b < w.heap.size) : (w.heap.push o)[b]? = w.heap[b]? := by
  rw [Array.getElem?_push, if_neg (by omega)]

theorem KeepX.alloc {w w' : World} {X : Nat → Prop} {o : Obj} (hh : w'.heap = w.heap.push o) : KeepX w X w' (fun b => X b ∨ b = w.heap.size) :=
  fun b hb hx => ⟨by rw [hh, heap_push_old w o hb], by simp [hx]; omega⟩

/-- a new block is a new row -/
theorem Mem.alloc {B : Base} {β : Nat → Loc} {X : Nat → Prop} {w w' : World} {rows : Rows} {nx : Nat} (h : Mem B β X w rows nx) (o : Obj) (l : Loc) (r : Row)
    (hh : w'.heap = w.heap.push o) (h1 : w'.os = w.os) (h2 : w'.tape = w.tape) (h3 : w'.output = w.output)
    (hr : rowOk (upd rows nx r) (upd β nx l) w' (fun b => X b ∨ b = w.heap.size) l r) (hb : ∀ b, rblk l r = some b → b = w.heap.size)
    (hs : rowSc (· < nx) r) :
    Mem B (upd β nx l) (fun b => X b ∨ b = w.heap.size) w' (upd rows nx r) (nx + 1) := by
  have hk := KeepX.alloc (X := X) hh
  have hC : ∀ i, i < nx → RowC (rows i) (upd rows nx r i) ∧ (upd rows nx r i ≠ .dead → upd β nx l i = β i) := fun i hi => by
    rw [upd_ne _ _ (by omega), upd_ne _ _ (by omega)]; exact ⟨RowC.refl _, fun _ => rfl⟩
  have hlt : ∀ i b, rblk (β i) (rows i) = some b → b < w.heap.size := fun i b hb => (rowOk_blk (h.ok i) hb).1
  refine ⟨fun i => ?_, fun i j b hi hj => ?_, fun i hi => ?_, fun i => ?_, h1.trans h.os, h2.trans h.tape, h3.trans h.output, ?_, fun b hb hl => ?_, fun b hb hx => ?_, fun i b hi hlt0 => ?_, fun b h0 h1 h2 => .inl (h.fx b h0 h1 h2), Nat.le_succ_of_le h.kln, fun i hi => by have := h.kln; rw [upd_ne _ _ (by omega), upd_ne _ _ (by omega)]; exact h.lk i hi⟩
  · by_cases hi : i = nx
    · subst hi; rw [upd_same, upd_same]; exact hr
    · rw [upd_ne _ _ hi, upd_ne _ _ hi]
      refine rowOk_mono (S := (· < nx)) hk hC (h.sr i) (fun b hb => ⟨?_, fun x => .inl x⟩) (h.ok i)
      rw [hh, heap_push_old w o (hlt i b hb)]
  · by_cases hi' : i = nx <;> by_cases hj' : j = nx
    · omega
    · subst hi'; rw [upd_same, upd_same] at hi; rw [upd_ne _ _ hj', upd_ne _ _ hj'] at hj
      have := hb b hi; have := hlt j b hj; omega
    · subst hj'; rw [upd_same, upd_same] at hj; rw [upd_ne _ _ hi', upd_ne _ _ hi'] at hi
      have := hb b hj; have := hlt i b hi; omega
    · rw [upd_ne _ _ hi', upd_ne _ _ hi'] at hi; rw [upd_ne _ _ hj', upd_ne _ _ hj'] at hj
      exact h.inj i j b hi hj
  · rw [upd_ne _ _ (by omega)]; exact h.dead i (by omega)
  · by_cases hi : i = nx
    · subst hi; rw [upd_same]; exact rowSc.mono (fun _ k => by omega) _ hs
    · rw [upd_ne _ _ hi]; exact rowSc.mono (fun _ k => by omega) _ (h.sr i)
  · rw [hh]; have := h.size; simp; omega
  · rw [hh, heap_push_old w o (by have := h.size; omega)]; exact h.keep b hb hl
  · rcases hx with hx | hx
    · exact h.xs b hb hx
    · have := h.size; omega
  · by_cases hi' : i = nx
    · subst hi'; rw [upd_same, upd_same] at hi; have := hb b hi; have := h.size; omega
    · rw [upd_ne _ _ hi', upd_ne _ _ hi'] at hi; exact h.lent i b hi hlt0

/-- a new row without a block -/
theorem Mem.new0 {B : Base} {β : Nat → Loc} {X : Nat → Prop} {w : World} {rows : Rows} {nx : Nat} (h : Mem B β X w rows nx) (a : Option Addr) (sz : Nat) :
    Mem B (upd β nx ⟨a, 0⟩) X w (upd rows nx (.own sz [])) (nx + 1) := by
  have hk := KeepX.refl w X
  have hC : ∀ i, i < nx → RowC (rows i) (upd rows nx (.own sz []) i) ∧ (upd rows nx (.own sz []) i ≠ .dead → upd β nx ⟨a, 0⟩ i = β i) := fun i hi => by
    rw [upd_ne _ _ (by omega), upd_ne _ _ (by omega)]; exact ⟨RowC.refl _, fun _ => rfl⟩
  refine ⟨fun i => ?_, fun i j b hi hj => ?_, fun i hi => ?_, fun i => ?_, h.os, h.tape, h.output, h.size, h.keep, h.xs, fun i b hi hlt0 => ?_, h.fx, Nat.le_succ_of_le h.kln, fun i hi => by have := h.kln; rw [upd_ne _ _ (by omega), upd_ne _ _ (by omega)]; exact h.lk i hi⟩
  · by_cases hi : i = nx
    · subst hi; rw [upd_same, upd_same]; exact ⟨by simp, by simp, .inl ⟨rfl, rfl⟩⟩
    · rw [upd_ne _ _ hi, upd_ne _ _ hi]
      exact rowOk_mono (S := (· < nx)) hk hC (h.sr i) (fun b hb => ⟨rfl, fun x => x⟩) (h.ok i)
  · by_cases hi' : i = nx
    · subst hi'; rw [upd_same, upd_same] at hi; simp [rblk] at hi
    · by_cases hj' : j = nx
      · subst hj'; rw [upd_same, upd_same] at hj; simp [rblk] at hj
      · rw [upd_ne _ _ hi', upd_ne _ _ hi'] at hi; rw [upd_ne _ _ hj', upd_ne _ _ hj'] at hj
        exact h.inj i j b hi hj
  · rw [upd_ne _ _ (by omega)]; exact h.dead i (by omega)
  · by_cases hi : i = nx
    · subst hi; rw [upd_same]; trivial
    · rw [upd_ne _ _ hi]; exact rowSc.mono (fun _ k => by omega) _ (h.sr i)
  · by_cases hi' : i = nx
    · subst hi'; rw [upd_same, upd_same] at hi; simp [rblk] at hi
    · rw [upd_ne _ _ hi', upd_ne _ _ hi'] at hi; exact h.lent i b hi hlt0

/-- a row is forgotten -/
theorem Mem.kill {B : Base} {β : Nat → Loc} {X : Nat → Prop} {w : World} {rows : Rows} {nx : Nat} (h : Mem B β X w rows nx) (k : Nat) :
    Mem B β X w (upd rows k .dead) nx := by
  have hk := KeepX.refl w X
  have hC : ∀ i, i < nx → RowC (rows i) (upd rows k .dead i) ∧ (upd rows k .dead i ≠ .dead → β i = β i) := fun i hi => by
    refine ⟨?_, fun _ => rfl⟩
    by_cases hi : i = k
    · subst hi; rw [upd_same]; cases rows i <;> simp [RowC]
    · rw [upd_ne _ _ hi]; exact RowC.refl _
  have hbl : ∀ i b, rblk (β i) (upd rows k .dead i) = some b → rblk (β i) (rows i) = some b := fun i b hb => by
    by_cases hi : i = k
    · subst hi; rw [upd_same] at hb; simp [rblk] at hb
    · rwa [upd_ne _ _ hi] at hb
  refine ⟨fun i => ?_, fun i j b hi hj => h.inj i j b (hbl i b hi) (hbl j b hj), fun i hi => ?_, fun i => ?_, h.os, h.tape, h.output, h.size, h.keep, h.xs, fun i b hi hlt0 => h.lent i b (hbl i b hi) hlt0, h.fx, h.kln, fun i hi => ⟨(h.lk i hi).1.trans (hC i (by have := h.kln; omega)).1, fun hd => (h.lk i hi).2 fun h0 => hd (by have := (hC i (by have := h.kln; omega)).1; rw [h0] at this; cases hu : upd rows k .dead i <;> rw [hu] at this <;> simp [RowC] at this ⊢)⟩⟩
  · by_cases hi : i = k
    · subst hi; rw [upd_same]; trivial
    · rw [upd_ne _ _ hi]
      exact rowOk_mono (S := (· < nx)) hk hC (h.sr i) (fun b hb => ⟨rfl, fun x => x⟩) (h.ok i)
  · by_cases hi' : i = k
    · subst hi'; rw [upd_same]
    · rw [upd_ne _ _ hi']; exact h.dead i hi
  · by_cases hi : i = k
    · subst hi; rw [upd_same]; trivial
    · rw [upd_ne _ _ hi]; exact h.sr i

/-- the block of a row is written -/
theorem Mem.write {B : Base} {β : Nat → Loc} {X : Nat → Prop} {w w' : World} {rows : Rows} {nx : Nat} (h : Mem B β X w rows nx) (k b : Nat) (o : Obj) (r : Row)
    (hb : rblk (β k) (rows k) = some b) (hh : w'.heap = w.heap.setIfInBounds b o) (h1 : w'.os = w.os) (h2 : w'.tape = w.tape) (h3 : w'.output = w.output)
    (hc : RowC (rows k) r) (hrb : ∀ c, rblk (β k) r = some c → c = b)
    (hr : (∀ i, i < nx → RowC (rows i) (upd rows k r i) ∧ (upd rows k r i ≠ .dead → β i = β i)) → KeepX w X w' X → rowOk (upd rows k r) β w' X (β k) r)
    (hs : rowSc (· < nx) r) :
    Mem B β X w' (upd rows k r) nx ∧ KeepX w X w' X ∧ (∀ i, i < nx → RowC (rows i) (upd rows k r i) ∧ (upd rows k r i ≠ .dead → β i = β i)) := by
  have hbX := rowOk_blk (h.ok k) hb
  have hold : ∀ c, c ≠ b → w'.heap[c]? = w.heap[c]? := fun c hcb => by
    rw [hh, Array.getElem?_setIfInBounds]; rw [if_neg (Ne.symm hcb)]
  have hk : KeepX w X w' X := fun c _ hx => ⟨hold c (fun e => hx (e ▸ hbX.2)), hx⟩
  have hC : ∀ i, i < nx → RowC (rows i) (upd rows k r i) ∧ (upd rows k r i ≠ .dead → β i = β i) := fun i hi => by
    refine ⟨?_, fun _ => rfl⟩
    by_cases hi : i = k
    · subst hi; rw [upd_same]; exact hc
    · rw [upd_ne _ _ hi]; exact RowC.refl _
  have hbl : ∀ i c, rblk (β i) (upd rows k r i) = some c → rblk (β i) (rows i) = some c := fun i c hcc => by
    by_cases hi : i = k
    · subst hi; rw [upd_same] at hcc; rw [hrb c hcc]; exact hb
    · rwa [upd_ne _ _ hi] at hcc
  have hkn : k < nx := by
    rcases Nat.lt_or_ge k nx with hlt | hge
    · exact hlt
    · rw [h.dead k hge] at hb; simp [rblk] at hb
  refine ⟨⟨fun i => ?_, fun i j c hi hj => h.inj i j c (hbl i c hi) (hbl j c hj), fun i hi => ?_, fun i => ?_, h1.trans h.os, h2.trans h.tape, h3.trans h.output, by rw [hh]; simpa using h.size, fun c hcc hl => ?_, h.xs, fun i c hi hlt0 => h.lent i c (hbl i c hi) hlt0, h.fx, h.kln, fun i hi => ⟨(h.lk i hi).1.trans (hC i (by have := h.kln; omega)).1, fun hd => (h.lk i hi).2 fun h0 => hd (by have := (hC i (by have := h.kln; omega)).1; rw [h0] at this; cases hu : upd rows k r i <;> rw [hu] at this <;> simp [RowC] at this ⊢)⟩⟩, hk, hC⟩
  · by_cases hi : i = k
    · subst hi; rw [upd_same]; exact hr hC hk
    · rw [upd_ne _ _ hi]
      refine rowOk_mono (S := (· < nx)) hk hC (h.sr i) (fun c hcc => ⟨hold c ?_, fun x => x⟩) (h.ok i)
      intro e; subst e; exact hi (h.inj i k c hcc hb)
  · rw [upd_ne _ _ (by omega)]; exact h.dead i hi
  · by_cases hi : i = k
    · subst hi; rw [upd_same]; exact hs
    · rw [upd_ne _ _ hi]; exact h.sr i
  · rw [hold c ?_]; · exact h.keep c hcc hl
    intro e; subst e; exact hl (h.lent k c hb hcc)
end Go.AM

namespace Go.AM
open Go

/-- what an operation does: a side condition, its value, rows that turn, how many ids are new -/
structure Eff where
  ok : Prop
  val : PV
  upds : List (Nat × Row)
  nn : Nat

def Eff.pure (p : PV) : Eff := { ok := True, val := p, upds := [], nn := 0 }
def Eff.pureIf (c : Prop) (p : PV) : Eff := { ok := c, val := p, upds := [], nn := 0 }

def updRows (rows : Rows) : List (Nat × Row) → Rows
  | [] => rows
  | (i, r) :: l => updRows (upd rows i r) l

def St.after (s : St) (e : Eff) : St := { s with rows := updRows s.rows e.upds, nx := s.nx + e.nn }
def St.put (s : St) (d : Option Nat) (p : PV) : St := match d with | some d => { s with regs := upd s.regs d p } | none => s

def OpSound (P : Program) (o : Oper) (s : St) (e : Eff) : Prop :=
  ∀ B β X w a, SRel B β X w a s → e.ok → ∃ v w' β' X', ((execOp a.eval o).run P w = .ok (.value v) w' ∨ ((execOp a.eval o).run P w = .ok .skip w' ∧ v = undef)) ∧
    SRel B β' X' w' a (s.after e) ∧ repP (s.after e).rows β' w' X' e.val v ∧ Sc (· < s.nx + e.nn) e.val

theorem St.after_pure (s : St) (c : Prop) (p : PV) : s.after (Eff.pureIf c p) = s := rfl

theorem sound_pure {P : Program} {o : Oper} {s : St} {c : Prop} {p : PV}
    (h : ∀ B β X w a, SRel B β X w a s → c → ∃ v, (execOp a.eval o).run P w = .ok (.value v) w ∧ repP s.rows β w X p v ∧ Sc (· < s.nx) p) : OpSound P o s (Eff.pureIf c p) := by
  intro B β X w a hr hc
  obtain ⟨v, h1, h2, h3⟩ := h B β X w a hr hc
  exact ⟨v, w, β, X, .inl h1, hr, h2, h3⟩

def ofVal : Value → PV
  | .agg cs => if cs.toList.all oc then .d (.agg (cs.toList.map .lit)) else .any
  | v => .d (.lit v)

def ev (regs : Nat → PV) : Operand → PV
  | .tmp t => regs t
  | .const v => ofVal v
  | .global _ => .any
  | .func f => .clo (.func f) [] []

theorem reps_lits (w : World) (X : Nat → Prop) : ∀ (vs : List Value), vs.all oc = true → reps w X (vs.map .lit) vs
  | [], _ => by simp [reps]
  | v :: vs, h => by
    simp only [List.all_cons, Bool.and_eq_true] at h
    simp only [List.map_cons]
    unfold reps
    exact ⟨v, vs, rfl, h.1, by simp [rep], reps_lits w X vs h.2⟩

theorem ofVal_ok (rows : Rows) (β : Nat → Loc) (w : World) (X : Nat → Prop) (v : Value) : repP rows β w X (ofVal v) v := by
  cases v with
  | agg cs =>
    simp only [ofVal]
    split
    · rename_i h
      unfold repP rep
      exact ⟨cs.toList, by simp, reps_lits w X _ h⟩
    · unfold repP; trivial
  | _ => simp [ofVal, repP, rep]

theorem Sc_ofVal (S : Nat → Prop) (v : Value) : Sc S (ofVal v) := by
  cases v <;> simp only [ofVal] <;> (try split) <;> trivial

theorem SRel.ev {B : Base} {β : Nat → Loc} {X : Nat → Prop} {w : World} {a : Act} {s : St} (h : SRel B β X w a s) (x : Operand) :
    repP s.rows β w X (ev s.regs x) (a.eval x) ∧ Sc (· < s.nx) (AM.ev s.regs x) := by
  cases x with
  | tmp t => exact ⟨h.rg t, h.sc t⟩
  | const v => exact ⟨ofVal_ok _ _ _ _ _, Sc_ofVal _ _⟩
  | global g => exact ⟨by simp [AM.ev, repP], trivial⟩
  | func f => exact ⟨by simp only [AM.ev, repP, Act.eval]; exact ⟨[], [], rfl, by simp [repPs], by simp [repPs]⟩, ⟨trivial, trivial⟩⟩

theorem SRel.lit {B : Base} {β : Nat → Loc} {X : Nat → Prop} {w : World} {a : Act} {s : St} (h : SRel B β X w a s) {x : Operand} {v : Value} (e : AM.ev s.regs x = .d (.lit v)) :
    a.eval x = v := by
  have := (h.ev x).1
  rw [e] at this
  simpa [repP, rep] using this

/-! ## values -/

def evBits (op : BinOp) (k : IntKind) (a b : Int) : Int :=
  k.wrap (match op with
    | .and => (BitVec.ofInt k.bits a &&& BitVec.ofInt k.bits b).toNat
    | .or => (BitVec.ofInt k.bits a ||| BitVec.ofInt k.bits b).toNat
    | .xor => (BitVec.ofInt k.bits a ^^^ BitVec.ofInt k.bits b).toNat
    | _ => (BitVec.ofInt k.bits a &&& ~~~ BitVec.ofInt k.bits b).toNat)

/-- numbers of one kind -/
def evInt (op : BinOp) (k : IntKind) (a b : Int) : Option (Prop × Value) :=
  match op with
  | .add => some (True, .int k (k.wrap (a + b)))
  | .sub => some (True, .int k (k.wrap (a - b)))
  | .mul => some (True, .int k (k.wrap (a * b)))
  | .quo => some (b ≠ 0, .int k (k.wrap (a.tdiv b)))
  | .rem => some (b ≠ 0, .int k (a.tmod b))
  | .and => some (True, .int k (evBits .and k a b))
  | .or => some (True, .int k (evBits .or k a b))
  | .xor => some (True, .int k (evBits .xor k a b))
  | .andNot => some (True, .int k (evBits .andNot k a b))
  | .eql => some (True, .bool (a == b))
  | .neq => some (True, .bool (a != b))
  | .lss => some (True, .bool (a < b))
  | .leq => some (True, .bool (a ≤ b))
  | .gtr => some (True, .bool (b < a))
  | .geq => some (True, .bool (b ≤ a))
  | _ => none

def evStr (op : BinOp) (x y : ByteArray) : Option (Prop × Value) :=
  match op with
  | .add => some (x.size + y.size ≤ 9223372036854775807, .string (x ++ y))
  | .eql => some (True, .bool (x.toList == y.toList))
  | .neq => some (True, .bool (!(x.toList == y.toList)))
  | .lss => some (True, .bool (Op.bytesLess x.toList y.toList))
  | .leq => some (True, .bool (Op.bytesLess x.toList y.toList || x.toList == y.toList))
  | .gtr => some (True, .bool (!(Op.bytesLess x.toList y.toList || x.toList == y.toList)))
  | .geq => some (True, .bool (!(Op.bytesLess x.toList y.toList)))
  | _ => none

def evBin (op : BinOp) (x y : Value) : Option (Prop × Value) :=
  match x, y with
  | .int k a, .int k' b =>
    match op with
    | .shl => some (0 ≤ b, .int k (k.wrap (a * 2 ^ (min b.toNat k.bits))))
    | .shr => some (0 ≤ b, .int k (a.fdiv (2 ^ (min b.toNat k.bits))))
    | op => if k = k' then evInt op k a b else none
  | .string a, .string b => evStr op a b
  | _, _ => none

theorem evBin_ok {P : Program} {op : BinOp} {t : TypeId} {x y : Value} {c : Prop} {v : Value} (h : evBin op x y = some (c, v)) (hc : c) (w : World) :
    (binOp op t x y).run P w = .ok v w := by
  unfold evBin at h
  split at h
  · rename_i k a k' b
    split at h
    · simp only [Option.some.injEq, Prod.mk.injEq] at h
      obtain ⟨rfl, rfl⟩ := h
      simp [binOp, Op.shift, Int.not_lt.2 hc]
    · simp only [Option.some.injEq, Prod.mk.injEq] at h
      obtain ⟨rfl, rfl⟩ := h
      simp [binOp, Op.shift, Int.not_lt.2 hc]
    · rename_i n1 n2
      split at h
      · rename_i hk
        subst hk
        cases op <;> simp only [evInt, Option.some.injEq, Prod.mk.injEq, reduceCtorEq] at h <;> (try obtain ⟨rfl, rfl⟩ := h) <;>
          first
            | (exact absurd rfl n1)
            | (exact absurd rfl n2)
            | (simp [binOp, Op.intArith, Op.intBits, Op.intCmp, evBits]; done)
            | (have hc' : ¬ b = 0 := hc; simp [binOp, Op.intDiv, hc']; done)
            | (simp [binOp, Op.intArith, Op.intBits, Op.intCmp, evBits, GT.gt, GE.ge]; done)
      · cases h
  · rename_i a b
    cases op <;> simp only [evStr, Option.some.injEq, Prod.mk.injEq, reduceCtorEq] at h <;> (try obtain ⟨rfl, rfl⟩ := h) <;>
      first
        | (simp [binOp, Op.stringOp]; done)
        | (have hc' : ¬ (IntKind.i64.max < ((a.size + b.size : Nat) : Int)) := by
            simp only [IntKind.max, IntKind.signed, IntKind.bits]; simp; omega
           simp only [binOp, Op.stringOp, gt_iff_lt, if_neg hc']; rfl)
  · cases h
end Go.AM

namespace Go.AM
open Go

/-! ## types -/
inductive TK where
  | bool | int (k : IntKind) | string | slice (e : TypeId) | array (n : Nat) (e : TypeId) | struct (fs : List (Nat × TypeId)) | pointer (e : TypeId) | func | iface | map (k e : TypeId) | other

structure Ty where
  k : TK
  size : Nat
  bytes : Nat
  zero : Option Value

def tkOf : TypeDesc → TK
  | .bool => .bool
  | .int k => .int k
  | .string => .string
  | .slice e => .slice e
  | .array n e => .array n e
  | .struct fs => .struct (fs.toList.map fun f => (f.offset, f.type))
  | .pointer e => .pointer e
  | .func _ _ _ => .func
  | .interface _ => .iface
  | .map k e => .map k e
  | _ => .other

def tyOf (P : Program) (t : TypeId) : Option Ty :=
  match P.info? t, P.underlying t with
  | some i, some u => some { k := tkOf u, size := i.size, bytes := i.bytes, zero := i.zero }
  | _, _ => none

def TK.agg : TK → Bool
  | .array _ _ => true
  | .struct _ => true
  | _ => false

theorem tyOf_spec {P : Program} {t : TypeId} {ty : Ty} (h : tyOf P t = some ty) :
    ∃ i u, P.info? t = some i ∧ P.underlying t = some u ∧ ty.k = tkOf u ∧ ty.size = i.size ∧ ty.bytes = i.bytes ∧ ty.zero = i.zero := by
  unfold tyOf at h
  split at h
  · rename_i i u h1 h2
    simp only [Option.some.injEq] at h
    subst h
    exact ⟨i, u, h1, h2, rfl, rfl, rfl, rfl⟩
  · cases h

section
variable {P : Program} {t : TypeId} {ty : Ty}
theorem tyOf_slice (h : tyOf P t = some ty) {e : TypeId} (hk : ty.k = .slice e) : P.underlying t = some (.slice e) := by
  obtain ⟨i, u, _, h2, h3, _⟩ := tyOf_spec h
  rw [h2]; rw [h3] at hk
  cases u <;> simp [tkOf] at hk ⊢; exact hk
theorem tyOf_map (h : tyOf P t = some ty) {k e : TypeId} (hk : ty.k = .map k e) : P.underlying t = some (.map k e) := by
  obtain ⟨i, u, _, h2, h3, _⟩ := tyOf_spec h
  rw [h2]; rw [h3] at hk
  cases u <;> simp [tkOf] at hk ⊢; exact hk
theorem tyOf_string (h : tyOf P t = some ty) (hk : ty.k = .string) : P.underlying t = some .string := by
  obtain ⟨i, u, _, h2, h3, _⟩ := tyOf_spec h
  rw [h2]; rw [h3] at hk
  cases u <;> simp [tkOf] at hk ⊢
theorem tyOf_bool (h : tyOf P t = some ty) (hk : ty.k = .bool) : P.underlying t = some .bool := by
  obtain ⟨i, u, _, h2, h3, _⟩ := tyOf_spec h
  rw [h2]; rw [h3] at hk
  cases u <;> simp [tkOf] at hk ⊢
theorem tyOf_int (h : tyOf P t = some ty) {k : IntKind} (hk : ty.k = .int k) : P.underlying t = some (.int k) := by
  obtain ⟨i, u, _, h2, h3, _⟩ := tyOf_spec h
  rw [h2]; rw [h3] at hk
  cases u <;> simp [tkOf] at hk ⊢; exact hk
theorem tyOf_pointer (h : tyOf P t = some ty) {e : TypeId} (hk : ty.k = .pointer e) : P.underlying t = some (.pointer e) := by
  obtain ⟨i, u, _, h2, h3, _⟩ := tyOf_spec h
  rw [h2]; rw [h3] at hk
  cases u <;> simp [tkOf] at hk ⊢; exact hk
theorem tyOf_array (h : tyOf P t = some ty) {n : Nat} {e : TypeId} (hk : ty.k = .array n e) : P.underlying t = some (.array n e) := by
  obtain ⟨i, u, _, h2, h3, _⟩ := tyOf_spec h
  rw [h2]; rw [h3] at hk
  cases u <;> simp [tkOf] at hk ⊢; exact hk
theorem tyOf_struct (h : tyOf P t = some ty) {fs : List (Nat × TypeId)} (hk : ty.k = .struct fs) : ∃ gs : Array Field, P.underlying t = some (.struct gs) ∧ fs = gs.toList.map fun f => (f.offset, f.type) := by
  obtain ⟨i, u, _, h2, h3, _⟩ := tyOf_spec h
  rw [h2]; rw [h3] at hk
  cases u with
  | struct gs => simp only [tkOf, TK.struct.injEq] at hk; exact ⟨gs, rfl, hk.symm⟩
  | _ => simp [tkOf] at hk
theorem tyOf_size (h : tyOf P t = some ty) (w : World) : (sizeOf t).run P w = .ok ty.size w := by
  obtain ⟨i, u, h1, h2, h3, h4, _⟩ := tyOf_spec h
  simp [sizeOf, typeInfo, h1, h4]
theorem tyOf_agg (h : tyOf P t = some ty) (w : World) : (isAgg t).run P w = .ok ty.k.agg w := by
  obtain ⟨i, u, h1, h2, h3, h4, _⟩ := tyOf_spec h
  simp only [isAgg, Sem.run_bind, run_underlying h2, Result.andThen_ok, h3]
  cases u <;> rfl
theorem tyOf_zero (h : tyOf P t = some ty) {z : Value} (hz : ty.zero = some z) (w : World) : (zeroValue t).run P w = .ok z w := by
  obtain ⟨i, u, h1, h2, h3, h4, h5, h6⟩ := tyOf_spec h
  rw [h6] at hz
  simp [zeroValue, typeInfo, h1, hz]
end

/-! ## cells -/
def allD : List PV → Option (List DV)
  | [] => some []
  | .d x :: ps => match allD ps with | some ds => some (x :: ds) | none => none
  | _ => none

theorem allD_eq : ∀ {ps : List PV} {ds : List DV}, allD ps = some ds → ps = ds.map .d
  | [], ds, h => by simp [allD] at h; subst h; rfl
  | .d x :: ps, ds, h => by
    simp only [allD] at h
    split at h
    · rename_i ds' h'
      simp only [Option.some.injEq] at h; subst h
      simp [allD_eq h']
    · cases h
  | .own _ :: ps, ds, h => by simp [allD] at h
  | .win _ _ _ :: ps, ds, h => by simp [allD] at h
  | .ptr _ _ :: ps, ds, h => by simp [allD] at h
  | .eptr _ _ _ :: ps, ds, h => by simp [allD] at h
  | .iptr _ :: ps, ds, h => by simp [allD] at h
  | .clo _ _ _ :: ps, ds, h => by simp [allD] at h
  | .ifc _ _ :: ps, ds, h => by simp [allD] at h
  | .agg _ :: ps, ds, h => by simp [allD] at h
  | .tup _ :: ps, ds, h => by simp [allD] at h
  | .any :: ps, ds, h => by simp [allD] at h

def mkAgg (ps : List PV) : PV := match allD ps with | some ds => .d (.agg ds) | none => .agg ps

theorem repPs_d {rows : Rows} {β : Nat → Loc} {w : World} {X : Nat → Prop} : ∀ {ds : List DV} {vs : List Value}, repPs rows β w X (ds.map .d) vs → (∀ u ∈ vs, oc u = true) → reps w X ds vs
  | [], vs, h, _ => by simpa [repPs, reps] using h
  | d :: ds, vs, h, ho => by
    simp only [List.map_cons] at h
    unfold repPs at h
    obtain ⟨u, us, h1, h2, h3⟩ := h
    subst h1
    unfold reps
    exact ⟨u, us, rfl, ho u (by simp), by simpa [repP] using h2, repPs_d h3 fun x hx => ho x (by simp [hx])⟩

theorem repPs_of_reps {rows : Rows} {β : Nat → Loc} {w : World} {X : Nat → Prop} : ∀ {ds : List DV} {vs : List Value}, reps w X ds vs → repPs rows β w X (ds.map .d) vs
  | [], vs, h => by simpa [repPs, reps] using h
  | d :: ds, vs, h => by
    unfold reps at h
    obtain ⟨u, us, h1, h2, h3, h4⟩ := h
    subst h1
    simp only [List.map_cons]
    unfold repPs
    exact ⟨u, us, rfl, by simpa [repP] using h3, repPs_of_reps h4⟩

theorem Scs_d (S : Nat → Prop) : ∀ (ds : List DV), Scs S (ds.map .d)
  | [] => trivial
  | _ :: ds => ⟨trivial, Scs_d S ds⟩

theorem mkAgg_ok {rows : Rows} {β : Nat → Loc} {w : World} {X : Nat → Prop} {ps : List PV} {vs : List Value} (h : repPs rows β w X ps vs) (ho : ∀ u ∈ vs, oc u = true) :
    repP rows β w X (mkAgg ps) (.agg vs.toArray) := by
  unfold mkAgg
  split
  · rename_i ds hd
    have := allD_eq hd
    subst this
    unfold repP rep
    exact ⟨vs, rfl, repPs_d h ho⟩
  · unfold repP
    exact ⟨vs, rfl, h, ho⟩

theorem Sc_mkAgg {S : Nat → Prop} {ps : List PV} (h : Scs S ps) : Sc S (mkAgg ps) := by
  unfold mkAgg
  split
  · trivial
  · exact h

theorem repPs_length {rows : Rows} {β : Nat → Loc} {w : World} {X : Nat → Prop} : ∀ {ps : List PV} {vs : List Value}, repPs rows β w X ps vs → vs.length = ps.length
  | [], vs, h => by unfold repPs at h; simp [h]
  | c :: cs, vs, h => by
    unfold repPs at h
    obtain ⟨u, us, h1, h2, h3⟩ := h
    simp [h1, repPs_length h3]

theorem repPs_split {rows : Rows} {β : Nat → Loc} {w : World} {X : Nat → Prop} : ∀ {xs ys : List PV} {vs : List Value}, repPs rows β w X (xs ++ ys) vs → repPs rows β w X xs (vs.take xs.length) ∧ repPs rows β w X ys (vs.drop xs.length)
  | [], ys, vs, h => by simpa [repPs] using h
  | c :: cs, ys, vs, h => by
    have h' : repPs rows β w X (c :: (cs ++ ys)) vs := h
    unfold repPs at h'
    obtain ⟨u, us', h1, h3, h4⟩ := h'
    subst h1
    have := repPs_split h4
    simp only [List.length_cons, List.take_succ_cons, List.drop_succ_cons]
    refine ⟨?_, this.2⟩
    unfold repPs
    exact ⟨u, _, rfl, h3, this.1⟩

theorem repPs_append {rows : Rows} {β : Nat → Loc} {w : World} {X : Nat → Prop} : ∀ {xs ys : List PV} {us vs : List Value}, repPs rows β w X xs us → repPs rows β w X ys vs → repPs rows β w X (xs ++ ys) (us ++ vs)
  | [], ys, us, vs, h, k => by unfold repPs at h; subst h; simpa using k
  | c :: cs, ys, us, vs, h, k => by
    unfold repPs at h
    obtain ⟨u, us', h1, h3, h4⟩ := h
    subst h1
    show repPs rows β w X (c :: (cs ++ ys)) (u :: (us' ++ vs))
    unfold repPs
    exact ⟨u, us' ++ vs, rfl, h3, repPs_append h4 k⟩

theorem repPs_take {rows : Rows} {β : Nat → Loc} {w : World} {X : Nat → Prop} {ps : List PV} {vs : List Value} (k : Nat) (h : repPs rows β w X ps vs) : repPs rows β w X (ps.take k) (vs.take k) := by
  have hl := repPs_length h
  by_cases hk : k ≤ ps.length
  · have := (repPs_split (xs := ps.take k) (ys := ps.drop k) (by rw [List.take_append_drop]; exact h)).1
    rwa [List.length_take, Nat.min_eq_left hk] at this
  · have e1 : ps.take k = ps := List.take_of_length_le (by omega)
    have e2 : vs.take k = vs := List.take_of_length_le (by omega)
    rw [e1, e2]; exact h

theorem repPs_drop {rows : Rows} {β : Nat → Loc} {w : World} {X : Nat → Prop} {ps : List PV} {vs : List Value} (k : Nat) (h : repPs rows β w X ps vs) : repPs rows β w X (ps.drop k) (vs.drop k) := by
  have hl := repPs_length h
  by_cases hk : k ≤ ps.length
  · have := (repPs_split (xs := ps.take k) (ys := ps.drop k) (by rw [List.take_append_drop]; exact h)).2
    rwa [List.length_take, Nat.min_eq_left hk] at this
  · have e1 : ps.drop k = [] := List.drop_of_length_le (by omega)
    have e2 : vs.drop k = [] := List.drop_of_length_le (by omega)
    rw [e1, e2]; simp [repPs]

theorem Scs.append {S : Nat → Prop} {xs ys : List PV} (h : Scs S xs) (k : Scs S ys) : Scs S (xs ++ ys) :=
  Scs.of_mem fun p hp => (List.mem_append.1 hp).elim (Scs.mem h p) (Scs.mem k p)
theorem Scs.take {S : Nat → Prop} {xs : List PV} (k : Nat) (h : Scs S xs) : Scs S (xs.take k) := Scs.of_mem fun p hp => Scs.mem h p (List.mem_of_mem_take hp)
theorem Scs.drop {S : Nat → Prop} {xs : List PV} (k : Nat) (h : Scs S xs) : Scs S (xs.drop k) := Scs.of_mem fun p hp => Scs.mem h p (List.mem_of_mem_drop hp)

/-- the cells of a value -/
def cellsP (rows : Rows) : PV → Option (List PV)
  | .agg ps => some ps
  | .d (.agg cs) => some (cs.map .d)
  | .d (.lit v) => if oc v then some [.d (.lit v)] else none
  | .d (.sl sz el) => some [.d (.sl sz el)]
  | .own i => match rows i with | .own _ _ => some [.own i] | .box _ => some [.own i] | _ => none
  | .win i off m => match rows i with | .own _ _ => some [.win i off m] | .box _ => some [.win i off m] | _ => none
  | .ptr i off => match rows i with | .dead => none | _ => some [.ptr i off]
  | .mp i => match rows i with | .dead => none | _ => some [.mp i]
  | .clo f a b => some [.clo f a b]
  | .ifc t x => some [.ifc t x]
  | _ => none

theorem cells_one {v : Value} (h : oc v = true) : v.cells = #[v] := by cases v <;> simp [oc] at h <;> rfl

theorem cellsP_ok {rows : Rows} {β : Nat → Loc} {w : World} {X : Nat → Prop} {S : Nat → Prop} {p : PV} {v : Value} {ps : List PV} (h : repP rows β w X p v) (hs : Sc S p) (hc : cellsP rows p = some ps) :
    repPs rows β w X ps v.cells.toList ∧ (∀ u ∈ v.cells.toList, oc u = true) ∧ Scs S ps := by
  have one : ∀ {q : PV} {u : Value}, repP rows β w X q u → oc u = true → repPs rows β w X [q] u.cells.toList ∧ (∀ x ∈ u.cells.toList, oc x = true) := fun {q u} hq ho => by
    rw [cells_one ho]
    refine ⟨?_, by simpa using ho⟩
    unfold repPs
    exact ⟨u, [], rfl, hq, by simp [repPs]⟩
  cases p with
  | agg ps' =>
    simp only [cellsP, Option.some.injEq] at hc; subst hc
    unfold repP at h
    obtain ⟨vs, rfl, h2, h3⟩ := h
    exact ⟨by simpa [Value.cells] using h2, by simpa [Value.cells] using h3, hs⟩
  | d x =>
    cases x with
    | agg cs =>
      simp only [cellsP, Option.some.injEq] at hc; subst hc
      unfold repP rep at h
      obtain ⟨vs, rfl, h2⟩ := h
      exact ⟨by simpa [Value.cells] using repPs_of_reps h2, by simpa [Value.cells] using reps_oc h2, Scs_d _ _⟩
    | lit u =>
      simp only [cellsP] at hc
      split at hc
      · rename_i ho
        simp only [Option.some.injEq] at hc; subst hc
        have : v = u := by simpa [repP, rep] using h
        subst this
        exact ⟨(one h ho).1, (one h ho).2, trivial, trivial⟩
      · cases hc
    | sl sz el =>
      simp only [cellsP, Option.some.injEq] at hc; subst hc
      have h' := h
      unfold repP rep at h'
      obtain ⟨a, cap, vs, rfl, _⟩ := h'
      exact ⟨(one h rfl).1, (one h rfl).2, trivial, trivial⟩
  | own i =>
    simp only [cellsP] at hc
    split at hc
    · rename_i sz el hr
      simp only [Option.some.injEq] at hc; subst hc
      have h' := h
      unfold repP at h'
      have := h'.1 sz el hr
      subst this
      exact ⟨(one h rfl).1, (one h rfl).2, hs, trivial⟩
    · rename_i cells hr
      simp only [Option.some.injEq] at hc; subst hc
      have h' := h
      unfold repP at h'
      have := (h'.2 cells hr).2
      subst this
      exact ⟨(one h rfl).1, (one h rfl).2, hs, trivial⟩
    · cases hc
  | win i off m =>
    simp only [cellsP] at hc
    split at hc
    · rename_i sz el hr
      simp only [Option.some.injEq] at hc; subst hc
      have h' := h
      unfold repP at h'
      obtain ⟨_, rfl⟩ := h'.1 sz el hr
      exact ⟨(one h rfl).1, (one h rfl).2, hs, trivial⟩
    · rename_i cells hr
      simp only [Option.some.injEq] at hc; subst hc
      have h' := h
      unfold repP at h'
      obtain ⟨b, cap, _, rfl, _⟩ := h'.2 cells hr
      exact ⟨(one h rfl).1, (one h rfl).2, hs, trivial⟩
    · cases hc
  | ptr i off =>
    simp only [cellsP] at hc
    split at hc
    · cases hc
    · rename_i hr
      simp only [Option.some.injEq] at hc; subst hc
      have h' := h
      unfold repP at h'
      obtain ⟨b, _, rfl⟩ := h' (fun e => hr e)
      exact ⟨(one h rfl).1, (one h rfl).2, hs, trivial⟩
  | mp i =>
    simp only [cellsP] at hc
    split at hc
    · cases hc
    · rename_i hr
      simp only [Option.some.injEq] at hc; subst hc
      have h' := h
      unfold repP at h'
      obtain ⟨b, _, rfl⟩ := h' (fun e => hr e)
      exact ⟨(one h rfl).1, (one h rfl).2, hs, trivial⟩
  | clo f a b =>
    simp only [cellsP, Option.some.injEq] at hc; subst hc
    have h' := h
    unfold repP at h'
    obtain ⟨fs, cs, rfl, _⟩ := h'
    exact ⟨(one h rfl).1, (one h rfl).2, hs, trivial⟩
  | ifc t x =>
    simp only [cellsP, Option.some.injEq] at hc; subst hc
    have h' := h
    unfold repP at h'
    obtain ⟨u, rfl, _⟩ := h'
    exact ⟨(one h rfl).1, (one h rfl).2, hs, trivial⟩
  | _ => simp [cellsP] at hc
end Go.AM

namespace Go.AM
open Go

/-- n cells at a pointer -/
def getC (rows : Rows) (p : PV) (n : Nat) : Option (List PV) :=
  match p with
  | .ptr i off => match rows i with
    | .box cells => if off + n ≤ cells.length then some ((cells.drop off).take n) else none
    | _ => none
  | .iptr cs => if n ≤ cs.length then some ((cs.take n).map .d) else none
  | .eptr i k c => match rows i with
    | .own _ el => match el[k]? with
      | some e => if c + n ≤ e.length then some (((e.drop c).take n).map .d) else none
      | none => none
    | _ => none
  | _ => none

theorem cell_of_heap {w : World} {b j : Nat} {cs : Array Value} {e : TypeId} {fr : Nat × Nat} (h : w.heap[b]? = some (.cells cs e fr)) : w.cell? ⟨b, j, none⟩ = cs[j]? := by
  simp [World.cell?, h]

theorem reps_take {w : World} {X : Nat → Prop} {xs : List DV} {vs : List Value} (k : Nat) (h : reps w X xs vs) : reps w X (xs.take k) (vs.take k) := by
  have hl := reps_length h
  by_cases hk : k ≤ xs.length
  · have := (reps_split (xs := xs.take k) (ys := xs.drop k) (by rw [List.take_append_drop]; exact h)).1
    rwa [List.length_take, Nat.min_eq_left hk] at this
  · have e1 : xs.take k = xs := List.take_of_length_le (by omega)
    have e2 : vs.take k = vs := List.take_of_length_le (by omega)
    rw [e1, e2]; exact h

theorem reps_drop {w : World} {X : Nat → Prop} {xs : List DV} {vs : List Value} (k : Nat) (h : reps w X xs vs) : reps w X (xs.drop k) (vs.drop k) := by
  have hl := reps_length h
  by_cases hk : k ≤ xs.length
  · have := (reps_split (xs := xs.take k) (ys := xs.drop k) (by rw [List.take_append_drop]; exact h)).2
    rwa [List.length_take, Nat.min_eq_left hk] at this
  · have e1 : xs.drop k = [] := List.drop_of_length_le (by omega)
    have e2 : vs.drop k = [] := List.drop_of_length_le (by omega)
    rw [e1, e2]; simp [reps]

theorem getC_ok {B : Base} {β : Nat → Loc} {X : Nat → Prop} {w : World} {rows : Rows} {nx n : Nat} {p : PV} {v : Value} {ps : List PV} (hm : Mem B β X w rows nx)
    (h : repP rows β w X p v) (hg : getC rows p n = some ps) :
    ∃ b off vs, v = .pointer (some ⟨b, off, none⟩) ∧ repPs rows β w X ps vs ∧ vs.length = n ∧ (∀ u ∈ vs, oc u = true) ∧ Scs (· < nx) ps ∧
      ∀ j u, vs[j]? = some u → w.cell? ⟨b, off + j, none⟩ = some u := by
  cases p with
  | ptr i off =>
    simp only [getC] at hg
    split at hg
    · rename_i cells hi
      split at hg
      · rename_i hle
        simp only [Option.some.injEq] at hg; subst hg
        have hrow := hm.ok i
        rw [hi] at hrow
        obtain ⟨b, cs, e, fr, h1, h2, h3, h4, h5, h6, _⟩ := hrow
        unfold repP at h
        obtain ⟨b', h7, h8⟩ := h (by rw [hi]; simp)
        rw [h1] at h7
        obtain rfl : b = b' := by simpa using h7
        have hl := repPs_length h5
        refine ⟨b, off, ((cs.toList.take cells.length).drop off).take n, h8, repPs_take n (repPs_drop off h5), by simp at hl ⊢; omega, fun u hu => h6 u (List.mem_of_mem_drop (List.mem_of_mem_take hu)), (hm.scr i cells hi).drop off |>.take n, fun j u hu => ?_⟩
        rw [cell_of_heap h3]
        rw [List.getElem?_take] at hu
        split at hu
        · rw [List.getElem?_drop, List.getElem?_take] at hu
          split at hu
          · simpa using hu
          · cases hu
        · cases hu
      · cases hg
    · cases hg
  | iptr cs =>
    simp only [getC] at hg
    split at hg
    · rename_i hle
      simp only [Option.some.injEq] at hg; subst hg
      unfold repP at h
      obtain ⟨b, off, vs, h1, h2, h3, h4, h5⟩ := h
      have hl := reps_length h2
      refine ⟨b, off, vs.take n, h1, repPs_of_reps (reps_take n h2), by simp; omega, fun u hu => reps_oc h2 u (List.mem_of_mem_take hu), Scs_d _ _, fun j u hu => h5 j u ?_⟩
      rw [List.getElem?_take] at hu
      split at hu
      · exact hu
      · cases hu
    · cases hg
  | eptr i k c =>
    simp only [getC] at hg
    split at hg
    · rename_i sz el hi
      split at hg
      · rename_i e he
        split at hg
        · rename_i hle
          simp only [Option.some.injEq] at hg; subst hg
          have hrow := hm.ok i
          rw [hi] at hrow
          obtain ⟨h1, h2, h3⟩ := hrow
          unfold repP at h
          obtain ⟨hk, b', h7, h8⟩ := h sz el hi
          rcases h3 with ⟨_, rfl⟩ | ⟨b, cs, ety, fr, h3, h4, h5, h6, h9, h10, h11⟩
          · simp at hk
          · rw [h4] at h7
            obtain rfl : b = b' := by simpa using h7
            obtain ⟨g1, g2, g3⟩ := repss_get h11 k e he
            rw [List.length_take, Array.length_toList] at g3
            have hr := reps_take n (reps_drop c g2)
            have hrl := reps_length hr
            refine ⟨b, k * sz + c, _, h8, repPs_of_reps hr, by rw [hrl]; simp; omega, reps_oc hr, Scs_d _ _, fun j u hu => ?_⟩
            rw [cell_of_heap h6]
            rw [List.getElem?_take] at hu
            split at hu
            · rw [List.getElem?_drop, List.getElem?_take] at hu
              split at hu
              · rw [List.getElem?_drop, List.getElem?_take] at hu
                split at hu
                · rw [Nat.add_assoc]; simpa using hu
                · cases hu
              · cases hu
            · cases hu
        · cases hg
      · cases hg
    · cases hg
  | _ => simp [getC] at hg

theorem run_loadCells_at {P : Program} {w : World} {b off : Nat} {vs : List Value} (h : ∀ j u, vs[j]? = some u → w.cell? ⟨b, off + j, none⟩ = some u) :
    (loadCells ⟨b, off, none⟩ vs.length).run P w = .ok vs.toArray w :=
  run_loadCells_list w _ vs fun j u hu => by rw [Addr.add_lit]; exact h j u hu

theorem run_load_at {P : Program} {w : World} {a : Addr} {u : Value} (h : w.cell? a = some u) : (load a).run P w = .ok u w := by
  simp [load, Sem.run, h]

def evLoad (P : Program) (rows : Rows) (t : TypeId) (p : PV) : Option PV :=
  match tyOf P t with
  | some ty => match getC rows p ty.size with
    | some ps => if ty.k.agg then some (mkAgg ps) else match ps with | [q] => some q | _ => none
    | none => none
  | none => none

theorem evLoad_ok {P : Program} {B : Base} {β : Nat → Loc} {X : Nat → Prop} {w : World} {rows : Rows} {nx : Nat} {t : TypeId} {p q : PV} {v : Value} (hm : Mem B β X w rows nx)
    (h : repP rows β w X p v) (he : evLoad P rows t p = some q) :
    ∃ u, (Instr.loadAt t v).run P w = .ok u w ∧ repP rows β w X q u ∧ Sc (· < nx) q := by
  unfold evLoad at he
  split at he
  · rename_i ty hty
    split at he
    · rename_i ps hps
      obtain ⟨b, off, vs, h1, h2, h3, h4, h5, h6⟩ := getC_ok hm h hps
      subst h1
      split at he
      · rename_i hagg
        simp only [Option.some.injEq] at he; subst he
        refine ⟨.agg vs.toArray, ?_, mkAgg_ok h2 h4, Sc_mkAgg h5⟩
        simp only [Instr.loadAt, Instr.sureAddr, Sem.run_bind, Sem.run_pure, Result.andThen_ok, loadVar, tyOf_agg hty, hagg, if_true, tyOf_size hty, ← h3, run_loadCells_at h6]
      · rename_i hagg
        split at he
        · rename_i q'
          simp only [Option.some.injEq] at he; subst he
          unfold repPs at h2
          obtain ⟨u, us, rfl, h7, h8⟩ := h2
          have hc := h6 0 u rfl
          refine ⟨u, ?_, h7, h5.1⟩
          simp only [Instr.loadAt, Instr.sureAddr, Sem.run_bind, Sem.run_pure, Result.andThen_ok, loadVar, tyOf_agg hty, hagg]
          exact run_load_at (by simpa using hc)
        · cases he
    · cases he
  · cases he

/-! ## stores -/
def setBlk (w : World) (b : Nat) (o : Obj) : World := { w with heap := w.heap.setIfInBounds b o }

theorem setCell_blk {w : World} {b j : Nat} {cs : Array Value} {e : TypeId} {fr : Nat × Nat} (h : w.heap[b]? = some (.cells cs e fr)) (v : Value) :
    w.setCell ⟨b, j, none⟩ v = setBlk w b (.cells (cs.setIfInBounds j v) e fr) := by
  unfold World.setCell setBlk
  congr 1
  apply Array.ext_getElem?
  intro i
  rw [Array.getElem?_modify, Array.getElem?_setIfInBounds]
  by_cases hi : b = i
  · subst hi
    have hlt := (Array.getElem?_eq_some_iff.1 h).1
    rw [if_pos rfl, if_pos hlt, h]; simp
  · simp [hi]

theorem setBlk_get {w : World} {b : Nat} {o : Obj} (h : b < w.heap.size) : (setBlk w b o).heap[b]? = some o := by
  simp [setBlk, h]

theorem setBlk_setBlk (w : World) (b : Nat) (o o' : Obj) : setBlk (setBlk w b o) b o' = setBlk w b o' := by
  simp [setBlk]

theorem setBlk_self {w : World} {b : Nat} {o : Obj} (h : w.heap[b]? = some o) : setBlk w b o = w := by
  unfold setBlk
  have : w.heap.setIfInBounds b o = w.heap := by
    apply Array.ext_getElem?
    intro i
    rw [Array.getElem?_setIfInBounds]
    by_cases hi : b = i
    · subst hi; have hlt := (Array.getElem?_eq_some_iff.1 h).1; rw [if_pos rfl, if_pos hlt, h]
    · simp [hi]
  rw [this]

theorem splice_step {α : Type} (l : List α) (k : Nat) (v : α) (vs : List α) (h : k + 1 + vs.length ≤ l.length) :
    (l.set k v).take (k + 1) ++ vs ++ (l.set k v).drop (k + 1 + vs.length) = l.take k ++ (v :: vs) ++ l.drop (k + (vs.length + 1)) := by
  have e : l.set k v = l.take k ++ v :: l.drop (k + 1) := by rw [List.set_eq_take_append_cons_drop, if_pos (by omega)]
  have hl : (l.take k).length = k := by simp; omega
  rw [e, List.take_append, List.take_of_length_le (by omega), hl, show k + 1 - k = 1 from by omega]
  rw [List.drop_append, List.drop_of_length_le (l := l.take k) (by omega), hl, show k + 1 + vs.length - k = vs.length + 1 from by omega]
  simp only [List.take_succ_cons, List.take_zero, List.nil_append, List.drop_succ_cons, List.drop_drop]
  rw [show k + 1 + vs.length = k + (vs.length + 1) from by omega]
  simp

theorem run_storeCells {P : Program} {b off : Nat} {e : TypeId} {fr : Nat × Nat} : ∀ (vs : List Value) (i : Nat) (cs : Array Value) (w : World), w.heap[b]? = some (.cells cs e fr) →
    Thaw fr cs.size → off + i + vs.length ≤ cs.size → (∀ u ∈ vs, oc u = true) →
    (storeCells ⟨b, off, none⟩ vs i).run P w = .ok () (setBlk w b (.cells (cs.toList.take (off + i) ++ vs ++ cs.toList.drop (off + i + vs.length)).toArray e fr))
  | [], i, cs, w, hb, _, hl, _ => by
    simp only [storeCells, List.append_nil, List.length_nil, Nat.add_zero, List.take_append_drop, Array.toArray_toList, setBlk_self hb]
    rfl
  | v :: vs, i, cs, w, hb, ht, hl, ho => by
    simp only [List.length_cons] at hl
    have hi : off + i < cs.size := by omega
    have hov := ho v (by simp)
    have hc : w.cell? ⟨b, off + i, none⟩ = some cs[off + i] := by rw [cell_of_heap hb]; simp [hi]
    have hf : w.frozen? ⟨b, off + i, none⟩ = false := by
      have hnt := ht.2 (off + i) hi
      simp only [World.frozen?, hb]
      rcases fr with ⟨lo, hi'⟩
      simp only at hnt ⊢
      by_cases h1 : lo ≤ off + i <;> simp [h1]
      have := fun h2 => hnt ⟨h1, h2⟩
      omega
    have hst : (store ((⟨b, off, none⟩ : Addr).add i) v).run P w = .ok () (setBlk w b (.cells (cs.setIfInBounds (off + i) v) e fr)) := by
      rw [Addr.add_lit]
      show (Sem.store Mode.plain ⟨b, off + i, none⟩ v (.pure ())).run P w = _
      cases v <;> simp [oc] at hov <;> simp [Sem.run, hc, hf, setCell_blk hb]
    have hlt := (Array.getElem?_eq_some_iff.1 hb).1
    have ih := run_storeCells (P := P) (off := off) vs (i + 1) (cs.setIfInBounds (off + i) v) (setBlk w b (.cells (cs.setIfInBounds (off + i) v) e fr)) (setBlk_get hlt) (by simpa using ht) (by simp; omega) (fun u hu => ho u (by simp [hu]))
    unfold storeCells
    rw [Sem.run_bind, hst]
    simp only [Result.andThen_ok]
    rw [ih, setBlk_setBlk]
    rw [Array.toList_setIfInBounds, show off + (i + 1) = off + i + 1 from rfl, splice_step _ _ _ _ (by simpa using by omega)]
    rw [show off + i + (v :: vs).length = off + i + (vs.length + 1) from rfl]

end Go.AM

namespace Go.AM
open Go

/-! ## store -/
def putC (rows : Rows) (p : PV) (ps : List PV) : Option (Nat × Row) :=
  match p with
  | .ptr i off => match rows i with
    | .box cells => if off + ps.length ≤ cells.length then some (i, .box (cells.take off ++ ps ++ cells.drop (off + ps.length))) else none
    | _ => none
  | .eptr i k c => match rows i with
    | .own sz el => match el[k]?, allD ps with
      | some e, some ds => if c + ds.length ≤ e.length then some (i, .own sz (el.set k (e.take c ++ ds ++ e.drop (c + ds.length)))) else none
      | _, _ => none
    | _ => none
  | _ => none

theorem take_splice {α : Type} (L us : List α) (M K n : Nat) (hn : us.length = n) (hM : M ≤ L.length) (h : K + n ≤ M) :
    List.take M (List.take K L ++ us ++ List.drop (K + n) L) = List.take K (List.take M L) ++ us ++ List.drop (K + n) (List.take M L) := by
  rw [List.take_append, List.take_append, List.take_take, List.take_take, List.length_append, List.length_take, Nat.min_eq_left (show K ≤ L.length by omega), hn,
    List.take_of_length_le (l := us) (by omega), List.drop_take, Nat.min_eq_right (show K ≤ M by omega), Nat.min_eq_left (show K ≤ M by omega)]

theorem splice_elem {α : Type} (L us : List α) (M J c sz n : Nat) (hn : us.length = n) (hM : M ≤ L.length) (h1 : J + sz ≤ M) (h2 : c + n ≤ sz) :
    List.take M (List.take (J + c) L ++ us ++ List.drop (J + c + n) L) =
      List.take J (List.take M L) ++ (List.take c (List.take sz (List.drop J (List.take M L))) ++ us ++ List.drop (c + n) (List.take sz (List.drop J (List.take M L)))) ++
        List.drop (J + sz) (List.take M L) := by
  have e1 : List.take M (List.take (J + c) L ++ us ++ List.drop (J + c + n) L) = List.take (J + c) (List.take M L) ++ us ++ List.drop (J + c + n) (List.take M L) := by
    rw [List.take_append, List.take_append, List.take_take, List.take_take, List.length_append, List.length_take, Nat.min_eq_left (show J + c ≤ L.length by omega), hn,
      List.take_of_length_le (l := us) (by omega), List.drop_take, Nat.min_eq_right (show J + c ≤ M by omega), Nat.min_eq_left (show J + c ≤ M by omega)]
  rw [e1]
  generalize hT : List.take M L = T
  have hTl : T.length = M := by rw [← hT, List.length_take]; omega
  have e2 : List.take (J + c) T = List.take J T ++ List.take c (List.take sz (List.drop J T)) := by
    rw [List.take_take, Nat.min_eq_left (show c ≤ sz by omega), List.take_add]
  have e3 : List.drop (J + c + n) T = List.drop (c + n) (List.take sz (List.drop J T)) ++ List.drop (J + sz) T := by
    rw [show J + c + n = J + (c + n) from by omega, ← List.drop_drop, ← List.drop_drop (i := sz)]
    conv => lhs; rw [← List.take_append_drop sz (List.drop J T)]
    rw [List.drop_append, List.length_take, List.length_drop, Nat.min_eq_left (by omega), show c + n - sz = 0 from by omega]
    simp
  rw [e2, e3]
  simp only [List.append_assoc]

def evStore (P : Program) (rows : Rows) (t : TypeId) (p q : PV) : Option (Nat × Row) :=
  match tyOf P t, cellsP rows q with
  | some ty, some ps => if ps.length = ty.size then putC rows p ps else none
  | _, _ => none

set_option maxHeartbeats 400000 in
theorem evStore_ok {P : Program} {B : Base} {β : Nat → Loc} {X : Nat → Prop} {w : World} {rows : Rows} {nx : Nat} {t : TypeId} {p q : PV} {v u : Value} {i : Nat} {r : Row} (hm : Mem B β X w rows nx)
    (h : repP rows β w X p v) (hq : repP rows β w X q u) (hsq : Sc (· < nx) q) (he : evStore P rows t p q = some (i, r)) :
    ∃ w', (Instr.storeAt t v u).run P w = .ok () w' ∧ Mem B β X w' (upd rows i r) nx ∧ KeepX w X w' X ∧
      (∀ i', i' < nx → RowC (rows i') (upd rows i r i') ∧ (upd rows i r i' ≠ .dead → β i' = β i')) := by
  unfold evStore at he
  split at he
  · rename_i ty ps hty hps
    split at he
    · rename_i hsz
      obtain ⟨c1, c2, c3⟩ := cellsP_ok hq hsq hps
      have cl := repPs_length c1
      have hsz' : u.cells.size = ty.size := by rw [← hsz, ← cl]; simp
      have run0 : ∀ (b off : Nat), v = .pointer (some ⟨b, off, none⟩) → (Instr.storeAt t v u).run P w = (storeCells ⟨b, off, none⟩ u.cells.toList 0).run P w := by
        intro b off hv
        subst hv
        simp only [Instr.storeAt, Instr.sureAddr, Sem.run_bind, Sem.run_pure, Result.andThen_ok, storeVar, tyOf_size hty, hsz']
        simp
      cases p with
      | ptr k off =>
        simp only [putC] at he
        split at he
        · rename_i cells hi
          split at he
          · rename_i hle
            simp only [Option.some.injEq, Prod.mk.injEq] at he
            obtain ⟨rfl, rfl⟩ := he
            have hrow := hm.ok k
            rw [hi] at hrow
            obtain ⟨b, cs, e, fr, h1, h2, h3, h4, h5, h6, h9, h10⟩ := hrow
            unfold repP at h
            obtain ⟨b', h7, h8⟩ := h (by rw [hi]; simp)
            rw [h1] at h7
            obtain rfl : b = b' := by simpa using h7
            have hl := repPs_length h5
            simp only [List.length_take, Array.length_toList] at hl
            have hcl : cells.length ≤ cs.size := by omega
            have hlc : off + u.cells.toList.length ≤ cs.size := by rw [cl]; omega
            have hnl : (cells.take off ++ ps ++ cells.drop (off + ps.length)).length = cells.length := by simp; omega
            have hts : List.take cells.length (cs.toList.take off ++ u.cells.toList ++ cs.toList.drop (off + u.cells.toList.length)) =
                List.take off (cs.toList.take cells.length) ++ u.cells.toList ++ List.drop (off + u.cells.toList.length) (cs.toList.take cells.length) :=
              take_splice cs.toList u.cells.toList cells.length off _ rfl (by simpa using hcl) (by rw [cl]; exact hle)
            have hst := run_storeCells (P := P) (off := off) u.cells.toList 0 cs w h3 (h4.mono (by omega)) (by simpa using hlc) c2
            refine ⟨_, (run0 b off h8).trans hst, ?_⟩
            have hW := Mem.write (w' := setBlk w b (.cells (cs.toList.take (off + 0) ++ u.cells.toList ++ cs.toList.drop (off + 0 + u.cells.toList.length)).toArray e fr)) hm k b _
              (.box (cells.take off ++ ps ++ cells.drop (off + ps.length))) (by rw [hi]; simp [rblk, h1]) rfl rfl rfl rfl (by rw [hi]; exact hnl) (fun c hc => by simp [rblk, h1] at hc; exact hc.symm)
              (fun hC hK => ?_) ?_
            · exact hW
            · have hlt := (Array.getElem?_eq_some_iff.1 h3).1
              refine ⟨b, _, e, fr, h1, h2, setBlk_get hlt, ?_, ?_, ?_, by simp at hlc ⊢; omega, h10⟩
              · exact ⟨h4.1, fun j hj => h4.2 j (by simp at hj hlc; omega)⟩
              · refine repPs_mono hK hC _ _ (Scs.append (Scs.append ((hm.scr k cells hi).take off) c3) ((hm.scr k cells hi).drop _)) ?_
                simp only [Nat.add_zero]
                rw [hnl, hts]
                have := repPs_append (repPs_append (repPs_take off h5) c1) (repPs_drop (off + ps.length) h5)
                rw [← cl] at this ⊢
                exact this
              · intro x hx
                rw [hnl] at hx
                simp only [Nat.add_zero] at hx
                rw [hts] at hx
                simp only [List.append_assoc, List.mem_append] at hx
                rcases hx with hx | hx | hx
                · exact h6 x (List.mem_of_mem_take hx)
                · exact c2 x hx
                · exact h6 x (List.mem_of_mem_drop hx)
            · exact Scs.append (Scs.append ((hm.scr k cells hi).take off) c3) ((hm.scr k cells hi).drop _)
          · cases he
        · cases he
      | eptr k j c =>
        simp only [putC] at he
        split at he
        · rename_i sz el hi
          split at he
          · rename_i e ds hej hds
            split at he
            · rename_i hle
              simp only [Option.some.injEq, Prod.mk.injEq] at he
              obtain ⟨rfl, rfl⟩ := he
              have hps' := allD_eq hds
              subst hps'
              have c1d := repPs_d c1 c2
              have hrow := hm.ok k
              rw [hi] at hrow
              obtain ⟨h1, h2, h3⟩ := hrow
              unfold repP at h
              obtain ⟨hk, b', h7, h8⟩ := h sz el hi
              rcases h3 with ⟨_, rfl⟩ | ⟨b, cs, ety, fr, h3, h4, h5, h6, h9, h10, h11⟩
              · simp at hk
              · rw [h4] at h7
                obtain rfl : b = b' := by simpa using h7
                obtain ⟨g1, g2, g3⟩ := repss_get h11 j e hej
                have hcs : el.length * sz ≤ cs.size := by rw [h10]; exact Nat.mul_le_mul_right _ h1
                have hjs : j * sz + sz ≤ el.length * sz := by
                  have := Nat.mul_le_mul_right sz (show j + 1 ≤ el.length from hk); rw [Nat.add_mul] at this; omega
                have cl' : u.cells.toList.length = ds.length := by rw [cl]; simp
                have hst := run_storeCells (P := P) (off := j * sz + c) u.cells.toList 0 cs w h6 h9 (by rw [cl']; omega) c2
                refine ⟨_, (run0 b _ h8).trans hst, ?_⟩
                have hlt := (Array.getElem?_eq_some_iff.1 h6).1
                have hW := Mem.write (w' := setBlk w b (.cells (cs.toList.take (j * sz + c + 0) ++ u.cells.toList ++ cs.toList.drop (j * sz + c + 0 + u.cells.toList.length)).toArray ety fr)) hm k b _
                  (.own sz (el.set j (e.take c ++ ds ++ e.drop (c + ds.length)))) (by rw [hi]; simp [rblk, h4]; omega) rfl rfl rfl rfl (by rw [hi]; simp [RowC]) (fun c' hc => by simp [rblk, h4] at hc; exact hc.2.symm)
                  (fun hC hK => ?_) trivial
                · exact hW
                · refine ⟨by simpa using h1, h2, .inr ⟨b, _, ety, fr, h3, h4, h5, setBlk_get hlt, ?_, ?_, ?_⟩⟩
                  · exact ⟨h9.1, fun j' hj => h9.2 j' (by simp [cl'] at hj; omega)⟩
                  · simp [cl']; omega
                  · have r1 := reps_take c g2
                    have r2 := reps_drop (c + ds.length) g2
                    have r3 := reps_append (reps_append r1 c1d) r2
                    have r4 := repss_set h11 j _ _ hk (by simp [cl']; omega) r3
                    refine repss_mono hK sz _ _ ?_
                    rw [List.length_set]
                    have : (List.take (el.length * sz) (cs.toList.take (j * sz + c + 0) ++ u.cells.toList ++ cs.toList.drop (j * sz + c + 0 + u.cells.toList.length))) =
                        List.take (j * sz) (List.take (el.length * sz) cs.toList) ++
                          (List.take c (List.take sz (List.drop (j * sz) (List.take (el.length * sz) cs.toList))) ++ u.cells.toList ++
                            List.drop (c + ds.length) (List.take sz (List.drop (j * sz) (List.take (el.length * sz) cs.toList)))) ++
                        List.drop (j * sz + sz) (List.take (el.length * sz) cs.toList) := by
                      simp only [Nat.add_zero, cl']
                      exact splice_elem cs.toList u.cells.toList _ (j * sz) c sz ds.length cl' (by simpa using hcs) (by omega) (by omega)
                    skip
                    rw [this]
                    exact r4
            · cases he
          · cases he
        · cases he
      | _ => simp [putC] at he
    · cases he
  · cases he
end Go.AM

namespace Go.AM
open Go

/-! ## new blocks -/
def wpush (w : World) (o : Obj) : World := { w with heap := w.heap.push o }

theorem wpush_get (w : World) (o : Obj) : (wpush w o).heap[w.heap.size]? = some o := by show (w.heap.push o)[w.heap.size]? = some o; simp

theorem run_newRow {P : Program} (t : TypeId) (cs : Array Value) (w : World) : (newRow t cs).run P w = .ok ⟨w.heap.size, 0, none⟩ (wpush w (.cells cs t)) := by
  simp [newRow, newObj, Sem.run, wpush]

theorem Thaw_zero (n : Nat) : Thaw (0, 0) n := ⟨Nat.le_refl _, fun j _ h => by simp at h⟩

/-- a new box, of which the first cells are told -/
theorem Mem.pbox {B : Base} {β : Nat → Loc} {X : Nat → Prop} {w : World} {rows : Rows} {nx : Nat} (hm : Mem B β X w rows nx) (t : TypeId) (cap : Nat) {cs : Array Value} {ps : List PV}
    (h : repPs rows β w X ps (cs.toList.take ps.length)) (ho : ∀ u ∈ cs.toList.take ps.length, oc u = true) (hs : Scs (· < nx) ps) (hc : cap ≤ cs.size) (hmx : cap ≤ maxLen) :
    ∃ β', Mem B β' (fun b => X b ∨ b = w.heap.size) (wpush w (.cells cs t)) (upd rows nx (.box ps)) (nx + 1) ∧
      repP (upd rows nx (.box ps)) β' (wpush w (.cells cs t)) (fun b => X b ∨ b = w.heap.size) (.ptr nx 0) (.pointer (some ⟨w.heap.size, 0, none⟩)) ∧
      (ps.length ≤ cap → repP (upd rows nx (.box ps)) β' (wpush w (.cells cs t)) (fun b => X b ∨ b = w.heap.size) (.own nx) (.slice (some ⟨w.heap.size, 0, none⟩) ps.length cap)) ∧
      (∀ p v, Sc (· < nx) p → repP rows β w X p v → repP (upd rows nx (.box ps)) β' (wpush w (.cells cs t)) (fun b => X b ∨ b = w.heap.size) p v) := by
  have hk : KeepX w X (wpush w (.cells cs t)) (fun b => X b ∨ b = w.heap.size) := KeepX.alloc rfl
  have hC : ∀ i, i < nx → RowC (rows i) (upd rows nx (.box ps) i) ∧ (upd rows nx (.box ps) i ≠ .dead → upd β nx ⟨some ⟨w.heap.size, 0, none⟩, cap⟩ i = β i) := fun i hi => by
    rw [upd_ne _ _ (by omega), upd_ne _ _ (by omega)]; exact ⟨RowC.refl _, fun _ => rfl⟩
  refine ⟨upd β nx ⟨some ⟨w.heap.size, 0, none⟩, cap⟩, Mem.alloc hm (.cells cs t) _ _ rfl rfl rfl rfl ?_ (fun b hb => by simp [rblk] at hb; exact hb.symm) hs, ?_, fun hle => ?_, fun p v hp h => repP_mono hk hC p v hp h⟩
  · exact ⟨w.heap.size, cs, t, (0, 0), rfl, .inr rfl, wpush_get _ _, Thaw_zero _, repPs_mono hk hC _ _ hs h, ho, hc, hmx⟩
  · unfold repP
    exact fun _ => ⟨w.heap.size, by rw [upd_same], rfl⟩
  · unfold repP
    refine ⟨fun sz' el' he => (by rw [upd_same] at he; cases he), fun cells he => ?_⟩
    rw [upd_same] at he
    cases he
    rw [upd_same]
    exact ⟨hle, rfl⟩

/-- a new box -/
theorem Mem.box {B : Base} {β : Nat → Loc} {X : Nat → Prop} {w : World} {rows : Rows} {nx : Nat} (hm : Mem B β X w rows nx) (t : TypeId) {cs : Array Value} {ps : List PV}
    (h : repPs rows β w X ps cs.toList) (ho : ∀ u ∈ cs.toList, oc u = true) (hs : Scs (· < nx) ps) :
    ∃ β', Mem B β' (fun b => X b ∨ b = w.heap.size) (wpush w (.cells cs t)) (upd rows nx (.box ps)) (nx + 1) ∧
      repP (upd rows nx (.box ps)) β' (wpush w (.cells cs t)) (fun b => X b ∨ b = w.heap.size) (.ptr nx 0) (.pointer (some ⟨w.heap.size, 0, none⟩)) ∧
      (∀ p v, Sc (· < nx) p → repP rows β w X p v → repP (upd rows nx (.box ps)) β' (wpush w (.cells cs t)) (fun b => X b ∨ b = w.heap.size) p v) := by
  have e : cs.toList.take ps.length = cs.toList := List.take_of_length_le (by rw [repPs_length h]; omega)
  obtain ⟨β', m1, m2, _, m3⟩ := hm.pbox t 0 (by rw [e]; exact h) (by rw [e]; exact ho) hs (Nat.zero_le _) (Nat.zero_le _)
  exact ⟨β', m1, m2, m3⟩

/-- a new owned row -/
theorem Mem.row {B : Base} {β : Nat → Loc} {X : Nat → Prop} {w : World} {rows : Rows} {nx : Nat} (hm : Mem B β X w rows nx) (t : TypeId) {cs : Array Value} {sz cap : Nat} {el : List (List DV)}
    (h : repss w X sz el (cs.toList.take (el.length * sz))) (hl : el.length ≤ cap) (hc : cs.size = cap * sz) (hmx : cap ≤ maxLen) :
    ∃ β', Mem B β' (fun b => X b ∨ b = w.heap.size) (wpush w (.cells cs t)) (upd rows nx (.own sz el)) (nx + 1) ∧
      repP (upd rows nx (.own sz el)) β' (wpush w (.cells cs t)) (fun b => X b ∨ b = w.heap.size) (.own nx) (.slice (some ⟨w.heap.size, 0, none⟩) el.length cap) ∧
      (∀ p v, Sc (· < nx) p → repP rows β w X p v → repP (upd rows nx (.own sz el)) β' (wpush w (.cells cs t)) (fun b => X b ∨ b = w.heap.size) p v) := by
  have hk : KeepX w X (wpush w (.cells cs t)) (fun b => X b ∨ b = w.heap.size) := KeepX.alloc rfl
  have hC : ∀ i, i < nx → RowC (rows i) (upd rows nx (.own sz el) i) ∧ (upd rows nx (.own sz el) i ≠ .dead → upd β nx ⟨some ⟨w.heap.size, 0, none⟩, cap⟩ i = β i) := fun i hi => by
    rw [upd_ne _ _ (by omega), upd_ne _ _ (by omega)]; exact ⟨RowC.refl _, fun _ => rfl⟩
  refine ⟨upd β nx ⟨some ⟨w.heap.size, 0, none⟩, cap⟩, Mem.alloc hm (.cells cs t) _ _ rfl rfl rfl rfl ?_ (fun b hb => by simp [rblk] at hb; exact hb.2.symm) trivial, ?_, fun p v hp h => repP_mono hk hC p v hp h⟩
  · refine ⟨hl, hmx, ?_⟩
    by_cases h0 : cap = 0
    · exact .inl ⟨h0, List.eq_nil_of_length_eq_zero (by omega)⟩
    · exact .inr ⟨w.heap.size, cs, t, (0, 0), by show 0 < cap; omega, rfl, .inr rfl, wpush_get _ _, Thaw_zero _, hc, repss_mono hk sz _ _ h⟩
  · unfold repP
    refine ⟨fun sz' el' he => ?_, fun cells he => (by rw [upd_same] at he; cases he)⟩
    rw [upd_same] at he
    cases he
    rw [upd_same]

def effNew (r : Row) (nx : Nat) (p : PV) (ok : Prop) : Eff := { ok, val := p, upds := [(nx, r)], nn := 1 }

theorem SRel.of_mem {B : Base} {β β' : Nat → Loc} {X X' : Nat → Prop} {w w' : World} {a : Act} {s : St} (h : SRel B β X w a s) {rows' : Rows} {nx' : Nat} (hm : Mem B β' X' w' rows' nx') (hn : s.nx ≤ nx')
    (hp : ∀ p v, Sc (· < s.nx) p → repP s.rows β w X p v → repP rows' β' w' X' p v) : SRel B β' X' w' a { s with rows := rows', nx := nx' } :=
  ⟨hm, h.defers, h.size, h.kl, fun t => hp _ _ (h.sc t) (h.rg t), fun t => Sc.mono (fun _ k => by simp only; omega) _ (h.sc t)⟩

/-- box -/
def evBox (s : St) (p : PV) : Option Eff :=
  match cellsP s.rows p with
  | some ps => some (effNew (.box ps) s.nx (.ptr s.nx 0) True)
  | none => none

theorem evBox_ok {P : Program} {o : Oper} {s : St} {t : TypeId} {x : Operand} {e : Eff} (ho : o.op = .box t x) (he : evBox s (ev s.regs x) = some e) : OpSound P o s e := by
  unfold evBox at he
  split at he
  · rename_i ps hps
    simp only [Option.some.injEq] at he; subst he
    intro B β X w a hr _
    obtain ⟨hx, hsx⟩ := hr.ev x
    obtain ⟨c1, c2, c3⟩ := cellsP_ok hx hsx hps
    obtain ⟨β', m1, m2, m3⟩ := hr.mem.box t c1 c2 c3
    refine ⟨_, _, β', _, .inl ?_, hr.of_mem m1 (by omega) m3, m2, by show s.nx < s.nx + 1; omega⟩
    simp only [execOp, ho, Instr.box, newVar, Sem.run_bind, run_newRow, Result.andThen_ok, Sem.run_pure]
  · cases he

/-- alloc -/
def evAlloc (P : Program) (s : St) (t : TypeId) : Option Eff :=
  match tyOf P t with
  | some ty => match ty.zero with
    | some z => if z.cells.toList.all oc then some (effNew (.box (z.cells.toList.map fun v => .d (.lit v))) s.nx (.ptr s.nx 0) True) else none
    | none => none
  | none => none

theorem evAlloc_ok {P : Program} {o : Oper} {s : St} {t : TypeId} {e : Eff} (ho : o.op = .alloc t) (he : evAlloc P s t = some e) : OpSound P o s e := by
  unfold evAlloc at he
  split at he
  · rename_i ty hty
    split at he
    · rename_i z hz
      split at he
      · rename_i hoc
        simp only [Option.some.injEq] at he; subst he
        intro B β X w a hr _
        have hl := reps_lits w X z.cells.toList hoc
        have c1 : repPs s.rows β w X (z.cells.toList.map fun v => .d (.lit v)) z.cells.toList := by
          have := repPs_of_reps (rows := s.rows) (β := β) hl
          rw [List.map_map] at this; exact this
        have c3 : Scs (· < s.nx) (z.cells.toList.map fun v => .d (.lit v)) := Scs.of_mem fun p hp => by
          obtain ⟨v, _, rfl⟩ := List.mem_map.1 hp; trivial
        obtain ⟨β', m1, m2, m3⟩ := hr.mem.box t c1 (reps_oc hl) c3
        refine ⟨_, _, β', _, .inl ?_, hr.of_mem m1 (by omega) m3, m2, by show s.nx < s.nx + 1; omega⟩
        simp only [execOp, ho, Instr.alloc, newVar, Sem.run_bind, tyOf_zero hty hz, run_newRow, Result.andThen_ok, Sem.run_pure]
      · cases he
    · cases he
  · cases he

/-! ## build -/
theorem fold_set (off : Nat) : ∀ (vs : List Value) (i : Nat) (cs : Array Value), off + i + vs.length ≤ cs.size →
    ((vs.zipIdx i).foldl (fun cs (x : Value × Nat) => cs.setIfInBounds (off + x.2) x.1) cs).toList = cs.toList.take (off + i) ++ vs ++ cs.toList.drop (off + i + vs.length)
  | [], i, cs, _ => by simp
  | v :: vs, i, cs, h => by
    simp only [List.length_cons] at h
    simp only [List.zipIdx_cons, List.foldl_cons]
    rw [fold_set off vs (i + 1) _ (by simp; omega), Array.toList_setIfInBounds, show off + (i + 1) = off + i + 1 from rfl, splice_step _ _ _ _ (by simpa using by omega)]
    rfl

theorem fill_cons {place : Nat → Option (Nat × Nat)} {cs : Array Value} {i off size : Nat} {v : Value} {rest : List (Nat × Value)} (h : place i = some (off, size)) (hs : v.cells.size = size) (hb : off + size ≤ cs.size) :
    Instr.fill place cs ((i, v) :: rest) = Instr.fill place (cs.toList.take off ++ v.cells.toList ++ cs.toList.drop (off + size)).toArray rest := by
  simp only [Instr.fill, h, hs]
  rw [if_neg (by simp; omega)]
  congr 1
  apply Array.toList_inj.1
  have := fold_set off v.cells.toList 0 cs (by simp [hs]; omega)
  simp only [Nat.add_zero, Array.length_toList, hs] at this
  rw [← this, ← Array.foldl_toList, Array.toList_zipIdx]

def splice (cells : List PV) (off : Nat) (ps : List PV) : List PV := cells.take off ++ ps ++ cells.drop (off + ps.length)

def fillP (P : Program) (rows : Rows) (fs : List (Nat × TypeId)) : List PV → List (Nat × PV) → Option (List PV)
  | cells, [] => some cells
  | cells, (i, p) :: rest =>
    match fs[i]?, cellsP rows p with
    | some (off, t), some ps => match tyOf P t with
      | some ty => if ps.length = ty.size ∧ off + ty.size ≤ cells.length then fillP P rows fs (splice cells off ps) rest else none
      | none => none
    | _, _ => none

def places (P : Program) (fs : List (Nat × TypeId)) : List (Nat × Nat) := fs.map fun f => (f.1, ((P.info? f.2).map (·.size)).getD 0)

theorem fillP_ok {P : Program} {rows : Rows} {β : Nat → Loc} {w : World} {X : Nat → Prop} {S : Nat → Prop} {fs : List (Nat × TypeId)} : ∀ {parts : List (Nat × PV)} {vparts : List (Nat × Value)} {cells : List PV} {cs : Array Value} {out : List PV},
    fillP P rows fs cells parts = some out → parts.length = vparts.length → (∀ (j i : Nat) (p : PV) (k : Nat) (v : Value), parts[j]? = some (i, p) → vparts[j]? = some (k, v) → k = i ∧ repP rows β w X p v ∧ Sc S p) →
    repPs rows β w X cells cs.toList → (∀ u ∈ cs.toList, oc u = true) → Scs S cells →
    ∃ cs', Instr.fill ((places P fs)[·]?) cs vparts = some cs' ∧ repPs rows β w X out cs'.toList ∧ (∀ u ∈ cs'.toList, oc u = true) ∧ Scs S out
  | [], [], cells, cs, out, h, _, _, h1, h2, h3 => by
    simp only [fillP, Option.some.injEq] at h; subst h
    exact ⟨cs, rfl, h1, h2, h3⟩
  | [], _ :: _, cells, cs, out, h, hl, _, h1, h2, h3 => by simp at hl
  | _ :: _, [], cells, cs, out, h, hl, _, h1, h2, h3 => by simp at hl
  | (i, p) :: parts, (k, v) :: vparts, cells, cs, out, h, hl, hp, h1, h2, h3 => by
    obtain ⟨rfl, hpv, hsp⟩ := hp 0 i p k v rfl rfl
    simp only [fillP] at h
    split at h
    · rename_i off t ps hf hps
      split at h
      · rename_i ty hty
        split at h
        · rename_i hsz
          obtain ⟨c1, c2, c3⟩ := cellsP_ok hpv hsp hps
          have cl := repPs_length c1
          have hcl := repPs_length h1
          simp only [Array.length_toList] at cl hcl
          obtain ⟨ii, u, q1, q2, q3, q4, _⟩ := tyOf_spec hty
          have hpl : (places P fs)[k]? = some (off, ty.size) := by
            simp [places, hf, q1, q4]
          rw [fill_cons hpl (by omega) (by omega)]
          refine fillP_ok (parts := parts) h (by simpa using hl) (fun j i p k v a b => hp (j + 1) i p k v a b) ?_ ?_ ?_
          · have := repPs_append (repPs_append (repPs_take off h1) c1) (repPs_drop (off + ps.length) h1)
            simp only [splice]
            rw [hsz.1] at this ⊢
            exact this
          · intro u hu
            simp only [List.append_assoc, List.mem_append] at hu
            rcases hu with hu | hu | hu
            · exact h2 u (List.mem_of_mem_take hu)
            · exact c2 u hu
            · exact h2 u (List.mem_of_mem_drop hu)
          · exact Scs.append (Scs.append (h3.take _) c3) (h3.drop _)
        · cases h
      · cases h
    · cases h

theorem mapM_places {P : Program} {w : World} : ∀ (fs : List Field), (∀ f ∈ fs, (tyOf P f.type).isSome) →
    (fs.mapM (m := Sem) fun f => do pure (f.offset, ← sizeOf f.type)).run P w = .ok (places P (fs.map fun f => (f.offset, f.type))) w
  | [], _ => by simp [places]
  | f :: fs, h => by
    have ih := mapM_places (P := P) (w := w) fs fun g hg => h g (by simp [hg])
    have hf := h f (by simp)
    cases ht : tyOf P f.type with
    | none => rw [ht] at hf; cases hf
    | some ty =>
      obtain ⟨ii, u, q1, q2, q3, q4, _⟩ := tyOf_spec ht
      simp only [List.mapM_cons, Sem.run_bind, tyOf_size ht, Result.andThen_ok, Sem.run_pure, ih]
      simp [places, q1, q4]

def evBuild (P : Program) (s : St) (t : TypeId) (parts : List (Nat × PV)) : Option PV :=
  match tyOf P t with
  | some ty => match ty.k, ty.zero with
    | .struct fs, some z =>
      if z.cells.toList.all oc && fs.all (fun f => (tyOf P f.2).isSome) then
        match fillP P s.rows fs (z.cells.toList.map fun v => .d (.lit v)) parts with
        | some out => some (mkAgg out)
        | none => none
      else none
    | _, _ => none
  | none => none

theorem evBuild_ok {P : Program} {o : Oper} {s : St} {t : TypeId} {parts : Array (Nat × Operand)} {q : PV} (ho : o.op = .build t parts)
    (he : evBuild P s t (parts.toList.map fun x => (x.1, ev s.regs x.2)) = some q) : OpSound P o s (Eff.pureIf True q) := by
  unfold evBuild at he
  split at he
  · rename_i ty hty
    split at he
    · rename_i fs z hk hz
      split at he
      · rename_i hall
        simp only [Bool.and_eq_true] at hall
        split at he
        · rename_i out hout
          simp only [Option.some.injEq] at he; subst he
          refine sound_pure fun B β X w a hr _ => ?_
          have hl := reps_lits w X z.cells.toList hall.1
          have c1 : repPs s.rows β w X (z.cells.toList.map fun v => .d (.lit v)) z.cells.toList := by
            have := repPs_of_reps (rows := s.rows) (β := β) hl
            rw [List.map_map] at this; exact this
          have c3 : Scs (· < s.nx) (z.cells.toList.map fun v => .d (.lit v)) := Scs.of_mem fun p hp => by
            obtain ⟨v, _, rfl⟩ := List.mem_map.1 hp; trivial
          obtain ⟨gs, hu, hfs⟩ := tyOf_struct hty hk
          obtain ⟨cs', f1, f2, f3, f4⟩ := fillP_ok (S := (· < s.nx)) (vparts := parts.toList.map fun x => (x.1, a.eval x.2)) hout (by simp) (fun j i p k v h1 h2 => by
            simp only [List.getElem?_map, Option.map_eq_some_iff] at h1 h2
            obtain ⟨x, hx, hx'⟩ := h1
            obtain ⟨y, hy, hy'⟩ := h2
            rw [hx] at hy
            obtain rfl : x = y := by simpa using hy
            simp only [Prod.mk.injEq] at hx' hy'
            obtain ⟨rfl, rfl⟩ := hx'
            obtain ⟨rfl, rfl⟩ := hy'
            exact ⟨rfl, hr.ev x.2⟩) c1 (reps_oc hl) c3
          refine ⟨.agg cs', ?_, ?_, Sc_mkAgg f4⟩
          · have hm := mapM_places (P := P) (w := w) gs.toList fun f hf => by
              rw [hfs] at hall
              simp only [List.all_map, List.all_eq_true] at hall
              exact hall.2 f hf
            simp only [execOp, ho, Instr.build, Sem.run_bind, tyOf_zero hty hz, Result.andThen_ok, run_underlying hu, Array.mapM_eq_mapM_toList, Sem.run_map, hm]
            rw [hfs] at f1
            have f1' : Instr.fill (fun x => (places P (gs.toList.map fun f => (f.offset, f.type))).toArray[x]?) z.cells (parts.map fun x => (x.1, a.eval x.2)).toList = some cs' := by
              simpa using f1
            simp only [f1', Result.andThen_ok, Sem.run_pure]
          · simpa using mkAgg_ok f2 f3
        · cases he
      · cases he
    · cases he
  · cases he
end Go.AM
