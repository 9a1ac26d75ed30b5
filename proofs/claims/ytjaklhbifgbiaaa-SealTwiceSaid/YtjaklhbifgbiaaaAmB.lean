/- Proved here: a part of an abstract machine for the walks of this program, and that it tells the truth about the model. No condition. -/
import Derived.Test.YtjaklhbifgbiaaaAmA
set_option linter.unusedSimpArgs false
set_option linter.unusedVariables false
namespace Go.AM
open Go

inductive PV where
  | d (x : DV)
  | own (i : Nat)
  | win (i off m : Nat)
  | ptr (i off : Nat)
  | eptr (i k c : Nat)
  | iptr (cells : List DV)
  | clo (fn : Fn) (first cap : List PV)
  | ifc (t : TypeId) (x : PV)
  | agg (cells : List PV)
  | tup (vs : List PV)
  | any

inductive Row where
  | dead
  | box (cells : List PV)
  | own (sz : Nat) (el : List (List DV))
  | iter (s : ByteArray) (pos : Nat)

structure Loc where
  a : Option Addr
  cap : Nat

abbrev Rows := Nat → Row

mutual
def repP (rows : Rows) (β : Nat → Loc) (w : World) (X : Nat → Prop) : PV → Value → Prop
  | .d x, v => rep w X x v
  | .own i, v => ∀ sz el, rows i = .own sz el → v = .slice (β i).a el.length (β i).cap
  | .win i off m, v => ∀ sz el, rows i = .own sz el → off + m ≤ el.length ∧
      v = .slice (if (β i).cap = off then (β i).a else (β i).a.map (·.add (off * sz))) m ((β i).cap - off)
  | .ptr i off, v => rows i ≠ .dead → ∃ b, (β i).a = some ⟨b, 0, none⟩ ∧ v = .pointer (some ⟨b, off, none⟩)
  | .eptr i k c, v => ∀ sz el, rows i = .own sz el → k < el.length ∧ ∃ b, (β i).a = some ⟨b, 0, none⟩ ∧ v = .pointer (some ⟨b, k * sz + c, none⟩)
  | .iptr cs, v => ∃ b off vs, v = .pointer (some ⟨b, off, none⟩) ∧ reps w X cs vs ∧ vs ≠ [] ∧ ¬ X b ∧ ∀ j u, vs[j]? = some u → w.cell? ⟨b, off + j, none⟩ = some u
  | .clo fn f c, v => ∃ fs cs : List Value, v = .func fn fs.toArray cs.toArray ∧ repPs rows β w X f fs ∧ repPs rows β w X c cs
  | .ifc t x, v => ∃ u, v = .iface t u ∧ repP rows β w X x u
  | .agg ps, v => ∃ vs : List Value, v = .agg vs.toArray ∧ repPs rows β w X ps vs ∧ ∀ u ∈ vs, oc u = true
  | .tup ps, v => ∃ vs : List Value, v = .tuple vs.toArray ∧ repPs rows β w X ps vs
  | .any, _ => True
def repPs (rows : Rows) (β : Nat → Loc) (w : World) (X : Nat → Prop) : List PV → List Value → Prop
  | [], vs => vs = []
  | c :: cs, vs => ∃ u us, vs = u :: us ∧ repP rows β w X c u ∧ repPs rows β w X cs us
end

mutual
/-- all ids in p meet S -/
def Sc (S : Nat → Prop) : PV → Prop
  | .d _ => True
  | .own i => S i
  | .win i _ _ => S i
  | .ptr i _ => S i
  | .eptr i _ _ => S i
  | .iptr _ => True
  | .clo _ f c => Scs S f ∧ Scs S c
  | .ifc _ x => Sc S x
  | .agg ps => Scs S ps
  | .tup ps => Scs S ps
  | .any => True
def Scs (S : Nat → Prop) : List PV → Prop
  | [] => True
  | c :: cs => Sc S c ∧ Scs S cs
end

mutual
theorem Sc.mono {S T : Nat → Prop} (h : ∀ i, S i → T i) : ∀ p, Sc S p → Sc T p
  | .d _, _ => trivial
  | .own i, k => h i k
  | .win i _ _, k => h i k
  | .ptr i _, k => h i k
  | .eptr i _ _, k => h i k
  | .iptr _, _ => trivial
  | .clo _ f c, k => ⟨Scs.mono h f k.1, Scs.mono h c k.2⟩
  | .ifc _ x, k => Sc.mono h x k
  | .agg ps, k => Scs.mono h ps k
  | .tup ps, k => Scs.mono h ps k
  | .any, _ => trivial
theorem Scs.mono {S T : Nat → Prop} (h : ∀ i, S i → T i) : ∀ ps, Scs S ps → Scs T ps
  | [], _ => trivial
  | c :: cs, k => ⟨Sc.mono h c k.1, Scs.mono h cs k.2⟩
end

theorem Scs.mem {S : Nat → Prop} : ∀ {ps : List PV}, Scs S ps → ∀ p ∈ ps, Sc S p
  | [], _, p, hp => by simp at hp
  | c :: cs, h, p, hp => by
    rcases List.mem_cons.1 hp with rfl | hp
    · exact h.1
    · exact Scs.mem h.2 p hp

theorem Scs.of_mem {S : Nat → Prop} : ∀ {ps : List PV}, (∀ p ∈ ps, Sc S p) → Scs S ps
  | [], _ => trivial
  | c :: cs, h => ⟨h c (by simp), Scs.of_mem fun p hp => h p (by simp [hp])⟩

/-- a row that has become another one -/
def RowC : Row → Row → Prop
  | _, .dead => True
  | .box _, .box _ => True
  | .own sz el, .own sz' el' => sz' = sz ∧ el'.length = el.length
  | .iter _ _, .iter _ _ => True
  | _, _ => False

theorem RowC.trans {a b c : Row} (h : RowC a b) (k : RowC b c) : RowC a c := by
  cases a <;> cases b <;> cases c <;> simp_all [RowC]

theorem RowC.refl (r : Row) : RowC r r := by cases r <;> simp [RowC]

mutual
theorem repP_mono {rows rows' : Rows} {β β' : Nat → Loc} {w w' : World} {X X' : Nat → Prop} {S : Nat → Prop} (hk : KeepX w X w' X')
    (hr : ∀ i, S i → RowC (rows i) (rows' i) ∧ (rows' i ≠ .dead → β' i = β i)) : ∀ (p : PV) (v : Value), Sc S p → repP rows β w X p v → repP rows' β' w' X' p v
  | .d x, v, _, h => by unfold repP at *; exact rep_mono hk x v h
  | .own i, v, hs, h => by
    unfold repP at *
    intro sz el hi
    obtain ⟨h1, h2⟩ := hr i hs
    rw [hi] at h1 h2
    rw [h2 (by simp)]
    cases hri : rows i with
    | own sz0 el0 => rw [hri] at h1; simp only [RowC] at h1; rw [h1.2]; exact h sz0 el0 hri
    | _ => rw [hri] at h1; simp [RowC] at h1
  | .win i off m, v, hs, h => by
    unfold repP at *
    intro sz el hi
    obtain ⟨h1, h2⟩ := hr i hs
    rw [hi] at h1 h2
    rw [h2 (by simp)]
    cases hri : rows i with
    | own sz0 el0 => rw [hri] at h1; simp only [RowC] at h1; rw [h1.2, h1.1]; exact h sz0 el0 hri
    | _ => rw [hri] at h1; simp [RowC] at h1
  | .ptr i off, v, hs, h => by
    unfold repP at *
    intro hi
    obtain ⟨h1, h2⟩ := hr i hs
    rw [h2 hi]
    refine h fun h0 => ?_
    rw [h0] at h1
    cases hri : rows' i <;> rw [hri] at h1 hi <;> simp [RowC] at h1 hi
  | .eptr i k c, v, hs, h => by
    unfold repP at *
    intro sz el hi
    obtain ⟨h1, h2⟩ := hr i hs
    rw [hi] at h1 h2
    rw [h2 (by simp)]
    cases hri : rows i with
    | own sz0 el0 => rw [hri] at h1; simp only [RowC] at h1; rw [h1.2, h1.1]; exact h sz0 el0 hri
    | _ => rw [hri] at h1; simp [RowC] at h1
  | .iptr cs, v, _, h => by
    unfold repP at *
    obtain ⟨b, off, vs, h1, h2, h3, h4, h5⟩ := h
    refine ⟨b, off, vs, h1, reps_mono hk cs vs h2, h3, ?_, fun j u hu => (hk.cell (p := ⟨b, off + j, none⟩) h4 (h5 j u hu)).1⟩
    cases vs with
    | nil => exact absurd rfl h3
    | cons u us => exact (hk.cell (p := ⟨b, off + 0, none⟩) h4 (h5 0 u rfl)).2
  | .clo fn f c, v, hs, h => by
    unfold repP at *
    obtain ⟨fs, cs, h1, h2, h3⟩ := h
    exact ⟨fs, cs, h1, repPs_mono hk hr f fs hs.1 h2, repPs_mono hk hr c cs hs.2 h3⟩
  | .ifc t x, v, hs, h => by
    unfold repP at *
    obtain ⟨u, h1, h2⟩ := h
    exact ⟨u, h1, repP_mono hk hr x u hs h2⟩
  | .agg ps, v, hs, h => by
    unfold repP at *
    obtain ⟨vs, h1, h2, h3⟩ := h
    exact ⟨vs, h1, repPs_mono hk hr ps vs hs h2, h3⟩
  | .tup ps, v, hs, h => by
    unfold repP at *
    obtain ⟨vs, h1, h2⟩ := h
    exact ⟨vs, h1, repPs_mono hk hr ps vs hs h2⟩
  | .any, v, _, h => by unfold repP; trivial
theorem repPs_mono {rows rows' : Rows} {β β' : Nat → Loc} {w w' : World} {X X' : Nat → Prop} {S : Nat → Prop} (hk : KeepX w X w' X')
    (hr : ∀ i, S i → RowC (rows i) (rows' i) ∧ (rows' i ≠ .dead → β' i = β i)) : ∀ (ps : List PV) (vs : List Value), Scs S ps → repPs rows β w X ps vs → repPs rows' β' w' X' ps vs
  | [], vs, _, h => by unfold repPs at *; exact h
  | c :: cs, vs, hs, h => by
    unfold repPs at *
    obtain ⟨u, us, h1, h2, h3⟩ := h
    exact ⟨u, us, h1, repP_mono hk hr c u hs.1 h2, repPs_mono hk hr cs us hs.2 h3⟩
end

def Thaw (fr : Nat × Nat) (n : Nat) : Prop := fr.1 ≤ fr.2 ∧ ∀ j, j < n → ¬ (fr.1 ≤ j ∧ j < fr.2)

def rowOk (rows : Rows) (β : Nat → Loc) (w : World) (X : Nat → Prop) (l : Loc) : Row → Prop
  | .dead => True
  | .box cells => ∃ b cs e fr, l.a = some ⟨b, 0, none⟩ ∧ X b ∧ w.heap[b]? = some (.cells cs e fr) ∧ Thaw fr cs.size ∧ repPs rows β w X cells cs.toList ∧ ∀ u ∈ cs.toList, oc u = true
  | .own sz el => el.length ≤ l.cap ∧ l.cap ≤ maxLen ∧
      ((l.cap = 0 ∧ el = []) ∨ ∃ b cs e fr, 0 < l.cap ∧ l.a = some ⟨b, 0, none⟩ ∧ X b ∧ w.heap[b]? = some (.cells cs e fr) ∧ Thaw fr cs.size ∧ cs.size = l.cap * sz ∧
        repss w X sz el (cs.toList.take (el.length * sz)))
  | .iter s pos => ∃ b, l.a = some ⟨b, 0, none⟩ ∧ X b ∧ w.heap[b]? = some (.stringIter s pos)

def rblk (l : Loc) : Row → Option Nat
  | .dead => none
  | .own _ _ => if l.cap = 0 then none else l.a.map (·.block)
  | _ => l.a.map (·.block)

structure Base where
  w0 : World
  L : Nat → Prop
  X0 : Nat → Prop
  kl : Nat
  loc : Nat → Loc
  rows0 : Rows

structure St where
  N : Nat
  kl : Nat
  regs : Nat → PV
  rows : Rows
  nx : Nat

structure Mem (B : Base) (β : Nat → Loc) (X : Nat → Prop) (w : World) (rows : Rows) (nx : Nat) : Prop where
  ok : ∀ i, rowOk rows β w X (β i) (rows i)
  inj : ∀ i j b, rblk (β i) (rows i) = some b → rblk (β j) (rows j) = some b → i = j
  dead : ∀ i, nx ≤ i → rows i = .dead
  scr : ∀ i cells, rows i = .box cells → Scs (· < nx) cells
  os : w.os = B.w0.os
  tape : w.tape = B.w0.tape
  output : w.output = B.w0.output
  size : B.w0.heap.size ≤ w.heap.size
  keep : ∀ b, b < B.w0.heap.size → ¬ B.L b → w.heap[b]? = B.w0.heap[b]?
  xs : ∀ b, b < B.w0.heap.size → X b → B.X0 b
  lent : ∀ i b, rblk (β i) (rows i) = some b → b < B.w0.heap.size → B.L b
  fx : ∀ b, b < B.w0.heap.size → B.X0 b → ¬ B.L b → X b
  kln : B.kl ≤ nx
  lk : ∀ i, i < B.kl → RowC (B.rows0 i) (rows i) ∧ (rows i ≠ .dead → β i = B.loc i)

structure SRel (B : Base) (β : Nat → Loc) (X : Nat → Prop) (w : World) (a : Act) (s : St) : Prop where
  mem : Mem B β X w s.rows s.nx
  defers : a.defers = []
  size : a.tmps.size = s.N
  kl : s.kl = B.kl
  rg : ∀ t, repP s.rows β w X (s.regs t) (a.tmps.getD t undef)
  sc : ∀ t, Sc (· < s.nx) (s.regs t)

def Sat (B : Base) (s : St) (a : Act) (w : World) : Prop := ∃ β X, SRel B β X w a s

end Go.AM
