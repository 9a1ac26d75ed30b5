/- Proved here: a part of an abstract machine for the walks of this program, and that it tells the truth about the model. No condition. -/
import Derived.Test.YtjaklhbifgbiaaaAmZb
import Derived.OpenShut
import Derived.Deep.Slices
import Derived.Below
import Derived.DataShut
set_option linter.unusedSimpArgs false
set_option linter.unusedVariables false
namespace Go.AM
open Go Go.ChangeShapes Go.WideShapes Go.Deep

/-! ## arguments that come in, as Lean's own data -/
inductive DTy where
  | bool | u8 | int (k : IntKind) | str | sl (e : DTy) | un | pr (a b : DTy) | arr (n : Nat) (e : DTy)

def DTy.El : DTy → Type
  | .bool => Bool
  | .u8 => UInt8
  | .int _ => Int
  | .str => List UInt8
  | .sl e => List e.El
  | .un => Unit
  | .pr a b => a.El × b.El
  | .arr _ e => List e.El

/-- how many cells -/
def DTy.size : DTy → Nat
  | .un => 0
  | .pr a b => a.size + b.size
  | .arr n e => n * e.size
  | _ => 1

def DTy.enc : (D : DTy) → D.El → List DV
  | .bool, b => [.lit (.bool b)]
  | .u8, b => [.lit (.int .u8 (UInt8.toNat b))]
  | .int k, n => [.lit (.int k n)]
  | .str, s => [.lit (.string ⟨⟨s⟩⟩)]
  | .sl e, l => [.sl e.size (l.map e.enc)]
  | .un, _ => []
  | .pr a b, x => a.enc x.1 ++ b.enc x.2
  | .arr _ e, l => (l.map e.enc).flatten

def DTy.ok : (D : DTy) → D.El → Prop
  | .bool, _ => True
  | .u8, _ => True
  | .int k, n => (Lit.int k n).wf = true
  | .str, s => List.length s ≤ 9223372036854775807
  | .sl e, l => @List.length e.El l ≤ 9223372036854775807 ∧ ∀ x : e.El, @Membership.mem e.El (List e.El) _ l x → e.ok x
  | .un, _ => True
  | .pr a b, x => a.ok x.1 ∧ b.ok x.2
  | .arr n e, l => @List.length e.El l = n ∧ ∀ x : e.El, @Membership.mem e.El (List e.El) _ l x → e.ok x

mutual
/-- the type t is so made -/
def TyD (P : Program) : DTy → TypeId → Prop
  | .bool, t => P.underlying t = some .bool ∧ P.cellsOf t = 1
  | .u8, t => P.underlying t = some (.int .u8) ∧ P.cellsOf t = 1
  | .int k, t => P.underlying t = some (.int k) ∧ P.cellsOf t = 1
  | .str, t => P.underlying t = some .string ∧ P.cellsOf t = 1
  | .sl e, t => ∃ et, P.underlying t = some (.slice et) ∧ P.cellsOf t = 1 ∧ TyD P e et
  | .un, t => ∃ fs, P.underlying t = some (.struct fs) ∧ P.cellsOf t = 0 ∧ fs.toList = []
  | .pr a b, t => ∃ fs, P.underlying t = some (.struct fs) ∧ P.cellsOf t = a.size + b.size ∧ FldD P (.pr a b) 0 fs.toList
  | .arr n e, t => ∃ et, P.underlying t = some (.array n et) ∧ P.cellsOf t = n * e.size ∧ TyD P e et
def FldD (P : Program) : DTy → Nat → List Field → Prop
  | .un, _, fs => fs = []
  | .pr a b, off, fs => ∃ f fs', fs = f :: fs' ∧ f.offset = off ∧ TyD P a f.type ∧ FldD P b (off + a.size) fs'
  | _, _, _ => False
end

theorem TyD.size {P : Program} : ∀ {D : DTy} {t : TypeId}, TyD P D t → P.cellsOf t = D.size
  | .bool, _, h => by unfold TyD at h; exact h.2
  | .u8, _, h => by unfold TyD at h; exact h.2
  | .int _, _, h => by unfold TyD at h; exact h.2
  | .str, _, h => by unfold TyD at h; exact h.2
  | .sl _, _, h => by unfold TyD at h; obtain ⟨_, _, h, _⟩ := h; exact h
  | .un, _, h => by unfold TyD at h; obtain ⟨_, _, h, _⟩ := h; exact h
  | .pr _ _, _, h => by unfold TyD at h; obtain ⟨_, _, h, _⟩ := h; exact h
  | .arr _ _, _, h => by unfold TyD at h; obtain ⟨_, _, h, _⟩ := h; exact h

def X0 : Nat → Prop := fun _ => False

theorem reps_append' {w : World} {X : Nat → Prop} : ∀ {xs ys : List DV} {us vs : List Value}, reps w X xs us → reps w X ys vs → reps w X (xs ++ ys) (us ++ vs)
  | [], ys, us, vs, h, k => by unfold reps at h; subst h; exact k
  | c :: cs, ys, us, vs, h, k => by
    unfold reps at h
    obtain ⟨u, us', rfl, h2, h3, h4⟩ := h
    simp only [List.cons_append]
    unfold reps
    exact ⟨u, us' ++ vs, rfl, h2, h3, reps_append' h4 k⟩

section
variable {H : Type} {enc : TypeId × Value → H} {P : Program} {w : World} {base : Nat} {spare : Nat → Bool} {held : Bool}

theorem reps_one {d : DV} {v : Value} (ho : oc v = true) (h : rep w X0 d v) : reps w X0 [d] [v] := by
  unfold reps; exact ⟨v, [], rfl, ho, h, by simp [reps]⟩

theorem repss_of {sz : Nat} {C : Nat → List Value} {D : Nat → List DV} : ∀ (l : List Nat), (∀ i ∈ l, (C i).length = sz ∧ reps w X0 (D i) (C i)) → repss w X0 sz (l.map D) (l.flatMap C)
  | [], _ => by simp [repss]
  | i :: l, h => by
    simp only [List.map_cons, List.flatMap_cons]
    unfold repss
    exact ⟨C i, _, rfl, (h i (by simp)).1, (h i (by simp)).2, repss_of l fun j hj => h j (by simp [hj])⟩

theorem flatMap_get {sz : Nat} {C : Nat → List Value} : ∀ (n k : Nat), (∀ i, (C i).length = sz) → ∀ j u, ((List.range' k n).flatMap C)[j]? = some u → j < n * sz ∧ (C (k + j / sz))[j % sz]? = some u
  | 0, k, _, j, u, h => by simp at h
  | n + 1, k, hC, j, u, h => by
    simp only [List.range'_succ, List.flatMap_cons] at h
    rw [List.getElem?_append] at h
    split at h
    · rename_i hj
      rw [hC k] at hj
      refine ⟨by rw [Nat.add_mul]; omega, ?_⟩
      rw [Nat.div_eq_of_lt hj, Nat.mod_eq_of_lt hj]; exact h
    · rename_i hj
      rw [hC k] at hj h
      obtain ⟨h1, h2⟩ := flatMap_get n (k + 1) hC (j - sz) u h
      have hsz : 0 < sz := by
        rcases Nat.eq_zero_or_pos sz with h0 | h0
        · subst h0; omega
        · exact h0
      refine ⟨by rw [Nat.add_mul]; omega, ?_⟩
      have e1 : j / sz = (j - sz) / sz + 1 := by rw [← Nat.add_div_right _ hsz]; congr 1; omega
      have e2 : j % sz = (j - sz) % sz := by rw [← Nat.add_mod_right (j - sz) sz]; congr 1; omega
      rw [e1, e2, show k + ((j - sz) / sz + 1) = k + 1 + (j - sz) / sz from by omega]
      exact h2

mutual
theorem open_data : ∀ (D : DTy) {t : TypeId} {fuel : Nat} {cs : List Value} {x : DataW H × List MemPlace}, TyD P D t → DataW.trod enc P w base spare held fuel t cs = some x → ∃ a : D.El, reps w X0 (D.enc a) cs ∧ D.ok a
  | .bool, t, fuel, cs, x, ht, h => by
    unfold TyD at ht
    obtain ⟨b, rfl, _⟩ := DataW.trod_bool ht.1 h
    exact ⟨b, reps_one rfl (by simp [rep]), trivial⟩
  | .u8, t, fuel, cs, x, ht, h => by
    unfold TyD at ht
    obtain ⟨n, rfl, _, hw⟩ := DataW.trod_int ht.1 h
    have hn : 0 ≤ n ∧ n ≤ 255 := by
      have := (Lit.wf_int_iff .u8 n).1 hw
      simpa [IntKind.min, IntKind.max, IntKind.signed, IntKind.bits] using this
    refine ⟨UInt8.ofNat n.toNat, reps_one rfl ?_, trivial⟩
    have e : (UInt8.ofNat n.toNat).toNat = n.toNat := by simp; omega
    simp only [rep]
    show Value.int .u8 n = .int .u8 ((UInt8.ofNat n.toNat).toNat : Int)
    rw [e]; congr 1; omega
  | .int k, t, fuel, cs, x, ht, h => by
    unfold TyD at ht
    obtain ⟨n, rfl, _, hw⟩ := DataW.trod_int ht.1 h
    exact ⟨n, reps_one rfl (by simp [rep]), hw⟩
  | .str, t, fuel, cs, x, ht, h => by
    unfold TyD at ht
    obtain ⟨s, rfl, _, hs⟩ := DataW.trod_string ht.1 h
    exact ⟨s.data.toList, reps_one rfl (by simp [rep]), by show s.data.toList.length ≤ _; unfold maxLen at hs; rw [Array.length_toList]; exact hs⟩
  | .sl e, t, fuel, cs, x, ht, h => by
    unfold TyD at ht
    obtain ⟨et, h1, _, h2⟩ := ht
    rcases open_slice h1 h with ⟨rfl, _⟩ | ⟨a, len, cap, m, n, Dd, Pl, rfl, _, hl, hm, hmm, _, hx⟩
    · refine ⟨[], reps_one rfl ?_, ⟨Nat.zero_le _, fun x hx => by cases hx⟩⟩
      simp only [rep]
      exact ⟨none, 0, [], rfl, Nat.le_refl _, Nat.zero_le _, by simp [repss], fun h => absurd rfl h⟩
    · have hlm : len ≤ m := by rw [hmm]; split <;> omega
      have hex : ∀ i, i < len → ∃ q : List Value × e.El, (w.cells? base (a.add (i * P.cellsOf et)) (P.cellsOf et) = some q.1) ∧ reps w X0 (e.enc q.2) q.1 ∧ e.ok q.2 := fun i hi => by
        obtain ⟨cs', c1, c2⟩ := hx i (by omega)
        obtain ⟨y, y1, y2⟩ := open_data e h2 c2
        exact ⟨(cs', y), c1, y1, y2⟩
      have hsz := h2.size
      cases len with
      | zero =>
        refine ⟨[], reps_one rfl ?_, ⟨Nat.zero_le _, fun x hx => by cases hx⟩⟩
        simp only [rep]
        exact ⟨some a, cap, [], rfl, Nat.zero_le _, hm, by simp [repss], fun h => absurd rfl h⟩
      | succ len0 =>
        obtain ⟨q0, _⟩ := hex 0 (by omega)
        haveI : Inhabited (List Value × e.El) := ⟨q0⟩
        obtain ⟨q, hq⟩ := choose_lt hex
        have hC : ∀ i, i < len0 + 1 → (q i).1.length = e.size := fun i hi => by
          rw [(World.cells?_some (hq i hi).1).2.1, hsz]
        refine ⟨(List.range (len0 + 1)).map fun i => (q i).2, reps_one rfl ?_, ⟨?_, fun x hx => ?_⟩⟩
        · simp only [rep]
          refine ⟨some a, cap, (List.range (len0 + 1)).flatMap fun i => (q i).1, ?_, by simpa using hl, hm, ?_, fun hne => ?_⟩
          · simp
          · have := repss_of (w := w) (sz := e.size) (C := fun i => (q i).1) (D := fun i => e.enc (q i).2) (List.range (len0 + 1)) fun i hi => ⟨hC i (List.mem_range.1 hi), (hq i (List.mem_range.1 hi)).2.1⟩
            simpa [List.map_map, Function.comp_def] using this
          · -- its place
            have hget : ∀ j u, ((List.range (len0 + 1)).flatMap fun i => (q i).1)[j]? = some u → w.cell? (a.add j) = some u := fun j u hu => by
              let C' : Nat → List Value := fun i => if i < len0 + 1 then (q i).1 else List.replicate e.size undef
              have hC' : ∀ i, (C' i).length = e.size := fun i => by
                simp only [C']; split
                · rename_i hi; exact hC i hi
                · simp
              have heq : ((List.range (len0 + 1)).flatMap fun i => (q i).1) = (List.range' 0 (len0 + 1)).flatMap C' := by
                rw [← List.range_eq_range', List.flatMap_def, List.flatMap_def]
                congr 1
                exact List.map_congr_left fun i hi => by simp only [C']; rw [if_pos (List.mem_range.1 hi)]
              rw [heq] at hu
              obtain ⟨g1, g2⟩ := flatMap_get (len0 + 1) 0 hC' j u hu
              rw [Nat.zero_add] at g2
              have hsp : 0 < e.size := by
                rcases Nat.eq_zero_or_pos e.size with h0 | h0
                · rw [h0] at g1; omega
                · exact h0
              have hdiv : j / e.size < len0 + 1 := (Nat.div_lt_iff_lt_mul hsp).2 g1
              simp only [C'] at g2
              rw [if_pos hdiv] at g2
              have hcc := (World.cells?_some (hq (j / e.size) hdiv).1).2.2 (j % e.size) (by rw [hsz]; exact Nat.mod_lt _ hsp)
              rw [add_add, g2, hsz] at hcc
              rw [show j / e.size * e.size + j % e.size = j from by rw [Nat.mul_comm]; exact Nat.div_add_mod j e.size] at hcc
              exact hcc
            have hc0 : ∃ u, ((List.range (len0 + 1)).flatMap fun i => (q i).1)[0]? = some u := by
              cases hh : ((List.range (len0 + 1)).flatMap fun i => (q i).1) with
              | nil => exact absurd hh hne
              | cons u us => exact ⟨u, rfl⟩
            obtain ⟨u, hu⟩ := hc0
            have hcell := hget 0 u hu
            obtain ⟨b, off, spot⟩ := a
            have hspot : spot = none := by simpa [Addr.add] using World.cell?_spot hcell
            subst hspot
            refine ⟨b, off, rfl, fun h => h, fun j u' hu' => ?_⟩
            have := hget j u' hu'
            rwa [Addr.add_lit] at this
        · show ((List.range (len0 + 1)).map fun i => (q i).2).length ≤ _
          simp [maxLen] at hm ⊢; omega
        · obtain ⟨i, hi, rfl⟩ := List.mem_map.1 hx
          exact (hq i (List.mem_range.1 hi)).2.2
  | .un, t, fuel, cs, x, ht, h => by
    unfold TyD at ht
    obtain ⟨fs, h1, h2, h3⟩ := ht
    obtain ⟨xs, n, _, _, hcs, _⟩ := DataW.trod_struct h1 h
    have : cs = [] := List.eq_nil_of_length_eq_zero (by rw [hcs, h2])
    subst this
    exact ⟨(), by simp [DTy.enc, reps], trivial⟩
  | .pr a b, t, fuel, cs, x, ht, h => by
    unfold TyD at ht
    obtain ⟨fs, h1, h2, h3⟩ := ht
    obtain ⟨xs, n, _, _, hcs, hxl, hxs⟩ := DataW.trod_struct h1 h
    have := open_fields (.pr a b) (off := 0) (fs := fs.toList) (n := n) (cs := cs) (x := xs) h3 (fun i f hf => by
      have hf' : fs[i]? = some f := by simpa using hf
      have hlt : i < xs.length := by rw [hxl]; exact (Array.getElem?_eq_some_iff.1 hf').1
      exact ⟨xs[i], by rw [hxs i f hf', List.getElem?_eq_getElem hlt]⟩) (by rw [hcs, h2]; simp [DTy.size])
    simpa using this
  | .arr k e, t, fuel, cs, x, ht, h => by
    unfold TyD at ht
    obtain ⟨et, h1, h2, h3⟩ := ht
    obtain ⟨xs, n, _, _, hcs, hxl, hxs⟩ := DataW.trod_array h1 h
    have hsz := h3.size
    have hex : ∀ i, i < k → ∃ y : e.El, reps w X0 (e.enc y) ((cs.drop (i * e.size)).take e.size) ∧ e.ok y := fun i hi => by
      have := hxs i hi
      rw [List.getElem?_eq_getElem (by omega)] at this
      obtain ⟨y, y1, y2⟩ := open_data e h3 this
      rw [hsz] at y1
      exact ⟨y, y1, y2⟩
    have aux : ∀ (j : Nat) (cs : List Value), cs.length = j * e.size → (∀ i, i < j → ∃ y : e.El, reps w X0 (e.enc y) ((cs.drop (i * e.size)).take e.size) ∧ e.ok y) →
        ∃ l : List e.El, l.length = j ∧ reps w X0 ((l.map e.enc).flatten) cs ∧ ∀ x ∈ l, e.ok x := by
      intro j
      induction j with
      | zero => intro cs hc _; exact ⟨[], rfl, by simp [reps]; exact List.eq_nil_of_length_eq_zero (by simpa using hc), by simp⟩
      | succ j ih =>
        intro cs hc he
        obtain ⟨y, y1, y2⟩ := he 0 (by omega)
        simp only [Nat.zero_mul, List.drop_zero] at y1
        obtain ⟨l, l1, l2, l3⟩ := ih (cs.drop e.size) (by rw [List.length_drop, hc, Nat.add_mul]; omega) (fun i hi => by
          obtain ⟨z, z1, z2⟩ := he (i + 1) (by omega)
          refine ⟨z, ?_, z2⟩
          rw [List.drop_drop, Nat.add_comm, ← Nat.succ_mul]; exact z1)
        refine ⟨y :: l, by simp [l1], ?_, fun x hx => by
          rcases List.mem_cons.1 hx with rfl | hx
          · exact y2
          · exact l3 x hx⟩
        simp only [List.map_cons, List.flatten_cons]
        have := reps_append' y1 l2
        rwa [List.take_append_drop] at this
    obtain ⟨l, l1, l2, l3⟩ := aux k cs (by rw [hcs, h2]) hex
    exact ⟨l, l2, l1, l3⟩
theorem open_fields : ∀ (D : DTy) {off : Nat} {fs : List Field} {n : Nat} {cs : List Value} {x : List (DataW H × List MemPlace)}, FldD P D off fs →
    (∀ (i : Nat) (f : Field), fs[i]? = some f → ∃ y, DataW.trod enc P w base spare held n f.type ((cs.drop f.offset).take (P.cellsOf f.type)) = some y) → cs.length = off + D.size →
    ∃ a : D.El, reps w X0 (D.enc a) (cs.drop off) ∧ D.ok a
  | .un, off, fs, n, cs, x, ht, h, hl => by
    refine ⟨(), ?_, trivial⟩
    simp only [DTy.size, Nat.add_zero] at hl
    rw [← hl, List.drop_length]; simp [DTy.enc, reps]
  | .pr a b, off, fs, n, cs, x, ht, h, hl => by
    unfold FldD at ht
    obtain ⟨f, fs', rfl, rfl, h2, h3⟩ := ht
    obtain ⟨y, hy⟩ := h 0 f rfl
    obtain ⟨p, p1, p2⟩ := open_data a h2 hy
    obtain ⟨q, q1, q2⟩ := open_fields b (cs := cs) (n := n) (x := x) h3 (fun i g hg => h (i + 1) g (by simpa using hg)) (by rw [hl]; simp only [DTy.size]; omega)
    refine ⟨(p, q), ?_, p2, q2⟩
    have := reps_append' p1 q1
    rw [h2.size] at this
    rw [show List.drop (f.offset + a.size) cs = (cs.drop f.offset).drop a.size from by rw [List.drop_drop]] at this
    rw [List.take_append_drop] at this
    exact this
  | .bool, _, _, _, _, _, ht, _, _ => by simp [FldD] at ht
  | .u8, _, _, _, _, _, ht, _, _ => by simp [FldD] at ht
  | .int _, _, _, _, _, _, ht, _, _ => by simp [FldD] at ht
  | .str, _, _, _, _, _, ht, _, _ => by simp [FldD] at ht
  | .sl _, _, _, _, _, _, ht, _, _ => by simp [FldD] at ht
  | .arr _ _, _, _, _, _, _, ht, _, _ => by simp [FldD] at ht
end
end
end Go.AM
