/- Proved here: a part of an abstract machine for the walks of this program, and that it tells the truth about the model. No condition. -/
import Derived.Test.YtjaklhbifgbiaaaAmN
import Derived.Laws.MakeOwn
set_option linter.unusedSimpArgs false
set_option linter.unusedVariables false
namespace Go.AM
open Go

/-! ## make([]T, 0, c) and make([]T, n) -/
def litsOf (z : Array Value) (k : Nat) : List (List DV) := List.replicate k (z.toList.map .lit)

def evMake (P : Program) (s : St) (t : TypeId) (p q : PV) : Option Eff :=
  match p with
  | .d (.lit (.int _ l)) => match q with
    | .d (.lit (.int _ c)) => match tyOf P t with
      | some ty => match ty.k with
        | .slice e => match tyOf P e with
          | some ety => match ety.zero with
            | some z => if z.cells.size = ety.size ∧ z.cells.toList.all oc = true then
                some (effNew (.own ety.size (litsOf z.cells l.toNat)) s.nx (.own s.nx) (0 ≤ l ∧ l ≤ c ∧ c ≤ 9223372036854775807 ∧ (ety.bytes : Int) * c ≤ 281474976710656))
              else none
            | none => none
          | none => none
        | _ => none
      | none => none
    | _ => none
  | _ => none

theorem madeCells_take (z : Array Value) (n l : Nat) (hl : l ≤ n) : (madeCells z (n * z.size)).toList.take (l * z.size) = (List.replicate l z.toList).flatten := by
  induction l with
  | zero => simp
  | succ l ih =>
    have h1 := ih (by omega)
    rw [List.replicate_succ', List.flatten_append, ← h1]
    simp only [List.flatten_cons, List.flatten_nil, List.append_nil]
    rw [Nat.add_mul, Nat.one_mul, List.take_add]
    congr 1
    apply List.ext_getElem?
    intro i
    rw [List.getElem?_take]
    have hmul : (l + 1) * z.size ≤ n * z.size := Nat.mul_le_mul_right _ hl
    rw [Nat.add_mul, Nat.one_mul] at hmul
    by_cases hi : i < z.size
    · rw [if_pos hi, List.getElem?_drop]
      simp only [madeCells, Array.getElem?_toList, Array.getElem?_map]
      have hlt : l * z.size + i < n * z.size := by omega
      rw [Array.getElem?_range, if_pos hlt]
      simp only [Option.map_some]
      rw [Nat.mul_comm l, Nat.mul_add_mod, Nat.mod_eq_of_lt hi]
      simp [hi]
    · rw [if_neg hi]; simp; omega


theorem repss_lits (w : World) (X : Nat → Prop) (z : List Value) (hz : z.all oc = true) : ∀ k, repss w X z.length (List.replicate k (z.map .lit)) (List.replicate k z).flatten
  | 0 => by simp [repss]
  | k + 1 => by
    rw [List.replicate_succ, List.replicate_succ, List.flatten_cons]
    unfold repss
    exact ⟨z, _, rfl, rfl, reps_lits w X z hz, repss_lits w X z hz k⟩

theorem op_make {P : Program} {o : Oper} {s : St} {t : TypeId} {x y : Operand} {e : Eff} (ho : o.op = .makeSlice t x y) (h : evMake P s t (ev s.regs x) (ev s.regs y) = some e) : OpSound P o s e := by
  unfold evMake at h
  split at h
  · rename_i k1 l hx
    split at h
    · rename_i k2 c hy
      split at h
      · rename_i ty ht
        split at h
        · rename_i et hk
          have hu := tyOf_slice ht hk
          split at h
          · rename_i ety he
            split at h
            · rename_i z hz
              split at h
              · rename_i hc
                simp only [Option.some.injEq] at h; subst h
                intro B β X w a hr hok
                obtain ⟨h1, h2, h3, h4⟩ := hok
                obtain ⟨i, u, q1, q2, q3, q4, q5, q6⟩ := tyOf_spec he
                have hi : i.zero = some z := by rw [← q6]; exact hz
                have hmake := run_make (P := P) w t et i z hu q1 hi k1 k2 l c h1 h2 (by rw [← q5]; exact h4) h3
                have hsz : (madeCells z.cells (c.toNat * i.size)).size = c.toNat * ety.size := by rw [size_madeCells, q4]
                have hlen : (litsOf z.cells l.toNat).length = l.toNat := by simp [litsOf]
                obtain ⟨β', m1, m2, m3⟩ := hr.mem.row et (cs := madeCells z.cells (c.toNat * i.size)) (sz := ety.size) (cap := c.toNat) (el := litsOf z.cells l.toNat)
                  (by
                    rw [hlen, ← q4, ← hc.1, madeCells_take z.cells c.toNat l.toNat (by omega)]
                    have := repss_lits w X z.cells.toList hc.2 l.toNat
                    simpa [litsOf] using this)
                  (by rw [hlen]; omega) hsz (by unfold maxLen; omega)
                rw [hlen] at m2
                refine ⟨_, _, β', _, .inl ?_, hr.of_mem m1 (by omega) m3, m2, by show s.nx < s.nx + 1; omega⟩
                simp only [execOp, ho, hr.lit hx, hr.lit hy, Sem.run_bind, hmake, Result.andThen_ok, Sem.run_pure]
                rfl
              · cases h
            · cases h
          · cases h
        · cases h
      · cases h
    · cases h
  · cases h

/-! ## []byte of []byte: what was a text -/
def evConvId (P : Program) (rows : Rows) (src dst : TypeId) (p : PV) : Option PV :=
  match p with
  | .own i => match rows i with
    | .own sz (_ :: _) => if sz = 1 ∧ src = dst ∧ isBytes P src = true then some (.own i) else none
    | _ => none
  | _ => none

theorem World.freeze_cells {w : World} {b : Nat} {cs : Array Value} {e : TypeId} {fr : Nat × Nat} (h : w.heap[b]? = some (.cells cs e fr)) (n : Nat) :
    w.freeze ⟨b, n, none⟩ 1 = setBlk w b (.cells cs e (if fr.1 == fr.2 then (n, n + 1) else (min fr.1 n, max fr.2 (n + 1)))) := by
  have hlt := (Array.getElem?_eq_some_iff.1 h).1
  have hg := (Array.getElem?_eq_some_iff.1 h).2
  unfold World.freeze setBlk
  rw [if_neg (by omega)]
  congr 1
  apply Array.ext_getElem?
  intro i
  rw [Array.getElem?_modify, Array.getElem?_setIfInBounds]
  split
  · rename_i hi
    subst hi
    rw [h]
    obtain ⟨lo, hi⟩ := fr
    simp [hlt]
  · rfl

theorem op_convId {P : Program} {o : Oper} {s : St} {src dst : TypeId} {x : Operand} {q : PV} (ho : o.op = .convert src dst x) (h : evConvId P s.rows src dst (ev s.regs x) = some q) :
    OpSound P o s (Eff.pureIf True q) := by
  unfold evConvId at h
  split at h
  · rename_i i hx
    split at h
    · rename_i sz e0 el hrow
      split at h
      · rename_i hc
        obtain ⟨rfl, rfl, hb⟩ := hc
        simp only [Option.some.injEq] at h; subst h
        intro B β X w a hr _
        obtain ⟨et, h1, h2⟩ := isBytes_spec hb
        have hv := (hr.ev x).1
        rw [hx] at hv
        have hv0 := hv
        unfold repP at hv
        have hv := hv _ _ hrow
        have hrk := hr.mem.ok i
        rw [hrow] at hrk
        obtain ⟨g1, g2, g3⟩ := hrk
        rcases g3 with ⟨g3, g4⟩ | ⟨b, cs, e, fr, c1, c2, c3, c4, c5, c6, c7⟩
        · cases g4
        · have hlt := (Array.getElem?_eq_some_iff.1 c4).1
          let fr' : Nat × Nat := if fr.1 == fr.2 then (cs.size, cs.size + 1) else (min fr.1 cs.size, max fr.2 (cs.size + 1))
          have hfr : Thaw fr' cs.size := by
            have hle := c5.1
            refine ⟨by
              by_cases hz : (fr.1 == fr.2) = true
              · simp only [fr', hz, if_true]; omega
              · simp only [fr', hz]; show min fr.1 cs.size ≤ max fr.2 (cs.size + 1); omega, fun j hj hh => ?_⟩
            by_cases hz : (fr.1 == fr.2) = true
            · simp only [fr', hz, if_true] at hh; omega
            · simp only [fr', hz] at hh
              have hne : fr.1 ≠ fr.2 := by simpa using hz
              have := c5.2 j hj
              have h5 := c5.2 fr.1
              have hh' : min fr.1 cs.size ≤ j ∧ j < max fr.2 (cs.size + 1) := by simpa using hh
              omega
          have hW := Mem.write (w' := setBlk w b (.cells cs e fr')) hr.mem i b (.cells cs e fr') (.own 1 (e0 :: el)) (by rw [hrow]; simp [rblk, c2]; omega) rfl rfl rfl rfl (by rw [hrow]; exact ⟨rfl, rfl⟩)
            (fun c hcc => by simp [rblk, c2] at hcc; exact hcc.2.symm) (fun hC hK => ?_) (fun cells hcc => by cases hcc)
          · obtain ⟨k1, k2, k3⟩ := hW
            have hrows : upd s.rows i (.own 1 (e0 :: el)) = s.rows := by
              funext j; simp only [upd]; split
              · rename_i hj; subst hj; exact hrow.symm
              · rfl
            rw [hrows] at k1 k3
            refine ⟨a.eval x, _, β, X, .inl ?_, ⟨k1, hr.defers, hr.size, hr.kl, fun t => repP_mono k2 k3 _ _ (hr.sc t) (hr.rg t), hr.sc⟩, ?_, ?_⟩
            · have hsh : w.shape? b = some (e, cs.size) := by simp [World.shape?, c4]
              have hrun : (convert src src (a.eval x)).run P w = .ok (a.eval x) (setBlk w b (.cells cs e fr')) := by
                rw [hv, c2]
                simp only [convert, Sem.run_bind, run_underlying h1, Result.andThen_ok, run_underlying h2, BEq.rfl, markStringish, run_shape, hsh, run_freeze, World.freeze_cells c4]
                rfl
              simp only [execOp, ho, Sem.run_bind, hrun, Result.andThen_ok, Sem.run_pure]
            · exact repP_mono k2 k3 (.own i) _ (by have := (hr.ev x).2; rw [hx] at this; exact this) hv0
            · have := (hr.ev x).2; rw [hx] at this; exact this
          · refine ⟨g1, g2, .inr ⟨b, cs, e, fr', c1, c2, c3, setBlk_get hlt, hfr, c6, repss_mono hK 1 _ _ c7⟩⟩
      · cases h
    · cases h
  · cases h
end Go.AM
