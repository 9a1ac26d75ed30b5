/- Proved here: a part of an abstract machine for the walks of this program, and that it tells the truth about the model. No condition. -/
import Derived.Test.YtjaklhbifgbiaaaAmW
import Derived.Orders
set_option linter.unusedSimpArgs false
set_option linter.unusedVariables false
namespace Go.AM
open Go

/-! ## numbers that change places -/
def swp (m n k i : Nat) : Nat := if m ≤ i ∧ i < m + k then n + (i - m) else if n ≤ i ∧ i < n + k then m + (i - n) else i

theorem swp_inj {m n k : Nat} (h : m + k ≤ n) {i j : Nat} (e : swp m n k i = swp m n k j) : i = j := by
  unfold swp at e
  repeat' split at e
  all_goals omega

mutual
theorem ren_id {σ : Nat → Nat} : ∀ p, Sc (fun i => σ i = i) p → ren σ p = p
  | .d _, _ => rfl
  | .own i, h => by simp only [ren]; rw [show σ i = i from h]
  | .win i _ _, h => by simp only [ren]; rw [show σ i = i from h]
  | .ptr i _, h => by simp only [ren]; rw [show σ i = i from h]
  | .eptr i _ _, h => by simp only [ren]; rw [show σ i = i from h]
  | .iptr _, _ => rfl
  | .clo _ f c, h => by simp only [ren]; rw [rens_id f h.1, rens_id c h.2]
  | .ifc _ x, h => by simp only [ren]; rw [ren_id x h]
  | .agg ps, h => by simp only [ren]; rw [rens_id ps h]
  | .tup ps, h => by simp only [ren]; rw [rens_id ps h]
  | .any, _ => rfl
theorem rens_id {σ : Nat → Nat} : ∀ ps, Scs (fun i => σ i = i) ps → rens σ ps = ps
  | [], _ => rfl
  | p :: ps, h => by simp only [rens]; rw [ren_id p h.1, rens_id ps h.2]
end

mutual
theorem ren_comp {σ τ ρ : Nat → Nat} : ∀ p, Sc (fun i => σ (τ i) = ρ i) p → ren σ (ren τ p) = ren ρ p
  | .d _, _ => rfl
  | .own i, h => by simp only [ren]; rw [show σ (τ i) = ρ i from h]
  | .win i _ _, h => by simp only [ren]; rw [show σ (τ i) = ρ i from h]
  | .ptr i _, h => by simp only [ren]; rw [show σ (τ i) = ρ i from h]
  | .eptr i _ _, h => by simp only [ren]; rw [show σ (τ i) = ρ i from h]
  | .iptr _, _ => rfl
  | .clo _ f c, h => by simp only [ren]; rw [rens_comp f h.1, rens_comp c h.2]
  | .ifc _ x, h => by simp only [ren]; rw [ren_comp x h]
  | .agg ps, h => by simp only [ren]; rw [rens_comp ps h]
  | .tup ps, h => by simp only [ren]; rw [rens_comp ps h]
  | .any, _ => rfl
theorem rens_comp {σ τ ρ : Nat → Nat} : ∀ ps, Scs (fun i => σ (τ i) = ρ i) ps → rens σ (rens τ ps) = rens ρ ps
  | [], _ => rfl
  | p :: ps, h => by simp only [rens]; rw [ren_comp p h.1, rens_comp ps h.2]
end

mutual
theorem Sc_and {S T : Nat → Prop} : ∀ p, Sc S p → Sc T p → Sc (fun i => S i ∧ T i) p
  | .d _, _, _ => trivial
  | .own _, h, k => ⟨h, k⟩
  | .win _ _ _, h, k => ⟨h, k⟩
  | .ptr _ _, h, k => ⟨h, k⟩
  | .eptr _ _ _, h, k => ⟨h, k⟩
  | .iptr _, _, _ => trivial
  | .clo _ f c, h, k => ⟨Scs_and f h.1 k.1, Scs_and c h.2 k.2⟩
  | .ifc _ x, h, k => Sc_and x h k
  | .agg ps, h, k => Scs_and ps h k
  | .tup ps, h, k => Scs_and ps h k
  | .any, _, _ => trivial
theorem Scs_and {S T : Nat → Prop} : ∀ ps, Scs S ps → Scs T ps → Scs (fun i => S i ∧ T i) ps
  | [], _, _ => trivial
  | p :: ps, h, k => ⟨Sc_and p h.1 k.1, Scs_and ps h.2 k.2⟩
end

theorem SRel.perm {B : Base} {β : Nat → Loc} {X : Nat → Prop} {w : World} {a : Act} {s' s2 : St} (h : SRel B β X w a s') {σ : Nat → Nat} (hN : s2.N = s'.N) (hkl : s2.kl = s'.kl)
    (hrow : ∀ i, s'.rows (σ i) = renRow σ (s2.rows i)) (hreg : ∀ t, s'.regs t = ren σ (s2.regs t)) (hinj : ∀ i j, σ i = σ j → i = j) (hd : ∀ i, s2.nx ≤ i → s2.rows i = .dead)
    (hsr : ∀ i cells, s2.rows i = .box cells → Scs (· < s2.nx) cells) (hs : ∀ t, Sc (· < s2.nx) (s2.regs t)) (hk : s'.kl ≤ s2.nx) (hk2 : ∀ i, i < s'.kl → σ i = i) : Sat B s2 a w := by
  have hr : ∀ i, RowIs σ (s'.rows (σ i)) (s2.rows i) := fun i => .inr (hrow i)
  refine ⟨fun i => β (σ i), X, h.mem.rename hr (fun i j _ _ e => hinj i j e) hd hsr (by rw [← h.kl]; exact hk) (fun i hi _ => hk2 i (by rw [h.kl]; exact hi)), h.defers, by rw [h.size, hN], by rw [hkl, h.kl], fun t => ?_, hs⟩
  have := h.rg t
  rw [hreg t] at this
  exact repP_unren hr _ _ this

def St.app (s : St) (d : Option Nat) (p : PV) (u : List (Nat × Row)) : St := ({ s with rows := updRows s.rows u }).put d p

structure Fresh (s : St) (m : Nat) : Prop where
  le : m + 64 ≤ s.nx
  kl : s.kl ≤ m
  dead : ∀ i, m ≤ i → i < m + 64 → s.rows i = .dead
  reg : ∀ i, m ≤ i → i < m + 64 → ∀ t, Sc (· ≠ i) (s.regs t)
  row : ∀ i, m ≤ i → i < m + 64 → ∀ j cells, s.rows j = .box cells → Scs (· ≠ i) cells

mutual
theorem Sc_all {T : Nat → Nat → Prop} : ∀ p, (∀ n, Sc (T n) p) → Sc (fun i => ∀ n, T n i) p
  | .d _, _ => trivial
  | .own _, h => h
  | .win _ _ _, h => h
  | .ptr _ _, h => h
  | .eptr _ _ _, h => h
  | .iptr _, _ => trivial
  | .clo _ f c, h => ⟨Scs_all f fun n => (h n).1, Scs_all c fun n => (h n).2⟩
  | .ifc _ x, h => Sc_all x h
  | .agg ps, h => Scs_all ps h
  | .tup ps, h => Scs_all ps h
  | .any, _ => trivial
theorem Scs_all {T : Nat → Nat → Prop} : ∀ ps, (∀ n, Scs (T n) ps) → Scs (fun i => ∀ n, T n i) ps
  | [], _ => trivial
  | p :: ps, h => ⟨Sc_all p fun n => (h n).1, Scs_all ps fun n => (h n).2⟩
end

theorem Sc_fix {s : St} {m k : Nat} (hk : k ≤ 64) {p : PV} (h1 : ∀ i, m ≤ i → i < m + 64 → Sc (· ≠ i) p) (h2 : Sc (· < s.nx) p) : Sc (fun i => swp m s.nx k i = i) p := by
  have h3 : Sc (fun i => ∀ n, (m ≤ n ∧ n < m + 64) → i ≠ n) p := Sc_all p fun n => by
    by_cases hn : m ≤ n ∧ n < m + 64
    · exact Sc.mono (fun i hi _ => hi) p (h1 n hn.1 hn.2)
    · exact Sc.mono (fun i _ h => absurd h hn) p h2
  refine Sc.mono (fun i hi => ?_) p (Sc_and p h3 h2)
  unfold swp
  have := hi.1 i
  rw [if_neg (fun h => this ⟨h.1, by omega⟩ rfl), if_neg (by omega)]

theorem Scs_fix {s : St} {m k : Nat} (hk : k ≤ 64) {p : List PV} (h1 : ∀ i, m ≤ i → i < m + 64 → Scs (· ≠ i) p) (h2 : Scs (· < s.nx) p) : Scs (fun i => swp m s.nx k i = i) p := by
  have := Sc_fix (p := .agg p) hk h1 h2
  exact this

theorem Fresh.renRow {B : Base} {β : Nat → Loc} {X : Nat → Prop} {w : World} {a : Act} {s : St} {m k : Nat} (hf : Fresh s m) (hr : SRel B β X w a s) (hk : k ≤ 64) (i : Nat) : renRow (swp m s.nx k) (s.rows i) = s.rows i := by
  cases hi : s.rows i with
  | box cells =>
    simp only [AM.renRow, Row.box.injEq]
    exact rens_id _ (Scs_fix hk (fun j h1 h2 => hf.row j h1 h2 i cells hi) (hr.mem.scr i cells hi))
  | _ => rfl

theorem swap_sat {B : Base} {β β0 : Nat → Loc} {X X0 : Nat → Prop} {w w0 : World} {a : Act} {s : St} {m k : Nat} (hf : Fresh s m) (hk : k ≤ 64) (h0 : SRel B β0 X0 w0 a s) {p p' : PV} {u u' : List (Nat × Row)} {d : Option Nat} {a' : Act}
    (h : SRel B β X w a' (({ s with rows := updRows s.rows u', nx := s.nx + k } : St).put d p')) (hp : p' = ren (swp m s.nx k) p) (hsp : Sc (· < s.nx) p)
    (hrow : ∀ i, updRows s.rows u' (swp m s.nx k i) = renRow (swp m s.nx k) (updRows s.rows u i)) (hd : ∀ i, s.nx ≤ i → updRows s.rows u i = .dead)
    (hsc : ∀ i cells, updRows s.rows u i = .box cells → Scs (· < s.nx) cells) : Sat B (s.app d p u) a' w := by
  have hle := hf.le
  have hkl := hf.kl
  have hpr : ∀ (s : St) (d : Option Nat) (p : PV), (s.put d p).rows = s.rows ∧ (s.put d p).nx = s.nx ∧ (s.put d p).N = s.N ∧ (s.put d p).kl = s.kl := fun s d p => by cases d <;> exact ⟨rfl, rfl, rfl, rfl⟩
  refine h.perm (s2 := s.app d p u) (σ := swp m s.nx k) (by simp [St.app, hpr]) (by simp [St.app, hpr]) ?_ ?_ (fun i j e => swp_inj (by omega) e) ?_ ?_ ?_ (by simp [St.app, hpr]; omega) ?_
  · intro i; simp only [St.app, hpr]; exact hrow i
  · intro t
    have hold : s.regs t = ren (swp m s.nx k) (s.regs t) := (ren_id _ (Sc_fix hk (fun i h1 h2 => hf.reg i h1 h2 t) (h0.sc t))).symm
    cases d with
    | none => exact hold
    | some d =>
      simp only [St.app, St.put]
      by_cases ht : t = d
      · subst ht; rw [upd_same, upd_same]; exact hp
      · rw [upd_ne _ _ ht, upd_ne _ _ ht]; exact hold
  · intro i hi; simp only [St.app, hpr] at hi ⊢; exact hd i hi
  · intro i cells hi; simp only [St.app, hpr] at hi ⊢; exact hsc i cells hi
  · intro t
    cases d with
    | none => exact h0.sc t
    | some d =>
      simp only [St.app, St.put]
      by_cases ht : t = d
      · subst ht; rw [upd_same]; exact hsp
      · rw [upd_ne _ _ ht]; exact h0.sc t
  · intro i hi
    simp only [hpr] at hi
    unfold swp
    rw [if_neg (by omega), if_neg (by omega)]

/-- an operation, made in any order: the effect p, u, its new rows from m on -/
def Does (P : Program) (o : Oper) (p : PV) (u : List (Nat × Row)) (s : St) (m : Nat) : Prop :=
  ∀ B β X w a, SRel B β X w a s → Fresh s m → ∀ (K : Act → World → Prop) Q, (∀ a' w', Sat B (s.app o.dst p u) a' w' → K a' w') → o.wp P a w K Q

theorem updRows_one {rows : Rows} {n : Nat} {r : Row} {u : List (Nat × Row)} (i : Nat) : updRows rows (u ++ [(n, r)]) i = if i = n then r else updRows rows u i := by
  induction u generalizing rows with
  | nil => simp [updRows, upd]
  | cons x u ih => obtain ⟨j, q⟩ := x; simp only [List.cons_append, updRows]; exact ih

theorem does_b {P : Program} {o : Oper} {s : St} {m : Nat} {e : Eff} (he : evOp P o { s with nx := m } = some e) (hok : e.ok) (hd : ∀ d, o.dst = some d → d < s.N) : Does P o e.val e.upds s m := by
  intro B β X w a hr hf K Q hK
  obtain ⟨f, f1, f2, f3⟩ := evOp_shift he
  have he' : evOp P o s = some (f s.nx) := f1 s.nx
  have hle := hf.le
  have hok' : (f s.nx).ok := by
    have e1 : e = f m := f2.symm
    rw [e1] at hok
    cases f3 with
    | same h h0 => rw [h s.nx]; rw [h m] at hok; exact hok
    | own ok u sz el h hu => rw [h]; rw [h] at hok; exact hok
    | box ok ps h hps => rw [h]; rw [h] at hok; exact hok
  obtain ⟨v, w', β', X', h1, h2, h3, h4⟩ := evOp_sound he' B β X w a hr hok'
  have hput := h2.put (d := o.dst) h3 h4 (fun d hd' => hd d hd')
  have key : Sat B (s.app o.dst e.val e.upds) (a.put o.dst v) w' := by
    have e1 : e = f m := f2.symm
    subst e1
    cases f3 with
    | same h h0 =>
      have e2 : f s.nx = f m := by rw [h s.nx, h m]
      have e3 : (f m).nn = 0 := by rw [h m]; exact h0
      rw [e2] at hput
      refine ⟨β', X', ?_⟩
      have e4 : (s.after (f m)).put o.dst (f m).val = s.app o.dst (f m).val (f m).upds := by
        simp only [St.after, St.app, e3, Nat.add_zero]
      rw [← e4]; exact hput
    | own ok u sz el h hu =>
      rw [h] at hput
      rw [h]
      have hu1 : ∀ i, updRows s.rows u i = .dead ∨ updRows s.rows u i = s.rows i := fun i => by
        rcases hu with rfl | ⟨j, rfl⟩
        · exact .inr rfl
        · simp only [updRows, upd]; split <;> simp
      refine swap_sat (k := 1) hf (by omega) hr hput (by simp only [ren, swp]; rw [if_pos (by omega)]; simp) (by show m < s.nx; omega) (fun i => ?_) (fun i hi => ?_) (fun i cells hi => ?_)
      · rw [updRows_one, updRows_one]
        by_cases hi : i = m
        · subst hi
          have : swp i s.nx 1 i = s.nx := by unfold swp; rw [if_pos (by omega)]; omega
          rw [this]; simp [AM.renRow]
        · rw [if_neg hi]
          have hne : swp m s.nx 1 i ≠ s.nx := fun e => hi (swp_inj (m := m) (n := s.nx) (k := 1) (by omega) (e.trans (by unfold swp; rw [if_pos (by omega)]; omega)))
          rw [if_neg hne]
          by_cases hin : i = s.nx
          · subst hin
            have e5 : swp m s.nx 1 s.nx = m := by unfold swp; rw [if_neg (by omega), if_pos (by omega)]; omega
            rw [e5]
            have d1 : updRows s.rows u m = .dead := by rcases hu1 m with h | h; · exact h
                                                       · rw [h]; exact hf.dead m (by omega) (by omega)
            have d2 : updRows s.rows u s.nx = .dead := by rcases hu1 s.nx with h | h; · exact h
                                                          · rw [h]; exact hr.mem.dead _ (Nat.le_refl _)
            rw [d1, d2]; rfl
          · have e5 : swp m s.nx 1 i = i := by unfold swp; rw [if_neg (by omega), if_neg (by omega)]
            rw [e5]
            rcases hu1 i with h | h
            · rw [h]; rfl
            · rw [h, hf.renRow hr (by omega) i]
      · rw [updRows_one, if_neg (by omega)]
        rcases hu1 i with h | h
        · exact h
        · rw [h]; exact hr.mem.dead i hi
      · rw [updRows_one] at hi
        split at hi
        · cases hi
        · rcases hu1 i with h | h
          · rw [h] at hi; cases hi
          · rw [h] at hi; exact hr.mem.scr i cells hi
    | box ok ps h hps =>
      rw [h] at hput
      rw [h]
      have hsp : Scs (· < s.nx) ps := hps _ fun x => (hr.ev x).2
      have hnm : Scs (fun i => swp m s.nx 1 i = i) ps := Scs_fix (by omega) (fun i h1 h2 => hps _ fun x => by
        cases x with
        | tmp t => exact hf.reg i h1 h2 t
        | const v => exact Sc_ofVal _ _
        | global g => trivial
        | func g => exact ⟨trivial, trivial⟩) hsp
      refine swap_sat (k := 1) hf (by omega) hr hput (by simp only [ren, swp]; rw [if_pos (by omega)]; simp) (by show m < s.nx; omega) (fun i => ?_) (fun i hi => ?_) (fun i cells hi => ?_)
      · simp only [updRows]
        by_cases hi : i = m
        · subst hi
          have : swp i s.nx 1 i = s.nx := by unfold swp; rw [if_pos (by omega)]; omega
          rw [this, upd_same, upd_same]
          simp only [AM.renRow, rens_id _ hnm]
        · rw [upd_ne _ _ hi]
          have hne : swp m s.nx 1 i ≠ s.nx := fun e => hi (swp_inj (m := m) (n := s.nx) (k := 1) (by omega) (e.trans (by unfold swp; rw [if_pos (by omega)]; omega)))
          rw [upd_ne _ _ hne]
          by_cases hin : i = s.nx
          · subst hin
            have e5 : swp m s.nx 1 s.nx = m := by unfold swp; rw [if_neg (by omega), if_pos (by omega)]; omega
            rw [e5, hf.dead m (by omega) (by omega), hr.mem.dead _ (Nat.le_refl _)]; rfl
          · have e5 : swp m s.nx 1 i = i := by unfold swp; rw [if_neg (by omega), if_neg (by omega)]
            rw [e5, hf.renRow hr (by omega) i]
      · simp only [updRows]; rw [upd_ne _ _ (by omega)]; exact hr.mem.dead i hi
      · simp only [updRows] at hi
        by_cases hin : i = m
        · subst hin; rw [upd_same] at hi; cases hi; exact hsp
        · rw [upd_ne _ _ hin] at hi; exact hr.mem.scr i cells hi
  unfold Oper.wp
  rcases h1 with h1 | ⟨h1, rfl⟩ <;> (rw [h1]; exact hK _ _ key)

/-- a call of a function by its contract, its new rows from m on -/
structure CallD (P : Program) (f : FuncId) (ps' : List PV) (rows : Rows) (nx m : Nat) (ps : List PV) (lent : List Row) (r : PV) (out : List Row) (ι T : List Nat) : Prop where
  fn : isFn P f = true
  af : AFun P f ps lent r out
  hι : ι.length = lent.length
  hout : lent.length ≤ out.length
  hk : out.length - lent.length ≤ 64
  hnd : ι.Nodup
  hlt : ∀ i ∈ ι, i < nx
  args : argsOk rows T (sig ι m) ps' ps
  le : lentOk rows T (sig ι m) 0 lent
  hT : T = [] ∨ (nvP r ∧ ∀ row ∈ out, nvRow row)
  hr : scB out.length r = true
  ho : out.all (scRow out.length) = true
  hl : lent.all (scRow lent.length) = true
  hp : scBs lent.length ps = true

mutual
theorem ren_cong {σ τ : Nat → Nat} : ∀ p, Sc (fun i => σ i = τ i) p → ren σ p = ren τ p
  | .d _, _ => rfl
  | .own i, h => by simp only [ren]; rw [show σ i = τ i from h]
  | .win i _ _, h => by simp only [ren]; rw [show σ i = τ i from h]
  | .ptr i _, h => by simp only [ren]; rw [show σ i = τ i from h]
  | .eptr i _ _, h => by simp only [ren]; rw [show σ i = τ i from h]
  | .iptr _, _ => rfl
  | .clo _ f c, h => by simp only [ren]; rw [rens_cong f h.1, rens_cong c h.2]
  | .ifc _ x, h => by simp only [ren]; rw [ren_cong x h]
  | .agg ps, h => by simp only [ren]; rw [rens_cong ps h]
  | .tup ps, h => by simp only [ren]; rw [rens_cong ps h]
  | .any, _ => rfl
theorem rens_cong {σ τ : Nat → Nat} : ∀ ps, Scs (fun i => σ i = τ i) ps → rens σ ps = rens τ ps
  | [], _ => rfl
  | p :: ps, h => by simp only [rens]; rw [ren_cong p h.1, rens_cong ps h.2]
end

theorem sig_lt {ι : List Nat} {m n j : Nat} (h : j < ι.length) : sig ι m j = sig ι n j := by unfold sig; rw [if_pos h, if_pos h]

theorem argsOk_base {rows : Rows} {T ι : List Nat} {m n : Nat} : ∀ {ps' ps : List PV}, argsOk rows T (sig ι m) ps' ps → scBs ι.length ps = true → argsOk rows T (sig ι n) ps' ps
  | [], [], _, _ => trivial
  | p' :: ps', p :: ps, h, hs => by
    simp only [scBs, Bool.and_eq_true] at hs
    refine ⟨?_, argsOk_base h.2 hs.2⟩
    rcases h.1 with h1 | h1
    · exact .inl (h1.trans (ren_cong p (Sc.mono (fun i hi => sig_lt hi) p (scB_ok p hs.1))))
    · exact .inr h1
  | [], _ :: _, h, _ => h.elim
  | _ :: _, [], h, _ => h.elim

theorem renRow_cong {σ τ : Nat → Nat} {r : Row} {n : Nat} (h : scRow n r = true) (he : ∀ i, i < n → σ i = τ i) : renRow σ r = renRow τ r := by
  cases r with
  | box cells => simp only [AM.renRow, Row.box.injEq]; exact rens_cong _ (Scs.mono (fun i hi => he i hi) _ (scBs_ok cells h))
  | _ => rfl

theorem lentOk_base {rows : Rows} {T ι : List Nat} {m n : Nat} : ∀ {k : Nat} {rs : List Row}, lentOk rows T (sig ι m) k rs → k + rs.length ≤ ι.length → rs.all (scRow ι.length) = true → lentOk rows T (sig ι n) k rs
  | _, [], _, _, _ => trivial
  | k, r :: rs, h, hk, hs => by
    simp only [List.all_cons, Bool.and_eq_true] at hs
    simp only [List.length_cons] at hk
    unfold lentOk at h ⊢
    have e : sig ι n k = sig ι m k := sig_lt (by omega)
    rw [e, renRow_cong (τ := sig ι m) hs.1 fun i hi => sig_lt hi]
    exact ⟨h.1, h.2.1, h.2.2.1, lentOk_base h.2.2.2 (by omega) hs.2⟩

set_option maxHeartbeats 400000 in
theorem does_call {P : Program} {o : Oper} {c : Call} (ho : o.op = .call c) {s : St} {m : Nat} {f : FuncId} {ps' : List PV} (hc : calleeOf s c = some (f, ps')) {ps : List PV} {lent : List Row} {r : PV} {out : List Row} {ι T : List Nat}
    (h : CallD P f ps' s.rows s.nx m ps lent r out ι T) (hd : ∀ d, o.dst = some d → d < s.N) : Does P o (ren (sig ι m) r) (plc (sig ι m) 0 out) s m := by
  intro B β X w a hr hf K Q hK
  have hle := hf.le
  have hk64 := h.hk
  have hlens : lent.length = ι.length := h.hι.symm
  generalize hkk : out.length - lent.length = k at hk64
  -- the places that are lent are none of the new ones
  have hlive : ∀ j, j < ι.length → ¬ (m ≤ sig ι m j ∧ sig ι m j < m + 64) ∧ sig ι m j < s.nx := fun j hj => by
    obtain ⟨g1, g2, _⟩ := lentOk_get h.le j lent[j] (List.getElem?_eq_getElem (by omega))
    rw [Nat.zero_add] at g1
    have hne : s.rows (sig ι m j) ≠ .dead := by
      rw [g1]; intro h0; apply g2
      cases hx : lent[j] <;> rw [hx] at h0 <;> simp [AM.renRow] at h0 ⊢
    refine ⟨fun hb => hne (hf.dead _ hb.1 hb.2), ?_⟩
    rcases Nat.lt_or_ge (sig ι m j) s.nx with h1 | h1
    · exact h1
    · exact absurd (hr.mem.dead _ h1) hne
  have hσ : ∀ j, j < out.length → swp m s.nx k (sig ι m j) = sig ι s.nx j := fun j hj => by
    by_cases hji : j < ι.length
    · have := hlive j hji
      rw [sig_lt (n := s.nx) (m := m) hji] at this ⊢
      unfold swp
      rw [if_neg (fun hb => this.1 ⟨hb.1, by omega⟩), if_neg (by omega)]
    · unfold sig
      rw [if_neg hji, if_neg hji]
      unfold swp
      rw [if_pos (by omega)]; omega
  have hscr : Sc (fun i => swp m s.nx k (sig ι m i) = sig ι s.nx i) r := Sc.mono (fun i hi => hσ i hi) r (scB_ok r h.hr)
  have hinj : ∀ a b, a < out.length → b < out.length → sig ι m a = sig ι m b → a = b := fun a b ha hb he => by
    by_cases h1 : a < ι.length <;> by_cases h2 : b < ι.length
    · unfold sig at he
      rw [if_pos h1, if_pos h2, List.getD_eq_getElem?_getD, List.getD_eq_getElem?_getD] at he
      refine (List.getElem?_inj h1 h.hnd).1 ?_
      rw [List.getElem?_eq_getElem h1, List.getElem?_eq_getElem h2] at he ⊢
      simpa using he
    · have := (hlive a h1).1
      rw [he] at this; unfold sig at this; rw [if_neg h2] at this; omega
    · have := (hlive b h2).1
      rw [← he] at this; unfold sig at this; rw [if_neg h1] at this; omega
    · unfold sig at he; rw [if_neg h1, if_neg h2] at he; omega
  have hinjn : ∀ a b, a < out.length → b < out.length → sig ι s.nx a = sig ι s.nx b → a = b := fun a b ha hb he => by
    rw [← hσ a ha, ← hσ b hb] at he
    exact hinj a b ha hb (swp_inj (by omega) he)
  have hall := h.af.call (rows := s.rows) (nx := s.nx) ι T (ps' := ps') h.hι h.hout h.hnd h.hlt (argsOk_base h.args (by rw [← hlens]; exact h.hp)) (lentOk_base h.le (by omega) (by rw [← hlens]; exact h.hl)) h.hT
  have haop : aop P { o with guard := none } s (fun s' => s' = ({ s with rows := updRows s.rows (plc (sig ι s.nx) 0 out), nx := s.nx + k } : St).put o.dst (ren (sig ι s.nx) r)) := by
    unfold aop
    have hcv : ∃ x, c.callee = .value x := by
      unfold calleeOf at hc
      split at hc
      · rename_i x hx; exact ⟨x, hx⟩
      · cases hc
    obtain ⟨x, hx⟩ := hcv
    have hev : evOp P { o with guard := none } s = none := by unfold evOp; simp only [ho, hx]
    rw [hev]
    simp only [ho, hc]
    refine ⟨h.fn, hd, hall.mono fun r' rows' nx' ⟨e1, e2, e3⟩ => ?_⟩
    subst e1; subst e2; subst e3
    rw [hkk]
  have hw := aop_sound haop ⟨β, X, hr⟩ (K' := K) (Q := Q) fun s' a' w' hs' hsat => by
    subst hs'
    obtain ⟨β', X', h'⟩ := hsat
    have hscout : ∀ j row, out[j]? = some row → scRow out.length row = true := fun j row hj => by
      have := h.ho
      rw [List.all_eq_true] at this
      exact this row (List.mem_of_getElem? hj)
    have hget : ∀ {n : Nat}, (∀ a b, a < out.length → b < out.length → sig ι n a = sig ι n b → a = b) → ∀ j, j < out.length → updRows s.rows (plc (sig ι n) 0 out) (sig ι n j) = renRow (sig ι n) (out.getD j .dead) := fun hi j hj => by
      have := updRows_plc (σ := sig ι _) out s.rows 0 j (fun a b _ h2 _ h4 he => hi a b (by omega) (by omega) he) hj
      rwa [Nat.zero_add] at this
    have hnot : ∀ {n : Nat} (i : Nat), (∀ j, j < out.length → sig ι n j ≠ i) → updRows s.rows (plc (sig ι n) 0 out) i = s.rows i := fun i hi => by
      refine updRows_notin _ _ _ fun x hx => ?_
      obtain ⟨a, _, h2, h3⟩ := plc_mem out 0 hx
      rw [h3]; exact hi a (by omega)
    have hsigm : ∀ j, j < out.length → sig ι m j < s.nx := fun j hj => by
      by_cases hji : j < ι.length
      · exact (hlive j hji).2
      · unfold sig; rw [if_neg hji]; omega
    refine hK _ _ (swap_sat (k := k) hf hk64 hr h' (ren_comp r hscr).symm (Sc_ren hsigm r (scB_ok r h.hr)) (fun i => ?_) (fun i hi => ?_) (fun i cells hi => ?_))
    · by_cases hex : ∃ j, j < out.length ∧ sig ι m j = i
      · obtain ⟨j, hj, rfl⟩ := hex
        rw [hσ j hj, hget hinjn j hj, hget hinj j hj]
        have hrow : scRow out.length (out.getD j .dead) = true := hscout j _ (by simp [List.getElem?_eq_getElem hj])
        cases hx : out.getD j .dead with
        | box cells =>
          rw [hx] at hrow
          simp only [AM.renRow, Row.box.injEq]
          exact (rens_comp cells (Scs.mono (fun i hi => hσ i hi) cells (scBs_ok cells hrow))).symm
        | _ => rfl
      · have hn : ∀ j, j < out.length → sig ι m j ≠ i := fun j hj e => hex ⟨j, hj, e⟩
        rw [hnot i hn]
        rw [hnot _ (fun j hj e => hn j hj (by rw [← hσ j hj] at e; exact swp_inj (by omega) e))]
        rw [hf.renRow hr hk64 i]
        by_cases h1 : m ≤ i ∧ i < m + k
        · have := hn (ι.length + (i - m)) (by omega)
          exact absurd (by unfold sig; rw [if_neg (by omega)]; omega) this
        · by_cases h2 : s.nx ≤ i ∧ i < s.nx + k
          · have e5 : swp m s.nx k i = m + (i - s.nx) := by unfold swp; rw [if_neg h1, if_pos h2]
            rw [e5, hf.dead _ (by omega) (by omega), hr.mem.dead i h2.1]
          · have e5 : swp m s.nx k i = i := by unfold swp; rw [if_neg h1, if_neg h2]
            rw [e5]
    · rw [hnot i (fun j hj e => by have := hsigm j hj; omega)]
      exact hr.mem.dead i hi
    · by_cases hex : ∃ j, j < out.length ∧ sig ι m j = i
      · obtain ⟨j, hj, rfl⟩ := hex
        rw [hget hinj j hj] at hi
        have hrow : scRow out.length (out.getD j .dead) = true := hscout j _ (by simp [List.getElem?_eq_getElem hj])
        cases hx : out.getD j .dead with
        | box cells' =>
          rw [hx] at hi hrow
          simp only [AM.renRow, Row.box.injEq] at hi
          subst hi
          exact Scs_ren hsigm cells' (scBs_ok cells' hrow)
        | _ => rw [hx] at hi; simp [AM.renRow] at hi
      · rw [hnot i fun j hj e => hex ⟨j, hj, e⟩] at hi
        exact hr.mem.scr i cells hi
  exact hw
end Go.AM
