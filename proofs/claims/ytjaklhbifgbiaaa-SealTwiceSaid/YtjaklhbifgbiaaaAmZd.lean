/- Proved here: from a contract of a law to its walk. No condition. -/
import Derived.Test.YtjaklhbifgbiaaaAmZc
import Derived.WalkKit
import Derived.ProofKit
import Derived.OpenShut
import Derived.ShutString
import Derived.ChangeOld
import Derived.Carry
set_option linter.unusedSimpArgs false
set_option linter.unusedVariables false
namespace Go.AM
open Go Go.ChangeShapes Go.WideShapes Go.RowKit

/-! ## from a contract to a law's statement -/
def base0 (w : World) : Base := { w0 := w, L := fun _ => False, X0 := X0, kl := 0, loc := fun _ => ⟨none, 0⟩, rows0 := lrows [] }

theorem mem0 (w : World) (β : Nat → Loc) : Mem (base0 w) β X0 w (lrows []) 0 :=
  ⟨fun i => trivial, fun i j b hi => by simp [lrows, rblk] at hi, fun i _ => by simp [lrows], fun i cells hc => by simp [lrows] at hc, rfl, rfl, rfl, Nat.le_refl _, fun b _ _ => rfl, fun b _ h => h, fun i b hi => by simp [lrows, rblk] at hi,
    fun b _ h _ => h, Nat.le_refl _, fun i hi => absurd hi (Nat.not_lt_zero _)⟩

theorem law_walk {P : Program} {f : FuncId} {ps : List PV} (h : AFun P f ps [] (.d (.lit (.bool true))) []) {w : World} {vs : List Value} (hp : repPs (lrows []) (fun _ => ⟨none, 0⟩) w X0 ps vs) :
    Calls P f vs.toArray w fun e w' => e = .returned (.bool true) ∧ Below w.heap.size w w' := by
  refine (h (base0 w) (fun _ => ⟨none, 0⟩) X0 w vs rfl rfl (mem0 w _) hp).mono fun e w' ⟨v, β', X', h1, hm, h2, _⟩ => ?_
  unfold repP rep at h2
  subst h2
  exact ⟨h1, hm.os, hm.tape, hm.output, hm.size, fun b hb => hm.keep b hb (fun h => h)⟩

def DTy.flat : DTy → Bool | .un | .pr _ _ | .arr _ _ => true | _ => false

/-- an argument -/
def argP (D : DTy) (a : D.El) : PV := if D.flat then .d (.agg (D.enc a)) else .d ((D.enc a).headD (.lit undef))

theorem open_arg {H : Type} {enc : TypeId × Value → H} {P : Program} {W : World} {base b0 : Nat} {sp : Nat → Bool} {held : Bool} {r : Reach} {D : DTy} {t : TypeId} {v : Value} {d : DataW H} {p : List MemPlace} (ht : TyD P D t)
    (hval : Value.okWide P W r b0 t v) (h : DataW.Trod enc P W base sp held t v d p) : ∃ a : D.El, repP (lrows []) (fun _ => ⟨none, 0⟩) W X0 (argP D a) v ∧ D.ok a := by
  obtain ⟨fuel, hf⟩ := h
  obtain ⟨a, h1, h2⟩ := open_data D ht hf
  refine ⟨a, ?_, h2⟩
  have one : D.flat = false → v.cells.toList = [v] → repP (lrows []) (fun _ => ⟨none, 0⟩) W X0 (argP D a) v := fun hfl hc => by
    unfold argP
    rw [hfl]
    rw [hc] at h1
    cases he : D.enc a with
    | nil => rw [he] at h1; simp [reps] at h1
    | cons x xs =>
      rw [he] at h1
      unfold reps at h1
      obtain ⟨u, us, e, _, h3, _⟩ := h1
      simp only [List.cons.injEq] at e
      obtain ⟨rfl, _⟩ := e
      simp only [List.headD_cons]
      unfold repP
      exact h3
  have many : D.flat = true → ∀ cs, v = .agg cs → repP (lrows []) (fun _ => ⟨none, 0⟩) W X0 (argP D a) v := fun hfl cs hc => by
    unfold argP
    rw [hfl]
    subst hc
    simp only [if_true]
    unfold repP rep
    exact ⟨cs.toList, by simp, by simpa [Value.cells] using h1⟩
  cases D with
  | bool => unfold TyD at ht; obtain ⟨b, rfl⟩ := okWide_bool ht.1 hval; exact one rfl rfl
  | u8 => unfold TyD at ht; obtain ⟨b, rfl⟩ := okWide_int ht.1 hval; exact one rfl rfl
  | int k => unfold TyD at ht; obtain ⟨b, rfl⟩ := okWide_int ht.1 hval; exact one rfl rfl
  | str => unfold TyD at ht; obtain ⟨b, rfl⟩ := okWide_string ht.1 hval; exact one rfl rfl
  | sl e => unfold TyD at ht; obtain ⟨et, h3, _⟩ := ht; obtain ⟨_, _, _, rfl⟩ := okWide_slice h3 hval; exact one rfl rfl
  | un =>
    unfold TyD at ht
    obtain ⟨fs, h3, _⟩ := ht
    unfold Value.okWide at hval
    rw [h3] at hval
    obtain ⟨cs, rfl, _⟩ := hval
    exact many rfl _ rfl
  | pr x y =>
    unfold TyD at ht
    obtain ⟨fs, h3, _⟩ := ht
    unfold Value.okWide at hval
    rw [h3] at hval
    obtain ⟨cs, rfl, _⟩ := hval
    exact many rfl _ rfl
  | arr n e =>
    unfold TyD at ht
    obtain ⟨et, h3, _⟩ := ht
    unfold Value.okWide at hval
    rw [h3] at hval
    obtain ⟨cs, rfl, _⟩ := hval
    exact many rfl _ rfl

theorem trod_lt' {H : Type} {enc : TypeId × Value → H} {P : Program} {W : World} {base : Nat} {sp : Nat → Bool} {held : Bool} {t : TypeId} {v : Value} {d : DataW H} {p : List MemPlace} (h : DataW.Trod enc P W base sp held t v d p) :
    ∀ x ∈ p, x.block < W.heap.size := by obtain ⟨m, hm⟩ := h; exact DataW.trod_lt m _ _ _ hm
end Go.AM
