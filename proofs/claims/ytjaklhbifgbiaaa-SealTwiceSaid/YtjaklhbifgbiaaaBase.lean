/- Proved here: what functions of the program compute, and plain laws. No condition. -/
import Derived.Test.YtjaklhbifgbiaaaTy
set_option linter.unusedSimpArgs false
set_option linter.unusedVariables false
namespace Go.Proofs.Ytjaklhbifgbiaaa
open Go Go.AM

theorem hP : Try.prog.follows .mixedOrders = true := by kernel_rfl

def str (s : List UInt8) : PV := .d (.lit (.string ⟨⟨s⟩⟩))
def bool (b : Bool) : PV := .d (.lit (.bool b))
def int (i : Int) : PV := .d (.lit (.int .i64 i))
def u64 (n : Nat) : PV := .d (.lit (.int .u64 n))
def byts (b : List UInt8) : PV := .d (.sl 1 (b.map encB))
theorem nvB (b : List UInt8) : nvRow (.own 1 (b.map encB)) := by
  intro e he x hx
  obtain ⟨c, _, rfl⟩ := List.mem_map.1 he
  simp only [encB, List.mem_singleton] at hx
  subst hx; trivial
end Go.Proofs.Ytjaklhbifgbiaaa
