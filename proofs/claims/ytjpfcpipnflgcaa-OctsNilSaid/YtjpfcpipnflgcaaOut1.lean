/- Proved here: what functions of the program compute, and plain laws. No condition. -/
import Derived.Test.YtjpfcpipnflgcaaBack1
set_option linter.unusedSimpArgs false
set_option linter.unusedVariables false
namespace Go.Proofs.Ytjpfcpipnflgcaa
open Go Go.AM

theorem wfU64 {n : Int} (h : (Lit.int .u64 n).wf = true) : U64 n := by
  simp only [Lit.wf, Bool.and_eq_true, decide_eq_true_eq] at h
  exact h
theorem wfI64 {n : Int} (h : (Lit.int .i64 n).wf = true) : I64 n := by
  simp only [Lit.wf, Bool.and_eq_true, decide_eq_true_eq] at h
  exact h

theorem octsLayL (b : List UInt8) (n : Int) (i : Int) (s : List UInt8) (h0 : b.length ≤ 9223372036854775807) (hn : (Lit.int .u64 n).wf = true) (hi : (Lit.int .i64 i).wf = true) (hs : s.length ≤ 9223372036854775807) :
    AFun Try.prog 3 [byts b, .d (.lit (.int .u64 n)), int i, str s] [] (bool true) [] := by
  have hu := wfU64 hn
  unfold U64 at hu
  have e : n = ((n.toNat : Nat) : Int) := by omega
  rw [e]
  exact octsLay b n.toNat i s h0 (by omega) (wfI64 hi) hs

theorem octsFoldL (n : Int) (a b : Int) (hn : (Lit.int .u64 n).wf = true) (ha : (Lit.int .i64 a).wf = true) (hb : (Lit.int .i64 b).wf = true) :
    AFun Try.prog 4 [.d (.lit (.int .u64 n)), int a, int b] [] (bool true) [] := by
  have hu := wfU64 hn
  unfold U64 at hu
  have e : n = ((n.toNat : Nat) : Int) := by omega
  rw [e]
  exact octsFoldLaw n.toNat a b (by omega) (wfI64 ha) (wfI64 hb)

theorem octsBackL (l m : List Int) (s : List (List UInt8)) (h0 : l.length ≤ 9223372036854775807 ∧ ∀ x ∈ l, (Lit.int .u64 x).wf = true) (h1 : m.length ≤ 9223372036854775807 ∧ ∀ x ∈ m, (Lit.int .i64 x).wf = true)
    (h2 : s.length ≤ 9223372036854775807 ∧ ∀ x ∈ s, x.length ≤ 9223372036854775807) :
    AFun Try.prog 7 [.d (.sl 1 (l.map encN)), .d (.sl 1 (m.map encI)), .d (.sl 1 (s.map encS))] [] (bool true) [] :=
  octsBack l m s h0.1 (fun x hx => wfU64 (h0.2 x hx)) h1.1 (fun x hx => wfI64 (h1.2 x hx)) h2.1 h2.2
end Go.Proofs.Ytjpfcpipnflgcaa
