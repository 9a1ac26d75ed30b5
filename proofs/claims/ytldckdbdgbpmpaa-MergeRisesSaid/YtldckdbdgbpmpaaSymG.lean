/- Proved here: what functions of the program compute, and plain laws. No condition. -/
import Derived.Test.YtldckdbdgbpmpaaSymG1
import Derived.Test.YtldckdbdgbpmpaaSymG2
set_option linter.unusedSimpArgs false
set_option linter.unusedVariables false
namespace Go.Proofs.Ytldckdbdgbpmpaa
open Go Go.AM

theorem symAll : ∀ n, SymM n
  | 0 => fun X A B Z h h1 h2 => by omega
  | n + 1 => fun X A B Z h h1 h2 hA hB hl a m b ha hm hb => by
    by_cases hA1 : A.length = 1
    · obtain ⟨x, rfl⟩ : ∃ x, A = [x] := List.length_eq_one_iff.1 hA1
      exact symL X B Z x h2 hB (by simpa using hl) a m b ha (by simpa using hm) (by simpa using hb)
    by_cases hB1 : B.length = 1
    · obtain ⟨y, rfl⟩ : ∃ y, B = [y] := List.length_eq_one_iff.1 hB1
      exact symR X A Z y (by omega) hA (by simpa using hl) a m b ha hm (by simpa using hb)
    by_cases hq : A.length ≤ (A.length + B.length) / 2
    · exact symG2 n (symAll n) X A B Z h (by omega) (by omega) hA hB hl a m b hq ha hm hb
    · exact symG1 n (symAll n) X A B Z h (by omega) (by omega) hA hB hl a m b hq ha hm hb
end Go.Proofs.Ytldckdbdgbpmpaa
