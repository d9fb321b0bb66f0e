import Derived.Test.YtnjcokelpolpcaaGreatFwQ
import Derived.Test.YtnjcokelpolpcaaGreatFwW
/- Rounds that lay one more each. -/
set_option linter.unusedVariables false
namespace Go.Proofs.Fw
open Go Go.RowKit
theorem itr_len {S β : Type} {n : Nat → S → S} {f : S → List β} (h : ∀ i s, (f (n i s)).length = (f s).length + 1) (s : S) : ∀ i, (f (itr n i s)).length = (f s).length + i
  | 0 => rfl
  | i + 1 => by rw [itr, h, itr_len h s i]; omega
theorem app1_len {α : Type} (l : List α) (x : α) : (l ++ [x]).length = l.length + 1 := by simp
theorem i64_le (v : Nat) (h : v < 18446744073709551616) : (IntKind.wrap .i64 (v : Int)).toNat ≤ v := by
  simp [IntKind.wrap, IntKind.bits, IntKind.signed]; omega
theorem i64_small (v : Nat) (h : v ≤ 4611686018427387903) : IntKind.wrap .i64 (v : Int) = v := by
  simp [IntKind.wrap, IntKind.bits, IntKind.signed]; omega
end Go.Proofs.Fw
