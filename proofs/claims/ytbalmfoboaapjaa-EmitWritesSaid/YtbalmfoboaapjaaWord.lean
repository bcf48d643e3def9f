/-
  The functions of package word that only reckon, by contract: each answers a number of 32 bits, and writes nothing.
-/
import Derived.Test.YtbalmfoboaapjaaProg
import Derived.Test.YtbalmfoboaapjaaWordMath
namespace Go.Proofs.Ytbalmfoboaapjaa
set_option linter.unusedVariables false
set_option linter.unusedSimpArgs false
open Go.RowKit

theorem ref1_Wrap (n : Int) (w : World) :
    Calls Try.prog 45 #[.int .i64 n] w fun e w' => e = .returned (.int .i64 (wrap32 n)) ∧ w = w' := by
  have hb := i64_and_m32 n
  have h0 : 0 ≤ n % 4294967296 := by omega
  have h9 : n % 4294967296 ≤ 4294967295 := by omega
  by_cases h : 2147483648 ≤ n % 4294967296
  · go_enter Try.func45, Try.ntmps45
    go_wp2
    go_ret
    exact ⟨ret_int (by unfold wrap32; omega), rfl⟩
  · go_enter Try.func45, Try.ntmps45
    go_wp2
    go_ret
    exact ⟨ret_int (by unfold wrap32; omega), rfl⟩

end Go.Proofs.Ytbalmfoboaapjaa
