/-
  The laws FileLong and FileHead: plain.
-/
import Derived.Test.YtlipdifhdaaknaaFileH
namespace Go.Proofs.Ytlipdifhdaaknaa
open Go.RowKit
set_option maxRecDepth 100000

def headL (m0 m1 M0 M1 : UInt8) : List UInt8 := [202, 254, 186, 190, m0, m1, M0, M1] ++ smallL.drop 8
theorem head_read (m0 m1 M0 M1 : UInt8) : ∃ c, readP (headL m0 m1 M0 M1) = (c, 0, 0) ∧ c.minor = beN [m0, m1] ∧ c.major = beN [M0, M1] := ⟨(readP (headL m0 m1 M0 M1)).1, by kernel_rfl, by kernel_rfl, by kernel_rfl⟩
theorem magic_num (x0 x1 x2 x3 : UInt8) : numP ([x0, x1, x2, x3] ++ smallL.drop 4) 4 ⟨0, far, 0⟩ = .ok (beN [x0, x1, x2, x3]) ⟨4, far, 0⟩ := by kernel_rfl
theorem magic_read {x0 x1 x2 x3 : UInt8} (h : beN [x0, x1, x2, x3] ≠ 3405691582) : readP ([x0, x1, x2, x3] ++ smallL.drop 4) = (zeroC, 0, 11) := by
  unfold readP classP
  rw [if_neg (show ¬ 65536 < ([x0, x1, x2, x3] ++ smallL.drop 4).length from by simp [smallL, smallA, smallB, smallC]), magic_num, Out.bind_ok, if_pos (by omega)]
end Go.Proofs.Ytlipdifhdaaknaa
