/-
  Chapter 18: what the laws share: alive, num.
-/
import Derived.Test.YteahbpcimnaioaaSchedRef
namespace Go.Proofs.Yteahbpcimnaioaa
open Go.RowKit
set_option maxRecDepth 100000

theorem sched_Start_lt (B : Nat) (w : World) (p : Value) (l : List Th) (g : Nat) (v : Value) (h : PTab B w p l g v) (hBw : B ≤ w.heap.size) (hl : l.length < 16) :
    Calls Try.prog 7 #[p] w fun e w' => e = .returned (.tuple #[.int .i64 l.length, .int .i64 0]) ∧ ∃ v', PTab B w' p (l ++ [⟨0, ⟨#[]⟩⟩]) g v' ∧ Touch (foot g v) w w' ∧ ∀ k, v'.ownBlock = some k → v.ownBlock = some k ∨ w.heap.size ≤ k :=
  (sched_Start B w p l g v h hBw (by omega)).mono fun e w' hh => by
    rcases hh with ⟨h1, _⟩ | ⟨_, h2, h3⟩
    · omega
    · exact ⟨h2, h3⟩

theorem sched_Start_full (B : Nat) (w : World) (p : Value) (l : List Th) (g : Nat) (v : Value) (h : PTab B w p l g v) (hBw : B ≤ w.heap.size) (hl : l.length = 16) :
    Calls Try.prog 7 #[p] w fun e w' => e = .returned (.tuple #[.int .i64 0, .int .i64 42]) ∧ w = w' :=
  (sched_Start B w p l g v h hBw (by omega)).mono fun e w' hh => by
    rcases hh with ⟨_, h2, h3⟩ | ⟨h1, _⟩
    · exact ⟨h2, h3.symm⟩
    · omega
theorem ref15_Start_lt (B : Nat) (w : World) (p : Value) (l : List Th) (g : Nat) (v : Value) (h : RTab B w p l g v) (hBw : B ≤ w.heap.size) (hl : l.length < 16) :
    Calls Try.prog 8 #[p] w fun e w' => e = .returned (.tuple #[.int .i64 l.length, .int .i64 0]) ∧ ∃ v', RTab B w' p (l ++ [⟨0, ⟨#[]⟩⟩]) g v' ∧ Touch (foot g v) w w' ∧ ∀ k, v'.ownBlock = some k → v.ownBlock = some k ∨ w.heap.size ≤ k :=
  (ref15_Start B w p l g v h hBw (by omega)).mono fun e w' hh => by
    rcases hh with ⟨h1, _⟩ | ⟨_, h2, h3⟩
    · omega
    · exact ⟨h2, h3⟩
theorem ref15_Start_full (B : Nat) (w : World) (p : Value) (l : List Th) (g : Nat) (v : Value) (h : RTab B w p l g v) (hBw : B ≤ w.heap.size) (hl : l.length = 16) :
    Calls Try.prog 8 #[p] w fun e w' => e = .returned (.tuple #[.int .i64 0, .int .i64 42]) ∧ w = w' :=
  (ref15_Start B w p l g v h hBw (by omega)).mono fun e w' hh => by
    rcases hh with ⟨_, h2, h3⟩ | ⟨h1, _⟩
    · exact ⟨h2, h3.symm⟩
    · omega

theorem num18 (n : Int) (w : World) : Calls Try.prog 16 #[.int .i64 n] w fun e w' => e = .returned (.int .i64 n) ∧ w = w' := by
  go_enter Try.func16, Try.ntmps16
  go_wp2
  go_ret
  exact ⟨rfl, rfl⟩

/-- From base B on, nothing older is touched. -/
theorem IsTab.below {T E B : Nat} {w w' : World} {p : Value} {l : List Th} {g : Nat} {v : Value} (h : IsTab T E B w p l g v) (ht : Touch (foot g v) w w') (hBw : B ≤ w.heap.size) : Below B w w' :=
  ht.below (fun b hb => by
    rcases hb with rfl | hb
    · exact h.ge
    · exact (h.own.lt b hb).1) hBw

theorem alive18 (w : World) : Calls Try.prog 5 #[] w fun e w' => e = .returned (.bool true) ∧ Kept w w' := by
  go_enter Try.func5, Try.ntmps5
  go_wp2_with (go_at_call 6; ((with_reducible refine (sched_New _).mono ?_); rintro e w1 ⟨rfl, t1, k1⟩))
  have s1 := k1.size
  refine (sched_Start_lt _ _ _ _ _ _ t1 s1 (by decide)).mono ?_
  rintro e w2 ⟨rfl, v2, t2, b2, _⟩
  have k2 := Below.trans k1 (t1.below b2 s1)
  have s2 := k2.size
  clear t1 b2
  go_wp2_with fail
  refine (sched_Start_lt _ _ _ _ _ _ t2 s2 (by decide)).mono ?_
  rintro e w3 ⟨rfl, v3, t3, b3, _⟩
  have k3 := Below.trans k2 (t2.below b3 s2)
  have s3 := k3.size
  clear t2 b3
  go_wp2_with fail
  refine (sched_Start_lt _ _ _ _ _ _ t3 s3 (by decide)).mono ?_
  rintro e w4 ⟨rfl, v4, t4, b4, _⟩
  have k4 := Below.trans k3 (t3.below b4 s3)
  have s4 := k4.size
  clear t3 b4
  go_wp2_with fail
  refine (sched_Block _ _ _ _ _ _ 1 _ t4 s4 (by decide)).mono ?_
  rintro e w5 ⟨rfl, t5, b5⟩
  have k5 := Below.trans k4 (t4.below b5 s4)
  have s5 := k5.size
  have E : turnE [⟨0, ⟨#[]⟩⟩, ⟨0, ⟨#[]⟩⟩, ⟨0, ⟨#[]⟩⟩] 1 0 ⟨1, ⟨#[65]⟩⟩ = 0 := by decide +kernel
  have L5 : turnL [⟨0, ⟨#[]⟩⟩, ⟨0, ⟨#[]⟩⟩, ⟨0, ⟨#[]⟩⟩] 1 0 ⟨1, ⟨#[65]⟩⟩ = [⟨0, ⟨#[]⟩⟩, ⟨1, ⟨#[65]⟩⟩, ⟨0, ⟨#[]⟩⟩] := by rw [turnL, if_pos E]; rfl
  have t5' : PTab w.heap.size w5 _ (turnL [⟨0, ⟨#[]⟩⟩, ⟨0, ⟨#[]⟩⟩, ⟨0, ⟨#[]⟩⟩] 1 0 ⟨1, ⟨#[65]⟩⟩) _ v4 := t5
  rw [L5] at t5'
  clear L5
  have F : pickA (ixs rdP [⟨0, ⟨#[]⟩⟩, ⟨1, ⟨#[65]⟩⟩, ⟨0, ⟨#[]⟩⟩]) (List.any [⟨0, ⟨#[]⟩⟩, ⟨1, ⟨#[65]⟩⟩, ⟨0, ⟨#[]⟩⟩] wtP) 3 = (2, 0) := by decide +kernel
  have G : pickA (ixs rdP [⟨0, ⟨#[]⟩⟩, ⟨1, ⟨#[65]⟩⟩, ⟨0, ⟨#[]⟩⟩]) (List.any [⟨0, ⟨#[]⟩⟩, ⟨1, ⟨#[65]⟩⟩, ⟨0, ⟨#[]⟩⟩] wtP) (-1) = (2, 0) := by decide +kernel
  clear t4 b5 t5
  go_wp2_with fail
  have P1 := sched_Pick _ _ _ _ _ _ 3 t5' (by decide) (by decide) (by decide)
  rw [F] at P1
  refine P1.mono ?_
  rintro e w6 ⟨rfl, b6⟩
  have k6 := Below.trans k5 (b6.mono s5)
  have s6 := k6.size
  have t6 := t5'.kept b6
  clear P1 b6 t5' F
  go_wp2_with fail
  have P2 := sched_Pick _ _ _ _ _ _ (-1) t6 (by decide) (by decide) (by decide)
  rw [G] at P2
  refine P2.mono ?_
  rintro e w7 ⟨rfl, b7⟩
  have k7 := Below.trans k6 (b7.mono s6)
  have t7 := t6.kept b7
  clear P2 b7 t6 G
  go_wp2_with (first
    | (go_at_call 16; ((with_reducible refine (num18 _ _).mono ?_); rintro e w' ⟨rfl, rfl⟩))
    | (go_at_call 17; ((with_reducible refine (sched_Len _ _ _ _ _ _ t7).mono ?_); rintro e w' ⟨rfl, rfl⟩)))
  go_ret
  exact ⟨rfl, k7⟩

end Go.Proofs.Yteahbpcimnaioaa
