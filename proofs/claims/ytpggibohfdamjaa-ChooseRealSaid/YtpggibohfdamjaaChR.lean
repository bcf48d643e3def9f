/-
  Chapter 13's law ChooseReal, walked.
-/
import Derived.Test.YtpggibohfdamjaaChA
import Derived.Test.YtpggibohfdamjaaChC
import Derived.Test.YtpggibohfdamjaaOpenRef
namespace Go.Proofs.Ytpggibohfdamjaa
open Go.RowKit
set_option maxRecDepth 100000

set_option maxHeartbeats 40000000 in
theorem walk_ChooseReal (l : List TypeV) (v : Value) (cls : ByteArray) (f : FoundV) (w : World) (hr : Rd w 6 v l.length (l.flatMap encTypeV)) (hok : ∀ y ∈ l, TypeV.Ok w y) (hlen : l.length ≤ 140737488351232) (hcs : cls.size ≤ maxLen) (hrk : FoundV.Ok w f) :
    Calls Try.prog 3 #[v, .string cls, .agg (encFoundV f).toArray] w fun e w' => e = .returned (.bool true) ∧ Below w.heap.size w w' := by
  obtain ⟨fc, fi⟩ := f
  show Calls Try.prog 3 #[v, .string cls, .agg #[.string fc, .int .i64 fi]] w _
  have HCS := Lib.hid hcs
  have HR := Lib.hid hr
  have HOK := Lib.hid hok
  have b0 := Blk.new w 24 #[.string fc, .int .i64 fi]
  have k0 : Kept w (w.alloc (.cells #[.string fc, .int .i64 fi] 24)) := (Below.refl _ _).alloc (Nat.le_refl _) _
  have K0 := Lib.hid k0
  have B0 := Lib.hid b0
  clear hr hok hcs hrk b0 k0
  go_enter Try.func3, Try.ntmps3
  go_wp2_with fail
  generalize (w.alloc (.cells #[.string fc, .int .i64 fi] 24)) = W at *
  refine (alive13 _).mono ?_
  rintro e w1 ⟨rfl, k1⟩
  have K1 := Lib.hid (Kept.trans K0.out k1)
  have B1 := Lib.hid (B0.out.kept k1)
  clear k1
  go_wp2_with fail
  refine (law9_Big l v w1 (HR.out.kept K1.out) (fun y hy => Ok.keep_ (HOK.out y hy) K1.out) hlen).mono ?_
  rintro e w2 ⟨h2, m2, hw2⟩
  have K12 := Lib.hid (show Kept w1 w2 by rw [hw2]; exact kept_drewN (Below.refl _ _) m2)
  have K2 := Lib.hid (Kept.trans K1.out K12.out)
  clear hw2
  rcases h2 with rfl | ⟨rfl, h60, hct⟩
  · go_wp2_with fail
    go_ret
    exact ⟨rfl, K2.out⟩
  · have hT := tyR_of (HR.out.kept K2.out) (fun y hy => Ok.keep_ (HOK.out y hy) K2.out) h60
    have HT := Lib.hid hT
    obtain ⟨D, hD⟩ : ∃ D, D = l.map TypeV.d := ⟨_, rfl⟩
    rw [← hD] at HT
    have BR := Lib.hid (B1.out.kept K12.out)
    have KT := Lib.hid (Below.refl w2.heap.size w2)
    have hDl := HT.out.len
    clear hT hct hD
    have CA := ref9_At D fc v w2 HT.out
    cases hof : atO D fc with
    | none =>
      rw [atI_none hof] at CA
      have CA := Lib.hid CA
      clear hof
      have hq := BR.out
      have q0 := hq.cell 0
      have q1 := hq.cell 1
      simp only [List.getElem?_toArray, List.getElem?_cons_succ, List.getElem?_cons_zero] at q0 q1
      have zq := hq.lt
      have zn : ¬ (w.heap.size = (w2).heap.size) := Nat.ne_of_lt zq
      clear hq
      go_wp2_with fail
      refine CA.out.mono ?_
      rintro e xa ⟨rfl, rfl⟩
      clear CA
      go_wp2_with fail
      refine wp_region_held_drew (S := (fun w' => w'.cell? ⟨w.heap.size, 1, none⟩ = some (.int .i64 fi))) (by kernel_rfl) (by first | assumption | ((try dsimp only); simp [*]; done)) (fun hHeld => ?_)
      refine wpAnyH_take (i := 0) (oi := { dst := some 32, op := Op.move (Operand.tmp 9), type := 3, pos := "law.go:62", after := #[], guard := none }) (v := ?va0) rfl (by kernel_rfl) (by kernel_rfl) (by kernel_rfl) (fun _ _ _ h => h) (Or.inl ⟨by rfl, ?ya0⟩) (by assumption) ?ra0
      case ya0 => (intro w hSw; (try dsimp only at hSw); go_simp <;> with_reducible rfl)
      (try simp only [Act.put, List.setIfInBounds_toArray, List.set_cons_zero, List.set_cons_succ])
      refine wpAnyH_take (i := 1) (oi := { dst := some 33, op := Op.binOp BinOp.lss 3 (Operand.tmp 32) (Operand.const (Value.int IntKind.i64 0)) 3, type := 4, pos := "law.go:62", after := #[{ on := 0, ground := Ground.data }], guard := none }) (v := ?va1) rfl (by kernel_rfl) (by kernel_rfl) (by kernel_rfl) (fun _ _ _ h => h) (Or.inl ⟨by rfl, ?ya1⟩) (by assumption) ?ra1
      case ya1 => (intro w hSw; (try dsimp only at hSw); go_simp <;> with_reducible rfl)
      (try simp only [Act.put, List.setIfInBounds_toArray, List.set_cons_zero, List.set_cons_succ])
      refine wpAnyH_take (i := 2) (oi := { dst := some 34, op := Op.move (Operand.tmp 33), type := 4, pos := "law.go:62", after := #[{ on := 1, ground := Ground.data }], guard := none }) (v := ?va2) rfl (by kernel_rfl) (by kernel_rfl) (by kernel_rfl) (fun _ _ _ h => h) (Or.inl ⟨by rfl, ?ya2⟩) (by assumption) ?ra2
      case ya2 => (intro w hSw; (try dsimp only at hSw); go_simp <;> with_reducible rfl)
      (try simp only [Act.put, List.setIfInBounds_toArray, List.set_cons_zero, List.set_cons_succ])
      refine wpAnyH_take (i := 3) (oi := { dst := some 35, op := Op.fieldAddr 24 (Operand.tmp 5) 1, type := 0, pos := "law.go:62", after := #[{ on := 2, ground := Ground.guard }], guard := some (2, false) }) (v := undef) rfl (by kernel_rfl) (by kernel_rfl) (by kernel_rfl) (fun _ _ _ h => h) (Or.inr ⟨by rfl, rfl⟩) (by assumption) ?_
      (try simp only [Act.put, List.setIfInBounds_toArray, List.set_cons_zero, List.set_cons_succ])
      refine wpAnyH_take (i := 4) (oi := { dst := some 36, op := Op.load 3 (Operand.tmp 35), type := 3, pos := "law.go:62", after := #[{ on := 3, ground := Ground.data }, { on := 2, ground := Ground.guard }], guard := some (2, false) }) (v := undef) rfl (by kernel_rfl) (by kernel_rfl) (by kernel_rfl) (fun _ _ _ h => h) (Or.inr ⟨by rfl, rfl⟩) (by assumption) ?_
      (try simp only [Act.put, List.setIfInBounds_toArray, List.set_cons_zero, List.set_cons_succ])
      refine wpAnyH_take (i := 5) (oi := { dst := some 37, op := Op.binOp BinOp.lss 3 (Operand.tmp 36) (Operand.const (Value.int IntKind.i64 0)) 3, type := 4, pos := "law.go:62", after := #[{ on := 4, ground := Ground.data }, { on := 2, ground := Ground.guard }], guard := some (2, false) }) (v := undef) rfl (by kernel_rfl) (by kernel_rfl) (by kernel_rfl) (fun _ _ _ h => h) (Or.inr ⟨by rfl, rfl⟩) (by assumption) ?_
      (try simp only [Act.put, List.setIfInBounds_toArray, List.set_cons_zero, List.set_cons_succ])
      refine wpAnyH_take (i := 6) (oi := { dst := some 38, op := Op.pick (Operand.tmp 34) (Operand.const (Value.bool true)) (Operand.tmp 37), type := 4, pos := "law.go:62", after := #[{ on := 2, ground := Ground.data }, { on := 5, ground := Ground.data }], guard := none }) (v := ?va6) rfl (by kernel_rfl) (by kernel_rfl) (by kernel_rfl) (fun _ _ _ h => h) (Or.inl ⟨by rfl, ?ya6⟩) (by assumption) ?ra6
      case ya6 => (intro w hSw; (try dsimp only at hSw); go_simp <;> with_reducible rfl)
      (try simp only [Act.put, List.setIfInBounds_toArray, List.set_cons_zero, List.set_cons_succ])
      refine wpAnyH_take (i := 7) (oi := { dst := some 39, op := Op.move (Operand.tmp 38), type := 4, pos := "law.go:62", after := #[{ on := 6, ground := Ground.data }, { on := 2, ground := Ground.chain }], guard := none }) (v := ?va7) rfl (by kernel_rfl) (by kernel_rfl) (by kernel_rfl) (fun _ _ _ h => h) (Or.inl ⟨by rfl, ?ya7⟩) (by assumption) ?ra7
      case ya7 => (intro w hSw; (try dsimp only at hSw); go_simp <;> with_reducible rfl)
      (try simp only [Act.put, List.setIfInBounds_toArray, List.set_cons_zero, List.set_cons_succ])
      refine wpAnyH_take (i := 8) (oi := { dst := some 40, op := Op.fieldAddr 24 (Operand.tmp 5) 1, type := 0, pos := "law.go:62", after := #[{ on := 7, ground := Ground.guard }], guard := some (7, false) }) (v := undef) rfl (by kernel_rfl) (by kernel_rfl) (by kernel_rfl) (fun _ _ _ h => h) (Or.inr ⟨by rfl, rfl⟩) (by assumption) ?_
      (try simp only [Act.put, List.setIfInBounds_toArray, List.set_cons_zero, List.set_cons_succ])
      refine wpAnyH_take (i := 9) (oi := { dst := some 41, op := Op.load 3 (Operand.tmp 40), type := 3, pos := "law.go:62", after := #[{ on := 8, ground := Ground.data }, { on := 7, ground := Ground.guard }], guard := some (7, false) }) (v := undef) rfl (by kernel_rfl) (by kernel_rfl) (by kernel_rfl) (fun _ _ _ h => h) (Or.inr ⟨by rfl, rfl⟩) (by assumption) ?_
      (try simp only [Act.put, List.setIfInBounds_toArray, List.set_cons_zero, List.set_cons_succ])
      refine wpAnyH_take (i := 10) (oi := { dst := some 42, op := Op.move (Operand.tmp 0), type := 22, pos := "law.go:62", after := #[{ on := 7, ground := Ground.guard }], guard := some (7, false) }) (v := undef) rfl (by kernel_rfl) (by kernel_rfl) (by kernel_rfl) (fun _ _ _ h => h) (Or.inr ⟨by rfl, rfl⟩) (by assumption) ?_
      (try simp only [Act.put, List.setIfInBounds_toArray, List.set_cons_zero, List.set_cons_succ])
      refine wpAnyH_take (i := 11) (oi := { dst := some 43, op := Op.move (Operand.tmp 9), type := 3, pos := "law.go:62", after := #[{ on := 7, ground := Ground.guard }], guard := some (7, false) }) (v := undef) rfl (by kernel_rfl) (by kernel_rfl) (by kernel_rfl) (fun _ _ _ h => h) (Or.inr ⟨by rfl, rfl⟩) (by assumption) ?_
      (try simp only [Act.put, List.setIfInBounds_toArray, List.set_cons_zero, List.set_cons_succ])
      refine wpAnyH_take (i := 12) (oi := { dst := some 44, op := Op.indexAddr 22 (Operand.tmp 42) (Operand.tmp 43), type := 0, pos := "law.go:62", after := #[{ on := 10, ground := Ground.data }, { on := 11, ground := Ground.data }, { on := 7, ground := Ground.guard }], guard := some (7, false) }) (v := undef) rfl (by kernel_rfl) (by kernel_rfl) (by kernel_rfl) (fun _ _ _ h => h) (Or.inr ⟨by rfl, rfl⟩) (by assumption) ?_
      (try simp only [Act.put, List.setIfInBounds_toArray, List.set_cons_zero, List.set_cons_succ])
      refine wpAnyH_take (i := 13) (oi := { dst := some 45, op := Op.fieldAddr 31 (Operand.tmp 44) 5, type := 0, pos := "law.go:62", after := #[{ on := 12, ground := Ground.data }, { on := 7, ground := Ground.guard }], guard := some (7, false) }) (v := undef) rfl (by kernel_rfl) (by kernel_rfl) (by kernel_rfl) (fun _ _ _ h => h) (Or.inr ⟨by rfl, rfl⟩) (by assumption) ?_
      (try simp only [Act.put, List.setIfInBounds_toArray, List.set_cons_zero, List.set_cons_succ])
      refine wpAnyH_take (i := 14) (oi := { dst := some 46, op := Op.load 29 (Operand.tmp 45), type := 29, pos := "law.go:62", after := #[{ on := 13, ground := Ground.data }, { on := 7, ground := Ground.guard }], guard := some (7, false) }) (v := undef) rfl (by kernel_rfl) (by kernel_rfl) (by kernel_rfl) (fun _ _ _ h => h) (Or.inr ⟨by rfl, rfl⟩) (by assumption) ?_
      (try simp only [Act.put, List.setIfInBounds_toArray, List.set_cons_zero, List.set_cons_succ])
      refine wpAnyH_take (i := 15) (oi := { dst := some 47, op := Op.call { callee := Callee.builtin Builtin.len, args := #[Operand.tmp 46], argTypes := #[29] }, type := 3, pos := "law.go:62", after := #[{ on := 14, ground := Ground.data }, { on := 7, ground := Ground.guard }], guard := some (7, false) }) (v := undef) rfl (by kernel_rfl) (by kernel_rfl) (by kernel_rfl) (fun _ _ _ h => h) (Or.inr ⟨by rfl, rfl⟩) (by assumption) ?_
      (try simp only [Act.put, List.setIfInBounds_toArray, List.set_cons_zero, List.set_cons_succ])
      refine wpAnyH_take (i := 16) (oi := { dst := some 48, op := Op.binOp BinOp.geq 3 (Operand.tmp 41) (Operand.tmp 47) 3, type := 4, pos := "law.go:62", after := #[{ on := 9, ground := Ground.data }, { on := 15, ground := Ground.data }, { on := 7, ground := Ground.guard }], guard := some (7, false) }) (v := undef) rfl (by kernel_rfl) (by kernel_rfl) (by kernel_rfl) (fun _ _ _ h => h) (Or.inr ⟨by rfl, rfl⟩) (by assumption) ?_
      (try simp only [Act.put, List.setIfInBounds_toArray, List.set_cons_zero, List.set_cons_succ])
      refine wpAnyH_take (i := 17) (oi := { dst := some 49, op := Op.pick (Operand.tmp 39) (Operand.const (Value.bool true)) (Operand.tmp 48), type := 4, pos := "law.go:62", after := #[{ on := 7, ground := Ground.data }, { on := 16, ground := Ground.data }], guard := none }) (v := ?va17) rfl (by kernel_rfl) (by kernel_rfl) (by kernel_rfl) (fun _ _ _ h => h) (Or.inl ⟨by rfl, ?ya17⟩) (by assumption) ?ra17
      case ya17 => (intro w hSw; (try dsimp only at hSw); go_simp <;> with_reducible rfl)
      (try simp only [Act.put, List.setIfInBounds_toArray, List.set_cons_zero, List.set_cons_succ])
      refine wpAnyH_done (by kernel_rfl) ?_ _
      go_wp2_with fail
      go_ret
      exact ⟨rfl, Below.drew K2.out⟩
    | some kf =>
      rw [atI_some hof] at CA
      have CA := Lib.hid CA
      obtain ⟨t, ht, -, hkl⟩ := atO_some hof
      have hmet := metL_at hof ht
      have HMET := Lib.hid hmet
      have hth0 : there D fc := by unfold there; rw [hof]; rfl
      have HTH0 := Lib.hid hth0
      have hki : (kf : Int) < (D.length : Int) := by omega
      have hk0 : (0 : Int) ≤ (kf : Int) := by omega
      obtain ⟨tb, tof, tc, ia, ic, fa, fcp, ma, mc, rfl, -, -, -, -, -, x5, -, -, -, -, hm, hml⟩ := ty_row HT.out ht
      have HM := Lib.hid hm
      clear hm hof ht hmet hth0
      have hq := BR.out
      have q0 := hq.cell 0
      have q1 := hq.cell 1
      simp only [List.getElem?_toArray, List.getElem?_cons_succ, List.getElem?_cons_zero] at q0 q1
      have zq := hq.lt
      have zn : ¬ (w.heap.size = (w2).heap.size) := Nat.ne_of_lt zq
      clear hq
      go_wp2_with fail
      refine CA.out.mono ?_
      rintro e xa ⟨rfl, rfl⟩
      clear CA
      by_cases h0 : fi < 0
      · have g1 : decide (fi < 0) = true := by simpa using h0
        go_wp2_with fail
        refine wp_region_held_drew (S := (fun w' => w'.cell? ⟨w.heap.size, 1, none⟩ = some (.int .i64 fi))) (by kernel_rfl) (by first | assumption | ((try dsimp only); simp [*]; done)) (fun hHeld => ?_)
        refine wpAnyH_take (i := 0) (oi := { dst := some 32, op := Op.move (Operand.tmp 9), type := 3, pos := "law.go:62", after := #[], guard := none }) (v := ?vb0) rfl (by kernel_rfl) (by kernel_rfl) (by kernel_rfl) (fun _ _ _ h => h) (Or.inl ⟨by rfl, ?yb0⟩) (by assumption) ?rb0
        case yb0 => (intro w hSw; (try dsimp only at hSw); go_simp <;> with_reducible rfl)
        (try simp only [Act.put, List.setIfInBounds_toArray, List.set_cons_zero, List.set_cons_succ])
        refine wpAnyH_take (i := 1) (oi := { dst := some 33, op := Op.binOp BinOp.lss 3 (Operand.tmp 32) (Operand.const (Value.int IntKind.i64 0)) 3, type := 4, pos := "law.go:62", after := #[{ on := 0, ground := Ground.data }], guard := none }) (v := ?vb1) rfl (by kernel_rfl) (by kernel_rfl) (by kernel_rfl) (fun _ _ _ h => h) (Or.inl ⟨by rfl, ?yb1⟩) (by assumption) ?rb1
        case yb1 => (intro w hSw; (try dsimp only at hSw); go_simp <;> with_reducible rfl)
        (try simp only [Act.put, List.setIfInBounds_toArray, List.set_cons_zero, List.set_cons_succ])
        refine wpAnyH_take (i := 2) (oi := { dst := some 34, op := Op.move (Operand.tmp 33), type := 4, pos := "law.go:62", after := #[{ on := 1, ground := Ground.data }], guard := none }) (v := ?vb2) rfl (by kernel_rfl) (by kernel_rfl) (by kernel_rfl) (fun _ _ _ h => h) (Or.inl ⟨by rfl, ?yb2⟩) (by assumption) ?rb2
        case yb2 => (intro w hSw; (try dsimp only at hSw); go_simp <;> with_reducible rfl)
        (try simp only [Act.put, List.setIfInBounds_toArray, List.set_cons_zero, List.set_cons_succ])
        refine wpAnyH_take (i := 3) (oi := { dst := some 35, op := Op.fieldAddr 24 (Operand.tmp 5) 1, type := 0, pos := "law.go:62", after := #[{ on := 2, ground := Ground.guard }], guard := some (2, false) }) (v := ?vb3) rfl (by kernel_rfl) (by kernel_rfl) (by kernel_rfl) (fun _ _ _ h => h) (Or.inl ⟨by rfl, ?yb3⟩) (by assumption) ?rb3
        case yb3 => (intro w hSw; (try dsimp only at hSw); go_simp <;> with_reducible rfl)
        (try simp only [Act.put, List.setIfInBounds_toArray, List.set_cons_zero, List.set_cons_succ])
        refine wpAnyH_take (i := 4) (oi := { dst := some 36, op := Op.load 3 (Operand.tmp 35), type := 3, pos := "law.go:62", after := #[{ on := 3, ground := Ground.data }, { on := 2, ground := Ground.guard }], guard := some (2, false) }) (v := ?vb4) rfl (by kernel_rfl) (by kernel_rfl) (by kernel_rfl) (fun _ _ _ h => h) (Or.inl ⟨by rfl, ?yb4⟩) (by assumption) ?rb4
        case yb4 => (intro w hSw; (try dsimp only at hSw); go_simp <;> with_reducible rfl)
        (try simp only [Act.put, List.setIfInBounds_toArray, List.set_cons_zero, List.set_cons_succ])
        refine wpAnyH_take (i := 5) (oi := { dst := some 37, op := Op.binOp BinOp.lss 3 (Operand.tmp 36) (Operand.const (Value.int IntKind.i64 0)) 3, type := 4, pos := "law.go:62", after := #[{ on := 4, ground := Ground.data }, { on := 2, ground := Ground.guard }], guard := some (2, false) }) (v := ?vb5) rfl (by kernel_rfl) (by kernel_rfl) (by kernel_rfl) (fun _ _ _ h => h) (Or.inl ⟨by rfl, ?yb5⟩) (by assumption) ?rb5
        case yb5 => (intro w hSw; (try dsimp only at hSw); go_simp <;> with_reducible rfl)
        (try simp only [Act.put, List.setIfInBounds_toArray, List.set_cons_zero, List.set_cons_succ])
        refine wpAnyH_take (i := 6) (oi := { dst := some 38, op := Op.pick (Operand.tmp 34) (Operand.const (Value.bool true)) (Operand.tmp 37), type := 4, pos := "law.go:62", after := #[{ on := 2, ground := Ground.data }, { on := 5, ground := Ground.data }], guard := none }) (v := ?vb6) rfl (by kernel_rfl) (by kernel_rfl) (by kernel_rfl) (fun _ _ _ h => h) (Or.inl ⟨by rfl, ?yb6⟩) (by assumption) ?rb6
        case yb6 => (intro w hSw; (try dsimp only at hSw); go_simp <;> with_reducible rfl)
        (try simp only [Act.put, List.setIfInBounds_toArray, List.set_cons_zero, List.set_cons_succ])
        refine wpAnyH_take (i := 7) (oi := { dst := some 39, op := Op.move (Operand.tmp 38), type := 4, pos := "law.go:62", after := #[{ on := 6, ground := Ground.data }, { on := 2, ground := Ground.chain }], guard := none }) (v := ?vb7) rfl (by kernel_rfl) (by kernel_rfl) (by kernel_rfl) (fun _ _ _ h => h) (Or.inl ⟨by rfl, ?yb7⟩) (by assumption) ?rb7
        case yb7 => (intro w hSw; (try dsimp only at hSw); go_simp <;> with_reducible rfl)
        (try simp only [Act.put, List.setIfInBounds_toArray, List.set_cons_zero, List.set_cons_succ])
        refine wpAnyH_take (i := 8) (oi := { dst := some 40, op := Op.fieldAddr 24 (Operand.tmp 5) 1, type := 0, pos := "law.go:62", after := #[{ on := 7, ground := Ground.guard }], guard := some (7, false) }) (v := undef) rfl (by kernel_rfl) (by kernel_rfl) (by kernel_rfl) (fun _ _ _ h => h) (Or.inr ⟨by rfl, rfl⟩) (by assumption) ?_
        (try simp only [Act.put, List.setIfInBounds_toArray, List.set_cons_zero, List.set_cons_succ])
        refine wpAnyH_take (i := 9) (oi := { dst := some 41, op := Op.load 3 (Operand.tmp 40), type := 3, pos := "law.go:62", after := #[{ on := 8, ground := Ground.data }, { on := 7, ground := Ground.guard }], guard := some (7, false) }) (v := undef) rfl (by kernel_rfl) (by kernel_rfl) (by kernel_rfl) (fun _ _ _ h => h) (Or.inr ⟨by rfl, rfl⟩) (by assumption) ?_
        (try simp only [Act.put, List.setIfInBounds_toArray, List.set_cons_zero, List.set_cons_succ])
        refine wpAnyH_take (i := 10) (oi := { dst := some 42, op := Op.move (Operand.tmp 0), type := 22, pos := "law.go:62", after := #[{ on := 7, ground := Ground.guard }], guard := some (7, false) }) (v := undef) rfl (by kernel_rfl) (by kernel_rfl) (by kernel_rfl) (fun _ _ _ h => h) (Or.inr ⟨by rfl, rfl⟩) (by assumption) ?_
        (try simp only [Act.put, List.setIfInBounds_toArray, List.set_cons_zero, List.set_cons_succ])
        refine wpAnyH_take (i := 11) (oi := { dst := some 43, op := Op.move (Operand.tmp 9), type := 3, pos := "law.go:62", after := #[{ on := 7, ground := Ground.guard }], guard := some (7, false) }) (v := undef) rfl (by kernel_rfl) (by kernel_rfl) (by kernel_rfl) (fun _ _ _ h => h) (Or.inr ⟨by rfl, rfl⟩) (by assumption) ?_
        (try simp only [Act.put, List.setIfInBounds_toArray, List.set_cons_zero, List.set_cons_succ])
        refine wpAnyH_take (i := 12) (oi := { dst := some 44, op := Op.indexAddr 22 (Operand.tmp 42) (Operand.tmp 43), type := 0, pos := "law.go:62", after := #[{ on := 10, ground := Ground.data }, { on := 11, ground := Ground.data }, { on := 7, ground := Ground.guard }], guard := some (7, false) }) (v := undef) rfl (by kernel_rfl) (by kernel_rfl) (by kernel_rfl) (fun _ _ _ h => h) (Or.inr ⟨by rfl, rfl⟩) (by assumption) ?_
        (try simp only [Act.put, List.setIfInBounds_toArray, List.set_cons_zero, List.set_cons_succ])
        refine wpAnyH_take (i := 13) (oi := { dst := some 45, op := Op.fieldAddr 31 (Operand.tmp 44) 5, type := 0, pos := "law.go:62", after := #[{ on := 12, ground := Ground.data }, { on := 7, ground := Ground.guard }], guard := some (7, false) }) (v := undef) rfl (by kernel_rfl) (by kernel_rfl) (by kernel_rfl) (fun _ _ _ h => h) (Or.inr ⟨by rfl, rfl⟩) (by assumption) ?_
        (try simp only [Act.put, List.setIfInBounds_toArray, List.set_cons_zero, List.set_cons_succ])
        refine wpAnyH_take (i := 14) (oi := { dst := some 46, op := Op.load 29 (Operand.tmp 45), type := 29, pos := "law.go:62", after := #[{ on := 13, ground := Ground.data }, { on := 7, ground := Ground.guard }], guard := some (7, false) }) (v := undef) rfl (by kernel_rfl) (by kernel_rfl) (by kernel_rfl) (fun _ _ _ h => h) (Or.inr ⟨by rfl, rfl⟩) (by assumption) ?_
        (try simp only [Act.put, List.setIfInBounds_toArray, List.set_cons_zero, List.set_cons_succ])
        refine wpAnyH_take (i := 15) (oi := { dst := some 47, op := Op.call { callee := Callee.builtin Builtin.len, args := #[Operand.tmp 46], argTypes := #[29] }, type := 3, pos := "law.go:62", after := #[{ on := 14, ground := Ground.data }, { on := 7, ground := Ground.guard }], guard := some (7, false) }) (v := undef) rfl (by kernel_rfl) (by kernel_rfl) (by kernel_rfl) (fun _ _ _ h => h) (Or.inr ⟨by rfl, rfl⟩) (by assumption) ?_
        (try simp only [Act.put, List.setIfInBounds_toArray, List.set_cons_zero, List.set_cons_succ])
        refine wpAnyH_take (i := 16) (oi := { dst := some 48, op := Op.binOp BinOp.geq 3 (Operand.tmp 41) (Operand.tmp 47) 3, type := 4, pos := "law.go:62", after := #[{ on := 9, ground := Ground.data }, { on := 15, ground := Ground.data }, { on := 7, ground := Ground.guard }], guard := some (7, false) }) (v := undef) rfl (by kernel_rfl) (by kernel_rfl) (by kernel_rfl) (fun _ _ _ h => h) (Or.inr ⟨by rfl, rfl⟩) (by assumption) ?_
        (try simp only [Act.put, List.setIfInBounds_toArray, List.set_cons_zero, List.set_cons_succ])
        refine wpAnyH_take (i := 17) (oi := { dst := some 49, op := Op.pick (Operand.tmp 39) (Operand.const (Value.bool true)) (Operand.tmp 48), type := 4, pos := "law.go:62", after := #[{ on := 7, ground := Ground.data }, { on := 16, ground := Ground.data }], guard := none }) (v := ?vb17) rfl (by kernel_rfl) (by kernel_rfl) (by kernel_rfl) (fun _ _ _ h => h) (Or.inl ⟨by rfl, ?yb17⟩) (by assumption) ?rb17
        case yb17 => (intro w hSw; (try dsimp only at hSw); go_simp <;> with_reducible rfl)
        (try simp only [Act.put, List.setIfInBounds_toArray, List.set_cons_zero, List.set_cons_succ])
        refine wpAnyH_done (by kernel_rfl) ?_ _
        go_wp2_with fail
        go_ret
        exact ⟨rfl, Below.drew K2.out⟩
      · have g1 : decide (fi < 0) = false := by simpa using h0
        obtain ⟨i, hi⟩ : ∃ i : Nat, fi = (i : Int) := ⟨fi.toNat, by omega⟩
        subst hi
        by_cases h1 : i < t.methods.length
        · obtain ⟨m, hmi⟩ : ∃ m, t.methods[i]? = some m := ⟨_, List.getElem?_eq_getElem h1⟩
          have HMI := Lib.hid (show (metL D fc)[i]? = some m by rw [HMET.out]; exact hmi)
          have HFN := Lib.hid (show Fnd D (fc, i) from ⟨HTH0.out, (List.getElem?_eq_some_iff.1 HMI.out).1⟩)
          obtain ⟨mb, mo, rfl, y0, y1, y2, y3, y4, yb, hi1, hi0⟩ := mem_all HM.out hmi
          have g2 : decide (t.methods.length ≤ i) = false := by simp; omega
          have g3 : ¬ (t.methods.length ≤ i) := by omega
          clear hmi h0
          go_wp2_with fail
          refine wp_region_held_drew (S := (fun w' => w'.cell? ⟨w.heap.size, 1, none⟩ = some (.int .i64 i) ∧ w'.cell? ⟨tb, tof + kf * 6 + 5, none⟩ = some (.slice (some ⟨mb, mo, none⟩) t.methods.length mc))) (by kernel_rfl) (by first | assumption | ((try dsimp only); simp [*]; done)) (fun hHeld => ?_)
          refine wpAnyH_take (i := 0) (oi := { dst := some 32, op := Op.move (Operand.tmp 9), type := 3, pos := "law.go:62", after := #[], guard := none }) (v := ?vc0) rfl (by kernel_rfl) (by kernel_rfl) (by kernel_rfl) (fun _ _ _ h => h) (Or.inl ⟨by rfl, ?yc0⟩) (by assumption) ?rc0
          case yc0 => (intro w hSw; (try dsimp only at hSw); go_simp <;> with_reducible rfl)
          (try simp only [Act.put, List.setIfInBounds_toArray, List.set_cons_zero, List.set_cons_succ])
          refine wpAnyH_take (i := 1) (oi := { dst := some 33, op := Op.binOp BinOp.lss 3 (Operand.tmp 32) (Operand.const (Value.int IntKind.i64 0)) 3, type := 4, pos := "law.go:62", after := #[{ on := 0, ground := Ground.data }], guard := none }) (v := ?vc1) rfl (by kernel_rfl) (by kernel_rfl) (by kernel_rfl) (fun _ _ _ h => h) (Or.inl ⟨by rfl, ?yc1⟩) (by assumption) ?rc1
          case yc1 => (intro w hSw; (try dsimp only at hSw); go_simp <;> with_reducible rfl)
          (try simp only [Act.put, List.setIfInBounds_toArray, List.set_cons_zero, List.set_cons_succ])
          refine wpAnyH_take (i := 2) (oi := { dst := some 34, op := Op.move (Operand.tmp 33), type := 4, pos := "law.go:62", after := #[{ on := 1, ground := Ground.data }], guard := none }) (v := ?vc2) rfl (by kernel_rfl) (by kernel_rfl) (by kernel_rfl) (fun _ _ _ h => h) (Or.inl ⟨by rfl, ?yc2⟩) (by assumption) ?rc2
          case yc2 => (intro w hSw; (try dsimp only at hSw); go_simp <;> with_reducible rfl)
          (try simp only [Act.put, List.setIfInBounds_toArray, List.set_cons_zero, List.set_cons_succ])
          refine wpAnyH_take (i := 3) (oi := { dst := some 35, op := Op.fieldAddr 24 (Operand.tmp 5) 1, type := 0, pos := "law.go:62", after := #[{ on := 2, ground := Ground.guard }], guard := some (2, false) }) (v := ?vc3) rfl (by kernel_rfl) (by kernel_rfl) (by kernel_rfl) (fun _ _ _ h => h) (Or.inl ⟨by rfl, ?yc3⟩) (by assumption) ?rc3
          case yc3 => (intro w hSw; (try dsimp only at hSw); go_simp <;> with_reducible rfl)
          (try simp only [Act.put, List.setIfInBounds_toArray, List.set_cons_zero, List.set_cons_succ])
          refine wpAnyH_take (i := 4) (oi := { dst := some 36, op := Op.load 3 (Operand.tmp 35), type := 3, pos := "law.go:62", after := #[{ on := 3, ground := Ground.data }, { on := 2, ground := Ground.guard }], guard := some (2, false) }) (v := ?vc4) rfl (by kernel_rfl) (by kernel_rfl) (by kernel_rfl) (fun _ _ _ h => h) (Or.inl ⟨by rfl, ?yc4⟩) (by assumption) ?rc4
          case yc4 => (intro w hSw; (try dsimp only at hSw); go_simp <;> with_reducible rfl)
          (try simp only [Act.put, List.setIfInBounds_toArray, List.set_cons_zero, List.set_cons_succ])
          refine wpAnyH_take (i := 5) (oi := { dst := some 37, op := Op.binOp BinOp.lss 3 (Operand.tmp 36) (Operand.const (Value.int IntKind.i64 0)) 3, type := 4, pos := "law.go:62", after := #[{ on := 4, ground := Ground.data }, { on := 2, ground := Ground.guard }], guard := some (2, false) }) (v := ?vc5) rfl (by kernel_rfl) (by kernel_rfl) (by kernel_rfl) (fun _ _ _ h => h) (Or.inl ⟨by rfl, ?yc5⟩) (by assumption) ?rc5
          case yc5 => (intro w hSw; (try dsimp only at hSw); go_simp <;> with_reducible rfl)
          (try simp only [Act.put, List.setIfInBounds_toArray, List.set_cons_zero, List.set_cons_succ])
          refine wpAnyH_take (i := 6) (oi := { dst := some 38, op := Op.pick (Operand.tmp 34) (Operand.const (Value.bool true)) (Operand.tmp 37), type := 4, pos := "law.go:62", after := #[{ on := 2, ground := Ground.data }, { on := 5, ground := Ground.data }], guard := none }) (v := ?vc6) rfl (by kernel_rfl) (by kernel_rfl) (by kernel_rfl) (fun _ _ _ h => h) (Or.inl ⟨by rfl, ?yc6⟩) (by assumption) ?rc6
          case yc6 => (intro w hSw; (try dsimp only at hSw); go_simp <;> with_reducible rfl)
          (try simp only [Act.put, List.setIfInBounds_toArray, List.set_cons_zero, List.set_cons_succ])
          refine wpAnyH_take (i := 7) (oi := { dst := some 39, op := Op.move (Operand.tmp 38), type := 4, pos := "law.go:62", after := #[{ on := 6, ground := Ground.data }, { on := 2, ground := Ground.chain }], guard := none }) (v := ?vc7) rfl (by kernel_rfl) (by kernel_rfl) (by kernel_rfl) (fun _ _ _ h => h) (Or.inl ⟨by rfl, ?yc7⟩) (by assumption) ?rc7
          case yc7 => (intro w hSw; (try dsimp only at hSw); go_simp <;> with_reducible rfl)
          (try simp only [Act.put, List.setIfInBounds_toArray, List.set_cons_zero, List.set_cons_succ])
          refine wpAnyH_take (i := 8) (oi := { dst := some 40, op := Op.fieldAddr 24 (Operand.tmp 5) 1, type := 0, pos := "law.go:62", after := #[{ on := 7, ground := Ground.guard }], guard := some (7, false) }) (v := ?vc8) rfl (by kernel_rfl) (by kernel_rfl) (by kernel_rfl) (fun _ _ _ h => h) (Or.inl ⟨by rfl, ?yc8⟩) (by assumption) ?rc8
          case yc8 => (intro w hSw; (try dsimp only at hSw); go_simp <;> with_reducible rfl)
          (try simp only [Act.put, List.setIfInBounds_toArray, List.set_cons_zero, List.set_cons_succ])
          refine wpAnyH_take (i := 9) (oi := { dst := some 41, op := Op.load 3 (Operand.tmp 40), type := 3, pos := "law.go:62", after := #[{ on := 8, ground := Ground.data }, { on := 7, ground := Ground.guard }], guard := some (7, false) }) (v := ?vc9) rfl (by kernel_rfl) (by kernel_rfl) (by kernel_rfl) (fun _ _ _ h => h) (Or.inl ⟨by rfl, ?yc9⟩) (by assumption) ?rc9
          case yc9 => (intro w hSw; (try dsimp only at hSw); go_simp <;> with_reducible rfl)
          (try simp only [Act.put, List.setIfInBounds_toArray, List.set_cons_zero, List.set_cons_succ])
          refine wpAnyH_take (i := 10) (oi := { dst := some 42, op := Op.move (Operand.tmp 0), type := 22, pos := "law.go:62", after := #[{ on := 7, ground := Ground.guard }], guard := some (7, false) }) (v := ?vc10) rfl (by kernel_rfl) (by kernel_rfl) (by kernel_rfl) (fun _ _ _ h => h) (Or.inl ⟨by rfl, ?yc10⟩) (by assumption) ?rc10
          case yc10 => (intro w hSw; (try dsimp only at hSw); go_simp <;> with_reducible rfl)
          (try simp only [Act.put, List.setIfInBounds_toArray, List.set_cons_zero, List.set_cons_succ])
          refine wpAnyH_take (i := 11) (oi := { dst := some 43, op := Op.move (Operand.tmp 9), type := 3, pos := "law.go:62", after := #[{ on := 7, ground := Ground.guard }], guard := some (7, false) }) (v := ?vc11) rfl (by kernel_rfl) (by kernel_rfl) (by kernel_rfl) (fun _ _ _ h => h) (Or.inl ⟨by rfl, ?yc11⟩) (by assumption) ?rc11
          case yc11 => (intro w hSw; (try dsimp only at hSw); go_simp <;> with_reducible rfl)
          (try simp only [Act.put, List.setIfInBounds_toArray, List.set_cons_zero, List.set_cons_succ])
          refine wpAnyH_take (i := 12) (oi := { dst := some 44, op := Op.indexAddr 22 (Operand.tmp 42) (Operand.tmp 43), type := 0, pos := "law.go:62", after := #[{ on := 10, ground := Ground.data }, { on := 11, ground := Ground.data }, { on := 7, ground := Ground.guard }], guard := some (7, false) }) (v := ?vc12) rfl (by kernel_rfl) (by kernel_rfl) (by kernel_rfl) (fun _ _ _ h => h) (Or.inl ⟨by rfl, ?yc12⟩) (by assumption) ?rc12
          case yc12 => (intro w hSw; (try dsimp only at hSw); go_simp <;> with_reducible rfl)
          (try simp only [Act.put, List.setIfInBounds_toArray, List.set_cons_zero, List.set_cons_succ])
          refine wpAnyH_take (i := 13) (oi := { dst := some 45, op := Op.fieldAddr 31 (Operand.tmp 44) 5, type := 0, pos := "law.go:62", after := #[{ on := 12, ground := Ground.data }, { on := 7, ground := Ground.guard }], guard := some (7, false) }) (v := ?vc13) rfl (by kernel_rfl) (by kernel_rfl) (by kernel_rfl) (fun _ _ _ h => h) (Or.inl ⟨by rfl, ?yc13⟩) (by assumption) ?rc13
          case yc13 => (intro w hSw; (try dsimp only at hSw); go_simp <;> with_reducible rfl)
          (try simp only [Act.put, List.setIfInBounds_toArray, List.set_cons_zero, List.set_cons_succ])
          refine wpAnyH_take (i := 14) (oi := { dst := some 46, op := Op.load 29 (Operand.tmp 45), type := 29, pos := "law.go:62", after := #[{ on := 13, ground := Ground.data }, { on := 7, ground := Ground.guard }], guard := some (7, false) }) (v := ?vc14) rfl (by kernel_rfl) (by kernel_rfl) (by kernel_rfl) (fun _ _ _ h => h) (Or.inl ⟨by rfl, ?yc14⟩) (by assumption) ?rc14
          case yc14 => (intro w hSw; (try dsimp only at hSw); go_simp <;> with_reducible rfl)
          (try simp only [Act.put, List.setIfInBounds_toArray, List.set_cons_zero, List.set_cons_succ])
          refine wpAnyH_take (i := 15) (oi := { dst := some 47, op := Op.call { callee := Callee.builtin Builtin.len, args := #[Operand.tmp 46], argTypes := #[29] }, type := 3, pos := "law.go:62", after := #[{ on := 14, ground := Ground.data }, { on := 7, ground := Ground.guard }], guard := some (7, false) }) (v := ?vc15) rfl (by kernel_rfl) (by kernel_rfl) (by kernel_rfl) (fun _ _ _ h => h) (Or.inl ⟨by rfl, ?yc15⟩) (by assumption) ?rc15
          case yc15 => (intro w hSw; (try dsimp only at hSw); go_simp <;> with_reducible rfl)
          (try simp only [Act.put, List.setIfInBounds_toArray, List.set_cons_zero, List.set_cons_succ])
          refine wpAnyH_take (i := 16) (oi := { dst := some 48, op := Op.binOp BinOp.geq 3 (Operand.tmp 41) (Operand.tmp 47) 3, type := 4, pos := "law.go:62", after := #[{ on := 9, ground := Ground.data }, { on := 15, ground := Ground.data }, { on := 7, ground := Ground.guard }], guard := some (7, false) }) (v := ?vc16) rfl (by kernel_rfl) (by kernel_rfl) (by kernel_rfl) (fun _ _ _ h => h) (Or.inl ⟨by rfl, ?yc16⟩) (by assumption) ?rc16
          case yc16 => (intro w hSw; (try dsimp only at hSw); go_simp <;> with_reducible rfl)
          (try simp only [Act.put, List.setIfInBounds_toArray, List.set_cons_zero, List.set_cons_succ])
          refine wpAnyH_take (i := 17) (oi := { dst := some 49, op := Op.pick (Operand.tmp 39) (Operand.const (Value.bool true)) (Operand.tmp 48), type := 4, pos := "law.go:62", after := #[{ on := 7, ground := Ground.data }, { on := 16, ground := Ground.data }], guard := none }) (v := ?vc17) rfl (by kernel_rfl) (by kernel_rfl) (by kernel_rfl) (fun _ _ _ h => h) (Or.inl ⟨by rfl, ?yc17⟩) (by assumption) ?rc17
          case yc17 => (intro w hSw; (try dsimp only at hSw); go_simp <;> with_reducible rfl)
          (try simp only [Act.put, List.setIfInBounds_toArray, List.set_cons_zero, List.set_cons_succ])
          refine wpAnyH_done (by kernel_rfl) ?_ _
          have k : Kept w2 w2.drew := (Below.refl _ _).drew
          have x5 := Kept.cell k x5
          have y0 := Kept.cell k y0
          have y1 := Kept.cell k y1
          have y2 := Kept.cell k y2
          have y3 := Kept.cell k y3
          have y4 := Kept.cell k y4
          have q0 := Kept.cell k q0
          have q1 := Kept.cell k q1
          have zq := Nat.lt_of_lt_of_le zq k.size
          generalize w2.drew = x3 at *
          have BRn := BR.out.kept k
          clear BR
          have BR := Lib.hid BRn
          clear BRn
          have KTn := Kept.trans KT.out k
          clear KT
          have KT := Lib.hid KTn
          clear KTn
          clear k
          go_wp2_with fail
          have nn1 := World.new_ne _ _ x5
          have nn2 := World.new_ne _ _ y0
          have nn3 := World.new_ne _ _ y1
          have nn4 := World.new_ne _ _ y2
          have nn5 := World.new_ne _ _ y3
          have nn6 := World.new_ne _ _ y4
          have nn7 := World.new_ne _ _ q1
          go_region_held2 (fun w' => w'.cell? ⟨tb, tof + kf * 6 + 5, none⟩ = some (.slice (some ⟨mb, mo, none⟩) t.methods.length mc) ∧ w'.cell? ⟨w.heap.size, 1, none⟩ = some (.int .i64 i) ∧ w'.cell? ⟨mb, mo + i * 5, none⟩ = some (.int .i64 m.access) ∧ w'.cell? ⟨mb, mo + i * 5 + 1, none⟩ = some (.string m.name) ∧ w'.cell? ⟨mb, mo + i * 5 + 2, none⟩ = some (.string m.desc) ∧ w'.cell? ⟨mb, mo + i * 5 + 3, none⟩ = some (.bool m.has) ∧ w'.cell? ⟨mb, mo + i * 5 + 4, none⟩ = some (.int .i64 m.value)) (go_keep) (fail)
          clear x5 y0 y1 y2 y3 y4 yb nn1 nn2 nn3 nn4 nn5 nn6 nn7 q0 q1 zq zn
          have k : Kept x3 ((x3.alloc (.cells #[.int .i64 m.access, .string m.name, .string m.desc, .bool m.has, .int .i64 m.value] 33)).drew) := ((Below.refl _ _).alloc (Nat.le_refl _) _).drew
          have BMb : Blk ((x3.alloc (.cells #[.int .i64 m.access, .string m.name, .string m.desc, .bool m.has, .int .i64 m.value] 33)).drew) x3.heap.size 33 #[.int .i64 m.access, .string m.name, .string m.desc, .bool m.has, .int .i64 m.value] := Blk.new x3 _ _
          obtain ⟨gBM, hgBM⟩ : ∃ x, x = x3.heap.size := ⟨_, rfl⟩
          rw [← hgBM] at BMb
          have BM := Lib.hid BMb
          clear BMb
          have hq := BR.out
          have q0 := hq.cell 0
          have q1 := hq.cell 1
          simp only [List.getElem?_toArray, List.getElem?_cons_succ, List.getElem?_cons_zero] at q0 q1
          have zq := hq.lt
          have zn : ¬ (w.heap.size = (x3).heap.size) := Nat.ne_of_lt zq
          clear hq
          go_upto_region 9 with fail
          rw [← hgBM]
          clear hgBM
          generalize ((x3.alloc (.cells #[.int .i64 m.access, .string m.name, .string m.desc, .bool m.has, .int .i64 m.value] 33)).drew) = x4 at *
          clear q0 q1 zq zn
          have BRn := BR.out.kept k
          clear BR
          have BR := Lib.hid BRn
          clear BRn
          have KTn := Kept.trans KT.out k
          clear KT
          have KT := Lib.hid KTn
          clear KTn
          clear k
          have hq := BR.out
          have q0 := hq.cell 0
          have q1 := hq.cell 1
          simp only [List.getElem?_toArray, List.getElem?_cons_succ, List.getElem?_cons_zero] at q0 q1
          have zq := hq.lt
          have zn : ¬ (w.heap.size = (x4).heap.size) := Nat.ne_of_lt zq
          clear hq
          have cBM0 := BM.out.cell 0
          have cBM1 := BM.out.cell 1
          have cBM2 := BM.out.cell 2
          have cBM3 := BM.out.cell 3
          have cBM4 := BM.out.cell 4
          simp only [List.getElem?_toArray, List.getElem?_cons_succ, List.getElem?_cons_zero] at cBM0 cBM1 cBM2 cBM3 cBM4
          have lBM := BM.out.lt
          go_wp2_with fail
          refine (ch_Virtual D cls fc i _ _ (HT.out.kept KT.out) HCS.out).mono ?_
          rintro e x5 ⟨rfl, k⟩
          clear q0 q1 zq zn cBM0 cBM1 cBM2 cBM3 cBM4 lBM
          have BMn := BM.out.kept k
          clear BM
          have BM := Lib.hid BMn
          clear BMn
          have BRn := BR.out.kept k
          clear BR
          have BR := Lib.hid BRn
          clear BRn
          have KTn := Kept.trans KT.out k
          clear KT
          have KT := Lib.hid KTn
          clear KTn
          clear k
          obtain ⟨rBV, hrBV⟩ : ∃ r, r = virtR D cls fc i := ⟨_, rfl⟩
          rw [← hrBV]
          obtain ⟨⟨rcBV, riBV⟩, reBV⟩ := rBV
          have HRBV := Lib.hid hrBV
          clear hrBV
          unfold resG
          have k : Kept x5 (x5.alloc (.cells #[.string rcBV, .int .i64 riBV] 24)) := (Below.refl _ _).alloc (Nat.le_refl _) _
          have BVb := Blk.new x5 24 #[.string rcBV, .int .i64 riBV]
          obtain ⟨gBV, hgBV⟩ : ∃ x, x = x5.heap.size := ⟨_, rfl⟩
          rw [← hgBV] at BVb
          have BV := Lib.hid BVb
          clear BVb
          have hq := BR.out
          have q0 := hq.cell 0
          have q1 := hq.cell 1
          simp only [List.getElem?_toArray, List.getElem?_cons_succ, List.getElem?_cons_zero] at q0 q1
          have zq := hq.lt
          have zn : ¬ (w.heap.size = (x5).heap.size) := Nat.ne_of_lt zq
          clear hq
          go_upto_region 10 with fail
          rw [← hgBV]
          clear hgBV
          generalize (x5.alloc (.cells #[.string rcBV, .int .i64 riBV] 24)) = x6 at *
          clear q0 q1 zq zn
          have BMn := BM.out.kept k
          clear BM
          have BM := Lib.hid BMn
          clear BMn
          have BRn := BR.out.kept k
          clear BR
          have BR := Lib.hid BRn
          clear BRn
          have KTn := Kept.trans KT.out k
          clear KT
          have KT := Lib.hid KTn
          clear KTn
          clear k
          go_cut [67] from 66 to 67 (fun st wx => st = .bool reBV.toList.isEmpty ∧ x6 = wx)
          case first =>
            go_wp2_with fail
            go_meet
            exact ⟨rfl, rfl⟩
          case rest =>
          obtain ⟨rfl, rfl⟩ := hcut
          obtain ⟨bxBV, hbxBV⟩ : ∃ b, b = reBV.toList.isEmpty := ⟨_, rfl⟩
          rw [← hbxBV]
          have HXBV := Lib.hid hbxBV
          clear hbxBV
          go_upto_if 67 with fail
          go_cut [13, 14] from 59 to 121 (fun _ _ wx => Kept x6 wx)
          case first =>
            have KL := Lib.hid (Below.refl (x6).heap.size (x6))
            rcases virt_cases (cls := cls) HMI.out HFN.out with ⟨a, hva, hv, ha8, haf⟩ | ⟨ea, hva, hea⟩
            · have HVa := Lib.hid hv
              have HA8 := Lib.hid ha8
              have HAF := Lib.hid haf
              clear hv ha8 haf
              have hr := HRBV.out.trans hva
              unfold gv at hr
              simp only [Prod.mk.injEq] at hr
              obtain ⟨⟨rfl, rfl⟩, rfl⟩ := hr
              clear hva HRBV
              obtain rfl : bxBV = true := by rw [HXBV.out]; first | rfl | simp
              have hq := BR.out
              have q0 := hq.cell 0
              have q1 := hq.cell 1
              simp only [List.getElem?_toArray, List.getElem?_cons_succ, List.getElem?_cons_zero] at q0 q1
              have zq := hq.lt
              have zn : ¬ (w.heap.size = (x6).heap.size) := Nat.ne_of_lt zq
              clear hq
              have cBM0 := BM.out.cell 0
              have cBM1 := BM.out.cell 1
              have cBM2 := BM.out.cell 2
              have cBM3 := BM.out.cell 3
              have cBM4 := BM.out.cell 4
              simp only [List.getElem?_toArray, List.getElem?_cons_succ, List.getElem?_cons_zero] at cBM0 cBM1 cBM2 cBM3 cBM4
              have lBM := BM.out.lt
              have cBV0 := BV.out.cell 0
              have cBV1 := BV.out.cell 1
              simp only [List.getElem?_toArray, List.getElem?_cons_succ, List.getElem?_cons_zero] at cBV0 cBV1
              have lBV := BV.out.lt
              go_upto_region 11 with fail
              clear q0 q1 zq zn cBM0 cBM1 cBM2 cBM3 cBM4 lBM cBV0 cBV1 lBV
              have hq := BR.out
              have q0 := hq.cell 0
              have q1 := hq.cell 1
              simp only [List.getElem?_toArray, List.getElem?_cons_succ, List.getElem?_cons_zero] at q0 q1
              have zq := hq.lt
              have zn : ¬ (w.heap.size = (x6).heap.size) := Nat.ne_of_lt zq
              clear hq
              have cBM0 := BM.out.cell 0
              have cBM1 := BM.out.cell 1
              have cBM2 := BM.out.cell 2
              have cBM3 := BM.out.cell 3
              have cBM4 := BM.out.cell 4
              simp only [List.getElem?_toArray, List.getElem?_cons_succ, List.getElem?_cons_zero] at cBM0 cBM1 cBM2 cBM3 cBM4
              have lBM := BM.out.lt
              have cBV0 := BV.out.cell 0
              have cBV1 := BV.out.cell 1
              simp only [List.getElem?_toArray, List.getElem?_cons_succ, List.getElem?_cons_zero] at cBV0 cBV1
              have lBV := BV.out.lt
              go_wp2_with fail
              refine (ref12_Flags D a _ _ (HT.out.kept KT.out) HVa.out.fnd).mono ?_
              rintro e x7 ⟨rfl, k⟩
              clear q0 q1 zq zn cBM0 cBM1 cBM2 cBM3 cBM4 lBM cBV0 cBV1 lBV
              obtain ⟨na, hna⟩ : ∃ x, x = accM D a := ⟨_, rfl⟩
              rw [← hna]
              have Hna := Lib.hid hna
              clear hna
              have BMn := BM.out.kept k
              clear BM
              have BM := Lib.hid BMn
              clear BMn
              have BVn := BV.out.kept k
              clear BV
              have BV := Lib.hid BVn
              clear BVn
              have BRn := BR.out.kept k
              clear BR
              have BR := Lib.hid BRn
              clear BRn
              have KTn := Kept.trans KT.out k
              clear KT
              have KT := Lib.hid KTn
              clear KTn
              have KLn := Kept.trans KL.out k
              clear KL
              have KL := Lib.hid KLn
              clear KLn
              clear k
              have hq := BR.out
              have q0 := hq.cell 0
              have q1 := hq.cell 1
              simp only [List.getElem?_toArray, List.getElem?_cons_succ, List.getElem?_cons_zero] at q0 q1
              have zq := hq.lt
              have zn : ¬ (w.heap.size = (x7).heap.size) := Nat.ne_of_lt zq
              clear hq
              have cBM0 := BM.out.cell 0
              have cBM1 := BM.out.cell 1
              have cBM2 := BM.out.cell 2
              have cBM3 := BM.out.cell 3
              have cBM4 := BM.out.cell 4
              simp only [List.getElem?_toArray, List.getElem?_cons_succ, List.getElem?_cons_zero] at cBM0 cBM1 cBM2 cBM3 cBM4
              have lBM := BM.out.lt
              have cBV0 := BV.out.cell 0
              have cBV1 := BV.out.cell 1
              simp only [List.getElem?_toArray, List.getElem?_cons_succ, List.getElem?_cons_zero] at cBV0 cBV1
              have lBV := BV.out.lt
              obtain ⟨mp, hmp, hmpn, hmpd⟩ := HVa.out.nm
              have htha := HVa.out.fnd.1
              unfold there at htha
              obtain ⟨ka, hka⟩ := Option.isSome_iff_exists.1 htha
              obtain ⟨ta, hta, -, hkla⟩ := atO_some hka
              rw [metL_at hka hta] at hmp
              have caa : ∀ w', TyR w' _ D → Calls Try.prog 7 #[.slice (some ⟨tb, tof, none⟩) D.length tc, .string a.1] w' (fun e w'' => e = .returned (.int .i64 ka) ∧ w' = w'') := fun w' h => atI_some hka ▸ ref9_At D a.1 _ w' h
              have CAa := Lib.hid caa
              obtain ⟨tb', tof', tc', ia', ic', fa', fc', ma', mc', hv', -, -, -, -, -, x5, -, -, -, -, hmr', -⟩ := ty_row (HT.out.kept KT.out) hta
              simp only [Value.slice.injEq, Option.some.injEq, Addr.mk.injEq] at hv'
              obtain ⟨⟨rfl, rfl, -⟩, -, rfl⟩ := hv'
              obtain ⟨mb', mo', rfl, y0, y1, y2, y3, y4, yb, j1, j0⟩ := mem_all hmr' hmp
              rw [hmpn] at y1
              rw [hmpd] at y2
              have i1 : (ka : Int) < (D.length : Int) := by omega
              have i0 : (0 : Int) ≤ (ka : Int) := by omega
              have nb1 : ¬ (mb' = (x7).heap.size) := Nat.ne_of_lt yb
              clear hmp hmpn hmpd htha hka hta hkla caa hmr'
              go_upto_region 12 with fail
              go_cut [14] from 71 to 82 (fun st wx => st = .pointer (some ⟨x7.heap.size, 0, none⟩) ∧ Kept x7 wx ∧ Blk wx x7.heap.size 33 #[.int .i64 mp.access, .string m.name, .string m.desc, .bool mp.has, .int .i64 mp.value])
              case first =>
                have nn1 := World.new_ne _ _ x5
                have nn2 := World.new_ne _ _ y0
                have nn3 := World.new_ne _ _ y1
                have nn4 := World.new_ne _ _ y2
                have nn5 := World.new_ne _ _ y3
                have nn6 := World.new_ne _ _ y4
                have nn7 := World.new_ne _ _ cBV0
                have nn8 := World.new_ne _ _ cBV1
                go_region_held2 (fun w' => w'.cell? ⟨gBV, 0, none⟩ = some (.string a.1) ∧ w'.cell? ⟨gBV, 1, none⟩ = some (.int .i64 a.2) ∧ w'.cell? ⟨tb, tof + ka * 6 + 5, none⟩ = some (.slice (some ⟨mb', mo', none⟩) ta.methods.length mc') ∧ w'.cell? ⟨mb', mo' + a.2 * 5, none⟩ = some (.int .i64 mp.access) ∧ w'.cell? ⟨mb', mo' + a.2 * 5 + 1, none⟩ = some (.string m.name) ∧ w'.cell? ⟨mb', mo' + a.2 * 5 + 2, none⟩ = some (.string m.desc) ∧ w'.cell? ⟨mb', mo' + a.2 * 5 + 3, none⟩ = some (.bool mp.has) ∧ w'.cell? ⟨mb', mo' + a.2 * 5 + 4, none⟩ = some (.int .i64 mp.value)) (go_keep)
                  ((go_at_call 7; refine (CAa.out _ (HT.out.kept (Kept.trans KT.out (by first | exact (Below.refl _ _).drew | exact ((Below.refl _ _).alloc (Nat.le_refl _) _).drew)))).mono ?_; rintro e w7 ⟨rfl, rfl⟩))
                all_goals go_wp2_with fail
                all_goals go_meet
                all_goals exact ⟨rfl, ((Below.refl _ _).alloc (Nat.le_refl _) _).drew, Blk.new _ _ _⟩
              case rest =>
              obtain ⟨rfl, k, bBU⟩ := hcut
              rename World => x8
              obtain ⟨gBU, hgBU⟩ : ∃ x, x = (x7).heap.size := ⟨_, rfl⟩
              rw [← hgBU] at bBU ⊢
              clear hgBU
              have BU := Lib.hid bBU
              clear bBU
              clear q0 q1 zq zn cBM0 cBM1 cBM2 cBM3 cBM4 lBM cBV0 cBV1 lBV
              clear x5 y0 y1 y2 y3 y4 yb nb1
              have BMn := BM.out.kept k
              clear BM
              have BM := Lib.hid BMn
              clear BMn
              have BVn := BV.out.kept k
              clear BV
              have BV := Lib.hid BVn
              clear BVn
              have BRn := BR.out.kept k
              clear BR
              have BR := Lib.hid BRn
              clear BRn
              have KTn := Kept.trans KT.out k
              clear KT
              have KT := Lib.hid KTn
              clear KTn
              have KLn := Kept.trans KL.out k
              clear KL
              have KL := Lib.hid KLn
              clear KLn
              clear k
              have e1 : (bits .and .i64 na 1024 != 0) = false := by rw [Hna.out, HVa.out.nab]; rfl
              by_cases hp : bits .and .i64 m.access 2 = 0
              · have e2 : (bits .and .i64 m.access 2 == 0) = true := by simp [hp]
                have e2n : (bits .and .i64 m.access 2 != 0) = false := by simp [hp]
                have e3 : (bits .and .i64 na 8 != 0) = false := by rw [Hna.out, HA8.out hp]; rfl
                clear hp
                have hq := BR.out
                have q0 := hq.cell 0
                have q1 := hq.cell 1
                simp only [List.getElem?_toArray, List.getElem?_cons_succ, List.getElem?_cons_zero] at q0 q1
                have zq := hq.lt
                have zn : ¬ (w.heap.size = (x8).heap.size) := Nat.ne_of_lt zq
                clear hq
                have cBM0 := BM.out.cell 0
                have cBM1 := BM.out.cell 1
                have cBM2 := BM.out.cell 2
                have cBM3 := BM.out.cell 3
                have cBM4 := BM.out.cell 4
                simp only [List.getElem?_toArray, List.getElem?_cons_succ, List.getElem?_cons_zero] at cBM0 cBM1 cBM2 cBM3 cBM4
                have lBM := BM.out.lt
                have cBV0 := BV.out.cell 0
                have cBV1 := BV.out.cell 1
                simp only [List.getElem?_toArray, List.getElem?_cons_succ, List.getElem?_cons_zero] at cBV0 cBV1
                have lBV := BV.out.lt
                have cBU0 := BU.out.cell 0
                have cBU1 := BU.out.cell 1
                have cBU2 := BU.out.cell 2
                have cBU3 := BU.out.cell 3
                have cBU4 := BU.out.cell 4
                simp only [List.getElem?_toArray, List.getElem?_cons_succ, List.getElem?_cons_zero] at cBU0 cBU1 cBU2 cBU3 cBU4
                have lBU := BU.out.lt
                go_wp2_with fail
                all_goals go_meet
                all_goals exact KL.out
              · have e2 : (bits .and .i64 m.access 2 == 0) = false := by simp [hp]
                have e2n : (bits .and .i64 m.access 2 != 0) = true := by simp [hp]
                have hae := HAF.out hp
                have ha1 : a.1.toList = fc.toList := by rw [hae]
                have ha2 : (a.2 : Int) = (i : Int) := by rw [hae]
                clear hp hae
                have hq := BR.out
                have q0 := hq.cell 0
                have q1 := hq.cell 1
                simp only [List.getElem?_toArray, List.getElem?_cons_succ, List.getElem?_cons_zero] at q0 q1
                have zq := hq.lt
                have zn : ¬ (w.heap.size = (x8).heap.size) := Nat.ne_of_lt zq
                clear hq
                have cBM0 := BM.out.cell 0
                have cBM1 := BM.out.cell 1
                have cBM2 := BM.out.cell 2
                have cBM3 := BM.out.cell 3
                have cBM4 := BM.out.cell 4
                simp only [List.getElem?_toArray, List.getElem?_cons_succ, List.getElem?_cons_zero] at cBM0 cBM1 cBM2 cBM3 cBM4
                have lBM := BM.out.lt
                have cBV0 := BV.out.cell 0
                have cBV1 := BV.out.cell 1
                simp only [List.getElem?_toArray, List.getElem?_cons_succ, List.getElem?_cons_zero] at cBV0 cBV1
                have lBV := BV.out.lt
                have cBU0 := BU.out.cell 0
                have cBU1 := BU.out.cell 1
                have cBU2 := BU.out.cell 2
                have cBU3 := BU.out.cell 3
                have cBU4 := BU.out.cell 4
                simp only [List.getElem?_toArray, List.getElem?_cons_succ, List.getElem?_cons_zero] at cBU0 cBU1 cBU2 cBU3 cBU4
                have lBU := BU.out.lt
                go_wp2_with fail
                all_goals go_meet
                all_goals exact KL.out
            · have hea2 := hea
              unfold ErrC at hea2
              clear hea
              have hr := HRBV.out.trans hva
              unfold gz at hr
              simp only [Prod.mk.injEq] at hr
              obtain ⟨⟨rfl, rfl⟩, rfl⟩ := hr
              clear hva HRBV
              obtain rfl : bxBV = false := by rw [HXBV.out]; exact hea2
              have hq := BR.out
              have q0 := hq.cell 0
              have q1 := hq.cell 1
              simp only [List.getElem?_toArray, List.getElem?_cons_succ, List.getElem?_cons_zero] at q0 q1
              have zq := hq.lt
              have zn : ¬ (w.heap.size = (x6).heap.size) := Nat.ne_of_lt zq
              clear hq
              have cBM0 := BM.out.cell 0
              have cBM1 := BM.out.cell 1
              have cBM2 := BM.out.cell 2
              have cBM3 := BM.out.cell 3
              have cBM4 := BM.out.cell 4
              simp only [List.getElem?_toArray, List.getElem?_cons_succ, List.getElem?_cons_zero] at cBM0 cBM1 cBM2 cBM3 cBM4
              have lBM := BM.out.lt
              have cBV0 := BV.out.cell 0
              have cBV1 := BV.out.cell 1
              simp only [List.getElem?_toArray, List.getElem?_cons_succ, List.getElem?_cons_zero] at cBV0 cBV1
              have lBV := BV.out.lt
              go_wp2_with fail
              go_meet
              exact Below.refl _ _
          case rest =>
          rename _ => k
          rename World => x7
          have BMn := BM.out.kept k
          clear BM
          have BM := Lib.hid BMn
          clear BMn
          have BVn := BV.out.kept k
          clear BV
          have BV := Lib.hid BVn
          clear BVn
          have BRn := BR.out.kept k
          clear BR
          have BR := Lib.hid BRn
          clear BRn
          have KTn := Kept.trans KT.out k
          clear KT
          have KT := Lib.hid KTn
          clear KTn
          clear k
          have hq := BR.out
          have q0 := hq.cell 0
          have q1 := hq.cell 1
          simp only [List.getElem?_toArray, List.getElem?_cons_succ, List.getElem?_cons_zero] at q0 q1
          have zq := hq.lt
          have zn : ¬ (w.heap.size = (x7).heap.size) := Nat.ne_of_lt zq
          clear hq
          have cBM0 := BM.out.cell 0
          have cBM1 := BM.out.cell 1
          have cBM2 := BM.out.cell 2
          have cBM3 := BM.out.cell 3
          have cBM4 := BM.out.cell 4
          simp only [List.getElem?_toArray, List.getElem?_cons_succ, List.getElem?_cons_zero] at cBM0 cBM1 cBM2 cBM3 cBM4
          have lBM := BM.out.lt
          have cBV0 := BV.out.cell 0
          have cBV1 := BV.out.cell 1
          simp only [List.getElem?_toArray, List.getElem?_cons_succ, List.getElem?_cons_zero] at cBV0 cBV1
          have lBV := BV.out.lt
          go_wp2_with fail
          refine (ch_Face D cls fc i _ _ (HT.out.kept KT.out) HCS.out).mono ?_
          rintro e x8 ⟨rfl, k⟩
          clear q0 q1 zq zn cBM0 cBM1 cBM2 cBM3 cBM4 lBM cBV0 cBV1 lBV
          have BMn := BM.out.kept k
          clear BM
          have BM := Lib.hid BMn
          clear BMn
          have BVn := BV.out.kept k
          clear BV
          have BV := Lib.hid BVn
          clear BVn
          have BRn := BR.out.kept k
          clear BR
          have BR := Lib.hid BRn
          clear BRn
          have KTn := Kept.trans KT.out k
          clear KT
          have KT := Lib.hid KTn
          clear KTn
          clear k
          obtain ⟨rBI, hrBI⟩ : ∃ r, r = ifaceR D cls fc i := ⟨_, rfl⟩
          rw [← hrBI]
          obtain ⟨⟨rcBI, riBI⟩, reBI⟩ := rBI
          have HRBI := Lib.hid hrBI
          clear hrBI
          unfold resG
          have k : Kept x8 (x8.alloc (.cells #[.string rcBI, .int .i64 riBI] 24)) := (Below.refl _ _).alloc (Nat.le_refl _) _
          have BIb := Blk.new x8 24 #[.string rcBI, .int .i64 riBI]
          obtain ⟨gBI, hgBI⟩ : ∃ x, x = x8.heap.size := ⟨_, rfl⟩
          rw [← hgBI] at BIb
          have BI := Lib.hid BIb
          clear BIb
          have hq := BR.out
          have q0 := hq.cell 0
          have q1 := hq.cell 1
          simp only [List.getElem?_toArray, List.getElem?_cons_succ, List.getElem?_cons_zero] at q0 q1
          have zq := hq.lt
          have zn : ¬ (w.heap.size = (x8).heap.size) := Nat.ne_of_lt zq
          clear hq
          go_upto_region 16 with fail
          rw [← hgBI]
          clear hgBI
          generalize (x8.alloc (.cells #[.string rcBI, .int .i64 riBI] 24)) = x9 at *
          clear q0 q1 zq zn
          have BMn := BM.out.kept k
          clear BM
          have BM := Lib.hid BMn
          clear BMn
          have BVn := BV.out.kept k
          clear BV
          have BV := Lib.hid BVn
          clear BVn
          have BRn := BR.out.kept k
          clear BR
          have BR := Lib.hid BRn
          clear BRn
          have KTn := Kept.trans KT.out k
          clear KT
          have KT := Lib.hid KTn
          clear KTn
          clear k
          go_cut [130] from 129 to 130 (fun st wx => st = .bool reBI.toList.isEmpty ∧ x9 = wx)
          case first =>
            go_wp2_with fail
            go_meet
            exact ⟨rfl, rfl⟩
          case rest =>
          obtain ⟨rfl, rfl⟩ := hcut
          obtain ⟨bxBI, hbxBI⟩ : ∃ b, b = reBI.toList.isEmpty := ⟨_, rfl⟩
          rw [← hbxBI]
          have HXBI := Lib.hid hbxBI
          clear hbxBI
          go_upto_if 130 with fail
          go_cut [17, 18] from 122 to 162 (fun _ _ wx => Kept x9 wx)
          case first =>
            have KL := Lib.hid (Below.refl (x9).heap.size (x9))
            rcases iface_cases (cls := cls) HMI.out with ⟨z, hb, hvb, hb8⟩ | ⟨eb, hb, heb⟩
            · have HVz := Lib.hid hvb
              have HB8 := Lib.hid hb8
              clear hvb hb8
              have hr := HRBI.out.trans hb
              unfold gv at hr
              simp only [Prod.mk.injEq] at hr
              obtain ⟨⟨rfl, rfl⟩, rfl⟩ := hr
              clear hb HRBI
              obtain rfl : bxBI = true := by rw [HXBI.out]; first | rfl | simp
              have hq := BR.out
              have q0 := hq.cell 0
              have q1 := hq.cell 1
              simp only [List.getElem?_toArray, List.getElem?_cons_succ, List.getElem?_cons_zero] at q0 q1
              have zq := hq.lt
              have zn : ¬ (w.heap.size = (x9).heap.size) := Nat.ne_of_lt zq
              clear hq
              have cBM0 := BM.out.cell 0
              have cBM1 := BM.out.cell 1
              have cBM2 := BM.out.cell 2
              have cBM3 := BM.out.cell 3
              have cBM4 := BM.out.cell 4
              simp only [List.getElem?_toArray, List.getElem?_cons_succ, List.getElem?_cons_zero] at cBM0 cBM1 cBM2 cBM3 cBM4
              have lBM := BM.out.lt
              have cBV0 := BV.out.cell 0
              have cBV1 := BV.out.cell 1
              simp only [List.getElem?_toArray, List.getElem?_cons_succ, List.getElem?_cons_zero] at cBV0 cBV1
              have lBV := BV.out.lt
              have cBI0 := BI.out.cell 0
              have cBI1 := BI.out.cell 1
              simp only [List.getElem?_toArray, List.getElem?_cons_succ, List.getElem?_cons_zero] at cBI0 cBI1
              have lBI := BI.out.lt
              go_upto_region 17 with fail
              clear q0 q1 zq zn cBM0 cBM1 cBM2 cBM3 cBM4 lBM cBV0 cBV1 lBV cBI0 cBI1 lBI
              have hq := BR.out
              have q0 := hq.cell 0
              have q1 := hq.cell 1
              simp only [List.getElem?_toArray, List.getElem?_cons_succ, List.getElem?_cons_zero] at q0 q1
              have zq := hq.lt
              have zn : ¬ (w.heap.size = (x9).heap.size) := Nat.ne_of_lt zq
              clear hq
              have cBM0 := BM.out.cell 0
              have cBM1 := BM.out.cell 1
              have cBM2 := BM.out.cell 2
              have cBM3 := BM.out.cell 3
              have cBM4 := BM.out.cell 4
              simp only [List.getElem?_toArray, List.getElem?_cons_succ, List.getElem?_cons_zero] at cBM0 cBM1 cBM2 cBM3 cBM4
              have lBM := BM.out.lt
              have cBV0 := BV.out.cell 0
              have cBV1 := BV.out.cell 1
              simp only [List.getElem?_toArray, List.getElem?_cons_succ, List.getElem?_cons_zero] at cBV0 cBV1
              have lBV := BV.out.lt
              have cBI0 := BI.out.cell 0
              have cBI1 := BI.out.cell 1
              simp only [List.getElem?_toArray, List.getElem?_cons_succ, List.getElem?_cons_zero] at cBI0 cBI1
              have lBI := BI.out.lt
              go_wp2_with fail
              refine (ref12_Flags D z _ _ (HT.out.kept KT.out) HVz.out.fnd).mono ?_
              rintro e x10 ⟨rfl, k⟩
              clear q0 q1 zq zn cBM0 cBM1 cBM2 cBM3 cBM4 lBM cBV0 cBV1 lBV cBI0 cBI1 lBI
              obtain ⟨nb, hnb⟩ : ∃ x, x = accM D z := ⟨_, rfl⟩
              rw [← hnb]
              have Hnb := Lib.hid hnb
              clear hnb
              have BMn := BM.out.kept k
              clear BM
              have BM := Lib.hid BMn
              clear BMn
              have BVn := BV.out.kept k
              clear BV
              have BV := Lib.hid BVn
              clear BVn
              have BIn := BI.out.kept k
              clear BI
              have BI := Lib.hid BIn
              clear BIn
              have BRn := BR.out.kept k
              clear BR
              have BR := Lib.hid BRn
              clear BRn
              have KTn := Kept.trans KT.out k
              clear KT
              have KT := Lib.hid KTn
              clear KTn
              have KLn := Kept.trans KL.out k
              clear KL
              have KL := Lib.hid KLn
              clear KLn
              clear k
              have hq := BR.out
              have q0 := hq.cell 0
              have q1 := hq.cell 1
              simp only [List.getElem?_toArray, List.getElem?_cons_succ, List.getElem?_cons_zero] at q0 q1
              have zq := hq.lt
              have zn : ¬ (w.heap.size = (x10).heap.size) := Nat.ne_of_lt zq
              clear hq
              have cBM0 := BM.out.cell 0
              have cBM1 := BM.out.cell 1
              have cBM2 := BM.out.cell 2
              have cBM3 := BM.out.cell 3
              have cBM4 := BM.out.cell 4
              simp only [List.getElem?_toArray, List.getElem?_cons_succ, List.getElem?_cons_zero] at cBM0 cBM1 cBM2 cBM3 cBM4
              have lBM := BM.out.lt
              have cBV0 := BV.out.cell 0
              have cBV1 := BV.out.cell 1
              simp only [List.getElem?_toArray, List.getElem?_cons_succ, List.getElem?_cons_zero] at cBV0 cBV1
              have lBV := BV.out.lt
              have cBI0 := BI.out.cell 0
              have cBI1 := BI.out.cell 1
              simp only [List.getElem?_toArray, List.getElem?_cons_succ, List.getElem?_cons_zero] at cBI0 cBI1
              have lBI := BI.out.lt
              obtain ⟨mq, hmq, hmqn, hmqd⟩ := HVz.out.nm
              have hthz := HVz.out.fnd.1
              unfold there at hthz
              obtain ⟨kz, hkz⟩ := Option.isSome_iff_exists.1 hthz
              obtain ⟨tz, htz, -, hklz⟩ := atO_some hkz
              rw [metL_at hkz htz] at hmq
              have caz : ∀ w', TyR w' _ D → Calls Try.prog 7 #[.slice (some ⟨tb, tof, none⟩) D.length tc, .string z.1] w' (fun e w'' => e = .returned (.int .i64 kz) ∧ w' = w'') := fun w' h => atI_some hkz ▸ ref9_At D z.1 _ w' h
              have CAz := Lib.hid caz
              obtain ⟨tb', tof', tc', ia', ic', fa', fc', ma', mc', hv', -, -, -, -, -, x5, -, -, -, -, hmr', -⟩ := ty_row (HT.out.kept KT.out) htz
              simp only [Value.slice.injEq, Option.some.injEq, Addr.mk.injEq] at hv'
              obtain ⟨⟨rfl, rfl, -⟩, -, rfl⟩ := hv'
              obtain ⟨mb', mo', rfl, y0, y1, y2, y3, y4, yb, j1, j0⟩ := mem_all hmr' hmq
              rw [hmqn] at y1
              rw [hmqd] at y2
              have i1 : (kz : Int) < (D.length : Int) := by omega
              have i0 : (0 : Int) ≤ (kz : Int) := by omega
              have nb1 : ¬ (mb' = (x10).heap.size) := Nat.ne_of_lt yb
              clear hmq hmqn hmqd hthz hkz htz hklz caz hmr'
              go_upto_region 18 with fail
              go_cut [18] from 134 to 145 (fun st wx => st = .pointer (some ⟨x10.heap.size, 0, none⟩) ∧ Kept x10 wx ∧ Blk wx x10.heap.size 33 #[.int .i64 mq.access, .string m.name, .string m.desc, .bool mq.has, .int .i64 mq.value])
              case first =>
                have nn1 := World.new_ne _ _ x5
                have nn2 := World.new_ne _ _ y0
                have nn3 := World.new_ne _ _ y1
                have nn4 := World.new_ne _ _ y2
                have nn5 := World.new_ne _ _ y3
                have nn6 := World.new_ne _ _ y4
                have nn7 := World.new_ne _ _ cBI0
                have nn8 := World.new_ne _ _ cBI1
                go_region_held2 (fun w' => w'.cell? ⟨gBI, 0, none⟩ = some (.string z.1) ∧ w'.cell? ⟨gBI, 1, none⟩ = some (.int .i64 z.2) ∧ w'.cell? ⟨tb, tof + kz * 6 + 5, none⟩ = some (.slice (some ⟨mb', mo', none⟩) tz.methods.length mc') ∧ w'.cell? ⟨mb', mo' + z.2 * 5, none⟩ = some (.int .i64 mq.access) ∧ w'.cell? ⟨mb', mo' + z.2 * 5 + 1, none⟩ = some (.string m.name) ∧ w'.cell? ⟨mb', mo' + z.2 * 5 + 2, none⟩ = some (.string m.desc) ∧ w'.cell? ⟨mb', mo' + z.2 * 5 + 3, none⟩ = some (.bool mq.has) ∧ w'.cell? ⟨mb', mo' + z.2 * 5 + 4, none⟩ = some (.int .i64 mq.value)) (go_keep)
                  ((go_at_call 7; refine (CAz.out _ (HT.out.kept (Kept.trans KT.out (by first | exact (Below.refl _ _).drew | exact ((Below.refl _ _).alloc (Nat.le_refl _) _).drew)))).mono ?_; rintro e w7 ⟨rfl, rfl⟩))
                all_goals go_wp2_with fail
                all_goals go_meet
                all_goals exact ⟨rfl, ((Below.refl _ _).alloc (Nat.le_refl _) _).drew, Blk.new _ _ _⟩
              case rest =>
              obtain ⟨rfl, k, bBT⟩ := hcut
              rename World => x11
              obtain ⟨gBT, hgBT⟩ : ∃ x, x = (x10).heap.size := ⟨_, rfl⟩
              rw [← hgBT] at bBT ⊢
              clear hgBT
              have BT := Lib.hid bBT
              clear bBT
              clear q0 q1 zq zn cBM0 cBM1 cBM2 cBM3 cBM4 lBM cBV0 cBV1 lBV cBI0 cBI1 lBI
              clear x5 y0 y1 y2 y3 y4 yb nb1
              have BMn := BM.out.kept k
              clear BM
              have BM := Lib.hid BMn
              clear BMn
              have BVn := BV.out.kept k
              clear BV
              have BV := Lib.hid BVn
              clear BVn
              have BIn := BI.out.kept k
              clear BI
              have BI := Lib.hid BIn
              clear BIn
              have BRn := BR.out.kept k
              clear BR
              have BR := Lib.hid BRn
              clear BRn
              have KTn := Kept.trans KT.out k
              clear KT
              have KT := Lib.hid KTn
              clear KTn
              have KLn := Kept.trans KL.out k
              clear KL
              have KL := Lib.hid KLn
              clear KLn
              clear k
              have e1 : (bits .and .i64 nb 1032 != 0) = false := by rw [Hnb.out, HB8.out]; rfl
              have hq := BR.out
              have q0 := hq.cell 0
              have q1 := hq.cell 1
              simp only [List.getElem?_toArray, List.getElem?_cons_succ, List.getElem?_cons_zero] at q0 q1
              have zq := hq.lt
              have zn : ¬ (w.heap.size = (x11).heap.size) := Nat.ne_of_lt zq
              clear hq
              have cBM0 := BM.out.cell 0
              have cBM1 := BM.out.cell 1
              have cBM2 := BM.out.cell 2
              have cBM3 := BM.out.cell 3
              have cBM4 := BM.out.cell 4
              simp only [List.getElem?_toArray, List.getElem?_cons_succ, List.getElem?_cons_zero] at cBM0 cBM1 cBM2 cBM3 cBM4
              have lBM := BM.out.lt
              have cBV0 := BV.out.cell 0
              have cBV1 := BV.out.cell 1
              simp only [List.getElem?_toArray, List.getElem?_cons_succ, List.getElem?_cons_zero] at cBV0 cBV1
              have lBV := BV.out.lt
              have cBI0 := BI.out.cell 0
              have cBI1 := BI.out.cell 1
              simp only [List.getElem?_toArray, List.getElem?_cons_succ, List.getElem?_cons_zero] at cBI0 cBI1
              have lBI := BI.out.lt
              have cBT0 := BT.out.cell 0
              have cBT1 := BT.out.cell 1
              have cBT2 := BT.out.cell 2
              have cBT3 := BT.out.cell 3
              have cBT4 := BT.out.cell 4
              simp only [List.getElem?_toArray, List.getElem?_cons_succ, List.getElem?_cons_zero] at cBT0 cBT1 cBT2 cBT3 cBT4
              have lBT := BT.out.lt
              go_wp2_with fail
              all_goals go_meet
              all_goals exact KL.out
            · have heb2 := heb
              unfold ErrC at heb2
              clear heb
              have hr := HRBI.out.trans hb
              unfold gz at hr
              simp only [Prod.mk.injEq] at hr
              obtain ⟨⟨rfl, rfl⟩, rfl⟩ := hr
              clear hb HRBI
              obtain rfl : bxBI = false := by rw [HXBI.out]; exact heb2
              have hq := BR.out
              have q0 := hq.cell 0
              have q1 := hq.cell 1
              simp only [List.getElem?_toArray, List.getElem?_cons_succ, List.getElem?_cons_zero] at q0 q1
              have zq := hq.lt
              have zn : ¬ (w.heap.size = (x9).heap.size) := Nat.ne_of_lt zq
              clear hq
              have cBM0 := BM.out.cell 0
              have cBM1 := BM.out.cell 1
              have cBM2 := BM.out.cell 2
              have cBM3 := BM.out.cell 3
              have cBM4 := BM.out.cell 4
              simp only [List.getElem?_toArray, List.getElem?_cons_succ, List.getElem?_cons_zero] at cBM0 cBM1 cBM2 cBM3 cBM4
              have lBM := BM.out.lt
              have cBV0 := BV.out.cell 0
              have cBV1 := BV.out.cell 1
              simp only [List.getElem?_toArray, List.getElem?_cons_succ, List.getElem?_cons_zero] at cBV0 cBV1
              have lBV := BV.out.lt
              have cBI0 := BI.out.cell 0
              have cBI1 := BI.out.cell 1
              simp only [List.getElem?_toArray, List.getElem?_cons_succ, List.getElem?_cons_zero] at cBI0 cBI1
              have lBI := BI.out.lt
              go_wp2_with fail
              go_meet
              exact Below.refl _ _
          case rest =>
          rename _ => k
          rename World => x10
          have BMn := BM.out.kept k
          clear BM
          have BM := Lib.hid BMn
          clear BMn
          have BVn := BV.out.kept k
          clear BV
          have BV := Lib.hid BVn
          clear BVn
          have BIn := BI.out.kept k
          clear BI
          have BI := Lib.hid BIn
          clear BIn
          have BRn := BR.out.kept k
          clear BR
          have BR := Lib.hid BRn
          clear BRn
          have KTn := Kept.trans KT.out k
          clear KT
          have KT := Lib.hid KTn
          clear KTn
          clear k
          rcases virt_cases (cls := cls) HMI.out HFN.out with ⟨a, hva, -, -, -⟩ | ⟨ea, hva, hea⟩
          · skip
            have hr := HRBV.out.trans hva
            unfold gv at hr
            simp only [Prod.mk.injEq] at hr
            obtain ⟨⟨rfl, rfl⟩, rfl⟩ := hr
            clear hva HRBV
            obtain rfl : bxBV = true := by rw [HXBV.out]; first | rfl | simp
            rcases iface_cases (cls := cls) HMI.out with ⟨z, hb, -, -⟩ | ⟨eb, hb, heb⟩
            · skip
              have hr := HRBI.out.trans hb
              unfold gv at hr
              simp only [Prod.mk.injEq] at hr
              obtain ⟨⟨rfl, rfl⟩, rfl⟩ := hr
              clear hb HRBI
              obtain rfl : bxBI = true := by rw [HXBI.out]; first | rfl | simp
              have hq := BR.out
              have q0 := hq.cell 0
              have q1 := hq.cell 1
              simp only [List.getElem?_toArray, List.getElem?_cons_succ, List.getElem?_cons_zero] at q0 q1
              have zq := hq.lt
              have zn : ¬ (w.heap.size = (x10).heap.size) := Nat.ne_of_lt zq
              clear hq
              have cBM0 := BM.out.cell 0
              have cBM1 := BM.out.cell 1
              have cBM2 := BM.out.cell 2
              have cBM3 := BM.out.cell 3
              have cBM4 := BM.out.cell 4
              simp only [List.getElem?_toArray, List.getElem?_cons_succ, List.getElem?_cons_zero] at cBM0 cBM1 cBM2 cBM3 cBM4
              have lBM := BM.out.lt
              have cBV0 := BV.out.cell 0
              have cBV1 := BV.out.cell 1
              simp only [List.getElem?_toArray, List.getElem?_cons_succ, List.getElem?_cons_zero] at cBV0 cBV1
              have lBV := BV.out.lt
              have cBI0 := BI.out.cell 0
              have cBI1 := BI.out.cell 1
              simp only [List.getElem?_toArray, List.getElem?_cons_succ, List.getElem?_cons_zero] at cBI0 cBI1
              have lBI := BI.out.lt
              go_wp2_with fail
              all_goals go_ret
              all_goals exact ⟨rfl, Kept.trans K2.out KT.out⟩
            · skip
              have heb2 := heb
              unfold ErrC at heb2
              clear heb
              have hr := HRBI.out.trans hb
              unfold gz at hr
              simp only [Prod.mk.injEq] at hr
              obtain ⟨⟨rfl, rfl⟩, rfl⟩ := hr
              clear hb HRBI
              obtain rfl : bxBI = false := by rw [HXBI.out]; exact heb2
              have hq := BR.out
              have q0 := hq.cell 0
              have q1 := hq.cell 1
              simp only [List.getElem?_toArray, List.getElem?_cons_succ, List.getElem?_cons_zero] at q0 q1
              have zq := hq.lt
              have zn : ¬ (w.heap.size = (x10).heap.size) := Nat.ne_of_lt zq
              clear hq
              have cBM0 := BM.out.cell 0
              have cBM1 := BM.out.cell 1
              have cBM2 := BM.out.cell 2
              have cBM3 := BM.out.cell 3
              have cBM4 := BM.out.cell 4
              simp only [List.getElem?_toArray, List.getElem?_cons_succ, List.getElem?_cons_zero] at cBM0 cBM1 cBM2 cBM3 cBM4
              have lBM := BM.out.lt
              have cBV0 := BV.out.cell 0
              have cBV1 := BV.out.cell 1
              simp only [List.getElem?_toArray, List.getElem?_cons_succ, List.getElem?_cons_zero] at cBV0 cBV1
              have lBV := BV.out.lt
              have cBI0 := BI.out.cell 0
              have cBI1 := BI.out.cell 1
              simp only [List.getElem?_toArray, List.getElem?_cons_succ, List.getElem?_cons_zero] at cBI0 cBI1
              have lBI := BI.out.lt
              go_wp2_with fail
              all_goals go_ret
              all_goals exact ⟨rfl, Kept.trans K2.out KT.out⟩
          · skip
            have hea2 := hea
            unfold ErrC at hea2
            clear hea
            have hr := HRBV.out.trans hva
            unfold gz at hr
            simp only [Prod.mk.injEq] at hr
            obtain ⟨⟨rfl, rfl⟩, rfl⟩ := hr
            clear hva HRBV
            obtain rfl : bxBV = false := by rw [HXBV.out]; exact hea2
            rcases iface_cases (cls := cls) HMI.out with ⟨z, hb, -, -⟩ | ⟨eb, hb, heb⟩
            · skip
              have hr := HRBI.out.trans hb
              unfold gv at hr
              simp only [Prod.mk.injEq] at hr
              obtain ⟨⟨rfl, rfl⟩, rfl⟩ := hr
              clear hb HRBI
              obtain rfl : bxBI = true := by rw [HXBI.out]; first | rfl | simp
              have hq := BR.out
              have q0 := hq.cell 0
              have q1 := hq.cell 1
              simp only [List.getElem?_toArray, List.getElem?_cons_succ, List.getElem?_cons_zero] at q0 q1
              have zq := hq.lt
              have zn : ¬ (w.heap.size = (x10).heap.size) := Nat.ne_of_lt zq
              clear hq
              have cBM0 := BM.out.cell 0
              have cBM1 := BM.out.cell 1
              have cBM2 := BM.out.cell 2
              have cBM3 := BM.out.cell 3
              have cBM4 := BM.out.cell 4
              simp only [List.getElem?_toArray, List.getElem?_cons_succ, List.getElem?_cons_zero] at cBM0 cBM1 cBM2 cBM3 cBM4
              have lBM := BM.out.lt
              have cBV0 := BV.out.cell 0
              have cBV1 := BV.out.cell 1
              simp only [List.getElem?_toArray, List.getElem?_cons_succ, List.getElem?_cons_zero] at cBV0 cBV1
              have lBV := BV.out.lt
              have cBI0 := BI.out.cell 0
              have cBI1 := BI.out.cell 1
              simp only [List.getElem?_toArray, List.getElem?_cons_succ, List.getElem?_cons_zero] at cBI0 cBI1
              have lBI := BI.out.lt
              go_wp2_with fail
              all_goals go_ret
              all_goals exact ⟨rfl, Kept.trans K2.out KT.out⟩
            · skip
              have heb2 := heb
              unfold ErrC at heb2
              clear heb
              have hr := HRBI.out.trans hb
              unfold gz at hr
              simp only [Prod.mk.injEq] at hr
              obtain ⟨⟨rfl, rfl⟩, rfl⟩ := hr
              clear hb HRBI
              obtain rfl : bxBI = false := by rw [HXBI.out]; exact heb2
              have hq := BR.out
              have q0 := hq.cell 0
              have q1 := hq.cell 1
              simp only [List.getElem?_toArray, List.getElem?_cons_succ, List.getElem?_cons_zero] at q0 q1
              have zq := hq.lt
              have zn : ¬ (w.heap.size = (x10).heap.size) := Nat.ne_of_lt zq
              clear hq
              have cBM0 := BM.out.cell 0
              have cBM1 := BM.out.cell 1
              have cBM2 := BM.out.cell 2
              have cBM3 := BM.out.cell 3
              have cBM4 := BM.out.cell 4
              simp only [List.getElem?_toArray, List.getElem?_cons_succ, List.getElem?_cons_zero] at cBM0 cBM1 cBM2 cBM3 cBM4
              have lBM := BM.out.lt
              have cBV0 := BV.out.cell 0
              have cBV1 := BV.out.cell 1
              simp only [List.getElem?_toArray, List.getElem?_cons_succ, List.getElem?_cons_zero] at cBV0 cBV1
              have lBV := BV.out.lt
              have cBI0 := BI.out.cell 0
              have cBI1 := BI.out.cell 1
              simp only [List.getElem?_toArray, List.getElem?_cons_succ, List.getElem?_cons_zero] at cBI0 cBI1
              have lBI := BI.out.lt
              go_wp2_with fail
              all_goals go_ret
              all_goals exact ⟨rfl, Kept.trans K2.out KT.out⟩
        · have g2 : decide (t.methods.length ≤ i) = true := by simp; omega
          have g3 : t.methods.length ≤ i := by omega
          go_wp2_with fail
          refine wp_region_held_drew (S := (fun w' => w'.cell? ⟨w.heap.size, 1, none⟩ = some (.int .i64 i) ∧ w'.cell? ⟨tb, tof + kf * 6 + 5, none⟩ = some (.slice ma t.methods.length mc))) (by kernel_rfl) (by first | assumption | ((try dsimp only); simp [*]; done)) (fun hHeld => ?_)
          refine wpAnyH_take (i := 0) (oi := { dst := some 32, op := Op.move (Operand.tmp 9), type := 3, pos := "law.go:62", after := #[], guard := none }) (v := ?vd0) rfl (by kernel_rfl) (by kernel_rfl) (by kernel_rfl) (fun _ _ _ h => h) (Or.inl ⟨by rfl, ?yd0⟩) (by assumption) ?rd0
          case yd0 => (intro w hSw; (try dsimp only at hSw); go_simp <;> with_reducible rfl)
          (try simp only [Act.put, List.setIfInBounds_toArray, List.set_cons_zero, List.set_cons_succ])
          refine wpAnyH_take (i := 1) (oi := { dst := some 33, op := Op.binOp BinOp.lss 3 (Operand.tmp 32) (Operand.const (Value.int IntKind.i64 0)) 3, type := 4, pos := "law.go:62", after := #[{ on := 0, ground := Ground.data }], guard := none }) (v := ?vd1) rfl (by kernel_rfl) (by kernel_rfl) (by kernel_rfl) (fun _ _ _ h => h) (Or.inl ⟨by rfl, ?yd1⟩) (by assumption) ?rd1
          case yd1 => (intro w hSw; (try dsimp only at hSw); go_simp <;> with_reducible rfl)
          (try simp only [Act.put, List.setIfInBounds_toArray, List.set_cons_zero, List.set_cons_succ])
          refine wpAnyH_take (i := 2) (oi := { dst := some 34, op := Op.move (Operand.tmp 33), type := 4, pos := "law.go:62", after := #[{ on := 1, ground := Ground.data }], guard := none }) (v := ?vd2) rfl (by kernel_rfl) (by kernel_rfl) (by kernel_rfl) (fun _ _ _ h => h) (Or.inl ⟨by rfl, ?yd2⟩) (by assumption) ?rd2
          case yd2 => (intro w hSw; (try dsimp only at hSw); go_simp <;> with_reducible rfl)
          (try simp only [Act.put, List.setIfInBounds_toArray, List.set_cons_zero, List.set_cons_succ])
          refine wpAnyH_take (i := 3) (oi := { dst := some 35, op := Op.fieldAddr 24 (Operand.tmp 5) 1, type := 0, pos := "law.go:62", after := #[{ on := 2, ground := Ground.guard }], guard := some (2, false) }) (v := ?vd3) rfl (by kernel_rfl) (by kernel_rfl) (by kernel_rfl) (fun _ _ _ h => h) (Or.inl ⟨by rfl, ?yd3⟩) (by assumption) ?rd3
          case yd3 => (intro w hSw; (try dsimp only at hSw); go_simp <;> with_reducible rfl)
          (try simp only [Act.put, List.setIfInBounds_toArray, List.set_cons_zero, List.set_cons_succ])
          refine wpAnyH_take (i := 4) (oi := { dst := some 36, op := Op.load 3 (Operand.tmp 35), type := 3, pos := "law.go:62", after := #[{ on := 3, ground := Ground.data }, { on := 2, ground := Ground.guard }], guard := some (2, false) }) (v := ?vd4) rfl (by kernel_rfl) (by kernel_rfl) (by kernel_rfl) (fun _ _ _ h => h) (Or.inl ⟨by rfl, ?yd4⟩) (by assumption) ?rd4
          case yd4 => (intro w hSw; (try dsimp only at hSw); go_simp <;> with_reducible rfl)
          (try simp only [Act.put, List.setIfInBounds_toArray, List.set_cons_zero, List.set_cons_succ])
          refine wpAnyH_take (i := 5) (oi := { dst := some 37, op := Op.binOp BinOp.lss 3 (Operand.tmp 36) (Operand.const (Value.int IntKind.i64 0)) 3, type := 4, pos := "law.go:62", after := #[{ on := 4, ground := Ground.data }, { on := 2, ground := Ground.guard }], guard := some (2, false) }) (v := ?vd5) rfl (by kernel_rfl) (by kernel_rfl) (by kernel_rfl) (fun _ _ _ h => h) (Or.inl ⟨by rfl, ?yd5⟩) (by assumption) ?rd5
          case yd5 => (intro w hSw; (try dsimp only at hSw); go_simp <;> with_reducible rfl)
          (try simp only [Act.put, List.setIfInBounds_toArray, List.set_cons_zero, List.set_cons_succ])
          refine wpAnyH_take (i := 6) (oi := { dst := some 38, op := Op.pick (Operand.tmp 34) (Operand.const (Value.bool true)) (Operand.tmp 37), type := 4, pos := "law.go:62", after := #[{ on := 2, ground := Ground.data }, { on := 5, ground := Ground.data }], guard := none }) (v := ?vd6) rfl (by kernel_rfl) (by kernel_rfl) (by kernel_rfl) (fun _ _ _ h => h) (Or.inl ⟨by rfl, ?yd6⟩) (by assumption) ?rd6
          case yd6 => (intro w hSw; (try dsimp only at hSw); go_simp <;> with_reducible rfl)
          (try simp only [Act.put, List.setIfInBounds_toArray, List.set_cons_zero, List.set_cons_succ])
          refine wpAnyH_take (i := 7) (oi := { dst := some 39, op := Op.move (Operand.tmp 38), type := 4, pos := "law.go:62", after := #[{ on := 6, ground := Ground.data }, { on := 2, ground := Ground.chain }], guard := none }) (v := ?vd7) rfl (by kernel_rfl) (by kernel_rfl) (by kernel_rfl) (fun _ _ _ h => h) (Or.inl ⟨by rfl, ?yd7⟩) (by assumption) ?rd7
          case yd7 => (intro w hSw; (try dsimp only at hSw); go_simp <;> with_reducible rfl)
          (try simp only [Act.put, List.setIfInBounds_toArray, List.set_cons_zero, List.set_cons_succ])
          refine wpAnyH_take (i := 8) (oi := { dst := some 40, op := Op.fieldAddr 24 (Operand.tmp 5) 1, type := 0, pos := "law.go:62", after := #[{ on := 7, ground := Ground.guard }], guard := some (7, false) }) (v := ?vd8) rfl (by kernel_rfl) (by kernel_rfl) (by kernel_rfl) (fun _ _ _ h => h) (Or.inl ⟨by rfl, ?yd8⟩) (by assumption) ?rd8
          case yd8 => (intro w hSw; (try dsimp only at hSw); go_simp <;> with_reducible rfl)
          (try simp only [Act.put, List.setIfInBounds_toArray, List.set_cons_zero, List.set_cons_succ])
          refine wpAnyH_take (i := 9) (oi := { dst := some 41, op := Op.load 3 (Operand.tmp 40), type := 3, pos := "law.go:62", after := #[{ on := 8, ground := Ground.data }, { on := 7, ground := Ground.guard }], guard := some (7, false) }) (v := ?vd9) rfl (by kernel_rfl) (by kernel_rfl) (by kernel_rfl) (fun _ _ _ h => h) (Or.inl ⟨by rfl, ?yd9⟩) (by assumption) ?rd9
          case yd9 => (intro w hSw; (try dsimp only at hSw); go_simp <;> with_reducible rfl)
          (try simp only [Act.put, List.setIfInBounds_toArray, List.set_cons_zero, List.set_cons_succ])
          refine wpAnyH_take (i := 10) (oi := { dst := some 42, op := Op.move (Operand.tmp 0), type := 22, pos := "law.go:62", after := #[{ on := 7, ground := Ground.guard }], guard := some (7, false) }) (v := ?vd10) rfl (by kernel_rfl) (by kernel_rfl) (by kernel_rfl) (fun _ _ _ h => h) (Or.inl ⟨by rfl, ?yd10⟩) (by assumption) ?rd10
          case yd10 => (intro w hSw; (try dsimp only at hSw); go_simp <;> with_reducible rfl)
          (try simp only [Act.put, List.setIfInBounds_toArray, List.set_cons_zero, List.set_cons_succ])
          refine wpAnyH_take (i := 11) (oi := { dst := some 43, op := Op.move (Operand.tmp 9), type := 3, pos := "law.go:62", after := #[{ on := 7, ground := Ground.guard }], guard := some (7, false) }) (v := ?vd11) rfl (by kernel_rfl) (by kernel_rfl) (by kernel_rfl) (fun _ _ _ h => h) (Or.inl ⟨by rfl, ?yd11⟩) (by assumption) ?rd11
          case yd11 => (intro w hSw; (try dsimp only at hSw); go_simp <;> with_reducible rfl)
          (try simp only [Act.put, List.setIfInBounds_toArray, List.set_cons_zero, List.set_cons_succ])
          refine wpAnyH_take (i := 12) (oi := { dst := some 44, op := Op.indexAddr 22 (Operand.tmp 42) (Operand.tmp 43), type := 0, pos := "law.go:62", after := #[{ on := 10, ground := Ground.data }, { on := 11, ground := Ground.data }, { on := 7, ground := Ground.guard }], guard := some (7, false) }) (v := ?vd12) rfl (by kernel_rfl) (by kernel_rfl) (by kernel_rfl) (fun _ _ _ h => h) (Or.inl ⟨by rfl, ?yd12⟩) (by assumption) ?rd12
          case yd12 => (intro w hSw; (try dsimp only at hSw); go_simp <;> with_reducible rfl)
          (try simp only [Act.put, List.setIfInBounds_toArray, List.set_cons_zero, List.set_cons_succ])
          refine wpAnyH_take (i := 13) (oi := { dst := some 45, op := Op.fieldAddr 31 (Operand.tmp 44) 5, type := 0, pos := "law.go:62", after := #[{ on := 12, ground := Ground.data }, { on := 7, ground := Ground.guard }], guard := some (7, false) }) (v := ?vd13) rfl (by kernel_rfl) (by kernel_rfl) (by kernel_rfl) (fun _ _ _ h => h) (Or.inl ⟨by rfl, ?yd13⟩) (by assumption) ?rd13
          case yd13 => (intro w hSw; (try dsimp only at hSw); go_simp <;> with_reducible rfl)
          (try simp only [Act.put, List.setIfInBounds_toArray, List.set_cons_zero, List.set_cons_succ])
          refine wpAnyH_take (i := 14) (oi := { dst := some 46, op := Op.load 29 (Operand.tmp 45), type := 29, pos := "law.go:62", after := #[{ on := 13, ground := Ground.data }, { on := 7, ground := Ground.guard }], guard := some (7, false) }) (v := ?vd14) rfl (by kernel_rfl) (by kernel_rfl) (by kernel_rfl) (fun _ _ _ h => h) (Or.inl ⟨by rfl, ?yd14⟩) (by assumption) ?rd14
          case yd14 => (intro w hSw; (try dsimp only at hSw); go_simp <;> with_reducible rfl)
          (try simp only [Act.put, List.setIfInBounds_toArray, List.set_cons_zero, List.set_cons_succ])
          refine wpAnyH_take (i := 15) (oi := { dst := some 47, op := Op.call { callee := Callee.builtin Builtin.len, args := #[Operand.tmp 46], argTypes := #[29] }, type := 3, pos := "law.go:62", after := #[{ on := 14, ground := Ground.data }, { on := 7, ground := Ground.guard }], guard := some (7, false) }) (v := ?vd15) rfl (by kernel_rfl) (by kernel_rfl) (by kernel_rfl) (fun _ _ _ h => h) (Or.inl ⟨by rfl, ?yd15⟩) (by assumption) ?rd15
          case yd15 => (intro w hSw; (try dsimp only at hSw); go_simp <;> with_reducible rfl)
          (try simp only [Act.put, List.setIfInBounds_toArray, List.set_cons_zero, List.set_cons_succ])
          refine wpAnyH_take (i := 16) (oi := { dst := some 48, op := Op.binOp BinOp.geq 3 (Operand.tmp 41) (Operand.tmp 47) 3, type := 4, pos := "law.go:62", after := #[{ on := 9, ground := Ground.data }, { on := 15, ground := Ground.data }, { on := 7, ground := Ground.guard }], guard := some (7, false) }) (v := ?vd16) rfl (by kernel_rfl) (by kernel_rfl) (by kernel_rfl) (fun _ _ _ h => h) (Or.inl ⟨by rfl, ?yd16⟩) (by assumption) ?rd16
          case yd16 => (intro w hSw; (try dsimp only at hSw); go_simp <;> with_reducible rfl)
          (try simp only [Act.put, List.setIfInBounds_toArray, List.set_cons_zero, List.set_cons_succ])
          refine wpAnyH_take (i := 17) (oi := { dst := some 49, op := Op.pick (Operand.tmp 39) (Operand.const (Value.bool true)) (Operand.tmp 48), type := 4, pos := "law.go:62", after := #[{ on := 7, ground := Ground.data }, { on := 16, ground := Ground.data }], guard := none }) (v := ?vd17) rfl (by kernel_rfl) (by kernel_rfl) (by kernel_rfl) (fun _ _ _ h => h) (Or.inl ⟨by rfl, ?yd17⟩) (by assumption) ?rd17
          case yd17 => (intro w hSw; (try dsimp only at hSw); go_simp <;> with_reducible rfl)
          (try simp only [Act.put, List.setIfInBounds_toArray, List.set_cons_zero, List.set_cons_succ])
          refine wpAnyH_done (by kernel_rfl) ?_ _
          go_wp2_with fail
          go_ret
          exact ⟨rfl, Below.drew K2.out⟩
end Go.Proofs.Ytpggibohfdamjaa
