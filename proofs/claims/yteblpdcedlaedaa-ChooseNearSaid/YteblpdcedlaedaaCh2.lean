/-
  Package choose by contract: told, the closures, first.
-/
import Derived.Test.YteblpdcedlaedaaCh1
namespace Go.Proofs.Yteblpdcedlaedaa
open Go.RowKit
set_option maxRecDepth 100000

def abB : ByteArray := ⟨#[106, 97, 118, 97, 47, 108, 97, 110, 103, 47, 65, 98, 115, 116, 114, 97, 99, 116, 77, 101, 116, 104, 111, 100, 69, 114, 114, 111, 114]⟩
/-- What is chosen: a found (its place an int), an error. -/
abbrev GR := (ByteArray × Int) × ByteArray
def resG (r : GR) : Value := .tuple #[.agg #[.string r.1.1, .int .i64 r.1.2], .string r.2]
def gz : ByteArray × Int := (⟨#[]⟩, 0)
def accO (D : List TD) (c : ByteArray) (i : Int) : Int := ((memO D c i).getD memZ0).access
def toldR (D : List TD) (c : ByteArray) (i : Int) : GR := if bits .and .i64 (accO D c i) 1024 = 0 then ((c, i), ⟨#[]⟩) else (gz, abB)

set_option maxHeartbeats 4000000 in
theorem ch_told (D : List TD) (fc : ByteArray) (fi : Int) (v : Value) (w : World) (h : TyR w v D) :
    Calls Try.prog 23 #[v, .agg #[.string fc, .int .i64 fi]] w fun e w' => e = .returned (resG (toldR D fc fi)) ∧ Kept w w' := by
  have H := Lib.hid h
  have k0 : Kept w ((w.alloc (.cells #[.string fc, .int .i64 fi] 24)).alloc (.cells #[.string ⟨#[]⟩, .int .i64 0] 24)) := ((Below.refl _ _).alloc (Nat.le_refl _) _).alloc (by simp) _
  have b0 : Blk ((w.alloc (.cells #[.string fc, .int .i64 fi] 24)).alloc (.cells #[.string ⟨#[]⟩, .int .i64 0] 24)) w.heap.size 24 #[.string fc, .int .i64 fi] := (Blk.new w _ _).alloc _
  have b1 : Blk ((w.alloc (.cells #[.string fc, .int .i64 fi] 24)).alloc (.cells #[.string ⟨#[]⟩, .int .i64 0] 24)) (w.heap.size + 1) 24 #[.string ⟨#[]⟩, .int .i64 0] := Blk.at_ (by simp)
  have q0 := b0.cell 0
  have q1 := b0.cell 1
  simp only [List.getElem?_toArray, List.getElem?_cons_succ, List.getElem?_cons_zero] at q0 q1
  have zq := b0.lt
  have K0 := Lib.hid k0
  have B0 := Lib.hid b0
  have B1 := Lib.hid b1
  clear h k0 b0 b1
  go_enter Try.func23, Try.ntmps23
  go_upto_region 1 with fail
  generalize ((w.alloc (.cells #[.string fc, .int .i64 fi] 24)).alloc (.cells #[.string ⟨#[]⟩, .int .i64 0] 24)) = W at *
  go_wp2_with fail
  refine (ch_member D fc fi v W (H.out.kept K0.out)).mono ?_
  rintro e w1 ⟨rfl, k1⟩
  obtain ⟨m, hm⟩ : ∃ m, m = (memO D fc fi).getD memZ0 := ⟨_, rfl⟩
  unfold memOV memVal_
  rw [← hm]
  have HACC := Lib.hid (show accO D fc fi = m.access by unfold accO; rw [hm])
  obtain ⟨b, hb⟩ : ∃ b, b = (memO D fc fi).isSome := ⟨_, rfl⟩
  rw [← hb]
  obtain ⟨acc, nm, ds, has, val⟩ := m
  simp only at HACC ⊢
  have kx : Kept w1 (w1.alloc (.cells #[.int .i64 acc, .string nm, .string ds, .bool has, .int .i64 val] 38)) := (Below.refl _ _).alloc (Nat.le_refl _) _
  have bt := Blk.new w1 38 #[.int .i64 acc, .string nm, .string ds, .bool has, .int .i64 val]
  have t0 := bt.cell 0
  simp only [List.getElem?_toArray, List.getElem?_cons_succ, List.getElem?_cons_zero] at t0
  have tl := bt.lt
  have KX := Lib.hid (Kept.trans k1 kx)
  clear hm hb k1 kx bt q0 q1 zq
  go_upto_region 2 with fail
  generalize (w1.alloc (.cells #[.int .i64 acc, .string nm, .string ds, .bool has, .int .i64 val] 38)) = WX at *
  have bq := B0.out.kept KX.out
  have q0 := bq.cell 0
  have q1 := bq.cell 1
  simp only [List.getElem?_toArray, List.getElem?_cons_succ, List.getElem?_cons_zero] at q0 q1
  have zq := bq.lt
  clear bq
  have kp := KX.out
  have PF := fnd_put (B1.out.kept kp)
  have KP := Lib.hid (PF.keeps (Kept.trans K0.out kp) (by have := K0.out.size; omega))
  have g0 := PF.g0
  have g1 := PF.g1
  have h0 := PF.h0
  have h1 := PF.h1
  have zr := PF.lt
  have PF := Lib.hid PF
  clear kp
  by_cases hb : bits .and .i64 acc 1024 = 0
  · have HB := Lib.hid hb
    have e1 : (bits .and .i64 acc 1024 != 0) = false := by simp [hb]
    clear hb
    have E0 := Lib.hid (PF.out.e0 (.string fc))
    have E1 := Lib.hid (PF.out.e1 (.string fc) (.int .i64 fi))
    have PE := Lib.hid (fnd_put (PF.out.set (.string fc) (.int .i64 fi)))
    have HF := Lib.hid (show resG (toldR D fc fi) = resG ((fc, fi), ⟨#[]⟩) by unfold toldR; rw [HACC.out, if_pos HB.out])
    go_wp2_with fail
    refine bodyPost_ret (v := resG (toldR D fc fi)) (by rw [HF.out]; simp [results, Try.results23, go_sem, E0.out, E1.out, PE.out.g0, PE.out.g1, resG]) rfl ⟨rfl, ?_⟩
    exact KP.out _ _
  · have HB := Lib.hid hb
    have e1 : (bits .and .i64 acc 1024 != 0) = true := by simp [hb]
    clear hb
    have E0 := Lib.hid (PF.out.e0 (.string ⟨#[]⟩))
    have E1 := Lib.hid (PF.out.e1 (.string ⟨#[]⟩) (.int .i64 0))
    have PE := Lib.hid (fnd_put (PF.out.set (.string ⟨#[]⟩) (.int .i64 0)))
    have HF := Lib.hid (show resG (toldR D fc fi) = resG (gz, abB) by unfold toldR; rw [HACC.out, if_neg HB.out])
    go_wp2_with fail
    refine bodyPost_ret (v := resG (toldR D fc fi)) (by rw [HF.out]; simp [results, Try.results23, go_sem, E0.out, E1.out, PE.out.g0, PE.out.g1, resG, gz, abB]) rfl ⟨rfl, ?_⟩
    exact KP.out _ _

def tkI (a : Int) : Bool := bits .and .i64 a 8 == 0
def tkP (a : Int) : Bool := bits .and .i64 a 8 == 0 && bits .and .i64 a 1 != 0
def tkS (a : Int) : Bool := bits .and .i64 a 8 == 0 && bits .and .i64 a 2 == 0
theorem ch_instance (a : Int) (w : World) : Calls Try.prog 25 #[.int .i64 a] w fun e w' => e = .returned (.bool (tkI a)) ∧ w = w' := by
  go_enter Try.func25, Try.ntmps25
  go_wp2
  go_ret
  exact ⟨rfl, rfl⟩
theorem ch_public (a : Int) (w : World) : Calls Try.prog 39 #[.int .i64 a] w fun e w' => e = .returned (.bool (tkP a)) ∧ w = w' := by
  have CI := ch_instance a w
  unfold tkI at CI
  unfold tkP
  cases h1 : (bits .and .i64 a 8 == 0) with
  | true =>
    rw [h1] at CI
    cases h2 : (bits .and .i64 a 1 != 0) with
    | true =>
      go_enter Try.func39, Try.ntmps39
      go_wp2_with (go_at_call 25; refine CI.mono ?_; rintro e w' ⟨rfl, rfl⟩)
      go_ret
      exact ⟨rfl, rfl⟩
    | false =>
      go_enter Try.func39, Try.ntmps39
      go_wp2_with (go_at_call 25; refine CI.mono ?_; rintro e w' ⟨rfl, rfl⟩)
      go_ret
      exact ⟨rfl, rfl⟩
  | false =>
    rw [h1] at CI
    go_enter Try.func39, Try.ntmps39
    go_wp2_with (go_at_call 25; refine CI.mono ?_; rintro e w' ⟨rfl, rfl⟩)
    go_ret
    exact ⟨rfl, rfl⟩
theorem ch_seen (a : Int) (w : World) : Calls Try.prog 24 #[.int .i64 a] w fun e w' => e = .returned (.bool (tkS a)) ∧ w = w' := by
  have CI := ch_instance a w
  unfold tkI at CI
  unfold tkS
  cases h1 : (bits .and .i64 a 8 == 0) with
  | true =>
    rw [h1] at CI
    cases h2 : (bits .and .i64 a 2 == 0) with
    | true =>
      go_enter Try.func24, Try.ntmps24
      go_wp2_with (go_at_call 25; refine CI.mono ?_; rintro e w' ⟨rfl, rfl⟩)
      go_ret
      exact ⟨rfl, rfl⟩
    | false =>
      go_enter Try.func24, Try.ntmps24
      go_wp2_with (go_at_call 25; refine CI.mono ?_; rintro e w' ⟨rfl, rfl⟩)
      go_ret
      exact ⟨rfl, rfl⟩
  | false =>
    rw [h1] at CI
    go_enter Try.func24, Try.ntmps24
    go_wp2_with (go_at_call 25; refine CI.mono ?_; rintro e w' ⟨rfl, rfl⟩)
    go_ret
    exact ⟨rfl, rfl⟩

/-- The first of some types that declares a method that may be taken. -/
def frsF (D : List TD) (n d : ByteArray) (tk : Int → Bool) (s : ByteArray) : Option FV := (mth D s n d).bind fun x => if tk x.2 = true then some (s, x.1) else none
def frsL (D : List TD) (ts : List ByteArray) (n d : ByteArray) (tk : Int → Bool) : Option FV := ts.findSome? (frsF D n d tk)
theorem key_eq {a b n d : ByteArray} (h : ¬ (a = n ∧ b = d)) : a.toList ≠ n.toList ∨ b.toList ≠ d.toList := by
  by_cases h1 : a = n
  · right
    intro e
    refine h ⟨h1, ?_⟩
    rw [ByteArray.toList_eq, ByteArray.toList_eq] at e
    exact ByteArray.ext (Array.toList_inj.1 e)
  · left
    intro e
    rw [ByteArray.toList_eq, ByteArray.toList_eq] at e
    exact h1 (ByteArray.ext (Array.toList_inj.1 e))
end Go.Proofs.Yteblpdcedlaedaa
