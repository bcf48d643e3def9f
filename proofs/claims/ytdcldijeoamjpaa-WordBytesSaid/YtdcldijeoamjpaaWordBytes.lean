/-
  Numbers in bytes, by contract: word.Get, Signed, the document's own Get. They read, and write nothing.
-/
import Derived.Test.YtdcldijeoamjpaaWordRef
namespace Go.Proofs.Ytdcldijeoamjpaa
open Go.RowKit

def byteV (c : UInt8) : Value := .int .u8 c.toNat
/-- The number that bytes write, the highest first. -/
def be (l : List UInt8) : Nat := l.foldl (fun v x => v * 256 + x.toNat) 0
def okAt (l : List UInt8) (at_ n : Int) : Bool := decide ((n = 1 ∨ n = 2 ∨ n = 4) ∧ 0 ≤ at_ ∧ at_ + n ≤ l.length)
def getU (l : List UInt8) (at_ n : Int) : Int := if okAt l at_ n then (be ((l.drop at_.toNat).take n.toNat) : Int) else 0
def sgn (n u : Int) : Int := if n = 1 then wrap8 u else if n = 2 then wrap16 u else wrap32 u
def getS (l : List UInt8) (at_ n : Int) : Int := if okAt l at_ n then sgn n (be ((l.drop at_.toNat).take n.toNat) : Int) else 0

theorem u8_lt (x : UInt8) : x.toNat < 256 := x.toNat_lt
theorem or_join (v y : Nat) (hv : v < 1099511627776) (hy : y < 256) : bits .or .u64 ((v : Int) * 256) (y : Int) = (v : Int) * 256 + y := by
  have h := bits_or_u64_nat (v * 256) y (by omega) (by omega)
  rw [show ((v : Int) * 256) = ((v * 256 : Nat) : Int) by simp, h, nat_join 8 (v * 256) y (by omega) (by omega)]
  simp
theorem be_snoc (l : List UInt8) (x : UInt8) : be (l ++ [x]) = be l * 256 + x.toNat := by simp [be]
theorem be_bd (l : List UInt8) (k : Nat) (h : l.length ≤ k) : be l < 256 ^ k := by
  induction k generalizing l with
  | zero => have : l = [] := List.eq_nil_of_length_eq_zero (by omega); subst this; simp [be]
  | succ k ih =>
    rcases List.eq_nil_or_concat l with rfl | ⟨l', x, rfl⟩
    · have : 0 < 256 ^ (k + 1) := Nat.pow_pos (by omega)
      simpa [be] using this
    · rw [List.concat_eq_append, be_snoc]
      have h1 := ih l' (by simp at h; omega)
      have h2 := u8_lt x
      rw [Nat.pow_succ]
      omega

theorem part_yes (b off len cap k n : Nat) (m : Int) (w : World) (hl : len ≤ cap) (hc : cap ≤ 9223372036854775807) (h : k + n ≤ len) (hn : n = 1 ∨ n = 2 ∨ n = 4) (hm : m = n) :
    Calls Try.prog 40 #[.slice (some ⟨b, off, none⟩) len cap, .int .i64 k, .int .i64 m] w fun e w' => e = .returned (.tuple #[.slice (some ⟨b, off + k, none⟩) n (cap - k), .bool true]) ∧ w = w' := by
  subst hm
  rcases hn with rfl | rfl | rfl
  all_goals
    go_enter Try.func40, Try.ntmps40
    go_wp2
    go_ret2
    exact ⟨ret2 (by simp) rfl, rfl⟩
theorem part_no (a : Option Addr) (len cap : Nat) (at_ n : Int) (w : World) (hl : len ≤ cap) (hc : cap ≤ 9223372036854775807) (h : ¬ ((n = 1 ∨ n = 2 ∨ n = 4) ∧ 0 ≤ at_ ∧ at_ + n ≤ len)) :
    Calls Try.prog 40 #[.slice a len cap, .int .i64 at_, .int .i64 n] w fun e w' => e = .returned (.tuple #[.slice none 0 0, .bool false]) ∧ w = w' := by
  by_cases h1 : n = 1
  · subst h1
    by_cases h2 : 0 ≤ at_
    · by_cases h3 : at_ ≤ len
      all_goals
        go_enter Try.func40, Try.ntmps40
        go_wp2
        go_ret2
        exact ⟨rfl, rfl⟩
    · go_enter Try.func40, Try.ntmps40
      go_wp2
      go_ret2
      exact ⟨rfl, rfl⟩
  · by_cases h1' : n = 2
    · subst h1'
      by_cases h2 : 0 ≤ at_
      · by_cases h3 : at_ ≤ len
        all_goals
          go_enter Try.func40, Try.ntmps40
          go_wp2
          go_ret2
          exact ⟨rfl, rfl⟩
      · go_enter Try.func40, Try.ntmps40
        go_wp2
        go_ret2
        exact ⟨rfl, rfl⟩
    · by_cases h1'' : n = 4
      · subst h1''
        by_cases h2 : 0 ≤ at_
        · by_cases h3 : at_ ≤ len
          all_goals
            go_enter Try.func40, Try.ntmps40
            go_wp2
            go_ret2
            exact ⟨rfl, rfl⟩
        · go_enter Try.func40, Try.ntmps40
          go_wp2
          go_ret2
          exact ⟨rfl, rfl⟩
      · go_enter Try.func40, Try.ntmps40
        go_wp2
        go_ret2
        exact ⟨rfl, rfl⟩

set_option maxRecDepth 100000 in
theorem read_uint8 (b off cap : Nat) (x : UInt8) (w : World) (hl : 1 ≤ cap) (hc : cap ≤ 9223372036854775807) (h0 : w.cell? ⟨b, off, none⟩ = some (.int .u8 x.toNat)) :
    Calls Try.prog 41 #[.slice (some ⟨b, off, none⟩) 1 cap] w fun e w' => e = .returned (.int .i64 ((be [x] : Int))) ∧ w = w' := by
  have b0 := u8_lt x
  have e0 := or_join (0) x.toNat (by omega) b0
  simp only [Int.natCast_zero, Int.zero_mul, Int.zero_add] at e0
  go_enter Try.func41, Try.ntmps41
  go_wp2
  go_rounds 2

  go_ret
  exact ⟨ret_int (by simp [be]), rfl⟩

set_option maxRecDepth 100000 in
theorem read_uint16 (b off cap : Nat) (x y : UInt8) (w : World) (hl : 2 ≤ cap) (hc : cap ≤ 9223372036854775807) (h0 : w.cell? ⟨b, off, none⟩ = some (.int .u8 x.toNat)) (h1 : w.cell? ⟨b, off + 1, none⟩ = some (.int .u8 y.toNat)) :
    Calls Try.prog 42 #[.slice (some ⟨b, off, none⟩) 2 cap] w fun e w' => e = .returned (.int .i64 ((be [x, y] : Int))) ∧ w = w' := by
  have b0 := u8_lt x
  have b1 := u8_lt y
  have e0 := or_join (0) x.toNat (by omega) b0
  have e1 := or_join (x.toNat) y.toNat (by omega) b1
  simp only [Int.natCast_zero, Int.zero_mul, Int.zero_add] at e0
  push_cast at e1
  go_enter Try.func42, Try.ntmps42
  go_wp2
  go_rounds 3

  go_ret
  exact ⟨ret_int (by simp [be]), rfl⟩

set_option maxRecDepth 100000 in
theorem read_uint32 (b off cap : Nat) (x y z t : UInt8) (w : World) (hl : 4 ≤ cap) (hc : cap ≤ 9223372036854775807) (h0 : w.cell? ⟨b, off, none⟩ = some (.int .u8 x.toNat)) (h1 : w.cell? ⟨b, off + 1, none⟩ = some (.int .u8 y.toNat)) (h2 : w.cell? ⟨b, off + 2, none⟩ = some (.int .u8 z.toNat)) (h3 : w.cell? ⟨b, off + 3, none⟩ = some (.int .u8 t.toNat)) :
    Calls Try.prog 43 #[.slice (some ⟨b, off, none⟩) 4 cap] w fun e w' => e = .returned (.int .i64 ((be [x, y, z, t] : Int))) ∧ w = w' := by
  have b0 := u8_lt x
  have b1 := u8_lt y
  have b2 := u8_lt z
  have b3 := u8_lt t
  have e0 := or_join (0) x.toNat (by omega) b0
  have e1 := or_join (x.toNat) y.toNat (by omega) b1
  have e2 := or_join ((x.toNat) * 256 + y.toNat) z.toNat (by omega) b2
  have e3 := or_join (((x.toNat) * 256 + y.toNat) * 256 + z.toNat) t.toNat (by omega) b3
  simp only [Int.natCast_zero, Int.zero_mul, Int.zero_add] at e0
  push_cast at e1 e2 e3
  go_enter Try.func43, Try.ntmps43
  go_wp2
  go_rounds 5

  go_ret
  exact ⟨ret_int (by simp [be]), rfl⟩

set_option maxRecDepth 100000 in
theorem read_int8 (b off cap : Nat) (x : UInt8) (w : World) (hl : 1 ≤ cap) (hc : cap ≤ 9223372036854775807) (h0 : w.cell? ⟨b, off, none⟩ = some (.int .u8 x.toNat)) :
    Calls Try.prog 44 #[.slice (some ⟨b, off, none⟩) 1 cap] w fun e w' => e = .returned (.int .i64 (sgn 1 (be [x] : Int))) ∧ w = w' := by
  have b0 := u8_lt x
  have e0 := or_join (0) x.toNat (by omega) b0
  simp only [Int.natCast_zero, Int.zero_mul, Int.zero_add] at e0
  go_enter Try.func44, Try.ntmps44
  go_wp2
  go_rounds 2

  go_ret
  exact ⟨ret_int (by simp only [be, sgn, if_true, List.foldl, Nat.zero_mul, Nat.zero_add]; exact i8_wrap8 _), rfl⟩

set_option maxRecDepth 100000 in
theorem read_int16 (b off cap : Nat) (x y : UInt8) (w : World) (hl : 2 ≤ cap) (hc : cap ≤ 9223372036854775807) (h0 : w.cell? ⟨b, off, none⟩ = some (.int .u8 x.toNat)) (h1 : w.cell? ⟨b, off + 1, none⟩ = some (.int .u8 y.toNat)) :
    Calls Try.prog 45 #[.slice (some ⟨b, off, none⟩) 2 cap] w fun e w' => e = .returned (.int .i64 (sgn 2 (be [x, y] : Int))) ∧ w = w' := by
  have b0 := u8_lt x
  have b1 := u8_lt y
  have e0 := or_join (0) x.toNat (by omega) b0
  have e1 := or_join (x.toNat) y.toNat (by omega) b1
  simp only [Int.natCast_zero, Int.zero_mul, Int.zero_add] at e0
  push_cast at e1
  go_enter Try.func45, Try.ntmps45
  go_wp2
  go_rounds 3

  go_ret
  exact ⟨ret_int (by simp [be, sgn, i16_wrap16]), rfl⟩

set_option maxRecDepth 100000 in
theorem read_int32 (b off cap : Nat) (x y z t : UInt8) (w : World) (hl : 4 ≤ cap) (hc : cap ≤ 9223372036854775807) (h0 : w.cell? ⟨b, off, none⟩ = some (.int .u8 x.toNat)) (h1 : w.cell? ⟨b, off + 1, none⟩ = some (.int .u8 y.toNat)) (h2 : w.cell? ⟨b, off + 2, none⟩ = some (.int .u8 z.toNat)) (h3 : w.cell? ⟨b, off + 3, none⟩ = some (.int .u8 t.toNat)) :
    Calls Try.prog 46 #[.slice (some ⟨b, off, none⟩) 4 cap] w fun e w' => e = .returned (.int .i64 (sgn 4 (be [x, y, z, t] : Int))) ∧ w = w' := by
  have b0 := u8_lt x
  have b1 := u8_lt y
  have b2 := u8_lt z
  have b3 := u8_lt t
  have e0 := or_join (0) x.toNat (by omega) b0
  have e1 := or_join (x.toNat) y.toNat (by omega) b1
  have e2 := or_join ((x.toNat) * 256 + y.toNat) z.toNat (by omega) b2
  have e3 := or_join (((x.toNat) * 256 + y.toNat) * 256 + z.toNat) t.toNat (by omega) b3
  simp only [Int.natCast_zero, Int.zero_mul, Int.zero_add] at e0
  push_cast at e1 e2 e3
  go_enter Try.func46, Try.ntmps46
  go_wp2
  go_rounds 5

  go_ret
  exact ⟨ret_int (by simp [be, sgn, wrap64_32]), rfl⟩

end Go.Proofs.Ytdcldijeoamjpaa
