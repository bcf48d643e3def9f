/-
  Plain facts on 32-bit numbers: no program in sight.
-/
import Derived.Test.YtcklmhbcjgiplaaBase
namespace Go.Proofs.Ytcklmhbcjgiplaa
set_option linter.unusedVariables false
set_option linter.unusedSimpArgs false
open Go.RowKit

/-- Two numbers that are one modulo 2^32 wrap alike. -/
theorem wrap32_congr {a b : Int} (h : a % 4294967296 = b % 4294967296) : wrap32 a = wrap32 b := by
  unfold wrap32; omega

theorem wrap32_bd (a : Int) : -2147483648 ≤ wrap32 a ∧ wrap32 a ≤ 2147483647 := by unfold wrap32; omega
theorem wrap32_mod (a : Int) : wrap32 a % 4294967296 = a % 4294967296 := by unfold wrap32; omega
theorem wrap32_idem (a : Int) : wrap32 (wrap32 a) = wrap32 a := wrap32_congr (wrap32_mod a)
theorem wrap32_of (a : Int) (h : -2147483648 ≤ a) (h' : a ≤ 2147483647) : wrap32 a = a := by unfold wrap32; omega
theorem wrap64_of (a : Int) (h : -9223372036854775808 ≤ a) (h' : a ≤ 9223372036854775807) : wrap64 a = a := by unfold wrap64; omega
theorem wrap64_mod32 (a : Int) : wrap64 a % 4294967296 = a % 4294967296 := by unfold wrap64; omega
theorem wrap64_32 (a : Int) : wrap64 (wrap32 a) = wrap32 a := by have := wrap32_bd a; exact wrap64_of _ (by omega) (by omega)
theorem wrap32_64 (a : Int) : wrap32 (wrap64 a) = wrap32 a := wrap32_congr (wrap64_mod32 a)

theorem wrap32_mul (a b : Int) : wrap32 (wrap32 a * wrap32 b) = wrap32 (a * b) := by
  apply wrap32_congr
  rw [Int.mul_emod, wrap32_mod, wrap32_mod, ← Int.mul_emod]

theorem wrap32_toInt (v : BitVec 32) : wrap32 (v.toNat : Int) = v.toInt := by
  have h := v.isLt
  rw [BitVec.toInt_eq_toNat_cond]
  unfold wrap32
  split <;> omega

theorem toNat_ofInt32 (a : Int) : ((BitVec.ofInt 32 a).toNat : Int) = a % 4294967296 := by
  rw [BitVec.toNat_ofInt]
  omega

theorem wrap32_eq (a : Int) : wrap32 a = (BitVec.ofInt 32 a).toInt := by
  rw [← wrap32_toInt, toNat_ofInt32]
  apply wrap32_congr
  omega

theorem ofInt32_congr {a b : Int} (h : a % 4294967296 = b % 4294967296) : BitVec.ofInt 32 a = BitVec.ofInt 32 b := by
  apply BitVec.eq_of_toNat_eq
  have ha := toNat_ofInt32 a
  have hb := toNat_ofInt32 b
  omega

theorem ofInt32_wrap (a : Int) : BitVec.ofInt 32 (wrap32 a) = BitVec.ofInt 32 a := ofInt32_congr (wrap32_mod a)

/-- The bit operations at 32 bits. -/
def b32 (op : BinOp) (a b : Int) : Int :=
  match op with
  | .and => (BitVec.ofInt 32 a &&& BitVec.ofInt 32 b).toInt
  | .or => (BitVec.ofInt 32 a ||| BitVec.ofInt 32 b).toInt
  | _ => (BitVec.ofInt 32 a ^^^ BitVec.ofInt 32 b).toInt

theorem bits32_eq_and (a b : Int) : wrap64 (bits .and .i32 (wrap32 a) (wrap32 b)) = b32 .and a b := by
  show wrap64 (IntKind.i32.wrap ((BitVec.ofInt 32 (wrap32 a) &&& BitVec.ofInt 32 (wrap32 b)).toNat : Nat)) = _
  rw [ofInt32_wrap, ofInt32_wrap, IntWalk.i32_left, wrap64_32, wrap32_toInt]; rfl
theorem bits32_eq_or (a b : Int) : wrap64 (bits .or .i32 (wrap32 a) (wrap32 b)) = b32 .or a b := by
  show wrap64 (IntKind.i32.wrap ((BitVec.ofInt 32 (wrap32 a) ||| BitVec.ofInt 32 (wrap32 b)).toNat : Nat)) = _
  rw [ofInt32_wrap, ofInt32_wrap, IntWalk.i32_left, wrap64_32, wrap32_toInt]; rfl
theorem bits32_eq_xor (a b : Int) : wrap64 (bits .xor .i32 (wrap32 a) (wrap32 b)) = b32 .xor a b := by
  show wrap64 (IntKind.i32.wrap ((BitVec.ofInt 32 (wrap32 a) ^^^ BitVec.ofInt 32 (wrap32 b)).toNat : Nat)) = _
  rw [ofInt32_wrap, ofInt32_wrap, IntWalk.i32_left, wrap64_32, wrap32_toInt]; rfl

/-- The same three on numbers of 64 bits, wrapped afterwards. -/
theorem toNat64_mod32 (v : BitVec 64) : ((v.toNat : Int)) % 4294967296 = ((v.setWidth 32).toNat : Int) := by
  rw [BitVec.toNat_setWidth]; omega
theorem setWidth_ofInt (a : Int) : (BitVec.ofInt 64 a).setWidth 32 = BitVec.ofInt 32 a := by
  apply BitVec.eq_of_toNat_eq
  rw [BitVec.toNat_setWidth, BitVec.toNat_ofInt, BitVec.toNat_ofInt]
  omega
theorem wrap32_bits64 (v : BitVec 64) : wrap32 (IntKind.i64.wrap (v.toNat : Nat)) = (v.setWidth 32).toInt := by
  rw [IntWalk.i64_left, wrap32_64, ← wrap32_toInt]
  apply wrap32_congr
  have := toNat64_mod32 v
  omega
theorem bits64_and (x y : Int) : wrap32 (bits .and .i64 x y) = b32 .and x y := by
  show wrap32 (IntKind.i64.wrap ((BitVec.ofInt 64 x &&& BitVec.ofInt 64 y).toNat : Nat)) = _
  rw [wrap32_bits64, BitVec.setWidth_and, setWidth_ofInt, setWidth_ofInt]; rfl
theorem bits64_or (x y : Int) : wrap32 (bits .or .i64 x y) = b32 .or x y := by
  show wrap32 (IntKind.i64.wrap ((BitVec.ofInt 64 x ||| BitVec.ofInt 64 y).toNat : Nat)) = _
  rw [wrap32_bits64, BitVec.setWidth_or, setWidth_ofInt, setWidth_ofInt]; rfl
theorem bits64_xor (x y : Int) : wrap32 (bits .xor .i64 x y) = b32 .xor x y := by
  show wrap32 (IntKind.i64.wrap ((BitVec.ofInt 64 x ^^^ BitVec.ofInt 64 y).toNat : Nat)) = _
  rw [wrap32_bits64, BitVec.setWidth_xor, setWidth_ofInt, setWidth_ofInt]; rfl
theorem b32_congr (op : BinOp) {a b c d : Int} (h : a % 4294967296 = c % 4294967296) (k : b % 4294967296 = d % 4294967296) : b32 op a b = b32 op c d := by
  unfold b32; rw [ofInt32_congr h, ofInt32_congr k]

/-- The count of a shift. -/
def sh (n : Int) : Nat := (n % 32).toNat
theorem sh_le (n : Int) : sh n ≤ 31 := by unfold sh; omega
theorem sh_eq (n : Int) : (sh n : Int) = n % 32 := by unfold sh; omega

theorem mask_eq (b : Nat) (j : Nat) (x : Int) (hk : (BitVec.ofInt b ((2 ^ j - 1 : Nat) : Int)).toNat = 2 ^ j - 1) :
    (BitVec.ofInt b x &&& BitVec.ofInt b ((2 ^ j - 1 : Nat) : Int)).toNat = (x % ((2 ^ b : Nat) : Int)).toNat % 2 ^ j := by
  rw [BitVec.toNat_and, BitVec.toNat_ofInt, hk, Nat.and_two_pow_sub_one_eq_mod]

theorem u32_and31 (n : Int) : bits .and .u32 (n % 4294967296) 31 = (sh n : Int) := by
  show IntKind.u32.wrap ((BitVec.ofInt 32 (n % 4294967296) &&& BitVec.ofInt 32 31).toNat : Nat) = _
  rw [show (31 : Int) = ((2 ^ 5 - 1 : Nat) : Int) from rfl, mask_eq 32 5 _ (by decide), IntKind.wrap_u32, sh_eq]
  omega

theorem i64_mask (j : Nat) (n : Int) (hj : (BitVec.ofInt 64 ((2 ^ j - 1 : Nat) : Int)).toNat = 2 ^ j - 1) :
    bits .and .i64 n ((2 ^ j - 1 : Nat) : Int) = wrap64 (((n % 18446744073709551616).toNat % 2 ^ j : Nat) : Int) := by
  show IntKind.i64.wrap ((BitVec.ofInt 64 n &&& BitVec.ofInt 64 ((2 ^ j - 1 : Nat) : Int)).toNat : Nat) = _
  rw [mask_eq 64 j _ hj, IntWalk.i64_left]
  rfl
theorem i64_and_m32 (n : Int) : bits .and .i64 n 4294967295 = n % 4294967296 := by
  rw [show (4294967295 : Int) = ((2 ^ 32 - 1 : Nat) : Int) from rfl, i64_mask 32 n (by decide)]
  unfold wrap64; omega
theorem i64_and_31 (n : Int) : bits .and .i64 n 31 = (sh n : Int) := by
  rw [show (31 : Int) = ((2 ^ 5 - 1 : Nat) : Int) from rfl, i64_mask 5 n (by decide), sh_eq]
  unfold wrap64; omega
theorem i64_and_255 (n : Int) : bits .and .i64 n 255 = n % 256 := by
  rw [show (255 : Int) = ((2 ^ 8 - 1 : Nat) : Int) from rfl, i64_mask 8 n (by decide)]
  unfold wrap64; omega
theorem i64_and_65535 (n : Int) : bits .and .i64 n 65535 = n % 65536 := by
  rw [show (65535 : Int) = ((2 ^ 16 - 1 : Nat) : Int) from rfl, i64_mask 16 n (by decide)]
  unfold wrap64; omega

section
variable {P : Program}
theorem run_shl32 (x : Int) (s : Nat) (h : s ≤ 31) (w : World) : (Op.shift .shl .i32 x .u32 (s : Int)).run P w = .ok (.int .i32 (wrap32 (x * 2 ^ s))) w := by
  have e : min s 32 = s := by omega
  simp [Op.shift, IntKind.bits, e, IntWalk.i32_left]
theorem run_shr32 (x : Int) (s : Nat) (h : s ≤ 31) (w : World) : (Op.shift .shr .i32 x .u32 (s : Int)).run P w = .ok (.int .i32 (x / 2 ^ s)) w := by
  have e : min s 32 = s := by omega
  have p : (0 : Int) ≤ 2 ^ s := Int.le_of_lt (Int.pow_pos (by omega))
  simp [Op.shift, IntKind.bits, e, Int.fdiv_eq_ediv_of_nonneg _ p]
theorem run_ushr32 (x : Int) (s : Nat) (h : s ≤ 31) (w : World) : (Op.shift .shr .u32 x .u32 (s : Int)).run P w = .ok (.int .u32 (x / 2 ^ s)) w := by
  have e : min s 32 = s := by omega
  have p : (0 : Int) ≤ 2 ^ s := Int.le_of_lt (Int.pow_pos (by omega))
  simp [Op.shift, IntKind.bits, e, Int.fdiv_eq_ediv_of_nonneg _ p]
end

def wShl (a n : Int) : Int := wrap32 (wrap32 a * 2 ^ sh n)
def wShr (a n : Int) : Int := wrap32 a / 2 ^ sh n
def wUshr (a n : Int) : Int := wrap32 (a % 4294967296 / 2 ^ sh n)
def wrap8 (a : Int) : Int := (a + 128) % 256 - 128
def wrap16 (a : Int) : Int := (a + 32768) % 65536 - 32768

theorem ediv_bd (x : Int) (s : Nat) (h : -2147483648 ≤ x) (h' : x ≤ 2147483647) : -2147483648 ≤ x / 2 ^ s ∧ x / 2 ^ s ≤ 2147483647 := by
  have p0 : (0 : Int) < 2 ^ s := Int.pow_pos (by omega)
  generalize (2 : Int) ^ s = p at *
  have e := Int.mul_ediv_add_emod x p
  have e1 := Int.emod_nonneg x (by omega : p ≠ 0)
  have e2 := Int.emod_lt_of_pos x p0
  constructor
  · rcases Int.lt_or_le (x / p) (-2147483648) with hlt | hge
    · exfalso
      have : p * (x / p) ≤ p * (-2147483649) := Int.mul_le_mul_of_nonneg_left (by omega) (by omega)
      omega
    · exact hge
  · rcases Int.lt_or_le 2147483647 (x / p) with hlt | hge
    · exfalso
      have : p * 2147483648 ≤ p * (x / p) := Int.mul_le_mul_of_nonneg_left (by omega) (by omega)
      omega
    · exact hge

theorem wrap64_wShr (a n : Int) : wrap64 (wrap32 a / 2 ^ sh n) = wShr a n := by
  have h := wrap32_bd a
  have k := ediv_bd (wrap32 a) (sh n) h.1 h.2
  exact wrap64_of _ (by omega) (by omega)

/-- A quotient or a rest, where there is one. -/
def d32 (f : Int → Int → Int) (a b : Int) : Int × Bool := if wrap32 b = 0 then (0, false) else (wrap32 (f (wrap32 a) (wrap32 b)), true)

theorem min_sh (n : Int) : min (sh n) 32 = sh n := by have := sh_le n; omega
theorem i8_wrap8 (a : Int) : wrap64 (IntKind.i8.wrap a) = wrap8 a := by
  simp only [IntKind.wrap, IntKind.bits, IntKind.signed, wrap64, wrap8]; simp; split <;> omega
theorem i16_wrap16 (a : Int) : wrap64 (IntKind.i16.wrap a) = wrap16 a := by
  simp only [IntKind.wrap, IntKind.bits, IntKind.signed, wrap64, wrap16]; simp; split <;> omega
theorem u16_mod (a : Int) : wrap64 (IntKind.u16.wrap a) = a % 65536 := by
  rw [IntKind.wrap_u16]; unfold wrap64; omega

theorem tmod_bd (x y : Int) (h : -2147483648 ≤ x) (h' : x ≤ 2147483647) : -2147483648 ≤ x.tmod y ∧ x.tmod y ≤ 2147483647 := by
  have e := Int.natAbs_tmod x y
  have l : x.natAbs % y.natAbs ≤ x.natAbs := Nat.mod_le _ _
  rcases Int.le_total 0 x with hx | hx
  · have := Int.tmod_nonneg y hx
    omega
  · have k := Int.tmod_nonneg y (show 0 ≤ -x by omega)
    rw [Int.neg_tmod] at k
    omega
theorem wrap64_tmod (a b : Int) : wrap64 ((wrap32 a).tmod (wrap32 b)) = wrap32 ((wrap32 a).tmod (wrap32 b)) := by
  have h := wrap32_bd a
  have k := tmod_bd (wrap32 a) (wrap32 b) h.1 h.2
  rw [wrap64_of _ (by omega) (by omega), wrap32_of _ k.1 k.2]

theorem pow_le31 (s : Nat) (h : s ≤ 31) : (2 : Int) ^ s ≤ 2147483648 := by
  have : (2 : Nat) ^ s ≤ 2 ^ 31 := Nat.pow_le_pow_right (by omega) h
  have e : ((2 ^ s : Nat) : Int) = (2 : Int) ^ s := by simp
  omega
theorem pow_le32 (s : Nat) (h : s ≤ 32) : (2 : Int) ^ s ≤ 4294967296 := by
  have : (2 : Nat) ^ s ≤ 2 ^ 32 := Nat.pow_le_pow_right (by omega) h
  have e : ((2 ^ s : Nat) : Int) = (2 : Int) ^ s := by simp
  omega
theorem sh_le32 (n : Int) : sh n ≤ 32 := by have := sh_le n; omega
theorem pow_ge1 (s : Nat) : (1 : Int) ≤ 2 ^ s := by
  have : (0 : Int) < 2 ^ s := Int.pow_pos (by omega)
  omega
theorem pow_ne0 (s : Nat) : ((2 : Int) ^ s == 0) = false := by
  have := pow_ge1 s
  simp; omega
theorem floor_tdiv (x p : Int) (hp : 1 ≤ p) : x / p = x.tdiv p - (if x.tmod p < 0 then 1 else 0) := by
  have e := Int.mul_tdiv_add_tmod x p
  have e' := Int.mul_ediv_add_emod x p
  have e1 := Int.emod_nonneg x (by omega : p ≠ 0)
  have e2 := Int.emod_lt_of_pos x (by omega : 0 < p)
  have b1 : x.tmod p < p := Int.tmod_lt_of_pos x (by omega)
  have b2 : -p < x.tmod p := by
    have := Int.natAbs_tmod x p
    have l := Nat.mod_lt x.natAbs (show 0 < p.natAbs by omega)
    omega
  generalize x.tmod p = r at *
  generalize x % p = s at *
  split
  · have h : p * (x / p - (x.tdiv p - 1)) = (r + p) - s := by rw [Int.mul_sub, Int.mul_sub]; omega
    have : x / p - (x.tdiv p - 1) = 0 := by
      generalize x / p - (x.tdiv p - 1) = z at *
      rcases Int.lt_trichotomy z 0 with hz | hz | hz
      · have : p * z ≤ p * (-1) := Int.mul_le_mul_of_nonneg_left (by omega) (by omega)
        omega
      · exact hz
      · have : p * 1 ≤ p * z := Int.mul_le_mul_of_nonneg_left (by omega) (by omega)
        omega
    omega
  · have h : p * (x / p - x.tdiv p) = r - s := by rw [Int.mul_sub]; omega
    have : x / p - x.tdiv p = 0 := by
      generalize x / p - x.tdiv p = z at *
      rcases Int.lt_trichotomy z 0 with hz | hz | hz
      · have : p * z ≤ p * (-1) := Int.mul_le_mul_of_nonneg_left (by omega) (by omega)
        omega
      · exact hz
      · have : p * 1 ≤ p * z := Int.mul_le_mul_of_nonneg_left (by omega) (by omega)
        omega
    omega

theorem sum_law (a b : Int) : wrap32 (wrap64 (wrap32 a + wrap32 b)) = wrap32 (a + b) := by
  rw [wrap32_64]; exact wrap32_congr (by have := wrap32_mod a; have := wrap32_mod b; omega)
theorem dif_law (a b : Int) : wrap32 (wrap64 (wrap32 a - wrap32 b)) = wrap32 (a - b) := by
  rw [wrap32_64]; exact wrap32_congr (by have := wrap32_mod a; have := wrap32_mod b; omega)
theorem neg_law (a : Int) : wrap32 (wrap64 (-wrap32 a)) = wrap32 (-a) := by
  rw [wrap32_64]; exact wrap32_congr (by have := wrap32_mod a; omega)
theorem and_law (a b : Int) : wrap32 (bits .and .i64 (wrap32 a) (wrap32 b)) = b32 .and a b := by
  rw [bits64_and]; exact b32_congr _ (wrap32_mod a) (wrap32_mod b)
theorem or_law (a b : Int) : wrap32 (bits .or .i64 (wrap32 a) (wrap32 b)) = b32 .or a b := by
  rw [bits64_or]; exact b32_congr _ (wrap32_mod a) (wrap32_mod b)
theorem xor_law (a b : Int) : wrap32 (bits .xor .i64 (wrap32 a) (wrap32 b)) = b32 .xor a b := by
  rw [bits64_xor]; exact b32_congr _ (wrap32_mod a) (wrap32_mod b)

theorem ofInt_toInt32 (v : BitVec 32) : BitVec.ofInt 32 v.toInt = v := by simp
theorem wUshr_bv (x n : Int) : wUshr x n = (BitVec.ofInt 32 x >>> sh n).toInt := by
  unfold wUshr
  rw [← wrap32_toInt, BitVec.toNat_ushiftRight, Nat.shiftRight_eq_div_pow, Int.natCast_ediv, toNat_ofInt32]
  simp
theorem wShl_bv (x n : Int) : wShl x n = (BitVec.ofInt 32 x <<< sh n).toInt := by
  unfold wShl
  rw [← wrap32_toInt, BitVec.toNat_shiftLeft, Nat.shiftLeft_eq]
  apply wrap32_congr
  have e : (((BitVec.ofInt 32 x).toNat * 2 ^ sh n % 2 ^ 32 : Nat) : Int) = (x % 4294967296) * 2 ^ sh n % 4294967296 := by
    rw [← toNat_ofInt32 x]; simp
  rw [e]
  generalize (2 : Int) ^ sh n = q
  have h1 : wrap32 x * q % 4294967296 = x * q % 4294967296 := by rw [Int.mul_emod, wrap32_mod, ← Int.mul_emod]
  have h2 : x % 4294967296 * q % 4294967296 = x * q % 4294967296 := by rw [Int.mul_emod, Int.emod_emod_of_dvd x (Int.dvd_refl _), ← Int.mul_emod]
  omega
theorem low_law (a n : Int) : wUshr (wShl a n) n = b32 .and a (wUshr (-1) n) := by
  rw [wUshr_bv, wShl_bv, ofInt_toInt32, wUshr_bv]
  show _ = (BitVec.ofInt 32 a &&& BitVec.ofInt 32 _).toInt
  rw [ofInt_toInt32]
  congr 1
  apply BitVec.eq_of_getLsbD_eq
  intro i hi
  have h : BitVec.ofInt 32 (-1) = BitVec.allOnes 32 := by decide
  rw [h]
  simp only [BitVec.getLsbD_ushiftRight, BitVec.getLsbD_shiftLeft, BitVec.getLsbD_and, BitVec.getLsbD_allOnes]
  have e : sh n + i - sh n = i := by omega
  rw [e]
  by_cases k : sh n + i < 32 <;> simp [k]
theorem xor_back (a b : Int) : b32 .xor (b32 .xor a b) b = wrap32 a := by
  show (BitVec.ofInt 32 (BitVec.ofInt 32 a ^^^ BitVec.ofInt 32 b).toInt ^^^ BitVec.ofInt 32 b).toInt = _
  rw [ofInt_toInt32, BitVec.xor_assoc, BitVec.xor_self, BitVec.xor_zero, wrap32_eq]
theorem sub_back (a b : Int) : wrap32 (wrap32 (a + b) - b) = wrap32 a := wrap32_congr (by have := wrap32_mod (a + b); omega)
theorem twice_law (a : Int) (k : Nat) : wrap32 (wrap32 (a * 2 ^ k) + wrap32 (a * 2 ^ k)) = wrap32 (a * 2 ^ (k + 1)) := by
  apply wrap32_congr
  have := wrap32_mod (a * 2 ^ k)
  have e : a * 2 ^ (k + 1) = 2 * (a * 2 ^ k) := by rw [Int.pow_succ]; rw [Int.mul_comm 2, Int.mul_assoc]
  rw [e]
  omega
theorem wShl_pow (a n : Int) : wShl a n = wrap32 (a * 2 ^ sh n) := by
  unfold wShl
  apply wrap32_congr
  rw [Int.mul_emod, wrap32_mod, ← Int.mul_emod]
theorem div_law (a b : Int) (h : ¬ wrap32 b = 0) :
    wrap32 (wrap32 (wrap32 ((wrap32 a).tdiv (wrap32 b)) * b) + wrap32 ((wrap32 a).tmod (wrap32 b))) = wrap32 a := by
  apply wrap32_congr
  have e := Int.mul_tdiv_add_tmod (wrap32 a) (wrap32 b)
  have e1 := wrap32_mod (wrap32 ((wrap32 a).tdiv (wrap32 b)) * b)
  have e2 := wrap32_mod ((wrap32 a).tmod (wrap32 b))
  have e3 : wrap32 ((wrap32 a).tdiv (wrap32 b)) * b % 4294967296 = wrap32 b * (wrap32 a).tdiv (wrap32 b) % 4294967296 := by
    rw [Int.mul_emod, wrap32_mod, ← wrap32_mod b, ← Int.mul_emod, Int.mul_comm]
  have e4 := wrap32_mod a
  omega


end Go.Proofs.Ytcklmhbcjgiplaa
