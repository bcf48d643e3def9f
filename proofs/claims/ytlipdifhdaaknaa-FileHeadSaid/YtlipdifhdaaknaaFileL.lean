/-
  The law FileHead: its walk.
-/
import Derived.Test.YtlipdifhdaaknaaFileI
import Derived.Test.YtlipdifhdaaknaaFileJ
import Derived.Laws.BitsAllLaws
namespace Go.Proofs.Ytlipdifhdaaknaa
open Go.RowKit
set_option maxRecDepth 100000

theorem and_255 (n : Int) : bits .and .i64 n 255 = n % 256 := by
  have h127 : (BitVec.ofInt 64 255).toNat = 2 ^ 8 - 1 := by decide
  have key : (BitVec.ofInt 64 n &&& BitVec.ofInt 64 255).toNat = (n % ((2 ^ 64 : Nat) : Int)).toNat % 2 ^ 8 := by
    rw [BitVec.toNat_and, BitVec.toNat_ofInt, h127, Nat.and_two_pow_sub_one_eq_mod]
  show IntKind.i64.wrap ((BitVec.ofInt 64 n &&& BitVec.ofInt 64 255).toNat : Nat) = n % 256
  rw [key, IntKind.wrap_i64]
  omega
theorem and_65535 (n : Int) : bits .and .i64 n 65535 = n % 65536 := by
  have h127 : (BitVec.ofInt 64 65535).toNat = 2 ^ 16 - 1 := by decide
  have key : (BitVec.ofInt 64 n &&& BitVec.ofInt 64 65535).toNat = (n % ((2 ^ 64 : Nat) : Int)).toNat % 2 ^ 16 := by
    rw [BitVec.toNat_and, BitVec.toNat_ofInt, h127, Nat.and_two_pow_sub_one_eq_mod]
  show IntKind.i64.wrap ((BitVec.ofInt 64 n &&& BitVec.ofInt 64 65535).toNat : Nat) = n % 65536
  rw [key, IntKind.wrap_i64]
  omega
/-- A magic of which one byte is another one. -/
theorem flip_read {k : Nat} (hk : k < 4) {x y : UInt8} (hx : smallL[k]? = some x) (hy : y.toNat ≠ x.toNat) : readP (smallL.set k y) = (zeroC, 0, 11) := by
  have hb := y.toNat_lt
  rcases (by omega : k = 0 ∨ k = 1 ∨ k = 2 ∨ k = 3) with rfl | rfl | rfl | rfl
  · obtain rfl : (202 : UInt8) = x := Option.some.inj hx
    have h2 : y.toNat ≠ 202 := hy
    refine (show readP (smallL.set 0 y) = readP ([y, 254, 186, 190] ++ smallL.drop 4) from rfl).trans (magic_read ?_)
    simp [beN]
    omega
  · obtain rfl : (254 : UInt8) = x := Option.some.inj hx
    have h2 : y.toNat ≠ 254 := hy
    refine (show readP (smallL.set 1 y) = readP ([202, y, 186, 190] ++ smallL.drop 4) from rfl).trans (magic_read ?_)
    simp [beN]
    omega
  · obtain rfl : (186 : UInt8) = x := Option.some.inj hx
    have h2 : y.toNat ≠ 186 := hy
    refine (show readP (smallL.set 2 y) = readP ([202, 254, y, 190] ++ smallL.drop 4) from rfl).trans (magic_read ?_)
    simp [beN]
    omega
  · obtain rfl : (190 : UInt8) = x := Option.some.inj hx
    have h2 : y.toNat ≠ 190 := hy
    refine (show readP (smallL.set 3 y) = readP ([202, 254, 186, y] ++ smallL.drop 4) from rfl).trans (magic_read ?_)
    simp [beN]
    omega
/-- What stands there behind the store. -/
theorem xor_byte (x : UInt8) (n : Int) (hn : ¬ n % 256 = 0) : ∃ y : UInt8, y.toNat ≠ x.toNat ∧ bits .xor .u8 (x.toNat : Int) (n % 256) = (y.toNat : Int) := by
  obtain ⟨b, hb⟩ : ∃ b : Nat, n % 256 = b := ⟨(n % 256).toNat, by omega⟩
  have hb2 : b < 256 := by omega
  have hb0 : b ≠ 0 := by omega
  have hx := x.toNat_lt
  have hlt : x.toNat ^^^ b < 256 := Nat.xor_lt_two_pow (n := 8) hx hb2
  refine ⟨UInt8.ofNat (x.toNat ^^^ b), ?_, ?_⟩
  · rw [UInt8.toNat_ofNat', Nat.mod_eq_of_lt hlt]
    intro e
    apply hb0
    have := congrArg (fun z => x.toNat ^^^ z) e
    simpa [← Nat.xor_assoc] using this
  · rw [hb, u8_xor_nat _ _ hx hb2, UInt8.toNat_ofNat', Nat.mod_eq_of_lt hlt]
theorem head_row (m0 m1 M0 M1 : UInt8) : ((((smallL.map byteV).set 4 (byteV m0)).set 5 (byteV m1)).set 6 (byteV M0)).set 7 (byteV M1) = (headL m0 m1 M0 M1).map byteV := rfl
theorem head_len (m0 m1 M0 M1 : UInt8) : (headL m0 m1 M0 M1).length = 53 := rfl
/-- A number's byte. -/
def octet (n : Int) : UInt8 := UInt8.ofNat (n % 256).toNat
theorem octet_val (n : Int) : ((octet n).toNat : Int) = n % 256 := by
  unfold octet
  have : 0 ≤ n % 256 ∧ n % 256 < 256 := ⟨Int.emod_nonneg _ (by omega), Int.emod_lt_of_pos _ (by omega)⟩
  rw [UInt8.toNat_ofNat']
  omega
theorem octet_V (n : Int) : Value.int .u8 (n % 256) = byteV (octet n) := by rw [← octet_val]; rfl
theorem two_octets (n : Int) : ((beN [octet (n / 256), octet n] : Nat) : Int) = bits .and .i64 n 65535 := by
  have h1 := octet_val (n / 256)
  have h2 := octet_val n
  rw [and_65535]
  simp only [beN, List.foldl_cons, List.foldl_nil]
  omega
/-- Read, where of its class the versions alone are looked at. -/
theorem file_ReadV (L : List UInt8) (vb : Value) (w : World) (hrd : Rd w 1 vb L.length (L.map byteV)) (p k i0 i1 : Int) (hp : (readP L).2 = (p, k)) (h0 : (readP L).1.minor = i0) (h1 : (readP L).1.major = i1) :
    Calls Try.prog 9 #[vb] w fun e w' => (∃ a2 n2 c2 i3 i4 i5 a6 n6 c6 a7 n7 c7 a8 n8 c8, e = .returned (.tuple #[.agg #[.int .i64 i0, .int .i64 i1, .slice a2 n2 c2, .int .i64 i3, .int .i64 i4, .int .i64 i5, .slice a6 n6 c6, .slice a7 n7 c7, .slice a8 n8 c8], .int .i64 p, .int .i64 k])) ∧ Kept w w' := by
  refine (file_Read L vb w hrd).mono ?_
  rintro e w' ⟨mv, vP, vI, vF, vM, he, hcr, hk⟩
  obtain ⟨aP, cP, rfl, -, -⟩ := own_slice hcr.p
  obtain ⟨aI, cI, rfl, -, -⟩ := own_slice hcr.i
  obtain ⟨aF, cF, rfl, -, -⟩ := own_slice hcr.f
  obtain ⟨aM, cM, rfl, -, -⟩ := own_slice hcr.m
  rw [hp] at he
  have he : e = .returned (.tuple #[.agg #[.int .i64 (readP L).1.minor, .int .i64 (readP L).1.major, .slice aP (readP L).1.pool.length cP, .int .i64 (readP L).1.access, .int .i64 (readP L).1.this, .int .i64 (readP L).1.super, .slice aI (readP L).1.ifaces.length cI, .slice aF (readP L).1.fields.length cF, .slice aM mv.length cM], .int .i64 p, .int .i64 k]) := he
  rw [h0, h1] at he
  exact ⟨⟨_, _, _, _, _, _, _, _, _, _, _, _, _, _, _, he⟩, hk⟩
theorem store_kept {w w2 W : World} {g : Nat} (hk : Kept w w2) (hg : w.heap.size ≤ g) (hW : Touch (fun b => b = g) w2 W) : Kept w W := Below.trans hk (hW.below (fun b hb => by subst hb; exact hg) hk.size)

set_option maxHeartbeats 4000000 in
theorem walk_FileHead (at_ by_ minor major : Int) (w : World) (hl0 : (Lit.int .i64 at_).wf = true) (hl1 : (Lit.int .i64 by_).wf = true) (hl2 : (Lit.int .i64 minor).wf = true) (hl3 : (Lit.int .i64 major).wf = true) :
    Calls Try.prog 7 #[.int .i64 at_, .int .i64 by_, .int .i64 minor, .int .i64 major] w fun e w' => e = .returned (.bool true) ∧ Below w.heap.size w w' := by
  clear hl0 hl1
  by_cases c0 : at_ < 0
  · go_enter Try.func7, Try.ntmps7
    go_wp2_with (first | (go_at_call 8; refine (alive3 _).mono ?_; rintro e w1 ⟨rfl, k1⟩; have K1 := Lib.hid k1; clear k1))
    go_ret
    exact ⟨rfl, K1.out⟩
  by_cases c1 : 3 < at_
  · go_enter Try.func7, Try.ntmps7
    go_wp2_with (first | (go_at_call 8; refine (alive3 _).mono ?_; rintro e w1 ⟨rfl, k1⟩; have K1 := Lib.hid k1; clear k1))
    go_ret
    exact ⟨rfl, K1.out⟩
  by_cases c2 : bits .and .i64 by_ 255 = 0
  · have c2' : (bits .and .i64 by_ 255 == 0) = true := by simp [c2]
    go_enter Try.func7, Try.ntmps7
    go_wp2_with (first | (go_at_call 8; refine (alive3 _).mono ?_; rintro e w1 ⟨rfl, k1⟩; have K1 := Lib.hid k1; clear k1))
    go_ret
    exact ⟨rfl, K1.out⟩
  have c2' : (bits .and .i64 by_ 255 == 0) = false := by simp [c2]
  obtain ⟨k, rfl⟩ : ∃ k : Nat, at_ = k := ⟨at_.toNat, by omega⟩
  have hk : k < 4 := by omega
  obtain ⟨x, hx⟩ : ∃ x, smallL[k]? = some x := ⟨_, List.getElem?_eq_getElem (by rw [show smallL.length = 53 from rfl]; omega)⟩
  obtain ⟨y, hy, hxy⟩ := xor_byte x by_ (by rw [and_255] at c2; exact c2)
  have hfl := flip_read hk hx hy
  go_enter Try.func7, Try.ntmps7
  go_wp2_with fail
  refine (alive3 _).mono ?_
  rintro e w1 ⟨rfl, k1⟩
  have K1 := Lib.hid k1
  clear k1
  go_wp2_with fail
  refine (law3_small _).mono ?_
  rintro e w2 ⟨v, rfl, ho, k2⟩
  have HFL := Lib.hid hfl
  have HXY := Lib.hid hxy
  have K2 := Lib.hid (Kept.trans K1.out k2)
  obtain ⟨g, c, rfl, _, _, hge, hgs, hcell, hfz⟩ := own_form ho (by omega)
  have hge' : w.heap.size ≤ g := by have := K1.out.size; omega
  have HX0 := Lib.hid hx
  have x0 : w2.cell? ⟨g, k, none⟩ = some (.int .u8 (x.toNat : Int)) := hcell k _ (by rw [List.getElem?_map, hx]; rfl)
  have f0 := hfz k
  have hfin : ∀ W, Touch (fun _ => False) w2 W → ∀ q : Int, q = (y.toNat : Int) → (W.setCell ⟨g, k, none⟩ (.int .u8 q)).ownsRow w1.heap.size 5 1 (.slice (some ⟨g, 0, none⟩) 53 c) 53 ((smallL.set k y).map byteV) ∧ Kept w (W.setCell ⟨g, k, none⟩ (.int .u8 q)) := by
    rintro W hW q rfl
    refine ⟨?_, store_kept K2.out hge' (Touch.setCell (S := fun b => b = g) (hW.mono fun b hb => hb.elim) (p := ⟨g, k, none⟩) (.inl rfl) _)⟩
    have := own_store (hW.own ho fun _ _ h => h) k (byteV y)
    rw [List.map_set]
    exact this
  have HF := Lib.hid hfin
  clear ho k2 hcell hfz hfin hfl hxy hx
  have u1 : (k : Int) < 53 := by omega
  have u2 : (0 : Int) ≤ (k : Int) := by omega
  have u3 : k < 53 := by omega
  go_upto_region 5 with fail
  go_upto_region 6 with fail
  have h3 := HF.out w2 (Touch.refl _ _) _ HXY.out
  generalize (w2.setCell ⟨g, k, none⟩ (.int .u8 (bits .xor .u8 (x.toNat : Int) (by_ % 256)))) = W3 at *
  obtain ⟨ho3, k3⟩ := h3
  have hrd3 : Rd W3 1 (.slice (some ⟨g, 0, none⟩) 53 c) (smallL.set k y).length ((smallL.set k y).map byteV) := by
    rw [List.length_set]
    exact Rd.of_own ho3
  have HR3 := Lib.hid hrd3
  have K3 := Lib.hid k3
  clear ho3 k3 hrd3 HF x0 f0 HXY
  go_wp2_with fail
  refine (file_ReadE _ _ W3 HR3.out 0 11 (by rw [HFL.out])).mono ?_
  rintro e w4 ⟨⟨i0, i1, j2, n2, d2, i3, i4, i5, j6, n6, d6, j7, n7, d7, j8, n8, d8, rfl⟩, k4⟩
  have K4 := Lib.hid (Kept.trans K3.out k4)
  clear k4
  go_upto_region 7 with fail
  have K5 : Hid (Kept w (w4.alloc (.cells #[.int .i64 i0, .int .i64 i1, .slice j2 n2 d2, .int .i64 i3, .int .i64 i4, .int .i64 i5, .slice j6 n6 d6, .slice j7 n7 d7, .slice j8 n8 d8] 29))) := Lib.hid (Below.alloc K4.out K4.out.size _)
  generalize w4.alloc (.cells #[.int .i64 i0, .int .i64 i1, .slice j2 n2 d2, .int .i64 i3, .int .i64 i4, .int .i64 i5, .slice j6 n6 d6, .slice j7 n7 d7, .slice j8 n8 d8] 29) = W5 at *
  go_wp2_with fail
  refine (law3_small _).mono ?_
  rintro e w6 ⟨v, rfl, ho, k6⟩
  have K6 := Lib.hid (Kept.trans K5.out k6)
  obtain ⟨gg, cc, rfl, _, _, hge6, hgs6, hcell, hfz⟩ := own_form ho (by omega)
  have hge6' : w.heap.size ≤ gg := by have := K5.out.size; omega
  have s4 : w6.cell? ⟨gg, 4, none⟩ = some (.int .u8 0) := hcell 4 _ rfl
  have s5 : w6.cell? ⟨gg, 5, none⟩ = some (.int .u8 0) := hcell 5 _ rfl
  have s6 : w6.cell? ⟨gg, 6, none⟩ = some (.int .u8 0) := hcell 6 _ rfl
  have s7 : w6.cell? ⟨gg, 7, none⟩ = some (.int .u8 52) := hcell 7 _ rfl
  have f4 := hfz 4
  have f5 := hfz 5
  have f6 := hfz 6
  have f7 := hfz 7
  have HO6 := Lib.hid ho
  clear ho hcell hfz k6
  go_upto_region 12 with fail
  have hrow : ((((smallL.map byteV).set 4 (.int .u8 (minor / 256 % 256))).set 5 (.int .u8 (minor % 256))).set 6 (.int .u8 (major / 256 % 256))).set 7 (.int .u8 (major % 256)) = (headL (octet (minor / 256)) (octet minor) (octet (major / 256)) (octet major)).map byteV := by
    rw [octet_V, octet_V, octet_V, octet_V]
    exact head_row _ _ _ _
  have h7 := own_store (own_store (own_store (own_store HO6.out 4 (.int .u8 (minor / 256 % 256))) 5 (.int .u8 (minor % 256))) 6 (.int .u8 (major / 256 % 256))) 7 (.int .u8 (major % 256))
  rw [hrow] at h7
  have k7 := store_kept K6.out hge6' ((((Touch.setCell (S := fun b => b = gg) (Touch.refl _ w6) (p := ⟨gg, 4, none⟩) (.inl rfl) (.int .u8 (minor / 256 % 256))).setCell (p := ⟨gg, 5, none⟩) (.inl rfl) (.int .u8 (minor % 256))).setCell (p := ⟨gg, 6, none⟩) (.inl rfl) (.int .u8 (major / 256 % 256))).setCell (p := ⟨gg, 7, none⟩) (.inl rfl) (.int .u8 (major % 256)))
  generalize ((((w6.setCell ⟨gg, 4, none⟩ (.int .u8 (minor / 256 % 256))).setCell ⟨gg, 5, none⟩ (.int .u8 (minor % 256))).setCell ⟨gg, 6, none⟩ (.int .u8 (major / 256 % 256))).setCell ⟨gg, 7, none⟩ (.int .u8 (major % 256))) = W7 at *
  have hrd7 : Rd W7 1 (.slice (some ⟨gg, 0, none⟩) 53 cc) (headL (octet (minor / 256)) (octet minor) (octet (major / 256)) (octet major)).length ((headL (octet (minor / 256)) (octet minor) (octet (major / 256)) (octet major)).map byteV) := Rd.of_own h7
  obtain ⟨cl, hc1, hc2, hc3⟩ := head_read (octet (minor / 256)) (octet minor) (octet (major / 256)) (octet major)
  rw [two_octets] at hc2 hc3
  have HR7 := Lib.hid hrd7
  have K7 := Lib.hid k7
  have HC := Lib.hid (And.intro hc1 (And.intro hc2 hc3))
  clear h7 k7 hrd7 hc1 hc2 hc3 s4 s5 s6 s7 f4 f5 f6 f7 HO6 hrow
  go_wp2_with fail
  refine (file_ReadV _ _ W7 HR7.out 0 0 (bits .and .i64 minor 65535) (bits .and .i64 major 65535) (by rw [HC.out.1]) (by rw [HC.out.1]; exact HC.out.2.1) (by rw [HC.out.1]; exact HC.out.2.2)).mono ?_
  rintro e w8 ⟨⟨a2, n2, c2, i3, i4, i5, a6, n6, c6, a7, n7, c7, a8, n8, c8, rfl⟩, k8⟩
  have K8 := Lib.hid (Kept.trans K7.out k8)
  clear k8 HR7 HC
  go_wp2_with (first
    | (go_at_call 11; refine (law3_num _ _).mono ?_; rintro e w9 ⟨rfl, rfl⟩))
  go_ret
  exact ⟨rfl, Below.alloc K8.out K8.out.size _⟩
end Go.Proofs.Ytlipdifhdaaknaa
