/-
  Package file by contract: number, count.
-/
import Derived.Test.YtbalmfoboaapjaaFile1
namespace Go.Proofs.Ytbalmfoboaapjaa
set_option linter.unusedVariables false
set_option linter.unusedSimpArgs false
open Go.RowKit
set_option maxRecDepth 100000

theorem or_byte (v x : Nat) (hx : x < 256) (hv : v < 4294967296) : bits .or .i64 ((v : Int) * 256) (x : Int) = (v : Int) * 256 + x := by
  show IntKind.i64.wrap ((BitVec.ofInt 64 ((v : Int) * 256) ||| BitVec.ofInt 64 (x : Int)).toNat : Nat) = _
  have h1 : (BitVec.ofInt 64 (x : Int)).toNat = x := by rw [BitVec.toNat_ofInt]; omega
  have h2 : (BitVec.ofInt 64 ((v : Int) * 256)).toNat = v * 256 := by rw [BitVec.toNat_ofInt]; omega
  rw [BitVec.toNat_or, h1, h2]
  have h3 : v * 256 ||| x = v * 256 + x := by
    have := Nat.shiftLeft_add_eq_or_of_lt (i := 8) (b := x) (by omega) v
    rw [Nat.shiftLeft_eq] at this
    exact this.symm
  rw [h3]
  push_cast
  exact IntWalk.i64_in _ (by omega)
theorem bytesP_len {L l : List UInt8} {n : Int} {s s' : PS} (h : bytesP L n s = .ok l s') (hn : 0 ≤ n) : l.length = n.toNat := by
  unfold bytesP at h
  split at h
  · cases h
  · split at h
    · cases h
    · rename_i h1 h2
      injection h with h3 h4
      rw [← h3, List.length_take, List.length_drop]
      omega
def NumG (g B : Nat) (L : List UInt8) (vb : Value) (pool : List ConstC) (vp : Value) (n : Nat) (w : World) (v : Int) (s' : PS) (e : Ending) (w' : World) : Prop :=
  e = .returned (.int .i64 v) ∧ RS w' g B L vb pool vp s' ∧ Touch (fun b => b = g) w w' ∧ 0 ≤ v ∧ v < (256 ^ n : Nat)

set_option maxHeartbeats 2000000 in
theorem file_number (g B : Nat) (L : List UInt8) (vb : Value) (pool : List ConstC) (vp : Value) (s : PS) (n : Nat) (w : World) (h : RS w g B L vb pool vp s) (hn1 : 1 ≤ n) (hn4 : n ≤ 4) (i : Int) (hi : i = n) :
    Calls Try.prog 38 #[.pointer (some ⟨g, 0, none⟩), .int .i64 i] w (Ans (numP L i s) (fun b => b = g) w (NumG g B L vb pool vp n w)) := by
  subst hi
  have C := file_bytes g B L vb pool vp s n w h (by omega)
  unfold numP
  clear h
  cases hb : bytesP L n s with
  | bad p k =>
    rw [hb, Ans.bad_] at C
    rw [Out.bind_bad, Ans.bad_]
    clear hb
    go_enter Try.func38, Try.ntmps38
    go_wp2_with fail
    refine C.mono ?_
    rintro e w1 ⟨rfl, ht⟩
    exact ⟨rfl, rfl, ht⟩
  | ok l s' =>
    rw [hb, Ans.ok_] at C
    rw [Out.bind_ok, Ans.ok_]
    have hl := bytesP_len hb (by omega)
    have HL := Lib.hid (show l.length = n by omega)
    clear hb hl
    go_enter Try.func38, Try.ntmps38
    go_wp2_with fail
    refine C.mono ?_
    rintro e w1 ⟨v, rfl, hrd, hrs, ht, -⟩
    rw [HL.out] at hrd
    obtain ⟨b, off, c, rfl, hc1, hc2, hcell⟩ : ∃ b off c, v = .slice (some ⟨b, off, none⟩) n c ∧ n ≤ c ∧ c ≤ 9223372036854775807 ∧ Hid (∀ j u, (l.map byteV)[j]? = some u → w1.cell? ⟨b, off + j, none⟩ = some u) := by
      obtain ⟨_, a, c, hv, h1, h2, h3⟩ := hrd
      obtain ⟨b, off, rfl, h4⟩ := h3 (by omega)
      exact ⟨b, off, c, hv, h1, h2, Lib.hid h4⟩
    have HRS := Lib.hid hrs
    have HT := Lib.hid ht
    clear C hrd hrs ht
    go_wp2_with fail
    go_loop [5, 12] (fun s5 s12 => ∃ k : Nat, k ≤ n ∧ s12 = .int .i64 k ∧ s5 = .int .i64 (beN (l.take k) : Nat)) (fun _ s12 => n - (intOf s12).toNat)
    case atStart => exact ⟨0, by omega, rfl, rfl⟩
    case round =>
      obtain ⟨k, hk, rfl, rfl⟩ := hrel
      by_cases hlt : k < n
      · obtain ⟨x, hx⟩ : ∃ x, l[k]? = some x := ⟨_, List.getElem?_eq_getElem (by have := HL.out; omega)⟩
        have hcx := hcell.out k (.int .u8 x.toNat) (by rw [List.getElem?_map, hx]; rfl)
        have hbe := beN_lt (l.take k)
        have hbk : beN (l.take k) < 16777216 := by
          have h1 : (l.take k).length ≤ 3 := by rw [List.length_take]; omega
          have h2 : 256 ^ (l.take k).length ≤ 256 ^ 3 := Nat.pow_le_pow_right (by omega) h1
          omega
        have hsn : beN (l.take (k + 1)) = beN (l.take k) * 256 + x.toNat := by
          rw [List.take_add_one, hx]; exact beN_snoc _ _
        obtain ⟨V, hV⟩ : ∃ V, V = beN (l.take k) := ⟨_, rfl⟩
        rw [← hV] at hbk hsn ⊢
        have HSN := Lib.hid hsn
        have hx8 : x.toNat < 256 := x.toNat_lt
        have hor := or_byte V x.toNat hx8 (by omega)
        have hltI : (k : Int) < (n : Int) := by omega
        clear hsn hbe hV hx
        go_wp2_with fail
        go_round
        case rel => exact ⟨k + 1, by omega, by go_num, by rw [HSN.out]; push_cast; first | rfl | skip⟩
        case measure => simp [intOf]; omega
      · obtain rfl : k = n := by omega
        have hltI : ¬ (k : Int) < (k : Int) := by omega
        have hbe := beN_lt l
        rw [HL.out] at hbe
        have HBE := Lib.hid hbe
        have HTK := Lib.hid (show l.take k = l from List.take_of_length_le (by have := HL.out; omega))
        clear hbe
        go_wp2_with fail
        go_ret
        exact ⟨ret_int (by rw [HTK.out]), HRS.out, HT.out, by omega, by have := HBE.out; omega⟩

theorem numP_bounds {L : List UInt8} {n v : Int} {s s' : PS} (h : numP L n s = .ok v s') (hn : 0 ≤ n) : 0 ≤ v ∧ v < (256 ^ n.toNat : Nat) := by
  unfold numP at h
  cases hb : bytesP L n s with
  | bad p k => rw [hb] at h; cases h
  | ok l s1 =>
    rw [hb] at h
    have hl := bytesP_len hb hn
    simp only [Out.bind_ok] at h
    injection h with h1 h2
    have := beN_lt l
    rw [hl] at this
    omega
set_option maxHeartbeats 1000000 in
theorem file_count (g B : Nat) (L : List UInt8) (vb : Value) (pool : List ConstC) (vp : Value) (s : PS) (m : Int) (w : World) (h : RS w g B L vb pool vp s) :
    Calls Try.prog 40 #[.pointer (some ⟨g, 0, none⟩), .int .i64 m] w (Ans (countP L m s) (fun b => b = g) w (NumG g B L vb pool vp 2 w)) := by
  have C := file_number g B L vb pool vp s 2 w h (by omega) (by omega) 2 rfl
  unfold countP
  obtain ⟨c0, c1, c2, c3, c4⟩ := h.cells
  clear h
  cases hb : numP L 2 s with
  | bad p k =>
    rw [hb, Ans.bad_] at C
    rw [Out.bind_bad, Ans.bad_]
    clear hb
    go_enter Try.func40, Try.ntmps40
    go_wp2_with fail
    refine C.mono ?_
    rintro e w1 ⟨rfl, ht⟩
    exact ⟨rfl, rfl, ht⟩
  | ok n s' =>
    rw [hb, Ans.ok_] at C
    rw [Out.bind_ok]
    clear hb
    by_cases hm : m < n
    · rw [if_pos hm, Ans.bad_]
      go_enter Try.func40, Try.ntmps40
      go_wp2_with fail
      refine C.mono ?_
      rintro e w1 ⟨rfl, hrs, ht, hn0, hn1⟩
      have HT := Lib.hid ht
      clear hrs ht C
      go_wp2_with fail
      refine (file_wrong _ _ _ _).mono ?_
      rintro e w2 ⟨rfl, rfl⟩
      exact ⟨rfl, rfl, HT.out⟩
    · rw [if_neg hm, Ans.ok_]
      go_enter Try.func40, Try.ntmps40
      go_wp2_with fail
      refine C.mono ?_
      rintro e w1 ⟨rfl, hrs, ht, hn0, hn1⟩
      have HT := Lib.hid ht
      have HRS := Lib.hid hrs
      clear hrs ht C
      go_wp2_with fail
      go_ret
      exact ⟨rfl, HRS.out, HT.out, hn0, hn1⟩
end Go.Proofs.Ytbalmfoboaapjaa
