/-
  Package sched: Round, by contract.
-/
import Derived.Test.YteahbpcimnaioaaSchedLaw
import Derived.Test.YteahbpcimnaioaaScope
import Derived.Maps.OwnSet
namespace Go.Proofs.Yteahbpcimnaioaa
open Go.RowKit Go.Maps Go.WideMaps
set_option maxRecDepth 100000

/-- The class that a thread waits for, if it is there and waits. -/
def waitsAt (l : List Th) (t : Int) : Option ByteArray := if 0 ≤ t ∧ t < l.length then (l[t.toNat]?).bind fun x => if x.st = 1 then some x.tx else none else none
def ring (own : ByteArray → Option Int) (l : List Th) (i : Int) : Nat → Int → Bool
  | 0, _ => false
  | f + 1, t => match waitsAt l t with
    | none => false
    | some s => match own s with
      | none => false
      | some t' => if t' = i then true else ring own l i f t'
def rndF (own : ByteArray → Option Int) (l : List Th) : Nat → Bool
  | 0 => false
  | d + 1 => ring own l ((l.length : Int) - (d + 1)) (l.length + 1) ((l.length : Int) - (d + 1)) || rndF own l d
def roundB (own : ByteArray → Option Int) (l : List Th) : Bool := rndF own l l.length

def valOf {H : Type} : DataW H → Int
  | .lit (.int _ c) => c
  | _ => 0
/-- What a map says of a class's owner. -/
def ownOf {H : Type} (D : DataW H) (s : ByteArray) : Option Int := if Maps.has D (.string s.data.toList) then some (valOf (D.atKey (.string s.data.toList) (.lit (.int .i64 0)))) else none

theorem rndF_step (own : ByteArray → Option Int) (l : List Th) (n k : Nat) (hn : n = l.length) (hk : k < n) : rndF own l (n - k) = (ring own l k (n + 1) k || rndF own l (n - k - 1)) := by
  obtain ⟨d, hd⟩ : ∃ d, n - k = d + 1 := ⟨n - k - 1, by omega⟩
  have e : ((l.length : Int) - ((d : Int) + 1)) = k := by omega
  rw [hd, rndF, e, ← hn, Nat.add_sub_cancel]

theorem mu_00 (n k : Nat) (hk : k < n) : ((n : Int) - 1 - (k : Int)).toNat * (n + 5) < ((n : Int) - 1 - ((k : Int) - 1)).toNat * (n + 5) := by
  rw [show ((n : Int) - 1 - ((k : Int) - 1)).toNat = ((n : Int) - 1 - (k : Int)).toNat + 1 by omega, Nat.add_mul]
  omega
theorem mu_01 (n k : Nat) (z : Int) (hk : k < n) (hz : z = 1) : ((n : Int) - 1 - (k : Int)).toNat * (n + 5) + 1 + ((n : Int) + 1 - z).toNat < ((n : Int) - 1 - ((k : Int) - 1)).toNat * (n + 5) := by
  subst hz
  rw [show ((n : Int) - 1 - ((k : Int) - 1)).toNat = ((n : Int) - 1 - (k : Int)).toNat + 1 by omega, Nat.add_mul]
  omega
theorem mu_11 (q : Nat) (n f : Nat) (z : Int) (hz : z = (n : Int) + 1 - ((f + 1 : Nat) : Int) + 1) (hf : f + 1 ≤ n + 1) : q + 1 + ((n : Int) + 1 - z).toNat < q + 1 + ((n : Int) + 1 - ((n : Int) + 1 - ((f + 1 : Nat) : Int))).toNat := by
  subst hz
  omega
theorem mu_10 (q z : Nat) : q < q + 1 + z := by omega
theorem slot_int {a b : Int} (h : a = b) : some (Value.int .i64 a) = some (Value.int .i64 b) := by rw [h]

theorem lawK : Keyed Try.prog 9 := string_keyed Try.underlying9
theorem zeroI (w : World) : (zeroValue 3).run Try.prog w = .ok (.int .i64 0) w := by kernel_rfl

theorem ring_none {own : ByteArray → Option Int} {l : List Th} {i t : Int} (f : Nat) (h : waitsAt l t = none) : ring own l i f t = false := by
  cases f <;> simp [ring, h]
theorem ring_gone {own : ByteArray → Option Int} {l : List Th} {i t : Int} (f : Nat) {s : ByteArray} (h : waitsAt l t = some s) (ho : own s = none) : ring own l i f t = false := by
  cases f <;> simp [ring, h, ho]
theorem ring_hit {own : ByteArray → Option Int} {l : List Th} {i t : Int} (f : Nat) {s : ByteArray} (h : waitsAt l t = some s) (ho : own s = some i) : ring own l i (f + 1) t = true := by
  simp [ring, h, ho]
theorem ring_on {own : ByteArray → Option Int} {l : List Th} {i t t' : Int} (f : Nat) {s : ByteArray} (h : waitsAt l t = some s) (ho : own s = some t') (hne : t' ≠ i) : ring own l i (f + 1) t = ring own l i f t' := by
  simp [ring, h, ho, hne]


theorem cons_of {l : List Value} {n : Nat} (h : l.length = n + 1) : ∃ x l', l = x :: l' ∧ l'.length = n := by
  cases l with
  | nil => cases h
  | cons x l' => exact ⟨x, l', rfl, by simpa using h⟩

theorem arr72 (t : Array Value) (h : t.size = 72) : ∃ x0 x1 x2 x3 x4 x5 x6 x7 x8 x9 x10 x11 x12 x13 x14 x15 x16 x17 x18 x19 x20 x21 x22 x23 x24 x25 x26 x27 x28 x29 x30 x31 x32 x33 x34 x35 x36 x37 x38 x39 x40 x41 x42 x43 x44 x45 x46 x47 x48 x49 x50 x51 x52 x53 x54 x55 x56 x57 x58 x59 x60 x61 x62 x63 x64 x65 x66 x67 x68 x69 x70 x71 : Value, t = #[x0, x1, x2, x3, x4, x5, x6, x7, x8, x9, x10, x11, x12, x13, x14, x15, x16, x17, x18, x19, x20, x21, x22, x23, x24, x25, x26, x27, x28, x29, x30, x31, x32, x33, x34, x35, x36, x37, x38, x39, x40, x41, x42, x43, x44, x45, x46, x47, x48, x49, x50, x51, x52, x53, x54, x55, x56, x57, x58, x59, x60, x61, x62, x63, x64, x65, x66, x67, x68, x69, x70, x71] := by
  obtain ⟨l⟩ := t
  have h : l.length = 72 := h
  obtain ⟨x0, l0, rfl, h0⟩ := cons_of h
  obtain ⟨x1, l1, rfl, h1⟩ := cons_of h0
  obtain ⟨x2, l2, rfl, h2⟩ := cons_of h1
  obtain ⟨x3, l3, rfl, h3⟩ := cons_of h2
  obtain ⟨x4, l4, rfl, h4⟩ := cons_of h3
  obtain ⟨x5, l5, rfl, h5⟩ := cons_of h4
  obtain ⟨x6, l6, rfl, h6⟩ := cons_of h5
  obtain ⟨x7, l7, rfl, h7⟩ := cons_of h6
  obtain ⟨x8, l8, rfl, h8⟩ := cons_of h7
  obtain ⟨x9, l9, rfl, h9⟩ := cons_of h8
  obtain ⟨x10, l10, rfl, h10⟩ := cons_of h9
  obtain ⟨x11, l11, rfl, h11⟩ := cons_of h10
  obtain ⟨x12, l12, rfl, h12⟩ := cons_of h11
  obtain ⟨x13, l13, rfl, h13⟩ := cons_of h12
  obtain ⟨x14, l14, rfl, h14⟩ := cons_of h13
  obtain ⟨x15, l15, rfl, h15⟩ := cons_of h14
  obtain ⟨x16, l16, rfl, h16⟩ := cons_of h15
  obtain ⟨x17, l17, rfl, h17⟩ := cons_of h16
  obtain ⟨x18, l18, rfl, h18⟩ := cons_of h17
  obtain ⟨x19, l19, rfl, h19⟩ := cons_of h18
  obtain ⟨x20, l20, rfl, h20⟩ := cons_of h19
  obtain ⟨x21, l21, rfl, h21⟩ := cons_of h20
  obtain ⟨x22, l22, rfl, h22⟩ := cons_of h21
  obtain ⟨x23, l23, rfl, h23⟩ := cons_of h22
  obtain ⟨x24, l24, rfl, h24⟩ := cons_of h23
  obtain ⟨x25, l25, rfl, h25⟩ := cons_of h24
  obtain ⟨x26, l26, rfl, h26⟩ := cons_of h25
  obtain ⟨x27, l27, rfl, h27⟩ := cons_of h26
  obtain ⟨x28, l28, rfl, h28⟩ := cons_of h27
  obtain ⟨x29, l29, rfl, h29⟩ := cons_of h28
  obtain ⟨x30, l30, rfl, h30⟩ := cons_of h29
  obtain ⟨x31, l31, rfl, h31⟩ := cons_of h30
  obtain ⟨x32, l32, rfl, h32⟩ := cons_of h31
  obtain ⟨x33, l33, rfl, h33⟩ := cons_of h32
  obtain ⟨x34, l34, rfl, h34⟩ := cons_of h33
  obtain ⟨x35, l35, rfl, h35⟩ := cons_of h34
  obtain ⟨x36, l36, rfl, h36⟩ := cons_of h35
  obtain ⟨x37, l37, rfl, h37⟩ := cons_of h36
  obtain ⟨x38, l38, rfl, h38⟩ := cons_of h37
  obtain ⟨x39, l39, rfl, h39⟩ := cons_of h38
  obtain ⟨x40, l40, rfl, h40⟩ := cons_of h39
  obtain ⟨x41, l41, rfl, h41⟩ := cons_of h40
  obtain ⟨x42, l42, rfl, h42⟩ := cons_of h41
  obtain ⟨x43, l43, rfl, h43⟩ := cons_of h42
  obtain ⟨x44, l44, rfl, h44⟩ := cons_of h43
  obtain ⟨x45, l45, rfl, h45⟩ := cons_of h44
  obtain ⟨x46, l46, rfl, h46⟩ := cons_of h45
  obtain ⟨x47, l47, rfl, h47⟩ := cons_of h46
  obtain ⟨x48, l48, rfl, h48⟩ := cons_of h47
  obtain ⟨x49, l49, rfl, h49⟩ := cons_of h48
  obtain ⟨x50, l50, rfl, h50⟩ := cons_of h49
  obtain ⟨x51, l51, rfl, h51⟩ := cons_of h50
  obtain ⟨x52, l52, rfl, h52⟩ := cons_of h51
  obtain ⟨x53, l53, rfl, h53⟩ := cons_of h52
  obtain ⟨x54, l54, rfl, h54⟩ := cons_of h53
  obtain ⟨x55, l55, rfl, h55⟩ := cons_of h54
  obtain ⟨x56, l56, rfl, h56⟩ := cons_of h55
  obtain ⟨x57, l57, rfl, h57⟩ := cons_of h56
  obtain ⟨x58, l58, rfl, h58⟩ := cons_of h57
  obtain ⟨x59, l59, rfl, h59⟩ := cons_of h58
  obtain ⟨x60, l60, rfl, h60⟩ := cons_of h59
  obtain ⟨x61, l61, rfl, h61⟩ := cons_of h60
  obtain ⟨x62, l62, rfl, h62⟩ := cons_of h61
  obtain ⟨x63, l63, rfl, h63⟩ := cons_of h62
  obtain ⟨x64, l64, rfl, h64⟩ := cons_of h63
  obtain ⟨x65, l65, rfl, h65⟩ := cons_of h64
  obtain ⟨x66, l66, rfl, h66⟩ := cons_of h65
  obtain ⟨x67, l67, rfl, h67⟩ := cons_of h66
  obtain ⟨x68, l68, rfl, h68⟩ := cons_of h67
  obtain ⟨x69, l69, rfl, h69⟩ := cons_of h68
  obtain ⟨x70, l70, rfl, h70⟩ := cons_of h69
  obtain ⟨x71, l71, rfl, h71⟩ := cons_of h70
  obtain rfl : l71 = [] := List.eq_nil_of_length_eq_zero h71
  exact ⟨_, _, _, _, _, _, _, _, _, _, _, _, _, _, _, _, _, _, _, _, _, _, _, _, _, _, _, _, _, _, _, _, _, _, _, _, _, _, _, _, _, _, _, _, _, _, _, _, _, _, _, _, _, _, _, _, _, _, _, _, _, _, _, _, _, _, _, _, _, _, _, _, rfl⟩


structure J0 (n mb g : Nat) (w0 : World) (own : ByteArray → Option Int) (l : List Th) (R : Bool) (a : Act) (w : World) : Prop where
  dfr : a.defers = []
  sz : a.tmps.size = 72
  s0 : a.tmps[0]? = some (.pointer (some ⟨g, 0, none⟩))
  s1 : a.tmps[1]? = some (.map (some mb))
  d : ∃ k : Nat, k ≤ n ∧ a.tmps[5]? = some (.int .i64 ((k : Int) - 1)) ∧ rndF own l (n - k) = R
  world : w0 = w
structure J1 (n mb g : Nat) (w0 : World) (own : ByteArray → Option Int) (l : List Th) (R : Bool) (a : Act) (w : World) : Prop where
  dfr : a.defers = []
  sz : a.tmps.size = 72
  s0 : a.tmps[0]? = some (.pointer (some ⟨g, 0, none⟩))
  s1 : a.tmps[1]? = some (.map (some mb))
  d : ∃ (k f : Nat) (t : Int), k < n ∧ f ≤ n + 1 ∧ a.tmps[5]? = some (.int .i64 k) ∧ a.tmps[6]? = some (.int .i64 t) ∧ a.tmps[7]? = some (.int .i64 ((n : Int) + 1 - f)) ∧ (ring own l k f t || rndF own l (n - k - 1)) = R
  world : w0 = w
def mu0 (n : Nat) (a : Act) (_ : World) : Nat := ((n : Int) - 1 - intOf (a.tmps.getD 5 undef)).toNat * (n + 5)
def mu1 (n : Nat) (a : Act) (_ : World) : Nat := ((n : Int) - 1 - intOf (a.tmps.getD 5 undef)).toNat * (n + 5) + 1 + ((n : Int) + 1 - intOf (a.tmps.getD 7 undef)).toNat


section
variable {H : Type}
set_option maxHeartbeats 2000000 in
theorem sched_Round (B : Nat) (w : World) (p : Value) (l : List Th) (g : Nat) (v : Value) (mb nm : Nat) (D : DataW H) (h : PTab B w p l g v) (hl : l.length ≤ 16) (hsz : ∀ x ∈ l, x.tx.size ≤ maxLen) (hm : w.ownsMap Try.prog 9 (plainElem Try.prog 3) mb nm D) :
    Calls Try.prog 12 #[p, .map (some mb)] w fun e w' => e = .returned (.bool (roundB (ownOf D) l)) ∧ w = w' := by
  have hp := h.ptr
  subst hp
  obtain ⟨n, hn⟩ : ∃ n, n = l.length := ⟨_, rfl⟩
  obtain ⟨R, hR⟩ : ∃ R, R = roundB (ownOf D) l := ⟨_, rfl⟩
  rw [← hR]
  obtain ⟨-, hb, ho, hB⟩ := h
  rw [← hn] at ho hl
  obtain ⟨a, c, rfl, hlc, hc⟩ := own_slice ho
  have c0 := hb.cell 0
  simp at c0
  have HM := Lib.hid hm
  have HO := Lib.hid ho
  have HN := Lib.hid hn
  have HR := Lib.hid hR
  have HSZ := Lib.hid hsz
  clear hm hb ho hn hR hsz
  go_enter Try.func12, Try.ntmps12
  go_wp2_with fail
  refine wp_scope_two (J0 n mb g w (ownOf D) l R) (J1 n mb g w (ownOf D) l R) (mu0 n) (mu1 n) rfl rfl ?_ ?_ ?_
  · -- the beginning: as at label 0
    by_cases h0 : n = 0
    · have hr0 : R = false := by rw [HR.out, roundB, ← HN.out, h0]; rfl
      have HR0 := Lib.hid hr0
      clear hr0
      subst h0
      go_wp2_with fail
      go_step3
      go_wp2_with fail
      try rw [jump2_ret]
      go_ret
      exact ⟨ret_bool HR0.out.symm, rfl⟩
    · have hpos : 0 < n := by omega
      have hR0 : rndF (ownOf D) l (n - 0) = R := by rw [HR.out, roundB, ← HN.out, Nat.sub_zero]
      rw [rndF_step (ownOf D) l n 0 HN.out hpos] at hR0
      have hR1 : (ring (ownOf D) l 0 (n + 1) 0 || rndF (ownOf D) l (n - 1)) = R := hR0
      have HS := Lib.hid hR1
      clear hR0 hR1 h0
      obtain ⟨x, hx⟩ : ∃ x, l[0]? = some x := ⟨_, List.getElem?_eq_getElem (by have := HN.out; omega)⟩
      obtain ⟨r, c', hv, _, _, _, _, hcell, _⟩ := own_form HO.out (by omega)
      simp only [Value.slice.injEq] at hv
      obtain ⟨rfl, -, rfl⟩ := hv
      have r0 : w.cell? ⟨r, 0, none⟩ = some (.int .i64 x.st) := hcell _ _ (by have := flat_get encTh 2 encTh_len l 0 0 x hx (by omega); simpa [encTh] using this)
      have r1 : w.cell? ⟨r, 1, none⟩ = some (.string x.tx) := hcell _ _ (by have := flat_get encTh 2 encTh_len l 0 1 x hx (by omega); simpa [encTh] using this)
      have hkey := keyOf_string_mk (P := Try.prog) (k := 9) Try.underlying9 (HSZ.out x (List.mem_of_getElem? hx))
      have HKEY := Lib.hid hkey
      have HX := Lib.hid hx
      clear hcell hkey hx
      by_cases hst : x.st = 1
      · have hw : waitsAt l 0 = some x.tx := by simp only [waitsAt]; rw [if_pos (by have := HN.out; omega)]; simp [HX.out, hst]
        have hb1 : (x.st != 1) = false := by simp [hst]
        have HW := Lib.hid hw
        clear hw hst
        rcases hhas : Maps.has D (.string x.tx.data.toList) with _ | _
        · have ho : ownOf D x.tx = none := by simp [ownOf, hhas]
          have HO2 := Lib.hid ho
          clear ho
          go_wp2_with fail
          go_step3
          go_wp2_with fail
          go_step3
          go_wp2_with (at_lookup; refine wpList_lookup_own_ok_int _ rfl _ _ 38 rfl 9 3 .i64 lawK Try.underlying38 Try.underlying3 (zeroI _) mb nm D rfl HM.out _ _ rfl HKEY.out ?_; intro ow hat hwc; have HAT := Lib.hid hat; clear hat)
          go_step3
          show J0 n mb g w (ownOf D) l R _ _
          exact ⟨rfl, rfl, rfl, rfl, ⟨1, by omega, slot_int (by omega), by have := HS.out; rw [ring_gone _ HW.out HO2.out, Bool.false_or] at this; exact this⟩, rfl⟩
        · obtain ⟨cc, hcc⟩ : ∃ cc, cc = valOf (D.atKey (.string x.tx.data.toList) (.lit (.int .i64 0))) := ⟨_, rfl⟩
          have hown : ownOf D x.tx = some cc := by simp [ownOf, hhas, hcc]
          have heq : ∀ c : Int, D.atKey (.string x.tx.data.toList) (.lit (.int .i64 0)) = .lit (.int .i64 c) → c = cc := fun c hc => by rw [hcc, hc]; rfl
          have HO2 := Lib.hid hown
          have HO3 := Lib.hid heq
          clear hown heq hcc
          by_cases hck : cc = 0
          · subst hck
            go_wp2_with fail
            go_step3
            go_wp2_with fail
            go_step3
            go_wp2_with (at_lookup; refine wpList_lookup_own_ok_int _ rfl _ _ 38 rfl 9 3 .i64 lawK Try.underlying38 Try.underlying3 (zeroI _) mb nm D rfl HM.out _ _ rfl HKEY.out ?_; intro ow hat hwc; have hoc := HO3.out ow hat; clear hat; subst hoc)
            try rw [jump2_ret]
            go_ret
            have hh : R = true := by have := HS.out; rw [ring_hit _ HW.out HO2.out, Bool.true_or] at this; exact this.symm
            exact ⟨ret_bool hh.symm, rfl⟩
          · have hcb : (cc == 0) = false := by simpa using hck
            have HCK := Lib.hid hck
            clear hck
            go_wp2_with fail
            go_step3
            go_wp2_with fail
            go_step3
            go_wp2_with (at_lookup; refine wpList_lookup_own_ok_int _ rfl _ _ 38 rfl 9 3 .i64 lawK Try.underlying38 Try.underlying3 (zeroI _) mb nm D rfl HM.out _ _ rfl HKEY.out ?_; intro ow hat hwc; have hoc := HO3.out ow hat; clear hat; subst hoc)
            go_step3
            show J1 n mb g w (ownOf D) l R _ _
            exact ⟨rfl, rfl, rfl, rfl, ⟨0, n, _, by omega, by omega, rfl, rfl, slot_int (by omega), by have := HS.out; rw [ring_on _ HW.out HO2.out HCK.out] at this; exact this⟩, rfl⟩
      · have hw : waitsAt l 0 = none := by simp only [waitsAt]; split <;> simp [HX.out, hst]
        have hb1 : (x.st != 1) = true := by simpa using hst
        have HW := Lib.hid hw
        clear hw hst
        go_wp2_with fail
        go_step3
        go_wp2_with fail
        go_step3
        go_wp2_with fail
        go_step3
        show J0 n mb g w (ownOf D) l R _ _
        exact ⟨rfl, rfl, rfl, rfl, ⟨1, by omega, slot_int (by omega), by have := HS.out; rw [ring_none _ HW.out, Bool.false_or] at this; exact this⟩, rfl⟩
  · -- label 0
    rintro a1 w1 ⟨hd, hsz1, hs0, hs1, ⟨k, hk, h5, hrn⟩, rfl⟩
    obtain ⟨tm, df⟩ := a1
    simp only at hd hsz1 hs0 hs1 h5
    subst hd
    obtain ⟨x0, x1, x2, x3, x4, x5, x6, x7, x8, x9, x10, x11, x12, x13, x14, x15, x16, x17, x18, x19, x20, x21, x22, x23, x24, x25, x26, x27, x28, x29, x30, x31, x32, x33, x34, x35, x36, x37, x38, x39, x40, x41, x42, x43, x44, x45, x46, x47, x48, x49, x50, x51, x52, x53, x54, x55, x56, x57, x58, x59, x60, x61, x62, x63, x64, x65, x66, x67, x68, x69, x70, x71, rfl⟩ := arr72 tm hsz1
    obtain rfl : x0 = _ := Option.some.inj hs0
    obtain rfl : x1 = _ := Option.some.inj hs1
    obtain rfl : x5 = _ := Option.some.inj h5
    clear hsz1 hs0 hs1 h5
    by_cases hkn : k = n
    · have hr0 : R = false := by rw [← hrn, hkn, Nat.sub_self]; rfl
      have HR0 := Lib.hid hr0
      clear hr0 hrn
      subst hkn
      go_wp2_with fail
      try rw [jump2_ret]
      go_ret
      exact ⟨ret_bool HR0.out.symm, rfl⟩
    · have hlt : k < n := by omega
      rw [rndF_step (ownOf D) l n k HN.out hlt] at hrn
      have HS := Lib.hid hrn
      clear hrn hkn hk
      obtain ⟨x, hx⟩ : ∃ x, l[k]? = some x := ⟨_, List.getElem?_eq_getElem (by have := HN.out; omega)⟩
      obtain ⟨r, c', hv, _, _, _, _, hcell, _⟩ := own_form HO.out (by omega)
      simp only [Value.slice.injEq] at hv
      obtain ⟨rfl, -, rfl⟩ := hv
      have r0 : w.cell? ⟨r, k * 2, none⟩ = some (.int .i64 x.st) := hcell _ _ (by have := flat_get encTh 2 encTh_len l k 0 x hx (by omega); simpa [encTh] using this)
      have r1 : w.cell? ⟨r, k * 2 + 1, none⟩ = some (.string x.tx) := hcell _ _ (by have := flat_get encTh 2 encTh_len l k 1 x hx (by omega); simpa [encTh] using this)
      have hkey := keyOf_string_mk (P := Try.prog) (k := 9) Try.underlying9 (HSZ.out x (List.mem_of_getElem? hx))
      have HKEY := Lib.hid hkey
      have HX := Lib.hid hx
      clear hcell hkey hx
      by_cases hst : x.st = 1
      · have hw : waitsAt l (k : Int) = some x.tx := by simp only [waitsAt]; rw [if_pos (by have := HN.out; omega)]; simp [HX.out, hst]
        have hb1 : (x.st != 1) = false := by simp [hst]
        have HW := Lib.hid hw
        clear hw hst
        rcases hhas : Maps.has D (.string x.tx.data.toList) with _ | _
        · have ho : ownOf D x.tx = none := by simp [ownOf, hhas]
          have HO2 := Lib.hid ho
          clear ho
          go_wp2_with fail
          go_step3
          go_wp2_with (at_lookup; refine wpList_lookup_own_ok_int _ rfl _ _ 38 rfl 9 3 .i64 lawK Try.underlying38 Try.underlying3 (zeroI _) mb nm D rfl HM.out _ _ rfl HKEY.out ?_; intro ow hat hwc; have HAT := Lib.hid hat; clear hat)
          go_step3
          show J0 n mb g w (ownOf D) l R _ _ ∧ mu0 n _ _ < mu0 n _ _
          exact ⟨⟨rfl, rfl, rfl, rfl, ⟨k + 1, by omega, slot_int (by omega), by have := HS.out; rw [ring_gone _ HW.out HO2.out, Bool.false_or] at this; exact this⟩, rfl⟩, mu_00 n k (by omega)⟩
        · obtain ⟨cc, hcc⟩ : ∃ cc, cc = valOf (D.atKey (.string x.tx.data.toList) (.lit (.int .i64 0))) := ⟨_, rfl⟩
          have hown : ownOf D x.tx = some cc := by simp [ownOf, hhas, hcc]
          have heq : ∀ c : Int, D.atKey (.string x.tx.data.toList) (.lit (.int .i64 0)) = .lit (.int .i64 c) → c = cc := fun c hc => by rw [hcc, hc]; rfl
          have HO2 := Lib.hid hown
          have HO3 := Lib.hid heq
          clear hown heq hcc
          by_cases hck : cc = ((k : Nat) : Int)
          · subst hck
            go_wp2_with fail
            go_step3
            go_wp2_with (at_lookup; refine wpList_lookup_own_ok_int _ rfl _ _ 38 rfl 9 3 .i64 lawK Try.underlying38 Try.underlying3 (zeroI _) mb nm D rfl HM.out _ _ rfl HKEY.out ?_; intro ow hat hwc; have hoc := HO3.out ow hat; clear hat; subst hoc)
            try rw [jump2_ret]
            go_ret
            have hh : R = true := by have := HS.out; rw [ring_hit _ HW.out HO2.out, Bool.true_or] at this; exact this.symm
            exact ⟨ret_bool hh.symm, rfl⟩
          · have hcb : (cc == ((k : Nat) : Int)) = false := by simpa using hck
            have HCK := Lib.hid hck
            clear hck
            go_wp2_with fail
            go_step3
            go_wp2_with (at_lookup; refine wpList_lookup_own_ok_int _ rfl _ _ 38 rfl 9 3 .i64 lawK Try.underlying38 Try.underlying3 (zeroI _) mb nm D rfl HM.out _ _ rfl HKEY.out ?_; intro ow hat hwc; have hoc := HO3.out ow hat; clear hat; subst hoc)
            go_step3
            show J1 n mb g w (ownOf D) l R _ _ ∧ mu1 n _ _ < mu0 n _ _
            exact ⟨⟨rfl, rfl, rfl, rfl, ⟨k, n, _, by omega, by omega, rfl, rfl, slot_int (by omega), by have := HS.out; rw [ring_on _ HW.out HO2.out HCK.out] at this; exact this⟩, rfl⟩, mu_01 n k 1 (by omega) rfl⟩
      · have hw : waitsAt l (k : Int) = none := by simp only [waitsAt]; split <;> simp [HX.out, hst]
        have hb1 : (x.st != 1) = true := by simpa using hst
        have HW := Lib.hid hw
        clear hw hst
        go_wp2_with fail
        go_step3
        go_wp2_with fail
        go_step3
        show J0 n mb g w (ownOf D) l R _ _ ∧ mu0 n _ _ < mu0 n _ _
        exact ⟨⟨rfl, rfl, rfl, rfl, ⟨k + 1, by omega, slot_int (by omega), by have := HS.out; rw [ring_none _ HW.out, Bool.false_or] at this; exact this⟩, rfl⟩, mu_00 n k (by omega)⟩
  · -- label 1
    rintro a1 w1 ⟨hd, hsz1, hs0, hs1, ⟨k, f0, t, hk, hf, h5, h6, h7, hrn⟩, rfl⟩
    obtain ⟨tm, df⟩ := a1
    simp only at hd hsz1 hs0 hs1 h5 h6 h7
    subst hd
    obtain ⟨x0, x1, x2, x3, x4, x5, x6, x7, x8, x9, x10, x11, x12, x13, x14, x15, x16, x17, x18, x19, x20, x21, x22, x23, x24, x25, x26, x27, x28, x29, x30, x31, x32, x33, x34, x35, x36, x37, x38, x39, x40, x41, x42, x43, x44, x45, x46, x47, x48, x49, x50, x51, x52, x53, x54, x55, x56, x57, x58, x59, x60, x61, x62, x63, x64, x65, x66, x67, x68, x69, x70, x71, rfl⟩ := arr72 tm hsz1
    obtain rfl : x0 = _ := Option.some.inj hs0
    obtain rfl : x1 = _ := Option.some.inj hs1
    obtain rfl : x5 = _ := Option.some.inj h5
    obtain rfl : x6 = _ := Option.some.inj h6
    obtain rfl : x7 = _ := Option.some.inj h7
    clear hsz1 hs0 hs1 h5 h6 h7
    have HS := Lib.hid hrn
    clear hrn
    by_cases ht : 0 ≤ t ∧ t < n
    · obtain ⟨j, rfl⟩ : ∃ j : Nat, t = j := ⟨t.toNat, by omega⟩
      have hj : j < n := by omega
      clear ht
      obtain ⟨x, hx⟩ : ∃ x, l[j]? = some x := ⟨_, List.getElem?_eq_getElem (by have := HN.out; omega)⟩
      obtain ⟨r, c', hv, _, _, _, _, hcell, _⟩ := own_form HO.out (by omega)
      simp only [Value.slice.injEq] at hv
      obtain ⟨rfl, -, rfl⟩ := hv
      have r0 : w.cell? ⟨r, j * 2, none⟩ = some (.int .i64 x.st) := hcell _ _ (by have := flat_get encTh 2 encTh_len l j 0 x hx (by omega); simpa [encTh] using this)
      have r1 : w.cell? ⟨r, j * 2 + 1, none⟩ = some (.string x.tx) := hcell _ _ (by have := flat_get encTh 2 encTh_len l j 1 x hx (by omega); simpa [encTh] using this)
      have hkey := keyOf_string_mk (P := Try.prog) (k := 9) Try.underlying9 (HSZ.out x (List.mem_of_getElem? hx))
      have HKEY := Lib.hid hkey
      have HX := Lib.hid hx
      clear hcell hkey hx
      by_cases hf0 : f0 = 0
      · subst hf0
        have hw2 : x.st = 1 ∨ ¬ x.st = 1 := by omega
        rcases hw2 with hst | hst
        · have hb1 : (x.st != 1) = false := by simp [hst]
          clear hst
          go_wp2_with fail
          go_step3
          show J0 n mb g w (ownOf D) l R _ _ ∧ mu0 n _ _ < mu1 n _ _
          exact ⟨⟨rfl, rfl, rfl, rfl, ⟨k + 1, by omega, slot_int (by omega), by have := HS.out; rw [ring, Bool.false_or] at this; exact this⟩, rfl⟩, mu_10 _ _⟩
        · have hb1 : (x.st != 1) = true := by simp [hst]
          clear hst
          go_wp2_with fail
          go_step3
          show J0 n mb g w (ownOf D) l R _ _ ∧ mu0 n _ _ < mu1 n _ _
          exact ⟨⟨rfl, rfl, rfl, rfl, ⟨k + 1, by omega, slot_int (by omega), by have := HS.out; rw [ring, Bool.false_or] at this; exact this⟩, rfl⟩, mu_10 _ _⟩
      · obtain ⟨f, rfl⟩ : ∃ f, f0 = f + 1 := ⟨f0 - 1, by omega⟩
        clear hf0
        by_cases hst : x.st = 1
        · have hw : waitsAt l (j : Int) = some x.tx := by simp only [waitsAt]; rw [if_pos (by have := HN.out; omega)]; simp [HX.out, hst]
          have hb1 : (x.st != 1) = false := by simp [hst]
          have HW := Lib.hid hw
          clear hw hst
          rcases hhas : Maps.has D (.string x.tx.data.toList) with _ | _
          · have ho : ownOf D x.tx = none := by simp [ownOf, hhas]
            have HO2 := Lib.hid ho
            clear ho
            go_wp2_with (at_lookup; refine wpList_lookup_own_ok_int _ rfl _ _ 38 rfl 9 3 .i64 lawK Try.underlying38 Try.underlying3 (zeroI _) mb nm D rfl HM.out _ _ rfl HKEY.out ?_; intro ow hat hwc; have HAT := Lib.hid hat; clear hat)
            go_step3
            show J0 n mb g w (ownOf D) l R _ _ ∧ mu0 n _ _ < mu1 n _ _
            exact ⟨⟨rfl, rfl, rfl, rfl, ⟨k + 1, by omega, slot_int (by omega), by have := HS.out; rw [ring_gone _ HW.out HO2.out, Bool.false_or] at this; exact this⟩, rfl⟩, mu_10 _ _⟩
          · obtain ⟨cc, hcc⟩ : ∃ cc, cc = valOf (D.atKey (.string x.tx.data.toList) (.lit (.int .i64 0))) := ⟨_, rfl⟩
            have hown : ownOf D x.tx = some cc := by simp [ownOf, hhas, hcc]
            have heq : ∀ c : Int, D.atKey (.string x.tx.data.toList) (.lit (.int .i64 0)) = .lit (.int .i64 c) → c = cc := fun c hc => by rw [hcc, hc]; rfl
            have HO2 := Lib.hid hown
            have HO3 := Lib.hid heq
            clear hown heq hcc
            by_cases hck : cc = ((k : Nat) : Int)
            · subst hck
              go_wp2_with (at_lookup; refine wpList_lookup_own_ok_int _ rfl _ _ 38 rfl 9 3 .i64 lawK Try.underlying38 Try.underlying3 (zeroI _) mb nm D rfl HM.out _ _ rfl HKEY.out ?_; intro ow hat hwc; have hoc := HO3.out ow hat; clear hat; subst hoc)
              try rw [jump2_ret]
              go_ret
              have hh : R = true := by have := HS.out; rw [ring_hit _ HW.out HO2.out, Bool.true_or] at this; exact this.symm
              exact ⟨ret_bool hh.symm, rfl⟩
            · have hcb : (cc == ((k : Nat) : Int)) = false := by simpa using hck
              have HCK := Lib.hid hck
              clear hck
              go_wp2_with (at_lookup; refine wpList_lookup_own_ok_int _ rfl _ _ 38 rfl 9 3 .i64 lawK Try.underlying38 Try.underlying3 (zeroI _) mb nm D rfl HM.out _ _ rfl HKEY.out ?_; intro ow hat hwc; have hoc := HO3.out ow hat; clear hat; subst hoc)
              go_step3
              show J1 n mb g w (ownOf D) l R _ _ ∧ mu1 n _ _ < mu1 n _ _
              exact ⟨⟨rfl, rfl, rfl, rfl, ⟨k, f, _, by omega, by omega, rfl, rfl, slot_int (by omega), by have := HS.out; rw [ring_on _ HW.out HO2.out HCK.out] at this; exact this⟩, rfl⟩, mu_11 _ n f _ (by first | (simp [intOf]; done) | (simp [intOf]; omega)) (by omega)⟩
        · have hw : waitsAt l (j : Int) = none := by simp only [waitsAt]; split <;> simp [HX.out, hst]
          have hb1 : (x.st != 1) = true := by simpa using hst
          have HW := Lib.hid hw
          clear hw hst
          go_wp2_with fail
          go_step3
          show J0 n mb g w (ownOf D) l R _ _ ∧ mu0 n _ _ < mu1 n _ _
          exact ⟨⟨rfl, rfl, rfl, rfl, ⟨k + 1, by omega, slot_int (by omega), by have := HS.out; rw [ring_none _ HW.out, Bool.false_or] at this; exact this⟩, rfl⟩, mu_10 _ _⟩
    · have hw : waitsAt l t = none := by simp only [waitsAt]; rw [if_neg (by have := HN.out; omega)]
      have HW := Lib.hid hw
      clear hw
      rcases (by omega : t < 0 ∨ (0 ≤ t ∧ (n : Int) ≤ t)) with h1 | ⟨h0, h1⟩
      · clear ht
        go_wp2_with fail
        go_step3
        show J0 n mb g w (ownOf D) l R _ _ ∧ mu0 n _ _ < mu1 n _ _
        exact ⟨⟨rfl, rfl, rfl, rfl, ⟨k + 1, by omega, slot_int (by omega), by have := HS.out; rw [ring_none _ HW.out, Bool.false_or] at this; exact this⟩, rfl⟩, mu_10 _ _⟩
      · clear ht
        go_wp2_with fail
        go_step3
        show J0 n mb g w (ownOf D) l R _ _ ∧ mu0 n _ _ < mu1 n _ _
        exact ⟨⟨rfl, rfl, rfl, rfl, ⟨k + 1, by omega, slot_int (by omega), by have := HS.out; rw [ring_none _ HW.out, Bool.false_or] at this; exact this⟩, rfl⟩, mu_10 _ _⟩
end
end Go.Proofs.Yteahbpcimnaioaa
