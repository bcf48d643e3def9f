/-
  The document's own reader of class files by contract: count, attribute.
-/
import Derived.Test.YtlipdifhdaaknaaFr3
namespace Go.Proofs.Ytlipdifhdaaknaa
open Go.RowKit
set_option maxRecDepth 100000

theorem num_eq2 (L : List UInt8) (q : QS) : ∃ v q1, numQ L 2 q = (v, q1) ∧ q1.c = q.c ∧ 0 ≤ v ∧ v < 65536 := ⟨_, _, rfl, num_c L 2 q, (num_lt L 2 q).1, (num_lt L 2 q).2⟩
theorem num_eq1 (L : List UInt8) (q : QS) : ∃ v q1, numQ L 1 q = (v, q1) ∧ q1.c = q.c ∧ 0 ≤ v ∧ v < 256 := ⟨_, _, rfl, num_c L 1 q, (num_lt L 1 q).1, (num_lt L 1 q).2⟩
theorem num_eq4 (L : List UInt8) (q : QS) : ∃ v q1, numQ L 4 q = (v, q1) ∧ q1.c = q.c ∧ 0 ≤ v ∧ v < 4294967296 := ⟨_, _, rfl, num_c L 4 q, (num_lt L 4 q).1, (num_lt L 4 q).2⟩
theorem bytes_eq (L : List UInt8) (n : Int) (q : QS) : ∃ l q1, bytesQ L n q = (l, q1) ∧ q1.c = q.c := ⟨_, _, rfl, bytes_c L n q⟩
theorem RG.trans {g : Nat} {L : List UInt8} {vb vP vI vF vM vP' vI' vF' vM' : Value} {q q' : QS} {w w1 w2 : World} (h : RG g L vb vP vI vF vM q w w1) (k : RG g L vb vP' vI' vF' vM' q' w1 w2) : RG g L vb vP' vI' vF' vM' q' w w2 := ⟨k.1, h.2.trans k.2 fun b hb => .inl hb⟩
theorem RG.refl {g : Nat} {L : List UInt8} {vb vP vI vF vM : Value} {q : QS} {w : World} (h : RX w g L vb vP vI vF vM q) : RG g L vb vP vI vF vM q w w := ⟨h, Touch.refl _ _⟩
theorem RG.drewN {g : Nat} {L : List UInt8} {vb vP vI vF vM : Value} {q : QS} {w w1 : World} (h : RG g L vb vP vI vF vM q w w1) (n : Nat) : RG g L vb vP vI vF vM q w (w1.drewN n) := ⟨h.1.drewN n, h.2.drewN n⟩
theorem RG.same {g : Nat} {L : List UInt8} {vb vP vI vF vM : Value} {q : QS} {w w1 w2 : World} (h : RG g L vb vP vI vF vM q w w1) (ht : Touch (fun _ => False) w1 w2) : RG g L vb vP vI vF vM q w w2 := ⟨h.1.same ht fun _ e => e.elim, h.2.trans ht fun _ e => e.elim⟩
set_option maxHeartbeats 2000000 in
theorem ref3_count (g : Nat) (L : List UInt8) (vb vP vI vF vM : Value) (q : QS) (m : Int) (w : World) (h : RX w g L vb vP vI vF vM q) :
    Calls Try.prog 20 #[.pointer (some ⟨g, 0, none⟩), .int .i64 m] w fun e w' => e = .returned (.int .i64 (countQ L m q).1) ∧ RG g L vb vP vI vF vM (countQ L m q).2 w w' := by
  obtain ⟨v, q1, hv, hc, hv0, hv1⟩ := num_eq2 L q
  have C := ref3_num g L vb vP vI vF vM q 2 w h (by omega) 2 rfl
  rw [hv] at C
  unfold countQ
  rw [hv]
  have c1 := h.c1
  have hat := h.at_
  have hlen := h.len
  clear h hv
  by_cases hm : m < v
  · rw [if_pos hm]
    go_enter Try.func20, Try.ntmps20
    go_wp2_with fail
    refine C.mono ?_
    rintro e w1 ⟨rfl, hr⟩
    have HR := Lib.hid hr
    clear hr C
    go_wp2_with fail
    refine (ref3_fail g L vb vP vI vF vM q1 _ _ _ HR.out.1).mono ?_
    rintro e w2 ⟨rfl, hr⟩
    have HR2 := Lib.hid (HR.out.trans hr)
    clear hr
    go_wp2_with fail
    go_ret
    exact ⟨rfl, HR2.out⟩
  · rw [if_neg hm]
    go_enter Try.func20, Try.ntmps20
    go_wp2_with fail
    refine C.mono ?_
    rintro e w1 ⟨rfl, hr⟩
    have HR := Lib.hid hr
    clear hr C
    go_wp2_with fail
    go_ret
    exact ⟨rfl, HR.out⟩
theorem text_cases (pool : List ConstC) (n : Int) : (textAt pool n = none ∧ (n < 1 ∨ (pool.length : Int) < n ∨ ∃ (i : Nat) (c : ConstC), n = (i : Int) + 1 ∧ pool[i]? = some c ∧ ¬ c.tag = 1)) ∨
    ∃ (i : Nat) (c : ConstC), n = (i : Int) + 1 ∧ pool[i]? = some c ∧ c.tag = 1 ∧ textAt pool n = some c.text := by
  unfold textAt
  by_cases h1 : n < 1
  · rw [if_neg (by omega)]
    exact .inl ⟨rfl, .inl h1⟩
  obtain ⟨i, rfl⟩ : ∃ i : Nat, n = (i : Int) + 1 := ⟨(n - 1).toNat, by omega⟩
  rw [if_pos (by omega), show ((i : Int) + 1).toNat - 1 = i by omega]
  cases hp : pool[i]? with
  | none =>
    refine .inl ⟨rfl, .inr (.inl ?_)⟩
    have := List.getElem?_eq_none_iff.1 hp
    omega
  | some c =>
    dsimp only
    by_cases ht : c.tag = 1
    · rw [if_pos ht]
      exact .inr ⟨i, c, rfl, hp, ht, rfl⟩
    · rw [if_neg ht]
      exact .inl ⟨rfl, .inr (.inr ⟨i, c, rfl, hp, ht⟩)⟩
/-- What attribute hands back. -/
def AttrQ (g : Nat) (L : List UInt8) (vb vP vI vF vM : Value) (w : World) (r : ByteArray × QS) (e : Ending) (w' : World) : Prop := e = .returned (.string r.1) ∧ RG g L vb vP vI vF vM r.2 w w'
set_option maxHeartbeats 4000000 in
theorem ref3_attribute (g : Nat) (L : List UInt8) (vb vP vI vF vM : Value) (q : QS) (w : World) (h : RX w g L vb vP vI vF vM q) :
    Calls Try.prog 35 #[.pointer (some ⟨g, 0, none⟩)] w (AttrQ g L vb vP vI vF vM w (attrQ L q)) := by
  obtain ⟨n, q1, hv, hc, hv0, hv1⟩ := num_eq2 L q
  have C := ref3_num g L vb vP vI vF vM q 2 w h (by omega) 2 rfl
  rw [hv] at C
  unfold attrQ
  rw [hv]
  dsimp only
  have c1 := h.c1
  have hat := h.at_
  have hlen := h.len
  have HC := Lib.hid hc
  clear h hv hc
  by_cases he : q1.e = 0
  rotate_left
  · rw [if_neg he]
    have he' := int_ne he
    have HE := Lib.hid he
    clear he
    go_enter Try.func35, Try.ntmps35
    go_wp2_with fail
    refine C.mono ?_
    rintro e w1 ⟨rfl, hr⟩
    have HR := Lib.hid hr
    have e2 := hr.1.c2
    clear hr C
    go_wp2_with fail
    go_ret
    exact ⟨rfl, HR.out⟩
  rw [if_pos he]
  have HE := Lib.hid he
  clear he
  have hbad : ∀ w1, RG g L vb vP vI vF vM q1 w w1 → ∃ k : Int, ¬ k = 0 ∧ failQ q1 q.at_ 20 = { q1 with e := k, bad := q.at_ } := fun w1 _ => ⟨20, by decide, fail_in HE.out _ _⟩
  rcases text_cases q.c.pool n with ⟨ht, hn⟩ | ⟨i, c, rfl, hp, htag, ht⟩
  · rw [ht]
    dsimp only
    have HF := Lib.hid (fail_in HE.out (q.at_ : Int) 20)
    rcases hn with hn | hn | ⟨i, c, rfl, hp, htag⟩
    · clear ht hbad
      go_enter Try.func35, Try.ntmps35
      go_wp2_with fail
      refine C.mono ?_
      rintro e w1 ⟨rfl, hr⟩
      have HR := Lib.hid hr
      have e2 := hr.1.c2
      rw [HE.out] at e2
      clear hr C
      go_wp2_with fail
      refine (ref3_fail g L vb vP vI vF vM q1 _ _ _ HR.out.1).mono ?_
      rintro e w2 ⟨rfl, hr⟩
      have HR2 := Lib.hid (HR.out.trans hr)
      have e3 := hr.1.c2
      rw [HF.out] at e3
      clear hr e2
      go_wp2_with fail
      go_ret
      exact ⟨rfl, HR2.out⟩
    · have hn1 : ¬ n < 1 := by omega
      clear ht hbad
      go_enter Try.func35, Try.ntmps35
      go_wp2_with fail
      refine C.mono ?_
      rintro e w1 ⟨rfl, hr⟩
      have HR := Lib.hid hr
      have e2 := hr.1.c2
      have e8 := hr.1.cell 8 _ rfl
      obtain ⟨ap, kp, rfl⟩ := pool_form hr.1.rp
      rw [HE.out] at e2
      rw [HC.out] at e8
      clear hr C
      go_wp2_with fail
      refine (ref3_fail g L vb _ vI vF vM q1 _ _ _ HR.out.1).mono ?_
      rintro e w2 ⟨rfl, hr⟩
      have HR2 := Lib.hid (HR.out.trans hr)
      have e3 := hr.1.c2
      rw [HF.out] at e3
      clear hr e2
      go_wp2_with fail
      go_ret
      exact ⟨rfl, HR2.out⟩
    · have hil := (List.getElem?_eq_some_iff.1 hp).1
      have h1 : ¬ (i : Int) + 1 < 1 := by omega
      have h2 : ¬ (q.c.pool.length : Int) < (i : Int) + 1 := by omega
      have h3 : IntKind.i64.wrap ((i : Int) + 1 - 1) = (i : Int) := by rw [show (i : Int) + 1 - 1 = i by omega]; exact IntWalk.i64_in _ (by omega)
      have h4 : (i : Int) < (q.c.pool.length : Int) := by omega
      have h5 : (0 : Int) ≤ (i : Int) := by omega
      obtain ⟨tag, text, num, ca, cb⟩ := c
      have e1 : (tag != 1) = true := by simpa using htag
      have HP := Lib.hid hp
      clear ht hbad hp htag
      go_enter Try.func35, Try.ntmps35
      go_wp2_with fail
      refine C.mono ?_
      rintro e w1 ⟨rfl, hr⟩
      have HR := Lib.hid hr
      have e2 := hr.1.c2
      have e8 := hr.1.cell 8 _ rfl
      have hrp := hr.1.rp
      rw [HC.out] at hrp
      obtain ⟨b, off, k, rfl, x0, x1⟩ := pool_cell hrp HP.out
      rw [HE.out] at e2
      dsimp only at x0 x1
      clear hr C hrp
      go_wp2_with fail
      refine (ref3_fail g L vb _ vI vF vM q1 _ _ _ HR.out.1).mono ?_
      rintro e w2 ⟨rfl, hr⟩
      have HR2 := Lib.hid (HR.out.trans hr)
      have e3 := hr.1.c2
      rw [HF.out] at e3
      clear hr e2 x0 x1
      go_wp2_with fail
      go_ret
      exact ⟨rfl, HR2.out⟩
  · rw [ht]
    dsimp only
    have hil := (List.getElem?_eq_some_iff.1 hp).1
    have h1 : ¬ (i : Int) + 1 < 1 := by omega
    have h2 : ¬ (q.c.pool.length : Int) < (i : Int) + 1 := by omega
    have h3 : IntKind.i64.wrap ((i : Int) + 1 - 1) = (i : Int) := by rw [show (i : Int) + 1 - 1 = i by omega]; exact IntWalk.i64_in _ (by omega)
    have h4 : (i : Int) < (q.c.pool.length : Int) := by omega
    have h5 : (0 : Int) ≤ (i : Int) := by omega
    obtain ⟨tag, text, num, ca, cb⟩ := c
    dsimp only at htag ⊢
    subst htag
    have HP := Lib.hid hp
    clear ht hbad hp
    go_enter Try.func35, Try.ntmps35
    go_wp2_with fail
    refine C.mono ?_
    rintro e w1 ⟨rfl, hr⟩
    have HR := Lib.hid hr
    have e2 := hr.1.c2
    have e8 := hr.1.cell 8 _ rfl
    have hrp := hr.1.rp
    rw [HC.out] at hrp
    obtain ⟨b, off, k, rfl, x0, x1⟩ := pool_cell hrp HP.out
    rw [HE.out] at e2
    dsimp only at x0 x1
    clear hr C hrp
    go_upto_if 42 with fail
    have h6 : (i : Int) ≤ 65535 := by omega
    clear hv1 hv0
    go_upto_region 5 with fail
    go_upto_region 7 with fail
    clear h2 h1
    go_wp2_with fail
    go_ret
    exact ⟨rfl, HR.out⟩
end Go.Proofs.Ytlipdifhdaaknaa
