/-
  The document's Round by contract.
-/
import Derived.Test.YteahbpcimnaioaaRing
namespace Go.Proofs.Yteahbpcimnaioaa
open Go.RowKit Go.Maps
set_option maxRecDepth 100000

theorem str_ne {a b : ByteArray} (h : a ≠ b) : (a.toList == b.toList) = false := by
  rw [beq_eq_false_iff_ne]
  intro e
  rw [ByteArray.toList_eq, ByteArray.toList_eq] at e
  exact h (ByteArray.ext (Array.toList_inj.1 e))

/-- The owner of a class by two rows. -/
def ownL (ps : List (ByteArray × Int)) (s : ByteArray) : Option Int := (ps.find? fun p => decide (p.1 = s)).map (·.2)
theorem ownL_skip {ps : List (ByteArray × Int)} {s : ByteArray} {k : Nat} {p : ByteArray × Int} (h : ownL (ps.drop k) s = ownL ps s) (hp : ps[k]? = some p) (hne : p.1 ≠ s) : ownL (ps.drop (k + 1)) s = ownL ps s := by
  obtain ⟨hk, rfl⟩ := List.getElem?_eq_some_iff.1 hp
  rw [← h]
  unfold ownL
  rw [List.drop_eq_getElem_cons hk, List.find?_cons_of_neg (by simpa using hne)]
theorem ownL_hit {ps : List (ByteArray × Int)} {s : ByteArray} {k : Nat} {p : ByteArray × Int} (h : ownL (ps.drop k) s = ownL ps s) (hp : ps[k]? = some p) (he : p.1 = s) : ownL ps s = some p.2 := by
  obtain ⟨hk, rfl⟩ := List.getElem?_eq_some_iff.1 hp
  rw [← h]
  unfold ownL
  rw [List.drop_eq_getElem_cons hk, List.find?_cons_of_pos (by simpa using he)]
  rfl
theorem ownL_end {ps : List (ByteArray × Int)} {s : ByteArray} {k : Nat} (h : ownL (ps.drop k) s = ownL ps s) (hk : ps.length ≤ k) : ownL ps s = none := by
  rw [← h, List.drop_eq_nil_of_le hk]
  rfl

theorem ref15_Owner (w : World) (x0 x1 : Value) (ps : List (ByteArray × Int)) (s : ByteArray) (h0 : Rd w 1 x0 ps.length (ps.map fun p => .string p.1)) (h1 : Rd w 1 x1 ps.length (ps.map fun p => .int .i64 p.2)) (hl : ps.length ≤ 16) :
    Calls Try.prog 20 #[x0, x1, .string s] w fun e w' => e = .returned (.int .i64 ((ownL ps s).getD (-1))) ∧ w = w' := by
  obtain ⟨m, hm⟩ : ∃ m, m = ps.length := ⟨_, rfl⟩
  rw [← hm] at h0 h1 hl
  obtain ⟨-, a0, c0, rfl, p0, p1, g0⟩ := h0
  obtain ⟨-, a1, c1, rfl, q0, q1, g1⟩ := h1
  obtain ⟨r, hr⟩ : ∃ r, r = (ownL ps s).getD (-1) := ⟨_, rfl⟩
  rw [← hr]
  have HM := Lib.hid hm
  have HR := Lib.hid hr
  have G0 := Lib.hid g0
  have G1 := Lib.hid g1
  clear hm hr g0 g1
  go_enter Try.func20, Try.ntmps20
  go_wp2_with fail
  go_loopw [7] (fun s7 wr => ∃ k : Nat, k ≤ m ∧ s7 = .int .i64 k ∧ ownL (ps.drop k) s = ownL ps s ∧ w = wr) (fun s7 _ => m - (intOf s7).toNat)
  case atStart => exact ⟨0, by omega, rfl, rfl, rfl⟩
  case round =>
    obtain ⟨k, hk, rfl, hd, rfl⟩ := hrel
    have HD := Lib.hid hd
    clear hd
    by_cases hlt : k < m
    · obtain ⟨p, hp⟩ : ∃ p, ps[k]? = some p := ⟨_, List.getElem?_eq_getElem (by have := HM.out; omega)⟩
      obtain ⟨b0, o0, rfl, hc0⟩ := G0.out (by omega)
      obtain ⟨b1, o1, rfl, hc1⟩ := G1.out (by omega)
      have z0 := hc0 k (.string p.1) (by rw [List.getElem?_map, hp]; rfl)
      have z1 := hc1 k (.int .i64 p.2) (by rw [List.getElem?_map, hp]; rfl)
      have HP := Lib.hid hp
      clear hc0 hc1 hp
      by_cases he : p.1 = s
      · have hv : r = p.2 := by rw [HR.out, ownL_hit HD.out HP.out he]; rfl
        have HV := Lib.hid hv
        rw [he] at z0
        clear hv he
        go_wp2
        go_ret
        exact ⟨by rw [HV.out]; rfl, rfl⟩
      · have hb := str_ne he
        have HE := Lib.hid he
        clear he
        go_wp2
        go_roundw
        case rel => exact ⟨k + 1, by omega, by go_num, ownL_skip HD.out HP.out HE.out, trivial⟩
        case measure => simp [intOf]; omega
    · have hv : r = -1 := by rw [HR.out, ownL_end HD.out (by have := HM.out; omega)]; rfl
      have HV := Lib.hid hv
      clear hv
      go_wp2
      go_ret
      exact ⟨by rw [HV.out]; rfl, rfl⟩

/-- One round of the document's inner loop. -/
theorem ring_step {ps : List (ByteArray × Int)} {l : List Th} {i t : Int} {f : Nat} {s : ByteArray} (h : waitsAt l t = some s) (hi : 0 ≤ i) (hne : (ownL ps s).getD (-1) ≠ i) : ring (ownL ps) l i (f + 1) t = ring (ownL ps) l i f ((ownL ps s).getD (-1)) := by
  cases ho : ownL ps s with
  | none =>
    rw [ring_gone _ h ho]
    exact (ring_none f (by simp [waitsAt])).symm
  | some t' =>
    rw [ho] at hne
    exact ring_on f h ho hne
theorem ring_yes {ps : List (ByteArray × Int)} {l : List Th} {i t : Int} {f : Nat} {s : ByteArray} (h : waitsAt l t = some s) (hi : 0 ≤ i) (he : (ownL ps s).getD (-1) = i) : ring (ownL ps) l i (f + 1) t = true := by
  cases ho : ownL ps s with
  | none => rw [ho] at he; simp at he; omega
  | some t' => rw [ho] at he; exact ring_hit f h (by rw [ho]; exact congrArg some he)

set_option maxHeartbeats 1000000 in
theorem ref15_Round (B : Nat) (w : World) (p : Value) (l : List Th) (g : Nat) (v : Value) (x0 x1 : Value) (ps : List (ByteArray × Int)) (h : RTab B w p l g v) (hl : l.length ≤ 16) (h0 : Rd w 1 x0 ps.length (ps.map fun p => .string p.1)) (h1 : Rd w 1 x1 ps.length (ps.map fun p => .int .i64 p.2)) (hps : ps.length ≤ 16) :
    Calls Try.prog 13 #[p, x0, x1] w fun e w' => e = .returned (.bool (roundB (ownL ps) l)) ∧ w = w' := by
  have hp := h.ptr
  subst hp
  have HOW := Lib.hid (fun s => ref15_Owner w x0 x1 ps s h0 h1 hps)
  obtain ⟨n, hn⟩ : ∃ n, n = l.length := ⟨_, rfl⟩
  obtain ⟨R, hR⟩ : ∃ R, R = roundB (ownL ps) l := ⟨_, rfl⟩
  rw [← hR]
  obtain ⟨-, hb, ho, hB⟩ := h
  rw [← hn] at ho hl
  obtain ⟨a, c, rfl, hlc, hc⟩ := own_slice ho
  have c0 := hb.cell 0
  simp at c0
  have HO := Lib.hid ho
  have HN := Lib.hid hn
  have HR := Lib.hid hR
  obtain ⟨a0, d0, rfl, -, -⟩ : ∃ a c, x0 = .slice a ps.length c ∧ True ∧ True := by obtain ⟨-, a, c, e, _⟩ := h0; exact ⟨a, c, e, trivial, trivial⟩
  obtain ⟨a1, d1, rfl, -, -⟩ : ∃ a c, x1 = .slice a ps.length c ∧ True ∧ True := by obtain ⟨-, a, c, e, _⟩ := h1; exact ⟨a, c, e, trivial, trivial⟩
  clear hb ho hn hR h0 h1
  go_enter Try.func13, Try.ntmps13
  go_wp2_with fail
  go_loop [7] (fun s7 => ∃ k : Nat, k ≤ n ∧ s7 = .int .i64 k ∧ rndF (ownL ps) l (n - k) = R) (fun s7 => n - (intOf s7).toNat)
  case atStart => exact ⟨0, by omega, rfl, by rw [HR.out, roundB, ← HN.out]; rfl⟩
  case round =>
    obtain ⟨k, hk, rfl, hd⟩ := hrel
    have HD := Lib.hid hd
    clear hd
    by_cases hlt : k < n
    · have hst := rndF_step (ownL ps) l n k HN.out hlt
      have HST := Lib.hid hst
      clear hst
      go_wp2_with fail
      go_loop [8, 9] (fun s8 s9 => ∃ (f : Nat) (t : Int), f ≤ n + 1 ∧ s8 = .int .i64 t ∧ s9 = .int .i64 ((n : Int) + 1 - f) ∧ ring (ownL ps) l k f t = ring (ownL ps) l k (n + 1) k) (fun _ s9 => n + 1 - (intOf s9).toNat)
      case atStart => exact ⟨n + 1, k, Nat.le_refl _, rfl, by go_num, rfl⟩
      case round =>
        obtain ⟨f, t, hf, rfl, rfl, hr⟩ := hrel
        have HRG := Lib.hid hr
        clear hr
        cases f with
        | zero =>
          have hz : ring (ownL ps) l k (n + 1) k = false := HRG.out.symm
          have HN1 := Lib.hid (show rndF (ownL ps) l (n - (k + 1)) = R by rw [← HD.out, HST.out, hz, Bool.false_or, Nat.sub_sub])
          clear hz
          go_wp2_with fail
          go_round
          case rel => exact ⟨k + 1, by omega, by go_num, HN1.out⟩
          case measure => simp [intOf]; omega
        | succ f =>
          cases hw : waitsAt l t with
          | none =>
            have hz : ring (ownL ps) l k (n + 1) k = false := by rw [← HRG.out]; exact ring_none _ hw
            have HN1 := Lib.hid (show rndF (ownL ps) l (n - (k + 1)) = R by rw [← HD.out, HST.out, hz, Bool.false_or, Nat.sub_sub])
            clear hz
            by_cases hin : 0 ≤ t ∧ t < n
            · obtain ⟨j, rfl⟩ : ∃ j : Nat, t = j := ⟨t.toNat, by omega⟩
              obtain ⟨x, hx⟩ : ∃ x, l[j]? = some x := ⟨_, List.getElem?_eq_getElem (by have := HN.out; omega)⟩
              have hst1 : ¬ x.st = 1 := by
                rw [waitsAt_at hx] at hw
                intro e
                rw [if_pos e] at hw
                cases hw
              have hst2 : (x.st != 1) = true := by simpa using hst1
              obtain ⟨gb, cb, hv, _, _, _, _, hcell, _⟩ := own_form HO.out (by omega)
              simp only [Value.slice.injEq] at hv
              obtain ⟨rfl, -, rfl⟩ := hv
              have z0 := hcell (j * 2) (.int .i64 x.st) (by have := flat_get encTh 2 encTh_len l j 0 x hx (by omega); simpa [encTh] using this)
              clear hcell hx hw
              go_wp2_with fail
              go_round
              case rel => exact ⟨k + 1, by omega, by go_num, HN1.out⟩
              case measure => simp [intOf]; omega
            · clear hw
              rcases (by omega : t < 0 ∨ (¬ t < 0 ∧ (n : Int) ≤ t)) with h1 | ⟨h0, h1⟩
              all_goals
                clear hin
                go_wp2_with fail
                go_round
                case rel => exact ⟨k + 1, by omega, by go_num, HN1.out⟩
                case measure => simp [intOf]; omega
          | some s =>
            have hin : 0 ≤ t ∧ t < l.length := by
              unfold waitsAt at hw
              split at hw
              · assumption
              · cases hw
            obtain ⟨j, rfl⟩ : ∃ j : Nat, t = j := ⟨t.toNat, by omega⟩
            have hjn : j < n := by have := HN.out; omega
            obtain ⟨x, hx⟩ : ∃ x, l[j]? = some x := ⟨_, List.getElem?_eq_getElem (by have := HN.out; omega)⟩
            have hxs : x.st = 1 ∧ x.tx = s := by
              rw [waitsAt_at hx] at hw
              by_cases e : x.st = 1
              · rw [if_pos e] at hw; exact ⟨e, by simpa using hw⟩
              · rw [if_neg e] at hw; cases hw
            have HW := Lib.hid hw
            obtain ⟨gb, cb, hv, _, _, _, _, hcell, _⟩ := own_form HO.out (by omega)
            simp only [Value.slice.injEq] at hv
            obtain ⟨rfl, -, rfl⟩ := hv
            have z0 := hcell (j * 2) (.int .i64 x.st) (by have := flat_get encTh 2 encTh_len l j 0 x hx (by omega); simpa [encTh] using this)
            have z1 := hcell (j * 2 + 1) (.string x.tx) (by have := flat_get encTh 2 encTh_len l j 1 x hx (by omega); simpa [encTh] using this)
            rw [hxs.1] at z0
            rw [hxs.2] at z1
            clear hcell hx hw hin hxs
            obtain ⟨t', ht'⟩ : ∃ t', t' = (ownL ps s).getD (-1) := ⟨_, rfl⟩
            have hC := HOW.out s
            rw [← ht'] at hC
            have HC := Lib.hid hC
            have HT := Lib.hid ht'
            clear hC ht'
            by_cases he : t' = (k : Int)
            · have hz : R = true := by
                have h1 := ring_yes (ps := ps) (l := l) (f := f) HW.out (Int.natCast_nonneg k) (HT.out.symm.trans he)
                rw [HRG.out] at h1
                rw [← HD.out, HST.out, h1, Bool.true_or]
              have HZ := Lib.hid hz
              subst he
              clear hz
              go_wp2_with fail
              refine HC.out.mono ?_
              rintro e w' ⟨rfl, rfl⟩
              go_wp2_with fail
              go_ret
              exact ⟨by rw [HZ.out]; rfl, rfl⟩
            · have hb : (t' == (k : Int)) = false := by simpa using he
              have h2 := ring_step (ps := ps) (l := l) (f := f) HW.out (Int.natCast_nonneg k) (fun e => he (HT.out.trans e))
              rw [← HT.out] at h2
              have H2 := Lib.hid (h2.symm.trans HRG.out)
              clear h2
              go_wp2_with fail
              refine HC.out.mono ?_
              rintro e w' ⟨rfl, rfl⟩
              go_wp2_with fail
              go_round
              case rel => exact ⟨f, t', by omega, rfl, by go_num, H2.out⟩
              case measure => simp [intOf]; omega
    · have hz : R = false := by rw [← HD.out, show n - k = 0 by omega]; rfl
      have HZ := Lib.hid hz
      clear hz
      go_wp2_with fail
      go_ret
      exact ⟨by rw [HZ.out]; rfl, rfl⟩
end Go.Proofs.Yteahbpcimnaioaa
