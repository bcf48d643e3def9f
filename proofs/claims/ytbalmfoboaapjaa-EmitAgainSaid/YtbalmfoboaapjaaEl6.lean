/-
  The law EmitAgain: its walk.
-/
import Derived.Test.YtbalmfoboaapjaaEl3
import Derived.Test.YtbalmfoboaapjaaFileF
import Derived.Test.YtbalmfoboaapjaaEm4
import Derived.Deep.RegionHeld2
namespace Go.Proofs.Ytbalmfoboaapjaa
open Go.RowKit
set_option maxRecDepth 100000

theorem CR.rd4 {base : Nat} {c : ClassC} {mv : List (MethC × Value × Value)} {vP vI vF vM : Value} {w : World} (h : CR base c mv vP vI vF vM w) : CRd w c mv vP vI vF vM :=
  ⟨Rd.of_own h.p, Rd.of_own h.i, Rd.of_own h.f, Rd.of_own h.m, fun x hx => ⟨Rd.of_own (h.r x hx).code, Rd.of_own (h.r x hx).traps⟩, h.ms⟩
/-- What 'e' says, its class written out. -/
def ReadV4 (C : ClassC) (p k : Int) (w : World) (e : Ending) (w' : World) : Prop :=
  ∃ cv cP cI cF cM cp ci cf cm, e = .returned (.tuple #[.agg #[.int .i64 C.minor, .int .i64 C.major, .slice cP C.pool.length cp, .int .i64 C.access, .int .i64 C.this, .int .i64 C.super, .slice cI C.ifaces.length ci, .slice cF C.fields.length cf, .slice cM cv.length cm], .int .i64 p, .int .i64 k]) ∧ CR w.heap.size C cv (.slice cP C.pool.length cp) (.slice cI C.ifaces.length ci) (.slice cF C.fields.length cf) (.slice cM cv.length cm) w' ∧ Kept w w'
theorem ReadG.v4 {L : List UInt8} {C : ClassC} {p k : Int} (hp : readP L = (C, p, k)) {w : World} {e : Ending} {w' : World} (h : ReadG L w e w') : ReadV4 C p k w e w' := by
  obtain ⟨mv, vP, vI, vF, vM, he, hcr, hk⟩ := h
  rw [hp] at he hcr
  obtain ⟨cP, cp, rfl, -, -⟩ := own_slice hcr.p
  obtain ⟨cI, ci, rfl, -, -⟩ := own_slice hcr.i
  obtain ⟨cF, cf, rfl, -, -⟩ := own_slice hcr.f
  obtain ⟨cM, cm, rfl, -, -⟩ := own_slice hcr.m
  exact ⟨mv, _, _, _, _, _, _, _, _, he, hcr, hk⟩
theorem write_err {c : ClassC} (h : ¬ (writeC c).2 = 0) : (writeC c).1 = [] := by
  unfold writeC at h ⊢
  split
  · rfl
  · rename_i h0
    rw [if_neg h0] at h
    split
    · rfl
    · rename_i h1
      rw [if_neg h1] at h
      exact absurd rfl h
theorem write_why {c : ClassC} (h : ¬ (writeC c).2 = 0) : (writeC c).2 = refusedC c ∨ (writeC c).2 = 2 := by
  unfold writeC at h ⊢
  split
  · exact .inl rfl
  · split
    · exact .inr rfl
    · rename_i h0 h1
      rw [if_neg h0, if_neg h1] at h
      exact absurd rfl h
set_option maxHeartbeats 8000000 in
theorem walk_EmitAgain (b : List UInt8) (vb : Value) (w : World) (hb : Rd w 1 vb b.length (b.map byteV)) :
    Calls Try.prog 7 #[vb] w fun e w' => e = .returned (.bool true) ∧ Below w.heap.size w w' := by
  have H0 := Lib.hid hb
  obtain ⟨nb, hnb⟩ : ∃ n, n = b.length := ⟨_, rfl⟩
  rw [← hnb] at hb
  obtain ⟨_, aB, kB, rfl, -, -, -⟩ := hb
  have NB := Lib.hid hnb
  rw [← hnb] at H0
  clear hnb
  go_enter Try.func7, Try.ntmps7
  go_wp2_with fail
  refine (alive4 w).mono ?_
  rintro e w1 ⟨rfl, hk1⟩
  have K1 := Lib.hid hk1
  clear hk1
  by_cases hl : 20000 < nb
  · have hlI : (20000 : Int) < (nb : Int) := by omega
    clear hl
    go_wp2_with fail
    go_ret
    exact ⟨rfl, K1.out⟩
  have hlI : ¬ (20000 : Int) < (nb : Int) := by omega
  have HL := Lib.hid (show nb ≤ 20000 by omega)
  clear hl
  obtain ⟨C, p, k, hp⟩ : ∃ C p k, readP b = (C, p, k) := ⟨_, _, _, rfl⟩
  have HP := Lib.hid hp
  clear hp
  have C3 := file_Read b (.slice aB nb kB) w1 (by have := H0.out.kept K1.out; rw [NB.out] at this ⊢; exact this)
  go_wp2_with fail
  refine C3.mono ?_
  intro e w2 hrv
  obtain ⟨cv, cP, cI, cF, cM, cp, ci, cf, cm, he, hcr, hk2⟩ := ReadG.v4 HP.out hrv
  obtain ⟨nP, hnP⟩ : ∃ n, n = C.pool.length := ⟨_, rfl⟩
  obtain ⟨nI, hnI⟩ : ∃ n, n = C.ifaces.length := ⟨_, rfl⟩
  obtain ⟨nF, hnF⟩ : ∃ n, n = C.fields.length := ⟨_, rfl⟩
  obtain ⟨nM, hnM⟩ : ∃ n, n = cv.length := ⟨_, rfl⟩
  rw [← hnP, ← hnI, ← hnF, ← hnM] at he hcr
  have N1 := Lib.hid hnP
  have N2 := Lib.hid hnI
  have N3 := Lib.hid hnF
  have N4 := Lib.hid hnM
  subst he
  have K2 := Lib.hid (Kept.trans K1.out hk2)
  have HC := Lib.hid hcr.rd4
  clear hnP hnI hnF hnM hrv hcr hk2 C3
  go_upto_region 5 with fail
  obtain ⟨g, hg⟩ : ∃ g, g = w2.heap.size := ⟨_, rfl⟩
  have HB3 := Lib.hid (Blk.new w2 27 #[.int .i64 C.minor, .int .i64 C.major, .slice cP nP cp, .int .i64 C.access, .int .i64 C.this, .int .i64 C.super, .slice cI nI ci, .slice cF nF cf, .slice cM nM cm])
  have hk3 : Kept w2 (w2.alloc (.cells #[.int .i64 C.minor, .int .i64 C.major, .slice cP nP cp, .int .i64 C.access, .int .i64 C.this, .int .i64 C.super, .slice cI nI ci, .slice cF nF cf, .slice cM nM cm] 27)) := (Below.refl _ _).alloc (Nat.le_refl _) _
  have K3 := Lib.hid (Kept.trans K2.out hk3)
  have HC3 := Lib.hid (HC.out.kept hk3)
  rw [← hg] at HB3 ⊢
  clear hk3 HC
  generalize (w2.alloc (.cells #[.int .i64 C.minor, .int .i64 C.major, .slice cP nP cp, .int .i64 C.access, .int .i64 C.this, .int .i64 C.super, .slice cI nI ci, .slice cF nF cf, .slice cM nM cm] 27)) = w3 at *
  clear hg
  by_cases hk : k = 0
  rotate_left
  · have hne : (k != 0) = true := by simpa using hk
    clear hk
    go_wp2_with (go_at_call 14; refine (law4_num _ _).mono ?_; rintro e wn ⟨rfl, rfl⟩)
    go_ret
    exact ⟨rfl, K3.out⟩
  subst hk
  go_upto_region 7 with (go_at_call 14; refine (law4_num _ _).mono ?_; rintro e wn ⟨rfl, rfl⟩)
  have c0 := HB3.out.cell 0
  have c1 := HB3.out.cell 1
  have c2 := HB3.out.cell 2
  have c3 := HB3.out.cell 3
  have c4 := HB3.out.cell 4
  have c5 := HB3.out.cell 5
  have c6 := HB3.out.cell 6
  have c7 := HB3.out.cell 7
  have c8 := HB3.out.cell 8
  simp only [List.getElem?_toArray, List.getElem?_cons_succ, List.getElem?_cons_zero] at c0 c1 c2 c3 c4 c5 c6 c7 c8
  have hsz := (read_short HP.out).2
  have CW := emit_Write C cv _ _ _ _ w3 HC3.out (fun x hx => Nat.le_trans (hsz x hx) (by have := HL.out; have := NB.out; unfold maxLen; omega))
  unfold WriteG at CW
  clear hsz
  by_cases hE : (writeC C).2 = 0
  rotate_left
  · rw [write_err hE] at CW
    have hwhy := write_why hE
    obtain ⟨E, hE2⟩ : ∃ E, E = (writeC C).2 := ⟨_, rfl⟩
    obtain ⟨R, hR⟩ : ∃ R, R = refusedC C := ⟨_, rfl⟩
    rw [← hE2] at CW hE hwhy
    rw [← hR] at hwhy
    have hne : (E != 0) = true := by simpa using hE
    have HR := Lib.hid hR
    have HWHY := Lib.hid hwhy
    clear hE hE2 hR hwhy
    go_wp2_with fail
    refine CW.mono ?_
    rintro e w4 ⟨v, rfl, hb, hk4⟩
    have K4 := Lib.hid (Kept.trans K3.out hk4)
    have HB4 := Lib.hid (HB3.out.kept hk4)
    have HC4 := Lib.hid (HC3.out.kept hk4)
    clear hb hk4 CW
    go_wp2_with (go_at_call 14; refine (law4_num _ _).mono ?_; rintro e wn ⟨rfl, rfl⟩)
    have d0 := HB4.out.cell 0
    have d1 := HB4.out.cell 1
    have d2 := HB4.out.cell 2
    have d3 := HB4.out.cell 3
    have d4 := HB4.out.cell 4
    have d5 := HB4.out.cell 5
    have d6 := HB4.out.cell 6
    have d7 := HB4.out.cell 7
    have d8 := HB4.out.cell 8
    simp only [List.getElem?_toArray, List.getElem?_cons_succ, List.getElem?_cons_zero] at d0 d1 d2 d3 d4 d5 d6 d7 d8
    by_cases hER : E = R
    · have heq : (E == R) = true := by simpa using hER
      go_upto_region 9 with fail
      refine wp_region_held_drew (S := (fun w' => w'.cell? ⟨g, 0, none⟩ = some (.int .i64 C.minor) ∧ w'.cell? ⟨g, 1, none⟩ = some (.int .i64 C.major) ∧ w'.cell? ⟨g, 2, none⟩ = some (.slice cP nP cp) ∧ w'.cell? ⟨g, 3, none⟩ = some (.int .i64 C.access) ∧ w'.cell? ⟨g, 4, none⟩ = some (.int .i64 C.this) ∧ w'.cell? ⟨g, 5, none⟩ = some (.int .i64 C.super) ∧ w'.cell? ⟨g, 6, none⟩ = some (.slice cI nI ci) ∧ w'.cell? ⟨g, 7, none⟩ = some (.slice cF nF cf) ∧ w'.cell? ⟨g, 8, none⟩ = some (.slice cM nM cm))) (by kernel_rfl) (by first | assumption | ((try dsimp only); simp [*]; done)) (fun hHeld => ?_)
      refine wpAnyH_take (i := 0) (oi := { dst := some 38, op := Op.move (Operand.tmp 8), type := 32, pos := "law.go:120", after := #[], guard := none }) (v := ?va0) rfl (by kernel_rfl) (by kernel_rfl) (by kernel_rfl) (fun _ _ _ h => h) (Or.inl ⟨by rfl, ?ya0⟩) (by assumption) ?ra0
      case ya0 => (intro w hSw; (try dsimp only at hSw); go_simp <;> with_reducible rfl)
      (try simp only [Act.put, List.setIfInBounds_toArray, List.set_cons_zero, List.set_cons_succ])
      refine wpAnyH_take (i := 2) (oi := { dst := some 40, op := Op.load 27 (Operand.tmp 4), type := 27, pos := "law.go:120", after := #[], guard := none }) (v := ?va2) rfl (by kernel_rfl) (by kernel_rfl) (by kernel_rfl) (fun _ _ _ h => h) (Or.inl ⟨by rfl, ?ya2⟩) (by assumption) ?ra2
      case ya2 => (intro w hSw; (try dsimp only at hSw); go_simp <;> with_reducible rfl)
      (try simp only [Act.put, List.setIfInBounds_toArray, List.set_cons_zero, List.set_cons_succ])
      refine wpAnyH_ready (rs := [1]) (by kernel_rfl) (by simp) ?_
      refine AllReadyH.cons (o := { dst := some 39, op := Op.call { callee := Callee.value (Operand.func 14), args := #[Operand.tmp 38], argTypes := #[32] }, type := 3, pos := "law.go:120", after := #[{ on := 0, ground := Ground.data }], guard := none }) rfl (fun K hK => ?_) AllReadyH.nil
      go_simp
      go_wp2_with (go_at_call 14; refine (law4_num _ _).mono ?_; rintro e wn ⟨rfl, rfl⟩)
      clear hHeld
      refine hK.out _ _ ?_ (fun hHeld => ?_)
      · ((try dsimp only); simp [*]; done)
      clear hK K
      (try simp only [Act.put, List.setIfInBounds_toArray, List.set_cons_zero, List.set_cons_succ])
      refine wpAnyH_ready (rs := [3]) (by kernel_rfl) (by simp) ?_
      refine AllReadyH.cons (o := { dst := some 41, op := Op.call { callee := Callee.value (Operand.func 18), args := #[Operand.tmp 40], argTypes := #[27] }, type := 3, pos := "law.go:120", after := #[{ on := 2, ground := Ground.data }, { on := 1, ground := Ground.chain }], guard := none }) rfl (fun K hK => ?_) AllReadyH.nil
      go_simp
      have CR := ref4_Refused C cv _ _ _ _ w4.drew (HC4.out.kept (kept_drewN (Below.refl _ w4) 1))
      refine CR.mono ?_
      rintro e w9 ⟨he, hk9⟩
      rw [← HR.out] at he
      subst he
      have hkk := Kept.trans (kept_drewN (Below.refl _ w4) 1) hk9
      have K9 := Lib.hid (Kept.trans K4.out hkk)
      have HB9 := Lib.hid (HB4.out.kept hkk)
      have e0 := HB9.out.cell 0
      have e1 := HB9.out.cell 1
      have e2 := HB9.out.cell 2
      have e3 := HB9.out.cell 3
      have e4 := HB9.out.cell 4
      have e5 := HB9.out.cell 5
      have e6 := HB9.out.cell 6
      have e7 := HB9.out.cell 7
      have e8 := HB9.out.cell 8
      simp only [List.getElem?_toArray, List.getElem?_cons_succ, List.getElem?_cons_zero] at e0 e1 e2 e3 e4 e5 e6 e7 e8
      clear hk9 hkk CR
      clear hHeld
      refine hK.out _ _ ?_ (fun hHeld => ?_)
      · ((try dsimp only); simp [*]; done)
      clear hK K
      (try simp only [Act.put, List.setIfInBounds_toArray, List.set_cons_zero, List.set_cons_succ])
      refine wpAnyH_take (i := 4) (oi := { dst := some 42, op := Op.binOp BinOp.eql 3 (Operand.tmp 39) (Operand.tmp 41) 3, type := 4, pos := "law.go:120", after := #[{ on := 1, ground := Ground.data }, { on := 3, ground := Ground.data }], guard := none }) (v := ?va4) rfl (by kernel_rfl) (by kernel_rfl) (by kernel_rfl) (fun _ _ _ h => h) (Or.inl ⟨by rfl, ?ya4⟩) (by assumption) ?ra4
      case ya4 => (intro w hSw; (try dsimp only at hSw); go_simp <;> with_reducible rfl)
      (try simp only [Act.put, List.setIfInBounds_toArray, List.set_cons_zero, List.set_cons_succ])
      refine wpAnyH_take (i := 5) (oi := { dst := some 43, op := Op.move (Operand.tmp 42), type := 4, pos := "law.go:120", after := #[{ on := 4, ground := Ground.data }, { on := 3, ground := Ground.chain }], guard := none }) (v := ?va5) rfl (by kernel_rfl) (by kernel_rfl) (by kernel_rfl) (fun _ _ _ h => h) (Or.inl ⟨by rfl, ?ya5⟩) (by assumption) ?ra5
      case ya5 => (intro w hSw; (try dsimp only at hSw); go_simp <;> with_reducible rfl)
      (try simp only [Act.put, List.setIfInBounds_toArray, List.set_cons_zero, List.set_cons_succ])
      refine wpAnyH_take (i := 6) (oi := { dst := some 44, op := Op.move (Operand.tmp 8), type := 32, pos := "law.go:120", after := #[{ on := 5, ground := Ground.guard }], guard := some (5, false) }) (v := undef) rfl (by kernel_rfl) (by kernel_rfl) (by kernel_rfl) (fun _ _ _ h => h) (Or.inr ⟨by rfl, rfl⟩) (by assumption) ?_
      (try simp only [Act.put, List.setIfInBounds_toArray, List.set_cons_zero, List.set_cons_succ])
      refine wpAnyH_take (i := 7) (oi := { dst := some 45, op := Op.call { callee := Callee.value (Operand.func 14), args := #[Operand.tmp 44], argTypes := #[32] }, type := 3, pos := "law.go:120", after := #[{ on := 6, ground := Ground.data }, { on := 5, ground := Ground.chain }, { on := 5, ground := Ground.guard }], guard := some (5, false) }) (v := undef) rfl (by kernel_rfl) (by kernel_rfl) (by kernel_rfl) (fun _ _ _ h => h) (Or.inr ⟨by rfl, rfl⟩) (by assumption) ?_
      (try simp only [Act.put, List.setIfInBounds_toArray, List.set_cons_zero, List.set_cons_succ])
      refine wpAnyH_take (i := 8) (oi := { dst := some 46, op := Op.binOp BinOp.eql 3 (Operand.tmp 45) (Operand.const (Value.int IntKind.i64 2)) 3, type := 4, pos := "law.go:120", after := #[{ on := 7, ground := Ground.data }, { on := 5, ground := Ground.guard }], guard := some (5, false) }) (v := undef) rfl (by kernel_rfl) (by kernel_rfl) (by kernel_rfl) (fun _ _ _ h => h) (Or.inr ⟨by rfl, rfl⟩) (by assumption) ?_
      (try simp only [Act.put, List.setIfInBounds_toArray, List.set_cons_zero, List.set_cons_succ])
      refine wpAnyH_take (i := 9) (oi := { dst := some 47, op := Op.pick (Operand.tmp 43) (Operand.const (Value.bool true)) (Operand.tmp 46), type := 4, pos := "law.go:120", after := #[{ on := 5, ground := Ground.data }, { on := 8, ground := Ground.data }], guard := none }) (v := ?va9) rfl (by kernel_rfl) (by kernel_rfl) (by kernel_rfl) (fun _ _ _ h => h) (Or.inl ⟨by rfl, ?ya9⟩) (by assumption) ?ra9
      case ya9 => (intro w hSw; (try dsimp only at hSw); go_simp <;> with_reducible rfl)
      (try simp only [Act.put, List.setIfInBounds_toArray, List.set_cons_zero, List.set_cons_succ])
      refine wpAnyH_take (i := 10) (oi := { dst := some 2, op := Op.assign (Operand.tmp 47), type := 4, pos := "law.go:120", after := #[{ on := 9, ground := Ground.data }, { on := 7, ground := Ground.chain }, { on := 0, ground := Ground.phase }, { on := 1, ground := Ground.phase }, { on := 2, ground := Ground.phase }, { on := 3, ground := Ground.phase }, { on := 4, ground := Ground.phase }, { on := 5, ground := Ground.phase }, { on := 6, ground := Ground.phase }, { on := 7, ground := Ground.phase }, { on := 8, ground := Ground.phase }, { on := 9, ground := Ground.phase }], guard := none }) (v := ?va10) rfl (by kernel_rfl) (by kernel_rfl) (by kernel_rfl) (fun _ _ _ h => h) (Or.inl ⟨by rfl, ?ya10⟩) (by assumption) ?ra10
      case ya10 => (intro w hSw; (try dsimp only at hSw); go_simp <;> with_reducible rfl)
      (try simp only [Act.put, List.setIfInBounds_toArray, List.set_cons_zero, List.set_cons_succ])
      refine wpAnyH_done (by kernel_rfl) ?_ _
      go_wp2_with fail
      go_ret
      exact ⟨rfl, K9.out⟩
    · have heq : (E == R) = false := by simpa using hER
      obtain rfl : E = 2 := HWHY.out.resolve_left hER
      go_upto_region 9 with fail
      refine wp_region_held_drew (S := (fun w' => w'.cell? ⟨g, 0, none⟩ = some (.int .i64 C.minor) ∧ w'.cell? ⟨g, 1, none⟩ = some (.int .i64 C.major) ∧ w'.cell? ⟨g, 2, none⟩ = some (.slice cP nP cp) ∧ w'.cell? ⟨g, 3, none⟩ = some (.int .i64 C.access) ∧ w'.cell? ⟨g, 4, none⟩ = some (.int .i64 C.this) ∧ w'.cell? ⟨g, 5, none⟩ = some (.int .i64 C.super) ∧ w'.cell? ⟨g, 6, none⟩ = some (.slice cI nI ci) ∧ w'.cell? ⟨g, 7, none⟩ = some (.slice cF nF cf) ∧ w'.cell? ⟨g, 8, none⟩ = some (.slice cM nM cm))) (by kernel_rfl) (by first | assumption | ((try dsimp only); simp [*]; done)) (fun hHeld => ?_)
      refine wpAnyH_take (i := 0) (oi := { dst := some 38, op := Op.move (Operand.tmp 8), type := 32, pos := "law.go:120", after := #[], guard := none }) (v := ?vb0) rfl (by kernel_rfl) (by kernel_rfl) (by kernel_rfl) (fun _ _ _ h => h) (Or.inl ⟨by rfl, ?yb0⟩) (by assumption) ?rb0
      case yb0 => (intro w hSw; (try dsimp only at hSw); go_simp <;> with_reducible rfl)
      (try simp only [Act.put, List.setIfInBounds_toArray, List.set_cons_zero, List.set_cons_succ])
      refine wpAnyH_take (i := 2) (oi := { dst := some 40, op := Op.load 27 (Operand.tmp 4), type := 27, pos := "law.go:120", after := #[], guard := none }) (v := ?vb2) rfl (by kernel_rfl) (by kernel_rfl) (by kernel_rfl) (fun _ _ _ h => h) (Or.inl ⟨by rfl, ?yb2⟩) (by assumption) ?rb2
      case yb2 => (intro w hSw; (try dsimp only at hSw); go_simp <;> with_reducible rfl)
      (try simp only [Act.put, List.setIfInBounds_toArray, List.set_cons_zero, List.set_cons_succ])
      refine wpAnyH_ready (rs := [1]) (by kernel_rfl) (by simp) ?_
      refine AllReadyH.cons (o := { dst := some 39, op := Op.call { callee := Callee.value (Operand.func 14), args := #[Operand.tmp 38], argTypes := #[32] }, type := 3, pos := "law.go:120", after := #[{ on := 0, ground := Ground.data }], guard := none }) rfl (fun K hK => ?_) AllReadyH.nil
      go_simp
      go_wp2_with (go_at_call 14; refine (law4_num _ _).mono ?_; rintro e wn ⟨rfl, rfl⟩)
      clear hHeld
      refine hK.out _ _ ?_ (fun hHeld => ?_)
      · ((try dsimp only); simp [*]; done)
      clear hK K
      (try simp only [Act.put, List.setIfInBounds_toArray, List.set_cons_zero, List.set_cons_succ])
      refine wpAnyH_ready (rs := [3]) (by kernel_rfl) (by simp) ?_
      refine AllReadyH.cons (o := { dst := some 41, op := Op.call { callee := Callee.value (Operand.func 18), args := #[Operand.tmp 40], argTypes := #[27] }, type := 3, pos := "law.go:120", after := #[{ on := 2, ground := Ground.data }, { on := 1, ground := Ground.chain }], guard := none }) rfl (fun K hK => ?_) AllReadyH.nil
      go_simp
      have CR := ref4_Refused C cv _ _ _ _ w4.drew (HC4.out.kept (kept_drewN (Below.refl _ w4) 1))
      refine CR.mono ?_
      rintro e w9 ⟨he, hk9⟩
      rw [← HR.out] at he
      subst he
      have hkk := Kept.trans (kept_drewN (Below.refl _ w4) 1) hk9
      have K9 := Lib.hid (Kept.trans K4.out hkk)
      have HB9 := Lib.hid (HB4.out.kept hkk)
      have e0 := HB9.out.cell 0
      have e1 := HB9.out.cell 1
      have e2 := HB9.out.cell 2
      have e3 := HB9.out.cell 3
      have e4 := HB9.out.cell 4
      have e5 := HB9.out.cell 5
      have e6 := HB9.out.cell 6
      have e7 := HB9.out.cell 7
      have e8 := HB9.out.cell 8
      simp only [List.getElem?_toArray, List.getElem?_cons_succ, List.getElem?_cons_zero] at e0 e1 e2 e3 e4 e5 e6 e7 e8
      clear hk9 hkk CR
      clear hHeld
      refine hK.out _ _ ?_ (fun hHeld => ?_)
      · ((try dsimp only); simp [*]; done)
      clear hK K
      (try simp only [Act.put, List.setIfInBounds_toArray, List.set_cons_zero, List.set_cons_succ])
      refine wpAnyH_take (i := 4) (oi := { dst := some 42, op := Op.binOp BinOp.eql 3 (Operand.tmp 39) (Operand.tmp 41) 3, type := 4, pos := "law.go:120", after := #[{ on := 1, ground := Ground.data }, { on := 3, ground := Ground.data }], guard := none }) (v := ?vb4) rfl (by kernel_rfl) (by kernel_rfl) (by kernel_rfl) (fun _ _ _ h => h) (Or.inl ⟨by rfl, ?yb4⟩) (by assumption) ?rb4
      case yb4 => (intro w hSw; (try dsimp only at hSw); go_simp <;> with_reducible rfl)
      (try simp only [Act.put, List.setIfInBounds_toArray, List.set_cons_zero, List.set_cons_succ])
      refine wpAnyH_take (i := 5) (oi := { dst := some 43, op := Op.move (Operand.tmp 42), type := 4, pos := "law.go:120", after := #[{ on := 4, ground := Ground.data }, { on := 3, ground := Ground.chain }], guard := none }) (v := ?vb5) rfl (by kernel_rfl) (by kernel_rfl) (by kernel_rfl) (fun _ _ _ h => h) (Or.inl ⟨by rfl, ?yb5⟩) (by assumption) ?rb5
      case yb5 => (intro w hSw; (try dsimp only at hSw); go_simp <;> with_reducible rfl)
      (try simp only [Act.put, List.setIfInBounds_toArray, List.set_cons_zero, List.set_cons_succ])
      refine wpAnyH_take (i := 6) (oi := { dst := some 44, op := Op.move (Operand.tmp 8), type := 32, pos := "law.go:120", after := #[{ on := 5, ground := Ground.guard }], guard := some (5, false) }) (v := ?vb6) rfl (by kernel_rfl) (by kernel_rfl) (by kernel_rfl) (fun _ _ _ h => h) (Or.inl ⟨by rfl, ?yb6⟩) (by assumption) ?rb6
      case yb6 => (intro w hSw; (try dsimp only at hSw); go_simp <;> with_reducible rfl)
      (try simp only [Act.put, List.setIfInBounds_toArray, List.set_cons_zero, List.set_cons_succ])
      refine wpAnyH_ready (rs := [7]) (by kernel_rfl) (by simp) ?_
      refine AllReadyH.cons (o := { dst := some 45, op := Op.call { callee := Callee.value (Operand.func 14), args := #[Operand.tmp 44], argTypes := #[32] }, type := 3, pos := "law.go:120", after := #[{ on := 6, ground := Ground.data }, { on := 5, ground := Ground.chain }, { on := 5, ground := Ground.guard }], guard := some (5, false) }) rfl (fun K hK => ?_) AllReadyH.nil
      go_simp
      go_wp2_with (go_at_call 14; refine (law4_num _ _).mono ?_; rintro e wn ⟨rfl, rfl⟩)
      clear hHeld
      refine hK.out _ _ ?_ (fun hHeld => ?_)
      · ((try dsimp only); simp [*]; done)
      clear hK K
      (try simp only [Act.put, List.setIfInBounds_toArray, List.set_cons_zero, List.set_cons_succ])
      refine wpAnyH_take (i := 8) (oi := { dst := some 46, op := Op.binOp BinOp.eql 3 (Operand.tmp 45) (Operand.const (Value.int IntKind.i64 2)) 3, type := 4, pos := "law.go:120", after := #[{ on := 7, ground := Ground.data }, { on := 5, ground := Ground.guard }], guard := some (5, false) }) (v := ?vb8) rfl (by kernel_rfl) (by kernel_rfl) (by kernel_rfl) (fun _ _ _ h => h) (Or.inl ⟨by rfl, ?yb8⟩) (by assumption) ?rb8
      case yb8 => (intro w hSw; (try dsimp only at hSw); go_simp <;> with_reducible rfl)
      (try simp only [Act.put, List.setIfInBounds_toArray, List.set_cons_zero, List.set_cons_succ])
      refine wpAnyH_take (i := 9) (oi := { dst := some 47, op := Op.pick (Operand.tmp 43) (Operand.const (Value.bool true)) (Operand.tmp 46), type := 4, pos := "law.go:120", after := #[{ on := 5, ground := Ground.data }, { on := 8, ground := Ground.data }], guard := none }) (v := ?vb9) rfl (by kernel_rfl) (by kernel_rfl) (by kernel_rfl) (fun _ _ _ h => h) (Or.inl ⟨by rfl, ?yb9⟩) (by assumption) ?rb9
      case yb9 => (intro w hSw; (try dsimp only at hSw); go_simp <;> with_reducible rfl)
      (try simp only [Act.put, List.setIfInBounds_toArray, List.set_cons_zero, List.set_cons_succ])
      refine wpAnyH_take (i := 10) (oi := { dst := some 2, op := Op.assign (Operand.tmp 47), type := 4, pos := "law.go:120", after := #[{ on := 9, ground := Ground.data }, { on := 7, ground := Ground.chain }, { on := 0, ground := Ground.phase }, { on := 1, ground := Ground.phase }, { on := 2, ground := Ground.phase }, { on := 3, ground := Ground.phase }, { on := 4, ground := Ground.phase }, { on := 5, ground := Ground.phase }, { on := 6, ground := Ground.phase }, { on := 7, ground := Ground.phase }, { on := 8, ground := Ground.phase }, { on := 9, ground := Ground.phase }], guard := none }) (v := ?vb10) rfl (by kernel_rfl) (by kernel_rfl) (by kernel_rfl) (fun _ _ _ h => h) (Or.inl ⟨by rfl, ?yb10⟩) (by assumption) ?rb10
      case yb10 => (intro w hSw; (try dsimp only at hSw); go_simp <;> with_reducible rfl)
      (try simp only [Act.put, List.setIfInBounds_toArray, List.set_cons_zero, List.set_cons_succ])
      refine wpAnyH_done (by kernel_rfl) ?_ _
      go_wp2_with fail
      go_ret
      exact ⟨rfl, K9.out⟩
  obtain ⟨hfit, hlen, hw⟩ := write_ok hE
  rw [hw] at CW
  have HRB := Lib.hid (read_back hfit hlen)
  have HLE := Lib.hid (show (classB C).length ≤ nb by have := (read_short HP.out).1; have := NB.out; omega)
  clear hE hfit hlen hw
  go_wp2_with fail
  refine CW.mono ?_
  rintro e w4 ⟨v, rfl, hb, hk4⟩
  have K4 := Lib.hid (Kept.trans K3.out hk4)
  have HB4 := Lib.hid (HB3.out.kept hk4)
  have HC4 := Lib.hid (HC3.out.kept hk4)
  have C4 := file_Read (classB C) v w4 (Rd.of_own hb)
  obtain ⟨nX, hnX⟩ : ∃ n, n = (classB C).length := ⟨_, rfl⟩
  obtain ⟨aX, kX, rfl, -, -⟩ := own_slice hb
  rw [← hnX] at C4 ⊢
  have hleI : (nX : Int) ≤ (nb : Int) := by have := HLE.out; omega
  clear hb hk4 CW hnX
  go_wp2_with (go_at_call 14; refine (law4_num _ _).mono ?_; rintro e wn ⟨rfl, rfl⟩)
  refine C4.mono ?_
  intro e w5 hrv
  obtain ⟨dv, dP, dI, dF, dM, dp, di, df, dm, he, hcr, hk5⟩ := ReadG.v4 HRB.out hrv
  obtain ⟨nN, hnN⟩ : ∃ n, n = dv.length := ⟨_, rfl⟩
  rw [← N1.out, ← N2.out, ← N3.out, ← hnN] at he hcr
  have N5 := Lib.hid hnN
  subst he
  have K5 := Lib.hid (Kept.trans K4.out hk5)
  have HB5 := Lib.hid (HB4.out.kept hk5)
  have HC5 := Lib.hid (HC4.out.kept hk5)
  have HCR := Lib.hid hcr.rd4
  clear hrv hcr hk5 C4 hnN
  go_upto_region 11 with fail
  have HD6 := Lib.hid (Blk.new w5 27 #[.int .i64 C.minor, .int .i64 C.major, .slice dP nP dp, .int .i64 C.access, .int .i64 C.this, .int .i64 C.super, .slice dI nI di, .slice dF nF df, .slice dM nN dm])
  have hk6 : Kept w5 (w5.alloc (.cells #[.int .i64 C.minor, .int .i64 C.major, .slice dP nP dp, .int .i64 C.access, .int .i64 C.this, .int .i64 C.super, .slice dI nI di, .slice dF nF df, .slice dM nN dm] 27)) := (Below.refl _ _).alloc (Nat.le_refl _) _
  have K6 := Lib.hid (Kept.trans K5.out hk6)
  have HB6 := Lib.hid (HB5.out.kept hk6)
  have CW := ref4_Same C C cv dv _ _ _ _ _ _ _ _ (w5.alloc (.cells #[.int .i64 C.minor, .int .i64 C.major, .slice dP nP dp, .int .i64 C.access, .int .i64 C.this, .int .i64 C.super, .slice dI nI di, .slice dF nF df, .slice dM nN dm] 27)) (HC5.out.kept hk6) (HCR.out.kept hk6)
  clear hk6
  generalize (w5.alloc (.cells #[.int .i64 C.minor, .int .i64 C.major, .slice dP nP dp, .int .i64 C.access, .int .i64 C.this, .int .i64 C.super, .slice dI nI di, .slice dF nF df, .slice dM nN dm] 27)) = w6 at *
  have f0 := HB6.out.cell 0
  have f1 := HB6.out.cell 1
  have f2 := HB6.out.cell 2
  have f3 := HB6.out.cell 3
  have f4 := HB6.out.cell 4
  have f5 := HB6.out.cell 5
  have f6 := HB6.out.cell 6
  have f7 := HB6.out.cell 7
  have f8 := HB6.out.cell 8
  simp only [List.getElem?_toArray, List.getElem?_cons_succ, List.getElem?_cons_zero] at f0 f1 f2 f3 f4 f5 f6 f7 f8
  have g0 := HD6.out.cell 0
  have g1 := HD6.out.cell 1
  have g2 := HD6.out.cell 2
  have g3 := HD6.out.cell 3
  have g4 := HD6.out.cell 4
  have g5 := HD6.out.cell 5
  have g6 := HD6.out.cell 6
  have g7 := HD6.out.cell 7
  have g8 := HD6.out.cell 8
  simp only [List.getElem?_toArray, List.getElem?_cons_succ, List.getElem?_cons_zero] at g0 g1 g2 g3 g4 g5 g6 g7 g8
  go_wp2_with (go_at_call 14; refine (law4_num _ _).mono ?_; rintro e wn ⟨rfl, rfl⟩)
  refine CW.mono ?_
  rintro e w7 ⟨b, rfl, hb, hk7⟩
  have K7 := Lib.hid (Kept.trans K6.out hk7)
  obtain rfl : b = true := hb.2 (by trivial)
  clear hb hk7 CW
  go_wp2_with fail
  go_ret
  exact ⟨rfl, K7.out⟩
end Go.Proofs.Ytbalmfoboaapjaa
