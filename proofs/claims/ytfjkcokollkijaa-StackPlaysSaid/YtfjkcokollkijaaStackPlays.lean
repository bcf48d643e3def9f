/-
  Chapter 16's law StackPlays, walked.
-/
import Derived.Test.YtfjkcokollkijaaStackPlay
namespace Go.Proofs.Ytfjkcokollkijaa
open Go.RowKit
set_option maxRecDepth 100000

/-- A call of a frame, as data. -/
structure OpK where
  kind : Int
  at_ : Int
  kinds : ByteArray
  v : ValV
  ref : Bool
def encOpK (o : OpK) : List Value := [.int .i64 o.kind, .int .i64 o.at_, .string o.kinds, .bool o.v.ref, .int .i64 o.v.n, .bool o.ref]

theorem own_base {w : World} {b b' : Nat} {e : TypeId} {sz n : Nat} {v : Value} {xs : List Value} (h : w.ownsRow b e sz v n xs) (hb : b' ≤ b) : w.ownsRow b' e sz v n xs :=
  ⟨h.1, h.2.imp id fun ⟨g, cap, cur, hv, hg, hr⟩ => ⟨g, cap, cur, hv, Nat.le_trans hb hg, hr⟩⟩

/-- What stands at the start of the law's loop. -/
theorem pair_start {w1 w2 w3 w4 : World} {most : Int} {n : Nat} {g g2 : Nat} {uv u2v : Value} (hF : PFr w1.heap.size w2 (.pointer (some ⟨g, 0, none⟩)) ⟨[], most, List.replicate n zeroV⟩ g (.slice none 0 0) uv) (k2 : Kept w1 w2)
    (hG : PFr w2.heap.size w3 (.pointer (some ⟨g2, 0, none⟩)) ⟨[], most, List.replicate n zeroV⟩ g2 (.slice none 0 0) u2v) (k3 : Kept w2 w3)
    (ho : w4.ownsRow w3.heap.size 34 2 (.slice (some ⟨w3.heap.size, 0, none⟩) n n) n ((List.replicate n zeroV).flatMap encVal)) (k4 : Kept w3 w4) :
    Pair w1.heap.size (footF g2 (.slice none 0 0) u2v) (w4.alloc (.cells #[.int .i64 most, .slice none 0 0, .slice (some ⟨w3.heap.size, 0, none⟩) n n] 32)) ⟨[], most, List.replicate n zeroV⟩ ⟨[], most, List.replicate n zeroV⟩ g w4.heap.size (.slice none 0 0) uv (.slice none 0 0) (.slice (some ⟨w3.heap.size, 0, none⟩) n n) := by
  have z2 := k2.size
  have z3 := k3.size
  have z4 := k4.size
  have k5 : Kept w4 (w4.alloc (.cells #[.int .i64 most, .slice none 0 0, .slice (some ⟨w3.heap.size, 0, none⟩) n n] 32)) := (Below.refl _ _).alloc (Nat.le_refl _) _
  have fr : ∀ b, footF w4.heap.size (.slice none 0 0) (.slice (some ⟨w3.heap.size, 0, none⟩) n n) b → w3.heap.size ≤ b := by
    intro b hb
    rcases hb with rfl | hb | hb
    · exact z4
    · cases hb
    · exact (ho.lt b hb).1
  refine ⟨((hF.kept k3).kept k4).kept k5, ⟨rfl, Blk.new _ _ _, World.ownsRow_nil _ _ _ _, ?_, by omega, fun k hk => by cases hk⟩, ?_, ?_, ?_, ?_, by simp; omega⟩
  · have h1 := Touch.own (S := fun _ => False) (Touch.of_kept k5) ho (fun _ _ => id)
    simpa using own_base h1 (by omega)
  · intro b hb hb'
    have h1 := (hF.foot_lt b hb).2
    have h2 := fr b hb'
    omega
  · intro b hb hb'
    have h1 := (hF.foot_lt b hb).2
    have h2 := (hG.foot_lt b hb').1
    omega
  · intro b hb hb'
    have h1 := (hG.foot_lt b hb').2
    have h2 := fr b hb
    omega
  · intro b hb
    have h1 := (hG.foot_lt b hb).2
    simp
    omega

set_option maxHeartbeats 2000000 in
theorem walk_StackPlays (most locals : Int) (ops : List OpK) (x0 : Value) (w : World) (_ : (Lit.int .i64 most).wf = true) (_ : (Lit.int .i64 locals).wf = true) (hr : Rd w 6 x0 ops.length (ops.flatMap encOpK)) :
    Calls Try.prog 3 #[.int .i64 most, .int .i64 locals, x0] w fun e w' => e = .returned (.bool true) ∧ Below w.heap.size w w' := by
  obtain ⟨m, hm⟩ : ∃ m, m = ops.length := ⟨_, rfl⟩
  rw [← hm] at hr
  obtain ⟨hrl, a, c, hx0, h1, h2, h3⟩ := hr
  subst hx0
  have hm' := Lib.hid hm
  have h3' := Lib.hid h3
  clear hm h3 hrl
  by_cases hlen : 300 < m
  · go_enter Try.func3, Try.ntmps3
    go_wp2_with fail
    refine (alive16 _).mono ?_
    rintro e w1 ⟨rfl, k1⟩
    have K1 := Lib.hid k1
    clear k1
    go_wp2
    go_ret
    exact ⟨rfl, K1.out⟩
  by_cases hsz : Sizes most locals
  · obtain ⟨a1, a2, a3, a4⟩ := hsz
    obtain ⟨n, rfl⟩ : ∃ n : Nat, locals = n := ⟨locals.toNat, by omega⟩
    obtain ⟨i0, hi, hz0, hz1, hz2⟩ := info_parts elem_val.hi
    have hmk : i0.bytes * n ≤ 281474976710656 := by rw [hz2]; omega
    have HI := Lib.hid hi
    have HZ0 := Lib.hid hz0
    have HZ1 := Lib.hid hz1
    have HMK := Lib.hid hmk
    clear hi hz0 hz1 hz2 hmk
    go_enter Try.func3, Try.ntmps3
    go_wp2_with fail
    refine (alive16 _).mono ?_
    rintro e w1 ⟨rfl, k1⟩
    have K1 := Lib.hid k1
    clear k1
    go_wp2_with fail
    refine (stack_New _ _ _).mono ?_
    rintro e w2 (⟨h, -⟩ | ⟨-, g, u, rfl, hP, k2⟩)
    · exact absurd ⟨a1, a2, a3, a4⟩ h
    rw [Int.toNat_natCast] at hP
    have HP := Lib.hid hP
    have K2 := Lib.hid k2
    clear hP k2
    go_wp2_with fail
    refine (stack_New _ _ _).mono ?_
    rintro e w3 (⟨h, -⟩ | ⟨-, g2, u2, rfl, hG, k3⟩)
    · exact absurd ⟨a1, a2, a3, a4⟩ h
    rw [Int.toNat_natCast] at hG
    have HG := Lib.hid hG
    have K3 := Lib.hid k3
    clear hG k3
    go_wp2_with fail
    refine (law16_num _ _).mono ?_
    rintro e w3' ⟨rfl, rfl⟩
    go_wp2_with (at_make; refine wpList_make_full _ rfl _ _ 30 rfl w3.heap.size 34 i0 (.agg #[.bool false, .int .i64 0]) 2 Try.underlying30 HI.out HZ0.out HZ1.out .i64 .i64 n n n rfl rfl rfl rfl HMK.out (by unfold maxLen; omega) (Nat.le_refl _) ?_; intro w4 ho4 hg4; have k4 : Kept w3 w4 := (Below.refl _ _).grown hg4 (Nat.le_refl _) (fun k hk => by cases hk); have K4 := Lib.hid k4; have HO4 := Lib.hid ho4; clear ho4 hg4 k4)
    have P0 := pair_start HP.out K2.out HG.out K3.out (by have := HO4.out; rw [made_vals] at this; exact this) K4.out
    have HP0 := Lib.hid P0
    have k5 : Kept w4 (w4.alloc (.cells #[.int .i64 most, .slice none 0 0, .slice (some ⟨w3.heap.size, 0, none⟩) n n] 32)) := (Below.refl _ _).alloc (Nat.le_refl _) _
    have hG5 := (HG.out.kept K4.out).kept k5
    have kw : Kept w (w4.alloc (.cells #[.int .i64 most, .slice none 0 0, .slice (some ⟨w3.heap.size, 0, none⟩) n n] 32)) := Kept.trans (Kept.trans (Kept.trans (Kept.trans K1.out K2.out) K3.out) K4.out) k5
    have HG5 := Lib.hid hG5
    have KW := Lib.hid kw
    have z1 := K1.out.size
    clear P0 k5 hG5 kw HO4 HI HZ0 HZ1 HMK
    generalize hW5 : (w4.alloc (.cells #[.int .i64 most, .slice none 0 0, .slice (some ⟨w3.heap.size, 0, none⟩) n n] 32)) = w5 at *
    clear hW5
    generalize w4.heap.size = r at *
    have hF0 : FrSz ⟨[], most, List.replicate n zeroV⟩ := ⟨a1, a2, by simpa using a1, by show (List.replicate n zeroV).length ≤ 64; rw [List.length_replicate]; omega⟩
    have HF0 := Lib.hid hF0
    clear hF0
    go_loopw [13] (fun s13 wr => ∃ (k : Nat) (x : FrV) (v u v' u' : Value), k ≤ m ∧ s13 = .int .i64 k ∧ x.most = most ∧ FrSz x ∧ Pair w1.heap.size (footF g2 (.slice none 0 0) u2) wr x x g r v u v' u' ∧ Touch (Out w1.heap.size (footF g2 (.slice none 0 0) u2)) w5 wr) (fun s13 _ => m - (intOf s13).toNat)
    case atStart => exact ⟨0, _, _, _, _, _, Nat.zero_le _, rfl, rfl, HF0.out, HP0.out, Touch.refl _ _⟩
    case round =>
      obtain ⟨k, x, v, uu, v', u', hk, rfl, hmx, hZ, hPk, hT⟩ := hrel
      have HM := Lib.hid hmx
      have HZ := Lib.hid hZ
      have HPK := Lib.hid hPk
      have HT := Lib.hid hT
      have kr : Kept w wr := (Below.trans KW.out ((hT.below (fun b hb => Nat.le_trans z1 hb.1) KW.out.size)))
      have KR := Lib.hid kr
      clear hmx hZ hPk hT kr
      by_cases hlt : k < m
      · obtain ⟨o, ho⟩ : ∃ o, ops[k]? = some o := ⟨ops[k]'(by have := hm'.out; omega), List.getElem?_eq_getElem _⟩
        obtain ⟨b, off, rfl, hc⟩ := h3'.out (by omega)
        have hg : ∀ f q, (encOpK o)[f]? = some q → f < 6 → wr.cell? ⟨b, off + (k * 6 + f), none⟩ = some q := fun f q hu hf => Kept.cell KR.out (hc _ _ (by rw [flat_get encOpK 6 (fun _ => rfl) ops k f o ho hf]; exact hu))
        have g0 : wr.cell? ⟨b, off + k * 6, none⟩ = some (.int .i64 o.kind) := hg 0 _ rfl (by omega)
        have g1 : wr.cell? ⟨b, off + k * 6 + 1, none⟩ = some (.int .i64 o.at_) := hg 1 _ rfl (by omega)
        have g2' : wr.cell? ⟨b, off + k * 6 + 2, none⟩ = some (.string o.kinds) := hg 2 _ rfl (by omega)
        have g3 : wr.cell? ⟨b, off + k * 6 + 3, none⟩ = some (.bool o.v.ref) := hg 3 _ rfl (by omega)
        have g4 : wr.cell? ⟨b, off + k * 6 + 4, none⟩ = some (.int .i64 o.v.n) := hg 4 _ rfl (by omega)
        have g5 : wr.cell? ⟨b, off + k * 6 + 5, none⟩ = some (.bool o.ref) := hg 5 _ rfl (by omega)
        clear hc hg ho
        by_cases hlong : 300 < o.kinds.size
        · go_wp2_with fail
          go_ret
          exact ⟨rfl, KR.out⟩
        · go_wp2_with fail
          refine (law16_call _ _ _ x g r v uu v' u' o.kind o.at_ o.kinds o.v o.ref HPK.out HZ.out (by omega)).mono ?_
          rintro e w6 ⟨rfl, x6, v6, u6, v6', u6', hm6, hz6, hp6, ht6⟩
          have HM6 := Lib.hid (hm6.trans HM.out)
          have HZ6 := Lib.hid hz6
          have HP6 := Lib.hid hp6
          have HT6 := Lib.hid (out_trans HT.out ht6)
          clear hm6 hz6 hp6 ht6 g0 g1 g2' g3 g4 g5
          go_wp2_with fail
          refine (stack_Stack _ _ _ _ g _ u6 HP6.out.f HZ6.out.l64).mono ?_
          rintro e w7 ⟨t7, rfl, ho7, k7⟩
          have HP7 := Lib.hid (HP6.out.kept k7)
          have HT7 := Lib.hid (out_trans HT6.out (Touch.of_kept k7))
          have HO7 := Lib.hid ho7
          have d1 := HP7.out.d.blk.cell 1
          simp at d1
          clear ho7 k7
          go_wp2_with fail
          obtain ⟨q, hq⟩ : ∃ q, q = x6.l.length := ⟨_, rfl⟩
          have ho7 := HO7.out
          have hor := HP7.out.d.own
          rw [← hq] at ho7 hor
          have hq64 : q ≤ 64 := by rw [hq]; exact HZ6.out.l64
          have HQ := Lib.hid hq
          obtain ⟨at7, ct7, rfl, hct, hcm⟩ := own_slice ho7
          obtain ⟨atr, ctr, rfl, hctr, hcmr⟩ := own_slice hor
          have HO := Lib.hid ho7
          have HR := Lib.hid (Rd.of_own hor)
          clear ho7 hor hq HO7
          refine (law16_sameValues x6.l q _ _ _ HQ.out.symm (Rd.of_own HO.out) HR.out).mono ?_
          rintro e w8 ⟨rfl, m8, hw8⟩
          have k8 : Kept w7 w8 := by rw [hw8]; exact kept_drewN (Below.refl _ _) m8
          have HP8 := Lib.hid (HP7.out.kept k8)
          have HT8 := Lib.hid (out_trans HT7.out (Touch.of_kept k8))
          have HO8 := Lib.hid (Touch.own (S := fun _ => False) (Touch.of_kept k8) HO.out (fun _ _ => id))
          clear hw8 k8 d1 HO HR
          go_wp2_with fail
          go_loopw [17] (fun s17 wy => ∃ (j : Nat) (l' : List ValV), j ≤ q ∧ s17 = .int .i64 j ∧ l'.length = q ∧ wy.ownsRow w6.heap.size 34 2 (.slice at7 q ct7) q (l'.flatMap encVal) ∧ Touch (fun b => (Value.slice at7 q ct7).ownBlock = some b) w8 wy) (fun s17 _ => q - (intOf s17).toNat)
          case atStart => exact ⟨0, _, by omega, rfl, HQ.out.symm, HO8.out, Touch.refl _ _⟩
          case round =>
            obtain ⟨j, l', hj, rfl, hl', hO, hT⟩ := hrel
            by_cases hjq : j < q
            · obtain ⟨r0, c', hv, _, _, hge, hrs, hcell, hfz⟩ := own_form hO (by omega)
              simp only [Value.slice.injEq] at hv
              obtain ⟨rfl, -, rfl⟩ := hv
              have hxl := hO.1
              obtain ⟨q0, hq0⟩ : ∃ q, (l'.flatMap encVal)[j * 2]? = some q := ⟨_, List.getElem?_eq_getElem (by omega)⟩
              obtain ⟨q1, hq1⟩ : ∃ q, (l'.flatMap encVal)[j * 2 + 1]? = some q := ⟨_, List.getElem?_eq_getElem (by omega)⟩
              have z0 := hcell _ _ hq0
              have z1 := hcell _ _ hq1
              have f0 := hfz (j * 2)
              have f1 := hfz (j * 2 + 1)
              have HO := Lib.hid hO
              have HT := Lib.hid hT
              have HL := Lib.hid hl'
              clear hO hT hl' hcell hfz hxl hq0 hq1
              go_wp2_with fail
              go_roundw
              case rel =>
                refine ⟨j + 1, l'.set j ⟨false, -8⟩, by omega, by go_num, by simpa using HL.out, ?_, ?_⟩
                · have := own_store (own_store HO.out (j * 2) (.bool false)) (j * 2 + 1) (.int .i64 (-8))
                  rw [vals_set l' ⟨false, -8⟩ j (by have := HL.out; omega)] at this
                  exact this
                · exact (HT.out.setCell (p := ⟨r0, j * 2, none⟩) (.inl rfl) _).setCell (p := ⟨r0, j * 2 + 1, none⟩) (.inl rfl) _
              case measure => simp [intOf]; omega
            · obtain rfl : j = q := by omega
              have hfar : ∀ b, b < w6.heap.size → ¬ (Value.slice at7 j ct7).ownBlock = some b := fun b hb e => by have := (hO.lt b e).1; omega
              have hp9 := HP8.out.apart hT (fun b hb => hfar b (HP6.out.f.foot_lt b hb).2) (fun b hb => hfar b (HP6.out.d.foot_lt b hb).2)
              have ht9 : Touch (Out w1.heap.size (footF g2 (.slice none 0 0) u2)) w5 wr := HT8.out.trans hT fun b hb => .inr (Nat.le_trans HT6.out.size (hO.lt b hb).1)
              have HP9 := Lib.hid hp9
              have HT9 := Lib.hid ht9
              have d1 := hp9.d.blk.cell 1
              simp at d1
              clear hO hT hl' hp9 ht9 hfar
              go_wp2_with fail
              have kd : Kept wr wr.drew := (Below.refl _ _).drew
              have HPd := Lib.hid (HP9.out.kept kd)
              have HTd := Lib.hid (out_trans HT9.out (Touch.of_kept kd))
              have HGd := Lib.hid ((HG5.out.apart_ HT9.out (fun b hb hb' => hb'.2 hb)).kept kd)
              have C1 := Lib.hid (stack_Stack _ _ _ _ g _ u6 HPd.out.f HZ6.out.l64)
              have hwr : IntKind.i64.wrap (most - (j : Int)) = most - j := IntWalk.i64_in _ (by omega)
              clear kd
              go_region_held2 (fun w' => w'.cell? ⟨r, 1, none⟩ = some (.slice atr j ctr)) (go_keep)
                (first
                | (go_at_call_of 8 (Value.pointer (some ⟨g, 0, none⟩)); refine C1.out.mono ?_; rintro e wa ⟨ta, rfl, hoa, ka⟩; have HPa := Lib.hid (HPd.out.kept ka); have HTa := Lib.hid (out_trans HTd.out (Touch.of_kept ka)); have HGa := Lib.hid (HGd.out.kept ka); have hra := HPa.out.d.own; rw [← HQ.out] at hoa hra; have da := HPa.out.d.blk.cell 1; simp at da; have C2 := Lib.hid (law16_sameValues x6.l j _ _ wa HQ.out.symm (Rd.of_own hoa) (Rd.of_own hra)); clear hoa ka hra)
                | (go_at_call 9; refine C2.out.mono ?_; rintro e wb ⟨rfl, mb, hwb⟩; have kb : Kept wa wb := (by rw [hwb]; exact kept_drewN (Below.refl _ _) mb); have HPb := Lib.hid (HPa.out.kept kb); have HTb := Lib.hid (out_trans HTa.out (Touch.of_kept kb)); have HGb := Lib.hid (HGa.out.kept kb); have db := HPb.out.d.blk.cell 1; simp at db; have C3 := stack_Room _ _ _ _ g _ u6 HPb.out.f HZ6.out.l64 ⟨HZ6.out.m0, HZ6.out.m1⟩; rw [HM6.out, ← HQ.out] at C3; have C3' := Lib.hid C3; clear hwb kb C3)
                | (go_at_call 10; refine C3'.out.mono ?_; rintro e wc ⟨rfl, mc, hwc⟩; have kc : Kept wb wc := (by rw [hwc]; exact kept_drewN (Below.refl _ _) mc); have HPc := Lib.hid (HPb.out.kept kc); have HTc := Lib.hid (out_trans HTb.out (Touch.of_kept kc)); have HGc := Lib.hid (HGb.out.kept kc); have dc := HPc.out.d.blk.cell 1; simp at dc; have C4 := Lib.hid (stack_Stack _ _ _ _ g2 _ u2 HGc.out (Nat.zero_le _)); clear hwc kc)
                | (go_at_call_of 8 (Value.pointer (some ⟨g2, 0, none⟩)); refine C4.out.mono ?_; rintro e we ⟨te, rfl, hoe, ke⟩; obtain ⟨ae, ce, rfl, -, -⟩ := own_slice (n := 0) hoe; have HPe := Lib.hid (HPc.out.kept ke); have HTe := Lib.hid (out_trans HTc.out (Touch.of_kept ke)); have de := HPe.out.d.blk.cell 1; simp at de; clear hoe ke))
              all_goals go_wp2_with fail
              all_goals go_roundw
              case rel => exact ⟨k + 1, x6, _, _, _, _, by omega, by go_num, HM6.out, HZ6.out, HPe.out, HTe.out⟩
              case measure => simp [intOf]; omega
      · go_wp2_with fail
        go_ret
        exact ⟨rfl, KR.out⟩
  · have H := Lib.hid hsz
    rcases (by unfold Sizes at hsz; omega : most < 0 ∨ (¬ most < 0 ∧ 64 < most) ∨ (¬ most < 0 ∧ ¬ 64 < most ∧ locals < 0) ∨ (¬ most < 0 ∧ ¬ 64 < most ∧ ¬ locals < 0 ∧ 64 < locals)) with hh | hh | hh | hh
    all_goals
      clear hsz
      go_enter Try.func3, Try.ntmps3
      go_wp2_with fail
      refine (alive16 _).mono ?_
      rintro e w1 ⟨rfl, k1⟩
      have K1 := Lib.hid k1
      clear k1
      go_wp2_with fail
      refine (stack_New _ _ _).mono ?_
      rintro e w2 (⟨-, rfl, rfl⟩ | ⟨h, -⟩)
      · go_wp2_with fail
        refine (law16_num _ _).mono ?_
        rintro e w3' ⟨rfl, rfl⟩
        go_wp2_with fail
        go_ret
        exact ⟨rfl, K1.out⟩
      · exact absurd h H.out
end Go.Proofs.Ytfjkcokollkijaa
