/-
  The law SchedPlays of chapter 18, walked.
-/
import Derived.Test.YtgophanpnaenkaaSchedInv
import Derived.Deep.CutBlock
import Derived.Deep.DeepCutAuto
namespace Go.Proofs.Ytgophanpnaenkaa
open Go.RowKit
set_option maxRecDepth 100000

/-- A call of a table, as data. -/
structure OpS where
  kind : Int
  t : Int
  raw : Int
  tx : ByteArray
def encOpS (o : OpS) : List Value := [.int .i64 o.kind, .int .i64 o.t, .int .i64 o.raw, .string o.tx]

abbrev Play18 := Play 142 144 75 84

set_option maxHeartbeats 1000000 in
theorem walk_SchedPlays (ops : List OpS) (x0 : Value) (w : World) (hr : Rd w 4 x0 ops.length (ops.flatMap encOpS)) (hwf : ∀ x ∈ ops, -9223372036854775808 ≤ x.raw ∧ x.raw ≤ 9223372036854775807) :
    Calls Try.prog 8 #[x0] w fun e w' => e = .returned (.bool true) ∧ Below w.heap.size w w' := by
  obtain ⟨m, hm⟩ : ∃ m, m = ops.length := ⟨_, rfl⟩
  rw [← hm] at hr
  obtain ⟨hrl, a, c, hx0, h1, h2, h3⟩ := hr
  subst hx0
  have hm' := Lib.hid hm
  have hwf' := Lib.hid hwf
  clear hwf
  have h3' := Lib.hid h3
  clear hm h3 hrl
  by_cases hlen : 400 < m
  · go_enter Try.func8, Try.ntmps8
    go_wp2_with (go_at_call 30; ((with_reducible refine (alive18 _).mono ?_); rintro e w1 ⟨rfl, k1⟩))
    go_ret
    exact ⟨rfl, k1⟩
  · have hdm : decide ((400 : Int) < (m : Int)) = false := by simp; omega
    go_enter Try.func8, Try.ntmps8
    go_wp2_with (go_at_call 30; ((with_reducible refine (alive18 _).mono ?_); rintro e w1 ⟨rfl, k1⟩))
    refine (sched_New _).mono ?_
    rintro e w2 ⟨rfl, t2, k2⟩
    go_wp2_with fail
    refine (sched_New _).mono ?_
    rintro e w3 ⟨rfl, t3, k3⟩
    go_wp2_with fail
    have P0 : Play18 w.heap.size w (w3.alloc (.cells #[.slice none 0 0] 75)) (.pointer (some ⟨w1.heap.size, 0, none⟩)) (.pointer (some ⟨w2.heap.size, 0, none⟩)) (.pointer (some ⟨w3.heap.size, 0, none⟩)) w1.heap.size w2.heap.size w3.heap.size [] [] (.slice none 0 0) (.slice none 0 0) := by
      have z1 := k1.size
      have z2 := k2.size
      have z3 := k3.size
      have hlt := t2.blk.lt
      have hT : Touch (fun _ => False) w3 (w3.alloc (.cells #[.slice none 0 0] 75)) := (Touch.refl _ _).alloc _
      refine ⟨?_, ?_, ?_, by omega, ?_, by simp; omega⟩
      · have := (t2.kept k3).still hT
        exact ⟨this.ptr, this.blk, World.ownsRow_nil _ _ _ _, by omega⟩
      · have := t3.still hT
        exact ⟨this.ptr, this.blk, World.ownsRow_nil _ _ _ _, by omega⟩
      · exact ⟨rfl, Blk.new _ _ _, World.ownsRow_nil _ _ _ _, by omega⟩
      · exact (Kept.trans (Kept.trans k1 k2) k3).alloc (by omega) _
    have P0' := Lib.hid P0
    clear P0 t2 t3 k1 k2 k3
    generalize w1.heap.size = gs at *
    generalize w2.heap.size = go at *
    generalize w3.heap.size = gr at *
    go_loopw [7] (fun i wr => ∃ (k : Nat) (l : List Th) (vs vr : Value), k ≤ m ∧ i = .int .i64 k ∧ Play18 w.heap.size w wr (.pointer (some ⟨gs, 0, none⟩)) (.pointer (some ⟨go, 0, none⟩)) (.pointer (some ⟨gr, 0, none⟩)) gs go gr l l vs vr ∧ Fine l) (fun i _ => m - (intOf i).toNat)
    case atStart => exact ⟨0, [], _, _, Nat.zero_le _, rfl, P0'.out, Fine.nil⟩
    case round =>
      obtain ⟨k, l, vs, vr, hk, rfl, hP, hF⟩ := hrel
      have HP := Lib.hid hP
      have HF := Lib.hid hF
      by_cases hlt : k < m
      · obtain ⟨x, hx⟩ : ∃ x, ops[k]? = some x := ⟨ops[k]'(by have := hm'.out; omega), List.getElem?_eq_getElem _⟩
        obtain ⟨b, off, rfl, hc⟩ := h3'.out (by omega)
        have hg : ∀ f u, (encOpS x)[f]? = some u → f < 4 → wr.cell? ⟨b, off + (k * 4 + f), none⟩ = some u := fun f u hu hf => Kept.cell hP.below (hc _ _ (by rw [flat_get encOpS 4 (fun _ => rfl) ops k f x hx hf]; exact hu))
        have g0 : wr.cell? ⟨b, off + k * 4, none⟩ = some (.int .i64 x.kind) := hg 0 _ rfl (by omega)
        have g1 : wr.cell? ⟨b, off + k * 4 + 1, none⟩ = some (.int .i64 x.t) := hg 1 _ rfl (by omega)
        have g2 : wr.cell? ⟨b, off + k * 4 + 2, none⟩ = some (.int .i64 x.raw) := hg 2 _ rfl (by omega)
        have g3 : wr.cell? ⟨b, off + k * 4 + 3, none⟩ = some (.string x.tx) := hg 3 _ rfl (by omega)
        clear hc hg hP hF
        go_upto_block 2 with fail
        go_cut [9, 10, 11, 12, 13, 14] from 37 to 197 (fun s9 s10 _ _ _ _ wx => ∃ (E : Int) (l' : List Th) (vs' vr' : Value), s9 = .int .i64 E ∧ s10 = .int .i64 E ∧ Play18 w.heap.size w wx (.pointer (some ⟨gs, 0, none⟩)) (.pointer (some ⟨go, 0, none⟩)) (.pointer (some ⟨gr, 0, none⟩)) gs go gr l' l' vs' vr' ∧ Fine l' ∧ Blk wx wr.heap.size 77 #[.int .i64 x.kind, .int .i64 x.t, .int .i64 x.raw, .string x.tx])
        case first =>
          have Q := HP.out.still ((Touch.refl (fun _ => False) wr).alloc (.cells #[.int .i64 x.kind, .int .i64 x.t, .int .i64 x.raw, .string x.tx] 77))
          have bx : Blk (wr.alloc (.cells #[.int .i64 x.kind, .int .i64 x.t, .int .i64 x.raw, .string x.tx] 77)) wr.heap.size 77 #[.int .i64 x.kind, .int .i64 x.t, .int .i64 x.raw, .string x.tx] := Blk.new _ _ _
          have hF := HF.out
          have HQ := Lib.hid Q
          have HX := Lib.hid bx
          clear Q bx g0 g1 g2 g3
          by_cases c0 : x.kind.tmod 5 = 0
          · by_cases hfull : l.length < 16
            · go_wp2_with fail
              refine (sched_Start_lt _ _ _ _ _ _ HQ.out.s HQ.out.size hfull).mono ?_
              rintro e w4 ⟨rfl, vs4, t4, b4, _⟩
              have Q4 := HQ.out.s_to (by decide) (by decide) (by decide) (by decide) (by decide) t4 b4
              have x4 := HX.out.touch b4 (blk_apart HQ.out.s HX.out (by decide) (by decide))
              clear t4 b4
              go_wp2_with fail
              refine (ref15_Start_lt _ _ _ _ _ _ Q4.r Q4.size hfull).mono ?_
              rintro e w5 ⟨rfl, vr5, t5, b5, _⟩
              have Q5 := Q4.r_to (by decide) (by decide) (by decide) (by decide) t5 b5
              have x5 := x4.touch b5 (blk_apart Q4.r x4 (by decide) (by decide))
              clear t5 b5 Q4 x4
              go_wp2_with fail
              go_meet
              exact ⟨0, _, _, _, rfl, rfl, Q5, hF.push hfull, x5⟩
            · have hfl : l.length = 16 := by have := hF.1; omega
              go_wp2_with fail
              refine (sched_Start_full _ _ _ _ _ _ HQ.out.s HQ.out.size hfl).mono ?_
              rintro e w4 ⟨rfl, rfl⟩
              go_wp2_with fail
              refine (ref15_Start_full _ _ _ _ _ _ HQ.out.r HQ.out.size hfl).mono ?_
              rintro e w4 ⟨rfl, rfl⟩
              go_wp2_with fail
              go_meet
              exact ⟨42, _, _, _, rfl, rfl, HQ.out, hF, HX.out⟩
          · by_cases c1 : x.kind.tmod 5 = 1
            · go_wp2_with fail
              refine (sched_Block _ _ _ _ _ _ x.t x.tx HQ.out.s HQ.out.size hF.1).mono ?_
              rintro e w4 ⟨rfl, t4, b4⟩
              have Q4 := HQ.out.s_to (by decide) (by decide) (by decide) (by decide) (by decide) t4 b4
              have x4 := HX.out.touch b4 (blk_apart HQ.out.s HX.out (by decide) (by decide))
              have y1 := x4.cell 1
              have y3 := x4.cell 3
              simp at y1 y3
              clear t4 b4
              go_wp2_with fail
              refine (ref15_Block _ _ _ _ _ _ x.t x.tx Q4.r Q4.size hF.1).mono ?_
              rintro e w5 ⟨rfl, t5, b5⟩
              have Q5 := Q4.r_to (by decide) (by decide) (by decide) (by decide) t5 b5
              have x5 := x4.touch b5 (blk_apart Q4.r x4 (by decide) (by decide))
              clear t5 b5 Q4 x4 y1 y3
              go_wp2_with fail
              go_meet
              exact ⟨_, _, _, _, rfl, rfl, Q5, hF.turn _ _ _ (by simp), x5⟩
            · by_cases c2 : x.kind.tmod 5 = 2
              · have ts := turn_same (l := l) x.t 1 ⟨0, ⟨#[]⟩⟩ (by simp)
                go_wp2_with fail
                refine (sched_Wake _ _ _ _ _ _ x.t HQ.out.s HQ.out.size hF.1).mono ?_
                rintro e w4 ⟨rfl, t4, b4⟩
                have Q4 := HQ.out.s_to (by decide) (by decide) (by decide) (by decide) (by decide) t4 b4
                have x4 := HX.out.touch b4 (blk_apart HQ.out.s HX.out (by decide) (by decide))
                have y1 := x4.cell 1
                have y3 := x4.cell 3
                simp at y1 y3
                clear t4 b4
                go_wp2_with fail
                refine (ref15_Wake _ _ _ _ _ _ x.t Q4.r Q4.size hF.1).mono ?_
                rintro e w5 ⟨rfl, t5, b5⟩
                rw [← ts.2] at t5
                have Q5 := Q4.r_to (by decide) (by decide) (by decide) (by decide) t5 b5
                have x5 := x4.touch b5 (blk_apart Q4.r x4 (by decide) (by decide))
                clear t5 b5 Q4 x4 y1 y3
                go_wp2_with fail
                go_meet
                exact ⟨_, _, _, _, rfl, rfl, Q5, hF.turn _ _ _ (by intro _; exact empty_toList), x5⟩
              · by_cases c3 : x.kind.tmod 5 = 3
                · have ts := turn_same (l := l) x.t 0 (finTo x.tx) (finTo_st x.tx).1
                  go_wp2_with fail
                  refine (sched_Finish _ _ _ _ _ _ x.t x.tx HQ.out.s HQ.out.size hF.1).mono ?_
                  rintro e w4 ⟨rfl, t4, b4⟩
                  have Q4 := HQ.out.s_to (by decide) (by decide) (by decide) (by decide) (by decide) t4 b4
                  have x4 := HX.out.touch b4 (blk_apart HQ.out.s HX.out (by decide) (by decide))
                  have y1 := x4.cell 1
                  have y3 := x4.cell 3
                  simp at y1 y3
                  clear t4 b4
                  go_wp2_with fail
                  refine (ref15_Finish _ _ _ _ _ _ x.t x.tx Q4.r Q4.size hF.1).mono ?_
                  rintro e w5 ⟨rfl, t5, b5⟩
                  rw [← ts.2] at t5
                  have Q5 := Q4.r_to (by decide) (by decide) (by decide) (by decide) t5 b5
                  have x5 := x4.touch b5 (blk_apart Q4.r x4 (by decide) (by decide))
                  clear t5 b5 Q4 x4 y1 y3
                  go_wp2_with fail
                  go_meet
                  exact ⟨_, _, _, _, rfl, rfl, Q5, hF.turn _ _ _ (finTo_st x.tx).2, x5⟩
                · go_wp2_with fail
                  go_meet
                  exact ⟨0, _, _, _, rfl, rfl, HQ.out, hF, HX.out⟩
        case rest =>
          obtain ⟨E, l', vs', vr', rfl, rfl, hP', hF', hX⟩ := hcut
          have hraw := hwf'.out x (List.mem_of_getElem? hx)
          have hF2 := hF'
          have HQ := Lib.hid hP'
          have HX := Lib.hid hX
          have z2 := hX.cell 2
          simp at z2
          have hr1 := hraw.1
          have hr2 := hraw.2
          clear hP' hX hraw g0 g1 g2 g3
          go_wp2_with fail
          refine (sched_Pick _ _ _ _ _ _ x.raw HQ.out.s hF2.1 hr1 hr2).mono ?_
          rintro e w4 ⟨rfl, b4⟩
          have Q4 := HQ.out.kept b4
          have x4 := HX.out.kept b4
          have y2 := x4.cell 2
          simp at y2
          clear z2 b4
          go_wp2_with fail
          have P5 := ref15_Pick _ _ _ _ _ _ x.raw Q4.r hF2.1 hr1 hr2
          rw [← ixs_fine hF2] at P5
          refine P5.mono ?_
          rintro e w5 ⟨rfl, b5⟩
          have Q5 := Q4.kept b5
          have x5 := x4.kept b5
          clear y2 b5 P5 x4 Q4
          have HQ5 := Lib.hid Q5
          obtain ⟨ar, cr, hvr, hcl, hcr⟩ := own_slice Q5.r.own
          subst hvr
          have d0 := Q5.r.blk.cell 0
          simp at d0
          clear Q5
          go_wp2_with fail
          go_quiet ((first | (go_at_call 35; exact quiet_l (num18 _ _)) | (go_at_call 50; (first | (with_reducible exact quiet_l (sched_Len _ _ _ _ _ _ (HQ5.out.s.still ((Touch.refl _ _).drewN _)))) | (with_reducible exact quiet_l (sched_Len0 _ _ _ _ _ (HQ5.out.o.still ((Touch.refl _ _).drewN _))))))))
          go_wp2_with fail
          have hl16 : l'.length ≤ 16 := hF2.1
          have HFn := Lib.hid hF2
          clear hF2 hF'
          obtain ⟨wo, rfl⟩ : ∃ wo : World, wo = wr := ⟨_, rfl⟩
          go_loopw [19] (fun s19 wq => ∃ t : Int, -1 ≤ t ∧ t ≤ (l'.length : Int) + 1 ∧ s19 = .int .i64 t ∧ Touch (fun _ => False) w5 wq) (fun s19 _ => ((l'.length : Int) + 1 - intOf s19).toNat)
          case atStart => exact ⟨-1, by omega, by omega, rfl, ((Touch.refl _ _).drewN _)⟩
          case round =>
            obtain ⟨t, ht1, ht2, rfl, hT⟩ := hrel
            have dq := hT.cell d0 id
            have HT := Lib.hid hT
            clear hT
            by_cases hjl : t ≤ (l'.length : Int)
            · have hsame : ∀ n, Touch (fun _ => False) w5 (wr.drewN n) := fun n => HT.out.drewN n
              have HS := Lib.hid hsame
              clear hsame
              rcases (by omega : t = -1 ∨ (0 ≤ t ∧ t < (l'.length : Int)) ∨ t = (l'.length : Int)) with h0 | h0 | h0
              · subst h0
                have hs : stateOf l' (-1) = ⟨0, ⟨#[]⟩⟩ := by simp [stateOf]
                go_wp2_with fail
                have C := sched_State _ _ _ _ _ _ (-1) (HQ5.out.s.still HT.out) hl16
                rw [hs] at C
                refine C.mono ?_
                rintro e wz ⟨rfl, nz, rfl⟩
                clear C hs
                go_wp2
                go_roundw
                case rel => exact ⟨_, by omega, by omega, rfl, HS.out _⟩
                case measure => simp [intOf]; try omega
              · obtain ⟨i, rfl⟩ : ∃ i : Nat, t = i := ⟨t.toNat, by omega⟩
                obtain ⟨y, hy⟩ : ∃ y, l'[i]? = some y := ⟨l'[i]'(by omega), List.getElem?_eq_getElem (by omega)⟩
                have hs : stateOf l' i = y := by simp only [stateOf, if_pos h0, Int.toNat_natCast, hy, Option.getD_some]
                obtain ⟨rr, c', hv, _, _, _, _, hcell, _⟩ := own_form HQ5.out.r.own (by omega)
                simp only [Value.slice.injEq] at hv
                obtain ⟨rfl, _, rfl⟩ := hv
                have r0 := HT.out.cell (hcell (i * 2) (.int .i64 y.st) (by have := flat_get encTh 2 encTh_len l' i 0 y hy (by omega); simpa [encTh] using this)) id
                have r1 := HT.out.cell (hcell (i * 2 + 1) (.string y.tx) (by have := flat_get encTh 2 encTh_len l' i 1 y hy (by omega); simpa [encTh] using this)) id
                have hi0 : (i : Int) < (l'.length : Int) := h0.2
                go_wp2_with fail
                have C := sched_State _ _ _ _ _ _ (i : Int) (HQ5.out.s.still HT.out) hl16
                rw [hs] at C
                refine C.mono ?_
                rintro e wz ⟨rfl, nz, rfl⟩
                clear C hs hcell hy h0
                go_wp2
                go_roundw
                case rel => exact ⟨_, by omega, by omega, rfl, HS.out _⟩
                case measure => simp [intOf]; try omega
              · subst h0
                have hs : stateOf l' l'.length = ⟨0, ⟨#[]⟩⟩ := by simp [stateOf]
                go_wp2_with fail
                have C := sched_State _ _ _ _ _ _ (l'.length : Int) (HQ5.out.s.still HT.out) hl16
                rw [hs] at C
                refine C.mono ?_
                rintro e wz ⟨rfl, nz, rfl⟩
                clear C hs
                go_wp2
                go_roundw
                case rel => exact ⟨_, by omega, by omega, rfl, HS.out _⟩
                case measure => simp [intOf]; try omega
            · go_wp2_with fail
              go_roundw
              case rel => exact ⟨k + 1, l', vs', _, by omega, by go_num, HQ5.out.still HT.out, HFn.out⟩
              case measure => simp [intOf]; omega
      · clear hP hF
        go_wp2
        go_ret
        exact ⟨rfl, HP.out.below⟩

end Go.Proofs.Ytgophanpnaenkaa
