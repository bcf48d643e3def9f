/-
  The document's own answer of chapter 11 by contract: Layout, Fresh, Place.
-/
import Derived.Test.YtjljfadfepidjaaSlotsR3
import Derived.Test.YtjljfadfepidjaaRef9
namespace Go.Proofs.Ytjljfadfepidjaa
open Go.RowKit
set_option maxRecDepth 100000

theorem rev_drop {α : Type} {l : List α} {i : Nat} {x : α} (h : l[i]? = some x) : (l.drop i).reverse = (l.drop (i + 1)).reverse ++ [x] := by
  rw [List.drop_eq_getElem_cons (List.getElem?_eq_some_iff.1 h).1, (List.getElem?_eq_some_iff.1 h).2, List.reverse_cons]

theorem _root_.Go.World.ownsRow.base_ {w : World} {b b' e sz n : Nat} {v : Value} {xs : List Value} (h : w.ownsRow b e sz v n xs) (hb : b' ≤ b) : w.ownsRow b' e sz v n xs := by
  refine ⟨h.1, ?_⟩
  rcases h.2 with h0 | ⟨g, cap, cur, hv, hg, r⟩
  · exact .inl h0
  · exact .inr ⟨g, cap, cur, hv, Nat.le_trans hb hg, r⟩

set_option maxHeartbeats 4000000 in
theorem ref11_Layout (D : List TD) (s : ByteArray) (v : Value) (w : World) (h : TyR w v D) (hs : s.size ≤ maxLen) (hct : ∀ t ∈ D, t.fields.length ≤ 3000) :
    Calls Try.prog 15 #[v, .string s] w fun e w' => ∃ v', e = .returned v' ∧ w'.ownsRow w.heap.size 33 2 v' (slotL D s).length ((slotL D s).flatMap encSl) ∧ Kept w w' := by
  have H := Lib.hid h
  have HCT := Lib.hid hct
  obtain ⟨av, cv, rfl, -, -⟩ := h.slice
  have hl := h.len
  have hcl := (chainL_nms D s).le
  obtain ⟨C, hC⟩ : ∃ C, C = chainL D s := ⟨_, rfl⟩
  obtain ⟨N, hN⟩ : ∃ N, N = C.length := ⟨_, rfl⟩
  have hNl : N ≤ 100 := by rw [hN, hC]; omega
  have HC := Lib.hid hC
  have HN := Lib.hid hN
  have HSL := Lib.hid (show slotL D s = C.reverse.flatMap (clsS D) by rw [hC]; rfl)
  clear h hct hC hN
  go_enter Try.func15, Try.ntmps15
  go_wp2_with fail
  refine (ref9_Chain D s _ w H.out hs).mono ?_
  rintro e w1 ⟨vc, rfl, hvc, k1⟩
  have hrd : Rd w1 1 vc N (C.flatMap encS) := by rw [HN.out, HC.out]; exact hvc.rd
  have HV := Lib.hid hrd
  have K1 := Lib.hid k1
  obtain ⟨-, ac, cc, rfl, hcc1, hcc2, -⟩ := hrd
  clear hvc k1
  go_wp2_with fail
  go_loopw [5, 7] (fun s5 s7 wr => ∃ (k : Nat) (acc : List SV), k ≤ N ∧ s7 = .int .i64 ((k : Int) - 1) ∧ acc = (C.drop k).reverse.flatMap (clsS D) ∧ wr.ownsRow w1.heap.size 33 2 s5 acc.length (acc.flatMap encSl) ∧ Kept w1 wr) (fun _ s7 _ => (intOf s7 + 1).toNat)
  case atStart => exact ⟨N, [], by omega, rfl, by rw [List.drop_of_length_le (by have := HN.out; omega)]; rfl, World.ownsRow_nil _ _ _ _, Below.refl _ _⟩
  case round =>
    obtain ⟨k, acc, hk, rfl, hac, ho, hK⟩ := hrel
    rename World => wr
    obtain ⟨ao, co, rfl, hco1, hco2⟩ := own_slice ho
    have HO := Lib.hid ho
    have HK := Lib.hid hK
    have HB := Lib.hid (Kept.trans K1.out hK)
    have hacc : acc.length ≤ 300000 := by
      rw [hac]
      have h1 := flat_le (clsS_len HCT.out) (C.drop k).reverse
      have h2 : (C.drop k).reverse.length ≤ 100 := by rw [List.length_reverse, List.length_drop]; have := HN.out; omega
      have := Nat.mul_le_mul_right 3000 h2
      omega
    have HAC := Lib.hid hac
    clear ho hK hac
    cases k with
    | zero =>
      have hneg : ¬ ((0 : Int) ≤ ((0 : Nat) : Int) - 1) := by omega
      have HE := Lib.hid (show acc = slotL D s by rw [HSL.out, HAC.out, List.drop_zero])
      have HF := Lib.hid (HO.out.base_ K1.out.size)
      go_wp2_with fail
      go_ret
      exact ⟨_, rfl, by rw [← HE.out]; exact HF.out, HB.out⟩
    | succ k =>
      obtain ⟨x, hx⟩ : ∃ x, C[k]? = some x := ⟨_, List.getElem?_eq_getElem (by have := HN.out; omega)⟩
      obtain ⟨xb, xo, xc, hv, x0⟩ := str_cell HN.out (HV.out.kept HK.out) hx
      simp only [Value.slice.injEq] at hv
      obtain ⟨rfl, -, rfl⟩ := hv
      have hth : there D x := (chainL_nms D s).th x (by rw [← HC.out]; exact List.mem_of_getElem? hx)
      unfold there at hth
      obtain ⟨ka, hka⟩ := Option.isSome_iff_exists.1 hth
      obtain ⟨t, ht, -, hkl⟩ := atO_some hka
      have hcx : clsS D x = instF x t.fields 0 := by unfold clsS; rw [flds_at hka ht]
      have hnx : (C.drop k).reverse.flatMap (clsS D) = acc ++ instF x t.fields 0 := by rw [rev_drop hx, List.flatMap_append, ← hcx, HAC.out]; simp
      have HNX := Lib.hid hnx
      have hfl := HCT.out t (List.mem_of_getElem? ht)
      have CA := ref9_At D x _ wr (H.out.kept HB.out)
      rw [atI_some hka] at CA
      have CA := Lib.hid CA
      obtain ⟨tb, tof, tc, iv, fv, mv, hv, y0, y1, y2, y3, y4, y5, hri, -, hfr, -, hrm, -⟩ := H.out.cells ht
      simp only [Value.slice.injEq] at hv
      obtain ⟨rfl, -, rfl⟩ := hv
      obtain ⟨-, ai, ci, rfl, -⟩ := hri
      obtain ⟨-, am, cm, rfl, -⟩ := hrm
      obtain ⟨M, hM⟩ : ∃ M, M = t.fields.length := ⟨_, rfl⟩
      rw [← hM] at hfr hfl
      have HM := Lib.hid hM
      have HFR := Lib.hid hfr
      obtain ⟨-, af, cf, rfl, hcf1, hcf2, -⟩ := hfr
      have y0 := Kept.cell HB.out y0
      have y1 := Kept.cell HB.out y1
      have y2 := Kept.cell HB.out y2
      have y3 := Kept.cell HB.out y3
      have y4 := Kept.cell HB.out y4
      have y5 := Kept.cell HB.out y5
      obtain ⟨cs, hcs⟩ : ∃ cs : Array Value, cs = #[.string t.name, .string t.super, .int .i64 t.access, .slice ai t.interfaces.length ci, .slice af M cf, .slice am t.methods.length cm] := ⟨_, rfl⟩
      have HCS := Lib.hid hcs
      have BT := Lib.hid (Blk.new wr 43 cs)
      have OA := Lib.hid (Touch.own (S := fun _ => False) (Touch.of_kept ((Below.refl _ wr).alloc (Nat.le_refl _) (.cells cs 43))) HO.out (fun _ _ => id))
      have KA := Lib.hid (HK.out.alloc HK.out.size (.cells cs 43))
      have hki : (ka : Int) < (D.length : Int) := by omega
      have hk0 : (0 : Int) ≤ (ka : Int) := by omega
      have hi1 : (k : Int) < (N : Int) := by omega
      have hi0 : (0 : Int) ≤ (k : Int) := by omega
      have hsub : ((k + 1 : Nat) : Int) - 1 = (k : Int) := by omega
      simp only [hsub]
      have HXC := Lib.hid hx
      rw [hcs] at BT OA KA
      clear hx hth hka ht hkl hcx hnx hM hsub hcs
      go_wp2_with fail
      refine CA.out.mono ?_
      rintro e w2 ⟨rfl, rfl⟩
      clear CA
      go_wp2_with fail
      rw [← HCS.out] at BT OA KA
      clear y0 y1 y2 y3 y4 y5 x0
      go_loopw [5, 9] (fun s5 s9 wi => ∃ (j : Nat) (xs : List SV), j ≤ M ∧ s9 = .int .i64 j ∧ xs = acc ++ instF x (t.fields.take j) 0 ∧ wi.ownsRow w1.heap.size 33 2 s5 xs.length (xs.flatMap encSl) ∧ Kept w1 wi ∧ Blk wi wr.heap.size 43 cs) (fun _ s9 _ => M - (intOf s9).toNat)
      case atStart => exact ⟨0, acc, by omega, rfl, by simp [instF], by rw [← HCS.out]; exact OA.out, by rw [← HCS.out]; exact KA.out, by rw [← HCS.out]; exact BT.out⟩
      case round =>
        obtain ⟨j, xs, hj, rfl, hxs, hoi, hKi, hbi⟩ := hrel
        rename World => wi
        obtain ⟨a2, c2, rfl, hc21, hc22⟩ := own_slice hoi
        have HOI := Lib.hid hoi
        have HKI := Lib.hid hKi
        have HBI := Lib.hid hbi
        have HXS := Lib.hid hxs
        have b4 := hbi.cell 4
        rw [HCS.out] at b4
        simp only [List.getElem?_toArray, List.getElem?_cons_succ, List.getElem?_cons_zero] at b4
        have zl := hbi.lt
        have zi := hKi.size
        have hxl : xs.length ≤ 310000 := by
          rw [hxs, List.length_append]
          have h1 := instF_len x (t.fields.take j) 0
          have h2 : (t.fields.take j).length ≤ j := List.length_take_le _ _
          omega
        obtain ⟨xb', xo', xc', hv, x0⟩ := str_cell HN.out (HV.out.kept hKi) HXC.out
        simp only [Value.slice.injEq, Option.some.injEq, Addr.mk.injEq] at hv
        obtain ⟨⟨rfl, rfl, -⟩, -, rfl⟩ := hv
        have hfw := HFR.out.kept (Kept.trans K1.out hKi)
        clear hoi hKi hbi hxs
        by_cases hlj : j < M
        · obtain ⟨m, hm⟩ : ∃ m, t.fields[j]? = some m := ⟨_, List.getElem?_eq_getElem (by have := HM.out; omega)⟩
          obtain ⟨mb, mo, mc, hv, y0, y1, y2, y3, y4⟩ := mem_row HM.out hfw hm
          simp only [Value.slice.injEq] at hv
          obtain ⟨rfl, -, rfl⟩ := hv
          have hnj := instF_next (c := x) hm
          have hj1 : (j : Int) < (M : Int) := by omega
          have hj0 : (0 : Int) ≤ (j : Int) := by omega
          by_cases h0 : bits .and .i64 m.access 8 = 0
          · rw [if_pos h0] at hnj
            have HNJ := Lib.hid hnj
            clear hm hnj hfw
            go_wp2_with (at_builtin; refine wpl_pushH _ elem_slot rfl _ _ rfl w1.heap.size _ xs.length _ rfl HOI.out [.string x, .int .i64 j] _ wi.heap.size rfl rfl rfl (by intro u hu; simp at hu; rcases hu with rfl | rfl <;> rfl) (by omega) (by omega) zi ?_; intro v5 w5 ho5 hg5 hk5 hb5; have HO5 := Lib.hid ho5; have K5 := Lib.hid (Below.trans HKI.out hb5); have B5 := Lib.hid (HBI.out.touch (Touch.of_grown (S := fun b => (Value.slice a2 xs.length c2).ownBlock = some b) hg5 (fun k hk => hk)) (fun e => own_ne HOI.out HBI.out (by decide) _ e rfl)); clear ho5 hg5 hk5 hb5)
            go_roundw
            case rel => exact ⟨j + 1, xs ++ [(x, j, m.desc)], by omega, by go_num, by rw [HNJ.out, ← List.append_assoc, HXS.out], by simpa [encSl] using HO5.out, K5.out, B5.out⟩
            case measure => simp [intOf]; omega
          · rw [if_neg h0, List.append_nil] at hnj
            have HNJ := Lib.hid hnj
            clear hm hnj hfw
            go_wp2_with fail
            go_roundw
            case rel => exact ⟨j + 1, xs, by omega, by go_num, by rw [HNJ.out]; exact HXS.out, HOI.out, HKI.out, HBI.out⟩
            case measure => simp [intOf]; omega
        · have e1 : t.fields.take j = t.fields := List.take_of_length_le (by have := HM.out; omega)
          have HF := Lib.hid (show xs = (C.drop k).reverse.flatMap (clsS D) by rw [HNX.out, HXS.out, e1])
          clear e1 hfw
          go_wp2_with fail
          go_roundw
          case rel => exact ⟨k, xs, by omega, rfl, HF.out, HOI.out, HKI.out⟩
          case measure => simp [intOf] <;> omega
end Go.Proofs.Ytjljfadfepidjaa
