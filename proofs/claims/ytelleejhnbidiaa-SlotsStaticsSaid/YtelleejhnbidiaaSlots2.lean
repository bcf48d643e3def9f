/-
  Chapter 11: Statics by both sides, sameValues, Big, alive.
-/
import Derived.Test.YtelleejhnbidiaaSlots
namespace Go.Proofs.Ytelleejhnbidiaa
open Go.RowKit
set_option maxRecDepth 100000

theorem slots_Statics (y : TypeV) (w : World) (hr : Rd w 5 y.fieldsV y.fields.length (y.fields.flatMap encMemberV)) (hn : y.fields.length ≤ 3000) :
    Calls Try.prog 14 #[.agg (encTypeV y).toArray] w fun e w' => (∃ v, e = .returned v ∧ ∃ B, w.heap.size ≤ B ∧ w'.ownsRow B 32 2 v y.fields.length (memVals y.fields)) ∧ Kept w w' := by
  have hmf : ∀ (fn : Fn) (first cap : Array Value) (w : World), (Instr.makeFunc fn first cap).run Try.prog w = .ok (.func fn first cap) w := fun _ _ _ _ => rfl
  have C := slots_gathered y w.heap.size 25 (w.alloc (.cells (encTypeV y).toArray 25)) (Blk.new _ _ _) (hr.kept ((Below.refl _ _).alloc (Nat.le_refl _) _)) hn
  obtain ⟨_, a, c, hv, h1, h2, _⟩ := hr
  obtain ⟨n, hnn⟩ : ∃ n, n = y.fields.length := ⟨_, rfl⟩
  rw [← hnn] at C hv h1
  have HN := Lib.hid hnn
  clear hnn hn
  obtain ⟨nm, sp, acc, iv, il, fv, fl, mv, ml⟩ := y
  simp only at hv
  subst hv
  simp only [encTypeV] at C ⊢
  go_enter Try.func14, Try.ntmps14
  go_wp2_with (go_at_call 48; (refine C.mono ?_); rintro e w1 ⟨⟨v1, rfl, hr1⟩, k1⟩)
  go_ret
  refine ⟨⟨_, rfl, w.heap.size + 1, by omega, ?_⟩, Kept.trans ((Below.refl _ _).alloc (Nat.le_refl _) _) k1⟩
  have := HN.out
  subst this
  simpa using hr1

set_option maxHeartbeats 1000000 in
theorem ref11_Statics (y : TypeV) (w : World) (hr : Rd w 5 y.fieldsV y.fields.length (y.fields.flatMap encMemberV)) (hn : y.fields.length ≤ 3000) :
    Calls Try.prog 16 #[.agg (encTypeV y).toArray] w fun e w' => (∃ v, e = .returned v ∧ ∃ B, w.heap.size ≤ B ∧ w'.ownsRow B 32 2 v y.fields.length (memVals y.fields)) ∧ Kept w w' := by
  have hb : Blk (w.alloc (.cells (encTypeV y).toArray 25)) w.heap.size 25 (encTypeV y).toArray := Blk.new _ _ _
  have k0 : Kept w (w.alloc (.cells (encTypeV y).toArray 25)) := (Below.refl _ _).alloc (Nat.le_refl _) _
  have hr0 := Lib.hid hr
  obtain ⟨_, a, c, hv, h1, h2, _⟩ := hr
  obtain ⟨n, hnn⟩ : ∃ n, n = y.fields.length := ⟨_, rfl⟩
  rw [← hnn] at hv h1 hn
  have HN := Lib.hid hnn
  clear hnn
  obtain ⟨nm, sp, acc, iv, il, fv, fl, mv, ml⟩ := y
  simp only at hv
  subst hv
  simp only [encTypeV] at hb k0 ⊢
  have hb0 := Lib.hid hb
  clear hb
  go_enter Try.func16, Try.ntmps16
  go_wp2
  go_loopw [3, 4] (fun s3 s4 wr => ∃ k : Nat, k ≤ n ∧ s4 = .int .i64 k ∧ wr.ownsRow (w.heap.size + 1) 32 2 s3 k (memVals (fl.take k)) ∧ Kept (w.alloc (.cells (encTypeV ⟨nm, sp, acc, iv, il, .slice a n c, fl, mv, ml⟩).toArray 25)) wr) (fun _ s4 _ => n - (intOf s4).toNat)
  case atStart => exact ⟨0, by omega, rfl, World.ownsRow_nil _ _ _ _, Below.refl _ _⟩
  case round =>
    obtain ⟨k, hk, rfl, hown, hbl⟩ := hrel
    have hsz := hbl.size
    have bb := hb0.out.kept hbl
    have d4 := bb.cell 4
    simp at d4
    clear bb
    by_cases hlt : k < n
    · obtain ⟨m, hm⟩ : ∃ m, fl[k]? = some m := ⟨_, List.getElem?_eq_getElem (show k < fl.length by have := HN.out; omega)⟩
      obtain ⟨b, off, c', hv, hc, c0, c1, c2, c3, c4⟩ := mem_cells ((hr0.out.kept k0).kept hbl) hm
      simp only [Value.slice.injEq] at hv
      obtain ⟨rfl, -, rfl⟩ := hv
      have HM := Lib.hid hm
      have HO := Lib.hid hown
      have HL := Lib.hid hbl
      clear hm hown hbl
      have hW : ∀ W, Touch (fun _ => False) wr W → W.ownsRow (w.heap.size + 1) 32 2 u3 k (memVals (fl.take k)) := fun W hT => hT.own HO.out (fun _ _ => id)
      have HW := Lib.hid hW
      clear hW
      by_cases h0 : bits .and .i64 m.access 8 = 0
      · have hmv : memVal m = ⟨false, 0⟩ := by simp [memVal, h0]
        have HV := Lib.hid hmv
        clear hmv
        go_wp2_with (at_builtin; refine wpl_pushH _ elem_val rfl _ _ rfl (w.heap.size + 1) _ _ _ rfl (HW.out _ (by exact ((Touch.refl _ _).alloc _).alloc _)) [.bool false, .int .i64 0] _ _ rfl (by simp) rfl (encVal_one ⟨false, 0⟩) (by omega) (by omega) (by simp at hsz; omega) ?_; intro v1 w1 hown1 hg1 hk1 hb1)
        go_roundw
        case rel =>
          exact ⟨k + 1, by omega, by go_num, by rw [memVals_snoc HM.out, HV.out]; exact hown1, Below.trans HL.out (Below.trans (((Below.refl _ _).alloc hsz _).alloc (by simp at hsz ⊢; omega) _) (hb1.mono (by simp)))⟩
        case measure => simp [intOf]; omega
      · have harm : (bits .and .i64 m.access 8 != 0) = true := by simpa using h0
        by_cases hh : m.has = true
        · have hmv : memVal m = ⟨false, m.value⟩ := by simp [memVal, h0, hh]
          have HV := Lib.hid hmv
          clear hmv
          go_wp2_with fail
          refine (ref11_Zero _ _).mono ?_
          rintro e w1 ⟨rfl, k1⟩
          have tw : Touch (fun _ => False) wr w1 := Touch.trans (((Touch.refl _ _).alloc _).alloc _) (Touch.of_kept (S := fun _ => False) k1) (fun _ h => h.elim)
          have sw := k1.size
          simp at sw
          have bm := ((Blk.new wr 58 #[.int .i64 m.access, .string m.name, .string m.desc, .bool true, .int .i64 m.value]).alloc (.cells #[.bool false, .int .i64 0] 32)).kept k1
          have bv := (Blk.at_ (w := wr.alloc (.cells #[.int .i64 m.access, .string m.name, .string m.desc, .bool true, .int .i64 m.value] 58)) (t := 32) (cs := #[.bool false, .int .i64 0]) (g := wr.heap.size + 1) (by simp)).kept k1
          clear k1
          obtain ⟨⟨zr, zn⟩, hz⟩ : ∃ z, zeroOf m.desc = z := ⟨_, rfl⟩
          rw [hz]
          simp only
          have HZ := Lib.hid hz
          clear hz
          have q1 : ¬ wr.heap.size = wr.heap.size + 1 := by omega
          have q2 : ¬ wr.heap.size + 1 = wr.heap.size := by omega
          have q3 : wr.heap.size + 1 < w1.heap.size := by omega
          have q4 : wr.heap.size < w1.heap.size := by omega
          have q5 : wr.heap.size ≤ wr.heap.size + 1 := by omega
          clear sw c0 c1 c2 c3 c4 d4
          obtain ⟨g1, hg1⟩ : ∃ g, g = wr.heap.size := ⟨_, rfl⟩
          obtain ⟨g2, hg2⟩ : ∃ g, g = wr.heap.size + 1 := ⟨_, rfl⟩
          have HG := Lib.hid hg1
          rw [← hg2] at bv q1 q2 q3 q5 ⊢
          rw [← hg1] at bm q1 q2 q4 q5 ⊢
          clear hg1 hg2
          have m2 := bm.cell 2
          have m3 := bm.cell 3
          have m4 := bm.cell 4
          have v0 := bv.cell 0
          have v1 := bv.cell 1
          have f0 := bv.frozen 0
          have f1 := bv.frozen 1
          have bz := (((bv.set_ 0 (.bool zr)).set_ 1 (.int .i64 zn)).set_ 0 (.bool false)).set_ 1 (.int .i64 m.value)
          have z0 := bz.cell 0
          have z1 := bz.cell 1
          simp at m2 m3 m4 v0 v1 z0 z1
          clear bm bv bz
          have hg12 : wr.heap.size ≤ g2 := by have := HG.out; omega
          go_wp2_with (at_builtin; refine wpl_pushH _ elem_val rfl _ _ rfl (w.heap.size + 1) _ _ _ rfl (HW.out _ (by repeat' first | exact tw | refine Touch.setCell ?_ (.inr hg12) _ | refine Touch.alloc ?_ _)) [.bool false, .int .i64 m.value] _ _ rfl (by simp) rfl (encVal_one ⟨false, m.value⟩) (by omega) (by omega) (by have := HG.out; simp at hsz; simp; omega) ?_; intro v2 w2 hown1 hg1 hk1 hb1)
          go_roundw
          case rel =>
            refine ⟨k + 1, by omega, by go_num, by rw [memVals_snoc HM.out, HV.out]; exact hown1, Below.trans HL.out ?_⟩
            have tb : Below (w.heap.size + 1) wr w1 := tw.below (fun _ h => h.elim) (by simpa using hsz)
            have hge : w.heap.size + 1 ≤ g2 := Nat.le_trans (by simpa using hsz) hg12
            have fin : Below (w.heap.size + 1) wr w2 := Below.trans (by repeat' first | exact tb | refine Below.setCell ?_ hge _) hb1
            exact fin.mono (by simp)
          case measure => simp [intOf]; omega
        · have hh' : m.has = false := by simpa using hh
          have hmv : memVal m = zeroOf m.desc := by simp [memVal, h0, hh']
          have HV := Lib.hid hmv
          clear hmv hh
          go_wp2_with fail
          refine (ref11_Zero _ _).mono ?_
          rintro e w1 ⟨rfl, k1⟩
          have tw : Touch (fun _ => False) wr w1 := Touch.trans (((Touch.refl _ _).alloc _).alloc _) (Touch.of_kept (S := fun _ => False) k1) (fun _ h => h.elim)
          have sw := k1.size
          simp at sw
          have bm := ((Blk.new wr 58 #[.int .i64 m.access, .string m.name, .string m.desc, .bool false, .int .i64 m.value]).alloc (.cells #[.bool false, .int .i64 0] 32)).kept k1
          have bv := (Blk.at_ (w := wr.alloc (.cells #[.int .i64 m.access, .string m.name, .string m.desc, .bool false, .int .i64 m.value] 58)) (t := 32) (cs := #[.bool false, .int .i64 0]) (g := wr.heap.size + 1) (by simp)).kept k1
          clear k1
          obtain ⟨⟨zr, zn⟩, hz⟩ : ∃ z, zeroOf m.desc = z := ⟨_, rfl⟩
          rw [hz]
          simp only
          have HZ := Lib.hid hz
          clear hz
          have q1 : ¬ wr.heap.size = wr.heap.size + 1 := by omega
          have q2 : ¬ wr.heap.size + 1 = wr.heap.size := by omega
          have q3 : wr.heap.size + 1 < w1.heap.size := by omega
          have q4 : wr.heap.size < w1.heap.size := by omega
          have q5 : wr.heap.size ≤ wr.heap.size + 1 := by omega
          clear sw c0 c1 c2 c3 c4 d4
          obtain ⟨g1, hg1⟩ : ∃ g, g = wr.heap.size := ⟨_, rfl⟩
          obtain ⟨g2, hg2⟩ : ∃ g, g = wr.heap.size + 1 := ⟨_, rfl⟩
          have HG := Lib.hid hg1
          rw [← hg2] at bv q1 q2 q3 q5 ⊢
          rw [← hg1] at bm q1 q2 q4 q5 ⊢
          clear hg1 hg2
          have m2 := bm.cell 2
          have m3 := bm.cell 3
          have m4 := bm.cell 4
          have v0 := bv.cell 0
          have v1 := bv.cell 1
          have f0 := bv.frozen 0
          have f1 := bv.frozen 1
          have bz := (bv.set_ 0 (.bool zr)).set_ 1 (.int .i64 zn)
          have z0 := bz.cell 0
          have z1 := bz.cell 1
          simp at m2 m3 m4 v0 v1 z0 z1
          clear bm bv bz
          have hg12 : wr.heap.size ≤ g2 := by have := HG.out; omega
          go_wp2_with (at_builtin; refine wpl_pushH _ elem_val rfl _ _ rfl (w.heap.size + 1) _ _ _ rfl (HW.out _ (by repeat' first | exact tw | refine Touch.setCell ?_ (.inr hg12) _ | refine Touch.alloc ?_ _)) [.bool zr, .int .i64 zn] _ _ rfl (by simp) rfl (encVal_one ⟨zr, zn⟩) (by omega) (by omega) (by have := HG.out; simp at hsz; simp; omega) ?_; intro v2 w2 hown1 hg1 hk1 hb1)
          go_roundw
          case rel =>
            refine ⟨k + 1, by omega, by go_num, by rw [memVals_snoc HM.out, HV.out, HZ.out]; exact hown1, Below.trans HL.out ?_⟩
            have tb : Below (w.heap.size + 1) wr w1 := tw.below (fun _ h => h.elim) (by simpa using hsz)
            have hge : w.heap.size + 1 ≤ g2 := Nat.le_trans (by simpa using hsz) hg12
            have fin : Below (w.heap.size + 1) wr w2 := Below.trans (by repeat' first | exact tb | refine Below.setCell ?_ hge _) hb1
            exact fin.mono (by simp)
          case measure => simp [intOf]; omega
    · obtain rfl : k = n := by omega
      have hf : fl.take k = fl := List.take_of_length_le (by have := HN.out; omega)
      rw [hf] at hown
      clear hf
      go_wp2
      go_ret
      refine ⟨⟨_, rfl, w.heap.size + 1, by omega, ?_⟩, Kept.trans k0 hbl⟩
      have := HN.out
      subst this
      exact hown
end Go.Proofs.Ytelleejhnbidiaa
