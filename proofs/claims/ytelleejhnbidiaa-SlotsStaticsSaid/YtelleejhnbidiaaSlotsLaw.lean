/-
  The law SlotsStatics of chapter 11, walked.
-/
import Derived.Test.YtelleejhnbidiaaSlots3
import Derived.Test.YtelleejhnbidiaaBig
namespace Go.Proofs.Ytelleejhnbidiaa
open Go.RowKit
set_option maxRecDepth 100000

theorem memVals_map (l : List MemberV) : memVals l = (l.map memVal).flatMap encVal := by
  rw [memVals, List.flatMap_map]

def litT (H : Nat) : TypeV := ⟨⟨#[]⟩, ⟨#[]⟩, 0, .slice none 0 0, [], .slice (some ⟨H, 0, none⟩) 1 1, [⟨8, ⟨#[]⟩, ⟨#[73]⟩, true, 7⟩], .slice none 0 0, []⟩

theorem alive11 (w : World) : Calls Try.prog 12 #[] w fun e w' => e = .returned (.bool true) ∧ Kept w w' := by
  have C := slots_Statics (litT w.heap.size) (w.alloc (.cells #[.int .i64 8, .string ⟨#[]⟩, .string ⟨#[73]⟩, .bool true, .int .i64 7] 58)) (Rd.one w (encMemberV ⟨8, ⟨#[]⟩, ⟨#[73]⟩, true, 7⟩) 58 rfl) (by simp [litT])
  have E : memVals (litT w.heap.size).fields = [.bool false, .int .i64 7] := by
    have : memVal ⟨8, ⟨#[]⟩, ⟨#[73]⟩, true, 7⟩ = ⟨false, 7⟩ := by
      have h : ¬ bits .and .i64 8 8 = 0 := by decide +kernel
      simp [memVal, h]
    simp [memVals, litT, this, encVal]
  rw [E, show (litT w.heap.size).fields.length = 1 from rfl] at C
  clear E
  go_enter Try.func12, Try.ntmps12
  go_wp2_with fail
  refine C.mono ?_
  rintro e w1 ⟨⟨v, rfl, B, hB, hown⟩, k1⟩
  obtain ⟨g, c, rfl, hc1, hc2, _, _, hcell, _⟩ := own_form hown (by decide)
  have c0 := hcell 0 _ rfl
  have c1 := hcell 1 _ rfl
  clear C hown hcell
  have z : zeroOf ⟨#[76, 97, 59]⟩ = ⟨true, 0⟩ := by simp [zeroOf]
  go_wp2_with (go_at_call 17; ((with_reducible refine (slots_Zero _ _).mono ?_); rintro e w2 ⟨rfl, k2⟩; rw [z]))
  go_ret
  exact ⟨rfl, Kept.trans ((Below.refl _ _).alloc (Nat.le_refl _) _) (Kept.trans k1 k2)⟩

theorem Ok.keep {w w' : World} {y : TypeV} (h : y.Ok w) (hk : Kept w w') : y.Ok w' :=
  ⟨h.name_, h.super_, h.access_, h.interfaces_.kept hk, h.interfaces_all, h.interfaces_len, h.fields_.kept hk, fun z hz => ⟨(h.fields_all z hz).access_, (h.fields_all z hz).name_, (h.fields_all z hz).desc_, (h.fields_all z hz).value_⟩, h.fields_len, h.methods_.kept hk, fun z hz => ⟨(h.methods_all z hz).access_, (h.methods_all z hz).name_, (h.methods_all z hz).desc_, (h.methods_all z hz).value_⟩, h.methods_len⟩

theorem Rd.blk {w : World} {g : Nat} {t : TypeId} {cs : List Value} {sz n : Nat} (h : Blk w g t cs.toArray) (hs : cs.length = n * sz) (hn : n ≤ 9223372036854775807) : Rd w sz (.slice (some ⟨g, 0, none⟩) n n) n cs :=
  ⟨hs, _, _, rfl, Nat.le_refl _, hn, fun _ => ⟨_, _, rfl, fun j u hu => by rw [Nat.zero_add, h.cell j]; simpa using hu⟩⟩

set_option maxHeartbeats 2000000 in
theorem walk_SlotsStatics (t o : TypeV) (d : ByteArray) (w : World) (ht : t.Ok w) (ho : o.Ok w) (_ : d.size ≤ maxLen) :
    Calls Try.prog 3 #[.agg (encTypeV t).toArray, .agg (encTypeV o).toArray, .string d] w fun e w' => e = .returned (.bool true) ∧ Below w.heap.size w w' := by
  have HT := Lib.hid ht
  have HO := Lib.hid ho
  clear ht ho
  have bt : Blk ((w.alloc (.cells (encTypeV t).toArray 25)).alloc (.cells (encTypeV o).toArray 25)) w.heap.size 25 (encTypeV t).toArray := (Blk.new _ _ _).alloc _
  have bo : Blk ((w.alloc (.cells (encTypeV t).toArray 25)).alloc (.cells (encTypeV o).toArray 25)) (w.heap.size + 1) 25 (encTypeV o).toArray := Blk.at_ (by simp)
  have k0 : Kept w ((w.alloc (.cells (encTypeV t).toArray 25)).alloc (.cells (encTypeV o).toArray 25)) := ((Below.refl _ _).alloc (Nat.le_refl _) _).alloc (by simp) _
  have BT := Lib.hid bt
  have BO := Lib.hid bo
  have K0 := Lib.hid k0
  clear bt bo k0
  go_enter Try.func3, Try.ntmps3
  go_wp2_with fail
  refine (alive11 _).mono ?_
  rintro e w1 ⟨rfl, k1⟩
  have k1' := Kept.trans K0.out k1
  have bt1 := Lib.hid (BT.out.kept k1)
  have bo1 := Lib.hid (BO.out.kept k1)
  have HT1 := Lib.hid (Ok.keep HT.out k1')
  have HO1 := Lib.hid (Ok.keep HO.out k1')
  have K1 := Lib.hid k1'
  clear k1 k1' BT BO K0 HT HO
  obtain ⟨gt, hgt⟩ : ∃ g, g = w.heap.size := ⟨_, rfl⟩
  obtain ⟨go, hgo⟩ : ∃ g, g = w.heap.size + 1 := ⟨_, rfl⟩
  rw [← hgo] at bo1 ⊢
  rw [← hgt] at bt1 ⊢
  have HG := Lib.hid hgt
  clear hgt hgo
  have t0 := bt1.out.cell 0
  have t1 := bt1.out.cell 1
  have t2 := bt1.out.cell 2
  have t3 := bt1.out.cell 3
  have t4 := bt1.out.cell 4
  have t5 := bt1.out.cell 5
  have o0 := bo1.out.cell 0
  have o1 := bo1.out.cell 1
  have o2 := bo1.out.cell 2
  have o3 := bo1.out.cell 3
  have o4 := bo1.out.cell 4
  have o5 := bo1.out.cell 5
  simp [encTypeV] at t0 t1 t2 t3 t4 t5 o0 o1 o2 o3 o4 o5
  go_wp2_with fail
  obtain ⟨w2, hw2⟩ : ∃ w2, w2 = w1.alloc (.cells #[.string t.name, .string t.super, .int .i64 t.access, t.interfacesV, t.fieldsV, t.methodsV, .string o.name, .string o.super, .int .i64 o.access, o.interfacesV, o.fieldsV, o.methodsV] 25) := ⟨_, rfl⟩
  have B2 : Blk w2 w1.heap.size 25 ([t, o].flatMap encTypeV).toArray := by rw [hw2]; exact Blk.new _ _ _
  have k2 : Kept w1 w2 := by rw [hw2]; exact (Below.refl _ _).alloc (Nat.le_refl _) _
  rw [← hw2]
  clear hw2 t0 t1 t2 t3 t4 t5 o0 o1 o2 o3 o4 o5
  refine (law9_Big [t, o] _ _ (Rd.blk B2 rfl (by simp)) ?_ (by simp)).mono ?_
  · intro y hy
    have h : y = t ∨ y = o := by simpa using hy
    rcases h with rfl | rfl
    · exact Ok.keep HT1.out k2
    · exact Ok.keep HO1.out k2
  rintro e w3 ⟨h3, m, hm⟩
  have k3 : Kept w1 w3 := by rw [hm]; exact kept_drewN k2 m
  clear hm B2 k2
  rcases h3 with rfl | ⟨rfl, -, hcnt⟩
  · have KK := Lib.hid (Kept.trans K1.out k3)
    clear k3
    go_wp2
    go_ret
    exact ⟨rfl, KK.out⟩
  have ct := hcnt t (by simp)
  have co := hcnt o (by simp)
  have lt : t.fields.length ≤ 3000 := by simp only [TypeV.count] at ct; omega
  have lo : o.fields.length ≤ 3000 := by simp only [TypeV.count] at co; omega
  have KK := Lib.hid (Kept.trans K1.out k3)
  have bt3 := bt1.out.kept k3
  have bo3 := bo1.out.kept k3
  have HT3 := Lib.hid (Ok.keep HT1.out k3)
  have HO3 := Lib.hid (Ok.keep HO1.out k3)
  clear k3 hcnt ct co bt1 bo1 HT1 HO1 K1
  have BT3 := Lib.hid bt3
  have BO3 := Lib.hid bo3
  have t0 := bt3.cell 0
  have t1 := bt3.cell 1
  have t2 := bt3.cell 2
  have t3 := bt3.cell 3
  have t4 := bt3.cell 4
  have t5 := bt3.cell 5
  simp [encTypeV] at t0 t1 t2 t3 t4 t5
  clear bt3 bo3
  go_wp2_with fail
  refine (slots_Statics t _ HT3.out.fields_ lt).mono ?_
  rintro e w4 ⟨⟨va, rfl, Ba, hBa, ha⟩, k4⟩
  have KK4 := Lib.hid (Kept.trans KK.out k4)
  have BT4 := Lib.hid (BT3.out.kept k4)
  have HT4 := Lib.hid (Ok.keep HT3.out k4)
  have HO4 := Lib.hid (Ok.keep HO3.out k4)
  have bo4 := BO3.out.kept k4
  have HA4 := Lib.hid ha
  clear ha k4 KK BT3 HT3 HO3 BO3 t0 t1 t2 t3 t4 t5 hBa
  have o0 := bo4.cell 0
  have o1 := bo4.cell 1
  have o2 := bo4.cell 2
  have o3 := bo4.cell 3
  have o4 := bo4.cell 4
  have o5 := bo4.cell 5
  simp [encTypeV] at o0 o1 o2 o3 o4 o5
  clear bo4
  go_wp2_with fail
  refine (slots_Statics o _ HO4.out.fields_ lo).mono ?_
  rintro e w5 ⟨⟨vb, rfl, Bb, hBb, hb⟩, k5⟩
  have K5 := Lib.hid k5
  have hxs : ∃ xs, w5.ownsRow Bb 32 2 vb o.fields.length xs := ⟨_, hb⟩
  have HB5 := Lib.hid hxs
  obtain ⟨ab, cb, rfl, hb1, hb2⟩ := own_slice hb
  obtain ⟨n, hn⟩ : ∃ n, n = o.fields.length := ⟨_, rfl⟩
  rw [← hn] at HB5 hb1 lo ⊢
  clear hb k5 o0 o1 o2 o3 o4 o5 hxs hn
  go_wp2_with fail
  have hk0 : Kept w4 w5 := K5.out
  go_loopw [11] (fun s11 wr => ∃ k : Nat, k ≤ n ∧ s11 = .int .i64 k ∧ (∃ xs, wr.ownsRow Bb 32 2 (.slice ab n cb) n xs) ∧ Kept w4 wr) (fun s11 _ => n - (intOf s11).toNat)
  case atStart => exact ⟨0, by omega, rfl, HB5.out, hk0⟩
  case round =>
    obtain ⟨k, hk, rfl, ⟨xs, hown⟩, hkr⟩ := hrel
    by_cases hlt : k < n
    · obtain ⟨g, c, hv, _, _, hge, hgs, hcell, hfz⟩ := own_form hown (by omega)
      simp only [Value.slice.injEq] at hv
      obtain ⟨rfl, -, rfl⟩ := hv
      have hxl := hown.1
      obtain ⟨q0, hq0⟩ : ∃ u, xs[k * 2]? = some u := ⟨_, List.getElem?_eq_getElem (by omega)⟩
      obtain ⟨q1, hq1⟩ : ∃ u, xs[k * 2 + 1]? = some u := ⟨_, List.getElem?_eq_getElem (by omega)⟩
      have x0 := hcell (k * 2) _ hq0
      have x1 := hcell (k * 2 + 1) _ hq1
      have f0 := hfz (k * 2)
      have f1 := hfz (k * 2 + 1)
      have hst := fun (W : World) (hW : W.ownsRow Bb 32 2 (.slice (some ⟨g, 0, none⟩) n cb) n xs) u0 u1 => own_store (own_store hW (k * 2) u0) (k * 2 + 1) u1
      have HS := Lib.hid hst
      have HW := Lib.hid hown
      have HK := Lib.hid hkr
      have hg4 : w4.heap.size ≤ g := by omega
      clear hcell hfz hst hown hkr hxl hk0 hq0 hq1
      go_wp2
      go_roundw
      case rel => exact ⟨k + 1, by omega, by go_num, ⟨_, HS.out _ HW.out _ _⟩, (HK.out.setCell (p := ⟨g, k * 2, none⟩) hg4 _).setCell (p := ⟨g, k * 2 + 1, none⟩) hg4 _⟩
      case measure => simp [intOf]; omega
    · have KK := Lib.hid (Kept.trans KK4.out hkr)
      have bt := BT4.out.kept hkr
      have HT := Lib.hid (Ok.keep HT4.out hkr)
      have HA := Lib.hid (Touch.own (S := fun _ => False) (Touch.of_kept hkr) HA4.out (fun _ _ => id))
      clear hkr hown hk0 KK4 BT4 HT4 HO4 HA4
      have t0 := bt.cell 0
      have t1 := bt.cell 1
      have t2 := bt.cell 2
      have t3 := bt.cell 3
      have t4 := bt.cell 4
      have t5 := bt.cell 5
      simp [encTypeV] at t0 t1 t2 t3 t4 t5
      clear bt
      go_wp2_with fail
      refine (ref11_Statics t _ HT.out.fields_ lt).mono ?_
      rintro e w6 ⟨⟨vr, rfl, Br, hBr, hr⟩, k6⟩
      have KK6 := Lib.hid (Kept.trans KK.out k6)
      have ra := Rd.of_own (Touch.own (S := fun _ => False) (Touch.of_kept k6) HA.out (fun _ _ => id))
      have rr := Rd.of_own hr
      rw [memVals_map] at ra rr
      have RA := Lib.hid ra
      have RR := Lib.hid rr
      clear ra rr hr k6 KK t0 t1 t2 t3 t4 t5 hBr
      go_wp2_with fail
      refine (law11_sameValues (t.fields.map memVal) _ _ _ _ (by simp) RA.out RR.out).mono ?_
      rintro e w7 ⟨rfl, m7, hm7⟩
      have KK7 := Lib.hid (show Kept w w7 by rw [hm7]; exact kept_drewN KK6.out m7)
      clear hm7
      go_wp2_with fail
      refine (slots_Zero _ _).mono ?_
      rintro e w8 ⟨rfl, k8⟩
      have KK8 := Lib.hid (Kept.trans KK7.out k8)
      clear k8
      go_wp2_with fail
      refine (ref11_Zero _ _).mono ?_
      rintro e w9 ⟨rfl, k9⟩
      have KK9 := Lib.hid (Kept.trans KK8.out k9)
      clear k9
      go_wp2_with fail
      go_ret
      exact ⟨rfl, KK9.out⟩

end Go.Proofs.Ytelleejhnbidiaa
