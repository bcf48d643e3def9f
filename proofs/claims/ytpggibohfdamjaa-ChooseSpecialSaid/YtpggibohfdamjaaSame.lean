/-
  Two types that hold the same are the same: turnstileref5.SameType.
-/
import Derived.Test.YtpggibohfdamjaaKin2
import Derived.Test.YtpggibohfdamjaaBig
namespace Go.Proofs.Ytpggibohfdamjaa
open Go.RowKit
set_option maxRecDepth 100000

theorem mem_row_ {w : World} {l : List MemberV} {v : Value} {n : Nat} (hn : n = l.length) (hr : Rd w 5 v n (l.flatMap encMemberV)) {i : Nat} {m : MemberV} (hm : l[i]? = some m) :
    ∃ b off c, v = .slice (some ⟨b, off, none⟩) n c ∧ w.cell? ⟨b, off + i * 5, none⟩ = some (.int .i64 m.access) ∧ w.cell? ⟨b, off + i * 5 + 1, none⟩ = some (.string m.name) ∧ w.cell? ⟨b, off + i * 5 + 2, none⟩ = some (.string m.desc) ∧ w.cell? ⟨b, off + i * 5 + 3, none⟩ = some (.bool m.has) ∧ w.cell? ⟨b, off + i * 5 + 4, none⟩ = some (.int .i64 m.value) := by
  have hl := (List.getElem?_eq_some_iff.1 hm).1
  rcases hr.parts with ⟨h0, _⟩ | ⟨b, off, c, rfl, h0, h1, h2, hc⟩
  · omega
  · have hg : ∀ f u, (encMemberV m)[f]? = some u → f < 5 → w.cell? ⟨b, off + (i * 5 + f), none⟩ = some u := fun f u hu hf => hc _ _ (by rw [flat_get encMemberV 5 (fun _ => rfl) l i f m hm hf]; exact hu)
    exact ⟨b, off, c, rfl, hg 0 _ rfl (by omega), hg 1 _ rfl (by omega), hg 2 _ rfl (by omega), hg 3 _ rfl (by omega), hg 4 _ rfl (by omega)⟩

set_option maxHeartbeats 4000000 in
theorem same_type (w : World) (a b : TypeV) (hd : a.d = b.d) (ha : a.Ok w) (hb : b.Ok w) (hs : b.count ≤ 3000) :
    Calls Try.prog 33 #[.agg (encTypeV a).toArray, .agg (encTypeV b).toArray] w fun e w' => e = .returned (.bool true) ∧ Kept w w' := by
  obtain ⟨nm, sp, ac, iv, is, fv, fs, mv, ms⟩ := a
  obtain ⟨nm', sp', ac', iv', is', fv', fs', mv', ms'⟩ := b
  simp only [TypeV.d, TD.mk.injEq] at hd
  obtain ⟨rfl, rfl, rfl, rfl, rfl, rfl⟩ := hd
  simp only [TypeV.count] at hs
  have i1 := ha.interfaces_
  have i2 := hb.interfaces_
  have f1 := ha.fields_
  have f2 := hb.fields_
  have m1 := ha.methods_
  have m2 := hb.methods_
  dsimp only at i1 i2 f1 f2 m1 m2
  obtain ⟨ni, hni⟩ : ∃ n, n = is.length := ⟨_, rfl⟩
  obtain ⟨nf, hnf⟩ : ∃ n, n = fs.length := ⟨_, rfl⟩
  obtain ⟨nn, hnn⟩ : ∃ n, n = ms.length := ⟨_, rfl⟩
  rw [← hni] at i1 i2 hs
  rw [← hnf] at f1 f2 hs
  rw [← hnn] at m1 m2 hs
  have I1 := Lib.hid i1
  have I2 := Lib.hid i2
  have F1 := Lib.hid f1
  have F2 := Lib.hid f2
  have M1 := Lib.hid m1
  have M2 := Lib.hid m2
  have NI := Lib.hid hni
  have NF := Lib.hid hnf
  have NM := Lib.hid hnn
  obtain ⟨_, ai, ci, rfl, _, _, _⟩ := i1
  obtain ⟨_, ai', ci', rfl, _, _, _⟩ := i2
  obtain ⟨_, af, cf, rfl, _, _, _⟩ := f1
  obtain ⟨_, af', cf', rfl, _, _, _⟩ := f2
  obtain ⟨_, am, cm, rfl, _, _, _⟩ := m1
  obtain ⟨_, am', cm', rfl, _, _, _⟩ := m2
  clear hni hnf hnn ha hb
  have hk : Kept w ((w.alloc (.cells #[.string nm, .string sp, .int .i64 ac, .slice ai ni ci, .slice af nf cf, .slice am nn cm] 31)).alloc (.cells #[.string nm, .string sp, .int .i64 ac, .slice ai' ni ci', .slice af' nf cf', .slice am' nn cm'] 31)) := ((Below.refl _ _).alloc (Nat.le_refl _) _).alloc (by simp) _
  have hb1 : Blk ((w.alloc (.cells #[.string nm, .string sp, .int .i64 ac, .slice ai ni ci, .slice af nf cf, .slice am nn cm] 31)).alloc (.cells #[.string nm, .string sp, .int .i64 ac, .slice ai' ni ci', .slice af' nf cf', .slice am' nn cm'] 31)) w.heap.size 31 #[.string nm, .string sp, .int .i64 ac, .slice ai ni ci, .slice af nf cf, .slice am nn cm] := (Blk.new _ _ _).alloc _
  have hb2 : Blk ((w.alloc (.cells #[.string nm, .string sp, .int .i64 ac, .slice ai ni ci, .slice af nf cf, .slice am nn cm] 31)).alloc (.cells #[.string nm, .string sp, .int .i64 ac, .slice ai' ni ci', .slice af' nf cf', .slice am' nn cm'] 31)) (w.heap.size + 1) 31 #[.string nm, .string sp, .int .i64 ac, .slice ai' ni ci', .slice af' nf cf', .slice am' nn cm'] := (show w.heap.size + 1 = (w.alloc (.cells #[.string nm, .string sp, .int .i64 ac, .slice ai ni ci, .slice af nf cf, .slice am nn cm] 31)).heap.size by simp) ▸ Blk.new _ _ _
  have HK := Lib.hid hk
  have HB1 := Lib.hid hb1
  have HB2 := Lib.hid hb2
  clear hk hb1 hb2
  change Calls Try.prog 33 #[.agg #[.string nm, .string sp, .int .i64 ac, .slice ai ni ci, .slice af nf cf, .slice am nn cm], .agg #[.string nm, .string sp, .int .i64 ac, .slice ai' ni ci', .slice af' nf cf', .slice am' nn cm']] w _
  go_enter Try.func33, Try.ntmps33
  go_wp2_with fail
  generalize ((w.alloc (.cells #[.string nm, .string sp, .int .i64 ac, .slice ai ni ci, .slice af nf cf, .slice am nn cm] 31)).alloc (.cells #[.string nm, .string sp, .int .i64 ac, .slice ai' ni ci', .slice af' nf cf', .slice am' nn cm'] 31)) = W at *
  have x3 := HB1.out.cell 3
  have x4 := HB1.out.cell 4
  have x5 := HB1.out.cell 5
  have y3 := HB2.out.cell 3
  have y4 := HB2.out.cell 4
  have y5 := HB2.out.cell 5
  simp only [List.getElem?_toArray, List.getElem?_cons_succ, List.getElem?_cons_zero] at x3 x4 x5 y3 y4 y5
  go_loopw [5] (fun s5 wr => ∃ i : Nat, i ≤ ni ∧ s5 = .int .i64 i ∧ ∃ m, wr = W.drewN m) (fun s5 _ => ni - (intOf s5).toNat)
  case atStart => exact ⟨0, by omega, rfl, 0, rfl⟩
  case round =>
    obtain ⟨i, hi, rfl, mm, rfl⟩ := hrel
    by_cases hlt : i < ni
    · obtain ⟨x, hx⟩ : ∃ x, is[i]? = some x := ⟨_, List.getElem?_eq_getElem (by have := NI.out; omega)⟩
      obtain ⟨b1, o1, c1, hv1, z1⟩ := str_cell NI.out (I1.out.kept HK.out) hx
      obtain ⟨b2, o2, c2, hv2, z2⟩ := str_cell NI.out (I2.out.kept HK.out) hx
      simp only [Value.slice.injEq] at hv1 hv2
      obtain ⟨rfl, -, rfl⟩ := hv1
      obtain ⟨rfl, -, rfl⟩ := hv2
      have hkI : (i : Int) < (ni : Int) := by omega
      have h0I : (0 : Int) ≤ (i : Int) := by omega
      clear hx
      go_wp2_with fail
      go_quiet (fail)
      go_wp2_with fail
      go_roundw
      case rel => exact ⟨i + 1, by omega, by go_num, _, rfl⟩
      case measure => simp [intOf]; omega
    · go_wp2_with fail
      go_loopw [6] (fun s6 wr => ∃ i : Nat, i ≤ nf ∧ s6 = .int .i64 i ∧ ∃ m, wr = W.drewN m) (fun s6 _ => nf - (intOf s6).toNat)
      case atStart => exact ⟨0, by omega, rfl, _, rfl⟩
      case round =>
        obtain ⟨j, hj, rfl, mj, rfl⟩ := hrel
        by_cases hlt2 : j < nf
        · obtain ⟨x, hx⟩ : ∃ x, fs[j]? = some x := ⟨_, List.getElem?_eq_getElem (by have := NF.out; omega)⟩
          obtain ⟨b1, o1, c1, hv1, p0, p1, p2, p3, p4⟩ := mem_row_ NF.out (F1.out.kept HK.out) hx
          obtain ⟨b2, o2, c2, hv2, q0, q1, q2, q3, q4⟩ := mem_row_ NF.out (F2.out.kept HK.out) hx
          simp only [Value.slice.injEq] at hv1 hv2
          obtain ⟨rfl, -, rfl⟩ := hv1
          obtain ⟨rfl, -, rfl⟩ := hv2
          have hkI : (j : Int) < (nf : Int) := by omega
          have h0I : (0 : Int) ≤ (j : Int) := by omega
          clear hx
          go_wp2_with fail
          go_quiet (fail)
          go_wp2_with fail
          go_roundw
          case rel => exact ⟨j + 1, by omega, by go_num, _, rfl⟩
          case measure => simp [intOf]; omega
        · go_wp2_with fail
          go_loopw [7] (fun s7 wr => ∃ i : Nat, i ≤ nn ∧ s7 = .int .i64 i ∧ ∃ m, wr = W.drewN m) (fun s7 _ => nn - (intOf s7).toNat)
          case atStart => exact ⟨0, by omega, rfl, _, rfl⟩
          case round =>
            obtain ⟨k, hk, rfl, mk, rfl⟩ := hrel
            by_cases hlt3 : k < nn
            · obtain ⟨x, hx⟩ : ∃ x, ms[k]? = some x := ⟨_, List.getElem?_eq_getElem (by have := NM.out; omega)⟩
              obtain ⟨b1, o1, c1, hv1, p0, p1, p2, p3, p4⟩ := mem_row_ NM.out (M1.out.kept HK.out) hx
              obtain ⟨b2, o2, c2, hv2, q0, q1, q2, q3, q4⟩ := mem_row_ NM.out (M2.out.kept HK.out) hx
              simp only [Value.slice.injEq] at hv1 hv2
              obtain ⟨rfl, -, rfl⟩ := hv1
              obtain ⟨rfl, -, rfl⟩ := hv2
              have hkI : (k : Int) < (nn : Int) := by omega
              have h0I : (0 : Int) ≤ (k : Int) := by omega
              clear hx
              go_wp2_with fail
              go_quiet (fail)
              go_wp2_with fail
              go_roundw
              case rel => exact ⟨k + 1, by omega, by go_num, _, rfl⟩
              case measure => simp [intOf]; omega
            · go_wp2_with fail
              go_ret
              exact ⟨rfl, kept_drewN HK.out _⟩
end Go.Proofs.Ytpggibohfdamjaa
