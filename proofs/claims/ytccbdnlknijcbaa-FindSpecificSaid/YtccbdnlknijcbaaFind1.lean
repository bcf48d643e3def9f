/-
  Package find by contract: in, method; the document's In.
-/
import Derived.Test.YtccbdnlknijcbaaFind0
import Derived.Test.YtccbdnlknijcbaaKinB
import Derived.Deep.RegionHeld2
import Derived.Deep.CutBlock
namespace Go.Proofs.Ytccbdnlknijcbaa
open Go.RowKit
set_option maxRecDepth 100000

theorem str_eq_ {a b : ByteArray} (h : a = b) : (a.toList == b.toList) = true := by rw [h]; simp
theorem mem_row_ {w : World} {l : List MemberV} {v : Value} {n : Nat} (hn : n = l.length) (hr : Rd w 5 v n (l.flatMap encMemberV)) {i : Nat} {m : MemberV} (hm : l[i]? = some m) :
    ∃ b off c, v = .slice (some ⟨b, off, none⟩) n c ∧ w.cell? ⟨b, off + i * 5, none⟩ = some (.int .i64 m.access) ∧ w.cell? ⟨b, off + i * 5 + 1, none⟩ = some (.string m.name) ∧ w.cell? ⟨b, off + i * 5 + 2, none⟩ = some (.string m.desc) ∧ w.cell? ⟨b, off + i * 5 + 3, none⟩ = some (.bool m.has) ∧ w.cell? ⟨b, off + i * 5 + 4, none⟩ = some (.int .i64 m.value) := mem_row hn hr hm

theorem find_in (l : List MemberV) (c0 n d : ByteArray) (v : Value) (w : World) (N : Nat) (hN : N = l.length) (h : Rd w 5 v N (l.flatMap encMemberV)) (hl : N ≤ 140737488351232) :
    Calls Try.prog 19 #[v, .agg #[.string c0, .string n, .string d]] w fun e w' => e = .returned (.int .i64 (memI l n d)) ∧ Kept w w' := by
  have H := Lib.hid h
  obtain ⟨_, a, c, rfl, hc1, hc2, _⟩ := h
  have HN := Lib.hid hN
  clear hN
  go_enter Try.func19, Try.ntmps19
  go_wp2
  go_loopw [9] (fun s9 wr => ∃ k : Nat, k ≤ N ∧ s9 = .int .i64 k ∧ (∀ (j : Nat) (m : MemberV), j < k → l[j]? = some m → ¬ (m.name = n ∧ m.desc = d)) ∧ Kept (w.alloc (.cells #[.string c0, .string n, .string d] 33)) wr) (fun s9 _ => N - (intOf s9).toNat)
  case atStart => exact ⟨0, by omega, rfl, fun j t hj => (by omega), Below.refl _ _⟩
  case round =>
    obtain ⟨k, hk, rfl, hno, hkw⟩ := hrel
    rename World => wr
    have HNO := Lib.hid hno
    have bb := (Blk.new w 33 #[.string c0, .string n, .string d]).kept hkw
    have y1 := bb.cell 1
    have y2 := bb.cell 2
    simp only [List.getElem?_toArray, List.getElem?_cons_succ, List.getElem?_cons_zero] at y1 y2
    have zb := bb.lt
    have zne : ¬ (w.heap.size = wr.heap.size) := by omega
    have k0 : Kept w wr := Kept.trans ((Below.refl _ _).alloc (Nat.le_refl _) _) hkw
    have K0 := Lib.hid k0
    have KW := Lib.hid hkw
    have hR := Lib.hid (H.out.kept k0)
    clear hno hkw bb k0
    by_cases hlt : k < N
    · obtain ⟨m, hm⟩ : ∃ m, l[k]? = some m := ⟨_, List.getElem?_eq_getElem (by have := HN.out; omega)⟩
      obtain ⟨b, off, c', hv, x0, x1, x2, x3, x4⟩ := mem_row_ HN.out hR.out hm
      simp only [Value.slice.injEq] at hv
      obtain ⟨rfl, -, rfl⟩ := hv
      have HM := Lib.hid hm
      clear hm
      have hno : ¬ (m.name = n ∧ m.desc = d) → ∀ (j : Nat) (m' : MemberV), j < k + 1 → l[j]? = some m' → ¬ (m'.name = n ∧ m'.desc = d) := by
        intro hne j m' hj hm'
        by_cases e : j = k
        · subst e
          rw [HM.out] at hm'
          obtain rfl : m = m' := by simpa using hm'
          exact hne
        · exact HNO.out j m' (by omega) hm'
      have HNX := Lib.hid hno
      clear hno
      by_cases h1 : m.name = n
      · have b1 := str_eq_ h1
        by_cases h2 : m.desc = d
        · have b2 := str_eq_ h2
          have ha := memI_some (memAt_first HM.out h1 h2 HNO.out)
          have HA := Lib.hid ha
          clear ha h1 h2
          go_wp2
          go_ret
          exact ⟨ret_int HA.out.symm, K0.out.alloc K0.out.size _⟩
        · have b2 := str_ne_ h2
          have HX := Lib.hid (HNX.out fun h => h2 h.2)
          clear h1 h2
          go_wp2
          go_roundw
          case rel => exact ⟨k + 1, by omega, by go_num, HX.out, KW.out.alloc KW.out.size _⟩
          case measure => simp [intOf]; omega
      · have b1 := str_ne_ h1
        have HX := Lib.hid (HNX.out fun h => h1 h.1)
        clear h1
        go_wp2
        go_roundw
        case rel => exact ⟨k + 1, by omega, by go_num, HX.out, KW.out.alloc KW.out.size _⟩
        case measure => simp [intOf]; omega
    · have ha : memI l n d = -1 := memI_none (memAt_no (fun j m hm => HNO.out j m (by have := (List.getElem?_eq_some_iff.1 hm).1; have := HN.out; omega) hm))
      have HA := Lib.hid ha
      clear ha
      go_wp2
      go_ret
      exact ⟨ret_int HA.out.symm, K0.out⟩

/-- What find.method tells. -/
def mthV (D : List TD) (c n d : ByteArray) : Value := match mth D c n d with
  | some x => .tuple #[.agg #[.string c, .int .i64 x.1], .int .i64 x.2, .bool true]
  | none => .tuple #[.agg #[.string ⟨#[]⟩, .int .i64 0], .int .i64 0, .bool false]
theorem met_row {w : World} {v : Value} {D : List TD} (h : TyR w v D) {s : ByteArray} {k : Nat} (hk : atO D s = some k) : ∃ b off c mv N, v = .slice (some ⟨b, off, none⟩) D.length c ∧ (k : Int) < (D.length : Int) ∧ w.cell? ⟨b, off + k * 6 + 5, none⟩ = some mv ∧ N = (metL D s).length ∧ Rd w 5 mv N ((metL D s).flatMap encMemberV) ∧ N ≤ 140737488351232 := by
  obtain ⟨t, ht, htn, hlt⟩ := atO_some hk
  obtain ⟨b, off, c, iv, fv, mv, hv, -, -, -, -, -, x5, -, -, -, -, hm, hml, -⟩ := h.cells ht
  rw [metL_at hk ht]
  exact ⟨b, off, c, mv, _, hv, by omega, x5, rfl, hm, hml⟩

theorem Blk.at_ {w : World} {g : Nat} {t : TypeId} {cs : Array Value} (h : w.heap.size = g) : Blk (w.alloc (.cells cs t)) g t cs := h ▸ Blk.new w t cs
set_option maxHeartbeats 1000000 in
theorem find_method (D : List TD) (c c0 n d : ByteArray) (v : Value) (w : World) (h : TyR w v D) :
    Calls Try.prog 20 #[v, .string c, .agg #[.string c0, .string n, .string d]] w fun e w' => e = .returned (mthV D c n d) ∧ Kept w w' := by
  have H := Lib.hid h
  obtain ⟨a, cp, rfl, hc1, hc2⟩ := h.slice
  have hl := h.len
  clear h
  cases ho : atO D c with
  | none =>
    have hv : mthV D c n d = .tuple #[.agg #[.string ⟨#[]⟩, .int .i64 0], .int .i64 0, .bool false] := by simp [mthV, mth_no (D := D) (c := c) (n := n) (d := d) (by rw [metL_no ho]; rfl)]
    have CA := kin_At D c
    rw [atI_none ho] at CA
    have HC := Lib.hid CA
    have HV := Lib.hid hv
    clear ho hv CA
    go_enter Try.func20, Try.ntmps20
    go_wp2_with fail
    refine (HC.out _ _ (H.out.kept (((Below.refl _ _).alloc (Nat.le_refl _) _).alloc (by simp) _))).mono ?_
    rintro e w1 ⟨rfl, rfl⟩
    go_wp2_with fail
    go_returns
    exact ⟨by rw [HV.out], (((Below.refl _ _).alloc (Nat.le_refl _) _).alloc (by simp) _)⟩
  | some k =>
    have CA := kin_At D c
    rw [atI_some ho] at CA
    have HC := Lib.hid CA
    obtain ⟨b, off, cc, mv, N, hv, hki, x5, hN, hR, hNl⟩ := met_row H.out ho
    simp only [Value.slice.injEq] at hv
    obtain ⟨rfl, -, rfl⟩ := hv
    have HR := Lib.hid hR
    obtain ⟨-, ma, mc, rfl, hm1, hm2, -⟩ := hR
    have k0 : Kept w ((w.alloc (.cells #[.string c0, .string n, .string d] 33)).alloc (.cells #[.string ⟨#[]⟩, .int .i64 0] 37)) := ((Below.refl _ _).alloc (Nat.le_refl _) _).alloc (by simp) _
    have b0 : Blk ((w.alloc (.cells #[.string c0, .string n, .string d] 33)).alloc (.cells #[.string ⟨#[]⟩, .int .i64 0] 37)) w.heap.size 33 #[.string c0, .string n, .string d] := (Blk.new w _ _).alloc _
    have b1 : Blk ((w.alloc (.cells #[.string c0, .string n, .string d] 33)).alloc (.cells #[.string ⟨#[]⟩, .int .i64 0] 37)) (w.heap.size + 1) 37 #[.string ⟨#[]⟩, .int .i64 0] := Blk.at_ (by simp)
    have K0 := Lib.hid k0
    have B0 := Lib.hid b0
    have B1 := Lib.hid b1
    have HN := Lib.hid hN
    have z5 := Kept.cell k0 x5
    have q0 := b0.cell 0
    have q1 := b0.cell 1
    have q2 := b0.cell 2
    simp only [List.getElem?_toArray, List.getElem?_cons_succ, List.getElem?_cons_zero] at q0 q1 q2
    have zz : w.heap.size + 1 < ((w.alloc (.cells #[.string c0, .string n, .string d] 33)).alloc (.cells #[.string ⟨#[]⟩, .int .i64 0] 37)).heap.size := by simp
    clear k0 b0 b1 hN ho CA
    go_enter Try.func20, Try.ntmps20
    go_wp2_with fail
    refine (HC.out _ _ (H.out.kept K0.out)).mono ?_
    rintro e w1 ⟨rfl, rfl⟩
    generalize ((w.alloc (.cells #[.string c0, .string n, .string d] 33)).alloc (.cells #[.string ⟨#[]⟩, .int .i64 0] 37)) = W at *
    have hk0 : (0 : Int) ≤ (k : Int) := by omega
    go_upto_region 4 with fail
    go_region_held2 (fun w' => w'.cell? ⟨b, off + k * 6 + 5, none⟩ = some (.slice ma N mc) ∧ w'.cell? ⟨w.heap.size, 0, none⟩ = some (.string c0) ∧ w'.cell? ⟨w.heap.size, 1, none⟩ = some (.string n) ∧ w'.cell? ⟨w.heap.size, 2, none⟩ = some (.string d)) (go_keep)
      ((go_at_call 19; refine (find_in (metL D c) c0 n d _ W.drew N HN.out (HR.out.kept (K0.out.drew)) hNl).mono ?_; rintro e w2 ⟨rfl, k2⟩; have z52 := Kept.cell k2 z5; have q02 := Kept.cell k2 q0; have q12 := Kept.cell k2 q1; have q22 := Kept.cell k2 q2; have K2 := Lib.hid k2; clear k2))
    have kw : Kept w w2 := Kept.trans K0.out.drew K2.out
    have KW := Lib.hid kw
    have bf := (show Blk W.drew _ _ _ from B1.out).kept K2.out
    have g0 := bf.cell 0
    have g1 := bf.cell 1
    have h0 := bf.frozen 0
    have h1 := bf.frozen 1
    simp only [List.getElem?_toArray, List.getElem?_cons_succ, List.getElem?_cons_zero] at g0 g1
    have z2 : w.heap.size + 1 < w2.heap.size := bf.lt
    have KF : ∀ u v, Kept w ((w2.setCell ⟨w.heap.size + 1, 0, none⟩ u).setCell ⟨w.heap.size + 1, 1, none⟩ v) := fun u v => (kw.setCell (by simp) u).setCell (by simp) v
    have HKF := Lib.hid KF
    have HR2 := Lib.hid (HR.out.kept kw)
    have S0 := Lib.hid (fun u => (bf.set_ 0 u).cell 0)
    have S1 := Lib.hid (fun u v => ((bf.set_ 0 u).set_ 1 v).cell 1)
    have hbW : ¬ (b = w.heap.size + 1) := by have := World.block_lt_of_cell? w _ x5; simp at this; omega
    clear x5 z5 q0 q1 q2 q02 q12 q22 kw bf KF
    cases hm : memAt (metL D c) n d with
    | none =>
      have hv : mthV D c n d = .tuple #[.agg #[.string ⟨#[]⟩, .int .i64 0], .int .i64 0, .bool false] := by simp [mthV, mth_no hm]
      rw [memI_none hm]
      have HV := Lib.hid hv
      have e0 : (w2.setCell ⟨w.heap.size + 1, 0, none⟩ (.string ⟨#[]⟩)).cell? ⟨w.heap.size + 1, 0, none⟩ = some (.string ⟨#[]⟩) := by rw [S0.out]; simp
      have e1 : ((w2.setCell ⟨w.heap.size + 1, 0, none⟩ (.string ⟨#[]⟩)).setCell ⟨w.heap.size + 1, 1, none⟩ (.int .i64 0)).cell? ⟨w.heap.size + 1, 1, none⟩ = some (.int .i64 0) := by rw [S1.out]; simp
      clear hv hm
      go_wp2_with fail
      refine bodyPost_ret (v := mthV D c n d) (by rw [HV.out]; simp [results, Try.results20, go_sem, e0, e1]) rfl ⟨rfl, ?_⟩
      exact HKF.out _ _
    | some i =>
      obtain ⟨m, hmi, -, -, hil⟩ := memAt_some hm
      have hv : mthV D c n d = .tuple #[.agg #[.string c, .int .i64 i], .int .i64 m.access, .bool true] := by simp [mthV, mth_at hm hmi]
      rw [memI_some hm]
      have HV := Lib.hid hv
      obtain ⟨mb, mo, mc', hmv, y0, -⟩ := mem_row_ HN.out HR2.out hmi
      simp only [Value.slice.injEq] at hmv
      obtain ⟨rfl, -, rfl⟩ := hmv
      have hiN : (i : Int) < (N : Int) := by have := HN.out; omega
      have hi0 : (0 : Int) ≤ (i : Int) := by omega
      have hmb : ¬ (mb = w.heap.size + 1) := by
        obtain ⟨mb', mo', mc2, hmv2, y2, -⟩ := mem_row_ HN.out HR.out hmi
        simp only [Value.slice.injEq, Option.some.injEq, Addr.mk.injEq] at hmv2
        obtain ⟨⟨rfl, rfl, -⟩, -, -⟩ := hmv2
        have := World.block_lt_of_cell? w _ y2
        simp at this
        omega
      have e0 : (w2.setCell ⟨w.heap.size + 1, 0, none⟩ (.string c)).cell? ⟨w.heap.size + 1, 0, none⟩ = some (.string c) := by rw [S0.out]; simp
      have e1 : ((w2.setCell ⟨w.heap.size + 1, 0, none⟩ (.string c)).setCell ⟨w.heap.size + 1, 1, none⟩ (.int .i64 i)).cell? ⟨w.heap.size + 1, 1, none⟩ = some (.int .i64 i) := by rw [S1.out]; simp
      clear hv hm hmi
      go_wp2_with fail
      go_region
      all_goals go_wp2_with fail
      all_goals refine bodyPost_ret (v := mthV D c n d) (by rw [HV.out]; simp [results, Try.results20, go_sem, e0, e1]) rfl ⟨rfl, ?_⟩
      all_goals exact (HKF.out _ _).drew
end Go.Proofs.Ytccbdnlknijcbaa
