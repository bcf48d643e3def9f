/-
  The document's search by contract: declared, Most.
-/
import Derived.Test.YteblpdcedlaedaaFind3
import Derived.Test.YteblpdcedlaedaaKinB
namespace Go.Proofs.Yteblpdcedlaedaa
open Go.RowKit
set_option maxRecDepth 100000

/-- A type's cells, its lists in their slices' shape. -/
theorem ty_row {w : World} {v : Value} {D : List TD} (h : TyR w v D) {k : Nat} {t : TD} (ht : D[k]? = some t) : ∃ b off c ia ic fa fc ma mc, v = .slice (some ⟨b, off, none⟩) D.length c ∧
    w.cell? ⟨b, off + k * 6, none⟩ = some (.string t.name) ∧ w.cell? ⟨b, off + k * 6 + 1, none⟩ = some (.string t.super) ∧ w.cell? ⟨b, off + k * 6 + 2, none⟩ = some (.int .i64 t.access) ∧
    w.cell? ⟨b, off + k * 6 + 3, none⟩ = some (.slice ia t.interfaces.length ic) ∧ w.cell? ⟨b, off + k * 6 + 4, none⟩ = some (.slice fa t.fields.length fc) ∧ w.cell? ⟨b, off + k * 6 + 5, none⟩ = some (.slice ma t.methods.length mc) ∧
    Rd w 1 (.slice ia t.interfaces.length ic) t.interfaces.length (t.interfaces.flatMap encS) ∧ t.interfaces.length ≤ 140737488351232 ∧ Rd w 5 (.slice fa t.fields.length fc) t.fields.length (t.fields.flatMap encMemberV) ∧ t.fields.length ≤ 140737488351232 ∧ Rd w 5 (.slice ma t.methods.length mc) t.methods.length (t.methods.flatMap encMemberV) ∧ t.methods.length ≤ 140737488351232 := by
  obtain ⟨b, off, c, iv, fv, mv, hv, x0, x1, x2, x3, x4, x5, hi, hil, hf, hfl, hm, hml, -⟩ := h.cells ht
  obtain ⟨ia, ic, rfl, -, -⟩ := hi.2
  obtain ⟨fa, fc, rfl, -, -⟩ := hf.2
  obtain ⟨ma, mc, rfl, -, -⟩ := hm.2
  exact ⟨b, off, c, ia, ic, fa, fc, ma, mc, hv, x0, x1, x2, x3, x4, x5, hi, hil, hf, hfl, hm, hml⟩
/-- A member's place and flags in its row. -/
theorem mem_place {w : World} {l : List MemberV} {ma : Option Addr} {mc : Nat} (hr : Rd w 5 (.slice ma l.length mc) l.length (l.flatMap encMemberV)) {i : Nat} {m : MemberV} (hm : l[i]? = some m) :
    ∃ b off, ma = some ⟨b, off, none⟩ ∧ w.cell? ⟨b, off + i * 5, none⟩ = some (.int .i64 m.access) ∧ b < w.heap.size ∧ ((i : Int) < (l.length : Int)) ∧ (0 : Int) ≤ (i : Int) := by
  obtain ⟨b, off, c, hv, x0, -⟩ := mem_row_ rfl hr hm
  simp only [Value.slice.injEq] at hv
  have := (List.getElem?_eq_some_iff.1 hm).1
  exact ⟨b, off, hv.1, x0, World.block_lt_of_cell? w _ x0, by omega, by omega⟩

set_option maxHeartbeats 1000000 in
theorem ref12_declared (D : List TD) (ts : List ByteArray) (c0 n d : ByteArray) (v vt : Value) (N : Nat) (w : World) (h : TyR w v D) (hN : N = ts.length) (hr : Rd w 1 vt N (ts.flatMap encS)) (hl : N ≤ 100) (hth : ∀ s ∈ ts, there D s) :
    Calls Try.prog 52 #[v, vt, .agg #[.string c0, .string n, .string d]] w fun e w' => ∃ v', e = .returned v' ∧ RowF w.heap.size (declL D ts n d) w' v' ∧ Kept w w' := by
  have H := Lib.hid h
  obtain ⟨av, cv, rfl, hcv1, hcv2⟩ := h.slice
  have hDl := h.len
  have HR := Lib.hid hr
  have HN := Lib.hid hN
  have HTH := Lib.hid hth
  obtain ⟨_, at_, ct, rfl, hct1, hct2, -⟩ := hr
  have b0 := Blk.new w 44 #[.string c0, .string n, .string d]
  have k0 : Kept w (w.alloc (.cells #[.string c0, .string n, .string d] 44)) := (Below.refl _ _).alloc (Nat.le_refl _) _
  have B0 := Lib.hid b0
  have K0 := Lib.hid k0
  clear h b0 k0 hN hth
  go_enter Try.func52, Try.ntmps52
  go_wp2
  generalize (w.alloc (.cells #[.string c0, .string n, .string d] 44)) = W at *
  go_loopw [7, 8] (fun s7 s8 wr => ∃ k : Nat, k ≤ N ∧ s8 = .int .i64 k ∧ wr.ownsRow W.heap.size 24 2 s7 (declL D (ts.take k) n d).length ((declL D (ts.take k) n d).flatMap encF) ∧ Kept W wr) (fun _ s8 _ => N - (intOf s8).toNat)
  case atStart => exact ⟨0, by omega, rfl, World.ownsRow_nil _ _ _ _, Below.refl _ _⟩
  case round =>
    obtain ⟨k, hk, rfl, hO, hK⟩ := hrel
    rename World => wr
    obtain ⟨ao, co, rfl, hoc, hoc2⟩ := own_slice hO
    have HO := Lib.hid hO
    have HK := Lib.hid hK
    have KW := Lib.hid (Kept.trans K0.out hK)
    have bb := B0.out.kept hK
    have q0 := bb.cell 0
    have q1 := bb.cell 1
    have q2 := bb.cell 2
    simp only [List.getElem?_toArray, List.getElem?_cons_succ, List.getElem?_cons_zero] at q0 q1 q2
    have zs := hK.size
    have zl0 : w.heap.size < wr.heap.size := bb.lt
    have zn0 : ¬ (w.heap.size = wr.heap.size) := by omega
    have hOl : (declL D (ts.take k) n d).length ≤ 100 := by have := declL_len D (ts.take k) n d; simp at this; omega
    clear hO hK bb
    by_cases hlt : k < N
    · obtain ⟨c, hc⟩ : ∃ m, ts[k]? = some m := ⟨_, List.getElem?_eq_getElem (by have := HN.out; omega)⟩
      obtain ⟨b, off, cc, hv, y0⟩ := str_cell HN.out (HR.out.kept KW.out) hc
      simp only [Value.slice.injEq] at hv
      obtain ⟨rfl, -, rfl⟩ := hv
      have yb : b < wr.heap.size := World.block_lt_of_cell? wr _ y0
      have ybn : ¬ (b = wr.heap.size) := by omega
      have hnext : declL D (ts.take (k + 1)) n d = declL D (ts.take k) n d ++ (declF D n d c).toList := by rw [take_next hc, declL_snoc]
      have hT := HTH.out c (List.mem_of_getElem? hc)
      unfold there at hT
      obtain ⟨kc, hkc⟩ := Option.isSome_iff_exists.1 hT
      obtain ⟨t, ht, htn, hkl⟩ := atO_some hkc
      have CA := ref9_At D c _ wr (H.out.kept KW.out)
      rw [atI_some hkc] at CA
      obtain ⟨tb, tof, tc, ia, ic, fa, fc, ma, mc, hv2, x0, x1, x2, x3, x4, x5, -, -, -, -, hm, hml⟩ := ty_row (H.out.kept KW.out) ht
      simp only [Value.slice.injEq] at hv2
      obtain ⟨rfl, -, rfl⟩ := hv2
      have hki : (kc : Int) < (D.length : Int) := by omega
      have hk0 : (0 : Int) ≤ (kc : Int) := by omega
      have hmet := metL_at hkc ht
      have CI := ref12_In t.methods n d _ (wr.alloc (.cells #[.string t.name, .string t.super, .int .i64 t.access, .slice ia t.interfaces.length ic, .slice fa t.fields.length fc, .slice ma t.methods.length mc] 36)) _ rfl (hm.kept ((Below.refl _ _).alloc (Nat.le_refl _) _)) hml
      have K1 := Lib.hid (HK.out.alloc zs (.cells #[.string t.name, .string t.super, .int .i64 t.access, .slice ia t.interfaces.length ic, .slice fa t.fields.length fc, .slice ma t.methods.length mc] 36))
      have HO1 := Lib.hid (Touch.own (S := fun _ => False) (Touch.of_kept ((Below.refl _ wr).alloc (Nat.le_refl _) (.cells #[.string t.name, .string t.super, .int .i64 t.access, .slice ia t.interfaces.length ic, .slice fa t.fields.length fc, .slice ma t.methods.length mc] 36))) HO.out (fun _ _ => id))
      have CA := Lib.hid CA
      cases hi : memAt t.methods n d with
      | none =>
        have hf : declF D n d c = none := by simp [declF, mth_no (show memAt (metL D c) n d = none by rw [hmet]; exact hi)]
        rw [hf] at hnext
        rw [memI_none hi] at CI
        have HX := Lib.hid hnext
        have CI := Lib.hid CI
        clear hc hf hnext hT hkc ht htn hmet hi hm
        go_wp2_with fail
        refine CA.out.mono ?_
        rintro e w2 ⟨rfl, rfl⟩
        clear CA
        go_wp2_with fail
        refine CI.out.mono ?_
        rintro e w2 ⟨rfl, rfl⟩
        clear CI
        go_wp2_with fail
        go_roundw
        case rel => exact ⟨k + 1, by omega, by go_num, by rw [HX.out]; simpa using HO1.out, K1.out⟩
        case measure => simp [intOf]; omega
      | some i =>
        obtain ⟨m, hmi, -, -, hil⟩ := memAt_some hi
        obtain ⟨mb, mo, rfl, z0, zb, hi1, hi0⟩ := mem_place hm hmi
        have zbn : ¬ (mb = wr.heap.size) := by omega
        have hf : declF D n d c = if bits .and .i64 m.access 10 = 0 then some (c, i) else none := by simp [declF, mth_at (show memAt (metL D c) n d = some i by rw [hmet]; exact hi) (show (metL D c)[i]? = some m by rw [hmet]; exact hmi)]
        rw [memI_some hi] at CI
        have CI := Lib.hid CI
        by_cases ha : bits .and .i64 m.access 10 = 0
        · rw [if_pos ha] at hf
          rw [hf] at hnext
          have HX := Lib.hid hnext
          clear hc hf hnext hT hkc ht htn hmet hi hm hmi
          go_wp2_with fail
          refine CA.out.mono ?_
          rintro e w2 ⟨rfl, rfl⟩
          clear CA
          go_wp2_with fail
          refine CI.out.mono ?_
          rintro e w2 ⟨rfl, rfl⟩
          clear CI
          go_wp2_with (at_builtin; refine wpl_pushH _ elem_fnd rfl _ _ rfl W.heap.size _ (declL D (ts.take k) n d).length _ rfl HO1.out [.string c, .int .i64 i] _ (wr.heap.size + 1) rfl (by simp) rfl (one_F (c, i)) (by omega) (by omega) (by omega) ?_; intro v3 w3 ho3 hg3 hk3 hb3; have HO3 := Lib.hid ho3; have HB3 := Lib.hid hb3; clear ho3 hg3 hk3 hb3)
          go_roundw
          case rel => exact ⟨k + 1, by omega, by go_num, by rw [HX.out]; simpa [encF] using HO3.out, Below.trans K1.out HB3.out⟩
          case measure => simp [intOf]; omega
        · rw [if_neg ha] at hf
          rw [hf] at hnext
          have HX := Lib.hid hnext
          clear hc hf hnext hT hkc ht htn hmet hi hm hmi
          go_wp2_with fail
          refine CA.out.mono ?_
          rintro e w2 ⟨rfl, rfl⟩
          clear CA
          go_wp2_with fail
          refine CI.out.mono ?_
          rintro e w2 ⟨rfl, rfl⟩
          clear CI
          go_wp2_with fail
          go_roundw
          case rel => exact ⟨k + 1, by omega, by go_num, by rw [HX.out]; simpa using HO1.out, K1.out⟩
          case measure => simp [intOf]; omega
    · have e1 : ts.take k = ts := by rw [List.take_of_length_le (by have := HN.out; omega)]
      have hR : RowF w.heap.size (declL D ts n d) wr (.slice ao (declL D (ts.take k) n d).length co) := by
        have := HO.out
        rw [e1] at this ⊢
        exact (Row.of_own this).base K0.out.size
      have HR := Lib.hid hR
      clear hR e1
      go_wp2
      go_ret
      exact ⟨_, rfl, HR.out, KW.out⟩

theorem nodup_under {A : List FV} (hp : A.Pairwise fun f g => f.1 ≠ g.1) {i j : Nat} {f g : FV} (hf : A[i]? = some f) (hg : A[j]? = some g) : f = g ↔ i = j := by
  constructor
  · intro e
    subst e
    obtain ⟨hi, h1⟩ := List.getElem?_eq_some_iff.1 hf
    obtain ⟨hj, h2⟩ := List.getElem?_eq_some_iff.1 hg
    rw [List.pairwise_iff_getElem] at hp
    rcases Nat.lt_trichotomy i j with h | h | h
    · exact absurd (by rw [h1, h2]) (hp i j hi hj h)
    · exact h
    · exact absurd (by rw [h1, h2]) (hp j i hj hi h)
  · intro e
    subst e
    rw [hf] at hg
    exact Option.some.inj hg
end Go.Proofs.Yteblpdcedlaedaa
