/-
  Package find by contract: Most.
-/
import Derived.Test.YtccbdnlknijcbaaFind2
namespace Go.Proofs.Ytccbdnlknijcbaa
open Go.RowKit
set_option maxRecDepth 100000

theorem fv_eq {f g : FV} (h1 : f.1.toList = g.1.toList) (h2 : (f.2 : Int) = g.2) : f = g := by
  obtain ⟨a, i⟩ := f
  obtain ⟨b, j⟩ := g
  have h3 : i = j := by
    have h2' : (i : Int) = (j : Int) := h2
    omega
  have h4 : a = b := by
    by_cases e : a = b
    · exact e
    · have := str_ne_ e
      simp only [h1] at this
      simp at this
  rw [h3, h4]
theorem under_eq {D : List TD} {f g : FV} (h : f = g) : under D f g = false := by simp [under, h]
theorem under_ne {D : List TD} {f g : FV} (h : f ≠ g) : under D f g = decide (subB D g.1 f.1) := by simp [under, h]
theorem any_next {α : Type} (p : α → Bool) {l : List α} {k : Nat} {x : α} (h : l[k]? = some x) : (l.take (k + 1)).any p = ((l.take k).any p || p x) := by
  rw [take_next h, List.any_append]
  simp
theorem filter_next {α : Type} (p : α → Bool) {l : List α} {k : Nat} {x : α} (h : l[k]? = some x) : (l.take (k + 1)).filter p = (l.take k).filter p ++ if p x then [x] else [] := by
  rw [take_next h, List.filter_append]
  by_cases hp : p x <;> simp [hp]
theorem all_len {w : World} {v : Value} {D : List TD} (h : TyR w v D) (s : ByteArray) : (allL D s).length ≤ 100 := by
  have := (allL_nms D s).le
  have := h.len
  omega

set_option maxHeartbeats 2000000 in
theorem find_Most (D : List TD) (name c0 n d : ByteArray) (v : Value) (w : World) (h : TyR w v D) (hs : name.size ≤ maxLen) :
    Calls Try.prog 7 #[v, .string name, .agg #[.string c0, .string n, .string d]] w fun e w' => ∃ v', e = .returned v' ∧ RowF w.heap.size (mostL D name n d) w' v' ∧ Kept w w' := by
  have H := Lib.hid h
  have HS := Lib.hid hs
  have b0 := Blk.new w 33 #[.string c0, .string n, .string d]
  have k0 : Kept w (w.alloc (.cells #[.string c0, .string n, .string d] 33)) := (Below.refl _ _).alloc (Nat.le_refl _) _
  have q0 := b0.cell 0
  have q1 := b0.cell 1
  have q2 := b0.cell 2
  simp only [List.getElem?_toArray, List.getElem?_cons_succ, List.getElem?_cons_zero] at q0 q1 q2
  have K0 := Lib.hid k0
  have hal := all_len h name
  clear h hs b0 k0
  go_enter Try.func7, Try.ntmps7
  go_upto_region 1 with fail
  generalize (w.alloc (.cells #[.string c0, .string n, .string d] 33)) = W at *
  go_region_held2 (fun w' => w'.cell? ⟨w.heap.size, 0, none⟩ = some (.string c0) ∧ w'.cell? ⟨w.heap.size, 1, none⟩ = some (.string n) ∧ w'.cell? ⟨w.heap.size, 2, none⟩ = some (.string d)) (go_keep)
    (first
      | (go_at_call 12; refine (kin_All D name v W.drew (H.out.kept K0.out.drew) HS.out).mono ?_; rintro e w2 ⟨va, rfl, hva, k2⟩; have HVA := Lib.hid hva; have q02 := Kept.cell k2 q0; have q12 := Kept.cell k2 q1; have q22 := Kept.cell k2 q2; have K2 := Lib.hid (Kept.trans K0.out.drew k2); clear k2 hva)
      | (go_at_call 11; refine (find_declared D (allL D name) c0 n d v va (allL D name).length w2 (H.out.kept K2.out) rfl HVA.out.rd hal).mono ?_; rintro e w3 ⟨vd, rfl, hvd, k3⟩; have HVD := Lib.hid hvd; have q03 := Kept.cell k3 q02; have q13 := Kept.cell k3 q12; have q23 := Kept.cell k3 q22; have K3 := Lib.hid (Kept.trans K2.out k3); clear k3 hvd))
  obtain ⟨A, hA⟩ : ∃ A, A = declL D (allL D name) n d := ⟨_, rfl⟩
  have hmost : mostL D name n d = A.filter (best D A) := by rw [hA]; rfl
  have hAl : A.length ≤ 100 := by have := declL_len D (allL D name) n d; rw [← hA] at this; omega
  have hth : ∀ f ∈ A, f.1.size ≤ maxLen := by
    intro f hf
    rw [hA] at hf
    exact H.out.size_of ((allL_nms D name).th _ (declL_mem hf).1)
  have hvd := HVD.out
  rw [← hA] at hvd
  have HM := Lib.hid hmost
  have HTH := Lib.hid hth
  clear hA hmost hth HVD HVA q0 q1 q2 q02 q12 q22 q03 q13 q23
  obtain ⟨N, hN⟩ : ∃ N, N = A.length := ⟨_, rfl⟩
  have hrd : RdF w3 vd A N := by rw [hN]; exact hvd.rd
  have HV := Lib.hid hrd
  have HN := Lib.hid hN
  obtain ⟨-, ad, cd, rfl, hcd1, hcd2, -⟩ := hrd
  have hNl : N ≤ 100 := by omega
  clear hN hvd
  go_wp2_with fail
  go_loopw [8, 22] (fun s8 s22 wr => ∃ k : Nat, k ≤ N ∧ s22 = .int .i64 k ∧ wr.ownsRow w3.heap.size 37 2 s8 ((A.take k).filter (best D A)).length (((A.take k).filter (best D A)).flatMap encF) ∧ Kept w3 wr) (fun _ s22 _ => N - (intOf s22).toNat)
  case atStart => exact ⟨0, by omega, rfl, World.ownsRow_nil _ _ _ _, Below.refl _ _⟩
  case round =>
    obtain ⟨k, hk, rfl, hO, hK⟩ := hrel
    rename World => wr
    obtain ⟨ao, co, rfl, hoc, hoc2⟩ := own_slice hO
    have HO := Lib.hid hO
    have HK := Lib.hid hK
    have KW := Lib.hid (Kept.trans K3.out hK)
    have zs := hK.size
    have hOl : ((A.take k).filter (best D A)).length ≤ 100 := by have := List.length_filter_le (best D A) (A.take k); simp at this; omega
    clear hO hK
    by_cases hlt : k < N
    · obtain ⟨f, hf⟩ : ∃ m, A[k]? = some m := ⟨_, List.getElem?_eq_getElem (by have := HN.out; omega)⟩
      obtain ⟨b, off, cc, hv, y0, y1⟩ := fnd_cell HN.out (HV.out.kept HK.out) hf
      simp only [Value.slice.injEq] at hv
      obtain ⟨rfl, -, rfl⟩ := hv
      have hnext := filter_next (best D A) hf
      have hfs := HTH.out f (List.mem_of_getElem? hf)
      have HFS := Lib.hid hfs
      have HX := Lib.hid hnext
      have HF := Lib.hid hf
      have k1 : Kept w3 (wr.alloc (.cells #[.string f.1, .int .i64 f.2] 37)) := HK.out.alloc zs _
      have K1 := Lib.hid k1
      have B1 := Lib.hid (Blk.new wr 37 #[.string f.1, .int .i64 f.2])
      have O1 := Lib.hid (Touch.own (S := fun _ => False) (Touch.of_kept ((Below.refl _ wr).alloc (Nat.le_refl _) (.cells #[.string f.1, .int .i64 f.2] 37))) HO.out (fun _ _ => id))
      have z1 : wr.heap.size < (wr.alloc (.cells #[.string f.1, .int .i64 f.2] 37)).heap.size := by simp
      clear hf hnext hfs k1
      go_wp2_with fail
      generalize (wr.alloc (.cells #[.string f.1, .int .i64 f.2] 37)) = W1 at *
      go_loopw [11, 28] (fun s11 s28 wi => ∃ j : Nat, j ≤ N ∧ s28 = .int .i64 j ∧ s11 = .bool (!((A.take j).any (under D f))) ∧ Kept W1 wi) (fun _ s28 _ => N - (intOf s28).toNat)
      case atStart => exact ⟨0, by omega, rfl, by simp, Below.refl _ _⟩
      case round =>
        obtain ⟨j, hj, rfl, rfl, hKi⟩ := hrel
        rename World => wi
        have HKI := Lib.hid hKi
        have zi := hKi.size
        have zne : ¬ (wr.heap.size = wi.heap.size) := by omega
        have zlt : wr.heap.size < wi.heap.size := by omega
        have bi := B1.out.kept hKi
        have q0 := bi.cell 0
        have q1 := bi.cell 1
        simp only [List.getElem?_toArray, List.getElem?_cons_succ, List.getElem?_cons_zero] at q0 q1
        clear hKi bi
        by_cases hlj : j < N
        · obtain ⟨g, hg⟩ : ∃ m, A[j]? = some m := ⟨_, List.getElem?_eq_getElem (by have := HN.out; omega)⟩
          obtain ⟨b, off, cc, hv, x0, x1⟩ := fnd_cell HN.out (HV.out.kept (Kept.trans K1.out HKI.out)) hg
          simp only [Value.slice.injEq, Option.some.injEq, Addr.mk.injEq] at hv
          obtain ⟨⟨rfl, rfl, -⟩, -, rfl⟩ := hv
          have hany := any_next (under D f) hg
          have HY := Lib.hid hany
          have HGS := Lib.hid (HTH.out g (List.mem_of_getElem? hg))
          clear hg hany
          by_cases he : f = g
          · subst he
            have HY := Lib.hid (by rw [HY.out, under_eq rfl, Bool.or_false] : (A.take (j + 1)).any (under D f) = (A.take j).any (under D f))
            go_wp2_with fail
            go_roundw
            case rel => exact ⟨j + 1, by omega, by go_num, by rw [HY.out], HKI.out.alloc zi _⟩
            case measure => simp [intOf]; omega
          · have hy : (A.take (j + 1)).any (under D f) = ((A.take j).any (under D f) || decide (subB D g.1 f.1)) := by rw [HY.out, under_ne he]
            have CS := kin_Sub D g.1 f.1 v (wi.alloc (.cells #[.string g.1, .int .i64 g.2] 37)) (H.out.kept (Kept.trans (Kept.trans K3.out K1.out) (HKI.out.alloc zi _))) HGS.out
            cases hb : decide (subB D g.1 f.1) with
            | false =>
              rw [hb] at CS hy
              have HY := Lib.hid hy
              have CS := Lib.hid CS
              clear hb hy
              go_wp2_with fail
              · exact absurd (fv_eq ‹f.1.toList = g.1.toList› ‹(f.2 : Int) = g.2›) he
              all_goals
                refine CS.out.mono ?_
                rintro e w4 ⟨rfl, k4⟩
                have K4 := Lib.hid k4
                clear k4
                go_wp2_with fail
                go_roundw
                case rel => exact ⟨j + 1, by omega, by go_num, by rw [HY.out, Bool.or_false], Kept.trans (HKI.out.alloc zi _) K4.out⟩
                case measure => simp [intOf]; omega
            | true =>
              rw [hb] at CS hy
              have HY := Lib.hid hy
              have CS := Lib.hid CS
              clear hb hy
              go_wp2_with fail
              · exact absurd (fv_eq ‹f.1.toList = g.1.toList› ‹(f.2 : Int) = g.2›) he
              all_goals
                refine CS.out.mono ?_
                rintro e w4 ⟨rfl, k4⟩
                have K4 := Lib.hid k4
                clear k4
                go_wp2_with fail
                go_roundw
                case rel => exact ⟨j + 1, by omega, by go_num, by rw [HY.out, Bool.or_true]; rfl, Kept.trans (HKI.out.alloc zi _) K4.out⟩
                case measure => simp [intOf]; omega
        · have e2 : A.take j = A := by rw [List.take_of_length_le (by have := HN.out; omega)]
          cases hb : A.any (under D f) with
          | false =>
            have hb' : (A.take j).any (under D f) = false := by rw [e2, hb]
            rw [hb', Bool.not_false]
            have hb2 : best D A f = true := by simp [best, hb]
            rw [if_pos hb2] at HX
            have OI := Lib.hid (Touch.own (S := fun _ => False) (Touch.of_kept HKI.out) O1.out (fun _ _ => id))
            have zb3 : w3.heap.size ≤ wi.heap.size := by omega
            clear hb hb2 e2 hb'
            go_wp2_with (at_builtin; refine wpl_pushH _ elem_fnd rfl _ _ rfl w3.heap.size _ ((A.take k).filter (best D A)).length _ rfl OI.out [.string f.1, .int .i64 f.2] _ wi.heap.size rfl rfl rfl (one_F f) (by omega) (by omega) (by omega) ?_; intro v5 w5 ho5 hg5 hk5 hb5; have HO5 := Lib.hid ho5; have HB5 := Lib.hid hb5; clear ho5 hg5 hk5 hb5)
            go_roundw
            case rel => exact ⟨k + 1, by omega, by go_num, by rw [HX.out]; simpa [encF] using HO5.out, Below.trans (Kept.trans K1.out HKI.out) HB5.out⟩
            case measure => simp [intOf]; omega
          | true =>
            have hb' : (A.take j).any (under D f) = true := by rw [e2, hb]
            rw [hb', Bool.not_true]
            have hb2 : ¬ best D A f = true := by simp [best, hb]
            rw [if_neg hb2] at HX
            clear hb hb2 e2 hb'
            go_wp2_with fail
            go_roundw
            case rel => exact ⟨k + 1, by omega, by go_num, by rw [HX.out]; simpa using Touch.own (S := fun _ => False) (Touch.of_kept HKI.out) O1.out (fun _ _ => id), Kept.trans K1.out HKI.out⟩
            case measure => simp [intOf]; omega
    · have e1 : A.take k = A := by rw [List.take_of_length_le (by have := HN.out; omega)]
      have hR : RowF w.heap.size (mostL D name n d) wr (.slice ao ((A.take k).filter (best D A)).length co) := by
        have := HO.out
        rw [e1] at this ⊢
        rw [HM.out]
        exact (Row.of_own this).base K3.out.size
      have HR := Lib.hid hR
      clear hR e1
      go_wp2_with fail
      go_ret
      exact ⟨_, rfl, HR.out, KW.out⟩
end Go.Proofs.Ytccbdnlknijcbaa
