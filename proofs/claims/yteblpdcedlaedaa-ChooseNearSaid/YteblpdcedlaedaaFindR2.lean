/-
  The document's search by contract: Most.
-/
import Derived.Test.YteblpdcedlaedaaFindR1
namespace Go.Proofs.Yteblpdcedlaedaa
open Go.RowKit
set_option maxRecDepth 100000

set_option maxHeartbeats 2000000 in
theorem ref12_Most (D : List TD) (name c0 n d : ByteArray) (v : Value) (w : World) (h : TyR w v D) (hs : name.size ≤ maxLen) :
    Calls Try.prog 47 #[v, .string name, .agg #[.string c0, .string n, .string d]] w fun e w' => ∃ v', e = .returned v' ∧ RowF w.heap.size (mostL D name n d) w' v' ∧ Kept w w' := by
  have H := Lib.hid h
  have HS := Lib.hid hs
  have b0 := Blk.new w 44 #[.string c0, .string n, .string d]
  have k0 : Kept w (w.alloc (.cells #[.string c0, .string n, .string d] 44)) := (Below.refl _ _).alloc (Nat.le_refl _) _
  have q0 := b0.cell 0
  have q1 := b0.cell 1
  have q2 := b0.cell 2
  simp only [List.getElem?_toArray, List.getElem?_cons_succ, List.getElem?_cons_zero] at q0 q1 q2
  have K0 := Lib.hid k0
  have hal := all_len h name
  clear h hs b0 k0
  go_enter Try.func47, Try.ntmps47
  go_upto_region 1 with fail
  generalize (w.alloc (.cells #[.string c0, .string n, .string d] 44)) = W at *
  go_region_held2 (fun w' => w'.cell? ⟨w.heap.size, 0, none⟩ = some (.string c0) ∧ w'.cell? ⟨w.heap.size, 1, none⟩ = some (.string n) ∧ w'.cell? ⟨w.heap.size, 2, none⟩ = some (.string d)) (go_keep)
    (first
      | (go_at_call 48; refine (ref9_All D name v W.drew (H.out.kept K0.out.drew) HS.out).mono ?_; rintro e w2 ⟨va, rfl, hva, k2⟩; have HVA := Lib.hid hva; have q02 := Kept.cell k2 q0; have q12 := Kept.cell k2 q1; have q22 := Kept.cell k2 q2; have K2 := Lib.hid (Kept.trans K0.out.drew k2); clear k2 hva)
      | (go_at_call 52; refine (ref12_declared D (allL D name) c0 n d v va (allL D name).length w2 (H.out.kept K2.out) rfl HVA.out.rd hal (allL_nms D name).th).mono ?_; rintro e w3 ⟨vd, rfl, hvd, k3⟩; have HVD := Lib.hid hvd; have q03 := Kept.cell k3 q02; have q13 := Kept.cell k3 q12; have q23 := Kept.cell k3 q22; have K3 := Lib.hid (Kept.trans K2.out k3); clear k3 hvd))
  obtain ⟨A, hA⟩ : ∃ A, A = declL D (allL D name) n d := ⟨_, rfl⟩
  have hmost : mostL D name n d = A.filter (best D A) := by rw [hA]; rfl
  have hAl : A.length ≤ 100 := by have := declL_len D (allL D name) n d; rw [← hA] at this; omega
  have hth : ∀ f ∈ A, f.1.size ≤ maxLen := by
    intro f hf
    rw [hA] at hf
    exact H.out.size_of ((allL_nms D name).th _ (declL_mem hf).1)
  have hvd := HVD.out
  rw [← hA] at hvd
  have HM := Lib.hid hmost
  have HTH := Lib.hid hth
  have HND := Lib.hid (show A.Pairwise fun f g => f.1 ≠ g.1 by rw [hA]; exact declL_nodup (allL_nms D name).nd)
  clear hA hmost hth HVD HVA q0 q1 q2 q02 q12 q22 q03 q13 q23
  obtain ⟨N, hN⟩ : ∃ N, N = A.length := ⟨_, rfl⟩
  have hrd : RdF w3 vd A N := by rw [hN]; exact hvd.rd
  have HV := Lib.hid hrd
  have HN := Lib.hid hN
  obtain ⟨-, ad, cd, rfl, hcd1, hcd2, -⟩ := hrd
  have hNl : N ≤ 100 := by omega
  clear hN hvd
  go_wp2_with fail
  go_loopw [8, 9] (fun s8 s9 wr => ∃ k : Nat, k ≤ N ∧ s9 = .int .i64 k ∧ wr.ownsRow w3.heap.size 24 2 s8 ((A.take k).filter (best D A)).length (((A.take k).filter (best D A)).flatMap encF) ∧ Kept w3 wr) (fun _ s9 _ => N - (intOf s9).toNat)
  case atStart => exact ⟨0, by omega, rfl, World.ownsRow_nil _ _ _ _, Below.refl _ _⟩
  case round =>
    obtain ⟨k, hk, rfl, hO, hK⟩ := hrel
    rename World => wr
    obtain ⟨ao, co, rfl, hoc, hoc2⟩ := own_slice hO
    have HO := Lib.hid hO
    have HK := Lib.hid hK
    have KW := Lib.hid (Kept.trans K3.out hK)
    have zs := hK.size
    have hOl : ((A.take k).filter (best D A)).length ≤ 100 := by have := List.length_filter_le (best D A) (A.take k); simp at this; omega
    clear hO hK
    by_cases hlt : k < N
    · obtain ⟨f, hf⟩ : ∃ m, A[k]? = some m := ⟨_, List.getElem?_eq_getElem (by have := HN.out; omega)⟩
      obtain ⟨b, off, cc, hv, y0, y1⟩ := fnd_cell HN.out (HV.out.kept HK.out) hf
      simp only [Value.slice.injEq] at hv
      obtain ⟨rfl, -, rfl⟩ := hv
      have hnext := filter_next (best D A) hf
      have HFS := Lib.hid (HTH.out f (List.mem_of_getElem? hf))
      have HX := Lib.hid hnext
      have HF := Lib.hid hf
      clear hf hnext
      go_wp2_with fail
      go_loopw [10, 11] (fun s10 s11 wi => ∃ j : Nat, j ≤ N ∧ s11 = .int .i64 j ∧ s10 = .bool (!((A.take j).any (under D f))) ∧ Kept wr wi) (fun _ s11 _ => N - (intOf s11).toNat)
      case atStart => exact ⟨0, by omega, rfl, by simp, Below.refl _ _⟩
      case round =>
        obtain ⟨j, hj, rfl, rfl, hKi⟩ := hrel
        rename World => wi
        have HKI := Lib.hid hKi
        have zi := hKi.size
        have p0 := Kept.cell hKi y0
        have p1 := Kept.cell hKi y1
        clear hKi
        by_cases hlj : j < N
        · obtain ⟨g, hg⟩ : ∃ m, A[j]? = some m := ⟨_, List.getElem?_eq_getElem (by have := HN.out; omega)⟩
          obtain ⟨b, off, cc, hv, x0, x1⟩ := fnd_cell HN.out (HV.out.kept (Kept.trans HK.out HKI.out)) hg
          simp only [Value.slice.injEq, Option.some.injEq, Addr.mk.injEq] at hv
          obtain ⟨⟨rfl, rfl, -⟩, -, rfl⟩ := hv
          have hany := any_next (under D f) hg
          have hjk := nodup_under HND.out HF.out hg
          have HGS := Lib.hid (HTH.out g (List.mem_of_getElem? hg))
          have hji : (j : Int) < (N : Int) := by omega
          have hj0 : (0 : Int) ≤ (j : Int) := by omega
          have hki : (k : Int) < (N : Int) := by omega
          have hk0 : (0 : Int) ≤ (k : Int) := by omega
          have CS := Lib.hid (ref9_Sub D g.1 f.1 v wi.drew (H.out.kept (Kept.trans (Kept.trans K3.out HK.out) HKI.out.drew)) HGS.out)
          have HJK := Lib.hid hjk
          have HANY := Lib.hid hany
          clear hg hany hjk
          go_wp2_with fail
          go_region_held2 (fun w' => w'.cell? ⟨b, off + j * 2, none⟩ = some (.string g.1) ∧ w'.cell? ⟨b, off + k * 2, none⟩ = some (.string f.1)) (go_keep)
            ((go_at_call 37; refine CS.out.mono ?_; rintro e w4 ⟨rfl, k4⟩; have x04 := Kept.cell k4 x0; have p04 := Kept.cell k4 p0; have K4 := Lib.hid k4; clear k4))
          have hany := HANY.out
          have hjk := HJK.out
          clear HANY HJK
          by_cases hjk' : j = k
          · have he : f = g := hjk.2 hjk'.symm
            rw [under_eq he, Bool.or_false] at hany
            have HY := Lib.hid hany
            have hji' : (j : Int) = (k : Int) := by omega
            clear he hany hjk hjk'
            go_wp2_with fail
            go_roundw
            case rel => exact ⟨j + 1, by omega, by go_num, by rw [HY.out], Below.trans HKI.out.drew (K4.out.mono (by have := HKI.out.size; simpa using this))⟩
            case measure => simp [intOf]; omega
          · have he : f ≠ g := fun e => hjk' (hjk.1 e).symm
            rw [under_ne he] at hany
            have hji' : ¬ ((j : Int) = (k : Int)) := by omega
            clear he hjk hjk'
            cases hb : decide (subB D g.1 f.1) with
            | false =>
              rw [hb] at hany
              have HY := Lib.hid hany
              clear hb hany
              go_wp2_with fail
              go_roundw
              case rel => exact ⟨j + 1, by omega, by go_num, by rw [HY.out, Bool.or_false], Below.trans HKI.out.drew (K4.out.mono (by have := HKI.out.size; simpa using this))⟩
              case measure => simp [intOf]; omega
            | true =>
              rw [hb] at hany
              have HY := Lib.hid hany
              clear hb hany
              go_wp2_with fail
              go_roundw
              case rel => exact ⟨j + 1, by omega, by go_num, by rw [HY.out, Bool.or_true]; rfl, Below.trans HKI.out.drew (K4.out.mono (by have := HKI.out.size; simpa using this))⟩
              case measure => simp [intOf]; omega
        · have e2 : A.take j = A := by rw [List.take_of_length_le (by have := HN.out; omega)]
          have OI := Lib.hid (Touch.own (S := fun _ => False) (Touch.of_kept HKI.out) HO.out (fun _ _ => id))
          have zb3 : w3.heap.size ≤ wi.heap.size := by omega
          cases hb : A.any (under D f) with
          | false =>
            have hb' : (A.take j).any (under D f) = false := by rw [e2, hb]
            rw [hb', Bool.not_false]
            have hb2 : best D A f = true := by simp [best, hb]
            rw [if_pos hb2] at HX
            clear hb hb2 e2 hb'
            go_wp2_with (at_builtin; refine wpl_pushH _ elem_fnd rfl _ _ rfl w3.heap.size _ ((A.take k).filter (best D A)).length _ rfl OI.out [.string f.1, .int .i64 f.2] _ wi.heap.size rfl rfl rfl (one_F f) (by omega) (by omega) (by omega) ?_; intro v5 w5 ho5 hg5 hk5 hb5; have HO5 := Lib.hid ho5; have HB5 := Lib.hid hb5; clear ho5 hg5 hk5 hb5)
            go_roundw
            case rel => exact ⟨k + 1, by omega, by go_num, by rw [HX.out]; simpa [encF] using HO5.out, Below.trans (Kept.trans HK.out HKI.out) HB5.out⟩
            case measure => simp [intOf]; omega
          | true =>
            have hb' : (A.take j).any (under D f) = true := by rw [e2, hb]
            rw [hb', Bool.not_true]
            have hb2 : ¬ best D A f = true := by simp [best, hb]
            rw [if_neg hb2] at HX
            clear hb hb2 e2 hb'
            go_wp2_with fail
            go_roundw
            case rel => exact ⟨k + 1, by omega, by go_num, by rw [HX.out]; simpa using OI.out, Kept.trans HK.out HKI.out⟩
            case measure => simp [intOf]; omega
    · have e1 : A.take k = A := by rw [List.take_of_length_le (by have := HN.out; omega)]
      have hR : RowF w.heap.size (mostL D name n d) wr (.slice ao ((A.take k).filter (best D A)).length co) := by
        have := HO.out
        rw [e1] at this ⊢
        rw [HM.out]
        exact (Row.of_own this).base K3.out.size
      have HR := Lib.hid hR
      clear hR e1
      go_wp2_with fail
      go_ret
      exact ⟨_, rfl, HR.out, KW.out⟩
end Go.Proofs.Yteblpdcedlaedaa
