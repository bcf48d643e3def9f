/-
  The document's search by contract: Flags, Real, Object, faces.
-/
import Derived.Test.YteblpdcedlaedaaFindR2
import Derived.Test.YteblpdcedlaedaaFind5
import Derived.Test.YteblpdcedlaedaaFlags
import Derived.Deep.RegionHeld2
namespace Go.Proofs.Yteblpdcedlaedaa
open Go.RowKit
set_option maxRecDepth 100000

/-- A found that is there. -/
def Fnd (D : List TD) (f : FV) : Prop := there D f.1 ∧ f.2 < (metL D f.1).length
def accM (D : List TD) (f : FV) : Int := ((metL D f.1)[f.2]?.map (·.access)).getD 0
def realM (D : List TD) (l : List FV) : List FV := l.filter fun f => decide (bits .and .i64 (accM D f) 1024 = 0)
theorem mth_fnd {D : List TD} {c n d : ByteArray} {x : Nat × Int} (h : mth D c n d = some x) : Fnd D (c, x.1) ∧ accM D (c, x.1) = x.2 := by
  obtain ⟨m, h1, h2, h3, h4, h5, h6⟩ := mth_some h
  refine ⟨⟨?_, h6⟩, by simp [accM, h2, h3]⟩
  unfold there
  cases ho : atO D c with
  | some k => rfl
  | none =>
    exfalso
    rw [metL_no ho] at h6
    simp at h6
theorem most_fnd {D : List TD} {s n d : ByteArray} {f : FV} (h : f ∈ mostL D s n d) : Fnd D f ∧ accM D f = accF D n d f := by
  have h2 := (declL_mem (List.mem_filter.1 h).1).2
  unfold declF at h2
  obtain ⟨x, hx, h3⟩ := Option.bind_eq_some_iff.1 h2
  split at h3
  · have he : (f.1, x.1) = f := by simpa using h3
    obtain ⟨a, b⟩ := mth_fnd hx
    rw [he] at a b
    exact ⟨a, by rw [b]; simp [accF, hx]⟩
  · cases h3
theorem real_same {D : List TD} {s n d : ByteArray} : realM D (mostL D s n d) = realL D n d (mostL D s n d) := by
  unfold realM realL
  refine List.filter_congr fun f hf => ?_
  rw [(most_fnd hf).2]
  rfl

set_option maxHeartbeats 1000000 in
theorem ref12_Flags (D : List TD) (f : FV) (v : Value) (w : World) (h : TyR w v D) (hf : Fnd D f) :
    Calls Try.prog 17 #[v, .agg #[.string f.1, .int .i64 f.2]] w fun e w' => e = .returned (.int .i64 (accM D f)) ∧ Kept w w' := by
  obtain ⟨ht, hi⟩ := hf
  unfold there at ht
  obtain ⟨k, hk⟩ := Option.isSome_iff_exists.1 ht
  obtain ⟨t, htk, htn, hkl⟩ := atO_some hk
  have hm := metL_at hk htk
  obtain ⟨m, hmi⟩ : ∃ m, (metL D f.1)[f.2]? = some m := ⟨_, List.getElem?_eq_getElem hi⟩
  have hacc : accM D f = m.access := by simp [accM, hmi]
  have k0 : Kept w (w.alloc (.cells #[.string f.1, .int .i64 f.2] 24)) := (Below.refl _ _).alloc (Nat.le_refl _) _
  obtain ⟨tb, tof, tc, ia, ic, fa, fc, ma, mc, rfl, -, -, -, -, -, x5, -, -, -, -, hmr, hml⟩ := ty_row (h.kept k0) htk
  rw [hm] at hmi hi
  obtain ⟨mb, mo, rfl, z0, zb, hi1, hi0⟩ := mem_place hmr hmi
  have b0 := Blk.new w 24 #[.string f.1, .int .i64 f.2]
  have q0 := b0.cell 0
  have q1 := b0.cell 1
  simp only [List.getElem?_toArray, List.getElem?_cons_succ, List.getElem?_cons_zero] at q0 q1
  have hki : (k : Int) < (D.length : Int) := by omega
  have hk0 : (0 : Int) ≤ (k : Int) := by omega
  have H := Lib.hid (h.kept k0)
  have K0 := Lib.hid k0
  have HK := Lib.hid (atI_some hk)
  have HA := Lib.hid hacc
  clear h k0 hk htk htn ht hmi hm hacc b0 hmr
  go_enter Try.func17, Try.ntmps17
  go_upto_region 1 with fail
  generalize (w.alloc (.cells #[.string f.1, .int .i64 f.2] 24)) = W at *
  go_quiet ((go_at_call 16; exact quiet_l (HK.out ▸ ref9_At D f.1 _ _ (H.out.kept (kept_drewN (Below.refl _ _) _)))))
  go_wp2_with fail
  go_ret
  exact ⟨by rw [HA.out]; rfl, by first | exact kept_drewN K0.out _ | exact K0.out⟩

theorem ref12_Real_row (D : List TD) (l : List FV) (v vl : Value) (N : Nat) (w : World) (h : TyR w v D) (hN : N = l.length) (hr : RdF w vl l N) (hl : N ≤ 100) (hf : ∀ f ∈ l, Fnd D f) :
    Calls Try.prog 46 #[v, vl] w fun e w' => ∃ v', e = .returned v' ∧ RowF w.heap.size (realM D l) w' v' ∧ Kept w w' := by
  have H := Lib.hid h
  have HR := Lib.hid hr
  have HN := Lib.hid hN
  have HF := Lib.hid hf
  obtain ⟨_, al, cl, rfl, hcl1, hcl2, -⟩ := hr
  clear h hN hf
  go_enter Try.func46, Try.ntmps46
  go_wp2
  go_loopw [5, 6] (fun s5 s6 wr => ∃ k : Nat, k ≤ N ∧ s6 = .int .i64 k ∧ wr.ownsRow w.heap.size 24 2 s5 (realM D (l.take k)).length ((realM D (l.take k)).flatMap encF) ∧ Kept w wr) (fun _ s6 _ => N - (intOf s6).toNat)
  case atStart => exact ⟨0, by omega, rfl, World.ownsRow_nil _ _ _ _, Below.refl _ _⟩
  case round =>
    obtain ⟨k, hk, rfl, hO, hK⟩ := hrel
    rename World => wr
    obtain ⟨ao, co, rfl, hoc, hoc2⟩ := own_slice hO
    have HO := Lib.hid hO
    have HK := Lib.hid hK
    have zs := hK.size
    have hOl : (realM D (l.take k)).length ≤ 100 := by have h1 : (realM D (l.take k)).length ≤ (l.take k).length := List.length_filter_le _ _; simp only [List.length_take] at h1; omega
    clear hO hK
    by_cases hlt : k < N
    · obtain ⟨f, hf⟩ : ∃ m, l[k]? = some m := ⟨_, List.getElem?_eq_getElem (by have := HN.out; omega)⟩
      obtain ⟨b, off, cc, hv, y0, y1⟩ := fnd_cell HN.out (HR.out.kept HK.out) hf
      simp only [Value.slice.injEq] at hv
      obtain ⟨rfl, -, rfl⟩ := hv
      have hnext : realM D (l.take (k + 1)) = realM D (l.take k) ++ if decide (bits .and .i64 (accM D f) 1024 = 0) then [f] else [] := filter_next _ hf
      have CF := Lib.hid (ref12_Flags D f v wr (H.out.kept HK.out) (HF.out f (List.mem_of_getElem? hf)))
      by_cases ha : bits .and .i64 (accM D f) 1024 = 0
      · rw [if_pos (by simpa using ha)] at hnext
        have HX := Lib.hid hnext
        clear hf hnext
        go_wp2_with fail
        refine CF.out.mono ?_
        rintro e w2 ⟨rfl, k2⟩
        have K2 := Lib.hid k2
        have z2 := k2.size
        have HO2 := Lib.hid (Touch.own (S := fun _ => False) (Touch.of_kept k2) HO.out (fun _ _ => id))
        have y02 := Kept.cell k2 y0
        have y12 := Kept.cell k2 y1
        clear k2 CF
        go_wp2_with (at_builtin; refine wpl_pushH _ elem_fnd rfl _ _ rfl w.heap.size _ (realM D (l.take k)).length _ rfl HO2.out [.string f.1, .int .i64 f.2] _ w2.heap.size rfl rfl rfl (one_F f) (by omega) (by omega) (by omega) ?_; intro v3 w3 ho3 hg3 hk3 hb3; have HO3 := Lib.hid ho3; have HB3 := Lib.hid hb3; clear ho3 hg3 hk3 hb3)
        go_roundw
        case rel => exact ⟨k + 1, by omega, by go_num, by rw [HX.out]; simpa [encF] using HO3.out, Below.trans (Kept.trans HK.out K2.out) HB3.out⟩
        case measure => simp [intOf]; omega
      · rw [if_neg (by simpa using ha)] at hnext
        have HX := Lib.hid hnext
        clear hf hnext
        go_wp2_with fail
        refine CF.out.mono ?_
        rintro e w2 ⟨rfl, k2⟩
        have K2 := Lib.hid k2
        have HO2 := Lib.hid (Touch.own (S := fun _ => False) (Touch.of_kept k2) HO.out (fun _ _ => id))
        clear k2 CF
        go_wp2_with fail
        go_roundw
        case rel => exact ⟨k + 1, by omega, by go_num, by rw [HX.out]; simpa using HO2.out, Kept.trans HK.out K2.out⟩
        case measure => simp [intOf]; omega
    · have e1 : l.take k = l := by rw [List.take_of_length_le (by have := HN.out; omega)]
      have hR : RowF w.heap.size (realM D l) wr (.slice ao (realM D (l.take k)).length co) := by
        have := HO.out
        rw [e1] at this ⊢
        exact Row.of_own this
      have HR := Lib.hid hR
      clear hR e1
      go_wp2
      go_ret
      exact ⟨_, rfl, HR.out, HK.out⟩

theorem ref12_In_k (l : List MemberV) (n d : ByteArray) (v : Value) (w : World) (h : Rd w 5 v l.length (l.flatMap encMemberV)) (hl : l.length ≤ 140737488351232) :
    Calls Try.prog 45 #[v, .string n, .string d] w fun e w' => e = .returned (.int .i64 (memI l n d)) ∧ Kept w w' :=
  (ref12_In l n d v w _ rfl h hl).mono fun e w' ⟨a, b⟩ => ⟨a, b ▸ Below.refl _ _⟩

set_option maxHeartbeats 4000000 in
theorem ref12_Object (D : List TD) (c n d : ByteArray) (v : Value) (w : World) (h : TyR w v D) (hs : c.size ≤ maxLen) :
    Calls Try.prog 41 #[v, .agg #[.string c, .string n, .string d]] w fun e w' => e = .returned (foV (objF D c n d)) ∧ Kept w w' := by
  have H := Lib.hid h
  have HS := Lib.hid hs
  have k0 : Kept w ((w.alloc (.cells #[.string c, .string n, .string d] 44)).alloc (.cells #[.string ⟨#[]⟩, .int .i64 0] 24)) := ((Below.refl _ _).alloc (Nat.le_refl _) _).alloc (by simp) _
  have b0 : Blk ((w.alloc (.cells #[.string c, .string n, .string d] 44)).alloc (.cells #[.string ⟨#[]⟩, .int .i64 0] 24)) w.heap.size 44 #[.string c, .string n, .string d] := (Blk.new w _ _).alloc _
  have b1 : Blk ((w.alloc (.cells #[.string c, .string n, .string d] 44)).alloc (.cells #[.string ⟨#[]⟩, .int .i64 0] 24)) (w.heap.size + 1) 24 #[.string ⟨#[]⟩, .int .i64 0] := Blk.at_ (by simp)
  have zz : w.heap.size + 1 < ((w.alloc (.cells #[.string c, .string n, .string d] 44)).alloc (.cells #[.string ⟨#[]⟩, .int .i64 0] 24)).heap.size := by simp
  have q0 := b0.cell 0
  have q1 := b0.cell 1
  have q2 := b0.cell 2
  simp only [List.getElem?_toArray, List.getElem?_cons_succ, List.getElem?_cons_zero] at q0 q1 q2
  have K0 := Lib.hid k0
  have B0 := Lib.hid b0
  have B1 := Lib.hid b1
  clear h hs k0 b0 b1
  go_enter Try.func41, Try.ntmps41
  go_wp2_with fail
  generalize ((w.alloc (.cells #[.string c, .string n, .string d] 44)).alloc (.cells #[.string ⟨#[]⟩, .int .i64 0] 24)) = W at *
  have CA := ref9_At D objB v W (H.out.kept K0.out)
  have kw : Kept W W := Below.refl _ _
  cases ho : atO D objB with
  | none =>
    rw [atI_none ho] at CA
    refine CA.mono ?_
    rintro e w1 ⟨rfl, rfl⟩
    have hno : mth D objB n d = none := mth_no (by rw [metL_no ho]; rfl)
    have PF := fnd_put (B1.out.kept kw)
    have KP := Lib.hid (PF.keeps (Kept.trans K0.out kw) (Nat.le_succ _))
    have g0 := PF.g0
    have g1 := PF.g1
    have h0 := PF.h0
    have h1 := PF.h1
    have zr := PF.lt
    have PF := Lib.hid PF
    clear CA kw ho
    have E0 := Lib.hid (PF.out.e0 (.string ⟨#[]⟩))
    have E1 := Lib.hid (PF.out.e1 (.string ⟨#[]⟩) (.int .i64 0))
    have PE := Lib.hid (fnd_put (PF.out.set (.string ⟨#[]⟩) (.int .i64 0)))
    have hf : objF D c n d = none := by unfold objF; rw [hno]; rfl
    have HF := Lib.hid (congrArg foV hf)
    clear hf
    go_wp2_with fail
    refine bodyPost_ret (v := foV (objF D c n d)) (by rw [HF.out]; simp [results, Try.results41, go_sem, E0.out, E1.out, PE.out.g0, PE.out.g1, foV, objB]) rfl ⟨rfl, ?_⟩
    exact KP.out _ _
  | some k =>
    obtain ⟨t, ht, htn, hkl⟩ := atO_some ho
    have hmet := metL_at ho ht
    rw [atI_some ho] at CA
    obtain ⟨tb, tof, tc, ia, ic, fa, fc, ma, mc, rfl, -, -, -, -, -, x5, -, -, -, -, hmr, hml⟩ := ty_row (H.out.kept K0.out) ht
    have hki : (k : Int) < (D.length : Int) := by omega
    have hk0 : (0 : Int) ≤ (k : Int) := by omega
    have CI := ref12_In_k t.methods n d _ W.drew (hmr.kept (Below.refl _ _).drew) hml
    have HMR := Lib.hid hmr
    refine CA.mono ?_
    rintro e w1 ⟨rfl, rfl⟩
    clear CA kw ht htn hkl hmr
    cases hm : memAt t.methods n d with
    | none =>
      rw [memI_none hm] at CI
      have hno : mth D objB n d = none := mth_no (by rw [hmet]; exact hm)
      have CI := Lib.hid CI
      clear hm hmet ho
      go_upto_region 4 with fail
      go_region_held2 (fun w' => w'.cell? ⟨tb, tof + k * 6 + 5, none⟩ = some (.slice ma t.methods.length mc) ∧ w'.cell? ⟨w.heap.size, 1, none⟩ = some (.string n) ∧ w'.cell? ⟨w.heap.size, 2, none⟩ = some (.string d)) (go_keep)
        ((go_at_call 45; refine CI.out.mono ?_; rintro e w2 ⟨rfl, k2⟩; have x52 := Kept.cell k2 x5; have q12 := Kept.cell k2 q1; have q22 := Kept.cell k2 q2; have K2 := Lib.hid (Kept.trans (Below.refl W.heap.size W).drew k2); clear k2))
      have kw := K2.out
      have PF := fnd_put (B1.out.kept kw)
      have KP := Lib.hid (PF.keeps (Kept.trans K0.out kw) (Nat.le_succ _))
      have g0 := PF.g0
      have g1 := PF.g1
      have h0 := PF.h0
      have h1 := PF.h1
      have zr := PF.lt
      have PF := Lib.hid PF
      clear kw
      have E0 := Lib.hid (PF.out.e0 (.string ⟨#[]⟩))
      have E1 := Lib.hid (PF.out.e1 (.string ⟨#[]⟩) (.int .i64 0))
      have PE := Lib.hid (fnd_put (PF.out.set (.string ⟨#[]⟩) (.int .i64 0)))
      have hf : objF D c n d = none := by unfold objF; rw [hno]; rfl
      have HF := Lib.hid (congrArg foV hf)
      clear hf
      go_wp2_with fail
      refine bodyPost_ret (v := foV (objF D c n d)) (by rw [HF.out]; simp [results, Try.results41, go_sem, E0.out, E1.out, PE.out.g0, PE.out.g1, foV, objB]) rfl ⟨rfl, ?_⟩
      exact KP.out _ _
    | some i =>
      obtain ⟨m, hmi, -, -, -⟩ := memAt_some hm
      have hmt : mth D objB n d = some (i, m.access) := mth_at (by rw [hmet]; exact hm) (by rw [hmet]; exact hmi)
      rw [memI_some hm] at CI
      have CI := Lib.hid CI
      have HMI := Lib.hid hmi
      clear hm hmet ho hmi
      go_upto_region 4 with fail
      go_region_held2 (fun w' => w'.cell? ⟨tb, tof + k * 6 + 5, none⟩ = some (.slice ma t.methods.length mc) ∧ w'.cell? ⟨w.heap.size, 1, none⟩ = some (.string n) ∧ w'.cell? ⟨w.heap.size, 2, none⟩ = some (.string d)) (go_keep)
        ((go_at_call 45; refine CI.out.mono ?_; rintro e w2 ⟨rfl, k2⟩; have x52 := Kept.cell k2 x5; have q12 := Kept.cell k2 q1; have q22 := Kept.cell k2 q2; have K2 := Lib.hid (Kept.trans (Below.refl W.heap.size W).drew k2); clear k2))
      have kw := K2.out
      obtain ⟨mb, mo, rfl, z0, zb, hi1, hi0⟩ := mem_place (HMR.out.kept kw) HMI.out
      have PF := fnd_put (B1.out.kept kw)
      have KP := Lib.hid (PF.keeps (Kept.trans K0.out kw) (Nat.le_succ _))
      have g0 := PF.g0
      have g1 := PF.g1
      have h0 := PF.h0
      have h1 := PF.h1
      have zr := PF.lt
      have PF := Lib.hid PF
      clear kw
      by_cases h9 : bits .and .i64 m.access 9 = 1
      · obtain ⟨h91, h98⟩ := (flags_9 _).1 h9
        have e9 : (bits .and .i64 m.access 9 != 1) = false := by simp [h9]
        have E0 := Lib.hid (PF.out.e0 (.string ⟨#[106, 97, 118, 97, 47, 108, 97, 110, 103, 47, 79, 98, 106, 101, 99, 116]⟩))
        have E1 := Lib.hid (PF.out.e1 (.string ⟨#[106, 97, 118, 97, 47, 108, 97, 110, 103, 47, 79, 98, 106, 101, 99, 116]⟩) (.int .i64 i))
        have PE := Lib.hid (fnd_put (PF.out.set (.string ⟨#[106, 97, 118, 97, 47, 108, 97, 110, 103, 47, 79, 98, 106, 101, 99, 116]⟩) (.int .i64 i)))
        have hf : objF D c n d = some (objB, i) := by unfold objF; rw [hmt]; simp [h91, h98]
        have HF := Lib.hid (congrArg foV hf)
        clear hf
        go_wp2_with fail
        refine bodyPost_ret (v := foV (objF D c n d)) (by rw [HF.out]; simp [results, Try.results41, go_sem, E0.out, E1.out, PE.out.g0, PE.out.g1, foV, objB]) rfl ⟨rfl, ?_⟩
        exact KP.out _ _
      · have hn9 : bits .and .i64 m.access 1 = 0 ∨ bits .and .i64 m.access 8 ≠ 0 := by
          by_cases a : bits .and .i64 m.access 1 = 0
          · exact .inl a
          · exact .inr fun b => h9 ((flags_9 _).2 ⟨a, b⟩)
        have e9 : (bits .and .i64 m.access 9 != 1) = true := by simp [h9]
        have E0 := Lib.hid (PF.out.e0 (.string ⟨#[]⟩))
        have E1 := Lib.hid (PF.out.e1 (.string ⟨#[]⟩) (.int .i64 0))
        have PE := Lib.hid (fnd_put (PF.out.set (.string ⟨#[]⟩) (.int .i64 0)))
        have hf : objF D c n d = none := by unfold objF; rw [hmt]; simp only [Option.bind_some]; rw [if_pos hn9]
        have HF := Lib.hid (congrArg foV hf)
        clear hf
        go_wp2_with fail
        refine bodyPost_ret (v := foV (objF D c n d)) (by rw [HF.out]; simp [results, Try.results41, go_sem, E0.out, E1.out, PE.out.g0, PE.out.g1, foV, objB]) rfl ⟨rfl, ?_⟩
        exact KP.out _ _
end Go.Proofs.Yteblpdcedlaedaa
