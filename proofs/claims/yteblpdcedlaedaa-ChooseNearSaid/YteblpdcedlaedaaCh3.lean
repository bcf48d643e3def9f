/-
  Package choose by contract: first.
-/
import Derived.Test.YteblpdcedlaedaaCh2
import Derived.Deep.LoopGhost
import Derived.WalkMore
import Derived.Laws.EntriesVeiled
namespace Go.Proofs.Yteblpdcedlaedaa
open Go.RowKit
set_option maxRecDepth 100000

theorem frs_no {D : List TD} {n d s : ByteArray} {tk : Int → Bool} (h : memAt (metL D s) n d = none) : frsF D n d tk s = none := by unfold frsF; rw [mth_no h]; rfl
theorem frs_at {D : List TD} {n d s : ByteArray} {tk : Int → Bool} {i : Nat} {m : MemberV} (h : memAt (metL D s) n d = some i) (hm : (metL D s)[i]? = some m) : frsF D n d tk s = if tk m.access = true then some (s, i) else none := by unfold frsF; rw [mth_at h hm]; rfl
theorem no_next {α β : Type} {g : α → Option β} {l : List α} {k : Nat} {x : α} (hx : l[k]? = some x) (hg : g x = none) (h : ∀ j z, j < k → l[j]? = some z → g z = none) : ∀ j z, j < k + 1 → l[j]? = some z → g z = none := by
  intro j z hj hz
  by_cases e : j = k
  · subst e
    rw [hx] at hz
    obtain rfl : x = z := by simpa using hz
    exact hg
  · exact h j z (by omega) hz

set_option maxHeartbeats 8000000 in
theorem ch_firstI (D : List TD) (ts : List ByteArray) (n d : ByteArray) (v vt : Value) (N : Nat) (w : World) (h : TyR w v D) (hN : N = ts.length) (hr : Rd w 1 vt N (ts.flatMap encS)) (hl : N ≤ 100) :
    Calls Try.prog 26 #[v, vt, .agg #[.string n, .string d], .func (.func 25) #[] #[]] w fun e w' => e = .returned (foV (frsL D ts n d tkI)) ∧ Kept w w' := by
  have H := Lib.hid h
  have HR := Lib.hid hr
  have HN := Lib.hid hN
  obtain ⟨-, vta, vtc, rfl, hv1, hv2, -⟩ := hr
  have k0 : Kept w (((w.alloc (.cells #[.string n, .string d] 54)).alloc (.cells #[.string ⟨#[]⟩, .int .i64 0] 24)).alloc (.cells #[.string ⟨#[]⟩, .int .i64 0] 24)) := (((Below.refl _ _).alloc (Nat.le_refl _) _).alloc (by simp) _).alloc (by simp; omega) _
  have b0 : Blk (((w.alloc (.cells #[.string n, .string d] 54)).alloc (.cells #[.string ⟨#[]⟩, .int .i64 0] 24)).alloc (.cells #[.string ⟨#[]⟩, .int .i64 0] 24)) w.heap.size 54 #[.string n, .string d] := ((Blk.new w _ _).alloc _).alloc _
  have b1 : Blk (((w.alloc (.cells #[.string n, .string d] 54)).alloc (.cells #[.string ⟨#[]⟩, .int .i64 0] 24)).alloc (.cells #[.string ⟨#[]⟩, .int .i64 0] 24)) (w.heap.size + 1) 24 #[.string ⟨#[]⟩, .int .i64 0] := (Blk.at_ (by simp)).alloc _
  have b2 : Blk (((w.alloc (.cells #[.string n, .string d] 54)).alloc (.cells #[.string ⟨#[]⟩, .int .i64 0] 24)).alloc (.cells #[.string ⟨#[]⟩, .int .i64 0] 24)) (w.heap.size + 1 + 1) 24 #[.string ⟨#[]⟩, .int .i64 0] := Blk.at_ (by simp)
  have K0 := Lib.hid k0
  have B0 := Lib.hid b0
  have B1 := Lib.hid b1
  have B2 := Lib.hid b2
  clear h hN k0 b0 b1 b2
  go_enter Try.func26, Try.ntmps26
  go_wp2_with fail
  go_step3
  go_wp2_with fail
  go_step3
  go_wp2_with fail
  generalize (((w.alloc (.cells #[.string n, .string d] 54)).alloc (.cells #[.string ⟨#[]⟩, .int .i64 0] 24)).alloc (.cells #[.string ⟨#[]⟩, .int .i64 0] 24)) = W at *
  go_loopg [11, 20] N (fun g s11 s20 wr => ∃ k : Nat, g + k = N ∧ s20 = .int .i64 k ∧ s11 = .bool false ∧ (∀ j z, j < k → ts[j]? = some z → frsF D n d tkI z = none) ∧ Kept W wr)
  case atStart => exact ⟨0, by omega, rfl, rfl, fun j z hj => (by omega), Below.refl _ _⟩
  case round =>
    obtain ⟨k, hk, rfl, rfl, hno, hK⟩ := hrel
    rename World => wr
    have HNO := Lib.hid hno
    have HK := Lib.hid hK
    clear hno
    by_cases hlt : k < N
    · obtain ⟨s, hs⟩ : ∃ m, ts[k]? = some m := ⟨_, List.getElem?_eq_getElem (by have := HN.out; omega)⟩
      obtain ⟨b, off, cc, hv, y0⟩ := str_cell HN.out (HR.out.kept (Kept.trans K0.out hK)) hs
      simp only [Value.slice.injEq] at hv
      obtain ⟨rfl, -, rfl⟩ := hv
      have HS := Lib.hid hs
      obtain ⟨gk', hgk⟩ : ∃ j, gk = j + 1 := ⟨gk - 1, by omega⟩
      subst hgk
      clear hs hK
      cases ho : atO D s with
      | none =>
        have CA := Lib.hid (ch_at_none D s v wr (H.out.kept (Kept.trans K0.out HK.out)) ho)
        have HX := Lib.hid (no_next HS.out (frs_no (tk := tkI) (n := n) (d := d) (by rw [metL_no ho]; rfl)) HNO.out)
        clear ho
        go_wp2_with fail
        refine CA.out.mono ?_
        rintro e w1 ⟨rfl, k1⟩
        have K1 := Lib.hid (Kept.trans HK.out k1)
        have Z1 := K1.out.size
        clear k1 CA
        go_wp2_with fail
        go_roundg gk'
        case rel => exact ⟨k + 1, by omega, by go_num, rfl, HX.out, K1.out.alloc Z1 _⟩
        case measure => omega
      | some ka =>
        obtain ⟨t, ht, -, hkl⟩ := atO_some ho
        have CA := Lib.hid (ch_at_some D s ka t v wr (H.out.kept (Kept.trans K0.out HK.out)) ho ht)
        have hmet := metL_at ho ht
        have HMET := Lib.hid hmet
        clear ho ht hmet
        go_wp2_with fail
        refine CA.out.mono ?_
        rintro e w1 ⟨ai, ci, af, cf, am, cm, rfl, hrd, hml, k1⟩
        obtain ⟨nm, sp, acc, ifs_, fds, mts⟩ := t
        simp only at hrd HMET hml ⊢
        obtain ⟨M, hM⟩ : ∃ M, M = mts.length := ⟨_, rfl⟩
        rw [← hM] at hrd hml ⊢
        have HM := Lib.hid hM
        clear hM
        have kx : Kept w1 (w1.alloc (.cells #[.string nm, .string sp, .int .i64 acc, .slice ai ifs_.length ci, .slice af fds.length cf, .slice am M cm] 36)) := (Below.refl _ _).alloc (Nat.le_refl _) _
        have bt := Blk.new w1 36 #[.string nm, .string sp, .int .i64 acc, .slice ai ifs_.length ci, .slice af fds.length cf, .slice am M cm]
        have t5 := bt.cell 5
        simp only [List.getElem?_toArray, List.getElem?_cons_succ, List.getElem?_cons_zero] at t5
        have tl := bt.lt
        have hrx := hrd.kept kx
        have HRX := Lib.hid hrx
        have KX := Lib.hid (Kept.trans (Kept.trans HK.out k1) kx)
        clear hrd k1 kx bt CA hrx y0
        go_upto_region 7 with fail
        generalize (w1.alloc (.cells #[.string nm, .string sp, .int .i64 acc, .slice ai ifs_.length ci, .slice af fds.length cf, .slice am M cm] 36)) = WX at *
        go_wp2_with fail
        obtain ⟨gO, hgO⟩ : ∃ g, g = gk' := ⟨_, rfl⟩
        obtain ⟨kO, hkO⟩ : ∃ g, g = k := ⟨_, rfl⟩
        go_loopg [11, 35] M (fun g s11 s35 wi => ∃ j : Nat, g + j = M ∧ s35 = .int .i64 j ∧ s11 = .bool false ∧ (∀ (q : Nat) (m' : MemberV), q < j → mts[q]? = some m' → ¬ (m'.name = n ∧ m'.desc = d)) ∧ Kept WX wi)
        case atStart => exact ⟨0, by omega, rfl, rfl, fun q m' hq => (by omega), Below.refl _ _⟩
        case round =>
          obtain ⟨j, hj, rfl, rfl, hnm, hKi⟩ := hrel
          rename World => wi
          have HNM := Lib.hid hnm
          have HKI := Lib.hid (Kept.trans KX.out hKi)
          have hrx := HRX.out.kept hKi
          have kW := HKI.out
          have bk := B0.out.kept kW
          have q0 := bk.cell 0
          have q1 := bk.cell 1
          simp only [List.getElem?_toArray, List.getElem?_cons_succ, List.getElem?_cons_zero] at q0 q1
          have zq := bk.lt
          have HKIX := Lib.hid hKi
          clear hnm kW bk hKi
          by_cases hlj : j < M
          · obtain ⟨m, hm⟩ : ∃ m, mts[j]? = some m := ⟨_, List.getElem?_eq_getElem (by have := HM.out; omega)⟩
            obtain ⟨mb, mo, mc, hv, z0, z1, z2, z3, z4⟩ := mem_row_ HM.out hrx hm
            simp only [Value.slice.injEq] at hv
            obtain ⟨rfl, -, rfl⟩ := hv
            have mbl : mb < wi.heap.size := World.block_lt_of_cell? wi _ z0
            have mbn : ¬ (mb = wi.heap.size) := by omega
            have zqn : ¬ (w.heap.size = wi.heap.size) := by omega
            obtain ⟨gi', hgi⟩ : ∃ q, gk = q + 1 := ⟨gk - 1, by omega⟩
            subst hgi
            have HMJ := Lib.hid hm
            have kma : Kept wi (wi.alloc (.cells #[.int .i64 m.access, .string m.name, .string m.desc, .bool m.has, .int .i64 m.value] 38)) := (Below.refl _ _).alloc (Nat.le_refl _) _
            have bm := Blk.new wi 38 #[.int .i64 m.access, .string m.name, .string m.desc, .bool m.has, .int .i64 m.value]
            have KMA := Lib.hid (Kept.trans HKI.out kma)
            have KMX := Lib.hid (Kept.trans HKIX.out kma)
            clear hm hrx
            go_upto_region 11 with fail
            generalize (wi.alloc (.cells #[.int .i64 m.access, .string m.name, .string m.desc, .bool m.has, .int .i64 m.value] 38)) = WM at *
            clear z0 z1 z2 z3 z4 mbl mbn zqn q0 q1 zq kma
            have bk := B0.out.kept KMA.out
            have q0 := bk.cell 0
            have q1 := bk.cell 1
            simp only [List.getElem?_toArray, List.getElem?_cons_succ, List.getElem?_cons_zero] at q0 q1
            have z0 := bm.cell 0
            have z1 := bm.cell 1
            have z2 := bm.cell 2
            simp only [List.getElem?_toArray, List.getElem?_cons_succ, List.getElem?_cons_zero] at z0 z1 z2
            have zq := bk.lt
            have ml := bm.lt
            clear bk bm
            by_cases h1 : m.name = n ∧ m.desc = d
            · obtain ⟨h1, h2⟩ := h1
              have hma : memAt (metL D s) n d = some j := by rw [HMET.out]; exact memAt_first HMJ.out h1 h2 HNM.out
              have hfr := frs_at (tk := tkI) hma (by rw [HMET.out]; exact HMJ.out)
              have HFR := Lib.hid hfr
              clear hma hfr
              rw [h1] at z1
              rw [h2] at z2
              have CT := ch_instance m.access
              clear h1 h2
              cases htk : tkI m.access with
              | false =>
                have hfn : frsF D n d tkI s = none := by rw [HFR.out, htk]; rfl
                have HX := Lib.hid (no_next HS.out hfn HNO.out)
                rw [htk] at CT
                have CT := Lib.hid CT
                clear hfn htk
                go_wp2_with (go_at_call 25; refine (CT.out _).mono ?_; rintro e w5 ⟨rfl, rfl⟩)
                go_roundg gO
                case rel => exact ⟨kO + 1, by omega, by rw [hkO]; go_num, rfl, by rw [hkO]; exact HX.out, KMA.out⟩
                case measure => omega
              | true =>
                have hfs : frsL D ts n d tkI = some (s, j) := some_at HS.out (by rw [HFR.out, htk]; rfl) HNO.out
                have HFS := Lib.hid (congrArg foV hfs)
                rw [htk] at CT
                have CT := Lib.hid CT
                clear hfs htk
                have km := KMA.out
                have PO := fnd_put (B2.out.kept km)
                have p0 := PO.g0
                have p1 := PO.g1
                have r0 := PO.h0
                have r1 := PO.h1
                have rl := PO.lt
                have PF1 := fnd_put (B1.out.kept km)
                have g0 := PF1.g0
                have g1 := PF1.g1
                have h0 := PF1.h0
                have h1 := PF1.h1
                have zr := PF1.lt
                have KO := PO.keeps (Kept.trans K0.out km) (Nat.le_succ_of_le (Nat.le_succ _)) (.string s) (.int .i64 j)
                have BO := Lib.hid (PO.set (.string s) (.int .i64 j))
                have BR := Lib.hid (((B1.out.kept km).far (p := ⟨w.heap.size + 1 + 1, 0, none⟩) (by simp) (.string s)).far (p := ⟨w.heap.size + 1 + 1, 1, none⟩) (by simp) (.int .i64 j))
                have PF := fnd_put BR.out
                have KP := Lib.hid (PF.keeps KO (Nat.le_succ _))
                have E0 := Lib.hid (PF.e0 (.string s))
                have E1 := Lib.hid (PF.e1 (.string s) (.int .i64 j))
                have PE := Lib.hid (fnd_put (PF.set (.string s) (.int .i64 j)))
                have OE0 := Lib.hid (PO.e0 (.string s))
                have OE1 := Lib.hid (PO.e1 (.string s) (.int .i64 j))
                have oe0 := OE0.out
                have oe1 := OE1.out
                clear PO km PF PF1 KO
                go_wp2_with (go_at_call 25; refine (CT.out _).mono ?_; rintro e w5 ⟨rfl, rfl⟩)
                rw [Exit.noGoto_ret]
                refine bodyPost_ret (v := foV (frsL D ts n d tkI)) (by rw [HFS.out]; simp [results, Try.results26, go_sem, E0.out, E1.out, PE.out.g0, PE.out.g1, foV]) rfl ⟨rfl, ?_⟩
                exact KP.out _ _
            · have hne := key_eq h1
              have HX := Lib.hid (show ∀ (q : Nat) (m' : MemberV), q < j + 1 → mts[q]? = some m' → ¬ (m'.name = n ∧ m'.desc = d) by
                intro q m' hq hm'
                by_cases e : q = j
                · subst e
                  rw [HMJ.out] at hm'
                  obtain rfl : m = m' := by simpa using hm'
                  exact h1
                · exact HNM.out q m' (by omega) hm')
              have b1 : ((n.toList == m.name.toList) && (d.toList == m.desc.toList)) = false := by
                rw [Bool.and_eq_false_iff, beq_eq_false_iff_ne, beq_eq_false_iff_ne]
                exact hne.imp (fun e => fun h => e h.symm) (fun e => fun h => e h.symm)
              have hne1 : ¬ (n.toList = m.name.toList ∧ d.toList = m.desc.toList) := by
                rintro ⟨e1, e2⟩
                rcases hne with h | h
                · exact h e1.symm
                · exact h e2.symm
              clear h1 hne
              go_wp2_with fail
              all_goals first
                | (exfalso; apply hne1; constructor <;> assumption)
                | (go_roundg gi'
                   case rel => exact ⟨j + 1, by omega, by go_num, rfl, HX.out, KMX.out⟩
                   case measure => omega)
          · have hmn : memAt (metL D s) n d = none := by
              rw [HMET.out]
              exact memAt_no fun q m' hm' => HNM.out q m' (by have := (List.getElem?_eq_some_iff.1 hm').1; have := HM.out; omega) hm'
            have HX := Lib.hid (no_next HS.out (frs_no (tk := tkI) hmn) HNO.out)
            clear hmn hrx
            go_wp2_with fail
            go_roundg gO
            case rel => exact ⟨kO + 1, by omega, by rw [hkO]; go_num, rfl, by rw [hkO]; exact HX.out, HKI.out⟩
            case measure => omega
    · have hfs : frsL D ts n d tkI = none := some_no fun j z hz => HNO.out j z (by have := (List.getElem?_eq_some_iff.1 hz).1; have := HN.out; omega) hz
      have HFS := Lib.hid (congrArg foV hfs)
      have km := HK.out
      have PO := fnd_put (B2.out.kept km)
      have p0 := PO.g0
      have p1 := PO.g1
      have rl := PO.lt
      have PF := fnd_put (B1.out.kept km)
      have g0 := PF.g0
      have g1 := PF.g1
      have h0 := PF.h0
      have h1 := PF.h1
      have zr := PF.lt
      have KP := Lib.hid (PF.keeps (Kept.trans K0.out km) (Nat.le_succ _))
      have E0 := Lib.hid (PF.e0 (.string ⟨#[]⟩))
      have E1 := Lib.hid (PF.e1 (.string ⟨#[]⟩) (.int .i64 0))
      have PE := Lib.hid (fnd_put (PF.set (.string ⟨#[]⟩) (.int .i64 0)))
      clear hfs PO km PF hK
      go_wp2_with fail
      rw [Exit.noGoto_ret]
      refine bodyPost_ret (v := foV (frsL D ts n d tkI)) (by rw [HFS.out]; simp [results, Try.results26, go_sem, E0.out, E1.out, PE.out.g0, PE.out.g1, foV]) rfl ⟨rfl, ?_⟩
      exact KP.out _ _

set_option maxHeartbeats 8000000 in
theorem ch_firstP (D : List TD) (ts : List ByteArray) (n d : ByteArray) (v vt : Value) (N : Nat) (w : World) (h : TyR w v D) (hN : N = ts.length) (hr : Rd w 1 vt N (ts.flatMap encS)) (hl : N ≤ 100) :
    Calls Try.prog 26 #[v, vt, .agg #[.string n, .string d], .func (.func 39) #[] #[]] w fun e w' => e = .returned (foV (frsL D ts n d tkP)) ∧ Kept w w' := by
  have H := Lib.hid h
  have HR := Lib.hid hr
  have HN := Lib.hid hN
  obtain ⟨-, vta, vtc, rfl, hv1, hv2, -⟩ := hr
  have k0 : Kept w (((w.alloc (.cells #[.string n, .string d] 54)).alloc (.cells #[.string ⟨#[]⟩, .int .i64 0] 24)).alloc (.cells #[.string ⟨#[]⟩, .int .i64 0] 24)) := (((Below.refl _ _).alloc (Nat.le_refl _) _).alloc (by simp) _).alloc (by simp; omega) _
  have b0 : Blk (((w.alloc (.cells #[.string n, .string d] 54)).alloc (.cells #[.string ⟨#[]⟩, .int .i64 0] 24)).alloc (.cells #[.string ⟨#[]⟩, .int .i64 0] 24)) w.heap.size 54 #[.string n, .string d] := ((Blk.new w _ _).alloc _).alloc _
  have b1 : Blk (((w.alloc (.cells #[.string n, .string d] 54)).alloc (.cells #[.string ⟨#[]⟩, .int .i64 0] 24)).alloc (.cells #[.string ⟨#[]⟩, .int .i64 0] 24)) (w.heap.size + 1) 24 #[.string ⟨#[]⟩, .int .i64 0] := (Blk.at_ (by simp)).alloc _
  have b2 : Blk (((w.alloc (.cells #[.string n, .string d] 54)).alloc (.cells #[.string ⟨#[]⟩, .int .i64 0] 24)).alloc (.cells #[.string ⟨#[]⟩, .int .i64 0] 24)) (w.heap.size + 1 + 1) 24 #[.string ⟨#[]⟩, .int .i64 0] := Blk.at_ (by simp)
  have K0 := Lib.hid k0
  have B0 := Lib.hid b0
  have B1 := Lib.hid b1
  have B2 := Lib.hid b2
  clear h hN k0 b0 b1 b2
  go_enter Try.func26, Try.ntmps26
  go_wp2_with fail
  go_step3
  go_wp2_with fail
  go_step3
  go_wp2_with fail
  generalize (((w.alloc (.cells #[.string n, .string d] 54)).alloc (.cells #[.string ⟨#[]⟩, .int .i64 0] 24)).alloc (.cells #[.string ⟨#[]⟩, .int .i64 0] 24)) = W at *
  go_loopg [11, 20] N (fun g s11 s20 wr => ∃ k : Nat, g + k = N ∧ s20 = .int .i64 k ∧ s11 = .bool false ∧ (∀ j z, j < k → ts[j]? = some z → frsF D n d tkP z = none) ∧ Kept W wr)
  case atStart => exact ⟨0, by omega, rfl, rfl, fun j z hj => (by omega), Below.refl _ _⟩
  case round =>
    obtain ⟨k, hk, rfl, rfl, hno, hK⟩ := hrel
    rename World => wr
    have HNO := Lib.hid hno
    have HK := Lib.hid hK
    clear hno
    by_cases hlt : k < N
    · obtain ⟨s, hs⟩ : ∃ m, ts[k]? = some m := ⟨_, List.getElem?_eq_getElem (by have := HN.out; omega)⟩
      obtain ⟨b, off, cc, hv, y0⟩ := str_cell HN.out (HR.out.kept (Kept.trans K0.out hK)) hs
      simp only [Value.slice.injEq] at hv
      obtain ⟨rfl, -, rfl⟩ := hv
      have HS := Lib.hid hs
      obtain ⟨gk', hgk⟩ : ∃ j, gk = j + 1 := ⟨gk - 1, by omega⟩
      subst hgk
      clear hs hK
      cases ho : atO D s with
      | none =>
        have CA := Lib.hid (ch_at_none D s v wr (H.out.kept (Kept.trans K0.out HK.out)) ho)
        have HX := Lib.hid (no_next HS.out (frs_no (tk := tkP) (n := n) (d := d) (by rw [metL_no ho]; rfl)) HNO.out)
        clear ho
        go_wp2_with fail
        refine CA.out.mono ?_
        rintro e w1 ⟨rfl, k1⟩
        have K1 := Lib.hid (Kept.trans HK.out k1)
        have Z1 := K1.out.size
        clear k1 CA
        go_wp2_with fail
        go_roundg gk'
        case rel => exact ⟨k + 1, by omega, by go_num, rfl, HX.out, K1.out.alloc Z1 _⟩
        case measure => omega
      | some ka =>
        obtain ⟨t, ht, -, hkl⟩ := atO_some ho
        have CA := Lib.hid (ch_at_some D s ka t v wr (H.out.kept (Kept.trans K0.out HK.out)) ho ht)
        have hmet := metL_at ho ht
        have HMET := Lib.hid hmet
        clear ho ht hmet
        go_wp2_with fail
        refine CA.out.mono ?_
        rintro e w1 ⟨ai, ci, af, cf, am, cm, rfl, hrd, hml, k1⟩
        obtain ⟨nm, sp, acc, ifs_, fds, mts⟩ := t
        simp only at hrd HMET hml ⊢
        obtain ⟨M, hM⟩ : ∃ M, M = mts.length := ⟨_, rfl⟩
        rw [← hM] at hrd hml ⊢
        have HM := Lib.hid hM
        clear hM
        have kx : Kept w1 (w1.alloc (.cells #[.string nm, .string sp, .int .i64 acc, .slice ai ifs_.length ci, .slice af fds.length cf, .slice am M cm] 36)) := (Below.refl _ _).alloc (Nat.le_refl _) _
        have bt := Blk.new w1 36 #[.string nm, .string sp, .int .i64 acc, .slice ai ifs_.length ci, .slice af fds.length cf, .slice am M cm]
        have t5 := bt.cell 5
        simp only [List.getElem?_toArray, List.getElem?_cons_succ, List.getElem?_cons_zero] at t5
        have tl := bt.lt
        have hrx := hrd.kept kx
        have HRX := Lib.hid hrx
        have KX := Lib.hid (Kept.trans (Kept.trans HK.out k1) kx)
        clear hrd k1 kx bt CA hrx y0
        go_upto_region 7 with fail
        generalize (w1.alloc (.cells #[.string nm, .string sp, .int .i64 acc, .slice ai ifs_.length ci, .slice af fds.length cf, .slice am M cm] 36)) = WX at *
        go_wp2_with fail
        obtain ⟨gO, hgO⟩ : ∃ g, g = gk' := ⟨_, rfl⟩
        obtain ⟨kO, hkO⟩ : ∃ g, g = k := ⟨_, rfl⟩
        go_loopg [11, 35] M (fun g s11 s35 wi => ∃ j : Nat, g + j = M ∧ s35 = .int .i64 j ∧ s11 = .bool false ∧ (∀ (q : Nat) (m' : MemberV), q < j → mts[q]? = some m' → ¬ (m'.name = n ∧ m'.desc = d)) ∧ Kept WX wi)
        case atStart => exact ⟨0, by omega, rfl, rfl, fun q m' hq => (by omega), Below.refl _ _⟩
        case round =>
          obtain ⟨j, hj, rfl, rfl, hnm, hKi⟩ := hrel
          rename World => wi
          have HNM := Lib.hid hnm
          have HKI := Lib.hid (Kept.trans KX.out hKi)
          have hrx := HRX.out.kept hKi
          have kW := HKI.out
          have bk := B0.out.kept kW
          have q0 := bk.cell 0
          have q1 := bk.cell 1
          simp only [List.getElem?_toArray, List.getElem?_cons_succ, List.getElem?_cons_zero] at q0 q1
          have zq := bk.lt
          have HKIX := Lib.hid hKi
          clear hnm kW bk hKi
          by_cases hlj : j < M
          · obtain ⟨m, hm⟩ : ∃ m, mts[j]? = some m := ⟨_, List.getElem?_eq_getElem (by have := HM.out; omega)⟩
            obtain ⟨mb, mo, mc, hv, z0, z1, z2, z3, z4⟩ := mem_row_ HM.out hrx hm
            simp only [Value.slice.injEq] at hv
            obtain ⟨rfl, -, rfl⟩ := hv
            have mbl : mb < wi.heap.size := World.block_lt_of_cell? wi _ z0
            have mbn : ¬ (mb = wi.heap.size) := by omega
            have zqn : ¬ (w.heap.size = wi.heap.size) := by omega
            obtain ⟨gi', hgi⟩ : ∃ q, gk = q + 1 := ⟨gk - 1, by omega⟩
            subst hgi
            have HMJ := Lib.hid hm
            have kma : Kept wi (wi.alloc (.cells #[.int .i64 m.access, .string m.name, .string m.desc, .bool m.has, .int .i64 m.value] 38)) := (Below.refl _ _).alloc (Nat.le_refl _) _
            have bm := Blk.new wi 38 #[.int .i64 m.access, .string m.name, .string m.desc, .bool m.has, .int .i64 m.value]
            have KMA := Lib.hid (Kept.trans HKI.out kma)
            have KMX := Lib.hid (Kept.trans HKIX.out kma)
            clear hm hrx
            go_upto_region 11 with fail
            generalize (wi.alloc (.cells #[.int .i64 m.access, .string m.name, .string m.desc, .bool m.has, .int .i64 m.value] 38)) = WM at *
            clear z0 z1 z2 z3 z4 mbl mbn zqn q0 q1 zq kma
            have bk := B0.out.kept KMA.out
            have q0 := bk.cell 0
            have q1 := bk.cell 1
            simp only [List.getElem?_toArray, List.getElem?_cons_succ, List.getElem?_cons_zero] at q0 q1
            have z0 := bm.cell 0
            have z1 := bm.cell 1
            have z2 := bm.cell 2
            simp only [List.getElem?_toArray, List.getElem?_cons_succ, List.getElem?_cons_zero] at z0 z1 z2
            have zq := bk.lt
            have ml := bm.lt
            clear bk bm
            by_cases h1 : m.name = n ∧ m.desc = d
            · obtain ⟨h1, h2⟩ := h1
              have hma : memAt (metL D s) n d = some j := by rw [HMET.out]; exact memAt_first HMJ.out h1 h2 HNM.out
              have hfr := frs_at (tk := tkP) hma (by rw [HMET.out]; exact HMJ.out)
              have HFR := Lib.hid hfr
              clear hma hfr
              rw [h1] at z1
              rw [h2] at z2
              have CT := ch_public m.access
              clear h1 h2
              cases htk : tkP m.access with
              | false =>
                have hfn : frsF D n d tkP s = none := by rw [HFR.out, htk]; rfl
                have HX := Lib.hid (no_next HS.out hfn HNO.out)
                rw [htk] at CT
                have CT := Lib.hid CT
                clear hfn htk
                go_wp2_with (go_at_call 39; refine (CT.out _).mono ?_; rintro e w5 ⟨rfl, rfl⟩)
                go_roundg gO
                case rel => exact ⟨kO + 1, by omega, by rw [hkO]; go_num, rfl, by rw [hkO]; exact HX.out, KMA.out⟩
                case measure => omega
              | true =>
                have hfs : frsL D ts n d tkP = some (s, j) := some_at HS.out (by rw [HFR.out, htk]; rfl) HNO.out
                have HFS := Lib.hid (congrArg foV hfs)
                rw [htk] at CT
                have CT := Lib.hid CT
                clear hfs htk
                have km := KMA.out
                have PO := fnd_put (B2.out.kept km)
                have p0 := PO.g0
                have p1 := PO.g1
                have r0 := PO.h0
                have r1 := PO.h1
                have rl := PO.lt
                have PF1 := fnd_put (B1.out.kept km)
                have g0 := PF1.g0
                have g1 := PF1.g1
                have h0 := PF1.h0
                have h1 := PF1.h1
                have zr := PF1.lt
                have KO := PO.keeps (Kept.trans K0.out km) (Nat.le_succ_of_le (Nat.le_succ _)) (.string s) (.int .i64 j)
                have BO := Lib.hid (PO.set (.string s) (.int .i64 j))
                have BR := Lib.hid (((B1.out.kept km).far (p := ⟨w.heap.size + 1 + 1, 0, none⟩) (by simp) (.string s)).far (p := ⟨w.heap.size + 1 + 1, 1, none⟩) (by simp) (.int .i64 j))
                have PF := fnd_put BR.out
                have KP := Lib.hid (PF.keeps KO (Nat.le_succ _))
                have E0 := Lib.hid (PF.e0 (.string s))
                have E1 := Lib.hid (PF.e1 (.string s) (.int .i64 j))
                have PE := Lib.hid (fnd_put (PF.set (.string s) (.int .i64 j)))
                have OE0 := Lib.hid (PO.e0 (.string s))
                have OE1 := Lib.hid (PO.e1 (.string s) (.int .i64 j))
                have oe0 := OE0.out
                have oe1 := OE1.out
                clear PO km PF PF1 KO
                go_wp2_with (go_at_call 39; refine (CT.out _).mono ?_; rintro e w5 ⟨rfl, rfl⟩)
                rw [Exit.noGoto_ret]
                refine bodyPost_ret (v := foV (frsL D ts n d tkP)) (by rw [HFS.out]; simp [results, Try.results26, go_sem, E0.out, E1.out, PE.out.g0, PE.out.g1, foV]) rfl ⟨rfl, ?_⟩
                exact KP.out _ _
            · have hne := key_eq h1
              have HX := Lib.hid (show ∀ (q : Nat) (m' : MemberV), q < j + 1 → mts[q]? = some m' → ¬ (m'.name = n ∧ m'.desc = d) by
                intro q m' hq hm'
                by_cases e : q = j
                · subst e
                  rw [HMJ.out] at hm'
                  obtain rfl : m = m' := by simpa using hm'
                  exact h1
                · exact HNM.out q m' (by omega) hm')
              have b1 : ((n.toList == m.name.toList) && (d.toList == m.desc.toList)) = false := by
                rw [Bool.and_eq_false_iff, beq_eq_false_iff_ne, beq_eq_false_iff_ne]
                exact hne.imp (fun e => fun h => e h.symm) (fun e => fun h => e h.symm)
              have hne1 : ¬ (n.toList = m.name.toList ∧ d.toList = m.desc.toList) := by
                rintro ⟨e1, e2⟩
                rcases hne with h | h
                · exact h e1.symm
                · exact h e2.symm
              clear h1 hne
              go_wp2_with fail
              all_goals first
                | (exfalso; apply hne1; constructor <;> assumption)
                | (go_roundg gi'
                   case rel => exact ⟨j + 1, by omega, by go_num, rfl, HX.out, KMX.out⟩
                   case measure => omega)
          · have hmn : memAt (metL D s) n d = none := by
              rw [HMET.out]
              exact memAt_no fun q m' hm' => HNM.out q m' (by have := (List.getElem?_eq_some_iff.1 hm').1; have := HM.out; omega) hm'
            have HX := Lib.hid (no_next HS.out (frs_no (tk := tkP) hmn) HNO.out)
            clear hmn hrx
            go_wp2_with fail
            go_roundg gO
            case rel => exact ⟨kO + 1, by omega, by rw [hkO]; go_num, rfl, by rw [hkO]; exact HX.out, HKI.out⟩
            case measure => omega
    · have hfs : frsL D ts n d tkP = none := some_no fun j z hz => HNO.out j z (by have := (List.getElem?_eq_some_iff.1 hz).1; have := HN.out; omega) hz
      have HFS := Lib.hid (congrArg foV hfs)
      have km := HK.out
      have PO := fnd_put (B2.out.kept km)
      have p0 := PO.g0
      have p1 := PO.g1
      have rl := PO.lt
      have PF := fnd_put (B1.out.kept km)
      have g0 := PF.g0
      have g1 := PF.g1
      have h0 := PF.h0
      have h1 := PF.h1
      have zr := PF.lt
      have KP := Lib.hid (PF.keeps (Kept.trans K0.out km) (Nat.le_succ _))
      have E0 := Lib.hid (PF.e0 (.string ⟨#[]⟩))
      have E1 := Lib.hid (PF.e1 (.string ⟨#[]⟩) (.int .i64 0))
      have PE := Lib.hid (fnd_put (PF.set (.string ⟨#[]⟩) (.int .i64 0)))
      clear hfs PO km PF hK
      go_wp2_with fail
      rw [Exit.noGoto_ret]
      refine bodyPost_ret (v := foV (frsL D ts n d tkP)) (by rw [HFS.out]; simp [results, Try.results26, go_sem, E0.out, E1.out, PE.out.g0, PE.out.g1, foV]) rfl ⟨rfl, ?_⟩
      exact KP.out _ _

set_option maxHeartbeats 8000000 in
theorem ch_firstS (D : List TD) (ts : List ByteArray) (n d : ByteArray) (v vt : Value) (N : Nat) (w : World) (h : TyR w v D) (hN : N = ts.length) (hr : Rd w 1 vt N (ts.flatMap encS)) (hl : N ≤ 100) :
    Calls Try.prog 26 #[v, vt, .agg #[.string n, .string d], .func (.func 24) #[] #[]] w fun e w' => e = .returned (foV (frsL D ts n d tkS)) ∧ Kept w w' := by
  have H := Lib.hid h
  have HR := Lib.hid hr
  have HN := Lib.hid hN
  obtain ⟨-, vta, vtc, rfl, hv1, hv2, -⟩ := hr
  have k0 : Kept w (((w.alloc (.cells #[.string n, .string d] 54)).alloc (.cells #[.string ⟨#[]⟩, .int .i64 0] 24)).alloc (.cells #[.string ⟨#[]⟩, .int .i64 0] 24)) := (((Below.refl _ _).alloc (Nat.le_refl _) _).alloc (by simp) _).alloc (by simp; omega) _
  have b0 : Blk (((w.alloc (.cells #[.string n, .string d] 54)).alloc (.cells #[.string ⟨#[]⟩, .int .i64 0] 24)).alloc (.cells #[.string ⟨#[]⟩, .int .i64 0] 24)) w.heap.size 54 #[.string n, .string d] := ((Blk.new w _ _).alloc _).alloc _
  have b1 : Blk (((w.alloc (.cells #[.string n, .string d] 54)).alloc (.cells #[.string ⟨#[]⟩, .int .i64 0] 24)).alloc (.cells #[.string ⟨#[]⟩, .int .i64 0] 24)) (w.heap.size + 1) 24 #[.string ⟨#[]⟩, .int .i64 0] := (Blk.at_ (by simp)).alloc _
  have b2 : Blk (((w.alloc (.cells #[.string n, .string d] 54)).alloc (.cells #[.string ⟨#[]⟩, .int .i64 0] 24)).alloc (.cells #[.string ⟨#[]⟩, .int .i64 0] 24)) (w.heap.size + 1 + 1) 24 #[.string ⟨#[]⟩, .int .i64 0] := Blk.at_ (by simp)
  have K0 := Lib.hid k0
  have B0 := Lib.hid b0
  have B1 := Lib.hid b1
  have B2 := Lib.hid b2
  clear h hN k0 b0 b1 b2
  go_enter Try.func26, Try.ntmps26
  go_wp2_with fail
  go_step3
  go_wp2_with fail
  go_step3
  go_wp2_with fail
  generalize (((w.alloc (.cells #[.string n, .string d] 54)).alloc (.cells #[.string ⟨#[]⟩, .int .i64 0] 24)).alloc (.cells #[.string ⟨#[]⟩, .int .i64 0] 24)) = W at *
  go_loopg [11, 20] N (fun g s11 s20 wr => ∃ k : Nat, g + k = N ∧ s20 = .int .i64 k ∧ s11 = .bool false ∧ (∀ j z, j < k → ts[j]? = some z → frsF D n d tkS z = none) ∧ Kept W wr)
  case atStart => exact ⟨0, by omega, rfl, rfl, fun j z hj => (by omega), Below.refl _ _⟩
  case round =>
    obtain ⟨k, hk, rfl, rfl, hno, hK⟩ := hrel
    rename World => wr
    have HNO := Lib.hid hno
    have HK := Lib.hid hK
    clear hno
    by_cases hlt : k < N
    · obtain ⟨s, hs⟩ : ∃ m, ts[k]? = some m := ⟨_, List.getElem?_eq_getElem (by have := HN.out; omega)⟩
      obtain ⟨b, off, cc, hv, y0⟩ := str_cell HN.out (HR.out.kept (Kept.trans K0.out hK)) hs
      simp only [Value.slice.injEq] at hv
      obtain ⟨rfl, -, rfl⟩ := hv
      have HS := Lib.hid hs
      obtain ⟨gk', hgk⟩ : ∃ j, gk = j + 1 := ⟨gk - 1, by omega⟩
      subst hgk
      clear hs hK
      cases ho : atO D s with
      | none =>
        have CA := Lib.hid (ch_at_none D s v wr (H.out.kept (Kept.trans K0.out HK.out)) ho)
        have HX := Lib.hid (no_next HS.out (frs_no (tk := tkS) (n := n) (d := d) (by rw [metL_no ho]; rfl)) HNO.out)
        clear ho
        go_wp2_with fail
        refine CA.out.mono ?_
        rintro e w1 ⟨rfl, k1⟩
        have K1 := Lib.hid (Kept.trans HK.out k1)
        have Z1 := K1.out.size
        clear k1 CA
        go_wp2_with fail
        go_roundg gk'
        case rel => exact ⟨k + 1, by omega, by go_num, rfl, HX.out, K1.out.alloc Z1 _⟩
        case measure => omega
      | some ka =>
        obtain ⟨t, ht, -, hkl⟩ := atO_some ho
        have CA := Lib.hid (ch_at_some D s ka t v wr (H.out.kept (Kept.trans K0.out HK.out)) ho ht)
        have hmet := metL_at ho ht
        have HMET := Lib.hid hmet
        clear ho ht hmet
        go_wp2_with fail
        refine CA.out.mono ?_
        rintro e w1 ⟨ai, ci, af, cf, am, cm, rfl, hrd, hml, k1⟩
        obtain ⟨nm, sp, acc, ifs_, fds, mts⟩ := t
        simp only at hrd HMET hml ⊢
        obtain ⟨M, hM⟩ : ∃ M, M = mts.length := ⟨_, rfl⟩
        rw [← hM] at hrd hml ⊢
        have HM := Lib.hid hM
        clear hM
        have kx : Kept w1 (w1.alloc (.cells #[.string nm, .string sp, .int .i64 acc, .slice ai ifs_.length ci, .slice af fds.length cf, .slice am M cm] 36)) := (Below.refl _ _).alloc (Nat.le_refl _) _
        have bt := Blk.new w1 36 #[.string nm, .string sp, .int .i64 acc, .slice ai ifs_.length ci, .slice af fds.length cf, .slice am M cm]
        have t5 := bt.cell 5
        simp only [List.getElem?_toArray, List.getElem?_cons_succ, List.getElem?_cons_zero] at t5
        have tl := bt.lt
        have hrx := hrd.kept kx
        have HRX := Lib.hid hrx
        have KX := Lib.hid (Kept.trans (Kept.trans HK.out k1) kx)
        clear hrd k1 kx bt CA hrx y0
        go_upto_region 7 with fail
        generalize (w1.alloc (.cells #[.string nm, .string sp, .int .i64 acc, .slice ai ifs_.length ci, .slice af fds.length cf, .slice am M cm] 36)) = WX at *
        go_wp2_with fail
        obtain ⟨gO, hgO⟩ : ∃ g, g = gk' := ⟨_, rfl⟩
        obtain ⟨kO, hkO⟩ : ∃ g, g = k := ⟨_, rfl⟩
        go_loopg [11, 35] M (fun g s11 s35 wi => ∃ j : Nat, g + j = M ∧ s35 = .int .i64 j ∧ s11 = .bool false ∧ (∀ (q : Nat) (m' : MemberV), q < j → mts[q]? = some m' → ¬ (m'.name = n ∧ m'.desc = d)) ∧ Kept WX wi)
        case atStart => exact ⟨0, by omega, rfl, rfl, fun q m' hq => (by omega), Below.refl _ _⟩
        case round =>
          obtain ⟨j, hj, rfl, rfl, hnm, hKi⟩ := hrel
          rename World => wi
          have HNM := Lib.hid hnm
          have HKI := Lib.hid (Kept.trans KX.out hKi)
          have hrx := HRX.out.kept hKi
          have kW := HKI.out
          have bk := B0.out.kept kW
          have q0 := bk.cell 0
          have q1 := bk.cell 1
          simp only [List.getElem?_toArray, List.getElem?_cons_succ, List.getElem?_cons_zero] at q0 q1
          have zq := bk.lt
          have HKIX := Lib.hid hKi
          clear hnm kW bk hKi
          by_cases hlj : j < M
          · obtain ⟨m, hm⟩ : ∃ m, mts[j]? = some m := ⟨_, List.getElem?_eq_getElem (by have := HM.out; omega)⟩
            obtain ⟨mb, mo, mc, hv, z0, z1, z2, z3, z4⟩ := mem_row_ HM.out hrx hm
            simp only [Value.slice.injEq] at hv
            obtain ⟨rfl, -, rfl⟩ := hv
            have mbl : mb < wi.heap.size := World.block_lt_of_cell? wi _ z0
            have mbn : ¬ (mb = wi.heap.size) := by omega
            have zqn : ¬ (w.heap.size = wi.heap.size) := by omega
            obtain ⟨gi', hgi⟩ : ∃ q, gk = q + 1 := ⟨gk - 1, by omega⟩
            subst hgi
            have HMJ := Lib.hid hm
            have kma : Kept wi (wi.alloc (.cells #[.int .i64 m.access, .string m.name, .string m.desc, .bool m.has, .int .i64 m.value] 38)) := (Below.refl _ _).alloc (Nat.le_refl _) _
            have bm := Blk.new wi 38 #[.int .i64 m.access, .string m.name, .string m.desc, .bool m.has, .int .i64 m.value]
            have KMA := Lib.hid (Kept.trans HKI.out kma)
            have KMX := Lib.hid (Kept.trans HKIX.out kma)
            clear hm hrx
            go_upto_region 11 with fail
            generalize (wi.alloc (.cells #[.int .i64 m.access, .string m.name, .string m.desc, .bool m.has, .int .i64 m.value] 38)) = WM at *
            clear z0 z1 z2 z3 z4 mbl mbn zqn q0 q1 zq kma
            have bk := B0.out.kept KMA.out
            have q0 := bk.cell 0
            have q1 := bk.cell 1
            simp only [List.getElem?_toArray, List.getElem?_cons_succ, List.getElem?_cons_zero] at q0 q1
            have z0 := bm.cell 0
            have z1 := bm.cell 1
            have z2 := bm.cell 2
            simp only [List.getElem?_toArray, List.getElem?_cons_succ, List.getElem?_cons_zero] at z0 z1 z2
            have zq := bk.lt
            have ml := bm.lt
            clear bk bm
            by_cases h1 : m.name = n ∧ m.desc = d
            · obtain ⟨h1, h2⟩ := h1
              have hma : memAt (metL D s) n d = some j := by rw [HMET.out]; exact memAt_first HMJ.out h1 h2 HNM.out
              have hfr := frs_at (tk := tkS) hma (by rw [HMET.out]; exact HMJ.out)
              have HFR := Lib.hid hfr
              clear hma hfr
              rw [h1] at z1
              rw [h2] at z2
              have CT := ch_seen m.access
              clear h1 h2
              cases htk : tkS m.access with
              | false =>
                have hfn : frsF D n d tkS s = none := by rw [HFR.out, htk]; rfl
                have HX := Lib.hid (no_next HS.out hfn HNO.out)
                rw [htk] at CT
                have CT := Lib.hid CT
                clear hfn htk
                go_wp2_with (go_at_call 24; refine (CT.out _).mono ?_; rintro e w5 ⟨rfl, rfl⟩)
                go_roundg gO
                case rel => exact ⟨kO + 1, by omega, by rw [hkO]; go_num, rfl, by rw [hkO]; exact HX.out, KMA.out⟩
                case measure => omega
              | true =>
                have hfs : frsL D ts n d tkS = some (s, j) := some_at HS.out (by rw [HFR.out, htk]; rfl) HNO.out
                have HFS := Lib.hid (congrArg foV hfs)
                rw [htk] at CT
                have CT := Lib.hid CT
                clear hfs htk
                have km := KMA.out
                have PO := fnd_put (B2.out.kept km)
                have p0 := PO.g0
                have p1 := PO.g1
                have r0 := PO.h0
                have r1 := PO.h1
                have rl := PO.lt
                have PF1 := fnd_put (B1.out.kept km)
                have g0 := PF1.g0
                have g1 := PF1.g1
                have h0 := PF1.h0
                have h1 := PF1.h1
                have zr := PF1.lt
                have KO := PO.keeps (Kept.trans K0.out km) (Nat.le_succ_of_le (Nat.le_succ _)) (.string s) (.int .i64 j)
                have BO := Lib.hid (PO.set (.string s) (.int .i64 j))
                have BR := Lib.hid (((B1.out.kept km).far (p := ⟨w.heap.size + 1 + 1, 0, none⟩) (by simp) (.string s)).far (p := ⟨w.heap.size + 1 + 1, 1, none⟩) (by simp) (.int .i64 j))
                have PF := fnd_put BR.out
                have KP := Lib.hid (PF.keeps KO (Nat.le_succ _))
                have E0 := Lib.hid (PF.e0 (.string s))
                have E1 := Lib.hid (PF.e1 (.string s) (.int .i64 j))
                have PE := Lib.hid (fnd_put (PF.set (.string s) (.int .i64 j)))
                have OE0 := Lib.hid (PO.e0 (.string s))
                have OE1 := Lib.hid (PO.e1 (.string s) (.int .i64 j))
                have oe0 := OE0.out
                have oe1 := OE1.out
                clear PO km PF PF1 KO
                go_wp2_with (go_at_call 24; refine (CT.out _).mono ?_; rintro e w5 ⟨rfl, rfl⟩)
                rw [Exit.noGoto_ret]
                refine bodyPost_ret (v := foV (frsL D ts n d tkS)) (by rw [HFS.out]; simp [results, Try.results26, go_sem, E0.out, E1.out, PE.out.g0, PE.out.g1, foV]) rfl ⟨rfl, ?_⟩
                exact KP.out _ _
            · have hne := key_eq h1
              have HX := Lib.hid (show ∀ (q : Nat) (m' : MemberV), q < j + 1 → mts[q]? = some m' → ¬ (m'.name = n ∧ m'.desc = d) by
                intro q m' hq hm'
                by_cases e : q = j
                · subst e
                  rw [HMJ.out] at hm'
                  obtain rfl : m = m' := by simpa using hm'
                  exact h1
                · exact HNM.out q m' (by omega) hm')
              have b1 : ((n.toList == m.name.toList) && (d.toList == m.desc.toList)) = false := by
                rw [Bool.and_eq_false_iff, beq_eq_false_iff_ne, beq_eq_false_iff_ne]
                exact hne.imp (fun e => fun h => e h.symm) (fun e => fun h => e h.symm)
              have hne1 : ¬ (n.toList = m.name.toList ∧ d.toList = m.desc.toList) := by
                rintro ⟨e1, e2⟩
                rcases hne with h | h
                · exact h e1.symm
                · exact h e2.symm
              clear h1 hne
              go_wp2_with fail
              all_goals first
                | (exfalso; apply hne1; constructor <;> assumption)
                | (go_roundg gi'
                   case rel => exact ⟨j + 1, by omega, by go_num, rfl, HX.out, KMX.out⟩
                   case measure => omega)
          · have hmn : memAt (metL D s) n d = none := by
              rw [HMET.out]
              exact memAt_no fun q m' hm' => HNM.out q m' (by have := (List.getElem?_eq_some_iff.1 hm').1; have := HM.out; omega) hm'
            have HX := Lib.hid (no_next HS.out (frs_no (tk := tkS) hmn) HNO.out)
            clear hmn hrx
            go_wp2_with fail
            go_roundg gO
            case rel => exact ⟨kO + 1, by omega, by rw [hkO]; go_num, rfl, by rw [hkO]; exact HX.out, HKI.out⟩
            case measure => omega
    · have hfs : frsL D ts n d tkS = none := some_no fun j z hz => HNO.out j z (by have := (List.getElem?_eq_some_iff.1 hz).1; have := HN.out; omega) hz
      have HFS := Lib.hid (congrArg foV hfs)
      have km := HK.out
      have PO := fnd_put (B2.out.kept km)
      have p0 := PO.g0
      have p1 := PO.g1
      have rl := PO.lt
      have PF := fnd_put (B1.out.kept km)
      have g0 := PF.g0
      have g1 := PF.g1
      have h0 := PF.h0
      have h1 := PF.h1
      have zr := PF.lt
      have KP := Lib.hid (PF.keeps (Kept.trans K0.out km) (Nat.le_succ _))
      have E0 := Lib.hid (PF.e0 (.string ⟨#[]⟩))
      have E1 := Lib.hid (PF.e1 (.string ⟨#[]⟩) (.int .i64 0))
      have PE := Lib.hid (fnd_put (PF.set (.string ⟨#[]⟩) (.int .i64 0)))
      clear hfs PO km PF hK
      go_wp2_with fail
      rw [Exit.noGoto_ret]
      refine bodyPost_ret (v := foV (frsL D ts n d tkS)) (by rw [HFS.out]; simp [results, Try.results26, go_sem, E0.out, E1.out, PE.out.g0, PE.out.g1, foV]) rfl ⟨rfl, ?_⟩
      exact KP.out _ _
end Go.Proofs.Yteblpdcedlaedaa
