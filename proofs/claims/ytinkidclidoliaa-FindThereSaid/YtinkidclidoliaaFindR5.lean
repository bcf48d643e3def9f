/-
  The document's search by contract: over (fields), gone over.
-/
import Derived.Test.YtinkidclidoliaaFindR3
import Derived.Test.YtinkidclidoliaaFindR4
namespace Go.Proofs.Ytinkidclidoliaa
open Go.RowKit
set_option maxRecDepth 100000

theorem nmsL_of {D : List TD} {n d : ByteArray} {f : Nat} {x : ByteArray} {s : List ByteArray} {m : Nat} (hn : Nms D s) (hm : m ≤ s.length) : Nms D (ovF D n d f x s).2 ∧ m ≤ (ovF D n d f x s).2.length := by
  have h := ovF_nms (n := n) (d := d) (f := f) (s := x) (NmsL.mk hn hm)
  exact ⟨h.nms, h.le⟩

def OvIs (cl : ByteArray) (ix : Int) (b : Bool) (l : List ByteArray) (w : World) (e : Ending) (w' : World) : Prop := ∃ vs', e = .returned (.tuple #[.agg #[.string cl, .int .i64 ix], .bool b, vs']) ∧ Row w' 0 9 1 vs' l.length (l.flatMap encS) ∧ Kept w w'
theorem ov_none {w w' : World} {r : Option FV × List ByteArray} {e : Ending} (h : r.1 = none) (hp : OvPost w r e w') : OvIs ⟨#[]⟩ 0 false r.2 w e w' := by
  obtain ⟨vs, he, hr, hk⟩ := hp
  rw [h] at he
  exact ⟨vs, he, hr, hk⟩
theorem ov_some {w w' : World} {r : Option FV × List ByteArray} {e : Ending} {f : FV} (h : r.1 = some f) (hp : OvPost w r e w') : OvIs f.1 f.2 true r.2 w e w' := by
  obtain ⟨vs, he, hr, hk⟩ := hp
  rw [h] at he
  exact ⟨vs, he, hr, hk⟩

theorem ov_any {w w' : World} {r : Option FV × List ByteArray} {e : Ending} (hp : OvPost w r e w') : OvIs (r.1.getD f0).1 (r.1.getD f0).2 r.1.isSome r.2 w e w' := hp
theorem ov_back {w w' : World} {r : Option FV × List ByteArray} {p : ByteArray} {q : Int} {b : Bool} {vs : Value} (hp : p = (r.1.getD f0).1) (hq : q = ((r.1.getD f0).2 : Nat)) (hb : b = r.1.isSome) (hr : Row w' 0 9 1 vs r.2.length (r.2.flatMap encS)) (hk : Kept w w') : OvPost w r (.returned (.tuple #[.agg #[.string p, .int .i64 q], .bool b, vs])) w' := by
  subst hp hq hb
  exact ⟨vs, rfl, hr, hk⟩

set_option maxHeartbeats 8000000 in
theorem ref12_over (D : List TD) (c0 n d : ByteArray) (v : Value) : ∀ (f : Nat) (name : ByteArray) (seen : List ByteArray) (vs : Value) (w : World), TyR w v D → name.size ≤ maxLen → Row w 0 9 1 vs seen.length (seen.flatMap encS) → Nms D seen → D.length + 1 ≤ f + seen.length →
    Calls Try.prog 54 #[v, .string name, .agg #[.string c0, .string n, .string d], vs] w (OvPost w (ovF D n d f name seen)) := by
  intro f
  induction f with
  | zero => intro name seen vs w h hs hr hn hf; exact absurd hn.le (by omega)
  | succ f ih =>
    intro name seen vs w h hs hr hn hf
    have hsl := hn.le
    have hDl := h.len
    by_cases hsk : ¬ there D name ∨ name ∈ seen
    · exact over12_skip D (f + 1) c0 n d name seen v vs w h hr (by omega) hsk
    · have hth : there D name := Decidable.of_not_not fun a => hsk (.inl a)
      have hin : name ∉ seen := fun a => hsk (.inr a)
      have IH := Lib.hid ih
      have H := Lib.hid h
      have HS := Lib.hid hs
      have HTH := Lib.hid hth
      have HIN := Lib.hid hin
      obtain ⟨av, cv, rfl, hcv1, hcv2⟩ := h.slice
      obtain ⟨ka, hka⟩ := Option.isSome_iff_exists.1 hth
      obtain ⟨t, ht, -, hkl⟩ := atO_some hka
      have hn' := hn.snoc hth hin
      have k0 : Kept w ((w.alloc (.cells #[.string c0, .string n, .string d] 24)).alloc (.cells #[.string ⟨#[]⟩, .int .i64 0] 30)) := ((Below.refl _ _).alloc (Nat.le_refl _) _).alloc (by simp) _
      have b0 : Blk ((w.alloc (.cells #[.string c0, .string n, .string d] 24)).alloc (.cells #[.string ⟨#[]⟩, .int .i64 0] 30)) w.heap.size 24 #[.string c0, .string n, .string d] := (Blk.new w _ _).alloc _
      have b1 : Blk ((w.alloc (.cells #[.string c0, .string n, .string d] 24)).alloc (.cells #[.string ⟨#[]⟩, .int .i64 0] 30)) (w.heap.size + 1) 30 #[.string ⟨#[]⟩, .int .i64 0] := Blk.at_ (by simp)
      have CA := ref9_At D name (.slice av D.length cv) _ (h.kept k0)
      rw [atI_some hka] at CA
      have CH := ref9_Has seen name _ seen.length _ rfl (hr.kept k0).rd (by omega)
      rw [decide_eq_false hin] at CH
      have HRS := Lib.hid (hr.kept k0).rd
      obtain ⟨as_, cs_, rfl, hcs1, hcs2⟩ := hr.form
      have K0 := Lib.hid k0
      have B0 := Lib.hid b0
      have B1 := Lib.hid b1
      have HT := Lib.hid ht
      have HN' := Lib.hid hn'
      have hki : (ka : Int) < (D.length : Int) := by omega
      have hk0 : (0 : Int) ≤ (ka : Int) := by omega
      have hfld := fldL_at hka ht
      have hifs := ifs_at hka ht
      have hspo := supO_at hka ht
      obtain ⟨_, _, _, _, _, _, -, -, -, -, -, -, -, -, -, -, -, -, -, -, hsup, hisz, -⟩ := h.cells ht
      have HSUP := Lib.hid hsup
      have HISZ := Lib.hid hisz
      have HFLD := Lib.hid hfld
      have HIFS := Lib.hid hifs
      have HSPO := Lib.hid hspo
      clear hsup hisz h hs hr hn hn' hsk hth hin ih k0 b0 b1 hka ht hfld hifs hspo
      go_enter Try.func54, Try.ntmps54
      go_wp2_with fail
      generalize ((w.alloc (.cells #[.string c0, .string n, .string d] 24)).alloc (.cells #[.string ⟨#[]⟩, .int .i64 0] 30)) = W at *
      refine CA.mono ?_
      rintro e w1 ⟨rfl, rfl⟩
      clear CA
      go_wp2_with fail
      refine CH.mono ?_
      rintro e w1 ⟨rfl, rfl⟩
      clear CH
      go_wp2_with (first
        | (at_builtin; refine wpl_append _ elem_str rfl (.const (.slice none 0 0)) (.tmp 31) rfl W.heap.size _ 0 [] rfl (World.ownsRow_nil _ _ _ _) _ seen.length _ rfl HRS.out (strs_one _) (by omega) (by omega) (Nat.le_refl _) ?_; intro v4 w4 ho4 hg4; rw [Nat.zero_add, List.nil_append] at ho4; have k4 : Kept W w4 := (Below.refl _ _).grown hg4 (Nat.le_refl _) (fun k hk => by cases hk); have HO4 := Lib.hid ho4; have K4 := Lib.hid k4; have z4 := k4.size; clear ho4 hg4 k4)
        | (at_builtin; refine wpl_pushH _ elem_str rfl (.tmp 32) (.tmp 34) rfl W.heap.size v4 seen.length _ rfl HO4.out [.string name] _ w4.heap.size rfl rfl rfl (one_S name) (by omega) (by omega) z4 ?_; intro v5 w5 ho5 hg5 hk5 hb5; have HO5 := Lib.hid ho5; have K5 := Lib.hid (Below.trans K4.out hb5); clear ho5 hg5 hk5 hb5))
      have k5 := K5.out
      have bb := B0.out.kept k5
      have q0 := bb.cell 0
      have q1 := bb.cell 1
      have q2 := bb.cell 2
      simp only [List.getElem?_toArray, List.getElem?_cons_succ, List.getElem?_cons_zero] at q0 q1 q2
      obtain ⟨tb, tof, tc, ia, ic, fa, fc, ma, mc, hv, -, x1, -, x3, x4, -, hir, hil, hfr, hfl, -, -⟩ := ty_row (H.out.kept (Kept.trans K0.out k5)) HT.out
      simp only [Value.slice.injEq] at hv
      obtain ⟨rfl, -, rfl⟩ := hv
      have CI := Lib.hid (ref12_In_k t.fields n d _ w5.drew (hfr.kept (Below.refl _ _).drew) hfl)
      have HIR := Lib.hid hir
      have X1 := Lib.hid x1
      have X3 := Lib.hid x3
      have k5s := k5.size
      clear bb k5 hir hfr x1 x3
      obtain ⟨a5, c5, rfl, hc51, hc52⟩ := own_slice HO5.out
      go_region_held2 (fun w' => w'.cell? ⟨tb, tof + ka * 6 + 4, none⟩ = some (.slice fa t.fields.length fc) ∧ w'.cell? ⟨w.heap.size, 1, none⟩ = some (.string n) ∧ w'.cell? ⟨w.heap.size, 2, none⟩ = some (.string d)) (go_keep)
        ((go_at_call 28; refine CI.out.mono ?_; rintro e w6 ⟨rfl, k6⟩; have x46 := Kept.cell k6 x4; have q16 := Kept.cell k6 q1; have q26 := Kept.cell k6 q2; have K6 := Lib.hid (Kept.trans (Below.refl w5.heap.size w5).drew k6); clear k6))
      clear x4 x46 q0 q1 q2 q16 q26
      have k06 := Kept.trans K5.out K6.out
      have K06 := Lib.hid k06
      have SE6 : Hid (Row w6 0 9 1 (.slice a5 (seen.length + 1) c5) (seen.length + 1) ((seen ++ [name]).flatMap encS)) := Lib.hid (by simpa [encS] using ((Row.of_own HO5.out).base (Nat.zero_le _)).kept K6.out)
      clear k06
      cases hm : memAt t.fields n d with
      | some i =>
        rw [memI_some hm]
        have hr : ovF D n d (f + 1) name seen = (some (name, i), seen ++ [name]) := ovF_hit HTH.out HIN.out (by rw [HFLD.out]; exact hm)
        have HR := Lib.hid hr
        have kw := K06.out
        have PF := fnd_put (B1.out.kept kw)
        have KP := Lib.hid (PF.keeps (Kept.trans K0.out kw) (Nat.le_succ _))
        have g0 := PF.g0
        have g1 := PF.g1
        have h0 := PF.h0
        have h1 := PF.h1
        have zr := PF.lt
        have E0 := Lib.hid (PF.e0 (.string name))
        have E1 := Lib.hid (PF.e1 (.string name) (.int .i64 i))
        have PE := Lib.hid (fnd_put (PF.set (.string name) (.int .i64 i)))
        have SQ := Lib.hid (row_put SE6.out (B1.out.kept kw) (.string name) (.int .i64 i))
        clear PF hr hm kw
        go_wp2_with fail
        refine bodyPost_ret (v := ovV (some (name, i)) (.slice a5 (seen.length + 1) c5)) (by simp [results, Try.results54, go_sem, E0.out, E1.out, PE.out.g0, PE.out.g1, ovV, f0]) rfl ?_
        rw [HR.out]
        exact ⟨_, rfl, by simpa using SQ.out, KP.out _ _⟩
      | none =>
        rw [memI_none hm]
        have hr : ovF D n d (f + 1) name seen = eachF (ovF D n d f) (t.interfaces ++ [t.super]) (seen ++ [name]) := by rw [← HIFS.out, ← HSPO.out]; exact ovF_on HTH.out HIN.out (by rw [HFLD.out]; exact hm)
        have HR := Lib.hid hr
        obtain ⟨R, hR⟩ : ∃ R, R = ovF D n d (f + 1) name seen := ⟨_, rfl⟩
        have HRE := Lib.hid hR
        rw [← hR] at HR
        obtain ⟨ln, hln⟩ : ∃ ln, ln = t.interfaces.length := ⟨_, rfl⟩
        have HLN := Lib.hid hln
        clear hm hr hR
        go_wp2_with fail
        go_loopw [3, 14] (fun s3 s14 wr => ∃ (i : Nat) (s : List ByteArray), i ≤ ln ∧ s14 = .int .i64 i ∧ Nms D s ∧ seen.length + 1 ≤ s.length ∧ Row wr 0 9 1 s3 s.length (s.flatMap encS) ∧ eachF (ovF D n d f) (t.interfaces.drop i ++ [t.super]) s = R ∧ Kept w6 wr) (fun _ s14 _ => ln - (intOf s14).toNat)
        case atStart => exact ⟨0, seen ++ [name], by omega, rfl, HN'.out, by simp, by simpa using SE6.out, HR.out.symm, Below.refl _ _⟩
        case round =>
          obtain ⟨i, s, hi, rfl, hns, hsm, hro, hea, hK⟩ := hrel
          rename World => wr
          obtain ⟨as', cs', rfl, -, -⟩ := hro.form
          have hsD := hns.le
          have HNS := Lib.hid hns
          have HRO := Lib.hid hro
          have HEA := Lib.hid hea
          have HK6 := Lib.hid hK
          have kw := Kept.trans K06.out hK
          have HK := Lib.hid kw
          have bb := B0.out.kept kw
          have q0 := bb.cell 0
          have q1 := bb.cell 1
          have q2 := bb.cell 2
          simp only [List.getElem?_toArray, List.getElem?_cons_succ, List.getElem?_cons_zero] at q0 q1 q2
          have zs := kw.size
          have zl0 : w.heap.size < wr.heap.size := bb.lt
          have x3 := Kept.cell (Kept.trans K6.out hK) X3.out
          have hir := HIR.out.kept (Kept.trans K6.out hK)
          rw [← HLN.out] at x3 hir
          by_cases hlt : i < ln
          · obtain ⟨x, hx⟩ : ∃ x, t.interfaces[i]? = some x := ⟨_, List.getElem?_eq_getElem (by have := HLN.out; omega)⟩
            obtain ⟨yb, yo, yc, hv, y0⟩ := str_cell HLN.out hir hx
            simp only [Value.slice.injEq] at hv
            obtain ⟨rfl, -, rfl⟩ := hv
            have hii : (i : Int) < (ln : Int) := by omega
            have hi0 : (0 : Int) ≤ (i : Int) := by omega
            have yb1 : yb < wr.heap.size := World.block_lt_of_cell? wr _ y0
            have n0 := World.new_ne wr _ x3
            have n1 := World.new_ne wr _ y0
            have n2 := World.new_ne wr _ q0
            have n3 := World.new_ne wr _ q1
            have n4 := World.new_ne wr _ q2
            have HXZ : Hid (x.size ≤ maxLen) := Lib.hid (HISZ.out x (List.mem_of_getElem? hx))
            have HX := Lib.hid hx
            have hfu : D.length + 1 ≤ f + s.length := by omega
            have ix : ∀ w', TyR w' (.slice (some ⟨tb, tof, none⟩) D.length cv) D → Row w' 0 9 1 (.slice as' s.length cs') s.length (s.flatMap encS) → Calls Try.prog 54 #[.slice (some ⟨tb, tof, none⟩) D.length cv, .string x, .agg #[.string c0, .string n, .string d], .slice as' s.length cs'] w' (OvPost w' (ovF D n d f x s)) := fun w' h1 h2 => IH.out x s _ w' h1 HXZ.out h2 HNS.out hfu
            have hnl := nmsL_of (n := n) (d := d) (f := f) (x := x) HNS.out hsm
            obtain ⟨r, hr⟩ : ∃ r, r = ovF D n d f x s := ⟨_, rfl⟩
            rw [← hr] at ix hnl
            have HRR := Lib.hid hr
            have HNL := Lib.hid hnl
            cases hr1 : r.1 with
            | none =>
              have IX := Lib.hid fun w' h1 h2 => (ix w' h1 h2).mono fun e w'' hp => ov_none hr1 hp
              have HGO := Lib.hid (show eachF (ovF D n d f) (t.interfaces.drop (i + 1) ++ [t.super]) r.2 = R by rw [← HEA.out, each_go hx (by rw [← hr]; exact hr1), hr])
              obtain ⟨l, hl⟩ : ∃ l, l = r.2 := ⟨_, rfl⟩
              rw [← hl] at IX HGO HNL
              clear hns hro hea hK bb hir hx kw ix hr1 hr hnl HRR hl
              go_wp2_with fail
              go_region_held2 (fun w' => w'.cell? ⟨tb, tof + ka * 6 + 3, none⟩ = some (.slice (some ⟨yb, yo, none⟩) ln ic) ∧ w'.cell? ⟨yb, yo + i, none⟩ = some (.string x) ∧ w'.cell? ⟨w.heap.size, 0, none⟩ = some (.string c0) ∧ w'.cell? ⟨w.heap.size, 1, none⟩ = some (.string n) ∧ w'.cell? ⟨w.heap.size, 2, none⟩ = some (.string d)) (go_keep)
                ((go_at_call 54; refine (IX.out _ (H.out.kept (Kept.trans K0.out (Kept.trans HK.out (by first | exact (Below.refl _ _).drew | exact ((Below.refl _ _).alloc (Nat.le_refl _) _).drew)))) (HRO.out.kept (by first | exact (Below.refl _ _).drew | exact ((Below.refl _ _).alloc (Nat.le_refl _) _).drew))).mono ?_; rintro e w7 ⟨vs7, rfl, r7, k7⟩; have K7 : Hid (Kept wr w7) := Lib.hid (Kept.trans (by first | exact (Below.refl _ _).drew | exact ((Below.refl _ _).alloc (Nat.le_refl _) _).drew) k7); have x37 := Kept.cell K7.out x3; have y07 := Kept.cell K7.out y0; have q07 := Kept.cell K7.out q0; have q17 := Kept.cell K7.out q1; have q27 := Kept.cell K7.out q2; have R7 := Lib.hid r7; have Z7 := K7.out.size; try (have b7 : Blk (wr.alloc (.cells #[.string ⟨#[]⟩, .int .i64 0] 30)).drew wr.heap.size 30 #[.string ⟨#[]⟩, .int .i64 0] := Blk.new wr _ _; have P7 := fnd_put (b7.kept k7); have g07 := P7.g0; have g17 := P7.g1; have h07 := P7.h0; have h17 := P7.h1; have l7 := P7.lt; have P7 := Lib.hid P7; clear b7); clear k7 r7))
              all_goals
                clear x3 y0 q0 q1 q2 x37 y07 q07 q17 q27 n0 n1 n2 n3 n4
                go_wp2_with fail
                go_roundw
                case rel => exact ⟨i + 1, l, by omega, by go_num, HNL.out.1, HNL.out.2, (by first | exact R7.out.kept ((Below.refl _ w7).alloc (Nat.le_refl _) _) | exact row_put R7.out P7.out.blk _ _), HGO.out, (by first | exact Kept.trans HK6.out (K7.out.alloc Z7 _) | exact Kept.trans HK6.out (P7.out.keeps K7.out (Nat.le_refl _) _ _))⟩
                case measure => simp [intOf]; omega
            | some fv =>
              have IX := Lib.hid fun w' h1 h2 => (ix w' h1 h2).mono fun e w'' hp => ov_some hr1 hp
              have hRr : R = r := by rw [← HEA.out, each_hit (v := fv) hx (by rw [← hr]; exact hr1), hr]
              have HRr := Lib.hid hRr
              have HR1 := Lib.hid hr1
              obtain ⟨l, hl⟩ : ∃ l, l = r.2 := ⟨_, rfl⟩
              rw [← hl] at IX HNL
              have HL := Lib.hid hl
              clear hns hro hea hK bb hir hx kw ix hr1 hr hnl HRR hl hRr
              go_wp2_with fail
              go_region_held2 (fun w' => w'.cell? ⟨tb, tof + ka * 6 + 3, none⟩ = some (.slice (some ⟨yb, yo, none⟩) ln ic) ∧ w'.cell? ⟨yb, yo + i, none⟩ = some (.string x) ∧ w'.cell? ⟨w.heap.size, 0, none⟩ = some (.string c0) ∧ w'.cell? ⟨w.heap.size, 1, none⟩ = some (.string n) ∧ w'.cell? ⟨w.heap.size, 2, none⟩ = some (.string d)) (go_keep)
                ((go_at_call 54; refine (IX.out _ (H.out.kept (Kept.trans K0.out (Kept.trans HK.out (by first | exact (Below.refl _ _).drew | exact ((Below.refl _ _).alloc (Nat.le_refl _) _).drew)))) (HRO.out.kept (by first | exact (Below.refl _ _).drew | exact ((Below.refl _ _).alloc (Nat.le_refl _) _).drew))).mono ?_; rintro e w7 ⟨vs7, rfl, r7, k7⟩; have K7 : Hid (Kept wr w7) := Lib.hid (Kept.trans (by first | exact (Below.refl _ _).drew | exact ((Below.refl _ _).alloc (Nat.le_refl _) _).drew) k7); have x37 := Kept.cell K7.out x3; have y07 := Kept.cell K7.out y0; have q07 := Kept.cell K7.out q0; have q17 := Kept.cell K7.out q1; have q27 := Kept.cell K7.out q2; have R7 := Lib.hid r7; have Z7 := K7.out.size; try (have b7 : Blk (wr.alloc (.cells #[.string ⟨#[]⟩, .int .i64 0] 30)).drew wr.heap.size 30 #[.string ⟨#[]⟩, .int .i64 0] := Blk.new wr _ _; have P7 := fnd_put (b7.kept k7); have g07 := P7.g0; have g17 := P7.g1; have h07 := P7.h0; have h17 := P7.h1; have l7 := P7.lt; have P7 := Lib.hid P7; clear b7); clear k7 r7))
              all_goals
                clear x3 y0 q0 q1 q2 x37 y07 q07 q17 q27 n0 n1 n2 n3 n4
                first
                  | (obtain ⟨W8, b, hW, hb, b8, k8, r8, zb⟩ : ∃ W8 b, W8 = (w7.setCell ⟨wr.heap.size, 0, none⟩ (.string fv.1)).setCell ⟨wr.heap.size, 1, none⟩ (.int .i64 fv.2) ∧ b = wr.heap.size ∧ Blk W8 b 30 #[.string fv.1, .int .i64 fv.2] ∧ Kept wr W8 ∧ Row W8 0 9 1 vs7 l.length (l.flatMap encS) ∧ wr.heap.size ≤ b := ⟨_, _, rfl, rfl, P7.out.set _ _, P7.out.keeps K7.out (Nat.le_refl _) _ _, row_put R7.out P7.out.blk _ _, Nat.le_refl _⟩; rw [← hW, ← hb]; clear hW hb g07 g17 h07 h17 l7)
                  | (obtain ⟨W8, b, hW, hb, b8, k8, r8, zb⟩ : ∃ W8 b, W8 = w7.alloc (.cells #[.string fv.1, .int .i64 fv.2] 30) ∧ b = w7.heap.size ∧ Blk W8 b 30 #[.string fv.1, .int .i64 fv.2] ∧ Kept wr W8 ∧ Row W8 0 9 1 vs7 l.length (l.flatMap encS) ∧ wr.heap.size ≤ b := ⟨_, _, rfl, rfl, Blk.new _ _ _, K7.out.alloc Z7 _, R7.out.kept ((Below.refl _ w7).alloc (Nat.le_refl _) _), Z7⟩; rw [← hW, ← hb]; clear hW hb)
                have kw8 := Kept.trans HK.out k8
                have PF := fnd_put (B1.out.kept kw8)
                have KP := Lib.hid (PF.keeps (Kept.trans K0.out kw8) (Nat.le_succ _))
                have g0 := PF.g0
                have g1 := PF.g1
                have h0 := PF.h0
                have h1 := PF.h1
                have zr := PF.lt
                have c0 := b8.cell 0
                have c1 := b8.cell 1
                simp only [List.getElem?_toArray, List.getElem?_cons_succ, List.getElem?_cons_zero] at c0 c1
                have E0 := Lib.hid (PF.e0 (.string fv.1))
                have E1 := Lib.hid (PF.e1 (.string fv.1) (.int .i64 fv.2))
                have PE := Lib.hid (fnd_put (PF.set (.string fv.1) (.int .i64 fv.2)))
                have SQ := Lib.hid (row_put r8 (B1.out.kept kw8) (.string fv.1) (.int .i64 fv.2))
                have z2 : w.heap.size + 1 < wr.heap.size := (B1.out.kept HK.out).lt
                have nb1 : ¬ (b = w.heap.size + 1) := by omega
                have nb2 : ¬ (w.heap.size + 1 = b) := by omega
                clear PF kw8 k8 b8 r8
                go_wp2_with fail

                refine bodyPost_ret (v := .tuple #[.agg #[.string fv.1, .int .i64 fv.2], .bool true, vs7]) (by simp [results, Try.results54, go_sem, E0.out, E1.out, PE.out.g0, PE.out.g1]) rfl ?_
                rw [← HRE.out, HRr.out]
                exact ov_back (by rw [HR1.out]; rfl) (by rw [HR1.out]; rfl) (by rw [HR1.out]; rfl) (by rw [← HL.out]; exact SQ.out) (KP.out _ _)
          · have hil : i = ln := by omega
            have hRr : R = ovF D n d f t.super s := by
              rw [← HEA.out, hil, HLN.out, List.drop_length, List.nil_append, each_end]
            have HRr := Lib.hid hRr
            have hfu : D.length + 1 ≤ f + s.length := by omega
            have ix : ∀ w', TyR w' (.slice (some ⟨tb, tof, none⟩) D.length cv) D → Row w' 0 9 1 (.slice as' s.length cs') s.length (s.flatMap encS) → Calls Try.prog 54 #[.slice (some ⟨tb, tof, none⟩) D.length cv, .string t.super, .agg #[.string c0, .string n, .string d], .slice as' s.length cs'] w' (OvPost w' (ovF D n d f t.super s)) := fun w' h1 h2 => IH.out t.super s _ w' h1 HSUP.out h2 HNS.out hfu
            obtain ⟨r, hr⟩ : ∃ r, r = ovF D n d f t.super s := ⟨_, rfl⟩
            rw [← hr] at ix HRr
            have IX := Lib.hid fun w' h1 h2 => (ix w' h1 h2).mono fun e w'' hp => ov_any hp
            obtain ⟨p, hp⟩ : ∃ p, p = (r.1.getD f0).1 := ⟨_, rfl⟩
            obtain ⟨q, hq⟩ : ∃ q : Int, q = ((r.1.getD f0).2 : Nat) := ⟨_, rfl⟩
            obtain ⟨b, hb⟩ : ∃ b, b = r.1.isSome := ⟨_, rfl⟩
            obtain ⟨l, hl⟩ : ∃ l, l = r.2 := ⟨_, rfl⟩
            rw [← hl, ← hb, ← hp, ← hq] at IX
            have HP := Lib.hid hp
            have HQ := Lib.hid hq
            have HB := Lib.hid hb
            have HL := Lib.hid hl
            have x1 := Kept.cell (Kept.trans K6.out hK) X1.out
            obtain ⟨tb', tof', tc', _, _, _, hv', x0', -⟩ := H.out.cells HT.out
            simp only [Value.slice.injEq, Option.some.injEq, Addr.mk.injEq] at hv'
            obtain ⟨⟨rfl, rfl, -⟩, -, rfl⟩ := hv'
            have xlt := World.block_lt_of_cell? w _ x0'
            have nt1 : ¬ (tb = w.heap.size + 1) := by simp only at xlt; omega
            have nt2 : ¬ (w.heap.size + 1 = tb) := by omega
            clear x0' xlt
            clear hns hro hea hK bb hir kw ix hr hl hRr hp hq hb
            go_wp2_with fail
            go_region_held2 (fun w' => w'.cell? ⟨tb, tof + ka * 6 + 1, none⟩ = some (.string t.super) ∧ w'.cell? ⟨w.heap.size, 0, none⟩ = some (.string c0) ∧ w'.cell? ⟨w.heap.size, 1, none⟩ = some (.string n) ∧ w'.cell? ⟨w.heap.size, 2, none⟩ = some (.string d)) (go_keep)
              ((go_at_call 54; refine (IX.out _ (H.out.kept (Kept.trans K0.out (Kept.trans HK.out (Below.refl _ _).drew))) (HRO.out.kept (Below.refl _ _).drew)).mono ?_; rintro e w7 ⟨vs7, rfl, r7, k7⟩; have K7 : Hid (Kept wr w7) := Lib.hid (Kept.trans (Below.refl _ _).drew k7); have x17 := Kept.cell K7.out x1; have q07 := Kept.cell K7.out q0; have q17 := Kept.cell K7.out q1; have q27 := Kept.cell K7.out q2; have R7 := Lib.hid r7; have P7 := fnd_put (B1.out.kept (Kept.trans HK.out K7.out)); have g07 := P7.g0; have g17 := P7.g1; have h07 := P7.h0; have h17 := P7.h1; have l7 := P7.lt; have P7 := Lib.hid P7; clear k7 r7))
            have KP := Lib.hid (P7.out.keeps (Kept.trans K0.out (Kept.trans HK.out K7.out)) (Nat.le_succ _))
            have E0 := Lib.hid (P7.out.e0 (.string p))
            have E1 := Lib.hid (P7.out.e1 (.string p) (.int .i64 q))
            have PE := Lib.hid (fnd_put (P7.out.set (.string p) (.int .i64 q)))
            have SQ := Lib.hid (row_put R7.out P7.out.blk (.string p) (.int .i64 q))
            clear x1 x3 q0 q1 q2 x17 q07 q17 q27
            go_wp2_with fail
            refine bodyPost_ret (v := .tuple #[.agg #[.string p, .int .i64 q], .bool b, vs7]) (by simp [results, Try.results54, go_sem, E0.out, E1.out, PE.out.g0, PE.out.g1]) rfl ?_
            rw [← HRE.out, HRr.out]
            exact ov_back HP.out HQ.out HB.out (by rw [← HL.out]; exact SQ.out) (KP.out _ _)
end Go.Proofs.Ytinkidclidoliaa
