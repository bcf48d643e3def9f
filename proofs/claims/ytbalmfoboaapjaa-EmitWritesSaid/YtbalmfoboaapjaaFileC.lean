/-
  Package file by contract: method.
-/
import Derived.Test.YtbalmfoboaapjaaFileB
namespace Go.Proofs.Ytbalmfoboaapjaa
set_option linter.unusedVariables false
set_option linter.unusedSimpArgs false
open Go.RowKit
set_option maxRecDepth 100000

theorem MR.mono {base base' : Nat} {m : MethC} {vc vt : Value} {w : World} (h : MR base m vc vt w) (hb : base' ≤ base) : MR base' m vc vt w :=
  ⟨⟨h.code.1, h.code.2.imp id fun ⟨g, cap, cur, e1, e2, e3⟩ => ⟨g, cap, cur, e1, Nat.le_trans hb e2, e3⟩⟩, ⟨h.traps.1, h.traps.2.imp id fun ⟨g, cap, cur, e1, e2, e3⟩ => ⟨g, cap, cur, e1, Nat.le_trans hb e2, e3⟩⟩, h.ne⟩
/-- What the closure of a method holds: the box of the reader, the method. -/
structure MethJ (g rb z : Nat) (sb : Bool) (m : MethC) (w : World) : Prop where
  box : Blk w rb 73 #[.pointer (some ⟨g, 0, none⟩)]
  mb : ∃ vc vt, MB z (z + 1) m vc vt w
  none : sb = false → m.traps = []
theorem MethJ.touch {g rb z : Nat} {sb : Bool} {m : MethC} {w w' : World} (h : MethJ g rb z sb m w) (h1 : ¬ (rb = g)) (h2 : g < z) (ht : Touch (fun b => b = g) w w') : MethJ g rb z sb m w' := by
  obtain ⟨vc, vt, hm⟩ := h.mb
  exact ⟨h.box.touch ht h1, ⟨vc, vt, hm.touch ht h2⟩, h.none⟩
theorem file_enter_method1 : ∀ args w, Sem.run Try.prog (callFunc 48 args) w = .ok (.enter 48 args) w := by
  intro args w
  exact call_enter Try.func48 (by kernel_rfl) rfl args w
set_option maxHeartbeats 1000000 in
theorem file_method1 (g B : Nat) (L : List UInt8) (vb : Value) (pool : List ConstC) (vp : Value) (rb z : Nat) (hB : B ≤ z) (h1 : ¬ (rb = g)) (h2 : rb < z) (m : MethC) (p : Nat) (long : Int) (s : PS) (w : World) (h : RS w g B L vb pool vp s) (hj : MethJ g rb z false m w) (hp : p ≤ 65536) (hl0 : 0 ≤ long) (hl1 : long ≤ 4294967295) :
    Calls Try.prog 48 #[.int .i64 p, .int .i64 long, .pointer (some ⟨rb, 0, none⟩), .pointer (some ⟨z, 0, none⟩)] w (Ans (codeP L pool m p long s) (MS g z) w (TellG g B L vb pool vp (MS g z) (MethJ g rb z true) w)) := by
  have c0 := hj.box.cell 0
  simp only [List.getElem?_toArray, List.getElem?_cons_zero] at c0
  have HJ := Lib.hid hj.box
  have C := file_code g B L vb pool vp z (z + 1) hB m p long s w h hj.mb (hj.none rfl) hp hl0 hl1
  clear h hj
  obtain ⟨R, hR⟩ : ∃ R, R = codeP L pool m p long s := ⟨_, rfl⟩
  rw [← hR] at C ⊢
  clear hR
  cases R with
  | bad q k =>
    rw [Ans.bad_] at C ⊢
    go_enter Try.func48, Try.ntmps48
    go_wp2_with fail
    refine C.mono ?_
    rintro e w1 ⟨rfl, ht⟩
    exact ⟨rfl, rfl, ht⟩
  | ok m' s' =>
    rw [Ans.ok_] at C ⊢
    go_enter Try.func48, Try.ntmps48
    go_wp2_with fail
    refine C.mono ?_
    rintro e w1 ⟨rfl, hrs, ht, hm⟩
    have HQ := Lib.hid (And.intro hrs (And.intro ht (show MethJ g rb z true m' w1 from ⟨HJ.out.touch ht (fun hk => by rcases hk with hk | hk <;> omega), hm, fun e => by cases e⟩)))
    clear C hrs ht hm
    go_wp2_with fail
    refine bodyPost_end (results_none rfl _ _ _) rfl ?_
    exact ⟨rfl, HQ.out⟩

def MethG (g B : Nat) (L : List UInt8) (vb : Value) (pool : List ConstC) (vp : Value) (w : World) (m : MethC) (s' : PS) (e : Ending) (w' : World) : Prop :=
  ∃ vc vt, e = .returned (.agg (methV m vc vt).toArray) ∧ MR w.heap.size m vc vt w' ∧ RS w' g B L vb pool vp s' ∧ Touch (fun b => b = g) w w'
def methK (L : List UInt8) (pool : List ConstC) (l : List Int) (s3 : PS) : Out MethC :=
  attrsP L pool codeS (codeP L pool) ⟨l.getD 0 0, l.getD 1 0, l.getD 2 0, false, 0, 0, [], []⟩ s3

set_option maxHeartbeats 4000000 in
theorem file_method (g B : Nat) (L : List UInt8) (vb : Value) (pool : List ConstC) (vp : Value) (s : PS) (w : World) (h : RS w g B L vb pool vp s) :
    Calls Try.prog 43 #[.pointer (some ⟨g, 0, none⟩)] w (Ans (methP L pool s) (fun b => b = g) w (MethG g B L vb pool vp w)) := by
  obtain ⟨R, hR⟩ : ∃ R, R = methP L pool s := ⟨_, rfl⟩
  rw [← hR]
  have h0 : FB R (methK L pool) w g B L vb pool vp 49 z8 w.heap.size (w.heap.size + 1) 3 [] s none ((w.alloc (.cells #[.pointer (some ⟨g, 0, none⟩)] 73)).alloc (.cells #[.int .i64 0, .int .i64 0, .int .i64 0, .bool false, .int .i64 0, .int .i64 0, .slice none 0 0, .slice none 0 0] 49)) :=
    ⟨hR, (h.alloc _).alloc _, (Blk.new _ _ _).alloc _, blkF (by simp), ((Touch.refl _ w).alloc _).alloc _, Nat.le_refl _, by omega, fun h => by simp, h.le⟩
  have c0 := h0.cbox
  clear h hR
  go_enter Try.func43, Try.ntmps43
  go_upto_region 1 with fail
  generalize ((w.alloc (.cells #[.pointer (some ⟨g, 0, none⟩)] 73)).alloc (.cells #[.int .i64 0, .int .i64 0, .int .i64 0, .bool false, .int .i64 0, .int .i64 0, .slice none 0 0, .slice none 0 0] 49)) = W0 at *
  go_region_held2 (fun W' => W'.cell? ⟨w.heap.size, 0, none⟩ = some (.pointer (some ⟨g, 0, none⟩))) (go_keep)
    (first
      | (go_at_call 38
         refine (FB.num (by first | exact h2 | exact h2.drew | exact h2.allocZ | exact h2.allocZ.drew)).mono ?_
         rintro e w3 (⟨a3, s3, rfl, h3⟩ | ⟨p, k, rfl, hr, ht⟩)
         rotate_left
         · refine ⟨rfl, ?_⟩
           rw [hr]
           exact ⟨rfl, ht⟩
         have c0 := h3.cbox
         first
           | (have z0 := (h3.z _ rfl).1.cell 0
              have z1 := (h3.z _ rfl).1.cell 1
              have z2 := (h3.z _ rfl).1.cell 2
              have z3 := (h3.z _ rfl).1.cell 3
              have z4 := (h3.z _ rfl).1.cell 4
              have z5 := (h3.z _ rfl).1.cell 5
              have z6 := (h3.z _ rfl).1.cell 6
              have z7 := (h3.z _ rfl).1.cell 7
              simp only [z8, List.getElem?_toArray, List.getElem?_cons_succ, List.getElem?_cons_zero] at z0 z1 z2 z3 z4 z5 z6 z7
              obtain ⟨n0, n1⟩ := h3.zne
              have l0 := h3.zlt
              have i0 := h3.zfr 0
              have i1 := h3.zfr 1
              have i2 := h3.zfr 2
              have i3 := h3.zfr 3
              have i4 := h3.zfr 4
              have i5 := h3.zfr 5
              have i6 := h3.zfr 6
              have i7 := h3.zfr 7)
           | skip)
      | (go_at_call 38
         refine (FB.num (by first | exact h1 | exact h1.drew | exact h1.allocZ | exact h1.allocZ.drew)).mono ?_
         rintro e w2 (⟨a2, s2, rfl, h2⟩ | ⟨p, k, rfl, hr, ht⟩)
         rotate_left
         · refine ⟨rfl, ?_⟩
           rw [hr]
           exact ⟨rfl, ht⟩
         have c0 := h2.cbox
         first
           | (have z0 := (h2.z _ rfl).1.cell 0
              have z1 := (h2.z _ rfl).1.cell 1
              have z2 := (h2.z _ rfl).1.cell 2
              have z3 := (h2.z _ rfl).1.cell 3
              have z4 := (h2.z _ rfl).1.cell 4
              have z5 := (h2.z _ rfl).1.cell 5
              have z6 := (h2.z _ rfl).1.cell 6
              have z7 := (h2.z _ rfl).1.cell 7
              simp only [z8, List.getElem?_toArray, List.getElem?_cons_succ, List.getElem?_cons_zero] at z0 z1 z2 z3 z4 z5 z6 z7
              obtain ⟨n0, n1⟩ := h2.zne
              have l0 := h2.zlt
              have i0 := h2.zfr 0
              have i1 := h2.zfr 1
              have i2 := h2.zfr 2
              have i3 := h2.zfr 3
              have i4 := h2.zfr 4
              have i5 := h2.zfr 5
              have i6 := h2.zfr 6
              have i7 := h2.zfr 7)
           | skip)
      | (go_at_call 38
         refine (FB.num (by first | exact h0 | exact h0.drew | exact h0.allocZ | exact h0.allocZ.drew)).mono ?_
         rintro e w1 (⟨a1, s1, rfl, h1⟩ | ⟨p, k, rfl, hr, ht⟩)
         rotate_left
         · refine ⟨rfl, ?_⟩
           rw [hr]
           exact ⟨rfl, ht⟩
         have c0 := h1.cbox
         first
           | (have z0 := (h1.z _ rfl).1.cell 0
              have z1 := (h1.z _ rfl).1.cell 1
              have z2 := (h1.z _ rfl).1.cell 2
              have z3 := (h1.z _ rfl).1.cell 3
              have z4 := (h1.z _ rfl).1.cell 4
              have z5 := (h1.z _ rfl).1.cell 5
              have z6 := (h1.z _ rfl).1.cell 6
              have z7 := (h1.z _ rfl).1.cell 7
              simp only [z8, List.getElem?_toArray, List.getElem?_cons_succ, List.getElem?_cons_zero] at z0 z1 z2 z3 z4 z5 z6 z7
              obtain ⟨n0, n1⟩ := h1.zne
              have l0 := h1.zlt
              have i0 := h1.zfr 0
              have i1 := h1.zfr 1
              have i2 := h1.zfr 2
              have i3 := h1.zfr 3
              have i4 := h1.zfr 4
              have i5 := h1.zfr 5
              have i6 := h1.zfr 6
              have i7 := h1.zfr 7)
           | skip))
  all_goals
    first
      | (obtain ⟨W8, b, hW, hb, hE⟩ : ∃ W8 b, W8 = w3.alloc (.cells #[.int .i64 a1, .int .i64 a2, .int .i64 a3, .bool false, .int .i64 0, .int .i64 0, .slice none 0 0, .slice none 0 0] 49) ∧ b = w3.heap.size ∧ FE R (methK L pool) w g B L vb pool vp 49 z8 #[.int .i64 a1, .int .i64 a2, .int .i64 a3, .bool false, .int .i64 0, .int .i64 0, .slice none 0 0, .slice none 0 0] w.heap.size (w.heap.size + 1) b [a1, a2, a3] s3 W8 := ⟨_, _, rfl, rfl, h3.putA _⟩
         rw [← hW, ← hb]
         clear hW hb)
      | (obtain ⟨W8, b, hW, hb, hE⟩ : ∃ W8 b, W8 = ((((((((w3.setCell ⟨w2.heap.size, 0, none⟩ (.int .i64 a1)).setCell ⟨w2.heap.size, 1, none⟩ (.int .i64 a2)).setCell ⟨w2.heap.size, 2, none⟩ (.int .i64 a3)).setCell ⟨w2.heap.size, 3, none⟩ (.bool false)).setCell ⟨w2.heap.size, 4, none⟩ (.int .i64 0)).setCell ⟨w2.heap.size, 5, none⟩ (.int .i64 0)).setCell ⟨w2.heap.size, 6, none⟩ (.slice none 0 0)).setCell ⟨w2.heap.size, 7, none⟩ (.slice none 0 0)) ∧ b = w2.heap.size ∧ FE R (methK L pool) w g B L vb pool vp 49 z8 #[.int .i64 a1, .int .i64 a2, .int .i64 a3, .bool false, .int .i64 0, .int .i64 0, .slice none 0 0, .slice none 0 0] w.heap.size (w.heap.size + 1) b [a1, a2, a3] s3 W8 := ⟨_, _, rfl, rfl, h3.put8 _ _ _ _ _ _ _ _⟩
         rw [← hW, ← hb]
         clear hW hb)
      | (obtain ⟨W8, b, hW, hb, hE⟩ : ∃ W8 b, W8 = ((((((((w3.setCell ⟨w1.heap.size, 0, none⟩ (.int .i64 a1)).setCell ⟨w1.heap.size, 1, none⟩ (.int .i64 a2)).setCell ⟨w1.heap.size, 2, none⟩ (.int .i64 a3)).setCell ⟨w1.heap.size, 3, none⟩ (.bool false)).setCell ⟨w1.heap.size, 4, none⟩ (.int .i64 0)).setCell ⟨w1.heap.size, 5, none⟩ (.int .i64 0)).setCell ⟨w1.heap.size, 6, none⟩ (.slice none 0 0)).setCell ⟨w1.heap.size, 7, none⟩ (.slice none 0 0)) ∧ b = w1.heap.size ∧ FE R (methK L pool) w g B L vb pool vp 49 z8 #[.int .i64 a1, .int .i64 a2, .int .i64 a3, .bool false, .int .i64 0, .int .i64 0, .slice none 0 0, .slice none 0 0] w.heap.size (w.heap.size + 1) b [a1, a2, a3] s3 W8 := ⟨_, _, rfl, rfl, h3.put8 _ _ _ _ _ _ _ _⟩
         rw [← hW, ← hb]
         clear hW hb)
      | (obtain ⟨W8, b, hW, hb, hE⟩ : ∃ W8 b, W8 = ((((((((w3.setCell ⟨W0.heap.size, 0, none⟩ (.int .i64 a1)).setCell ⟨W0.heap.size, 1, none⟩ (.int .i64 a2)).setCell ⟨W0.heap.size, 2, none⟩ (.int .i64 a3)).setCell ⟨W0.heap.size, 3, none⟩ (.bool false)).setCell ⟨W0.heap.size, 4, none⟩ (.int .i64 0)).setCell ⟨W0.heap.size, 5, none⟩ (.int .i64 0)).setCell ⟨W0.heap.size, 6, none⟩ (.slice none 0 0)).setCell ⟨W0.heap.size, 7, none⟩ (.slice none 0 0)) ∧ b = W0.heap.size ∧ FE R (methK L pool) w g B L vb pool vp 49 z8 #[.int .i64 a1, .int .i64 a2, .int .i64 a3, .bool false, .int .i64 0, .int .i64 0, .slice none 0 0, .slice none 0 0] w.heap.size (w.heap.size + 1) b [a1, a2, a3] s3 W8 := ⟨_, _, rfl, rfl, h3.put8 _ _ _ _ _ _ _ _⟩
         rw [← hW, ← hb]
         clear hW hb)
    have HE := Lib.hid hE
    have c0 := hE.box.cell 0
    simp only [List.getElem?_toArray, List.getElem?_cons_zero] at c0
    have hMB : MB b (b + 1) ⟨a1, a2, a3, false, 0, 0, [], []⟩ (.slice none 0 0) (.slice none 0 0) W8 := ⟨hE.blk, ⟨World.ownsRow_nil _ _ _ _, World.ownsRow_nil _ _ _ _, fun k hk => by cases hk⟩, Nat.lt_succ_self _, hE.blk.lt⟩
    have hgb : g < b := by have := hE.rs.lt; have := hE.B; have := hE.lo; have := hE.lo2; have := hE.lo3; omega
    have hBb : B ≤ b := by have := hE.B; have := hE.lo; have := hE.lo2; have := hE.lo3; omega
    have hgr : ¬ (w.heap.size = g) := by have := hE.rs.lt; have := hE.B; omega
    have hrb : w.heap.size < b := by have := hE.lo3; omega
    have C := file_attrs g B L vb pool vp codeS (by decide) (codeP L pool) 48 #[.pointer (some ⟨w.heap.size, 0, none⟩), .pointer (some ⟨b, 0, none⟩)] file_enter_method1 (MS g b) (fun k hk => .inl hk) (MethJ g w.heap.size b)
      (fun sb x u u' hu ht => hu.touch hgr hgb ht)
      (fun x p long s u hu hj hp h0 h1 => file_method1 g B L vb pool vp w.heap.size b hBb hgr hrb x p long s u hu hj hp h0 h1)
      ⟨a1, a2, a3, false, 0, 0, [], []⟩ s3 W8 hE.rs ⟨hE.box, ⟨_, _, hMB⟩, fun _ => rfl⟩
    clear hE hMB
    cases ha : attrsP L pool codeS (codeP L pool) ⟨a1, a2, a3, false, 0, 0, [], []⟩ s3 with
    | bad p k =>
      rw [ha, Ans.bad_] at C
      have HB := Lib.hid (show R = .bad p k from HE.out.run.trans ha)
      clear ha
      go_wp2_with fail
      refine C.mono ?_
      rintro e w9 ⟨rfl, ht⟩
      refine ⟨rfl, ?_⟩
      rw [HB.out]
      exact ⟨rfl, HE.out.tch.trans ht fun k hk => by
        rcases hk with hk | hk
        · exact .inl hk
        · exact .inr (by omega)⟩
    | ok m s4 =>
      rw [ha, Ans.ok_] at C
      have HB := Lib.hid (show R = .ok m s4 from HE.out.run.trans ha)
      clear ha
      go_wp2_with fail
      refine C.mono ?_
      rintro e w9 ⟨rfl, hrs, ht, sb, hj⟩
      obtain ⟨-, ⟨vc, vt, hm⟩, -⟩ := hj
      have HR := Lib.hid (HE.out.res.touch ht (fun hk => by
        have := HE.out.lo2
        have := HE.out.lo3
        have := HE.out.B
        have := HE.out.rs.lt
        rcases hk with hk | hk <;> omega))
      obtain ⟨q0, q1, q2, q3, q4, q5, q6, q7⟩ := hm.cells
      have r0 := HR.out.cell 0
      have r1 := HR.out.cell 1
      have r2 := HR.out.cell 2
      have r3 := HR.out.cell 3
      have r4 := HR.out.cell 4
      have r5 := HR.out.cell 5
      have r6 := HR.out.cell 6
      have r7 := HR.out.cell 7
      simp only [z8, List.getElem?_toArray, List.getElem?_cons_succ, List.getElem?_cons_zero] at r0 r1 r2 r3 r4 r5 r6 r7
      have i0 := HR.out.frozen 0
      have i1 := HR.out.frozen 1
      have i2 := HR.out.frozen 2
      have i3 := HR.out.frozen 3
      have i4 := HR.out.frozen 4
      have i5 := HR.out.frozen 5
      have i6 := HR.out.frozen 6
      have i7 := HR.out.frozen 7
      have l0 := HR.out.lt
      have PM := mput8 HR.out (.int .i64 m.access) (.int .i64 m.name) (.int .i64 m.desc) (.bool m.has) (.int .i64 m.stack) (.int .i64 m.locals) vc vt
      have E0 := Lib.hid PM.e0
      have E1 := Lib.hid PM.e1
      have E2 := Lib.hid PM.e2
      have E3 := Lib.hid PM.e3
      have E4 := Lib.hid PM.e4
      have E5 := Lib.hid PM.e5
      have E6 := Lib.hid PM.e6
      have E7 := Lib.hid PM.e7
      have HMR := Lib.hid ((hm.rows.touch PM.tch fun k hk => by have := HE.out.lo3; omega).mono (show w.heap.size ≤ b + 1 by omega))
      have HQ := Lib.hid (And.intro (hrs.far PM.tch fun k hk => by have := HE.out.B; omega) ((HE.out.tch.trans ht (fun k hk => by
        rcases hk with hk | hk
        · exact .inl hk
        · exact .inr (by omega))).trans PM.tch fun k hk => .inr (by omega)))
      obtain ⟨ac, cc, rfl, -, -⟩ := own_slice hm.rows.code
      obtain ⟨at_, ct, rfl, -, -⟩ := own_slice hm.rows.traps
      clear C hrs ht hm PM
      go_wp2_with fail
      refine bodyPost_ret (v := .agg (methV m (.slice ac m.code.length cc) (.slice at_ m.traps.length ct)).toArray) (by simp [results, Try.results43, go_sem, methV, E0.out, E1.out, E2.out, E3.out, E4.out, E5.out, E6.out, E7.out]) rfl ?_
      rw [HB.out, Ans.ok_]
      exact ⟨_, _, rfl, HMR.out, HQ.out⟩
end Go.Proofs.Ytbalmfoboaapjaa
