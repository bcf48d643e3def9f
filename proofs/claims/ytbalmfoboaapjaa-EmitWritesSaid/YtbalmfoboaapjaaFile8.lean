/-
  Package file by contract: field.
-/
import Derived.Test.YtbalmfoboaapjaaFile6
import Derived.Test.YtbalmfoboaapjaaFile7
namespace Go.Proofs.Ytbalmfoboaapjaa
set_option linter.unusedVariables false
set_option linter.unusedSimpArgs false
open Go.RowKit
set_option maxRecDepth 100000

def FieldG (g B : Nat) (L : List UInt8) (vb : Value) (pool : List ConstC) (vp : Value) (w : World) (c : FieldC) (s' : PS) (e : Ending) (w' : World) : Prop :=
  e = .returned (.agg #[.int .i64 c.access, .int .i64 c.name, .int .i64 c.desc, .int .i64 c.value]) ∧ RS w' g B L vb pool vp s' ∧ Touch (fun b => b = g) w w'
def fieldK (L : List UInt8) (pool : List ConstC) (l : List Int) (s3 : PS) : Out FieldC :=
  (attrsP L pool valueS (fun _ p long t => if long ≠ 2 then .bad p 26 else numP L 2 t) 0 s3).bind fun v s4 => .ok ⟨l.getD 0 0, l.getD 1 0, l.getD 2 0, v⟩ s4

/-- What the closure of a field holds: the box of the reader, the field. -/
def FieldJ (g rb z : Nat) (a n d : Int) (x : Int) (w : World) : Prop :=
  Blk w rb 73 #[.pointer (some ⟨g, 0, none⟩)] ∧ Blk w z 51 #[.int .i64 a, .int .i64 n, .int .i64 d, .int .i64 x]
def valP (L : List UInt8) (_ : Int) (p long : Int) (t : PS) : Out Int := if long ≠ 2 then .bad p 26 else numP L 2 t
theorem file_enter_field1 : ∀ args w, Sem.run Try.prog (callFunc 47 args) w = .ok (.enter 47 args) w := by
  intro args w
  exact call_enter Try.func47 (by kernel_rfl) rfl args w
set_option maxHeartbeats 4000000 in
theorem file_field1 (g B : Nat) (L : List UInt8) (vb : Value) (pool : List ConstC) (vp : Value) (rb z : Nat) (a n d : Int) (hz : B ≤ z) (hrb : B ≤ rb) (hne : rb ≠ z) (x : Int) (p : Nat) (long : Int) (s : PS) (w : World) (h : RS w g B L vb pool vp s) (hj : FieldJ g rb z a n d x w) :
    Calls Try.prog 47 #[.int .i64 p, .int .i64 long, .pointer (some ⟨rb, 0, none⟩), .pointer (some ⟨z, 0, none⟩)] w (Ans (valP L x p long s) (fun b => b = g ∨ b = z) w (TellG g B L vb pool vp (fun b => b = g ∨ b = z) (FieldJ g rb z a n d) w)) := by
  have c0 := hj.1.cell 0
  simp only [List.getElem?_toArray, List.getElem?_cons_zero] at c0
  have C := file_number g B L vb pool vp s 2 w h (by omega) (by omega) 2 rfl
  have HJ := Lib.hid hj
  have hg := h.lt
  clear h hj
  unfold valP
  by_cases hl : long = 2
  · subst hl
    rw [if_neg (by decide)]
    cases hn : numP L 2 s with
    | bad q k =>
      rw [hn, Ans.bad_] at C
      rw [Ans.bad_]
      clear hn
      go_enter Try.func47, Try.ntmps47
      go_wp2_with fail
      refine C.mono ?_
      rintro e w2 ⟨rfl, ht⟩
      exact ⟨rfl, rfl, ht.mono fun b hb => .inl hb⟩
    | ok v s1 =>
      rw [hn, Ans.ok_] at C
      rw [Ans.ok_]
      clear hn
      go_enter Try.func47, Try.ntmps47
      go_wp2_with fail
      refine C.mono ?_
      rintro e w2 ⟨rfl, hrs, ht, -, -⟩
      have B1 := HJ.out.1.touch ht (by omega)
      have B2 := HJ.out.2.touch ht (by omega)
      have HQ := Lib.hid (show RS (w2.setCell ⟨z, 3, none⟩ (.int .i64 v)) g B L vb pool vp s1 ∧ Touch (fun b => b = g ∨ b = z) w (w2.setCell ⟨z, 3, none⟩ (.int .i64 v)) ∧ FieldJ g rb z a n d v (w2.setCell ⟨z, 3, none⟩ (.int .i64 v)) from
        ⟨hrs.setCell (p := ⟨z, 3, none⟩) hz _, (ht.mono fun b hb => .inl hb).setCell (p := ⟨z, 3, none⟩) (.inl (.inr rfl)) _, B1.far (p := ⟨z, 3, none⟩) hne _, by simpa using B2.set_ 3 (.int .i64 v)⟩)
      have z3 := B2.cell 3
      simp only [List.getElem?_toArray, List.getElem?_cons_succ, List.getElem?_cons_zero] at z3
      have i3 := B2.frozen 3
      have l3 := B2.lt
      clear C hrs ht B1 B2
      go_wp2_with fail
      refine bodyPost_end (results_none rfl _ _ _) rfl ?_
      exact ⟨rfl, HQ.out⟩
  · rw [if_pos hl, Ans.bad_]
    go_enter Try.func47, Try.ntmps47
    go_wp2_with fail
    refine (file_wrong _ _ _ _).mono ?_
    rintro e w2 ⟨rfl, rfl⟩
    exact ⟨rfl, rfl, Touch.refl _ _⟩

set_option maxHeartbeats 4000000 in
theorem file_field (g B : Nat) (L : List UInt8) (vb : Value) (pool : List ConstC) (vp : Value) (s : PS) (w : World) (h : RS w g B L vb pool vp s) :
    Calls Try.prog 42 #[.pointer (some ⟨g, 0, none⟩)] w (Ans (fieldP L pool s) (fun b => b = g) w (FieldG g B L vb pool vp w)) := by
  obtain ⟨R, hR⟩ : ∃ R, R = fieldP L pool s := ⟨_, rfl⟩
  rw [← hR]
  have h0 : FB R (fieldK L pool) w g B L vb pool vp 51 z4 w.heap.size (w.heap.size + 1) 3 [] s none ((w.alloc (.cells #[.pointer (some ⟨g, 0, none⟩)] 73)).alloc (.cells #[.int .i64 0, .int .i64 0, .int .i64 0, .int .i64 0] 51)) :=
    ⟨hR, (h.alloc _).alloc _, (Blk.new _ _ _).alloc _, blkF (by simp), ((Touch.refl _ w).alloc _).alloc _, Nat.le_refl _, by omega, fun h => by simp, h.le⟩
  have c0 := h0.cbox
  clear h hR
  go_enter Try.func42, Try.ntmps42
  go_upto_region 1 with fail
  generalize ((w.alloc (.cells #[.pointer (some ⟨g, 0, none⟩)] 73)).alloc (.cells #[.int .i64 0, .int .i64 0, .int .i64 0, .int .i64 0] 51)) = W0 at *
  go_region_held2 (fun W' => W'.cell? ⟨w.heap.size, 0, none⟩ = some (.pointer (some ⟨g, 0, none⟩))) (go_keep)
    (first
      | (go_at_call 38
         refine (FB.num (by first | exact h2 | exact h2.drew | exact h2.allocZ | exact h2.allocZ.drew)).mono ?_
         rintro e w3 (⟨a3, s3, rfl, h3⟩ | ⟨p, k, rfl, hr, ht⟩)
         rotate_left
         · refine ⟨rfl, ?_⟩
           rw [hr]
           exact ⟨rfl, ht⟩
         have c0 := h3.cbox
         first
           | (have z0 := (h3.z _ rfl).1.cell 0
              have z1 := (h3.z _ rfl).1.cell 1
              have z2 := (h3.z _ rfl).1.cell 2
              have z3 := (h3.z _ rfl).1.cell 3
              simp only [z4, List.getElem?_toArray, List.getElem?_cons_succ, List.getElem?_cons_zero] at z0 z1 z2 z3
              obtain ⟨n0, n1⟩ := h3.zne
              have l0 := h3.zlt
              have i0 := h3.zfr 0
              have i1 := h3.zfr 1
              have i2 := h3.zfr 2
              have i3 := h3.zfr 3)
           | skip)
      | (go_at_call 38
         refine (FB.num (by first | exact h1 | exact h1.drew | exact h1.allocZ | exact h1.allocZ.drew)).mono ?_
         rintro e w2 (⟨a2, s2, rfl, h2⟩ | ⟨p, k, rfl, hr, ht⟩)
         rotate_left
         · refine ⟨rfl, ?_⟩
           rw [hr]
           exact ⟨rfl, ht⟩
         have c0 := h2.cbox
         first
           | (have z0 := (h2.z _ rfl).1.cell 0
              have z1 := (h2.z _ rfl).1.cell 1
              have z2 := (h2.z _ rfl).1.cell 2
              have z3 := (h2.z _ rfl).1.cell 3
              simp only [z4, List.getElem?_toArray, List.getElem?_cons_succ, List.getElem?_cons_zero] at z0 z1 z2 z3
              obtain ⟨n0, n1⟩ := h2.zne
              have l0 := h2.zlt
              have i0 := h2.zfr 0
              have i1 := h2.zfr 1
              have i2 := h2.zfr 2
              have i3 := h2.zfr 3)
           | skip)
      | (go_at_call 38
         refine (FB.num (by first | exact h0 | exact h0.drew | exact h0.allocZ | exact h0.allocZ.drew)).mono ?_
         rintro e w1 (⟨a1, s1, rfl, h1⟩ | ⟨p, k, rfl, hr, ht⟩)
         rotate_left
         · refine ⟨rfl, ?_⟩
           rw [hr]
           exact ⟨rfl, ht⟩
         have c0 := h1.cbox
         first
           | (have z0 := (h1.z _ rfl).1.cell 0
              have z1 := (h1.z _ rfl).1.cell 1
              have z2 := (h1.z _ rfl).1.cell 2
              have z3 := (h1.z _ rfl).1.cell 3
              simp only [z4, List.getElem?_toArray, List.getElem?_cons_succ, List.getElem?_cons_zero] at z0 z1 z2 z3
              obtain ⟨n0, n1⟩ := h1.zne
              have l0 := h1.zlt
              have i0 := h1.zfr 0
              have i1 := h1.zfr 1
              have i2 := h1.zfr 2
              have i3 := h1.zfr 3)
           | skip))
  all_goals
    first
      | (obtain ⟨W8, b, hW, hb, hE⟩ : ∃ W8 b, W8 = w3.alloc (.cells #[.int .i64 a1, .int .i64 a2, .int .i64 a3, .int .i64 0] 51) ∧ b = w3.heap.size ∧ FE R (fieldK L pool) w g B L vb pool vp 51 z4 #[.int .i64 a1, .int .i64 a2, .int .i64 a3, .int .i64 0] w.heap.size (w.heap.size + 1) b [a1, a2, a3] s3 W8 := ⟨_, _, rfl, rfl, h3.putA _⟩
         rw [← hW, ← hb]
         clear hW hb)
      | (obtain ⟨W8, b, hW, hb, hE⟩ : ∃ W8 b, W8 = ((((w3.setCell ⟨w2.heap.size, 0, none⟩ (.int .i64 a1)).setCell ⟨w2.heap.size, 1, none⟩ (.int .i64 a2)).setCell ⟨w2.heap.size, 2, none⟩ (.int .i64 a3)).setCell ⟨w2.heap.size, 3, none⟩ (.int .i64 0)) ∧ b = w2.heap.size ∧ FE R (fieldK L pool) w g B L vb pool vp 51 z4 #[.int .i64 a1, .int .i64 a2, .int .i64 a3, .int .i64 0] w.heap.size (w.heap.size + 1) b [a1, a2, a3] s3 W8 := ⟨_, _, rfl, rfl, h3.put4 _ _ _ _⟩
         rw [← hW, ← hb]
         clear hW hb)
      | (obtain ⟨W8, b, hW, hb, hE⟩ : ∃ W8 b, W8 = ((((w3.setCell ⟨w1.heap.size, 0, none⟩ (.int .i64 a1)).setCell ⟨w1.heap.size, 1, none⟩ (.int .i64 a2)).setCell ⟨w1.heap.size, 2, none⟩ (.int .i64 a3)).setCell ⟨w1.heap.size, 3, none⟩ (.int .i64 0)) ∧ b = w1.heap.size ∧ FE R (fieldK L pool) w g B L vb pool vp 51 z4 #[.int .i64 a1, .int .i64 a2, .int .i64 a3, .int .i64 0] w.heap.size (w.heap.size + 1) b [a1, a2, a3] s3 W8 := ⟨_, _, rfl, rfl, h3.put4 _ _ _ _⟩
         rw [← hW, ← hb]
         clear hW hb)
      | (obtain ⟨W8, b, hW, hb, hE⟩ : ∃ W8 b, W8 = ((((w3.setCell ⟨W0.heap.size, 0, none⟩ (.int .i64 a1)).setCell ⟨W0.heap.size, 1, none⟩ (.int .i64 a2)).setCell ⟨W0.heap.size, 2, none⟩ (.int .i64 a3)).setCell ⟨W0.heap.size, 3, none⟩ (.int .i64 0)) ∧ b = W0.heap.size ∧ FE R (fieldK L pool) w g B L vb pool vp 51 z4 #[.int .i64 a1, .int .i64 a2, .int .i64 a3, .int .i64 0] w.heap.size (w.heap.size + 1) b [a1, a2, a3] s3 W8 := ⟨_, _, rfl, rfl, h3.put4 _ _ _ _⟩
         rw [← hW, ← hb]
         clear hW hb)
    have HE := Lib.hid hE
    have c0 := hE.box.cell 0
    simp only [List.getElem?_toArray, List.getElem?_cons_zero] at c0
    have C := file_attrs g B L vb pool vp valueS (by decide) (valP L) 47 #[.pointer (some ⟨w.heap.size, 0, none⟩), .pointer (some ⟨b, 0, none⟩)] file_enter_field1 (fun k => k = g ∨ k = b) (fun k hk => .inl hk) (fun _ => FieldJ g w.heap.size b a1 a2 a3)
      (fun _ x u u' hu ht => ⟨hu.1.touch ht (by have := hE.rs.lt; have := hE.B; omega), hu.2.touch ht (by have := hE.rs.lt; have := hE.lo; have := hE.lo2; have := hE.lo3; have := hE.B; omega)⟩)
      (fun x p long s u hu hj _ _ _ => file_field1 g B L vb pool vp w.heap.size b a1 a2 a3 (by have := hE.lo; have := hE.lo2; have := hE.lo3; have := hE.B; omega) hE.B (by have := hE.lo2; have := hE.lo3; omega) x p long s u hu hj)
      0 s3 W8 hE.rs ⟨hE.box, hE.blk⟩
    clear hE
    cases ha : attrsP L pool valueS (valP L) 0 s3 with
    | bad p k =>
      rw [ha, Ans.bad_] at C
      have HB := Lib.hid (show R = .bad p k by rw [HE.out.run]; unfold fieldK; rw [show attrsP L pool valueS (fun _ p long t => if long ≠ 2 then .bad p 26 else numP L 2 t) 0 s3 = .bad p k from ha]; rfl)
      clear ha
      go_wp2_with fail
      refine C.mono ?_
      rintro e w9 ⟨rfl, ht⟩
      refine ⟨rfl, ?_⟩
      rw [HB.out]
      exact ⟨rfl, HE.out.tch.trans ht fun k hk => by
        have := HE.out.lo
        have := HE.out.lo2
        have := HE.out.lo3
        rcases hk with hk | hk
        · exact .inl hk
        · exact .inr (by omega)⟩
    | ok v s4 =>
      rw [ha, Ans.ok_] at C
      have HB := Lib.hid (show R = .ok ⟨a1, a2, a3, v⟩ s4 by rw [HE.out.run]; unfold fieldK; rw [show attrsP L pool valueS (fun _ p long t => if long ≠ 2 then .bad p 26 else numP L 2 t) 0 s3 = .ok v s4 from ha]; rfl)
      clear ha
      go_wp2_with fail
      refine C.mono ?_
      rintro e w9 ⟨rfl, hrs, ht, -, hj⟩
      have HR := Lib.hid (HE.out.res.touch ht (by have := HE.out.lo; have := HE.out.lo2; have := HE.out.lo3; have := HE.out.rs.lt; have := HE.out.B; omega))
      have q0 := hj.2.cell 0
      have q1 := hj.2.cell 1
      have q2 := hj.2.cell 2
      have q3 := hj.2.cell 3
      have r0 := HR.out.cell 0
      have r1 := HR.out.cell 1
      have r2 := HR.out.cell 2
      have r3 := HR.out.cell 3
      simp only [z4, List.getElem?_toArray, List.getElem?_cons_succ, List.getElem?_cons_zero] at q0 q1 q2 q3 r0 r1 r2 r3
      have i0 := HR.out.frozen 0
      have i1 := HR.out.frozen 1
      have i2 := HR.out.frozen 2
      have i3 := HR.out.frozen 3
      have l0 := HR.out.lt
      have PM := mput4 HR.out (.int .i64 a1) (.int .i64 a2) (.int .i64 a3) (.int .i64 v)
      have E0 := Lib.hid PM.e0
      have E1 := Lib.hid PM.e1
      have E2 := Lib.hid PM.e2
      have E3 := Lib.hid PM.e3
      have HQ := Lib.hid (And.intro (hrs.far PM.tch fun k hk => by have := HE.out.lo; have := HE.out.lo2; have := HE.out.B; omega) ((HE.out.tch.trans ht (fun k hk => by
        have := HE.out.lo
        have := HE.out.lo2
        have := HE.out.lo3
        rcases hk with hk | hk
        · exact .inl hk
        · exact .inr (by omega))).trans PM.tch fun k hk => .inr (by have := HE.out.lo; have := HE.out.lo2; omega)))
      clear C hrs ht hj PM
      go_wp2_with fail
      refine bodyPost_ret (v := .agg #[.int .i64 a1, .int .i64 a2, .int .i64 a3, .int .i64 v]) (by simp [results, Try.results42, go_sem, E0.out, E1.out, E2.out, E3.out]) rfl ?_
      rw [HB.out, Ans.ok_]
      exact ⟨rfl, HQ.out⟩
end Go.Proofs.Ytbalmfoboaapjaa
