/-
  Package file by contract: constant.
-/
import Derived.Test.YtbalmfoboaapjaaFile2
import Derived.Laws.IdiomStrings
import Derived.Laws.BytesArg
namespace Go.Proofs.Ytbalmfoboaapjaa
set_option linter.unusedVariables false
set_option linter.unusedSimpArgs false
open Go.RowKit
set_option maxRecDepth 100000

/-- A constant: what it is, and the reader behind it. -/
def ConstG (g B : Nat) (L : List UInt8) (vb : Value) (pool : List ConstC) (vp : Value) (w : World) (c : ConstC) (s' : PS) (e : Ending) (w' : World) : Prop :=
  e = .returned (.agg (encC c).toArray) ∧ RS w' g B L vb pool vp s' ∧ Touch (fun b => b = g) w w'
theorem blkF {w : World} {g : Nat} {t : TypeId} {cs : Array Value} (h : w.heap.size = g) : Blk (w.alloc (.cells cs t)) g t cs := h ▸ Blk.new w t cs

theorem conv_bytes {w : World} {v : Value} {l : List UInt8} (h : Rd w 1 v l.length (l.map byteV)) : (convert 31 9 v).run Try.prog w = .ok (.string ⟨l.toArray⟩) w := by
  obtain ⟨_, a, c, rfl, h1, h2, h3⟩ := h
  cases a with
  | none =>
    have hl : l = [] := by
      cases l with
      | nil => rfl
      | cons x l => obtain ⟨b, off, hh, _⟩ := h3 (by simp); cases hh
    subst hl
    exact run_convert_bytes_nil w _ _ Try.underlying31 Try.underlying5 _ _ _ Try.underlying9
  | some ad =>
    refine run_convert_bytes_back (l := l) _ _ _ _ _ _ Try.underlying31 Try.underlying5 Try.underlying9 ?_
    intro j hj
    obtain ⟨b, off, hh, hc⟩ := h3 (by omega)
    injection hh with hh
    subst hh
    rw [add_none]
    exact hc j _ (by rw [List.getElem?_map, List.getElem?_eq_getElem hj]; rfl)
theorem wrap_i32 {m : Int} (h : 0 ≤ m ∧ m < (256 ^ 4 : Nat)) : IntKind.i32.wrap m = wrapW m ∧ -2147483648 ≤ wrapW m ∧ wrapW m ≤ 2147483647 := by
  have h2 : m < 4294967296 := h.2
  have h1 := h.1
  unfold wrapW
  refine ⟨?_, ?_, ?_⟩
  · simp only [IntKind.wrap_i32, wrap32]
    split <;> omega
  · split <;> omega
  · split <;> omega
/-- What constant holds behind its first number. -/
structure CS (w : World) (g B : Nat) (L : List UInt8) (vb : Value) (pool : List ConstC) (vp : Value) (s : PS) (h0 h4 : Nat) (cs : Array Value) (w' : World) : Prop where
  rs : RS w' g B L vb pool vp s
  z : Blk w' h0 41 #[.int .i64 0, .string ⟨#[]⟩, .int .i64 0, .int .i64 0, .int .i64 0]
  c : Blk w' h4 41 cs
  t : Touch (fun b => b = g) w w'
  lo : w.heap.size ≤ h0
  lo2 : h0 < h4
section
variable {w w' w'' : World} {g B : Nat} {L : List UInt8} {vb vp : Value} {pool : List ConstC} {s s' : PS} {h0 h4 : Nat} {cs : Array Value}
theorem CS.next (h : CS w g B L vb pool vp s h0 h4 cs w') (hB : B ≤ w.heap.size) (hr : RS w'' g B L vb pool vp s') (ht : Touch (fun b => b = g) w' w'') : CS w g B L vb pool vp s' h0 h4 cs w'' :=
  have hg := h.rs.lt
  have a0 := h.lo
  have a1 := h.lo2
  ⟨hr, h.z.touch ht (by omega), h.c.touch ht (by omega), h.t.trans ht fun b hb => .inl hb, a0, a1⟩
theorem CS.put (h : CS w g B L vb pool vp s h0 h4 cs w') (hB : B ≤ w.heap.size) (i : Nat) (u : Value) : CS w g B L vb pool vp s h0 h4 (cs.setIfInBounds i u) (w'.setCell ⟨h4, i, none⟩ u) :=
  have hg := h.rs.lt
  have a0 := h.lo
  have a1 := h.lo2
  ⟨h.rs.setCell (by show B ≤ h4; omega) u, h.z.far (by show h0 ≠ h4; omega) u, h.c.set_ i u, h.t.setCell (p := ⟨h4, i, none⟩) (.inr (by show w.heap.size ≤ h4; omega)) u, a0, a1⟩
end

/-- A store of five cells, one by one. -/
structure MPut3 (w : World) (r : Nat) (t : TypeId) (u0 u1 u2 u3 u4 : Value) : Prop where
  e0 : (((((w.setCell ⟨r, 0, none⟩ u0).setCell ⟨r, 1, none⟩ u1).setCell ⟨r, 2, none⟩ u2).setCell ⟨r, 3, none⟩ u3).setCell ⟨r, 4, none⟩ u4).cell? ⟨r, 0, none⟩ = some u0
  e1 : (((((w.setCell ⟨r, 0, none⟩ u0).setCell ⟨r, 1, none⟩ u1).setCell ⟨r, 2, none⟩ u2).setCell ⟨r, 3, none⟩ u3).setCell ⟨r, 4, none⟩ u4).cell? ⟨r, 1, none⟩ = some u1
  e2 : (((((w.setCell ⟨r, 0, none⟩ u0).setCell ⟨r, 1, none⟩ u1).setCell ⟨r, 2, none⟩ u2).setCell ⟨r, 3, none⟩ u3).setCell ⟨r, 4, none⟩ u4).cell? ⟨r, 2, none⟩ = some u2
  e3 : (((((w.setCell ⟨r, 0, none⟩ u0).setCell ⟨r, 1, none⟩ u1).setCell ⟨r, 2, none⟩ u2).setCell ⟨r, 3, none⟩ u3).setCell ⟨r, 4, none⟩ u4).cell? ⟨r, 3, none⟩ = some u3
  e4 : (((((w.setCell ⟨r, 0, none⟩ u0).setCell ⟨r, 1, none⟩ u1).setCell ⟨r, 2, none⟩ u2).setCell ⟨r, 3, none⟩ u3).setCell ⟨r, 4, none⟩ u4).cell? ⟨r, 4, none⟩ = some u4
  blk : Blk (((((w.setCell ⟨r, 0, none⟩ u0).setCell ⟨r, 1, none⟩ u1).setCell ⟨r, 2, none⟩ u2).setCell ⟨r, 3, none⟩ u3).setCell ⟨r, 4, none⟩ u4) r t #[u0, u1, u2, u3, u4]
theorem mput3 {w : World} {r : Nat} {t : TypeId} {a b c d e : Value} (h : Blk w r t #[a, b, c, d, e]) (u0 u1 u2 u3 u4 : Value) : MPut3 w r t u0 u1 u2 u3 u4 := by
  have h4 := ((((h.set_ 0 u0).set_ 1 u1).set_ 2 u2).set_ 3 u3).set_ 4 u4
  simp at h4
  exact ⟨h4.cell 0, h4.cell 1, h4.cell 2, h4.cell 3, h4.cell 4, h4⟩
theorem CS.fin {w w' : World} {g B : Nat} {L : List UInt8} {vb vp : Value} {pool : List ConstC} {s : PS} {h0 h4 : Nat} {cs : Array Value} (h : CS w g B L vb pool vp s h0 h4 cs w') (hB : B ≤ w.heap.size) (u0 u1 u2 u3 u4 : Value) :
    MPut3 w' h0 41 u0 u1 u2 u3 u4 ∧ RS (((((w'.setCell ⟨h0, 0, none⟩ u0).setCell ⟨h0, 1, none⟩ u1).setCell ⟨h0, 2, none⟩ u2).setCell ⟨h0, 3, none⟩ u3).setCell ⟨h0, 4, none⟩ u4) g B L vb pool vp s ∧ Touch (fun b => b = g) w (((((w'.setCell ⟨h0, 0, none⟩ u0).setCell ⟨h0, 1, none⟩ u1).setCell ⟨h0, 2, none⟩ u2).setCell ⟨h0, 3, none⟩ u3).setCell ⟨h0, 4, none⟩ u4) := by
  have a0 := h.lo
  have hb : B ≤ h0 := by omega
  refine ⟨mput3 h.z _ _ _ _ _, ((((h.rs.setCell (p := ⟨h0, 0, none⟩) hb u0).setCell (p := ⟨h0, 1, none⟩) hb u1).setCell (p := ⟨h0, 2, none⟩) hb u2).setCell (p := ⟨h0, 3, none⟩) hb u3).setCell (p := ⟨h0, 4, none⟩) hb u4, ?_⟩
  exact ((((h.t.setCell (p := ⟨h0, 0, none⟩) (.inr a0) u0).setCell (p := ⟨h0, 1, none⟩) (.inr a0) u1).setCell (p := ⟨h0, 2, none⟩) (.inr a0) u2).setCell (p := ⟨h0, 3, none⟩) (.inr a0) u3).setCell (p := ⟨h0, 4, none⟩) (.inr a0) u4
set_option maxHeartbeats 4000000 in
theorem file_constant (g B : Nat) (L : List UInt8) (vb : Value) (pool : List ConstC) (vp : Value) (s : PS) (w : World) (h : RS w g B L vb pool vp s) :
    Calls Try.prog 41 #[.pointer (some ⟨g, 0, none⟩)] w (Ans (constP L s) (fun b => b = g) w (ConstG g B L vb pool vp w)) := by
  have hA : RS (w.alloc (.cells #[.int .i64 0, .string ⟨#[]⟩, .int .i64 0, .int .i64 0, .int .i64 0] 41)) g B L vb pool vp s := h.alloc _
  have bA : Blk (w.alloc (.cells #[.int .i64 0, .string ⟨#[]⟩, .int .i64 0, .int .i64 0, .int .i64 0] 41)) w.heap.size 41 #[.int .i64 0, .string ⟨#[]⟩, .int .i64 0, .int .i64 0, .int .i64 0] := Blk.new _ _ _
  have tA : Touch (fun b => b = g) w (w.alloc (.cells #[.int .i64 0, .string ⟨#[]⟩, .int .i64 0, .int .i64 0, .int .i64 0] 41)) := (Touch.refl _ w).alloc _
  have C := file_number g B L vb pool vp s 1 _ hA (by omega) (by omega) 1 rfl
  have hB := h.le
  have hg := h.lt
  obtain ⟨-, c1, -, -, -⟩ := hA.cells
  unfold constP
  have BA := Lib.hid bA
  have TA := Lib.hid tA
  clear h hA bA tA
  cases hb : numP L 1 s with
  | bad p k =>
    rw [hb, Ans.bad_] at C
    rw [Out.bind_bad, Ans.bad_]
    clear hb
    go_enter Try.func41, Try.ntmps41
    go_wp2_with fail
    refine C.mono ?_
    rintro e w1 ⟨rfl, ht⟩
    exact ⟨rfl, rfl, TA.out.trans ht fun b hb => .inl hb⟩
  | ok t s1 =>
    rw [hb, Ans.ok_] at C
    rw [Out.bind_ok]
    clear hb
    go_enter Try.func41, Try.ntmps41
    go_wp2_with fail
    refine C.mono ?_
    rintro e w1 ⟨rfl, hrs, ht, hn0, hn1⟩
    have z1 : w.heap.size < w1.heap.size := by have := ht.size; simp at this; omega
    have cs0 : CS w g B L vb pool vp s1 w.heap.size w1.heap.size #[.int .i64 t, .string ⟨#[]⟩, .int .i64 0, .int .i64 0, .int .i64 0] (w1.alloc (.cells #[.int .i64 t, .string ⟨#[]⟩, .int .i64 0, .int .i64 0, .int .i64 0] 41)) :=
      ⟨hrs.alloc _, (BA.out.touch ht (by omega)).alloc _, Blk.new _ _ _, (TA.out.trans ht fun b hb => .inl hb).alloc _, Nat.le_refl _, z1⟩
    clear C hrs ht c1 BA TA
    go_upto_region 3 with fail
    generalize (w1.alloc (.cells #[.int .i64 t, .string ⟨#[]⟩, .int .i64 0, .int .i64 0, .int .i64 0] 41)) = w2 at *
    obtain ⟨h4, hh4⟩ : ∃ x, x = w1.heap.size := ⟨_, rfl⟩
    rw [← hh4] at cs0 z1 ⊢
    have c0 := cs0.c.cell 0
    simp only [List.getElem?_toArray, List.getElem?_cons_zero] at c0
    have CS0 := Lib.hid cs0
    clear hh4 cs0
    by_cases t1 : t = 1
    · subst t1
      have C2 := file_number g B L vb pool vp s1 2 w2 CS0.out.rs (by omega) (by omega) 2 rfl
      cases hb2 : numP L 2 s1 with
      | bad p k =>
        rw [hb2, Ans.bad_] at C2
        have HB := Lib.hid hb2
        clear hb2
        go_wp2_with fail
        refine C2.mono ?_
        rintro e w3 ⟨rfl, ht⟩
        refine ⟨rfl, ?_⟩
        try rw [if_pos rfl]
        rw [HB.out, Out.bind_bad, Ans.bad_]
        exact ⟨rfl, CS0.out.t.trans ht fun b hb => .inl hb⟩
      | ok m s2 =>
        rw [hb2, Ans.ok_] at C2
        have HB2 := Lib.hid hb2
        clear hb2
        go_wp2_with fail
        refine C2.mono ?_
        rintro e w3 ⟨rfl, hrs, ht, hm0, hm1⟩
        have CS1 := Lib.hid (CS0.out.next hB hrs ht)
        have C3 := file_bytes g B L vb pool vp s2 m w3 hrs (by omega)
        clear C2 hrs ht c0
        cases hb3 : bytesP L m s2 with
        | bad p k =>
          rw [hb3, Ans.bad_] at C3
          have HB3 := Lib.hid hb3
          clear hb3
          go_wp2_with fail
          refine C3.mono ?_
          rintro e w4 ⟨rfl, ht⟩
          refine ⟨rfl, ?_⟩
          try rw [if_pos rfl]
          rw [HB2.out, Out.bind_ok, HB3.out, Out.bind_bad, Ans.bad_]
          exact ⟨rfl, CS1.out.t.trans ht fun b hb => .inl hb⟩
        | ok l s3 =>
          rw [hb3, Ans.ok_] at C3
          have HB3 := Lib.hid hb3
          clear hb3
          go_wp2_with fail
          refine C3.mono ?_
          rintro e w4 ⟨v, rfl, hrd, hrs, ht, -⟩
          have CS2 := Lib.hid (CS1.out.next hB hrs ht)
          have hcv : ∀ W, (∀ p u, w4.cell? p = some u → W.cell? p = some u) → (convert 31 9 v).run Try.prog W = .ok (.string ⟨l.toArray⟩) W := fun W hW => conv_bytes (hrd.keep hW)
          have hcv4 := hcv w4 (fun _ _ h => h)
          have f1 := CS2.out.c.frozen 1
          have c1 := CS2.out.c.cell 1
          simp at c1
          clear C3 hrs ht hcv hrd
          go_upto_region 17 with fail
          have CS3 := Lib.hid (CS2.out.put hB 1 (.string ⟨l.toArray⟩))
          clear CS2 CS1 hcv4 c1 f1
          generalize (w4.setCell ⟨h4, 1, none⟩ (.string ⟨l.toArray⟩)) = w5 at *
          have FI := CS3.out.fin hB (.int .i64 1) (.string ⟨l.toArray⟩) (.int .i64 0) (.int .i64 0) (.int .i64 0)
          have E0 := Lib.hid FI.1.e0
          have E1 := Lib.hid FI.1.e1
          have E2 := Lib.hid FI.1.e2
          have E3 := Lib.hid FI.1.e3
          have E4 := Lib.hid FI.1.e4
          have FR2 := Lib.hid FI.2
          have d0 := CS3.out.c.cell 0
          have d1 := CS3.out.c.cell 1
          have d2 := CS3.out.c.cell 2
          have d3 := CS3.out.c.cell 3
          have d4 := CS3.out.c.cell 4
          have g0 := CS3.out.z.frozen 0
          have g1 := CS3.out.z.frozen 1
          have g2 := CS3.out.z.frozen 2
          have g3 := CS3.out.z.frozen 3
          have g4 := CS3.out.z.frozen 4
          have y0 := CS3.out.z.cell 0
          have y1 := CS3.out.z.cell 1
          have y2 := CS3.out.z.cell 2
          have y3 := CS3.out.z.cell 3
          have y4 := CS3.out.z.cell 4
          have hne : ¬ (w.heap.size = h4) := by have := CS3.out.lo2; omega
          have hne2 : ¬ (h4 = w.heap.size) := by have := CS3.out.lo2; omega
          simp at d0 d1 d2 d3 d4 y0 y1 y2 y3 y4
          clear FI
          go_wp2_with fail
          refine bodyPost_ret (v := .agg #[.int .i64 1, .string ⟨l.toArray⟩, .int .i64 0, .int .i64 0, .int .i64 0]) (by simp [results, Try.results41, go_sem, E0.out, E1.out, E2.out, E3.out, E4.out]) rfl ?_
          try rw [if_pos rfl]
          rw [HB2.out, Out.bind_ok, HB3.out, Out.bind_ok, Ans.ok_]
          exact ⟨rfl, FR2.out.1, FR2.out.2⟩
    have e1 : (t == 1) = false := by simpa using t1
    by_cases t3 : t = 3
    · subst t3
      have C2 := file_number g B L vb pool vp s1 4 w2 CS0.out.rs (by omega) (by omega) 4 rfl
      cases hb2 : numP L 4 s1 with
      | bad p k =>
        rw [hb2, Ans.bad_] at C2
        have HB := Lib.hid hb2
        clear hb2
        go_wp2_with fail
        refine C2.mono ?_
        rintro e w3 ⟨rfl, ht⟩
        refine ⟨rfl, ?_⟩
        try rw [if_neg t1]
        try rw [if_pos rfl]
        rw [HB.out, Out.bind_bad, Ans.bad_]
        exact ⟨rfl, CS0.out.t.trans ht fun b hb => .inl hb⟩
      | ok m s2 =>
        rw [hb2, Ans.ok_] at C2
        have HB2 := Lib.hid hb2
        have hw : IntKind.i32.wrap m = wrapW m ∧ -2147483648 ≤ wrapW m ∧ wrapW m ≤ 2147483647 := wrap_i32 (numP_bounds hb2 (by omega))
        obtain ⟨hw0, hw1, hw2⟩ := hw
        obtain ⟨x, hx⟩ : ∃ x, x = wrapW m := ⟨_, rfl⟩
        rw [← hx] at hw0 hw1 hw2
        have HX := Lib.hid hx
        clear hb2 hx
        go_wp2_with fail
        refine C2.mono ?_
        rintro e w3 ⟨rfl, hrs, ht, hm0, hm1⟩
        have CS1 := Lib.hid (CS0.out.next hB hrs ht)
        have f1 := CS1.out.c.frozen 2
        have c1 := CS1.out.c.cell 2
        simp at c1
        clear C2 hrs ht c0
        go_upto_region 17 with fail
        have CS3 := Lib.hid (CS1.out.put hB 2 (.int .i64 x))
        clear CS1 c1 f1 hw0
        generalize (w3.setCell ⟨h4, 2, none⟩ (.int .i64 x)) = w5 at *
        have FI := CS3.out.fin hB (.int .i64 3) (.string ⟨#[]⟩) (.int .i64 x) (.int .i64 0) (.int .i64 0)
        have E0 := Lib.hid FI.1.e0
        have E1 := Lib.hid FI.1.e1
        have E2 := Lib.hid FI.1.e2
        have E3 := Lib.hid FI.1.e3
        have E4 := Lib.hid FI.1.e4
        have FR2 := Lib.hid FI.2
        have d0 := CS3.out.c.cell 0
        have d1 := CS3.out.c.cell 1
        have d2 := CS3.out.c.cell 2
        have d3 := CS3.out.c.cell 3
        have d4 := CS3.out.c.cell 4
        have g0 := CS3.out.z.frozen 0
        have g1 := CS3.out.z.frozen 1
        have g2 := CS3.out.z.frozen 2
        have g3 := CS3.out.z.frozen 3
        have g4 := CS3.out.z.frozen 4
        have y0 := CS3.out.z.cell 0
        have y1 := CS3.out.z.cell 1
        have y2 := CS3.out.z.cell 2
        have y3 := CS3.out.z.cell 3
        have y4 := CS3.out.z.cell 4
        have hne : ¬ (w.heap.size = h4) := by have := CS3.out.lo2; omega
        have hne2 : ¬ (h4 = w.heap.size) := by have := CS3.out.lo2; omega
        simp at d0 d1 d2 d3 d4 y0 y1 y2 y3 y4
        clear FI
        go_wp2_with fail
        refine bodyPost_ret (v := .agg #[.int .i64 3, .string ⟨#[]⟩, .int .i64 x, .int .i64 0, .int .i64 0]) (by simp [results, Try.results41, go_sem, E0.out, E1.out, E2.out, E3.out, E4.out]) rfl ?_
        try rw [if_neg t1]
        try rw [if_pos rfl]
        rw [HB2.out, Out.bind_ok, Ans.ok_]
        exact ⟨by rw [HX.out]; rfl, FR2.out.1, FR2.out.2⟩
    have e3 : (t == 3) = false := by simpa using t3
    by_cases t7 : t = 7
    · subst t7
      have C2 := file_number g B L vb pool vp s1 2 w2 CS0.out.rs (by omega) (by omega) 2 rfl
      cases hb2 : numP L 2 s1 with
      | bad p k =>
        rw [hb2, Ans.bad_] at C2
        have HB := Lib.hid hb2
        clear hb2
        go_wp2_with fail
        refine C2.mono ?_
        rintro e w3 ⟨rfl, ht⟩
        refine ⟨rfl, ?_⟩
        try rw [if_neg t1]
        try rw [if_neg t3]
        try rw [if_pos rfl]
        rw [HB.out, Out.bind_bad, Ans.bad_]
        exact ⟨rfl, CS0.out.t.trans ht fun b hb => .inl hb⟩
      | ok m s2 =>
        rw [hb2, Ans.ok_] at C2
        have HB2 := Lib.hid hb2
        clear hb2
        go_wp2_with fail
        refine C2.mono ?_
        rintro e w3 ⟨rfl, hrs, ht, hm0, hm1⟩
        have CS1 := Lib.hid (CS0.out.next hB hrs ht)
        have f1 := CS1.out.c.frozen 3
        have c1 := CS1.out.c.cell 3
        simp at c1
        clear C2 hrs ht c0
        go_upto_region 17 with fail
        have CS3 := Lib.hid (CS1.out.put hB 3 (.int .i64 m))
        clear CS1 c1 f1
        generalize (w3.setCell ⟨h4, 3, none⟩ (.int .i64 m)) = w5 at *
        have FI := CS3.out.fin hB (.int .i64 7) (.string ⟨#[]⟩) (.int .i64 0) (.int .i64 m) (.int .i64 0)
        have E0 := Lib.hid FI.1.e0
        have E1 := Lib.hid FI.1.e1
        have E2 := Lib.hid FI.1.e2
        have E3 := Lib.hid FI.1.e3
        have E4 := Lib.hid FI.1.e4
        have FR2 := Lib.hid FI.2
        have d0 := CS3.out.c.cell 0
        have d1 := CS3.out.c.cell 1
        have d2 := CS3.out.c.cell 2
        have d3 := CS3.out.c.cell 3
        have d4 := CS3.out.c.cell 4
        have g0 := CS3.out.z.frozen 0
        have g1 := CS3.out.z.frozen 1
        have g2 := CS3.out.z.frozen 2
        have g3 := CS3.out.z.frozen 3
        have g4 := CS3.out.z.frozen 4
        have y0 := CS3.out.z.cell 0
        have y1 := CS3.out.z.cell 1
        have y2 := CS3.out.z.cell 2
        have y3 := CS3.out.z.cell 3
        have y4 := CS3.out.z.cell 4
        have hne : ¬ (w.heap.size = h4) := by have := CS3.out.lo2; omega
        have hne2 : ¬ (h4 = w.heap.size) := by have := CS3.out.lo2; omega
        simp at d0 d1 d2 d3 d4 y0 y1 y2 y3 y4
        clear FI
        go_wp2_with fail
        refine bodyPost_ret (v := .agg #[.int .i64 7, .string ⟨#[]⟩, .int .i64 0, .int .i64 m, .int .i64 0]) (by simp [results, Try.results41, go_sem, E0.out, E1.out, E2.out, E3.out, E4.out]) rfl ?_
        try rw [if_neg t1]
        try rw [if_neg t3]
        try rw [if_pos rfl]
        rw [HB2.out, Out.bind_ok, Ans.ok_]
        exact ⟨rfl, FR2.out.1, FR2.out.2⟩
    have e7 : (t == 7) = false := by simpa using t7
    by_cases t9 : t = 9
    · subst t9
      have C2 := file_number g B L vb pool vp s1 2 w2 CS0.out.rs (by omega) (by omega) 2 rfl
      cases hb2 : numP L 2 s1 with
      | bad p k =>
        rw [hb2, Ans.bad_] at C2
        have HB := Lib.hid hb2
        clear hb2
        go_wp2_with fail
        refine C2.mono ?_
        rintro e w3 ⟨rfl, ht⟩
        refine ⟨rfl, ?_⟩
        try rw [if_neg t1]
        try rw [if_neg t3]
        try rw [if_neg t7]
        try rw [if_pos (by decide)]
        rw [HB.out, Out.bind_bad, Ans.bad_]
        exact ⟨rfl, CS0.out.t.trans ht fun b hb => .inl hb⟩
      | ok m s2 =>
        rw [hb2, Ans.ok_] at C2
        have HB2 := Lib.hid hb2
        clear hb2
        go_wp2_with fail
        refine C2.mono ?_
        rintro e w3 ⟨rfl, hrs, ht, hm0, hm1⟩
        have CS1 := Lib.hid (CS0.out.next hB hrs ht)
        have f1 := CS1.out.c.frozen 3
        have c1 := CS1.out.c.cell 3
        simp at c1
        clear C2 hrs ht c0
        go_upto_region 15 with fail
        have CS3 := Lib.hid (CS1.out.put hB 3 (.int .i64 m))
        clear CS1 c1 f1
        generalize (w3.setCell ⟨h4, 3, none⟩ (.int .i64 m)) = w5 at *
        have C3 := file_number g B L vb pool vp s2 2 w5 CS3.out.rs (by omega) (by omega) 2 rfl
        cases hb3 : numP L 2 s2 with
        | bad p k =>
          rw [hb3, Ans.bad_] at C3
          have HB := Lib.hid hb3
          clear hb3
          go_wp2_with fail
          refine C3.mono ?_
          rintro e w3 ⟨rfl, ht⟩
          refine ⟨rfl, ?_⟩
          try rw [if_neg t1]
          try rw [if_neg t3]
          try rw [if_neg t7]
          try rw [if_pos (by decide)]
          rw [HB2.out, Out.bind_ok, HB.out, Out.bind_bad, Ans.bad_]
          exact ⟨rfl, CS3.out.t.trans ht fun b hb => .inl hb⟩
        | ok q s3 =>
          rw [hb3, Ans.ok_] at C3
          have HB3 := Lib.hid hb3
          clear hb3
          go_wp2_with fail
          refine C3.mono ?_
          rintro e w4 ⟨rfl, hrs, ht, hq0, hq1⟩
          have CS4 := Lib.hid (CS3.out.next hB hrs ht)
          have f1 := CS4.out.c.frozen 4
          have c1 := CS4.out.c.cell 4
          simp at c1
          clear C3 hrs ht
          go_upto_region 17 with fail
          have CS5 := Lib.hid (CS4.out.put hB 4 (.int .i64 q))
          clear CS4 CS3 c1 f1
          generalize (w4.setCell ⟨h4, 4, none⟩ (.int .i64 q)) = w6 at *
          have FI := CS5.out.fin hB (.int .i64 9) (.string ⟨#[]⟩) (.int .i64 0) (.int .i64 m) (.int .i64 q)
          have E0 := Lib.hid FI.1.e0
          have E1 := Lib.hid FI.1.e1
          have E2 := Lib.hid FI.1.e2
          have E3 := Lib.hid FI.1.e3
          have E4 := Lib.hid FI.1.e4
          have FR2 := Lib.hid FI.2
          have d0 := CS5.out.c.cell 0
          have d1 := CS5.out.c.cell 1
          have d2 := CS5.out.c.cell 2
          have d3 := CS5.out.c.cell 3
          have d4 := CS5.out.c.cell 4
          have g0 := CS5.out.z.frozen 0
          have g1 := CS5.out.z.frozen 1
          have g2 := CS5.out.z.frozen 2
          have g3 := CS5.out.z.frozen 3
          have g4 := CS5.out.z.frozen 4
          have y0 := CS5.out.z.cell 0
          have y1 := CS5.out.z.cell 1
          have y2 := CS5.out.z.cell 2
          have y3 := CS5.out.z.cell 3
          have y4 := CS5.out.z.cell 4
          have hne : ¬ (w.heap.size = h4) := by have := CS5.out.lo2; omega
          have hne2 : ¬ (h4 = w.heap.size) := by have := CS5.out.lo2; omega
          simp at d0 d1 d2 d3 d4 y0 y1 y2 y3 y4
          clear FI
          go_wp2_with fail
          refine bodyPost_ret (v := .agg #[.int .i64 9, .string ⟨#[]⟩, .int .i64 0, .int .i64 m, .int .i64 q]) (by simp [results, Try.results41, go_sem, E0.out, E1.out, E2.out, E3.out, E4.out]) rfl ?_
          try rw [if_neg t1]
          try rw [if_neg t3]
          try rw [if_neg t7]
          try rw [if_pos (by decide)]
          rw [HB2.out, Out.bind_ok, HB3.out, Out.bind_ok, Ans.ok_]
          exact ⟨rfl, FR2.out.1, FR2.out.2⟩
    have e9 : (t == 9) = false := by simpa using t9
    by_cases t10 : t = 10
    · subst t10
      have C2 := file_number g B L vb pool vp s1 2 w2 CS0.out.rs (by omega) (by omega) 2 rfl
      cases hb2 : numP L 2 s1 with
      | bad p k =>
        rw [hb2, Ans.bad_] at C2
        have HB := Lib.hid hb2
        clear hb2
        go_wp2_with fail
        refine C2.mono ?_
        rintro e w3 ⟨rfl, ht⟩
        refine ⟨rfl, ?_⟩
        try rw [if_neg t1]
        try rw [if_neg t3]
        try rw [if_neg t7]
        try rw [if_pos (by decide)]
        rw [HB.out, Out.bind_bad, Ans.bad_]
        exact ⟨rfl, CS0.out.t.trans ht fun b hb => .inl hb⟩
      | ok m s2 =>
        rw [hb2, Ans.ok_] at C2
        have HB2 := Lib.hid hb2
        clear hb2
        go_wp2_with fail
        refine C2.mono ?_
        rintro e w3 ⟨rfl, hrs, ht, hm0, hm1⟩
        have CS1 := Lib.hid (CS0.out.next hB hrs ht)
        have f1 := CS1.out.c.frozen 3
        have c1 := CS1.out.c.cell 3
        simp at c1
        clear C2 hrs ht c0
        go_upto_region 15 with fail
        have CS3 := Lib.hid (CS1.out.put hB 3 (.int .i64 m))
        clear CS1 c1 f1
        generalize (w3.setCell ⟨h4, 3, none⟩ (.int .i64 m)) = w5 at *
        have C3 := file_number g B L vb pool vp s2 2 w5 CS3.out.rs (by omega) (by omega) 2 rfl
        cases hb3 : numP L 2 s2 with
        | bad p k =>
          rw [hb3, Ans.bad_] at C3
          have HB := Lib.hid hb3
          clear hb3
          go_wp2_with fail
          refine C3.mono ?_
          rintro e w3 ⟨rfl, ht⟩
          refine ⟨rfl, ?_⟩
          try rw [if_neg t1]
          try rw [if_neg t3]
          try rw [if_neg t7]
          try rw [if_pos (by decide)]
          rw [HB2.out, Out.bind_ok, HB.out, Out.bind_bad, Ans.bad_]
          exact ⟨rfl, CS3.out.t.trans ht fun b hb => .inl hb⟩
        | ok q s3 =>
          rw [hb3, Ans.ok_] at C3
          have HB3 := Lib.hid hb3
          clear hb3
          go_wp2_with fail
          refine C3.mono ?_
          rintro e w4 ⟨rfl, hrs, ht, hq0, hq1⟩
          have CS4 := Lib.hid (CS3.out.next hB hrs ht)
          have f1 := CS4.out.c.frozen 4
          have c1 := CS4.out.c.cell 4
          simp at c1
          clear C3 hrs ht
          go_upto_region 17 with fail
          have CS5 := Lib.hid (CS4.out.put hB 4 (.int .i64 q))
          clear CS4 CS3 c1 f1
          generalize (w4.setCell ⟨h4, 4, none⟩ (.int .i64 q)) = w6 at *
          have FI := CS5.out.fin hB (.int .i64 10) (.string ⟨#[]⟩) (.int .i64 0) (.int .i64 m) (.int .i64 q)
          have E0 := Lib.hid FI.1.e0
          have E1 := Lib.hid FI.1.e1
          have E2 := Lib.hid FI.1.e2
          have E3 := Lib.hid FI.1.e3
          have E4 := Lib.hid FI.1.e4
          have FR2 := Lib.hid FI.2
          have d0 := CS5.out.c.cell 0
          have d1 := CS5.out.c.cell 1
          have d2 := CS5.out.c.cell 2
          have d3 := CS5.out.c.cell 3
          have d4 := CS5.out.c.cell 4
          have g0 := CS5.out.z.frozen 0
          have g1 := CS5.out.z.frozen 1
          have g2 := CS5.out.z.frozen 2
          have g3 := CS5.out.z.frozen 3
          have g4 := CS5.out.z.frozen 4
          have y0 := CS5.out.z.cell 0
          have y1 := CS5.out.z.cell 1
          have y2 := CS5.out.z.cell 2
          have y3 := CS5.out.z.cell 3
          have y4 := CS5.out.z.cell 4
          have hne : ¬ (w.heap.size = h4) := by have := CS5.out.lo2; omega
          have hne2 : ¬ (h4 = w.heap.size) := by have := CS5.out.lo2; omega
          simp at d0 d1 d2 d3 d4 y0 y1 y2 y3 y4
          clear FI
          go_wp2_with fail
          refine bodyPost_ret (v := .agg #[.int .i64 10, .string ⟨#[]⟩, .int .i64 0, .int .i64 m, .int .i64 q]) (by simp [results, Try.results41, go_sem, E0.out, E1.out, E2.out, E3.out, E4.out]) rfl ?_
          try rw [if_neg t1]
          try rw [if_neg t3]
          try rw [if_neg t7]
          try rw [if_pos (by decide)]
          rw [HB2.out, Out.bind_ok, HB3.out, Out.bind_ok, Ans.ok_]
          exact ⟨rfl, FR2.out.1, FR2.out.2⟩
    have e10 : (t == 10) = false := by simpa using t10
    by_cases t11 : t = 11
    · subst t11
      have C2 := file_number g B L vb pool vp s1 2 w2 CS0.out.rs (by omega) (by omega) 2 rfl
      cases hb2 : numP L 2 s1 with
      | bad p k =>
        rw [hb2, Ans.bad_] at C2
        have HB := Lib.hid hb2
        clear hb2
        go_wp2_with fail
        refine C2.mono ?_
        rintro e w3 ⟨rfl, ht⟩
        refine ⟨rfl, ?_⟩
        try rw [if_neg t1]
        try rw [if_neg t3]
        try rw [if_neg t7]
        try rw [if_pos (by decide)]
        rw [HB.out, Out.bind_bad, Ans.bad_]
        exact ⟨rfl, CS0.out.t.trans ht fun b hb => .inl hb⟩
      | ok m s2 =>
        rw [hb2, Ans.ok_] at C2
        have HB2 := Lib.hid hb2
        clear hb2
        go_wp2_with fail
        refine C2.mono ?_
        rintro e w3 ⟨rfl, hrs, ht, hm0, hm1⟩
        have CS1 := Lib.hid (CS0.out.next hB hrs ht)
        have f1 := CS1.out.c.frozen 3
        have c1 := CS1.out.c.cell 3
        simp at c1
        clear C2 hrs ht c0
        go_upto_region 15 with fail
        have CS3 := Lib.hid (CS1.out.put hB 3 (.int .i64 m))
        clear CS1 c1 f1
        generalize (w3.setCell ⟨h4, 3, none⟩ (.int .i64 m)) = w5 at *
        have C3 := file_number g B L vb pool vp s2 2 w5 CS3.out.rs (by omega) (by omega) 2 rfl
        cases hb3 : numP L 2 s2 with
        | bad p k =>
          rw [hb3, Ans.bad_] at C3
          have HB := Lib.hid hb3
          clear hb3
          go_wp2_with fail
          refine C3.mono ?_
          rintro e w3 ⟨rfl, ht⟩
          refine ⟨rfl, ?_⟩
          try rw [if_neg t1]
          try rw [if_neg t3]
          try rw [if_neg t7]
          try rw [if_pos (by decide)]
          rw [HB2.out, Out.bind_ok, HB.out, Out.bind_bad, Ans.bad_]
          exact ⟨rfl, CS3.out.t.trans ht fun b hb => .inl hb⟩
        | ok q s3 =>
          rw [hb3, Ans.ok_] at C3
          have HB3 := Lib.hid hb3
          clear hb3
          go_wp2_with fail
          refine C3.mono ?_
          rintro e w4 ⟨rfl, hrs, ht, hq0, hq1⟩
          have CS4 := Lib.hid (CS3.out.next hB hrs ht)
          have f1 := CS4.out.c.frozen 4
          have c1 := CS4.out.c.cell 4
          simp at c1
          clear C3 hrs ht
          go_upto_region 17 with fail
          have CS5 := Lib.hid (CS4.out.put hB 4 (.int .i64 q))
          clear CS4 CS3 c1 f1
          generalize (w4.setCell ⟨h4, 4, none⟩ (.int .i64 q)) = w6 at *
          have FI := CS5.out.fin hB (.int .i64 11) (.string ⟨#[]⟩) (.int .i64 0) (.int .i64 m) (.int .i64 q)
          have E0 := Lib.hid FI.1.e0
          have E1 := Lib.hid FI.1.e1
          have E2 := Lib.hid FI.1.e2
          have E3 := Lib.hid FI.1.e3
          have E4 := Lib.hid FI.1.e4
          have FR2 := Lib.hid FI.2
          have d0 := CS5.out.c.cell 0
          have d1 := CS5.out.c.cell 1
          have d2 := CS5.out.c.cell 2
          have d3 := CS5.out.c.cell 3
          have d4 := CS5.out.c.cell 4
          have g0 := CS5.out.z.frozen 0
          have g1 := CS5.out.z.frozen 1
          have g2 := CS5.out.z.frozen 2
          have g3 := CS5.out.z.frozen 3
          have g4 := CS5.out.z.frozen 4
          have y0 := CS5.out.z.cell 0
          have y1 := CS5.out.z.cell 1
          have y2 := CS5.out.z.cell 2
          have y3 := CS5.out.z.cell 3
          have y4 := CS5.out.z.cell 4
          have hne : ¬ (w.heap.size = h4) := by have := CS5.out.lo2; omega
          have hne2 : ¬ (h4 = w.heap.size) := by have := CS5.out.lo2; omega
          simp at d0 d1 d2 d3 d4 y0 y1 y2 y3 y4
          clear FI
          go_wp2_with fail
          refine bodyPost_ret (v := .agg #[.int .i64 11, .string ⟨#[]⟩, .int .i64 0, .int .i64 m, .int .i64 q]) (by simp [results, Try.results41, go_sem, E0.out, E1.out, E2.out, E3.out, E4.out]) rfl ?_
          try rw [if_neg t1]
          try rw [if_neg t3]
          try rw [if_neg t7]
          try rw [if_pos (by decide)]
          rw [HB2.out, Out.bind_ok, HB3.out, Out.bind_ok, Ans.ok_]
          exact ⟨rfl, FR2.out.1, FR2.out.2⟩
    have e11 : (t == 11) = false := by simpa using t11
    by_cases t12 : t = 12
    · subst t12
      have C2 := file_number g B L vb pool vp s1 2 w2 CS0.out.rs (by omega) (by omega) 2 rfl
      cases hb2 : numP L 2 s1 with
      | bad p k =>
        rw [hb2, Ans.bad_] at C2
        have HB := Lib.hid hb2
        clear hb2
        go_wp2_with fail
        refine C2.mono ?_
        rintro e w3 ⟨rfl, ht⟩
        refine ⟨rfl, ?_⟩
        try rw [if_neg t1]
        try rw [if_neg t3]
        try rw [if_neg t7]
        try rw [if_pos (by decide)]
        rw [HB.out, Out.bind_bad, Ans.bad_]
        exact ⟨rfl, CS0.out.t.trans ht fun b hb => .inl hb⟩
      | ok m s2 =>
        rw [hb2, Ans.ok_] at C2
        have HB2 := Lib.hid hb2
        clear hb2
        go_wp2_with fail
        refine C2.mono ?_
        rintro e w3 ⟨rfl, hrs, ht, hm0, hm1⟩
        have CS1 := Lib.hid (CS0.out.next hB hrs ht)
        have f1 := CS1.out.c.frozen 3
        have c1 := CS1.out.c.cell 3
        simp at c1
        clear C2 hrs ht c0
        go_upto_region 15 with fail
        have CS3 := Lib.hid (CS1.out.put hB 3 (.int .i64 m))
        clear CS1 c1 f1
        generalize (w3.setCell ⟨h4, 3, none⟩ (.int .i64 m)) = w5 at *
        have C3 := file_number g B L vb pool vp s2 2 w5 CS3.out.rs (by omega) (by omega) 2 rfl
        cases hb3 : numP L 2 s2 with
        | bad p k =>
          rw [hb3, Ans.bad_] at C3
          have HB := Lib.hid hb3
          clear hb3
          go_wp2_with fail
          refine C3.mono ?_
          rintro e w3 ⟨rfl, ht⟩
          refine ⟨rfl, ?_⟩
          try rw [if_neg t1]
          try rw [if_neg t3]
          try rw [if_neg t7]
          try rw [if_pos (by decide)]
          rw [HB2.out, Out.bind_ok, HB.out, Out.bind_bad, Ans.bad_]
          exact ⟨rfl, CS3.out.t.trans ht fun b hb => .inl hb⟩
        | ok q s3 =>
          rw [hb3, Ans.ok_] at C3
          have HB3 := Lib.hid hb3
          clear hb3
          go_wp2_with fail
          refine C3.mono ?_
          rintro e w4 ⟨rfl, hrs, ht, hq0, hq1⟩
          have CS4 := Lib.hid (CS3.out.next hB hrs ht)
          have f1 := CS4.out.c.frozen 4
          have c1 := CS4.out.c.cell 4
          simp at c1
          clear C3 hrs ht
          go_upto_region 17 with fail
          have CS5 := Lib.hid (CS4.out.put hB 4 (.int .i64 q))
          clear CS4 CS3 c1 f1
          generalize (w4.setCell ⟨h4, 4, none⟩ (.int .i64 q)) = w6 at *
          have FI := CS5.out.fin hB (.int .i64 12) (.string ⟨#[]⟩) (.int .i64 0) (.int .i64 m) (.int .i64 q)
          have E0 := Lib.hid FI.1.e0
          have E1 := Lib.hid FI.1.e1
          have E2 := Lib.hid FI.1.e2
          have E3 := Lib.hid FI.1.e3
          have E4 := Lib.hid FI.1.e4
          have FR2 := Lib.hid FI.2
          have d0 := CS5.out.c.cell 0
          have d1 := CS5.out.c.cell 1
          have d2 := CS5.out.c.cell 2
          have d3 := CS5.out.c.cell 3
          have d4 := CS5.out.c.cell 4
          have g0 := CS5.out.z.frozen 0
          have g1 := CS5.out.z.frozen 1
          have g2 := CS5.out.z.frozen 2
          have g3 := CS5.out.z.frozen 3
          have g4 := CS5.out.z.frozen 4
          have y0 := CS5.out.z.cell 0
          have y1 := CS5.out.z.cell 1
          have y2 := CS5.out.z.cell 2
          have y3 := CS5.out.z.cell 3
          have y4 := CS5.out.z.cell 4
          have hne : ¬ (w.heap.size = h4) := by have := CS5.out.lo2; omega
          have hne2 : ¬ (h4 = w.heap.size) := by have := CS5.out.lo2; omega
          simp at d0 d1 d2 d3 d4 y0 y1 y2 y3 y4
          clear FI
          go_wp2_with fail
          refine bodyPost_ret (v := .agg #[.int .i64 12, .string ⟨#[]⟩, .int .i64 0, .int .i64 m, .int .i64 q]) (by simp [results, Try.results41, go_sem, E0.out, E1.out, E2.out, E3.out, E4.out]) rfl ?_
          try rw [if_neg t1]
          try rw [if_neg t3]
          try rw [if_neg t7]
          try rw [if_pos (by decide)]
          rw [HB2.out, Out.bind_ok, HB3.out, Out.bind_ok, Ans.ok_]
          exact ⟨rfl, FR2.out.1, FR2.out.2⟩
    have e12 : (t == 12) = false := by simpa using t12
    have T9 := Lib.hid (show ¬ (t = 9 ∨ t = 10 ∨ t = 11 ∨ t = 12) by omega)
    have CST := Lib.hid CS0.out.t
    go_wp2_with fail
    refine (file_wrong _ _ _ _).mono ?_
    rintro e w3 ⟨rfl, rfl⟩
    refine ⟨rfl, ?_⟩
    try rw [if_neg t1]
    try rw [if_neg t3]
    try rw [if_neg t7]
    try rw [if_neg T9.out]
    try rw [Ans.bad_]
    exact ⟨rfl, CST.out⟩
end Go.Proofs.Ytbalmfoboaapjaa
