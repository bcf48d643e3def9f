/-
  Package file by contract: Read, its deferred closure.
-/
import Derived.Test.YtbalmfoboaapjaaFileE
import Derived.Recover
import Derived.Defers
import Derived.Laws.Pointers
namespace Go.Proofs.Ytbalmfoboaapjaa
open Go.RowKit
set_option maxRecDepth 100000

def z9 : Array Value := #[.int .i64 0, .int .i64 0, .slice none 0 0, .int .i64 0, .int .i64 0, .int .i64 0, .slice none 0 0, .slice none 0 0, .slice none 0 0]
/-- The results of Read in their blocks. -/
structure RB (b : Nat) (cs : Array Value) (p k : Int) (w : World) : Prop where
  c : Blk w b 27 cs
  p : Blk w (b + 1) 3 #[.int .i64 p]
  k : Blk w (b + 2) 32 #[.int .i64 k]

theorem RB.put {W : World} {b : Nat} {c0 : Array Value} {x y : Int} (h : RB b c0 x y W) (hc0 : c0.size = 9) (u0 u1 u2 u3 u4 u5 u6 u7 u8 : Value) (p k : Int) :
    RB b #[u0, u1, u2, u3, u4, u5, u6, u7, u8] p k ((((((((((((W.setCell ⟨b, 0, none⟩ u0).setCell ⟨b, 1, none⟩ u1).setCell ⟨b, 2, none⟩ u2).setCell ⟨b, 3, none⟩ u3).setCell ⟨b, 4, none⟩ u4).setCell ⟨b, 5, none⟩ u5).setCell ⟨b, 6, none⟩ u6).setCell ⟨b, 7, none⟩ u7).setCell ⟨b, 8, none⟩ u8)).setCell ⟨b + 1, 0, none⟩ (.int .i64 p)).setCell ⟨b + 2, 0, none⟩ (.int .i64 k)) ∧ Touch (fun i => i = b ∨ i = b + 1 ∨ i = b + 2) W ((((((((((((W.setCell ⟨b, 0, none⟩ u0).setCell ⟨b, 1, none⟩ u1).setCell ⟨b, 2, none⟩ u2).setCell ⟨b, 3, none⟩ u3).setCell ⟨b, 4, none⟩ u4).setCell ⟨b, 5, none⟩ u5).setCell ⟨b, 6, none⟩ u6).setCell ⟨b, 7, none⟩ u7).setCell ⟨b, 8, none⟩ u8)).setCell ⟨b + 1, 0, none⟩ (.int .i64 p)).setCell ⟨b + 2, 0, none⟩ (.int .i64 k)) := by
  have hT : Touch (fun i => i = b) W ((((((((((W.setCell ⟨b, 0, none⟩ u0).setCell ⟨b, 1, none⟩ u1).setCell ⟨b, 2, none⟩ u2).setCell ⟨b, 3, none⟩ u3).setCell ⟨b, 4, none⟩ u4).setCell ⟨b, 5, none⟩ u5).setCell ⟨b, 6, none⟩ u6).setCell ⟨b, 7, none⟩ u7).setCell ⟨b, 8, none⟩ u8)) := ((((((((((Touch.refl _ _).one 0 u0).one 1 u1).one 2 u2).one 3 u3).one 4 u4).one 5 u5).one 6 u6).one 7 u7).one 8 u8)
  have hc : Blk ((((((((((W.setCell ⟨b, 0, none⟩ u0).setCell ⟨b, 1, none⟩ u1).setCell ⟨b, 2, none⟩ u2).setCell ⟨b, 3, none⟩ u3).setCell ⟨b, 4, none⟩ u4).setCell ⟨b, 5, none⟩ u5).setCell ⟨b, 6, none⟩ u6).setCell ⟨b, 7, none⟩ u7).setCell ⟨b, 8, none⟩ u8)) b 27 #[u0, u1, u2, u3, u4, u5, u6, u7, u8] := by
    obtain ⟨l, rfl⟩ : ∃ l : List Value, c0 = l.toArray := ⟨c0.toList, rfl⟩
    match l, hc0 with
    | [a1, a2, a3, a4, a5, a6, a7, a8, a9], _ =>
      have := (((((((((h.c.set_ 0 u0).set_ 1 u1).set_ 2 u2).set_ 3 u3).set_ 4 u4).set_ 5 u5).set_ 6 u6).set_ 7 u7).set_ 8 u8)
      simpa using this
  generalize ((((((((((W.setCell ⟨b, 0, none⟩ u0).setCell ⟨b, 1, none⟩ u1).setCell ⟨b, 2, none⟩ u2).setCell ⟨b, 3, none⟩ u3).setCell ⟨b, 4, none⟩ u4).setCell ⟨b, 5, none⟩ u5).setCell ⟨b, 6, none⟩ u6).setCell ⟨b, 7, none⟩ u7).setCell ⟨b, 8, none⟩ u8)) = V at *
  have h1 := h.p.touch hT (by omega)
  have h2 := h.k.touch hT (by omega)
  refine ⟨⟨(hc.far (p := ⟨b + 1, 0, none⟩) (by show b ≠ b + 1; omega) _).far (p := ⟨b + 2, 0, none⟩) (by show b ≠ b + 2; omega) _, ?_, ?_⟩, ?_⟩
  · refine Blk.far (p := ⟨b + 2, 0, none⟩) ?_ (by show b + 1 ≠ b + 2; omega) _
    simpa using h1.set_ 0 (.int .i64 p)
  · have := (h2.far (p := ⟨b + 1, 0, none⟩) (by show b + 2 ≠ b + 1; omega) (.int .i64 p)).set_ 0 (.int .i64 k)
    simpa using this
  · exact (((hT.mono (S' := fun i => i = b ∨ i = b + 1 ∨ i = b + 2) fun i hi => .inl hi).setCell (p := ⟨b + 1, 0, none⟩) (.inl (.inr (.inl rfl))) _).setCell (p := ⟨b + 2, 0, none⟩) (.inl (.inr (.inr rfl))) _)

theorem RB.drew {b : Nat} {cs : Array Value} {p k : Int} {w : World} (h : RB b cs p k w) : RB b cs p k w.drew := ⟨h.c.drewN 1, h.p.drewN 1, h.k.drewN 1⟩
theorem catch_idle3 (v2 v3 v4 : Value) (w : World) :
    CallsD Try.prog 30 #[v2, v3, v4] .returning w fun e u' w' => e = .returned (.tuple #[]) ∧ u' = .returning ∧ w' = w := by
  refine callsD_of_wpS Try.func30 rfl fun c₀ cs hu => ?_
  apply wpS_seq
  apply wpS_region
  simp [wpOpsS, go_sem, recoverD, hu, Try.ntmps30, Exit.thenS]
  refine wpS_of_wp ?_
  rw [show (#[v2, v3, v4] ++ ((Array.replicate 19 undef).setIfInBounds 3 Value.nilIface).setIfInBounds 0 Value.nilIface) = #[v2, v3, v4, .nilIface, undef, undef, .nilIface, undef, undef, undef, undef, undef, undef, undef, undef, undef, undef, undef, undef, undef, undef, undef] by kernel_rfl]
  go_wp2_with fail
  cases c₀
  simp_all [bodyPostS, results, Try.results30]

theorem catch_stop (b : Nat) (c0 : Array Value) (hc0 : c0.size = 9) (x y p k : Int) (older : List PanicEntry) (w : World) (h : RB b c0 x y w) :
    CallsD Try.prog 30 #[.pointer (some ⟨b, 0, none⟩), .pointer (some ⟨b + 1, 0, none⟩), .pointer (some ⟨b + 2, 0, none⟩)] (.panicking ({ v := stopV p k, recovered := false } :: older)) w fun e u' w' =>
      e = .returned (.tuple #[]) ∧ u' = .panicking ({ v := stopV p k, recovered := true } :: older) ∧ RB b z9 p k w' ∧ Touch (fun i => i = b ∨ i = b + 1 ∨ i = b + 2) w w' := by
  refine callsD_of_wpS Try.func30 rfl fun c₀ cs hu => ?_
  apply wpS_seq
  apply wpS_region
  simp [wpOpsS, go_sem, recoverD, hu, Try.ntmps30, Exit.thenS]
  refine wpS_of_wp ?_
  rw [show (#[Value.pointer (some ⟨b, 0, none⟩), Value.pointer (some ⟨b + 1, 0, none⟩), Value.pointer (some ⟨b + 2, 0, none⟩)] ++ ((Array.replicate 19 undef).setIfInBounds 3 (stopV p k)).setIfInBounds 0 (stopV p k)) = #[Value.pointer (some ⟨b, 0, none⟩), Value.pointer (some ⟨b + 1, 0, none⟩), Value.pointer (some ⟨b + 2, 0, none⟩), stopV p k, undef, undef, stopV p k, undef, undef, undef, undef, undef, undef, undef, undef, undef, undef, undef, undef, undef, undef, undef] by kernel_rfl]
  have hta : ∀ (v : Value) (W : World), (Instr.typeAssert (.iface 71 v) 20 71 true).run Try.prog W = .ok (.tuple #[v, .bool true]) W := by
    intro v W
    kernel_rfl
  unfold stopV
  have hA : RB b c0 x y (w.alloc (.cells #[.int .i64 p, .int .i64 k] 71)) := ⟨h.c.alloc _, h.p.alloc _, h.k.alloc _⟩
  have hT0 := (Touch.refl (fun i => i = b ∨ i = b + 1 ∨ i = b + 2) w).alloc (.cells #[.int .i64 p, .int .i64 k] 71)
  have HQ := Lib.hid (And.intro (hA.put hc0 (.int .i64 0) (.int .i64 0) (.slice none 0 0) (.int .i64 0) (.int .i64 0) (.int .i64 0) (.slice none 0 0) (.slice none 0 0) (.slice none 0 0) p k).1 (hT0.trans (hA.put hc0 (.int .i64 0) (.int .i64 0) (.slice none 0 0) (.int .i64 0) (.int .i64 0) (.int .i64 0) (.slice none 0 0) (.slice none 0 0) (.slice none 0 0) p k).2 fun i hi => .inl hi))
  clear hT0
  have y0 := (Blk.new w 71 #[.int .i64 p, .int .i64 k]).cell 0
  have y1 := (Blk.new w 71 #[.int .i64 p, .int .i64 k]).cell 1
  simp only [List.getElem?_toArray, List.getElem?_cons_succ, List.getElem?_cons_zero] at y0 y1
  have l0 := hA.c.lt
  have l1 := hA.p.lt
  have l2 := hA.k.lt
  have i0 := hA.c.frozen 0
  have i1 := hA.c.frozen 1
  have i2 := hA.c.frozen 2
  have i3 := hA.c.frozen 3
  have i4 := hA.c.frozen 4
  have i5 := hA.c.frozen 5
  have i6 := hA.c.frozen 6
  have i7 := hA.c.frozen 7
  have i8 := hA.c.frozen 8
  have ip := hA.p.frozen 0
  have ik := hA.k.frozen 0
  have ep := hA.p.cell 0
  have ek := hA.k.cell 0
  simp only [List.getElem?_toArray, List.getElem?_cons_succ, List.getElem?_cons_zero] at ep ek
  obtain ⟨l, rfl⟩ : ∃ l : List Value, c0 = l.toArray := ⟨c0.toList, rfl⟩
  match l, hc0 with
  | [a1, a2, a3, a4, a5, a6, a7, a8, a9], _ =>
  have e0 := hA.c.cell 0
  have e1 := hA.c.cell 1
  have e2 := hA.c.cell 2
  have e3 := hA.c.cell 3
  have e4 := hA.c.cell 4
  have e5 := hA.c.cell 5
  have e6 := hA.c.cell 6
  have e7 := hA.c.cell 7
  have e8 := hA.c.cell 8
  simp only [List.getElem?_toArray, List.getElem?_cons_succ, List.getElem?_cons_zero] at e0 e1 e2 e3 e4 e5 e6 e7 e8
  have n1 : ¬ (w.heap.size = b) := by have := h.c.lt; omega
  have n2 : ¬ (b = w.heap.size) := fun e => n1 e.symm
  have n3 : ¬ (w.heap.size = b + 1) := by have := h.p.lt; omega
  have n4 : ¬ (b + 1 = w.heap.size) := fun e => n3 e.symm
  have n5 : ¬ (w.heap.size = b + 2) := by have := h.k.lt; omega
  have n6 : ¬ (b + 2 = w.heap.size) := fun e => n5 e.symm
  clear h hA
  go_upto_region 5 with fail
  generalize hWA : w.alloc (.cells #[.int .i64 p, .int .i64 k] 71) = WA at *
  go_region_held2 (fun w' => w'.cell? ⟨w.heap.size, 0, none⟩ = some (.int .i64 p) ∧ w'.cell? ⟨w.heap.size, 1, none⟩ = some (.int .i64 k)) (go_keep) (fail)
  generalize ((((((((((WA.setCell ⟨b, 0, none⟩ (.int .i64 0)).setCell ⟨b, 1, none⟩ (.int .i64 0)).setCell ⟨b, 2, none⟩ (.slice none 0 0)).setCell ⟨b, 3, none⟩ (.int .i64 0)).setCell ⟨b, 4, none⟩ (.int .i64 0)).setCell ⟨b, 5, none⟩ (.int .i64 0)).setCell ⟨b, 6, none⟩ (.slice none 0 0)).setCell ⟨b, 7, none⟩ (.slice none 0 0)).setCell ⟨b, 8, none⟩ (.slice none 0 0)).setCell ⟨b + 1, 0, none⟩ (.int .i64 p)).setCell ⟨b + 2, 0, none⟩ (.int .i64 k) = WZ at *
  have HF := Lib.hid (And.intro HQ.out.1.drew HQ.out.2.drew)
  generalize WZ.drew = WY at *
  clear HQ
  exact ⟨rfl, _, rfl, _, results_none rfl _ _ _, rfl, rfl, HF.out⟩

/-- What Read hands back. -/
def ReadG (L : List UInt8) (w : World) (e : Ending) (w' : World) : Prop :=
  ∃ mv vP vI vF vM, e = .returned (.tuple #[.agg (classV (readP L).1 vP vI vF vM).toArray, .int .i64 (readP L).2.1, .int .i64 (readP L).2.2]) ∧ CR w.heap.size (readP L).1 mv vP vI vF vM w' ∧ Kept w w'
theorem CR.zero (base : Nat) (w : World) : CR base zeroC [] (.slice none 0 0) (.slice none 0 0) (.slice none 0 0) (.slice none 0 0) w :=
  ⟨World.ownsRow_nil _ _ _ _, World.ownsRow_nil _ _ _ _, World.ownsRow_nil _ _ _ _, World.ownsRow_nil _ _ _ _, fun x hx => (by cases hx), rfl⟩
set_option maxHeartbeats 4000000 in
theorem file_Read_long (L : List UInt8) (vb : Value) (w : World) (hrd : Rd w 1 vb L.length (L.map byteV)) (hl : 65536 < L.length) :
    Calls Try.prog 17 #[vb] w (ReadG L w) := by
  obtain ⟨_, a, c, rfl, h1, h2, h3⟩ := hrd
  have hltJ : (65536 : Int) < (L.length : Int) := by omega
  have hmf : ∀ (fn : Fn) (first cap : Array Value) (w : World), (Instr.makeFunc fn first cap).run Try.prog w = .ok (.func fn first cap) w := fun _ _ _ _ => rfl
  have hR0 : RB w.heap.size z9 0 0 (((w.alloc (.cells #[.int .i64 0, .int .i64 0, .slice none 0 0, .int .i64 0, .int .i64 0, .int .i64 0, .slice none 0 0, .slice none 0 0, .slice none 0 0] 27)).alloc (.cells #[.int .i64 0] 3)).alloc (.cells #[.int .i64 0] 32)) :=
    ⟨((Blk.new _ _ _).alloc _).alloc _, (blkF (by simp)).alloc _, blkF (by simp)⟩
  have hT0 : Touch (fun _ => False) w (((w.alloc (.cells #[.int .i64 0, .int .i64 0, .slice none 0 0, .int .i64 0, .int .i64 0, .int .i64 0, .slice none 0 0, .slice none 0 0, .slice none 0 0] 27)).alloc (.cells #[.int .i64 0] 3)).alloc (.cells #[.int .i64 0] 32)) := (((Touch.refl _ _).alloc _).alloc _).alloc _
  go_enter_defers Try.func17, Try.ntmps17
  go_wp2_with fail
  generalize (((w.alloc (.cells #[.int .i64 0, .int .i64 0, .slice none 0 0, .int .i64 0, .int .i64 0, .int .i64 0, .slice none 0 0, .slice none 0 0, .slice none 0 0] 27)).alloc (.cells #[.int .i64 0] 3)).alloc (.cells #[.int .i64 0] 32)) = W3 at *
  refine leaves_cons (f := 30) (args := #[.pointer (some ⟨w.heap.size, 0, none⟩), .pointer (some ⟨w.heap.size + 1, 0, none⟩), .pointer (some ⟨w.heap.size + 2, 0, none⟩)]) (by simp) (by simp [go_sem]) ?_
  refine (catch_stop w.heap.size z9 rfl 0 0 0 2 [] W3 hR0).mono ?_
  rintro e u' w9 ⟨rfl, rfl, hrb, ht⟩
  have HK := Lib.hid (hT0.trans ht fun i hi => .inr (by omega))
  have c0 := hrb.c.cell 0
  have c1 := hrb.c.cell 1
  have c2 := hrb.c.cell 2
  have c3 := hrb.c.cell 3
  have c4 := hrb.c.cell 4
  have c5 := hrb.c.cell 5
  have c6 := hrb.c.cell 6
  have c7 := hrb.c.cell 7
  have c8 := hrb.c.cell 8
  have cp := hrb.p.cell 0
  have ck := hrb.k.cell 0
  simp only [z9, List.getElem?_toArray, List.getElem?_cons_succ, List.getElem?_cons_zero] at c0 c1 c2 c3 c4 c5 c6 c7 c8 cp ck
  clear hrb ht hT0 hR0
  have HP : readP L = (zeroC, 0, 2) := by unfold readP; rw [if_pos hl]
  simp only [settle]
  refine ⟨.tuple #[.agg (classV zeroC (.slice none 0 0) (.slice none 0 0) (.slice none 0 0) (.slice none 0 0)).toArray, .int .i64 0, .int .i64 2], ?_, ?_⟩
  · simp [results, Try.results17, go_sem, classV, zeroC, c0, c1, c2, c3, c4, c5, c6, c7, c8, cp, ck]
  · unfold ReadG
    rw [HP]
    exact ⟨[], _, _, _, _, rfl, CR.zero _ _, HK.out.below (fun b e => e.elim) (Nat.le_refl _)⟩
theorem rd_nil (w : World) (sz : Nat) : Rd w sz (.slice none 0 0) 0 [] := ⟨by simp, none, 0, rfl, Nat.le_refl _, by omega, fun h => absurd h (by omega)⟩
theorem rd_block {w : World} {L : List UInt8} {v : Value} (h : Rd w 1 v L.length (L.map byteV)) : 0 < L.length → ∀ k, v.ownBlock = some k → k < w.heap.size := by
  obtain ⟨_, a, c, rfl, h1, h2, h3⟩ := h
  intro h0 k hk
  obtain ⟨b, off, rfl, hc⟩ := h3 h0
  simp only [Value.ownBlock, Option.some.injEq] at hk
  subst hk
  obtain ⟨u, hu⟩ : ∃ u, (L.map byteV)[0]? = some u := ⟨_, List.getElem?_eq_getElem (by simpa using h0)⟩
  exact World.block_lt_of_cell? w _ (hc 0 u hu)
set_option maxHeartbeats 4000000 in
theorem file_Read (L : List UInt8) (vb : Value) (w : World) (hrd : Rd w 1 vb L.length (L.map byteV)) :
    Calls Try.prog 17 #[vb] w (ReadG L w) := by
  by_cases hl : 65536 < L.length
  · exact file_Read_long L vb w hrd hl
  have HRD := Lib.hid hrd
  have hbk := rd_block hrd
  obtain ⟨_, a, c, rfl, h1, h2, h3⟩ := hrd
  have hltJ : ¬ (65536 : Int) < (L.length : Int) := by omega
  have hmf : ∀ (fn : Fn) (first cap : Array Value) (w : World), (Instr.makeFunc fn first cap).run Try.prog w = .ok (.func fn first cap) w := fun _ _ _ _ => rfl
  have hR0 : RB w.heap.size z9 0 0 ((((w.alloc (.cells #[.int .i64 0, .int .i64 0, .slice none 0 0, .int .i64 0, .int .i64 0, .int .i64 0, .slice none 0 0, .slice none 0 0, .slice none 0 0] 27)).alloc (.cells #[.int .i64 0] 3)).alloc (.cells #[.int .i64 0] 32)).alloc (.cells #[.slice a L.length c, .int .i64 0, .int .i64 4611686018427387904, .int .i64 0, .slice none 0 0] 75)) :=
    ⟨(((Blk.new _ _ _).alloc _).alloc _).alloc _, ((blkF (by simp)).alloc _).alloc _, (blkF (by simp)).alloc _⟩
  have hT0 : Touch (fun _ => False) w ((((w.alloc (.cells #[.int .i64 0, .int .i64 0, .slice none 0 0, .int .i64 0, .int .i64 0, .int .i64 0, .slice none 0 0, .slice none 0 0, .slice none 0 0] 27)).alloc (.cells #[.int .i64 0] 3)).alloc (.cells #[.int .i64 0] 32)).alloc (.cells #[.slice a L.length c, .int .i64 0, .int .i64 4611686018427387904, .int .i64 0, .slice none 0 0] 75)) := ((((Touch.refl _ _).alloc _).alloc _).alloc _).alloc _
  have hS : RS ((((w.alloc (.cells #[.int .i64 0, .int .i64 0, .slice none 0 0, .int .i64 0, .int .i64 0, .int .i64 0, .slice none 0 0, .slice none 0 0, .slice none 0 0] 27)).alloc (.cells #[.int .i64 0] 3)).alloc (.cells #[.int .i64 0] 32)).alloc (.cells #[.slice a L.length c, .int .i64 0, .int .i64 4611686018427387904, .int .i64 0, .slice none 0 0] 75)) (w.heap.size + 3) (w.heap.size + 4) L (.slice a L.length c) [] (.slice none 0 0) ⟨0, far, 0⟩ :=
    ⟨blkF (by simp), HRD.out.touch hT0 fun _ _ _ e => e.elim, fun h0 k hk => by have := hbk h0 k hk; omega, rd_nil _ _, fun h0 => absurd h0 (by simp), by omega, by simp, by omega, by simp, by simp, by unfold far; simp, by simp⟩
  have hz4 : ((((w.alloc (.cells #[.int .i64 0, .int .i64 0, .slice none 0 0, .int .i64 0, .int .i64 0, .int .i64 0, .slice none 0 0, .slice none 0 0, .slice none 0 0] 27)).alloc (.cells #[.int .i64 0] 3)).alloc (.cells #[.int .i64 0] 32)).alloc (.cells #[.slice a L.length c, .int .i64 0, .int .i64 4611686018427387904, .int .i64 0, .slice none 0 0] 75)).heap.size = w.heap.size + 4 := by simp
  clear HRD hbk h1 h2 h3
  have HP : readP L = (match classP L ⟨0, far, 0⟩ with
    | .ok c _ => (c, 0, 0)
    | .bad p e => (zeroC, p, e)) := by
    unfold readP
    rw [if_neg hl]
    cases classP L ⟨0, far, 0⟩ <;> rfl
  cases hcl : classP L ⟨0, far, 0⟩ with
  | bad p k =>
    rw [hcl] at HP
    have HP := Lib.hid HP
    go_enter_defers Try.func17, Try.ntmps17
    go_wp2_with fail
    generalize (((w.alloc (.cells #[.int .i64 0, .int .i64 0, .slice none 0 0, .int .i64 0, .int .i64 0, .int .i64 0, .slice none 0 0, .slice none 0 0, .slice none 0 0] 27)).alloc (.cells #[.int .i64 0] 3)).alloc (.cells #[.int .i64 0] 32)).alloc (.cells #[.slice a L.length c, .int .i64 0, .int .i64 4611686018427387904, .int .i64 0, .slice none 0 0] 75) = W4 at *
    have C := file_class _ _ L _ _ W4 hS
    rw [hcl, Ans.bad_] at C
    refine C.mono ?_
    rintro e w5 ⟨rfl, ht⟩
    have hrb : RB w.heap.size z9 0 0 w5 := ⟨hR0.c.touch ht (by omega), hR0.p.touch ht (by omega), hR0.k.touch ht (by omega)⟩
    have hT1 := hT0.trans ht fun i hi => .inr (by omega)
    clear C ht hR0 hT0 hS
    refine leaves_cons (f := 30) (args := #[.pointer (some ⟨w.heap.size, 0, none⟩), .pointer (some ⟨w.heap.size + 1, 0, none⟩), .pointer (some ⟨w.heap.size + 2, 0, none⟩)]) (by simp) (by simp [go_sem]) ?_
    refine (catch_stop w.heap.size z9 rfl 0 0 p k [] w5 hrb).mono ?_
    rintro e u' w9 ⟨rfl, rfl, hrb9, ht⟩
    have HK := Lib.hid (hT1.trans ht fun i hi => .inr (by omega))
    have c0 := hrb9.c.cell 0
    have c1 := hrb9.c.cell 1
    have c2 := hrb9.c.cell 2
    have c3 := hrb9.c.cell 3
    have c4 := hrb9.c.cell 4
    have c5 := hrb9.c.cell 5
    have c6 := hrb9.c.cell 6
    have c7 := hrb9.c.cell 7
    have c8 := hrb9.c.cell 8
    have cp := hrb9.p.cell 0
    have ck := hrb9.k.cell 0
    simp only [z9, List.getElem?_toArray, List.getElem?_cons_succ, List.getElem?_cons_zero] at c0 c1 c2 c3 c4 c5 c6 c7 c8 cp ck
    clear hrb9 ht hrb hT1
    simp only [settle]
    refine ⟨.tuple #[.agg (classV zeroC (.slice none 0 0) (.slice none 0 0) (.slice none 0 0) (.slice none 0 0)).toArray, .int .i64 p, .int .i64 k], ?_, ?_⟩
    · simp [results, Try.results17, go_sem, classV, zeroC, c0, c1, c2, c3, c4, c5, c6, c7, c8, cp, ck]
    · unfold ReadG
      rw [HP.out]
      exact ⟨[], _, _, _, _, rfl, CR.zero _ _, HK.out.below (fun b e => e.elim) (Nat.le_refl _)⟩
  | ok cl s' =>
    rw [hcl] at HP
    have HP := Lib.hid HP
    go_enter_defers Try.func17, Try.ntmps17
    go_wp2_with fail
    generalize (((w.alloc (.cells #[.int .i64 0, .int .i64 0, .slice none 0 0, .int .i64 0, .int .i64 0, .int .i64 0, .slice none 0 0, .slice none 0 0, .slice none 0 0] 27)).alloc (.cells #[.int .i64 0] 3)).alloc (.cells #[.int .i64 0] 32)).alloc (.cells #[.slice a L.length c, .int .i64 0, .int .i64 4611686018427387904, .int .i64 0, .slice none 0 0] 75) = W4 at *
    have C := file_class _ _ L _ _ W4 hS
    rw [hcl, Ans.ok_] at C
    refine C.mono ?_
    rintro e w5 ⟨mv, vP, vI, vF, vM, he, hcr, ht⟩
    obtain ⟨aP, cP, rfl, -, -⟩ := own_slice hcr.p
    obtain ⟨aI, cI, rfl, -, -⟩ := own_slice hcr.i
    obtain ⟨aF, cF, rfl, -, -⟩ := own_slice hcr.f
    obtain ⟨aM, cM, rfl, -, -⟩ := own_slice hcr.m
    have he : e = .returned (.agg #[.int .i64 cl.minor, .int .i64 cl.major, .slice aP cl.pool.length cP, .int .i64 cl.access, .int .i64 cl.this, .int .i64 cl.super, .slice aI cl.ifaces.length cI, .slice aF cl.fields.length cF, .slice aM mv.length cM]) := he
    subst he
    have hrb : RB w.heap.size z9 0 0 w5 := ⟨hR0.c.touch ht (by omega), hR0.p.touch ht (by omega), hR0.k.touch ht (by omega)⟩
    have hT1 := hT0.trans ht fun i hi => .inr (by omega)
    have HRB := Lib.hid (hrb.put rfl (.int .i64 cl.minor) (.int .i64 cl.major) (.slice aP cl.pool.length cP) (.int .i64 cl.access) (.int .i64 cl.this) (.int .i64 cl.super) (.slice aI cl.ifaces.length cI) (.slice aF cl.fields.length cF) (.slice aM mv.length cM) 0 0)
    have HK := Lib.hid (hT1.trans HRB.out.2 fun i hi => .inr (by omega))
    have HCR := Lib.hid ((hcr.touch HRB.out.2 fun i hi => by omega).mono (show w.heap.size ≤ W4.heap.size by omega))
    have c0 := hrb.c.cell 0
    have i0 := hrb.c.frozen 0
    have c1 := hrb.c.cell 1
    have i1 := hrb.c.frozen 1
    have c2 := hrb.c.cell 2
    have i2 := hrb.c.frozen 2
    have c3 := hrb.c.cell 3
    have i3 := hrb.c.frozen 3
    have c4 := hrb.c.cell 4
    have i4 := hrb.c.frozen 4
    have c5 := hrb.c.cell 5
    have i5 := hrb.c.frozen 5
    have c6 := hrb.c.cell 6
    have i6 := hrb.c.frozen 6
    have c7 := hrb.c.cell 7
    have i7 := hrb.c.frozen 7
    have c8 := hrb.c.cell 8
    have i8 := hrb.c.frozen 8
    have cp := hrb.p.cell 0
    have ck := hrb.k.cell 0
    have ip := hrb.p.frozen 0
    have ik := hrb.k.frozen 0
    have l0 := hrb.c.lt
    have l1 := hrb.p.lt
    have l2 := hrb.k.lt
    simp only [z9, List.getElem?_toArray, List.getElem?_cons_succ, List.getElem?_cons_zero] at c0 c1 c2 c3 c4 c5 c6 c7 c8 cp ck
    clear C ht hR0 hT0 hS hT1 hrb hcr
    go_wp2_with fail
    clear c0 c1 c2 c3 c4 c5 c6 c7 c8 cp ck i0 i1 i2 i3 i4 i5 i6 i7 i8 ip ik l0 l1 l2
    generalize ((((((((((w5.setCell ⟨w.heap.size, 0, none⟩ (.int .i64 cl.minor)).setCell ⟨w.heap.size, 1, none⟩ (.int .i64 cl.major)).setCell ⟨w.heap.size, 2, none⟩ (.slice aP cl.pool.length cP)).setCell ⟨w.heap.size, 3, none⟩ (.int .i64 cl.access)).setCell ⟨w.heap.size, 4, none⟩ (.int .i64 cl.this)).setCell ⟨w.heap.size, 5, none⟩ (.int .i64 cl.super)).setCell ⟨w.heap.size, 6, none⟩ (.slice aI cl.ifaces.length cI)).setCell ⟨w.heap.size, 7, none⟩ (.slice aF cl.fields.length cF)).setCell ⟨w.heap.size, 8, none⟩ (.slice aM mv.length cM)).setCell ⟨w.heap.size + 1, 0, none⟩ (.int .i64 0)).setCell ⟨w.heap.size + 2, 0, none⟩ (.int .i64 0) = WZ at *
    refine leaves_cons (f := 30) (args := #[.pointer (some ⟨w.heap.size, 0, none⟩), .pointer (some ⟨w.heap.size + 1, 0, none⟩), .pointer (some ⟨w.heap.size + 2, 0, none⟩)]) (by simp) (by simp [go_sem]) ?_
    refine (catch_idle3 _ _ _ WZ).mono ?_
    rintro e u' w9 ⟨rfl, rfl, rfl⟩
    have c0 := HRB.out.1.c.cell 0
    have c1 := HRB.out.1.c.cell 1
    have c2 := HRB.out.1.c.cell 2
    have c3 := HRB.out.1.c.cell 3
    have c4 := HRB.out.1.c.cell 4
    have c5 := HRB.out.1.c.cell 5
    have c6 := HRB.out.1.c.cell 6
    have c7 := HRB.out.1.c.cell 7
    have c8 := HRB.out.1.c.cell 8
    have cp := HRB.out.1.p.cell 0
    have ck := HRB.out.1.k.cell 0
    simp only [List.getElem?_toArray, List.getElem?_cons_succ, List.getElem?_cons_zero] at c0 c1 c2 c3 c4 c5 c6 c7 c8 cp ck
    simp only [settle]
    refine ⟨.tuple #[.agg (classV cl (.slice aP cl.pool.length cP) (.slice aI cl.ifaces.length cI) (.slice aF cl.fields.length cF) (.slice aM mv.length cM)).toArray, .int .i64 0, .int .i64 0], ?_, ?_⟩
    · simp [results, Try.results17, go_sem, classV, c0, c1, c2, c3, c4, c5, c6, c7, c8, cp, ck]
    · unfold ReadG
      rw [HP.out]
      exact ⟨mv, _, _, _, _, rfl, HCR.out, HK.out.below (fun b e => e.elim) (Nat.le_refl _)⟩
end Go.Proofs.Ytbalmfoboaapjaa
