/-
  Package check by contract: the first rule that is broken.
-/
import Derived.Test.YtcklmhbcjgiplaaCk4
namespace Go.Proofs.Ytcklmhbcjgiplaa
set_option linter.unusedVariables false
set_option linter.unusedSimpArgs false
open Go.RowKit
set_option maxRecDepth 100000

theorem call_enter {P : Program} {f : FuncId} {fn : Func} {c : Code} (hf : P.funcs[f]? = some fn) (hname : (fn.name == "runtime.NumGoroutine") = false) (hb : fn.body = some c) (args : Array Value) (w : World) : (callFunc f args).run P w = .ok (.enter f args) w := by
  have h1 : fn.name ≠ "runtime.NumGoroutine" := by simpa using hname
  simp [callFunc, hf, h1, hb]
/-- A rule: what it tells, the function that looks, what that holds. -/
structure RuleC where
  e : Int
  f : Nat
  caps : Array Value
def encR (r : RuleC) : List Value := [.int .i64 r.e, .func (.func r.f) #[] r.caps]
/-- The first rule from k on that is broken. -/
def firstE (bs : Nat → Bool) : Nat → List RuleC → Int
  | _, [] => 0
  | k, r :: l => if bs k = true then r.e else firstE bs (k + 1) l
theorem firstE_at {bs : Nat → Bool} : ∀ (k : Nat) (L : List RuleC) (j : Nat) (r : RuleC), L[j]? = some r → (∀ i, i < j → bs (k + i) = false) → bs (k + j) = true → firstE bs k L = r.e
  | k, x :: L, 0, r, h, _, hb => by
    cases h
    unfold firstE
    rw [if_pos (by simpa using hb)]
  | k, x :: L, j + 1, r, h, hn, hb => by
    unfold firstE
    rw [if_neg (by rw [show bs k = false by simpa using hn 0 (by omega)]; decide)]
    exact firstE_at (k + 1) L j r (by simpa using h) (fun i hi => by rw [show k + 1 + i = k + (i + 1) by omega]; exact hn (i + 1) (by omega)) (by rw [show k + 1 + j = k + (j + 1) by omega]; exact hb)
theorem firstE_none {bs : Nat → Bool} : ∀ (k : Nat) (L : List RuleC), (∀ i, i < L.length → bs (k + i) = false) → firstE bs k L = 0
  | _, [], _ => rfl
  | k, x :: L, hn => by
    unfold firstE
    rw [if_neg (by rw [show bs k = false by simpa using hn 0 (by simp)]; decide)]
    exact firstE_none (k + 1) L fun i hi => by rw [show k + 1 + i = k + (i + 1) by omega]; exact hn (i + 1) (by simpa using hi)
theorem rule_cells {w : World} {l : List RuleC} {v : Value} {n : Nat} (hn : n = l.length) (hr : Rd w 2 v n (l.flatMap encR)) {i : Nat} {t : RuleC} (hm : l[i]? = some t) :
    ∃ b off c, v = .slice (some ⟨b, off, none⟩) n c ∧ w.cell? ⟨b, off + i * 2, none⟩ = some (.int .i64 t.e) ∧ w.cell? ⟨b, off + i * 2 + 1, none⟩ = some (.func (.func t.f) #[] t.caps) := by
  have hl := (List.getElem?_eq_some_iff.1 hm).1
  rcases hr.parts with ⟨h0, _⟩ | ⟨b, off, c, rfl, h0, h1, h2, hc⟩
  · omega
  · refine ⟨b, off, c, rfl, ?_, ?_⟩
    · have := hc (i * 2) (.int .i64 t.e) (by have := flat_get encR 2 (fun _ => rfl) l i 0 t hm (by omega); simpa [encR] using this)
      exact this
    · have := hc (i * 2 + 1) (.func (.func t.f) #[] t.caps) (by have := flat_get encR 2 (fun _ => rfl) l i 1 t hm (by omega); simpa [encR] using this)
      rw [← Nat.add_assoc] at this
      exact this
theorem kept_setRow {w W : World} (h : Kept w W) {g : Nat} (hg : w.heap.size ≤ g) (cs : Array Value) : Kept w (W.setRow g cs) :=
  ⟨h.os, h.tape, h.output, by have := h.size; simpa using this, fun b hb => by rw [setRow_other _ _ _ _ (by omega)]; exact Below.block h b hb⟩
/-- What first tells: the error; all rules have looked, where there is none. -/
def FirstG (RL : List RuleC) (bs : Nat → Bool) (Inv : Nat → World → Prop) (S : Nat → Prop) (w : World) (e : Ending) (w' : World) : Prop :=
  e = .returned (.int .i64 (firstE bs 0 RL)) ∧ ((∀ k, k < RL.length → bs k = false) → Inv RL.length w') ∧ Touch S w w'
/-- Rules that may be called, one behind the other. -/
structure Rules (cs : Array Value) (RL : List RuleC) (bs : Nat → Bool) (Inv : Nat → World → Prop) (S : Nat → Prop) (w : World) : Prop where
  fn : ∀ r ∈ RL, ∀ args W, Sem.run Try.prog (callFunc r.f args) W = .ok (.enter r.f args) W
  old : ∀ b, S b → b < w.heap.size
  inv : ∀ k W W', Inv k W → Kept W W' → Inv k W'
  call : ∀ k r W, RL[k]? = some r → (∀ j, j < k → bs j = false) → Inv k W → Touch S w W → Calls Try.prog r.f (#[.agg cs] ++ r.caps) W (fun e W' => e = .returned (.bool (bs k)) ∧ Inv (k + 1) W' ∧ Touch S W W')
set_option maxHeartbeats 4000000 in
theorem check_firstB (c0 c1 c2 c3 c4 c5 c6 c7 c8 : Value) (RL : List RuleC) (v : Value) (bs : Nat → Bool) (Inv : Nat → World → Prop) (S : Nat → Prop) (w : World)
    (hr : ∀ W, Touch S w W → Rd W 2 v RL.length (RL.flatMap encR)) (h : Rules #[c0, c1, c2, c3, c4, c5, c6, c7, c8] RL bs Inv S w) (h0 : Inv 0 w) :
    Calls Try.prog 48 #[.agg #[c0, c1, c2, c3, c4, c5, c6, c7, c8], v] w (FirstG RL bs Inv S w) := by
  obtain ⟨N, hN⟩ : ∃ N, N = RL.length := ⟨_, rfl⟩
  have hr0 := hr w (Touch.refl _ _)
  rw [← hN] at hr0
  obtain ⟨_, aR, kR, rfl, hk1, hk2, -⟩ := id hr0
  rw [← hN] at hr
  have HN := Lib.hid hN
  have HR := Lib.hid hr
  have HH := Lib.hid h
  have HB := Lib.hid (Blk.new w 74 #[c0, c1, c2, c3, c4, c5, c6, c7, c8])
  have HT : Hid (Touch S w (w.alloc (.cells #[c0, c1, c2, c3, c4, c5, c6, c7, c8] 74))) := Lib.hid ((Touch.refl _ _).alloc _)
  have HI := Lib.hid (h.inv 0 _ _ h0 ((Below.refl _ _).alloc (Nat.le_refl _) (.cells #[c0, c1, c2, c3, c4, c5, c6, c7, c8] 74)))
  obtain ⟨g, hg⟩ : ∃ g, g = w.heap.size := ⟨_, rfl⟩
  have HG : Hid (¬ S g) := Lib.hid (fun hs => by have := h.old g hs; omega)
  clear hr hr0 h h0 hN
  go_enter Try.func48, Try.ntmps48
  go_upto_region 1 with fail
  rw [← hg] at HB ⊢
  generalize (w.alloc (.cells #[c0, c1, c2, c3, c4, c5, c6, c7, c8] 74)) = W at *
  clear hg
  go_wp2_with fail
  go_loopw [9] (fun s9 wr => ∃ k : Nat, k ≤ N ∧ s9 = .int .i64 k ∧ Inv k wr ∧ Touch S w wr ∧ Blk wr g 74 #[c0, c1, c2, c3, c4, c5, c6, c7, c8] ∧ ∀ j, j < k → bs j = false) (fun s9 _ => N - (intOf s9).toNat)
  case atStart => exact ⟨0, by omega, rfl, HI.out, HT.out, HB.out, fun j hj => absurd hj (by omega)⟩
  case round =>
    obtain ⟨k, hk, rfl, hinv, ht, hb, hno⟩ := hrel
    have HNO := Lib.hid hno
    clear hno HI HB HT
    by_cases hlt : k < N
    · obtain ⟨⟨re, rf, rc⟩, hx⟩ : ∃ x, RL[k]? = some x := ⟨_, List.getElem?_eq_getElem (by have := HN.out; omega)⟩
      obtain ⟨b1, o1, d1, hv1, e0, e1⟩ := rule_cells HN.out (HR.out _ ht) hx
      simp only [Value.slice.injEq] at hv1
      obtain ⟨rfl, -, rfl⟩ := hv1
      have hkI : (k : Int) < (N : Int) := by omega
      have h0I : (0 : Int) ≤ (k : Int) := by omega
      have HX := Lib.hid hx
      have HT := Lib.hid ht
      have HI := Lib.hid hinv
      have HB := Lib.hid hb
      clear hx ht hinv hb
      dsimp only at e0 e1
      obtain ⟨m, hm⟩ : ∃ m, m = wr.heap.size := ⟨_, rfl⟩
      have HM0 := Lib.hid (Blk.new wr 93 #[.int .i64 0, .nilFunc])
      have hkw : Kept wr (wr.alloc (.cells #[.int .i64 0, .nilFunc] 93)) := (Below.refl _ _).alloc (Nat.le_refl _) _
      have hk2 := kept_setRow hkw (g := m) (by omega) #[.int .i64 re, .func (.func rf) #[] rc]
      rw [← hm] at HM0
      have HM := Lib.hid (show Blk ((wr.alloc (.cells #[.int .i64 0, .nilFunc] 93)).setRow m #[.int .i64 re, .func (.func rf) #[] rc]) m 93 #[.int .i64 re, .func (.func rf) #[] rc] from setRow_heap _ _ _ _ _ _ HM0.out)
      have HIM := Lib.hid (HH.out.inv k _ _ HI.out hk2)
      have HTM := Lib.hid (HT.out.trans (Touch.of_kept (S := S) hk2) fun b hb => .inl hb)
      have HBM := Lib.hid (HB.out.kept hk2)
      have HMS : Hid (¬ S m) := Lib.hid (fun hs => by have q1 := HH.out.old m hs; have q2 := HT.out.size; omega)
      have HMM := Lib.hid hm
      clear hkw hk2 hm
      go_upto_region 4 with (rw [← HMM.out]; refine wpList_store_row rfl 93 _ _ rfl m #[.int .i64 re, .func (.func rf) #[] rc] rfl (by rfl) 93 _ HM0.out (by kernel_rfl) (by rfl) (by kernel_rfl) ?_)
      clear HM0
      generalize ((wr.alloc (.cells #[.int .i64 0, .nilFunc] 93)).setRow m #[.int .i64 re, .func (.func rf) #[] rc]) = wm at *
      have m0 := HM.out.cell 0
      have m1 := HM.out.cell 1
      simp only [List.getElem?_toArray, List.getElem?_cons_succ, List.getElem?_cons_zero] at m0 m1
      have z0 := HBM.out.cell 0
      have z1 := HBM.out.cell 1
      have z2 := HBM.out.cell 2
      have z3 := HBM.out.cell 3
      have z4 := HBM.out.cell 4
      have z5 := HBM.out.cell 5
      have z6 := HBM.out.cell 6
      have z7 := HBM.out.cell 7
      have z8 := HBM.out.cell 8
      simp only [List.getElem?_toArray, List.getElem?_cons_succ, List.getElem?_cons_zero] at z0 z1 z2 z3 z4 z5 z6 z7 z8
      have HF := Lib.hid (HH.out.fn _ (List.mem_of_getElem? HX.out))
      have C := HH.out.call k _ wm HX.out HNO.out HIM.out HTM.out
      dsimp only at C HF
      obtain ⟨q, hq⟩ : ∃ q, q = bs k := ⟨_, rfl⟩
      rw [← hq] at C
      have HQ := Lib.hid hq
      clear hq
      go_wp2_with fail
      rw [HF.out]
      refine Calls.mono C ?_
      rintro e w2 ⟨rfl, hi2, ht2⟩
      have HT2 := Lib.hid (HTM.out.trans ht2 fun b hb => .inl hb)
      have HI2 := Lib.hid hi2
      have HB2 := Lib.hid (HBM.out.touch ht2 HG.out)
      have HM2 := Lib.hid (HM.out.touch ht2 HMS.out)
      clear hi2 ht2 C
      have n0 := HM2.out.cell 0
      have n1 := HM2.out.cell 1
      simp only [List.getElem?_toArray, List.getElem?_cons_succ, List.getElem?_cons_zero] at n0 n1
      cases q
      · go_wp2_with fail
        go_roundw
        case rel => exact ⟨k + 1, by omega, by go_num, HI2.out, HT2.out, HB2.out, fun j hj => by
          rcases (by omega : j < k ∨ j = k) with h | rfl
          · exact HNO.out j h
          · exact HQ.out.symm⟩
        case measure => simp [intOf]; omega
      · have HE := Lib.hid (show firstE bs 0 RL = re from firstE_at 0 RL k _ HX.out (fun i hi => by rw [Nat.zero_add]; exact HNO.out i hi) (by rw [Nat.zero_add]; exact HQ.out.symm))
        go_wp2_with fail
        go_ret
        refine ⟨by rw [HE.out]; rfl, fun hall => ?_, HT2.out⟩
        have := hall k (by have := HN.out; omega)
        rw [← HQ.out] at this
        cases this
    · obtain rfl : k = N := by omega
      have HE := Lib.hid (show firstE bs 0 RL = 0 from firstE_none 0 RL (fun i hi => by rw [Nat.zero_add]; exact HNO.out i (by have := HN.out; omega)))
      have HI := Lib.hid hinv
      have HT := Lib.hid ht
      clear hinv ht hb
      go_wp2_with fail
      go_ret
      exact ⟨by rw [HE.out]; rfl, fun _ => HN.out ▸ HI.out, HT.out⟩
set_option maxHeartbeats 4000000 in
theorem check_firstF (c0 c1 c2 c3 : Value) (RL : List RuleC) (v : Value) (bs : Nat → Bool) (Inv : Nat → World → Prop) (S : Nat → Prop) (w : World)
    (hr : ∀ W, Touch S w W → Rd W 2 v RL.length (RL.flatMap encR)) (h : Rules #[c0, c1, c2, c3] RL bs Inv S w) (h0 : Inv 0 w) :
    Calls Try.prog 54 #[.agg #[c0, c1, c2, c3], v] w (FirstG RL bs Inv S w) := by
  obtain ⟨N, hN⟩ : ∃ N, N = RL.length := ⟨_, rfl⟩
  have hr0 := hr w (Touch.refl _ _)
  rw [← hN] at hr0
  obtain ⟨_, aR, kR, rfl, hk1, hk2, -⟩ := id hr0
  rw [← hN] at hr
  have HN := Lib.hid hN
  have HR := Lib.hid hr
  have HH := Lib.hid h
  have HB := Lib.hid (Blk.new w 55 #[c0, c1, c2, c3])
  have HT : Hid (Touch S w (w.alloc (.cells #[c0, c1, c2, c3] 55))) := Lib.hid ((Touch.refl _ _).alloc _)
  have HI := Lib.hid (h.inv 0 _ _ h0 ((Below.refl _ _).alloc (Nat.le_refl _) (.cells #[c0, c1, c2, c3] 55)))
  obtain ⟨g, hg⟩ : ∃ g, g = w.heap.size := ⟨_, rfl⟩
  have HG : Hid (¬ S g) := Lib.hid (fun hs => by have := h.old g hs; omega)
  clear hr hr0 h h0 hN
  go_enter Try.func54, Try.ntmps54
  go_upto_region 1 with fail
  rw [← hg] at HB ⊢
  generalize (w.alloc (.cells #[c0, c1, c2, c3] 55)) = W at *
  clear hg
  go_wp2_with fail
  go_loopw [9] (fun s9 wr => ∃ k : Nat, k ≤ N ∧ s9 = .int .i64 k ∧ Inv k wr ∧ Touch S w wr ∧ Blk wr g 55 #[c0, c1, c2, c3] ∧ ∀ j, j < k → bs j = false) (fun s9 _ => N - (intOf s9).toNat)
  case atStart => exact ⟨0, by omega, rfl, HI.out, HT.out, HB.out, fun j hj => absurd hj (by omega)⟩
  case round =>
    obtain ⟨k, hk, rfl, hinv, ht, hb, hno⟩ := hrel
    have HNO := Lib.hid hno
    clear hno HI HB HT
    by_cases hlt : k < N
    · obtain ⟨⟨re, rf, rc⟩, hx⟩ : ∃ x, RL[k]? = some x := ⟨_, List.getElem?_eq_getElem (by have := HN.out; omega)⟩
      obtain ⟨b1, o1, d1, hv1, e0, e1⟩ := rule_cells HN.out (HR.out _ ht) hx
      simp only [Value.slice.injEq] at hv1
      obtain ⟨rfl, -, rfl⟩ := hv1
      have hkI : (k : Int) < (N : Int) := by omega
      have h0I : (0 : Int) ≤ (k : Int) := by omega
      have HX := Lib.hid hx
      have HT := Lib.hid ht
      have HI := Lib.hid hinv
      have HB := Lib.hid hb
      clear hx ht hinv hb
      dsimp only at e0 e1
      obtain ⟨m, hm⟩ : ∃ m, m = wr.heap.size := ⟨_, rfl⟩
      have HM0 := Lib.hid (Blk.new wr 99 #[.int .i64 0, .nilFunc])
      have hkw : Kept wr (wr.alloc (.cells #[.int .i64 0, .nilFunc] 99)) := (Below.refl _ _).alloc (Nat.le_refl _) _
      have hk2 := kept_setRow hkw (g := m) (by omega) #[.int .i64 re, .func (.func rf) #[] rc]
      rw [← hm] at HM0
      have HM := Lib.hid (show Blk ((wr.alloc (.cells #[.int .i64 0, .nilFunc] 99)).setRow m #[.int .i64 re, .func (.func rf) #[] rc]) m 99 #[.int .i64 re, .func (.func rf) #[] rc] from setRow_heap _ _ _ _ _ _ HM0.out)
      have HIM := Lib.hid (HH.out.inv k _ _ HI.out hk2)
      have HTM := Lib.hid (HT.out.trans (Touch.of_kept (S := S) hk2) fun b hb => .inl hb)
      have HBM := Lib.hid (HB.out.kept hk2)
      have HMS : Hid (¬ S m) := Lib.hid (fun hs => by have q1 := HH.out.old m hs; have q2 := HT.out.size; omega)
      have HMM := Lib.hid hm
      clear hkw hk2 hm
      go_upto_region 4 with (rw [← HMM.out]; refine wpList_store_row rfl 99 _ _ rfl m #[.int .i64 re, .func (.func rf) #[] rc] rfl (by rfl) 99 _ HM0.out (by kernel_rfl) (by rfl) (by kernel_rfl) ?_)
      clear HM0
      generalize ((wr.alloc (.cells #[.int .i64 0, .nilFunc] 99)).setRow m #[.int .i64 re, .func (.func rf) #[] rc]) = wm at *
      have m0 := HM.out.cell 0
      have m1 := HM.out.cell 1
      simp only [List.getElem?_toArray, List.getElem?_cons_succ, List.getElem?_cons_zero] at m0 m1
      have z0 := HBM.out.cell 0
      have z1 := HBM.out.cell 1
      have z2 := HBM.out.cell 2
      have z3 := HBM.out.cell 3
      simp only [List.getElem?_toArray, List.getElem?_cons_succ, List.getElem?_cons_zero] at z0 z1 z2 z3
      have HF := Lib.hid (HH.out.fn _ (List.mem_of_getElem? HX.out))
      have C := HH.out.call k _ wm HX.out HNO.out HIM.out HTM.out
      dsimp only at C HF
      obtain ⟨q, hq⟩ : ∃ q, q = bs k := ⟨_, rfl⟩
      rw [← hq] at C
      have HQ := Lib.hid hq
      clear hq
      go_wp2_with fail
      rw [HF.out]
      refine Calls.mono C ?_
      rintro e w2 ⟨rfl, hi2, ht2⟩
      have HT2 := Lib.hid (HTM.out.trans ht2 fun b hb => .inl hb)
      have HI2 := Lib.hid hi2
      have HB2 := Lib.hid (HBM.out.touch ht2 HG.out)
      have HM2 := Lib.hid (HM.out.touch ht2 HMS.out)
      clear hi2 ht2 C
      have n0 := HM2.out.cell 0
      have n1 := HM2.out.cell 1
      simp only [List.getElem?_toArray, List.getElem?_cons_succ, List.getElem?_cons_zero] at n0 n1
      cases q
      · go_wp2_with fail
        go_roundw
        case rel => exact ⟨k + 1, by omega, by go_num, HI2.out, HT2.out, HB2.out, fun j hj => by
          rcases (by omega : j < k ∨ j = k) with h | rfl
          · exact HNO.out j h
          · exact HQ.out.symm⟩
        case measure => simp [intOf]; omega
      · have HE := Lib.hid (show firstE bs 0 RL = re from firstE_at 0 RL k _ HX.out (fun i hi => by rw [Nat.zero_add]; exact HNO.out i hi) (by rw [Nat.zero_add]; exact HQ.out.symm))
        go_wp2_with fail
        go_ret
        refine ⟨by rw [HE.out]; rfl, fun hall => ?_, HT2.out⟩
        have := hall k (by have := HN.out; omega)
        rw [← HQ.out] at this
        cases this
    · obtain rfl : k = N := by omega
      have HE := Lib.hid (show firstE bs 0 RL = 0 from firstE_none 0 RL (fun i hi => by rw [Nat.zero_add]; exact HNO.out i (by have := HN.out; omega)))
      have HI := Lib.hid hinv
      have HT := Lib.hid ht
      clear hinv ht hb
      go_wp2_with fail
      go_ret
      exact ⟨by rw [HE.out]; rfl, fun _ => HN.out ▸ HI.out, HT.out⟩
set_option maxHeartbeats 4000000 in
theorem check_firstM (c0 c1 c2 c3 c4 c5 c6 c7 : Value) (RL : List RuleC) (v : Value) (bs : Nat → Bool) (Inv : Nat → World → Prop) (S : Nat → Prop) (w : World)
    (hr : ∀ W, Touch S w W → Rd W 2 v RL.length (RL.flatMap encR)) (h : Rules #[c0, c1, c2, c3, c4, c5, c6, c7] RL bs Inv S w) (h0 : Inv 0 w) :
    Calls Try.prog 64 #[.agg #[c0, c1, c2, c3, c4, c5, c6, c7], v] w (FirstG RL bs Inv S w) := by
  obtain ⟨N, hN⟩ : ∃ N, N = RL.length := ⟨_, rfl⟩
  have hr0 := hr w (Touch.refl _ _)
  rw [← hN] at hr0
  obtain ⟨_, aR, kR, rfl, hk1, hk2, -⟩ := id hr0
  rw [← hN] at hr
  have HN := Lib.hid hN
  have HR := Lib.hid hr
  have HH := Lib.hid h
  have HB := Lib.hid (Blk.new w 52 #[c0, c1, c2, c3, c4, c5, c6, c7])
  have HT : Hid (Touch S w (w.alloc (.cells #[c0, c1, c2, c3, c4, c5, c6, c7] 52))) := Lib.hid ((Touch.refl _ _).alloc _)
  have HI := Lib.hid (h.inv 0 _ _ h0 ((Below.refl _ _).alloc (Nat.le_refl _) (.cells #[c0, c1, c2, c3, c4, c5, c6, c7] 52)))
  obtain ⟨g, hg⟩ : ∃ g, g = w.heap.size := ⟨_, rfl⟩
  have HG : Hid (¬ S g) := Lib.hid (fun hs => by have := h.old g hs; omega)
  clear hr hr0 h h0 hN
  go_enter Try.func64, Try.ntmps64
  go_upto_region 1 with fail
  rw [← hg] at HB ⊢
  generalize (w.alloc (.cells #[c0, c1, c2, c3, c4, c5, c6, c7] 52)) = W at *
  clear hg
  go_wp2_with fail
  go_loopw [9] (fun s9 wr => ∃ k : Nat, k ≤ N ∧ s9 = .int .i64 k ∧ Inv k wr ∧ Touch S w wr ∧ Blk wr g 52 #[c0, c1, c2, c3, c4, c5, c6, c7] ∧ ∀ j, j < k → bs j = false) (fun s9 _ => N - (intOf s9).toNat)
  case atStart => exact ⟨0, by omega, rfl, HI.out, HT.out, HB.out, fun j hj => absurd hj (by omega)⟩
  case round =>
    obtain ⟨k, hk, rfl, hinv, ht, hb, hno⟩ := hrel
    have HNO := Lib.hid hno
    clear hno HI HB HT
    by_cases hlt : k < N
    · obtain ⟨⟨re, rf, rc⟩, hx⟩ : ∃ x, RL[k]? = some x := ⟨_, List.getElem?_eq_getElem (by have := HN.out; omega)⟩
      obtain ⟨b1, o1, d1, hv1, e0, e1⟩ := rule_cells HN.out (HR.out _ ht) hx
      simp only [Value.slice.injEq] at hv1
      obtain ⟨rfl, -, rfl⟩ := hv1
      have hkI : (k : Int) < (N : Int) := by omega
      have h0I : (0 : Int) ≤ (k : Int) := by omega
      have HX := Lib.hid hx
      have HT := Lib.hid ht
      have HI := Lib.hid hinv
      have HB := Lib.hid hb
      clear hx ht hinv hb
      dsimp only at e0 e1
      obtain ⟨m, hm⟩ : ∃ m, m = wr.heap.size := ⟨_, rfl⟩
      have HM0 := Lib.hid (Blk.new wr 108 #[.int .i64 0, .nilFunc])
      have hkw : Kept wr (wr.alloc (.cells #[.int .i64 0, .nilFunc] 108)) := (Below.refl _ _).alloc (Nat.le_refl _) _
      have hk2 := kept_setRow hkw (g := m) (by omega) #[.int .i64 re, .func (.func rf) #[] rc]
      rw [← hm] at HM0
      have HM := Lib.hid (show Blk ((wr.alloc (.cells #[.int .i64 0, .nilFunc] 108)).setRow m #[.int .i64 re, .func (.func rf) #[] rc]) m 108 #[.int .i64 re, .func (.func rf) #[] rc] from setRow_heap _ _ _ _ _ _ HM0.out)
      have HIM := Lib.hid (HH.out.inv k _ _ HI.out hk2)
      have HTM := Lib.hid (HT.out.trans (Touch.of_kept (S := S) hk2) fun b hb => .inl hb)
      have HBM := Lib.hid (HB.out.kept hk2)
      have HMS : Hid (¬ S m) := Lib.hid (fun hs => by have q1 := HH.out.old m hs; have q2 := HT.out.size; omega)
      have HMM := Lib.hid hm
      clear hkw hk2 hm
      go_upto_region 4 with (rw [← HMM.out]; refine wpList_store_row rfl 108 _ _ rfl m #[.int .i64 re, .func (.func rf) #[] rc] rfl (by rfl) 108 _ HM0.out (by kernel_rfl) (by rfl) (by kernel_rfl) ?_)
      clear HM0
      generalize ((wr.alloc (.cells #[.int .i64 0, .nilFunc] 108)).setRow m #[.int .i64 re, .func (.func rf) #[] rc]) = wm at *
      have m0 := HM.out.cell 0
      have m1 := HM.out.cell 1
      simp only [List.getElem?_toArray, List.getElem?_cons_succ, List.getElem?_cons_zero] at m0 m1
      have z0 := HBM.out.cell 0
      have z1 := HBM.out.cell 1
      have z2 := HBM.out.cell 2
      have z3 := HBM.out.cell 3
      have z4 := HBM.out.cell 4
      have z5 := HBM.out.cell 5
      have z6 := HBM.out.cell 6
      have z7 := HBM.out.cell 7
      simp only [List.getElem?_toArray, List.getElem?_cons_succ, List.getElem?_cons_zero] at z0 z1 z2 z3 z4 z5 z6 z7
      have HF := Lib.hid (HH.out.fn _ (List.mem_of_getElem? HX.out))
      have C := HH.out.call k _ wm HX.out HNO.out HIM.out HTM.out
      dsimp only at C HF
      obtain ⟨q, hq⟩ : ∃ q, q = bs k := ⟨_, rfl⟩
      rw [← hq] at C
      have HQ := Lib.hid hq
      clear hq
      go_wp2_with fail
      rw [HF.out]
      refine Calls.mono C ?_
      rintro e w2 ⟨rfl, hi2, ht2⟩
      have HT2 := Lib.hid (HTM.out.trans ht2 fun b hb => .inl hb)
      have HI2 := Lib.hid hi2
      have HB2 := Lib.hid (HBM.out.touch ht2 HG.out)
      have HM2 := Lib.hid (HM.out.touch ht2 HMS.out)
      clear hi2 ht2 C
      have n0 := HM2.out.cell 0
      have n1 := HM2.out.cell 1
      simp only [List.getElem?_toArray, List.getElem?_cons_succ, List.getElem?_cons_zero] at n0 n1
      cases q
      · go_wp2_with fail
        go_roundw
        case rel => exact ⟨k + 1, by omega, by go_num, HI2.out, HT2.out, HB2.out, fun j hj => by
          rcases (by omega : j < k ∨ j = k) with h | rfl
          · exact HNO.out j h
          · exact HQ.out.symm⟩
        case measure => simp [intOf]; omega
      · have HE := Lib.hid (show firstE bs 0 RL = re from firstE_at 0 RL k _ HX.out (fun i hi => by rw [Nat.zero_add]; exact HNO.out i hi) (by rw [Nat.zero_add]; exact HQ.out.symm))
        go_wp2_with fail
        go_ret
        refine ⟨by rw [HE.out]; rfl, fun hall => ?_, HT2.out⟩
        have := hall k (by have := HN.out; omega)
        rw [← HQ.out] at this
        cases this
    · obtain rfl : k = N := by omega
      have HE := Lib.hid (show firstE bs 0 RL = 0 from firstE_none 0 RL (fun i hi => by rw [Nat.zero_add]; exact HNO.out i (by have := HN.out; omega)))
      have HI := Lib.hid hinv
      have HT := Lib.hid ht
      clear hinv ht hb
      go_wp2_with fail
      go_ret
      exact ⟨by rw [HE.out]; rfl, fun _ => HN.out ▸ HI.out, HT.out⟩
end Go.Proofs.Ytcklmhbcjgiplaa
