/-
  Chapter 9's law KinDiamond, walked.
-/
import Derived.Test.YtjljfadfepidjaaLetter
import Derived.Test.YtjljfadfepidjaaLent
namespace Go.Proofs.Ytjljfadfepidjaa
open Go.RowKit
set_option maxRecDepth 100000

theorem own_lay {B : Nat} {e : TypeId} (W : World) (cs : List Value) (sz n : Nat) (hB : B ≤ W.heap.size) (hl : cs.length = n * sz) (hn : n ≤ 1000) : (W.alloc (.cells cs.toArray e)).ownsRow B e sz (.slice (some ⟨W.heap.size, 0, none⟩) n n) n cs :=
  ⟨hl, .inr ⟨W.heap.size, n, cs.toArray, rfl, hB, heap_alloc_new W _, Nat.le_refl _, Nat.le_trans hn (by decide), by simp [hl], by simp [hl.symm]⟩⟩
def nilV : Value := .slice none 0 0
def diaV (i : Nat) (iv : Value) (R : List TypeV) : List TypeV := [bare tT sE 1537 nilV [], bare tS sE 33 iv (letters i)] ++ R
/-- The diamond's list, so far. -/
structure DiaS (w W : World) (i gl c : Nat) (iv : Value) (R : List TypeV) : Prop where
  len : R.length = i
  own : W.ownsRow w.heap.size 43 6 (.slice (some ⟨gl, 0, none⟩) (i + 2) c) (i + 2) ((diaV i iv R).flatMap encTypeV)
  ivo : W.ownsRow w.heap.size 9 1 iv i ((letters i).flatMap encS)
  rows : ∀ j y, R[j]? = some y → ∃ h, y = bare (letterS j) sE 1537 (.slice (some ⟨h, 0, none⟩) 1 1) [tT] ∧ Blk W h 9 #[.string tT] ∧ iv.ownBlock ≠ some h
  kept : Kept w W

theorem letters_len (n : Nat) : (letters n).length = n := by simp [letters]
theorem letters_succ (n : Nat) : letters (n + 1) = letters n ++ [letterS n] := by simp [letters, List.range_succ]
theorem letters_get {n i : Nat} (h : i < n) : (letters n)[i]? = some (letterS i) := by simp [letters, h]
theorem letters_sz {n : Nat} (hn : n ≤ 26) : ∀ s ∈ letters n, s.size ≤ maxLen := by
  intro s hs
  simp only [letters, List.mem_map, List.mem_range] at hs
  obtain ⟨k, hk, rfl⟩ := hs
  rw [letter_sz k (by omega)]
  decide
theorem DiaS.tyR {w W : World} {i gl c : Nat} {iv : Value} {R : List TypeV} (h : DiaS w W i gl c iv R) (hl : i ≤ 12) : TyR W (.slice (some ⟨gl, 0, none⟩) (i + 2) c) (diaD i) := by
  have ho := h.own
  have hi := h.len
  refine ⟨diaV i iv R, ?_, ?_, ?_, by simp [diaV, hi]; omega⟩
  · simp only [diaV, diaD, List.map_append]
    refine congrArg (List.append _) ?_
    apply List.ext_getElem?
    intro j
    rw [List.getElem?_map, List.getElem?_map]
    by_cases hj : j < i
    · obtain ⟨y, hy⟩ : ∃ y, R[j]? = some y := ⟨_, List.getElem?_eq_getElem (by omega)⟩
      obtain ⟨g, rfl, -, -⟩ := h.rows j y hy
      rw [hy, letters_get hj]
      rfl
    · rw [List.getElem?_eq_none (by omega), List.getElem?_eq_none (by rw [letters_len]; omega)]
      rfl
  · rw [show (diaV i iv R).length = i + 2 by simp [diaV, hi]]
    exact Rd.of_own ho
  · intro y hy
    simp only [diaV, List.mem_append, List.mem_cons, List.not_mem_nil, or_false] at hy
    rcases hy with (rfl | rfl) | hy
    · exact bare_ok (by decide) (by decide) (by decide) Rd.nil (by simp) (by simp)
    · exact bare_ok (by decide) (by decide) (by decide) (by rw [letters_len]; exact Rd.of_own h.ivo) (letters_sz (by omega)) (by rw [letters_len]; omega)
    · obtain ⟨j, hj⟩ := List.mem_iff_getElem?.1 hy
      obtain ⟨g, rfl, hb, -⟩ := h.rows j y hj
      have hjl := (List.getElem?_eq_some_iff.1 hj).1
      refine bare_ok (by rw [letter_sz j (by omega)]; decide) (by decide) (by decide) ?_ (by intro s hs; simp at hs; subst hs; decide) (by simp)
      exact Rd.mk_ (by rfl) (by omega) (by decide) fun j u hu => by rw [Nat.zero_add, hb.cell j]; simpa [encS] using hu

def tTo : Obj := .cells #[.string tT] 9
section
variable {w wr w3 w5 : World} {k gl c g3 c3 : Nat} {iv v5 : Value} {R : List TypeV} {o : Obj}
theorem dia_t3 (hg3 : (wr.alloc tTo).grownBy w3 (Value.slice (some ⟨gl, 0, none⟩) (k + 2) c).ownBlock) : Touch (fun b => b = gl) wr w3 :=
  ((Touch.refl (fun b => b = gl) wr).alloc tTo).trans (Touch.of_grown hg3 (S := fun b => b = gl) (fun b hb => by simpa [Value.ownBlock] using hb.symm)) fun b hb => .inl hb
theorem dia_iv (hS : DiaS w wr k gl c iv R) (hg3 : (wr.alloc tTo).grownBy w3 (Value.slice (some ⟨gl, 0, none⟩) (k + 2) c).ownBlock) : w3.ownsRow w.heap.size 9 1 iv k ((letters k).flatMap encS) :=
  (dia_t3 hg3).own hS.ivo fun b hb e => TyAt.ne (own_ty hS.ivo b hb) (own_ty hS.own gl rfl) (by decide) e
theorem dia_at5 (iv3 : w3.ownsRow w.heap.size 9 1 iv k ((letters k).flatMap encS)) {n : Nat} {xs : List Value} (ho3 : w3.ownsRow w.heap.size 43 6 (.slice (some ⟨g3, 0, none⟩) n c3) n xs) (hg5 : (w3.drew.alloc o).grownBy w5 iv.ownBlock) : Touch (fun b => iv.ownBlock = some b) w3 w5 ∧ iv.ownBlock ≠ some g3 :=
  ⟨(((Touch.refl (fun b => iv.ownBlock = some b) w3).drew.alloc o)).trans (Touch.of_grown hg5 (S := fun b => iv.ownBlock = some b) (fun b hb => hb)) fun b hb => .inl hb, fun e => TyAt.ne (own_ty iv3 g3 e) (own_ty ho3 g3 rfl) (by decide) rfl⟩
theorem dia_cell (iv3 : w3.ownsRow w.heap.size 9 1 iv k ((letters k).flatMap encS)) {n : Nat} {xs : List Value} (ho3 : w3.ownsRow w.heap.size 43 6 (.slice (some ⟨g3, 0, none⟩) n c3) n xs) (hg5 : (w3.drew.alloc o).grownBy w5 iv.ownBlock) {u : Value} (hc : w3.cell? ⟨g3, 9, none⟩ = some u) : w5.cell? ⟨g3, 9, none⟩ = some u :=
  (dia_at5 iv3 ho3 hg5).1.cell hc (dia_at5 iv3 ho3 hg5).2
theorem dia_frozen (iv3 : w3.ownsRow w.heap.size 9 1 iv k ((letters k).flatMap encS)) {n : Nat} {xs : List Value} (ho3 : w3.ownsRow w.heap.size 43 6 (.slice (some ⟨g3, 0, none⟩) n c3) n xs) (hg5 : (w3.drew.alloc o).grownBy w5 iv.ownBlock) : w5.frozen? ⟨g3, 9, none⟩ = false :=
  (Row.of_own ((dia_at5 iv3 ho3 hg5).1.own ho3 fun b hb e => by
    obtain rfl : g3 = b := by simpa [Value.ownBlock] using hb
    exact (dia_at5 iv3 ho3 hg5).2 e)).cells.2.1 9
theorem dia_next (hS : DiaS w wr k gl c iv R) (hg3 : (wr.alloc tTo).grownBy w3 (Value.slice (some ⟨gl, 0, none⟩) (k + 2) c).ownBlock)
    (ho3 : w3.ownsRow w.heap.size 43 6 (.slice (some ⟨g3, 0, none⟩) (k + 2 + 1) c3) (k + 2 + 1) ((diaV k iv R).flatMap encTypeV ++ [.string (letterS k), .string sE, .int .i64 1537, .slice (some ⟨wr.heap.size, 0, none⟩) 1 1, nilV, nilV]))
    (ho5 : w5.ownsRow w.heap.size 9 1 v5 (k + 1) ((letters k).flatMap encS ++ [.string (letterS k)])) (hg5 : (w3.drew.alloc o).grownBy w5 iv.ownBlock) (hq5 : v5.ownBlock = iv.ownBlock ∨ v5.ownBlock = some (w3.drew.alloc o).heap.size) :
    DiaS w (w5.setCell ⟨g3, 9, none⟩ v5) (k + 1) g3 c3 v5 (R ++ [bare (letterS k) sE 1537 (.slice (some ⟨wr.heap.size, 0, none⟩) 1 1) [tT]]) := by
  have t3 := dia_t3 hg3
  have iv3 := dia_iv hS hg3
  have t5 : Touch (fun b => iv.ownBlock = some b) w3 w5 := (((Touch.refl (fun b => iv.ownBlock = some b) w3).drew.alloc o)).trans (Touch.of_grown hg5 (S := fun b => iv.ownBlock = some b) (fun b hb => hb)) fun b hb => .inl hb
  have ho35 := t5.own ho3 fun b hb e => TyAt.ne (own_ty iv3 b e) (own_ty ho3 b hb) (by decide) rfl
  have t6 : Touch (fun b => b = g3) w5 (w5.setCell ⟨g3, 9, none⟩ v5) := (Touch.refl (fun b => b = g3) w5).setCell (p := ⟨g3, 9, none⟩) (.inl rfl) v5
  have hgb : w.heap.size ≤ g3 := (ho3.lt g3 rfl).1
  have hb3 : wr.heap.size ≤ w3.heap.size := t3.size
  have b3 : Blk w3 wr.heap.size 9 #[.string tT] := by
    have h0 : Blk (wr.alloc tTo) wr.heap.size 9 #[.string tT] := Blk.new _ _ _
    refine h0.touch (Touch.of_grown hg3 (S := fun b => b = gl) (fun b hb => by simpa [Value.ownBlock] using hb.symm)) fun e => ?_
    have := (hS.own.lt gl rfl).2
    omega
  have up : ∀ h, Blk w3 h 9 #[.string tT] → iv.ownBlock ≠ some h → Blk (w5.setCell ⟨g3, 9, none⟩ v5) h 9 #[.string tT] ∧ v5.ownBlock ≠ some h := by
    intro h hb hne
    refine ⟨(hb.touch t5 hne).touch t6 fun e => ?_, fun e => ?_⟩
    · exact TyAt.ne ⟨_, hb⟩ (own_ty ho3 g3 rfl) (by decide) e
    · rcases hq5 with h5 | h5
      · exact hne (h5 ▸ e)
      · rw [h5] at e
        have h1 := hb.lt
        have h2 : w3.heap.size ≤ (w3.drew.alloc o).heap.size := by simp
        simp only [Option.some.injEq] at e
        omega
  refine ⟨by rw [List.length_append, hS.len]; rfl, ?_, ?_, ?_, ?_⟩
  · have h1 := own_store ho35 9 v5
    have h2 : ((diaV k iv R).flatMap encTypeV ++ [.string (letterS k), .string sE, .int .i64 1537, .slice (some ⟨wr.heap.size, 0, none⟩) 1 1, nilV, nilV]).set 9 v5 = (diaV (k + 1) v5 (R ++ [bare (letterS k) sE 1537 (.slice (some ⟨wr.heap.size, 0, none⟩) 1 1) [tT]])).flatMap encTypeV := by
      simp [diaV, bare, encTypeV, nilV]
    rw [h2] at h1
    exact h1
  · rw [letters_succ, List.flatMap_append]
    exact t6.own ho5 fun b hb e => TyAt.ne (own_ty ho5 b hb) (own_ty ho35 g3 rfl) (by decide) e
  · intro j y hj
    by_cases hjl : j < R.length
    · rw [List.getElem?_append_left hjl] at hj
      obtain ⟨h, rfl, hb, hne⟩ := hS.rows j y hj
      obtain ⟨u1, u2⟩ := up h (hb.touch t3 fun e => TyAt.ne ⟨_, hb⟩ (own_ty hS.own gl rfl) (by decide) e) hne
      exact ⟨h, rfl, u1, u2⟩
    · have hlt := (List.getElem?_eq_some_iff.1 hj).1
      simp only [List.length_append, List.length_cons, List.length_nil] at hlt
      obtain rfl : j = R.length := by omega
      rw [List.getElem?_append_right (Nat.le_refl _), Nat.sub_self] at hj
      obtain rfl : bare (letterS k) sE 1537 (.slice (some ⟨wr.heap.size, 0, none⟩) 1 1) [tT] = y := by simpa using hj
      obtain ⟨u1, u2⟩ := up _ b3 fun e => by have := (hS.ivo.lt _ e).2; omega
      exact ⟨_, by rw [hS.len], u1, u2⟩
  · have h1 : Below w.heap.size w w3 := Below.trans hS.kept (t3.below (fun b hb => by have := (hS.own.lt gl rfl).1; omega) hS.kept.size)
    have h2 : Below w.heap.size w w5 := Below.trans h1 (t5.below (fun b hb => (iv3.lt b hb).1) h1.size)
    exact Below.trans h2 (t6.below (fun b hb => by omega) h2.size)
end

set_option maxHeartbeats 8000000 in
theorem walk_KinDiamond (n : Int) (w : World) (hwf : (Lit.int .i64 n).wf = true) :
    Calls Try.prog 7 #[.int .i64 n] w fun e w' => e = .returned (.bool true) ∧ Below w.heap.size w w' := by
  go_enter Try.func7, Try.ntmps7
  go_wp2_with fail
  refine (alive9 _).mono ?_
  rintro e w1 ⟨rfl, k1⟩
  have K1 := Lib.hid k1
  clear k1
  by_cases hn1 : n < 1
  · go_wp2_with fail
    go_ret
    exact ⟨rfl, K1.out⟩
  by_cases hn2 : n > 12
  · go_wp2_with fail
    go_ret
    exact ⟨rfl, K1.out⟩
  obtain ⟨N, rfl⟩ : ∃ N : Nat, n = N := ⟨n.toNat, by omega⟩
  have hN1 : 1 ≤ N := by omega
  have hN2 : N ≤ 12 := by omega
  clear hwf
  go_wp2_with fail
  go_loopw [4, 5] (fun s4 s5 wr => ∃ (k gl c : Nat) (iv : Value) (R : List TypeV), k ≤ N ∧ s5 = .int .i64 k ∧ s4 = .slice (some ⟨gl, 0, none⟩) (k + 2) c ∧ DiaS w wr k gl c iv R) (fun _ s5 _ => N - (intOf s5).toNat)
  case atStart =>
    refine ⟨0, w1.heap.size, 2, nilV, [], by omega, rfl, rfl, ⟨rfl, own_lay w1 [.string tT, .string sE, .int .i64 1537, nilV, nilV, nilV, .string tS, .string sE, .int .i64 33, nilV, nilV, nilV] 6 2 K1.out.size rfl (by omega), World.ownsRow_nil _ _ _ _, by simp, K1.out.alloc K1.out.size _⟩⟩
  case round =>
    obtain ⟨k, gl, c, iv, R, hk, rfl, rfl, hS⟩ := hrel
    have HS := Lib.hid hS
    clear hS
    by_cases hlt : k < N
    · have hkN : (k : Int) < (N : Int) := by omega
      go_wp2_with fail
      refine (letter_ k _ (by omega)).mono ?_
      rintro e w2 ⟨rfl, rfl⟩
      have zr := HS.out.kept.size
      have OW := Lib.hid (((HS.out.own.alloc (.cells #[.string tT] 9))))
      go_wp2_with (at_builtin; refine wpl_pushH _ elem_typ rfl _ _ rfl w.heap.size _ (k + 2) _ rfl OW.out [.string (letterS k), .string sE, .int .i64 1537, .slice (some ⟨wr.heap.size, 0, none⟩) 1 1, nilV, nilV] _ (wr.heap.size + 1) rfl (by simp) rfl (by intro u hu; simp [nilV] at hu; rcases hu with rfl | rfl | rfl | rfl | rfl <;> rfl) (by omega) (by omega) (by omega) ?_; intro v3 w3 ho3 hg3 hk3 hb3; obtain ⟨g3, c3, hv3, hcc3, hcd3, _, _, _, _⟩ := own_form ho3 (by omega); subst hv3; have HO3 := Lib.hid ho3; have HG3 := Lib.hid hg3; have HB3 := Lib.hid hb3; clear ho3 hg3 hk3 hb3)
      have IV3 := Lib.hid (dia_iv HS.out HG3.out)
      obtain ⟨ai, ci, hai, hci, hci2⟩ := own_slice IV3.out
      have HAI := Lib.hid hai
      subst hai
      have CQ : w3.cell? ⟨g3, 9, none⟩ = some (.slice ai k ci) := (Row.of_own HO3.out).cells.1 9 _ (by simp [diaV, bare, encTypeV])
      have FQ : ∀ W : World, Kept w3 W → W.frozen? ⟨g3, 9, none⟩ = false := fun W hk => ((Row.of_own HO3.out).kept hk).cells.2.1 9
      have CA : (w3.drew.alloc (.cells #[.string (letterS k)] 9)).cell? ⟨g3, 9, none⟩ = some (.slice ai k ci) := Kept.cell ((Below.refl _ w3).drew.alloc (Nat.le_refl _) _) CQ
      have hk0 : (1 : Int) < (k : Int) + 2 + 1 := by omega
      have z3 : w.heap.size ≤ w3.heap.size := Nat.le_trans zr (dia_t3 HG3.out).size
      clear hkN
      go_region_law
        (first
        | (rw [if_pos (by rfl)]; go_simp; go_at_call 20; refine (letter_ k _ (by omega)).mono ?_; rintro e w' ⟨rfl, rfl⟩; dsimp only)
        | (refine step_append (P := Try.prog) elem_str rfl (.tmp 39) (.tmp 42) rfl w.heap.size (.slice ai k ci) k ((letters k).flatMap encS) ?_ (IV3.out.drew.alloc _) (.slice (some ⟨w3.drew.heap.size, 0, none⟩) 1 1) 1 [.string (letterS k)] ?_ (Rd.one w3.drew [.string (letterS k)] 9 rfl) (one_S _) (by omega) (by omega) (by rw [World.size_alloc]; exact Nat.le_succ_of_le z3) ?_; rfl; rfl; intro v5 w5 ho5 hg5 hq5; obtain ⟨a5, d5, hv5, _, _⟩ := own_slice ho5; have HV5 := Lib.hid hv5; have HO5 := Lib.hid ho5; have HG5 := Lib.hid hg5; have HQ5 := Lib.hid hq5; have c5 := dia_cell (o := .cells #[.string (letterS k)] 9) IV3.out HO3.out HG5.out CQ; have f5 := dia_frozen (o := .cells #[.string (letterS k)] 9) IV3.out HO3.out HG5.out; subst hv5; clear ho5 hg5 hq5))
      all_goals
        go_wp2_with fail
        go_roundw
        case rel => exact ⟨k + 1, g3, c3, _, _, by omega, by go_num, rfl, dia_next HS.out HG3.out HO3.out HO5.out HG5.out HQ5.out⟩
        case measure => simp [intOf]; omega
    · have hkN : k = N := by omega
      subst hkN
      have hT := HS.out.tyR hN2
      have HT := Lib.hid hT
      have KR := Lib.hid HS.out.kept
      clear hT
      have hkN : ¬ ((k : Int) < (k : Int)) := by omega
      go_wp2_with fail
      refine (kin_Above (diaD k) tS _ wr HT.out (by decide)).mono ?_
      rintro e w6 ⟨v6, rfl, r6, k6⟩
      obtain ⟨q, rfl⟩ : ∃ q, k = q + 1 := ⟨k - 1, by omega⟩
      rw [dia_above q (by omega)] at r6
      have r7 : Row w6 wr.heap.size 9 1 v6 (q + 1 + 1) ((tT :: letters (q + 1)).flatMap encS) := by
        have := r6
        unfold RowS at this
        rwa [List.length_cons, letters_len] at this
      obtain ⟨g6, c6, rfl, hc6, hd6⟩ := r7.addr (by omega)
      have RC := Lib.hid r7.cells.1
      have K6 := Lib.hid (Kept.trans KR.out k6)
      have x0 : w6.cell? ⟨g6, 0, none⟩ = some (.string ⟨#[84]⟩) := RC.out 0 _ rfl
      clear r6 r7 k6
      have hW1 : IntKind.i64.wrap (((q + 1 : Nat) : Int) + 1) = ((q + 1 : Nat) : Int) + 1 := IntWalk.i64_in _ (by omega)
      have hW2 : (0 : Int) < ((q + 1 : Nat) : Int) + 1 := by omega
      have c1 : (((q + 1 + 1 : Nat) : Int)) = ((q + 1 : Nat) : Int) + 1 := by omega
      obtain ⟨N, hNq⟩ : ∃ N, N = q + 1 := ⟨_, rfl⟩
      have HNQ := Lib.hid hNq
      rw [← hNq] at RC hW1 hW2 c1 hc6 ⊢
      clear hNq
      have c2 : ((N + 1 : Nat) : Int) = (N : Int) + 1 := by omega
      clear c1
      go_wp2_with fail
      go_loopw [7] (fun s7 wq => ∃ j : Nat, j ≤ N ∧ s7 = .int .i64 j ∧ Kept w6 wq) (fun s7 _ => N - (intOf s7).toNat)
      case atStart => exact ⟨0, by omega, rfl, Below.refl _ _⟩
      case round =>
        obtain ⟨j, hj, rfl, hkq⟩ := hrel
        rename World => wq
        have KQ := Lib.hid hkq
        clear hkq
        by_cases hjl : j < N
        · have cx : wq.cell? ⟨g6, j + 1, none⟩ = some (.string (letterS j)) := Kept.cell KQ.out <| RC.out (j + 1) _ (by
            rw [HNQ.out]
            have h1 := flat_get encS 1 (fun _ => rfl) (tT :: letters (q + 1)) (j + 1) 0 (letterS j) (by rw [List.getElem?_cons_succ, letters_get (by have := HNQ.out; omega)]) (by omega)
            rw [Nat.mul_one, Nat.add_zero] at h1
            exact h1)
          have hjN : (j : Int) < (N : Int) := by omega
          have hjw : IntKind.i64.wrap ((j : Int) + 1) = (j : Int) + 1 := IntWalk.i64_in _ (by omega)
          have hji : (j : Int) + 1 < (N : Int) + 1 := by omega
          have hj0 : (0 : Int) ≤ (j : Int) + 1 := by omega
          have hj26 : j < 26 := by have := HNQ.out; omega
          go_wp2_with fail
          go_quiet ((go_at_call 20; exact quiet_l (letter_ j _ hj26)))
          go_wp2_with fail
          go_roundw
          case rel => exact ⟨j + 1, by omega, by go_num, kept_drewN KQ.out _⟩
          case measure => simp [intOf]; omega
        · have hjN : ¬ ((j : Int) < (N : Int)) := by omega
          go_wp2_with fail
          go_ret
          exact ⟨rfl, Kept.trans K6.out KQ.out⟩
end Go.Proofs.Ytjljfadfepidjaa
