/-
  The document's own table of threads, by contract.
-/
import Derived.Test.YteahbpcimnaioaaSched2
namespace Go.Proofs.Yteahbpcimnaioaa
open Go.RowKit
set_option maxRecDepth 100000

theorem elem_thR : ElemTy Try.prog 27 54 (.agg #[.int .i64 0, .string ⟨#[]⟩]) 2 24 := ⟨Try.underlying27, by kernel_rfl, rfl, by decide⟩
abbrev RTab := IsTab 29 54

theorem ref15_Start (B : Nat) (w : World) (p : Value) (l : List Th) (g : Nat) (v : Value) (h : RTab B w p l g v) (hBw : B ≤ w.heap.size) (hl : l.length ≤ 16) :
    Calls Try.prog 8 #[p] w fun e w' => (l.length = 16 ∧ e = .returned (.tuple #[.int .i64 0, .int .i64 42]) ∧ w' = w) ∨
      (l.length < 16 ∧ e = .returned (.tuple #[.int .i64 l.length, .int .i64 0]) ∧ ∃ v', RTab B w' p (l ++ [⟨0, ⟨#[]⟩⟩]) g v' ∧ Touch (foot g v) w w' ∧ ∀ k, v'.ownBlock = some k → v.ownBlock = some k ∨ w.heap.size ≤ k) := by
  obtain ⟨rfl, hb, ho, hB⟩ := h
  obtain ⟨a, c, rfl, hlc, hc⟩ := own_slice ho
  have c0 := hb.cell 0
  have f0 := hb.frozen 0
  simp at c0
  by_cases hlt : l.length < 16
  · go_enter Try.func8, Try.ntmps8
    go_wp2_with (at_builtin; refine wpl_push_at _ elem_thR rfl _ _ rfl B _ _ _ rfl ho [.int .i64 0, .string ⟨#[]⟩] _ rfl rfl (encTh_one ⟨0, ⟨#[]⟩⟩) (by omega) (by omega) hBw ?_; intro v1 w1 ho1 hg1 hk1; obtain ⟨a1, c1, rfl, hl1, hc1⟩ := own_slice ho1; have hT := Touch.of_grown (S := foot g (Value.slice a l.length c)) hg1 (fun k hk => .inr hk); have hb1 := blk_grown hb hg1 (own_ne ho hb (by decide)); have d0 := hb1.cell 0; have f1 := hb1.frozen 0; simp at d0)
    go_ret2
    have hh := hb1.hold ho1 (by decide)
    refine .inr ⟨hlt, rfl, _, ⟨rfl, hh.1, by simpa [encTh] using hh.2, hB⟩, hT.setCell (.inl (.inl rfl)) _, hk1⟩
  · go_enter Try.func8, Try.ntmps8
    go_wp2
    go_ret2
    exact .inl ⟨by omega, rfl, rfl⟩

/-- What the document's table answers when a thread is to turn. -/
def turnRE (l : List Th) (t fr : Int) : Int := if 0 ≤ t ∧ t < l.length then (if (l[t.toNat]?.getD ⟨0, ⟨#[]⟩⟩).st = fr then 0 else 1) else 40
def turnRL (l : List Th) (t fr : Int) (to : Th) : List Th := if turnRE l t fr = 0 then l.set t.toNat to else l

theorem ref15_turn (B : Nat) (w : World) (p : Value) (l : List Th) (g : Nat) (v : Value) (t fr st : Int) (s : ByteArray) (h : RTab B w p l g v) (hBw : B ≤ w.heap.size) (hl : l.length ≤ 16) :
    Calls Try.prog 19 #[p, .int .i64 t, .int .i64 fr, .int .i64 st, .string s] w fun e w' => e = .returned (.int .i64 (turnRE l t fr)) ∧ RTab B w' p (turnRL l t fr ⟨st, s⟩) g v ∧ Touch (foot g v) w w' := by
  have h' := Lib.hid h
  obtain ⟨rfl, hb, ho, hB⟩ := h
  obtain ⟨a, c, rfl, hlc, hc⟩ := own_slice ho
  have c0 := hb.cell 0
  have f0 := hb.frozen 0
  simp at c0
  by_cases h0 : 0 ≤ t ∧ t < l.length
  · obtain ⟨k, rfl⟩ : ∃ k : Nat, t = k := ⟨t.toNat, by omega⟩
    obtain ⟨r, c', hv, _, _, hBr, hrs, hcell, hfz⟩ := own_form ho (by omega)
    simp only [Value.slice.injEq] at hv
    obtain ⟨rfl, _, rfl⟩ := hv
    obtain ⟨x, hx⟩ : ∃ x, l[k]? = some x := ⟨l[k]'(by omega), List.getElem?_eq_getElem (by omega)⟩
    have r0 : w.cell? ⟨r, k * 2, none⟩ = some (.int .i64 x.st) := hcell _ _ (by have := flat_get encTh 2 encTh_len l k 0 x hx (by omega); simpa [encTh] using this)
    have r1 : w.cell? ⟨r, k * 2 + 1, none⟩ = some (.string x.tx) := hcell _ _ (by have := flat_get encTh 2 encTh_len l k 1 x hx (by omega); simpa [encTh] using this)
    have z0 := hfz (k * 2)
    have z1 := hfz (k * 2 + 1)
    have hgl := hb.lt
    have hgr : g ≠ r := fun e => own_ne ho hb (by decide) r rfl e.symm
    have hE : ∀ q, (q = turnRE l k fr) ↔ q = (if x.st = fr then 0 else 1) := by
      intro q; simp only [turnRE, if_pos h0, Int.toNat_natCast, hx, Option.getD_some]
    by_cases h1 : x.st = fr
    · have hEE := Lib.hid ((hE 0).2 (by rw [if_pos h1]))
      have b1 : (x.st != fr) = false := by simp [h1]
      have hfin : RTab B ((w.setCell ⟨r, k * 2, none⟩ (.int .i64 st)).setCell ⟨r, k * 2 + 1, none⟩ (.string s)) (.pointer (some ⟨g, 0, none⟩)) (turnRL l k fr ⟨st, s⟩) g (.slice (some ⟨r, 0, none⟩) l.length c) ∧
          Touch (foot g (.slice (some ⟨r, 0, none⟩) l.length c)) w ((w.setCell ⟨r, k * 2, none⟩ (.int .i64 st)).setCell ⟨r, k * 2 + 1, none⟩ (.string s)) := by
        refine ⟨⟨rfl, (hb.far hgr _).far hgr _, ?_, hB⟩, touch_two⟩
        have := own_store (own_store ho (k * 2) (.int .i64 st)) (k * 2 + 1) (.string s)
        rw [flat_set2 encTh encTh_len ⟨st, s⟩ _ _ rfl, if_pos (by omega)] at this
        simpa [turnRL, ← hEE.out] using this
      have hF := Lib.hid hfin
      clear hcell hfz hE h1 hb ho hfin
      go_enter Try.func19, Try.ntmps19
      go_wp2
      all_goals go_ret
      all_goals exact ⟨ret_int hEE.out, hF.out⟩
    · have hEE := Lib.hid ((hE 1).2 (by rw [if_neg h1]))
      have b1 : (x.st != fr) = true := by simp [h1]
      clear hcell hfz hE h1 hb ho
      go_enter Try.func19, Try.ntmps19
      go_wp2
      go_ret
      refine ⟨ret_int hEE.out, ?_, Touch.refl _ _⟩
      rw [turnRL, ← hEE.out, if_neg (by omega)]
      exact h'.out
  · have hEE := Lib.hid (show (40 : Int) = turnRE l t fr by simp [turnRE, h0])
    have hgl := hb.lt
    clear hb ho
    by_cases ht : t < 0
    all_goals
      go_enter Try.func19, Try.ntmps19
      go_wp2
      go_ret
      refine ⟨ret_int hEE.out, ?_, Touch.refl _ _⟩
      rw [turnRL, ← hEE.out, if_neg (by omega)]
      exact h'.out

/-- What the document's Block answers is what the program's does. -/
theorem ref15_Block (B : Nat) (w : World) (p : Value) (l : List Th) (g : Nat) (v : Value) (t : Int) (s : ByteArray) (h : RTab B w p l g v) (hBw : B ≤ w.heap.size) (hl : l.length ≤ 16) :
    Calls Try.prog 11 #[p, .int .i64 t, .string s] w fun e w' => e = .returned (.int .i64 (turnE l t 0 ⟨1, s⟩)) ∧ RTab B w' p (turnL l t 0 ⟨1, s⟩) g v ∧ Touch (foot g v) w w' := by
  have hp := h.ptr
  have H := Lib.hid h
  have hsl := own_slice h.own
  have hcb := h.blk.cell 0
  clear h
  subst hp
  obtain ⟨a, c, rfl, _, _⟩ := hsl
  simp at hcb
  by_cases hbad : s.toList = [] ∧ 0 ≤ t ∧ t < l.length
  · obtain ⟨hs, ht0, ht1⟩ := hbad
    have hE : turnE l t 0 ⟨1, s⟩ = 1 := by simp [turnE, ht0, ht1, hs]
    have hL : turnL l t 0 ⟨1, s⟩ = l := by simp [turnL, hE]
    rw [hE, hL]
    clear hE hL
    go_enter Try.func11, Try.ntmps11
    go_wp2
    go_ret
    exact ⟨rfl, H.out, Touch.refl _ _⟩
  · have hE : turnE l t 0 ⟨1, s⟩ = turnRE l t 0 := by
      unfold turnE turnRE
      by_cases h0 : 0 ≤ t ∧ t < l.length
      · rw [if_pos h0, if_pos h0]
        have : ¬ s.toList = [] := fun hs => hbad ⟨hs, h0⟩
        simp [this]
      · rw [if_neg h0, if_neg h0]
    have hL : turnL l t 0 ⟨1, s⟩ = turnRL l t 0 ⟨1, s⟩ := by simp only [turnL, turnRL, hE]
    rw [hE, hL]
    clear hE hL
    by_cases hs : s.toList = []
    · by_cases ht : 0 ≤ t
      · have ht1 : ¬ t < l.length := fun h => hbad ⟨hs, ht, h⟩
        clear hbad
        go_enter Try.func11, Try.ntmps11
        go_wp2_with (go_at_call 19; ((with_reducible refine (ref15_turn B _ _ l g _ t 0 1 s H.out hBw hl).mono ?_); rintro e w' ⟨rfl, h1, h2⟩))
        go_ret
        exact ⟨rfl, h1, h2⟩
      · clear hbad
        go_enter Try.func11, Try.ntmps11
        go_wp2_with (go_at_call 19; ((with_reducible refine (ref15_turn B _ _ l g _ t 0 1 s H.out hBw hl).mono ?_); rintro e w' ⟨rfl, h1, h2⟩))
        go_ret
        exact ⟨rfl, h1, h2⟩
    · have hs' : s.toList.isEmpty = false := by simpa using hs
      clear hbad hs
      go_enter Try.func11, Try.ntmps11
      go_wp2_with (go_at_call 19; ((with_reducible refine (ref15_turn B _ _ l g _ t 0 1 s H.out hBw hl).mono ?_); rintro e w' ⟨rfl, h1, h2⟩))
      go_ret
      exact ⟨rfl, h1, h2⟩

end Go.Proofs.Yteahbpcimnaioaa
