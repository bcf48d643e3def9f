/-
  Package sched, and the document's own table, by contract.
-/
import Derived.Test.YteahbpcimnaioaaProg
import Derived.Test.YteahbpcimnaioaaTouch
namespace Go.Proofs.Yteahbpcimnaioaa
open Go.RowKit
set_option maxRecDepth 100000

/-- A thread as data. -/
structure Th where
  st : Int
  tx : ByteArray
def encTh (t : Th) : List Value := [.int .i64 t.st, .string t.tx]
theorem encTh_len (t : Th) : (encTh t).length = 2 := rfl
theorem encTh_one (t : Th) : ∀ u ∈ encTh t, u.oneCell' = true := by intro u hu; simp [encTh] at hu; rcases hu with rfl | rfl <;> rfl

/-- A table behind a pointer: its block g, the slice v in it, the threads. T, E: the types. -/
structure IsTab (T E B : Nat) (w : World) (p : Value) (l : List Th) (g : Nat) (v : Value) : Prop where
  ptr : p = .pointer (some ⟨g, 0, none⟩)
  blk : Blk w g T #[v]
  own : w.ownsRow B E 2 v l.length (l.flatMap encTh)
  ge : B ≤ g
def foot (g : Nat) (v : Value) (b : Nat) : Prop := b = g ∨ v.ownBlock = some b

theorem blk_grown {w w' : World} {g : Nat} {t : TypeId} {cs : Array Value} {row : Option Nat} (h : Blk w g t cs) (hg : w.grownBy w' row) (hn : ∀ k, row = some k → k ≠ g) : Blk w' g t cs :=
  (hg.block g h.lt (fun e => hn g e.symm rfl)).trans h

theorem IsTab.still {T E B : Nat} {w w' : World} {p : Value} {l : List Th} {g : Nat} {v : Value} (h : IsTab T E B w p l g v) (ht : Touch (fun _ => False) w w') : IsTab T E B w' p l g v :=
  ⟨h.ptr, h.blk.touch ht id, ht.own h.own (fun _ _ => id), h.ge⟩
theorem IsTab.apart {T E B : Nat} {S : Nat → Prop} {w w' : World} {p : Value} {l : List Th} {g : Nat} {v : Value} (h : IsTab T E B w p l g v) (ht : Touch S w w') (hn : ∀ b, foot g v b → ¬ S b) : IsTab T E B w' p l g v :=
  ⟨h.ptr, h.blk.touch ht (hn g (.inl rfl)), ht.own h.own (fun k hk => hn k (.inr hk)), h.ge⟩
theorem IsTab.kept {T E B : Nat} {w w' : World} {p : Value} {l : List Th} {g : Nat} {v : Value} (h : IsTab T E B w p l g v) (ht : Kept w w') : IsTab T E B w' p l g v := h.still (Touch.of_kept ht)

theorem elem_th : ElemTy Try.prog 48 52 (.agg #[.int .i64 0, .string ⟨#[]⟩]) 2 24 := ⟨Try.underlying48, by kernel_rfl, rfl, by decide⟩

abbrev PTab := IsTab 50 52

theorem sched_Start (B : Nat) (w : World) (p : Value) (l : List Th) (g : Nat) (v : Value) (h : PTab B w p l g v) (hBw : B ≤ w.heap.size) (hl : l.length ≤ 16) :
    Calls Try.prog 7 #[p] w fun e w' => (l.length = 16 ∧ e = .returned (.tuple #[.int .i64 0, .int .i64 42]) ∧ w' = w) ∨
      (l.length < 16 ∧ e = .returned (.tuple #[.int .i64 l.length, .int .i64 0]) ∧ ∃ v', PTab B w' p (l ++ [⟨0, ⟨#[]⟩⟩]) g v' ∧ Touch (foot g v) w w' ∧ ∀ k, v'.ownBlock = some k → v.ownBlock = some k ∨ w.heap.size ≤ k) := by
  obtain ⟨rfl, hb, ho, hB⟩ := h
  obtain ⟨a, c, rfl, hlc, hc⟩ := own_slice ho
  have c0 := hb.cell 0
  have f0 := hb.frozen 0
  simp at c0
  by_cases hlt : l.length < 16
  · go_enter Try.func7, Try.ntmps7
    go_wp2_with (at_builtin; refine wpl_push_at _ elem_th rfl _ _ rfl B _ _ _ rfl ho [.int .i64 0, .string ⟨#[]⟩] _ rfl rfl (encTh_one ⟨0, ⟨#[]⟩⟩) (by omega) (by omega) hBw ?_; intro v1 w1 ho1 hg1 hk1; obtain ⟨a1, c1, rfl, hl1, hc1⟩ := own_slice ho1; have hT := Touch.of_grown (S := foot g (Value.slice a l.length c)) hg1 (fun k hk => .inr hk); have hb1 := blk_grown hb hg1 (own_ne ho hb (by decide)); have d0 := hb1.cell 0; have f1 := hb1.frozen 0; simp at d0)
    go_ret2
    have hh := hb1.hold ho1 (by decide)
    refine .inr ⟨hlt, rfl, _, ⟨rfl, hh.1, by simpa [encTh] using hh.2, hB⟩, hT.setCell (.inl (.inl rfl)) _, hk1⟩
  · go_enter Try.func7, Try.ntmps7
    go_wp2
    go_ret2
    exact .inl ⟨by omega, rfl, rfl⟩

/-- What a table answers when a thread is to turn from a state to another one. -/
def turnE (l : List Th) (t fr : Int) (to : Th) : Int :=
  if 0 ≤ t ∧ t < l.length then (if (l[t.toNat]?.getD ⟨0, ⟨#[]⟩⟩).st = fr ∧ ¬ (to.st = 1 ∧ to.tx.toList = []) then 0 else 1) else 40
def turnL (l : List Th) (t fr : Int) (to : Th) : List Th := if turnE l t fr to = 0 then l.set t.toNat to else l

theorem touch_two {w : World} {g r c m : Nat} {k : Nat} {u0 u1 : Value} : Touch (foot g (.slice (some ⟨r, 0, none⟩) m c)) w ((w.setCell ⟨r, k * 2, none⟩ u0).setCell ⟨r, k * 2 + 1, none⟩ u1) :=
  ((Touch.refl _ w).setCell (.inl (.inr rfl)) _).setCell (.inl (.inr rfl)) _

theorem sched_turn (B : Nat) (w : World) (p : Value) (l : List Th) (g : Nat) (v : Value) (t fr : Int) (to : Th) (h : PTab B w p l g v) (hBw : B ≤ w.heap.size) (hl : l.length ≤ 16) :
    Calls Try.prog 18 #[p, .int .i64 t, .int .i64 fr, .agg #[.int .i64 to.st, .string to.tx]] w fun e w' => e = .returned (.int .i64 (turnE l t fr to)) ∧ PTab B w' p (turnL l t fr to) g v ∧ Touch (foot g v) w w' := by
  have hkeep : ∀ W, Kept w W → PTab B W p l g v := fun W hk => ⟨h.ptr, h.blk.kept hk, Touch.own (S := fun _ => False) (Touch.of_kept hk) h.own (fun _ _ => id), h.ge⟩
  have h' := h
  obtain ⟨rfl, hb, ho, hB⟩ := h
  obtain ⟨a, c, rfl, hlc, hc⟩ := own_slice ho
  have c0 := hb.cell 0
  have f0 := hb.frozen 0
  simp at c0
  by_cases h0 : 0 ≤ t ∧ t < l.length
  · obtain ⟨k, rfl⟩ : ∃ k : Nat, t = k := ⟨t.toNat, by omega⟩
    obtain ⟨r, c', hv, _, _, hBr, hrs, hcell, hfz⟩ := own_form ho (by omega)
    simp only [Value.slice.injEq] at hv
    obtain ⟨rfl, _, rfl⟩ := hv
    obtain ⟨x, hx⟩ : ∃ x, l[k]? = some x := ⟨l[k]'(by omega), List.getElem?_eq_getElem (by omega)⟩
    have r0 : w.cell? ⟨r, k * 2, none⟩ = some (.int .i64 x.st) := hcell _ _ (by have := flat_get encTh 2 encTh_len l k 0 x hx (by omega); simpa [encTh] using this)
    have r1 : w.cell? ⟨r, k * 2 + 1, none⟩ = some (.string x.tx) := hcell _ _ (by have := flat_get encTh 2 encTh_len l k 1 x hx (by omega); simpa [encTh] using this)
    have z0 := hfz (k * 2)
    have z1 := hfz (k * 2 + 1)
    have hgl := hb.lt
    have hgr : g ≠ r := fun e => own_ne ho hb (by decide) r rfl e.symm
    have hE : ∀ q, (q = turnE l k fr to) ↔ q = (if x.st = fr ∧ ¬ (to.st = 1 ∧ to.tx.toList = []) then 0 else 1) := by
      intro q; simp only [turnE, if_pos h0, Int.toNat_natCast, hx, Option.getD_some]
    by_cases h1 : x.st = fr
    · by_cases h2 : to.st = 1 ∧ to.tx.toList = []
      · obtain ⟨h2, h3⟩ := h2
        have hEE := Lib.hid ((hE 1).2 (by simp [h2, h3]))
        have b1 : (x.st != fr) = false := by simp [h1]
        have hK := Lib.hid hkeep
        clear hcell hfz hE h1 hkeep h' hb ho
        go_enter Try.func18, Try.ntmps18
        go_wp2
        go_ret
        refine ⟨ret_int hEE.out, ?_, Touch.of_kept ((Below.refl _ _).alloc (Nat.le_refl _) _)⟩
        rw [turnL, ← hEE.out, if_neg (by omega)]
        exact hK.out _ ((Below.refl _ _).alloc (Nat.le_refl _) _)
      · have hEE := Lib.hid ((hE 0).2 (by rw [if_pos ⟨h1, h2⟩]))
        have b1 : (x.st != fr) = false := by simp [h1]
        have hfin : ∀ s O, s = to.st → PTab B (((w.setCell ⟨r, k * 2, none⟩ (.int .i64 s)).setCell ⟨r, k * 2 + 1, none⟩ (.string to.tx)).alloc O).drew (.pointer (some ⟨g, 0, none⟩)) (turnL l k fr to) g (.slice (some ⟨r, 0, none⟩) l.length c) ∧
            Touch (foot g (.slice (some ⟨r, 0, none⟩) l.length c)) w (((w.setCell ⟨r, k * 2, none⟩ (.int .i64 s)).setCell ⟨r, k * 2 + 1, none⟩ (.string to.tx)).alloc O).drew := by
          rintro s O rfl
          refine ⟨IsTab.still ⟨rfl, (hb.far hgr _).far hgr _, ?_, hB⟩ ((Touch.refl _ _).alloc O).drew, (touch_two.alloc O).drew⟩
          have := own_store (own_store ho (k * 2) (.int .i64 to.st)) (k * 2 + 1) (.string to.tx)
          rw [flat_set2 encTh encTh_len to _ _ rfl, if_pos (by omega)] at this
          simpa [turnL, ← hEE.out] using this
        have hF := Lib.hid hfin
        have h23 : (to.st = 1 ∧ ¬ to.tx.toList = []) ∨ ¬ to.st = 1 := by
          by_cases hq : to.st = 1
          · exact .inl ⟨hq, fun h3 => h2 ⟨hq, h3⟩⟩
          · exact .inr hq
        clear hcell hfz hE h1 hkeep h2 h' hb ho hfin
        rcases h23 with ⟨h2, h3⟩ | h2
        all_goals
          go_enter Try.func18, Try.ntmps18
          go_wp2
          go_region
          all_goals go_wp2
          all_goals go_ret
          all_goals exact ⟨ret_int hEE.out, hF.out _ _ (by first | rfl | exact h2.symm)⟩
    · have hEE := Lib.hid ((hE 1).2 (by rw [if_neg (fun h => h1 h.1)]))
      have b1 : (x.st != fr) = true := by simp [h1]
      have hfin := hkeep (w.alloc (.cells #[.int .i64 to.st, .string to.tx] 52)) ((Below.refl _ _).alloc (Nat.le_refl _) _)
      clear hcell hfz hE h1 hkeep h' hb ho
      go_enter Try.func18, Try.ntmps18
      go_wp2
      go_ret
      refine ⟨ret_int hEE.out, ?_, Touch.of_kept ((Below.refl _ _).alloc (Nat.le_refl _) _)⟩
      rw [turnL, ← hEE.out, if_neg (by omega)]
      exact hfin
  · have hEE := Lib.hid (show (40 : Int) = turnE l t fr to by simp [turnE, h0])
    have hfin := hkeep (w.alloc (.cells #[.int .i64 to.st, .string to.tx] 52)) ((Below.refl _ _).alloc (Nat.le_refl _) _)
    have hgl := hb.lt
    clear hkeep h' hb ho
    by_cases ht : t < 0
    all_goals
      go_enter Try.func18, Try.ntmps18
      go_wp2
      go_ret
      refine ⟨ret_int hEE.out, ?_, Touch.of_kept ((Below.refl _ _).alloc (Nat.le_refl _) _)⟩
      rw [turnL, ← hEE.out, if_neg (by omega)]
      exact hfin

end Go.Proofs.Yteahbpcimnaioaa
