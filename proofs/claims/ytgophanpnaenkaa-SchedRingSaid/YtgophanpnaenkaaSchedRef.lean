/-
  The document's own table of threads, by contract.
-/
import Derived.Test.YtgophanpnaenkaaSched2
namespace Go.Proofs.Ytgophanpnaenkaa
open Go.RowKit
set_option maxRecDepth 100000

theorem elem_thR : ElemTy Try.prog 73 84 (.agg #[.int .i64 0, .string ⟨#[]⟩]) 2 24 := ⟨Try.underlying73, by kernel_rfl, rfl, by decide⟩
abbrev RTab := IsTab 75 84

theorem ref15_Start (B : Nat) (w : World) (p : Value) (l : List Th) (g : Nat) (v : Value) (h : RTab B w p l g v) (hBw : B ≤ w.heap.size) (hl : l.length ≤ 16) :
    Calls Try.prog 43 #[p] w fun e w' => (l.length = 16 ∧ e = .returned (.tuple #[.int .i64 0, .int .i64 42]) ∧ w' = w) ∨
      (l.length < 16 ∧ e = .returned (.tuple #[.int .i64 l.length, .int .i64 0]) ∧ ∃ v', RTab B w' p (l ++ [⟨0, ⟨#[]⟩⟩]) g v' ∧ Touch (foot g v) w w' ∧ ∀ k, v'.ownBlock = some k → v.ownBlock = some k ∨ w.heap.size ≤ k) := by
  obtain ⟨rfl, hb, ho, hB⟩ := h
  obtain ⟨a, c, rfl, hlc, hc⟩ := own_slice ho
  have c0 := hb.cell 0
  have f0 := hb.frozen 0
  simp at c0
  by_cases hlt : l.length < 16
  · go_enter Try.func43, Try.ntmps43
    go_wp2_with (at_builtin; refine wpl_push_at _ elem_thR rfl _ _ rfl B _ _ _ rfl ho [.int .i64 0, .string ⟨#[]⟩] _ rfl rfl (encTh_one ⟨0, ⟨#[]⟩⟩) (by omega) (by omega) hBw ?_; intro v1 w1 ho1 hg1 hk1; obtain ⟨a1, c1, rfl, hl1, hc1⟩ := own_slice ho1; have hT := Touch.of_grown (S := foot g (Value.slice a l.length c)) hg1 (fun k hk => .inr hk); have hb1 := blk_grown hb hg1 (own_ne ho hb (by decide)); have d0 := hb1.cell 0; have f1 := hb1.frozen 0; simp at d0)
    go_ret2
    have hh := hb1.hold ho1 (by decide)
    refine .inr ⟨hlt, rfl, _, ⟨rfl, hh.1, by simpa [encTh] using hh.2, hB⟩, hT.setCell (.inl (.inl rfl)) _, hk1⟩
  · go_enter Try.func43, Try.ntmps43
    go_wp2
    go_ret2
    exact .inl ⟨by omega, rfl, rfl⟩

/-- What the document's table answers when a thread is to turn. -/
def turnRE (l : List Th) (t fr : Int) : Int := if 0 ≤ t ∧ t < l.length then (if (l[t.toNat]?.getD ⟨0, ⟨#[]⟩⟩).st = fr then 0 else 1) else 40
def turnRL (l : List Th) (t fr : Int) (to : Th) : List Th := if turnRE l t fr = 0 then l.set t.toNat to else l

theorem ref15_turn (B : Nat) (w : World) (p : Value) (l : List Th) (g : Nat) (v : Value) (t fr st : Int) (s : ByteArray) (h : RTab B w p l g v) (hBw : B ≤ w.heap.size) (hl : l.length ≤ 16) :
    Calls Try.prog 81 #[p, .int .i64 t, .int .i64 fr, .int .i64 st, .string s] w fun e w' => e = .returned (.int .i64 (turnRE l t fr)) ∧ RTab B w' p (turnRL l t fr ⟨st, s⟩) g v ∧ Touch (foot g v) w w' := by
  have h' := Lib.hid h
  obtain ⟨rfl, hb, ho, hB⟩ := h
  obtain ⟨a, c, rfl, hlc, hc⟩ := own_slice ho
  have c0 := hb.cell 0
  have f0 := hb.frozen 0
  simp at c0
  by_cases h0 : 0 ≤ t ∧ t < l.length
  · obtain ⟨k, rfl⟩ : ∃ k : Nat, t = k := ⟨t.toNat, by omega⟩
    obtain ⟨r, c', hv, _, _, hBr, hrs, hcell, hfz⟩ := own_form ho (by omega)
    simp only [Value.slice.injEq] at hv
    obtain ⟨rfl, _, rfl⟩ := hv
    obtain ⟨x, hx⟩ : ∃ x, l[k]? = some x := ⟨l[k]'(by omega), List.getElem?_eq_getElem (by omega)⟩
    have r0 : w.cell? ⟨r, k * 2, none⟩ = some (.int .i64 x.st) := hcell _ _ (by have := flat_get encTh 2 encTh_len l k 0 x hx (by omega); simpa [encTh] using this)
    have r1 : w.cell? ⟨r, k * 2 + 1, none⟩ = some (.string x.tx) := hcell _ _ (by have := flat_get encTh 2 encTh_len l k 1 x hx (by omega); simpa [encTh] using this)
    have z0 := hfz (k * 2)
    have z1 := hfz (k * 2 + 1)
    have hgl := hb.lt
    have hgr : g ≠ r := fun e => own_ne ho hb (by decide) r rfl e.symm
    have hE : ∀ q, (q = turnRE l k fr) ↔ q = (if x.st = fr then 0 else 1) := by
      intro q; simp only [turnRE, if_pos h0, Int.toNat_natCast, hx, Option.getD_some]
    by_cases h1 : x.st = fr
    · have hEE := Lib.hid ((hE 0).2 (by rw [if_pos h1]))
      have b1 : (x.st != fr) = false := by simp [h1]
      have hfin : RTab B ((w.setCell ⟨r, k * 2, none⟩ (.int .i64 st)).setCell ⟨r, k * 2 + 1, none⟩ (.string s)) (.pointer (some ⟨g, 0, none⟩)) (turnRL l k fr ⟨st, s⟩) g (.slice (some ⟨r, 0, none⟩) l.length c) ∧
          Touch (foot g (.slice (some ⟨r, 0, none⟩) l.length c)) w ((w.setCell ⟨r, k * 2, none⟩ (.int .i64 st)).setCell ⟨r, k * 2 + 1, none⟩ (.string s)) := by
        refine ⟨⟨rfl, (hb.far hgr _).far hgr _, ?_, hB⟩, touch_two⟩
        have := own_store (own_store ho (k * 2) (.int .i64 st)) (k * 2 + 1) (.string s)
        rw [flat_set2 encTh encTh_len ⟨st, s⟩ _ _ rfl, if_pos (by omega)] at this
        simpa [turnRL, ← hEE.out] using this
      have hF := Lib.hid hfin
      clear hcell hfz hE h1 hb ho hfin
      go_enter Try.func81, Try.ntmps81
      go_wp2
      all_goals go_ret
      all_goals exact ⟨ret_int hEE.out, hF.out⟩
    · have hEE := Lib.hid ((hE 1).2 (by rw [if_neg h1]))
      have b1 : (x.st != fr) = true := by simp [h1]
      clear hcell hfz hE h1 hb ho
      go_enter Try.func81, Try.ntmps81
      go_wp2
      go_ret
      refine ⟨ret_int hEE.out, ?_, Touch.refl _ _⟩
      rw [turnRL, ← hEE.out, if_neg (by omega)]
      exact h'.out
  · have hEE := Lib.hid (show (40 : Int) = turnRE l t fr by simp [turnRE, h0])
    have hgl := hb.lt
    clear hb ho
    by_cases ht : t < 0
    all_goals
      go_enter Try.func81, Try.ntmps81
      go_wp2
      go_ret
      refine ⟨ret_int hEE.out, ?_, Touch.refl _ _⟩
      rw [turnRL, ← hEE.out, if_neg (by omega)]
      exact h'.out

/-- A turn of the document's table that changes nothing more than the program's does. -/
theorem ref15_Wake (B : Nat) (w : World) (p : Value) (l : List Th) (g : Nat) (v : Value) (t : Int) (h : RTab B w p l g v) (hBw : B ≤ w.heap.size) (hl : l.length ≤ 16) :
    Calls Try.prog 47 #[p, .int .i64 t] w fun e w' => e = .returned (.int .i64 (turnRE l t 1)) ∧ RTab B w' p (turnRL l t 1 ⟨0, ⟨#[]⟩⟩) g v ∧ Touch (foot g v) w w' := by
  have hp := h.ptr
  have H := Lib.hid h
  clear h
  subst hp
  go_enter Try.func47, Try.ntmps47
  go_wp2_with (go_at_call 81; ((with_reducible refine (ref15_turn B _ _ l g v t 1 0 ⟨#[]⟩ H.out hBw hl).mono ?_); rintro e w' ⟨rfl, h1, h2⟩))
  go_ret
  exact ⟨rfl, h1, h2⟩

theorem ref15_Finish (B : Nat) (w : World) (p : Value) (l : List Th) (g : Nat) (v : Value) (t : Int) (s : ByteArray) (h : RTab B w p l g v) (hBw : B ≤ w.heap.size) (hl : l.length ≤ 16) :
    Calls Try.prog 48 #[p, .int .i64 t, .string s] w fun e w' => e = .returned (.int .i64 (turnRE l t 0)) ∧ RTab B w' p (turnRL l t 0 (finTo s)) g v ∧ Touch (foot g v) w w' := by
  have hp := h.ptr
  have H := Lib.hid h
  clear h
  subst hp
  by_cases hs : s.toList = []
  · have hf : finTo s = ⟨2, ⟨#[]⟩⟩ := if_pos hs
    rw [hf]
    clear hf
    go_enter Try.func48, Try.ntmps48
    go_wp2_with (go_at_call 81; ((with_reducible refine (ref15_turn B _ _ l g v t 0 2 ⟨#[]⟩ H.out hBw hl).mono ?_); rintro e w' ⟨rfl, h1, h2⟩))
    go_ret
    exact ⟨rfl, h1, h2⟩
  · have hf : finTo s = ⟨3, s⟩ := if_neg hs
    have hs' : (!s.toList.isEmpty) = true := by simpa using hs
    rw [hf]
    clear hf hs
    go_enter Try.func48, Try.ntmps48
    go_wp2_with (go_at_call 81; ((with_reducible refine (ref15_turn B _ _ l g v t 0 3 s H.out hBw hl).mono ?_); rintro e w' ⟨rfl, h1, h2⟩))
    go_ret
    exact ⟨rfl, h1, h2⟩

/-- What the document's Block answers is what the program's does. -/
theorem ref15_Block (B : Nat) (w : World) (p : Value) (l : List Th) (g : Nat) (v : Value) (t : Int) (s : ByteArray) (h : RTab B w p l g v) (hBw : B ≤ w.heap.size) (hl : l.length ≤ 16) :
    Calls Try.prog 45 #[p, .int .i64 t, .string s] w fun e w' => e = .returned (.int .i64 (turnE l t 0 ⟨1, s⟩)) ∧ RTab B w' p (turnL l t 0 ⟨1, s⟩) g v ∧ Touch (foot g v) w w' := by
  have hp := h.ptr
  have H := Lib.hid h
  have hsl := own_slice h.own
  have hcb := h.blk.cell 0
  clear h
  subst hp
  obtain ⟨a, c, rfl, _, _⟩ := hsl
  simp at hcb
  by_cases hbad : s.toList = [] ∧ 0 ≤ t ∧ t < l.length
  · obtain ⟨hs, ht0, ht1⟩ := hbad
    have hE : turnE l t 0 ⟨1, s⟩ = 1 := by simp [turnE, ht0, ht1, hs]
    have hL : turnL l t 0 ⟨1, s⟩ = l := by simp [turnL, hE]
    rw [hE, hL]
    clear hE hL
    go_enter Try.func45, Try.ntmps45
    go_wp2
    go_ret
    exact ⟨rfl, H.out, Touch.refl _ _⟩
  · have hE : turnE l t 0 ⟨1, s⟩ = turnRE l t 0 := by
      unfold turnE turnRE
      by_cases h0 : 0 ≤ t ∧ t < l.length
      · rw [if_pos h0, if_pos h0]
        have : ¬ s.toList = [] := fun hs => hbad ⟨hs, h0⟩
        simp [this]
      · rw [if_neg h0, if_neg h0]
    have hL : turnL l t 0 ⟨1, s⟩ = turnRL l t 0 ⟨1, s⟩ := by simp only [turnL, turnRL, hE]
    rw [hE, hL]
    clear hE hL
    by_cases hs : s.toList = []
    · by_cases ht : 0 ≤ t
      · have ht1 : ¬ t < l.length := fun h => hbad ⟨hs, ht, h⟩
        clear hbad
        go_enter Try.func45, Try.ntmps45
        go_wp2_with (go_at_call 81; ((with_reducible refine (ref15_turn B _ _ l g _ t 0 1 s H.out hBw hl).mono ?_); rintro e w' ⟨rfl, h1, h2⟩))
        go_ret
        exact ⟨rfl, h1, h2⟩
      · clear hbad
        go_enter Try.func45, Try.ntmps45
        go_wp2_with (go_at_call 81; ((with_reducible refine (ref15_turn B _ _ l g _ t 0 1 s H.out hBw hl).mono ?_); rintro e w' ⟨rfl, h1, h2⟩))
        go_ret
        exact ⟨rfl, h1, h2⟩
    · have hs' : s.toList.isEmpty = false := by simpa using hs
      clear hbad hs
      go_enter Try.func45, Try.ntmps45
      go_wp2_with (go_at_call 81; ((with_reducible refine (ref15_turn B _ _ l g _ t 0 1 s H.out hBw hl).mono ?_); rintro e w' ⟨rfl, h1, h2⟩))
      go_ret
      exact ⟨rfl, h1, h2⟩

theorem ref15_Pick (B : Nat) (w : World) (p : Value) (l : List Th) (g : Nat) (v : Value) (raw : Int) (h : RTab B w p l g v) (hl : l.length ≤ 16) (hr : -9223372036854775808 ≤ raw) (hr' : raw ≤ 9223372036854775807) :
    Calls Try.prog 49 #[p, .int .i64 raw] w fun e w' => e = .returned (.tuple #[.int .i64 (pickA (ixs rdR l) (l.any wtP) raw).1, .int .i64 (pickA (ixs rdR l) (l.any wtP) raw).2]) ∧ Kept w w' := by
  obtain ⟨rfl, hb, ho, hB⟩ := h
  obtain ⟨a, c, rfl, hlc, hc⟩ := own_slice ho
  have c0 := hb.cell 0
  simp at c0
  have hcells : ∀ k x, l[k]? = some x → ∃ r, a = some ⟨r, 0, none⟩ ∧ w.cell? ⟨r, k * 2, none⟩ = some (.int .i64 x.st) ∧ w.cell? ⟨r, k * 2 + 1, none⟩ = some (.string x.tx) := by
    intro k x hx
    obtain ⟨r, c', hv, _, _, hBr, hrs, hcell, hfz⟩ := own_form ho (by have := (List.getElem?_eq_some_iff.1 hx).1; omega)
    simp only [Value.slice.injEq] at hv
    obtain ⟨rfl, _, rfl⟩ := hv
    exact ⟨r, rfl, hcell _ _ (by have := flat_get encTh 2 encTh_len l k 0 x hx (by omega); simpa [encTh] using this), hcell _ _ (by have := flat_get encTh 2 encTh_len l k 1 x hx (by omega); simpa [encTh] using this)⟩
  have hcells' := Lib.hid hcells
  clear hb ho hcells
  go_enter Try.func49, Try.ntmps49
  go_wp2
  go_loopw [6, 7, 8] (fun rv wv i wr => ∃ k : Nat, k ≤ l.length ∧ i = .int .i64 k ∧ wr.ownsRow w.heap.size 3 1 rv (ixs rdR (l.take k)).length ((ixs rdR (l.take k)).map (Value.int .i64)) ∧ wv = .bool ((l.take k).any wtP) ∧ Below w.heap.size w wr) (fun _ _ i _ => l.length - (intOf i).toNat)
  case atStart => exact ⟨0, Nat.zero_le _, rfl, World.ownsRow_nil _ _ _ _, rfl, Below.refl _ _⟩
  case round =>
    obtain ⟨k, hk, rfl, hown, rfl, hbl⟩ := hrel
    have hsz := hbl.size
    have d0 := Kept.cell hbl c0
    by_cases hlt : k < l.length
    · obtain ⟨x, hx⟩ : ∃ x, l[k]? = some x := ⟨l[k]'hlt, List.getElem?_eq_getElem hlt⟩
      obtain ⟨r, rfl, r0, r1⟩ := hcells'.out k x hx
      have q0 := Kept.cell hbl r0
      have q1 := Kept.cell hbl r1
      have hst := pick_step hx rdR hlt
      have hle := ixs_le rdR (l.take k)
      have hlk : (l.take k).length ≤ k := List.length_take_le _ _
      obtain ⟨wb, hwb⟩ : ∃ wb, (l.take k).any wtP = wb := ⟨_, rfl⟩
      rw [hwb] at hst
      have hst' := Lib.hid hst
      clear hst
      cases wb
      all_goals
        by_cases h1 : x.st = 0
        · have hq : rdR x = true := by simp [rdR, h1]
          have hw : wtP x = false := by simp [wtP, h1]
          have hst2 := hst'.out
          rw [hq, hw] at hst2
          have HS := Lib.hid hst2
          clear hst2 hst' hq hw
          go_wp2_with (at_builtin; refine wpl_pushH _ elem_int rfl _ _ rfl w.heap.size _ _ _ rfl hown [.int .i64 k] _ _ rfl rfl rfl (int_one _) (by omega) (by omega) (by omega) ?_; intro v1 w1 hown1 hg1 hk1 hb1; have e0 := Kept.cell (hbl.trans hb1) c0; have e1 := Kept.cell (hbl.trans hb1) r0)
          go_roundw
          case rel => exact ⟨k + 1, by omega, by go_num, by rw [HS.out.1]; simpa using hown1, val_bool (by rw [HS.out.2]; rfl), hbl.trans hb1⟩
          case measure => simp [intOf]; omega
        · have hq : rdR x = false := by simp [rdR, h1]
          have hst2 := hst'.out
          rw [hq] at hst2
          have HS := Lib.hid hst2
          clear hst2 hst' hq
          go_wp2
          go_roundw
          case rel => exact ⟨k + 1, by omega, by go_num, by rw [HS.out.1]; simpa using hown, val_bool (by rw [HS.out.2]; rfl), hbl⟩
          case measure => simp [intOf]; omega
    · obtain rfl : k = l.length := by omega
      simp only [List.take_length] at hown
      rw [List.take_length]
      obtain ⟨wb, hwb⟩ : ∃ wb, l.any wtP = wb := ⟨_, rfl⟩
      rw [hwb]
      have HW := Lib.hid hwb
      clear hwb
      have hle := ixs_le rdR l
      by_cases hne : ixs rdR l = []
      · obtain ⟨ar, cr, rfl, hlr, hcr⟩ := own_slice hown
        have hp : pickA (ixs rdR l) wb raw = (-1, if wb then 2 else 1) := by simp [pickA, hne]
        have hl0 : (ixs rdR l).length = 0 := by simp [hne]
        have HP := Lib.hid hp
        clear hp hne hown
        cases wb
        all_goals
          go_wp2
          go_ret2
          exact ⟨by rw [HW.out, HP.out]; rfl, hbl⟩
      · have hp : pickA (ixs rdR l) wb raw = ((ixs rdR l)[(raw % (ixs rdR l).length).toNat]?.getD 0, 0) := by simp [pickA, hne]
        have hlp : 0 < (ixs rdR l).length := List.length_pos_iff.2 hne
        obtain ⟨n, hn⟩ : ∃ n, (ixs rdR l).length = n := ⟨_, rfl⟩
        rw [hn] at hown hle hlp hp
        obtain ⟨rr, cr, rfl, hlr, hcr, _, _, hcell, _⟩ := own_form hown hlp
        have m0 := Int.emod_nonneg raw (show (n : Int) ≠ 0 by omega)
        have m1 := Int.emod_lt_of_pos raw (show (0 : Int) < n by omega)
        have hcases : (0 ≤ raw.tmod n ∧ raw % n = raw.tmod n) ∨ (raw.tmod n < 0 ∧ raw % n = raw.tmod n + n) := tmod_cases raw n (by omega)
        obtain ⟨q, hq⟩ : ∃ q : Nat, raw % (n : Int) = q := ⟨(raw % n).toNat, by omega⟩
        rw [hq] at m0 m1 hp hcases
        obtain ⟨z, hz⟩ : ∃ z, (ixs rdR l)[q]? = some z := ⟨_, List.getElem?_eq_getElem (show q < (ixs rdR l).length by omega)⟩
        have hcq : wr.cell? ⟨rr, q, none⟩ = some (.int .i64 z) := hcell q _ (by rw [List.getElem?_map, hz]; rfl)
        rw [Int.toNat_natCast, hz] at hp
        have HP := Lib.hid hp
        have hln : (l.length : Int) ≤ 16 := by omega
        have hn0 : ((n : Int) == 0) = false := by simp; omega
        have hn1 : ¬ (n : Int) = 0 := by omega
        clear hp hne hown hcell hz hn hq
        rcases hcases with ⟨hs, he⟩ | ⟨hs, he⟩
        · have he' : raw.tmod n = q := he.symm
          clear he hs
          go_wp2
          go_ret2
          exact ⟨by rw [HW.out, HP.out]; rfl, hbl⟩
        · have he' : raw.tmod n = (q : Int) - n := by omega
          clear he hs
          go_wp2
          go_ret2
          exact ⟨by rw [HW.out, HP.out]; rfl, hbl⟩

end Go.Proofs.Ytgophanpnaenkaa
