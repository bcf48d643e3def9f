/-
  Package sched: Block, Wake, Finish, State, Len, New, by contract.
-/
import Derived.Test.YteahbpcimnaioaaSched
namespace Go.Proofs.Yteahbpcimnaioaa
open Go.RowKit
set_option maxRecDepth 100000

theorem sched_New (w : World) :
    Calls Try.prog 6 #[] w fun e w' => e = .returned (.pointer (some ⟨w.heap.size, 0, none⟩)) ∧ PTab w.heap.size w' (.pointer (some ⟨w.heap.size, 0, none⟩)) [] w.heap.size (.slice none 0 0) ∧ Kept w w' := by
  go_enter Try.func6, Try.ntmps6
  go_wp2
  go_ret
  exact ⟨rfl, ⟨rfl, Blk.new _ _ _, World.ownsRow_nil _ _ _ _, Nat.le_refl _⟩, (Below.refl _ _).alloc (Nat.le_refl _) _⟩

theorem sched_Block (B : Nat) (w : World) (p : Value) (l : List Th) (g : Nat) (v : Value) (t : Int) (s : ByteArray) (h : PTab B w p l g v) (hBw : B ≤ w.heap.size) (hl : l.length ≤ 16) :
    Calls Try.prog 9 #[p, .int .i64 t, .string s] w fun e w' => e = .returned (.int .i64 (turnE l t 0 ⟨1, s⟩)) ∧ PTab B w' p (turnL l t 0 ⟨1, s⟩) g v ∧ Touch (foot g v) w w' := by
  have hp := h.ptr
  have H := Lib.hid h
  clear h
  subst hp
  go_enter Try.func9, Try.ntmps9
  go_wp2_with (go_at_call 18; ((with_reducible refine (sched_turn B _ _ l g v t 0 ⟨1, s⟩ H.out hBw hl).mono ?_); rintro e w' ⟨rfl, h1, h2⟩))
  go_ret
  exact ⟨rfl, h1, h2⟩

theorem sched_Wake (B : Nat) (w : World) (p : Value) (l : List Th) (g : Nat) (v : Value) (t : Int) (h : PTab B w p l g v) (hBw : B ≤ w.heap.size) (hl : l.length ≤ 16) :
    Calls Try.prog 15 #[p, .int .i64 t] w fun e w' => e = .returned (.int .i64 (turnE l t 1 ⟨0, ⟨#[]⟩⟩)) ∧ PTab B w' p (turnL l t 1 ⟨0, ⟨#[]⟩⟩) g v ∧ Touch (foot g v) w w' := by
  have hp := h.ptr
  have H := Lib.hid h
  clear h
  subst hp
  go_enter Try.func15, Try.ntmps15
  go_wp2_with (go_at_call 18; ((with_reducible refine (sched_turn B _ _ l g v t 1 ⟨0, ⟨#[]⟩⟩ H.out hBw hl).mono ?_); rintro e w' ⟨rfl, h1, h2⟩))
  go_ret
  exact ⟨rfl, h1, h2⟩

/-- What Finish turns a thread to. -/
def finTo (s : ByteArray) : Th := if s.toList = [] then ⟨2, ⟨#[]⟩⟩ else ⟨3, s⟩

theorem sched_Len (B : Nat) (w : World) (p : Value) (l : List Th) (g : Nat) (v : Value) (h : PTab B w p l g v) :
    Calls Try.prog 17 #[p] w fun e w' => e = .returned (.int .i64 l.length) ∧ w = w' := by
  obtain ⟨rfl, hb, ho, hB⟩ := h
  obtain ⟨a, c, rfl, hlc, hc⟩ := own_slice ho
  have c0 := hb.cell 0
  simp at c0
  clear hb ho
  go_enter Try.func17, Try.ntmps17
  go_wp2
  go_ret
  exact ⟨rfl, rfl⟩

def stateOf (l : List Th) (t : Int) : Th := if 0 ≤ t ∧ t < l.length then l[t.toNat]?.getD ⟨0, ⟨#[]⟩⟩ else ⟨0, ⟨#[]⟩⟩

theorem tmod_cases (raw n : Int) (hn : 1 ≤ n) : (0 ≤ raw.tmod n ∧ raw % n = raw.tmod n) ∨ (raw.tmod n < 0 ∧ raw % n = raw.tmod n + n) := by
  have e := Int.natAbs_tmod raw n
  have l := Nat.mod_lt raw.natAbs (show 0 < n.natAbs by omega)
  have m1 := Int.mul_tdiv_add_tmod raw n
  have m2 := Int.mul_ediv_add_emod raw n
  have p1 := Int.emod_nonneg raw (show n ≠ 0 by omega)
  have p2 := Int.emod_lt_of_pos raw (show 0 < n by omega)
  generalize raw.tmod n = r at *
  generalize raw % n = s at *
  have h : n * (raw / n - raw.tdiv n) = r - s := by rw [Int.mul_sub]; omega
  generalize raw / n - raw.tdiv n = z at *
  rcases (by omega : z = 0 ∨ z = -1 ∨ z ≤ -2 ∨ 1 ≤ z) with rfl | rfl | hz | hz
  · left; simp at h; omega
  · right; omega
  · exfalso
    have : n * z ≤ n * (-2) := Int.mul_le_mul_of_nonneg_left hz (by omega)
    omega
  · exfalso
    have : n * 1 ≤ n * z := Int.mul_le_mul_of_nonneg_left hz (by omega)
    omega

theorem place_val (raw n : Int) (hn : 1 ≤ n) (hn' : n ≤ 16) (hr : -9223372036854775808 ≤ raw) (hr' : raw ≤ 9223372036854775807) :
    wrap64 (raw.tmod n + bits .and .i64 n (raw.tmod n / 9223372036854775808)) = raw % n := by
  have e := Int.natAbs_tmod raw n
  have l := Nat.mod_lt raw.natAbs (show 0 < n.natAbs by omega)
  have m1 := Int.mul_tdiv_add_tmod raw n
  have m2 := Int.mul_ediv_add_emod raw n
  have p1 := Int.emod_nonneg raw (show n ≠ 0 by omega)
  have p2 := Int.emod_lt_of_pos raw (show 0 < n by omega)
  have key : raw % n = raw.tmod n ∨ raw % n = raw.tmod n + n := by
    generalize raw.tmod n = r at *
    generalize raw % n = s at *
    have h : n * (raw / n - raw.tdiv n) = r - s := by rw [Int.mul_sub]; omega
    generalize raw / n - raw.tdiv n = z at *
    rcases (by omega : z = 0 ∨ z = -1 ∨ z ≤ -2 ∨ 1 ≤ z) with rfl | rfl | hz | hz
    · left; simp at h; omega
    · right; omega
    · exfalso
      have : n * z ≤ n * (-2) := Int.mul_le_mul_of_nonneg_left hz (by omega)
      omega
    · exfalso
      have : n * 1 ≤ n * z := Int.mul_le_mul_of_nonneg_left hz (by omega)
      omega
  by_cases h0 : 0 ≤ raw.tmod n
  · have hq : raw.tmod n / 9223372036854775808 = 0 := by omega
    have hb : bits .and .i64 n 0 = 0 := by
      show IntKind.i64.wrap ((BitVec.ofInt 64 n &&& BitVec.ofInt 64 0).toNat : Nat) = 0
      rw [show BitVec.ofInt 64 0 = 0#64 from rfl, BitVec.and_zero]; rfl
    rw [hq, hb]
    unfold wrap64; omega
  · have hq : raw.tmod n / 9223372036854775808 = -1 := by omega
    have hb : bits .and .i64 n (-1) = n := by
      show IntKind.i64.wrap ((BitVec.ofInt 64 n &&& BitVec.ofInt 64 (-1)).toNat : Nat) = n
      rw [show BitVec.ofInt 64 (-1) = BitVec.allOnes 64 by decide, BitVec.and_allOnes, BitVec.toNat_ofInt, IntKind.wrap_i64]
      omega
    rw [hq, hb]
    unfold wrap64; omega

theorem sched_place (raw n : Int) (w : World) (hr : -9223372036854775808 ≤ raw) (hr' : raw ≤ 9223372036854775807) (hn : 1 ≤ n) (hn' : n ≤ 16) :
    Calls Try.prog 21 #[.int .i64 raw, .int .i64 n] w fun e w' => e = .returned (.int .i64 (raw % n)) ∧ w = w' := by
  have hz : ¬ n = 0 := by omega
  have hv := Lib.hid (place_val raw n hn hn' hr hr')
  go_enter Try.func21, Try.ntmps21
  go_wp2
  go_ret
  exact ⟨ret_int hv.out, rfl⟩

/-- The places of those that satisfy a test. -/
def ixs (q : Th → Bool) (l : List Th) : List Int := l.zipIdx.filterMap fun y => if q y.1 then some (y.2 : Int) else none
theorem ixs_snoc (q : Th → Bool) (l : List Th) (x : Th) : ixs q (l ++ [x]) = ixs q l ++ if q x then [(l.length : Int)] else [] := by
  unfold ixs
  rw [List.zipIdx_append, List.filterMap_append]
  cases h : q x <;> simp [h]
theorem ixs_le (q : Th → Bool) (l : List Th) : (ixs q l).length ≤ l.length := by
  unfold ixs
  exact Nat.le_trans (List.length_filterMap_le _ _) (by simp)
def rdP (x : Th) : Bool := x.st == 0 && decide (x.tx.toList = [])
def rdR (x : Th) : Bool := x.st == 0
def wtP (x : Th) : Bool := x.st == 1
/-- What Pick answers. -/
def pickA (ready : List Int) (waits : Bool) (raw : Int) : Int × Int :=
  if ready = [] then (-1, if waits then 2 else 1) else (ready[(raw % ready.length).toNat]?.getD 0, 0)
theorem take_snoc_th {l : List Th} {k : Nat} {x : Th} (h : l[k]? = some x) : l.take (k + 1) = l.take k ++ [x] := by rw [List.take_add_one, h]; rfl

theorem elem_int : ElemTy Try.prog 22 3 (.int .i64 0) 1 8 := ⟨Try.underlying22, by kernel_rfl, rfl, by decide⟩
theorem int_one (x : Int) : ∀ u ∈ [Value.int .i64 x], u.oneCell' = true := by intro u hu; simp at hu; subst hu; rfl

/-- What a round of Pick's loop does to what has been gathered. -/
theorem pick_step {l : List Th} {k : Nat} {x : Th} (hx : l[k]? = some x) (q : Th → Bool) (hk : k < l.length) :
    ixs q (l.take (k + 1)) = ixs q (l.take k) ++ (if q x then [(k : Int)] else []) ∧ (l.take (k + 1)).any wtP = ((l.take k).any wtP || wtP x) := by
  rw [take_snoc_th hx, ixs_snoc, List.length_take, Nat.min_eq_left (by omega), List.any_append]
  exact ⟨rfl, by simp⟩

theorem box_cell {wr w1 : World} {base : Nat} {e T : TypeId} {sz n : Nat} {u : Value} {xs : List Value} {a b : Value} (hown : wr.ownsRow base e sz u n xs) (hg : (wr.alloc (.cells #[a, b] T)).grownBy w1 u.ownBlock) : w1.cell? ⟨wr.heap.size, 0, none⟩ = some a := by
  refine hg.cell ?_ fun h => ?_
  · exact (Blk.new wr T #[a, b]).cell 0
  · have := (hown.lt _ h.symm).2
    simp at this

set_option maxHeartbeats 1000000 in
theorem sched_Pick (B : Nat) (w : World) (p : Value) (l : List Th) (g : Nat) (v : Value) (raw : Int) (h : PTab B w p l g v) (hl : l.length ≤ 16) (hr : -9223372036854775808 ≤ raw) (hr' : raw ≤ 9223372036854775807) :
    Calls Try.prog 14 #[p, .int .i64 raw] w fun e w' => e = .returned (.tuple #[.int .i64 (pickA (ixs rdP l) (l.any wtP) raw).1, .int .i64 (pickA (ixs rdP l) (l.any wtP) raw).2]) ∧ Kept w w' := by
  obtain ⟨rfl, hb, ho, hB⟩ := h
  obtain ⟨a, c, rfl, hlc, hc⟩ := own_slice ho
  have c0 := hb.cell 0
  simp at c0
  have hrd : Rd w 2 (.slice a l.length c) l.length (l.flatMap encTh) := Rd.of_own ho
  have hcells : ∀ k x, l[k]? = some x → ∃ r, a = some ⟨r, 0, none⟩ ∧ w.cell? ⟨r, k * 2, none⟩ = some (.int .i64 x.st) ∧ w.cell? ⟨r, k * 2 + 1, none⟩ = some (.string x.tx) := by
    intro k x hx
    obtain ⟨r, c', hv, _, _, hBr, hrs, hcell, hfz⟩ := own_form ho (by have := (List.getElem?_eq_some_iff.1 hx).1; omega)
    simp only [Value.slice.injEq] at hv
    obtain ⟨rfl, _, rfl⟩ := hv
    exact ⟨r, rfl, hcell _ _ (by have := flat_get encTh 2 encTh_len l k 0 x hx (by omega); simpa [encTh] using this), hcell _ _ (by have := flat_get encTh 2 encTh_len l k 1 x hx (by omega); simpa [encTh] using this)⟩
  have hcells' := Lib.hid hcells
  clear hb ho hrd hcells
  go_enter Try.func14, Try.ntmps14
  go_wp2
  go_loopw [6, 7, 15] (fun rv wv i wr => ∃ k : Nat, k ≤ l.length ∧ i = .int .i64 k ∧ wr.ownsRow w.heap.size 3 1 rv (ixs rdP (l.take k)).length ((ixs rdP (l.take k)).map (Value.int .i64)) ∧ wv = .bool ((l.take k).any wtP) ∧ Below w.heap.size w wr) (fun _ _ i _ => l.length - (intOf i).toNat)
  case atStart => exact ⟨0, Nat.zero_le _, rfl, World.ownsRow_nil _ _ _ _, rfl, Below.refl _ _⟩
  case round =>
    obtain ⟨k, hk, rfl, hown, rfl, hbl⟩ := hrel
    have hsz := hbl.size
    by_cases hlt : k < l.length
    · obtain ⟨x, hx⟩ : ∃ x, l[k]? = some x := ⟨l[k]'hlt, List.getElem?_eq_getElem hlt⟩
      obtain ⟨r, rfl, r0, r1⟩ := hcells'.out k x hx
      have q0 := Kept.cell hbl r0
      have q1 := Kept.cell hbl r1
      have hst := pick_step hx rdP hlt
      have hle := ixs_le rdP (l.take k)
      have hlk : (l.take k).length ≤ k := List.length_take_le _ _
      obtain ⟨wb, hwb⟩ : ∃ wb, (l.take k).any wtP = wb := ⟨_, rfl⟩
      rw [hwb] at hst
      have hst' := Lib.hid hst
      clear hst
      have hj : (k : Int) + 1 = ((k + 1 : Nat) : Int) := by omega
      cases wb
      all_goals
        by_cases h1 : x.st = 0
        · by_cases h2 : x.tx.toList = []
          · have hq : rdP x = true := by simp [rdP, h1, h2]
            have hw : wtP x = false := by simp [wtP, h1]
            have hst2 := hst'.out
            rw [hq, hw] at hst2
            have HS := Lib.hid hst2
            clear hst2 hst' hq hw hj
            go_wp2_with (at_builtin; refine wpl_pushH _ elem_int rfl _ _ rfl w.heap.size _ _ _ rfl (hown.alloc _) [.int .i64 k] _ _ rfl (by simp) rfl (int_one _) (by omega) (by omega) (by omega) ?_; intro v1 w1 hown1 hg1 hk1 hb1; have cx := box_cell hown hg1)
            go_roundw
            case rel => exact ⟨k + 1, by omega, by go_num, by rw [HS.out.1]; simpa using hown1, val_bool (by rw [HS.out.2]; rfl), (hbl.alloc hsz _).trans hb1⟩
            case measure => simp [intOf]; omega
          · have hq : rdP x = false := by simp [rdP, h2]
            have hw : wtP x = false := by simp [wtP, h1]
            have hst2 := hst'.out
            rw [hq, hw] at hst2
            have HS := Lib.hid hst2
            clear hst2 hst' hq hw hj
            go_wp2
            go_roundw
            case rel => exact ⟨k + 1, by omega, by go_num, by rw [HS.out.1]; simpa using hown.alloc _, val_bool (by rw [HS.out.2]; rfl), hbl.alloc hsz _⟩
            case measure => simp [intOf]; omega
        · have hq : rdP x = false := by simp [rdP, h1]
          have hst2 := hst'.out
          rw [hq] at hst2
          have HS := Lib.hid hst2
          clear hst2 hst' hq hj
          go_wp2
          go_roundw
          case rel => exact ⟨k + 1, by omega, by go_num, by rw [HS.out.1]; simpa using hown.alloc _, val_bool (by rw [HS.out.2]; rfl), hbl.alloc hsz _⟩
          case measure => simp [intOf]; omega
    · obtain rfl : k = l.length := by omega
      simp only [List.take_length] at hown
      rw [List.take_length]
      obtain ⟨wb, hwb⟩ : ∃ wb, l.any wtP = wb := ⟨_, rfl⟩
      rw [hwb]
      have HW := Lib.hid hwb
      clear hwb
      have hle := ixs_le rdP l
      by_cases hne : ixs rdP l = []
      · obtain ⟨ar, cr, rfl, hlr, hcr⟩ := own_slice hown
        have hp : pickA (ixs rdP l) wb raw = (-1, if wb then 2 else 1) := by simp [pickA, hne]
        have hl0 : (ixs rdP l).length = 0 := by simp [hne]
        have HP := Lib.hid hp
        clear hp hne hown
        cases wb
        all_goals
          go_wp2
          go_ret2
          exact ⟨by rw [HW.out, HP.out]; rfl, hbl⟩
      · have hp : pickA (ixs rdP l) wb raw = ((ixs rdP l)[(raw % (ixs rdP l).length).toNat]?.getD 0, 0) := by simp [pickA, hne]
        have hlp : 0 < (ixs rdP l).length := List.length_pos_iff.2 hne
        obtain ⟨n, hn⟩ : ∃ n, (ixs rdP l).length = n := ⟨_, rfl⟩
        rw [hn] at hown hle hlp hp
        obtain ⟨rr, cr, rfl, hlr, hcr, _, _, hcell, _⟩ := own_form hown hlp
        have m0 := Int.emod_nonneg raw (show (n : Int) ≠ 0 by omega)
        have m1 := Int.emod_lt_of_pos raw (show (0 : Int) < n by omega)
        obtain ⟨q, hq⟩ : ∃ q : Nat, raw % (n : Int) = q := ⟨(raw % n).toNat, by omega⟩
        rw [hq] at m0 m1 hp
        obtain ⟨z, hz⟩ : ∃ z, (ixs rdP l)[q]? = some z := ⟨_, List.getElem?_eq_getElem (show q < (ixs rdP l).length by omega)⟩
        have hcq : wr.cell? ⟨rr, q, none⟩ = some (.int .i64 z) := hcell q _ (by rw [List.getElem?_map, hz]; rfl)
        rw [Int.toNat_natCast, hz] at hp
        have HP := Lib.hid hp
        have hpl := Lib.hid (sched_place raw n wr hr hr' (by omega) (by omega))
        have hln : (l.length : Int) ≤ 16 := by omega
        have hn0 : ((n : Int) == 0) = false := by simp; omega
        clear hp hne hown hcell hz hn
        go_wp2_with (go_at_call 21; ((with_reducible refine hpl.out.mono ?_); rintro e w' ⟨rfl, rfl⟩))
        go_ret2
        exact ⟨by rw [HW.out, HP.out]; rfl, hbl⟩

end Go.Proofs.Yteahbpcimnaioaa
