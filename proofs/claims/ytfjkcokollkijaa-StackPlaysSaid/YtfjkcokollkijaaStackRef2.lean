/-
  The document's own frame by contract: Store, Load, Clear, Pop.
-/
import Derived.Test.YtfjkcokollkijaaStackRef
namespace Go.Proofs.Ytfjkcokollkijaa
open Go.RowKit
set_option maxRecDepth 100000

theorem ref_Store (B : Nat) (w : World) (p : Value) (x : FrV) (g : Nat) (v u : Value) (t : Int) (y : ValV) (h : PRf B w p x g v u) (hl : x.loc.length ≤ 64) :
    Calls Try.prog 20 #[p, .int .i64 t, .agg #[.bool y.ref, .int .i64 y.n]] w fun e w' => e = .returned (.bool (inIx x.loc.length t)) ∧ PRf B w' p ⟨x.l, x.most, storeL x.loc t y⟩ g v u ∧ Touch (footF g v u) w w' := by
  have hp := h.ptr
  subst hp
  have h' := h
  obtain ⟨-, hb, ho, hu, hB, hap⟩ := h
  obtain ⟨a, c, rfl, hlc, hc⟩ := own_slice hu
  have c0 := hb.cell 2
  simp at c0
  have hbl := hb.lt
  by_cases ht : 0 ≤ t ∧ t < x.loc.length
  · obtain ⟨k, rfl⟩ : ∃ k : Nat, t = k := ⟨t.toNat, by omega⟩
    have hk : k < x.loc.length := by omega
    have hi : inIx x.loc.length k = true := by simp [inIx, hk]
    have hst : storeL x.loc k y = x.loc.set k y := by simp [storeL, hi]
    obtain ⟨r, c', hv, _, _, hge, hrs, hcell, hfz⟩ := own_form hu (by omega)
    simp only [Value.slice.injEq] at hv
    obtain ⟨rfl, -, rfl⟩ := hv
    have hxl := hu.1
    obtain ⟨q0, hq0⟩ : ∃ q, (x.loc.flatMap encVal)[k * 2]? = some q := ⟨_, List.getElem?_eq_getElem (by omega)⟩
    obtain ⟨q1, hq1⟩ : ∃ q, (x.loc.flatMap encVal)[k * 2 + 1]? = some q := ⟨_, List.getElem?_eq_getElem (by omega)⟩
    have x0 := hcell _ _ hq0
    have x1 := hcell _ _ hq1
    have f0 := hfz (k * 2)
    have f1 := hfz (k * 2 + 1)
    have hgr : g ≠ r := fun e => own_ne hu hb (by decide) r rfl e.symm
    have hfin : ∀ W, Touch (fun _ => False) w W → PRf B ((W.setCell ⟨r, k * 2, none⟩ (.bool y.ref)).setCell ⟨r, k * 2 + 1, none⟩ (.int .i64 y.n)) (.pointer (some ⟨g, 0, none⟩)) ⟨x.l, x.most, storeL x.loc k y⟩ g v (.slice (some ⟨r, 0, none⟩) x.loc.length c) ∧
        Touch (footF g v (.slice (some ⟨r, 0, none⟩) x.loc.length c)) w ((W.setCell ⟨r, k * 2, none⟩ (.bool y.ref)).setCell ⟨r, k * 2 + 1, none⟩ (.int .i64 y.n)) := by
      intro W hW
      have hf := h'.still hW
      have ht2 : Touch (fun b => b = r) W ((W.setCell ⟨r, k * 2, none⟩ (.bool y.ref)).setCell ⟨r, k * 2 + 1, none⟩ (.int .i64 y.n)) := ((Touch.refl (fun b => b = r) W).setCell (p := ⟨r, k * 2, none⟩) (.inl rfl) _).setCell (p := ⟨r, k * 2 + 1, none⟩) (.inl rfl) _
      refine ⟨⟨rfl, (hf.blk.far hgr _).far hgr _, ht2.own hf.own fun j hj hj' => hap j hj (by rw [hj']; rfl), ?_, hB, hap⟩, ?_⟩
      · rw [hst, List.length_set]
        have := own_store (own_store hf.owl (k * 2) (.bool y.ref)) (k * 2 + 1) (.int .i64 y.n)
        rw [vals_set _ _ _ hk] at this
        exact this
      · exact (hW.mono fun b hb => hb.elim).trans ht2 fun b hb => .inl (.inr (.inr (by rw [hb]; rfl)))
    have HF := Lib.hid hfin
    have HI := Lib.hid hi
    clear hb ho hu hap hcell hfz hxl hq0 hq1 hfin h' hst hi
    go_enter Try.func20, Try.ntmps20
    go_wp2_with fail
    go_region
    all_goals go_wp2
    all_goals go_ret
    all_goals refine ⟨ret_bool HI.out.symm, ?_⟩
    all_goals exact ⟨(HF.out w (Touch.refl _ _)).1.still ((Touch.refl _ _).alloc _).drew, ((HF.out w (Touch.refl _ _)).2.alloc _).drew⟩
  · have hi : inIx x.loc.length t = false := by
      simp only [inIx, Bool.and_eq_false_iff, decide_eq_false_iff_not]
      omega
    have hst : storeL x.loc t y = x.loc := by simp [storeL, hi]
    rw [hi, hst]
    have H := Lib.hid h'
    clear hb ho hu hap h' hst hi
    rcases (by omega : t < 0 ∨ (0 ≤ t ∧ (x.loc.length : Int) ≤ t)) with h0 | ⟨h0, h1⟩
    all_goals
      go_enter Try.func20, Try.ntmps20
      go_wp2_with fail
      go_ret
      have k0 : Touch (fun _ => False) w (w.alloc (.cells #[.bool y.ref, .int .i64 y.n] 34)) := (Touch.refl _ _).alloc _
      exact ⟨rfl, H.out.still k0, k0.mono fun b hb => hb.elim⟩

theorem ref_Load (B : Nat) (w : World) (p : Value) (x : FrV) (g : Nat) (v u : Value) (t : Int) (r : Bool) (h : PRf B w p x g v u) (hl : x.loc.length ≤ 64) :
    Calls Try.prog 18 #[p, .int .i64 t, .bool r] w fun e w' => e = .returned (.tuple #[.agg #[.bool (loadV x.loc t r).ref, .int .i64 (loadV x.loc t r).n], .bool (loadB x.loc t r)]) ∧ Kept w w' := by
  obtain ⟨rfl, hb, ho, hu, hB, hap⟩ := h
  obtain ⟨a, c, rfl, hlc, hc⟩ := own_slice hu
  have c0 := hb.cell 2
  simp at c0
  have hbl := hb.lt
  by_cases ht : 0 ≤ t ∧ t < x.loc.length
  · obtain ⟨k, rfl⟩ : ∃ k : Nat, t = k := ⟨t.toNat, by omega⟩
    have hk : k < x.loc.length := by omega
    obtain ⟨y, hy⟩ : ∃ y, x.loc[k]? = some y := ⟨_, List.getElem?_eq_getElem hk⟩
    obtain ⟨rr, c', hv, _, z0, z1⟩ := val_cells rfl hu hy
    simp only [Value.slice.injEq] at hv
    obtain ⟨rfl, -, rfl⟩ := hv
    have hlb : loadB x.loc k r = (y.ref == r) := by simp only [loadB, inIx, Int.toNat_natCast, hy, Option.getD_some]; simp [hk]
    have hlv : loadV x.loc k r = if y.ref == r then y else zeroV := by simp only [loadV, hlb, Int.toNat_natCast, hy, Option.getD_some]
    have hrr : rr < w.heap.size := (hu.lt rr rfl).2
    rw [hlb, hlv]
    clear hb ho hu hap hlb hlv hy
    by_cases hyr : y.ref = r
    · subst hyr
      have hbb : (y.ref == y.ref) = true := by simp
      rw [hbb, if_pos rfl]
      have hb2 : (y.ref != y.ref) = false := by simp
      go_enter Try.func18, Try.ntmps18
      go_wp2_with fail
      go_returns
      exact ⟨rfl, by exact (Below.refl _ _).alloc (Nat.le_refl _) _⟩
    · have hbb : (y.ref == r) = false := by simpa using hyr
      rw [hbb, if_neg (by simp)]
      have hb2 : (y.ref != r) = true := by simpa using hyr
      clear hyr
      go_enter Try.func18, Try.ntmps18
      go_wp2_with fail
      go_returns
      exact ⟨rfl, by exact (Below.refl _ _).alloc (Nat.le_refl _) _⟩
  · have hi : inIx x.loc.length t = false := by
      simp only [inIx, Bool.and_eq_false_iff, decide_eq_false_iff_not]
      omega
    have hlb : loadB x.loc t r = false := by simp [loadB, hi]
    have hlv : loadV x.loc t r = zeroV := by simp [loadV, hlb]
    rw [hlb, hlv]
    clear hb ho hu hap hlb hlv hi
    rcases (by omega : t < 0 ∨ (0 ≤ t ∧ (x.loc.length : Int) ≤ t)) with h0 | ⟨h0, h1⟩
    all_goals
      go_enter Try.func18, Try.ntmps18
      go_wp2_with fail
      go_returns
      exact ⟨rfl, by exact (Below.refl _ _).alloc (Nat.le_refl _) _⟩


theorem ref_Clear (B : Nat) (w : World) (p : Value) (x : FrV) (g : Nat) (v u : Value) (y : ValV) (h : PRf B w p x g v u) (hBw : B ≤ w.heap.size) :
    Calls Try.prog 16 #[p, .agg #[.bool y.ref, .int .i64 y.n]] w fun e w' => e = .returned (.tuple #[]) ∧ ∃ v', PRf B w' p ⟨clearL x y, x.most, x.loc⟩ g v' u ∧ Touch (footF g v u) w w' ∧ ∀ k, v'.ownBlock = some k → v.ownBlock = some k ∨ w.heap.size ≤ k := by
  have hp := h.ptr
  subst hp
  have h' := h
  obtain ⟨-, hb, ho, hu, hB, hap⟩ := h
  have hbl := hb.lt
  have c0 := hb.cell 0
  have f0 := hb.frozen 1
  simp at c0
  by_cases hm : 0 < x.most
  · have hcl : clearL x y = [y] := if_pos hm
    have HB := Lib.hid hb
    have HU := Lib.hid hu
    have HA := Lib.hid hap
    have HC := Lib.hid hcl
    have H := Lib.hid h'
    clear hb ho hu hap h' hcl
    have c1 := HB.out.cell 1
    simp at c1
    go_enter Try.func16, Try.ntmps16
    go_wp2_with (fail)
    go_end0
    have e : (((w.setCell ⟨g, 1, none⟩ (.slice (some ⟨w.heap.size + 1, 0, none⟩) 1 1)).alloc (.cells #[.bool y.ref, .int .i64 y.n] 34)).alloc (.cells #[.bool y.ref, .int .i64 y.n] 34)) =
        ((w.alloc (.cells #[.bool y.ref, .int .i64 y.n] 34)).alloc (.cells #[.bool y.ref, .int .i64 y.n] 34)).setCell ⟨g, 1, none⟩ (.slice (some ⟨w.heap.size + 1, 0, none⟩) 1 1) := by
      rw [World.setCell_alloc_past _ _ _ _ (by simp; omega), World.setCell_alloc_past _ _ _ _ hbl]
    rw [e]
    obtain ⟨W, hW⟩ : ∃ W, W = (w.alloc (.cells #[.bool y.ref, .int .i64 y.n] 34)).alloc (.cells #[.bool y.ref, .int .i64 y.n] 34) := ⟨_, rfl⟩
    have kW : Kept w W := by rw [hW]; exact ((Below.refl _ _).alloc (Nat.le_refl _) _).alloc (by simp) _
    have bW : Blk W (w.heap.size + 1) 34 #[.bool y.ref, .int .i64 y.n] := by rw [hW]; exact (show (w.alloc _).heap.size = w.heap.size + 1 by simp) ▸ Blk.new (w.alloc (.cells #[.bool y.ref, .int .i64 y.n] 34)) _ _
    rw [← hW]
    have ho1 : W.ownsRow B 34 2 (.slice (some ⟨w.heap.size + 1, 0, none⟩) 1 1) [y].length ([y].flatMap encVal) :=
      ⟨rfl, .inr ⟨w.heap.size + 1, 1, #[.bool y.ref, .int .i64 y.n], rfl, by omega, bW, Nat.le_refl _, by unfold maxLen; omega, rfl, rfl⟩⟩
    have hu1 := Touch.own (S := fun _ => False) (Touch.of_kept kW) HU.out (fun _ _ => id)
    have F := IsRf.hold (x := x) (l := [y]) (HB.out.kept kW) ho1 hu1 hB (fun k hk hk' => by
      have h1 : w.heap.size + 1 = k := by simpa [Value.ownBlock] using hk
      have h2 := (HU.out.lt k hk').2
      omega) (by decide)
    refine ⟨rfl, _, by rw [HC.out]; exact F, (Touch.of_kept (S := footF g v u) kW).setCell (.inl (.inl rfl)) _, fun k hk => .inr ?_⟩
    have h1 : w.heap.size + 1 = k := by simpa [Value.ownBlock] using hk
    omega
  · have hcl : clearL x y = x.l := if_neg hm
    have HC := Lib.hid hcl
    have H := Lib.hid h'
    have k0 : Touch (fun _ => False) w (w.alloc (.cells #[.bool y.ref, .int .i64 y.n] 34)) := (Touch.refl _ _).alloc _
    clear hb ho hu hap h' hcl
    go_enter Try.func16, Try.ntmps16
    go_wp2_with (fail)
    go_end0
    exact ⟨rfl, _, by rw [HC.out]; exact H.out.still k0, k0.mono fun b hb => hb.elim, fun k hk => .inl hk⟩

/-- What the document's Pop leaves. -/
def PoppedR (B : Nat) (w : World) (x : FrV) (g : Nat) (v u : Value) (s : ByteArray) (e : Ending) (w' : World) : Prop :=
  (¬ popOk s x.l ∧ e = .returned (.tuple #[.slice none 0 0, .bool false]) ∧ Kept w w') ∨
  (popOk s x.l ∧ ∃ t v', e = .returned (.tuple #[t, .bool true]) ∧ w'.ownsRow w.heap.size 34 2 t s.size ((x.l.drop (x.l.length - s.size)).flatMap encVal) ∧ PRf B w' (.pointer (some ⟨g, 0, none⟩)) ⟨x.l.take (x.l.length - s.size), x.most, x.loc⟩ g v' u ∧
    Touch (fun b => b = g) w w' ∧ ∀ k, v'.ownBlock = some k → v.ownBlock = some k)

theorem fit_snoc {s : ByteArray} {l : List ValV} {q j : Nat} {y : ValV} (h : FitTo s l q j) (hp : j < s.size) (hy : l[q + j]? = some y) (hf : fitsB ((s[j]'hp).toNat : Int) y = true) : FitTo s l q (j + 1) := by
  intro i b z hi hb hz
  rcases (by omega : i < j ∨ i = j) with h1 | rfl
  · exact h i b z h1 hb hz
  · rw [get_list s i hp] at hb
    rw [hy] at hz
    obtain rfl : s[i]'hp = b := by simpa using hb
    obtain rfl : y = z := by simpa using hz
    exact hf
theorem popOk_no {s : ByteArray} {l : List ValV} {q j : Nat} {y : ValV} (hq : l.length = s.size + q) (hp : j < s.size) (hy : l[q + j]? = some y) (hf : fitsB ((s[j]'hp).toNat : Int) y = false) : ¬ popOk s l := by
  intro h
  have := h.2 j _ y (get_list s j hp) (by rw [show l.length - s.size = q by omega]; exact hy)
  rw [hf] at this
  cases this

theorem drop_rd {W : World} {B e r n c k : Nat} {l : List ValV} (ho : W.ownsRow B e 2 (.slice (some ⟨r, 0, none⟩) n c) n (l.flatMap encVal)) (hn : n = l.length) (hk : k ≤ n) (hnc : n ≤ c) (hc : c ≤ 9223372036854775807) {off : Nat} (hoff : k < n → off = k * 2) :
    Rd W 2 (.slice (some ⟨r, off, none⟩) (n - k) (c - k)) (n - k) ((l.drop k).flatMap encVal) := by
  refine ⟨by rw [flat_length encVal 2 encVal_len, List.length_drop, ← hn], _, c - k, rfl, by omega, by omega, fun hlt => ⟨r, off, rfl, fun j u' hu' => ?_⟩⟩
  rw [hoff (by omega)]
  rw [← vals_drop, List.getElem?_drop] at hu'
  obtain ⟨r', c', hv, _, _, _, _, hcell, _⟩ := own_form ho (by omega)
  simp only [Value.slice.injEq, Option.some.injEq, Addr.mk.injEq] at hv
  obtain ⟨⟨rfl, -, -⟩, -, rfl⟩ := hv
  exact hcell _ _ hu'

/-- Behind the append and the store: what Pop leaves. -/
theorem PoppedR.mk {B : Nat} {w W4 : World} {x : FrV} {g : Nat} {v0 v1 u t : Value} {s : ByteArray} {q : Nat} (hok : popOk s x.l) (hq : x.l.length = s.size + q) (hP : PRf B W4 (.pointer (some ⟨g, 0, none⟩)) x g v0 u) (hv1 : W4.ownsRow B 34 2 v1 q ((x.l.take q).flatMap encVal)) (hb1 : ∀ k, v1.ownBlock = some k → v0.ownBlock = some k)
    (ht : W4.ownsRow w.heap.size 34 2 t s.size ((x.l.drop q).flatMap encVal)) (hk : Kept w W4) : PoppedR B w x g v0 u s (.returned (.tuple #[t, .bool true])) (W4.setCell ⟨g, 1, none⟩ v1) := by
  have hqs : x.l.length - s.size = q := by omega
  have hT : Touch (fun b => b = g) W4 (W4.setCell ⟨g, 1, none⟩ v1) := (Touch.refl (fun b => b = g) W4).setCell (p := ⟨g, 1, none⟩) (.inl rfl) _
  refine .inr ⟨hok, t, v1, rfl, ?_, ?_, (Touch.of_kept (S := fun b => b = g) hk).trans hT fun b hb => .inl hb, hb1⟩
  · rw [hqs]
    exact hT.own ht (own_ne ht hP.blk (by decide))
  · rw [hqs]
    refine IsRf.hold (x := x) (l := x.l.take q) hP.blk ?_ hP.owl hP.ge (fun k h1 h2 => hP.apart k (hb1 k h1) h2) (by decide)
    rw [List.length_take, Nat.min_eq_left (by omega)]
    exact hv1

set_option maxHeartbeats 1000000 in
theorem ref_Pop (B : Nat) (w : World) (x : FrV) (g : Nat) (v u : Value) (s : ByteArray) (h : PRf B w (.pointer (some ⟨g, 0, none⟩)) x g v u) (hl : x.l.length ≤ 64) (hs : s.size ≤ 9223372036854775807) :
    Calls Try.prog 14 #[.pointer (some ⟨g, 0, none⟩), .string s] w (PoppedR B w x g v u s) := by
  have HP := Lib.hid h
  obtain ⟨-, hb, ho, hu, hB, hap⟩ := h
  have hb1 := hb.cell 1
  obtain ⟨a, c, rfl, hlc, hc⟩ := own_slice ho
  simp at hb1
  have hbl := hb.lt
  clear hb ho hu hap
  by_cases hsz : x.l.length < s.size
  · go_enter Try.func14, Try.ntmps14
    go_wp2
    go_ret2
    exact .inl ⟨fun h => by have := h.1; omega, rfl, Below.refl _ _⟩
  · have hq : ∃ q : Nat, x.l.length = s.size + q := ⟨x.l.length - s.size, by omega⟩
    obtain ⟨q, hq⟩ := hq
    have hqq : ((x.l.length : Int) - (s.size : Int)) = (q : Int) := by omega
    go_enter Try.func14, Try.ntmps14
    have HQ := Lib.hid hq
    have HQQ := Lib.hid hqq
    clear hq hqq
    go_wp2_with fail
    rw [HQQ.out]
    go_loopw [7] (fun s7 wr => ∃ j : Nat, j ≤ s.size ∧ s7 = .int .i64 j ∧ FitTo s x.l q j ∧ Kept w wr) (fun s7 _ => s.size - (intOf s7).toNat)
    case atStart => exact ⟨0, by omega, rfl, fun i b y h => by omega, Below.refl _ _⟩
    case round =>
      obtain ⟨j, hj, rfl, hfit, hkr⟩ := hrel
      have HFIT := Lib.hid hfit
      clear hfit
      by_cases hlt : j < s.size
      · obtain ⟨y, hy⟩ : ∃ y, x.l[q + j]? = some y := ⟨_, List.getElem?_eq_getElem (by have := HQ.out; omega)⟩
        obtain ⟨rr, c', hv, _, z0, z1⟩ := val_cells rfl (HP.out.own) hy
        simp only [Value.slice.injEq] at hv
        obtain ⟨rfl, -, rfl⟩ := hv
        have d0 := hkr.cell hb1
        have d1 := hkr.cell z0
        have d2 := hkr.cell z1
        have hlq : q + j < x.l.length := (List.getElem?_eq_some_iff.1 hy).1
        have HY := Lib.hid hy
        have HKR := Lib.hid hkr
        clear hb1 z0 z1 hy hkr
        go_wp2_with fail
        all_goals first
          | (go_roundw
             case rel =>
               refine ⟨j + 1, by omega, by go_num, fit_snoc HFIT.out hlt HY.out ?_, HKR.out.alloc HKR.out.size _⟩
               clear HFIT HY HKR HQ HQQ HP
               rcases hr : y.ref with _ | _ <;> simp_all [fitsB]
             case measure => simp [intOf]; omega)
          | (go_ret2
             refine .inl ⟨popOk_no HQ.out hlt HY.out ?_, rfl, HKR.out.alloc HKR.out.size _⟩
             clear HFIT HY HKR HQ HQQ HP
             rcases hr : y.ref with _ | _ <;> simp_all [fitsB])
      · obtain rfl : j = s.size := by omega
        have hok : popOk s x.l := popOk_yes HFIT.out HQ.out rfl
        have HOK := Lib.hid hok
        have HPW := Lib.hid (HP.out.kept hkr)
        have HKR := Lib.hid hkr
        have d0 := hkr.cell hb1
        have hqs : q ≤ x.l.length := by have := HQ.out; omega
        clear hok hkr hb1 HFIT
        have hWs : w.heap.size ≤ wr.heap.size := HKR.out.size
        have hsz0 : s.size ≤ 64 := by have := HQ.out; omega
        rcases HPW.out.own.2 with ⟨hnil, h0⟩ | ⟨r, cc, cur, hv, _, _, _, _, _, _⟩
        · simp only [Value.slice.injEq] at hnil
          obtain ⟨rfl, hl0, rfl⟩ := hnil
          obtain rfl : q = 0 := by omega
          have hs0 : s.size = 0 := by have := HQ.out; omega
          have HS0 := Lib.hid hs0
          have hx : x.l = [] := List.length_eq_zero_iff.1 h0
          have HX := Lib.hid hx
          have HL0 := Lib.hid h0
          have HPX := HPW
          rw [h0] at d0 HPW HP ⊢
          clear hs0 hx h0 hl0
          go_wp2_with (at_builtin; refine wpl_append _ elem_val rfl _ _ rfl w.heap.size _ _ _ rfl (World.ownsRow_nil _ _ _ _) _ _ _ rfl Rd.nil (fun u hu => by cases hu) (by omega) (by omega) hWs ?_; intro v4 w4 ho4 hg4; have k4 : Kept wr w4 := (Below.refl _ _).grown hg4 (Nat.le_refl _) (fun k hk => by cases hk); have e0 := k4.cell d0; have hf := (HPW.out.kept k4).blk.frozen 1; have HO4 := Lib.hid ho4; have K4 := Lib.hid k4; clear ho4 hg4 k4)
          go_ret2
          refine PoppedR.mk HOK.out HQ.out (HPX.out.kept K4.out) (World.ownsRow_nil _ _ _ _) (fun k hk => hk) ?_ (Kept.trans HKR.out K4.out)
          rw [HS0.out, HX.out]
          simpa using HO4.out
        · simp only [Value.slice.injEq] at hv
          obtain ⟨rfl, -, rfl⟩ := hv
          obtain ⟨n, hn⟩ : ∃ n, n = x.l.length := ⟨_, rfl⟩
          have hown := HPW.out.own
          have HPX := HPW
          rw [← hn] at d0 HPW HP hown hl hlc hqs ⊢
          have hR := fun off hoff => drop_rd (off := off) (k := q) hown hn hqs hlc hc hoff
          have hfr := own_front hown hqs
          rw [vals_take] at hfr
          have HF := Lib.hid hfr
          have HRD := Lib.hid hR
          have HN := Lib.hid hn
          have hsn : n - q = s.size := by have := HQ.out; omega
          have HSN := Lib.hid hsn
          clear hown hR hfr hn hsn
          by_cases hcq : c = q
          · obtain rfl : n = q := by omega
            subst hcq
            have hrd0 := HRD.out 0 (fun h => by omega)
            rw [Nat.sub_self] at hrd0
            have HRD0 := Lib.hid hrd0
            clear hrd0
            go_wp2_with (at_builtin; refine wpl_append _ elem_val rfl _ _ rfl w.heap.size _ _ _ rfl (World.ownsRow_nil _ _ _ _) _ _ _ rfl HRD0.out (vals_one _) (by omega) (by omega) hWs ?_; intro v4 w4 ho4 hg4; have k4 : Kept wr w4 := (Below.refl _ _).grown hg4 (Nat.le_refl _) (fun k hk => by cases hk); have e0 := k4.cell d0; have hf := (HPW.out.kept k4).blk.frozen 1; have HO4 := Lib.hid ho4; have K4 := Lib.hid k4; clear ho4 hg4 k4)
            go_ret2
            refine PoppedR.mk HOK.out HQ.out (HPX.out.kept K4.out) (Touch.own (S := fun _ => False) (Touch.of_kept K4.out) HF.out (fun _ _ => id)) (fun k hk => hk) ?_ (Kept.trans HKR.out K4.out)
            have := HO4.out
            rw [Nat.zero_add, List.nil_append] at this
            rw [← HSN.out, Nat.sub_self]
            exact this
          · have hrd0 := HRD.out (q * 2) (fun h => rfl)
            have HRD0 := Lib.hid hrd0
            clear hrd0
            go_wp2_with (at_builtin; refine wpl_append _ elem_val rfl _ _ rfl w.heap.size _ _ _ rfl (World.ownsRow_nil _ _ _ _) _ _ _ rfl HRD0.out (vals_one _) (by omega) (by omega) hWs ?_; intro v4 w4 ho4 hg4; have k4 : Kept wr w4 := (Below.refl _ _).grown hg4 (Nat.le_refl _) (fun k hk => by cases hk); have e0 := k4.cell d0; have hf := (HPW.out.kept k4).blk.frozen 1; have HO4 := Lib.hid ho4; have K4 := Lib.hid k4; clear ho4 hg4 k4)
            go_ret2
            refine PoppedR.mk HOK.out HQ.out (HPX.out.kept K4.out) (Touch.own (S := fun _ => False) (Touch.of_kept K4.out) HF.out (fun _ _ => id)) (fun k hk => hk) ?_ (Kept.trans HKR.out K4.out)
            have := HO4.out
            rw [Nat.zero_add, List.nil_append] at this
            rw [← HSN.out]
            exact this
end Go.Proofs.Ytfjkcokollkijaa
