/-
  Package stack by contract: Pop.
-/
import Derived.Test.YtfjkcokollkijaaStack2
import Derived.Test.YtfjkcokollkijaaScope
namespace Go.Proofs.Ytfjkcokollkijaa
open Go.RowKit
set_option maxRecDepth 100000

/-- The first j letters fit the values from q on. -/
def FitTo (s : ByteArray) (l : List ValV) (q j : Nat) : Prop := ∀ i b y, i < j → s.data.toList[i]? = some b → l[q + i]? = some y → fitsB (b.toNat : Int) y = true

theorem get_list (s : ByteArray) (j : Nat) (h : j < s.size) : s.data.toList[j]? = some (s[j]'h) := by
  rw [List.getElem?_eq_getElem (by simpa using h)]; rfl
theorem popOk_ascii {s : ByteArray} {l : List ValV} (h : popOk s l) : ∀ j, ∀ hj : j < s.size, (s[j]'hj).toNat < 128 := by
  intro j hj
  obtain ⟨y, hy⟩ : ∃ y, l[l.length - s.size + j]? = some y := ⟨_, List.getElem?_eq_getElem (by have := h.1; omega)⟩
  exact fits_ascii (h.2 j _ y (get_list s j hj) hy)
/-- A letter that does not fit: no such pop. -/
theorem popOk_not {s : ByteArray} {l : List ValV} {k q j r : Nat} {y : ValV} (hk : k = Lib.runeCount s) (hq : l.length = k + q) (hp : j < s.size) (hr : r = (Utf8.decode s j).1) (hy : l[q + j]? = some y) (hf : fitsB r y = false) : ¬ popOk s l := by
  intro h
  have ha := popOk_ascii h
  have hc := count_all s ha
  have hq' : l.length - s.size = q := by omega
  have := h.2 j _ y (get_list s j hp) (by rw [hq']; exact hy)
  rw [decode_ascii s j hp (ha j hp)] at hr
  rw [hr] at hf
  rw [hf] at this
  cases this
theorem fit_next {s : ByteArray} {l : List ValV} {q j r wd : Nat} {y : ValV} (h : FitTo s l q j) (hp : j < s.size) (hr : r = (Utf8.decode s j).1) (hw : wd = (Utf8.decode s j).2) (hy : l[q + j]? = some y) (hf : fitsB r y = true) : wd = 1 ∧ FitTo s l q (j + 1) := by
  have ha : (s[j]'hp).toNat < 128 := by
    rcases Nat.lt_or_ge (s[j]'hp).toNat 128 with h1 | h1
    · exact h1
    · have := (decode_high s j hp h1).1
      have h2 := fits_high (c := r) (y := y) (by omega)
      rw [hf] at h2
      cases h2
  rw [decode_ascii s j hp ha] at hr hw
  have hr' : r = (s[j]'hp).toNat := hr
  refine ⟨hw, fun i b z hi hb hz => ?_⟩
  rcases (by omega : i < j ∨ i = j) with h1 | rfl
  · exact h i b z h1 hb hz
  · rw [get_list s i hp] at hb
    rw [hy] at hz
    obtain rfl : s[i]'hp = b := by simpa using hb
    obtain rfl : y = z := by simpa using hz
    rw [← hr']
    exact hf
theorem popOk_yes {s : ByteArray} {l : List ValV} {k q : Nat} (h : FitTo s l q s.size) (hq : l.length = k + q) (hk : k = s.size) : popOk s l := by
  refine ⟨by omega, fun j b y hb hy => ?_⟩
  have hj := (List.getElem?_eq_some_iff.1 hb).1
  have e : l.length - s.size = q := by omega
  rw [e] at hy
  exact h j b y (by simpa using hj) hb hy

theorem vals_one (l : List ValV) : ∀ u ∈ l.flatMap encVal, u.oneCell' = true := by
  intro u hu
  obtain ⟨y, _, hy⟩ := List.mem_flatMap.1 hu
  exact encVal_one y u hy

/-- What Pop leaves. -/
def Popped (B : Nat) (w : World) (x : FrV) (g : Nat) (v u : Value) (s : ByteArray) (e : Ending) (w' : World) : Prop :=
  (¬ popOk s x.l ∧ e = .returned (.tuple #[.slice none 0 0, .bool false]) ∧ Kept w w') ∨
  (popOk s x.l ∧ ∃ t v', e = .returned (.tuple #[t, .bool true]) ∧ w'.ownsRow w.heap.size 34 2 t s.size ((x.l.drop (x.l.length - s.size)).flatMap encVal) ∧ PFr B w' (.pointer (some ⟨g, 0, none⟩)) ⟨x.l.take (x.l.length - s.size), x.most, x.loc⟩ g v' u ∧
    Touch (fun b => b = g) w w' ∧ ∀ k, v'.ownBlock = some k → v.ownBlock = some k)

theorem val_cells {w : World} {B e : Nat} {l : List ValV} {v : Value} {n : Nat} (hl : l.length = n) (ho : w.ownsRow B e 2 v n (l.flatMap encVal)) {i : Nat} {m : ValV} (hm : l[i]? = some m) :
    ∃ r c, v = .slice (some ⟨r, 0, none⟩) n c ∧ c ≤ 9223372036854775807 ∧ w.cell? ⟨r, i * 2, none⟩ = some (.bool m.ref) ∧ w.cell? ⟨r, i * 2 + 1, none⟩ = some (.int .i64 m.n) := by
  have hl' := (List.getElem?_eq_some_iff.1 hm).1
  obtain ⟨r, c, hv, _, hc, _, _, hcell, _⟩ := own_form ho (by omega)
  have h0 := flat_get encVal 2 encVal_len l i 0 m hm (by omega)
  have h1 := flat_get encVal 2 encVal_len l i 1 m hm (by omega)
  exact ⟨r, c, hv, hc, hcell _ _ (by simpa [encVal] using h0), hcell _ _ (by simpa [encVal] using h1)⟩

theorem cell_iterAt {w : World} {H : Nat} {s : ByteArray} {pos : Nat} {p : Addr} (h : p.block ≠ H) : (w.iterAt H s pos).cell? p = w.cell? p := World.cell?_of_block (Lib.iterAt_other w H p.block s pos h)

set_option maxHeartbeats 1000000 in
theorem stack_Pop (B : Nat) (w : World) (x : FrV) (g : Nat) (v u : Value) (s : ByteArray) (h : PFr B w (.pointer (some ⟨g, 0, none⟩)) x g v u) (hl : x.l.length ≤ 64) (hs : s.size ≤ 9223372036854775807) :
    Calls Try.prog 12 #[.pointer (some ⟨g, 0, none⟩), .string s] w (Popped B w x g v u s) := by
  have HP := Lib.hid h
  obtain ⟨-, hb, ho, hu, hB, hap⟩ := h
  obtain ⟨a, c, rfl, hlc, hc⟩ := own_slice ho
  have c0 := hb.cell 0
  simp at c0
  have hbl := hb.lt
  clear hb ho hu hap
  go_enter Try.func12, Try.ntmps12
  go_wp2
  refine wp_scope_fwd 0 rfl ?_
  go_wp2
  go_loopw [6] (fun n wr => ∃ (pos f k : Nat), wr = w.iter s pos ∧ n = .int .i64 k ∧ k ≤ pos ∧ s.size ≤ pos + f ∧ k + Lib.runeCountFrom s f pos = Lib.runeCount s) (fun _ wr => s.size - wr.iterPos w.heap.size)
  case atStart => exact ⟨0, s.size, 0, rfl, rfl, by omega, by omega, by simp [Lib.runeCount]⟩
  case round =>
    obtain ⟨pos, f, k, rfl, rfl, hkp, hf, hcnt⟩ := hrel
    have HC := Lib.hid hcnt
    clear hcnt
    by_cases hp : pos < s.size
    · have hnx : ∀ ty, (Instr.next (.pointer (some ⟨w.heap.size, 0, none⟩)) true ty).run Try.prog (w.iter s pos) = _ := fun ty => run_next_any w s pos ty hp
      have hwd := Lib.decode_width_pos s pos hp
      go_wp2
      go_roundw
      case rel =>
        obtain ⟨f', rfl⟩ : ∃ f', f = f' + 1 := ⟨f - 1, by omega⟩
        have := HC.out
        rw [Lib.runeCountFrom, if_pos hp] at this
        exact ⟨pos + (Utf8.decode s pos).2, f', k + 1, rfl, by go_num, by omega, by omega, by omega⟩
      case measure =>
        simp
        omega
    · have hnx : ∀ ty, (Instr.next (.pointer (some ⟨w.heap.size, 0, none⟩)) true ty).run Try.prog (w.iter s pos) = _ := fun ty => run_next_end w s pos ty hp
      have hk : k = Lib.runeCount s := by rw [← HC.out, Lib.runeCountFrom_end s f pos hp]; omega
      have HK := Lib.hid hk
      clear hk
      have hkl := Lib.runeCount_le s
      have k1 : Kept w (w.iter s pos) := (Below.refl _ _).alloc (Nat.le_refl _) _
      obtain ⟨w1, hw1⟩ : ∃ w1, w1 = w.iter s pos := ⟨_, rfl⟩
      have e1 := k1.cell c0
      have K1 := Lib.hid (hw1 ▸ k1)
      rw [← hw1] at e1
      clear hnx
      have hnx : ∀ ty, (Instr.next (.pointer (some ⟨w.heap.size, 0, none⟩)) true ty).run Try.prog (w.iter s pos) = .ok (.tuple #[.bool false]) w1 := fun ty => by rw [hw1]; exact run_next_end w s pos ty hp
      clear hw1 c0 k1
      have hks : k ≤ s.size := by have := HK.out; omega
      by_cases hfrom : x.l.length < k
      · go_wp2_with fail
        go_step3
        refine ⟨rfl, ?_⟩
        go_wp2
        rw [Exit.noGoto_ret]
        go_ret2
        exact .inl ⟨fun h => by have := h.1; omega, rfl, K1.out⟩
      go_wp2_with fail
      obtain ⟨q, hq⟩ : ∃ q, x.l.length = k + q := ⟨x.l.length - k, by omega⟩
      have hq0 : ((x.l.length : Int) - (k : Int)) = (q : Int) := by omega
      rw [hq0]
      have HQ := Lib.hid hq
      clear hq hq0
      have k0 : Kept w (w1.iter s 0) := Kept.trans K1.out ((Below.refl _ _).alloc (Nat.le_refl _) _)
      have it0 : (w1.iter s 0).heap[w1.heap.size]? = some (.stringIter s 0) := World.iter_heap _ _ _
      have hH : w.heap.size ≤ w1.heap.size := K1.out.size
      obtain ⟨H, hHe⟩ : ∃ H, H = w1.heap.size := ⟨_, rfl⟩
      rw [← hHe] at it0 hH ⊢
      clear hHe
      have IT0 := Lib.hid it0
      have K0 := Lib.hid k0
      clear it0 k0 e1 hnx
      go_loopw [8] (fun s8 wr => ∃ j : Nat, j ≤ s.size ∧ s8 = .int .i64 ((q : Int) + j) ∧ j ≤ k ∧ wr.heap[H]? = some (.stringIter s j) ∧ Kept w wr ∧ FitTo s x.l q j) (fun _ wr => s.size - wr.iterPos H)
      case atStart => exact ⟨0, by omega, by go_num, by omega, IT0.out, K0.out, fun i b y h => by omega⟩
      case round =>
        obtain ⟨j, hj, rfl, hjk0, hit, hkr, hfit⟩ := hrel
        have HFIT := Lib.hid hfit
        clear hfit
        by_cases hp : j < s.size
        · have hnx : ∀ ty, (Instr.next (.pointer (some ⟨H, 0, none⟩)) true ty).run Try.prog wr = _ := fun ty => Lib.run_next_any_at wr H s j ty hit hp
          obtain ⟨r, hr⟩ : ∃ r, r = (Utf8.decode s j).1 := ⟨_, rfl⟩
          obtain ⟨wd, hwd⟩ : ∃ d, d = (Utf8.decode s j).2 := ⟨_, rfl⟩
          rw [← hr, ← hwd] at hnx
          have hascii : ∀ i, i < j → ∀ h : i < s.size, (s[i]'h).toNat < 128 := by
            intro i hi h
            obtain ⟨y, hy⟩ : ∃ y, x.l[q + i]? = some y := ⟨_, List.getElem?_eq_getElem (by have := HQ.out; omega)⟩
            have := HFIT.out i (s[i]'h) y hi (by rw [List.getElem?_eq_getElem (by simpa using h)]; rfl) hy
            exact fits_ascii this
          have hjk : j < k := by rw [HK.out]; exact count_lt s j hp hascii
          obtain ⟨y, hy⟩ : ∃ y, x.l[q + j]? = some y := ⟨_, List.getElem?_eq_getElem (by have := HQ.out; omega)⟩
          obtain ⟨rr, c', hv, _, z0, z1⟩ := val_cells rfl HP.out.own hy
          simp only [Value.slice.injEq] at hv
          obtain ⟨rfl, -, rfl⟩ := hv
          have c0 := HP.out.blk.cell 0
          simp at c0
          obtain ⟨W2, hW2⟩ : ∃ W2, W2 = wr.iterAt H s (j + wd) := ⟨_, rfl⟩
          have k2 : Kept w W2 := by rw [hW2]; exact Lib.below_iterAt hkr hH s _
          have it2 : W2.heap[H]? = some (.stringIter s (j + wd)) := by rw [hW2]; exact Lib.iterAt_heap wr H s j _ hit
          rw [← hW2] at hnx
          have d0 := k2.cell c0
          have d1 := k2.cell z0
          have d2 := k2.cell z1
          have K2 := Lib.hid k2
          have IT2 := Lib.hid it2
          have HY := Lib.hid hy
          have HR := Lib.hid hr
          have HIT := Lib.hid hit
          have HW := Lib.hid hwd
          have HJ := Lib.hid hascii
          have hlq : q + j < x.l.length := (List.getElem?_eq_some_iff.1 hy).1
          clear c0 z0 z1 hW2 k2 it2 hy hr hwd hascii hit
          have C := stack_fits r y W2
          by_cases hf : fitsB r y = true
          · rw [hf] at C
            have HN := Lib.hid (fit_next HFIT.out hp HR.out HW.out HY.out hf)
            clear hf
            go_wp2_with fail
            refine C.mono ?_
            rintro e W3 ⟨rfl, k3⟩
            have K3 := Lib.hid k3
            clear k3 C
            go_wp2_with fail
            go_roundw
            case rel => exact ⟨j + 1, by omega, by go_num, by omega, by rw [← HN.out.1]; exact Kept.block K3.out IT2.out, Kept.trans K2.out K3.out, HN.out.2⟩
            case measure =>
              have e1 : W3.iterPos H = j + 1 := by simp [World.iterPos, Kept.block K3.out IT2.out, HN.out.1]
              have e0 : wr.iterPos H = j := by simp [World.iterPos, HIT.out]
              rw [e1, e0]
              omega
          · have hf' : fitsB r y = false := by simpa using hf
            rw [hf'] at C
            have HN := Lib.hid (popOk_not HK.out HQ.out hp HR.out HY.out hf')
            clear hf hf'
            go_wp2_with fail
            refine C.mono ?_
            rintro e W3 ⟨rfl, k3⟩
            have K3 := Lib.hid k3
            clear k3 C
            go_wp2_with fail
            go_step3
            refine ⟨rfl, ?_⟩
            go_wp2
            rw [Exit.noGoto_ret]
            go_ret2
            exact .inl ⟨HN.out, rfl, Kept.trans K2.out K3.out⟩
        · have hnx : ∀ ty, (Instr.next (.pointer (some ⟨H, 0, none⟩)) true ty).run Try.prog wr = _ := fun ty => Lib.run_next_end_at wr H s j ty hit hp
          obtain rfl : j = s.size := by omega
          have hks : k = s.size := by omega
          have HY := Lib.hid (popOk_yes HFIT.out HQ.out hks)
          have HKR := Lib.hid hkr
          have hlq : q ≤ x.l.length := by have := HQ.out; omega
          have C := stack_take B wr x g _ u q (HP.out.kept hkr) hl hlq
          clear hkr hks
          go_wp2_with fail
          refine C.mono ?_
          rintro e W3 ⟨t, v3, rfl, ht, hP, hT, hv3⟩
          have HT := Lib.hid ht
          have HP3 := Lib.hid hP
          have HT3 := Lib.hid hT
          have HV3 := Lib.hid hv3
          have hW3 : w.heap.size ≤ W3.heap.size := Nat.le_trans HKR.out.size hT.size
          obtain ⟨_, ta, tc, rfl, t1, t2, _⟩ := ht
          clear C hP hT hv3
          go_wp2_with (at_builtin; refine wpl_append _ elem_val rfl _ _ rfl w.heap.size _ _ _ rfl (World.ownsRow_nil _ _ _ _) _ _ _ rfl HT.out (vals_one _) (by omega) (by omega) hW3 ?_; intro v4 w4 ho4 hg4)
          rw [fwd_ret]
          go_ret2
          have hqs : x.l.length - s.size = q := by have := HQ.out; omega
          have hlq2 : x.l.length - q = s.size := by have := HQ.out; omega
          refine .inr ⟨HY.out, v4, v3, rfl, ?_, ?_, ?_, HV3.out⟩
          · rw [hqs]
            rw [hlq2] at ho4
            simpa using ho4
          · rw [hqs]
            exact HP3.out.still (Touch.of_grown hg4 (fun k hk => by cases hk))
          · exact ((Touch.of_kept (S := fun b => b = g) HKR.out).trans HT3.out fun b hb => .inl hb).trans (Touch.of_grown (S := fun _ => False) hg4 (fun k hk => by cases hk)) fun b hb => hb.elim
end Go.Proofs.Ytfjkcokollkijaa
