/-
  Chapter 13's law ChooseNear, walked.
-/
import Derived.Test.YteblpdcedlaedaaChU
import Derived.Test.YteblpdcedlaedaaChQ
import Derived.Test.YteblpdcedlaedaaChC
import Derived.Test.YteblpdcedlaedaaOpenRows
namespace Go.Proofs.Yteblpdcedlaedaa
open Go.RowKit Go.ChangeShapes Go.WideShapes Go.Deep
set_option maxRecDepth 100000

theorem flat_ints (l : List Int) : (l.flatMap fun k => [Value.int .i64 k]) = l.map (Value.int .i64) := by
  induction l with
  | nil => rfl
  | cons x l ih => simp only [List.flatMap_cons, List.map_cons, ih, List.singleton_append]
theorem open_intsR {H : Type} {enc : TypeId × Value → H} {w : World} {base b0 : Nat} {spare : Nat → Bool} {held : Bool} {r : Reach} {v : Value} {d : DataW H} {p : List MemPlace}
    (hval : Value.okWide Try.prog w r b0 40 v) (h : DataW.Trod enc Try.prog w base spare held 40 v d p) : ∃ l : List Int, Rd w 1 v l.length (l.map (Value.int .i64)) ∧ ∀ z ∈ l, -9223372036854775808 ≤ z ∧ z ≤ 9223372036854775807 := by
  obtain ⟨l, h1, h2⟩ := open_rows (fun k : Int => [Value.int .i64 k]) (fun z => -9223372036854775808 ≤ z ∧ z ≤ 9223372036854775807) 1 (by omega) (fun _ => rfl) (by kernel_rfl) Try.underlying40 (fun n cs x hl h => elem_int_ Try.underlying3 n cs x hl h) hval h
  exact ⟨l, by rw [← flat_ints]; exact h1, h2⟩

def kdOf (ks : List Int) (i : Nat) : Nat := ((BitVec.ofInt 64 (ks[i]?.getD 0)).toNat &&& 7) % 6
theorem kd_lt (ks : List Int) (i : Nat) : kdOf ks i < 6 := Nat.mod_lt _ (by omega)
theorem kd_form (x : Int) : ∃ m : Nat, m ≤ 7 ∧ bits .and .i64 x 7 = (m : Int) ∧ ((BitVec.ofInt 64 x).toNat &&& 7) = m :=
  ⟨(BitVec.ofInt 64 x).toNat &&& 7, Nat.and_le_right, bits_nat x 7 (by omega), rfl⟩
def noneB : ByteArray := ⟨#[110, 111, 110, 101]⟩
def vNm (k p : Nat) : ByteArray := if k = 4 then abB else letterS p
def fNm (k p : Nat) : ByteArray := if k = 4 then abB else if k = 1 then letterS p else acB
def VR (kd : Nat → Nat) (s i : Nat) (v : ByteArray) : Prop := (v = noneB ∧ ∀ j, s ≤ j → j < i → kd j = 0 ∨ kd j = 2 ∨ kd j = 3) ∨
  ∃ p, s ≤ p ∧ p < i ∧ (kd p = 1 ∨ kd p = 4 ∨ kd p = 5) ∧ (∀ j, s ≤ j → j < p → kd j = 0 ∨ kd j = 2 ∨ kd j = 3) ∧ v = vNm (kd p) p
def FcR (kd : Nat → Nat) (s i : Nat) (v : ByteArray) : Prop := (v = noneB ∧ ∀ j, s ≤ j → j < i → kd j = 0 ∨ kd j = 3) ∨
  ∃ p, s ≤ p ∧ p < i ∧ (kd p = 1 ∨ kd p = 2 ∨ kd p = 4 ∨ kd p = 5) ∧ (∀ j, s ≤ j → j < p → kd j = 0 ∨ kd j = 3) ∧ v = fNm (kd p) p
theorem letter_none : ∀ p < 26, (letterS p).toList ≠ noneB.toList := by decide +kernel
theorem vNm_ne {k p : Nat} (hp : p < 26) : ((vNm k p).toList == noneB.toList) = false := by
  unfold vNm
  split
  · decide +kernel
  · simpa using letter_none p hp
theorem fNm_ne {k p : Nat} (hp : p < 26) : ((fNm k p).toList == noneB.toList) = false := by
  unfold fNm
  split
  · decide +kernel
  · split
    · simpa using letter_none p hp
    · decide +kernel
section
variable {kd : Nat → Nat} {s i : Nat} {v : ByteArray}
theorem VR.skip (h : v = noneB ∧ ∀ j, s ≤ j → j < i → kd j = 0 ∨ kd j = 2 ∨ kd j = 3) (hk : kd i = 0 ∨ kd i = 2 ∨ kd i = 3) : VR kd s (i + 1) v :=
  .inl ⟨h.1, fun j h1 h2 => by rcases Nat.lt_or_eq_of_le (Nat.le_of_lt_succ h2) with h3 | rfl; exact h.2 j h1 h3; exact hk⟩
theorem VR.hit (h : v = noneB ∧ ∀ j, s ≤ j → j < i → kd j = 0 ∨ kd j = 2 ∨ kd j = 3) (hs : s ≤ i) (hk : kd i = 1 ∨ kd i = 4 ∨ kd i = 5) : VR kd s (i + 1) (vNm (kd i) i) :=
  .inr ⟨i, hs, Nat.lt_succ_self _, hk, h.2, rfl⟩
theorem FcR.skip (h : v = noneB ∧ ∀ j, s ≤ j → j < i → kd j = 0 ∨ kd j = 3) (hk : kd i = 0 ∨ kd i = 3) : FcR kd s (i + 1) v :=
  .inl ⟨h.1, fun j h1 h2 => by rcases Nat.lt_or_eq_of_le (Nat.le_of_lt_succ h2) with h3 | rfl; exact h.2 j h1 h3; exact hk⟩
theorem FcR.hit (h : v = noneB ∧ ∀ j, s ≤ j → j < i → kd j = 0 ∨ kd j = 3) (hs : s ≤ i) (hk : kd i = 1 ∨ kd i = 2 ∨ kd i = 4 ∨ kd i = 5) : FcR kd s (i + 1) (fNm (kd i) i) :=
  .inr ⟨i, hs, Nat.lt_succ_self _, hk, h.2, rfl⟩
end
/-- What is told at the end, by a plain word. -/
def FinR (r : GR) (v : ByteArray) : Prop := (r = (gz, v) ∧ (v = abB ∨ v = acB)) ∨ ∃ p, p < 26 ∧ v = letterS p ∧ r = ((v, 0), ⟨#[]⟩)
def lastV (v : ByteArray) : ByteArray := if v = noneB then abB else v
theorem vNm_none {k p : Nat} (hp : p < 26) : vNm k p ≠ noneB := fun e => by have := vNm_ne (k := k) hp; rw [e] at this; revert this; decide +kernel
theorem fNm_none {k p : Nat} (hp : p < 26) : fNm k p ≠ noneB := fun e => by have := fNm_ne (k := k) hp; rw [e] at this; revert this; decide +kernel
theorem virt_fin {n s : Nat} {kd : Nat → Nat} {v : ByteArray} (hk : ∀ i, kd i < 6) (hn : n < 11) (hs : s < n) (h : VR kd s n v) : FinR (virtR (nearD n fun i => metK (kd i)) (letterS s) sI 0) (lastV v) := by
  rcases h with ⟨rfl, h⟩ | ⟨p, h1, h2, h3, h4, rfl⟩
  · rw [near_virt0 hn hs h]
    exact .inl ⟨rfl, .inl rfl⟩
  · rw [near_virt hn h1 h2 (hk p) h3 h4]
    unfold lastV
    rw [if_neg (vNm_none (by omega))]
    unfold outV vNm
    split
    · exact .inl ⟨rfl, .inl rfl⟩
    · exact .inr ⟨p, by omega, rfl, rfl⟩
theorem iface_fin {n s : Nat} {kd : Nat → Nat} {v : ByteArray} (hk : ∀ i, kd i < 6) (hn : n < 11) (hs : s < n) (h : FcR kd s n v) : FinR (ifaceR (nearD n fun i => metK (kd i)) (letterS s) sI 0) (lastV v) := by
  rcases h with ⟨rfl, h⟩ | ⟨p, h1, h2, h3, h4, rfl⟩
  · rw [near_iface0 hn hs h]
    exact .inl ⟨rfl, .inl rfl⟩
  · rw [near_iface hn h1 h2 (hk p) h3 h4]
    unfold lastV
    rw [if_neg (fNm_none (by omega))]
    unfold outF fNm
    split
    · exact .inl ⟨rfl, .inl rfl⟩
    · split
      · exact .inr ⟨p, by omega, rfl, rfl⟩
      · exact .inl ⟨rfl, .inr rfl⟩
theorem near_list (n : Nat) (M : Nat → List MemberV) : nearD n M = [iD] ++ rowK n n 33 [sI] M := rfl
theorem memK_ok (W : World) {a : Int} {hs : Bool} (h : -9223372036854775808 ≤ a ∧ a ≤ 9223372036854775807) : MemberV.Ok W ⟨a, mB, dV, hs, 0⟩ :=
  ⟨h, by show mB.size ≤ maxLen; decide, by show dV.size ≤ maxLen; decide, by show -9223372036854775808 ≤ (0 : Int) ∧ (0 : Int) ≤ 9223372036854775807; decide⟩
theorem accK_ok (k : Nat) : -9223372036854775808 ≤ accK k ∧ accK k ≤ 9223372036854775807 := by
  unfold accK; split <;> decide
theorem own_blk {W : World} {base g sz n : Nat} {t : TypeId} {cs : List Value} (hb : Blk W g t cs.toArray) (hg : base ≤ g) (hl : cs.length = n * sz) (hn : n ≤ maxLen) : W.ownsRow base t sz (.slice (some ⟨g, 0, none⟩) n n) n cs :=
  ⟨hl, .inr ⟨g, n, cs.toArray, rfl, hg, hb, Nat.le_refl _, hn, by simpa using hl, by simp [← hl]⟩⟩

theorem next_cls {w wr X w5 : World} {n k c : Nat} {acc : Int} {I : List ByteArray} {M : Nat → List MemberV} {P : List TD} {v v5 : Value} {R : List TypeV} (hS : ClsS w wr n k c acc I M P v R) (kq : Kept wr X) (y : TypeV) (hy : RowY X y) (hyd : y.d = clsD n acc I M k)
    (ho5 : w5.ownsRow w.heap.size 36 6 v5 (c + 1) (R.flatMap encTypeV ++ encTypeV y)) (hg5 : X.grownBy w5 v.ownBlock) : ClsS w w5 n (k + 1) (c + 1) acc I M P v5 (R ++ [y]) := cls_next hS kq y hy hyd ho5 hg5

theorem strn_eq {s : ByteArray} (h : s = noneB) : (s.toList == [110, 111, 110, 101]) = true := by rw [h, ByteArray.toList_eq]; rfl
theorem strn_ne {s : ByteArray} (h : ¬ s = noneB) : (s.toList == [110, 111, 110, 101]) = false := by
  rw [beq_eq_false_iff_ne]
  intro e
  rw [ByteArray.toList_eq] at e
  exact h (ByteArray.ext (Array.toList_inj.1 e))
theorem noneB_ab : ¬ abB = noneB := by decide +kernel
theorem noneB_ac : ¬ acB = noneB := by decide +kernel
theorem noneB_let {p : Nat} (h : p < 26) : ¬ letterS p = noneB := fun e => letter_none p h (by rw [e])
theorem nonempty_facts {v : ByteArray} (h : v.toList.isEmpty = false) : (¬ v.toList = []) ∧ (([] : List UInt8) == v.toList) = false := by
  cases hv : v.toList with
  | nil => rw [hv] at h; cases h
  | cons => exact ⟨by simp, rfl⟩
theorem fin_form {r : GR} {v : ByteArray} (h : FinR r v) : ∃ A X, resG r = .tuple #[.agg #[.string A, .int .i64 0], .string X] ∧ ((A = ⟨#[]⟩ ∧ X = v) ∨ (A = v ∧ X = ⟨#[]⟩ ∧ v.toList.isEmpty = false)) := by
  rcases h with ⟨rfl, hv⟩ | ⟨p, hp, rfl, rfl⟩
  · exact ⟨_, _, rfl, .inl ⟨rfl, rfl⟩⟩
  · refine ⟨_, _, rfl, .inr ⟨rfl, rfl, ?_⟩⟩
    have h1 := letter_sz p hp
    rw [ByteArray.toList_eq]
    cases hl : (letterS p).data.toList with
    | nil =>
      have h2 : (letterS p).data.toList.length = (letterS p).size := by simp
      rw [hl, h1] at h2
      cases h2
    | cons => rfl
theorem v_next {kd : Nat → Nat} {F i c : Nat} {v v1 v2 : ByteArray} {b1 b2 : Bool} (h : VR kd F i v) (hi : F ≤ i) (h26 : i < 26) (hc : c = kd i) (hc6 : c < 6)
    (hb1 : b1 = (decide (v = noneB) && (c == 1 || c == 5))) (hv1 : v1 = (if b1 = true then letterS i else v)) (hb2 : b2 = (decide (v1 = noneB) && (c == 4))) (hv2 : v2 = (if b2 = true then abB else v1)) : VR kd F (i + 1) v2 := by
  rcases h with ⟨rfl, h⟩ | ⟨p, h1, h2, h3, h4, rfl⟩
  · rcases (by omega : c = 0 ∨ c = 1 ∨ c = 2 ∨ c = 3 ∨ c = 4 ∨ c = 5) with rfl | rfl | rfl | rfl | rfl | rfl
    all_goals
      simp at hb1
      subst hb1
      simp at hv1
      subst hv1
      simp [noneB_let h26] at hb2
      subst hb2
      simp at hv2
      subst hv2
    · exact VR.skip ⟨rfl, h⟩ (.inl hc.symm)
    · have := VR.hit ⟨rfl, h⟩ hi (.inl hc.symm)
      rwa [← hc] at this
    · exact VR.skip ⟨rfl, h⟩ (.inr (.inl hc.symm))
    · exact VR.skip ⟨rfl, h⟩ (.inr (.inr hc.symm))
    · have := VR.hit ⟨rfl, h⟩ hi (.inr (.inl hc.symm))
      rwa [← hc] at this
    · have := VR.hit ⟨rfl, h⟩ hi (.inr (.inr hc.symm))
      rwa [← hc] at this
  · have hn := vNm_none (k := kd p) (p := p) (by omega)
    rw [decide_eq_false hn] at hb1
    simp at hb1
    subst hb1
    simp at hv1
    subst hv1
    rw [decide_eq_false hn] at hb2
    simp at hb2
    subst hb2
    simp at hv2
    subst hv2
    exact .inr ⟨p, h1, by omega, h3, h4, rfl⟩
theorem f_next {kd : Nat → Nat} {F i c : Nat} {v v1 v2 v3 : ByteArray} {b1 b2 b3 : Bool} (h : FcR kd F i v) (hi : F ≤ i) (h26 : i < 26) (hc : c = kd i) (hc6 : c < 6)
    (hb1 : b1 = (decide (v = noneB) && (c == 1))) (hv1 : v1 = (if b1 = true then letterS i else v)) (hb2 : b2 = (decide (v1 = noneB) && (c == 2 || c == 5))) (hv2 : v2 = (if b2 = true then acB else v1))
    (hb3 : b3 = (decide (v2 = noneB) && (c == 4))) (hv3 : v3 = (if b3 = true then abB else v2)) : FcR kd F (i + 1) v3 := by
  rcases h with ⟨rfl, h⟩ | ⟨p, h1, h2, h3, h4, rfl⟩
  · rcases (by omega : c = 0 ∨ c = 1 ∨ c = 2 ∨ c = 3 ∨ c = 4 ∨ c = 5) with rfl | rfl | rfl | rfl | rfl | rfl
    all_goals
      simp at hb1
      subst hb1
      simp at hv1
      subst hv1
      simp [noneB_let h26] at hb2
      subst hb2
      simp at hv2
      subst hv2
      simp [noneB_let h26, noneB_ac] at hb3
      subst hb3
      simp at hv3
      subst hv3
    · exact FcR.skip ⟨rfl, h⟩ (.inl hc.symm)
    · have := FcR.hit ⟨rfl, h⟩ hi (.inl hc.symm)
      rwa [← hc] at this
    · have := FcR.hit ⟨rfl, h⟩ hi (.inr (.inl hc.symm))
      rwa [← hc] at this
    · exact FcR.skip ⟨rfl, h⟩ (.inr hc.symm)
    · have := FcR.hit ⟨rfl, h⟩ hi (.inr (.inr (.inl hc.symm)))
      rwa [← hc] at this
    · have := FcR.hit ⟨rfl, h⟩ hi (.inr (.inr (.inr hc.symm)))
      rwa [← hc] at this
  · have hn := fNm_none (k := kd p) (p := p) (by omega)
    rw [decide_eq_false hn] at hb1
    simp at hb1
    subst hb1
    simp at hv1
    subst hv1
    rw [decide_eq_false hn] at hb2
    simp at hb2
    subst hb2
    simp at hv2
    subst hv2
    rw [decide_eq_false hn] at hb3
    simp at hb3
    subst hb3
    simp at hv3
    subst hv3
    exact .inr ⟨p, h1, by omega, h3, h4, rfl⟩
set_option maxHeartbeats 8000000 in
theorem walk_ChooseNear (n : Int) (ks : List Int) (v1 : Value) (fr : Int) (w : World) (hwf : (Lit.int .i64 n).wf = true) (hks : Rd w 1 v1 ks.length (ks.map (Value.int .i64)) ∧ ∀ z ∈ ks, -9223372036854775808 ≤ z ∧ z ≤ 9223372036854775807) (hff : (Lit.int .i64 fr).wf = true) :
    Calls Try.prog 5 #[.int .i64 n, v1, .int .i64 fr] w fun e w' => e = .returned (.bool true) ∧ Below w.heap.size w w' := by
  obtain ⟨hks, -⟩ := hks
  obtain ⟨hll, ka, kc, rfl, hk1, hk2, hk3⟩ := hks
  have HK3 := Lib.hid hk3
  clear hk3 hll
  go_enter Try.func5, Try.ntmps5
  go_wp2_with fail
  refine (alive13 _).mono ?_
  rintro e w1 ⟨rfl, k1⟩
  have K1 := Lib.hid k1
  clear k1
  by_cases hn1 : n < 1
  · go_wp2_with fail
    go_ret
    exact ⟨rfl, K1.out⟩
  by_cases hn2 : n > 10
  · go_wp2_with fail
    go_ret
    exact ⟨rfl, K1.out⟩
  by_cases hn3 : (ks.length : Int) < n
  · go_wp2_with fail
    go_ret
    exact ⟨rfl, K1.out⟩
  by_cases hf1 : fr < 0
  · go_wp2_with fail
    go_ret
    exact ⟨rfl, K1.out⟩
  by_cases hf2 : n ≤ fr
  · go_wp2_with fail
    go_ret
    exact ⟨rfl, K1.out⟩
  obtain ⟨N, rfl⟩ : ∃ N : Nat, n = N := ⟨n.toNat, by omega⟩
  obtain ⟨F, rfl⟩ : ∃ N : Nat, fr = N := ⟨fr.toNat, by omega⟩
  have hN1 : 1 ≤ N := by omega
  have hN2 : N ≤ 10 := by omega
  have hNF : F < N := by omega
  have hNL : N ≤ ks.length := by omega
  clear hwf hff
  obtain ⟨kb, koff, hka, HKC⟩ : ∃ b off, ka = some ⟨b, off, none⟩ ∧ Hid (∀ j u, (ks.map (Value.int .i64))[j]? = some u → w.cell? ⟨b, off + j, none⟩ = some u) := by
    obtain ⟨b, off, h1, h2⟩ := HK3.out (by omega)
    exact ⟨b, off, h1, Lib.hid h2⟩
  subst hka
  clear HK3
  obtain ⟨kd, hkd⟩ : ∃ kd : Nat → Nat, kd = kdOf ks := ⟨_, rfl⟩
  have HKD := Lib.hid hkd
  have HKL := Lib.hid (show ∀ i, kd i < 6 by intro i; rw [hkd]; exact kd_lt ks i)
  clear hkd
  have zw1 := K1.out.size
  have d1 : decide ((N : Int) < 1) = false := by simp; omega
  have d2 : decide (10 < (N : Int)) = false := by simp; omega
  have d3 : decide (ks.length < N) = false := by simp; omega
  have d4 : decide ((F : Int) < 0) = false := by simp
  have d5 : decide (N ≤ F) = false := by simp; omega
  go_upto_region 6 with fail
  clear d1 d2 d3 d4 d5
  have kI : Kept w (((w1.alloc (.cells #[.int .i64 1025, .string ⟨#[109]⟩, .string ⟨#[40, 41, 86]⟩, .bool false, .int .i64 0] 38)).alloc (.cells #[.int .i64 1025, .string ⟨#[109]⟩, .string ⟨#[40, 41, 86]⟩, .bool false, .int .i64 0] 38)).alloc (.cells #[.string ⟨#[73]⟩, .string ⟨#[]⟩, .int .i64 1537, .slice none 0 0, .slice none 0 0, .slice (some ⟨w1.heap.size + 1, 0, none⟩) 1 1] 36)) := Kept.trans K1.out ((((Below.refl _ _).alloc (Nat.le_refl _) _).alloc (by simp) _).alloc (by simp; omega) _)
  have bI : Blk (((w1.alloc (.cells #[.int .i64 1025, .string ⟨#[109]⟩, .string ⟨#[40, 41, 86]⟩, .bool false, .int .i64 0] 38)).alloc (.cells #[.int .i64 1025, .string ⟨#[109]⟩, .string ⟨#[40, 41, 86]⟩, .bool false, .int .i64 0] 38)).alloc (.cells #[.string ⟨#[73]⟩, .string ⟨#[]⟩, .int .i64 1537, .slice none 0 0, .slice none 0 0, .slice (some ⟨w1.heap.size + 1, 0, none⟩) 1 1] 36)) (w1.heap.size + 1 + 1) 36 #[.string ⟨#[73]⟩, .string ⟨#[]⟩, .int .i64 1537, .slice none 0 0, .slice none 0 0, .slice (some ⟨w1.heap.size + 1, 0, none⟩) 1 1] := blk_at_ (by simp)
  have bM : Blk (((w1.alloc (.cells #[.int .i64 1025, .string ⟨#[109]⟩, .string ⟨#[40, 41, 86]⟩, .bool false, .int .i64 0] 38)).alloc (.cells #[.int .i64 1025, .string ⟨#[109]⟩, .string ⟨#[40, 41, 86]⟩, .bool false, .int .i64 0] 38)).alloc (.cells #[.string ⟨#[73]⟩, .string ⟨#[]⟩, .int .i64 1537, .slice none 0 0, .slice none 0 0, .slice (some ⟨w1.heap.size + 1, 0, none⟩) 1 1] 36)) (w1.heap.size + 1) 38 #[.int .i64 1025, .string ⟨#[109]⟩, .string ⟨#[40, 41, 86]⟩, .bool false, .int .i64 0] := (blk_at_ (by simp)).alloc _
  generalize (((w1.alloc (.cells #[.int .i64 1025, .string ⟨#[109]⟩, .string ⟨#[40, 41, 86]⟩, .bool false, .int .i64 0] 38)).alloc (.cells #[.int .i64 1025, .string ⟨#[109]⟩, .string ⟨#[40, 41, 86]⟩, .bool false, .int .i64 0] 38)).alloc (.cells #[.string ⟨#[73]⟩, .string ⟨#[]⟩, .int .i64 1537, .slice none 0 0, .slice none 0 0, .slice (some ⟨w1.heap.size + 1, 0, none⟩) 1 1] 36)) = W0 at *
  have hS0 : ClsS w W0 N 0 (0 + 1) 33 [sI] (fun i => metK (kd i)) [iD] (.slice (some ⟨w1.heap.size + 1 + 1, 0, none⟩) 1 1) [mets sI ⟨#[]⟩ 1537 (.slice none 0 0) [] (.slice (some ⟨w1.heap.size + 1, 0, none⟩) 1 1) [memI_]] :=
    ⟨rfl, own_blk (cs := [.string ⟨#[73]⟩, .string ⟨#[]⟩, .int .i64 1537, .slice none 0 0, .slice none 0 0, .slice (some ⟨w1.heap.size + 1, 0, none⟩) 1 1]) bI (by omega) rfl (by decide), rfl, by
      intro y hy
      obtain rfl : y = _ := by simpa using hy
      exact ⟨by show sI.size ≤ maxLen; decide, by show (ByteArray.mk #[]).size ≤ maxLen; decide, by show -9223372036854775808 ≤ (1537 : Int) ∧ (1537 : Int) ≤ 9223372036854775807; decide, ⟨rfl, rfl⟩, .inl ⟨rfl, rfl⟩, .inr ⟨w1.heap.size + 1, memI_, memK_ok _ (by decide), rfl, rfl, bM⟩⟩, kI⟩
  have HS0 := Lib.hid hS0
  have KI := Lib.hid kI
  clear hS0 kI bI bM
  go_wp2_with fail
  go_loopw [9, 10] (fun s9 s10 wr => ∃ (k : Nat) (R : List TypeV), k ≤ N ∧ s10 = .int .i64 k ∧ ClsS w wr N k (k + 1) 33 [sI] (fun i => metK (kd i)) [iD] s9 R) (fun _ s10 _ => N - (intOf s10).toNat)
  case atStart => exact ⟨0, _, by omega, rfl, HS0.out⟩
  case round =>
    obtain ⟨k, R, hk, rfl, hS⟩ := hrel
    have HS := Lib.hid hS
    clear hS
    by_cases hlt : k < N
    · have hkN : (k : Int) < (N : Int) := by omega
      have zr := HS.out.kept.size
      go_wp2_with fail
      refine (letter13_ k k _ rfl (by omega)).mono ?_
      rintro e w2 ⟨rfl, rfl⟩
      go_upto_region 10 with fail
      have kx : Kept wr ((wr.alloc (.cells #[.string ⟨#[73]⟩] 9)).alloc (.cells #[.string (letterS k), .string ⟨#[]⟩, .int .i64 33, .slice (some ⟨wr.heap.size, 0, none⟩) 1 1, .slice none 0 0, .slice none 0 0] 36)) := ((Below.refl _ _).alloc (Nat.le_refl _) _).alloc (by simp) _
      have bx : Blk ((wr.alloc (.cells #[.string ⟨#[73]⟩] 9)).alloc (.cells #[.string (letterS k), .string ⟨#[]⟩, .int .i64 33, .slice (some ⟨wr.heap.size, 0, none⟩) 1 1, .slice none 0 0, .slice none 0 0] 36)) (wr.heap.size + 1) 36 #[.string (letterS k), .string ⟨#[]⟩, .int .i64 33, .slice (some ⟨wr.heap.size, 0, none⟩) 1 1, .slice none 0 0, .slice none 0 0] := blk_at_ (by simp)
      have bs : Blk ((wr.alloc (.cells #[.string ⟨#[73]⟩] 9)).alloc (.cells #[.string (letterS k), .string ⟨#[]⟩, .int .i64 33, .slice (some ⟨wr.heap.size, 0, none⟩) 1 1, .slice none 0 0, .slice none 0 0] 36)) wr.heap.size 9 #[.string ⟨#[73]⟩] := (blk_at_ rfl).alloc _
      obtain ⟨gs, hgs⟩ : ∃ x, x = wr.heap.size := ⟨_, rfl⟩
      have hgt : wr.heap.size + 1 = gs + 1 := by omega
      generalize ((wr.alloc (.cells #[.string ⟨#[73]⟩] 9)).alloc (.cells #[.string (letterS k), .string ⟨#[]⟩, .int .i64 33, .slice (some ⟨wr.heap.size, 0, none⟩) 1 1, .slice none 0 0, .slice none 0 0] 36)) = X at *
      rw [← hgs] at bx bs ⊢
      have zg : wr.heap.size ≤ gs := Nat.le_of_eq hgs.symm
      obtain ⟨gt, hgt⟩ : ∃ x, x = gs + 1 := ⟨_, rfl⟩
      rw [← hgt] at bx ⊢
      have ZG := Lib.hid (show wr.heap.size ≤ gt by omega)
      obtain ⟨IV, hIV⟩ : ∃ v, v = Value.slice (some ⟨gs, 0, none⟩) 1 1 := ⟨_, rfl⟩
      have os : OneS X IV [sI] := .inr ⟨gs, sI, by decide, hIV, rfl, bs⟩
      rw [← hIV] at bx
      have KX := Lib.hid kx
      have BX := Lib.hid bx
      have OS := Lib.hid os
      have HIV := Lib.hid hIV
      clear hgt kx bx bs os zg hIV hgs
      go_upto_if 65 with fail
      go_cut [11] from 65 to 69 (fun s11 wx => s11 = .pointer (some ⟨gt, 0, none⟩) ∧ Kept wr wx ∧ Blk wx gt 36 #[.string (letterS k), .string (supN N k), .int .i64 33, IV, .slice none 0 0, .slice none 0 0] ∧ OneS wx IV [sI])
      case first =>
        have c1 := BX.out.cell 1
        have f1 := BX.out.frozen 1
        simp only [List.getElem?_toArray, List.getElem?_cons_succ, List.getElem?_cons_zero] at c1
        by_cases hs : k + 1 < N
        · have hs' : (k : Int) + 1 < (N : Int) := by omega
          have HSUP := Lib.hid (show supN N k = letterS (k + 1) by unfold supN; rw [if_pos hs])
          go_wp2_with fail
          refine (letter13_ _ (k + 1) _ (by omega) (by omega)).mono ?_
          rintro e w2 ⟨rfl, rfl⟩
          go_wp2_with fail
          go_meet
          refine ⟨rfl, KX.out.setCell ZG.out _, by rw [HSUP.out]; simpa using BX.out.set_ 1 (.string (letterS (k + 1))), OS.out.touch (S := fun b => b = gt) ((Touch.refl (fun b => b = gt) _).setCell (p := ⟨gt, 1, none⟩) (.inl rfl) _) ?_⟩
          intro b hb _
          rw [hb]
          exact ⟨_, BX.out⟩
        · have hs' : ¬ ((k : Int) + 1 < (N : Int)) := by omega
          have HSUP := Lib.hid (show supN N k = ⟨#[]⟩ by unfold supN; rw [if_neg hs])
          go_wp2_with fail
          go_meet
          exact ⟨rfl, KX.out, by rw [HSUP.out]; exact BX.out, OS.out⟩
      case rest =>
      clear KX BX OS
      obtain ⟨rfl, kx, bx, os⟩ := hcut
      rename World => X2
      have KX := Lib.hid kx
      have BX := Lib.hid bx
      have OS := Lib.hid os
      clear kx bx os
      obtain ⟨ac, hac⟩ : ∃ a, a = accK (kd k) := ⟨_, rfl⟩
      have HAC := Lib.hid hac
      clear hac
      go_upto_region 12 with fail
      go_cut [11, 12] from 70 to 78 (fun s11 s12 wx => s11 = .pointer (some ⟨gt, 0, none⟩) ∧ s12 = .int .i64 ac ∧ Kept wr wx ∧ Blk wx gt 36 #[.string (letterS k), .string (supN N k), .int .i64 33, IV, .slice none 0 0, .slice none 0 0] ∧ OneS wx IV [sI])
      case first =>
        obtain ⟨x, hx⟩ : ∃ x, ks[k]? = some x := ⟨_, List.getElem?_eq_getElem (by omega)⟩
        have hc := HKC.out k (.int .i64 x) (by rw [List.getElem?_map, hx]; rfl)
        have hkw : Kept w X2 := Below.trans HS.out.kept (KX.out.mono zr)
        have hc2 := hkw.cell hc
        have hbig : X2.heap.size ≠ kb := by
          have := World.block_lt_of_cell? _ _ hc2
          dsimp only at this
          omega
        have hbig2 : ¬ (kb = X2.heap.size) := fun e => hbig e.symm
        have hc3 := (show Kept X2 (X2.alloc (.cells #[.int .i64 (-1), .int .i64 1, .int .i64 2, .int .i64 9, .int .i64 1025, .int .i64 0] 3)) from (Below.refl _ _).alloc (Nat.le_refl _) _).cell hc2
        obtain ⟨m, hm7, hm, hmn⟩ := kd_form x
        have hkm : kd k = m % 6 := by rw [HKD.out]; unfold kdOf; rw [hx]; simp only [Option.getD_some]; rw [hmn]
        have HACM := Lib.hid (show ac = accK (m % 6) by rw [HAC.out, hkm])
        have hkL : (k : Int) < (ks.length : Int) := by omega
        have kq : ∀ o, Kept wr (X2.alloc o) := fun o => KX.out.alloc KX.out.size _
        have KQ := Lib.hid kq
        clear hx hc hkw hmn hkm hbig kq
        rcases (by omega : m = 0 ∨ m = 1 ∨ m = 2 ∨ m = 3 ∨ m = 4 ∨ m = 5 ∨ m = 6 ∨ m = 7) with rfl | rfl | rfl | rfl | rfl | rfl | rfl | rfl
        all_goals
          go_wp2_with fail
          go_meet
          refine ⟨rfl, by rw [HACM.out]; rfl, KQ.out _, BX.out.alloc _, OS.out.touch (S := fun _ => False) ((Touch.refl _ _).alloc _) fun _ h => h.elim⟩
      case rest =>
      clear KX BX OS
      obtain ⟨rfl, rfl, kx, bx, os⟩ := hcut
      rename World => X3
      have KX := Lib.hid kx
      have BX := Lib.hid bx
      have OS := Lib.hid os
      clear kx bx os
      go_upto_if 80 with fail
      go_cut [11] from 80 to 86 (fun s11 wx => ∃ mv, s11 = .pointer (some ⟨gt, 0, none⟩) ∧ Kept wr wx ∧ Blk wx gt 36 #[.string (letterS k), .string (supN N k), .int .i64 33, IV, .slice none 0 0, mv] ∧ OneS wx IV [sI] ∧ OneY wx mv (metK (kd k)))
      case first =>
        have c5 := BX.out.cell 5
        have f5 := BX.out.frozen 5
        have zq := BX.out.lt
        have zn : ¬ (gt = X3.heap.size) := Nat.ne_of_lt zq
        have nn5 := World.new_ne _ _ c5
        simp only [List.getElem?_toArray, List.getElem?_cons_succ, List.getElem?_cons_zero] at c5
        by_cases hk0 : kd k = 0
        · have h80 : ¬ (0 ≤ ac) := by rw [HAC.out, hk0]; decide
          have HM0 := Lib.hid (show metK (kd k) = [] by rw [hk0]; rfl)
          clear hk0
          go_wp2_with fail
          go_meet
          exact ⟨_, rfl, KX.out, BX.out, OS.out, .inl ⟨rfl, HM0.out⟩⟩
        · have h80 : 0 ≤ ac := by
            rw [HAC.out]
            have h1 := HKL.out k
            rcases (by omega : kd k = 1 ∨ kd k = 2 ∨ kd k = 3 ∨ kd k = 4 ∨ kd k = 5) with h | h | h | h | h <;> rw [h] <;> decide
          have HM0 := Lib.hid (show metK (kd k) = [⟨ac, mB, dV, ac != 1025, 0⟩] by unfold metK; rw [if_neg hk0, ← HAC.out])
          have HACB := Lib.hid (show -9223372036854775808 ≤ ac ∧ ac ≤ 9223372036854775807 by rw [HAC.out]; exact accK_ok _)
          clear hk0
          go_wp2_with fail
          go_meet
          refine ⟨_, rfl, (KX.out.setCell ZG.out _).alloc (KX.out.setCell ZG.out _).size _, by simpa using (BX.out.set_ 5 (.slice (some ⟨X3.heap.size, 0, none⟩) 1 1)).alloc _, ?_, .inr ⟨X3.heap.size, ⟨ac, mB, dV, ac != 1025, 0⟩, memK_ok _ HACB.out, rfl, HM0.out, blk_at_ (by simp)⟩⟩
          refine OS.out.touch (S := fun b => b = gt) (((Touch.refl (fun b => b = gt) _).setCell (p := ⟨gt, 5, none⟩) (.inl rfl) _).alloc _) ?_
          intro b hb _
          rw [hb]
          exact ⟨_, BX.out⟩
      case rest =>
      clear KX BX OS
      obtain ⟨mv, rfl, kx, bx, os, hmv⟩ := hcut
      rename World => X4
      have KX := Lib.hid kx
      have BX := Lib.hid bx
      have OS := Lib.hid os
      have HMV := Lib.hid hmv
      have hms : ∃ a n c, mv = .slice a n c := by
        rcases hmv with ⟨rfl, _⟩ | ⟨h, m, _, rfl, _, _⟩
        · exact ⟨_, _, _, rfl⟩
        · exact ⟨_, _, _, rfl⟩
      obtain ⟨am, nq, cq, rfl⟩ := hms
      have OW := Lib.hid ((Touch.of_kept kx).own HS.out.own fun _ _ => id)
      have zw : w.heap.size ≤ X4.heap.size := Nat.le_trans zr kx.size
      have hIV := HIV.out
      subst hIV
      clear kx bx os hmv HIV
      have c0 := BX.out.cell 0
      have c1 := BX.out.cell 1
      have c2 := BX.out.cell 2
      have c3 := BX.out.cell 3
      have c4 := BX.out.cell 4
      have c5 := BX.out.cell 5
      simp only [List.getElem?_toArray, List.getElem?_cons_succ, List.getElem?_cons_zero] at c0 c1 c2 c3 c4 c5
      go_wp2_with (at_builtin; refine wpl_pushH _ elem_typ rfl _ _ rfl w.heap.size _ (k + 1) _ rfl OW.out (encTypeV (mets (letterS k) (supN N k) 33 (.slice (some ⟨gs, 0, none⟩) 1 1) [sI] (.slice am nq cq) (metK (kd k)))) _ X4.heap.size rfl (by simp) rfl (by intro u hu; simp [encTypeV, mets] at hu; rcases hu with rfl | rfl | rfl | rfl | rfl | rfl <;> rfl) (by omega) (by omega) zw ?_; intro v5 w5 ho5 hg5 hk5 hb5; have HO5 := Lib.hid ho5; have HG5 := Lib.hid hg5; clear ho5 hg5 hk5 hb5)
      go_roundw
      case rel => exact ⟨k + 1, _, by omega, by go_num, cls_next HS.out KX.out _ ⟨lsz13 (by omega), sup13 (by omega), by show -9223372036854775808 ≤ (33 : Int) ∧ (33 : Int) ≤ 9223372036854775807; decide, ⟨rfl, rfl⟩, OS.out, HMV.out⟩ rfl HO5.out HG5.out⟩
      case measure => simp [intOf]; omega
    · obtain rfl : k = N := by omega
      have hT := HS.out.tyR (by omega)
      obtain ⟨D, hD⟩ : ∃ D, D = nearD k fun i => metK (kd i) := ⟨_, rfl⟩
      rw [← near_list, ← hD] at hT
      have HT := Lib.hid hT
      have HD := Lib.hid hD
      have KR := Lib.hid HS.out.kept
      clear hT hD HS
      have hkN : ¬ ((k : Int) < (k : Int)) := by omega
      go_wp2_with fail
      clear hkN
      go_loop [13, 14, 15] (fun s13 s14 s15 => ∃ (i : Nat) (v f : ByteArray), s13 = .string v ∧ s14 = .string f ∧ s15 = .int .i64 i ∧ F ≤ i ∧ i ≤ k ∧ VR kd F i v ∧ FcR kd F i f) (fun _ _ s15 => k - (intOf s15).toNat)
      case atStart => exact ⟨F, noneB, noneB, rfl, rfl, rfl, Nat.le_refl _, by omega, .inl ⟨rfl, fun j h1 h2 => by omega⟩, .inl ⟨rfl, fun j h1 h2 => by omega⟩⟩
      case round =>
        obtain ⟨i, v, f, rfl, rfl, rfl, hi1, hi2, hv, hf⟩ := hrel
        have HV := Lib.hid hv
        have HF := Lib.hid hf
        clear hv hf
        by_cases hlt : i < k
        · have hltI : (i : Int) < (k : Int) := by omega
          obtain ⟨x, hx⟩ : ∃ x, ks[i]? = some x := ⟨_, List.getElem?_eq_getElem (by omega)⟩
          have hc := HKC.out i (.int .i64 x) (by rw [List.getElem?_map, hx]; rfl)
          have hc2 := KR.out.cell hc
          obtain ⟨m, hm7, hm, hmn⟩ := kd_form x
          have hkm : kd i = m % 6 := by rw [HKD.out]; unfold kdOf; rw [hx]; simp only [Option.getD_some]; rw [hmn]
          obtain ⟨c, hcd⟩ : ∃ c, c = kd i := ⟨_, rfl⟩
          have HC := Lib.hid hcd
          have HCM := Lib.hid (show c = m % 6 by rw [hcd, hkm])
          have hc6 : c < 6 := by rw [hcd]; exact HKL.out i
          have hiL : (i : Int) < (ks.length : Int) := by omega
          have hi0 : (0 : Int) ≤ (i : Int) := by omega
          clear hx hc hmn hkm hcd
          go_upto_region 21 with fail
          go_cut [16] from 97 to 102 (fun s16 wx => s16 = .int .i64 c ∧ wr = wx)
          case first =>
            rcases (by omega : m = 0 ∨ m = 1 ∨ m = 2 ∨ m = 3 ∨ m = 4 ∨ m = 5 ∨ m = 6 ∨ m = 7) with rfl | rfl | rfl | rfl | rfl | rfl | rfl | rfl
            all_goals
              go_wp2_with fail
              go_meet
              exact ⟨by rw [HCM.out]; rfl, rfl⟩
          case rest =>
          obtain ⟨rfl, rfl⟩ := hcut
          clear hm hc2 HCM
          obtain ⟨b1, hb1⟩ : ∃ b : Bool, b = (decide (v = noneB) && (c == 1 || c == 5)) := ⟨_, rfl⟩
          have Hb1 := Lib.hid hb1
          clear hb1
          go_upto_region 22 with fail
          go_cut [112] from 103 to 112 (fun s wx => s = .bool b1 ∧ wr = wx)
          case first =>
            by_cases hn : v = noneB
            · have e1 := strn_eq hn
              have HB2 := Lib.hid (show b1 = (c == 1 || c == 5) by rw [Hb1.out, decide_eq_true hn]; rfl)
              clear hn
              rcases (by omega : c = 0 ∨ c = 1 ∨ c = 2 ∨ c = 3 ∨ c = 4 ∨ c = 5) with rfl | rfl | rfl | rfl | rfl | rfl
              all_goals
                go_wp2_with fail
                go_meet
                exact ⟨by rw [HB2.out]; rfl, rfl⟩
            · have e1 := strn_ne hn
              have HB2 := Lib.hid (show b1 = false by rw [Hb1.out, decide_eq_false hn]; rfl)
              clear hn
              go_wp2_with fail
              go_meet
              exact ⟨by rw [HB2.out], rfl⟩
          case rest =>
          obtain ⟨rfl, rfl⟩ := hcut
          obtain ⟨v1, hv1⟩ : ∃ x : ByteArray, x = (if b1 = true then letterS i else v) := ⟨_, rfl⟩
          have Hv1 := Lib.hid hv1
          clear hv1
          go_upto_if 112 with fail
          go_cut [13] from 112 to 114 (fun s wx => s = .string v1 ∧ wr = wx)
          case first =>
            cases b1 with
            | true =>
              go_wp2_with fail
              refine (letter13_ _ i _ rfl (by omega)).mono ?_
              rintro e w2 ⟨rfl, rfl⟩
              go_wp2_with fail
              go_meet
              exact ⟨by rw [Hv1.out]; rfl, rfl⟩
            | false =>
              go_wp2_with fail
              go_meet
              exact ⟨by rw [Hv1.out]; rfl, rfl⟩
          case rest =>
          obtain ⟨rfl, rfl⟩ := hcut
          obtain ⟨b2, hb2⟩ : ∃ b : Bool, b = (decide (v1 = noneB) && (c == 4)) := ⟨_, rfl⟩
          have Hb2 := Lib.hid hb2
          clear hb2
          go_upto_region 24 with fail
          go_cut [120] from 115 to 120 (fun s wx => s = .bool b2 ∧ wr = wx)
          case first =>
            by_cases hn : v1 = noneB
            · have e1 := strn_eq hn
              have HB2 := Lib.hid (show b2 = (c == 4) by rw [Hb2.out, decide_eq_true hn]; rfl)
              clear hn
              rcases (by omega : c = 0 ∨ c = 1 ∨ c = 2 ∨ c = 3 ∨ c = 4 ∨ c = 5) with rfl | rfl | rfl | rfl | rfl | rfl
              all_goals
                go_wp2_with fail
                go_meet
                exact ⟨by rw [HB2.out]; rfl, rfl⟩
            · have e1 := strn_ne hn
              have HB2 := Lib.hid (show b2 = false by rw [Hb2.out, decide_eq_false hn]; rfl)
              clear hn
              go_wp2_with fail
              go_meet
              exact ⟨by rw [HB2.out], rfl⟩
          case rest =>
          obtain ⟨rfl, rfl⟩ := hcut
          obtain ⟨v2, hv2⟩ : ∃ x : ByteArray, x = (if b2 = true then abB else v1) := ⟨_, rfl⟩
          have Hv2 := Lib.hid hv2
          clear hv2
          go_upto_if 120 with fail
          go_cut [13] from 120 to 120 (fun s wx => s = .string v2 ∧ wr = wx)
          case first =>
            cases b2 with
            | true =>
              go_wp2_with fail
              go_meet
              exact ⟨by rw [Hv2.out]; rfl, rfl⟩
            | false =>
              go_wp2_with fail
              go_meet
              exact ⟨by rw [Hv2.out]; rfl, rfl⟩
          case rest =>
          obtain ⟨rfl, rfl⟩ := hcut
          obtain ⟨b3, hb3⟩ : ∃ b : Bool, b = (decide (f = noneB) && (c == 1)) := ⟨_, rfl⟩
          have Hb3 := Lib.hid hb3
          clear hb3
          go_upto_region 26 with fail
          go_cut [126] from 121 to 126 (fun s wx => s = .bool b3 ∧ wr = wx)
          case first =>
            by_cases hn : f = noneB
            · have e1 := strn_eq hn
              have HB2 := Lib.hid (show b3 = (c == 1) by rw [Hb3.out, decide_eq_true hn]; rfl)
              clear hn
              rcases (by omega : c = 0 ∨ c = 1 ∨ c = 2 ∨ c = 3 ∨ c = 4 ∨ c = 5) with rfl | rfl | rfl | rfl | rfl | rfl
              all_goals
                go_wp2_with fail
                go_meet
                exact ⟨by rw [HB2.out]; rfl, rfl⟩
            · have e1 := strn_ne hn
              have HB2 := Lib.hid (show b3 = false by rw [Hb3.out, decide_eq_false hn]; rfl)
              clear hn
              go_wp2_with fail
              go_meet
              exact ⟨by rw [HB2.out], rfl⟩
          case rest =>
          obtain ⟨rfl, rfl⟩ := hcut
          obtain ⟨f1, hf1⟩ : ∃ x : ByteArray, x = (if b3 = true then letterS i else f) := ⟨_, rfl⟩
          have Hf1 := Lib.hid hf1
          clear hf1
          go_upto_if 126 with fail
          go_cut [14] from 126 to 128 (fun s wx => s = .string f1 ∧ wr = wx)
          case first =>
            cases b3 with
            | true =>
              go_wp2_with fail
              refine (letter13_ _ i _ rfl (by omega)).mono ?_
              rintro e w2 ⟨rfl, rfl⟩
              go_wp2_with fail
              go_meet
              exact ⟨by rw [Hf1.out]; rfl, rfl⟩
            | false =>
              go_wp2_with fail
              go_meet
              exact ⟨by rw [Hf1.out]; rfl, rfl⟩
          case rest =>
          obtain ⟨rfl, rfl⟩ := hcut
          obtain ⟨b4, hb4⟩ : ∃ b : Bool, b = (decide (f1 = noneB) && (c == 2 || c == 5)) := ⟨_, rfl⟩
          have Hb4 := Lib.hid hb4
          clear hb4
          go_upto_region 28 with fail
          go_cut [138] from 129 to 138 (fun s wx => s = .bool b4 ∧ wr = wx)
          case first =>
            by_cases hn : f1 = noneB
            · have e1 := strn_eq hn
              have HB2 := Lib.hid (show b4 = (c == 2 || c == 5) by rw [Hb4.out, decide_eq_true hn]; rfl)
              clear hn
              rcases (by omega : c = 0 ∨ c = 1 ∨ c = 2 ∨ c = 3 ∨ c = 4 ∨ c = 5) with rfl | rfl | rfl | rfl | rfl | rfl
              all_goals
                go_wp2_with fail
                go_meet
                exact ⟨by rw [HB2.out]; rfl, rfl⟩
            · have e1 := strn_ne hn
              have HB2 := Lib.hid (show b4 = false by rw [Hb4.out, decide_eq_false hn]; rfl)
              clear hn
              go_wp2_with fail
              go_meet
              exact ⟨by rw [HB2.out], rfl⟩
          case rest =>
          obtain ⟨rfl, rfl⟩ := hcut
          obtain ⟨f2, hf2⟩ : ∃ x : ByteArray, x = (if b4 = true then acB else f1) := ⟨_, rfl⟩
          have Hf2 := Lib.hid hf2
          clear hf2
          go_upto_if 138 with fail
          go_cut [14] from 138 to 138 (fun s wx => s = .string f2 ∧ wr = wx)
          case first =>
            cases b4 with
            | true =>
              go_wp2_with fail
              go_meet
              exact ⟨by rw [Hf2.out]; rfl, rfl⟩
            | false =>
              go_wp2_with fail
              go_meet
              exact ⟨by rw [Hf2.out]; rfl, rfl⟩
          case rest =>
          obtain ⟨rfl, rfl⟩ := hcut
          obtain ⟨b5, hb5⟩ : ∃ b : Bool, b = (decide (f2 = noneB) && (c == 4)) := ⟨_, rfl⟩
          have Hb5 := Lib.hid hb5
          clear hb5
          go_upto_region 30 with fail
          go_cut [144] from 139 to 144 (fun s wx => s = .bool b5 ∧ wr = wx)
          case first =>
            by_cases hn : f2 = noneB
            · have e1 := strn_eq hn
              have HB2 := Lib.hid (show b5 = (c == 4) by rw [Hb5.out, decide_eq_true hn]; rfl)
              clear hn
              rcases (by omega : c = 0 ∨ c = 1 ∨ c = 2 ∨ c = 3 ∨ c = 4 ∨ c = 5) with rfl | rfl | rfl | rfl | rfl | rfl
              all_goals
                go_wp2_with fail
                go_meet
                exact ⟨by rw [HB2.out]; rfl, rfl⟩
            · have e1 := strn_ne hn
              have HB2 := Lib.hid (show b5 = false by rw [Hb5.out, decide_eq_false hn]; rfl)
              clear hn
              go_wp2_with fail
              go_meet
              exact ⟨by rw [HB2.out], rfl⟩
          case rest =>
          obtain ⟨rfl, rfl⟩ := hcut
          obtain ⟨f3, hf3⟩ : ∃ x : ByteArray, x = (if b5 = true then abB else f2) := ⟨_, rfl⟩
          have Hf3 := Lib.hid hf3
          clear hf3
          have HVN := Lib.hid (v_next HV.out hi1 (by omega) HC.out hc6 Hb1.out Hv1.out Hb2.out Hv2.out)
          have HFN := Lib.hid (f_next HF.out hi1 (by omega) HC.out hc6 Hb3.out Hf1.out Hb4.out Hf2.out Hb5.out Hf3.out)
          cases b5 with
          | true =>
            have hf3 : f3 = abB := by rw [Hf3.out]; rfl
            subst hf3
            go_wp2_with fail
            go_round
            case rel => exact ⟨i + 1, _, _, rfl, rfl, by go_num, by omega, by omega, HVN.out, HFN.out⟩
            case measure => simp [intOf]; omega
          | false =>
            have hf3 : f3 = f2 := by rw [Hf3.out]; rfl
            subst hf3
            go_wp2_with fail
            go_round
            case rel => exact ⟨i + 1, _, _, rfl, rfl, by go_num, by omega, by omega, HVN.out, HFN.out⟩
            case measure => simp [intOf]; omega
        · obtain rfl : i = k := by omega
          have hltI : ¬ (i : Int) < (i : Int) := by omega
          obtain ⟨b1, hb1⟩ : ∃ b : Bool, b = decide (v = noneB) := ⟨_, rfl⟩
          have Hb1 := Lib.hid hb1
          clear hb1
          go_upto_region 32 with fail
          go_cut [146] from 145 to 146 (fun s wx => s = .bool b1 ∧ wr = wx)
          case first =>
            by_cases hn : v = noneB
            · have e1 := strn_eq hn
              have HB2 := Lib.hid (show b1 = true by rw [Hb1.out, decide_eq_true hn])
              clear hn
              go_wp2_with fail
              go_meet
              exact ⟨by rw [HB2.out], rfl⟩
            · have e1 := strn_ne hn
              have HB2 := Lib.hid (show b1 = false by rw [Hb1.out, decide_eq_false hn])
              clear hn
              go_wp2_with fail
              go_meet
              exact ⟨by rw [HB2.out], rfl⟩
          case rest =>
          obtain ⟨rfl, rfl⟩ := hcut
          obtain ⟨Vz, hVz⟩ : ∃ x : ByteArray, x = lastV v := ⟨_, rfl⟩
          have HVz := Lib.hid hVz
          have HVz' := Lib.hid (show Vz = (if b1 = true then abB else v) by rw [hVz, Hb1.out]; unfold lastV; by_cases hn : v = noneB <;> simp [hn])
          clear hVz
          go_upto_if 146 with fail
          go_cut [13] from 146 to 146 (fun s wx => s = .string Vz ∧ wr = wx)
          case first =>
            cases b1 with
            | true =>
              go_wp2_with fail
              go_meet
              exact ⟨by rw [HVz'.out]; rfl, rfl⟩
            | false =>
              go_wp2_with fail
              go_meet
              exact ⟨by rw [HVz'.out]; rfl, rfl⟩
          case rest =>
          obtain ⟨rfl, rfl⟩ := hcut
          obtain ⟨b2, hb2⟩ : ∃ b : Bool, b = decide (f = noneB) := ⟨_, rfl⟩
          have Hb2 := Lib.hid hb2
          clear hb2
          go_upto_region 34 with fail
          go_cut [148] from 147 to 148 (fun s wx => s = .bool b2 ∧ wr = wx)
          case first =>
            by_cases hn : f = noneB
            · have e1 := strn_eq hn
              have HB2 := Lib.hid (show b2 = true by rw [Hb2.out, decide_eq_true hn])
              clear hn
              go_wp2_with fail
              go_meet
              exact ⟨by rw [HB2.out], rfl⟩
            · have e1 := strn_ne hn
              have HB2 := Lib.hid (show b2 = false by rw [Hb2.out, decide_eq_false hn])
              clear hn
              go_wp2_with fail
              go_meet
              exact ⟨by rw [HB2.out], rfl⟩
          case rest =>
          obtain ⟨rfl, rfl⟩ := hcut
          obtain ⟨Gz, hGz⟩ : ∃ x : ByteArray, x = lastV f := ⟨_, rfl⟩
          have HGz := Lib.hid hGz
          have HGz' := Lib.hid (show Gz = (if b2 = true then abB else f) by rw [hGz, Hb2.out]; unfold lastV; by_cases hn : f = noneB <;> simp [hn])
          clear hGz
          go_upto_if 148 with fail
          go_cut [14] from 148 to 148 (fun s wx => s = .string Gz ∧ wr = wx)
          case first =>
            cases b2 with
            | true =>
              go_wp2_with fail
              go_meet
              exact ⟨by rw [HGz'.out]; rfl, rfl⟩
            | false =>
              go_wp2_with fail
              go_meet
              exact ⟨by rw [HGz'.out]; rfl, rfl⟩
          case rest =>
          obtain ⟨rfl, rfl⟩ := hcut
          have hFV := virt_fin HKL.out (by omega) hNF HV.out
          have hFG := iface_fin HKL.out (by omega) hNF HF.out
          rw [← HVz.out, ← HD.out] at hFV
          rw [← HGz.out, ← HD.out] at hFG
          obtain ⟨A1, X1, hr1, hz1⟩ := fin_form hFV
          obtain ⟨A2, X2, hr2, hz2⟩ := fin_form hFG
          have R1 := Lib.hid hr1
          have R2 := Lib.hid hr2
          have HZ1 := Lib.hid hz1
          have HZ2 := Lib.hid hz2
          clear hFV hFG hr1 hr2 hz1 hz2
          go_wp2_with fail
          refine (letter13_ _ F _ rfl (by omega)).mono ?_
          rintro e w2 ⟨rfl, rfl⟩
          go_wp2_with fail
          refine (ch_Virtual D (letterS F) sI 0 _ wr HT.out (lsz13 (by omega))).mono ?_
          rintro e x4 ⟨rfl, k4⟩
          rw [R1.out]
          have k5 : Kept w (x4.alloc (.cells #[.string A1, .int .i64 0] 24)) := (Below.trans KR.out (k4.mono KR.out.size)).alloc (Below.trans KR.out (k4.mono KR.out.size)).size _
          have h5 : TyR (x4.alloc (.cells #[.string A1, .int .i64 0] 24)) u9 D := (HT.out.kept k4).kept ((Below.refl _ _).alloc (Nat.le_refl _) _)
          have b5 := Blk.new x4 24 #[.string A1, .int .i64 0]
          obtain ⟨g5, hg5⟩ : ∃ x, x = x4.heap.size := ⟨_, rfl⟩
          rw [← hg5] at b5
          go_upto_region 37 with fail
          rw [← hg5]
          generalize (x4.alloc (.cells #[.string A1, .int .i64 0] 24)) = X5 at *
          have K5 := Lib.hid k5
          have H5 := Lib.hid h5
          have B5 := Lib.hid b5
          clear hg5 k5 h5 b5 k4
          go_wp2_with fail
          refine (letter13_ _ F _ rfl (by omega)).mono ?_
          rintro e w2 ⟨rfl, rfl⟩
          go_wp2_with fail
          refine (ch_Face D (letterS F) sI 0 _ X5 H5.out (lsz13 (by omega))).mono ?_
          rintro e x6 ⟨rfl, k6⟩
          rw [R2.out]
          have k7 : Kept w (x6.alloc (.cells #[.string A2, .int .i64 0] 24)) := (Below.trans K5.out (k6.mono K5.out.size)).alloc (Below.trans K5.out (k6.mono K5.out.size)).size _
          have b7 : Blk (x6.alloc (.cells #[.string A2, .int .i64 0] 24)) g5 24 #[.string A1, .int .i64 0] := (B5.out.kept k6).alloc _
          have d7 := Blk.new x6 24 #[.string A2, .int .i64 0]
          obtain ⟨g7, hg7⟩ : ∃ x, x = x6.heap.size := ⟨_, rfl⟩
          rw [← hg7] at d7
          go_upto_region 38 with fail
          rw [← hg7]
          generalize (x6.alloc (.cells #[.string A2, .int .i64 0] 24)) = X7 at *
          have K7 := Lib.hid k7
          have p0 := b7.cell 0
          have p1 := b7.cell 1
          have q0 := d7.cell 0
          have q1 := d7.cell 1
          simp only [List.getElem?_toArray, List.getElem?_cons_succ, List.getElem?_cons_zero] at p0 p1 q0 q1
          clear hg7 k7 b7 d7 k6
          rcases HZ1.out with ⟨rfl, rfl⟩ | ⟨rfl, rfl, e1⟩
          · rcases HZ2.out with ⟨rfl, rfl⟩ | ⟨rfl, rfl, e2⟩
            · clear HZ1 HZ2
              go_wp2_with fail
              go_ret
              exact ⟨rfl, K7.out⟩
            · clear HZ1 HZ2
              obtain ⟨e5, e6⟩ := nonempty_facts e2
              go_wp2_with fail
              go_ret
              exact ⟨rfl, K7.out⟩
          · rcases HZ2.out with ⟨rfl, rfl⟩ | ⟨rfl, rfl, e2⟩
            · clear HZ1 HZ2
              obtain ⟨e3, e4⟩ := nonempty_facts e1
              go_wp2_with fail
              go_ret
              exact ⟨rfl, K7.out⟩
            · clear HZ1 HZ2
              obtain ⟨e3, e4⟩ := nonempty_facts e1
              obtain ⟨e5, e6⟩ := nonempty_facts e2
              go_wp2_with fail
              go_ret
              exact ⟨rfl, K7.out⟩
end Go.Proofs.Yteblpdcedlaedaa
