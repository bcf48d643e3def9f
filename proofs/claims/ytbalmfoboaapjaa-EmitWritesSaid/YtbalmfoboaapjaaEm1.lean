/-
  What is written is read as itself: plain.
-/
import Derived.Test.YtbalmfoboaapjaaEm0
namespace Go.Proofs.Ytbalmfoboaapjaa
set_option linter.unusedVariables false
set_option linter.unusedSimpArgs false
open Go.RowKit
set_option maxRecDepth 100000

section
variable {α β : Type} {f : List UInt8 → PS → Out α} {g : PS → α → List UInt8 → PS → Out β} {X Y : List UInt8} {x : α} {y : β}
theorem Eats.bindS (h : Eats f X x) (k : ∀ s0, Eats (g s0 x) Y y) : Eats (fun L s => (f L s).bind fun a t => g s a L t) (X ++ Y) y := by
  intro A B most named hm
  rw [List.length_append] at hm
  have h1 := h A (Y ++ B) most named (by omega)
  have h2 := k ⟨A.length, most, named⟩ (A ++ X) B most named (by rw [List.length_append]; omega)
  rw [List.length_append] at h2
  dsimp only
  rw [show A ++ (X ++ Y) ++ B = A ++ X ++ (Y ++ B) by simp, h1, Out.bind_ok]
  rw [show A ++ X ++ Y ++ B = A ++ X ++ (Y ++ B) by simp] at h2
  rw [h2, List.length_append, Nat.add_assoc]
theorem EatsF.bindS (h : EatsF f X x) (k : ∀ s0, EatsF (g s0 x) Y y) : EatsF (fun L s => (f L s).bind fun a t => g s a L t) (X ++ Y) y := by
  intro A B named hm
  rw [List.length_append] at hm
  obtain ⟨n1, h1⟩ := h A (Y ++ B) named (by omega)
  obtain ⟨n2, h2⟩ := k ⟨A.length, far, named⟩ (A ++ X) B n1 (by rw [List.length_append]; omega)
  rw [List.length_append] at h2
  refine ⟨n2, ?_⟩
  dsimp only
  rw [show A ++ (X ++ Y) ++ B = A ++ X ++ (Y ++ B) by simp, h1, Out.bind_ok]
  rw [show A ++ X ++ Y ++ B = A ++ X ++ (Y ++ B) by simp] at h2
  rw [h2, List.length_append, Nat.add_assoc]
end
theorem twoB_cons (x : Int) (l : List Int) : twoB (x :: l) = beB 2 x ++ twoB l := rfl
theorem twoB_nil : twoB [] = [] := rfl
theorem wrapW_beB {n : Int} (h : -2147483648 ≤ n ∧ n ≤ 2147483647) : wrapW (n % 4294967296) = n := by unfold wrapW; split <;> omega
theorem eats_int {n : Int} (h : -2147483648 ≤ n ∧ n ≤ 2147483647) : Eats (fun L s => (numP L 4 s).bind fun v t => .ok (wrapW v) t) (beB 4 n) n := by
  have h1 : beB 4 n = beB 4 (n % 4294967296) := by
    simp only [beB, byteOf]
    congr 1
    · congr 1; simp only [Int.reducePow]; omega
    · congr 1
      · congr 1; simp only [Int.reducePow]; omega
      · congr 1
        · congr 1; simp only [Int.reducePow]; omega
        · congr 1
          congr 1; simp only [Int.reducePow]; omega
  have := (eats_four (v := n % 4294967296) (by omega) (by omega)).map wrapW
  rw [wrapW_beB h] at this
  rw [h1]
  exact this
theorem eats_const {c : ConstC} (hk : kindC c.tag) (hf : fairC c) : Eats constP (constB c) c := by
  obtain ⟨tag, text, num, a, b⟩ := c
  obtain ⟨ha, hb, ht, hn, h1, h3, h13, h137⟩ := hf
  dsimp only at *
  unfold constB
  dsimp only
  have h256 : tag = 1 ∨ tag = 3 ∨ tag = 7 ∨ tag = 9 ∨ tag = 10 ∨ tag = 11 ∨ tag = 12 := by unfold kindC at hk; omega
  have e0 := eats_num 1 tag (by omega) (by omega)
  refine Eats.bindS (β := ConstC) (f := fun L s => numP L 1 s) (g := fun s t L s1 =>
    if t = 1 then (numP L 2 s1).bind fun n s2 => (bytesP L n s2).bind fun l s3 => .ok ⟨1, ⟨l.toArray⟩, 0, 0, 0⟩ s3
    else if t = 3 then (numP L 4 s1).bind fun n s2 => .ok ⟨3, ⟨#[]⟩, wrapW n, 0, 0⟩ s2
    else if t = 7 then (numP L 2 s1).bind fun a s2 => .ok ⟨7, ⟨#[]⟩, 0, a, 0⟩ s2
    else if t = 9 ∨ t = 10 ∨ t = 11 ∨ t = 12 then (numP L 2 s1).bind fun a s2 => (numP L 2 s2).bind fun b s3 => .ok ⟨t, ⟨#[]⟩, 0, a, b⟩ s3
    else .bad s.at_ 13) e0 fun s0 => ?_
  by_cases t1 : tag = 1
  · subst t1
    obtain rfl := h3 (by decide)
    obtain rfl := h13 (by decide)
    obtain rfl := h137 (by decide)
    simp only [if_true]
    obtain ⟨d⟩ := text
    have e1 := eats_two (v := (d.size : Int)) ⟨by omega, by have : d.size ≤ 65535 := ht; omega⟩
    have e2 := (eats_bytes d.toList d.size (by simp)).map (fun l => (⟨1, ⟨l.toArray⟩, 0, 0, 0⟩ : ConstC))
    exact e1.bind (β := ConstC) (g := fun n L s2 => (bytesP L n s2).bind fun l s3 => .ok ⟨1, ⟨l.toArray⟩, 0, 0, 0⟩ s3) e2
  have hts : text = ⟨#[]⟩ := by
    have := h1 t1
    obtain ⟨d⟩ := text
    have : d.size = 0 := this
    rw [Array.eq_empty_of_size_eq_zero this]
  subst hts
  simp only [if_neg t1]
  by_cases t3 : tag = 3
  · subst t3
    obtain rfl := h13 (by decide)
    obtain rfl := h137 (by decide)
    simp only [if_true]
    have := (eats_int hn).map (fun n => (⟨3, ⟨#[]⟩, n, 0, 0⟩ : ConstC))
    simpa only [Out.bind_assoc, Out.bind_ok] using this
  obtain rfl := h3 t3
  simp only [if_neg t3]
  by_cases t7 : tag = 7
  · subst t7
    obtain rfl := h137 (by decide)
    simp only [if_true]
    exact (eats_two ha).map (fun a => (⟨7, ⟨#[]⟩, 0, a, 0⟩ : ConstC))
  have t9 : tag = 9 ∨ tag = 10 ∨ tag = 11 ∨ tag = 12 := by omega
  simp only [if_neg t7, if_pos t9, twoB_cons, twoB_nil]
  have e2 := (eats_two hb).map (fun b => (⟨tag, ⟨#[]⟩, 0, a, b⟩ : ConstC))
  rw [List.append_nil]
  exact (eats_two ha).bind (β := ConstC) (g := fun a L s2 => (numP L 2 s2).bind fun b s3 => .ok ⟨tag, ⟨#[]⟩, 0, a, b⟩ s3) e2
theorem eats_name {pool : List ConstC} {i : Nat} {c : ConstC} (hi : pool[i]? = some c) (ht : c.tag = 1) (hb : i + 1 ≤ 65535) : Eats (fun L s => nameP L pool s) (beB 2 ((i : Int) + 1)) c.text := by
  intro A B most named hm
  have h := eats_two (v := (i : Int) + 1) ⟨by omega, by omega⟩ A B most named hm
  dsimp only at h ⊢
  unfold nameP
  rw [h, Out.bind_ok, if_pos (by omega), show ((i : Int) + 1).toNat - 1 = i by omega, hi]
  dsimp only
  rw [if_pos ht]
theorem named_at {s : ByteArray} : ∀ {pool : List ConstC} {k : Nat}, namedC pool s = k + 1 → ∃ c, pool[k]? = some c ∧ c.tag = 1 ∧ c.text = s
  | [], k, h => by cases h
  | c :: l, k, h => by
    unfold namedC at h
    split at h
    · rename_i hc
      obtain rfl : k = 0 := by omega
      exact ⟨c, rfl, hc.1, hc.2⟩
    · split at h
      · cases h
      · rename_i hn
        obtain ⟨j, hj⟩ : ∃ j, namedC l s = j + 1 := ⟨namedC l s - 1, by omega⟩
        obtain ⟨c', h1, h2, h3⟩ := named_at hj
        obtain rfl : k = j + 1 := by omega
        exact ⟨c', by simpa using h1, h2, h3⟩
theorem named_le (pool : List ConstC) (s : ByteArray) : namedC pool s ≤ pool.length := by
  induction pool with
  | nil => exact Nat.le_refl _
  | cons c l ih =>
    unfold namedC
    split
    · simp
    · split
      · simp
      · simp only [List.length_cons]; omega
theorem eats_attr0 {σ : Type} (pool : List ConstC) (want : ByteArray) (tell : List UInt8 → σ → Int → Int → PS → Out σ) (x : σ) : Eats (fun L s => attrsP L pool want (tell L) x s) (beB 2 0) x := by
  intro A B most named hm
  have h := eats_two (v := 0) ⟨by omega, by omega⟩ A B most named hm
  dsimp only at h ⊢
  unfold attrsP
  rw [h]
  rfl
theorem attrsP_one {σ : Type} (L : List UInt8) (pool : List ConstC) (want : ByteArray) (tell : σ → Int → Int → PS → Out σ) (x : σ) (s s1 s2 : PS) (h1 : numP L 2 s = .ok 1 s1) (h2 : nameP L pool s1 = .ok want s2) (hw : want.size ≠ 0) :
    attrsP L pool want tell x s = (numP L 4 s2).bind fun long s3 => tell x s1.at_ long s3 := by
  unfold attrsP
  rw [h1, Out.bind_ok]
  show attrP L pool want tell 1 false x s1 = _
  unfold attrP
  rw [h2, Out.bind_ok, if_pos ⟨rfl, hw⟩, if_neg (by decide)]
  congr 1
  funext long s3
  show ((tell x s1.at_ long s3).bind fun y s4 => .ok y s4) = _
  exact Out.bind_self _
theorem eats_attr1 {σ : Type} {pool : List ConstC} {want : ByteArray} {tell : List UInt8 → σ → Int → Int → PS → Out σ} {x y : σ} {long : Int} {Z : List UInt8} {k : Nat} (hk : namedC pool want = k + 1) (hl : pool.length ≤ 65535) (hw : want.size ≠ 0) (h0 : 0 ≤ long) (h1 : long < 4294967296)
    (ht : ∀ p, Eats (fun L s => tell L x p long s) Z y) : Eats (fun L s => attrsP L pool want (tell L) x s) (twoB [1, (namedC pool want : Int)] ++ beB 4 long ++ Z) y := by
  obtain ⟨c, hc, htag, htext⟩ := named_at hk
  have hle := named_le pool want
  intro A B most named hm
  rw [hk] at hm ⊢
  simp only [twoB_cons, twoB_nil, List.append_nil, List.append_assoc, List.length_append, beB_length] at hm ⊢
  have e1 := eats_two (v := 1) ⟨by omega, by omega⟩ A (beB 2 ((k + 1 : Nat) : Int) ++ (beB 4 long ++ (Z ++ B))) most named (by rw [beB_length]; omega)
  have e2 := eats_name hc htag (by omega) (A ++ beB 2 1) (beB 4 long ++ (Z ++ B)) most named (by simp only [List.length_append, beB_length]; omega)
  have e3 := (eats_four h0 h1).bind (g := fun v L s => tell L x ((A.length + 2 : Nat) : Int) v s) (ht _) (A ++ beB 2 1 ++ beB 2 ((k : Int) + 1)) B most named (by simp only [List.length_append, beB_length]; omega)
  simp only [List.append_assoc, List.length_append, beB_length, htext] at e1 e2 e3
  rw [attrsP_one _ _ _ _ _ _ _ _ (by simpa only [List.append_assoc, Int.natCast_add, Int.natCast_one] using e1) (by simpa only [List.append_assoc, Int.natCast_add, Int.natCast_one] using e2) hw]
  refine (show _ = _ from ?_)
  simpa only [List.append_assoc, Int.natCast_add, Int.natCast_one, Nat.add_assoc] using e3
theorem eatsF_attr1 {σ : Type} {pool : List ConstC} {want : ByteArray} {tell : List UInt8 → σ → Int → Int → PS → Out σ} {x y : σ} {long : Int} {Z : List UInt8} {k : Nat} (hk : namedC pool want = k + 1) (hl : pool.length ≤ 65535) (hw : want.size ≠ 0) (h0 : 0 ≤ long) (h1 : long < 4294967296)
    (ht : ∀ p, EatsF (fun L s => tell L x p long s) Z y) : EatsF (fun L s => attrsP L pool want (tell L) x s) (twoB [1, (namedC pool want : Int)] ++ beB 4 long ++ Z) y := by
  obtain ⟨c, hc, htag, htext⟩ := named_at hk
  have hle := named_le pool want
  intro A B named hm
  rw [hk] at hm ⊢
  simp only [twoB_cons, twoB_nil, List.append_nil, List.append_assoc, List.length_append, beB_length] at hm ⊢
  have e1 := eats_two (v := 1) ⟨by omega, by omega⟩ A (beB 2 ((k + 1 : Nat) : Int) ++ (beB 4 long ++ (Z ++ B))) far named (by rw [beB_length]; omega)
  have e2 := eats_name hc htag (by omega) (A ++ beB 2 1) (beB 4 long ++ (Z ++ B)) far named (by simp only [List.length_append, beB_length]; omega)
  obtain ⟨nm, e3⟩ := (eats_four h0 h1).toF.bind (g := fun v L s => tell L x ((A.length + 2 : Nat) : Int) v s) (ht _) (A ++ beB 2 1 ++ beB 2 ((k : Int) + 1)) B named (by simp only [List.length_append, beB_length]; omega)
  simp only [List.append_assoc, List.length_append, beB_length, htext] at e1 e2 e3
  refine ⟨nm, ?_⟩
  rw [attrsP_one _ _ _ _ _ _ _ _ (by simpa only [List.append_assoc, Int.natCast_add, Int.natCast_one] using e1) (by simpa only [List.append_assoc, Int.natCast_add, Int.natCast_one] using e2) hw]
  simpa only [List.append_assoc, Int.natCast_add, Int.natCast_one, Nat.add_assoc] using e3
end Go.Proofs.Ytbalmfoboaapjaa
