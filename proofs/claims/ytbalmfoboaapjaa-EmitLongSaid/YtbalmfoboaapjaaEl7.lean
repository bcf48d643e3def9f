/-
  The law EmitLong: its walk.
-/
import Derived.Test.YtbalmfoboaapjaaEl3
import Derived.Deep.OwnRows
import Derived.OwnWalk
import Derived.Laws.OwnMore
namespace Go.Proofs.Ytbalmfoboaapjaa
set_option linter.unusedVariables false
set_option linter.unusedSimpArgs false
open Go.RowKit
set_option maxRecDepth 100000

/-- The small class, constants more. -/
def grownK (L : List ConstC) : ClassC := ⟨0, 52, smallK.pool ++ L, 33, 2, 4, [], [], []⟩
theorem grown_len (L : List ConstC) : (classB (grownK L)).length = 53 + (L.map fun k => (constB k).length).sum := by
  have h : (classB smallK).length = 53 := smallK_len
  have hs : ∀ l : List ConstC, (l.flatMap constB).length = (l.map fun k => (constB k).length).sum := by
    intro l
    induction l with
    | nil => rfl
    | cons x l ih => rw [List.flatMap_cons, List.length_append, ih]; rfl
  have e1 : (classB (grownK L)).length = (classB smallK).length + (L.flatMap constB).length := by
    simp only [classB, grownK, List.length_append, List.flatMap_append, beB_length, twoB, List.flatMap_cons, List.flatMap_nil, List.length_nil]
    simp only [smallK, List.length_nil, List.flatMap_nil]
    omega
  rw [e1, h, hs]
theorem grown_ref {L : List ConstC} (h1 : L.length ≤ 1020) (h2 : ∀ k ∈ L, kindC k.tag ∧ fairC k) : refusedC (grownK L) = 0 := by
  have hsm : ∀ k ∈ smallK.pool, kindC k.tag ∧ fairC k := by decide
  have hal : ∀ k ∈ (grownK L).pool, kindC k.tag ∧ fairC k := by
    intro k hk
    rcases List.mem_append.1 hk with hk | hk
    · exact hsm k hk
    · exact h2 k hk
  have n1 : ¬ longC (grownK L) := by
    unfold longC
    simp [grownK, smallK]
    omega
  have n2 : ¬ ∃ k ∈ (grownK L).pool, ¬ kindC k.tag := by
    rintro ⟨k, hk, hn⟩
    exact hn (hal k hk).1
  have n3 : ¬ ¬ argsC (grownK L) := by
    intro hn
    refine hn ⟨(show twoC 0 by decide), (show twoC 52 by decide), (show twoC 33 by decide), (show twoC 2 by decide), (show twoC 4 by decide), by simp [grownK], fun k hk => (hal k hk).2, by simp [grownK], by simp [grownK]⟩
  have n4 : ¬ lackC (grownK L) := by
    unfold lackC
    simp [grownK]
  unfold refusedC
  rw [if_neg n1, if_neg n2, if_neg n3, if_neg n4]
theorem grown_much {L : List ConstC} (h1 : 1020 < L.length) : writeC (grownK L) = ([], 2) := by
  have n1 : longC (grownK L) := by
    unfold longC
    left
    simp [grownK, smallK]
    omega
  have e : refusedC (grownK L) = 2 := by unfold refusedC; rw [if_pos n1]
  unfold writeC
  rw [e, if_pos (by decide)]
theorem grown_ok {L : List ConstC} (h1 : L.length ≤ 1020) (h2 : ∀ k ∈ L, kindC k.tag ∧ fairC k) (h3 : 53 + (L.map fun k => (constB k).length).sum ≤ 65536) : writeC (grownK L) = (classB (grownK L), 0) := by
  have e := grown_ref h1 h2
  have l := grown_len L
  unfold writeC
  rw [e, if_neg (by decide), if_neg (by omega)]
theorem grown_long {L : List ConstC} (h1 : L.length ≤ 1020) (h2 : ∀ k ∈ L, kindC k.tag ∧ fairC k) (h3 : 65536 < 53 + (L.map fun k => (constB k).length).sum) : writeC (grownK L) = ([], 2) := by
  have e := grown_ref h1 h2
  have l := grown_len L
  unfold writeC
  rw [e, if_neg (by decide), if_pos (by omega)]
def utfK (l : List UInt8) : ConstC := ⟨1, ⟨l.toArray⟩, 0, 0, 0⟩
theorem utfK_size (l : List UInt8) : (utfK l).text.size = l.length := by simp [utfK, ByteArray.size]
theorem utfK_fair {l : List UInt8} (h : l.length ≤ 65535) : kindC (utfK l).tag ∧ fairC (utfK l) := by
  refine ⟨.inl rfl, (show twoC 0 by decide), (show twoC 0 by decide), ?_, (show (-2147483648 : Int) ≤ 0 ∧ (0 : Int) ≤ 2147483647 by decide), fun hn => absurd rfl hn, fun _ => rfl, fun _ => rfl, fun _ => rfl⟩
  rw [utfK_size]
  exact h
theorem utfK_len (l : List UInt8) : (constB (utfK l)).length = 3 + l.length := by
  have : (utfK l).text.size = l.length := utfK_size l
  simp [constB, utfK, beB_length]
  omega
/-- Ints, numbered from 4. -/
def intsK (k : Nat) : List ConstC := (List.range k).map fun i => ⟨3, ⟨#[]⟩, ((4 + i : Nat) : Int), 0, 0⟩
theorem intsK_succ (k : Nat) : intsK (k + 1) = intsK k ++ [⟨3, ⟨#[]⟩, ((4 + k : Nat) : Int), 0, 0⟩] := by
  unfold intsK
  rw [List.range_succ, List.map_append]
  rfl
theorem intsK_len (k : Nat) : (intsK k).length = k := by simp [intsK]
theorem intsK_sum (k : Nat) : ((intsK k).map fun x => (constB x).length).sum = 5 * k := by
  induction k with
  | zero => rfl
  | succ k ih =>
    rw [intsK_succ, List.map_append, List.sum_append, ih]
    simp [constB, beB_length]
    omega
theorem intsK_fair {k : Nat} (h : k ≤ 1030) : ∀ x ∈ intsK k, kindC x.tag ∧ fairC x := by
  intro x hx
  obtain ⟨i, hi, rfl⟩ := List.mem_map.1 hx
  have := List.mem_range.1 hi
  refine ⟨.inr (.inl rfl), (show twoC 0 by decide), (show twoC 0 by decide), Nat.zero_le _, ?_, fun _ => rfl, fun hn => absurd rfl hn, fun _ => rfl, fun _ => rfl⟩
  dsimp only
  omega
theorem grown_text {L : List ConstC} (h : ∀ k ∈ L, k.text.size ≤ maxLen) : ∀ k ∈ (grownK L).pool, k.text.size ≤ maxLen := by
  intro k hk
  rcases List.mem_append.1 hk with hk | hk
  · exact smallK_text k hk
  · exact h k hk
/-- What is written of a class, told by how much it is. -/
structure SayW (lim : Prop) (nX : Nat) (E : Int) : Prop where
  yes : lim → E = 2 ∧ nX = 0
  no : ¬ lim → E = 0
theorem utfK3 {N Q : Nat} {l m : List UInt8} (hl : l.length = 32000) (hm : m.length = Q) (hN : N ≤ 100) (hQ : Q = 1424 + N) : ∃ X E, writeC (grownK [utfK l, utfK l, utfK m]) = (X, E) ∧ SayW (65536 < 65486 + N) X.length E ∧ (¬ 65536 < 65486 + N → X.length = 65486 + N) := by
  have hf : ∀ k ∈ [utfK l, utfK l, utfK m], kindC k.tag ∧ fairC k := by
    intro k hk
    simp only [List.mem_cons, List.not_mem_nil, or_false] at hk
    rcases hk with rfl | rfl | rfl <;> exact utfK_fair (by omega)
  have hs : (([utfK l, utfK l, utfK m] : List ConstC).map fun k => (constB k).length).sum = 64009 + Q := by
    simp only [List.map_cons, List.map_nil, List.sum_cons, List.sum_nil, utfK_len, hl, hm]
    omega
  have h3 : ([utfK l, utfK l, utfK m] : List ConstC).length ≤ 1020 := by
    show 3 ≤ 1020
    omega
  by_cases h : 65536 < 65486 + N
  · exact ⟨_, _, grown_long h3 hf (by rw [hs]; omega), ⟨fun _ => ⟨rfl, rfl⟩, fun hn => absurd h hn⟩, fun hn => absurd h hn⟩
  · refine ⟨_, _, grown_ok h3 hf (by rw [hs]; omega), ⟨fun hn => absurd hn h, fun _ => rfl⟩, fun _ => ?_⟩
    rw [grown_len, hs]
    omega
theorem intsK4 {k : Nat} (h0 : 1016 ≤ k) (h1 : k ≤ 1026) : ∃ X E, writeC (grownK (intsK k)) = (X, E) ∧ SayW (1024 < 4 + k) X.length E := by
  by_cases h : 1024 < 4 + k
  · exact ⟨_, _, grown_much (by rw [intsK_len]; omega), ⟨fun _ => ⟨rfl, rfl⟩, fun hn => absurd h hn⟩⟩
  · exact ⟨_, _, grown_ok (by rw [intsK_len]; omega) (intsK_fair (by omega)) (by rw [intsK_sum]; omega), ⟨fun hn => absurd hn h, fun _ => rfl⟩⟩
/-- How long the list in a block's third cell is. -/
def lenAt (w : World) (g : Nat) : Nat := match w.cell? ⟨g, 2, none⟩ with
  | some (.slice _ n _) => n
  | _ => 0
theorem lenAt_of {w : World} {g : Nat} {a : Option Addr} {n c : Nat} (h : w.cell? ⟨g, 2, none⟩ = some (.slice a n c)) : lenAt w g = n := by
  unfold lenAt
  rw [h]
theorem intsK_rows {n : Nat} (h : 4 ≤ n) : ((smallK.pool ++ intsK (n - 4)).flatMap encC) ++ [.int .i64 3, .string ⟨#[]⟩, .int .i64 (n : Int), .int .i64 0, .int .i64 0] = (smallK.pool ++ intsK (n + 1 - 4)).flatMap encC := by
  obtain ⟨k, rfl⟩ : ∃ k, n = 4 + k := ⟨n - 4, by omega⟩
  rw [show 4 + k + 1 - 4 = k + 1 by omega, show 4 + k - 4 = k by omega, intsK_succ, ← List.append_assoc, List.flatMap_append (xs := smallK.pool ++ intsK k)]
  rfl
/-- The row that is filled, so far. -/
def rowX (k : Nat) : Array Value := (List.replicate k (Value.int .u8 120) ++ List.replicate (32000 - k) (Value.int .u8 0)).toArray
theorem rowX_zero : madeCells #[Value.int .u8 0] 32000 = rowX 0 := by
  apply Array.ext'
  unfold rowX
  rw [toList_madeCells_one, List.toList_toArray, List.replicate_zero, List.nil_append, Nat.sub_zero]
theorem rep_set {α : Type} (a b : α) (k m : Nat) : (List.replicate k a ++ List.replicate (m + 1) b).set k a = List.replicate (k + 1) a ++ List.replicate m b := by
  rw [List.set_append_right _ _ (by rw [List.length_replicate]; exact Nat.le_refl _), List.length_replicate, Nat.sub_self, List.replicate_succ, List.set_cons_zero, List.replicate_succ', List.append_assoc]
  rfl
theorem rowX_set {k : Nat} (h : k < 32000) : (rowX k).setIfInBounds k (.int .u8 120) = rowX (k + 1) := by
  unfold rowX
  obtain ⟨m, hm⟩ : ∃ m, 32000 - k = m + 1 := ⟨32000 - k - 1, by omega⟩
  rw [hm, show 32000 - (k + 1) = m by omega, List.setIfInBounds_toArray, rep_set]
theorem rowX_at {k : Nat} (h : k < 32000) : (rowX k)[k]? = some (.int .u8 0) := by
  unfold rowX
  rw [List.getElem?_toArray, List.getElem?_append_right (by rw [List.length_replicate]; exact Nat.le_refl _), List.length_replicate, Nat.sub_self]
  obtain ⟨m, hm⟩ : ∃ m, 32000 - k = m + 1 := ⟨32000 - k - 1, by omega⟩
  rw [hm, List.replicate_succ, List.getElem?_cons_zero]
theorem elem_constE : ElemTy Try.prog 22 41 (.agg #[.int .i64 0, .string ⟨#[]⟩, .int .i64 0, .int .i64 0, .int .i64 0]) 5 48 := ⟨Try.underlying22, by kernel_rfl, rfl, by decide⟩
theorem Rd.many4 (w : World) (cs : List Value) (e : TypeId) {n sz : Nat} (hs : cs.length = n * sz) (hn : n ≤ 9223372036854775807) : Rd (w.alloc (.cells cs.toArray e)) sz (.slice (some ⟨w.heap.size, 0, none⟩) n n) n cs :=
  Rd.mk_ hs (Nat.le_refl _) hn fun j u hu => by
    rw [Nat.zero_add, cell_of_row _ _ _ cs.toArray e (0, 0) (heap_alloc_new w _)]
    simpa using hu
theorem convXY {W : World} {gb Q : Nat} {tx ty : ByteArray} (hb : Blk W gb 5 ((List.replicate 32000 (120 : UInt8)).map byteV).toArray) (hq : Q ≤ 32000) (h1 : tx = ⟨(List.replicate 32000 (120 : UInt8)).toArray⟩) (h2 : ty = ⟨(List.replicate Q (120 : UInt8)).toArray⟩) :
    (convert 31 9 (.slice (some ⟨gb, 0, none⟩) 32000 32000)).run Try.prog W = .ok (.string tx) W ∧ (convert 31 9 (.slice (some ⟨gb, 0, none⟩) Q 32000)).run Try.prog W = .ok (.string ty) W := by
  have key : ∀ n : Nat, n ≤ 32000 → (convert 31 9 (.slice (some ⟨gb, 0, none⟩) n 32000)).run Try.prog W = .ok (.string ⟨(List.replicate n (120 : UInt8)).toArray⟩) W := by
    intro n hn
    refine conv_bytes (l := List.replicate n (120 : UInt8)) ?_
    rw [List.length_replicate]
    refine Rd.mk_ (by rw [List.length_map, List.length_replicate, Nat.mul_one]) hn (by omega) fun j u hu => ?_
    rw [Nat.zero_add, hb.cell, List.getElem?_toArray]
    rw [List.map_replicate] at hu ⊢
    rw [List.getElem?_replicate] at hu ⊢
    split at hu
    · rw [if_pos (by omega)]
      exact hu
    · cases hu
  subst h1 h2
  exact ⟨key 32000 (Nat.le_refl _), key Q hq⟩
theorem rowX_end : rowX 32000 = ((List.replicate 32000 (120 : UInt8)).map byteV).toArray := by
  unfold rowX
  rw [Nat.sub_self, List.replicate_zero, List.append_nil, List.map_replicate]
  rfl
theorem grown_rd {L : List ConstC} {vP : Value} {w : World} (h : Rd w 5 vP (4 + L.length) ((smallK.pool ++ L).flatMap encC)) : CRd w (grownK L) [] vP (.slice none 0 0) (.slice none 0 0) (.slice none 0 0) :=
  ⟨by have e : (grownK L).pool.length = 4 + L.length := by simp [grownK, smallK]; omega
      rw [e]
      exact h, Rd.nil, Rd.nil, Rd.nil, fun x hx => by simp at hx, rfl⟩
set_option maxHeartbeats 8000000 in
theorem walk_EmitLong (n pool : Int) (w : World) (h1 : (Lit.int .i64 n).wf = true) (h2 : (Lit.int .i64 pool).wf = true) :
    Calls Try.prog 5 #[.int .i64 n, .int .i64 pool] w fun e w' => e = .returned (.bool true) ∧ Below w.heap.size w w' := by
  clear h1 h2
  go_enter Try.func5, Try.ntmps5
  go_wp2_with fail
  refine (alive4 w).mono ?_
  rintro e w1 ⟨rfl, hk1⟩
  have K1 := Lib.hid hk1
  clear hk1
  by_cases g1 : n < 0
  · go_wp2_with fail
    go_ret
    exact ⟨rfl, K1.out⟩
  by_cases g2 : 100 < n
  · go_wp2_with fail
    go_ret
    exact ⟨rfl, K1.out⟩
  by_cases g3 : pool < 1020
  · go_wp2_with fail
    go_ret
    exact ⟨rfl, K1.out⟩
  by_cases g4 : 1030 < pool
  · go_wp2_with fail
    go_ret
    exact ⟨rfl, K1.out⟩
  obtain ⟨N, rfl⟩ : ∃ N : Nat, n = N := ⟨n.toNat, by omega⟩
  obtain ⟨M, rfl⟩ : ∃ M : Nat, pool = M := ⟨pool.toNat, by omega⟩
  have hN : N ≤ 100 := by omega
  have hM : 1020 ≤ M ∧ M ≤ 1030 := by omega
  obtain ⟨i, hi, hz0, hz1, hz2⟩ := info_parts elem_byte.hi
  go_upto_region 4 with fail
  clear g1 g2 g3 g4
  go_wp2_with fail
  refine (law4_small w1).mono ?_
  rintro e w2 ⟨vP, he, ho, hk2⟩
  have he : e = .returned (.agg #[.int .i64 0, .int .i64 52, vP, .int .i64 33, .int .i64 2, .int .i64 4, .slice none 0 0, .slice none 0 0, .slice none 0 0]) := he
  subst he
  have K2 := Lib.hid (Kept.trans K1.out hk2)
  obtain ⟨aP, kP, rfl, -, -⟩ := own_slice ho
  have HO := Lib.hid ho
  have HBS := Lib.hid (K1.out.size)
  have K2S := Lib.hid (show w1.heap.size ≤ w2.heap.size from hk2.size)
  clear ho hk2
  go_upto_region 5 with fail
  have hk3 : Kept w2 (w2.alloc (.cells #[.int .i64 0, .int .i64 52, (.slice aP 4 kP), .int .i64 33, .int .i64 2, .int .i64 4, .slice none 0 0, .slice none 0 0, .slice none 0 0] 27)) := (Below.refl _ _).alloc (Nat.le_refl _) _
  obtain ⟨g, hg⟩ : ∃ g, g = w2.heap.size := ⟨_, rfl⟩
  have K3 := Lib.hid (Kept.trans K2.out hk3)
  have HC3 := Lib.hid (Blk.new w2 27 #[.int .i64 0, .int .i64 52, (.slice aP 4 kP), .int .i64 33, .int .i64 2, .int .i64 4, .slice none 0 0, .slice none 0 0, .slice none 0 0])
  have HO3 := Lib.hid ((Touch.of_kept (S := fun _ => False) hk3).own HO.out fun _ _ h => h)
  have HG := Lib.hid (show w.heap.size ≤ g by rw [hg]; exact K2.out.size)
  have K3S : Hid (w1.heap.size ≤ (w2.alloc (.cells #[.int .i64 0, .int .i64 52, (.slice aP 4 kP), .int .i64 33, .int .i64 2, .int .i64 4, .slice none 0 0, .slice none 0 0, .slice none 0 0] 27)).heap.size) := Lib.hid (Nat.le_trans K2S.out hk3.size)
  rw [← hg] at HC3 ⊢
  clear hk3 hg
  generalize (w2.alloc (.cells #[.int .i64 0, .int .i64 52, (.slice aP 4 kP), .int .i64 33, .int .i64 2, .int .i64 4, .slice none 0 0, .slice none 0 0, .slice none 0 0] 27)) = w3 at *
  go_upto_region 6 with (at_make; (refine wpList_make_row _ rfl _ _ 31 rfl 5 i (.int .u8 0) elem_byte.ht hi hz0 hz1 rfl .i64 .i64 32000 rfl rfl (by rw [hz2]; omega) (by omega) ?_))
  rw [rowX_zero]
  have hk4 : Kept w3 (w3.alloc (.cells (rowX 0) 5)) := (Below.refl _ _).alloc (Nat.le_refl _) _
  obtain ⟨gb, hgb⟩ : ∃ g, g = w3.heap.size := ⟨_, rfl⟩
  have K4 := Lib.hid (Kept.trans K3.out hk4)
  have HC4 := Lib.hid (HC3.out.kept hk4)
  have HO4 := Lib.hid ((Touch.of_kept (S := fun _ => False) hk4).own HO3.out fun _ _ h => h)
  have HB4 := Lib.hid (Blk.new w3 5 (rowX 0))
  have HGB := Lib.hid (show w.heap.size ≤ gb by rw [hgb]; exact K3.out.size)
  rw [← hgb] at HB4 ⊢
  have HW4 : Hid (w1.heap.size ≤ (w3.alloc (.cells (rowX 0) 5)).heap.size) := Lib.hid (Nat.le_trans K3S.out hk4.size)
  clear hk4 hgb HC3 HO3
  generalize (w3.alloc (.cells (rowX 0) 5)) = w4 at *
  go_wp2_with fail
  go_loopw [8] (fun s8 wr => ∃ k : Nat, k ≤ 32000 ∧ s8 = .int .i64 k ∧ Blk wr g 27 #[.int .i64 0, .int .i64 52, (.slice aP 4 kP), .int .i64 33, .int .i64 2, .int .i64 4, .slice none 0 0, .slice none 0 0, .slice none 0 0] ∧ Blk wr gb 5 (rowX k) ∧ wr.ownsRow w1.heap.size 41 5 (.slice aP 4 kP) 4 (smallK.pool.flatMap encC) ∧ Below w.heap.size w wr ∧ w1.heap.size ≤ wr.heap.size) (fun s8 _ => 32000 - (intOf s8).toNat)
  case atStart => exact ⟨0, Nat.zero_le _, rfl, HC4.out, HB4.out, HO4.out, K4.out, HW4.out⟩
  case round =>
  rename World => wr
  obtain ⟨k, hk, rfl, hc, hb, ho, hkw, hw1⟩ := hrel
  have HW1 := Lib.hid hw1
  have HC5 := Lib.hid hc
  have HB5 := Lib.hid hb
  have HO5 := Lib.hid ho
  have K5 := Lib.hid hkw
  clear hc hb ho hkw hw1
  by_cases hlt : k < 32000
  · have hltI : (k : Int) < 32000 := by omega
    have h0I : (0 : Int) ≤ (k : Int) := by omega
    have b0 := (HB5.out.cell k).trans (rowX_at hlt)
    have bf := HB5.out.frozen k
    go_upto_region 8 with fail
    have HC6 := Lib.hid (HC5.out.far (p := ⟨gb, k, none⟩) (Blk.ne_ HC5.out HB5.out (by decide)) (.int .u8 120))
    have HB6 : Hid (Blk (wr.setCell ⟨gb, k, none⟩ (.int .u8 120)) gb 5 (rowX (k + 1))) := Lib.hid (by rw [← rowX_set hlt]; exact HB5.out.set_ k (.int .u8 120))
    have HO6 := Lib.hid (Touch.own (S := fun b => b = gb) ((Touch.refl (fun b => b = gb) wr).setCell (p := ⟨gb, k, none⟩) (.inl rfl) (.int .u8 120)) HO5.out fun q hq e => own_ne HO5.out HB5.out (by decide) q hq e)
    have K6 := Lib.hid (K5.out.setCell (p := ⟨gb, k, none⟩) HGB.out (.int .u8 120))
    have HW6 : Hid (w1.heap.size ≤ (wr.setCell ⟨gb, k, none⟩ (.int .u8 120)).heap.size) := Lib.hid (by have := HW1.out; simp [World.setCell]; omega)
    clear b0 bf
    generalize (wr.setCell ⟨gb, k, none⟩ (.int .u8 120)) = wn at *
    go_wp2_with fail
    go_roundw
    case rel => exact ⟨k + 1, by omega, by go_num, HC6.out, HB6.out, HO6.out, K6.out, HW6.out⟩
    case measure => simp [intOf]; omega
  obtain rfl : k = 32000 := by omega
  rw [rowX_end] at HB5
  go_upto_region 10 with fail
  obtain ⟨tx, htx⟩ : ∃ s : ByteArray, s = ⟨(List.replicate 32000 (120 : UInt8)).toArray⟩ := ⟨_, rfl⟩
  obtain ⟨Q, hQ⟩ : ∃ q : Nat, q = 1424 + N := ⟨_, rfl⟩
  obtain ⟨ty, hty⟩ : ∃ s : ByteArray, s = ⟨(List.replicate Q (120 : UInt8)).toArray⟩ := ⟨_, rfl⟩
  have HTX := Lib.hid htx
  have HQN := Lib.hid hQ
  have HTY := Lib.hid hty
  have HQ := Lib.hid (show Q ≤ 32000 by omega)
  have hq0 : IntKind.i64.wrap (Q : Int) = (Q : Int) := IntWalk.i64_in _ (by omega)
  have hq1 : 1424 + (N : Int) = (Q : Int) := by omega
  have hq2 : (0 : Int) ≤ (Q : Int) := by omega
  have hq3 : (Q : Int) ≤ 32000 := by omega
  have hmix : Try.prog.follows .mixedOrders = true := by kernel_rfl
  have hkd : Kept wr wr.drew := kept_drewN (Below.refl _ wr) 1
  have HCd := Lib.hid (HC5.out.kept hkd)
  have HBd := Lib.hid (HB5.out.kept hkd)
  have HOd := Lib.hid ((Touch.of_kept (S := fun _ => False) hkd).own HO5.out fun _ _ h => h)
  have HSd := Lib.hid (show w1.heap.size ≤ wr.drew.heap.size from HW1.out)
  have hS0 := convXY HBd.out HQ.out HTX.out HTY.out
  have hSA := convXY (HBd.out.alloc (.cells #[.int .i64 1, .string tx, .int .i64 0, .int .i64 0, .int .i64 0, .int .i64 1, .string tx, .int .i64 0, .int .i64 0, .int .i64 0, .int .i64 1, .string ty, .int .i64 0, .int .i64 0, .int .i64 0] 41)) HQ.out HTX.out HTY.out
  have t2 := HCd.out.cell 2
  have tf2 := HCd.out.frozen 2
  have hgl := HCd.out.lt
  have hgx := Nat.ne_of_lt HCd.out.lt
  have hgx2 : g ≠ wr.heap.size := Nat.ne_of_lt HC5.out.lt
  have hgl2 : g < wr.heap.size := HC5.out.lt
  have t2w := HC5.out.cell 2
  simp only [List.getElem?_toArray, List.getElem?_cons_succ, List.getElem?_cons_zero] at t2 t2w
  clear hkd htx hty hQ
  refine wp_region_held_drew (S := (fun w' => (convert 31 9 (.slice (some ⟨gb, 0, none⟩) 32000 32000)).run Try.prog w' = .ok (.string tx) w' ∧ (convert 31 9 (.slice (some ⟨gb, 0, none⟩) Q 32000)).run Try.prog w' = .ok (.string ty) w')) (by kernel_rfl) (by first | assumption | ((try dsimp only); simp [*]; done)) (fun hHeld => ?_)
  refine wpAnyH_take (i := 0) (oi := { dst := some 48, op := Op.fieldAddr 27 (Operand.tmp 6) 2, type := 0, pos := "law.go:149", after := #[], guard := none }) (v := ?va0) rfl (by kernel_rfl) (by kernel_rfl) (by kernel_rfl) (fun _ _ _ h => h) (Or.inl ⟨by rfl, ?ya0⟩) (by assumption) ?ra0
  case ya0 => (intro w hSw; (try dsimp only at hSw); go_simp <;> with_reducible rfl)
  (try simp only [Act.put, List.setIfInBounds_toArray, List.set_cons_zero, List.set_cons_succ])
  refine wpAnyH_take (i := 2) (oi := { dst := some 50, op := Op.move (Operand.tmp 7), type := 31, pos := "law.go:149", after := #[], guard := none }) (v := ?va2) rfl (by kernel_rfl) (by kernel_rfl) (by kernel_rfl) (fun _ _ _ h => h) (Or.inl ⟨by rfl, ?ya2⟩) (by assumption) ?ra2
  case ya2 => (intro w hSw; (try dsimp only at hSw); go_simp <;> with_reducible rfl)
  (try simp only [Act.put, List.setIfInBounds_toArray, List.set_cons_zero, List.set_cons_succ])
  refine wpAnyH_take (i := 3) (oi := { dst := some 51, op := Op.convert 31 9 (Operand.tmp 50), type := 9, pos := "law.go:149", after := #[{ on := 2, ground := Ground.data }], guard := none }) (v := ?va3) rfl (by kernel_rfl) (by kernel_rfl) (by kernel_rfl) (fun _ _ _ h => h) (Or.inl ⟨by rfl, ?ya3⟩) (by assumption) ?ra3
  case ya3 => (intro w hSw; (try dsimp only at hSw); go_simp <;> with_reducible rfl)
  (try simp only [Act.put, List.setIfInBounds_toArray, List.set_cons_zero, List.set_cons_succ])
  refine wpAnyH_take (i := 4) (oi := { dst := some 52, op := Op.build 41 #[(0, Operand.const (Value.int IntKind.i64 1)), (1, Operand.tmp 51)], type := 41, pos := "law.go:149", after := #[{ on := 3, ground := Ground.data }], guard := none }) (v := ?va4) rfl (by kernel_rfl) (by kernel_rfl) (by kernel_rfl) (fun _ _ _ h => h) (Or.inl ⟨by rfl, ?ya4⟩) (by assumption) ?ra4
  case ya4 => (intro w hSw; (try dsimp only at hSw); go_simp <;> with_reducible rfl)
  (try simp only [Act.put, List.setIfInBounds_toArray, List.set_cons_zero, List.set_cons_succ])
  refine wpAnyH_take (i := 5) (oi := { dst := some 53, op := Op.move (Operand.tmp 7), type := 31, pos := "law.go:149", after := #[], guard := none }) (v := ?va5) rfl (by kernel_rfl) (by kernel_rfl) (by kernel_rfl) (fun _ _ _ h => h) (Or.inl ⟨by rfl, ?ya5⟩) (by assumption) ?ra5
  case ya5 => (intro w hSw; (try dsimp only at hSw); go_simp <;> with_reducible rfl)
  (try simp only [Act.put, List.setIfInBounds_toArray, List.set_cons_zero, List.set_cons_succ])
  refine wpAnyH_take (i := 6) (oi := { dst := some 54, op := Op.convert 31 9 (Operand.tmp 53), type := 9, pos := "law.go:149", after := #[{ on := 5, ground := Ground.data }], guard := none }) (v := ?va6) rfl (by kernel_rfl) (by kernel_rfl) (by kernel_rfl) (fun _ _ _ h => h) (Or.inl ⟨by rfl, ?ya6⟩) (by assumption) ?ra6
  case ya6 => (intro w hSw; (try dsimp only at hSw); go_simp <;> with_reducible rfl)
  (try simp only [Act.put, List.setIfInBounds_toArray, List.set_cons_zero, List.set_cons_succ])
  refine wpAnyH_take (i := 7) (oi := { dst := some 55, op := Op.build 41 #[(0, Operand.const (Value.int IntKind.i64 1)), (1, Operand.tmp 54)], type := 41, pos := "law.go:149", after := #[{ on := 6, ground := Ground.data }], guard := none }) (v := ?va7) rfl (by kernel_rfl) (by kernel_rfl) (by kernel_rfl) (fun _ _ _ h => h) (Or.inl ⟨by rfl, ?ya7⟩) (by assumption) ?ra7
  case ya7 => (intro w hSw; (try dsimp only at hSw); go_simp <;> with_reducible rfl)
  (try simp only [Act.put, List.setIfInBounds_toArray, List.set_cons_zero, List.set_cons_succ])
  refine wpAnyH_take (i := 8) (oi := { dst := some 56, op := Op.move (Operand.tmp 7), type := 31, pos := "law.go:149", after := #[], guard := none }) (v := ?va8) rfl (by kernel_rfl) (by kernel_rfl) (by kernel_rfl) (fun _ _ _ h => h) (Or.inl ⟨by rfl, ?ya8⟩) (by assumption) ?ra8
  case ya8 => (intro w hSw; (try dsimp only at hSw); go_simp <;> with_reducible rfl)
  (try simp only [Act.put, List.setIfInBounds_toArray, List.set_cons_zero, List.set_cons_succ])
  refine wpAnyH_take (i := 9) (oi := { dst := some 57, op := Op.move (Operand.tmp 0), type := 3, pos := "law.go:149", after := #[], guard := none }) (v := ?va9) rfl (by kernel_rfl) (by kernel_rfl) (by kernel_rfl) (fun _ _ _ h => h) (Or.inl ⟨by rfl, ?ya9⟩) (by assumption) ?ra9
  case ya9 => (intro w hSw; (try dsimp only at hSw); go_simp <;> with_reducible rfl)
  (try simp only [Act.put, List.setIfInBounds_toArray, List.set_cons_zero, List.set_cons_succ])
  refine wpAnyH_take (i := 10) (oi := { dst := some 58, op := Op.binOp BinOp.add 3 (Operand.const (Value.int IntKind.i64 1424)) (Operand.tmp 57) 3, type := 3, pos := "law.go:149", after := #[{ on := 9, ground := Ground.data }], guard := none }) (v := ?va10) rfl (by kernel_rfl) (by kernel_rfl) (by kernel_rfl) (fun _ _ _ h => h) (Or.inl ⟨by rfl, ?ya10⟩) (by assumption) ?ra10
  case ya10 => (intro w hSw; (try dsimp only at hSw); go_simp <;> with_reducible rfl)
  (try simp only [Act.put, List.setIfInBounds_toArray, List.set_cons_zero, List.set_cons_succ])
  refine wpAnyH_take (i := 11) (oi := { dst := some 59, op := Op.slice 31 (Operand.tmp 56) none (some (Operand.tmp 58)) none, type := 31, pos := "law.go:149", after := #[{ on := 8, ground := Ground.data }, { on := 10, ground := Ground.data }], guard := none }) (v := ?va11) rfl (by kernel_rfl) (by kernel_rfl) (by kernel_rfl) (fun _ _ _ h => h) (Or.inl ⟨by rfl, ?ya11⟩) (by assumption) ?ra11
  case ya11 => (intro w hSw; (try dsimp only at hSw); go_simp <;> with_reducible rfl)
  (try simp only [Act.put, List.setIfInBounds_toArray, List.set_cons_zero, List.set_cons_succ])
  refine wpAnyH_take (i := 12) (oi := { dst := some 60, op := Op.convert 31 9 (Operand.tmp 59), type := 9, pos := "law.go:149", after := #[{ on := 11, ground := Ground.data }], guard := none }) (v := ?va12) rfl (by kernel_rfl) (by kernel_rfl) (by kernel_rfl) (fun _ _ _ h => h) (Or.inl ⟨by rfl, ?ya12⟩) (by assumption) ?ra12
  case ya12 => (intro w hSw; (try dsimp only at hSw); go_simp <;> with_reducible rfl)
  (try simp only [Act.put, List.setIfInBounds_toArray, List.set_cons_zero, List.set_cons_succ])
  refine wpAnyH_take (i := 13) (oi := { dst := some 61, op := Op.build 41 #[(0, Operand.const (Value.int IntKind.i64 1)), (1, Operand.tmp 60)], type := 41, pos := "law.go:149", after := #[{ on := 12, ground := Ground.data }], guard := none }) (v := ?va13) rfl (by kernel_rfl) (by kernel_rfl) (by kernel_rfl) (fun _ _ _ h => h) (Or.inl ⟨by rfl, ?ya13⟩) (by assumption) ?ra13
  case ya13 => (intro w hSw; (try dsimp only at hSw); go_simp <;> with_reducible rfl)
  (try simp only [Act.put, List.setIfInBounds_toArray, List.set_cons_zero, List.set_cons_succ])
  refine wpAnyH_ready (rs := [1, 14]) (by kernel_rfl) (by simp) ?_
  refine AllReadyH.cons (o := { dst := some 49, op := Op.load 22 (Operand.tmp 48), type := 22, pos := "law.go:149", after := #[{ on := 0, ground := Ground.data }], guard := none }) rfl (fun K hK => ?_) (AllReadyH.cons (o := { dst := some 62, op := Op.buildSlice 22 3 #[(0, Operand.tmp 52), (1, Operand.tmp 55), (2, Operand.tmp 61)], type := 22, pos := "law.go:149", after := #[{ on := 4, ground := Ground.data }, { on := 7, ground := Ground.data }, { on := 13, ground := Ground.data }], guard := none }) rfl (fun K hK => ?_) AllReadyH.nil)
  · skip
    go_simp
    clear hHeld
    refine hK.out _ _ ?_ (fun hHeld => ?_)
    · (first | exact hS0 | exact hSA)
    clear hK K
    (try simp only [Act.put, List.setIfInBounds_toArray, List.set_cons_zero, List.set_cons_succ])
    refine wpAnyH_ready (rs := [14]) (by kernel_rfl) (by simp) ?_
    refine AllReadyH.cons (o := { dst := some 62, op := Op.buildSlice 22 3 #[(0, Operand.tmp 52), (1, Operand.tmp 55), (2, Operand.tmp 61)], type := 22, pos := "law.go:149", after := #[{ on := 4, ground := Ground.data }, { on := 7, ground := Ground.data }, { on := 13, ground := Ground.data }], guard := none }) rfl (fun K hK => ?_) AllReadyH.nil
    skip
    go_simp
    clear hHeld
    refine hK.out _ _ ?_ (fun hHeld => ?_)
    · exact hSA
    clear hK K
    (try simp only [Act.put, List.setIfInBounds_toArray, List.set_cons_zero, List.set_cons_succ])
    refine wpAnyH_ready (rs := [15]) (by kernel_rfl) (by simp) ?_
    refine AllReadyH.cons (o := { dst := some 63, op := Op.call { callee := Callee.builtin Builtin.append, args := #[Operand.tmp 49, Operand.tmp 62], argTypes := #[22, 22] }, type := 22, pos := "law.go:149", after := #[{ on := 1, ground := Ground.data }, { on := 14, ground := Ground.data }], guard := none }) rfl (fun K hK => ?_) AllReadyH.nil
    skip
    refine step_appR _ elem_constE rfl (.tmp 49) (.tmp 62) rfl w1.heap.size (.slice aP 4 kP) 4 (smallK.pool.flatMap encC) rfl (HOd.out.alloc _) _ 3 [.int .i64 1, .string tx, .int .i64 0, .int .i64 0, .int .i64 0, .int .i64 1, .string tx, .int .i64 0, .int .i64 0, .int .i64 0, .int .i64 1, .string ty, .int .i64 0, .int .i64 0, .int .i64 0] rfl (Rd.many4 _ [.int .i64 1, .string tx, .int .i64 0, .int .i64 0, .int .i64 0, .int .i64 1, .string tx, .int .i64 0, .int .i64 0, .int .i64 0, .int .i64 1, .string ty, .int .i64 0, .int .i64 0, .int .i64 0] 41 rfl (by omega)) (by intro u hu; simp only [List.mem_cons, List.not_mem_nil, or_false] at hu; rcases hu with rfl | rfl | rfl | rfl | rfl | rfl | rfl | rfl | rfl | rfl | rfl | rfl | rfl | rfl | rfl <;> rfl) (by omega) (by omega) (by have := HW1.out; simp; omega) _ rfl ?_; intro a8 c8 w7 ho9 hg9 hk9; have HTT := Lib.hid ((((Touch.refl (fun b => (Value.slice aP 4 kP).ownBlock = some b) wr).alloc _).drew).trans (Touch.of_grown hg9 fun k hk => hk) fun _ hb => .inl hb); have HRR := Lib.hid ho9; have HC7 := Lib.hid (HC5.out.touch HTT.out (fun e => own_ne HO5.out HC5.out (by decide) _ e rfl)); have HB7 := Lib.hid (HB5.out.touch HTT.out (fun e => own_ne HO5.out HB5.out (by decide) _ e rfl)); have hS7 := convXY HB7.out HQ.out HTX.out HTY.out; have t2 := HC7.out.cell 2; have tf2 := HC7.out.frozen 2; simp only [List.getElem?_toArray, List.getElem?_cons_succ, List.getElem?_cons_zero] at t2; have HS8 := Lib.hid (convXY (HB7.out.far (p := ⟨g, 2, none⟩) (Blk.ne_ HB7.out HC7.out (by decide)) (.slice a8 7 c8)) HQ.out HTX.out HTY.out); clear ho9 hg9 hk9
    clear hHeld
    refine hK.out _ _ ?_ (fun hHeld => ?_)
    · exact hS7
    clear hK K
    (try simp only [Act.put, List.setIfInBounds_toArray, List.set_cons_zero, List.set_cons_succ])
    refine wpAnyH_take (i := 16) (oi := { dst := some 64, op := Op.fieldAddr 27 (Operand.tmp 6) 2, type := 0, pos := "law.go:149", after := #[{ on := 0, ground := Ground.phase }, { on := 1, ground := Ground.phase }, { on := 2, ground := Ground.phase }, { on := 3, ground := Ground.phase }, { on := 4, ground := Ground.phase }, { on := 5, ground := Ground.phase }, { on := 6, ground := Ground.phase }, { on := 7, ground := Ground.phase }, { on := 8, ground := Ground.phase }, { on := 9, ground := Ground.phase }, { on := 10, ground := Ground.phase }, { on := 11, ground := Ground.phase }, { on := 12, ground := Ground.phase }, { on := 13, ground := Ground.phase }, { on := 14, ground := Ground.phase }, { on := 15, ground := Ground.phase }], guard := none }) (v := ?vab16) rfl (by kernel_rfl) (by kernel_rfl) (by kernel_rfl) (fun _ _ _ h => h) (Or.inl ⟨by rfl, ?yab16⟩) (by assumption) ?rab16
    case yab16 => (intro w hSw; (try dsimp only at hSw); go_simp <;> with_reducible rfl)
    (try simp only [Act.put, List.setIfInBounds_toArray, List.set_cons_zero, List.set_cons_succ])
    refine wpAnyH_ready (rs := [17]) (by kernel_rfl) (by simp) ?_
    refine AllReadyH.cons (o := { dst := none, op := Op.store 22 (Operand.tmp 64) (Operand.tmp 63), type := 0, pos := "law.go:149", after := #[{ on := 16, ground := Ground.data }, { on := 15, ground := Ground.data }, { on := 15, ground := Ground.chain }, { on := 0, ground := Ground.phase }, { on := 1, ground := Ground.phase }, { on := 2, ground := Ground.phase }, { on := 3, ground := Ground.phase }, { on := 4, ground := Ground.phase }, { on := 5, ground := Ground.phase }, { on := 6, ground := Ground.phase }, { on := 7, ground := Ground.phase }, { on := 8, ground := Ground.phase }, { on := 9, ground := Ground.phase }, { on := 10, ground := Ground.phase }, { on := 11, ground := Ground.phase }, { on := 12, ground := Ground.phase }, { on := 13, ground := Ground.phase }, { on := 14, ground := Ground.phase }, { on := 15, ground := Ground.phase }], guard := none }) rfl (fun K hK => ?_) AllReadyH.nil
    skip
    go_simp
    clear hHeld
    refine hK.out _ _ ?_ (fun hHeld => ?_)
    · exact HS8.out
    clear hK K
    (try simp only [Act.put, List.setIfInBounds_toArray, List.set_cons_zero, List.set_cons_succ])
    refine wpAnyH_done (by kernel_rfl) ?_ _
    clear hHeld t2 tf2 hS7
    have HCn : Hid (Blk (w7.setCell ⟨g, 2, none⟩ (.slice a8 7 c8)) g 27 #[.int .i64 0, .int .i64 52, (.slice a8 7 c8), .int .i64 33, .int .i64 2, .int .i64 4, .slice none 0 0, .slice none 0 0, .slice none 0 0]) := Lib.hid (HC7.out.set_ 2 (.slice a8 7 c8))
    have HRn := Lib.hid (Touch.own (S := fun b => b = g) ((Touch.refl (fun b => b = g) w7).setCell (p := ⟨g, 2, none⟩) (.inl rfl) (.slice a8 7 c8)) HRR.out fun q hq e => own_ne HRR.out HC7.out (by decide) q hq e)
    have Kn := Lib.hid ((Below.trans K5.out ((HTT.out.below (fun b hb => (HO5.out.lt b hb).1) HW1.out).mono K1.out.size)).setCell (p := ⟨g, 2, none⟩) HG.out (.slice a8 7 c8))
    generalize (w7.setCell ⟨g, 2, none⟩ (.slice a8 7 c8)) = w8 at *
    have y0 := HCn.out.cell 0
    have y1 := HCn.out.cell 1
    have y2 := HCn.out.cell 2
    have y3 := HCn.out.cell 3
    have y4 := HCn.out.cell 4
    have y5 := HCn.out.cell 5
    have y6 := HCn.out.cell 6
    have y7 := HCn.out.cell 7
    have y8 := HCn.out.cell 8
    simp only [List.getElem?_toArray, List.getElem?_cons_succ, List.getElem?_cons_zero] at y0 y1 y2 y3 y4 y5 y6 y7 y8
    go_upto_region 11 with fail
    have hxs : tx = (utfK (List.replicate 32000 120)).text := by rw [HTX.out]; rfl
    have hys : ty = (utfK (List.replicate Q 120)).text := by rw [HTY.out]; rfl
    have hcr : CRd w8 (grownK [utfK (List.replicate 32000 120), utfK (List.replicate 32000 120), utfK (List.replicate Q 120)]) [] (.slice a8 7 c8) (.slice none 0 0) (.slice none 0 0) (.slice none 0 0) := grown_rd (by
      have h := Rd.of_own HRn.out
      rw [hxs, hys] at h
      rw [List.flatMap_append]
      exact h)
    have hqn := HQN.out
    obtain ⟨X, E, hXE, hsay, hlen⟩ := utfK3 (l := List.replicate 32000 120) (m := List.replicate Q 120) List.length_replicate List.length_replicate hN HQN.out
    have C := emit_Write _ [] _ _ _ _ w8 hcr (grown_text (by intro k hk; simp only [List.mem_cons, List.not_mem_nil, or_false] at hk; rcases hk with rfl | rfl | rfl <;> (rw [utfK_size, List.length_replicate]; unfold maxLen; omega)))
    unfold WriteG at C
    rw [hXE] at C
    have HS := Lib.hid hsay
    have HL := Lib.hid hlen
    clear hsay hlen hXE hcr hxs hys hqn
    go_wp2_with fail
    refine C.mono ?_
    rintro e w9 ⟨v, rfl, hb, hk9⟩
    have K9 := Lib.hid (Below.trans Kn.out (hk9.mono Kn.out.size))
    obtain ⟨aX, kX, rfl, -, -⟩ := own_slice hb
    have hsay := HS.out
    have hlen := HL.out
    obtain ⟨nX, hnX⟩ : ∃ n, n = X.length := ⟨_, rfl⟩
    rw [← hnX] at hsay hlen ⊢
    have HSX := Lib.hid hsay
    have HLX := Lib.hid hlen
    clear hsay hlen hnX hb hk9 C HS HL HCn HRn Kn HTX HTY HC7 HB7 HRR HTT HS8 y0 y1 y2 y3 y4 y5 y6 y7 y8
    have hN0 : (0 : Int) ≤ (N : Int) := by omega
    have hN1 : (N : Int) ≤ 100 := by omega
    go_wp2_with fail
    refine (law4_small w9).mono ?_
    rintro e w10 ⟨vP2, he, ho, hk10⟩
    have he : e = .returned (.agg #[.int .i64 0, .int .i64 52, vP2, .int .i64 33, .int .i64 2, .int .i64 4, .slice none 0 0, .slice none 0 0, .slice none 0 0]) := he
    subst he
    obtain ⟨aR, kR, rfl, -, -⟩ := own_slice ho
    go_upto_region 14 with fail
    obtain ⟨B2, hB2⟩ : ∃ b, b = w9.heap.size := ⟨_, rfl⟩
    have hk11 : Kept w10 (w10.alloc (.cells #[.int .i64 0, .int .i64 52, (.slice aR 4 kR), .int .i64 33, .int .i64 2, .int .i64 4, .slice none 0 0, .slice none 0 0, .slice none 0 0] 27)) := (Below.refl _ _).alloc (Nat.le_refl _) _
    obtain ⟨g2, hg2⟩ : ∃ g, g = w10.heap.size := ⟨_, rfl⟩
    have K11 := Lib.hid (Below.trans (Below.trans K9.out (hk10.mono K9.out.size)) (hk11.mono (Nat.le_trans K9.out.size hk10.size)))
    have HC11 := Lib.hid (Blk.new w10 27 #[.int .i64 0, .int .i64 52, (.slice aR 4 kR), .int .i64 33, .int .i64 2, .int .i64 4, .slice none 0 0, .slice none 0 0, .slice none 0 0])
    have HO11 := Lib.hid ((Touch.of_kept (S := fun _ => False) hk11).own ho fun _ _ h => h)
    have HG2 := Lib.hid (show w.heap.size ≤ g2 by rw [hg2]; exact Nat.le_trans K9.out.size hk10.size)
    have HBB := Lib.hid (show w.heap.size ≤ B2 by rw [hB2]; exact K9.out.size)
    have HB11 : Hid (B2 ≤ (w10.alloc (.cells #[.int .i64 0, .int .i64 52, (.slice aR 4 kR), .int .i64 33, .int .i64 2, .int .i64 4, .slice none 0 0, .slice none 0 0, .slice none 0 0] 27)).heap.size) := Lib.hid (by rw [hB2]; exact Nat.le_trans hk10.size hk11.size)
    rw [← hg2] at HC11 ⊢
    rw [← hB2] at HO11
    clear hk11 hk10 ho hg2 hB2 K9
    generalize (w10.alloc (.cells #[.int .i64 0, .int .i64 52, (.slice aR 4 kR), .int .i64 33, .int .i64 2, .int .i64 4, .slice none 0 0, .slice none 0 0, .slice none 0 0] 27)) = w11 at *
    go_loopw [] (fun wr => ∃ (n : Nat) (a : Option Addr) (c : Nat), 4 ≤ n ∧ n ≤ M ∧ Blk wr g2 27 #[.int .i64 0, .int .i64 52, (.slice a n c), .int .i64 33, .int .i64 2, .int .i64 4, .slice none 0 0, .slice none 0 0, .slice none 0 0] ∧ wr.ownsRow B2 41 5 (.slice a n c) n ((smallK.pool ++ intsK (n - 4)).flatMap encC) ∧ Below w.heap.size w wr ∧ B2 ≤ wr.heap.size) (fun wr => M - lenAt wr g2)
    case atStart =>
      refine ⟨4, aR, kR, Nat.le_refl _, by omega, HC11.out, ?_, K11.out, HB11.out⟩
      have h := HO11.out
      rw [← List.append_nil smallK.pool] at h
      exact h
    case round =>
    rename World => wz
    obtain ⟨n, aZ, cZ, hn4, hnM, hc, ho, hkz, hbz⟩ := hrel
    clear HC11 HO11 K11 HB11
    have HCz := Lib.hid hc
    have HOz := Lib.hid ho
    have Kz := Lib.hid hkz
    have hbZ := Lib.hid hbz
    clear hc ho hkz hbz
    have y0 := HCz.out.cell 0
    have y1 := HCz.out.cell 1
    have y2 := HCz.out.cell 2
    have y3 := HCz.out.cell 3
    have y4 := HCz.out.cell 4
    have y5 := HCz.out.cell 5
    have y6 := HCz.out.cell 6
    have y7 := HCz.out.cell 7
    have y8 := HCz.out.cell 8
    simp only [List.getElem?_toArray, List.getElem?_cons_succ, List.getElem?_cons_zero] at y0 y1 y2 y3 y4 y5 y6 y7 y8
    by_cases hlt : n < M
    · have hltI : (n : Int) < (M : Int) := by omega
      have hHB := HCz.out.lt
      go_wp2_with (at_builtin; refine wpl_pushH _ elem_constE rfl (.tmp 79) (.tmp 84) rfl B2 (.slice aZ n cZ) n ((smallK.pool ++ intsK (n - 4)).flatMap encC) rfl HOz.out [.int .i64 3, .string ⟨#[]⟩, .int .i64 (n : Int), .int .i64 0, .int .i64 0] _ wz.heap.size rfl rfl rfl (by intro u hu; simp only [List.mem_cons, List.not_mem_nil, or_false] at hu; rcases hu with rfl | rfl | rfl | rfl | rfl <;> rfl) (by omega) (by omega) hbZ.out ?_; intro v8 w8 ho8 hg8 hk8 hb8; obtain ⟨a8, c8, hv8, -, -⟩ := own_slice ho8; subst hv8; have HT8 := Lib.hid (Touch.of_grown (S := fun b => (Value.slice aZ n cZ).ownBlock = some b) hg8 fun k hk => hk); have HR8 := Lib.hid ho8; have HK8 := Lib.hid hb8; have HC8 := Lib.hid (HCz.out.touch HT8.out (fun e => own_ne HOz.out HCz.out (by decide) _ e rfl)); have t2 := HC8.out.cell 2; have tf2 := HC8.out.frozen 2; simp only [List.getElem?_toArray, List.getElem?_cons_succ, List.getElem?_cons_zero] at t2; clear ho8 hg8 hk8 hb8)
      have HCn : Hid (Blk (w8.setCell ⟨g2, 2, none⟩ (.slice a8 (n + 1) c8)) g2 27 #[.int .i64 0, .int .i64 52, (.slice a8 (n + 1) c8), .int .i64 33, .int .i64 2, .int .i64 4, .slice none 0 0, .slice none 0 0, .slice none 0 0]) := Lib.hid (HC8.out.set_ 2 (.slice a8 (n + 1) c8))
      have HRn := Lib.hid (Touch.own (S := fun b => b = g2) ((Touch.refl (fun b => b = g2) w8).setCell (p := ⟨g2, 2, none⟩) (.inl rfl) (.slice a8 (n + 1) c8)) HR8.out fun q hq e => own_ne HR8.out HC8.out (by decide) q hq e)
      have Kn := Lib.hid ((Below.trans Kz.out (HK8.out.mono HBB.out)).setCell (p := ⟨g2, 2, none⟩) HG2.out (.slice a8 (n + 1) c8))
      have hBn : Hid (B2 ≤ (w8.setCell ⟨g2, 2, none⟩ (.slice a8 (n + 1) c8)).heap.size) := Lib.hid (by have := hbZ.out; have := HK8.out.size; have := HT8.out.size; simp [World.setCell]; omega)
      have hm0 := lenAt_of y2
      have hm1 := lenAt_of (HCn.out.cell 2)
      have HM0 := Lib.hid hm0
      have HM1 := Lib.hid hm1
      clear hm0 hm1 t2 tf2
      generalize (w8.setCell ⟨g2, 2, none⟩ (.slice a8 (n + 1) c8)) = wn at *
      go_roundw
      case rel =>
        refine ⟨n + 1, a8, c8, by omega, by omega, HCn.out, ?_, Kn.out, hBn.out⟩
        rw [← intsK_rows hn4]
        exact HRn.out
      case measure =>
        rw [HM0.out, HM1.out]
        omega
    obtain rfl : n = M := by omega
    have hrd : CRd wz (grownK (intsK (n - 4))) [] (.slice aZ n cZ) (.slice none 0 0) (.slice none 0 0) (.slice none 0 0) := grown_rd (by
      rw [intsK_len, show 4 + (n - 4) = n by omega]
      exact Rd.of_own HOz.out)
    have C := emit_Write _ [] _ _ _ _ wz hrd (grown_text (by
      intro k hk
      obtain ⟨i, _, rfl⟩ := List.mem_map.1 hk
      exact Nat.zero_le _))
    obtain ⟨Y, F, hYF, hsay⟩ := intsK4 (k := n - 4) (by omega) (by omega)
    unfold WriteG at C
    rw [hYF] at C
    have HS := Lib.hid hsay
    clear hYF hsay hrd
    go_wp2_with fail
    refine C.mono ?_
    rintro e w12 ⟨v, rfl, hb, hk12⟩
    have K12 := Lib.hid (Below.trans Kz.out (hk12.mono Kz.out.size))
    obtain ⟨aY, kY, rfl, -, -⟩ := own_slice hb
    have hsay := HS.out
    obtain ⟨nY, hnY⟩ : ∃ n, n = Y.length := ⟨_, rfl⟩
    rw [← hnY, show 4 + (n - 4) = n by omega] at hsay
    rw [← hnY]
    have HSY := Lib.hid hsay
    clear hsay hnY hb hk12 C HS
    go_upto_region 17 with fail
    by_cases h50 : 65536 < 65486 + N
    · have hI : (65536 : Int) < 65486 + (N : Int) := by omega
      obtain ⟨rfl, rfl⟩ := HSX.out.yes h50
      go_upto_region 18 with (go_at_call 14; refine (law4_num _ _).mono ?_; rintro e wn ⟨rfl, rfl⟩)
      by_cases h24 : 1024 < n
      · have hJ : (1024 : Int) < (n : Int) := by omega
        obtain ⟨rfl, rfl⟩ := HSY.out.yes h24
        go_wp2_with (go_at_call 14; refine (law4_num _ _).mono ?_; rintro e wn ⟨rfl, rfl⟩)
        go_ret
        exact ⟨rfl, K12.out⟩
      · have hJ : ¬ (1024 : Int) < (n : Int) := by omega
        have hJ2 : (n : Int) ≤ 1024 := by omega
        obtain rfl := HSY.out.no h24
        go_wp2_with (go_at_call 14; refine (law4_num _ _).mono ?_; rintro e wn ⟨rfl, rfl⟩)
        go_ret
        exact ⟨rfl, K12.out⟩
    · have hI : ¬ (65536 : Int) < 65486 + (N : Int) := by omega
      have hI2 : 65486 + (N : Int) ≤ 65536 := by omega
      obtain rfl := HSX.out.no h50
      have hl := HLX.out h50
      have hlI : ((nX : Int) == 65486 + (N : Int)) = true := by
        rw [hl]
        simp
      clear hl
      go_upto_region 18 with (go_at_call 14; refine (law4_num _ _).mono ?_; rintro e wn ⟨rfl, rfl⟩)
      by_cases h24 : 1024 < n
      · have hJ : (1024 : Int) < (n : Int) := by omega
        obtain ⟨rfl, rfl⟩ := HSY.out.yes h24
        go_wp2_with (go_at_call 14; refine (law4_num _ _).mono ?_; rintro e wn ⟨rfl, rfl⟩)
        go_ret
        exact ⟨rfl, K12.out⟩
      · have hJ : ¬ (1024 : Int) < (n : Int) := by omega
        have hJ2 : (n : Int) ≤ 1024 := by omega
        obtain rfl := HSY.out.no h24
        go_wp2_with (go_at_call 14; refine (law4_num _ _).mono ?_; rintro e wn ⟨rfl, rfl⟩)
        go_ret
        exact ⟨rfl, K12.out⟩
  · skip
    go_simp
    clear hHeld
    refine hK.out _ _ ?_ (fun hHeld => ?_)
    · exact hSA
    clear hK K
    (try simp only [Act.put, List.setIfInBounds_toArray, List.set_cons_zero, List.set_cons_succ])
    refine wpAnyH_ready (rs := [1]) (by kernel_rfl) (by simp) ?_
    refine AllReadyH.cons (o := { dst := some 49, op := Op.load 22 (Operand.tmp 48), type := 22, pos := "law.go:149", after := #[{ on := 0, ground := Ground.data }], guard := none }) rfl (fun K hK => ?_) AllReadyH.nil
    skip
    go_simp
    clear hHeld
    refine hK.out _ _ ?_ (fun hHeld => ?_)
    · (first | exact hS0 | exact hSA)
    clear hK K
    (try simp only [Act.put, List.setIfInBounds_toArray, List.set_cons_zero, List.set_cons_succ])
    refine wpAnyH_ready (rs := [15]) (by kernel_rfl) (by simp) ?_
    refine AllReadyH.cons (o := { dst := some 63, op := Op.call { callee := Callee.builtin Builtin.append, args := #[Operand.tmp 49, Operand.tmp 62], argTypes := #[22, 22] }, type := 22, pos := "law.go:149", after := #[{ on := 1, ground := Ground.data }, { on := 14, ground := Ground.data }], guard := none }) rfl (fun K hK => ?_) AllReadyH.nil
    skip
    refine step_appR _ elem_constE rfl (.tmp 49) (.tmp 62) rfl w1.heap.size (.slice aP 4 kP) 4 (smallK.pool.flatMap encC) rfl (HOd.out.alloc _) _ 3 [.int .i64 1, .string tx, .int .i64 0, .int .i64 0, .int .i64 0, .int .i64 1, .string tx, .int .i64 0, .int .i64 0, .int .i64 0, .int .i64 1, .string ty, .int .i64 0, .int .i64 0, .int .i64 0] rfl (Rd.many4 _ [.int .i64 1, .string tx, .int .i64 0, .int .i64 0, .int .i64 0, .int .i64 1, .string tx, .int .i64 0, .int .i64 0, .int .i64 0, .int .i64 1, .string ty, .int .i64 0, .int .i64 0, .int .i64 0] 41 rfl (by omega)) (by intro u hu; simp only [List.mem_cons, List.not_mem_nil, or_false] at hu; rcases hu with rfl | rfl | rfl | rfl | rfl | rfl | rfl | rfl | rfl | rfl | rfl | rfl | rfl | rfl | rfl <;> rfl) (by omega) (by omega) (by have := HW1.out; simp; omega) _ rfl ?_; intro a8 c8 w7 ho9 hg9 hk9; have HTT := Lib.hid ((((Touch.refl (fun b => (Value.slice aP 4 kP).ownBlock = some b) wr).alloc _).drew).trans (Touch.of_grown hg9 fun k hk => hk) fun _ hb => .inl hb); have HRR := Lib.hid ho9; have HC7 := Lib.hid (HC5.out.touch HTT.out (fun e => own_ne HO5.out HC5.out (by decide) _ e rfl)); have HB7 := Lib.hid (HB5.out.touch HTT.out (fun e => own_ne HO5.out HB5.out (by decide) _ e rfl)); have hS7 := convXY HB7.out HQ.out HTX.out HTY.out; have t2 := HC7.out.cell 2; have tf2 := HC7.out.frozen 2; simp only [List.getElem?_toArray, List.getElem?_cons_succ, List.getElem?_cons_zero] at t2; have HS8 := Lib.hid (convXY (HB7.out.far (p := ⟨g, 2, none⟩) (Blk.ne_ HB7.out HC7.out (by decide)) (.slice a8 7 c8)) HQ.out HTX.out HTY.out); clear ho9 hg9 hk9
    clear hHeld
    refine hK.out _ _ ?_ (fun hHeld => ?_)
    · exact hS7
    clear hK K
    (try simp only [Act.put, List.setIfInBounds_toArray, List.set_cons_zero, List.set_cons_succ])
    refine wpAnyH_take (i := 16) (oi := { dst := some 64, op := Op.fieldAddr 27 (Operand.tmp 6) 2, type := 0, pos := "law.go:149", after := #[{ on := 0, ground := Ground.phase }, { on := 1, ground := Ground.phase }, { on := 2, ground := Ground.phase }, { on := 3, ground := Ground.phase }, { on := 4, ground := Ground.phase }, { on := 5, ground := Ground.phase }, { on := 6, ground := Ground.phase }, { on := 7, ground := Ground.phase }, { on := 8, ground := Ground.phase }, { on := 9, ground := Ground.phase }, { on := 10, ground := Ground.phase }, { on := 11, ground := Ground.phase }, { on := 12, ground := Ground.phase }, { on := 13, ground := Ground.phase }, { on := 14, ground := Ground.phase }, { on := 15, ground := Ground.phase }], guard := none }) (v := ?vaf16) rfl (by kernel_rfl) (by kernel_rfl) (by kernel_rfl) (fun _ _ _ h => h) (Or.inl ⟨by rfl, ?yaf16⟩) (by assumption) ?raf16
    case yaf16 => (intro w hSw; (try dsimp only at hSw); go_simp <;> with_reducible rfl)
    (try simp only [Act.put, List.setIfInBounds_toArray, List.set_cons_zero, List.set_cons_succ])
    refine wpAnyH_ready (rs := [17]) (by kernel_rfl) (by simp) ?_
    refine AllReadyH.cons (o := { dst := none, op := Op.store 22 (Operand.tmp 64) (Operand.tmp 63), type := 0, pos := "law.go:149", after := #[{ on := 16, ground := Ground.data }, { on := 15, ground := Ground.data }, { on := 15, ground := Ground.chain }, { on := 0, ground := Ground.phase }, { on := 1, ground := Ground.phase }, { on := 2, ground := Ground.phase }, { on := 3, ground := Ground.phase }, { on := 4, ground := Ground.phase }, { on := 5, ground := Ground.phase }, { on := 6, ground := Ground.phase }, { on := 7, ground := Ground.phase }, { on := 8, ground := Ground.phase }, { on := 9, ground := Ground.phase }, { on := 10, ground := Ground.phase }, { on := 11, ground := Ground.phase }, { on := 12, ground := Ground.phase }, { on := 13, ground := Ground.phase }, { on := 14, ground := Ground.phase }, { on := 15, ground := Ground.phase }], guard := none }) rfl (fun K hK => ?_) AllReadyH.nil
    skip
    go_simp
    clear hHeld
    refine hK.out _ _ ?_ (fun hHeld => ?_)
    · exact HS8.out
    clear hK K
    (try simp only [Act.put, List.setIfInBounds_toArray, List.set_cons_zero, List.set_cons_succ])
    refine wpAnyH_done (by kernel_rfl) ?_ _
    clear hHeld t2 tf2 hS7
    have HCn : Hid (Blk (w7.setCell ⟨g, 2, none⟩ (.slice a8 7 c8)) g 27 #[.int .i64 0, .int .i64 52, (.slice a8 7 c8), .int .i64 33, .int .i64 2, .int .i64 4, .slice none 0 0, .slice none 0 0, .slice none 0 0]) := Lib.hid (HC7.out.set_ 2 (.slice a8 7 c8))
    have HRn := Lib.hid (Touch.own (S := fun b => b = g) ((Touch.refl (fun b => b = g) w7).setCell (p := ⟨g, 2, none⟩) (.inl rfl) (.slice a8 7 c8)) HRR.out fun q hq e => own_ne HRR.out HC7.out (by decide) q hq e)
    have Kn := Lib.hid ((Below.trans K5.out ((HTT.out.below (fun b hb => (HO5.out.lt b hb).1) HW1.out).mono K1.out.size)).setCell (p := ⟨g, 2, none⟩) HG.out (.slice a8 7 c8))
    generalize (w7.setCell ⟨g, 2, none⟩ (.slice a8 7 c8)) = w8 at *
    have y0 := HCn.out.cell 0
    have y1 := HCn.out.cell 1
    have y2 := HCn.out.cell 2
    have y3 := HCn.out.cell 3
    have y4 := HCn.out.cell 4
    have y5 := HCn.out.cell 5
    have y6 := HCn.out.cell 6
    have y7 := HCn.out.cell 7
    have y8 := HCn.out.cell 8
    simp only [List.getElem?_toArray, List.getElem?_cons_succ, List.getElem?_cons_zero] at y0 y1 y2 y3 y4 y5 y6 y7 y8
    go_upto_region 11 with fail
    have hxs : tx = (utfK (List.replicate 32000 120)).text := by rw [HTX.out]; rfl
    have hys : ty = (utfK (List.replicate Q 120)).text := by rw [HTY.out]; rfl
    have hcr : CRd w8 (grownK [utfK (List.replicate 32000 120), utfK (List.replicate 32000 120), utfK (List.replicate Q 120)]) [] (.slice a8 7 c8) (.slice none 0 0) (.slice none 0 0) (.slice none 0 0) := grown_rd (by
      have h := Rd.of_own HRn.out
      rw [hxs, hys] at h
      rw [List.flatMap_append]
      exact h)
    have hqn := HQN.out
    obtain ⟨X, E, hXE, hsay, hlen⟩ := utfK3 (l := List.replicate 32000 120) (m := List.replicate Q 120) List.length_replicate List.length_replicate hN HQN.out
    have C := emit_Write _ [] _ _ _ _ w8 hcr (grown_text (by intro k hk; simp only [List.mem_cons, List.not_mem_nil, or_false] at hk; rcases hk with rfl | rfl | rfl <;> (rw [utfK_size, List.length_replicate]; unfold maxLen; omega)))
    unfold WriteG at C
    rw [hXE] at C
    have HS := Lib.hid hsay
    have HL := Lib.hid hlen
    clear hsay hlen hXE hcr hxs hys hqn
    go_wp2_with fail
    refine C.mono ?_
    rintro e w9 ⟨v, rfl, hb, hk9⟩
    have K9 := Lib.hid (Below.trans Kn.out (hk9.mono Kn.out.size))
    obtain ⟨aX, kX, rfl, -, -⟩ := own_slice hb
    have hsay := HS.out
    have hlen := HL.out
    obtain ⟨nX, hnX⟩ : ∃ n, n = X.length := ⟨_, rfl⟩
    rw [← hnX] at hsay hlen ⊢
    have HSX := Lib.hid hsay
    have HLX := Lib.hid hlen
    clear hsay hlen hnX hb hk9 C HS HL HCn HRn Kn HTX HTY HC7 HB7 HRR HTT HS8 y0 y1 y2 y3 y4 y5 y6 y7 y8
    have hN0 : (0 : Int) ≤ (N : Int) := by omega
    have hN1 : (N : Int) ≤ 100 := by omega
    go_wp2_with fail
    refine (law4_small w9).mono ?_
    rintro e w10 ⟨vP2, he, ho, hk10⟩
    have he : e = .returned (.agg #[.int .i64 0, .int .i64 52, vP2, .int .i64 33, .int .i64 2, .int .i64 4, .slice none 0 0, .slice none 0 0, .slice none 0 0]) := he
    subst he
    obtain ⟨aR, kR, rfl, -, -⟩ := own_slice ho
    go_upto_region 14 with fail
    obtain ⟨B2, hB2⟩ : ∃ b, b = w9.heap.size := ⟨_, rfl⟩
    have hk11 : Kept w10 (w10.alloc (.cells #[.int .i64 0, .int .i64 52, (.slice aR 4 kR), .int .i64 33, .int .i64 2, .int .i64 4, .slice none 0 0, .slice none 0 0, .slice none 0 0] 27)) := (Below.refl _ _).alloc (Nat.le_refl _) _
    obtain ⟨g2, hg2⟩ : ∃ g, g = w10.heap.size := ⟨_, rfl⟩
    have K11 := Lib.hid (Below.trans (Below.trans K9.out (hk10.mono K9.out.size)) (hk11.mono (Nat.le_trans K9.out.size hk10.size)))
    have HC11 := Lib.hid (Blk.new w10 27 #[.int .i64 0, .int .i64 52, (.slice aR 4 kR), .int .i64 33, .int .i64 2, .int .i64 4, .slice none 0 0, .slice none 0 0, .slice none 0 0])
    have HO11 := Lib.hid ((Touch.of_kept (S := fun _ => False) hk11).own ho fun _ _ h => h)
    have HG2 := Lib.hid (show w.heap.size ≤ g2 by rw [hg2]; exact Nat.le_trans K9.out.size hk10.size)
    have HBB := Lib.hid (show w.heap.size ≤ B2 by rw [hB2]; exact K9.out.size)
    have HB11 : Hid (B2 ≤ (w10.alloc (.cells #[.int .i64 0, .int .i64 52, (.slice aR 4 kR), .int .i64 33, .int .i64 2, .int .i64 4, .slice none 0 0, .slice none 0 0, .slice none 0 0] 27)).heap.size) := Lib.hid (by rw [hB2]; exact Nat.le_trans hk10.size hk11.size)
    rw [← hg2] at HC11 ⊢
    rw [← hB2] at HO11
    clear hk11 hk10 ho hg2 hB2 K9
    generalize (w10.alloc (.cells #[.int .i64 0, .int .i64 52, (.slice aR 4 kR), .int .i64 33, .int .i64 2, .int .i64 4, .slice none 0 0, .slice none 0 0, .slice none 0 0] 27)) = w11 at *
    go_loopw [] (fun wr => ∃ (n : Nat) (a : Option Addr) (c : Nat), 4 ≤ n ∧ n ≤ M ∧ Blk wr g2 27 #[.int .i64 0, .int .i64 52, (.slice a n c), .int .i64 33, .int .i64 2, .int .i64 4, .slice none 0 0, .slice none 0 0, .slice none 0 0] ∧ wr.ownsRow B2 41 5 (.slice a n c) n ((smallK.pool ++ intsK (n - 4)).flatMap encC) ∧ Below w.heap.size w wr ∧ B2 ≤ wr.heap.size) (fun wr => M - lenAt wr g2)
    case atStart =>
      refine ⟨4, aR, kR, Nat.le_refl _, by omega, HC11.out, ?_, K11.out, HB11.out⟩
      have h := HO11.out
      rw [← List.append_nil smallK.pool] at h
      exact h
    case round =>
    rename World => wz
    obtain ⟨n, aZ, cZ, hn4, hnM, hc, ho, hkz, hbz⟩ := hrel
    clear HC11 HO11 K11 HB11
    have HCz := Lib.hid hc
    have HOz := Lib.hid ho
    have Kz := Lib.hid hkz
    have hbZ := Lib.hid hbz
    clear hc ho hkz hbz
    have y0 := HCz.out.cell 0
    have y1 := HCz.out.cell 1
    have y2 := HCz.out.cell 2
    have y3 := HCz.out.cell 3
    have y4 := HCz.out.cell 4
    have y5 := HCz.out.cell 5
    have y6 := HCz.out.cell 6
    have y7 := HCz.out.cell 7
    have y8 := HCz.out.cell 8
    simp only [List.getElem?_toArray, List.getElem?_cons_succ, List.getElem?_cons_zero] at y0 y1 y2 y3 y4 y5 y6 y7 y8
    by_cases hlt : n < M
    · have hltI : (n : Int) < (M : Int) := by omega
      have hHB := HCz.out.lt
      go_wp2_with (at_builtin; refine wpl_pushH _ elem_constE rfl (.tmp 79) (.tmp 84) rfl B2 (.slice aZ n cZ) n ((smallK.pool ++ intsK (n - 4)).flatMap encC) rfl HOz.out [.int .i64 3, .string ⟨#[]⟩, .int .i64 (n : Int), .int .i64 0, .int .i64 0] _ wz.heap.size rfl rfl rfl (by intro u hu; simp only [List.mem_cons, List.not_mem_nil, or_false] at hu; rcases hu with rfl | rfl | rfl | rfl | rfl <;> rfl) (by omega) (by omega) hbZ.out ?_; intro v8 w8 ho8 hg8 hk8 hb8; obtain ⟨a8, c8, hv8, -, -⟩ := own_slice ho8; subst hv8; have HT8 := Lib.hid (Touch.of_grown (S := fun b => (Value.slice aZ n cZ).ownBlock = some b) hg8 fun k hk => hk); have HR8 := Lib.hid ho8; have HK8 := Lib.hid hb8; have HC8 := Lib.hid (HCz.out.touch HT8.out (fun e => own_ne HOz.out HCz.out (by decide) _ e rfl)); have t2 := HC8.out.cell 2; have tf2 := HC8.out.frozen 2; simp only [List.getElem?_toArray, List.getElem?_cons_succ, List.getElem?_cons_zero] at t2; clear ho8 hg8 hk8 hb8)
      have HCn : Hid (Blk (w8.setCell ⟨g2, 2, none⟩ (.slice a8 (n + 1) c8)) g2 27 #[.int .i64 0, .int .i64 52, (.slice a8 (n + 1) c8), .int .i64 33, .int .i64 2, .int .i64 4, .slice none 0 0, .slice none 0 0, .slice none 0 0]) := Lib.hid (HC8.out.set_ 2 (.slice a8 (n + 1) c8))
      have HRn := Lib.hid (Touch.own (S := fun b => b = g2) ((Touch.refl (fun b => b = g2) w8).setCell (p := ⟨g2, 2, none⟩) (.inl rfl) (.slice a8 (n + 1) c8)) HR8.out fun q hq e => own_ne HR8.out HC8.out (by decide) q hq e)
      have Kn := Lib.hid ((Below.trans Kz.out (HK8.out.mono HBB.out)).setCell (p := ⟨g2, 2, none⟩) HG2.out (.slice a8 (n + 1) c8))
      have hBn : Hid (B2 ≤ (w8.setCell ⟨g2, 2, none⟩ (.slice a8 (n + 1) c8)).heap.size) := Lib.hid (by have := hbZ.out; have := HK8.out.size; have := HT8.out.size; simp [World.setCell]; omega)
      have hm0 := lenAt_of y2
      have hm1 := lenAt_of (HCn.out.cell 2)
      have HM0 := Lib.hid hm0
      have HM1 := Lib.hid hm1
      clear hm0 hm1 t2 tf2
      generalize (w8.setCell ⟨g2, 2, none⟩ (.slice a8 (n + 1) c8)) = wn at *
      go_roundw
      case rel =>
        refine ⟨n + 1, a8, c8, by omega, by omega, HCn.out, ?_, Kn.out, hBn.out⟩
        rw [← intsK_rows hn4]
        exact HRn.out
      case measure =>
        rw [HM0.out, HM1.out]
        omega
    obtain rfl : n = M := by omega
    have hrd : CRd wz (grownK (intsK (n - 4))) [] (.slice aZ n cZ) (.slice none 0 0) (.slice none 0 0) (.slice none 0 0) := grown_rd (by
      rw [intsK_len, show 4 + (n - 4) = n by omega]
      exact Rd.of_own HOz.out)
    have C := emit_Write _ [] _ _ _ _ wz hrd (grown_text (by
      intro k hk
      obtain ⟨i, _, rfl⟩ := List.mem_map.1 hk
      exact Nat.zero_le _))
    obtain ⟨Y, F, hYF, hsay⟩ := intsK4 (k := n - 4) (by omega) (by omega)
    unfold WriteG at C
    rw [hYF] at C
    have HS := Lib.hid hsay
    clear hYF hsay hrd
    go_wp2_with fail
    refine C.mono ?_
    rintro e w12 ⟨v, rfl, hb, hk12⟩
    have K12 := Lib.hid (Below.trans Kz.out (hk12.mono Kz.out.size))
    obtain ⟨aY, kY, rfl, -, -⟩ := own_slice hb
    have hsay := HS.out
    obtain ⟨nY, hnY⟩ : ∃ n, n = Y.length := ⟨_, rfl⟩
    rw [← hnY, show 4 + (n - 4) = n by omega] at hsay
    rw [← hnY]
    have HSY := Lib.hid hsay
    clear hsay hnY hb hk12 C HS
    go_upto_region 17 with fail
    by_cases h50 : 65536 < 65486 + N
    · have hI : (65536 : Int) < 65486 + (N : Int) := by omega
      obtain ⟨rfl, rfl⟩ := HSX.out.yes h50
      go_upto_region 18 with (go_at_call 14; refine (law4_num _ _).mono ?_; rintro e wn ⟨rfl, rfl⟩)
      by_cases h24 : 1024 < n
      · have hJ : (1024 : Int) < (n : Int) := by omega
        obtain ⟨rfl, rfl⟩ := HSY.out.yes h24
        go_wp2_with (go_at_call 14; refine (law4_num _ _).mono ?_; rintro e wn ⟨rfl, rfl⟩)
        go_ret
        exact ⟨rfl, K12.out⟩
      · have hJ : ¬ (1024 : Int) < (n : Int) := by omega
        have hJ2 : (n : Int) ≤ 1024 := by omega
        obtain rfl := HSY.out.no h24
        go_wp2_with (go_at_call 14; refine (law4_num _ _).mono ?_; rintro e wn ⟨rfl, rfl⟩)
        go_ret
        exact ⟨rfl, K12.out⟩
    · have hI : ¬ (65536 : Int) < 65486 + (N : Int) := by omega
      have hI2 : 65486 + (N : Int) ≤ 65536 := by omega
      obtain rfl := HSX.out.no h50
      have hl := HLX.out h50
      have hlI : ((nX : Int) == 65486 + (N : Int)) = true := by
        rw [hl]
        simp
      clear hl
      go_upto_region 18 with (go_at_call 14; refine (law4_num _ _).mono ?_; rintro e wn ⟨rfl, rfl⟩)
      by_cases h24 : 1024 < n
      · have hJ : (1024 : Int) < (n : Int) := by omega
        obtain ⟨rfl, rfl⟩ := HSY.out.yes h24
        go_wp2_with (go_at_call 14; refine (law4_num _ _).mono ?_; rintro e wn ⟨rfl, rfl⟩)
        go_ret
        exact ⟨rfl, K12.out⟩
      · have hJ : ¬ (1024 : Int) < (n : Int) := by omega
        have hJ2 : (n : Int) ≤ 1024 := by omega
        obtain rfl := HSY.out.no h24
        go_wp2_with (go_at_call 14; refine (law4_num _ _).mono ?_; rintro e wn ⟨rfl, rfl⟩)
        go_ret
        exact ⟨rfl, K12.out⟩
end Go.Proofs.Ytbalmfoboaapjaa
