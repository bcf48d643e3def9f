/-
  Chapter 13's rows of classes with letters: what they share.
-/
import Derived.Test.YteblpdcedlaedaaChA
import Derived.Test.YteblpdcedlaedaaChP
import Derived.Test.YteblpdcedlaedaaLent
namespace Go.Proofs.Yteblpdcedlaedaa
open Go.RowKit
set_option maxRecDepth 100000

theorem letter13_ (i : Int) (j : Nat) (w : World) (h : i = j) (hj : j < 26) : Calls Try.prog 18 #[.int .i64 i] w fun e w' => e = .returned (.string (letterS j)) ∧ w = w' := by
  subst h
  have h1 : IntKind.i64.wrap ((j : Int) + 1) = (j : Int) + 1 := IntWalk.i64_in _ (by omega)
  have h2 : (0 : Int) ≤ (j : Int) := by omega
  have h3 : (j : Int) + 1 ≤ 26 := by omega
  have h4 : (j : Int) ≤ (j : Int) + 1 := by omega
  go_enter Try.func18, Try.ntmps18
  go_wp2_with fail
  go_ret
  exact ⟨rfl, rfl⟩
theorem lsz13 {k : Nat} (h : k < 26) : (letterS k).size ≤ maxLen := by rw [letter_sz k h]; decide
theorem sup13 {n k : Nat} (h : k < 25) : (supN n k).size ≤ maxLen := by
  unfold supN
  split
  · exact lsz13 (by omega)
  · decide
section
variable {w W : World} {v : Value}
def OneS (W : World) (v : Value) (l : List ByteArray) : Prop := (v = .slice none 0 0 ∧ l = []) ∨ ∃ h s, s.size ≤ maxLen ∧ v = .slice (some ⟨h, 0, none⟩) 1 1 ∧ l = [s] ∧ Blk W h 9 #[.string s]
def OneY (W : World) (v : Value) (l : List MemberV) : Prop := (v = .slice none 0 0 ∧ l = []) ∨ ∃ h m, MemberV.Ok W m ∧ v = .slice (some ⟨h, 0, none⟩) 1 1 ∧ l = [m] ∧ Blk W h 38 (encMemberV m).toArray
/-- A type of at most one interface and at most one method, each in a block of its own. -/
structure RowY (W : World) (y : TypeV) : Prop where
  nm : y.name.size ≤ maxLen
  sp : y.super.size ≤ maxLen
  acc : -9223372036854775808 ≤ y.access ∧ y.access ≤ 9223372036854775807
  fs : y.fieldsV = .slice none 0 0 ∧ y.fields = []
  is : OneS W y.interfacesV y.interfaces
  ms : OneY W y.methodsV y.methods
theorem OneS.rd {l : List ByteArray} (h : OneS W v l) : Rd W 1 v l.length (l.flatMap encS) ∧ (∀ z ∈ l, z.size ≤ maxLen) ∧ l.length ≤ 140737488351232 := by
  rcases h with ⟨rfl, rfl⟩ | ⟨h, s, hs, rfl, rfl, hb⟩
  · exact ⟨Rd.nil, by simp, by simp⟩
  · exact ⟨one_rd hb, by simpa using hs, by simp⟩
theorem OneY.rd {l : List MemberV} (h : OneY W v l) : Rd W 5 v l.length (l.flatMap encMemberV) ∧ (∀ z ∈ l, MemberV.Ok W z) ∧ l.length ≤ 140737488351232 := by
  rcases h with ⟨rfl, rfl⟩ | ⟨h, m, hm, rfl, rfl, hb⟩
  · exact ⟨Rd.nil, by simp, by simp⟩
  · exact ⟨one_mem hb, by simpa using hm, by simp⟩
theorem OneS.touch {l : List ByteArray} {S : Nat → Prop} (h : OneS w v l) (ht : Touch S w W) (hs : ∀ k, S k → k < w.heap.size → TyAt w k 36) : OneS W v l := by
  rcases h with h | ⟨h, s, hz, h1, h2, hb⟩
  · exact .inl h
  · exact .inr ⟨h, s, hz, h1, h2, hb.touch ht fun e => TyAt.ne ⟨_, hb⟩ (hs h e hb.lt) (by decide) rfl⟩
theorem OneY.touch {l : List MemberV} {S : Nat → Prop} (h : OneY w v l) (ht : Touch S w W) (hs : ∀ k, S k → k < w.heap.size → TyAt w k 36) : OneY W v l := by
  rcases h with h | ⟨h, m, hz, h1, h2, hb⟩
  · exact .inl h
  · exact .inr ⟨h, m, ⟨hz.access_, hz.name_, hz.desc_, hz.value_⟩, h1, h2, hb.touch ht fun e => TyAt.ne ⟨_, hb⟩ (hs h e hb.lt) (by decide) rfl⟩
theorem RowY.touch {y : TypeV} {S : Nat → Prop} (h : RowY w y) (ht : Touch S w W) (hs : ∀ k, S k → k < w.heap.size → TyAt w k 36) : RowY W y :=
  ⟨h.nm, h.sp, h.acc, h.fs, h.is.touch ht hs, h.ms.touch ht hs⟩
theorem RowY.ok {y : TypeV} (h : RowY W y) : y.Ok W := by
  obtain ⟨i1, i2, i3⟩ := h.is.rd
  obtain ⟨m1, m2, m3⟩ := h.ms.rd
  obtain ⟨f1, f2⟩ := h.fs
  exact ⟨h.nm, h.sp, h.acc, i1, i2, i3, by rw [f1, f2]; exact Rd.nil, by rw [f2]; simp, by rw [f2]; simp, m1, m2, m3⟩
end
/-- The row's list, so far: c types, the last k of them classes of the row. -/
structure ClsS (w W : World) (n k c : Nat) (acc : Int) (I : List ByteArray) (M : Nat → List MemberV) (P : List TD) (v : Value) (R : List TypeV) : Prop where
  len : R.length = c
  own : W.ownsRow w.heap.size 36 6 v c (R.flatMap encTypeV)
  d : R.map TypeV.d = P ++ rowK n k acc I M
  rows : ∀ y ∈ R, RowY W y
  kept : Kept w W
section
variable {w W : World} {n k c : Nat} {acc : Int} {I : List ByteArray} {M : Nat → List MemberV} {P : List TD} {v : Value} {R : List TypeV}
theorem ClsS.tyR (h : ClsS w W n n c acc I M P v R) (hc : c ≤ 100) : TyR W v (P ++ rowK n n acc I M) := by
  refine ⟨R, h.d, ?_, fun y hy => (h.rows y hy).ok, by rw [h.len]; exact hc⟩
  rw [h.len]
  exact Rd.of_own h.own
theorem cls_next {wr X w5 : World} {v5 : Value} (hS : ClsS w wr n k c acc I M P v R) (kq : Kept wr X) (y : TypeV) (hy : RowY X y) (hyd : y.d = clsD n acc I M k)
    (ho5 : w5.ownsRow w.heap.size 36 6 v5 (c + 1) (R.flatMap encTypeV ++ encTypeV y)) (hg5 : X.grownBy w5 v.ownBlock) :
    ClsS w w5 n (k + 1) (c + 1) acc I M P v5 (R ++ [y]) := by
  have t0 : Touch (fun _ => False) wr X := Touch.of_kept kq
  have oq := t0.own hS.own fun _ _ => id
  have t5 : Touch (fun b => v.ownBlock = some b) X w5 := Touch.of_grown hg5 (S := fun b => v.ownBlock = some b) (fun b hb => hb)
  refine ⟨by rw [List.length_append, hS.len]; rfl, by rw [List.flatMap_append]; simpa using ho5, ?_, ?_, ?_⟩
  · rw [List.map_append, hS.d, rowK, rowK, List.range_succ, List.map_append, List.append_assoc]
    simp [hyd]
  · intro z hz
    rcases List.mem_append.1 hz with hz | hz
    · exact ((hS.rows z hz).touch t0 (fun _ h => h.elim)).touch t5 fun b hb _ => own_ty oq b hb
    · obtain rfl : z = y := by simpa using hz
      exact hy.touch t5 fun b hb _ => own_ty oq b hb
  · have h1 : Below w.heap.size w X := Below.trans hS.kept (kq.mono hS.kept.size)
    exact Below.trans h1 (t5.below (fun b hb => (oq.lt b hb).1) h1.size)
end
end Go.Proofs.Yteblpdcedlaedaa
