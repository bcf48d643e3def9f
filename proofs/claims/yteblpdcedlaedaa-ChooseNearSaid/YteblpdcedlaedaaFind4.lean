/-
  Package find by contract: the ways to look.
-/
import Derived.Test.YteblpdcedlaedaaFind3
import Derived.Test.YteblpdcedlaedaaAll
import Derived.Test.YteblpdcedlaedaaKin2
namespace Go.Proofs.Yteblpdcedlaedaa
open Go.RowKit
set_option maxRecDepth 100000

def foV : Option FV → Value
  | some f => .tuple #[.agg #[.string f.1, .int .i64 f.2], .bool true]
  | none => .tuple #[.agg #[.string ⟨#[]⟩, .int .i64 0], .bool false]
def ownF (D : List TD) (c n d : ByteArray) : Option FV := (mth D c n d).map fun x => (c, x.1)
def chF (D : List TD) (c n d : ByteArray) : Option FV := (chainL D c).findSome? fun s => ownF D s n d
def objB : ByteArray := ⟨#[106, 97, 118, 97, 47, 108, 97, 110, 103, 47, 79, 98, 106, 101, 99, 116]⟩
def objF (D : List TD) (_c n d : ByteArray) : Option FV := (mth D objB n d).bind fun x => if bits .and .i64 x.2 1 = 0 ∨ bits .and .i64 x.2 8 ≠ 0 then none else some (objB, x.1)
def accF (D : List TD) (n d : ByteArray) (f : FV) : Int := ((mth D f.1 n d).map (·.2)).getD 0
def realB (D : List TD) (n d : ByteArray) (f : FV) : Bool := decide (bits .and .i64 (accF D n d f) 1024 = 0)
def realL (D : List TD) (n d : ByteArray) (l : List FV) : List FV := l.filter (realB D n d)
def sglF (D : List TD) (c n d : ByteArray) : Option FV := if (realL D n d (mostL D c n d)).length = 1 then (realL D n d (mostL D c n d)).head? else none
def fstF (D : List TD) (c n d : ByteArray) : Option FV := (declL D (allL D c) n d).head?
/-- A found in a block of its own, that is stored anew. -/
structure FPut (w : World) (r : Nat) (a b : Value) : Prop where
  blk : Blk w r 24 #[a, b]
  g0 : w.cell? ⟨r, 0, none⟩ = some a
  g1 : w.cell? ⟨r, 1, none⟩ = some b
  h0 : w.frozen? ⟨r, 0, none⟩ = false
  h1 : w.frozen? ⟨r, 1, none⟩ = false
  lt : r < w.heap.size
theorem fnd_put {w : World} {r : Nat} {a b : Value} (h : Blk w r 24 #[a, b]) : FPut w r a b :=
  ⟨h, by rw [h.cell 0]; rfl, by rw [h.cell 1]; rfl, h.frozen 0, h.frozen 1, h.lt⟩
theorem FPut.e0 {w : World} {r : Nat} {a b : Value} (h : FPut w r a b) (u : Value) : (w.setCell ⟨r, 0, none⟩ u).cell? ⟨r, 0, none⟩ = some u := by
  rw [(h.blk.set_ 0 u).cell 0]; simp
theorem FPut.e1 {w : World} {r : Nat} {a b : Value} (h : FPut w r a b) (u v : Value) : ((w.setCell ⟨r, 0, none⟩ u).setCell ⟨r, 1, none⟩ v).cell? ⟨r, 1, none⟩ = some v := by
  rw [((h.blk.set_ 0 u).set_ 1 v).cell 1]; simp
theorem FPut.keeps {w0 w : World} {r : Nat} {a b : Value} (_h : FPut w r a b) (hk : Kept w0 w) (hr : w0.heap.size ≤ r) (u v : Value) : Kept w0 ((w.setCell ⟨r, 0, none⟩ u).setCell ⟨r, 1, none⟩ v) :=
  (hk.setCell hr u).setCell hr v
theorem FPut.set {w : World} {r : Nat} {a b : Value} (h : FPut w r a b) (u v : Value) : Blk ((w.setCell ⟨r, 0, none⟩ u).setCell ⟨r, 1, none⟩ v) r 24 #[u, v] := by
  have := (h.blk.set_ 0 u).set_ 1 v
  simpa using this
theorem FPut.alloc {w : World} {r : Nat} {a b : Value} (h : FPut w r a b) (o : Obj) : FPut (w.alloc o) r a b := fnd_put (h.blk.alloc o)
theorem own_v (D : List TD) (c n d : ByteArray) : ∃ f acc b, mthV D c n d = .tuple #[.agg #[.string (Prod.fst f), .int .i64 (Prod.snd f : Nat)], .int .i64 acc, .bool b] ∧ foV (ownF D c n d) = .tuple #[.agg #[.string f.1, .int .i64 f.2], .bool b] := by
  unfold mthV ownF
  cases mth D c n d with
  | none => exact ⟨f0, 0, false, rfl, rfl⟩
  | some x => exact ⟨(c, x.1), x.2, true, rfl, rfl⟩

theorem some_at {α β : Type} {g : α → Option β} : ∀ {l : List α} {k : Nat} {x : α} {y : β}, l[k]? = some x → g x = some y → (∀ j z, j < k → l[j]? = some z → g z = none) → l.findSome? g = some y
  | [], _, _, _, h, _, _ => by simp at h
  | a :: l, 0, x, y, h, hy, _ => by
    obtain rfl : a = x := by simpa using h
    simp [List.findSome?_cons, hy]
  | a :: l, k + 1, x, y, h, hy, hn => by
    have h0 := hn 0 a (by omega) rfl
    rw [List.findSome?_cons, h0]
    exact some_at (l := l) (k := k) (by simpa using h) hy (fun j z hj hz => hn (j + 1) z (by omega) (by simpa using hz))
theorem some_no {α β : Type} {g : α → Option β} {l : List α} (hn : ∀ (j : Nat) z, l[j]? = some z → g z = none) : l.findSome? g = none := by
  rw [List.findSome?_eq_none_iff]
  intro x hx
  obtain ⟨j, hj⟩ := List.mem_iff_getElem?.1 hx
  exact hn j x hj

theorem mthV_acc (D : List TD) (n d : ByteArray) (f : FV) : ∃ g b, mthV D f.1 n d = .tuple #[.agg #[.string (Prod.fst g), .int .i64 (Prod.snd g : Nat)], .int .i64 (accF D n d f), .bool b] := by
  unfold mthV accF
  cases mth D f.1 n d with
  | none => exact ⟨f0, false, rfl⟩
  | some x => exact ⟨(f.1, x.1), true, rfl⟩
theorem head_last {l : List FV} (h : l.length = 1) : l.head? = some (l.getLast?.getD f0) := by
  match l, h with
  | [x], _ => rfl
theorem mostL_len (D : List TD) (s n d : ByteArray) : (mostL D s n d).length ≤ (allL D s).length := Nat.le_trans (List.length_filter_le _ _) (declL_len D _ n d)
theorem mostL_there {D : List TD} {s n d : ByteArray} {f : FV} (h : f ∈ mostL D s n d) : there D f.1 := by
  have h1 := (List.mem_filter.1 h).1
  exact (allL_nms D s).th _ (declL_mem h1).1
theorem realL_next {D : List TD} {n d : ByteArray} {l : List FV} {k : Nat} {f : FV} (h : l[k]? = some f) : realL D n d (l.take (k + 1)) = realL D n d (l.take k) ++ if realB D n d f then [f] else [] := filter_next _ h

end Go.Proofs.Yteblpdcedlaedaa
