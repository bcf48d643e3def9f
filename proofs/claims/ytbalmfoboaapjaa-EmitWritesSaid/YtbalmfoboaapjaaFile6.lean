/-
  Package file by contract: what field and method hold while they read their three numbers.
-/
import Derived.Test.YtbalmfoboaapjaaFile5
import Derived.Deep.RegionHeld2
namespace Go.Proofs.Ytbalmfoboaapjaa
set_option linter.unusedVariables false
set_option linter.unusedSimpArgs false
open Go.RowKit
set_option maxRecDepth 100000

section
variable (L : List UInt8)
/-- So many numbers of two bytes, kept. -/
def numsP {α : Type} : Nat → List Int → PS → (List Int → PS → Out α) → Out α
  | 0, acc, s, k => k acc s
  | n + 1, acc, s, k => (numP L 2 s).bind fun a s' => numsP n (acc ++ [a]) s' k
end
/-- What field and method hold while they read their three numbers: the box of the reader, the result, and, as soon as it is laid, what is read. -/
structure FB {α : Type} (R : Out α) (kk : List Int → PS → Out α) (w : World) (g B : Nat) (L : List UInt8) (vb : Value) (pool : List ConstC) (vp : Value) (ty : TypeId) (zs : Array Value) (rb f0 : Nat) (n : Nat) (acc : List Int) (s : PS) (z : Option Nat) (W : World) : Prop where
  run : R = numsP L n acc s kk
  rs : RS W g B L vb pool vp s
  box : Blk W rb 73 #[.pointer (some ⟨g, 0, none⟩)]
  res : Blk W f0 ty zs
  tch : Touch (fun b => b = g) w W
  lo : w.heap.size ≤ rb
  lo2 : rb < f0
  z : ∀ h, z = some h → Blk W h ty zs ∧ f0 < h
  B : B ≤ w.heap.size
section
variable {α : Type} {R : Out α} {kk : List Int → PS → Out α} {w W W' : World} {g B : Nat} {L : List UInt8} {vb vp : Value} {pool : List ConstC} {ty : TypeId} {zs : Array Value} {rb f0 n n' : Nat} {acc acc' : List Int} {s s' : PS} {z : Option Nat}
theorem FB.next (h : FB R kk w g B L vb pool vp ty zs rb f0 n acc s z W) (hR : R = numsP L n' acc' s' kk) (hr : RS W' g B L vb pool vp s') (ht : Touch (fun b => b = g) W W') : FB R kk w g B L vb pool vp ty zs rb f0 n' acc' s' z W' :=
  have hg := h.rs.lt
  have a0 := h.lo
  have a1 := h.lo2
  have a2 := h.B
  ⟨hR, hr, h.box.touch ht (by omega), h.res.touch ht (by omega), h.tch.trans ht fun b hb => .inl hb, a0, a1, fun k hk => by
    obtain ⟨b1, b2⟩ := h.z k hk
    exact ⟨b1.touch ht (by omega), b2⟩, a2⟩
theorem FB.drew (h : FB R kk w g B L vb pool vp ty zs rb f0 n acc s z W) : FB R kk w g B L vb pool vp ty zs rb f0 n acc s z W.drew :=
  ⟨h.run, h.rs.drewN 1, h.box, h.res, h.tch.drew, h.lo, h.lo2, h.z, h.B⟩
theorem FB.allocZ (h : FB R kk w g B L vb pool vp ty zs rb f0 n acc s none W) : FB R kk w g B L vb pool vp ty zs rb f0 n acc s (some W.heap.size) (W.alloc (.cells zs ty)) :=
  ⟨h.run, h.rs.alloc _, h.box.alloc _, h.res.alloc _, h.tch.alloc _, h.lo, h.lo2, fun k hk => by
    injection hk with hk
    subst hk
    exact ⟨Blk.new _ _ _, h.res.lt⟩, h.B⟩
theorem FB.num (h : FB R kk w g B L vb pool vp ty zs rb f0 (n + 1) acc s z W) :
    Calls Try.prog 38 #[.pointer (some ⟨g, 0, none⟩), .int .i64 2] W fun e W' =>
      (∃ a s', e = .returned (.int .i64 a) ∧ FB R kk w g B L vb pool vp ty zs rb f0 n (acc ++ [a]) s' z W') ∨ (∃ p k, e = .panicked [{ v := stopV p k, recovered := false }] ∧ R = .bad p k ∧ Touch (fun b => b = g) w W') := by
  have C := file_number g B L vb pool vp s 2 W h.rs (by omega) (by omega) 2 rfl
  cases hn : numP L 2 s with
  | bad p k =>
    rw [hn, Ans.bad_] at C
    exact C.mono fun e W' ⟨h1, h2⟩ => .inr ⟨p, k, h1, by rw [h.run, numsP, hn]; rfl, h.tch.trans h2 fun b hb => .inl hb⟩
  | ok a s1 =>
    rw [hn, Ans.ok_] at C
    exact C.mono fun e W' ⟨h1, h2, h3, _, _⟩ => .inl ⟨a, s1, h1, h.next (by rw [h.run, numsP, hn]; rfl) h2 h3⟩
theorem FB.cbox (h : FB R kk w g B L vb pool vp ty zs rb f0 n acc s z W) : W.cell? ⟨rb, 0, none⟩ = some (.pointer (some ⟨g, 0, none⟩)) := h.box.cell 0
theorem FB.zlt {k : Nat} (h : FB R kk w g B L vb pool vp ty zs rb f0 n acc s (some k) W) : k < W.heap.size := (h.z k rfl).1.lt
theorem FB.zne {k : Nat} (h : FB R kk w g B L vb pool vp ty zs rb f0 n acc s (some k) W) : ¬ (k = rb) ∧ ¬ (rb = k) :=
  have a1 := h.lo2
  have a3 := (h.z k rfl).2
  ⟨by omega, by omega⟩
theorem FB.zfr {k : Nat} (h : FB R kk w g B L vb pool vp ty zs rb f0 n acc s (some k) W) (i : Nat) : W.frozen? ⟨k, i, none⟩ = false := (h.z k rfl).1.frozen i
end
/-- Behind them: what is read lies in its block. -/
structure FE {α : Type} (R : Out α) (kk : List Int → PS → Out α) (w : World) (g B : Nat) (L : List UInt8) (vb : Value) (pool : List ConstC) (vp : Value) (ty : TypeId) (zs vs : Array Value) (rb f0 h : Nat) (acc : List Int) (s : PS) (W : World) : Prop where
  run : R = kk acc s
  rs : RS W g B L vb pool vp s
  box : Blk W rb 73 #[.pointer (some ⟨g, 0, none⟩)]
  res : Blk W f0 ty zs
  blk : Blk W h ty vs
  tch : Touch (fun b => b = g) w W
  lo : w.heap.size ≤ rb
  lo2 : rb < f0
  lo3 : f0 < h
  B : B ≤ w.heap.size
theorem FB.fe {α : Type} {R : Out α} {kk : List Int → PS → Out α} {w W W' : World} {g B : Nat} {L : List UInt8} {vb vp : Value} {pool : List ConstC} {ty : TypeId} {zs vs : Array Value} {rb f0 k : Nat} {acc : List Int} {s : PS}
    (h : FB R kk w g B L vb pool vp ty zs rb f0 0 acc s (some k) W) (ht : Touch (fun b => b = k) W W') (hb : Blk W' k ty vs) : FE R kk w g B L vb pool vp ty zs vs rb f0 k acc s W' :=
  have a0 := h.lo
  have a1 := h.lo2
  have a2 := h.B
  have a3 := (h.z k rfl).2
  ⟨h.run, h.rs.far ht fun b hb => by omega, h.box.touch ht (by omega), h.res.touch ht (by omega), hb, h.tch.trans ht fun b hb => .inr (by omega), a0, a1, a3, a2⟩
theorem Touch.one {k : Nat} {w w' : World} (h : Touch (fun b => b = k) w w') (i : Nat) (u : Value) : Touch (fun b => b = k) w (w'.setCell ⟨k, i, none⟩ u) := h.setCell (p := ⟨k, i, none⟩) (.inl rfl) u
structure MPut4 (w : World) (r : Nat) (t : TypeId) (u0 u1 u2 u3 : Value) : Prop where
  e0 : ((((w.setCell ⟨r, 0, none⟩ u0).setCell ⟨r, 1, none⟩ u1).setCell ⟨r, 2, none⟩ u2).setCell ⟨r, 3, none⟩ u3).cell? ⟨r, 0, none⟩ = some u0
  e1 : ((((w.setCell ⟨r, 0, none⟩ u0).setCell ⟨r, 1, none⟩ u1).setCell ⟨r, 2, none⟩ u2).setCell ⟨r, 3, none⟩ u3).cell? ⟨r, 1, none⟩ = some u1
  e2 : ((((w.setCell ⟨r, 0, none⟩ u0).setCell ⟨r, 1, none⟩ u1).setCell ⟨r, 2, none⟩ u2).setCell ⟨r, 3, none⟩ u3).cell? ⟨r, 2, none⟩ = some u2
  e3 : ((((w.setCell ⟨r, 0, none⟩ u0).setCell ⟨r, 1, none⟩ u1).setCell ⟨r, 2, none⟩ u2).setCell ⟨r, 3, none⟩ u3).cell? ⟨r, 3, none⟩ = some u3
  tch : Touch (fun b => b = r) w ((((w.setCell ⟨r, 0, none⟩ u0).setCell ⟨r, 1, none⟩ u1).setCell ⟨r, 2, none⟩ u2).setCell ⟨r, 3, none⟩ u3)
theorem mput4 {w : World} {r : Nat} {t : TypeId} {a b c d : Value} (h : Blk w r t #[a, b, c, d]) (u0 u1 u2 u3 : Value) : MPut4 w r t u0 u1 u2 u3 := by
  have hn := ((((h.set_ 0 u0).set_ 1 u1).set_ 2 u2).set_ 3 u3)
  simp at hn
  exact ⟨hn.cell 0, hn.cell 1, hn.cell 2, hn.cell 3, (((((Touch.refl _ _).one 0 u0).one 1 u1).one 2 u2).one 3 u3)⟩
structure MPut8 (w : World) (r : Nat) (t : TypeId) (u0 u1 u2 u3 u4 u5 u6 u7 : Value) : Prop where
  e0 : ((((((((w.setCell ⟨r, 0, none⟩ u0).setCell ⟨r, 1, none⟩ u1).setCell ⟨r, 2, none⟩ u2).setCell ⟨r, 3, none⟩ u3).setCell ⟨r, 4, none⟩ u4).setCell ⟨r, 5, none⟩ u5).setCell ⟨r, 6, none⟩ u6).setCell ⟨r, 7, none⟩ u7).cell? ⟨r, 0, none⟩ = some u0
  e1 : ((((((((w.setCell ⟨r, 0, none⟩ u0).setCell ⟨r, 1, none⟩ u1).setCell ⟨r, 2, none⟩ u2).setCell ⟨r, 3, none⟩ u3).setCell ⟨r, 4, none⟩ u4).setCell ⟨r, 5, none⟩ u5).setCell ⟨r, 6, none⟩ u6).setCell ⟨r, 7, none⟩ u7).cell? ⟨r, 1, none⟩ = some u1
  e2 : ((((((((w.setCell ⟨r, 0, none⟩ u0).setCell ⟨r, 1, none⟩ u1).setCell ⟨r, 2, none⟩ u2).setCell ⟨r, 3, none⟩ u3).setCell ⟨r, 4, none⟩ u4).setCell ⟨r, 5, none⟩ u5).setCell ⟨r, 6, none⟩ u6).setCell ⟨r, 7, none⟩ u7).cell? ⟨r, 2, none⟩ = some u2
  e3 : ((((((((w.setCell ⟨r, 0, none⟩ u0).setCell ⟨r, 1, none⟩ u1).setCell ⟨r, 2, none⟩ u2).setCell ⟨r, 3, none⟩ u3).setCell ⟨r, 4, none⟩ u4).setCell ⟨r, 5, none⟩ u5).setCell ⟨r, 6, none⟩ u6).setCell ⟨r, 7, none⟩ u7).cell? ⟨r, 3, none⟩ = some u3
  e4 : ((((((((w.setCell ⟨r, 0, none⟩ u0).setCell ⟨r, 1, none⟩ u1).setCell ⟨r, 2, none⟩ u2).setCell ⟨r, 3, none⟩ u3).setCell ⟨r, 4, none⟩ u4).setCell ⟨r, 5, none⟩ u5).setCell ⟨r, 6, none⟩ u6).setCell ⟨r, 7, none⟩ u7).cell? ⟨r, 4, none⟩ = some u4
  e5 : ((((((((w.setCell ⟨r, 0, none⟩ u0).setCell ⟨r, 1, none⟩ u1).setCell ⟨r, 2, none⟩ u2).setCell ⟨r, 3, none⟩ u3).setCell ⟨r, 4, none⟩ u4).setCell ⟨r, 5, none⟩ u5).setCell ⟨r, 6, none⟩ u6).setCell ⟨r, 7, none⟩ u7).cell? ⟨r, 5, none⟩ = some u5
  e6 : ((((((((w.setCell ⟨r, 0, none⟩ u0).setCell ⟨r, 1, none⟩ u1).setCell ⟨r, 2, none⟩ u2).setCell ⟨r, 3, none⟩ u3).setCell ⟨r, 4, none⟩ u4).setCell ⟨r, 5, none⟩ u5).setCell ⟨r, 6, none⟩ u6).setCell ⟨r, 7, none⟩ u7).cell? ⟨r, 6, none⟩ = some u6
  e7 : ((((((((w.setCell ⟨r, 0, none⟩ u0).setCell ⟨r, 1, none⟩ u1).setCell ⟨r, 2, none⟩ u2).setCell ⟨r, 3, none⟩ u3).setCell ⟨r, 4, none⟩ u4).setCell ⟨r, 5, none⟩ u5).setCell ⟨r, 6, none⟩ u6).setCell ⟨r, 7, none⟩ u7).cell? ⟨r, 7, none⟩ = some u7
  tch : Touch (fun b => b = r) w ((((((((w.setCell ⟨r, 0, none⟩ u0).setCell ⟨r, 1, none⟩ u1).setCell ⟨r, 2, none⟩ u2).setCell ⟨r, 3, none⟩ u3).setCell ⟨r, 4, none⟩ u4).setCell ⟨r, 5, none⟩ u5).setCell ⟨r, 6, none⟩ u6).setCell ⟨r, 7, none⟩ u7)
theorem mput8 {w : World} {r : Nat} {t : TypeId} {a b c d e f g h : Value} (h : Blk w r t #[a, b, c, d, e, f, g, h]) (u0 u1 u2 u3 u4 u5 u6 u7 : Value) : MPut8 w r t u0 u1 u2 u3 u4 u5 u6 u7 := by
  have hn := ((((((((h.set_ 0 u0).set_ 1 u1).set_ 2 u2).set_ 3 u3).set_ 4 u4).set_ 5 u5).set_ 6 u6).set_ 7 u7)
  simp at hn
  exact ⟨hn.cell 0, hn.cell 1, hn.cell 2, hn.cell 3, hn.cell 4, hn.cell 5, hn.cell 6, hn.cell 7, (((((((((Touch.refl _ _).one 0 u0).one 1 u1).one 2 u2).one 3 u3).one 4 u4).one 5 u5).one 6 u6).one 7 u7)⟩
def z4 : Array Value := #[.int .i64 0, .int .i64 0, .int .i64 0, .int .i64 0]
def z8 : Array Value := #[.int .i64 0, .int .i64 0, .int .i64 0, .bool false, .int .i64 0, .int .i64 0, .slice none 0 0, .slice none 0 0]
theorem FB.put4 {α : Type} {R : Out α} {kk : List Int → PS → Out α} {w W : World} {g B : Nat} {L : List UInt8} {vb vp : Value} {pool : List ConstC} {ty : TypeId} {rb f0 k : Nat} {acc : List Int} {s : PS}
    (h : FB R kk w g B L vb pool vp ty z4 rb f0 0 acc s (some k) W) (a b c d : Value) :
    FE R kk w g B L vb pool vp ty z4 #[a, b, c, d] rb f0 k acc s ((((W.setCell ⟨k, 0, none⟩ a).setCell ⟨k, 1, none⟩ b).setCell ⟨k, 2, none⟩ c).setCell ⟨k, 3, none⟩ d) :=
  h.fe (((((Touch.refl _ _).one 0 a).one 1 b).one 2 c).one 3 d) (by
    have := ((((h.z k rfl).1.set_ 0 a).set_ 1 b).set_ 2 c).set_ 3 d
    simpa [z4] using this)
theorem FB.putA {α : Type} {R : Out α} {kk : List Int → PS → Out α} {w W : World} {g B : Nat} {L : List UInt8} {vb vp : Value} {pool : List ConstC} {ty : TypeId} {zs : Array Value} {rb f0 : Nat} {acc : List Int} {s : PS}
    (h : FB R kk w g B L vb pool vp ty zs rb f0 0 acc s none W) (vs : Array Value) : FE R kk w g B L vb pool vp ty zs vs rb f0 W.heap.size acc s (W.alloc (.cells vs ty)) :=
  ⟨h.run, h.rs.alloc _, h.box.alloc _, h.res.alloc _, Blk.new _ _ _, h.tch.alloc _, h.lo, h.lo2, h.res.lt, h.B⟩
theorem FB.put8 {α : Type} {R : Out α} {kk : List Int → PS → Out α} {w W : World} {g B : Nat} {L : List UInt8} {vb vp : Value} {pool : List ConstC} {ty : TypeId} {rb f0 k : Nat} {acc : List Int} {s : PS}
    (h : FB R kk w g B L vb pool vp ty z8 rb f0 0 acc s (some k) W) (a b c d a' b' c' d' : Value) :
    FE R kk w g B L vb pool vp ty z8 #[a, b, c, d, a', b', c', d'] rb f0 k acc s ((((((((W.setCell ⟨k, 0, none⟩ a).setCell ⟨k, 1, none⟩ b).setCell ⟨k, 2, none⟩ c).setCell ⟨k, 3, none⟩ d).setCell ⟨k, 4, none⟩ a').setCell ⟨k, 5, none⟩ b').setCell ⟨k, 6, none⟩ c').setCell ⟨k, 7, none⟩ d') :=
  h.fe (((((((((Touch.refl _ _).one 0 a).one 1 b).one 2 c).one 3 d).one 4 a').one 5 b').one 6 c').one 7 d') (by
    have := ((((((((h.z k rfl).1.set_ 0 a).set_ 1 b).set_ 2 c).set_ 3 d).set_ 4 a').set_ 5 b').set_ 6 c').set_ 7 d'
    simpa [z8] using this)
end Go.Proofs.Ytbalmfoboaapjaa
