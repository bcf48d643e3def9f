/-
  Package file by contract: code.
-/
import Derived.Test.YtbalmfoboaapjaaFile9
namespace Go.Proofs.Ytbalmfoboaapjaa
set_option linter.unusedVariables false
set_option linter.unusedSimpArgs false
open Go.RowKit
set_option maxRecDepth 100000

/-- A call that reads, and what comes behind it. -/
theorem ans_k {α β : Type} {P : Program} {f : FuncId} {args : Array Value} {W : World} {o : Out α} {S : Nat → Prop} {G : α → PS → Ending → World → Prop} {R : Out β} {k : α → PS → Out β} (C : Calls P f args W (Ans o S W G)) (hR : R = o.bind k) :
    Calls P f args W fun e W' => (∃ a s', o = .ok a s' ∧ R = k a s' ∧ G a s' e W') ∨ (∃ p q, R = .bad p q ∧ e = .panicked [{ v := stopV p q, recovered := false }] ∧ Touch S W W') := by
  cases o with
  | bad p q => exact C.mono fun e W' h => .inr ⟨p, q, hR, h.1, h.2⟩
  | ok a s' => exact C.mono fun e W' h => .inl ⟨a, s', rfl, hR, h⟩
structure CB (w : World) (g B : Nat) (L : List UInt8) (vb : Value) (pool : List ConstC) (vp : Value) (z base : Nat) (m : MethC) (vc vt : Value) (s : PS) (W : World) : Prop where
  rs : RS W g B L vb pool vp s
  mb : MB z base m vc vt W
  tch : Touch (MS g z) w W
  hB : B ≤ z
section
variable {w W W' : World} {g B : Nat} {L : List UInt8} {vb vp : Value} {pool : List ConstC} {z base : Nat} {m : MethC} {vc vt : Value} {s s' : PS}
theorem CB.next (h : CB w g B L vb pool vp z base m vc vt s W) (hr : RS W' g B L vb pool vp s') (ht : Touch (fun b => b = g) W W') : CB w g B L vb pool vp z base m vc vt s' W' :=
  have := h.rs.lt
  have := h.hB
  ⟨hr, h.mb.touch ht (by omega), h.tch.trans ht fun b hb => .inl (.inl hb), h.hB⟩
theorem CB.bad (h : CB w g B L vb pool vp z base m vc vt s W) (ht : Touch (fun b => b = g) W W') : Touch (MS g z) w W' := h.tch.trans ht fun b hb => .inl (.inl hb)
theorem CB.put (h : CB w g B L vb pool vp z base m vc vt s W) (i : Nat) (u : Value) (m' : MethC) (hm : (methV m vc vt).toArray.setIfInBounds i u = (methV m' vc vt).toArray) (hc : m'.code = m.code) (ht : m'.traps = m.traps) : CB w g B L vb pool vp z base m' vc vt s (W.setCell ⟨z, i, none⟩ u) :=
  ⟨h.rs.setCell (p := ⟨z, i, none⟩) h.hB u, h.mb.put i u m' hm hc ht, h.tch.setCell (p := ⟨z, i, none⟩) (.inl (.inr (Nat.le_refl _))) u, h.hB⟩
/-- The bounds that code lays. -/
theorem CB.most (h : CB w g B L vb pool vp z base m vc vt s W) (a p : Int) (ha : 0 ≤ a ∧ a ≤ 4611686018427387904) (hp : 0 ≤ p ∧ p ≤ 65536) : CB w g B L vb pool vp z base m vc vt { s with most := a, named := p } ((W.setCell ⟨g, 2, none⟩ (.int .i64 a)).setCell ⟨g, 3, none⟩ (.int .i64 p)) := by
  have hT : Touch (fun b => b = g) W ((W.setCell ⟨g, 2, none⟩ (.int .i64 a)).setCell ⟨g, 3, none⟩ (.int .i64 p)) := ((Touch.refl _ _).one 2 _).one 3 _
  refine h.next (h.rs.touch hT ?_ h.rs.at_ ha hp) hT
  simpa using (h.rs.blk.set_ 2 (.int .i64 a)).set_ 3 (.int .i64 p)
theorem CB.same (h : CB w g B L vb pool vp z base m vc vt s W) (ht : Touch (fun _ => False) W W') : CB w g B L vb pool vp z base m vc vt s W' :=
  h.next (h.rs.far ht fun _ e => e.elim) (ht.mono fun _ e => e.elim)
theorem CB.drew (h : CB w g B L vb pool vp z base m vc vt s W) : CB w g B L vb pool vp z base m vc vt s W.drew := h.same (Touch.refl _ _).drew
theorem CB.drewN (h : CB w g B L vb pool vp z base m vc vt s W) (n : Nat) : CB w g B L vb pool vp z base m vc vt s (W.drewN n) := h.same ((Touch.refl _ _).drewN n)
/-- The code is laid. -/
theorem CB.code (h : CB w g B L vb pool vp z base m vc vt s W) {l : List UInt8} {v : Value} (hg : W.grownBy W' none) (ho : W'.ownsRow base 5 1 v l.length (l.map byteV)) (hk : ∀ k, v.ownBlock = some k → W.heap.size ≤ k) :
    CB w g B L vb pool vp z base { m with code := l } v vt s (W'.setCell ⟨z, 6, none⟩ v) := by
  have h' := h.same (Touch.of_grown (S := fun _ => False) hg fun k hk => by cases hk)
  have hT : Touch (fun b => b = z) W' (W'.setCell ⟨z, 6, none⟩ v) := (Touch.refl _ _).one 6 v
  have hz := h.mb.lt
  refine ⟨h'.rs.setCell (p := ⟨z, 6, none⟩) h.hB v, ⟨by simpa [methV] using h'.mb.blk.set_ 6 v, ⟨hT.own ho fun k hk' e => by have := (ho.lt k hk').1; omega, hT.own h'.mb.rows.traps fun k hk' e => by have := (h'.mb.rows.traps.lt k hk').1; omega, fun k hk' e => ?_⟩, hz, by simpa [World.setCell] using h'.mb.le⟩, h'.tch.setCell (p := ⟨z, 6, none⟩) (.inl (.inr (Nat.le_refl _))) v, h.hB⟩
  have a1 := hk k hk'
  have a2 := (h.mb.rows.traps.lt k e).2
  omega
/-- A trap more. -/
theorem CB.trap (h : CB w g B L vb pool vp z base m vc vt s W) {x : TrapC} {v : Value} (hg : W.grownBy W' vt.ownBlock) (ho : W'.ownsRow base 53 4 v (m.traps.length + 1) (m.traps.flatMap encT ++ encT x)) (hk : ∀ k, v.ownBlock = some k → vt.ownBlock = some k ∨ W.heap.size ≤ k) :
    CB w g B L vb pool vp z base { m with traps := m.traps ++ [x] } vc v s (W'.setCell ⟨z, 7, none⟩ v) := by
  have hz := h.mb.lt
  have hgz := h.rs.lt
  have hB := h.hB
  have hT0 : Touch (fun b => vt.ownBlock = some b) W W' := Touch.of_grown hg fun k hk => hk
  have hb : ∀ k, vt.ownBlock = some k → base ≤ k := fun k hk' => (h.mb.rows.traps.lt k hk').1
  have hT : Touch (fun b => b = z) W' (W'.setCell ⟨z, 7, none⟩ v) := (Touch.refl _ _).one 7 v
  have hR : RS W' g B L vb pool vp s := h.rs.far hT0 fun k hk' => by have := hb k hk'; omega
  have hM : Blk W' z 49 (methV m vc vt).toArray := h.mb.blk.touch hT0 fun e => by have := hb z e; omega
  refine ⟨hR.setCell (p := ⟨z, 7, none⟩) hB v, ⟨by simpa [methV] using hM.set_ 7 v, ⟨?_, ?_, fun k hk' e => ?_⟩, hz, ?_⟩, (h.tch.trans hT0 fun k hk' => .inl (.inr (by have := hb k hk'; omega))).setCell (p := ⟨z, 7, none⟩) (.inl (.inr (Nat.le_refl _))) v, hB⟩
  · exact hT.own (hT0.own h.mb.rows.code fun k hk' e => h.mb.rows.ne k hk' e) fun k hk' e => by have := (h.mb.rows.code.lt k hk').1; omega
  · simpa using hT.own ho fun k hk' e => by have := (ho.lt k hk').1; omega
  · rcases hk k e with e1 | e1
    · exact h.mb.rows.ne k hk' e1
    · have := (h.mb.rows.code.lt k hk').2
      omega
  · have := h.mb.le
    have := hT0.size
    simp [World.setCell]
    omega
theorem CB.grow (h : CB w g B L vb pool vp z base m vc vt s W) (hg : W.grownBy W' vt.ownBlock) : W'.cell? ⟨z, 7, none⟩ = some vt ∧ W'.frozen? ⟨z, 7, none⟩ = false ∧ z < W'.heap.size := by
  have hz := h.mb.lt
  have hM : Blk W' z 49 (methV m vc vt).toArray := h.mb.blk.touch (S := fun b => vt.ownBlock = some b) (Touch.of_grown hg fun k hk => hk) fun e => by have := (h.mb.rows.traps.lt z e).1; omega
  exact ⟨hM.cell 7, hM.frozen 7, hM.lt⟩
theorem CB.far (h : CB w g B L vb pool vp z base m vc vt s W) : CB w g B L vb pool vp z base m vc vt { s with most := 4611686018427387904 } (W.setCell ⟨g, 2, none⟩ (.int .i64 4611686018427387904)) := by
  have hT : Touch (fun b => b = g) W (W.setCell ⟨g, 2, none⟩ (.int .i64 4611686018427387904)) := (Touch.refl _ _).one 2 _
  refine h.next (h.rs.touch hT ?_ h.rs.at_ ⟨(by decide : (0 : Int) ≤ 4611686018427387904), (by decide : (4611686018427387904 : Int) ≤ 4611686018427387904)⟩ h.rs.named) hT
  simpa using h.rs.blk.set_ 2 (.int .i64 4611686018427387904)
end

theorem countP_le {L : List UInt8} {i n : Int} {s s' : PS} (h : countP L i s = .ok n s') : n ≤ i := by
  unfold countP at h
  cases hn : numP L 2 s with
  | bad p k => rw [hn] at h; cases h
  | ok v s1 =>
    rw [hn, Out.bind_ok] at h
    by_cases hi : i < v
    · rw [if_pos hi] at h; cases h
    · rw [if_neg hi] at h
      injection h with h1 h2
      omega
/-- What comes behind the traps. -/
def codeK (L : List UInt8) (pool : List ConstC) (m : MethC) (p st lo : Int) (code : List UInt8) (tr : List TrapC) (s6 : PS) : Out MethC :=
  (skipP L pool s6).bind fun _ s7 => if (s7.at_ : Int) ≠ s7.most then .bad p 25 else
  .ok { m with has := true, stack := st, locals := lo, code := code, traps := m.traps ++ tr } { s7 with most := far }
theorem trap_bind {α : Type} (L : List UInt8) (s : PS) (f : TrapC → PS → Out α) : (trapP L s).bind f = numsP L 4 [] s fun l s' => f ⟨l.getD 0 0, l.getD 1 0, l.getD 2 0, l.getD 3 0⟩ s' := by
  unfold trapP
  simp only [numsP, Out.bind_assoc, Out.bind_ok]
  rfl
theorem traps_succ {α : Type} (L : List UInt8) (k : Nat) (s : PS) (f : List TrapC → PS → Out α) : (manyP (trapP L) (k + 1) s).bind f = numsP L 4 [] s fun l s' => (manyP (trapP L) k s').bind fun tr s6 => f (⟨l.getD 0 0, l.getD 1 0, l.getD 2 0, l.getD 3 0⟩ :: tr) s6 := by
  rw [← trap_bind L s (fun x s' => (manyP (trapP L) k s').bind fun tr s6 => f (x :: tr) s6)]
  show ((trapP L s).bind fun x s1 => (manyP (trapP L) k s1).bind fun l s2 => .ok (x :: l) s2).bind f = _
  simp only [Out.bind_assoc, Out.bind_ok]
end Go.Proofs.Ytbalmfoboaapjaa
