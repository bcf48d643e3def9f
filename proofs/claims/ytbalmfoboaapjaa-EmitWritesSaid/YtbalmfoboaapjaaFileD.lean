/-
  Package file by contract: what class holds.
-/
import Derived.Test.YtbalmfoboaapjaaFileC
namespace Go.Proofs.Ytbalmfoboaapjaa
set_option linter.unusedVariables false
set_option linter.unusedSimpArgs false
open Go.RowKit
set_option maxRecDepth 100000

def encF (f : FieldC) : List Value := [.int .i64 f.access, .int .i64 f.name, .int .i64 f.desc, .int .i64 f.value]
def encI (i : Int) : List Value := [.int .i64 i]
def encM (x : MethC × Value × Value) : List Value := methV x.1 x.2.1 x.2.2
def classV (c : ClassC) (vP vI vF vM : Value) : List Value := [.int .i64 c.minor, .int .i64 c.major, vP, .int .i64 c.access, .int .i64 c.this, .int .i64 c.super, vI, vF, vM]
theorem own_other {w w' : World} {base e sz n : Nat} {v : Value} {xs : List Value} {base' e' sz' n' : Nat} {v' : Value} {xs' : List Value} (h : w.ownsRow base' e' sz' v' n' xs') (ho : w.ownsRow base e sz v n xs) (hne : e' ≠ e) (hg : w.grownBy w' v.ownBlock) : w'.ownsRow base' e' sz' v' n' xs' := by
  refine (Touch.of_grown (S := fun b => v.ownBlock = some b) hg fun k hk => hk).own h fun k hk hS => ?_
  rcases h.2 with ⟨rfl, _⟩ | ⟨g, cap, cur, rfl, _, h1, _⟩
  · cases hk
  · rcases ho.2 with ⟨rfl, _⟩ | ⟨g2, cap2, cur2, rfl, _, h2, _⟩
    · cases hS
    · simp only [Value.ownBlock, Option.some.injEq] at hk hS
      subst hk
      subst hS
      rw [h1] at h2
      simp only [Option.some.injEq, Obj.cells.injEq] at h2
      exact hne h2.2.1
/-- The rows of a class, each its own. -/
structure CR (base : Nat) (c : ClassC) (mv : List (MethC × Value × Value)) (vP vI vF vM : Value) (w : World) : Prop where
  p : w.ownsRow base 41 5 vP c.pool.length (c.pool.flatMap encC)
  i : w.ownsRow base 3 1 vI c.ifaces.length (c.ifaces.flatMap encI)
  f : w.ownsRow base 51 4 vF c.fields.length (c.fields.flatMap encF)
  m : w.ownsRow base 49 8 vM mv.length (mv.flatMap encM)
  r : ∀ x ∈ mv, MR base x.1 x.2.1 x.2.2 w
  ms : c.methods = mv.map fun x => x.1
section
variable {w w' : World} {base : Nat} {c : ClassC} {mv : List (MethC × Value × Value)} {vP vI vF vM v : Value}
theorem CR.touch (h : CR base c mv vP vI vF vM w) {S : Nat → Prop} (ht : Touch S w w') (hS : ∀ k, S k → k < base) : CR base c mv vP vI vF vM w' :=
  ⟨ht.own h.p fun k hk e => by have := (h.p.lt k hk).1; have := hS k e; omega, ht.own h.i fun k hk e => by have := (h.i.lt k hk).1; have := hS k e; omega,
   ht.own h.f fun k hk e => by have := (h.f.lt k hk).1; have := hS k e; omega, ht.own h.m fun k hk e => by have := (h.m.lt k hk).1; have := hS k e; omega,
   fun x hx => (h.r x hx).touch ht hS, h.ms⟩
theorem MR.other {m : MethC} {vc vt : Value} {e sz n : Nat} {xs : List Value} (h : MR base m vc vt w) (ho : w.ownsRow base e sz v n xs) (h1 : 5 ≠ e) (h2 : 53 ≠ e) (hg : w.grownBy w' v.ownBlock) : MR base m vc vt w' :=
  ⟨own_other h.code ho h1 hg, own_other h.traps ho h2 hg, h.ne⟩
theorem CR.pushP (h : CR base c mv vP vI vF vM w) {x : ConstC} (hg : w.grownBy w' vP.ownBlock) (ho : w'.ownsRow base 41 5 v (c.pool.length + 1) (c.pool.flatMap encC ++ encC x)) : CR base { c with pool := c.pool ++ [x] } mv v vI vF vM w' :=
  ⟨by simpa using ho, own_other h.i h.p (by decide) hg, own_other h.f h.p (by decide) hg, own_other h.m h.p (by decide) hg, fun y hy => (h.r y hy).other h.p (by decide) (by decide) hg, h.ms⟩
theorem CR.pushI (h : CR base c mv vP vI vF vM w) {x : Int} (hg : w.grownBy w' vI.ownBlock) (ho : w'.ownsRow base 3 1 v (c.ifaces.length + 1) (c.ifaces.flatMap encI ++ encI x)) : CR base { c with ifaces := c.ifaces ++ [x] } mv vP v vF vM w' :=
  ⟨own_other h.p h.i (by decide) hg, by simpa using ho, own_other h.f h.i (by decide) hg, own_other h.m h.i (by decide) hg, fun y hy => (h.r y hy).other h.i (by decide) (by decide) hg, h.ms⟩
theorem CR.pushF (h : CR base c mv vP vI vF vM w) {x : FieldC} (hg : w.grownBy w' vF.ownBlock) (ho : w'.ownsRow base 51 4 v (c.fields.length + 1) (c.fields.flatMap encF ++ encF x)) : CR base { c with fields := c.fields ++ [x] } mv vP vI v vM w' :=
  ⟨own_other h.p h.f (by decide) hg, own_other h.i h.f (by decide) hg, by simpa using ho, own_other h.m h.f (by decide) hg, fun y hy => (h.r y hy).other h.f (by decide) (by decide) hg, h.ms⟩
theorem CR.pushM (h : CR base c mv vP vI vF vM w) {x : MethC × Value × Value} (hx : MR base x.1 x.2.1 x.2.2 w) (hg : w.grownBy w' vM.ownBlock) (ho : w'.ownsRow base 49 8 v (mv.length + 1) (mv.flatMap encM ++ encM x)) : CR base { c with methods := c.methods ++ [x.1] } (mv ++ [x]) vP vI vF v w' :=
  ⟨own_other h.p h.m (by decide) hg, own_other h.i h.m (by decide) hg, own_other h.f h.m (by decide) hg, by simpa using ho, fun y hy => by
    rcases List.mem_append.1 hy with hy | hy
    · exact (h.r y hy).other h.m (by decide) (by decide) hg
    · obtain rfl := List.mem_singleton.1 hy
      exact hx.other h.m (by decide) (by decide) hg, by simp [h.ms]⟩
end
section
variable (L : List UInt8)
/-- What class does behind its methods, its fields, its interfaces, its constants. -/
def clsK4 (mi ma : Int) (pl : List ConstC) (acc th su : Int) (is : List Int) (fs : List FieldC) (ms : List MethC) (s14 : PS) : Out ClassC :=
  (skipP L pl s14).bind fun _ s15 => if s15.at_ < L.length then .bad s15.at_ 14 else .ok ⟨mi, ma, pl, acc, th, su, is, fs, ms⟩ s15
def clsK3 (mi ma : Int) (pl : List ConstC) (acc th su : Int) (is : List Int) (fs : List FieldC) (s12 : PS) : Out ClassC :=
  (countP L 64 s12).bind fun nm s13 => (manyP (methP L pl) nm.toNat s13).bind fun ms s14 => clsK4 L mi ma pl acc th su is fs ms s14
def clsK2 (mi ma : Int) (pl : List ConstC) (acc th su : Int) (is : List Int) (s10 : PS) : Out ClassC :=
  (countP L 64 s10).bind fun nf s11 => (manyP (fieldP L pl) nf.toNat s11).bind fun fs s12 => clsK3 L mi ma pl acc th su is fs s12
def clsK1 (mi ma : Int) (pl : List ConstC) (s5 : PS) : Out ClassC := (numP L 2 s5).bind fun acc s6 => (numP L 2 s6).bind fun th s7 => (numP L 2 s7).bind fun su s8 =>
  (countP L 64 s8).bind fun ni s9 => (manyP (numP L 2) ni.toNat s9).bind fun is s10 => clsK2 L mi ma pl acc th su is s10
theorem classP_eq (s : PS) : classP L s = (numP L 4 s).bind fun magic s1 => if magic ≠ 3405691582 then .bad 0 11 else
  (numP L 2 s1).bind fun mi s2 => (numP L 2 s2).bind fun ma s3 => (countP L 1025 s3).bind fun n s4 => if n = 0 then .bad s3.at_ 20 else
  (manyP (constP L) (n.toNat - 1) s4).bind fun pool s5 => clsK1 L mi ma pool s5 := rfl
end
theorem many_succ {α β : Type} (f : PS → Out α) (k : Nat) (s : PS) (K : List α → PS → Out β) : (manyP f (k + 1) s).bind K = (f s).bind fun x s' => (manyP f k s').bind fun l s6 => K (x :: l) s6 := by
  show ((f s).bind fun x s1 => (manyP f k s1).bind fun l s2 => .ok (x :: l) s2).bind K = _
  simp only [Out.bind_assoc, Out.bind_ok]
/-- What class holds. -/
structure KB (w : World) (g B : Nat) (L : List UInt8) (vb : Value) (pool : List ConstC) (vp : Value) (c : ClassC) (mv : List (MethC × Value × Value)) (vP vI vF vM : Value) (s : PS) (W : World) : Prop where
  rs : RS W g B L vb pool vp s
  hb : 0 < L.length → ∀ k, vb.ownBlock = some k → k < w.heap.size
  hp : vp = .slice none 0 0 ∨ vp = vP
  hg : g < w.heap.size
  cls : Blk W (w.heap.size + 1) 27 (classV c vP vI vF vM).toArray
  res : Blk W w.heap.size 27 #[.int .i64 0, .int .i64 0, .slice none 0 0, .int .i64 0, .int .i64 0, .int .i64 0, .slice none 0 0, .slice none 0 0, .slice none 0 0]
  rows : CR (w.heap.size + 2) c mv vP vI vF vM W
  tch : Touch (fun b => b = g) w W
theorem RS.off {w w' : World} {g B : Nat} {L : List UInt8} {vb vp : Value} {pool : List ConstC} {s : PS} (h : RS w g B L vb pool vp s) {S : Nat → Prop} (ht : Touch S w w') (hg : ¬ S g) (hb : 0 < L.length → ∀ k, vb.ownBlock = some k → ¬ S k) (hp : 0 < pool.length → ∀ k, vp.ownBlock = some k → ¬ S k) : RS w' g B L vb pool vp s :=
  ⟨h.blk.touch ht hg, h.rb.touch ht hb, h.nb, h.rp.touch ht hp, h.np, h.lt, Nat.le_trans h.le ht.size, h.len, h.plen, h.at_, h.most, h.named⟩
section
variable {w W W' : World} {g B : Nat} {L : List UInt8} {vb vp : Value} {pool : List ConstC} {c : ClassC} {mv : List (MethC × Value × Value)} {vP vI vF vM v : Value} {s s' : PS}
theorem KB.next (h : KB w g B L vb pool vp c mv vP vI vF vM s W) (hr : RS W' g B L vb pool vp s') (ht : Touch (fun b => b = g) W W') : KB w g B L vb pool vp c mv vP vI vF vM s' W' :=
  have := h.hg
  ⟨hr, h.hb, h.hp, h.hg, h.cls.touch ht (by omega), h.res.touch ht (by omega), h.rows.touch ht fun k hk => by omega, h.tch.trans ht fun b hb => .inl hb⟩
theorem KB.bad (h : KB w g B L vb pool vp c mv vP vI vF vM s W) (ht : Touch (fun b => b = g) W W') : Touch (fun b => b = g) w W' := h.tch.trans ht fun b hb => .inl hb
theorem KB.same (h : KB w g B L vb pool vp c mv vP vI vF vM s W) (ht : Touch (fun _ => False) W W') : KB w g B L vb pool vp c mv vP vI vF vM s W' :=
  h.next (h.rs.far ht fun _ e => e.elim) (ht.mono fun _ e => e.elim)
theorem KB.drew (h : KB w g B L vb pool vp c mv vP vI vF vM s W) : KB w g B L vb pool vp c mv vP vI vF vM s W.drew := h.same (Touch.refl _ _).drew
theorem KB.drewN (h : KB w g B L vb pool vp c mv vP vI vF vM s W) (n : Nat) : KB w g B L vb pool vp c mv vP vI vF vM s (W.drewN n) := h.same ((Touch.refl _ _).drewN n)
/-- A store into the class. -/
theorem KB.put (h : KB w g B L vb pool vp c mv vP vI vF vM s W) (i : Nat) (u : Value) (c' : ClassC) (hc : (classV c vP vI vF vM).toArray.setIfInBounds i u = (classV c' vP vI vF vM).toArray) (h1 : c'.pool = c.pool) (h2 : c'.ifaces = c.ifaces) (h3 : c'.fields = c.fields) (h4 : c'.methods = c.methods) :
    KB w g B L vb pool vp c' mv vP vI vF vM s (W.setCell ⟨w.heap.size + 1, i, none⟩ u) := by
  have hT : Touch (fun b => b = w.heap.size + 1) W (W.setCell ⟨w.heap.size + 1, i, none⟩ u) := (Touch.refl _ _).one i u
  have hg := h.hg
  have hr := h.rows.touch hT fun k hk => by omega
  refine ⟨h.rs.off hT (by omega) (fun h0 k hk => by have := h.hb h0 k hk; omega) (fun h0 k hk e => ?_), h.hb, h.hp, h.hg, hc ▸ h.cls.set_ i u, h.res.touch hT (by omega), ⟨h1 ▸ hr.p, h2 ▸ hr.i, h3 ▸ hr.f, hr.m, hr.r, h4 ▸ hr.ms⟩, h.tch.setCell (p := ⟨w.heap.size + 1, i, none⟩) (.inr (by show w.heap.size ≤ w.heap.size + 1; omega)) u⟩
  rcases h.hp with rfl | rfl
  · cases hk
  · have := (h.rows.p.lt k hk).1
    omega
theorem own_ne2 {w : World} {base e sz n : Nat} {v : Value} {xs : List Value} {base' e' sz' n' : Nat} {v' : Value} {xs' : List Value} (h : w.ownsRow base' e' sz' v' n' xs') (ho : w.ownsRow base e sz v n xs) (hne : e' ≠ e) : ∀ k, v'.ownBlock = some k → v.ownBlock ≠ some k := by
  intro k hk hS
  rcases h.2 with ⟨rfl, _⟩ | ⟨g, cap, cur, rfl, _, h1, _⟩
  · cases hk
  · rcases ho.2 with ⟨rfl, _⟩ | ⟨g2, cap2, cur2, rfl, _, h2, _⟩
    · cases hS
    · simp only [Value.ownBlock, Option.some.injEq] at hk hS
      subst hk
      subst hS
      rw [h1] at h2
      simp only [Option.some.injEq, Obj.cells.injEq] at h2
      exact hne h2.2.1
theorem KB.pne (h : KB w g B L vb pool vp c mv vP vI vF vM s W) {e sz n : Nat} {u : Value} {xs : List Value} (hrow : W.ownsRow (w.heap.size + 2) e sz u n xs) (hne : 41 ≠ e) : ∀ k, vp.ownBlock = some k → u.ownBlock ≠ some k := by
  rcases h.hp with rfl | rfl
  · intro k hk
    cases hk
  · exact own_ne2 h.rows.p hrow hne
/-- An append to a row of the class. -/
theorem KB.push (h : KB w g B L vb pool vp c mv vP vI vF vM s W) {e sz n : Nat} {u v : Value} {xs : List Value} (hrow : W.ownsRow (w.heap.size + 2) e sz u n xs) (hpv : ∀ k, vp.ownBlock = some k → u.ownBlock ≠ some k) (hg : W.grownBy W' u.ownBlock) (i : Nat) {c' : ClassC} {mv' : List (MethC × Value × Value)} {vP' vI' vF' vM' : Value}
    (hr : CR (w.heap.size + 2) c' mv' vP' vI' vF' vM' W') (hc : (classV c vP vI vF vM).toArray.setIfInBounds i v = (classV c' vP' vI' vF' vM').toArray) (hp : vp = .slice none 0 0 ∨ vp = vP') : KB w g B L vb pool vp c' mv' vP' vI' vF' vM' s (W'.setCell ⟨w.heap.size + 1, i, none⟩ v) := by
  have hT0 : Touch (fun b => u.ownBlock = some b) W W' := Touch.of_grown hg fun k hk => hk
  have hT1 : Touch (fun b => b = w.heap.size + 1) W' (W'.setCell ⟨w.heap.size + 1, i, none⟩ v) := (Touch.refl _ _).one i v
  have hb : ∀ k, u.ownBlock = some k → w.heap.size + 2 ≤ k := fun k hk => (hrow.lt k hk).1
  have hgw := h.hg
  have hR0 := h.rs.off hT0 (fun e => by have := hb g e; omega) (fun h0 k hk e => by have := hb k e; have := h.hb h0 k hk; omega) (fun h0 k hk e => hpv k hk e)
  have hR1 := hR0.off hT1 (by omega) (fun h0 k hk => by have := h.hb h0 k hk; omega) (fun h0 k hk e => by
    rcases h.hp with rfl | rfl
    · cases hk
    · have := (h.rows.p.lt k hk).1
      omega)
  exact ⟨hR1, h.hb, hp, h.hg, hc ▸ (h.cls.touch hT0 fun e => by have := hb _ e; omega).set_ i v, (h.res.touch hT0 fun e => by have := hb _ e; omega).touch hT1 (by omega), hr.touch hT1 fun k hk => by omega,
    (h.tch.trans hT0 fun k hk => .inr (by have := hb k hk; omega)).setCell (p := ⟨w.heap.size + 1, i, none⟩) (.inr (by show w.heap.size ≤ w.heap.size + 1; omega)) v⟩
theorem KB.grow (h : KB w g B L vb pool vp c mv vP vI vF vM s W) {e sz n : Nat} {u : Value} {xs : List Value} (hrow : W.ownsRow (w.heap.size + 2) e sz u n xs) (hg : W.grownBy W' u.ownBlock) :
    Blk W' (w.heap.size + 1) 27 (classV c vP vI vF vM).toArray :=
  h.cls.touch (S := fun b => u.ownBlock = some b) (Touch.of_grown hg fun k hk => hk) fun e => by have := (hrow.lt _ e).1; omega
/-- The reader is handed the constants. -/
theorem KB.pool_ (h : KB w g B L vb [] vp c mv vP vI vF vM s W) (hl : c.pool.length ≤ 1024) : KB w g W.heap.size L vb c.pool vP c mv vP vI vF vM s (W.setCell ⟨g, 4, none⟩ vP) := by
  have hT : Touch (fun b => b = g) W (W.setCell ⟨g, 4, none⟩ vP) := (Touch.refl _ _).one 4 vP
  have hgw := h.hg
  have hr := h.rows.touch hT fun k hk => by omega
  have hw := h.tch.size
  refine ⟨⟨by simpa using h.rs.blk.set_ 4 vP, h.rs.rb.touch hT fun h0 k hk => (h.rs.nb h0 k hk).1, fun h0 k hk => ⟨(h.rs.nb h0 k hk).1, by have := h.hb h0 k hk; omega⟩, Rd.of_own hr.p, fun h0 k hk => ⟨by have := (h.rows.p.lt k hk).1; omega, (h.rows.p.lt k hk).2⟩, by omega, hT.size, h.rs.len, hl, h.rs.at_, h.rs.most, h.rs.named⟩, h.hb, .inr rfl, h.hg, h.cls.touch hT (by omega), h.res.touch hT (by omega), hr, h.tch.trans hT fun k hk => .inl hk⟩
theorem KB.cells (h : KB w g B L vb pool vp c mv vP vI vF vM s W) : W.cell? ⟨w.heap.size + 1, 0, none⟩ = some (.int .i64 c.minor) ∧ W.cell? ⟨w.heap.size + 1, 1, none⟩ = some (.int .i64 c.major) ∧ W.cell? ⟨w.heap.size + 1, 2, none⟩ = some vP ∧ W.cell? ⟨w.heap.size + 1, 3, none⟩ = some (.int .i64 c.access) ∧ W.cell? ⟨w.heap.size + 1, 4, none⟩ = some (.int .i64 c.this) ∧ W.cell? ⟨w.heap.size + 1, 5, none⟩ = some (.int .i64 c.super) ∧ W.cell? ⟨w.heap.size + 1, 6, none⟩ = some vI ∧ W.cell? ⟨w.heap.size + 1, 7, none⟩ = some vF ∧ W.cell? ⟨w.heap.size + 1, 8, none⟩ = some vM :=
  ⟨h.cls.cell 0, h.cls.cell 1, h.cls.cell 2, h.cls.cell 3, h.cls.cell 4, h.cls.cell 5, h.cls.cell 6, h.cls.cell 7, h.cls.cell 8⟩
end
end Go.Proofs.Ytbalmfoboaapjaa
