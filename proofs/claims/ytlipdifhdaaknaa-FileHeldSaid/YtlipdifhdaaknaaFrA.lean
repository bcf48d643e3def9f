/-
  The document's own reader of class files by contract: Read.
-/
import Derived.Test.YtlipdifhdaaknaaFr9
namespace Go.Proofs.Ytlipdifhdaaknaa
open Go.RowKit
set_option maxRecDepth 100000

/-- The document's reader and its class in memory. -/
def QE (g : Nat) (L : List UInt8) (vb : Value) (q : QS) (W : World) : Prop := ∃ mv vP vI vF vM, QX g L vb q mv vP vI vF vM W
section
variable {g : Nat} {L : List UInt8} {vb v : Value} {q q' : QS} {W W' : World}
theorem QE.c1 (h : QE g L vb q W) : W.cell? ⟨g, 1, none⟩ = some (.int .i64 q.at_) := by obtain ⟨_, _, _, _, _, h⟩ := h; exact h.rx.c1
theorem QE.c2 (h : QE g L vb q W) : W.cell? ⟨g, 2, none⟩ = some (.int .i64 q.e) := by obtain ⟨_, _, _, _, _, h⟩ := h; exact h.rx.c2
theorem QE.c3 (h : QE g L vb q W) : W.cell? ⟨g, 3, none⟩ = some (.int .i64 q.bad) := by obtain ⟨_, _, _, _, _, h⟩ := h; exact h.rx.cell 3 _ rfl
theorem QE.fr (h : QE g L vb q W) (i : Nat) : W.frozen? ⟨g, i, none⟩ = false := by obtain ⟨_, _, _, _, _, h⟩ := h; exact h.rx.blk.frozen i
theorem QE.lt (h : QE g L vb q W) : g < W.heap.size := by obtain ⟨_, _, _, _, _, h⟩ := h; exact h.rx.blk.lt
theorem QE.at_ (h : QE g L vb q W) : q.at_ ≤ L.length ∧ L.length ≤ 65536 := by obtain ⟨_, _, _, _, _, h⟩ := h; exact ⟨h.rx.at_, h.rx.len⟩
theorem QE.rg {vP vI vF vM : Value} {mv : List (MethC × Value × Value)} (h : QX g L vb q mv vP vI vF vM W) (hr : RG g L vb vP vI vF vM q' W W') (hc : q'.c = q.c) : QE g L vb q' W' ∧ Touch (fun b => g ≤ b) W W' :=
  ⟨⟨mv, vP, vI, vF, vM, h.rg hr hc⟩, hr.2.mono fun b hb => by omega⟩
/-- A number of the class's head is laid. -/
theorem QX.hdr {vP vI vF vM : Value} {mv : List (MethC × Value × Value)} (h : QX g L vb q mv vP vI vF vM W) (i : Nat) (u : Value) (c' : ClassC) (hc : (rdV vb vP vI vF vM q).toArray.setIfInBounds i u = (rdV vb vP vI vF vM { q with c := c' }).toArray) (h1 : c'.pool = q.c.pool) (h2 : c'.ifaces = q.c.ifaces) (h3 : c'.fields = q.c.fields) (h4 : c'.methods = q.c.methods) :
    QX g L vb { q with c := c' } mv vP vI vF vM (W.setCell ⟨g, i, none⟩ u) := by
  have hT : Touch (fun b => b = g) W (W.setCell ⟨g, i, none⟩ u) := (Touch.refl _ _).one i u
  have hr := h.rows.touch hT fun k hk => by omega
  exact ⟨h.rx.touch hT (hc ▸ h.rx.blk.set_ i u) h1 h.rx.at_ h.rx.most, ⟨h1 ▸ hr.p, h2 ▸ hr.i, h3 ▸ hr.f, hr.m, hr.r, h4 ▸ hr.ms⟩, h.nb⟩
theorem QE.minor (h : QE g L vb q W) (u : Int) : QE g L vb { q with c := { q.c with minor := u } } (W.setCell ⟨g, 6, none⟩ (.int .i64 u)) := by obtain ⟨mv, vP, vI, vF, vM, h⟩ := h; exact ⟨mv, vP, vI, vF, vM, h.hdr 6 _ _ rfl rfl rfl rfl rfl⟩
theorem QE.major (h : QE g L vb q W) (u : Int) : QE g L vb { q with c := { q.c with major := u } } (W.setCell ⟨g, 7, none⟩ (.int .i64 u)) := by obtain ⟨mv, vP, vI, vF, vM, h⟩ := h; exact ⟨mv, vP, vI, vF, vM, h.hdr 7 _ _ rfl rfl rfl rfl rfl⟩
theorem QE.access (h : QE g L vb q W) (u : Int) : QE g L vb { q with c := { q.c with access := u } } (W.setCell ⟨g, 9, none⟩ (.int .i64 u)) := by obtain ⟨mv, vP, vI, vF, vM, h⟩ := h; exact ⟨mv, vP, vI, vF, vM, h.hdr 9 _ _ rfl rfl rfl rfl rfl⟩
theorem QE.this (h : QE g L vb q W) (u : Int) : QE g L vb { q with c := { q.c with this := u } } (W.setCell ⟨g, 10, none⟩ (.int .i64 u)) := by obtain ⟨mv, vP, vI, vF, vM, h⟩ := h; exact ⟨mv, vP, vI, vF, vM, h.hdr 10 _ _ rfl rfl rfl rfl rfl⟩
theorem QE.super (h : QE g L vb q W) (u : Int) : QE g L vb { q with c := { q.c with super := u } } (W.setCell ⟨g, 11, none⟩ (.int .i64 u)) := by obtain ⟨mv, vP, vI, vF, vM, h⟩ := h; exact ⟨mv, vP, vI, vF, vM, h.hdr 11 _ _ rfl rfl rfl rfl rfl⟩
theorem QE.hcell (h : QE g L vb q W) : W.cell? ⟨g, 6, none⟩ = some (.int .i64 q.c.minor) ∧ W.cell? ⟨g, 7, none⟩ = some (.int .i64 q.c.major) ∧ W.cell? ⟨g, 9, none⟩ = some (.int .i64 q.c.access) ∧ W.cell? ⟨g, 10, none⟩ = some (.int .i64 q.c.this) ∧ W.cell? ⟨g, 11, none⟩ = some (.int .i64 q.c.super) := by
  obtain ⟨_, _, _, _, _, h⟩ := h
  exact ⟨h.rx.cell 6 _ rfl, h.rx.cell 7 _ rfl, h.rx.cell 9 _ rfl, h.rx.cell 10 _ rfl, h.rx.cell 11 _ rfl⟩
end
section
variable (g : Nat) (L : List UInt8) (vb : Value) (q : QS) (w : World) (h : QE g L vb q w)
include h
theorem numE (n : Nat) (hn : n = 1 ∨ n = 2 ∨ n = 4) (i : Int) (hi : i = n) {v : Int} {q' : QS} (he : numQ L n q = (v, q')) :
    Calls Try.prog 17 #[.pointer (some ⟨g, 0, none⟩), .int .i64 i] w fun e w' => e = .returned (.int .i64 v) ∧ QE g L vb q' w' ∧ Touch (fun b => g ≤ b) w w' := by
  obtain ⟨mv, vP, vI, vF, vM, h⟩ := h
  exact (ref3_num' g L vb vP vI vF vM q n w h.rx hn i hi he).mono fun e w' ⟨h1, h2⟩ => ⟨h1, QE.rg h h2 (by have := num_c L n q; rw [he] at this; exact this)⟩
theorem failE (p k : Int) {q' : QS} (he : failQ q p k = q') :
    Calls Try.prog 18 #[.pointer (some ⟨g, 0, none⟩), .int .i64 p, .int .i64 k] w fun e w' => e = .returned (.tuple #[]) ∧ QE g L vb q' w' ∧ Touch (fun b => g ≤ b) w w' := by
  obtain ⟨mv, vP, vI, vF, vM, h⟩ := h
  subst he
  exact (ref3_fail g L vb vP vI vF vM q p k w h.rx).mono fun e w' ⟨h1, h2⟩ => ⟨h1, QE.rg h h2 (fail_c _ _ _)⟩
theorem countE (m : Int) {v : Int} {q' : QS} (he : countQ L m q = (v, q')) :
    Calls Try.prog 20 #[.pointer (some ⟨g, 0, none⟩), .int .i64 m] w fun e w' => e = .returned (.int .i64 v) ∧ QE g L vb q' w' ∧ Touch (fun b => g ≤ b) w w' := by
  obtain ⟨mv, vP, vI, vF, vM, h⟩ := h
  have C := ref3_count g L vb vP vI vF vM q m w h.rx
  have hc := count_c L m q
  rw [he] at C hc
  exact C.mono fun e w' ⟨h1, h2⟩ => ⟨h1, QE.rg h h2 hc⟩
theorem skipE {q' : QS} (he : skipQ L q = q') :
    Calls Try.prog 23 #[.pointer (some ⟨g, 0, none⟩)] w fun e w' => e = .returned (.tuple #[]) ∧ QE g L vb q' w' ∧ Touch (fun b => g ≤ b) w w' := by
  obtain ⟨mv, vP, vI, vF, vM, h⟩ := h
  subst he
  exact (ref3_skip g L vb vP vI vF vM q w h.rx).mono fun e w' ⟨h1, h2⟩ => ⟨h1, QE.rg h h2 (skip_c L q)⟩
theorem constE (hp : q.c.pool.length ≤ 65535) :
    Calls Try.prog 19 #[.pointer (some ⟨g, 0, none⟩)] w fun e w' => e = .returned (.tuple #[]) ∧ QE g L vb (constQ L q) w' ∧ Touch (fun b => g ≤ b) w w' := by
  obtain ⟨mv, vP, vI, vF, vM, h⟩ := h
  exact (ref3_constant g L vb q mv vP vI vF vM w h hp).mono fun e w' ⟨h1, vP', h2, h3⟩ => ⟨h1, ⟨_, _, _, _, _, h2⟩, h3⟩
theorem fieldE (hp : q.c.fields.length ≤ 65535) :
    Calls Try.prog 21 #[.pointer (some ⟨g, 0, none⟩)] w fun e w' => e = .returned (.tuple #[]) ∧ QE g L vb (fieldQ L q) w' ∧ Touch (fun b => g ≤ b) w w' := by
  obtain ⟨mv, vP, vI, vF, vM, h⟩ := h
  exact (ref3_field g L vb q mv vP vI vF vM w h hp).mono fun e w' ⟨h1, vF', h2, h3⟩ => ⟨h1, ⟨_, _, _, _, _, h2⟩, h3⟩
theorem methE (hp : q.c.methods.length ≤ 65535) :
    Calls Try.prog 22 #[.pointer (some ⟨g, 0, none⟩)] w fun e w' => e = .returned (.tuple #[]) ∧ QE g L vb (methQ L q) w' ∧ Touch (fun b => g ≤ b) w w' := by
  obtain ⟨mv, vP, vI, vF, vM, h⟩ := h
  exact (ref3_method g L vb q mv vP vI vF vM w h hp).mono fun e w' ⟨h1, mv', vM', h2, h3⟩ => ⟨h1, ⟨_, _, _, _, _, h2⟩, h3⟩
end
theorem many_out {f : QS → QS} {q : QS} (h : ¬ q.e = 0) (n : Nat) : manyQ f n q = q := by
  cases n with
  | zero => rfl
  | succ n => unfold manyQ; rw [if_pos h]
theorem many_in {f : QS → QS} {q : QS} (h : q.e = 0) (n : Nat) : manyQ f (n + 1) q = manyQ f n (f q) := by
  rw [manyQ, if_neg (fun e => e h)]
theorem readQ_long {L : List UInt8} (h : 65536 < L.length) : readQ L = (zeroC, 0, 2) := by unfold readQ; rw [if_pos h]
/-- A load of a struct that lies within another one. -/
theorem run_loadVar_at {P : Program} (w : World) (g off : Nat) (ty : TypeId) (part : Array Value) (d : TypeDesc) (hg : ∀ j v, part.toList[j]? = some v → w.cell? ⟨g, off + j, none⟩ = some v)
    (hu : P.underlying ty = some d) (hd : (match d with | .struct _ | .array _ _ => true | _ => false) = true) (hi : (P.info? ty).map (·.size) = some part.size) :
    (loadVar ty ⟨g, off, none⟩).run P w = .ok (.agg part) w := by
  have hl : (loadCells ⟨g, off, none⟩ part.toList.length).run P w = .ok part.toList.toArray w :=
    run_loadCells_list (P := P) w ⟨g, off, none⟩ part.toList (fun j v hv => by
      have hadd : (⟨g, off, none⟩ : Addr).add j = ⟨g, off + j, none⟩ := add_none g off j
      rw [hadd]
      exact hg j v hv)
  cases hq : P.info? ty with
  | none => simp [hq] at hi
  | some i =>
    have hs : i.size = part.size := by simpa [hq] using hi
    have hagg : (isAgg ty).run P w = .ok true w := by
      unfold isAgg
      rw [Sem.run_bind, run_underlying hu w]
      cases d <;> simp_all
    simp only [Array.length_toList, Array.toArray_toList] at hl
    simp [loadVar, Sem.run_bind, hagg, sizeOf, typeInfo, hq, hs, hl]
theorem wpList_load_at {P : Program} {ops : Array Oper} {rest : List Oper} {o : Oper} {a : Act} {w : World} {Q : Exit → Act → World → Prop} (hgd : o.guard = none) (ty : TypeId) (x : Operand) (ho : o.op = .load ty x)
    (g off : Nat) (hx : a.eval x = .pointer (some ⟨g, off, none⟩)) (part : Array Value) (d : TypeDesc) (hg : ∀ j v, part.toList[j]? = some v → w.cell? ⟨g, off + j, none⟩ = some v)
    (hu : P.underlying ty = some d) (hd : (match d with | .struct _ | .array _ _ => true | _ => false) = true) (hi : (P.info? ty).map (·.size) = some part.size)
    (h : wpList P ops Q rest (a.put o.dst (.agg part)) w) : wpList P ops Q (o :: rest) a w := by
  refine wpList_plain hgd fun _ hK => ?_
  unfold Oper.wp execOp
  simp only [ho, hx, Instr.loadAt, Instr.sureAddr, Sem.run_bind, Sem.run_pure, Result.andThen_ok, run_loadVar_at w g off ty part d hg hu hd hi]
  exact hK _ _ h
theorem Touch.setRow {S : Nat → Prop} {w w' : World} (h : Touch S w w') {g : Nat} (hg : S g ∨ w.heap.size ≤ g) (cs : Array Value) : Touch S w (w'.setRow g cs) :=
  ⟨h.os, h.tape, h.output, by have := h.size; simp; omega, fun b hb hn => by rw [setRow_other _ _ _ _ (fun e => by subst e; rcases hg with h1 | h1 <;> first | exact hn h1 | omega)]; exact h.blocks b hb hn⟩
theorem decT {p : Prop} [Decidable p] (h : p) : Value.bool true = .bool (decide p) := by rw [decide_eq_true h]
theorem decF {p : Prop} [Decidable p] (h : ¬ p) : Value.bool false = .bool (decide p) := by rw [decide_eq_false h]
set_option maxHeartbeats 16000000 in
theorem ref3_Read (L : List UInt8) (vb : Value) (w : World) (hrd : Rd w 1 vb L.length (L.map byteV)) :
    Calls Try.prog 10 #[vb] w (ReadG L w) := by
  have HRD := Lib.hid hrd
  have hbk := rd_block hrd
  obtain ⟨_, a, c, rfl, h1, h2, h3⟩ := hrd
  by_cases hl : 65536 < L.length
  · have hltJ : (65536 : Int) < (L.length : Int) := by omega
    have HP := Lib.hid (show readP L = (zeroC, 0, 2) by rw [← readQ_eq, readQ_long hl])
    clear h3 hbk
    go_enter Try.func10, Try.ntmps10
    go_wp2_with fail
    go_returns
    unfold ReadG
    rw [HP.out]
    exact ⟨[], _, _, _, _, rfl, CR.zero _ _, ((Below.refl _ _).alloc (Nat.le_refl _) _)⟩
  have hltJ : ¬ (65536 : Int) < (L.length : Int) := by omega
  have hlen : L.length ≤ 65536 := by omega
  obtain ⟨q0, hq0⟩ : ∃ q0 : QS, q0 = ⟨0, 0, 0, far, 0, zeroC⟩ := ⟨_, rfl⟩
  obtain ⟨g, hg⟩ : ∃ g, g = w.heap.size + 1 := ⟨_, rfl⟩
  have hX0 : QE g L (.slice a L.length c) q0 ((w.alloc (.cells #[.int .i64 0, .int .i64 0, .slice none 0 0, .int .i64 0, .int .i64 0, .int .i64 0, .slice none 0 0, .slice none 0 0, .slice none 0 0] 29)).alloc (.cells #[.slice a L.length c, .int .i64 0, .int .i64 0, .int .i64 0, .int .i64 4611686018427387904, .int .i64 0, .int .i64 0, .int .i64 0, .slice none 0 0, .int .i64 0, .int .i64 0, .int .i64 0, .slice none 0 0, .slice none 0 0, .slice none 0 0] 54)) := by
    refine ⟨[], .slice none 0 0, .slice none 0 0, .slice none 0 0, .slice none 0 0, ⟨?_, ((HRD.out.kept ((Below.refl _ _).alloc (Nat.le_refl _) _)).kept ((Below.refl _ _).alloc (Nat.le_refl _) _)), fun h0 k hk => by have := hbk h0 k hk; omega, ?_, fun h0 => ?_, hlen, ?_, ?_, ?_⟩, ?_, fun h0 k hk => by have := hbk h0 k hk; omega⟩
    · subst hq0; subst hg; exact blkF (by simp)
    · subst hq0; exact rd_nil _ _
    · subst hq0; exact absurd h0 (by simp [zeroC])
    · subst hq0; simp [zeroC]
    · subst hq0; simp
    · subst hq0; unfold far; simp
    · subst hq0; exact CR.zero _ _
  have hT0 : Touch (fun b => g ≤ b) ((w.alloc (.cells #[.int .i64 0, .int .i64 0, .slice none 0 0, .int .i64 0, .int .i64 0, .int .i64 0, .slice none 0 0, .slice none 0 0, .slice none 0 0] 29)).alloc (.cells #[.slice a L.length c, .int .i64 0, .int .i64 0, .int .i64 0, .int .i64 4611686018427387904, .int .i64 0, .int .i64 0, .int .i64 0, .slice none 0 0, .int .i64 0, .int .i64 0, .int .i64 0, .slice none 0 0, .slice none 0 0, .slice none 0 0] 54)) ((w.alloc (.cells #[.int .i64 0, .int .i64 0, .slice none 0 0, .int .i64 0, .int .i64 0, .int .i64 0, .slice none 0 0, .slice none 0 0, .slice none 0 0] 29)).alloc (.cells #[.slice a L.length c, .int .i64 0, .int .i64 0, .int .i64 0, .int .i64 4611686018427387904, .int .i64 0, .int .i64 0, .int .i64 0, .slice none 0 0, .int .i64 0, .int .i64 0, .int .i64 0, .slice none 0 0, .slice none 0 0, .slice none 0 0] 54)) := Touch.refl _ _
  have hZ0 : Blk ((w.alloc (.cells #[.int .i64 0, .int .i64 0, .slice none 0 0, .int .i64 0, .int .i64 0, .int .i64 0, .slice none 0 0, .slice none 0 0, .slice none 0 0] 29)).alloc (.cells #[.slice a L.length c, .int .i64 0, .int .i64 0, .int .i64 0, .int .i64 4611686018427387904, .int .i64 0, .int .i64 0, .int .i64 0, .slice none 0 0, .int .i64 0, .int .i64 0, .int .i64 0, .slice none 0 0, .slice none 0 0, .slice none 0 0] 54)) w.heap.size 29 #[.int .i64 0, .int .i64 0, .slice none 0 0, .int .i64 0, .int .i64 0, .int .i64 0, .slice none 0 0, .slice none 0 0, .slice none 0 0] := (Blk.new _ _ _).alloc _
  have hK0 : Kept w ((w.alloc (.cells #[.int .i64 0, .int .i64 0, .slice none 0 0, .int .i64 0, .int .i64 0, .int .i64 0, .slice none 0 0, .slice none 0 0, .slice none 0 0] 29)).alloc (.cells #[.slice a L.length c, .int .i64 0, .int .i64 0, .int .i64 0, .int .i64 4611686018427387904, .int .i64 0, .int .i64 0, .int .i64 0, .slice none 0 0, .int .i64 0, .int .i64 0, .int .i64 0, .slice none 0 0, .slice none 0 0, .slice none 0 0] 54)) := ((Below.refl _ _).alloc (Nat.le_refl _) _).alloc (by simp) _
  obtain ⟨mg, qa, ha, hac, -, -⟩ := num_eq4 L q0
  obtain ⟨qb, hb⟩ : ∃ qb, (if qa.e = 0 ∧ mg ≠ 3405691582 then failQ qa 0 11 else qa) = qb := ⟨_, rfl⟩
  obtain ⟨mi, qc, hc, hcc, -, -⟩ := num_eq2 L qb
  obtain ⟨qc', hc'⟩ : ∃ q : QS, { qc with c := { qc.c with minor := mi } } = q := ⟨_, rfl⟩
  obtain ⟨ma, qd, hd, hdc, -, -⟩ := num_eq2 L qc'
  obtain ⟨qd', hd'⟩ : ∃ q : QS, { qd with c := { qd.c with major := ma } } = q := ⟨_, rfl⟩
  have hpre0 : preQ0 L q0 = qd' := by unfold preQ0; simp only [ha, hb, hc, hc', hd, hd']
  obtain ⟨n, qe, he, hec, hn0, hn1⟩ := num_eq2 L qd'
  obtain ⟨qe1, he1⟩ : ∃ q, (if qe.e = 0 ∧ n = 0 then failQ qe (qd'.at_ : Int) 20 else qe) = q := ⟨_, rfl⟩
  obtain ⟨qe2, he2⟩ : ∃ q, (if 1025 < n then failQ qe1 (qd'.at_ : Int) 2 else qe1) = q := ⟨_, rfl⟩
  obtain ⟨qf, hf⟩ : ∃ q, manyQ (constQ L) (n.toNat - 1) qe2 = q := ⟨_, rfl⟩
  have hpre1 : preQ1 L qd' = qf := by unfold preQ1; simp only [he, he1, he2, hf]
  obtain ⟨ac, qg, hgg, hgc, -, -⟩ := num_eq2 L qf
  obtain ⟨qg', hg'⟩ : ∃ q : QS, { qg with c := { qg.c with access := ac } } = q := ⟨_, rfl⟩
  obtain ⟨th, qh, hh, hhc, -, -⟩ := num_eq2 L qg'
  obtain ⟨qh', hh'⟩ : ∃ q : QS, { qh with c := { qh.c with this := th } } = q := ⟨_, rfl⟩
  obtain ⟨su, qi, hi, hic, -, -⟩ := num_eq2 L qh'
  obtain ⟨qi', hi'⟩ : ∃ q : QS, { qi with c := { qi.c with super := su } } = q := ⟨_, rfl⟩
  have hpre2 : preQ2 L qf = qi' := by unfold preQ2; simp only [hgg, hg', hh, hh', hi, hi']
  obtain ⟨ni, qj, hj, hjc, hni0, hni1⟩ := count_eq L 64 qi' (by decide)
  obtain ⟨qk, hk⟩ : ∃ q, manyQ (ifaceQ L) ni.toNat qj = q := ⟨_, rfl⟩
  obtain ⟨nf, ql, hl', hlc, hnf0, hnf1⟩ := count_eq L 64 qk (by decide)
  obtain ⟨qm, hm⟩ : ∃ q, manyQ (fieldQ L) nf.toNat ql = q := ⟨_, rfl⟩
  obtain ⟨nm, qn, hn, hnc, hnm0, hnm1⟩ := count_eq L 64 qm (by decide)
  obtain ⟨qo, ho⟩ : ∃ q, manyQ (methQ L) nm.toNat qn = q := ⟨_, rfl⟩
  obtain ⟨qp, hp⟩ : ∃ q, skipQ L qo = q := ⟨_, rfl⟩
  obtain ⟨qq, hq⟩ : ∃ q, (if qp.e = 0 ∧ qp.at_ < L.length then failQ qp (qp.at_ : Int) 14 else qp) = q := ⟨_, rfl⟩
  have hcls : classQ L q0 = qq := by
    unfold classQ listQ
    rw [hpre0, hpre1, hpre2]
    simp only [hj, hk, hl', hm, hn, ho, hp, hq]
  have hemp : qe2.c.pool = [] ∧ qe2.c.ifaces = [] ∧ qe2.c.fields = [] ∧ qe2.c.methods = [] := by
    have e1 : qe2.c = qd'.c := by rw [← he2, ← he1]; simp only [apply_ite QS.c, fail_c, ite_self, hec]
    have e2 : qb.c = zeroC := by rw [← hb]; simp only [apply_ite QS.c, fail_c, ite_self, hac, hq0]
    rw [e1, ← hd']
    dsimp only
    rw [hdc, ← hc']
    dsimp only
    rw [hcc, e2]
    exact ⟨rfl, rfl, rfl, rfl⟩
  have hci : qi'.c.ifaces = qf.c.ifaces ∧ qi'.c.fields = qf.c.fields ∧ qi'.c.methods = qf.c.methods := by
    rw [← hi']
    dsimp only
    rw [hic, ← hh']
    dsimp only
    rw [hhc, ← hg']
    dsimp only
    rw [hgc]
    exact ⟨rfl, rfl, rfl⟩
  have HEMP := Lib.hid hemp
  have HCI := Lib.hid hci
  clear hemp hci hac hcc hdc hgc hhc hic
  have HP := Lib.hid (show readP L = if qq.e ≠ 0 then (zeroC, qq.bad, qq.e) else (qq.c, 0, 0) by
    rw [← readQ_eq]
    unfold readQ
    rw [if_neg (by omega), ← hq0]
    dsimp only
    rw [hcls])
  have HA := Lib.hid ha
  have HB := Lib.hid hb
  have HC := Lib.hid hc
  have HC' := Lib.hid hc'
  have HD := Lib.hid hd
  have HD' := Lib.hid hd'
  have HE := Lib.hid he
  have HEC := Lib.hid hec
  have HE1 := Lib.hid he1
  have HE2 := Lib.hid he2
  have HF := Lib.hid hf
  have HGG := Lib.hid hgg
  have HG' := Lib.hid hg'
  have HH := Lib.hid hh
  have HH' := Lib.hid hh'
  have HI := Lib.hid hi
  have HI' := Lib.hid hi'
  have HJ := Lib.hid hj
  have HJC := Lib.hid hjc
  have HK := Lib.hid hk
  have HL' := Lib.hid hl'
  have HLC := Lib.hid hlc
  have HM := Lib.hid hm
  have HN := Lib.hid hn
  have HNC := Lib.hid hnc
  have HO := Lib.hid ho
  have HSP := Lib.hid hp
  have HQ := Lib.hid hq
  have HG := Lib.hid hg
  have HQ0 := Lib.hid hq0
  clear hpre0 hpre1 hpre2 hcls hq0 hl h3 hbk HRD ha hb hc hc' hd hd' he hec he1 he2 hf hgg hg' hh hh' hi hi' hj hjc hk hl' hlc hm hn hnc ho hp hq
  obtain ⟨N, rfl⟩ : ∃ N : Nat, n = N := ⟨n.toNat, by omega⟩
  obtain ⟨NI, rfl⟩ : ∃ N : Nat, ni = N := ⟨ni.toNat, by omega⟩
  obtain ⟨NF, rfl⟩ : ∃ N : Nat, nf = N := ⟨nf.toNat, by omega⟩
  obtain ⟨NM, rfl⟩ : ∃ N : Nat, nm = N := ⟨nm.toNat, by omega⟩
  have hNb : N ≤ 65535 := by omega
  have hNIb : NI ≤ 64 := by omega
  have hNFb : NF ≤ 64 := by omega
  have hNMb : NM ≤ 64 := by omega
  clear hn0 hn1 hni0 hni1 hnf0 hnf1 hnm0 hnm1
  have X0 := Lib.hid hX0
  have T0 := Lib.hid hT0
  have Z0 := Lib.hid hZ0
  have K0 := Lib.hid hK0
  clear hX0 hT0 hZ0 hK0
  go_enter Try.func10, Try.ntmps10
  go_upto_region 4 with fail
  rw [← hg]
  generalize ((w.alloc (.cells #[.int .i64 0, .int .i64 0, .slice none 0 0, .int .i64 0, .int .i64 0, .int .i64 0, .slice none 0 0, .slice none 0 0, .slice none 0 0] 29)).alloc (.cells #[.slice a L.length c, .int .i64 0, .int .i64 0, .int .i64 0, .int .i64 4611686018427387904, .int .i64 0, .int .i64 0, .int .i64 0, .slice none 0 0, .int .i64 0, .int .i64 0, .int .i64 0, .slice none 0 0, .slice none 0 0, .slice none 0 0] 54)) = W2 at *
  obtain ⟨vb, hvb⟩ : ∃ vb, vb = Value.slice a L.length c := ⟨_, rfl⟩
  rw [← hvb] at X0
  have HVB := Lib.hid hvb
  clear hvb hg
  go_wp2_with fail
  refine (numE g L vb q0 W2 X0.out 4 (by omega) 4 rfl HA.out).mono ?_
  rintro e x1 ⟨rfl, hk, ht⟩
  have K1 := Lib.hid hk
  have T1 := Lib.hid (T0.out.trans ht fun b hb => .inl hb)
  clear hk ht X0 T0
  go_upto_region 5 with fail
  have c2 := K1.out.c2
  go_cut [30] from 22 to 30 (fun s wx => s = .bool (decide (qa.e = 0 ∧ mg ≠ 3405691582)) ∧ x1 = wx)
  case first =>
    by_cases he : qa.e = 0
    · rw [he] at c2
      by_cases hm : mg = 3405691582
      · have hm' : (mg != 3405691582) = false := by simpa using hm
        go_wp2_with fail
        go_meet
        exact ⟨decF (fun e => e.2 hm), rfl⟩
      · have hm' : (mg != 3405691582) = true := by simpa using hm
        go_wp2_with fail
        go_meet
        exact ⟨decT ⟨he, hm⟩, rfl⟩
    · have he' := int_ne he
      go_wp2_with fail
      go_meet
      exact ⟨decF (fun e => he e.1), rfl⟩
  case rest =>
  obtain ⟨rfl, rfl⟩ := hcut
  clear c2
  obtain ⟨bb, hbb⟩ : ∃ b, b = decide (qa.e = 0 ∧ mg ≠ 3405691582) := ⟨_, rfl⟩
  rw [← hbb]
  have HBB := Lib.hid hbb
  clear hbb
  go_upto_if 30 with fail
  go_cut [6] from 31 to 32 (fun s wx => s = .int .i64 mg ∧ QE g L vb qb wx ∧ Touch (fun b => g ≤ b) W2 wx)
  case first =>
    cases bb with
    | true =>
      have hb := of_decide_eq_true HBB.out.symm
      have he : failQ qa 0 11 = qb := by have := HB.out; rw [if_pos hb] at this; exact this
      have C := failE g L vb qa _ K1.out 0 11 he
      have c1 := K1.out.c1
      clear hb he
      go_wp2_with fail
      refine C.mono ?_
      rintro e xf ⟨rfl, hk, ht⟩
      have Kf := Lib.hid hk
      have Tf := Lib.hid (T1.out.trans ht fun b hb => .inl hb)
      clear hk ht C
      go_wp2_with fail
      go_meet
      exact ⟨rfl, Kf.out, Tf.out⟩
    | false =>
      have hb := of_decide_eq_false HBB.out.symm
      have he : qa = qb := by have := HB.out; rw [if_neg hb] at this; exact this
      have Kf := Lib.hid (he ▸ K1.out)
      clear hb he
      go_wp2_with fail
      go_meet
      exact ⟨rfl, Kf.out, T1.out⟩
  case rest =>
  obtain ⟨rfl, hk, ht⟩ := hcut
  rename World => x2
  have K2 := Lib.hid hk
  have T2 := Lib.hid ht
  clear hk ht K1 T1 HBB
  go_wp2_with fail
  refine (numE g L vb qb x2 K2.out 2 (by omega) 2 rfl HC.out).mono ?_
  rintro e x3 ⟨rfl, hk, ht⟩
  have K3 := Lib.hid hk
  have T3 := Lib.hid (T2.out.trans ht fun b hb => .inl hb)
  clear hk ht K2 T2
  have cc := K3.out.hcell.1
  have ff := K3.out.fr 6
  have lg := K3.out.lt
  go_upto_region 8 with fail
  have K4 : Hid (QE g L vb qc' (x3.setCell ⟨g, 6, none⟩ (.int .i64 mi))) := Lib.hid (HC'.out ▸ K3.out.minor mi)
  have T4 := Lib.hid (T3.out.setCell (p := ⟨g, 6, none⟩) (.inl (Nat.le_refl g)) (.int .i64 mi))
  clear cc ff lg K3 T3
  generalize x3.setCell ⟨g, 6, none⟩ (.int .i64 mi) = X4 at *
  go_wp2_with fail
  refine (numE g L vb qc' X4 K4.out 2 (by omega) 2 rfl HD.out).mono ?_
  rintro e x5 ⟨rfl, hk, ht⟩
  have K5 := Lib.hid hk
  have T5 := Lib.hid (T4.out.trans ht fun b hb => .inl hb)
  clear hk ht K4 T4
  have cc := K5.out.hcell.2.1
  have ff := K5.out.fr 7
  have lg := K5.out.lt
  go_upto_region 9 with fail
  have K6 : Hid (QE g L vb qd' (x5.setCell ⟨g, 7, none⟩ (.int .i64 ma))) := Lib.hid (HD'.out ▸ K5.out.major ma)
  have T6 := Lib.hid (T5.out.setCell (p := ⟨g, 7, none⟩) (.inl (Nat.le_refl g)) (.int .i64 ma))
  clear cc ff lg K5 T5
  generalize x5.setCell ⟨g, 7, none⟩ (.int .i64 ma) = X6 at *
  have c1 := K6.out.c1
  go_wp2_with fail
  refine (numE g L vb qd' X6 K6.out 2 (by omega) 2 rfl HE.out).mono ?_
  rintro e x7 ⟨rfl, hk, ht⟩
  have K7 := Lib.hid hk
  have T7 := Lib.hid (T6.out.trans ht fun b hb => .inl hb)
  clear hk ht K6 T6 c1
  go_upto_region 11 with fail
  have c2 := K7.out.c2
  go_cut [59] from 51 to 59 (fun s wx => s = .bool (decide (qe.e = 0 ∧ (N : Int) = 0)) ∧ x7 = wx)
  case first =>
    by_cases he : qe.e = 0
    · rw [he] at c2
      by_cases hm : (N : Int) = 0
      · have hm' : ((N : Int) == 0) = true := by simpa using hm
        have HM := Lib.hid hm
        clear hm
        go_wp2_with fail
        go_meet
        exact ⟨decT ⟨he, HM.out⟩, rfl⟩
      · have hm' : ((N : Int) == 0) = false := by simpa using hm
        have HM := Lib.hid hm
        clear hm
        go_wp2_with fail
        go_meet
        exact ⟨decF (fun e => HM.out e.2), rfl⟩
    · have he' := int_ne he
      go_wp2_with fail
      go_meet
      exact ⟨decF (fun e => he e.1), rfl⟩
  case rest =>
  obtain ⟨rfl, rfl⟩ := hcut
  clear c2
  obtain ⟨bb, hbb⟩ : ∃ b, b = decide (qe.e = 0 ∧ (N : Int) = 0) := ⟨_, rfl⟩
  rw [← hbb]
  have HBB := Lib.hid hbb
  clear hbb
  go_upto_if 59 with fail
  go_cut [8] from 60 to 62 (fun s wx => s = .int .i64 N ∧ QE g L vb qe1 wx ∧ Touch (fun b => g ≤ b) W2 wx)
  case first =>
    cases bb with
    | true =>
      have hb := of_decide_eq_true HBB.out.symm
      have he : failQ qe (qd'.at_ : Int) 20 = qe1 := by have := HE1.out; rw [if_pos hb] at this; exact this
      have C := failE g L vb qe _ K7.out (qd'.at_ : Int) 20 he
      have c1 := K7.out.c1
      clear hb he
      go_wp2_with fail
      refine C.mono ?_
      rintro e xf ⟨rfl, hk, ht⟩
      have Kf := Lib.hid hk
      have Tf := Lib.hid (T7.out.trans ht fun b hb => .inl hb)
      clear hk ht C
      go_wp2_with fail
      go_meet
      exact ⟨rfl, Kf.out, Tf.out⟩
    | false =>
      have hb := of_decide_eq_false HBB.out.symm
      have he : qe = qe1 := by have := HE1.out; rw [if_neg hb] at this; exact this
      have Kf := Lib.hid (he ▸ K7.out)
      clear hb he
      go_wp2_with fail
      go_meet
      exact ⟨rfl, Kf.out, T7.out⟩
  case rest =>
  obtain ⟨rfl, hk, ht⟩ := hcut
  rename World => x8
  have K8 := Lib.hid hk
  have T8 := Lib.hid ht
  clear hk ht K7 T7 HBB
  go_upto_if 64 with fail
  obtain ⟨bb, hbb⟩ : ∃ b, b = decide ((1025 : Int) < (N : Int)) := ⟨_, rfl⟩
  rw [← hbb]
  have HBB := Lib.hid hbb
  clear hbb
  go_cut [8] from 65 to 67 (fun s wx => s = .int .i64 N ∧ QE g L vb qe2 wx ∧ Touch (fun b => g ≤ b) W2 wx)
  case first =>
    cases bb with
    | true =>
      have hb := of_decide_eq_true HBB.out.symm
      have he : failQ qe1 (qd'.at_ : Int) 2 = qe2 := by have := HE2.out; rw [if_pos hb] at this; exact this
      have C := failE g L vb qe1 _ K8.out (qd'.at_ : Int) 2 he
      have c1 := K8.out.c1
      clear hb he
      go_wp2_with fail
      refine C.mono ?_
      rintro e xf ⟨rfl, hk, ht⟩
      have Kf := Lib.hid hk
      have Tf := Lib.hid (T8.out.trans ht fun b hb => .inl hb)
      clear hk ht C
      go_wp2_with fail
      go_meet
      exact ⟨rfl, Kf.out, Tf.out⟩
    | false =>
      have hb := of_decide_eq_false HBB.out.symm
      have he : qe1 = qe2 := by have := HE2.out; rw [if_neg hb] at this; exact this
      have Kf := Lib.hid (he ▸ K8.out)
      clear hb he
      go_wp2_with fail
      go_meet
      exact ⟨rfl, Kf.out, T8.out⟩
  case rest =>
  obtain ⟨rfl, hk, ht⟩ := hcut
  rename World => x9
  have K9 := Lib.hid hk
  have T9 := Lib.hid ht
  clear hk ht K8 T8 HBB
  obtain ⟨M, hM⟩ : ∃ M, M = N - 1 := ⟨_, rfl⟩
  have HF' : Hid (manyQ (constQ L) (M - 0) qe2 = qf) := Lib.hid (by have := HF.out; rw [hM]; exact this)
  go_wp2_with fail
  go_loopw [9] (fun s wr => ∃ (k : Nat) (qx : QS), k ≤ M ∧ s = .int .i64 ((k : Int) + 1) ∧ QE g L vb qx wr ∧ Touch (fun b => g ≤ b) W2 wr ∧ (qx.c.pool.length ≤ k ∧ qx.c.ifaces = [] ∧ qx.c.fields = [] ∧ qx.c.methods = []) ∧ manyQ (constQ L) (M - k) qx = qf) (fun s _ => M + 1 - (intOf s).toNat)
  case atStart => exact ⟨0, qe2, Nat.zero_le _, rfl, K9.out, T9.out, ⟨by rw [HEMP.out.1]; exact Nat.le_refl _, HEMP.out.2⟩, HF'.out⟩
  case round =>
  obtain ⟨k, qx, hk, rfl, hq, ht, hinv, hr⟩ := hrel
  have Kw := Lib.hid hq
  have Tw := Lib.hid ht
  have HINV := Lib.hid hinv
  have HRW := Lib.hid hr
  clear hq ht hinv hr K9 T9
  have c2 := Kw.out.c2
  go_upto_region 16 with fail
  go_cut [77] from 68 to 77 (fun s wx => s = .bool (decide (k < M ∧ qx.e = 0)) ∧ wr = wx)
  case first =>
    by_cases hlt : k < M
    · have hltI : (k : Int) + 1 < (N : Int) := by omega
      by_cases he : qx.e = 0
      · rw [he] at c2
        go_wp2_with fail
        go_meet
        exact ⟨decT ⟨hlt, he⟩, rfl⟩
      · have he' := int_ne he
        go_wp2_with fail
        go_meet
        exact ⟨decF (fun e => he e.2), rfl⟩
    · have hltI : ¬ (k : Int) + 1 < (N : Int) := by omega
      go_wp2_with fail
      go_meet
      exact ⟨decF (fun e => hlt e.1), rfl⟩
  case rest =>
  obtain ⟨rfl, rfl⟩ := hcut
  clear c2
  obtain ⟨bb, hbb⟩ : ∃ b, b = decide (k < M ∧ qx.e = 0) := ⟨_, rfl⟩
  rw [← hbb]
  have HBB := Lib.hid hbb
  clear hbb
  cases bb
  rotate_left
  · have hgo := of_decide_eq_true HBB.out.symm
    have hlt := hgo.1
    have HE0 := Lib.hid hgo.2
    obtain ⟨j, hj⟩ : ∃ j, M - k = j + 1 := ⟨M - k - 1, by omega⟩
    have hjk : j = M - (k + 1) := by omega
    have HR2 : Hid (manyQ (constQ L) (M - (k + 1)) (constQ L qx) = qf) := Lib.hid (by have := HRW.out; rw [hj, many_in hgo.2, hjk] at this; exact this)
    clear hgo hj hjk HRW HBB
    have C := constE g L vb qx wr Kw.out (by have := HINV.out; omega)
    go_wp2_with fail
    refine C.mono ?_
    rintro e x ⟨rfl, hk', ht'⟩
    have Kx := Lib.hid hk'
    have Tx := Lib.hid (Tw.out.trans ht' fun b hb => .inl hb)
    clear hk' ht' C
    go_wp2_with fail
    go_roundw
    case rel => exact ⟨k + 1, constQ L qx, by omega, by go_num, Kx.out, Tx.out, ⟨by show (qx.c.pool ++ [_]).length ≤ k + 1; rw [List.length_append]; have := HINV.out.1; simp only [List.length_singleton]; omega, HINV.out.2⟩, HR2.out⟩
    case measure => simp [intOf]; omega
  have hgo := of_decide_eq_false HBB.out.symm
  have hend : qf = qx := by
    have := HRW.out
    symm
    by_cases hlt : k < M
    · rw [many_out (fun e => hgo ⟨hlt, e⟩)] at this
      exact this
    · rw [show M - k = 0 by omega] at this
      exact this
  subst hend
  have Kp := Lib.hid Kw.out
  have Tp := Lib.hid Tw.out
  have HIKp := Lib.hid HINV.out
  clear hgo HRW HBB Kw Tw HINV
  obtain ⟨xp, hxw⟩ : ∃ x, x = wr := ⟨_, rfl⟩
  subst hxw
  go_wp2_with fail
  refine (numE g L vb qf xp Kp.out 2 (by omega) 2 rfl HGG.out).mono ?_
  rintro e xa ⟨rfl, hk, ht⟩
  have Ka := Lib.hid hk
  have Ta := Lib.hid (Tp.out.trans ht fun b hb => .inl hb)
  clear hk ht Kp Tp
  have cc := Ka.out.hcell.2.2.1
  have ff := Ka.out.fr 9
  have lg := Ka.out.lt
  go_upto_region 20 with fail
  have Kb : Hid (QE g L vb qg' (xa.setCell ⟨g, 9, none⟩ (.int .i64 ac))) := Lib.hid (HG'.out ▸ Ka.out.access ac)
  have Tb := Lib.hid (Ta.out.setCell (p := ⟨g, 9, none⟩) (.inl (Nat.le_refl g)) (.int .i64 ac))
  clear cc ff lg Ka Ta
  generalize xa.setCell ⟨g, 9, none⟩ (.int .i64 ac) = Xb at *
  go_wp2_with fail
  refine (numE g L vb qg' Xb Kb.out 2 (by omega) 2 rfl HH.out).mono ?_
  rintro e xc ⟨rfl, hk, ht⟩
  have Kc := Lib.hid hk
  have Tc := Lib.hid (Tb.out.trans ht fun b hb => .inl hb)
  clear hk ht Kb Tb
  have cc := Kc.out.hcell.2.2.2.1
  have ff := Kc.out.fr 10
  have lg := Kc.out.lt
  go_upto_region 21 with fail
  have Kd : Hid (QE g L vb qh' (xc.setCell ⟨g, 10, none⟩ (.int .i64 th))) := Lib.hid (HH'.out ▸ Kc.out.this th)
  have Td := Lib.hid (Tc.out.setCell (p := ⟨g, 10, none⟩) (.inl (Nat.le_refl g)) (.int .i64 th))
  clear cc ff lg Kc Tc
  generalize xc.setCell ⟨g, 10, none⟩ (.int .i64 th) = Xd at *
  go_wp2_with fail
  refine (numE g L vb qh' Xd Kd.out 2 (by omega) 2 rfl HI.out).mono ?_
  rintro e xe ⟨rfl, hk, ht⟩
  have Ke := Lib.hid hk
  have Te := Lib.hid (Td.out.trans ht fun b hb => .inl hb)
  clear hk ht Kd Td
  have cc := Ke.out.hcell.2.2.2.2
  have ff := Ke.out.fr 11
  have lg := Ke.out.lt
  go_upto_region 22 with fail
  have Kf : Hid (QE g L vb qi' (xe.setCell ⟨g, 11, none⟩ (.int .i64 su))) := Lib.hid (HI'.out ▸ Ke.out.super su)
  have Tf := Lib.hid (Te.out.setCell (p := ⟨g, 11, none⟩) (.inl (Nat.le_refl g)) (.int .i64 su))
  clear cc ff lg Ke Te
  generalize xe.setCell ⟨g, 11, none⟩ (.int .i64 su) = Xf at *
  go_wp2_with fail
  refine (countE g L vb qi' Xf Kf.out 64 HJ.out).mono ?_
  rintro e xg ⟨rfl, hk, ht⟩
  have Kg := Lib.hid hk
  have Tg := Lib.hid (Tf.out.trans ht fun b hb => .inl hb)
  clear hk ht Kf Tf
  go_wp2_with fail
  go_loopw [10] (fun s wr => ∃ (k : Nat) (qx : QS), k ≤ NI ∧ s = .int .i64 ((k : Int)) ∧ QE g L vb qx wr ∧ Touch (fun b => g ≤ b) W2 wr ∧ (qx.c.ifaces.length ≤ k ∧ qx.c.fields = [] ∧ qx.c.methods = []) ∧ manyQ (ifaceQ L) (NI - k) qx = qk) (fun s _ => NI - (intOf s).toNat)
  case atStart => exact ⟨0, qj, Nat.zero_le _, rfl, Kg.out, Tg.out, ⟨by rw [HJC.out, HCI.out.1, HIKp.out.2.1]; exact Nat.le_refl _, by rw [HJC.out, HCI.out.2.1]; exact HIKp.out.2.2.1, by rw [HJC.out, HCI.out.2.2]; exact HIKp.out.2.2.2⟩, HK.out⟩
  case round =>
  obtain ⟨k, qx, hk, rfl, hq, ht, hinv, hr⟩ := hrel
  have Kw := Lib.hid hq
  have Tw := Lib.hid ht
  have HINV := Lib.hid hinv
  have HRW := Lib.hid hr
  clear hq ht hinv hr Kg Tg
  have c2 := Kw.out.c2
  go_upto_region 24 with fail
  go_cut [111] from 102 to 111 (fun s wx => s = .bool (decide (k < NI ∧ qx.e = 0)) ∧ wr = wx)
  case first =>
    by_cases hlt : k < NI
    · have hltI : (k : Int) < (NI : Int) := by omega
      by_cases he : qx.e = 0
      · rw [he] at c2
        go_wp2_with fail
        go_meet
        exact ⟨decT ⟨hlt, he⟩, rfl⟩
      · have he' := int_ne he
        go_wp2_with fail
        go_meet
        exact ⟨decF (fun e => he e.2), rfl⟩
    · have hltI : ¬ (k : Int) < (NI : Int) := by omega
      go_wp2_with fail
      go_meet
      exact ⟨decF (fun e => hlt e.1), rfl⟩
  case rest =>
  obtain ⟨rfl, rfl⟩ := hcut
  clear c2
  obtain ⟨bb, hbb⟩ : ∃ b, b = decide (k < NI ∧ qx.e = 0) := ⟨_, rfl⟩
  rw [← hbb]
  have HBB := Lib.hid hbb
  clear hbb
  cases bb
  rotate_left
  · have hgo := of_decide_eq_true HBB.out.symm
    have hlt := hgo.1
    have HE0 := Lib.hid hgo.2
    obtain ⟨j, hj⟩ : ∃ j, NI - k = j + 1 := ⟨NI - k - 1, by omega⟩
    have hjk : j = NI - (k + 1) := by omega
    have HR2 : Hid (manyQ (ifaceQ L) (NI - (k + 1)) (ifaceQ L qx) = qk) := Lib.hid (by have := HRW.out; rw [hj, many_in hgo.2, hjk] at this; exact this)
    clear hgo hj hjk HRW HBB
    obtain ⟨v2, q2, g2, g2c, -, -⟩ := num_eq2 L qx
    have hif : ifaceQ L qx = { q2 with c := { q2.c with ifaces := q2.c.ifaces ++ [v2] } } := by unfold ifaceQ; rw [g2, g2c]
    rw [hif] at HR2
    have G2 := Lib.hid g2
    have G2c := Lib.hid g2c
    clear hif g2 g2c
    obtain ⟨mv, vP, vI, vF, vM, hq⟩ := Kw.out
    obtain ⟨aI, cI, rfl, -, -⟩ := own_slice hq.rows.i
    have D0 := Lib.hid hq
    have c12 := hq.rx.cell 12 _ rfl
    have lg := hq.rx.blk.lt
    have HLI := Lib.hid (show q2.c.ifaces.length ≤ k by rw [G2c.out]; exact HINV.out.1)
    have hli : qx.c.ifaces.length ≤ 64 := by have := HINV.out.1; omega
    clear hq
    go_wp2_with fail
    go_region_law (first
      | (refine step_pushH _ elem_int rfl (.tmp 119) (.tmp 122) rfl (g + 1) _ qx.c.ifaces.length _ rfl O1.out (encI v2) _ _ rfl rfl rfl (by intro u hu; simp [encI] at hu; subst hu; rfl) (by omega) (by omega) (by omega) ?_
         intro v5 w9 ho5 hg5 hk5
         obtain ⟨a5, e5, rfl, -, -⟩ := own_slice (n := qx.c.ifaces.length + 1) ho5
         obtain ⟨y8, i8, l8⟩ := QX.grow D1.out O1.out hg5 12 _ rfl
         have HQ := Lib.hid (QX.push (v := .slice a5 (qx.c.ifaces.length + 1) e5) (q' := { q2 with c := { q2.c with ifaces := q2.c.ifaces ++ [v2] } }) D1.out O1.out hg5 12 (CR.pushI D1.out.rows hg5 (by rw [G2c.out]; exact ho5)) (by simp [rdV, G2c.out]) rfl rfl D1.out.rx.plen)
         have HTT := Lib.hid ((E1.out.trans (Touch.of_grown (S := fun b => g ≤ b) hg5 fun k hk => by have := (O1.out.lt k hk).1; omega) fun b hb => .inl hb).setCell (p := ⟨g, 12, none⟩) (.inl (Nat.le_refl g)) (.slice a5 (qx.c.ifaces.length + 1) e5))
         clear ho5 hg5 hk5)
      | (go_simp
         go_at_call 17
         refine (ref3_num' g L vb vP (.slice aI qx.c.ifaces.length cI) vF vM qx 2 _ D0.out.drew.rx (by omega) 2 rfl G2.out).mono ?_
         rintro e y1 ⟨rfl, hx⟩
         have D1 := Lib.hid (D0.out.drew.rg hx G2c.out)
         have E1 := Lib.hid ((Tw.out.trans (S' := fun b => g ≤ b) (Touch.refl _ _).drew fun b hb => .inl hb).trans hx.2 fun b hb => .inl (by omega))
         have O1 := Lib.hid (show y1.ownsRow (g + 1) 3 1 (.slice aI qx.c.ifaces.length cI) qx.c.ifaces.length (qx.c.ifaces.flatMap encI) by have := D1.out.rows.i; rw [G2c.out] at this; exact this)
         have c12 := D1.out.rx.cell 12 _ rfl
         have lg := D1.out.rx.blk.lt
         clear hx)
      | (go_simp
         go_at_call 17
         refine (ref3_num' g L vb vP (.slice aI qx.c.ifaces.length cI) vF vM qx 2 _ D0.out.rx (by omega) 2 rfl G2.out).mono ?_
         rintro e y1 ⟨rfl, hx⟩
         have D1 := Lib.hid (D0.out.rg hx G2c.out)
         have E1 := Lib.hid (Tw.out.trans hx.2 fun b hb => .inl (by omega))
         have O1 := Lib.hid (show y1.ownsRow (g + 1) 3 1 (.slice aI qx.c.ifaces.length cI) qx.c.ifaces.length (qx.c.ifaces.flatMap encI) by have := D1.out.rows.i; rw [G2c.out] at this; exact this)
         have c12 := D1.out.rx.cell 12 _ rfl
         have lg := D1.out.rx.blk.lt
         clear hx))
    all_goals
      (have Kx : Hid (QE g L vb { q2 with c := { q2.c with ifaces := q2.c.ifaces ++ [v2] } } (w9.setCell ⟨g, 12, none⟩ (.slice a5 (qx.c.ifaces.length + 1) e5))) := Lib.hid ⟨_, _, _, _, _, HQ.out⟩
       have HIN : Hid ((q2.c.ifaces ++ [v2]).length ≤ k + 1 ∧ q2.c.fields = [] ∧ q2.c.methods = []) := Lib.hid ⟨by rw [List.length_append]; have := HLI.out; simp only [List.length_singleton]; omega, by rw [G2c.out]; exact HINV.out.2.1, by rw [G2c.out]; exact HINV.out.2.2⟩
       clear D0 D1 E1 O1 HQ c12 lg y8 i8 l8
       generalize w9.setCell ⟨g, 12, none⟩ (.slice a5 (qx.c.ifaces.length + 1) e5) = W9 at *
       go_wp2_with fail
       go_roundw
       case rel => exact ⟨k + 1, _, by omega, by go_num, Kx.out, HTT.out, HIN.out, HR2.out⟩
       case measure => simp [intOf]; omega)
  have hgo := of_decide_eq_false HBB.out.symm
  have hend : qk = qx := by
    have := HRW.out
    symm
    by_cases hlt : k < NI
    · rw [many_out (fun e => hgo ⟨hlt, e⟩)] at this
      exact this
    · rw [show NI - k = 0 by omega] at this
      exact this
  subst hend
  have Ki := Lib.hid Kw.out
  have Ti := Lib.hid Tw.out
  have HIKi := Lib.hid HINV.out
  clear hgo HRW HBB Kw Tw HINV
  obtain ⟨xi, hxw⟩ : ∃ x, x = wr := ⟨_, rfl⟩
  subst hxw
  go_wp2_with fail
  refine (countE g L vb qk xi Ki.out 64 HL'.out).mono ?_
  rintro e xj ⟨rfl, hk, ht⟩
  have Kj := Lib.hid hk
  have Tj := Lib.hid (Ti.out.trans ht fun b hb => .inl hb)
  clear hk ht Ki Ti
  go_wp2_with fail
  go_loopw [11] (fun s wr => ∃ (k : Nat) (qx : QS), k ≤ NF ∧ s = .int .i64 ((k : Int)) ∧ QE g L vb qx wr ∧ Touch (fun b => g ≤ b) W2 wr ∧ (qx.c.fields.length ≤ k ∧ qx.c.methods = []) ∧ manyQ (fieldQ L) (NF - k) qx = qm) (fun s _ => NF - (intOf s).toNat)
  case atStart => exact ⟨0, ql, Nat.zero_le _, rfl, Kj.out, Tj.out, ⟨by rw [HLC.out, HIKi.out.2.1]; exact Nat.le_refl _, by rw [HLC.out]; exact HIKi.out.2.2⟩, HM.out⟩
  case round =>
  obtain ⟨k, qx, hk, rfl, hq, ht, hinv, hr⟩ := hrel
  have Kw := Lib.hid hq
  have Tw := Lib.hid ht
  have HINV := Lib.hid hinv
  have HRW := Lib.hid hr
  clear hq ht hinv hr Kj Tj
  have c2 := Kw.out.c2
  go_upto_region 29 with fail
  go_cut [138] from 129 to 138 (fun s wx => s = .bool (decide (k < NF ∧ qx.e = 0)) ∧ wr = wx)
  case first =>
    by_cases hlt : k < NF
    · have hltI : (k : Int) < (NF : Int) := by omega
      by_cases he : qx.e = 0
      · rw [he] at c2
        go_wp2_with fail
        go_meet
        exact ⟨decT ⟨hlt, he⟩, rfl⟩
      · have he' := int_ne he
        go_wp2_with fail
        go_meet
        exact ⟨decF (fun e => he e.2), rfl⟩
    · have hltI : ¬ (k : Int) < (NF : Int) := by omega
      go_wp2_with fail
      go_meet
      exact ⟨decF (fun e => hlt e.1), rfl⟩
  case rest =>
  obtain ⟨rfl, rfl⟩ := hcut
  clear c2
  obtain ⟨bb, hbb⟩ : ∃ b, b = decide (k < NF ∧ qx.e = 0) := ⟨_, rfl⟩
  rw [← hbb]
  have HBB := Lib.hid hbb
  clear hbb
  cases bb
  rotate_left
  · have hgo := of_decide_eq_true HBB.out.symm
    have hlt := hgo.1
    have HE0 := Lib.hid hgo.2
    obtain ⟨j, hj⟩ : ∃ j, NF - k = j + 1 := ⟨NF - k - 1, by omega⟩
    have hjk : j = NF - (k + 1) := by omega
    have HR2 : Hid (manyQ (fieldQ L) (NF - (k + 1)) (fieldQ L qx) = qm) := Lib.hid (by have := HRW.out; rw [hj, many_in hgo.2, hjk] at this; exact this)
    clear hgo hj hjk HRW HBB
    have C := fieldE g L vb qx wr Kw.out (by have := HINV.out; omega)
    go_wp2_with fail
    refine C.mono ?_
    rintro e x ⟨rfl, hk', ht'⟩
    have Kx := Lib.hid hk'
    have Tx := Lib.hid (Tw.out.trans ht' fun b hb => .inl hb)
    clear hk' ht' C
    go_wp2_with fail
    go_roundw
    case rel => exact ⟨k + 1, fieldQ L qx, by omega, by go_num, Kx.out, Tx.out, ⟨by show (qx.c.fields ++ [_]).length ≤ k + 1; rw [List.length_append]; have := HINV.out.1; simp only [List.length_singleton]; omega, HINV.out.2⟩, HR2.out⟩
    case measure => simp [intOf]; omega
  have hgo := of_decide_eq_false HBB.out.symm
  have hend : qm = qx := by
    have := HRW.out
    symm
    by_cases hlt : k < NF
    · rw [many_out (fun e => hgo ⟨hlt, e⟩)] at this
      exact this
    · rw [show NF - k = 0 by omega] at this
      exact this
  subst hend
  have Kk := Lib.hid Kw.out
  have Tk := Lib.hid Tw.out
  have HIKk := Lib.hid HINV.out
  clear hgo HRW HBB Kw Tw HINV
  obtain ⟨xk, hxw⟩ : ∃ x, x = wr := ⟨_, rfl⟩
  subst hxw
  go_wp2_with fail
  refine (countE g L vb qm xk Kk.out 64 HN.out).mono ?_
  rintro e xl ⟨rfl, hk, ht⟩
  have Kl := Lib.hid hk
  have Tl := Lib.hid (Tk.out.trans ht fun b hb => .inl hb)
  clear hk ht Kk Tk
  go_wp2_with fail
  go_loopw [12] (fun s wr => ∃ (k : Nat) (qx : QS), k ≤ NM ∧ s = .int .i64 ((k : Int)) ∧ QE g L vb qx wr ∧ Touch (fun b => g ≤ b) W2 wr ∧ (qx.c.methods.length ≤ k) ∧ manyQ (methQ L) (NM - k) qx = qo) (fun s _ => NM - (intOf s).toNat)
  case atStart => exact ⟨0, qn, Nat.zero_le _, rfl, Kl.out, Tl.out, by rw [HNC.out, HIKk.out.2]; exact Nat.le_refl _, HO.out⟩
  case round =>
  obtain ⟨k, qx, hk, rfl, hq, ht, hinv, hr⟩ := hrel
  have Kw := Lib.hid hq
  have Tw := Lib.hid ht
  have HINV := Lib.hid hinv
  have HRW := Lib.hid hr
  clear hq ht hinv hr Kl Tl
  have c2 := Kw.out.c2
  go_upto_region 34 with fail
  go_cut [154] from 145 to 154 (fun s wx => s = .bool (decide (k < NM ∧ qx.e = 0)) ∧ wr = wx)
  case first =>
    by_cases hlt : k < NM
    · have hltI : (k : Int) < (NM : Int) := by omega
      by_cases he : qx.e = 0
      · rw [he] at c2
        go_wp2_with fail
        go_meet
        exact ⟨decT ⟨hlt, he⟩, rfl⟩
      · have he' := int_ne he
        go_wp2_with fail
        go_meet
        exact ⟨decF (fun e => he e.2), rfl⟩
    · have hltI : ¬ (k : Int) < (NM : Int) := by omega
      go_wp2_with fail
      go_meet
      exact ⟨decF (fun e => hlt e.1), rfl⟩
  case rest =>
  obtain ⟨rfl, rfl⟩ := hcut
  clear c2
  obtain ⟨bb, hbb⟩ : ∃ b, b = decide (k < NM ∧ qx.e = 0) := ⟨_, rfl⟩
  rw [← hbb]
  have HBB := Lib.hid hbb
  clear hbb
  cases bb
  rotate_left
  · have hgo := of_decide_eq_true HBB.out.symm
    have hlt := hgo.1
    have HE0 := Lib.hid hgo.2
    obtain ⟨j, hj⟩ : ∃ j, NM - k = j + 1 := ⟨NM - k - 1, by omega⟩
    have hjk : j = NM - (k + 1) := by omega
    have HR2 : Hid (manyQ (methQ L) (NM - (k + 1)) (methQ L qx) = qo) := Lib.hid (by have := HRW.out; rw [hj, many_in hgo.2, hjk] at this; exact this)
    clear hgo hj hjk HRW HBB
    have C := methE g L vb qx wr Kw.out (by have := HINV.out; omega)
    go_wp2_with fail
    refine C.mono ?_
    rintro e x ⟨rfl, hk', ht'⟩
    have Kx := Lib.hid hk'
    have Tx := Lib.hid (Tw.out.trans ht' fun b hb => .inl hb)
    clear hk' ht' C
    go_wp2_with fail
    go_roundw
    case rel => exact ⟨k + 1, methQ L qx, by omega, by go_num, Kx.out, Tx.out, by show (qx.c.methods ++ [_]).length ≤ k + 1; rw [List.length_append]; have := HINV.out; simp only [List.length_singleton]; omega, HR2.out⟩
    case measure => simp [intOf]; omega
  have hgo := of_decide_eq_false HBB.out.symm
  have hend : qo = qx := by
    have := HRW.out
    symm
    by_cases hlt : k < NM
    · rw [many_out (fun e => hgo ⟨hlt, e⟩)] at this
      exact this
    · rw [show NM - k = 0 by omega] at this
      exact this
  subst hend
  have Km := Lib.hid Kw.out
  have Tm := Lib.hid Tw.out
  have HIKm := Lib.hid HINV.out
  clear hgo HRW HBB Kw Tw HINV
  obtain ⟨xm, hxw⟩ : ∃ x, x = wr := ⟨_, rfl⟩
  subst hxw
  go_wp2_with fail
  refine (skipE g L vb qo xm Km.out HSP.out).mono ?_
  rintro e xn ⟨rfl, hk, ht⟩
  have Kn := Lib.hid hk
  have Tn := Lib.hid (Tm.out.trans ht fun b hb => .inl hb)
  clear hk ht Km Tm
  have c1 := Kn.out.c1
  have hatI := Kn.out.at_
  go_upto_region 38 with fail
  have c2 := Kn.out.c2
  go_cut [174] from 161 to 174 (fun s wx => s = .bool (decide (qp.e = 0 ∧ qp.at_ < L.length)) ∧ xn = wx)
  case first =>
    by_cases he : qp.e = 0
    · rw [he] at c2
      by_cases hm : qp.at_ < L.length
      · have hm' : (qp.at_ : Int) < (L.length : Int) := by omega
        go_wp2_with fail
        go_meet
        exact ⟨decT ⟨he, hm⟩, rfl⟩
      · have hm' : ¬ (qp.at_ : Int) < (L.length : Int) := by omega
        go_wp2_with fail
        go_meet
        exact ⟨decF (fun e => hm e.2), rfl⟩
    · have he' := int_ne he
      go_wp2_with fail
      go_meet
      exact ⟨decF (fun e => he e.1), rfl⟩
  case rest =>
  obtain ⟨rfl, rfl⟩ := hcut
  clear c2
  obtain ⟨bb, hbb⟩ : ∃ b, b = decide (qp.e = 0 ∧ qp.at_ < L.length) := ⟨_, rfl⟩
  rw [← hbb]
  have HBB := Lib.hid hbb
  clear hbb
  clear c1 hatI
  go_upto_if 174 with fail
  go_cut [8] from 175 to 180 (fun s wx => s = .int .i64 NM ∧ QE g L vb qq wx ∧ Touch (fun b => g ≤ b) W2 wx)
  case first =>
    cases bb with
    | true =>
      have hb := of_decide_eq_true HBB.out.symm
      have he : failQ qp (qp.at_ : Int) 14 = qq := by have := HQ.out; rw [if_pos hb] at this; exact this
      have C := failE g L vb qp _ Kn.out (qp.at_ : Int) 14 he
      have c1 := Kn.out.c1
      clear hb he
      go_wp2_with fail
      refine C.mono ?_
      rintro e xf ⟨rfl, hk, ht⟩
      have Kf := Lib.hid hk
      have Tf := Lib.hid (Tn.out.trans ht fun b hb => .inl hb)
      clear hk ht C
      go_wp2_with fail
      go_meet
      exact ⟨rfl, Kf.out, Tf.out⟩
    | false =>
      have hb := of_decide_eq_false HBB.out.symm
      have he : qp = qq := by have := HQ.out; rw [if_neg hb] at this; exact this
      have Kf := Lib.hid (he ▸ Kn.out)
      clear hb he
      go_wp2_with fail
      go_meet
      exact ⟨rfl, Kf.out, Tn.out⟩
  case rest =>
  obtain ⟨rfl, hk, ht⟩ := hcut
  rename World => xo
  have Ko := Lib.hid hk
  have To := Lib.hid ht
  clear hk ht Kn Tn HBB
  have ho := HG.out
  have hz := Z0.out.touch To.out (show ¬ (g ≤ w.heap.size) by omega)
  have KZ := Lib.hid (Below.trans K0.out (To.out.below (B := w.heap.size) (fun b hb => by omega) K0.out.size) : Kept w xo)
  have n1 : ¬ (g = w.heap.size) := by omega
  have n2 : ¬ (w.heap.size = g) := by omega
  have c2 := Ko.out.c2
  have HZ := Lib.hid hz
  by_cases he : qq.e = 0
  rotate_left
  · have he' := int_ne he
    have c3 := Ko.out.c3
    have r0 := hz.cell 0
    have r1 := hz.cell 1
    have r2 := hz.cell 2
    have r3 := hz.cell 3
    have r4 := hz.cell 4
    have r5 := hz.cell 5
    have r6 := hz.cell 6
    have r7 := hz.cell 7
    have r8 := hz.cell 8
    simp only [List.getElem?_toArray, List.getElem?_cons_succ, List.getElem?_cons_zero] at r0 r1 r2 r3 r4 r5 r6 r7 r8
    have f0 := hz.frozen 0
    have f1 := hz.frozen 1
    have f2 := hz.frozen 2
    have f3 := hz.frozen 3
    have f4 := hz.frozen 4
    have f5 := hz.frozen 5
    have f6 := hz.frozen 6
    have f7 := hz.frozen 7
    have f8 := hz.frozen 8
    have lz := hz.lt
    have HPE : Hid (readP L = (zeroC, qq.bad, qq.e)) := Lib.hid (by rw [HP.out, if_pos he])
    have hBX : Blk ((((((((((xo.setCell ⟨w.heap.size, 0, none⟩ (.int .i64 0)).setCell ⟨w.heap.size, 1, none⟩ (.int .i64 0)).setCell ⟨w.heap.size, 2, none⟩ (.slice none 0 0)).setCell ⟨w.heap.size, 3, none⟩ (.int .i64 0)).setCell ⟨w.heap.size, 4, none⟩ (.int .i64 0)).setCell ⟨w.heap.size, 5, none⟩ (.int .i64 0)).setCell ⟨w.heap.size, 6, none⟩ (.slice none 0 0)).setCell ⟨w.heap.size, 7, none⟩ (.slice none 0 0)).setCell ⟨w.heap.size, 8, none⟩ (.slice none 0 0)).drew) w.heap.size 29 #[.int .i64 0, .int .i64 0, .slice none 0 0, .int .i64 0, .int .i64 0, .int .i64 0, .slice none 0 0, .slice none 0 0, .slice none 0 0] := by
      have := (((((((((hz.set_ 0 (.int .i64 0)).set_ 1 (.int .i64 0)).set_ 2 (.slice none 0 0)).set_ 3 (.int .i64 0)).set_ 4 (.int .i64 0)).set_ 5 (.int .i64 0)).set_ 6 (.slice none 0 0)).set_ 7 (.slice none 0 0)).set_ 8 (.slice none 0 0))
      refine Blk.drewN (n := 1) ?_
      simpa using this
    have hTX : Touch (fun b => b = w.heap.size) xo ((((((((((xo.setCell ⟨w.heap.size, 0, none⟩ (.int .i64 0)).setCell ⟨w.heap.size, 1, none⟩ (.int .i64 0)).setCell ⟨w.heap.size, 2, none⟩ (.slice none 0 0)).setCell ⟨w.heap.size, 3, none⟩ (.int .i64 0)).setCell ⟨w.heap.size, 4, none⟩ (.int .i64 0)).setCell ⟨w.heap.size, 5, none⟩ (.int .i64 0)).setCell ⟨w.heap.size, 6, none⟩ (.slice none 0 0)).setCell ⟨w.heap.size, 7, none⟩ (.slice none 0 0)).setCell ⟨w.heap.size, 8, none⟩ (.slice none 0 0)).drew) := ((((((((((Touch.refl _ _).one 0 _).one 1 _).one 2 _).one 3 _).one 4 _).one 5 _).one 6 _).one 7 _).one 8 _).drew
    have HF := Lib.hid (And.intro hBX (Below.trans KZ.out (hTX.below (B := w.heap.size) (fun b hb => by omega) KZ.out.size)))
    clear he HP hBX hTX hz ho
    go_upto_region 41 with fail
    go_region_held2 (fun w' => w'.cell? ⟨g, 3, none⟩ = some (.int .i64 qq.bad) ∧ w'.cell? ⟨g, 2, none⟩ = some (.int .i64 qq.e)) (go_keep) (fail)
    clear c2 c3 r0 r1 r2 r3 r4 r5 r6 r7 r8 f0 f1 f2 f3 f4 f5 f6 f7 f8 lz n1 n2 he'
    generalize ((((((((((xo.setCell ⟨w.heap.size, 0, none⟩ (.int .i64 0)).setCell ⟨w.heap.size, 1, none⟩ (.int .i64 0)).setCell ⟨w.heap.size, 2, none⟩ (.slice none 0 0)).setCell ⟨w.heap.size, 3, none⟩ (.int .i64 0)).setCell ⟨w.heap.size, 4, none⟩ (.int .i64 0)).setCell ⟨w.heap.size, 5, none⟩ (.int .i64 0)).setCell ⟨w.heap.size, 6, none⟩ (.slice none 0 0)).setCell ⟨w.heap.size, 7, none⟩ (.slice none 0 0)).setCell ⟨w.heap.size, 8, none⟩ (.slice none 0 0)).drew) = W9 at *
    have HLV := Lib.hid (run_loadVar_row (P := Try.prog) W9 w.heap.size 29 29 #[.int .i64 0, .int .i64 0, .slice none 0 0, .int .i64 0, .int .i64 0, .int .i64 0, .slice none 0 0, .slice none 0 0, .slice none 0 0] (0, 0) _ HF.out.1 Try.underlying29 rfl (by kernel_rfl))
    have HFIN : Hid (ReadG L w (.returned (.tuple #[.agg #[.int .i64 0, .int .i64 0, .slice none 0 0, .int .i64 0, .int .i64 0, .int .i64 0, .slice none 0 0, .slice none 0 0, .slice none 0 0], .int .i64 qq.bad, .int .i64 qq.e])) W9) := Lib.hid (by
      unfold ReadG
      rw [HPE.out]
      exact ⟨[], _, _, _, _, rfl, CR.zero _ _, HF.out.2⟩)
    go_wp2_with (refine bodyPost_ret (v := .tuple #[.agg #[.int .i64 0, .int .i64 0, .slice none 0 0, .int .i64 0, .int .i64 0, .int .i64 0, .slice none 0 0, .slice none 0 0, .slice none 0 0], .int .i64 qq.bad, .int .i64 qq.e]) ?_ rfl HFIN.out; simp [results, Try.results10, asAddr, HLV.out])
  · obtain ⟨mv, vP, vI, vF, vM, hq⟩ := Ko.out
    obtain ⟨aP, cP, rfl, -, -⟩ := own_slice hq.rows.p
    obtain ⟨aI, cI, rfl, -, -⟩ := own_slice hq.rows.i
    obtain ⟨aF, cF, rfl, -, -⟩ := own_slice hq.rows.f
    obtain ⟨aM, cM, rfl, -, -⟩ := own_slice hq.rows.m
    rw [he] at c2
    have HLD : Hid (∀ j v, (#[.int .i64 qq.c.minor, .int .i64 qq.c.major, .slice aP qq.c.pool.length cP, .int .i64 qq.c.access, .int .i64 qq.c.this, .int .i64 qq.c.super, .slice aI qq.c.ifaces.length cI, .slice aF qq.c.fields.length cF, .slice aM mv.length cM] : Array Value).toList[j]? = some v → xo.cell? ⟨g, 6 + j, none⟩ = some v) := Lib.hid fun j v hv => hq.rx.cell (6 + j) v (by
      rw [show (rdV vb (.slice aP qq.c.pool.length cP) (.slice aI qq.c.ifaces.length cI) (.slice aF qq.c.fields.length cF) (.slice aM mv.length cM) qq) = [vb, .int .i64 qq.at_, .int .i64 qq.e, .int .i64 qq.bad, .int .i64 qq.most, .int .i64 qq.named] ++ [.int .i64 qq.c.minor, .int .i64 qq.c.major, .slice aP qq.c.pool.length cP, .int .i64 qq.c.access, .int .i64 qq.c.this, .int .i64 qq.c.super, .slice aI qq.c.ifaces.length cI, .slice aF qq.c.fields.length cF, .slice aM mv.length cM] from rfl, List.getElem?_append_right (by simp)]
      simpa using hv)
    have HPE : Hid (readP L = (qq.c, 0, 0)) := Lib.hid (by rw [HP.out, if_neg (fun e => e he)])
    have hTX : Touch (fun b => b = w.heap.size) xo (xo.setRow w.heap.size #[.int .i64 qq.c.minor, .int .i64 qq.c.major, .slice aP qq.c.pool.length cP, .int .i64 qq.c.access, .int .i64 qq.c.this, .int .i64 qq.c.super, .slice aI qq.c.ifaces.length cI, .slice aF qq.c.fields.length cF, .slice aM mv.length cM]) := Touch.setRow (S := fun b => b = w.heap.size) (Touch.refl _ _) (g := w.heap.size) (.inl rfl) _
    have HLV := Lib.hid (run_loadVar_row (P := Try.prog) (xo.setRow w.heap.size #[.int .i64 qq.c.minor, .int .i64 qq.c.major, .slice aP qq.c.pool.length cP, .int .i64 qq.c.access, .int .i64 qq.c.this, .int .i64 qq.c.super, .slice aI qq.c.ifaces.length cI, .slice aF qq.c.fields.length cF, .slice aM mv.length cM]) w.heap.size 29 29 #[.int .i64 qq.c.minor, .int .i64 qq.c.major, .slice aP qq.c.pool.length cP, .int .i64 qq.c.access, .int .i64 qq.c.this, .int .i64 qq.c.super, .slice aI qq.c.ifaces.length cI, .slice aF qq.c.fields.length cF, .slice aM mv.length cM] (0, 0) _ (setRow_heap _ _ _ _ _ _ HZ.out) Try.underlying29 rfl (by kernel_rfl))
    have HFIN : Hid (ReadG L w (.returned (.tuple #[.agg #[.int .i64 qq.c.minor, .int .i64 qq.c.major, .slice aP qq.c.pool.length cP, .int .i64 qq.c.access, .int .i64 qq.c.this, .int .i64 qq.c.super, .slice aI qq.c.ifaces.length cI, .slice aF qq.c.fields.length cF, .slice aM mv.length cM], .int .i64 0, .int .i64 0])) (xo.setRow w.heap.size #[.int .i64 qq.c.minor, .int .i64 qq.c.major, .slice aP qq.c.pool.length cP, .int .i64 qq.c.access, .int .i64 qq.c.this, .int .i64 qq.c.super, .slice aI qq.c.ifaces.length cI, .slice aF qq.c.fields.length cF, .slice aM mv.length cM])) := Lib.hid (by
      unfold ReadG
      rw [HPE.out]
      exact ⟨mv, _, _, _, _, rfl, (hq.rows.touch hTX fun k hk => by omega).mono (by omega), Below.trans KZ.out (hTX.below (B := w.heap.size) (fun b hb => by omega) KZ.out.size)⟩)
    clear hq he HP hTX hz ho
    go_upto_region 42 with fail
    go_wp2_with (first
      | (refine bodyPost_ret (v := .tuple #[.agg #[.int .i64 qq.c.minor, .int .i64 qq.c.major, .slice aP qq.c.pool.length cP, .int .i64 qq.c.access, .int .i64 qq.c.this, .int .i64 qq.c.super, .slice aI qq.c.ifaces.length cI, .slice aF qq.c.fields.length cF, .slice aM mv.length cM], .int .i64 0, .int .i64 0]) ?_ rfl HFIN.out; simp [results, Try.results10, asAddr, HLV.out])
      | (refine wpList_load_at rfl 29 _ rfl g 6 rfl #[.int .i64 qq.c.minor, .int .i64 qq.c.major, .slice aP qq.c.pool.length cP, .int .i64 qq.c.access, .int .i64 qq.c.this, .int .i64 qq.c.super, .slice aI qq.c.ifaces.length cI, .slice aF qq.c.fields.length cF, .slice aM mv.length cM] _ HLD.out Try.underlying29 rfl (by kernel_rfl) ?_)
      | (refine wpList_store_row rfl 29 _ _ rfl w.heap.size #[.int .i64 qq.c.minor, .int .i64 qq.c.major, .slice aP qq.c.pool.length cP, .int .i64 qq.c.access, .int .i64 qq.c.this, .int .i64 qq.c.super, .slice aI qq.c.ifaces.length cI, .slice aF qq.c.fields.length cF, .slice aM mv.length cM] rfl (by rfl) 29 _ HZ.out (by kernel_rfl) (by rfl) (by kernel_rfl) ?_))
end Go.Proofs.Ytlipdifhdaaknaa
