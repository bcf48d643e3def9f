/-
  The document's own reader of class files by contract: code.
-/
import Derived.Test.YtlipdifhdaaknaaFr7
namespace Go.Proofs.Ytlipdifhdaaknaa
open Go.RowKit
set_option maxRecDepth 100000

/-- A method that is being read, in the block z. -/
structure QM (g : Nat) (L : List UInt8) (vb : Value) (q : QS) (mv : List (MethC × Value × Value)) (vP vI vF vM : Value) (w1 : World) (z : Nat) (m : MethC) (vc vt : Value) (W : World) : Prop where
  qz : QZ g L vb q mv vP vI vF vM w1 z 64 (methV m vc vt).toArray W
  mr : MR (z + 1) m vc vt W
section
variable {g : Nat} {L : List UInt8} {vb vP vI vF vM v vc vt : Value} {q q' : QS} {mv : List (MethC × Value × Value)} {w1 W W' : World} {z : Nat} {t : TypeId} {cs : Array Value} {m m' : MethC}
theorem QZ.far (h : QZ g L vb q mv vP vI vF vM w1 z t cs W) {S : Nat → Prop} (ht : Touch S W W') (hS : ∀ k, S k → z < k) : QZ g L vb q mv vP vI vF vM w1 z t cs W' := by
  obtain ⟨q0, e0, hq⟩ := h.hq
  have hz := h.hz
  have hg := h.gz
  refine ⟨⟨q0, e0, hq⟩, ?_, h.zb.touch ht fun e => by have := hS z e; omega, h.hz, h.tch.trans ht fun b hb => .inl (.inr (by have := hS b hb; omega))⟩
  exact ⟨h.rx.blk.touch ht fun e => by have := hS g e; omega, h.rx.rb.touch ht fun h0 k hk e => by have := hq.nb h0 k hk; have := hS k e; omega, h.rx.nb, h.rx.rp.touch ht fun h0 k hk e => by have := (hq.rows.p.lt k hk).2; have := hS k e; omega, h.rx.np, h.rx.len, h.rx.plen, h.rx.at_, h.rx.most⟩
theorem QM.rg (h : QM g L vb q mv vP vI vF vM w1 z m vc vt W) (hr : RG g L vb vP vI vF vM q' W W') (hc : q'.c = q.c) : QM g L vb q' mv vP vI vF vM w1 z m vc vt W' :=
  ⟨h.qz.rg hr hc, h.mr.touch hr.2 fun k hk => by have := h.qz.gz; have := h.qz.hz; omega⟩
theorem QM.put (h : QM g L vb q mv vP vI vF vM w1 z m vc vt W) (i : Nat) (u : Value) (m' : MethC) (hm : (methV m vc vt).toArray.setIfInBounds i u = (methV m' vc vt).toArray) (hc : m'.code = m.code) (ht : m'.traps = m.traps) : QM g L vb q mv vP vI vF vM w1 z m' vc vt (W.setCell ⟨z, i, none⟩ u) := by
  have r := h.mr.touch (S := fun b => b = z) ((Touch.refl _ _).one i u) fun k hk => by omega
  exact ⟨hm ▸ h.qz.put i u, hc ▸ r.code, ht ▸ r.traps, r.ne⟩
theorem QM.drewN (h : QM g L vb q mv vP vI vF vM w1 z m vc vt W) (n : Nat) : QM g L vb q mv vP vI vF vM w1 z m vc vt (W.drewN n) := h.rg ⟨h.qz.rx.drewN n, (Touch.refl _ _).drewN n⟩ rfl
theorem QM.drew (h : QM g L vb q mv vP vI vF vM w1 z m vc vt W) : QM g L vb q mv vP vI vF vM w1 z m vc vt W.drew := h.drewN 1
theorem own_base {w : World} {base base' : Nat} {e : TypeId} {sz n : Nat} {v : Value} {xs : List Value} (h : w.ownsRow base e sz v n xs) (hb : base' ≤ base) : w.ownsRow base' e sz v n xs :=
  ⟨h.1, h.2.imp id fun ⟨g, cap, cur, e1, e2, e3⟩ => ⟨g, cap, cur, e1, Nat.le_trans hb e2, e3⟩⟩
theorem QM.code_ (h : QM g L vb q mv vP vI vF vM w1 z m vc vt W) (hr : RG g L vb vP vI vF vM q' W W') (hc : q'.c = q.c) {l : List UInt8} (ho : W'.ownsRow W.heap.size 5 1 v l.length (l.map byteV)) :
    QM g L vb q' mv vP vI vF vM w1 z { m with code := l } v vt (W'.setCell ⟨z, 6, none⟩ v) := by
  have h' := h.rg hr hc
  have hz := h.qz.zb.lt
  have hT : Touch (fun b => b = z) W' (W'.setCell ⟨z, 6, none⟩ v) := (Touch.refl _ _).one 6 v
  refine ⟨by simpa [methV] using h'.qz.put 6 v, ⟨hT.own (own_base ho (by omega)) fun k hk e => by have := (ho.lt k hk).1; omega, hT.own h'.mr.traps fun k hk e => by have := (h'.mr.traps.lt k hk).1; omega, fun k hk e => ?_⟩⟩
  have a1 := (ho.lt k hk).1
  have a2 := (h.mr.traps.lt k e).2
  omega
theorem QM.trap (h : QM g L vb q mv vP vI vF vM w1 z m vc vt W) {x : TrapC} (hg : W.grownBy W' vt.ownBlock) (ho : W'.ownsRow (z + 1) 66 4 v (m.traps.length + 1) (m.traps.flatMap encT ++ encT x)) (hk : ∀ k, v.ownBlock = some k → vt.ownBlock = some k ∨ W.heap.size ≤ k) :
    QM g L vb q mv vP vI vF vM w1 z { m with traps := m.traps ++ [x] } vc v (W'.setCell ⟨z, 7, none⟩ v) := by
  have hT0 : Touch (fun b => vt.ownBlock = some b) W W' := Touch.of_grown hg fun k hk => hk
  have hb : ∀ k, vt.ownBlock = some k → z + 1 ≤ k := fun k hk' => (h.mr.traps.lt k hk').1
  have hT : Touch (fun b => b = z) W' (W'.setCell ⟨z, 7, none⟩ v) := (Touch.refl _ _).one 7 v
  have hq := h.qz.far hT0 fun k hk' => by have := hb k hk'; omega
  refine ⟨by simpa [methV] using hq.put 7 v, ⟨hT.own (hT0.own h.mr.code fun k hk' e => h.mr.ne k hk' e) fun k hk' e => by have := (h.mr.code.lt k hk').1; omega, ?_, fun k hk' e => ?_⟩⟩
  · simpa using hT.own ho fun k hk' e => by have := (ho.lt k hk').1; omega
  · rcases hk k e with e1 | e1
    · exact h.mr.ne k hk' e1
    · have := (h.mr.code.lt k hk').2
      omega
theorem QM.grow (h : QM g L vb q mv vP vI vF vM w1 z m vc vt W) (hg : W.grownBy W' vt.ownBlock) : W'.cell? ⟨z, 7, none⟩ = some vt ∧ W'.frozen? ⟨z, 7, none⟩ = false ∧ z < W'.heap.size := by
  have hM := h.qz.zb.touch (S := fun b => vt.ownBlock = some b) (Touch.of_grown hg fun k hk => hk) fun e => by have := (h.mr.traps.lt z e).1; omega
  exact ⟨hM.cell 7, hM.frozen 7, hM.lt⟩
theorem QM.cell (h : QM g L vb q mv vP vI vF vM w1 z m vc vt W) (i : Nat) (u : Value) (hu : (methV m vc vt)[i]? = some u) : W.cell? ⟨z, i, none⟩ = some u := by
  rw [h.qz.zb.cell i, List.getElem?_toArray, hu]
/-- The bounds that a Code lays; they end. -/
theorem QM.bounds (h : QM g L vb q mv vP vI vF vM w1 z m vc vt W) (a p : Int) (ha : -4611686018427387904 ≤ a ∧ a ≤ 4611686018427387904) :
    QM g L vb { q with most := a, named := p } mv vP vI vF vM w1 z m vc vt ((W.setCell ⟨g, 4, none⟩ (.int .i64 a)).setCell ⟨g, 5, none⟩ (.int .i64 p)) := by
  have ht : Touch (fun b => b = g) W ((W.setCell ⟨g, 4, none⟩ (.int .i64 a)).setCell ⟨g, 5, none⟩ (.int .i64 p)) := ((Touch.refl _ _).one 4 _).one 5 _
  refine h.rg ⟨h.qz.rx.touch ht ?_ rfl h.qz.rx.at_ ha, ht⟩ rfl
  simpa [rdV] using (h.qz.rx.blk.set_ 4 (.int .i64 a)).set_ 5 (.int .i64 p)
theorem QM.far_ (h : QM g L vb q mv vP vI vF vM w1 z m vc vt W) : QM g L vb { q with most := far } mv vP vI vF vM w1 z m vc vt (W.setCell ⟨g, 4, none⟩ (.int .i64 4611686018427387904)) := by
  have ht : Touch (fun b => b = g) W (W.setCell ⟨g, 4, none⟩ (.int .i64 4611686018427387904)) := (Touch.refl _ _).one 4 _
  refine h.rg ⟨h.qz.rx.touch ht ?_ rfl h.qz.rx.at_ ⟨(by decide : (-4611686018427387904 : Int) ≤ 4611686018427387904), (by decide : (4611686018427387904 : Int) ≤ 4611686018427387904)⟩, ht⟩ rfl
  simpa [rdV, far] using h.qz.rx.blk.set_ 4 (.int .i64 4611686018427387904)
end
theorem count_c (L : List UInt8) (m : Int) (q : QS) : (countQ L m q).2.c = q.c := by
  unfold countQ
  split
  · rw [fail_c, num_c]
  · exact num_c L 2 q
theorem count_le (L : List UInt8) (m : Int) (q : QS) (hm : 0 ≤ m) : 0 ≤ (countQ L m q).1 ∧ (countQ L m q).1 ≤ m := by
  unfold countQ
  split
  · exact ⟨Int.le_refl _, hm⟩
  · exact ⟨(num_lt L 2 q).1, by omega⟩
theorem count_eq (L : List UInt8) (m : Int) (q : QS) (hm : 0 ≤ m) : ∃ v q1, countQ L m q = (v, q1) ∧ q1.c = q.c ∧ 0 ≤ v ∧ v ≤ m := ⟨_, _, rfl, count_c L m q, (count_le L m q hm).1, (count_le L m q hm).2⟩
theorem skipL_c (L : List UInt8) : ∀ (n : Nat) (q : QS), (skipLQ L n q).c = q.c
  | 0, q => rfl
  | n + 1, q => by
    unfold skipLQ
    split
    · rfl
    · rw [skipL_c L n, pass_c, attr_c]
theorem skip_c (L : List UInt8) (q : QS) : (skipQ L q).c = q.c := by unfold skipQ; rw [skipL_c, num_c]
theorem traps_out {L : List UInt8} {q : QS} (h : ¬ q.e = 0) (n : Nat) : trapsQ L n q = ([], q) := by
  cases n with
  | zero => rfl
  | succ n => unfold trapsQ; rw [if_pos h]
theorem traps_in {L : List UInt8} {q q1 q2 q3 q4 : QS} {a b c d : Int} (h : q.e = 0) (n : Nat) (h1 : numQ L 2 q = (a, q1)) (h2 : numQ L 2 q1 = (b, q2)) (h3 : numQ L 2 q2 = (c, q3)) (h4 : numQ L 2 q3 = (d, q4)) : trapsQ L (n + 1) q = (⟨a, b, c, d⟩ :: (trapsQ L n q4).1, (trapsQ L n q4).2) := by
  rw [trapsQ, if_neg (fun e => e h)]
  simp only [h1, h2, h3, h4]
theorem traps_c (L : List UInt8) : ∀ (n : Nat) (q : QS), (trapsQ L n q).2.c = q.c
  | 0, q => rfl
  | n + 1, q => by
    unfold trapsQ
    split
    · rfl
    · dsimp only
      rw [traps_c L n, num_c, num_c, num_c, num_c]
theorem traps_len (L : List UInt8) : ∀ (n : Nat) (q : QS), (trapsQ L n q).1.length ≤ n
  | 0, q => Nat.le_refl _
  | n + 1, q => by
    unfold trapsQ
    split
    · simp
    · have := traps_len L n (numQ L 2 (numQ L 2 (numQ L 2 (numQ L 2 q).2).2).2).2
      simp only [List.length_cons]
      omega
/-- What code does behind its count of traps. -/
def codeT (L : List UInt8) (m : MethC) (p st lo : Int) (l : List UInt8) (tr : List TrapC × QS) : MethC × QS :=
  ({ m with has := true, stack := st, locals := lo, code := l, traps := m.traps ++ tr.1 }, { (if ((skipQ L tr.2).at_ : Int) ≠ (skipQ L tr.2).most then failQ (skipQ L tr.2) p 25 else skipQ L tr.2) with most := far })
theorem code_eq {L : List UInt8} {m : MethC} {p : Int} {q q1 q2 q3 q4 q5 q6 q7 : QS} {l4 st lo n kk : Int} {l : List UInt8} (h1 : numQ L 4 q = (l4, q1)) (h2 : numQ L 2 { q1 with most := q1.at_ + l4, named := p } = (st, q2)) (h3 : numQ L 2 q2 = (lo, q3)) (h4 : numQ L 4 q3 = (n, q4))
    (h5 : (if 4096 < n then failQ q4 q3.at_ 2 else q4) = q5) (h6 : bytesQ L n q5 = (l, q6)) (h7 : countQ L 64 q6 = (kk, q7)) : codeQ L m p q = codeT L m p st lo l (trapsQ L kk.toNat q7) := by
  unfold codeQ
  simp only [h1, h2, h3, h4, h5, h6, h7]
  rfl
theorem ref3_num' (g : Nat) (L : List UInt8) (vb vP vI vF vM : Value) (q : QS) (n : Nat) (w : World) (h : RX w g L vb vP vI vF vM q) (hn : n = 1 ∨ n = 2 ∨ n = 4) (i : Int) (hi : i = n) {v : Int} {q' : QS} (he : numQ L n q = (v, q')) :
    Calls Try.prog 17 #[.pointer (some ⟨g, 0, none⟩), .int .i64 i] w fun e w' => e = .returned (.int .i64 v) ∧ RG g L vb vP vI vF vM q' w w' := by
  have C := ref3_num g L vb vP vI vF vM q n w h hn i hi
  rw [he] at C
  exact C
theorem pair_eta {α β : Type} (x : α × β) : x = (x.1, x.2) := rfl
def CodeQ (g : Nat) (L : List UInt8) (vb : Value) (r : MethC × QS) (mv : List (MethC × Value × Value)) (vP vI vF vM : Value) (w1 : World) (z : Nat) (e : Ending) (w' : World) : Prop :=
  e = .returned (.tuple #[]) ∧ ∃ vc vt, QM g L vb r.2 mv vP vI vF vM w1 z r.1 vc vt w'
set_option maxHeartbeats 8000000 in
theorem ref3_code (g : Nat) (L : List UInt8) (vb : Value) (q : QS) (mv : List (MethC × Value × Value)) (vP vI vF vM : Value) (w1 : World) (z : Nat) (m : MethC) (vc vt : Value) (w : World) (h : QM g L vb q mv vP vI vF vM w1 z m vc vt w) (htr : m.traps.length ≤ 5000000) (p : Int) :
    Calls Try.prog 36 #[.pointer (some ⟨g, 0, none⟩), .pointer (some ⟨z, 0, none⟩), .int .i64 p] w (CodeQ g L vb (codeQ L m p q) mv vP vI vF vM w1 z) := by
  obtain ⟨mA, mN, mD, mH, mS, mL, mC, mT⟩ := m
  dsimp only at htr
  obtain ⟨l4, q1, h1, h1c, h10, h11⟩ := num_eq4 L q
  obtain ⟨st, q2, h2, h2c, -, -⟩ := num_eq2 L { q1 with most := q1.at_ + l4, named := p }
  obtain ⟨lo, q3, h3, h3c, -, -⟩ := num_eq2 L q2
  obtain ⟨n, q4, h4, h4c, h40, h41⟩ := num_eq4 L q3
  obtain ⟨q5, h5⟩ : ∃ q5, (if 4096 < n then failQ q4 q3.at_ 2 else q4) = q5 := ⟨_, rfl⟩
  obtain ⟨l, q6, h6, h6c⟩ := bytes_eq L n q5
  obtain ⟨kk, q7, h7, h7c, h70, h71⟩ := count_eq L 64 q6 (by decide)
  obtain ⟨R, hR⟩ : ∃ R, R = codeQ L ⟨mA, mN, mD, mH, mS, mL, mC, mT⟩ p q := ⟨_, rfl⟩
  rw [← hR]
  obtain ⟨N, rfl⟩ : ∃ N : Nat, kk = N := ⟨kk.toNat, by omega⟩
  have hN : N ≤ 64 := by omega
  have hll : l.length ≤ 65536 := by
    have e1 : (bytesQ L n q5).1 = l := by rw [h6]
    rw [← e1]
    have hL := h.qz.rx.len
    unfold bytesQ
    split
    · simp
    · split
      · simp
      · split
        · simp
        · rw [List.length_take, List.length_drop]; omega
  have HR := Lib.hid (show R = codeT L ⟨mA, mN, mD, mH, mS, mL, mC, mT⟩ p st lo l (trapsQ L N q7) by rw [hR, code_eq h1 h2 h3 h4 h5 h6 h7]; rfl)
  have H0 := Lib.hid h
  have C1 := ref3_num g L vb vP vI vF vM q 4 w h.qz.rx (by omega) 4 rfl
  rw [h1] at C1
  have H1c := Lib.hid h1c
  have H2 := Lib.hid h2
  have H2c := Lib.hid h2c
  have H3 := Lib.hid h3
  have H3c := Lib.hid h3c
  have H4 := Lib.hid h4
  have H4c := Lib.hid h4c
  have H5 := Lib.hid h5
  have H6 := Lib.hid h6
  have H6c := Lib.hid h6c
  have H7 := Lib.hid h7
  have H7c := Lib.hid h7c
  have h42 : n ≤ 4294967295 := by omega
  clear h h1 h1c h2 h2c h3 h3c h4 h4c h5 h6 h6c h7 h7c h70 h71 hR h41
  go_enter Try.func36, Try.ntmps36
  go_wp2_with fail
  refine C1.mono ?_
  rintro e x1 ⟨rfl, hx1⟩
  have K1 := Lib.hid (H0.out.rg hx1 H1c.out)
  have c1 := K1.out.qz.rx.c1
  have c4 := K1.out.qz.rx.cell 4 _ rfl
  have c5 := K1.out.qz.rx.cell 5 _ rfl
  have f4 := K1.out.qz.rx.blk.frozen 4
  have f5 := K1.out.qz.rx.blk.frozen 5
  have lg := K1.out.qz.rx.blk.lt
  have z3 := K1.out.cell 3 _ rfl
  have i3 := K1.out.qz.zb.frozen 3
  have lz := K1.out.qz.zb.lt
  have hat : (q1.at_ : Int) ≤ 65536 := by have := K1.out.qz.rx.at_; have := K1.out.qz.rx.len; omega
  have hwr : IntKind.i64.wrap ((q1.at_ : Int) + l4) = q1.at_ + l4 := IntWalk.i64_in _ (by omega)
  obtain ⟨-, ne1, ne2⟩ := K1.out.qz.gz
  clear hx1 C1 H0
  go_upto_region 4 with fail
  have K2 := Lib.hid ((K1.out.bounds ((q1.at_ : Int) + l4) p ⟨by omega, by omega⟩).put 3 (.bool true) ⟨mA, mN, mD, true, mS, mL, mC, mT⟩ rfl rfl rfl)
  clear K1 c1 c4 c5 f4 f5 lg z3 i3 lz hat hwr
  generalize ((x1.setCell ⟨g, 4, none⟩ (.int .i64 ((q1.at_ : Int) + l4))).setCell ⟨g, 5, none⟩ (.int .i64 p)).setCell ⟨z, 3, none⟩ (.bool true) = X2 at *
  have C2 := ref3_num g L vb vP vI vF vM _ 2 X2 K2.out.qz.rx (by omega) 2 rfl
  rw [H2.out] at C2
  go_wp2_with fail
  refine C2.mono ?_
  rintro e x3 ⟨rfl, hx3⟩
  have K3 := Lib.hid (K2.out.rg hx3 H2c.out)
  have z4 := K3.out.cell 4 _ rfl
  have i4 := K3.out.qz.zb.frozen 4
  have lz := K3.out.qz.zb.lt
  clear hx3 C2 K2
  go_upto_region 5 with fail
  have K4 := Lib.hid (K3.out.put 4 (.int .i64 st) ⟨mA, mN, mD, true, st, mL, mC, mT⟩ rfl rfl rfl)
  clear K3 z4 i4 lz
  generalize x3.setCell ⟨z, 4, none⟩ (.int .i64 st) = X4 at *
  have C3 := ref3_num g L vb vP vI vF vM q2 2 X4 K4.out.qz.rx (by omega) 2 rfl
  rw [H3.out] at C3
  go_wp2_with fail
  refine C3.mono ?_
  rintro e x5 ⟨rfl, hx5⟩
  have K5 := Lib.hid (K4.out.rg hx5 H3c.out)
  have z5 := K5.out.cell 5 _ rfl
  have i5 := K5.out.qz.zb.frozen 5
  have lz := K5.out.qz.zb.lt
  clear hx5 C3 K4
  go_upto_region 6 with fail
  have K6 := Lib.hid (K5.out.put 5 (.int .i64 lo) ⟨mA, mN, mD, true, st, lo, mC, mT⟩ rfl rfl rfl)
  clear K5 z5 i5 lz
  generalize x5.setCell ⟨z, 5, none⟩ (.int .i64 lo) = X6 at *
  have c1 := K6.out.qz.rx.c1
  have C4 := ref3_num g L vb vP vI vF vM q3 4 X6 K6.out.qz.rx (by omega) 4 rfl
  rw [H4.out] at C4
  go_wp2_with fail
  refine C4.mono ?_
  rintro e x7 ⟨rfl, hx7⟩
  have K7 := Lib.hid (K6.out.rg hx7 H4c.out)
  clear hx7 C4 K6 c1
  go_upto_if 46 with fail
  obtain ⟨qb, hqb⟩ : ∃ b, b = decide (4096 < n) := ⟨_, rfl⟩
  rw [← hqb]
  have HQB := Lib.hid hqb
  clear hqb
  go_cut [8] from 47 to 49 (fun s8 wx => s8 = .int .i64 n ∧ QM g L vb q5 mv vP vI vF vM w1 z ⟨mA, mN, mD, true, st, lo, mC, mT⟩ vc vt wx ∧ q5.c = q4.c)
  case first =>
    cases qb with
    | true =>
      have hbig := of_decide_eq_true HQB.out.symm
      have e5 : failQ q4 q3.at_ 2 = q5 := by have := H5.out; rw [if_pos hbig] at this; exact this
      have CF := ref3_fail g L vb vP vI vF vM q4 q3.at_ 2 x7 K7.out.qz.rx
      have HFc := Lib.hid (fail_c q4 (q3.at_ : Int) 2)
      rw [e5] at CF HFc
      clear e5 hbig
      go_wp2_with fail
      refine CF.mono ?_
      rintro e x8 ⟨rfl, hx8⟩
      have K8 := Lib.hid (K7.out.rg hx8 HFc.out)
      clear hx8 CF
      go_wp2_with fail
      go_meet
      exact ⟨rfl, K8.out, HFc.out⟩
    | false =>
      have hbig := of_decide_eq_false HQB.out.symm
      have e5 : q4 = q5 := by have := H5.out; rw [if_neg hbig] at this; exact this
      have K8 := Lib.hid (e5 ▸ K7.out)
      have HFc := Lib.hid (e5 ▸ rfl : q5.c = q4.c)
      clear e5 hbig
      go_wp2_with fail
      go_meet
      exact ⟨rfl, K8.out, HFc.out⟩
  case rest =>
  obtain ⟨rfl, hk8, h5c⟩ := hcut
  rename World => X8
  have K8 := Lib.hid hk8
  clear hk8 K7
  have z6 := K8.out.cell 6 _ rfl
  have C6 := ref3_bytes g L vb vP vI vF vM q5 n X8 K8.out.qz.rx ⟨h40, h42⟩
  rw [H6.out] at C6
  go_wp2_with fail
  refine C6.mono ?_
  rintro e x9 ⟨v9, rfl, ho9, hx9⟩
  obtain ⟨a4, c4, rfl, -, -⟩ := own_slice ho9
  dsimp only at ho9 hx9
  have HK9 := Lib.hid (K8.out.code_ hx9 H6c.out ho9)
  have e6 := (K8.out.rg hx9 H6c.out).cell 6 _ rfl
  have i6 := (K8.out.rg hx9 H6c.out).qz.zb.frozen 6
  have lz := (K8.out.rg hx9 H6c.out).qz.zb.lt
  clear hx9 ho9 C6 K8 z6
  dsimp only
  go_upto_region 11 with fail
  have K9 : Hid (QM g L vb q6 mv vP vI vF vM w1 z ⟨mA, mN, mD, true, st, lo, l, mT⟩ (.slice a4 l.length c4) vt (x9.setCell ⟨z, 6, none⟩ (.slice a4 l.length c4))) := HK9
  clear HK9 e6 i6 lz
  generalize x9.setCell ⟨z, 6, none⟩ (.slice a4 l.length c4) = X9 at *
  have C7 := ref3_count g L vb vP vI vF vM q6 64 X9 K9.out.qz.rx
  rw [H7.out] at C7
  go_wp2_with fail
  refine C7.mono ?_
  rintro e xa ⟨rfl, hxa⟩
  have KA := Lib.hid (K9.out.rg hxa H7c.out)
  clear hxa C7 K9
  go_wp2_with fail
  go_loopw [10] (fun s10 wr => ∃ (k : Nat) (qk : QS) (tr : List TrapC) (v : Value), k ≤ N ∧ s10 = .int .i64 k ∧ tr.length ≤ 5000000 + k ∧ QM g L vb qk mv vP vI vF vM w1 z ⟨mA, mN, mD, true, st, lo, l, tr⟩ (.slice a4 l.length c4) v wr ∧ mT ++ (trapsQ L N q7).1 = tr ++ (trapsQ L (N - k) qk).1 ∧ (trapsQ L N q7).2 = (trapsQ L (N - k) qk).2) (fun s10 _ => N - (intOf s10).toNat)
  case atStart => exact ⟨0, q7, mT, vt, by omega, rfl, by omega, KA.out, rfl, rfl⟩
  case round =>
    obtain ⟨k, qk, tr, v, hk, rfl, hlen, hC, ht, ht'⟩ := hrel
    clear KA
    have c2 := hC.qz.rx.c2
    by_cases hgo : k < N ∧ qk.e = 0
    · obtain ⟨hlt, he⟩ := hgo
      have hltI : (k : Int) < (N : Int) := by omega
      rw [he] at c2
      obtain ⟨j, hj⟩ : ∃ j, N - k = j + 1 := ⟨N - k - 1, by omega⟩
      have hjk : j = N - (k + 1) := by omega
      obtain ⟨b1, r1, g1, g1c, -, -⟩ := num_eq2 L qk
      obtain ⟨b2, r2, g2, g2c, -, -⟩ := num_eq2 L r1
      obtain ⟨b3, r3, g3, g3c, -, -⟩ := num_eq2 L r2
      obtain ⟨b4, r4, g4, g4c, -, -⟩ := num_eq2 L r3
      rw [hj, traps_in he j g1 g2 g3 g4, hjk] at ht ht'
      have HT := Lib.hid ht
      have HT' := Lib.hid ht'
      have G1 := Lib.hid g1
      have G2 := Lib.hid g2
      have G3 := Lib.hid g3
      have G4 := Lib.hid g4
      have G1c := Lib.hid g1c
      have G2c := Lib.hid g2c
      have G3c := Lib.hid g3c
      have G4c := Lib.hid g4c
      obtain ⟨av, cv, rfl, -, -⟩ := own_slice hC.mr.traps
      have D0 := Lib.hid hC
      have t7 := hC.cell 7 _ rfl
      have zw := hC.qz.zb.lt
      have HLN : tr.length ≤ 5000064 := by omega
      clear hC ht ht' g1 g2 g3 g4 g1c g2c g3c g4c hj hjk he
      go_wp2_with fail
      go_region_law (first
        | (refine step_pushH _ elem_trap rfl (.tmp 74) (.tmp 84) rfl (z + 1) _ tr.length _ rfl D4.out.mr.traps (encT ⟨b1, b2, b3, b4⟩) _ _ rfl rfl rfl (by intro u hu; simp [encT] at hu; rcases hu with rfl | rfl | rfl | rfl <;> rfl) (by omega) (by omega) (by omega) ?_
           intro v5 w9 ho5 hg5 hk5
           obtain ⟨a5, e5, rfl, -, -⟩ := own_slice (n := tr.length + 1) ho5
           obtain ⟨y7, i7, l7⟩ := D4.out.grow hg5
           have D5 := Lib.hid (D4.out.trap hg5 ho5 hk5)
           clear ho5 hg5 hk5)
        | (go_simp
           go_at_call 17
           refine (ref3_num' g L vb vP vI vF vM r3 2 _ D3.out.qz.rx (by omega) 2 rfl G4.out).mono ?_
           rintro e y4 ⟨rfl, hx⟩
           have D4 := Lib.hid (D3.out.rg hx G4c.out)
           have t7 := D4.out.cell 7 _ rfl
           have zw := D4.out.qz.zb.lt
           clear hx)
        | (go_simp
           go_at_call 17
           refine (ref3_num' g L vb vP vI vF vM r2 2 _ D2.out.qz.rx (by omega) 2 rfl G3.out).mono ?_
           rintro e y3 ⟨rfl, hx⟩
           have D3 := Lib.hid (D2.out.rg hx G3c.out)
           have t7 := D3.out.cell 7 _ rfl
           have zw := D3.out.qz.zb.lt
           clear hx)
        | (go_simp
           go_at_call 17
           refine (ref3_num' g L vb vP vI vF vM r1 2 _ D1.out.qz.rx (by omega) 2 rfl G2.out).mono ?_
           rintro e y2 ⟨rfl, hx⟩
           have D2 := Lib.hid (D1.out.rg hx G2c.out)
           have t7 := D2.out.cell 7 _ rfl
           have zw := D2.out.qz.zb.lt
           clear hx)
        | (go_simp
           go_at_call 17
           refine (ref3_num' g L vb vP vI vF vM qk 2 _ D0.out.drew.qz.rx (by omega) 2 rfl G1.out).mono ?_
           rintro e y1 ⟨rfl, hx⟩
           have D1 := Lib.hid (D0.out.drew.rg hx G1c.out)
           have t7 := D1.out.cell 7 _ rfl
           have zw := D1.out.qz.zb.lt
           clear hx)
        | (go_simp
           go_at_call 17
           refine (ref3_num' g L vb vP vI vF vM qk 2 _ D0.out.qz.rx (by omega) 2 rfl G1.out).mono ?_
           rintro e y1 ⟨rfl, hx⟩
           have D1 := Lib.hid (D0.out.rg hx G1c.out)
           have t7 := D1.out.cell 7 _ rfl
           have zw := D1.out.qz.zb.lt
           clear hx))
      all_goals
        (have DD : Hid (QM g L vb r4 mv vP vI vF vM w1 z ⟨mA, mN, mD, true, st, lo, l, tr ++ [⟨b1, b2, b3, b4⟩]⟩ (.slice a4 l.length c4) (.slice a5 (tr.length + 1) e5) (w9.setCell ⟨z, 7, none⟩ (.slice a5 (tr.length + 1) e5))) := D5
         have RR := Lib.hid (show mT ++ (trapsQ L N q7).1 = (tr ++ [⟨b1, b2, b3, b4⟩]) ++ (trapsQ L (N - (k + 1)) r4).1 by rw [HT.out, List.append_assoc]; rfl)
         clear D0 D1 D2 D3 D4 D5 t7 zw y7 i7 l7 c2
         generalize w9.setCell ⟨z, 7, none⟩ (.slice a5 (tr.length + 1) e5) = W9 at *
         go_wp2_with fail
         go_roundw
         case rel => exact ⟨k + 1, r4, tr ++ [⟨b1, b2, b3, b4⟩], _, by omega, by go_num, by rw [List.length_append]; show tr.length + 1 ≤ _; omega, DD.out, RR.out, HT'.out⟩
         case measure => simp [intOf]; omega)
    · have ht2 : mT ++ (trapsQ L N q7).1 = tr ∧ (trapsQ L N q7).2 = qk := by
        rw [ht, ht']
        by_cases hlt : k < N
        · rw [traps_out (fun e => hgo ⟨hlt, e⟩)]
          exact ⟨List.append_nil _, rfl⟩
        · rw [show N - k = 0 by omega]
          exact ⟨List.append_nil _, rfl⟩
      have HEX : (k < N ∧ ¬ qk.e = 0) ∨ ¬ k < N := by
        by_cases hlt : k < N
        · exact .inl ⟨hlt, fun e => hgo ⟨hlt, e⟩⟩
        · exact .inr hlt
      have HRk := Lib.hid (show R = (⟨mA, mN, mD, true, st, lo, l, tr⟩, { (if ((skipQ L qk).at_ : Int) ≠ (skipQ L qk).most then failQ (skipQ L qk) p 25 else skipQ L qk) with most := far }) by
        rw [HR.out]
        unfold codeT
        rw [ht2.1, ht2.2])
      have D0 := Lib.hid hC
      obtain ⟨q8, hq8⟩ : ∃ q8, skipQ L qk = q8 := ⟨_, rfl⟩
      have CS := ref3_skip g L vb vP vI vF vM qk wr hC.qz.rx
      have hsc := skip_c L qk
      rw [hq8] at CS hsc
      have HSC := Lib.hid hsc
      have HQ8 := Lib.hid hq8
      clear ht ht' ht2 hC hgo hsc hq8
      rcases HEX with ⟨hlt, he⟩ | hlt
      · have hltI : (k : Int) < (N : Int) := by omega
        have he' := int_ne he
        clear he
        go_upto_region 16 with fail
        clear c2 he'
        go_wp2_with fail
        refine CS.mono ?_
        rintro e xs ⟨rfl, hxs⟩
        have D1 := Lib.hid (D0.out.rg hxs HSC.out)
        have c1 := D1.out.qz.rx.c1
        have c4' := D1.out.qz.rx.cell 4 _ rfl
        have f4 := D1.out.qz.rx.blk.frozen 4
        have lg := D1.out.qz.rx.blk.lt
        clear hxs CS D0
        by_cases hne : (q8.at_ : Int) = q8.most
        · have hnb : ((q8.at_ : Int) != q8.most) = false := by simp [hne]
          have HF : Hid (R = (⟨mA, mN, mD, true, st, lo, l, tr⟩, { q8 with most := far })) := Lib.hid (by
            rw [HRk.out, HQ8.out, if_neg (fun e => e hne)])
          clear hne HRk HQ8
          go_wp2_with fail
          go_quiet (fail)
          go_wp2_with fail
          refine bodyPost_end (results_none rfl _ _ _) rfl ?_
          rw [HF.out]
          exact ⟨rfl, _, _, (D1.out.drewN _).far_⟩
        · have hnb : ((q8.at_ : Int) != q8.most) = true := by simp [hne]
          have HF : Hid (R = (⟨mA, mN, mD, true, st, lo, l, tr⟩, { failQ q8 p 25 with most := far })) := Lib.hid (by
            rw [HRk.out, HQ8.out, if_pos hne])
          clear hne HRk HQ8
          go_wp2_with fail
          go_quiet (fail)
          go_wp2_with fail
          refine (ref3_fail g L vb vP vI vF vM q8 p 25 _ (D1.out.drewN _).qz.rx).mono ?_
          rintro e xf ⟨rfl, hxf⟩
          have D2 := Lib.hid ((D1.out.drewN _).rg hxf (fail_c _ _ _))
          clear hxf c4' f4 lg c1
          have c4' := D2.out.qz.rx.cell 4 _ rfl
          have f4 := D2.out.qz.rx.blk.frozen 4
          have lg := D2.out.qz.rx.blk.lt
          go_wp2_with fail
          refine bodyPost_end (results_none rfl _ _ _) rfl ?_
          rw [HF.out]
          exact ⟨rfl, _, _, D2.out.far_⟩
      · have hltI : ¬ (k : Int) < (N : Int) := by omega
        go_upto_region 16 with fail
        clear c2
        go_wp2_with fail
        refine CS.mono ?_
        rintro e xs ⟨rfl, hxs⟩
        have D1 := Lib.hid (D0.out.rg hxs HSC.out)
        have c1 := D1.out.qz.rx.c1
        have c4' := D1.out.qz.rx.cell 4 _ rfl
        have f4 := D1.out.qz.rx.blk.frozen 4
        have lg := D1.out.qz.rx.blk.lt
        clear hxs CS D0
        by_cases hne : (q8.at_ : Int) = q8.most
        · have hnb : ((q8.at_ : Int) != q8.most) = false := by simp [hne]
          have HF : Hid (R = (⟨mA, mN, mD, true, st, lo, l, tr⟩, { q8 with most := far })) := Lib.hid (by
            rw [HRk.out, HQ8.out, if_neg (fun e => e hne)])
          clear hne HRk HQ8
          go_wp2_with fail
          go_quiet (fail)
          go_wp2_with fail
          refine bodyPost_end (results_none rfl _ _ _) rfl ?_
          rw [HF.out]
          exact ⟨rfl, _, _, (D1.out.drewN _).far_⟩
        · have hnb : ((q8.at_ : Int) != q8.most) = true := by simp [hne]
          have HF : Hid (R = (⟨mA, mN, mD, true, st, lo, l, tr⟩, { failQ q8 p 25 with most := far })) := Lib.hid (by
            rw [HRk.out, HQ8.out, if_pos hne])
          clear hne HRk HQ8
          go_wp2_with fail
          go_quiet (fail)
          go_wp2_with fail
          refine (ref3_fail g L vb vP vI vF vM q8 p 25 _ (D1.out.drewN _).qz.rx).mono ?_
          rintro e xf ⟨rfl, hxf⟩
          have D2 := Lib.hid ((D1.out.drewN _).rg hxf (fail_c _ _ _))
          clear hxf c4' f4 lg c1
          have c4' := D2.out.qz.rx.cell 4 _ rfl
          have f4 := D2.out.qz.rx.blk.frozen 4
          have lg := D2.out.qz.rx.blk.lt
          go_wp2_with fail
          refine bodyPost_end (results_none rfl _ _ _) rfl ?_
          rw [HF.out]
          exact ⟨rfl, _, _, D2.out.far_⟩
end Go.Proofs.Ytlipdifhdaaknaa
