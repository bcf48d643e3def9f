/-
  Package check by contract: Check.
-/
import Derived.Test.YtcklmhbcjgiplaaCkX
import Derived.Test.YtcklmhbcjgiplaaScope
namespace Go.Proofs.Ytcklmhbcjgiplaa
set_option linter.unusedVariables false
set_option linter.unusedSimpArgs false
open Go.RowKit
open Go.Maps Go.WideMaps
set_option maxRecDepth 100000

theorem headE_P (c : ClassC) : headE c = headP c.pool c.access c.this c.super c.ifaces := rfl
theorem poolE_cons (pool : List ConstC) (x : ConstC) (l : List ConstC) : poolE pool (x :: l) = if constE pool x = 0 then poolE pool l else constE pool x := rfl
theorem fieldsE_cons (pool : List ConstC) (ac : Int) (seen : List (ByteArray × ByteArray)) (f : FieldC) (l : List FieldC) : fieldsE pool ac seen (f :: l) = if fieldE pool ac seen f = 0 then fieldsE pool ac (seen ++ [keyC pool f.name f.desc]) l else fieldE pool ac seen f := rfl
theorem methsE_cons (pool : List ConstC) (ac : Int) (seen : List (ByteArray × ByteArray)) (f : MethC) (l : List MethC) : methsE pool ac seen (f :: l) = if methE pool ac seen f = 0 then methsE pool ac (seen ++ [keyC pool f.name f.desc]) l else methE pool ac seen f := rfl
theorem drop_at {α : Type} {l : List α} {k : Nat} {x : α} (h : l[k]? = some x) : l.drop k = x :: l.drop (k + 1) := by
  obtain ⟨hl, he⟩ := List.getElem?_eq_some_iff.1 h
  rw [List.drop_eq_getElem_cons hl, he]
/-- What Check's loops keep: the class, the book, the two maps; n1, n2 members so far. -/
structure CkI (W : World) (gc gb b1 b2 : Nat) (cv : Array Value) (n1 n2 : Nat) (l1 l2 : List (ByteArray × ByteArray)) (w : World) : Prop where
  kept : Kept W w
  cls : Blk w gc 27 cv
  book : Blk w gb 74 cv
  m1 : SeenN w b1 n1 l1
  m2 : SeenN w b2 n2 l2
section
variable {W w w' : World} {gc gb b1 b2 n1 n2 : Nat} {cv : Array Value} {l1 l2 : List (ByteArray × ByteArray)}
theorem CkI.keep (h : CkI W gc gb b1 b2 cv n1 n2 l1 l2 w) (hk : Kept w w') : CkI W gc gb b1 b2 cv n1 n2 l1 l2 w' :=
  ⟨Kept.trans h.kept hk, h.cls.kept hk, h.book.kept hk, Dict.kept h.m1 hk, Dict.kept h.m2 hk⟩
theorem CkI.one (h : CkI W gc gb b1 b2 cv n1 n2 l1 l2 w) (h12 : b1 ≠ b2) (hb : W.heap.size ≤ b1) {k : ByteArray × ByteArray} (hs : SeenN w' b1 (n1 + 1) (l1 ++ [k])) (ht : Touch (fun b => b = b1) w w') : CkI W gc gb b1 b2 cv (n1 + 1) n2 (l1 ++ [k]) l2 w' :=
  ⟨Below.trans h.kept (ht.below (fun b e => by rw [e]; exact hb) h.kept.size), h.cls.touch ht (fun e => (Dict.blk h.m1 h.cls) e.symm), h.book.touch ht (fun e => (Dict.blk h.m1 h.book) e.symm), hs, Dict.touch h.m2 ht fun e => h12 e.symm⟩
theorem CkI.two (h : CkI W gc gb b1 b2 cv n1 n2 l1 l2 w) (h12 : b1 ≠ b2) (hb : W.heap.size ≤ b2) {k : ByteArray × ByteArray} (hs : SeenN w' b2 (n2 + 1) (l2 ++ [k])) (ht : Touch (fun b => b = b2) w w') : CkI W gc gb b1 b2 cv n1 (n2 + 1) l1 (l2 ++ [k]) w' :=
  ⟨Below.trans h.kept (ht.below (fun b e => by rw [e]; exact hb) h.kept.size), h.cls.touch ht (fun e => (Dict.blk h.m2 h.cls) e.symm), h.book.touch ht (fun e => (Dict.blk h.m2 h.book) e.symm), Dict.touch h.m1 ht fun e => h12 e, hs⟩
theorem CkI.gone (h : CkI W gc gb b1 b2 cv n1 n2 l1 l2 w) {b : Nat} (hb : W.heap.size ≤ b) (ht : Touch (fun c => c = b) w w') : Kept W w' :=
  Below.trans h.kept (ht.below (fun c e => by rw [e]; exact hb) h.kept.size)
end
set_option maxHeartbeats 8000000 in
theorem check_Check (c : ClassC) (mv : List (MethC × Value × Value)) (vP vI vF vM : Value) (w : World) (h : CRd w c mv vP vI vF vM) (hs : ∀ k ∈ c.pool, k.text.size ≤ maxLen) :
    Calls Try.prog 16 #[.agg (classV c vP vI vF vM).toArray] w (IntG (checkE c) w) := by
  obtain ⟨R, hR⟩ : ∃ R, R = checkE c := ⟨_, rfl⟩
  rw [← hR]
  unfold checkE at hR
  have HSZ := Lib.hid hs
  have HCR := Lib.hid h
  clear hs
  obtain ⟨aP, kP, aI, kI, aF, kF, aM, kM, rfl, rfl, rfl, rfl⟩ := h.forms
  obtain ⟨nP, hnP⟩ : ∃ n, n = c.pool.length := ⟨_, rfl⟩
  obtain ⟨nI, hnI⟩ : ∃ n, n = c.ifaces.length := ⟨_, rfl⟩
  obtain ⟨nF, hnF⟩ : ∃ n, n = c.fields.length := ⟨_, rfl⟩
  obtain ⟨nM, hnM⟩ : ∃ n, n = mv.length := ⟨_, rfl⟩
  change Calls Try.prog 16 #[.agg #[.int .i64 c.minor, .int .i64 c.major, .slice aP c.pool.length kP, .int .i64 c.access, .int .i64 c.this, .int .i64 c.super, .slice aI c.ifaces.length kI, .slice aF c.fields.length kF, .slice aM mv.length kM]] w _
  have HMS := Lib.hid h.ms
  rw [← hnP, ← hnI, ← hnF, ← hnM] at h ⊢
  have r1 := h.p
  have r2 := h.i
  have r3 := h.f
  have r4 := h.m
  rw [← hnP] at r1
  rw [← hnI] at r2
  rw [← hnF] at r3
  rw [← hnM] at r4
  have m1 : nP ≤ 9223372036854775807 := by obtain ⟨_, _, _, e, q1, q2, _⟩ := r1; cases e; omega
  have m2 : nI ≤ 9223372036854775807 := by obtain ⟨_, _, _, e, q1, q2, _⟩ := r2; cases e; omega
  have m3 : nF ≤ 9223372036854775807 := by obtain ⟨_, _, _, e, q1, q2, _⟩ := r3; cases e; omega
  have m4 : nM ≤ 9223372036854775807 := by obtain ⟨_, _, _, e, q1, q2, _⟩ := r4; cases e; omega
  have N1 := Lib.hid hnP
  have N2 := Lib.hid hnI
  have N3 := Lib.hid hnF
  have N4 := Lib.hid hnM
  clear hnP hnI hnF hnM
  have hk : Kept w (w.alloc (.cells #[.int .i64 c.minor, .int .i64 c.major, .slice aP nP kP, .int .i64 c.access, .int .i64 c.this, .int .i64 c.super, .slice aI nI kI, .slice aF nF kF, .slice aM nM kM] 27)) := (Below.refl _ _).alloc (Nat.le_refl _) _
  have HK := Lib.hid hk
  have HPP := Lib.hid (r1.kept hk)
  have HII := Lib.hid (r2.kept hk)
  have HFF := Lib.hid (r3.kept hk)
  have HMM := Lib.hid (r4.kept hk)
  have HRR := Lib.hid (fun x hx => (h.r x hx).kept hk)
  clear r1 r2 r3 r4
  have HB := Lib.hid (Blk.new w 27 #[.int .i64 c.minor, .int .i64 c.major, .slice aP nP kP, .int .i64 c.access, .int .i64 c.this, .int .i64 c.super, .slice aI nI kI, .slice aF nF kF, .slice aM nM kM])
  have HH := Lib.hid (show w.heap.size < (w.alloc (.cells #[.int .i64 c.minor, .int .i64 c.major, .slice aP nP kP, .int .i64 c.access, .int .i64 c.this, .int .i64 c.super, .slice aI nI kI, .slice aF nF kF, .slice aM nM kM] 27)).heap.size by simp)
  clear hk h
  have hcr := HCR.out
  rw [← N1.out, ← N2.out, ← N3.out, ← N4.out] at hcr
  have HCS := Lib.hid hcr
  clear hcr
  have HR := Lib.hid hR
  clear hR
  go_enter Try.func16, Try.ntmps16
  go_wp2_with fail
  refine wp_scope_fwd 0 rfl ?_
  go_upto_region 1 with fail
  generalize (w.alloc (.cells #[.int .i64 c.minor, .int .i64 c.major, .slice aP nP kP, .int .i64 c.access, .int .i64 c.this, .int .i64 c.super, .slice aI nI kI, .slice aF nF kF, .slice aM nM kM] 27)) = W at *
  obtain ⟨gc, hgc⟩ : ∃ g, g = w.heap.size := ⟨_, rfl⟩
  rw [← hgc] at HB HH ⊢
  clear hgc
  have c0 := HB.out.cell 0
  have c1 := HB.out.cell 1
  have c2 := HB.out.cell 2
  have c3 := HB.out.cell 3
  have c4 := HB.out.cell 4
  have c5 := HB.out.cell 5
  have c6 := HB.out.cell 6
  have c7 := HB.out.cell 7
  have c8 := HB.out.cell 8
  simp only [List.getElem?_toArray, List.getElem?_cons_succ, List.getElem?_cons_zero] at c0 c1 c2 c3 c4 c5 c6 c7 c8
  go_upto_region 2 with fail
  have hk1 : Kept W (W.alloc (.cells #[.int .i64 c.minor, .int .i64 c.major, .slice aP nP kP, .int .i64 c.access, .int .i64 c.this, .int .i64 c.super, .slice aI nI kI, .slice aF nF kF, .slice aM nM kM] 74)) := (Below.refl _ _).alloc (Nat.le_refl _) _
  obtain ⟨gb, hgb⟩ : ∃ g, g = W.heap.size := ⟨_, rfl⟩
  have K1 := Lib.hid hk1
  have HB1 := Lib.hid (HB.out.kept hk1)
  have HG1 := Lib.hid (Blk.new W 74 #[.int .i64 c.minor, .int .i64 c.major, .slice aP nP kP, .int .i64 c.access, .int .i64 c.this, .int .i64 c.super, .slice aI nI kI, .slice aF nF kF, .slice aM nM kM])
  rw [← hgb] at HG1 ⊢
  clear hk1
  have HGB := Lib.hid hgb
  clear hgb
  generalize (W.alloc (.cells #[.int .i64 c.minor, .int .i64 c.major, .slice aP nP kP, .int .i64 c.access, .int .i64 c.this, .int .i64 c.super, .slice aI nI kI, .slice aF nF kF, .slice aM nM kM] 74)) = w1 at *
  have hmm := @run_makeMap Try.prog
  go_upto_region 4 with fail
  clear hmm
  obtain ⟨p1, hp1⟩ : ∃ g, g = w1.heap.size := ⟨_, rfl⟩
  obtain ⟨p2, hp2⟩ : ∃ g, g = w1.heap.size + 1 := ⟨_, rfl⟩
  have hk2 : Kept w1 ((w1.alloc (.map #[] 0)).alloc (.map #[] 0)) := ((Below.refl _ _).alloc (Nat.le_refl _) _).alloc (by simp) _
  have hd1 : SeenN ((w1.alloc (.map #[] 0)).alloc (.map #[] 0)) p1 0 [] := Dict.kept (hp1 ▸ ((Dict.made Try.prog 102 encN w1).congr (fun a _ => by simp))) ((Below.refl _ _).alloc (Nat.le_refl _) _)
  have hd2 : SeenN ((w1.alloc (.map #[] 0)).alloc (.map #[] 0)) p2 0 [] := by
    have e : p2 = (w1.alloc (.map #[] 0)).heap.size := by rw [hp2]; simp
    rw [e]
    exact (Dict.made Try.prog 102 encN (w1.alloc (.map #[] 0))).congr (fun a _ => by simp)
  have h12 : p1 ≠ p2 := by omega
  have HW1 := Lib.hid (show W.heap.size ≤ p1 by have := K1.out.size; omega)
  have HW2 := Lib.hid (show W.heap.size ≤ p2 by have := K1.out.size; omega)
  have I2 := Lib.hid (⟨Kept.trans K1.out hk2, HB1.out.kept hk2, HG1.out.kept hk2, hd1, hd2⟩ : CkI W gc gb p1 p2 #[.int .i64 c.minor, .int .i64 c.major, .slice aP nP kP, .int .i64 c.access, .int .i64 c.this, .int .i64 c.super, .slice aI nI kI, .slice aF nF kF, .slice aM nM kM] 0 0 [] [] ((w1.alloc (.map #[] 0)).alloc (.map #[] 0)))
  rw [← hp2, ← hp1]
  have H12 := Lib.hid h12
  clear hk2 hd1 hd2 hp2 h12 HB1 HG1 K1 HGB
  generalize ((w1.alloc (.map #[] 0)).alloc (.map #[] 0)) = w2 at *
  clear hp1
  have hb := I2.out.cls
  have HB2 := Lib.hid hb
  clear hb
  have d0 := HB2.out.cell 0
  have d1 := HB2.out.cell 1
  have d2 := HB2.out.cell 2
  have d3 := HB2.out.cell 3
  have d4 := HB2.out.cell 4
  have d5 := HB2.out.cell 5
  have d6 := HB2.out.cell 6
  have d7 := HB2.out.cell 7
  have d8 := HB2.out.cell 8
  simp only [List.getElem?_toArray, List.getElem?_cons_succ, List.getElem?_cons_zero] at d0 d1 d2 d3 d4 d5 d6 d7 d8
  have C := check_long c mv (.slice aP nP kP) (.slice aI nI kI) (.slice aF nF kF) (.slice aM nM kM) w2 (HCS.out.kept (Kept.trans HK.out I2.out.kept))
  obtain ⟨lb, hlb⟩ : ∃ b, b = muchB c := ⟨_, rfl⟩
  rw [← hlb] at C
  have HLB := Lib.hid hlb
  clear hlb
  go_wp2_with fail
  refine C.mono ?_
  rintro e w3 ⟨rfl, hk3⟩
  have I3 := Lib.hid (I2.out.keep hk3)
  clear hk3 C I2 HB2
  have hb := I3.out.cls
  have HB3 := Lib.hid hb
  have hg := I3.out.book
  have HG3 := Lib.hid hg
  clear hb hg
  have d0 := HB3.out.cell 0
  have d1 := HB3.out.cell 1
  have d2 := HB3.out.cell 2
  have d3 := HB3.out.cell 3
  have d4 := HB3.out.cell 4
  have d5 := HB3.out.cell 5
  have d6 := HB3.out.cell 6
  have d7 := HB3.out.cell 7
  have d8 := HB3.out.cell 8
  simp only [List.getElem?_toArray, List.getElem?_cons_succ, List.getElem?_cons_zero] at d0 d1 d2 d3 d4 d5 d6 d7 d8
  have f0 := HG3.out.cell 0
  have f1 := HG3.out.cell 1
  have f2 := HG3.out.cell 2
  have f3 := HG3.out.cell 3
  have f4 := HG3.out.cell 4
  have f5 := HG3.out.cell 5
  have f6 := HG3.out.cell 6
  have f7 := HG3.out.cell 7
  have f8 := HG3.out.cell 8
  simp only [List.getElem?_toArray, List.getElem?_cons_succ, List.getElem?_cons_zero] at f0 f1 f2 f3 f4 f5 f6 f7 f8
  cases lb
  rotate_left
  · have HR2 := Lib.hid (show R = 2 by rw [HR.out, ← HLB.out]; rfl)
    go_wp2_with fail
    go_step3
    refine ⟨rfl, ?_⟩
    go_wp2_with fail
    rw [Exit.noGoto_ret]
    go_ret
    exact ⟨by rw [HR2.out] <;> rfl, Kept.trans HK.out I3.out.kept⟩
  have HM := Lib.hid (muchB_mv HCR.out.ms ▸ HLB.out)
  have l64 : nI ≤ 64 ∧ nF ≤ 64 ∧ nM ≤ 64 ∧ nP ≤ 1024 := by
    have h := HM.out
    have q1 := N1.out
    have q2 := N2.out
    have q3 := N3.out
    have q4 := N4.out
    simp only [Bool.false_eq, Bool.or_eq_false_iff, decide_eq_false_iff_not] at h
    omega
  have HML := Lib.hid (show ∀ x ∈ mv, x.1.code.length ≤ 4096 by
    have h := HM.out
    simp only [Bool.false_eq, Bool.or_eq_false_iff] at h
    have h2 := List.any_eq_false.1 h.2
    intro x hx
    have h3 := h2 x hx
    simp only [muchM, Bool.or_eq_true, decide_eq_true_eq, not_or] at h3
    omega)
  have HR3 := Lib.hid (show R = if c.major < 45 ∨ 52 < c.major then 12 else if poolE c.pool c.pool ≠ 0 then poolE c.pool c.pool else if headE c ≠ 0 then headE c else if fieldsE c.pool c.access [] c.fields ≠ 0 then fieldsE c.pool c.access [] c.fields else methsE c.pool c.access [] c.methods by rw [HR.out, ← HLB.out, if_neg (by decide)])
  clear HR HLB HM
  by_cases v1 : c.major < 45
  · have HR2 := Lib.hid (show R = 12 by rw [HR3.out, if_pos (.inl v1)])
    go_wp2_with fail
    go_step3
    refine ⟨rfl, ?_⟩
    go_wp2_with fail
    rw [Exit.noGoto_ret]
    go_ret
    exact ⟨by rw [HR2.out] <;> rfl, Kept.trans HK.out I3.out.kept⟩
  by_cases v2 : 52 < c.major
  · have HR2 := Lib.hid (show R = 12 by rw [HR3.out, if_pos (.inr v2)])
    go_wp2_with fail
    go_step3
    refine ⟨rfl, ?_⟩
    go_wp2_with fail
    rw [Exit.noGoto_ret]
    go_ret
    exact ⟨by rw [HR2.out] <;> rfl, Kept.trans HK.out I3.out.kept⟩
  have HR4 := Lib.hid (show R = if poolE c.pool c.pool ≠ 0 then poolE c.pool c.pool else if headE c ≠ 0 then headE c else if fieldsE c.pool c.access [] c.fields ≠ 0 then fieldsE c.pool c.access [] c.fields else methsE c.pool c.access [] c.methods by rw [HR3.out, if_neg (by omega)])
  clear HR3
  go_wp2_with fail
  go_loopw [4, 30] (fun s4 sl wr => ∃ k : Nat, k ≤ nP ∧ s4 = .int .i64 0 ∧ sl = .int .i64 k ∧ CkI W gc gb p1 p2 #[.int .i64 c.minor, .int .i64 c.major, .slice aP nP kP, .int .i64 c.access, .int .i64 c.this, .int .i64 c.super, .slice aI nI kI, .slice aF nF kF, .slice aM nM kM] 0 0 [] [] wr ∧ poolE c.pool c.pool = poolE c.pool (c.pool.drop k)) (fun _ sl _ => nP - (intOf sl).toNat)
  case atStart => exact ⟨0, by omega, rfl, rfl, I3.out, rfl⟩
  case round =>
  obtain ⟨k, hk, rfl, rfl, hi, hp⟩ := hrel
  have IK := Lib.hid hi
  have HPE := Lib.hid hp
  clear hi hp I3 HB3 HG3
  have hb := IK.out.cls
  have HBK := Lib.hid hb
  have hg := IK.out.book
  have HGK := Lib.hid hg
  clear hb hg
  by_cases hlt : k < nP
  · obtain ⟨x, hx⟩ : ∃ x, c.pool[k]? = some x := ⟨_, List.getElem?_eq_getElem (by have := N1.out; omega)⟩
    obtain ⟨b1, o1, d1, hv1, e0, e1, e2, e3, e4⟩ := const_cells N1.out (HPP.out.kept IK.out.kept) hx
    simp only [Value.slice.injEq] at hv1
    obtain ⟨rfl, -, rfl⟩ := hv1
    have hkI : (k : Int) < (nP : Int) := by omega
    have h0I : (0 : Int) ≤ (k : Int) := by omega
    have HX := Lib.hid hx
    clear hx
    go_upto_region 11 with fail
    have hkt : Kept wr (wr.alloc (.cells #[.int .i64 x.tag, .string x.text, .int .i64 x.num, .int .i64 x.a, .int .i64 x.b] 47)) := (Below.refl _ _).alloc (Nat.le_refl _) _
    obtain ⟨gx, hgx⟩ : ∃ g, g = wr.heap.size := ⟨_, rfl⟩
    have HXB := Lib.hid (Blk.new wr 47 #[.int .i64 x.tag, .string x.text, .int .i64 x.num, .int .i64 x.a, .int .i64 x.b])
    have IX := Lib.hid (IK.out.keep hkt)
    have HGX := Lib.hid (HGK.out.kept hkt)
    rw [← hgx] at HXB ⊢
    clear hkt hgx e0 e1 e2 e3 e4
    generalize (wr.alloc (.cells #[.int .i64 x.tag, .string x.text, .int .i64 x.num, .int .i64 x.a, .int .i64 x.b] 47)) = wx at *
    have t0 := HXB.out.cell 0
    have t1 := HXB.out.cell 1
    have t2 := HXB.out.cell 2
    have t3 := HXB.out.cell 3
    have t4 := HXB.out.cell 4
    simp only [List.getElem?_toArray, List.getElem?_cons_succ, List.getElem?_cons_zero] at t0 t1 t2 t3 t4
    have f0 := HGX.out.cell 0
    have f1 := HGX.out.cell 1
    have f2 := HGX.out.cell 2
    have f3 := HGX.out.cell 3
    have f4 := HGX.out.cell 4
    have f5 := HGX.out.cell 5
    have f6 := HGX.out.cell 6
    have f7 := HGX.out.cell 7
    have f8 := HGX.out.cell 8
    simp only [List.getElem?_toArray, List.getElem?_cons_succ, List.getElem?_cons_zero] at f0 f1 f2 f3 f4 f5 f6 f7 f8
    have C := check_constant c.pool c.minor c.major c.access c.this c.super (.slice (some ⟨b1, o1, none⟩) nP kP) (.slice aI nI kI) (.slice aF nF kF) (.slice aM nM kM) x wx (by rw [← N1.out]; exact HPP.out.kept IX.out.kept) HSZ.out
    obtain ⟨E, hE⟩ : ∃ E, E = constE c.pool x := ⟨_, rfl⟩
    rw [← hE] at C
    have HPX := Lib.hid (show poolE c.pool c.pool = if E = 0 then poolE c.pool (c.pool.drop (k + 1)) else E by rw [HPE.out, drop_at HX.out, poolE_cons, ← hE])
    clear hE
    go_wp2_with fail
    refine C.mono ?_
    rintro e wy ⟨rfl, hky⟩
    have IY := Lib.hid (IX.out.keep hky)
    clear hky C
    by_cases h0 : E = 0
    · subst h0
      have HP2 := Lib.hid (show poolE c.pool c.pool = poolE c.pool (c.pool.drop (k + 1)) by rw [HPX.out, if_pos rfl])
      go_wp2_with fail
      go_roundw
      case rel => exact ⟨k + 1, by omega, rfl, by go_num, IY.out, HP2.out⟩
      case measure => simp [intOf]; omega
    · have hne : (E != 0) = true := by simpa using h0
      have HR5 := Lib.hid (show R = E by rw [HR4.out, HPX.out, if_neg h0, if_pos h0])
      clear h0
      go_wp2_with fail
      go_step3
      refine ⟨rfl, ?_⟩
      go_wp2_with fail
      rw [Exit.noGoto_ret]
      go_ret
      exact ⟨by rw [HR5.out] <;> rfl, Kept.trans HK.out IY.out.kept⟩
  obtain rfl : k = nP := by omega
  have HP0 := Lib.hid (show poolE c.pool c.pool = 0 by rw [HPE.out, List.drop_of_length_le (by have := N1.out; omega)]; rfl)
  have HR5 := Lib.hid (show R = if headE c ≠ 0 then headE c else if fieldsE c.pool c.access [] c.fields ≠ 0 then fieldsE c.pool c.access [] c.fields else methsE c.pool c.access [] c.methods by rw [HR4.out, HP0.out, if_neg (by decide)])
  clear HR4
  have f0 := HGK.out.cell 0
  have f1 := HGK.out.cell 1
  have f2 := HGK.out.cell 2
  have f3 := HGK.out.cell 3
  have f4 := HGK.out.cell 4
  have f5 := HGK.out.cell 5
  have f6 := HGK.out.cell 6
  have f7 := HGK.out.cell 7
  have f8 := HGK.out.cell 8
  simp only [List.getElem?_toArray, List.getElem?_cons_succ, List.getElem?_cons_zero] at f0 f1 f2 f3 f4 f5 f6 f7 f8
  have C := check_head c.pool c.minor c.major c.access c.this c.super (.slice aP k kP) (.slice aI nI kI) (.slice aF nF kF) (.slice aM nM kM) c.ifaces wr (by rw [← N1.out]; exact HPP.out.kept IK.out.kept) (by rw [← N2.out]; exact HII.out.kept IK.out.kept) HSZ.out (by have := N2.out; omega)
  rw [← headE_P] at C
  obtain ⟨E, hE⟩ : ∃ E, E = headE c := ⟨_, rfl⟩
  rw [← hE] at C
  have HHE := Lib.hid hE
  clear hE
  go_wp2_with fail
  refine C.mono ?_
  rintro e w5 ⟨rfl, hk5⟩
  have I5 := Lib.hid (IK.out.keep hk5)
  clear hk5 C
  by_cases h0 : E = 0
  rotate_left
  · have hne : (E != 0) = true := by simpa using h0
    have HR6 := Lib.hid (show R = E by rw [HR5.out, ← HHE.out, if_pos h0])
    clear h0
    go_wp2_with fail
    go_step3
    refine ⟨rfl, ?_⟩
    go_wp2_with fail
    rw [Exit.noGoto_ret]
    go_ret
    exact ⟨by rw [HR6.out] <;> rfl, Kept.trans HK.out I5.out.kept⟩
  subst h0
  have HR6 := Lib.hid (show R = if fieldsE c.pool c.access [] c.fields ≠ 0 then fieldsE c.pool c.access [] c.fields else methsE c.pool c.access [] c.methods by rw [HR5.out, ← HHE.out, if_neg (by decide)])
  clear HR5 HHE IK HBK HGK HPE
  have hb := I5.out.cls
  have HB5 := Lib.hid hb
  clear hb
  have d0 := HB5.out.cell 0
  have d1 := HB5.out.cell 1
  have d2 := HB5.out.cell 2
  have d3 := HB5.out.cell 3
  have d4 := HB5.out.cell 4
  have d5 := HB5.out.cell 5
  have d6 := HB5.out.cell 6
  have d7 := HB5.out.cell 7
  have d8 := HB5.out.cell 8
  simp only [List.getElem?_toArray, List.getElem?_cons_succ, List.getElem?_cons_zero] at d0 d1 d2 d3 d4 d5 d6 d7 d8
  go_wp2_with fail
  go_loopw [4, 47] (fun s4 sl wr => ∃ q : Nat, q ≤ nF ∧ s4 = .int .i64 0 ∧ sl = .int .i64 q ∧ CkI W gc gb p1 p2 #[.int .i64 c.minor, .int .i64 c.major, .slice aP k kP, .int .i64 c.access, .int .i64 c.this, .int .i64 c.super, .slice aI nI kI, .slice aF nF kF, .slice aM nM kM] q 0 ((c.fields.take q).map fun g => keyC c.pool g.name g.desc) [] wr ∧ fieldsE c.pool c.access [] c.fields = fieldsE c.pool c.access ((c.fields.take q).map fun g => keyC c.pool g.name g.desc) (c.fields.drop q)) (fun _ sl _ => nF - (intOf sl).toNat)
  case atStart => exact ⟨0, by omega, rfl, rfl, I5.out, rfl⟩
  case round =>
  obtain ⟨j, hj, rfl, rfl, hi, hp⟩ := hrel
  have IK := Lib.hid hi
  have HFE := Lib.hid hp
  clear hi hp I5 HB5
  have hb := IK.out.cls
  have HBK := Lib.hid hb
  have hg := IK.out.book
  have HGK := Lib.hid hg
  clear hb hg
  by_cases hlt : j < nF
  · obtain ⟨x, hx⟩ : ∃ x, c.fields[j]? = some x := ⟨_, List.getElem?_eq_getElem (by have := N3.out; omega)⟩
    obtain ⟨b3, o3, d3, hv1, e0, e1, e2, e3⟩ := field_cells N3.out (HFF.out.kept IK.out.kept) hx
    simp only [Value.slice.injEq] at hv1
    obtain ⟨rfl, -, rfl⟩ := hv1
    have hkI : (j : Int) < (nF : Int) := by omega
    have h0I : (0 : Int) ≤ (j : Int) := by omega
    have HX := Lib.hid hx
    clear hx
    go_upto_region 19 with fail
    have hkt : Kept wr (wr.alloc (.cells #[.int .i64 x.access, .int .i64 x.name, .int .i64 x.desc, .int .i64 x.value] 55)) := (Below.refl _ _).alloc (Nat.le_refl _) _
    obtain ⟨gx, hgx⟩ : ∃ g, g = wr.heap.size := ⟨_, rfl⟩
    have HXB := Lib.hid (Blk.new wr 55 #[.int .i64 x.access, .int .i64 x.name, .int .i64 x.desc, .int .i64 x.value])
    have IX := Lib.hid (IK.out.keep hkt)
    have HGX := Lib.hid (HGK.out.kept hkt)
    rw [← hgx] at HXB ⊢
    clear hkt hgx e0 e1 e2 e3
    generalize (wr.alloc (.cells #[.int .i64 x.access, .int .i64 x.name, .int .i64 x.desc, .int .i64 x.value] 55)) = wx at *
    have t0 := HXB.out.cell 0
    have t1 := HXB.out.cell 1
    have t2 := HXB.out.cell 2
    have t3 := HXB.out.cell 3
    simp only [List.getElem?_toArray, List.getElem?_cons_succ, List.getElem?_cons_zero] at t0 t1 t2 t3
    have f0 := HGX.out.cell 0
    have f1 := HGX.out.cell 1
    have f2 := HGX.out.cell 2
    have f3 := HGX.out.cell 3
    have f4 := HGX.out.cell 4
    have f5 := HGX.out.cell 5
    have f6 := HGX.out.cell 6
    have f7 := HGX.out.cell 7
    have f8 := HGX.out.cell 8
    simp only [List.getElem?_toArray, List.getElem?_cons_succ, List.getElem?_cons_zero] at f0 f1 f2 f3 f4 f5 f6 f7 f8
    obtain ⟨seen, hseen⟩ : ∃ l, l = (c.fields.take j).map fun g => keyC c.pool g.name g.desc := ⟨_, rfl⟩
    rw [← hseen] at IX HFE
    have HSE := Lib.hid (show seen ++ [keyC c.pool x.name x.desc] = (c.fields.take (j + 1)).map fun g => keyC c.pool g.name g.desc by rw [hseen, List.take_add_one, HX.out]; simp)
    clear hseen
    have C := check_field x.access x.name x.desc x.value c.pool c.minor c.major c.access c.this c.super (.slice aP k kP) (.slice aI nI kI) (.slice (some ⟨b3, o3, none⟩) nF kF) (.slice aM nM kM) seen j p1 wx (by rw [← N1.out]; exact HPP.out.kept IX.out.kept) HSZ.out (by omega) IX.out.m1
    rw [show fieldE c.pool c.access seen ⟨x.access, x.name, x.desc, x.value⟩ = fieldE c.pool c.access seen x from rfl] at C
    obtain ⟨E, hE⟩ : ∃ E, E = fieldE c.pool c.access seen x := ⟨_, rfl⟩
    rw [← hE] at C
    have HFX := Lib.hid (show fieldsE c.pool c.access [] c.fields = if E = 0 then fieldsE c.pool c.access (seen ++ [keyC c.pool x.name x.desc]) (c.fields.drop (j + 1)) else E by rw [HFE.out, drop_at HX.out, fieldsE_cons, ← hE])
    clear hE
    go_wp2_with fail
    refine C.mono ?_
    rintro e wy ⟨rfl, hsn, hty⟩
    have HKY := Lib.hid (IX.out.gone HW1.out hty)
    have HSN := Lib.hid hsn
    have HTY := Lib.hid hty
    clear hsn hty C
    by_cases h0 : E = 0
    · subst h0
      have IY := Lib.hid (IX.out.one H12.out HW1.out (HSN.out rfl) HTY.out)
      have HP2 := Lib.hid (show fieldsE c.pool c.access [] c.fields = fieldsE c.pool c.access (seen ++ [keyC c.pool x.name x.desc]) (c.fields.drop (j + 1)) by rw [HFX.out, if_pos rfl])
      go_wp2_with fail
      go_roundw
      case rel => exact ⟨j + 1, by omega, rfl, by go_num, HSE.out ▸ IY.out, HSE.out ▸ HP2.out⟩
      case measure => simp [intOf]; omega
    · have hne : (E != 0) = true := by simpa using h0
      have HR7 := Lib.hid (show R = E by rw [HR6.out, HFX.out, if_neg h0, if_pos h0])
      clear h0
      go_wp2_with fail
      go_step3
      refine ⟨rfl, ?_⟩
      go_wp2_with fail
      rw [Exit.noGoto_ret]
      go_ret
      exact ⟨by rw [HR7.out] <;> rfl, Kept.trans HK.out HKY.out⟩
  obtain rfl : j = nF := by omega
  have HF0 := Lib.hid (show fieldsE c.pool c.access [] c.fields = 0 by rw [HFE.out, List.drop_of_length_le (by have := N3.out; omega)]; rfl)
  have HR7 := Lib.hid (show R = methsE c.pool c.access [] c.methods by rw [HR6.out, HF0.out, if_neg (by decide)])
  clear HR6
  obtain ⟨seen1, hseen1⟩ : ∃ l, l = (c.fields.take j).map fun g => keyC c.pool g.name g.desc := ⟨_, rfl⟩
  rw [← hseen1] at IK
  clear hseen1 HFE
  have d0 := HBK.out.cell 0
  have d1 := HBK.out.cell 1
  have d2 := HBK.out.cell 2
  have d3 := HBK.out.cell 3
  have d4 := HBK.out.cell 4
  have d5 := HBK.out.cell 5
  have d6 := HBK.out.cell 6
  have d7 := HBK.out.cell 7
  have d8 := HBK.out.cell 8
  simp only [List.getElem?_toArray, List.getElem?_cons_succ, List.getElem?_cons_zero] at d0 d1 d2 d3 d4 d5 d6 d7 d8
  obtain ⟨wf, hwf⟩ : ∃ x, x = wr := ⟨_, rfl⟩
  subst hwf
  go_wp2_with fail
  go_loopw [4, 61] (fun s4 sl wr => ∃ i : Nat, i ≤ nM ∧ s4 = .int .i64 0 ∧ sl = .int .i64 i ∧ CkI W gc gb p1 p2 #[.int .i64 c.minor, .int .i64 c.major, .slice aP k kP, .int .i64 c.access, .int .i64 c.this, .int .i64 c.super, .slice aI nI kI, .slice aF j kF, .slice aM nM kM] j i seen1 ((mv.take i).map fun g => keyC c.pool g.1.name g.1.desc) wr ∧ methsE c.pool c.access [] c.methods = methsE c.pool c.access ((mv.take i).map fun g => keyC c.pool g.1.name g.1.desc) (c.methods.drop i)) (fun _ sl _ => nM - (intOf sl).toNat)
  case atStart => exact ⟨0, by omega, rfl, rfl, IK.out, rfl⟩
  case round =>
  clear IK HBK HGK
  obtain ⟨i, hi', rfl, rfl, hi, hp⟩ := hrel
  have IK := Lib.hid hi
  have HME := Lib.hid hp
  clear hi hp
  have hb := IK.out.cls
  have HBK := Lib.hid hb
  have hg := IK.out.book
  have HGK := Lib.hid hg
  clear hb hg
  by_cases hlt : i < nM
  · obtain ⟨⟨m, vc, vt⟩, hx⟩ : ∃ x, mv[i]? = some x := ⟨_, List.getElem?_eq_getElem (by have := N4.out; omega)⟩
    obtain ⟨b1, o1, d1, hv1, e0, e1, e2, e3, e4, e5, e6, e7⟩ := meth_cells N4.out (HMM.out.kept IK.out.kept) hx
    have hrm : MRd wr m vc vt := (HRR.out _ (List.mem_of_getElem? hx)).kept IK.out.kept
    simp only [Value.slice.injEq] at hv1
    obtain ⟨rfl, -, rfl⟩ := hv1
    dsimp only at e0 e1 e2 e3 e4 e5 e6 e7
    obtain ⟨lc, hlc⟩ : ∃ lc, lc = m.code.length := ⟨_, rfl⟩
    obtain ⟨lt, hlt'⟩ : ∃ lt, lt = m.traps.length := ⟨_, rfl⟩
    have hrc := hrm.code
    have hrt := hrm.traps
    clear hrm
    rw [← hlc] at hrc
    rw [← hlt'] at hrt
    have HRc := Lib.hid hrc
    have HRt := Lib.hid hrt
    obtain ⟨_, ac, kc, rfl, -⟩ := hrc
    obtain ⟨_, at_, kt, rfl, -⟩ := hrt
    have hkI : (i : Int) < (nM : Int) := by omega
    have h0I : (0 : Int) ≤ (i : Int) := by omega
    have HX := Lib.hid hx
    have HLC := Lib.hid hlc
    have HLT := Lib.hid hlt'
    clear hx hlc hlt'
    have HMX := Lib.hid (show c.methods[i]? = some m by rw [HMS.out, List.getElem?_map, HX.out]; rfl)
    go_upto_region 25 with fail
    have hkt : Kept wr (wr.alloc (.cells #[.int .i64 m.access, .int .i64 m.name, .int .i64 m.desc, .bool m.has, .int .i64 m.stack, .int .i64 m.locals, .slice ac lc kc, .slice at_ lt kt] 52)) := (Below.refl _ _).alloc (Nat.le_refl _) _
    obtain ⟨gx, hgx⟩ : ∃ g, g = wr.heap.size := ⟨_, rfl⟩
    have HXB := Lib.hid (Blk.new wr 52 #[.int .i64 m.access, .int .i64 m.name, .int .i64 m.desc, .bool m.has, .int .i64 m.stack, .int .i64 m.locals, .slice ac lc kc, .slice at_ lt kt])
    have IX := Lib.hid (IK.out.keep hkt)
    have HGX := Lib.hid (HGK.out.kept hkt)
    have HRX := Lib.hid (HRt.out.kept hkt)
    rw [← hgx] at HXB ⊢
    clear hkt hgx e0 e1 e2 e3 e4 e5 e6 e7
    generalize (wr.alloc (.cells #[.int .i64 m.access, .int .i64 m.name, .int .i64 m.desc, .bool m.has, .int .i64 m.stack, .int .i64 m.locals, .slice ac lc kc, .slice at_ lt kt] 52)) = wx at *
    have t0 := HXB.out.cell 0
    have t1 := HXB.out.cell 1
    have t2 := HXB.out.cell 2
    have t3 := HXB.out.cell 3
    have t4 := HXB.out.cell 4
    have t5 := HXB.out.cell 5
    have t6 := HXB.out.cell 6
    have t7 := HXB.out.cell 7
    simp only [List.getElem?_toArray, List.getElem?_cons_succ, List.getElem?_cons_zero] at t0 t1 t2 t3 t4 t5 t6 t7
    have f0 := HGX.out.cell 0
    have f1 := HGX.out.cell 1
    have f2 := HGX.out.cell 2
    have f3 := HGX.out.cell 3
    have f4 := HGX.out.cell 4
    have f5 := HGX.out.cell 5
    have f6 := HGX.out.cell 6
    have f7 := HGX.out.cell 7
    have f8 := HGX.out.cell 8
    simp only [List.getElem?_toArray, List.getElem?_cons_succ, List.getElem?_cons_zero] at f0 f1 f2 f3 f4 f5 f6 f7 f8
    obtain ⟨seen, hseen⟩ : ∃ l, l = (mv.take i).map fun g => keyC c.pool g.1.name g.1.desc := ⟨_, rfl⟩
    rw [← hseen] at IX HME
    have HSE := Lib.hid (show seen ++ [keyC c.pool m.name m.desc] = (mv.take (i + 1)).map fun g => keyC c.pool g.1.name g.1.desc by rw [hseen, List.take_add_one, HX.out]; simp)
    clear hseen
    have C := check_method m.access m.name m.desc m.has m.stack m.locals ac at_ lc kc lt kt m.traps c.pool c.minor c.major c.access c.this c.super (.slice aP k kP) (.slice aI nI kI) (.slice aF j kF) (.slice (some ⟨b1, o1, none⟩) nM kM) seen i p2 wx (by rw [← N1.out]; exact HPP.out.kept IX.out.kept) HSZ.out (by omega) IX.out.m2 (by have h1 := HML.out _ (List.mem_of_getElem? HX.out); have h2 := HLC.out; dsimp only at h1; omega) (by rw [← HLT.out]; exact HRX.out) HLT.out
    rw [show methQ c.pool c.access seen m.access m.name m.desc m.has m.stack m.locals lc m.traps = methE c.pool c.access seen m by rw [methE_Q, HLC.out]] at C
    obtain ⟨E, hE⟩ : ∃ E, E = methE c.pool c.access seen m := ⟨_, rfl⟩
    rw [← hE] at C
    have HFX := Lib.hid (show methsE c.pool c.access [] c.methods = if E = 0 then methsE c.pool c.access (seen ++ [keyC c.pool m.name m.desc]) (c.methods.drop (i + 1)) else E by rw [HME.out, drop_at HMX.out, methsE_cons, ← hE])
    clear hE
    go_wp2_with fail
    refine C.mono ?_
    rintro e wy ⟨rfl, hsn, hty⟩
    have HKY := Lib.hid (IX.out.gone HW2.out hty)
    have HSN := Lib.hid hsn
    have HTY := Lib.hid hty
    clear hsn hty C
    by_cases h0 : E = 0
    · subst h0
      have IY := Lib.hid (IX.out.two H12.out HW2.out (HSN.out rfl) HTY.out)
      have HP2 := Lib.hid (show methsE c.pool c.access [] c.methods = methsE c.pool c.access (seen ++ [keyC c.pool m.name m.desc]) (c.methods.drop (i + 1)) by rw [HFX.out, if_pos rfl])
      go_wp2_with fail
      go_roundw
      case rel => exact ⟨i + 1, by omega, rfl, by go_num, HSE.out ▸ IY.out, HSE.out ▸ HP2.out⟩
      case measure => simp [intOf]; omega
    · have hne : (E != 0) = true := by simpa using h0
      have HR8 := Lib.hid (show R = E by rw [HR7.out, HFX.out, if_neg h0])
      clear h0
      go_wp2_with fail
      go_step3
      refine ⟨rfl, ?_⟩
      go_wp2_with fail
      rw [Exit.noGoto_ret]
      go_ret
      exact ⟨by rw [HR8.out] <;> rfl, Kept.trans HK.out HKY.out⟩
  have HR8 := Lib.hid (show R = 0 by rw [HR7.out, HME.out, List.drop_of_length_le (by have := N4.out; rw [HMS.out, List.length_map]; omega)]; rfl)
  go_wp2_with fail
  go_step3
  go_wp2_with fail
  rw [fwd_ret]
  go_ret
  exact ⟨by rw [HR8.out] <;> rfl, Kept.trans HK.out IK.out.kept⟩
end Go.Proofs.Ytcklmhbcjgiplaa
