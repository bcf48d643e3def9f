/-
  Package check by contract: Outline.
-/
import Derived.Test.YtcklmhbcjgiplaaCo0
import Derived.Deep.RegionHeld2
import Derived.Deep.RegionHeld3
namespace Go.Proofs.Ytcklmhbcjgiplaa
set_option linter.unusedVariables false
set_option linter.unusedSimpArgs false
open Go.RowKit
set_option maxRecDepth 100000

theorem outI_first {w : World} {gz gb gt : Nat} {cv : Array Value} {s1 s2 : ByteArray} {ac : Int} {wr : World} (c : Blk wr w.heap.size 27 cv) (z : Blk wr gz 36 #[.string ⟨#[]⟩, .string ⟨#[]⟩, .int .i64 0, .slice none 0 0, .slice none 0 0, .slice none 0 0]) (b : Blk wr gb 74 cv)
    (t : Blk wr gt 36 #[.string s1, .string s2, .int .i64 ac, .slice none 0 0, .slice none 0 0, .slice none 0 0]) (k : Kept w wr) (h1 : w.heap.size ≤ gt) (h2 : gz ≠ gt) : OutI w gz gb gt cv s1 s2 ac (.slice none 0 0) (.slice none 0 0) (.slice none 0 0) 0 0 0 [] [] [] wr :=
  ⟨c, z, b, t, own_nil_ _ _ _ _, own_nil_ _ _ _ _, own_nil_ _ _ _ _, (fun _ hk => by cases hk), k, h1, h2⟩
theorem elem_str : ElemTy Try.prog 33 9 (.string ⟨#[]⟩) 1 16 := ⟨Try.underlying33, by kernel_rfl, rfl, by decide⟩
theorem elem_memb : ElemTy Try.prog 34 63 (.agg #[.int .i64 0, .string ⟨#[]⟩, .string ⟨#[]⟩, .bool false, .int .i64 0]) 5 56 := ⟨Try.underlying34, by kernel_rfl, rfl, by decide⟩
theorem setRow_touch (w : World) (g : Nat) (cs : Array Value) : Touch (fun b => b = g) w (w.setRow g cs) :=
  ⟨rfl, rfl, rfl, by simp, fun b _ hn => setRow_other _ _ _ _ hn⟩
/-- Where a class is right, its members' names and descriptors are short. -/
theorem ba_size (s : ByteArray) : s.data.toList.length = s.size := by rw [Array.length_toList]; rfl
theorem ltr_short {no l : List UInt8} (h : ltrB no l = true) : l.length ≤ 255 := by
  unfold ltrB at h
  simp only [Bool.and_eq_true, decide_eq_true_eq] at h
  exact h.2
theorem mem_short {s : ByteArray} (h : memS s = true) : s.size ≤ 255 := by
  have := ltr_short (show ltrB noM s.data.toList = true from h)
  rw [ba_size] at this
  exact this
theorem met_short {s : ByteArray} (h : metS s = true) : s.size ≤ 255 := by
  unfold metS metB at h
  simp only [Bool.or_eq_true, beq_iff_eq] at h
  rw [← ba_size]
  rcases h with (h | h) | h
  · rw [h]; decide
  · rw [h]; decide
  · exact ltr_short h
theorem fld_short {s : ByteArray} (h : fldS s = true) : s.size ≤ 255 := by
  unfold fldS fldB at h
  simp only [Bool.or_eq_true, Bool.and_eq_true, beq_iff_eq, decide_eq_true_eq] at h
  rw [← ba_size]
  rcases h with h | h
  · rw [h]; decide
  · exact h.1.1.1.2
theorem kind_short {s : ByteArray} (h : isK s = true) : s.size ≤ 255 := by
  unfold isK kindsL at h
  rw [← ba_size]
  split at h
  · cases h
  · rename_i c r he
    split at h
    · rename_i hc
      exact hc.2
    · cases h
theorem field_short {pool : List ConstC} {ac : Int} {seen : List (ByteArray × ByteArray)} {f : FieldC} (h : fieldE pool ac seen f = 0) : (textC pool f.name).1.size ≤ 140737488355328 ∧ (textC pool f.desc).1.size ≤ 140737488355328 := by
  unfold fieldE at h
  split at h
  · cases h
  split at h
  · cases h
  rename_i h1
  split at h
  · cases h
  rename_i h2
  have a := mem_short (by simpa using h1)
  have b := fld_short (by simpa using h2)
  omega
theorem meth_short {pool : List ConstC} {ac : Int} {seen : List (ByteArray × ByteArray)} {f : MethC} (h : methE pool ac seen f = 0) : (textC pool f.name).1.size ≤ 140737488355328 ∧ (textC pool f.desc).1.size ≤ 140737488355328 := by
  unfold methE at h
  split at h
  · cases h
  split at h
  · cases h
  rename_i h1
  split at h
  · cases h
  rename_i h2
  have a := met_short (by simpa using h1)
  have b := kind_short (by simpa using h2)
  omega
set_option maxHeartbeats 16000000 in
theorem check_Outline (c : ClassC) (mv : List (MethC × Value × Value)) (vP vI vF vM : Value) (w : World) (h : CRd w c mv vP vI vF vM) (hs : ∀ k ∈ c.pool, k.text.size ≤ maxLen) :
    Calls Try.prog 17 #[.agg (classV c vP vI vF vM).toArray] w (OutG c w) := by
  have HC := Lib.hid h
  have HTX := Lib.hid hs
  clear hs
  obtain ⟨aP, kP, aI, kI, aF, kF, aM, kM, rfl, rfl, rfl, rfl⟩ := h.forms
  obtain ⟨nP, hnP⟩ : ∃ n, n = c.pool.length := ⟨_, rfl⟩
  obtain ⟨nI, hnI⟩ : ∃ n, n = c.ifaces.length := ⟨_, rfl⟩
  obtain ⟨nF, hnF⟩ : ∃ n, n = c.fields.length := ⟨_, rfl⟩
  obtain ⟨nM, hnM⟩ : ∃ n, n = mv.length := ⟨_, rfl⟩
  change Calls Try.prog 17 #[.agg #[.int .i64 c.minor, .int .i64 c.major, .slice aP c.pool.length kP, .int .i64 c.access, .int .i64 c.this, .int .i64 c.super, .slice aI c.ifaces.length kI, .slice aF c.fields.length kF, .slice aM mv.length kM]] w _
  have HMS := Lib.hid h.ms
  rw [← hnP, ← hnI, ← hnF, ← hnM] at h ⊢
  have r1 := h.p
  have r2 := h.i
  have r3 := h.f
  have r4 := h.m
  rw [← hnP] at r1
  rw [← hnI] at r2
  rw [← hnF] at r3
  rw [← hnM] at r4
  have m1 : nP ≤ 9223372036854775807 := by obtain ⟨_, _, _, e, q1, q2, _⟩ := r1; cases e; omega
  have m2 : nI ≤ 9223372036854775807 := by obtain ⟨_, _, _, e, q1, q2, _⟩ := r2; cases e; omega
  have m3 : nF ≤ 9223372036854775807 := by obtain ⟨_, _, _, e, q1, q2, _⟩ := r3; cases e; omega
  have m4 : nM ≤ 9223372036854775807 := by obtain ⟨_, _, _, e, q1, q2, _⟩ := r4; cases e; omega
  have N1 := Lib.hid hnP
  have N2 := Lib.hid hnI
  have N3 := Lib.hid hnF
  have N4 := Lib.hid hnM
  clear hnP hnI hnF hnM
  have hk : Kept w (w.alloc (.cells #[.int .i64 c.minor, .int .i64 c.major, .slice aP nP kP, .int .i64 c.access, .int .i64 c.this, .int .i64 c.super, .slice aI nI kI, .slice aF nF kF, .slice aM nM kM] 27)) := (Below.refl _ _).alloc (Nat.le_refl _) _
  have HK := Lib.hid hk
  have HPP := Lib.hid (r1.kept hk)
  have HII := Lib.hid (r2.kept hk)
  have HFF := Lib.hid (r3.kept hk)
  have HMM := Lib.hid (r4.kept hk)
  have HRR := Lib.hid (fun x hx => (h.r x hx).kept hk)
  clear r1 r2 r3 r4
  have HB := Lib.hid (Blk.new w 27 #[.int .i64 c.minor, .int .i64 c.major, .slice aP nP kP, .int .i64 c.access, .int .i64 c.this, .int .i64 c.super, .slice aI nI kI, .slice aF nF kF, .slice aM nM kM])
  have HH := Lib.hid (show w.heap.size < (w.alloc (.cells #[.int .i64 c.minor, .int .i64 c.major, .slice aP nP kP, .int .i64 c.access, .int .i64 c.this, .int .i64 c.super, .slice aI nI kI, .slice aF nF kF, .slice aM nM kM] 27)).heap.size by simp)
  clear hk h
  have hk : Kept w ((w.alloc (.cells #[.int .i64 c.minor, .int .i64 c.major, .slice aP nP kP, .int .i64 c.access, .int .i64 c.this, .int .i64 c.super, .slice aI nI kI, .slice aF nF kF, .slice aM nM kM] 27)).alloc (.cells #[.string ⟨#[]⟩, .string ⟨#[]⟩, .int .i64 0, .slice none 0 0, .slice none 0 0, .slice none 0 0] 36)) := HK.out.alloc (by simp) _
  have HKZ := Lib.hid hk
  have HBZ := Lib.hid (HB.out.alloc (.cells #[.string ⟨#[]⟩, .string ⟨#[]⟩, .int .i64 0, .slice none 0 0, .slice none 0 0, .slice none 0 0] 36))
  have HZ : Hid (Blk ((w.alloc (.cells #[.int .i64 c.minor, .int .i64 c.major, .slice aP nP kP, .int .i64 c.access, .int .i64 c.this, .int .i64 c.super, .slice aI nI kI, .slice aF nF kF, .slice aM nM kM] 27)).alloc (.cells #[.string ⟨#[]⟩, .string ⟨#[]⟩, .int .i64 0, .slice none 0 0, .slice none 0 0, .slice none 0 0] 36)) (w.heap.size + 1) 36 #[.string ⟨#[]⟩, .string ⟨#[]⟩, .int .i64 0, .slice none 0 0, .slice none 0 0, .slice none 0 0]) := Lib.hid (heap_new_at' _ _ (by simp))
  have HPL := Lib.hid (show Rd w 5 (.slice aP nP kP) c.pool.length (c.pool.flatMap encC) by have := HC.out.p; rw [← N1.out] at this ⊢; exact this)
  clear HK HB HPP HII HFF HMM HRR HH hk
  obtain ⟨gz, hgz⟩ : ∃ g, g = w.heap.size + 1 := ⟨_, rfl⟩
  have HGZ := Lib.hid (show w.heap.size ≤ gz by omega)
  go_enter Try.func17, Try.ntmps17
  go_upto_region 1 with fail
  rw [← hgz] at HZ ⊢
  generalize ((w.alloc (.cells #[.int .i64 c.minor, .int .i64 c.major, .slice aP nP kP, .int .i64 c.access, .int .i64 c.this, .int .i64 c.super, .slice aI nI kI, .slice aF nF kF, .slice aM nM kM] 27)).alloc (.cells #[.string ⟨#[]⟩, .string ⟨#[]⟩, .int .i64 0, .slice none 0 0, .slice none 0 0, .slice none 0 0] 36)) = W at *
  clear hgz
  have HLV : ∀ (V : World) (h : Blk V gz 36 #[.string ⟨#[]⟩, .string ⟨#[]⟩, .int .i64 0, .slice none 0 0, .slice none 0 0, .slice none 0 0]) (cs : Array Value), cs.size = 6 → (loadVar 36 ⟨gz, 0, none⟩).run Try.prog (V.setRow gz cs) = .ok (.agg cs) (V.setRow gz cs) := fun V h cs hcs => run_loadVar_row (P := Try.prog) _ gz 36 36 cs (0, 0) _ (setRow_heap _ _ _ _ _ _ h) Try.underlying36 rfl (by rw [hcs]; kernel_rfl)
  have HHLV := Lib.hid HLV
  clear HLV
  have c0 := HBZ.out.cell 0
  have c1 := HBZ.out.cell 1
  have c2 := HBZ.out.cell 2
  have c3 := HBZ.out.cell 3
  have c4 := HBZ.out.cell 4
  have c5 := HBZ.out.cell 5
  have c6 := HBZ.out.cell 6
  have c7 := HBZ.out.cell 7
  have c8 := HBZ.out.cell 8
  simp only [List.getElem?_toArray, List.getElem?_cons_succ, List.getElem?_cons_zero] at c0 c1 c2 c3 c4 c5 c6 c7 c8
  have C := check_Check c mv _ _ _ _ W (HC.out.kept HKZ.out) HTX.out
  rw [← N1.out, ← N2.out, ← N3.out, ← N4.out] at C
  unfold IntG at C
  obtain ⟨R, hR⟩ : ∃ r, r = checkE c := ⟨_, rfl⟩
  rw [← hR] at C
  have HR := Lib.hid hR
  clear hR
  go_wp2_with fail
  refine C.mono ?_
  rintro e w1 ⟨rfl, hk1⟩
  have K1 := Lib.hid (Kept.trans HKZ.out hk1)
  have HB1 := Lib.hid (HBZ.out.kept hk1)
  have HZ1 := Lib.hid (HZ.out.kept hk1)
  clear hk1 C c0 c1 c2 c3 c4 c5 c6 c7 c8 HBZ HZ HKZ
  by_cases hE : R = 0
  rotate_left
  · have hne : (R != 0) = true := by simpa using hE
    have HOT := Lib.hid (outT_bad (c := c) (by rw [← HR.out]; exact hE))
    clear hE
    go_upto_region 3 with fail
    go_wp2_with (refine wpList_store_row rfl 36 _ _ rfl gz #[.string ⟨#[]⟩, .string ⟨#[]⟩, .int .i64 0, .slice none 0 0, .slice none 0 0, .slice none 0 0] rfl (by rfl) 36 _ HZ1.out (by kernel_rfl) (by rfl) (by kernel_rfl) ?_)
    have HL := HHLV.out _ HZ1.out #[.string ⟨#[]⟩, .string ⟨#[]⟩, .int .i64 0, .slice none 0 0, .slice none 0 0, .slice none 0 0] rfl
    refine bodyPost_ret (v := .tuple #[.agg #[.string ⟨#[]⟩, .string ⟨#[]⟩, .int .i64 0, .slice none 0 0, .slice none 0 0, .slice none 0 0], .int .i64 R]) ?_ rfl ?_
    · simp [results, Try.results17, asAddr, HL]
    · refine ⟨.slice none 0 0, .slice none 0 0, .slice none 0 0, ?_, ?_, kept_setRow K1.out HGZ.out _⟩
      · rw [HOT.out, ← HR.out]; rfl
      · rw [HOT.out]; exact TyOwn.zero _ _
  subst hE
  have HCK := Lib.hid HR.out.symm
  have HOT := Lib.hid (outT_good HCK.out)
  have d0 := HB1.out.cell 0
  have d1 := HB1.out.cell 1
  have d2 := HB1.out.cell 2
  have d3 := HB1.out.cell 3
  have d4 := HB1.out.cell 4
  have d5 := HB1.out.cell 5
  have d6 := HB1.out.cell 6
  have d7 := HB1.out.cell 7
  have d8 := HB1.out.cell 8
  simp only [List.getElem?_toArray, List.getElem?_cons_succ, List.getElem?_cons_zero] at d0 d1 d2 d3 d4 d5 d6 d7 d8
  go_upto_region 5 with fail
  have hk2 : Kept w1 (w1.alloc (.cells #[.int .i64 c.minor, .int .i64 c.major, .slice aP nP kP, .int .i64 c.access, .int .i64 c.this, .int .i64 c.super, .slice aI nI kI, .slice aF nF kF, .slice aM nM kM] 74)) := (Below.refl _ _).alloc (Nat.le_refl _) _
  obtain ⟨gb, hgb⟩ : ∃ g, g = w1.heap.size := ⟨_, rfl⟩
  have K2 := Lib.hid (Kept.trans K1.out hk2)
  have HB2 := Lib.hid (HB1.out.kept hk2)
  have HZ2 := Lib.hid (HZ1.out.kept hk2)
  have HG2 := Lib.hid (Blk.new w1 74 #[.int .i64 c.minor, .int .i64 c.major, .slice aP nP kP, .int .i64 c.access, .int .i64 c.this, .int .i64 c.super, .slice aI nI kI, .slice aF nF kF, .slice aM nM kM])
  rw [← hgb] at HG2 ⊢
  clear hk2 d0 d1 d2 d3 d4 d5 d6 d7 d8 HB1 HZ1
  generalize (w1.alloc (.cells #[.int .i64 c.minor, .int .i64 c.major, .slice aP nP kP, .int .i64 c.access, .int .i64 c.this, .int .i64 c.super, .slice aI nI kI, .slice aF nF kF, .slice aM nM kM] 74)) = w2 at *
  clear hgb
  have f0 := HB2.out.cell 0
  have f1 := HB2.out.cell 1
  have f2 := HB2.out.cell 2
  have f3 := HB2.out.cell 3
  have f4 := HB2.out.cell 4
  have f5 := HB2.out.cell 5
  have f6 := HB2.out.cell 6
  have f7 := HB2.out.cell 7
  have f8 := HB2.out.cell 8
  simp only [List.getElem?_toArray, List.getElem?_cons_succ, List.getElem?_cons_zero] at f0 f1 f2 f3 f4 f5 f6 f7 f8
  go_upto_region 6 with fail
  have hk3 : Kept w2 (w2.alloc (.cells #[.string ⟨#[]⟩, .string ⟨#[]⟩, .int .i64 c.access, .slice none 0 0, .slice none 0 0, .slice none 0 0] 36)) := (Below.refl _ _).alloc (Nat.le_refl _) _
  obtain ⟨gt, hgt⟩ : ∃ g, g = w2.heap.size := ⟨_, rfl⟩
  have hlt1 := HZ2.out.lt
  have HO3 : Hid (OutI w gz gb gt #[.int .i64 c.minor, .int .i64 c.major, .slice aP nP kP, .int .i64 c.access, .int .i64 c.this, .int .i64 c.super, .slice aI nI kI, .slice aF nF kF, .slice aM nM kM] ⟨#[]⟩ ⟨#[]⟩ c.access (.slice none 0 0) (.slice none 0 0) (.slice none 0 0) 0 0 0 [] [] [] (w2.alloc (.cells #[.string ⟨#[]⟩, .string ⟨#[]⟩, .int .i64 c.access, .slice none 0 0, .slice none 0 0, .slice none 0 0] 36))) := Lib.hid (outI_first (HB2.out.kept hk3) (HZ2.out.kept hk3) (HG2.out.kept hk3) (by rw [hgt]; exact Blk.new _ _ _) (Kept.trans K2.out hk3) (by rw [hgt]; exact K2.out.size) (by omega))
  rw [← hgt]
  clear hk3 hlt1 f0 f1 f2 f3 f4 f5 f6 f7 f8 HB2 HZ2 HG2
  generalize (w2.alloc (.cells #[.string ⟨#[]⟩, .string ⟨#[]⟩, .int .i64 c.access, .slice none 0 0, .slice none 0 0, .slice none 0 0] 36)) = w3 at *
  clear hgt
  have C1 := fun (V : World) (h : Kept w V) => check_name c.pool c.minor c.major c.access c.this c.super (.slice aP nP kP) (.slice aI nI kI) (.slice aF nF kF) (.slice aM nM kM) c.this V (HPL.out.kept h)
  have C2 := fun (V : World) (h : Kept w V) => check_name c.pool c.minor c.major c.access c.this c.super (.slice aP nP kP) (.slice aI nI kI) (.slice aF nF kF) (.slice aM nM kM) c.super V (HPL.out.kept h)
  unfold TextG at C1 C2
  obtain ⟨s1, h1⟩ : ∃ s, s = (nameC c.pool c.this).1 := ⟨_, rfl⟩
  obtain ⟨o1, h2⟩ : ∃ s, s = (nameC c.pool c.this).2 := ⟨_, rfl⟩
  obtain ⟨s2, h3⟩ : ∃ s, s = (nameC c.pool c.super).1 := ⟨_, rfl⟩
  obtain ⟨o2, h4⟩ : ∃ s, s = (nameC c.pool c.super).2 := ⟨_, rfl⟩
  rw [← h1, ← h2] at C1
  rw [← h3, ← h4] at C2
  have HC1 := Lib.hid C1
  have HC2 := Lib.hid C2
  have HS1 := Lib.hid h1
  have HS2 := Lib.hid h3
  clear C1 C2 h1 h2 h3 h4
  have q0 := HO3.out.book.cell 0
  have q1 := HO3.out.book.cell 1
  have q2 := HO3.out.book.cell 2
  have q3 := HO3.out.book.cell 3
  have q4 := HO3.out.book.cell 4
  have q5 := HO3.out.book.cell 5
  have q6 := HO3.out.book.cell 6
  have q7 := HO3.out.book.cell 7
  have q8 := HO3.out.book.cell 8
  simp only [List.getElem?_toArray, List.getElem?_cons_succ, List.getElem?_cons_zero] at q0 q1 q2 q3 q4 q5 q6 q7 q8
  have j4 := HO3.out.cls.cell 4
  have j5 := HO3.out.cls.cell 5
  simp only [List.getElem?_toArray, List.getElem?_cons_succ, List.getElem?_cons_zero] at j4 j5
  have C := HC1.out w3 HO3.out.kept
  go_wp2_with fail
  refine C.mono ?_
  rintro e w4 ⟨rfl, hk4⟩
  have HO4 := Lib.hid (HO3.out.keep hk4)
  clear hk4 C q0 q1 q2 q3 q4 q5 q6 q7 q8 j4 j5
  have t0 := HO4.out.typ.cell 0
  simp only [List.getElem?_toArray, List.getElem?_cons_succ, List.getElem?_cons_zero] at t0
  have tf0 := HO4.out.typ.frozen 0
  go_upto_region 7 with fail
  have HO5 : Hid (OutI w gz gb gt #[.int .i64 c.minor, .int .i64 c.major, .slice aP nP kP, .int .i64 c.access, .int .i64 c.this, .int .i64 c.super, .slice aI nI kI, .slice aF nF kF, .slice aM nM kM] s1 ⟨#[]⟩ c.access (.slice none 0 0) (.slice none 0 0) (.slice none 0 0) 0 0 0 [] [] [] (w4.setCell ⟨gt, 0, none⟩ (.string s1))) := Lib.hid (outI_first (HO4.out.cls.far (p := ⟨gt, 0, none⟩) (Blk.ne_ HO4.out.cls HO4.out.typ (by decide)) _) (HO4.out.zero.far (p := ⟨gt, 0, none⟩) HO4.out.gzt _) (HO4.out.book.far (p := ⟨gt, 0, none⟩) (Blk.ne_ HO4.out.book HO4.out.typ (by decide)) _) (HO4.out.typ.set_ 0 (.string s1)) (HO4.out.kept.setCell (p := ⟨gt, 0, none⟩) HO4.out.gtw _) HO4.out.gtw HO4.out.gzt)
  clear t0 tf0 HO3 HO4
  generalize (w4.setCell ⟨gt, 0, none⟩ (.string s1)) = w5 at *
  have q0 := HO5.out.book.cell 0
  have q1 := HO5.out.book.cell 1
  have q2 := HO5.out.book.cell 2
  have q3 := HO5.out.book.cell 3
  have q4 := HO5.out.book.cell 4
  have q5 := HO5.out.book.cell 5
  have q6 := HO5.out.book.cell 6
  have q7 := HO5.out.book.cell 7
  have q8 := HO5.out.book.cell 8
  simp only [List.getElem?_toArray, List.getElem?_cons_succ, List.getElem?_cons_zero] at q0 q1 q2 q3 q4 q5 q6 q7 q8
  have j4 := HO5.out.cls.cell 4
  have j5 := HO5.out.cls.cell 5
  simp only [List.getElem?_toArray, List.getElem?_cons_succ, List.getElem?_cons_zero] at j4 j5
  have C := HC2.out w5 HO5.out.kept
  go_wp2_with fail
  refine C.mono ?_
  rintro e w6 ⟨rfl, hk6⟩
  have HO6 := Lib.hid (HO5.out.keep hk6)
  clear hk6 C q0 q1 q2 q3 q4 q5 q6 q7 q8 j4 j5
  have t1 := HO6.out.typ.cell 1
  simp only [List.getElem?_toArray, List.getElem?_cons_succ, List.getElem?_cons_zero] at t1
  have tf1 := HO6.out.typ.frozen 1
  go_upto_region 8 with fail
  have HO7 : Hid (OutI w gz gb gt #[.int .i64 c.minor, .int .i64 c.major, .slice aP nP kP, .int .i64 c.access, .int .i64 c.this, .int .i64 c.super, .slice aI nI kI, .slice aF nF kF, .slice aM nM kM] s1 s2 c.access (.slice none 0 0) (.slice none 0 0) (.slice none 0 0) 0 0 0 [] [] [] (w6.setCell ⟨gt, 1, none⟩ (.string s2))) := Lib.hid (outI_first (HO6.out.cls.far (p := ⟨gt, 1, none⟩) (Blk.ne_ HO6.out.cls HO6.out.typ (by decide)) _) (HO6.out.zero.far (p := ⟨gt, 1, none⟩) HO6.out.gzt _) (HO6.out.book.far (p := ⟨gt, 1, none⟩) (Blk.ne_ HO6.out.book HO6.out.typ (by decide)) _) (HO6.out.typ.set_ 1 (.string s2)) (HO6.out.kept.setCell (p := ⟨gt, 1, none⟩) HO6.out.gtw _) HO6.out.gtw HO6.out.gzt)
  clear t1 tf1 HO5 HO6
  generalize (w6.setCell ⟨gt, 1, none⟩ (.string s2)) = w7 at *
  have j6 := HO7.out.cls.cell 6
  simp only [List.getElem?_toArray, List.getElem?_cons_succ, List.getElem?_cons_zero] at j6
  go_wp2_with fail
  have HN64 := Lib.hid (show nI ≤ 64 ∧ nF ≤ 64 ∧ nM ≤ 64 by
    have hm := (checkE_parts HCK.out).1
    unfold muchB at hm
    simp only [Bool.or_eq_false_iff, decide_eq_false_iff_not] at hm
    have := N2.out; have := N3.out; have := N4.out
    have hl := congrArg List.length HMS.out
    rw [List.length_map] at hl
    omega)
  obtain ⟨xI, hxI⟩ : ∃ f : Nat → List Value, f = fun k => ((c.ifaces.take k).map fun n => (nameC c.pool n).1).flatMap strV := ⟨_, rfl⟩
  have HXI := Lib.hid hxI
  clear hxI
  go_loopw [55] (fun s wr => ∃ (k : Nat) (aX : Option Addr) (cX : Nat), k ≤ nI ∧ s = .int .i64 k ∧ OutI w gz gb gt #[.int .i64 c.minor, .int .i64 c.major, .slice aP nP kP, .int .i64 c.access, .int .i64 c.this, .int .i64 c.super, .slice aI nI kI, .slice aF nF kF, .slice aM nM kM] s1 s2 c.access (.slice aX k cX) (.slice none 0 0) (.slice none 0 0) k 0 0 (xI k) [] [] wr) (fun s _ => nI - (intOf s).toNat)
  case atStart => exact ⟨0, none, 0, Nat.zero_le _, rfl, by rw [HXI.out]; exact HO7.out⟩
  case round =>
  obtain ⟨k, aX, cX, hk, rfl, hi⟩ := hrel
  have HI := Lib.hid hi
  clear hi HO7 j6
  by_cases hlt : k < nI
  · have hII : Rd wr 1 (.slice aI nI kI) nI (c.ifaces.flatMap encI) := by
      have := HC.out.i.kept HI.out.kept
      rw [← N2.out] at this
      exact this
    have HIIh := Lib.hid hII
    clear hII
    obtain ⟨x, hx⟩ : ∃ x, c.ifaces[k]? = some x := ⟨_, List.getElem?_eq_getElem (by have := N2.out; omega)⟩
    obtain ⟨b1, o1, d1, hv1, e0⟩ := iface_cells N2.out (HIIh.out.kept (Below.refl _ wr)) hx
    simp only [Value.slice.injEq] at hv1
    obtain ⟨rfl, -, rfl⟩ := hv1
    have hkI : (k : Int) < (nI : Int) := by omega
    have h0I : (0 : Int) ≤ (k : Int) := by omega
    have HX := Lib.hid hx
    clear hx
    have hk64 : k ≤ 64 := by have := HN64.out.1; omega
    go_upto_region 11 with fail
    have C := check_name c.pool c.minor c.major c.access c.this c.super (.slice aP nP kP) (.slice (some ⟨b1, o1, none⟩) nI kI) (.slice aF nF kF) (.slice aM nM kM) x wr (HPL.out.kept HI.out.kept)
    unfold TextG at C
    obtain ⟨sx, hsx⟩ : ∃ s, s = (nameC c.pool x).1 := ⟨_, rfl⟩
    obtain ⟨ox, hox⟩ : ∃ s, s = (nameC c.pool x).2 := ⟨_, rfl⟩
    rw [← hsx, ← hox] at C
    have HSX := Lib.hid hsx
    clear hsx hox
    have q0 := HI.out.book.cell 0
    have q1 := HI.out.book.cell 1
    have q2 := HI.out.book.cell 2
    have q3 := HI.out.book.cell 3
    have q4 := HI.out.book.cell 4
    have q5 := HI.out.book.cell 5
    have q6 := HI.out.book.cell 6
    have q7 := HI.out.book.cell 7
    have q8 := HI.out.book.cell 8
    simp only [List.getElem?_toArray, List.getElem?_cons_succ, List.getElem?_cons_zero] at q0 q1 q2 q3 q4 q5 q6 q7 q8
    go_wp2_with fail
    refine C.mono ?_
    rintro e w9 ⟨rfl, hk9⟩
    have HI9 := Lib.hid (HI.out.keep hk9)
    clear hk9 C q0 q1 q2 q3 q4 q5 q6 q7 q8 e0
    have t3 := HI9.out.typ.cell 3
    simp only [List.getElem?_toArray, List.getElem?_cons_succ, List.getElem?_cons_zero] at t3
    have tf3 := HI9.out.typ.frozen 3
    have hwr : IntKind.i64.wrap ((k : Int) + 1) = (k : Int) + 1 := IntWalk.i64_in _ (by omega)
    clear hwr
    go_upto_region 13 with (at_builtin; refine wpl_pushH _ elem_str rfl (.tmp 66) (.tmp 68) rfl w.heap.size (.slice aX k cX) k (xI k) rfl HI9.out.rI [.string sx] _ w9.heap.size rfl rfl rfl (by intro u hu; rw [List.mem_singleton] at hu; subst hu; rfl) (by omega) (by omega) HI9.out.kept.size ?_; intro v8 w8 ho8 hg8 hk8 hb8; obtain ⟨a8, c8, hv8, -, -⟩ := own_slice ho8; subst hv8; have HT8 := Lib.hid (Touch.of_grown (S := fun b => (Value.slice aX k cX).ownBlock = some b) hg8 fun k hk => hk); have HR8 := Lib.hid ho8; have ht8 := HI9.out.typ.touch HT8.out (fun e => own_ne HI9.out.rI HI9.out.typ (by decide) _ e rfl); have t3 := ht8.cell 3; have tf3 := ht8.frozen 3; simp only [List.getElem?_toArray, List.getElem?_cons_succ, List.getElem?_cons_zero] at t3; clear ho8 hg8 hk8 hb8 ht8)
    have HJ := Lib.hid (HI9.out.pushI HT8.out HR8.out)
    clear t3 tf3
    generalize (w8.setCell ⟨gt, 3, none⟩ (.slice a8 (k + 1) c8)) = wn at *
    go_wp2_with fail
    go_roundw
    case rel =>
      refine ⟨k + 1, a8, c8, by omega, by go_num, ?_⟩
      have h := HJ.out
      rw [show xI k ++ [.string sx] = xI (k + 1) by rw [HXI.out]; dsimp only; rw [List.take_add_one, HX.out, List.map_append, List.flatMap_append, HSX.out]; rfl] at h
      exact h
    case measure => simp [intOf]; omega
  obtain rfl : k = nI := by omega
  have HXE := Lib.hid (show xI k = (outD c).interfaces.flatMap strV by rw [HXI.out]; dsimp only; rw [List.take_of_length_le (by have := N2.out; omega)]; rfl)
  obtain ⟨xF, hxF⟩ : ∃ f : Nat → List Value, f = fun k => ((c.fields.take k).map (memF c.pool)).flatMap encMemberV := ⟨_, rfl⟩
  have HXF := Lib.hid hxF
  clear hxF
  have j7 := HI.out.cls.cell 7
  simp only [List.getElem?_toArray, List.getElem?_cons_succ, List.getElem?_cons_zero] at j7
  go_wp2_with fail
  have HFX := Lib.hid (fieldsE_all (checkE_parts HCK.out).2.2.2.1)
  go_loopw [75] (fun s w9 => ∃ (i : Nat) (aY : Option Addr) (cY : Nat), i ≤ nF ∧ s = .int .i64 i ∧ OutI w gz gb gt #[.int .i64 c.minor, .int .i64 c.major, .slice aP nP kP, .int .i64 c.access, .int .i64 c.this, .int .i64 c.super, .slice aI k kI, .slice aF nF kF, .slice aM nM kM] s1 s2 c.access (.slice aX k cX) (.slice aY i cY) (.slice none 0 0) k i 0 (xI k) (xF i) [] w9) (fun s _ => nF - (intOf s).toNat)
  case atStart => exact ⟨0, none, 0, Nat.zero_le _, rfl, by rw [HXF.out]; exact HI.out⟩
  case round =>
  rename World => wr
  obtain ⟨i, aY, cY, hi, rfl, hj⟩ := hrel
  have HJ := Lib.hid hj
  clear hj HI j7
  by_cases hlt2 : i < nF
  · have hFF : Rd wr 4 (.slice aF nF kF) nF (c.fields.flatMap encF) := by
      have := HC.out.f.kept HJ.out.kept
      rw [← N3.out] at this
      exact this
    have HFFh := Lib.hid hFF
    clear hFF
    obtain ⟨x, hx⟩ : ∃ x, c.fields[i]? = some x := ⟨_, List.getElem?_eq_getElem (by have := N3.out; omega)⟩
    obtain ⟨b1, o1, d1, hv1, e0, e1, e2, e3⟩ := field_cells N3.out (HFFh.out.kept (Below.refl _ wr)) hx
    simp only [Value.slice.injEq] at hv1
    obtain ⟨rfl, -, rfl⟩ := hv1
    have hkJ : (i : Int) < (nF : Int) := by omega
    have h0J : (0 : Int) ≤ (i : Int) := by omega
    have HX := Lib.hid hx
    clear hx
    have hi64 : i ≤ 64 := by have := HN64.out.2.1; omega
    obtain ⟨sq, hsq⟩ := HFX.out x (List.mem_of_getElem? HX.out)
    have HSZ := Lib.hid (field_short hsq)
    clear hsq
    go_upto_region 17 with fail
    have hkb : Kept wr (wr.alloc (.cells #[.int .i64 x.access, .int .i64 x.name, .int .i64 x.desc, .int .i64 x.value] 55)) := (Below.refl _ _).alloc (Nat.le_refl _) _
    have HJ1 := Lib.hid (HJ.out.keep hkb)
    have HF1 := Lib.hid (Blk.new wr 55 #[.int .i64 x.access, .int .i64 x.name, .int .i64 x.desc, .int .i64 x.value])
    obtain ⟨gf, hgf⟩ : ∃ g, g = wr.heap.size := ⟨_, rfl⟩
    rw [← hgf] at HF1 ⊢
    clear hkb e0 e1 e2 e3
    generalize (wr.alloc (.cells #[.int .i64 x.access, .int .i64 x.name, .int .i64 x.desc, .int .i64 x.value] 55)) = wa at *
    clear hgf
    obtain ⟨sn, hsn⟩ : ∃ s, s = (textC c.pool x.name).1 := ⟨_, rfl⟩
    obtain ⟨on, hon⟩ : ∃ s, s = (textC c.pool x.name).2 := ⟨_, rfl⟩
    have Hsn := Lib.hid hsn
    have Hon := Lib.hid hon
    clear hsn hon
    obtain ⟨sd, hsd⟩ : ∃ s, s = (textC c.pool x.desc).1 := ⟨_, rfl⟩
    obtain ⟨od, hod⟩ : ∃ s, s = (textC c.pool x.desc).2 := ⟨_, rfl⟩
    have Hsd := Lib.hid hsd
    have Hod := Lib.hid hod
    clear hsd hod
    have y1 := HF1.out.cell 1
    simp only [List.getElem?_toArray, List.getElem?_cons_succ, List.getElem?_cons_zero] at y1
    have C := check_text c.pool c.minor c.major c.access c.this c.super (.slice aP nP kP) (.slice aI k kI) (.slice (some ⟨b1, o1, none⟩) nF kF) (.slice aM nM kM) x.name wa (HPL.out.kept HJ1.out.kept)
    unfold TextG at C
    rw [← Hsn.out, ← Hon.out] at C
    have q0 := HJ1.out.book.cell 0
    have q1 := HJ1.out.book.cell 1
    have q2 := HJ1.out.book.cell 2
    have q3 := HJ1.out.book.cell 3
    have q4 := HJ1.out.book.cell 4
    have q5 := HJ1.out.book.cell 5
    have q6 := HJ1.out.book.cell 6
    have q7 := HJ1.out.book.cell 7
    have q8 := HJ1.out.book.cell 8
    simp only [List.getElem?_toArray, List.getElem?_cons_succ, List.getElem?_cons_zero] at q0 q1 q2 q3 q4 q5 q6 q7 q8
    go_wp2_with fail
    refine C.mono ?_
    rintro e wb ⟨rfl, hk9⟩
    have HJ2 := Lib.hid (HJ1.out.keep hk9)
    have HF2 := Lib.hid (HF1.out.kept hk9)
    clear hk9 C q0 q1 q2 q3 q4 q5 q6 q7 q8
    clear y1
    have y2 := HF2.out.cell 2
    simp only [List.getElem?_toArray, List.getElem?_cons_succ, List.getElem?_cons_zero] at y2
    go_upto_region 18 with fail
    have C := check_text c.pool c.minor c.major c.access c.this c.super (.slice aP nP kP) (.slice aI k kI) (.slice (some ⟨b1, o1, none⟩) nF kF) (.slice aM nM kM) x.desc wb (HPL.out.kept HJ2.out.kept)
    unfold TextG at C
    rw [← Hsd.out, ← Hod.out] at C
    have q0 := HJ2.out.book.cell 0
    have q1 := HJ2.out.book.cell 1
    have q2 := HJ2.out.book.cell 2
    have q3 := HJ2.out.book.cell 3
    have q4 := HJ2.out.book.cell 4
    have q5 := HJ2.out.book.cell 5
    have q6 := HJ2.out.book.cell 6
    have q7 := HJ2.out.book.cell 7
    have q8 := HJ2.out.book.cell 8
    simp only [List.getElem?_toArray, List.getElem?_cons_succ, List.getElem?_cons_zero] at q0 q1 q2 q3 q4 q5 q6 q7 q8
    go_wp2_with fail
    refine C.mono ?_
    rintro e wc ⟨rfl, hk9⟩
    have HJ3 := Lib.hid (HJ2.out.keep hk9)
    have HF3 := Lib.hid (HF2.out.kept hk9)
    clear hk9 C q0 q1 q2 q3 q4 q5 q6 q7 q8
    clear y2
    have y3 := HF3.out.cell 3
    simp only [List.getElem?_toArray, List.getElem?_cons_succ, List.getElem?_cons_zero] at y3
    go_upto_region 19 with fail
    have C := check_at c.pool c.minor c.major c.access c.this c.super (.slice aP nP kP) (.slice aI k kI) (.slice (some ⟨b1, o1, none⟩) nF kF) (.slice aM nM kM) x.value 3 wc (HPL.out.kept HJ3.out.kept)
    unfold AtG at C
    obtain ⟨xk, hxk⟩ : ∃ y, y = (getC c.pool x.value 3).getD zeroK := ⟨_, rfl⟩
    obtain ⟨okk, hokk⟩ : ∃ y, y = (getC c.pool x.value 3).isSome := ⟨_, rfl⟩
    rw [← hxk, ← hokk] at C
    have HXK := Lib.hid hxk
    clear hxk hokk
    have q0 := HJ3.out.book.cell 0
    have q1 := HJ3.out.book.cell 1
    have q2 := HJ3.out.book.cell 2
    have q3 := HJ3.out.book.cell 3
    have q4 := HJ3.out.book.cell 4
    have q5 := HJ3.out.book.cell 5
    have q6 := HJ3.out.book.cell 6
    have q7 := HJ3.out.book.cell 7
    have q8 := HJ3.out.book.cell 8
    simp only [List.getElem?_toArray, List.getElem?_cons_succ, List.getElem?_cons_zero] at q0 q1 q2 q3 q4 q5 q6 q7 q8
    go_wp2_with fail
    refine C.mono ?_
    rintro e wd ⟨he, hk9⟩
    have he : e = .returned (.tuple #[.agg #[.int .i64 xk.tag, .string xk.text, .int .i64 xk.num, .int .i64 xk.a, .int .i64 xk.b], .bool okk]) := he
    subst he
    clear C y3 q0 q1 q2 q3 q4 q5 q6 q7 q8
    go_upto_region 20 with fail
    have hkb : Kept wc (wd.alloc (.cells #[.int .i64 xk.tag, .string xk.text, .int .i64 xk.num, .int .i64 xk.a, .int .i64 xk.b] 47)) := Kept.trans hk9 ((Below.refl _ _).alloc (Nat.le_refl _) _)
    have HJ4 := Lib.hid (HJ3.out.keep hkb)
    have HF4 := Lib.hid (HF3.out.kept hkb)
    have HK4 := Lib.hid (Blk.new wd 47 #[.int .i64 xk.tag, .string xk.text, .int .i64 xk.num, .int .i64 xk.a, .int .i64 xk.b])
    obtain ⟨gk, hgk⟩ : ∃ g, g = wd.heap.size := ⟨_, rfl⟩
    rw [← hgk] at HK4 ⊢
    clear hkb hk9 HJ HJ1 HJ2 HJ3 HF1 HF2 HF3
    generalize (wd.alloc (.cells #[.int .i64 xk.tag, .string xk.text, .int .i64 xk.num, .int .i64 xk.a, .int .i64 xk.b] 47)) = we at *
    clear hgk
    have HNS := Lib.hid (show sn.size ≤ 140737488355328 by have := HSZ.out.1; rw [← Hsn.out] at this; exact this)
    have HDS := Lib.hid (show sd.size ≤ 140737488355328 by have := HSZ.out.2; rw [← Hsd.out] at this; exact this)
    have g0 := HF4.out.cell 0
    have g3 := HF4.out.cell 3
    have g9 := HK4.out.cell 2
    simp only [List.getElem?_toArray, List.getElem?_cons_succ, List.getElem?_cons_zero] at g0 g3 g9
    have t4 := HJ4.out.typ.cell 4
    simp only [List.getElem?_toArray, List.getElem?_cons_succ, List.getElem?_cons_zero] at t4
    have tf4 := HJ4.out.typ.frozen 4
    have hmix : Try.prog.follows .mixedOrders = true := by kernel_rfl
    have hkd : Kept we we.drew := kept_drewN (Below.refl _ we) 1
    have HJ4 := Lib.hid (HJ4.out.keep hkd)
    have HF4 := Lib.hid (HF4.out.kept hkd)
    have HK4 := Lib.hid (HK4.out.kept hkd)
    clear hkd g0 g3 g9 t4 tf4
    have g0 := HF4.out.cell 0
    have g3 := HF4.out.cell 3
    have g9 := HK4.out.cell 2
    simp only [List.getElem?_toArray, List.getElem?_cons_succ, List.getElem?_cons_zero] at g0 g3 g9
    have t4 := HJ4.out.typ.cell 4
    simp only [List.getElem?_toArray, List.getElem?_cons_succ, List.getElem?_cons_zero] at t4
    have tf4 := HJ4.out.typ.frozen 4
    refine wp_region_held_drew (S := (fun w' => w'.cell? ⟨gf, 0, none⟩ = some (.int .i64 x.access) ∧ w'.cell? ⟨gf, 3, none⟩ = some (.int .i64 x.value) ∧ w'.cell? ⟨gk, 2, none⟩ = some (.int .i64 xk.num))) (by kernel_rfl) (by first | assumption | ((try dsimp only); simp [*]; done)) (fun hHeld => ?_)
    refine wpAnyH_take (i := 0) (oi := { dst := some 100, op := Op.fieldAddr 36 (Operand.tmp 6) 4, type := 0, pos := "check.go:331", after := #[], guard := none }) (v := ?va0) rfl (by kernel_rfl) (by kernel_rfl) (by kernel_rfl) (fun _ _ _ h => h) (Or.inl ⟨by rfl, ?ya0⟩) (by assumption) ?ra0
    case ya0 => (intro w hSw; (try dsimp only at hSw); go_simp <;> with_reducible rfl)
    (try simp only [Act.put, List.setIfInBounds_toArray, List.set_cons_zero, List.set_cons_succ])
    refine wpAnyH_take (i := 2) (oi := { dst := some 102, op := Op.fieldAddr 55 (Operand.tmp 12) 0, type := 0, pos := "check.go:331", after := #[], guard := none }) (v := ?va2) rfl (by kernel_rfl) (by kernel_rfl) (by kernel_rfl) (fun _ _ _ h => h) (Or.inl ⟨by rfl, ?ya2⟩) (by assumption) ?ra2
    case ya2 => (intro w hSw; (try dsimp only at hSw); go_simp <;> with_reducible rfl)
    (try simp only [Act.put, List.setIfInBounds_toArray, List.set_cons_zero, List.set_cons_succ])
    refine wpAnyH_take (i := 3) (oi := { dst := some 103, op := Op.load 3 (Operand.tmp 102), type := 3, pos := "check.go:331", after := #[{ on := 2, ground := Ground.data }], guard := none }) (v := ?va3) rfl (by kernel_rfl) (by kernel_rfl) (by kernel_rfl) (fun _ _ _ h => h) (Or.inl ⟨by rfl, ?ya3⟩) (by assumption) ?ra3
    case ya3 => (intro w hSw; (try dsimp only at hSw); go_simp <;> with_reducible rfl)
    (try simp only [Act.put, List.setIfInBounds_toArray, List.set_cons_zero, List.set_cons_succ])
    refine wpAnyH_take (i := 4) (oi := { dst := some 104, op := Op.move (Operand.tmp 13), type := 9, pos := "check.go:331", after := #[], guard := none }) (v := ?va4) rfl (by kernel_rfl) (by kernel_rfl) (by kernel_rfl) (fun _ _ _ h => h) (Or.inl ⟨by rfl, ?ya4⟩) (by assumption) ?ra4
    case ya4 => (intro w hSw; (try dsimp only at hSw); go_simp <;> with_reducible rfl)
    (try simp only [Act.put, List.setIfInBounds_toArray, List.set_cons_zero, List.set_cons_succ])
    refine wpAnyH_take (i := 6) (oi := { dst := some 106, op := Op.move (Operand.tmp 15), type := 9, pos := "check.go:331", after := #[], guard := none }) (v := ?va6) rfl (by kernel_rfl) (by kernel_rfl) (by kernel_rfl) (fun _ _ _ h => h) (Or.inl ⟨by rfl, ?ya6⟩) (by assumption) ?ra6
    case ya6 => (intro w hSw; (try dsimp only at hSw); go_simp <;> with_reducible rfl)
    (try simp only [Act.put, List.setIfInBounds_toArray, List.set_cons_zero, List.set_cons_succ])
    refine wpAnyH_take (i := 8) (oi := { dst := some 108, op := Op.fieldAddr 55 (Operand.tmp 12) 3, type := 0, pos := "check.go:331", after := #[], guard := none }) (v := ?va8) rfl (by kernel_rfl) (by kernel_rfl) (by kernel_rfl) (fun _ _ _ h => h) (Or.inl ⟨by rfl, ?ya8⟩) (by assumption) ?ra8
    case ya8 => (intro w hSw; (try dsimp only at hSw); go_simp <;> with_reducible rfl)
    (try simp only [Act.put, List.setIfInBounds_toArray, List.set_cons_zero, List.set_cons_succ])
    refine wpAnyH_take (i := 9) (oi := { dst := some 109, op := Op.load 3 (Operand.tmp 108), type := 3, pos := "check.go:331", after := #[{ on := 8, ground := Ground.data }], guard := none }) (v := ?va9) rfl (by kernel_rfl) (by kernel_rfl) (by kernel_rfl) (fun _ _ _ h => h) (Or.inl ⟨by rfl, ?ya9⟩) (by assumption) ?ra9
    case ya9 => (intro w hSw; (try dsimp only at hSw); go_simp <;> with_reducible rfl)
    (try simp only [Act.put, List.setIfInBounds_toArray, List.set_cons_zero, List.set_cons_succ])
    refine wpAnyH_take (i := 10) (oi := { dst := some 110, op := Op.binOp BinOp.neq 3 (Operand.tmp 109) (Operand.const (Value.int IntKind.i64 0)) 3, type := 4, pos := "check.go:331", after := #[{ on := 9, ground := Ground.data }], guard := none }) (v := ?va10) rfl (by kernel_rfl) (by kernel_rfl) (by kernel_rfl) (fun _ _ _ h => h) (Or.inl ⟨by rfl, ?ya10⟩) (by assumption) ?ra10
    case ya10 => (intro w hSw; (try dsimp only at hSw); go_simp <;> with_reducible rfl)
    (try simp only [Act.put, List.setIfInBounds_toArray, List.set_cons_zero, List.set_cons_succ])
    refine wpAnyH_take (i := 11) (oi := { dst := some 111, op := Op.fieldAddr 47 (Operand.tmp 17) 2, type := 0, pos := "check.go:331", after := #[], guard := none }) (v := ?va11) rfl (by kernel_rfl) (by kernel_rfl) (by kernel_rfl) (fun _ _ _ h => h) (Or.inl ⟨by rfl, ?ya11⟩) (by assumption) ?ra11
    case ya11 => (intro w hSw; (try dsimp only at hSw); go_simp <;> with_reducible rfl)
    (try simp only [Act.put, List.setIfInBounds_toArray, List.set_cons_zero, List.set_cons_succ])
    refine wpAnyH_take (i := 12) (oi := { dst := some 112, op := Op.load 3 (Operand.tmp 111), type := 3, pos := "check.go:331", after := #[{ on := 11, ground := Ground.data }], guard := none }) (v := ?va12) rfl (by kernel_rfl) (by kernel_rfl) (by kernel_rfl) (fun _ _ _ h => h) (Or.inl ⟨by rfl, ?ya12⟩) (by assumption) ?ra12
    case ya12 => (intro w hSw; (try dsimp only at hSw); go_simp <;> with_reducible rfl)
    (try simp only [Act.put, List.setIfInBounds_toArray, List.set_cons_zero, List.set_cons_succ])
    refine wpAnyH_ready (rs := [1, 5]) (by kernel_rfl) (by simp) ?_
    refine AllReadyH.cons (o := { dst := some 101, op := Op.load 34 (Operand.tmp 100), type := 34, pos := "check.go:331", after := #[{ on := 0, ground := Ground.data }], guard := none }) rfl (fun K hK => ?_) (AllReadyH.cons (o := { dst := some 105, op := Op.call { callee := Callee.value (Operand.func 36), args := #[Operand.tmp 104], argTypes := #[9] }, type := 9, pos := "check.go:331", after := #[{ on := 4, ground := Ground.data }], guard := none }) rfl (fun K hK => ?_) AllReadyH.nil)
    · skip
      go_simp
      clear hHeld
      refine hK.out _ _ ?_ (fun hHeld => ?_)
      · (first | exact ⟨g0, g3, g9⟩ | exact ⟨Kept.cell ((Below.refl _ _).alloc (Nat.le_refl _) _) g0, Kept.cell ((Below.refl _ _).alloc (Nat.le_refl _) _) g3, Kept.cell ((Below.refl _ _).alloc (Nat.le_refl _) _) g9⟩)
      clear hK K
      (try simp only [Act.put, List.setIfInBounds_toArray, List.set_cons_zero, List.set_cons_succ])
      refine wpAnyH_ready (rs := [5]) (by kernel_rfl) (by simp) ?_
      refine AllReadyH.cons (o := { dst := some 105, op := Op.call { callee := Callee.value (Operand.func 36), args := #[Operand.tmp 104], argTypes := #[9] }, type := 9, pos := "check.go:331", after := #[{ on := 4, ground := Ground.data }], guard := none }) rfl (fun K hK => ?_) AllReadyH.nil
      skip
      go_simp
      go_wp2_with ((go_at_call 36; refine (str_Clone _ _ (by first | exact HNS.out | exact HDS.out)).mono ?_; rintro e w8 ⟨rfl, hk9⟩; have HJ4 := Lib.hid (HJ4.out.keep hk9); have HF4 := Lib.hid (HF4.out.kept hk9); have HK4 := Lib.hid (HK4.out.kept hk9); have g0 := HF4.out.cell 0; have g3 := HF4.out.cell 3; have g9 := HK4.out.cell 2; have t4 := HJ4.out.typ.cell 4; have tf4 := HJ4.out.typ.frozen 4; have hgl := HJ4.out.typ.lt; have hgx := Nat.ne_of_lt HJ4.out.typ.lt; simp only [List.getElem?_toArray, List.getElem?_cons_succ, List.getElem?_cons_zero] at g0 g3 g9 t4; clear hk9))
      clear hHeld
      refine hK.out _ _ ?_ (fun hHeld => ?_)
      · exact ⟨g0, g3, g9⟩
      clear hK K
      (try simp only [Act.put, List.setIfInBounds_toArray, List.set_cons_zero, List.set_cons_succ])
      refine wpAnyH_ready (rs := [7]) (by kernel_rfl) (by simp) ?_
      refine AllReadyH.cons (o := { dst := some 107, op := Op.call { callee := Callee.value (Operand.func 36), args := #[Operand.tmp 106], argTypes := #[9] }, type := 9, pos := "check.go:331", after := #[{ on := 6, ground := Ground.data }, { on := 5, ground := Ground.chain }], guard := none }) rfl (fun K hK => ?_) AllReadyH.nil
      skip
      go_simp
      go_wp2_with ((go_at_call 36; refine (str_Clone _ _ (by first | exact HNS.out | exact HDS.out)).mono ?_; rintro e w8 ⟨rfl, hk9⟩; have HJ4 := Lib.hid (HJ4.out.keep hk9); have HF4 := Lib.hid (HF4.out.kept hk9); have HK4 := Lib.hid (HK4.out.kept hk9); have g0 := HF4.out.cell 0; have g3 := HF4.out.cell 3; have g9 := HK4.out.cell 2; have t4 := HJ4.out.typ.cell 4; have tf4 := HJ4.out.typ.frozen 4; have hgl := HJ4.out.typ.lt; have hgx := Nat.ne_of_lt HJ4.out.typ.lt; simp only [List.getElem?_toArray, List.getElem?_cons_succ, List.getElem?_cons_zero] at g0 g3 g9 t4; clear hk9))
      clear hHeld
      refine hK.out _ _ ?_ (fun hHeld => ?_)
      · exact ⟨g0, g3, g9⟩
      clear hK K
      (try simp only [Act.put, List.setIfInBounds_toArray, List.set_cons_zero, List.set_cons_succ])
      refine wpAnyH_take (i := 13) (oi := { dst := some 113, op := Op.build 63 #[(0, Operand.tmp 103), (1, Operand.tmp 105), (2, Operand.tmp 107), (3, Operand.tmp 110), (4, Operand.tmp 112)], type := 63, pos := "check.go:331", after := #[{ on := 3, ground := Ground.data }, { on := 5, ground := Ground.data }, { on := 7, ground := Ground.data }, { on := 10, ground := Ground.data }, { on := 12, ground := Ground.data }], guard := none }) (v := ?vab13) rfl (by kernel_rfl) (by kernel_rfl) (by kernel_rfl) (fun _ _ _ h => h) (Or.inl ⟨by rfl, ?yab13⟩) (by assumption) ?rab13
      case yab13 => (intro w hSw; (try dsimp only at hSw); go_simp <;> with_reducible rfl)
      (try simp only [Act.put, List.setIfInBounds_toArray, List.set_cons_zero, List.set_cons_succ])
      refine wpAnyH_ready (rs := [14]) (by kernel_rfl) (by simp) ?_
      refine AllReadyH.cons (o := { dst := some 114, op := Op.buildSlice 34 1 #[(0, Operand.tmp 113)], type := 34, pos := "check.go:331", after := #[{ on := 13, ground := Ground.data }], guard := none }) rfl (fun K hK => ?_) AllReadyH.nil
      skip
      go_simp
      clear hHeld
      refine hK.out _ _ ?_ (fun hHeld => ?_)
      · exact ⟨Kept.cell ((Below.refl _ _).alloc (Nat.le_refl _) _) g0, Kept.cell ((Below.refl _ _).alloc (Nat.le_refl _) _) g3, Kept.cell ((Below.refl _ _).alloc (Nat.le_refl _) _) g9⟩
      clear hK K
      (try simp only [Act.put, List.setIfInBounds_toArray, List.set_cons_zero, List.set_cons_succ])
      refine wpAnyH_ready (rs := [15]) (by kernel_rfl) (by simp) ?_
      refine AllReadyH.cons (o := { dst := some 115, op := Op.call { callee := Callee.builtin Builtin.append, args := #[Operand.tmp 101, Operand.tmp 114], argTypes := #[34, 34] }, type := 34, pos := "check.go:331", after := #[{ on := 1, ground := Ground.data }, { on := 14, ground := Ground.data }, { on := 7, ground := Ground.chain }], guard := none }) rfl (fun K hK => ?_) AllReadyH.nil
      skip
      refine step_appR _ elem_memb rfl (.tmp 101) (.tmp 114) rfl w.heap.size (.slice aY i cY) i (xF i) rfl (HJ4.out.rF.alloc _) _ 1 [.int .i64 x.access, .string sn, .string sd, .bool (x.value != 0), .int .i64 xk.num] rfl (Rd.one _ [.int .i64 x.access, .string sn, .string sd, .bool (x.value != 0), .int .i64 xk.num] 63 rfl) (by intro u hu; simp only [List.mem_cons, List.not_mem_nil, or_false] at hu; rcases hu with rfl | rfl | rfl | rfl | rfl <;> rfl) (by omega) (by omega) (by have := HJ4.out.kept.size; simp; omega) _ rfl ?_; intro a8 c8 w7 ho9 hg9 hk9; have HTT := Lib.hid (((Touch.refl (fun b => (Value.slice aY i cY).ownBlock = some b) _).alloc _).trans (Touch.of_grown hg9 fun k hk => hk) fun _ hb => .inl hb); have HRR := Lib.hid ho9; have ht8 := HJ4.out.typ.touch HTT.out (fun e => own_ne HJ4.out.rF HJ4.out.typ (by decide) _ e rfl); have hf8 := HF4.out.touch HTT.out (fun e => own_ne HJ4.out.rF HF4.out (by decide) _ e rfl); have hk8 := HK4.out.touch HTT.out (fun e => own_ne HJ4.out.rF HK4.out (by decide) _ e rfl); have hgn : gt ≠ gf := (Blk.ne_ hf8 ht8 (by decide)).symm; have hgn2 : gt ≠ gk := (Blk.ne_ hk8 ht8 (by decide)).symm; have g0 := hf8.cell 0; have g3 := hf8.cell 3; have g9 := hk8.cell 2; have t4 := ht8.cell 4; have tf4 := ht8.frozen 4; simp only [List.getElem?_toArray, List.getElem?_cons_succ, List.getElem?_cons_zero] at g0 g3 g9 t4; clear ho9 hg9 hk9 ht8 hf8 hk8
      clear hHeld
      refine hK.out _ _ ?_ (fun hHeld => ?_)
      · exact ⟨g0, g3, g9⟩
      clear hK K
      (try simp only [Act.put, List.setIfInBounds_toArray, List.set_cons_zero, List.set_cons_succ])
      refine wpAnyH_take (i := 16) (oi := { dst := some 116, op := Op.fieldAddr 36 (Operand.tmp 6) 4, type := 0, pos := "check.go:331", after := #[{ on := 0, ground := Ground.phase }, { on := 1, ground := Ground.phase }, { on := 2, ground := Ground.phase }, { on := 3, ground := Ground.phase }, { on := 4, ground := Ground.phase }, { on := 5, ground := Ground.phase }, { on := 6, ground := Ground.phase }, { on := 7, ground := Ground.phase }, { on := 8, ground := Ground.phase }, { on := 9, ground := Ground.phase }, { on := 10, ground := Ground.phase }, { on := 11, ground := Ground.phase }, { on := 12, ground := Ground.phase }, { on := 13, ground := Ground.phase }, { on := 14, ground := Ground.phase }, { on := 15, ground := Ground.phase }], guard := none }) (v := ?vab16) rfl (by kernel_rfl) (by kernel_rfl) (by kernel_rfl) (fun _ _ _ h => h) (Or.inl ⟨by rfl, ?yab16⟩) (by assumption) ?rab16
      case yab16 => (intro w hSw; (try dsimp only at hSw); go_simp <;> with_reducible rfl)
      (try simp only [Act.put, List.setIfInBounds_toArray, List.set_cons_zero, List.set_cons_succ])
      refine wpAnyH_ready (rs := [17]) (by kernel_rfl) (by simp) ?_
      refine AllReadyH.cons (o := { dst := none, op := Op.store 34 (Operand.tmp 116) (Operand.tmp 115), type := 0, pos := "check.go:331", after := #[{ on := 16, ground := Ground.data }, { on := 15, ground := Ground.data }, { on := 15, ground := Ground.chain }, { on := 0, ground := Ground.phase }, { on := 1, ground := Ground.phase }, { on := 2, ground := Ground.phase }, { on := 3, ground := Ground.phase }, { on := 4, ground := Ground.phase }, { on := 5, ground := Ground.phase }, { on := 6, ground := Ground.phase }, { on := 7, ground := Ground.phase }, { on := 8, ground := Ground.phase }, { on := 9, ground := Ground.phase }, { on := 10, ground := Ground.phase }, { on := 11, ground := Ground.phase }, { on := 12, ground := Ground.phase }, { on := 13, ground := Ground.phase }, { on := 14, ground := Ground.phase }, { on := 15, ground := Ground.phase }], guard := none }) rfl (fun K hK => ?_) AllReadyH.nil
      skip
      go_simp
      clear hHeld
      refine hK.out _ _ ?_ (fun hHeld => ?_)
      · exact ⟨(World.cell?_setCell_far _ _ _ _ hgn).trans g0, (World.cell?_setCell_far _ _ _ _ hgn).trans g3, (World.cell?_setCell_far _ _ _ _ hgn2).trans g9⟩
      clear hK K
      (try simp only [Act.put, List.setIfInBounds_toArray, List.set_cons_zero, List.set_cons_succ])
      refine wpAnyH_done (by kernel_rfl) ?_ _
      have HJn := Lib.hid (HJ4.out.pushF rfl HTT.out HRR.out)
      clear hHeld g0 g3 g9 t4 tf4 hgn hgn2
      generalize (w7.setCell ⟨gt, 4, none⟩ (.slice a8 (i + 1) c8)) = wn at *
      go_wp2_with fail
      go_roundw
      case rel =>
        refine ⟨i + 1, a8, c8, by omega, by go_num, ?_⟩
        have h := HJn.out
        rw [show xF i ++ [.int .i64 x.access, .string sn, .string sd, .bool (x.value != 0), .int .i64 xk.num] = xF (i + 1) by rw [HXF.out]; dsimp only; rw [List.take_add_one, HX.out, List.map_append, List.flatMap_append, Hsn.out, Hsd.out, HXK.out]; rfl] at h
        exact h
      case measure => simp [intOf]; omega
    · skip
      go_simp
      go_wp2_with ((go_at_call 36; refine (str_Clone _ _ (by first | exact HNS.out | exact HDS.out)).mono ?_; rintro e w8 ⟨rfl, hk9⟩; have HJ4 := Lib.hid (HJ4.out.keep hk9); have HF4 := Lib.hid (HF4.out.kept hk9); have HK4 := Lib.hid (HK4.out.kept hk9); have g0 := HF4.out.cell 0; have g3 := HF4.out.cell 3; have g9 := HK4.out.cell 2; have t4 := HJ4.out.typ.cell 4; have tf4 := HJ4.out.typ.frozen 4; have hgl := HJ4.out.typ.lt; have hgx := Nat.ne_of_lt HJ4.out.typ.lt; simp only [List.getElem?_toArray, List.getElem?_cons_succ, List.getElem?_cons_zero] at g0 g3 g9 t4; clear hk9))
      clear hHeld
      refine hK.out _ _ ?_ (fun hHeld => ?_)
      · exact ⟨g0, g3, g9⟩
      clear hK K
      (try simp only [Act.put, List.setIfInBounds_toArray, List.set_cons_zero, List.set_cons_succ])
      refine wpAnyH_ready (rs := [1, 7]) (by kernel_rfl) (by simp) ?_
      refine AllReadyH.cons (o := { dst := some 101, op := Op.load 34 (Operand.tmp 100), type := 34, pos := "check.go:331", after := #[{ on := 0, ground := Ground.data }], guard := none }) rfl (fun K hK => ?_) (AllReadyH.cons (o := { dst := some 107, op := Op.call { callee := Callee.value (Operand.func 36), args := #[Operand.tmp 106], argTypes := #[9] }, type := 9, pos := "check.go:331", after := #[{ on := 6, ground := Ground.data }, { on := 5, ground := Ground.chain }], guard := none }) rfl (fun K hK => ?_) AllReadyH.nil)
      · skip
        go_simp
        clear hHeld
        refine hK.out _ _ ?_ (fun hHeld => ?_)
        · (first | exact ⟨g0, g3, g9⟩ | exact ⟨Kept.cell ((Below.refl _ _).alloc (Nat.le_refl _) _) g0, Kept.cell ((Below.refl _ _).alloc (Nat.le_refl _) _) g3, Kept.cell ((Below.refl _ _).alloc (Nat.le_refl _) _) g9⟩)
        clear hK K
        (try simp only [Act.put, List.setIfInBounds_toArray, List.set_cons_zero, List.set_cons_succ])
        refine wpAnyH_ready (rs := [7]) (by kernel_rfl) (by simp) ?_
        refine AllReadyH.cons (o := { dst := some 107, op := Op.call { callee := Callee.value (Operand.func 36), args := #[Operand.tmp 106], argTypes := #[9] }, type := 9, pos := "check.go:331", after := #[{ on := 6, ground := Ground.data }, { on := 5, ground := Ground.chain }], guard := none }) rfl (fun K hK => ?_) AllReadyH.nil
        skip
        go_simp
        go_wp2_with ((go_at_call 36; refine (str_Clone _ _ (by first | exact HNS.out | exact HDS.out)).mono ?_; rintro e w8 ⟨rfl, hk9⟩; have HJ4 := Lib.hid (HJ4.out.keep hk9); have HF4 := Lib.hid (HF4.out.kept hk9); have HK4 := Lib.hid (HK4.out.kept hk9); have g0 := HF4.out.cell 0; have g3 := HF4.out.cell 3; have g9 := HK4.out.cell 2; have t4 := HJ4.out.typ.cell 4; have tf4 := HJ4.out.typ.frozen 4; have hgl := HJ4.out.typ.lt; have hgx := Nat.ne_of_lt HJ4.out.typ.lt; simp only [List.getElem?_toArray, List.getElem?_cons_succ, List.getElem?_cons_zero] at g0 g3 g9 t4; clear hk9))
        clear hHeld
        refine hK.out _ _ ?_ (fun hHeld => ?_)
        · exact ⟨g0, g3, g9⟩
        clear hK K
        (try simp only [Act.put, List.setIfInBounds_toArray, List.set_cons_zero, List.set_cons_succ])
        refine wpAnyH_take (i := 13) (oi := { dst := some 113, op := Op.build 63 #[(0, Operand.tmp 103), (1, Operand.tmp 105), (2, Operand.tmp 107), (3, Operand.tmp 110), (4, Operand.tmp 112)], type := 63, pos := "check.go:331", after := #[{ on := 3, ground := Ground.data }, { on := 5, ground := Ground.data }, { on := 7, ground := Ground.data }, { on := 10, ground := Ground.data }, { on := 12, ground := Ground.data }], guard := none }) (v := ?vaha13) rfl (by kernel_rfl) (by kernel_rfl) (by kernel_rfl) (fun _ _ _ h => h) (Or.inl ⟨by rfl, ?yaha13⟩) (by assumption) ?raha13
        case yaha13 => (intro w hSw; (try dsimp only at hSw); go_simp <;> with_reducible rfl)
        (try simp only [Act.put, List.setIfInBounds_toArray, List.set_cons_zero, List.set_cons_succ])
        refine wpAnyH_ready (rs := [14]) (by kernel_rfl) (by simp) ?_
        refine AllReadyH.cons (o := { dst := some 114, op := Op.buildSlice 34 1 #[(0, Operand.tmp 113)], type := 34, pos := "check.go:331", after := #[{ on := 13, ground := Ground.data }], guard := none }) rfl (fun K hK => ?_) AllReadyH.nil
        skip
        go_simp
        clear hHeld
        refine hK.out _ _ ?_ (fun hHeld => ?_)
        · exact ⟨Kept.cell ((Below.refl _ _).alloc (Nat.le_refl _) _) g0, Kept.cell ((Below.refl _ _).alloc (Nat.le_refl _) _) g3, Kept.cell ((Below.refl _ _).alloc (Nat.le_refl _) _) g9⟩
        clear hK K
        (try simp only [Act.put, List.setIfInBounds_toArray, List.set_cons_zero, List.set_cons_succ])
        refine wpAnyH_ready (rs := [15]) (by kernel_rfl) (by simp) ?_
        refine AllReadyH.cons (o := { dst := some 115, op := Op.call { callee := Callee.builtin Builtin.append, args := #[Operand.tmp 101, Operand.tmp 114], argTypes := #[34, 34] }, type := 34, pos := "check.go:331", after := #[{ on := 1, ground := Ground.data }, { on := 14, ground := Ground.data }, { on := 7, ground := Ground.chain }], guard := none }) rfl (fun K hK => ?_) AllReadyH.nil
        skip
        refine step_appR _ elem_memb rfl (.tmp 101) (.tmp 114) rfl w.heap.size (.slice aY i cY) i (xF i) rfl (HJ4.out.rF.alloc _) _ 1 [.int .i64 x.access, .string sn, .string sd, .bool (x.value != 0), .int .i64 xk.num] rfl (Rd.one _ [.int .i64 x.access, .string sn, .string sd, .bool (x.value != 0), .int .i64 xk.num] 63 rfl) (by intro u hu; simp only [List.mem_cons, List.not_mem_nil, or_false] at hu; rcases hu with rfl | rfl | rfl | rfl | rfl <;> rfl) (by omega) (by omega) (by have := HJ4.out.kept.size; simp; omega) _ rfl ?_; intro a8 c8 w7 ho9 hg9 hk9; have HTT := Lib.hid (((Touch.refl (fun b => (Value.slice aY i cY).ownBlock = some b) _).alloc _).trans (Touch.of_grown hg9 fun k hk => hk) fun _ hb => .inl hb); have HRR := Lib.hid ho9; have ht8 := HJ4.out.typ.touch HTT.out (fun e => own_ne HJ4.out.rF HJ4.out.typ (by decide) _ e rfl); have hf8 := HF4.out.touch HTT.out (fun e => own_ne HJ4.out.rF HF4.out (by decide) _ e rfl); have hk8 := HK4.out.touch HTT.out (fun e => own_ne HJ4.out.rF HK4.out (by decide) _ e rfl); have hgn : gt ≠ gf := (Blk.ne_ hf8 ht8 (by decide)).symm; have hgn2 : gt ≠ gk := (Blk.ne_ hk8 ht8 (by decide)).symm; have g0 := hf8.cell 0; have g3 := hf8.cell 3; have g9 := hk8.cell 2; have t4 := ht8.cell 4; have tf4 := ht8.frozen 4; simp only [List.getElem?_toArray, List.getElem?_cons_succ, List.getElem?_cons_zero] at g0 g3 g9 t4; clear ho9 hg9 hk9 ht8 hf8 hk8
        clear hHeld
        refine hK.out _ _ ?_ (fun hHeld => ?_)
        · exact ⟨g0, g3, g9⟩
        clear hK K
        (try simp only [Act.put, List.setIfInBounds_toArray, List.set_cons_zero, List.set_cons_succ])
        refine wpAnyH_take (i := 16) (oi := { dst := some 116, op := Op.fieldAddr 36 (Operand.tmp 6) 4, type := 0, pos := "check.go:331", after := #[{ on := 0, ground := Ground.phase }, { on := 1, ground := Ground.phase }, { on := 2, ground := Ground.phase }, { on := 3, ground := Ground.phase }, { on := 4, ground := Ground.phase }, { on := 5, ground := Ground.phase }, { on := 6, ground := Ground.phase }, { on := 7, ground := Ground.phase }, { on := 8, ground := Ground.phase }, { on := 9, ground := Ground.phase }, { on := 10, ground := Ground.phase }, { on := 11, ground := Ground.phase }, { on := 12, ground := Ground.phase }, { on := 13, ground := Ground.phase }, { on := 14, ground := Ground.phase }, { on := 15, ground := Ground.phase }], guard := none }) (v := ?vaha16) rfl (by kernel_rfl) (by kernel_rfl) (by kernel_rfl) (fun _ _ _ h => h) (Or.inl ⟨by rfl, ?yaha16⟩) (by assumption) ?raha16
        case yaha16 => (intro w hSw; (try dsimp only at hSw); go_simp <;> with_reducible rfl)
        (try simp only [Act.put, List.setIfInBounds_toArray, List.set_cons_zero, List.set_cons_succ])
        refine wpAnyH_ready (rs := [17]) (by kernel_rfl) (by simp) ?_
        refine AllReadyH.cons (o := { dst := none, op := Op.store 34 (Operand.tmp 116) (Operand.tmp 115), type := 0, pos := "check.go:331", after := #[{ on := 16, ground := Ground.data }, { on := 15, ground := Ground.data }, { on := 15, ground := Ground.chain }, { on := 0, ground := Ground.phase }, { on := 1, ground := Ground.phase }, { on := 2, ground := Ground.phase }, { on := 3, ground := Ground.phase }, { on := 4, ground := Ground.phase }, { on := 5, ground := Ground.phase }, { on := 6, ground := Ground.phase }, { on := 7, ground := Ground.phase }, { on := 8, ground := Ground.phase }, { on := 9, ground := Ground.phase }, { on := 10, ground := Ground.phase }, { on := 11, ground := Ground.phase }, { on := 12, ground := Ground.phase }, { on := 13, ground := Ground.phase }, { on := 14, ground := Ground.phase }, { on := 15, ground := Ground.phase }], guard := none }) rfl (fun K hK => ?_) AllReadyH.nil
        skip
        go_simp
        clear hHeld
        refine hK.out _ _ ?_ (fun hHeld => ?_)
        · exact ⟨(World.cell?_setCell_far _ _ _ _ hgn).trans g0, (World.cell?_setCell_far _ _ _ _ hgn).trans g3, (World.cell?_setCell_far _ _ _ _ hgn2).trans g9⟩
        clear hK K
        (try simp only [Act.put, List.setIfInBounds_toArray, List.set_cons_zero, List.set_cons_succ])
        refine wpAnyH_done (by kernel_rfl) ?_ _
        have HJn := Lib.hid (HJ4.out.pushF rfl HTT.out HRR.out)
        clear hHeld g0 g3 g9 t4 tf4 hgn hgn2
        generalize (w7.setCell ⟨gt, 4, none⟩ (.slice a8 (i + 1) c8)) = wn at *
        go_wp2_with fail
        go_roundw
        case rel =>
          refine ⟨i + 1, a8, c8, by omega, by go_num, ?_⟩
          have h := HJn.out
          rw [show xF i ++ [.int .i64 x.access, .string sn, .string sd, .bool (x.value != 0), .int .i64 xk.num] = xF (i + 1) by rw [HXF.out]; dsimp only; rw [List.take_add_one, HX.out, List.map_append, List.flatMap_append, Hsn.out, Hsd.out, HXK.out]; rfl] at h
          exact h
        case measure => simp [intOf]; omega
      · skip
        go_simp
        go_wp2_with ((go_at_call 36; refine (str_Clone _ _ (by first | exact HNS.out | exact HDS.out)).mono ?_; rintro e w8 ⟨rfl, hk9⟩; have HJ4 := Lib.hid (HJ4.out.keep hk9); have HF4 := Lib.hid (HF4.out.kept hk9); have HK4 := Lib.hid (HK4.out.kept hk9); have g0 := HF4.out.cell 0; have g3 := HF4.out.cell 3; have g9 := HK4.out.cell 2; have t4 := HJ4.out.typ.cell 4; have tf4 := HJ4.out.typ.frozen 4; have hgl := HJ4.out.typ.lt; have hgx := Nat.ne_of_lt HJ4.out.typ.lt; simp only [List.getElem?_toArray, List.getElem?_cons_succ, List.getElem?_cons_zero] at g0 g3 g9 t4; clear hk9))
        clear hHeld
        refine hK.out _ _ ?_ (fun hHeld => ?_)
        · exact ⟨g0, g3, g9⟩
        clear hK K
        (try simp only [Act.put, List.setIfInBounds_toArray, List.set_cons_zero, List.set_cons_succ])
        refine wpAnyH_take (i := 13) (oi := { dst := some 113, op := Op.build 63 #[(0, Operand.tmp 103), (1, Operand.tmp 105), (2, Operand.tmp 107), (3, Operand.tmp 110), (4, Operand.tmp 112)], type := 63, pos := "check.go:331", after := #[{ on := 3, ground := Ground.data }, { on := 5, ground := Ground.data }, { on := 7, ground := Ground.data }, { on := 10, ground := Ground.data }, { on := 12, ground := Ground.data }], guard := none }) (v := ?vahf13) rfl (by kernel_rfl) (by kernel_rfl) (by kernel_rfl) (fun _ _ _ h => h) (Or.inl ⟨by rfl, ?yahf13⟩) (by assumption) ?rahf13
        case yahf13 => (intro w hSw; (try dsimp only at hSw); go_simp <;> with_reducible rfl)
        (try simp only [Act.put, List.setIfInBounds_toArray, List.set_cons_zero, List.set_cons_succ])
        refine wpAnyH_ready (rs := [1, 14]) (by kernel_rfl) (by simp) ?_
        refine AllReadyH.cons (o := { dst := some 101, op := Op.load 34 (Operand.tmp 100), type := 34, pos := "check.go:331", after := #[{ on := 0, ground := Ground.data }], guard := none }) rfl (fun K hK => ?_) (AllReadyH.cons (o := { dst := some 114, op := Op.buildSlice 34 1 #[(0, Operand.tmp 113)], type := 34, pos := "check.go:331", after := #[{ on := 13, ground := Ground.data }], guard := none }) rfl (fun K hK => ?_) AllReadyH.nil)
        · skip
          go_simp
          clear hHeld
          refine hK.out _ _ ?_ (fun hHeld => ?_)
          · (first | exact ⟨g0, g3, g9⟩ | exact ⟨Kept.cell ((Below.refl _ _).alloc (Nat.le_refl _) _) g0, Kept.cell ((Below.refl _ _).alloc (Nat.le_refl _) _) g3, Kept.cell ((Below.refl _ _).alloc (Nat.le_refl _) _) g9⟩)
          clear hK K
          (try simp only [Act.put, List.setIfInBounds_toArray, List.set_cons_zero, List.set_cons_succ])
          refine wpAnyH_ready (rs := [14]) (by kernel_rfl) (by simp) ?_
          refine AllReadyH.cons (o := { dst := some 114, op := Op.buildSlice 34 1 #[(0, Operand.tmp 113)], type := 34, pos := "check.go:331", after := #[{ on := 13, ground := Ground.data }], guard := none }) rfl (fun K hK => ?_) AllReadyH.nil
          skip
          go_simp
          clear hHeld
          refine hK.out _ _ ?_ (fun hHeld => ?_)
          · exact ⟨Kept.cell ((Below.refl _ _).alloc (Nat.le_refl _) _) g0, Kept.cell ((Below.refl _ _).alloc (Nat.le_refl _) _) g3, Kept.cell ((Below.refl _ _).alloc (Nat.le_refl _) _) g9⟩
          clear hK K
          (try simp only [Act.put, List.setIfInBounds_toArray, List.set_cons_zero, List.set_cons_succ])
          refine wpAnyH_ready (rs := [15]) (by kernel_rfl) (by simp) ?_
          refine AllReadyH.cons (o := { dst := some 115, op := Op.call { callee := Callee.builtin Builtin.append, args := #[Operand.tmp 101, Operand.tmp 114], argTypes := #[34, 34] }, type := 34, pos := "check.go:331", after := #[{ on := 1, ground := Ground.data }, { on := 14, ground := Ground.data }, { on := 7, ground := Ground.chain }], guard := none }) rfl (fun K hK => ?_) AllReadyH.nil
          skip
          refine step_appR _ elem_memb rfl (.tmp 101) (.tmp 114) rfl w.heap.size (.slice aY i cY) i (xF i) rfl (HJ4.out.rF.alloc _) _ 1 [.int .i64 x.access, .string sn, .string sd, .bool (x.value != 0), .int .i64 xk.num] rfl (Rd.one _ [.int .i64 x.access, .string sn, .string sd, .bool (x.value != 0), .int .i64 xk.num] 63 rfl) (by intro u hu; simp only [List.mem_cons, List.not_mem_nil, or_false] at hu; rcases hu with rfl | rfl | rfl | rfl | rfl <;> rfl) (by omega) (by omega) (by have := HJ4.out.kept.size; simp; omega) _ rfl ?_; intro a8 c8 w7 ho9 hg9 hk9; have HTT := Lib.hid (((Touch.refl (fun b => (Value.slice aY i cY).ownBlock = some b) _).alloc _).trans (Touch.of_grown hg9 fun k hk => hk) fun _ hb => .inl hb); have HRR := Lib.hid ho9; have ht8 := HJ4.out.typ.touch HTT.out (fun e => own_ne HJ4.out.rF HJ4.out.typ (by decide) _ e rfl); have hf8 := HF4.out.touch HTT.out (fun e => own_ne HJ4.out.rF HF4.out (by decide) _ e rfl); have hk8 := HK4.out.touch HTT.out (fun e => own_ne HJ4.out.rF HK4.out (by decide) _ e rfl); have hgn : gt ≠ gf := (Blk.ne_ hf8 ht8 (by decide)).symm; have hgn2 : gt ≠ gk := (Blk.ne_ hk8 ht8 (by decide)).symm; have g0 := hf8.cell 0; have g3 := hf8.cell 3; have g9 := hk8.cell 2; have t4 := ht8.cell 4; have tf4 := ht8.frozen 4; simp only [List.getElem?_toArray, List.getElem?_cons_succ, List.getElem?_cons_zero] at g0 g3 g9 t4; clear ho9 hg9 hk9 ht8 hf8 hk8
          clear hHeld
          refine hK.out _ _ ?_ (fun hHeld => ?_)
          · exact ⟨g0, g3, g9⟩
          clear hK K
          (try simp only [Act.put, List.setIfInBounds_toArray, List.set_cons_zero, List.set_cons_succ])
          refine wpAnyH_take (i := 16) (oi := { dst := some 116, op := Op.fieldAddr 36 (Operand.tmp 6) 4, type := 0, pos := "check.go:331", after := #[{ on := 0, ground := Ground.phase }, { on := 1, ground := Ground.phase }, { on := 2, ground := Ground.phase }, { on := 3, ground := Ground.phase }, { on := 4, ground := Ground.phase }, { on := 5, ground := Ground.phase }, { on := 6, ground := Ground.phase }, { on := 7, ground := Ground.phase }, { on := 8, ground := Ground.phase }, { on := 9, ground := Ground.phase }, { on := 10, ground := Ground.phase }, { on := 11, ground := Ground.phase }, { on := 12, ground := Ground.phase }, { on := 13, ground := Ground.phase }, { on := 14, ground := Ground.phase }, { on := 15, ground := Ground.phase }], guard := none }) (v := ?vahfg16) rfl (by kernel_rfl) (by kernel_rfl) (by kernel_rfl) (fun _ _ _ h => h) (Or.inl ⟨by rfl, ?yahfg16⟩) (by assumption) ?rahfg16
          case yahfg16 => (intro w hSw; (try dsimp only at hSw); go_simp <;> with_reducible rfl)
          (try simp only [Act.put, List.setIfInBounds_toArray, List.set_cons_zero, List.set_cons_succ])
          refine wpAnyH_ready (rs := [17]) (by kernel_rfl) (by simp) ?_
          refine AllReadyH.cons (o := { dst := none, op := Op.store 34 (Operand.tmp 116) (Operand.tmp 115), type := 0, pos := "check.go:331", after := #[{ on := 16, ground := Ground.data }, { on := 15, ground := Ground.data }, { on := 15, ground := Ground.chain }, { on := 0, ground := Ground.phase }, { on := 1, ground := Ground.phase }, { on := 2, ground := Ground.phase }, { on := 3, ground := Ground.phase }, { on := 4, ground := Ground.phase }, { on := 5, ground := Ground.phase }, { on := 6, ground := Ground.phase }, { on := 7, ground := Ground.phase }, { on := 8, ground := Ground.phase }, { on := 9, ground := Ground.phase }, { on := 10, ground := Ground.phase }, { on := 11, ground := Ground.phase }, { on := 12, ground := Ground.phase }, { on := 13, ground := Ground.phase }, { on := 14, ground := Ground.phase }, { on := 15, ground := Ground.phase }], guard := none }) rfl (fun K hK => ?_) AllReadyH.nil
          skip
          go_simp
          clear hHeld
          refine hK.out _ _ ?_ (fun hHeld => ?_)
          · exact ⟨(World.cell?_setCell_far _ _ _ _ hgn).trans g0, (World.cell?_setCell_far _ _ _ _ hgn).trans g3, (World.cell?_setCell_far _ _ _ _ hgn2).trans g9⟩
          clear hK K
          (try simp only [Act.put, List.setIfInBounds_toArray, List.set_cons_zero, List.set_cons_succ])
          refine wpAnyH_done (by kernel_rfl) ?_ _
          have HJn := Lib.hid (HJ4.out.pushF rfl HTT.out HRR.out)
          clear hHeld g0 g3 g9 t4 tf4 hgn hgn2
          generalize (w7.setCell ⟨gt, 4, none⟩ (.slice a8 (i + 1) c8)) = wn at *
          go_wp2_with fail
          go_roundw
          case rel =>
            refine ⟨i + 1, a8, c8, by omega, by go_num, ?_⟩
            have h := HJn.out
            rw [show xF i ++ [.int .i64 x.access, .string sn, .string sd, .bool (x.value != 0), .int .i64 xk.num] = xF (i + 1) by rw [HXF.out]; dsimp only; rw [List.take_add_one, HX.out, List.map_append, List.flatMap_append, Hsn.out, Hsd.out, HXK.out]; rfl] at h
            exact h
          case measure => simp [intOf]; omega
        · skip
          go_simp
          clear hHeld
          refine hK.out _ _ ?_ (fun hHeld => ?_)
          · exact ⟨Kept.cell ((Below.refl _ _).alloc (Nat.le_refl _) _) g0, Kept.cell ((Below.refl _ _).alloc (Nat.le_refl _) _) g3, Kept.cell ((Below.refl _ _).alloc (Nat.le_refl _) _) g9⟩
          clear hK K
          (try simp only [Act.put, List.setIfInBounds_toArray, List.set_cons_zero, List.set_cons_succ])
          refine wpAnyH_ready (rs := [1]) (by kernel_rfl) (by simp) ?_
          refine AllReadyH.cons (o := { dst := some 101, op := Op.load 34 (Operand.tmp 100), type := 34, pos := "check.go:331", after := #[{ on := 0, ground := Ground.data }], guard := none }) rfl (fun K hK => ?_) AllReadyH.nil
          skip
          go_simp
          clear hHeld
          refine hK.out _ _ ?_ (fun hHeld => ?_)
          · (first | exact ⟨g0, g3, g9⟩ | exact ⟨Kept.cell ((Below.refl _ _).alloc (Nat.le_refl _) _) g0, Kept.cell ((Below.refl _ _).alloc (Nat.le_refl _) _) g3, Kept.cell ((Below.refl _ _).alloc (Nat.le_refl _) _) g9⟩)
          clear hK K
          (try simp only [Act.put, List.setIfInBounds_toArray, List.set_cons_zero, List.set_cons_succ])
          refine wpAnyH_ready (rs := [15]) (by kernel_rfl) (by simp) ?_
          refine AllReadyH.cons (o := { dst := some 115, op := Op.call { callee := Callee.builtin Builtin.append, args := #[Operand.tmp 101, Operand.tmp 114], argTypes := #[34, 34] }, type := 34, pos := "check.go:331", after := #[{ on := 1, ground := Ground.data }, { on := 14, ground := Ground.data }, { on := 7, ground := Ground.chain }], guard := none }) rfl (fun K hK => ?_) AllReadyH.nil
          skip
          refine step_appR _ elem_memb rfl (.tmp 101) (.tmp 114) rfl w.heap.size (.slice aY i cY) i (xF i) rfl (HJ4.out.rF.alloc _) _ 1 [.int .i64 x.access, .string sn, .string sd, .bool (x.value != 0), .int .i64 xk.num] rfl (Rd.one _ [.int .i64 x.access, .string sn, .string sd, .bool (x.value != 0), .int .i64 xk.num] 63 rfl) (by intro u hu; simp only [List.mem_cons, List.not_mem_nil, or_false] at hu; rcases hu with rfl | rfl | rfl | rfl | rfl <;> rfl) (by omega) (by omega) (by have := HJ4.out.kept.size; simp; omega) _ rfl ?_; intro a8 c8 w7 ho9 hg9 hk9; have HTT := Lib.hid (((Touch.refl (fun b => (Value.slice aY i cY).ownBlock = some b) _).alloc _).trans (Touch.of_grown hg9 fun k hk => hk) fun _ hb => .inl hb); have HRR := Lib.hid ho9; have ht8 := HJ4.out.typ.touch HTT.out (fun e => own_ne HJ4.out.rF HJ4.out.typ (by decide) _ e rfl); have hf8 := HF4.out.touch HTT.out (fun e => own_ne HJ4.out.rF HF4.out (by decide) _ e rfl); have hk8 := HK4.out.touch HTT.out (fun e => own_ne HJ4.out.rF HK4.out (by decide) _ e rfl); have hgn : gt ≠ gf := (Blk.ne_ hf8 ht8 (by decide)).symm; have hgn2 : gt ≠ gk := (Blk.ne_ hk8 ht8 (by decide)).symm; have g0 := hf8.cell 0; have g3 := hf8.cell 3; have g9 := hk8.cell 2; have t4 := ht8.cell 4; have tf4 := ht8.frozen 4; simp only [List.getElem?_toArray, List.getElem?_cons_succ, List.getElem?_cons_zero] at g0 g3 g9 t4; clear ho9 hg9 hk9 ht8 hf8 hk8
          clear hHeld
          refine hK.out _ _ ?_ (fun hHeld => ?_)
          · exact ⟨g0, g3, g9⟩
          clear hK K
          (try simp only [Act.put, List.setIfInBounds_toArray, List.set_cons_zero, List.set_cons_succ])
          refine wpAnyH_take (i := 16) (oi := { dst := some 116, op := Op.fieldAddr 36 (Operand.tmp 6) 4, type := 0, pos := "check.go:331", after := #[{ on := 0, ground := Ground.phase }, { on := 1, ground := Ground.phase }, { on := 2, ground := Ground.phase }, { on := 3, ground := Ground.phase }, { on := 4, ground := Ground.phase }, { on := 5, ground := Ground.phase }, { on := 6, ground := Ground.phase }, { on := 7, ground := Ground.phase }, { on := 8, ground := Ground.phase }, { on := 9, ground := Ground.phase }, { on := 10, ground := Ground.phase }, { on := 11, ground := Ground.phase }, { on := 12, ground := Ground.phase }, { on := 13, ground := Ground.phase }, { on := 14, ground := Ground.phase }, { on := 15, ground := Ground.phase }], guard := none }) (v := ?vahfc16) rfl (by kernel_rfl) (by kernel_rfl) (by kernel_rfl) (fun _ _ _ h => h) (Or.inl ⟨by rfl, ?yahfc16⟩) (by assumption) ?rahfc16
          case yahfc16 => (intro w hSw; (try dsimp only at hSw); go_simp <;> with_reducible rfl)
          (try simp only [Act.put, List.setIfInBounds_toArray, List.set_cons_zero, List.set_cons_succ])
          refine wpAnyH_ready (rs := [17]) (by kernel_rfl) (by simp) ?_
          refine AllReadyH.cons (o := { dst := none, op := Op.store 34 (Operand.tmp 116) (Operand.tmp 115), type := 0, pos := "check.go:331", after := #[{ on := 16, ground := Ground.data }, { on := 15, ground := Ground.data }, { on := 15, ground := Ground.chain }, { on := 0, ground := Ground.phase }, { on := 1, ground := Ground.phase }, { on := 2, ground := Ground.phase }, { on := 3, ground := Ground.phase }, { on := 4, ground := Ground.phase }, { on := 5, ground := Ground.phase }, { on := 6, ground := Ground.phase }, { on := 7, ground := Ground.phase }, { on := 8, ground := Ground.phase }, { on := 9, ground := Ground.phase }, { on := 10, ground := Ground.phase }, { on := 11, ground := Ground.phase }, { on := 12, ground := Ground.phase }, { on := 13, ground := Ground.phase }, { on := 14, ground := Ground.phase }, { on := 15, ground := Ground.phase }], guard := none }) rfl (fun K hK => ?_) AllReadyH.nil
          skip
          go_simp
          clear hHeld
          refine hK.out _ _ ?_ (fun hHeld => ?_)
          · exact ⟨(World.cell?_setCell_far _ _ _ _ hgn).trans g0, (World.cell?_setCell_far _ _ _ _ hgn).trans g3, (World.cell?_setCell_far _ _ _ _ hgn2).trans g9⟩
          clear hK K
          (try simp only [Act.put, List.setIfInBounds_toArray, List.set_cons_zero, List.set_cons_succ])
          refine wpAnyH_done (by kernel_rfl) ?_ _
          have HJn := Lib.hid (HJ4.out.pushF rfl HTT.out HRR.out)
          clear hHeld g0 g3 g9 t4 tf4 hgn hgn2
          generalize (w7.setCell ⟨gt, 4, none⟩ (.slice a8 (i + 1) c8)) = wn at *
          go_wp2_with fail
          go_roundw
          case rel =>
            refine ⟨i + 1, a8, c8, by omega, by go_num, ?_⟩
            have h := HJn.out
            rw [show xF i ++ [.int .i64 x.access, .string sn, .string sd, .bool (x.value != 0), .int .i64 xk.num] = xF (i + 1) by rw [HXF.out]; dsimp only; rw [List.take_add_one, HX.out, List.map_append, List.flatMap_append, Hsn.out, Hsd.out, HXK.out]; rfl] at h
            exact h
          case measure => simp [intOf]; omega
  obtain rfl : i = nF := by omega
  obtain ⟨xM, hxM⟩ : ∃ f : Nat → List Value, f = fun j => ((mv.take j).map fun x => memM c.pool x.1).flatMap encMemberV := ⟨_, rfl⟩
  have HXM := Lib.hid hxM
  clear hxM
  have j8 := HJ.out.cls.cell 8
  simp only [List.getElem?_toArray, List.getElem?_cons_succ, List.getElem?_cons_zero] at j8
  go_wp2_with fail
  have HMX := Lib.hid (methsE_all (checkE_parts HCK.out).2.2.2.2)
  have HRA := Lib.hid HC.out.r
  go_loopw [121] (fun s w9 => ∃ (j : Nat) (aZ : Option Addr) (cZ : Nat), j ≤ nM ∧ s = .int .i64 j ∧ OutI w gz gb gt #[.int .i64 c.minor, .int .i64 c.major, .slice aP nP kP, .int .i64 c.access, .int .i64 c.this, .int .i64 c.super, .slice aI k kI, .slice aF i kF, .slice aM nM kM] s1 s2 c.access (.slice aX k cX) (.slice aY i cY) (.slice aZ j cZ) k i j (xI k) (xF i) (xM j) w9) (fun s _ => nM - (intOf s).toNat)
  case atStart => exact ⟨0, none, 0, Nat.zero_le _, rfl, by rw [HXM.out]; exact HJ.out⟩
  case round =>
  rename World => wr
  obtain ⟨j, aZ, cZ, hjm, rfl, hj⟩ := hrel
  have HJ := Lib.hid hj
  clear hj j8
  by_cases hlt3 : j < nM
  · have hMM : Rd wr 8 (.slice aM nM kM) nM (mv.flatMap encM) := by
      have := HC.out.m.kept HJ.out.kept
      rw [← N4.out] at this
      exact this
    have HMMh := Lib.hid hMM
    have HRRh := Lib.hid (fun x hx => (HRA.out x hx).kept HJ.out.kept)
    clear hMM
    obtain ⟨⟨m, vc, vt⟩, hx⟩ : ∃ x, mv[j]? = some x := ⟨_, List.getElem?_eq_getElem (by have := N4.out; omega)⟩
    obtain ⟨b1, o1, d1, hv1, e0, e1, e2, e3, e4, e5, e6, e7⟩ := meth_cells N4.out (HMMh.out.kept (Below.refl _ wr)) hx
    have hrm : MRd wr m vc vt := (HRRh.out _ (List.mem_of_getElem? hx)).kept (Below.refl _ wr)
    simp only [Value.slice.injEq] at hv1
    obtain ⟨rfl, -, rfl⟩ := hv1
    dsimp only at e0 e1 e2 e3 e4 e5 e6 e7
    obtain ⟨lc, hlc⟩ : ∃ lc, lc = m.code.length := ⟨_, rfl⟩
    obtain ⟨lt, hlt'⟩ : ∃ lt, lt = m.traps.length := ⟨_, rfl⟩
    have hrc := hrm.code
    have hrt := hrm.traps
    clear hrm
    rw [← hlc] at hrc
    rw [← hlt'] at hrt
    have HRc := Lib.hid hrc
    have HRt := Lib.hid hrt
    obtain ⟨_, ac, kc, rfl, -⟩ := hrc
    obtain ⟨_, at_, kt, rfl, -⟩ := hrt
    have hkL : (j : Int) < (nM : Int) := by omega
    have h0L : (0 : Int) ≤ (j : Int) := by omega
    have HX := Lib.hid hx
    have HLC := Lib.hid hlc
    have HLT := Lib.hid hlt'
    clear hx hlc hlt' 
    have hj64 : j ≤ 64 := by have := HN64.out.2.2; omega
    obtain ⟨sq, hsq⟩ := HMX.out m (by rw [HMS.out]; exact List.mem_map.2 ⟨_, List.mem_of_getElem? HX.out, rfl⟩)
    have HSZ := Lib.hid (meth_short hsq)
    clear hsq
    go_upto_region 25 with fail
    have hkb : Kept wr (wr.alloc (.cells #[.int .i64 m.access, .int .i64 m.name, .int .i64 m.desc, .bool m.has, .int .i64 m.stack, .int .i64 m.locals, .slice ac lc kc, .slice at_ lt kt] 52)) := (Below.refl _ _).alloc (Nat.le_refl _) _
    have HJ1 := Lib.hid (HJ.out.keep hkb)
    have HF1 := Lib.hid (Blk.new wr 52 #[.int .i64 m.access, .int .i64 m.name, .int .i64 m.desc, .bool m.has, .int .i64 m.stack, .int .i64 m.locals, .slice ac lc kc, .slice at_ lt kt])
    obtain ⟨gm, hgm⟩ : ∃ g, g = wr.heap.size := ⟨_, rfl⟩
    rw [← hgm] at HF1 ⊢
    clear hkb e0 e1 e2 e3 e4 e5 e6 e7
    generalize (wr.alloc (.cells #[.int .i64 m.access, .int .i64 m.name, .int .i64 m.desc, .bool m.has, .int .i64 m.stack, .int .i64 m.locals, .slice ac lc kc, .slice at_ lt kt] 52)) = wa at *
    clear hgm
    obtain ⟨sn, hsn⟩ : ∃ s, s = (textC c.pool m.name).1 := ⟨_, rfl⟩
    obtain ⟨on, hon⟩ : ∃ s, s = (textC c.pool m.name).2 := ⟨_, rfl⟩
    have Hsn := Lib.hid hsn
    have Hon := Lib.hid hon
    clear hsn hon
    obtain ⟨sd, hsd⟩ : ∃ s, s = (textC c.pool m.desc).1 := ⟨_, rfl⟩
    obtain ⟨od, hod⟩ : ∃ s, s = (textC c.pool m.desc).2 := ⟨_, rfl⟩
    have Hsd := Lib.hid hsd
    have Hod := Lib.hid hod
    clear hsd hod
    have y1 := HF1.out.cell 1
    simp only [List.getElem?_toArray, List.getElem?_cons_succ, List.getElem?_cons_zero] at y1
    have C := check_text c.pool c.minor c.major c.access c.this c.super (.slice aP nP kP) (.slice aI k kI) (.slice aF i kF) (.slice (some ⟨b1, o1, none⟩) nM kM) m.name wa (HPL.out.kept HJ1.out.kept)
    unfold TextG at C
    rw [← Hsn.out, ← Hon.out] at C
    have q0 := HJ1.out.book.cell 0
    have q1 := HJ1.out.book.cell 1
    have q2 := HJ1.out.book.cell 2
    have q3 := HJ1.out.book.cell 3
    have q4 := HJ1.out.book.cell 4
    have q5 := HJ1.out.book.cell 5
    have q6 := HJ1.out.book.cell 6
    have q7 := HJ1.out.book.cell 7
    have q8 := HJ1.out.book.cell 8
    simp only [List.getElem?_toArray, List.getElem?_cons_succ, List.getElem?_cons_zero] at q0 q1 q2 q3 q4 q5 q6 q7 q8
    go_wp2_with fail
    refine C.mono ?_
    rintro e wb ⟨rfl, hk9⟩
    have HJ2 := Lib.hid (HJ1.out.keep hk9)
    have HF2 := Lib.hid (HF1.out.kept hk9)
    clear hk9 C q0 q1 q2 q3 q4 q5 q6 q7 q8
    clear y1
    have y2 := HF2.out.cell 2
    simp only [List.getElem?_toArray, List.getElem?_cons_succ, List.getElem?_cons_zero] at y2
    go_upto_region 26 with fail
    have C := check_text c.pool c.minor c.major c.access c.this c.super (.slice aP nP kP) (.slice aI k kI) (.slice aF i kF) (.slice (some ⟨b1, o1, none⟩) nM kM) m.desc wb (HPL.out.kept HJ2.out.kept)
    unfold TextG at C
    rw [← Hsd.out, ← Hod.out] at C
    have q0 := HJ2.out.book.cell 0
    have q1 := HJ2.out.book.cell 1
    have q2 := HJ2.out.book.cell 2
    have q3 := HJ2.out.book.cell 3
    have q4 := HJ2.out.book.cell 4
    have q5 := HJ2.out.book.cell 5
    have q6 := HJ2.out.book.cell 6
    have q7 := HJ2.out.book.cell 7
    have q8 := HJ2.out.book.cell 8
    simp only [List.getElem?_toArray, List.getElem?_cons_succ, List.getElem?_cons_zero] at q0 q1 q2 q3 q4 q5 q6 q7 q8
    go_wp2_with fail
    refine C.mono ?_
    rintro e wc ⟨rfl, hk9⟩
    have HJ3 := Lib.hid (HJ2.out.keep hk9)
    have HF3 := Lib.hid (HF2.out.kept hk9)
    clear hk9 C q0 q1 q2 q3 q4 q5 q6 q7 q8
    clear y2
    go_upto_region 27 with fail
    have hmix : Try.prog.follows .mixedOrders = true := by kernel_rfl
    have hkd : Kept wc wc.drew := kept_drewN (Below.refl _ wc) 1
    have HJ4 := Lib.hid (HJ3.out.keep hkd)
    have HF4 := Lib.hid (HF3.out.kept hkd)
    clear hkd HJ HJ1 HJ2 HJ3 HF1 HF2 HF3
    have g0 := HF4.out.cell 0
    have g3 := HF4.out.cell 3
    have t4 := HJ4.out.typ.cell 5
    simp only [List.getElem?_toArray, List.getElem?_cons_succ, List.getElem?_cons_zero] at g0 g3 t4
    have tf4 := HJ4.out.typ.frozen 5
    have HNS := Lib.hid (show sn.size ≤ 140737488355328 by have := HSZ.out.1; rw [← Hsn.out] at this; exact this)
    have HDS := Lib.hid (show sd.size ≤ 140737488355328 by have := HSZ.out.2; rw [← Hsd.out] at this; exact this)
    refine wp_region_held_drew (S := (fun w' => w'.cell? ⟨gm, 0, none⟩ = some (.int .i64 m.access) ∧ w'.cell? ⟨gm, 3, none⟩ = some (.bool m.has))) (by kernel_rfl) (by first | assumption | ((try dsimp only); simp [*]; done)) (fun hHeld => ?_)
    refine wpAnyH_take (i := 0) (oi := { dst := some 139, op := Op.fieldAddr 36 (Operand.tmp 6) 5, type := 0, pos := "check.go:336", after := #[], guard := none }) (v := ?vb0) rfl (by kernel_rfl) (by kernel_rfl) (by kernel_rfl) (fun _ _ _ h => h) (Or.inl ⟨by rfl, ?yb0⟩) (by assumption) ?rb0
    case yb0 => (intro w hSw; (try dsimp only at hSw); go_simp <;> with_reducible rfl)
    (try simp only [Act.put, List.setIfInBounds_toArray, List.set_cons_zero, List.set_cons_succ])
    refine wpAnyH_take (i := 2) (oi := { dst := some 141, op := Op.fieldAddr 52 (Operand.tmp 20) 0, type := 0, pos := "check.go:336", after := #[], guard := none }) (v := ?vb2) rfl (by kernel_rfl) (by kernel_rfl) (by kernel_rfl) (fun _ _ _ h => h) (Or.inl ⟨by rfl, ?yb2⟩) (by assumption) ?rb2
    case yb2 => (intro w hSw; (try dsimp only at hSw); go_simp <;> with_reducible rfl)
    (try simp only [Act.put, List.setIfInBounds_toArray, List.set_cons_zero, List.set_cons_succ])
    refine wpAnyH_take (i := 3) (oi := { dst := some 142, op := Op.load 3 (Operand.tmp 141), type := 3, pos := "check.go:336", after := #[{ on := 2, ground := Ground.data }], guard := none }) (v := ?vb3) rfl (by kernel_rfl) (by kernel_rfl) (by kernel_rfl) (fun _ _ _ h => h) (Or.inl ⟨by rfl, ?yb3⟩) (by assumption) ?rb3
    case yb3 => (intro w hSw; (try dsimp only at hSw); go_simp <;> with_reducible rfl)
    (try simp only [Act.put, List.setIfInBounds_toArray, List.set_cons_zero, List.set_cons_succ])
    refine wpAnyH_take (i := 4) (oi := { dst := some 143, op := Op.move (Operand.tmp 21), type := 9, pos := "check.go:336", after := #[], guard := none }) (v := ?vb4) rfl (by kernel_rfl) (by kernel_rfl) (by kernel_rfl) (fun _ _ _ h => h) (Or.inl ⟨by rfl, ?yb4⟩) (by assumption) ?rb4
    case yb4 => (intro w hSw; (try dsimp only at hSw); go_simp <;> with_reducible rfl)
    (try simp only [Act.put, List.setIfInBounds_toArray, List.set_cons_zero, List.set_cons_succ])
    refine wpAnyH_take (i := 6) (oi := { dst := some 145, op := Op.move (Operand.tmp 23), type := 9, pos := "check.go:336", after := #[], guard := none }) (v := ?vb6) rfl (by kernel_rfl) (by kernel_rfl) (by kernel_rfl) (fun _ _ _ h => h) (Or.inl ⟨by rfl, ?yb6⟩) (by assumption) ?rb6
    case yb6 => (intro w hSw; (try dsimp only at hSw); go_simp <;> with_reducible rfl)
    (try simp only [Act.put, List.setIfInBounds_toArray, List.set_cons_zero, List.set_cons_succ])
    refine wpAnyH_take (i := 8) (oi := { dst := some 147, op := Op.fieldAddr 52 (Operand.tmp 20) 3, type := 0, pos := "check.go:336", after := #[], guard := none }) (v := ?vb8) rfl (by kernel_rfl) (by kernel_rfl) (by kernel_rfl) (fun _ _ _ h => h) (Or.inl ⟨by rfl, ?yb8⟩) (by assumption) ?rb8
    case yb8 => (intro w hSw; (try dsimp only at hSw); go_simp <;> with_reducible rfl)
    (try simp only [Act.put, List.setIfInBounds_toArray, List.set_cons_zero, List.set_cons_succ])
    refine wpAnyH_take (i := 9) (oi := { dst := some 148, op := Op.load 4 (Operand.tmp 147), type := 4, pos := "check.go:336", after := #[{ on := 8, ground := Ground.data }], guard := none }) (v := ?vb9) rfl (by kernel_rfl) (by kernel_rfl) (by kernel_rfl) (fun _ _ _ h => h) (Or.inl ⟨by rfl, ?yb9⟩) (by assumption) ?rb9
    case yb9 => (intro w hSw; (try dsimp only at hSw); go_simp <;> with_reducible rfl)
    (try simp only [Act.put, List.setIfInBounds_toArray, List.set_cons_zero, List.set_cons_succ])
    refine wpAnyH_ready (rs := [1, 5]) (by kernel_rfl) (by simp) ?_
    refine AllReadyH.cons (o := { dst := some 140, op := Op.load 34 (Operand.tmp 139), type := 34, pos := "check.go:336", after := #[{ on := 0, ground := Ground.data }], guard := none }) rfl (fun K hK => ?_) (AllReadyH.cons (o := { dst := some 144, op := Op.call { callee := Callee.value (Operand.func 36), args := #[Operand.tmp 143], argTypes := #[9] }, type := 9, pos := "check.go:336", after := #[{ on := 4, ground := Ground.data }], guard := none }) rfl (fun K hK => ?_) AllReadyH.nil)
    · skip
      go_simp
      clear hHeld
      refine hK.out _ _ ?_ (fun hHeld => ?_)
      · (first | exact ⟨g0, g3⟩ | exact ⟨Kept.cell ((Below.refl _ _).alloc (Nat.le_refl _) _) g0, Kept.cell ((Below.refl _ _).alloc (Nat.le_refl _) _) g3⟩)
      clear hK K
      (try simp only [Act.put, List.setIfInBounds_toArray, List.set_cons_zero, List.set_cons_succ])
      refine wpAnyH_ready (rs := [5]) (by kernel_rfl) (by simp) ?_
      refine AllReadyH.cons (o := { dst := some 144, op := Op.call { callee := Callee.value (Operand.func 36), args := #[Operand.tmp 143], argTypes := #[9] }, type := 9, pos := "check.go:336", after := #[{ on := 4, ground := Ground.data }], guard := none }) rfl (fun K hK => ?_) AllReadyH.nil
      skip
      go_simp
      go_wp2_with ((go_at_call 36; refine (str_Clone _ _ (by first | exact HNS.out | exact HDS.out)).mono ?_; rintro e w8 ⟨rfl, hk9⟩; have HJ4 := Lib.hid (HJ4.out.keep hk9); have HF4 := Lib.hid (HF4.out.kept hk9); have g0 := HF4.out.cell 0; have g3 := HF4.out.cell 3; have t4 := HJ4.out.typ.cell 5; have tf4 := HJ4.out.typ.frozen 5; have hgl := HJ4.out.typ.lt; have hgx := Nat.ne_of_lt HJ4.out.typ.lt; simp only [List.getElem?_toArray, List.getElem?_cons_succ, List.getElem?_cons_zero] at g0 g3 t4; clear hk9))
      clear hHeld
      refine hK.out _ _ ?_ (fun hHeld => ?_)
      · exact ⟨g0, g3⟩
      clear hK K
      (try simp only [Act.put, List.setIfInBounds_toArray, List.set_cons_zero, List.set_cons_succ])
      refine wpAnyH_ready (rs := [7]) (by kernel_rfl) (by simp) ?_
      refine AllReadyH.cons (o := { dst := some 146, op := Op.call { callee := Callee.value (Operand.func 36), args := #[Operand.tmp 145], argTypes := #[9] }, type := 9, pos := "check.go:336", after := #[{ on := 6, ground := Ground.data }, { on := 5, ground := Ground.chain }], guard := none }) rfl (fun K hK => ?_) AllReadyH.nil
      skip
      go_simp
      go_wp2_with ((go_at_call 36; refine (str_Clone _ _ (by first | exact HNS.out | exact HDS.out)).mono ?_; rintro e w8 ⟨rfl, hk9⟩; have HJ4 := Lib.hid (HJ4.out.keep hk9); have HF4 := Lib.hid (HF4.out.kept hk9); have g0 := HF4.out.cell 0; have g3 := HF4.out.cell 3; have t4 := HJ4.out.typ.cell 5; have tf4 := HJ4.out.typ.frozen 5; have hgl := HJ4.out.typ.lt; have hgx := Nat.ne_of_lt HJ4.out.typ.lt; simp only [List.getElem?_toArray, List.getElem?_cons_succ, List.getElem?_cons_zero] at g0 g3 t4; clear hk9))
      clear hHeld
      refine hK.out _ _ ?_ (fun hHeld => ?_)
      · exact ⟨g0, g3⟩
      clear hK K
      (try simp only [Act.put, List.setIfInBounds_toArray, List.set_cons_zero, List.set_cons_succ])
      refine wpAnyH_take (i := 10) (oi := { dst := some 149, op := Op.build 63 #[(0, Operand.tmp 142), (1, Operand.tmp 144), (2, Operand.tmp 146), (3, Operand.tmp 148)], type := 63, pos := "check.go:336", after := #[{ on := 3, ground := Ground.data }, { on := 5, ground := Ground.data }, { on := 7, ground := Ground.data }, { on := 9, ground := Ground.data }], guard := none }) (v := ?vbb10) rfl (by kernel_rfl) (by kernel_rfl) (by kernel_rfl) (fun _ _ _ h => h) (Or.inl ⟨by rfl, ?ybb10⟩) (by assumption) ?rbb10
      case ybb10 => (intro w hSw; (try dsimp only at hSw); go_simp <;> with_reducible rfl)
      (try simp only [Act.put, List.setIfInBounds_toArray, List.set_cons_zero, List.set_cons_succ])
      refine wpAnyH_ready (rs := [11]) (by kernel_rfl) (by simp) ?_
      refine AllReadyH.cons (o := { dst := some 150, op := Op.buildSlice 34 1 #[(0, Operand.tmp 149)], type := 34, pos := "check.go:336", after := #[{ on := 10, ground := Ground.data }], guard := none }) rfl (fun K hK => ?_) AllReadyH.nil
      skip
      go_simp
      clear hHeld
      refine hK.out _ _ ?_ (fun hHeld => ?_)
      · exact ⟨Kept.cell ((Below.refl _ _).alloc (Nat.le_refl _) _) g0, Kept.cell ((Below.refl _ _).alloc (Nat.le_refl _) _) g3⟩
      clear hK K
      (try simp only [Act.put, List.setIfInBounds_toArray, List.set_cons_zero, List.set_cons_succ])
      refine wpAnyH_ready (rs := [12]) (by kernel_rfl) (by simp) ?_
      refine AllReadyH.cons (o := { dst := some 151, op := Op.call { callee := Callee.builtin Builtin.append, args := #[Operand.tmp 140, Operand.tmp 150], argTypes := #[34, 34] }, type := 34, pos := "check.go:336", after := #[{ on := 1, ground := Ground.data }, { on := 11, ground := Ground.data }, { on := 7, ground := Ground.chain }], guard := none }) rfl (fun K hK => ?_) AllReadyH.nil
      skip
      refine step_appR _ elem_memb rfl (.tmp 140) (.tmp 150) rfl w.heap.size (.slice aZ j cZ) j (xM j) rfl (HJ4.out.rM.alloc _) _ 1 [.int .i64 m.access, .string sn, .string sd, .bool m.has, .int .i64 0] rfl (Rd.one _ [.int .i64 m.access, .string sn, .string sd, .bool m.has, .int .i64 0] 63 rfl) (by intro u hu; simp only [List.mem_cons, List.not_mem_nil, or_false] at hu; rcases hu with rfl | rfl | rfl | rfl | rfl <;> rfl) (by omega) (by omega) (by have := HJ4.out.kept.size; simp; omega) _ rfl ?_; intro a8 c8 w7 ho9 hg9 hk9; have HTT := Lib.hid (((Touch.refl (fun b => (Value.slice aZ j cZ).ownBlock = some b) _).alloc _).trans (Touch.of_grown hg9 fun k hk => hk) fun _ hb => .inl hb); have HRR := Lib.hid ho9; have HKK := Lib.hid hk9; have ht8 := HJ4.out.typ.touch HTT.out (fun e => own_ne HJ4.out.rM HJ4.out.typ (by decide) _ e rfl); have hf8 := HF4.out.touch HTT.out (fun e => own_ne HJ4.out.rM HF4.out (by decide) _ e rfl); have hgn : gt ≠ gm := (Blk.ne_ hf8 ht8 (by decide)).symm; have g0 := hf8.cell 0; have g3 := hf8.cell 3; have t4 := ht8.cell 5; have tf4 := ht8.frozen 5; simp only [List.getElem?_toArray, List.getElem?_cons_succ, List.getElem?_cons_zero] at g0 g3 t4; clear ho9 hg9 hk9 ht8 hf8
      clear hHeld
      refine hK.out _ _ ?_ (fun hHeld => ?_)
      · exact ⟨g0, g3⟩
      clear hK K
      (try simp only [Act.put, List.setIfInBounds_toArray, List.set_cons_zero, List.set_cons_succ])
      refine wpAnyH_take (i := 13) (oi := { dst := some 152, op := Op.fieldAddr 36 (Operand.tmp 6) 5, type := 0, pos := "check.go:336", after := #[{ on := 0, ground := Ground.phase }, { on := 1, ground := Ground.phase }, { on := 2, ground := Ground.phase }, { on := 3, ground := Ground.phase }, { on := 4, ground := Ground.phase }, { on := 5, ground := Ground.phase }, { on := 6, ground := Ground.phase }, { on := 7, ground := Ground.phase }, { on := 8, ground := Ground.phase }, { on := 9, ground := Ground.phase }, { on := 10, ground := Ground.phase }, { on := 11, ground := Ground.phase }, { on := 12, ground := Ground.phase }], guard := none }) (v := ?vbb13) rfl (by kernel_rfl) (by kernel_rfl) (by kernel_rfl) (fun _ _ _ h => h) (Or.inl ⟨by rfl, ?ybb13⟩) (by assumption) ?rbb13
      case ybb13 => (intro w hSw; (try dsimp only at hSw); go_simp <;> with_reducible rfl)
      (try simp only [Act.put, List.setIfInBounds_toArray, List.set_cons_zero, List.set_cons_succ])
      refine wpAnyH_ready (rs := [14]) (by kernel_rfl) (by simp) ?_
      refine AllReadyH.cons (o := { dst := none, op := Op.store 34 (Operand.tmp 152) (Operand.tmp 151), type := 0, pos := "check.go:336", after := #[{ on := 13, ground := Ground.data }, { on := 12, ground := Ground.data }, { on := 12, ground := Ground.chain }, { on := 0, ground := Ground.phase }, { on := 1, ground := Ground.phase }, { on := 2, ground := Ground.phase }, { on := 3, ground := Ground.phase }, { on := 4, ground := Ground.phase }, { on := 5, ground := Ground.phase }, { on := 6, ground := Ground.phase }, { on := 7, ground := Ground.phase }, { on := 8, ground := Ground.phase }, { on := 9, ground := Ground.phase }, { on := 10, ground := Ground.phase }, { on := 11, ground := Ground.phase }, { on := 12, ground := Ground.phase }], guard := none }) rfl (fun K hK => ?_) AllReadyH.nil
      skip
      go_simp
      clear hHeld
      refine hK.out _ _ ?_ (fun hHeld => ?_)
      · exact ⟨(World.cell?_setCell_far _ _ _ _ hgn).trans g0, (World.cell?_setCell_far _ _ _ _ hgn).trans g3⟩
      clear hK K
      (try simp only [Act.put, List.setIfInBounds_toArray, List.set_cons_zero, List.set_cons_succ])
      refine wpAnyH_done (by kernel_rfl) ?_ _
      have HJn := Lib.hid (HJ4.out.pushM HTT.out HRR.out fun k hk => (HKK.out k hk).imp id fun h => by simp at h; omega)
      clear hHeld g0 g3 t4 tf4 hgn
      generalize (w7.setCell ⟨gt, 5, none⟩ (.slice a8 (j + 1) c8)) = wn at *
      go_wp2_with fail
      go_roundw
      case rel =>
        refine ⟨j + 1, a8, c8, by omega, by go_num, ?_⟩
        have h := HJn.out
        rw [show xM j ++ [.int .i64 m.access, .string sn, .string sd, .bool m.has, .int .i64 0] = xM (j + 1) by rw [HXM.out]; dsimp only; rw [List.take_add_one, HX.out, List.map_append, List.flatMap_append, Hsn.out, Hsd.out]; rfl] at h
        exact h
      case measure => simp [intOf]; omega
    · skip
      go_simp
      go_wp2_with ((go_at_call 36; refine (str_Clone _ _ (by first | exact HNS.out | exact HDS.out)).mono ?_; rintro e w8 ⟨rfl, hk9⟩; have HJ4 := Lib.hid (HJ4.out.keep hk9); have HF4 := Lib.hid (HF4.out.kept hk9); have g0 := HF4.out.cell 0; have g3 := HF4.out.cell 3; have t4 := HJ4.out.typ.cell 5; have tf4 := HJ4.out.typ.frozen 5; have hgl := HJ4.out.typ.lt; have hgx := Nat.ne_of_lt HJ4.out.typ.lt; simp only [List.getElem?_toArray, List.getElem?_cons_succ, List.getElem?_cons_zero] at g0 g3 t4; clear hk9))
      clear hHeld
      refine hK.out _ _ ?_ (fun hHeld => ?_)
      · exact ⟨g0, g3⟩
      clear hK K
      (try simp only [Act.put, List.setIfInBounds_toArray, List.set_cons_zero, List.set_cons_succ])
      refine wpAnyH_ready (rs := [1, 7]) (by kernel_rfl) (by simp) ?_
      refine AllReadyH.cons (o := { dst := some 140, op := Op.load 34 (Operand.tmp 139), type := 34, pos := "check.go:336", after := #[{ on := 0, ground := Ground.data }], guard := none }) rfl (fun K hK => ?_) (AllReadyH.cons (o := { dst := some 146, op := Op.call { callee := Callee.value (Operand.func 36), args := #[Operand.tmp 145], argTypes := #[9] }, type := 9, pos := "check.go:336", after := #[{ on := 6, ground := Ground.data }, { on := 5, ground := Ground.chain }], guard := none }) rfl (fun K hK => ?_) AllReadyH.nil)
      · skip
        go_simp
        clear hHeld
        refine hK.out _ _ ?_ (fun hHeld => ?_)
        · (first | exact ⟨g0, g3⟩ | exact ⟨Kept.cell ((Below.refl _ _).alloc (Nat.le_refl _) _) g0, Kept.cell ((Below.refl _ _).alloc (Nat.le_refl _) _) g3⟩)
        clear hK K
        (try simp only [Act.put, List.setIfInBounds_toArray, List.set_cons_zero, List.set_cons_succ])
        refine wpAnyH_ready (rs := [7]) (by kernel_rfl) (by simp) ?_
        refine AllReadyH.cons (o := { dst := some 146, op := Op.call { callee := Callee.value (Operand.func 36), args := #[Operand.tmp 145], argTypes := #[9] }, type := 9, pos := "check.go:336", after := #[{ on := 6, ground := Ground.data }, { on := 5, ground := Ground.chain }], guard := none }) rfl (fun K hK => ?_) AllReadyH.nil
        skip
        go_simp
        go_wp2_with ((go_at_call 36; refine (str_Clone _ _ (by first | exact HNS.out | exact HDS.out)).mono ?_; rintro e w8 ⟨rfl, hk9⟩; have HJ4 := Lib.hid (HJ4.out.keep hk9); have HF4 := Lib.hid (HF4.out.kept hk9); have g0 := HF4.out.cell 0; have g3 := HF4.out.cell 3; have t4 := HJ4.out.typ.cell 5; have tf4 := HJ4.out.typ.frozen 5; have hgl := HJ4.out.typ.lt; have hgx := Nat.ne_of_lt HJ4.out.typ.lt; simp only [List.getElem?_toArray, List.getElem?_cons_succ, List.getElem?_cons_zero] at g0 g3 t4; clear hk9))
        clear hHeld
        refine hK.out _ _ ?_ (fun hHeld => ?_)
        · exact ⟨g0, g3⟩
        clear hK K
        (try simp only [Act.put, List.setIfInBounds_toArray, List.set_cons_zero, List.set_cons_succ])
        refine wpAnyH_take (i := 10) (oi := { dst := some 149, op := Op.build 63 #[(0, Operand.tmp 142), (1, Operand.tmp 144), (2, Operand.tmp 146), (3, Operand.tmp 148)], type := 63, pos := "check.go:336", after := #[{ on := 3, ground := Ground.data }, { on := 5, ground := Ground.data }, { on := 7, ground := Ground.data }, { on := 9, ground := Ground.data }], guard := none }) (v := ?vbha10) rfl (by kernel_rfl) (by kernel_rfl) (by kernel_rfl) (fun _ _ _ h => h) (Or.inl ⟨by rfl, ?ybha10⟩) (by assumption) ?rbha10
        case ybha10 => (intro w hSw; (try dsimp only at hSw); go_simp <;> with_reducible rfl)
        (try simp only [Act.put, List.setIfInBounds_toArray, List.set_cons_zero, List.set_cons_succ])
        refine wpAnyH_ready (rs := [11]) (by kernel_rfl) (by simp) ?_
        refine AllReadyH.cons (o := { dst := some 150, op := Op.buildSlice 34 1 #[(0, Operand.tmp 149)], type := 34, pos := "check.go:336", after := #[{ on := 10, ground := Ground.data }], guard := none }) rfl (fun K hK => ?_) AllReadyH.nil
        skip
        go_simp
        clear hHeld
        refine hK.out _ _ ?_ (fun hHeld => ?_)
        · exact ⟨Kept.cell ((Below.refl _ _).alloc (Nat.le_refl _) _) g0, Kept.cell ((Below.refl _ _).alloc (Nat.le_refl _) _) g3⟩
        clear hK K
        (try simp only [Act.put, List.setIfInBounds_toArray, List.set_cons_zero, List.set_cons_succ])
        refine wpAnyH_ready (rs := [12]) (by kernel_rfl) (by simp) ?_
        refine AllReadyH.cons (o := { dst := some 151, op := Op.call { callee := Callee.builtin Builtin.append, args := #[Operand.tmp 140, Operand.tmp 150], argTypes := #[34, 34] }, type := 34, pos := "check.go:336", after := #[{ on := 1, ground := Ground.data }, { on := 11, ground := Ground.data }, { on := 7, ground := Ground.chain }], guard := none }) rfl (fun K hK => ?_) AllReadyH.nil
        skip
        refine step_appR _ elem_memb rfl (.tmp 140) (.tmp 150) rfl w.heap.size (.slice aZ j cZ) j (xM j) rfl (HJ4.out.rM.alloc _) _ 1 [.int .i64 m.access, .string sn, .string sd, .bool m.has, .int .i64 0] rfl (Rd.one _ [.int .i64 m.access, .string sn, .string sd, .bool m.has, .int .i64 0] 63 rfl) (by intro u hu; simp only [List.mem_cons, List.not_mem_nil, or_false] at hu; rcases hu with rfl | rfl | rfl | rfl | rfl <;> rfl) (by omega) (by omega) (by have := HJ4.out.kept.size; simp; omega) _ rfl ?_; intro a8 c8 w7 ho9 hg9 hk9; have HTT := Lib.hid (((Touch.refl (fun b => (Value.slice aZ j cZ).ownBlock = some b) _).alloc _).trans (Touch.of_grown hg9 fun k hk => hk) fun _ hb => .inl hb); have HRR := Lib.hid ho9; have HKK := Lib.hid hk9; have ht8 := HJ4.out.typ.touch HTT.out (fun e => own_ne HJ4.out.rM HJ4.out.typ (by decide) _ e rfl); have hf8 := HF4.out.touch HTT.out (fun e => own_ne HJ4.out.rM HF4.out (by decide) _ e rfl); have hgn : gt ≠ gm := (Blk.ne_ hf8 ht8 (by decide)).symm; have g0 := hf8.cell 0; have g3 := hf8.cell 3; have t4 := ht8.cell 5; have tf4 := ht8.frozen 5; simp only [List.getElem?_toArray, List.getElem?_cons_succ, List.getElem?_cons_zero] at g0 g3 t4; clear ho9 hg9 hk9 ht8 hf8
        clear hHeld
        refine hK.out _ _ ?_ (fun hHeld => ?_)
        · exact ⟨g0, g3⟩
        clear hK K
        (try simp only [Act.put, List.setIfInBounds_toArray, List.set_cons_zero, List.set_cons_succ])
        refine wpAnyH_take (i := 13) (oi := { dst := some 152, op := Op.fieldAddr 36 (Operand.tmp 6) 5, type := 0, pos := "check.go:336", after := #[{ on := 0, ground := Ground.phase }, { on := 1, ground := Ground.phase }, { on := 2, ground := Ground.phase }, { on := 3, ground := Ground.phase }, { on := 4, ground := Ground.phase }, { on := 5, ground := Ground.phase }, { on := 6, ground := Ground.phase }, { on := 7, ground := Ground.phase }, { on := 8, ground := Ground.phase }, { on := 9, ground := Ground.phase }, { on := 10, ground := Ground.phase }, { on := 11, ground := Ground.phase }, { on := 12, ground := Ground.phase }], guard := none }) (v := ?vbha13) rfl (by kernel_rfl) (by kernel_rfl) (by kernel_rfl) (fun _ _ _ h => h) (Or.inl ⟨by rfl, ?ybha13⟩) (by assumption) ?rbha13
        case ybha13 => (intro w hSw; (try dsimp only at hSw); go_simp <;> with_reducible rfl)
        (try simp only [Act.put, List.setIfInBounds_toArray, List.set_cons_zero, List.set_cons_succ])
        refine wpAnyH_ready (rs := [14]) (by kernel_rfl) (by simp) ?_
        refine AllReadyH.cons (o := { dst := none, op := Op.store 34 (Operand.tmp 152) (Operand.tmp 151), type := 0, pos := "check.go:336", after := #[{ on := 13, ground := Ground.data }, { on := 12, ground := Ground.data }, { on := 12, ground := Ground.chain }, { on := 0, ground := Ground.phase }, { on := 1, ground := Ground.phase }, { on := 2, ground := Ground.phase }, { on := 3, ground := Ground.phase }, { on := 4, ground := Ground.phase }, { on := 5, ground := Ground.phase }, { on := 6, ground := Ground.phase }, { on := 7, ground := Ground.phase }, { on := 8, ground := Ground.phase }, { on := 9, ground := Ground.phase }, { on := 10, ground := Ground.phase }, { on := 11, ground := Ground.phase }, { on := 12, ground := Ground.phase }], guard := none }) rfl (fun K hK => ?_) AllReadyH.nil
        skip
        go_simp
        clear hHeld
        refine hK.out _ _ ?_ (fun hHeld => ?_)
        · exact ⟨(World.cell?_setCell_far _ _ _ _ hgn).trans g0, (World.cell?_setCell_far _ _ _ _ hgn).trans g3⟩
        clear hK K
        (try simp only [Act.put, List.setIfInBounds_toArray, List.set_cons_zero, List.set_cons_succ])
        refine wpAnyH_done (by kernel_rfl) ?_ _
        have HJn := Lib.hid (HJ4.out.pushM HTT.out HRR.out fun k hk => (HKK.out k hk).imp id fun h => by simp at h; omega)
        clear hHeld g0 g3 t4 tf4 hgn
        generalize (w7.setCell ⟨gt, 5, none⟩ (.slice a8 (j + 1) c8)) = wn at *
        go_wp2_with fail
        go_roundw
        case rel =>
          refine ⟨j + 1, a8, c8, by omega, by go_num, ?_⟩
          have h := HJn.out
          rw [show xM j ++ [.int .i64 m.access, .string sn, .string sd, .bool m.has, .int .i64 0] = xM (j + 1) by rw [HXM.out]; dsimp only; rw [List.take_add_one, HX.out, List.map_append, List.flatMap_append, Hsn.out, Hsd.out]; rfl] at h
          exact h
        case measure => simp [intOf]; omega
      · skip
        go_simp
        go_wp2_with ((go_at_call 36; refine (str_Clone _ _ (by first | exact HNS.out | exact HDS.out)).mono ?_; rintro e w8 ⟨rfl, hk9⟩; have HJ4 := Lib.hid (HJ4.out.keep hk9); have HF4 := Lib.hid (HF4.out.kept hk9); have g0 := HF4.out.cell 0; have g3 := HF4.out.cell 3; have t4 := HJ4.out.typ.cell 5; have tf4 := HJ4.out.typ.frozen 5; have hgl := HJ4.out.typ.lt; have hgx := Nat.ne_of_lt HJ4.out.typ.lt; simp only [List.getElem?_toArray, List.getElem?_cons_succ, List.getElem?_cons_zero] at g0 g3 t4; clear hk9))
        clear hHeld
        refine hK.out _ _ ?_ (fun hHeld => ?_)
        · exact ⟨g0, g3⟩
        clear hK K
        (try simp only [Act.put, List.setIfInBounds_toArray, List.set_cons_zero, List.set_cons_succ])
        refine wpAnyH_take (i := 10) (oi := { dst := some 149, op := Op.build 63 #[(0, Operand.tmp 142), (1, Operand.tmp 144), (2, Operand.tmp 146), (3, Operand.tmp 148)], type := 63, pos := "check.go:336", after := #[{ on := 3, ground := Ground.data }, { on := 5, ground := Ground.data }, { on := 7, ground := Ground.data }, { on := 9, ground := Ground.data }], guard := none }) (v := ?vbhf10) rfl (by kernel_rfl) (by kernel_rfl) (by kernel_rfl) (fun _ _ _ h => h) (Or.inl ⟨by rfl, ?ybhf10⟩) (by assumption) ?rbhf10
        case ybhf10 => (intro w hSw; (try dsimp only at hSw); go_simp <;> with_reducible rfl)
        (try simp only [Act.put, List.setIfInBounds_toArray, List.set_cons_zero, List.set_cons_succ])
        refine wpAnyH_ready (rs := [1, 11]) (by kernel_rfl) (by simp) ?_
        refine AllReadyH.cons (o := { dst := some 140, op := Op.load 34 (Operand.tmp 139), type := 34, pos := "check.go:336", after := #[{ on := 0, ground := Ground.data }], guard := none }) rfl (fun K hK => ?_) (AllReadyH.cons (o := { dst := some 150, op := Op.buildSlice 34 1 #[(0, Operand.tmp 149)], type := 34, pos := "check.go:336", after := #[{ on := 10, ground := Ground.data }], guard := none }) rfl (fun K hK => ?_) AllReadyH.nil)
        · skip
          go_simp
          clear hHeld
          refine hK.out _ _ ?_ (fun hHeld => ?_)
          · (first | exact ⟨g0, g3⟩ | exact ⟨Kept.cell ((Below.refl _ _).alloc (Nat.le_refl _) _) g0, Kept.cell ((Below.refl _ _).alloc (Nat.le_refl _) _) g3⟩)
          clear hK K
          (try simp only [Act.put, List.setIfInBounds_toArray, List.set_cons_zero, List.set_cons_succ])
          refine wpAnyH_ready (rs := [11]) (by kernel_rfl) (by simp) ?_
          refine AllReadyH.cons (o := { dst := some 150, op := Op.buildSlice 34 1 #[(0, Operand.tmp 149)], type := 34, pos := "check.go:336", after := #[{ on := 10, ground := Ground.data }], guard := none }) rfl (fun K hK => ?_) AllReadyH.nil
          skip
          go_simp
          clear hHeld
          refine hK.out _ _ ?_ (fun hHeld => ?_)
          · exact ⟨Kept.cell ((Below.refl _ _).alloc (Nat.le_refl _) _) g0, Kept.cell ((Below.refl _ _).alloc (Nat.le_refl _) _) g3⟩
          clear hK K
          (try simp only [Act.put, List.setIfInBounds_toArray, List.set_cons_zero, List.set_cons_succ])
          refine wpAnyH_ready (rs := [12]) (by kernel_rfl) (by simp) ?_
          refine AllReadyH.cons (o := { dst := some 151, op := Op.call { callee := Callee.builtin Builtin.append, args := #[Operand.tmp 140, Operand.tmp 150], argTypes := #[34, 34] }, type := 34, pos := "check.go:336", after := #[{ on := 1, ground := Ground.data }, { on := 11, ground := Ground.data }, { on := 7, ground := Ground.chain }], guard := none }) rfl (fun K hK => ?_) AllReadyH.nil
          skip
          refine step_appR _ elem_memb rfl (.tmp 140) (.tmp 150) rfl w.heap.size (.slice aZ j cZ) j (xM j) rfl (HJ4.out.rM.alloc _) _ 1 [.int .i64 m.access, .string sn, .string sd, .bool m.has, .int .i64 0] rfl (Rd.one _ [.int .i64 m.access, .string sn, .string sd, .bool m.has, .int .i64 0] 63 rfl) (by intro u hu; simp only [List.mem_cons, List.not_mem_nil, or_false] at hu; rcases hu with rfl | rfl | rfl | rfl | rfl <;> rfl) (by omega) (by omega) (by have := HJ4.out.kept.size; simp; omega) _ rfl ?_; intro a8 c8 w7 ho9 hg9 hk9; have HTT := Lib.hid (((Touch.refl (fun b => (Value.slice aZ j cZ).ownBlock = some b) _).alloc _).trans (Touch.of_grown hg9 fun k hk => hk) fun _ hb => .inl hb); have HRR := Lib.hid ho9; have HKK := Lib.hid hk9; have ht8 := HJ4.out.typ.touch HTT.out (fun e => own_ne HJ4.out.rM HJ4.out.typ (by decide) _ e rfl); have hf8 := HF4.out.touch HTT.out (fun e => own_ne HJ4.out.rM HF4.out (by decide) _ e rfl); have hgn : gt ≠ gm := (Blk.ne_ hf8 ht8 (by decide)).symm; have g0 := hf8.cell 0; have g3 := hf8.cell 3; have t4 := ht8.cell 5; have tf4 := ht8.frozen 5; simp only [List.getElem?_toArray, List.getElem?_cons_succ, List.getElem?_cons_zero] at g0 g3 t4; clear ho9 hg9 hk9 ht8 hf8
          clear hHeld
          refine hK.out _ _ ?_ (fun hHeld => ?_)
          · exact ⟨g0, g3⟩
          clear hK K
          (try simp only [Act.put, List.setIfInBounds_toArray, List.set_cons_zero, List.set_cons_succ])
          refine wpAnyH_take (i := 13) (oi := { dst := some 152, op := Op.fieldAddr 36 (Operand.tmp 6) 5, type := 0, pos := "check.go:336", after := #[{ on := 0, ground := Ground.phase }, { on := 1, ground := Ground.phase }, { on := 2, ground := Ground.phase }, { on := 3, ground := Ground.phase }, { on := 4, ground := Ground.phase }, { on := 5, ground := Ground.phase }, { on := 6, ground := Ground.phase }, { on := 7, ground := Ground.phase }, { on := 8, ground := Ground.phase }, { on := 9, ground := Ground.phase }, { on := 10, ground := Ground.phase }, { on := 11, ground := Ground.phase }, { on := 12, ground := Ground.phase }], guard := none }) (v := ?vbhfg13) rfl (by kernel_rfl) (by kernel_rfl) (by kernel_rfl) (fun _ _ _ h => h) (Or.inl ⟨by rfl, ?ybhfg13⟩) (by assumption) ?rbhfg13
          case ybhfg13 => (intro w hSw; (try dsimp only at hSw); go_simp <;> with_reducible rfl)
          (try simp only [Act.put, List.setIfInBounds_toArray, List.set_cons_zero, List.set_cons_succ])
          refine wpAnyH_ready (rs := [14]) (by kernel_rfl) (by simp) ?_
          refine AllReadyH.cons (o := { dst := none, op := Op.store 34 (Operand.tmp 152) (Operand.tmp 151), type := 0, pos := "check.go:336", after := #[{ on := 13, ground := Ground.data }, { on := 12, ground := Ground.data }, { on := 12, ground := Ground.chain }, { on := 0, ground := Ground.phase }, { on := 1, ground := Ground.phase }, { on := 2, ground := Ground.phase }, { on := 3, ground := Ground.phase }, { on := 4, ground := Ground.phase }, { on := 5, ground := Ground.phase }, { on := 6, ground := Ground.phase }, { on := 7, ground := Ground.phase }, { on := 8, ground := Ground.phase }, { on := 9, ground := Ground.phase }, { on := 10, ground := Ground.phase }, { on := 11, ground := Ground.phase }, { on := 12, ground := Ground.phase }], guard := none }) rfl (fun K hK => ?_) AllReadyH.nil
          skip
          go_simp
          clear hHeld
          refine hK.out _ _ ?_ (fun hHeld => ?_)
          · exact ⟨(World.cell?_setCell_far _ _ _ _ hgn).trans g0, (World.cell?_setCell_far _ _ _ _ hgn).trans g3⟩
          clear hK K
          (try simp only [Act.put, List.setIfInBounds_toArray, List.set_cons_zero, List.set_cons_succ])
          refine wpAnyH_done (by kernel_rfl) ?_ _
          have HJn := Lib.hid (HJ4.out.pushM HTT.out HRR.out fun k hk => (HKK.out k hk).imp id fun h => by simp at h; omega)
          clear hHeld g0 g3 t4 tf4 hgn
          generalize (w7.setCell ⟨gt, 5, none⟩ (.slice a8 (j + 1) c8)) = wn at *
          go_wp2_with fail
          go_roundw
          case rel =>
            refine ⟨j + 1, a8, c8, by omega, by go_num, ?_⟩
            have h := HJn.out
            rw [show xM j ++ [.int .i64 m.access, .string sn, .string sd, .bool m.has, .int .i64 0] = xM (j + 1) by rw [HXM.out]; dsimp only; rw [List.take_add_one, HX.out, List.map_append, List.flatMap_append, Hsn.out, Hsd.out]; rfl] at h
            exact h
          case measure => simp [intOf]; omega
        · skip
          go_simp
          clear hHeld
          refine hK.out _ _ ?_ (fun hHeld => ?_)
          · exact ⟨Kept.cell ((Below.refl _ _).alloc (Nat.le_refl _) _) g0, Kept.cell ((Below.refl _ _).alloc (Nat.le_refl _) _) g3⟩
          clear hK K
          (try simp only [Act.put, List.setIfInBounds_toArray, List.set_cons_zero, List.set_cons_succ])
          refine wpAnyH_ready (rs := [1]) (by kernel_rfl) (by simp) ?_
          refine AllReadyH.cons (o := { dst := some 140, op := Op.load 34 (Operand.tmp 139), type := 34, pos := "check.go:336", after := #[{ on := 0, ground := Ground.data }], guard := none }) rfl (fun K hK => ?_) AllReadyH.nil
          skip
          go_simp
          clear hHeld
          refine hK.out _ _ ?_ (fun hHeld => ?_)
          · (first | exact ⟨g0, g3⟩ | exact ⟨Kept.cell ((Below.refl _ _).alloc (Nat.le_refl _) _) g0, Kept.cell ((Below.refl _ _).alloc (Nat.le_refl _) _) g3⟩)
          clear hK K
          (try simp only [Act.put, List.setIfInBounds_toArray, List.set_cons_zero, List.set_cons_succ])
          refine wpAnyH_ready (rs := [12]) (by kernel_rfl) (by simp) ?_
          refine AllReadyH.cons (o := { dst := some 151, op := Op.call { callee := Callee.builtin Builtin.append, args := #[Operand.tmp 140, Operand.tmp 150], argTypes := #[34, 34] }, type := 34, pos := "check.go:336", after := #[{ on := 1, ground := Ground.data }, { on := 11, ground := Ground.data }, { on := 7, ground := Ground.chain }], guard := none }) rfl (fun K hK => ?_) AllReadyH.nil
          skip
          refine step_appR _ elem_memb rfl (.tmp 140) (.tmp 150) rfl w.heap.size (.slice aZ j cZ) j (xM j) rfl (HJ4.out.rM.alloc _) _ 1 [.int .i64 m.access, .string sn, .string sd, .bool m.has, .int .i64 0] rfl (Rd.one _ [.int .i64 m.access, .string sn, .string sd, .bool m.has, .int .i64 0] 63 rfl) (by intro u hu; simp only [List.mem_cons, List.not_mem_nil, or_false] at hu; rcases hu with rfl | rfl | rfl | rfl | rfl <;> rfl) (by omega) (by omega) (by have := HJ4.out.kept.size; simp; omega) _ rfl ?_; intro a8 c8 w7 ho9 hg9 hk9; have HTT := Lib.hid (((Touch.refl (fun b => (Value.slice aZ j cZ).ownBlock = some b) _).alloc _).trans (Touch.of_grown hg9 fun k hk => hk) fun _ hb => .inl hb); have HRR := Lib.hid ho9; have HKK := Lib.hid hk9; have ht8 := HJ4.out.typ.touch HTT.out (fun e => own_ne HJ4.out.rM HJ4.out.typ (by decide) _ e rfl); have hf8 := HF4.out.touch HTT.out (fun e => own_ne HJ4.out.rM HF4.out (by decide) _ e rfl); have hgn : gt ≠ gm := (Blk.ne_ hf8 ht8 (by decide)).symm; have g0 := hf8.cell 0; have g3 := hf8.cell 3; have t4 := ht8.cell 5; have tf4 := ht8.frozen 5; simp only [List.getElem?_toArray, List.getElem?_cons_succ, List.getElem?_cons_zero] at g0 g3 t4; clear ho9 hg9 hk9 ht8 hf8
          clear hHeld
          refine hK.out _ _ ?_ (fun hHeld => ?_)
          · exact ⟨g0, g3⟩
          clear hK K
          (try simp only [Act.put, List.setIfInBounds_toArray, List.set_cons_zero, List.set_cons_succ])
          refine wpAnyH_take (i := 13) (oi := { dst := some 152, op := Op.fieldAddr 36 (Operand.tmp 6) 5, type := 0, pos := "check.go:336", after := #[{ on := 0, ground := Ground.phase }, { on := 1, ground := Ground.phase }, { on := 2, ground := Ground.phase }, { on := 3, ground := Ground.phase }, { on := 4, ground := Ground.phase }, { on := 5, ground := Ground.phase }, { on := 6, ground := Ground.phase }, { on := 7, ground := Ground.phase }, { on := 8, ground := Ground.phase }, { on := 9, ground := Ground.phase }, { on := 10, ground := Ground.phase }, { on := 11, ground := Ground.phase }, { on := 12, ground := Ground.phase }], guard := none }) (v := ?vbhfc13) rfl (by kernel_rfl) (by kernel_rfl) (by kernel_rfl) (fun _ _ _ h => h) (Or.inl ⟨by rfl, ?ybhfc13⟩) (by assumption) ?rbhfc13
          case ybhfc13 => (intro w hSw; (try dsimp only at hSw); go_simp <;> with_reducible rfl)
          (try simp only [Act.put, List.setIfInBounds_toArray, List.set_cons_zero, List.set_cons_succ])
          refine wpAnyH_ready (rs := [14]) (by kernel_rfl) (by simp) ?_
          refine AllReadyH.cons (o := { dst := none, op := Op.store 34 (Operand.tmp 152) (Operand.tmp 151), type := 0, pos := "check.go:336", after := #[{ on := 13, ground := Ground.data }, { on := 12, ground := Ground.data }, { on := 12, ground := Ground.chain }, { on := 0, ground := Ground.phase }, { on := 1, ground := Ground.phase }, { on := 2, ground := Ground.phase }, { on := 3, ground := Ground.phase }, { on := 4, ground := Ground.phase }, { on := 5, ground := Ground.phase }, { on := 6, ground := Ground.phase }, { on := 7, ground := Ground.phase }, { on := 8, ground := Ground.phase }, { on := 9, ground := Ground.phase }, { on := 10, ground := Ground.phase }, { on := 11, ground := Ground.phase }, { on := 12, ground := Ground.phase }], guard := none }) rfl (fun K hK => ?_) AllReadyH.nil
          skip
          go_simp
          clear hHeld
          refine hK.out _ _ ?_ (fun hHeld => ?_)
          · exact ⟨(World.cell?_setCell_far _ _ _ _ hgn).trans g0, (World.cell?_setCell_far _ _ _ _ hgn).trans g3⟩
          clear hK K
          (try simp only [Act.put, List.setIfInBounds_toArray, List.set_cons_zero, List.set_cons_succ])
          refine wpAnyH_done (by kernel_rfl) ?_ _
          have HJn := Lib.hid (HJ4.out.pushM HTT.out HRR.out fun k hk => (HKK.out k hk).imp id fun h => by simp at h; omega)
          clear hHeld g0 g3 t4 tf4 hgn
          generalize (w7.setCell ⟨gt, 5, none⟩ (.slice a8 (j + 1) c8)) = wn at *
          go_wp2_with fail
          go_roundw
          case rel =>
            refine ⟨j + 1, a8, c8, by omega, by go_num, ?_⟩
            have h := HJn.out
            rw [show xM j ++ [.int .i64 m.access, .string sn, .string sd, .bool m.has, .int .i64 0] = xM (j + 1) by rw [HXM.out]; dsimp only; rw [List.take_add_one, HX.out, List.map_append, List.flatMap_append, Hsn.out, Hsd.out]; rfl] at h
            exact h
          case measure => simp [intOf]; omega
  obtain rfl : j = nM := by omega
  have HXE2 := Lib.hid (show xF i = (outD c).fields.flatMap encMemberV by rw [HXF.out]; dsimp only; rw [List.take_of_length_le (by have := N3.out; omega)]; rfl)
  have HXE3 := Lib.hid (show xM j = (outD c).methods.flatMap encMemberV by
    rw [HXM.out]; dsimp only
    rw [List.take_of_length_le (by have := N4.out; omega)]
    show _ = (c.methods.map (memM c.pool)).flatMap encMemberV
    rw [HMS.out, List.map_map]
    rfl)
  have t0 := HJ.out.typ.cell 0
  have t1 := HJ.out.typ.cell 1
  have t2 := HJ.out.typ.cell 2
  have t3 := HJ.out.typ.cell 3
  have t4 := HJ.out.typ.cell 4
  have t5 := HJ.out.typ.cell 5
  simp only [List.getElem?_toArray, List.getElem?_cons_succ, List.getElem?_cons_zero] at t0 t1 t2 t3 t4 t5
  have HL := HHLV.out _ HJ.out.zero #[.string s1, .string s2, .int .i64 c.access, .slice aX k cX, .slice aY i cY, .slice aZ j cZ] rfl
  have HL2 := Lib.hid HL
  clear HL
  go_upto_region 29 with fail
  go_wp2_with (refine wpList_store_row rfl 36 _ _ rfl gz #[.string s1, .string s2, .int .i64 c.access, .slice aX k cX, .slice aY i cY, .slice aZ j cZ] rfl (by rfl) 36 _ HJ.out.zero (by kernel_rfl) (by rfl) (by kernel_rfl) ?_)
  have HL := HL2.out
  refine bodyPost_ret (v := .tuple #[.agg #[.string s1, .string s2, .int .i64 c.access, .slice aX k cX, .slice aY i cY, .slice aZ j cZ], .int .i64 0]) ?_ rfl ?_
  · simp [results, Try.results17, asAddr, HL]
  · have li : (outD c).interfaces.length = k := by show (c.ifaces.map _).length = k; rw [List.length_map]; exact N2.out.symm
    have lf : (outD c).fields.length = i := by show (c.fields.map _).length = i; rw [List.length_map]; exact N3.out.symm
    have lm : (outD c).methods.length = j := by show (c.methods.map _).length = j; rw [HMS.out, List.length_map, List.length_map]; exact N4.out.symm
    have ht := setRow_touch wr gz #[.string s1, .string s2, .int .i64 c.access, .slice aX k cX, .slice aY i cY, .slice aZ j cZ]
    refine ⟨.slice aX k cX, .slice aY i cY, .slice aZ j cZ, ?_, ⟨?_, ?_, ?_⟩, kept_setRow HJ.out.kept HGZ.out _⟩
    · rw [HOT.out, HCK.out, HS1.out, HS2.out]; rfl
    · rw [HOT.out, li, ← HXE.out]
      exact ht.own HJ.out.rI fun q hq e => own_ne HJ.out.rI HJ.out.zero (by decide) q hq e
    · rw [HOT.out, lf, ← HXE2.out]
      exact ht.own HJ.out.rF fun q hq e => own_ne HJ.out.rF HJ.out.zero (by decide) q hq e
    · rw [HOT.out, lm, ← HXE3.out]
      exact ht.own HJ.out.rM fun q hq e => own_ne HJ.out.rM HJ.out.zero (by decide) q hq e
end Go.Proofs.Ytcklmhbcjgiplaa
