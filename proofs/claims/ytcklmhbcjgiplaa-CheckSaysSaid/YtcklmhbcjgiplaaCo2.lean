/-
  The document's own answer: Outline.
-/
import Derived.Test.YtcklmhbcjgiplaaCo1
import Derived.Test.YtcklmhbcjgiplaaCkM
namespace Go.Proofs.Ytcklmhbcjgiplaa
set_option linter.unusedVariables false
set_option linter.unusedSimpArgs false
open Go.RowKit
set_option maxRecDepth 100000

/-- What the loops of Outline keep. -/
structure OutJ (w : World) (gz gt : Nat) (cv : Array Value) (s1 s2 : ByteArray) (ac : Int) (vI vF vM : Value) (nI nF nM : Nat) (xI xF xM : List Value) (wr : World) : Prop where
  cls : Blk wr w.heap.size 27 cv
  zero : Blk wr gz 36 #[.string ⟨#[]⟩, .string ⟨#[]⟩, .int .i64 0, .slice none 0 0, .slice none 0 0, .slice none 0 0]
  typ : Blk wr gt 36 #[.string s1, .string s2, .int .i64 ac, vI, vF, vM]
  rI : wr.ownsRow w.heap.size 9 1 vI nI xI
  rF : wr.ownsRow w.heap.size 63 5 vF nF xF
  rM : wr.ownsRow w.heap.size 63 5 vM nM xM
  far : ∀ k, vF.ownBlock = some k → ¬ vM.ownBlock = some k
  kept : Kept w wr
  gtw : w.heap.size ≤ gt
  gzt : gz ≠ gt
theorem OutJ.keep {w : World} {gz gt : Nat} {cv : Array Value} {s1 s2 : ByteArray} {ac : Int} {vI vF vM : Value} {nI nF nM : Nat} {xI xF xM : List Value} {wr wx : World} (h : OutJ w gz gt cv s1 s2 ac vI vF vM nI nF nM xI xF xM wr) (hk : Kept wr wx) : OutJ w gz gt cv s1 s2 ac vI vF vM nI nF nM xI xF xM wx :=
  ⟨h.cls.kept hk, h.zero.kept hk, h.typ.kept hk, (Touch.of_kept (S := fun _ => False) hk).own h.rI fun _ _ h => h, (Touch.of_kept (S := fun _ => False) hk).own h.rF fun _ _ h => h, (Touch.of_kept (S := fun _ => False) hk).own h.rM fun _ _ h => h, h.far, Kept.trans h.kept hk, h.gtw, h.gzt⟩
section
variable {w : World} {gz gt : Nat} {cv : Array Value} {s1 s2 : ByteArray} {ac : Int} {vI vF vM v' : Value} {nI nF nM n' : Nat} {xI xF xM x' : List Value} {wr wx : World}
/-- A row of names has grown, and is stored. -/
theorem OutJ.pushI (h : OutJ w gz gt cv s1 s2 ac vI vF vM nI nF nM xI xF xM wr) (ht : Touch (fun b => vI.ownBlock = some b) wr wx) (ho : wx.ownsRow w.heap.size 9 1 v' n' x') :
    OutJ w gz gt cv s1 s2 ac v' vF vM n' nF nM x' xF xM (wx.setCell ⟨gt, 3, none⟩ v') := by
  have t1 := h.typ.touch ht (fun e => own_ne h.rI h.typ (by decide) _ e rfl)
  have b1 := h.cls.touch ht (fun e => own_ne h.rI h.cls (by decide) _ e rfl)
  have b2 := h.zero.touch ht (fun e => own_ne h.rI h.zero (by decide) _ e rfl)
  refine ⟨b1.far (p := ⟨gt, 3, none⟩) (Blk.ne_ b1 t1 (by decide)) _, b2.far (p := ⟨gt, 3, none⟩) h.gzt _, t1.set_ 3 _, own_awayO ho t1 (by decide) 3 _, own_awayO (ht.own h.rF (own_ownO h.rF h.rI (by decide))) t1 (by decide) 3 _, own_awayO (ht.own h.rM (own_ownO h.rM h.rI (by decide))) t1 (by decide) 3 _, h.far, ?_, h.gtw, h.gzt⟩
  exact (Below.trans h.kept (ht.below (fun b hb => (h.rI.lt b hb).1) h.kept.size)).setCell (p := ⟨gt, 3, none⟩) h.gtw _
theorem OutJ.pushF (h : OutJ w gz gt cv s1 s2 ac vI vF vM nI nF nM xI xF xM wr) (hm : vM = .slice none 0 0) (ht : Touch (fun b => vF.ownBlock = some b) wr wx) (ho : wx.ownsRow w.heap.size 63 5 v' n' x') :
    OutJ w gz gt cv s1 s2 ac vI v' vM nI n' nM xI x' xM (wx.setCell ⟨gt, 4, none⟩ v') := by
  have t1 := h.typ.touch ht (fun e => own_ne h.rF h.typ (by decide) _ e rfl)
  have b1 := h.cls.touch ht (fun e => own_ne h.rF h.cls (by decide) _ e rfl)
  have b2 := h.zero.touch ht (fun e => own_ne h.rF h.zero (by decide) _ e rfl)
  refine ⟨b1.far (p := ⟨gt, 4, none⟩) (Blk.ne_ b1 t1 (by decide)) _, b2.far (p := ⟨gt, 4, none⟩) h.gzt _, t1.set_ 4 _, own_awayO (ht.own h.rI (own_ownO h.rI h.rF (by decide))) t1 (by decide) 4 _, own_awayO ho t1 (by decide) 4 _, own_awayO (ht.own h.rM (fun k hk => by rw [hm] at hk; cases hk)) t1 (by decide) 4 _, (fun k _ hk => by rw [hm] at hk; cases hk), ?_, h.gtw, h.gzt⟩
  exact (Below.trans h.kept (ht.below (fun b hb => (h.rF.lt b hb).1) h.kept.size)).setCell (p := ⟨gt, 4, none⟩) h.gtw _
theorem OutJ.pushM (h : OutJ w gz gt cv s1 s2 ac vI vF vM nI nF nM xI xF xM wr) (ht : Touch (fun b => vM.ownBlock = some b) wr wx) (ho : wx.ownsRow w.heap.size 63 5 v' n' x') (hv : ∀ k, v'.ownBlock = some k → vM.ownBlock = some k ∨ wr.heap.size ≤ k) :
    OutJ w gz gt cv s1 s2 ac vI vF v' nI nF n' xI xF x' (wx.setCell ⟨gt, 5, none⟩ v') := by
  have t1 := h.typ.touch ht (fun e => own_ne h.rM h.typ (by decide) _ e rfl)
  have b1 := h.cls.touch ht (fun e => own_ne h.rM h.cls (by decide) _ e rfl)
  have b2 := h.zero.touch ht (fun e => own_ne h.rM h.zero (by decide) _ e rfl)
  refine ⟨b1.far (p := ⟨gt, 5, none⟩) (Blk.ne_ b1 t1 (by decide)) _, b2.far (p := ⟨gt, 5, none⟩) h.gzt _, t1.set_ 5 _, own_awayO (ht.own h.rI (own_ownO h.rI h.rM (by decide))) t1 (by decide) 5 _, own_awayO (ht.own h.rF (fun k hk => h.far k hk)) t1 (by decide) 5 _, own_awayO ho t1 (by decide) 5 _, ?_, ?_, h.gtw, h.gzt⟩
  · intro k hk hk'
    rcases hv k hk' with h1 | h1
    · exact h.far k hk h1
    · have := (h.rF.lt k hk).2
      omega
  · exact (Below.trans h.kept (ht.below (fun b hb => (h.rM.lt b hb).1) h.kept.size)).setCell (p := ⟨gt, 5, none⟩) h.gtw _
end
/-- A block that is none of those. -/
structure FarJ (w : World) (gz gt gq : Nat) (vI vF vM : Value) : Prop where
  a : w.heap.size ≠ gq
  b : gz ≠ gq
  c : gt ≠ gq
  d : w.heap.size ≤ gq
  i : ∀ k, vI.ownBlock = some k → k ≠ gq
  f : ∀ k, vF.ownBlock = some k → k ≠ gq
  m : ∀ k, vM.ownBlock = some k → k ≠ gq
theorem OutJ.fresh {w : World} {gz gt : Nat} {cv : Array Value} {s1 s2 : ByteArray} {ac : Int} {vI vF vM : Value} {nI nF nM : Nat} {xI xF xM : List Value} {wr : World} (h : OutJ w gz gt cv s1 s2 ac vI vF vM nI nF nM xI xF xM wr) : FarJ w gz gt wr.heap.size vI vF vM :=
  ⟨Nat.ne_of_lt h.cls.lt, Nat.ne_of_lt h.zero.lt, Nat.ne_of_lt h.typ.lt, h.kept.size, fun k hk => Nat.ne_of_lt (h.rI.lt k hk).2, fun k hk => Nat.ne_of_lt (h.rF.lt k hk).2, fun k hk => Nat.ne_of_lt (h.rM.lt k hk).2⟩
theorem OutJ.put {w : World} {gz gt gq : Nat} {cv : Array Value} {s1 s2 : ByteArray} {ac : Int} {vI vF vM : Value} {nI nF nM : Nat} {xI xF xM : List Value} {wr : World} (h : OutJ w gz gt cv s1 s2 ac vI vF vM nI nF nM xI xF xM wr) (hf : FarJ w gz gt gq vI vF vM) (j : Nat) (u : Value) : OutJ w gz gt cv s1 s2 ac vI vF vM nI nF nM xI xF xM (wr.setCell ⟨gq, j, none⟩ u) := by
  have ht : Touch (fun b => b = gq) wr (wr.setCell ⟨gq, j, none⟩ u) := (Touch.refl (fun b => b = gq) wr).setCell (p := ⟨gq, j, none⟩) (.inl rfl) u
  exact ⟨h.cls.far (p := ⟨gq, j, none⟩) hf.a u, h.zero.far (p := ⟨gq, j, none⟩) hf.b u, h.typ.far (p := ⟨gq, j, none⟩) hf.c u, ht.own h.rI hf.i, ht.own h.rF hf.f, ht.own h.rM hf.m, h.far, h.kept.setCell (p := ⟨gq, j, none⟩) hf.d u, h.gtw, h.gzt⟩
theorem outJ_first {w : World} {gz gt : Nat} {cv : Array Value} {s1 s2 : ByteArray} {ac : Int} {wr : World} (c : Blk wr w.heap.size 27 cv) (z : Blk wr gz 36 #[.string ⟨#[]⟩, .string ⟨#[]⟩, .int .i64 0, .slice none 0 0, .slice none 0 0, .slice none 0 0])
    (t : Blk wr gt 36 #[.string s1, .string s2, .int .i64 ac, .slice none 0 0, .slice none 0 0, .slice none 0 0]) (k : Kept w wr) (h1 : w.heap.size ≤ gt) (h2 : gz ≠ gt) : OutJ w gz gt cv s1 s2 ac (.slice none 0 0) (.slice none 0 0) (.slice none 0 0) 0 0 0 [] [] [] wr :=
  ⟨c, z, t, own_nil_ _ _ _ _, own_nil_ _ _ _ _, own_nil_ _ _ _ _, (fun _ hk => by cases hk), k, h1, h2⟩
set_option maxHeartbeats 16000000 in
theorem ref5_Outline (c : ClassC) (mv : List (MethC × Value × Value)) (vP vI vF vM : Value) (w : World) (h : CRd w c mv vP vI vF vM) (hs : ∀ k ∈ c.pool, k.text.size ≤ maxLen) :
    Calls Try.prog 20 #[.agg (classV c vP vI vF vM).toArray] w (OutG c w) := by
  have HC := Lib.hid h
  have HTX := Lib.hid hs
  clear hs
  obtain ⟨aP, kP, aI, kI, aF, kF, aM, kM, rfl, rfl, rfl, rfl⟩ := h.forms
  obtain ⟨nP, hnP⟩ : ∃ n, n = c.pool.length := ⟨_, rfl⟩
  obtain ⟨nI, hnI⟩ : ∃ n, n = c.ifaces.length := ⟨_, rfl⟩
  obtain ⟨nF, hnF⟩ : ∃ n, n = c.fields.length := ⟨_, rfl⟩
  obtain ⟨nM, hnM⟩ : ∃ n, n = mv.length := ⟨_, rfl⟩
  change Calls Try.prog 20 #[.agg #[.int .i64 c.minor, .int .i64 c.major, .slice aP c.pool.length kP, .int .i64 c.access, .int .i64 c.this, .int .i64 c.super, .slice aI c.ifaces.length kI, .slice aF c.fields.length kF, .slice aM mv.length kM]] w _
  have HMS := Lib.hid h.ms
  rw [← hnP, ← hnI, ← hnF, ← hnM] at h ⊢
  have r1 := h.p
  have r2 := h.i
  have r3 := h.f
  have r4 := h.m
  rw [← hnP] at r1
  rw [← hnI] at r2
  rw [← hnF] at r3
  rw [← hnM] at r4
  have m1 : nP ≤ 9223372036854775807 := by obtain ⟨_, _, _, e, q1, q2, _⟩ := r1; cases e; omega
  have m2 : nI ≤ 9223372036854775807 := by obtain ⟨_, _, _, e, q1, q2, _⟩ := r2; cases e; omega
  have m3 : nF ≤ 9223372036854775807 := by obtain ⟨_, _, _, e, q1, q2, _⟩ := r3; cases e; omega
  have m4 : nM ≤ 9223372036854775807 := by obtain ⟨_, _, _, e, q1, q2, _⟩ := r4; cases e; omega
  have N1 := Lib.hid hnP
  have N2 := Lib.hid hnI
  have N3 := Lib.hid hnF
  have N4 := Lib.hid hnM
  clear hnP hnI hnF hnM
  have hk : Kept w (w.alloc (.cells #[.int .i64 c.minor, .int .i64 c.major, .slice aP nP kP, .int .i64 c.access, .int .i64 c.this, .int .i64 c.super, .slice aI nI kI, .slice aF nF kF, .slice aM nM kM] 27)) := (Below.refl _ _).alloc (Nat.le_refl _) _
  have HK := Lib.hid hk
  have HPP := Lib.hid (r1.kept hk)
  have HII := Lib.hid (r2.kept hk)
  have HFF := Lib.hid (r3.kept hk)
  have HMM := Lib.hid (r4.kept hk)
  have HRR := Lib.hid (fun x hx => (h.r x hx).kept hk)
  clear r1 r2 r3 r4
  have HB := Lib.hid (Blk.new w 27 #[.int .i64 c.minor, .int .i64 c.major, .slice aP nP kP, .int .i64 c.access, .int .i64 c.this, .int .i64 c.super, .slice aI nI kI, .slice aF nF kF, .slice aM nM kM])
  have HH := Lib.hid (show w.heap.size < (w.alloc (.cells #[.int .i64 c.minor, .int .i64 c.major, .slice aP nP kP, .int .i64 c.access, .int .i64 c.this, .int .i64 c.super, .slice aI nI kI, .slice aF nF kF, .slice aM nM kM] 27)).heap.size by simp)
  clear hk h
  have hk : Kept w ((w.alloc (.cells #[.int .i64 c.minor, .int .i64 c.major, .slice aP nP kP, .int .i64 c.access, .int .i64 c.this, .int .i64 c.super, .slice aI nI kI, .slice aF nF kF, .slice aM nM kM] 27)).alloc (.cells #[.string ⟨#[]⟩, .string ⟨#[]⟩, .int .i64 0, .slice none 0 0, .slice none 0 0, .slice none 0 0] 36)) := HK.out.alloc (by simp) _
  have HKZ := Lib.hid hk
  have HBZ := Lib.hid (HB.out.alloc (.cells #[.string ⟨#[]⟩, .string ⟨#[]⟩, .int .i64 0, .slice none 0 0, .slice none 0 0, .slice none 0 0] 36))
  have HZ : Hid (Blk ((w.alloc (.cells #[.int .i64 c.minor, .int .i64 c.major, .slice aP nP kP, .int .i64 c.access, .int .i64 c.this, .int .i64 c.super, .slice aI nI kI, .slice aF nF kF, .slice aM nM kM] 27)).alloc (.cells #[.string ⟨#[]⟩, .string ⟨#[]⟩, .int .i64 0, .slice none 0 0, .slice none 0 0, .slice none 0 0] 36)) (w.heap.size + 1) 36 #[.string ⟨#[]⟩, .string ⟨#[]⟩, .int .i64 0, .slice none 0 0, .slice none 0 0, .slice none 0 0]) := Lib.hid (heap_new_at' _ _ (by simp))
  have HPL := Lib.hid (show Rd w 5 (.slice aP nP kP) c.pool.length (c.pool.flatMap encC) by have := HC.out.p; rw [← N1.out] at this ⊢; exact this)
  clear HK HB HPP HII HFF HMM HRR HH hk
  obtain ⟨gz, hgz⟩ : ∃ g, g = w.heap.size + 1 := ⟨_, rfl⟩
  have HGZ := Lib.hid (show w.heap.size ≤ gz by omega)
  go_enter Try.func20, Try.ntmps20
  go_upto_region 1 with fail
  rw [← hgz] at HZ ⊢
  generalize ((w.alloc (.cells #[.int .i64 c.minor, .int .i64 c.major, .slice aP nP kP, .int .i64 c.access, .int .i64 c.this, .int .i64 c.super, .slice aI nI kI, .slice aF nF kF, .slice aM nM kM] 27)).alloc (.cells #[.string ⟨#[]⟩, .string ⟨#[]⟩, .int .i64 0, .slice none 0 0, .slice none 0 0, .slice none 0 0] 36)) = W at *
  clear hgz
  have HLV : ∀ (V : World) (h : Blk V gz 36 #[.string ⟨#[]⟩, .string ⟨#[]⟩, .int .i64 0, .slice none 0 0, .slice none 0 0, .slice none 0 0]) (cs : Array Value), cs.size = 6 → (loadVar 36 ⟨gz, 0, none⟩).run Try.prog (V.setRow gz cs) = .ok (.agg cs) (V.setRow gz cs) := fun V h cs hcs => run_loadVar_row (P := Try.prog) _ gz 36 36 cs (0, 0) _ (setRow_heap _ _ _ _ _ _ h) Try.underlying36 rfl (by rw [hcs]; kernel_rfl)
  have HHLV := Lib.hid HLV
  clear HLV
  have c0 := HBZ.out.cell 0
  have c1 := HBZ.out.cell 1
  have c2 := HBZ.out.cell 2
  have c3 := HBZ.out.cell 3
  have c4 := HBZ.out.cell 4
  have c5 := HBZ.out.cell 5
  have c6 := HBZ.out.cell 6
  have c7 := HBZ.out.cell 7
  have c8 := HBZ.out.cell 8
  simp only [List.getElem?_toArray, List.getElem?_cons_succ, List.getElem?_cons_zero] at c0 c1 c2 c3 c4 c5 c6 c7 c8
  have C := ref5_Check c mv _ _ _ _ W (HC.out.kept HKZ.out) HTX.out
  rw [← N1.out, ← N2.out, ← N3.out, ← N4.out] at C
  unfold IntG at C
  obtain ⟨R, hR⟩ : ∃ r, r = checkE c := ⟨_, rfl⟩
  rw [← hR] at C
  have HR := Lib.hid hR
  clear hR
  go_wp2_with fail
  refine C.mono ?_
  rintro e w1 ⟨rfl, hk1⟩
  have K1 := Lib.hid (Kept.trans HKZ.out hk1)
  have HB1 := Lib.hid (HBZ.out.kept hk1)
  have HZ1 := Lib.hid (HZ.out.kept hk1)
  clear hk1 C c0 c1 c2 c3 c4 c5 c6 c7 c8 HBZ HZ HKZ
  by_cases hE : R = 0
  rotate_left
  · have hne : (R != 0) = true := by simpa using hE
    have HOT := Lib.hid (outT_bad (c := c) (by rw [← HR.out]; exact hE))
    clear hE
    go_upto_region 3 with fail
    go_wp2_with (refine wpList_store_row rfl 36 _ _ rfl gz #[.string ⟨#[]⟩, .string ⟨#[]⟩, .int .i64 0, .slice none 0 0, .slice none 0 0, .slice none 0 0] rfl (by rfl) 36 _ HZ1.out (by kernel_rfl) (by rfl) (by kernel_rfl) ?_)
    have HL := HHLV.out _ HZ1.out #[.string ⟨#[]⟩, .string ⟨#[]⟩, .int .i64 0, .slice none 0 0, .slice none 0 0, .slice none 0 0] rfl
    refine bodyPost_ret (v := .tuple #[.agg #[.string ⟨#[]⟩, .string ⟨#[]⟩, .int .i64 0, .slice none 0 0, .slice none 0 0, .slice none 0 0], .int .i64 R]) ?_ rfl ?_
    · simp [results, Try.results20, asAddr, HL]
    · refine ⟨.slice none 0 0, .slice none 0 0, .slice none 0 0, ?_, ?_, kept_setRow K1.out HGZ.out _⟩
      · rw [HOT.out, ← HR.out]; rfl
      · rw [HOT.out]; exact TyOwn.zero _ _
  subst hE
  have HCK := Lib.hid HR.out.symm
  have HOT := Lib.hid (outT_good HCK.out)
  have d0 := HB1.out.cell 0
  have d1 := HB1.out.cell 1
  have d2 := HB1.out.cell 2
  have d3 := HB1.out.cell 3
  have d4 := HB1.out.cell 4
  have d5 := HB1.out.cell 5
  have d6 := HB1.out.cell 6
  have d7 := HB1.out.cell 7
  have d8 := HB1.out.cell 8
  simp only [List.getElem?_toArray, List.getElem?_cons_succ, List.getElem?_cons_zero] at d0 d1 d2 d3 d4 d5 d6 d7 d8
  go_upto_region 5 with fail
  have hk3 : Kept w1 (w1.alloc (.cells #[.string ⟨#[]⟩, .string ⟨#[]⟩, .int .i64 c.access, .slice none 0 0, .slice none 0 0, .slice none 0 0] 36)) := (Below.refl _ _).alloc (Nat.le_refl _) _
  obtain ⟨gt, hgt⟩ : ∃ g, g = w1.heap.size := ⟨_, rfl⟩
  have hlt1 := HZ1.out.lt
  have HO3 : Hid (OutJ w gz gt #[.int .i64 c.minor, .int .i64 c.major, .slice aP nP kP, .int .i64 c.access, .int .i64 c.this, .int .i64 c.super, .slice aI nI kI, .slice aF nF kF, .slice aM nM kM] ⟨#[]⟩ ⟨#[]⟩ c.access (.slice none 0 0) (.slice none 0 0) (.slice none 0 0) 0 0 0 [] [] [] (w1.alloc (.cells #[.string ⟨#[]⟩, .string ⟨#[]⟩, .int .i64 c.access, .slice none 0 0, .slice none 0 0, .slice none 0 0] 36))) := Lib.hid (outJ_first (HB1.out.kept hk3) (HZ1.out.kept hk3) (by rw [hgt]; exact Blk.new _ _ _) (Kept.trans K1.out hk3) (by rw [hgt]; exact K1.out.size) (by omega))
  rw [← hgt]
  clear hk3 hlt1 d0 d1 d2 d3 d4 d5 d6 d7 d8 HB1 HZ1
  generalize (w1.alloc (.cells #[.string ⟨#[]⟩, .string ⟨#[]⟩, .int .i64 c.access, .slice none 0 0, .slice none 0 0, .slice none 0 0] 36)) = w3 at *
  clear hgt
  have C1 := fun (V : World) (h : Kept w V) => ref5_Name c.pool c.minor c.major c.access c.this c.super (.slice aP nP kP) (.slice aI nI kI) (.slice aF nF kF) (.slice aM nM kM) c.this V (HPL.out.kept h)
  have C2 := fun (V : World) (h : Kept w V) => ref5_Name c.pool c.minor c.major c.access c.this c.super (.slice aP nP kP) (.slice aI nI kI) (.slice aF nF kF) (.slice aM nM kM) c.super V (HPL.out.kept h)
  unfold TextG at C1 C2
  obtain ⟨s1, h1⟩ : ∃ s, s = (nameC c.pool c.this).1 := ⟨_, rfl⟩
  obtain ⟨o1, h2⟩ : ∃ s, s = (nameC c.pool c.this).2 := ⟨_, rfl⟩
  obtain ⟨s2, h3⟩ : ∃ s, s = (nameC c.pool c.super).1 := ⟨_, rfl⟩
  obtain ⟨o2, h4⟩ : ∃ s, s = (nameC c.pool c.super).2 := ⟨_, rfl⟩
  rw [← h1, ← h2] at C1
  rw [← h3, ← h4] at C2
  have HC1 := Lib.hid C1
  have HC2 := Lib.hid C2
  have HS1 := Lib.hid h1
  have HS2 := Lib.hid h3
  clear C1 C2 h1 h2 h3 h4
  have j0 := HO3.out.cls.cell 0
  have j1 := HO3.out.cls.cell 1
  have j2 := HO3.out.cls.cell 2
  have j3 := HO3.out.cls.cell 3
  have j4 := HO3.out.cls.cell 4
  have j5 := HO3.out.cls.cell 5
  have j6 := HO3.out.cls.cell 6
  have j7 := HO3.out.cls.cell 7
  have j8 := HO3.out.cls.cell 8
  simp only [List.getElem?_toArray, List.getElem?_cons_succ, List.getElem?_cons_zero] at j0 j1 j2 j3 j4 j5 j6 j7 j8
  have C := HC1.out w3 HO3.out.kept
  go_wp2_with fail
  refine C.mono ?_
  rintro e w4 ⟨rfl, hk4⟩
  have HO4 := Lib.hid (HO3.out.keep hk4)
  clear hk4 C j0 j1 j2 j3 j4 j5 j6 j7 j8
  have t0 := HO4.out.typ.cell 0
  simp only [List.getElem?_toArray, List.getElem?_cons_succ, List.getElem?_cons_zero] at t0
  have tf0 := HO4.out.typ.frozen 0
  go_upto_region 6 with fail
  have HO5 : Hid (OutJ w gz gt #[.int .i64 c.minor, .int .i64 c.major, .slice aP nP kP, .int .i64 c.access, .int .i64 c.this, .int .i64 c.super, .slice aI nI kI, .slice aF nF kF, .slice aM nM kM] s1 ⟨#[]⟩ c.access (.slice none 0 0) (.slice none 0 0) (.slice none 0 0) 0 0 0 [] [] [] (w4.setCell ⟨gt, 0, none⟩ (.string s1))) := Lib.hid (outJ_first (HO4.out.cls.far (p := ⟨gt, 0, none⟩) (Blk.ne_ HO4.out.cls HO4.out.typ (by decide)) _) (HO4.out.zero.far (p := ⟨gt, 0, none⟩) HO4.out.gzt _) (HO4.out.typ.set_ 0 (.string s1)) (HO4.out.kept.setCell (p := ⟨gt, 0, none⟩) HO4.out.gtw _) HO4.out.gtw HO4.out.gzt)
  clear t0 tf0 HO3 HO4
  generalize (w4.setCell ⟨gt, 0, none⟩ (.string s1)) = w5 at *
  have j0 := HO5.out.cls.cell 0
  have j1 := HO5.out.cls.cell 1
  have j2 := HO5.out.cls.cell 2
  have j3 := HO5.out.cls.cell 3
  have j4 := HO5.out.cls.cell 4
  have j5 := HO5.out.cls.cell 5
  have j6 := HO5.out.cls.cell 6
  have j7 := HO5.out.cls.cell 7
  have j8 := HO5.out.cls.cell 8
  simp only [List.getElem?_toArray, List.getElem?_cons_succ, List.getElem?_cons_zero] at j0 j1 j2 j3 j4 j5 j6 j7 j8
  have C := HC2.out w5 HO5.out.kept
  go_wp2_with fail
  refine C.mono ?_
  rintro e w6 ⟨rfl, hk6⟩
  have HO6 := Lib.hid (HO5.out.keep hk6)
  clear hk6 C j0 j1 j2 j3 j4 j5 j6 j7 j8
  have t1 := HO6.out.typ.cell 1
  simp only [List.getElem?_toArray, List.getElem?_cons_succ, List.getElem?_cons_zero] at t1
  have tf1 := HO6.out.typ.frozen 1
  go_upto_region 7 with fail
  have HO7 : Hid (OutJ w gz gt #[.int .i64 c.minor, .int .i64 c.major, .slice aP nP kP, .int .i64 c.access, .int .i64 c.this, .int .i64 c.super, .slice aI nI kI, .slice aF nF kF, .slice aM nM kM] s1 s2 c.access (.slice none 0 0) (.slice none 0 0) (.slice none 0 0) 0 0 0 [] [] [] (w6.setCell ⟨gt, 1, none⟩ (.string s2))) := Lib.hid (outJ_first (HO6.out.cls.far (p := ⟨gt, 1, none⟩) (Blk.ne_ HO6.out.cls HO6.out.typ (by decide)) _) (HO6.out.zero.far (p := ⟨gt, 1, none⟩) HO6.out.gzt _) (HO6.out.typ.set_ 1 (.string s2)) (HO6.out.kept.setCell (p := ⟨gt, 1, none⟩) HO6.out.gtw _) HO6.out.gtw HO6.out.gzt)
  clear t1 tf1 HO5 HO6
  generalize (w6.setCell ⟨gt, 1, none⟩ (.string s2)) = w7 at *
  go_wp2_with fail
  have HN64 := Lib.hid (show nI ≤ 64 ∧ nF ≤ 64 ∧ nM ≤ 64 by
    have hm := (checkE_parts HCK.out).1
    unfold muchB at hm
    simp only [Bool.or_eq_false_iff, decide_eq_false_iff_not] at hm
    have := N2.out; have := N3.out; have := N4.out
    have hl := congrArg List.length HMS.out
    rw [List.length_map] at hl
    omega)
  obtain ⟨xI, hxI⟩ : ∃ f : Nat → List Value, f = fun k => ((c.ifaces.take k).map fun n => (nameC c.pool n).1).flatMap strV := ⟨_, rfl⟩
  have HXI := Lib.hid hxI
  clear hxI
  go_loopw [6] (fun s wr => ∃ (k : Nat) (aX : Option Addr) (cX : Nat), k ≤ nI ∧ s = .int .i64 k ∧ OutJ w gz gt #[.int .i64 c.minor, .int .i64 c.major, .slice aP nP kP, .int .i64 c.access, .int .i64 c.this, .int .i64 c.super, .slice aI nI kI, .slice aF nF kF, .slice aM nM kM] s1 s2 c.access (.slice aX k cX) (.slice none 0 0) (.slice none 0 0) k 0 0 (xI k) [] [] wr) (fun s _ => nI - (intOf s).toNat)
  case atStart => exact ⟨0, none, 0, Nat.zero_le _, rfl, by rw [HXI.out]; exact HO7.out⟩
  case round =>
  obtain ⟨k, aX, cX, hk, rfl, hi⟩ := hrel
  have HI := Lib.hid hi
  clear hi HO7
  by_cases hlt : k < nI
  · have hII : Rd wr 1 (.slice aI nI kI) nI (c.ifaces.flatMap encI) := by
      have := HC.out.i.kept HI.out.kept
      rw [← N2.out] at this
      exact this
    have HIIh := Lib.hid hII
    clear hII
    obtain ⟨x, hx⟩ : ∃ x, c.ifaces[k]? = some x := ⟨_, List.getElem?_eq_getElem (by have := N2.out; omega)⟩
    obtain ⟨b1, o1, d1, hv1, e0⟩ := iface_cells N2.out (HIIh.out.kept (Below.refl _ wr)) hx
    simp only [Value.slice.injEq] at hv1
    obtain ⟨rfl, -, rfl⟩ := hv1
    have hkI : (k : Int) < (nI : Int) := by omega
    have h0I : (0 : Int) ≤ (k : Int) := by omega
    have HX := Lib.hid hx
    clear hx
    have hk64 : k ≤ 64 := by have := HN64.out.1; omega
    have j0 := HI.out.cls.cell 0
    have j1 := HI.out.cls.cell 1
    have j2 := HI.out.cls.cell 2
    have j3 := HI.out.cls.cell 3
    have j4 := HI.out.cls.cell 4
    have j5 := HI.out.cls.cell 5
    have j6 := HI.out.cls.cell 6
    have j7 := HI.out.cls.cell 7
    have j8 := HI.out.cls.cell 8
    simp only [List.getElem?_toArray, List.getElem?_cons_succ, List.getElem?_cons_zero] at j0 j1 j2 j3 j4 j5 j6 j7 j8
    obtain ⟨sx, hsx⟩ : ∃ s, s = (nameC c.pool x).1 := ⟨_, rfl⟩
    obtain ⟨ox, hox⟩ : ∃ s, s = (nameC c.pool x).2 := ⟨_, rfl⟩
    have HSX := Lib.hid hsx
    have HOX := Lib.hid hox
    clear hsx hox
    go_upto_region 10 with fail
    go_region_held2 (fun w' => w'.cell? ⟨w.heap.size, 0, none⟩ = some (.int .i64 c.minor) ∧ w'.cell? ⟨w.heap.size, 1, none⟩ = some (.int .i64 c.major) ∧ w'.cell? ⟨w.heap.size, 2, none⟩ = some (.slice aP nP kP) ∧ w'.cell? ⟨w.heap.size, 3, none⟩ = some (.int .i64 c.access) ∧ w'.cell? ⟨w.heap.size, 4, none⟩ = some (.int .i64 c.this) ∧ w'.cell? ⟨w.heap.size, 5, none⟩ = some (.int .i64 c.super) ∧ w'.cell? ⟨w.heap.size, 6, none⟩ = some (.slice (some ⟨b1, o1, none⟩) nI kI) ∧ w'.cell? ⟨w.heap.size, 7, none⟩ = some (.slice aF nF kF) ∧ w'.cell? ⟨w.heap.size, 8, none⟩ = some (.slice aM nM kM) ∧ w'.cell? ⟨b1, o1 + k, none⟩ = some (.int .i64 x)) (go_keep) (first
      | (go_at_call 27
         have kk : Kept wr wr.drew := kept_drewN (Below.refl _ wr) 1
         refine (ref5_Name c.pool c.minor c.major c.access c.this c.super (.slice aP nP kP) (.slice (some ⟨b1, o1, none⟩) nI kI) (.slice aF nF kF) (.slice aM nM kM) x wr.drew (HPL.out.kept (Kept.trans HI.out.kept kk))).mono ?_
         rintro e w9 ⟨he, hk9⟩
         rw [← HSX.out, ← HOX.out] at he
         subst he
         have kq := Kept.trans kk hk9
         have HI9 := Lib.hid (HI.out.keep kq)
         have e0 := Kept.cell kq e0
         have f0 := HI9.out.cls.cell 0
         have f1 := HI9.out.cls.cell 1
         have f2 := HI9.out.cls.cell 2
         have f3 := HI9.out.cls.cell 3
         have f4 := HI9.out.cls.cell 4
         have f5 := HI9.out.cls.cell 5
         have f6 := HI9.out.cls.cell 6
         have f7 := HI9.out.cls.cell 7
         have f8 := HI9.out.cls.cell 8
         simp only [List.getElem?_toArray, List.getElem?_cons_succ, List.getElem?_cons_zero] at f0 f1 f2 f3 f4 f5 f6 f7 f8
         clear hk9 kk kq))
    clear j0 j1 j2 j3 j4 j5 j6 j7 j8
    have t3 := HI9.out.typ.cell 3
    simp only [List.getElem?_toArray, List.getElem?_cons_succ, List.getElem?_cons_zero] at t3
    have tf3 := HI9.out.typ.frozen 3
    clear f0 f1 f2 f3 f4 f5 f6 f7 f8 e0
    go_upto_region 11 with fail
    go_upto_region 9 with (at_builtin; refine wpl_pushH _ elem_str rfl (.tmp 60) (.tmp 62) rfl w.heap.size (.slice aX k cX) k (xI k) rfl HI9.out.rI [.string sx] _ w9.heap.size rfl rfl rfl (by intro u hu; rw [List.mem_singleton] at hu; subst hu; rfl) (by omega) (by omega) HI9.out.kept.size ?_; intro v8 w8 ho8 hg8 hk8 hb8; obtain ⟨a8, c8, hv8, -, -⟩ := own_slice ho8; subst hv8; have HT8 := Lib.hid (Touch.of_grown (S := fun b => (Value.slice aX k cX).ownBlock = some b) hg8 fun k hk => hk); have HR8 := Lib.hid ho8; have ht8 := HI9.out.typ.touch HT8.out (fun e => own_ne HI9.out.rI HI9.out.typ (by decide) _ e rfl); have t3 := ht8.cell 3; have tf3 := ht8.frozen 3; simp only [List.getElem?_toArray, List.getElem?_cons_succ, List.getElem?_cons_zero] at t3; clear ho8 hg8 hk8 hb8 ht8)
    have HJ := Lib.hid (HI9.out.pushI HT8.out HR8.out)
    clear t3 tf3
    generalize (w8.setCell ⟨gt, 3, none⟩ (.slice a8 (k + 1) c8)) = wn at *
    go_wp2_with fail
    go_roundw
    case rel =>
      refine ⟨k + 1, a8, c8, by omega, by go_num, ?_⟩
      have h := HJ.out
      rw [show xI k ++ [.string sx] = xI (k + 1) by rw [HXI.out]; dsimp only; rw [List.take_add_one, HX.out, List.map_append, List.flatMap_append, HSX.out]; rfl] at h
      exact h
    case measure => simp [intOf]; omega
  obtain rfl : k = nI := by omega
  have HXE := Lib.hid (show xI k = (outD c).interfaces.flatMap strV by rw [HXI.out]; dsimp only; rw [List.take_of_length_le (by have := N2.out; omega)]; rfl)
  obtain ⟨xF, hxF⟩ : ∃ f : Nat → List Value, f = fun k => ((c.fields.take k).map (memF c.pool)).flatMap encMemberV := ⟨_, rfl⟩
  have HXF := Lib.hid hxF
  clear hxF
  have j6 := HI.out.cls.cell 6
  simp only [List.getElem?_toArray, List.getElem?_cons_succ, List.getElem?_cons_zero] at j6
  go_wp2_with fail
  go_loopw [9] (fun s w9 => ∃ (i : Nat) (aY : Option Addr) (cY : Nat), i ≤ nF ∧ s = .int .i64 i ∧ OutJ w gz gt #[.int .i64 c.minor, .int .i64 c.major, .slice aP nP kP, .int .i64 c.access, .int .i64 c.this, .int .i64 c.super, .slice aI k kI, .slice aF nF kF, .slice aM nM kM] s1 s2 c.access (.slice aX k cX) (.slice aY i cY) (.slice none 0 0) k i 0 (xI k) (xF i) [] w9) (fun s _ => nF - (intOf s).toNat)
  case atStart => exact ⟨0, none, 0, Nat.zero_le _, rfl, by rw [HXF.out]; exact HI.out⟩
  case round =>
  rename World => wr
  obtain ⟨i, aY, cY, hi, rfl, hj⟩ := hrel
  have HJ := Lib.hid hj
  clear hj HI j6
  have j7 := HJ.out.cls.cell 7
  simp only [List.getElem?_toArray, List.getElem?_cons_succ, List.getElem?_cons_zero] at j7
  by_cases hlt2 : i < nF
  · have hFF : Rd wr 4 (.slice aF nF kF) nF (c.fields.flatMap encF) := by
      have := HC.out.f.kept HJ.out.kept
      rw [← N3.out] at this
      exact this
    have HFFh := Lib.hid hFF
    clear hFF
    obtain ⟨x, hx⟩ : ∃ x, c.fields[i]? = some x := ⟨_, List.getElem?_eq_getElem (by have := N3.out; omega)⟩
    obtain ⟨b1, o1, d1, hv1, e0, e1, e2, e3⟩ := field_cells N3.out (HFFh.out.kept (Below.refl _ wr)) hx
    simp only [Value.slice.injEq] at hv1
    obtain ⟨rfl, -, rfl⟩ := hv1
    have hkJ : (i : Int) < (nF : Int) := by omega
    have h0J : (0 : Int) ≤ (i : Int) := by omega
    have HX := Lib.hid hx
    clear hx
    have hi64 : i ≤ 64 := by have := HN64.out.2.1; omega
    go_upto_region 16 with fail
    have hkb : Kept wr (wr.alloc (.cells #[.int .i64 x.access, .int .i64 x.name, .int .i64 x.desc, .int .i64 x.value] 55)) := (Below.refl _ _).alloc (Nat.le_refl _) _
    have HJ1 := Lib.hid (HJ.out.keep hkb)
    have HF1 := Lib.hid (Blk.new wr 55 #[.int .i64 x.access, .int .i64 x.name, .int .i64 x.desc, .int .i64 x.value])
    obtain ⟨gf, hgf⟩ : ∃ g, g = wr.heap.size := ⟨_, rfl⟩
    rw [← hgf] at HF1 ⊢
    clear hkb e0 e1 e2 e3 j7
    generalize (wr.alloc (.cells #[.int .i64 x.access, .int .i64 x.name, .int .i64 x.desc, .int .i64 x.value] 55)) = wa at *
    clear hgf
    have y0 := HF1.out.cell 0
    have y3 := HF1.out.cell 3
    simp only [List.getElem?_toArray, List.getElem?_cons_succ, List.getElem?_cons_zero] at y0 y3
    obtain ⟨hbv, hhb⟩ : ∃ b, (x.value != 0) = b := ⟨_, rfl⟩
    have HHB := Lib.hid hhb
    go_upto_region 17 with fail
    have hkb : Kept wa (wa.alloc (.cells #[.int .i64 x.access, .string ⟨#[]⟩, .string ⟨#[]⟩, .bool hbv, .int .i64 0] 63)) := (Below.refl _ _).alloc (Nat.le_refl _) _
    have HFAR := Lib.hid HJ1.out.fresh
    have HJ2 := Lib.hid (HJ1.out.keep hkb)
    have HF2 := Lib.hid (HF1.out.kept hkb)
    have hfl := HF1.out.lt
    have HM2 := Lib.hid (Blk.new wa 63 #[.int .i64 x.access, .string ⟨#[]⟩, .string ⟨#[]⟩, .bool hbv, .int .i64 0])
    obtain ⟨gq, hgq⟩ : ∃ g, g = wa.heap.size := ⟨_, rfl⟩
    rw [← hgq] at HM2 HFAR hfl ⊢
    have HFQ := Lib.hid (show gf ≠ gq by omega)
    clear hkb hfl hhb y0 y3
    generalize (wa.alloc (.cells #[.int .i64 x.access, .string ⟨#[]⟩, .string ⟨#[]⟩, .bool hbv, .int .i64 0] 63)) = wb at *
    clear hgq
    obtain ⟨sn, hsn⟩ : ∃ s, s = (textC c.pool x.name).1 := ⟨_, rfl⟩
    obtain ⟨on, hon⟩ : ∃ s, s = (textC c.pool x.name).2 := ⟨_, rfl⟩
    have Hsn := Lib.hid hsn
    have Hon := Lib.hid hon
    clear hsn hon
    obtain ⟨sd, hsd⟩ : ∃ s, s = (textC c.pool x.desc).1 := ⟨_, rfl⟩
    obtain ⟨od, hod⟩ : ∃ s, s = (textC c.pool x.desc).2 := ⟨_, rfl⟩
    have Hsd := Lib.hid hsd
    have Hod := Lib.hid hod
    clear hsd hod
    have y1 := HF2.out.cell 1
    simp only [List.getElem?_toArray, List.getElem?_cons_succ, List.getElem?_cons_zero] at y1
    have C := ref5_Utf c.pool c.minor c.major c.access c.this c.super (.slice aP nP kP) (.slice aI k kI) (.slice (some ⟨b1, o1, none⟩) nF kF) (.slice aM nM kM) x.name wb (HPL.out.kept HJ2.out.kept)
    unfold TextG at C
    rw [← Hsn.out, ← Hon.out] at C
    have q0 := HJ2.out.cls.cell 0
    have q1 := HJ2.out.cls.cell 1
    have q2 := HJ2.out.cls.cell 2
    have q3 := HJ2.out.cls.cell 3
    have q4 := HJ2.out.cls.cell 4
    have q5 := HJ2.out.cls.cell 5
    have q6 := HJ2.out.cls.cell 6
    have q7 := HJ2.out.cls.cell 7
    have q8 := HJ2.out.cls.cell 8
    simp only [List.getElem?_toArray, List.getElem?_cons_succ, List.getElem?_cons_zero] at q0 q1 q2 q3 q4 q5 q6 q7 q8
    go_wp2_with fail
    refine C.mono ?_
    rintro e wt ⟨rfl, hk9⟩
    have OT := Lib.hid (HJ2.out.keep hk9)
    have MT_ := Lib.hid (HM2.out.kept hk9)
    have FT_ := Lib.hid (HF2.out.kept hk9)
    clear hk9 C q0 q1 q2 q3 q4 q5 q6 q7 q8
    have n1 := MT_.out.cell 1
    simp only [List.getElem?_toArray, List.getElem?_cons_succ, List.getElem?_cons_zero] at n1
    have nf1 := MT_.out.frozen 1
    go_upto_region 18 with fail
    have HJ3 := Lib.hid (OT.out.put HFAR.out 1 (.string sn))
    have HM3 : Hid (Blk (wt.setCell ⟨gq, 1, none⟩ (.string sn)) gq 63 #[.int .i64 x.access, .string sn, .string ⟨#[]⟩, .bool hbv, .int .i64 0]) := Lib.hid (MT_.out.set_ 1 (.string sn))
    have HF3 := Lib.hid (FT_.out.far (p := ⟨gq, 1, none⟩) HFQ.out (.string sn))
    clear OT MT_ FT_ n1 nf1
    generalize (wt.setCell ⟨gq, 1, none⟩ (.string sn)) = wc at *
    clear y1
    have y2 := HF3.out.cell 2
    simp only [List.getElem?_toArray, List.getElem?_cons_succ, List.getElem?_cons_zero] at y2
    have C := ref5_Utf c.pool c.minor c.major c.access c.this c.super (.slice aP nP kP) (.slice aI k kI) (.slice (some ⟨b1, o1, none⟩) nF kF) (.slice aM nM kM) x.desc wc (HPL.out.kept HJ3.out.kept)
    unfold TextG at C
    rw [← Hsd.out, ← Hod.out] at C
    have q0 := HJ3.out.cls.cell 0
    have q1 := HJ3.out.cls.cell 1
    have q2 := HJ3.out.cls.cell 2
    have q3 := HJ3.out.cls.cell 3
    have q4 := HJ3.out.cls.cell 4
    have q5 := HJ3.out.cls.cell 5
    have q6 := HJ3.out.cls.cell 6
    have q7 := HJ3.out.cls.cell 7
    have q8 := HJ3.out.cls.cell 8
    simp only [List.getElem?_toArray, List.getElem?_cons_succ, List.getElem?_cons_zero] at q0 q1 q2 q3 q4 q5 q6 q7 q8
    go_wp2_with fail
    refine C.mono ?_
    rintro e wt ⟨rfl, hk9⟩
    have OT := Lib.hid (HJ3.out.keep hk9)
    have MT_ := Lib.hid (HM3.out.kept hk9)
    have FT_ := Lib.hid (HF3.out.kept hk9)
    clear hk9 C q0 q1 q2 q3 q4 q5 q6 q7 q8
    have n2 := MT_.out.cell 2
    simp only [List.getElem?_toArray, List.getElem?_cons_succ, List.getElem?_cons_zero] at n2
    have nf2 := MT_.out.frozen 2
    go_upto_region 19 with fail
    have HJ4 := Lib.hid (OT.out.put HFAR.out 2 (.string sd))
    have HM4 : Hid (Blk (wt.setCell ⟨gq, 2, none⟩ (.string sd)) gq 63 #[.int .i64 x.access, .string sn, .string sd, .bool hbv, .int .i64 0]) := Lib.hid (MT_.out.set_ 2 (.string sd))
    have HF4 := Lib.hid (FT_.out.far (p := ⟨gq, 2, none⟩) HFQ.out (.string sd))
    clear OT MT_ FT_ n2 nf2
    generalize (wt.setCell ⟨gq, 2, none⟩ (.string sd)) = wd at *
    clear y2 HJ HJ1 HJ2 HJ3 HF1 HF2 HF3 HM2 HM3
    have n3 := HM4.out.cell 3
    simp only [List.getElem?_toArray, List.getElem?_cons_succ, List.getElem?_cons_zero] at n3
    cases hbv
    · have HNV := Lib.hid (show ((getC c.pool x.value 3).getD zeroK).num = 0 by
        have h := HHB.out
        rw [show x.value = 0 by simpa using h]
        exact getC_zero _ _)
      go_upto_region 22 with fail
      clear n3
      have HJ5 := HJ4
      have HM5 := HM4
      clear HJ4 HM4
      have n0 := HM5.out.cell 0
      have n1 := HM5.out.cell 1
      have n2 := HM5.out.cell 2
      have n3 := HM5.out.cell 3
      have n4 := HM5.out.cell 4
      simp only [List.getElem?_toArray, List.getElem?_cons_succ, List.getElem?_cons_zero] at n0 n1 n2 n3 n4
      have t4 := HJ5.out.typ.cell 4
      simp only [List.getElem?_toArray, List.getElem?_cons_succ, List.getElem?_cons_zero] at t4
      have tf4 := HJ5.out.typ.frozen 4
      go_upto_region 14 with (at_builtin; refine wpl_pushH _ elem_memb rfl (.tmp 112) (.tmp 114) rfl w.heap.size (.slice aY i cY) i (xF i) rfl HJ5.out.rF [.int .i64 x.access, .string sn, .string sd, .bool false, .int .i64 0] _ _ rfl rfl rfl (by intro u hu; simp only [List.mem_cons, List.not_mem_nil, or_false] at hu; rcases hu with rfl | rfl | rfl | rfl | rfl <;> rfl) (by omega) (by omega) HJ5.out.kept.size ?_; intro v8 w8 ho8 hg8 hk8 hb8; obtain ⟨a8, c8, hv8, -, -⟩ := own_slice ho8; subst hv8; have HT8 := Lib.hid (Touch.of_grown (S := fun b => (Value.slice aY i cY).ownBlock = some b) hg8 fun k hk => hk); have HR8 := Lib.hid ho8; have HK8 := Lib.hid hk8; have ht8 := HJ5.out.typ.touch HT8.out (fun e => own_ne HJ5.out.rF HJ5.out.typ (by decide) _ e rfl); have t4 := ht8.cell 4; have tf4 := ht8.frozen 4; simp only [List.getElem?_toArray, List.getElem?_cons_succ, List.getElem?_cons_zero] at t4; clear ho8 hg8 hk8 hb8 ht8)
      have HJn := Lib.hid (HJ5.out.pushF rfl HT8.out HR8.out)
      clear t4 tf4 n0 n1 n2 n3 n4
      generalize (w8.setCell ⟨gt, 4, none⟩ (.slice a8 (i + 1) c8)) = wn at *
      go_wp2_with fail
      go_roundw
      case rel =>
        refine ⟨i + 1, a8, c8, by omega, by go_num, ?_⟩
        have h := HJn.out
        rw [show xF i ++ [.int .i64 x.access, .string sn, .string sd, .bool false, .int .i64 0] = xF (i + 1) by
          rw [HXF.out]
          dsimp only
          rw [List.take_add_one, HX.out, List.map_append, List.flatMap_append, Hsn.out, Hsd.out]
          congr 1
          show _ = encMemberV (memF c.pool x)
          unfold memF encMemberV
          dsimp only
          rw [HHB.out, HNV.out]] at h
        exact h
      case measure => simp [intOf]; omega
    · go_upto_region 20 with fail
      clear n3
      have C := ref5_get c.pool c.minor c.major c.access c.this c.super (.slice aP nP kP) (.slice aI k kI) (.slice (some ⟨b1, o1, none⟩) nF kF) (.slice aM nM kM) x.value 3 wd (HPL.out.kept HJ4.out.kept)
      unfold AtG at C
      obtain ⟨xk, hxk⟩ : ∃ y, y = (getC c.pool x.value 3).getD zeroK := ⟨_, rfl⟩
      obtain ⟨okk, hokk⟩ : ∃ y, y = (getC c.pool x.value 3).isSome := ⟨_, rfl⟩
      rw [← hxk, ← hokk] at C
      have HXK := Lib.hid hxk
      clear hxk hokk
      have q0 := HJ4.out.cls.cell 0
      have q1 := HJ4.out.cls.cell 1
      have q2 := HJ4.out.cls.cell 2
      have q3 := HJ4.out.cls.cell 3
      have q4 := HJ4.out.cls.cell 4
      have q5 := HJ4.out.cls.cell 5
      have q6 := HJ4.out.cls.cell 6
      have q7 := HJ4.out.cls.cell 7
      have q8 := HJ4.out.cls.cell 8
      simp only [List.getElem?_toArray, List.getElem?_cons_succ, List.getElem?_cons_zero] at q0 q1 q2 q3 q4 q5 q6 q7 q8
      have y3 := HF4.out.cell 3
      simp only [List.getElem?_toArray, List.getElem?_cons_succ, List.getElem?_cons_zero] at y3
      go_wp2_with fail
      refine C.mono ?_
      rintro e we ⟨he, hk9⟩
      have he : e = .returned (.tuple #[.agg #[.int .i64 xk.tag, .string xk.text, .int .i64 xk.num, .int .i64 xk.a, .int .i64 xk.b], .bool okk]) := he
      subst he
      clear C y3 q0 q1 q2 q3 q4 q5 q6 q7 q8
      go_upto_region 21 with fail
      have hkb : Kept wd (we.alloc (.cells #[.int .i64 xk.tag, .string xk.text, .int .i64 xk.num, .int .i64 xk.a, .int .i64 xk.b] 47)) := Kept.trans hk9 ((Below.refl _ _).alloc (Nat.le_refl _) _)
      have HJ4b := Lib.hid (HJ4.out.keep hkb)
      have HM4b := Lib.hid (HM4.out.kept hkb)
      have HK4 := Lib.hid (Blk.new we 47 #[.int .i64 xk.tag, .string xk.text, .int .i64 xk.num, .int .i64 xk.a, .int .i64 xk.b])
      obtain ⟨gk, hgk⟩ : ∃ g, g = we.heap.size := ⟨_, rfl⟩
      rw [← hgk] at HK4 ⊢
      clear hkb hk9 HJ4 HM4
      generalize (we.alloc (.cells #[.int .i64 xk.tag, .string xk.text, .int .i64 xk.num, .int .i64 xk.a, .int .i64 xk.b] 47)) = wf at *
      clear hgk
      have g9 := HK4.out.cell 2
      have n4 := HM4b.out.cell 4
      simp only [List.getElem?_toArray, List.getElem?_cons_succ, List.getElem?_cons_zero] at g9 n4
      have nf4 := HM4b.out.frozen 4
      go_upto_region 22 with fail
      have HJ5 := Lib.hid (HJ4b.out.put HFAR.out 4 (.int .i64 xk.num))
      have HM5 : Hid (Blk (wf.setCell ⟨gq, 4, none⟩ (.int .i64 xk.num)) gq 63 #[.int .i64 x.access, .string sn, .string sd, .bool true, .int .i64 xk.num]) := Lib.hid (HM4b.out.set_ 4 (.int .i64 xk.num))
      clear g9 n4 nf4 HJ4b HM4b
      generalize (wf.setCell ⟨gq, 4, none⟩ (.int .i64 xk.num)) = wg at *
      have n0 := HM5.out.cell 0
      have n1 := HM5.out.cell 1
      have n2 := HM5.out.cell 2
      have n3 := HM5.out.cell 3
      have n4 := HM5.out.cell 4
      simp only [List.getElem?_toArray, List.getElem?_cons_succ, List.getElem?_cons_zero] at n0 n1 n2 n3 n4
      have t4 := HJ5.out.typ.cell 4
      simp only [List.getElem?_toArray, List.getElem?_cons_succ, List.getElem?_cons_zero] at t4
      have tf4 := HJ5.out.typ.frozen 4
      go_upto_region 14 with (at_builtin; refine wpl_pushH _ elem_memb rfl (.tmp 112) (.tmp 114) rfl w.heap.size (.slice aY i cY) i (xF i) rfl HJ5.out.rF [.int .i64 x.access, .string sn, .string sd, .bool true, .int .i64 xk.num] _ _ rfl rfl rfl (by intro u hu; simp only [List.mem_cons, List.not_mem_nil, or_false] at hu; rcases hu with rfl | rfl | rfl | rfl | rfl <;> rfl) (by omega) (by omega) HJ5.out.kept.size ?_; intro v8 w8 ho8 hg8 hk8 hb8; obtain ⟨a8, c8, hv8, -, -⟩ := own_slice ho8; subst hv8; have HT8 := Lib.hid (Touch.of_grown (S := fun b => (Value.slice aY i cY).ownBlock = some b) hg8 fun k hk => hk); have HR8 := Lib.hid ho8; have HK8 := Lib.hid hk8; have ht8 := HJ5.out.typ.touch HT8.out (fun e => own_ne HJ5.out.rF HJ5.out.typ (by decide) _ e rfl); have t4 := ht8.cell 4; have tf4 := ht8.frozen 4; simp only [List.getElem?_toArray, List.getElem?_cons_succ, List.getElem?_cons_zero] at t4; clear ho8 hg8 hk8 hb8 ht8)
      have HJn := Lib.hid (HJ5.out.pushF rfl HT8.out HR8.out)
      clear t4 tf4 n0 n1 n2 n3 n4
      generalize (w8.setCell ⟨gt, 4, none⟩ (.slice a8 (i + 1) c8)) = wn at *
      go_wp2_with fail
      go_roundw
      case rel =>
        refine ⟨i + 1, a8, c8, by omega, by go_num, ?_⟩
        have h := HJn.out
        rw [show xF i ++ [.int .i64 x.access, .string sn, .string sd, .bool true, .int .i64 xk.num] = xF (i + 1) by
          rw [HXF.out]
          dsimp only
          rw [List.take_add_one, HX.out, List.map_append, List.flatMap_append, Hsn.out, Hsd.out]
          congr 1
          show _ = encMemberV (memF c.pool x)
          unfold memF encMemberV
          dsimp only
          rw [HHB.out, HXK.out]] at h
        exact h
      case measure => simp [intOf]; omega
  obtain rfl : i = nF := by omega
  obtain ⟨xM, hxM⟩ : ∃ f : Nat → List Value, f = fun j => ((mv.take j).map fun x => memM c.pool x.1).flatMap encMemberV := ⟨_, rfl⟩
  have HXM := Lib.hid hxM
  clear hxM
  go_wp2_with fail
  have HRA := Lib.hid HC.out.r
  go_loopw [14] (fun s w9 => ∃ (j : Nat) (aZ : Option Addr) (cZ : Nat), j ≤ nM ∧ s = .int .i64 j ∧ OutJ w gz gt #[.int .i64 c.minor, .int .i64 c.major, .slice aP nP kP, .int .i64 c.access, .int .i64 c.this, .int .i64 c.super, .slice aI k kI, .slice aF i kF, .slice aM nM kM] s1 s2 c.access (.slice aX k cX) (.slice aY i cY) (.slice aZ j cZ) k i j (xI k) (xF i) (xM j) w9) (fun s _ => nM - (intOf s).toNat)
  case atStart => exact ⟨0, none, 0, Nat.zero_le _, rfl, by rw [HXM.out]; exact HJ.out⟩
  case round =>
  rename World => wr
  obtain ⟨j, aZ, cZ, hjm, rfl, hj⟩ := hrel
  have HJ := Lib.hid hj
  clear hj j7
  have j8 := HJ.out.cls.cell 8
  simp only [List.getElem?_toArray, List.getElem?_cons_succ, List.getElem?_cons_zero] at j8
  by_cases hlt3 : j < nM
  · have hMM : Rd wr 8 (.slice aM nM kM) nM (mv.flatMap encM) := by
      have := HC.out.m.kept HJ.out.kept
      rw [← N4.out] at this
      exact this
    have HMMh := Lib.hid hMM
    have HRRh := Lib.hid (fun x hx => (HRA.out x hx).kept HJ.out.kept)
    clear hMM
    obtain ⟨⟨m, vc, vt⟩, hx⟩ : ∃ x, mv[j]? = some x := ⟨_, List.getElem?_eq_getElem (by have := N4.out; omega)⟩
    obtain ⟨b1, o1, d1, hv1, e0, e1, e2, e3, e4, e5, e6, e7⟩ := meth_cells N4.out (HMMh.out.kept (Below.refl _ wr)) hx
    have hrm : MRd wr m vc vt := (HRRh.out _ (List.mem_of_getElem? hx)).kept (Below.refl _ wr)
    simp only [Value.slice.injEq] at hv1
    obtain ⟨rfl, -, rfl⟩ := hv1
    dsimp only at e0 e1 e2 e3 e4 e5 e6 e7
    obtain ⟨lc, hlc⟩ : ∃ lc, lc = m.code.length := ⟨_, rfl⟩
    obtain ⟨lt, hlt'⟩ : ∃ lt, lt = m.traps.length := ⟨_, rfl⟩
    have hrc := hrm.code
    have hrt := hrm.traps
    clear hrm
    rw [← hlc] at hrc
    rw [← hlt'] at hrt
    have HRc := Lib.hid hrc
    have HRt := Lib.hid hrt
    obtain ⟨_, ac, kc, rfl, -⟩ := hrc
    obtain ⟨_, at_, kt, rfl, -⟩ := hrt
    have hkL : (j : Int) < (nM : Int) := by omega
    have h0L : (0 : Int) ≤ (j : Int) := by omega
    have HX := Lib.hid hx
    have HLC := Lib.hid hlc
    have HLT := Lib.hid hlt'
    clear hx hlc hlt' 
    have hj64 : j ≤ 64 := by have := HN64.out.2.2; omega
    go_upto_region 27 with fail
    have hkb : Kept wr (wr.alloc (.cells #[.int .i64 m.access, .int .i64 m.name, .int .i64 m.desc, .bool m.has, .int .i64 m.stack, .int .i64 m.locals, .slice ac lc kc, .slice at_ lt kt] 52)) := (Below.refl _ _).alloc (Nat.le_refl _) _
    have HJ1 := Lib.hid (HJ.out.keep hkb)
    have HF1 := Lib.hid (Blk.new wr 52 #[.int .i64 m.access, .int .i64 m.name, .int .i64 m.desc, .bool m.has, .int .i64 m.stack, .int .i64 m.locals, .slice ac lc kc, .slice at_ lt kt])
    obtain ⟨gf, hgf⟩ : ∃ g, g = wr.heap.size := ⟨_, rfl⟩
    rw [← hgf] at HF1 ⊢
    clear hkb e0 e1 e2 e3 e4 e5 e6 e7 j8
    generalize (wr.alloc (.cells #[.int .i64 m.access, .int .i64 m.name, .int .i64 m.desc, .bool m.has, .int .i64 m.stack, .int .i64 m.locals, .slice ac lc kc, .slice at_ lt kt] 52)) = wa at *
    clear hgf
    have y0 := HF1.out.cell 0
    have y3 := HF1.out.cell 3
    simp only [List.getElem?_toArray, List.getElem?_cons_succ, List.getElem?_cons_zero] at y0 y3
    go_upto_region 28 with fail
    have hkb : Kept wa (wa.alloc (.cells #[.int .i64 m.access, .string ⟨#[]⟩, .string ⟨#[]⟩, .bool m.has, .int .i64 0] 63)) := (Below.refl _ _).alloc (Nat.le_refl _) _
    have HFAR := Lib.hid HJ1.out.fresh
    have HJ2 := Lib.hid (HJ1.out.keep hkb)
    have HF2 := Lib.hid (HF1.out.kept hkb)
    have hfl := HF1.out.lt
    have HM2 := Lib.hid (Blk.new wa 63 #[.int .i64 m.access, .string ⟨#[]⟩, .string ⟨#[]⟩, .bool m.has, .int .i64 0])
    obtain ⟨gq, hgq⟩ : ∃ g, g = wa.heap.size := ⟨_, rfl⟩
    rw [← hgq] at HM2 HFAR hfl ⊢
    have HFQ := Lib.hid (show gf ≠ gq by omega)
    clear hkb hfl y0 y3
    generalize (wa.alloc (.cells #[.int .i64 m.access, .string ⟨#[]⟩, .string ⟨#[]⟩, .bool m.has, .int .i64 0] 63)) = wb at *
    clear hgq
    obtain ⟨sn, hsn⟩ : ∃ s, s = (textC c.pool m.name).1 := ⟨_, rfl⟩
    obtain ⟨on, hon⟩ : ∃ s, s = (textC c.pool m.name).2 := ⟨_, rfl⟩
    have Hsn := Lib.hid hsn
    have Hon := Lib.hid hon
    clear hsn hon
    obtain ⟨sd, hsd⟩ : ∃ s, s = (textC c.pool m.desc).1 := ⟨_, rfl⟩
    obtain ⟨od, hod⟩ : ∃ s, s = (textC c.pool m.desc).2 := ⟨_, rfl⟩
    have Hsd := Lib.hid hsd
    have Hod := Lib.hid hod
    clear hsd hod
    have y1 := HF2.out.cell 1
    simp only [List.getElem?_toArray, List.getElem?_cons_succ, List.getElem?_cons_zero] at y1
    have C := ref5_Utf c.pool c.minor c.major c.access c.this c.super (.slice aP nP kP) (.slice aI k kI) (.slice aF i kF) (.slice (some ⟨b1, o1, none⟩) nM kM) m.name wb (HPL.out.kept HJ2.out.kept)
    unfold TextG at C
    rw [← Hsn.out, ← Hon.out] at C
    have q0 := HJ2.out.cls.cell 0
    have q1 := HJ2.out.cls.cell 1
    have q2 := HJ2.out.cls.cell 2
    have q3 := HJ2.out.cls.cell 3
    have q4 := HJ2.out.cls.cell 4
    have q5 := HJ2.out.cls.cell 5
    have q6 := HJ2.out.cls.cell 6
    have q7 := HJ2.out.cls.cell 7
    have q8 := HJ2.out.cls.cell 8
    simp only [List.getElem?_toArray, List.getElem?_cons_succ, List.getElem?_cons_zero] at q0 q1 q2 q3 q4 q5 q6 q7 q8
    go_wp2_with fail
    refine C.mono ?_
    rintro e wt ⟨rfl, hk9⟩
    have OT := Lib.hid (HJ2.out.keep hk9)
    have MT_ := Lib.hid (HM2.out.kept hk9)
    have FT_ := Lib.hid (HF2.out.kept hk9)
    clear hk9 C q0 q1 q2 q3 q4 q5 q6 q7 q8
    have n1 := MT_.out.cell 1
    simp only [List.getElem?_toArray, List.getElem?_cons_succ, List.getElem?_cons_zero] at n1
    have nf1 := MT_.out.frozen 1
    go_upto_region 29 with fail
    have HJ3 := Lib.hid (OT.out.put HFAR.out 1 (.string sn))
    have HM3 : Hid (Blk (wt.setCell ⟨gq, 1, none⟩ (.string sn)) gq 63 #[.int .i64 m.access, .string sn, .string ⟨#[]⟩, .bool m.has, .int .i64 0]) := Lib.hid (MT_.out.set_ 1 (.string sn))
    have HF3 := Lib.hid (FT_.out.far (p := ⟨gq, 1, none⟩) HFQ.out (.string sn))
    clear OT MT_ FT_ n1 nf1
    generalize (wt.setCell ⟨gq, 1, none⟩ (.string sn)) = wc at *
    clear y1
    have y2 := HF3.out.cell 2
    simp only [List.getElem?_toArray, List.getElem?_cons_succ, List.getElem?_cons_zero] at y2
    have C := ref5_Utf c.pool c.minor c.major c.access c.this c.super (.slice aP nP kP) (.slice aI k kI) (.slice aF i kF) (.slice (some ⟨b1, o1, none⟩) nM kM) m.desc wc (HPL.out.kept HJ3.out.kept)
    unfold TextG at C
    rw [← Hsd.out, ← Hod.out] at C
    have q0 := HJ3.out.cls.cell 0
    have q1 := HJ3.out.cls.cell 1
    have q2 := HJ3.out.cls.cell 2
    have q3 := HJ3.out.cls.cell 3
    have q4 := HJ3.out.cls.cell 4
    have q5 := HJ3.out.cls.cell 5
    have q6 := HJ3.out.cls.cell 6
    have q7 := HJ3.out.cls.cell 7
    have q8 := HJ3.out.cls.cell 8
    simp only [List.getElem?_toArray, List.getElem?_cons_succ, List.getElem?_cons_zero] at q0 q1 q2 q3 q4 q5 q6 q7 q8
    go_wp2_with fail
    refine C.mono ?_
    rintro e wt ⟨rfl, hk9⟩
    have OT := Lib.hid (HJ3.out.keep hk9)
    have MT_ := Lib.hid (HM3.out.kept hk9)
    have FT_ := Lib.hid (HF3.out.kept hk9)
    clear hk9 C q0 q1 q2 q3 q4 q5 q6 q7 q8
    have n2 := MT_.out.cell 2
    simp only [List.getElem?_toArray, List.getElem?_cons_succ, List.getElem?_cons_zero] at n2
    have nf2 := MT_.out.frozen 2
    go_upto_region 30 with fail
    have HJ5 := Lib.hid (OT.out.put HFAR.out 2 (.string sd))
    have HM5 : Hid (Blk (wt.setCell ⟨gq, 2, none⟩ (.string sd)) gq 63 #[.int .i64 m.access, .string sn, .string sd, .bool m.has, .int .i64 0]) := Lib.hid (MT_.out.set_ 2 (.string sd))
    have HF5 := Lib.hid (FT_.out.far (p := ⟨gq, 2, none⟩) HFQ.out (.string sd))
    clear OT MT_ FT_ n2 nf2
    generalize (wt.setCell ⟨gq, 2, none⟩ (.string sd)) = wd at *
    clear y2 HJ HJ1 HJ2 HJ3 HF1 HF2 HF3 HM2 HM3
    have n0 := HM5.out.cell 0
    have n1 := HM5.out.cell 1
    have n2 := HM5.out.cell 2
    have n3 := HM5.out.cell 3
    have n4 := HM5.out.cell 4
    simp only [List.getElem?_toArray, List.getElem?_cons_succ, List.getElem?_cons_zero] at n0 n1 n2 n3 n4
    have t4 := HJ5.out.typ.cell 5
    simp only [List.getElem?_toArray, List.getElem?_cons_succ, List.getElem?_cons_zero] at t4
    have tf4 := HJ5.out.typ.frozen 5
    go_upto_region 25 with (at_builtin; refine wpl_pushH _ elem_memb rfl (.tmp 151) (.tmp 153) rfl w.heap.size (.slice aZ j cZ) j (xM j) rfl HJ5.out.rM [.int .i64 m.access, .string sn, .string sd, .bool m.has, .int .i64 0] _ _ rfl rfl rfl (by intro u hu; simp only [List.mem_cons, List.not_mem_nil, or_false] at hu; rcases hu with rfl | rfl | rfl | rfl | rfl <;> rfl) (by omega) (by omega) HJ5.out.kept.size ?_; intro v8 w8 ho8 hg8 hk8 hb8; obtain ⟨a8, c8, hv8, -, -⟩ := own_slice ho8; subst hv8; have HT8 := Lib.hid (Touch.of_grown (S := fun b => (Value.slice aZ j cZ).ownBlock = some b) hg8 fun k hk => hk); have HR8 := Lib.hid ho8; have HK8 := Lib.hid hk8; have ht8 := HJ5.out.typ.touch HT8.out (fun e => own_ne HJ5.out.rM HJ5.out.typ (by decide) _ e rfl); have t4 := ht8.cell 5; have tf4 := ht8.frozen 5; simp only [List.getElem?_toArray, List.getElem?_cons_succ, List.getElem?_cons_zero] at t4; clear ho8 hg8 hk8 hb8 ht8)
    have HJn := Lib.hid (HJ5.out.pushM HT8.out HR8.out (fun k hk => HK8.out k hk))
    clear t4 tf4 n0 n1 n2 n3 n4
    generalize (w8.setCell ⟨gt, 5, none⟩ (.slice a8 (j + 1) c8)) = wn at *
    go_wp2_with fail
    go_roundw
    case rel =>
      refine ⟨j + 1, a8, c8, by omega, by go_num, ?_⟩
      have h := HJn.out
      rw [show xM j ++ [.int .i64 m.access, .string sn, .string sd, .bool m.has, .int .i64 0] = xM (j + 1) by rw [HXM.out]; dsimp only; rw [List.take_add_one, HX.out, List.map_append, List.flatMap_append, Hsn.out, Hsd.out]; rfl] at h
      exact h
    case measure => simp [intOf]; omega
  obtain rfl : j = nM := by omega
  have HXE2 := Lib.hid (show xF i = (outD c).fields.flatMap encMemberV by rw [HXF.out]; dsimp only; rw [List.take_of_length_le (by have := N3.out; omega)]; rfl)
  have HXE3 := Lib.hid (show xM j = (outD c).methods.flatMap encMemberV by
    rw [HXM.out]; dsimp only
    rw [List.take_of_length_le (by have := N4.out; omega)]
    show _ = (c.methods.map (memM c.pool)).flatMap encMemberV
    rw [HMS.out, List.map_map]
    rfl)
  have t0 := HJ.out.typ.cell 0
  have t1 := HJ.out.typ.cell 1
  have t2 := HJ.out.typ.cell 2
  have t3 := HJ.out.typ.cell 3
  have t4 := HJ.out.typ.cell 4
  have t5 := HJ.out.typ.cell 5
  simp only [List.getElem?_toArray, List.getElem?_cons_succ, List.getElem?_cons_zero] at t0 t1 t2 t3 t4 t5
  have HL2 := Lib.hid (HHLV.out _ HJ.out.zero #[.string s1, .string s2, .int .i64 c.access, .slice aX k cX, .slice aY i cY, .slice aZ j cZ] rfl)
  go_upto_region 31 with fail
  go_wp2_with (refine wpList_store_row rfl 36 _ _ rfl gz #[.string s1, .string s2, .int .i64 c.access, .slice aX k cX, .slice aY i cY, .slice aZ j cZ] rfl (by rfl) 36 _ HJ.out.zero (by kernel_rfl) (by rfl) (by kernel_rfl) ?_)
  have HL := HL2.out
  refine bodyPost_ret (v := .tuple #[.agg #[.string s1, .string s2, .int .i64 c.access, .slice aX k cX, .slice aY i cY, .slice aZ j cZ], .int .i64 0]) ?_ rfl ?_
  · simp [results, Try.results20, asAddr, HL]
  · have li : (outD c).interfaces.length = k := by show (c.ifaces.map _).length = k; rw [List.length_map]; exact N2.out.symm
    have lf : (outD c).fields.length = i := by show (c.fields.map _).length = i; rw [List.length_map]; exact N3.out.symm
    have lm : (outD c).methods.length = j := by show (c.methods.map _).length = j; rw [HMS.out, List.length_map, List.length_map]; exact N4.out.symm
    have ht := setRow_touch wr gz #[.string s1, .string s2, .int .i64 c.access, .slice aX k cX, .slice aY i cY, .slice aZ j cZ]
    refine ⟨.slice aX k cX, .slice aY i cY, .slice aZ j cZ, ?_, ⟨?_, ?_, ?_⟩, kept_setRow HJ.out.kept HGZ.out _⟩
    · rw [HOT.out, HCK.out, HS1.out, HS2.out]; rfl
    · rw [HOT.out, li, ← HXE.out]
      exact ht.own HJ.out.rI fun q hq e => own_ne HJ.out.rI HJ.out.zero (by decide) q hq e
    · rw [HOT.out, lf, ← HXE2.out]
      exact ht.own HJ.out.rF fun q hq e => own_ne HJ.out.rF HJ.out.zero (by decide) q hq e
    · rw [HOT.out, lm, ← HXE3.out]
      exact ht.own HJ.out.rM fun q hq e => own_ne HJ.out.rM HJ.out.zero (by decide) q hq e
end Go.Proofs.Ytcklmhbcjgiplaa
