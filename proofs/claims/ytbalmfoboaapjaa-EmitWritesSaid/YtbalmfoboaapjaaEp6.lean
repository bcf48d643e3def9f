/-
  Package emit by contract: Write.
-/
import Derived.Test.YtbalmfoboaapjaaEp5
import Derived.Test.YtbalmfoboaapjaaEr7
import Derived.StillTailTactics
namespace Go.Proofs.Ytbalmfoboaapjaa
set_option linter.unusedVariables false
set_option linter.unusedSimpArgs false
open Go.RowKit Go.Maps
set_option maxRecDepth 100000

theorem emit_put2 (l : List ConstC) (g bm n : Nat) (L : List UInt8) (fl : Int) (xs : List Int) (w : World) (h : WS l g bm n L fl w) (hsz : L.length + 4 * xs.length ≤ 100000000000) :
    Calls Try.prog 22 #[.pointer (some ⟨g, 0, none⟩), .int .i64 2, .slice (some ⟨w.heap.size, 0, none⟩) xs.length xs.length] (w.alloc (.cells (xs.map (Value.int .i64)).toArray 3)) (PutY l g bm n (L ++ twoB xs) fl w) :=
  emit_putN l g bm n L fl 2 (by omega) 2 rfl xs w h hsz
theorem emit_put1 (l : List ConstC) (g bm n : Nat) (L : List UInt8) (fl : Int) (x : Int) (w : World) (h : WS l g bm n L fl w) (hsz : L.length + 4 ≤ 100000000000) :
    Calls Try.prog 22 #[.pointer (some ⟨g, 0, none⟩), .int .i64 1, .slice (some ⟨w.heap.size, 0, none⟩) 1 1] (w.alloc (.cells #[.int .i64 x] 3)) (PutY l g bm n (L ++ beB 1 x) fl w) := by
  have h1 := emit_putN l g bm n L fl 1 (by omega) 1 rfl [x] w h (by simpa using hsz)
  simpa using h1
theorem emit_put4 (l : List ConstC) (g bm n : Nat) (L : List UInt8) (fl : Int) (x : Int) (w : World) (h : WS l g bm n L fl w) (hsz : L.length + 4 ≤ 100000000000) :
    Calls Try.prog 22 #[.pointer (some ⟨g, 0, none⟩), .int .i64 4, .slice (some ⟨w.heap.size, 0, none⟩) 1 1] (w.alloc (.cells #[.int .i64 x] 3)) (PutY l g bm n (L ++ beB 4 x) fl w) := by
  have h1 := emit_putN l g bm n L fl 4 (by omega) 4 rfl [x] w h (by simpa using hsz)
  simpa using h1
theorem parts_kind {t : Int} (h : kindC t) : ∃ a b c d, partsV t = #[.bool a, .bool b, .bool c, .bool d, .bool true] := by
  unfold partsV
  rcases h with rfl | rfl | rfl | ⟨h1, h2⟩
  · exact ⟨_, _, _, _, rfl⟩
  · exact ⟨_, _, _, _, rfl⟩
  · exact ⟨_, _, _, _, rfl⟩
  · rw [if_neg (by omega), if_neg (by omega), if_neg (by omega), if_pos ⟨h1, h2⟩]; exact ⟨_, _, _, _, rfl⟩
theorem parts_none {t : Int} (h : ¬ kindC t) : partsV t = #[.bool false, .bool false, .bool false, .bool false, .bool false] := by
  unfold kindC at h
  unfold partsV
  rw [if_neg (by omega), if_neg (by omega), if_neg (by omega), if_neg (by omega)]
theorem WS.map_ {l : List ConstC} {g bm n n' : Nat} {L : List UInt8} {fl : Int} {w w' : World} {l' : List ConstC} {f : KeyC → Option Value} (h : WS l g bm n L fl w) (hg : w.grownBy w' (some bm)) (hd : Dict Try.prog 61 encK w' bm n' f) (hi : IdxD l' f) : WS l' g bm n' L fl w' := by
  obtain ⟨⟨vb, he⟩, _, hl⟩ := h
  have ht : Touch (fun b => b = bm) w w' := Touch.of_grown hg fun k hk => (Option.some.inj hk).symm
  exact ⟨⟨vb, he.touch ht (by omega) fun k hk e => by have := (he.row.lt k hk).1; omega⟩, ⟨f, hd, hi⟩, hl⟩
theorem WS.drew {l : List ConstC} {g bm n : Nat} {L : List UInt8} {fl : Int} {w : World} (h : WS l g bm n L fl w) : WS l g bm n L fl w.drew := h.kept (kept_drewN (Below.refl _ _) 1)
def FlP (fl : Int) (p : Prop) : Prop := (p → fl = 20) ∧ (¬ p → fl = 0)
theorem FlP.no {p : Prop} (h : ¬ p) : FlP 0 p := ⟨fun e => absurd e h, fun _ => rfl⟩
theorem FlP.same {fl : Int} {p q : Prop} (h : FlP fl p) (hq : q ↔ p) : FlP fl q := ⟨fun e => h.1 (hq.1 e), fun e => h.2 fun k => e (hq.2 k)⟩
theorem FlP.more {fl fl2 z : Int} {p q : Prop} (h : FlP fl p) (h2 : fl2 = if z = 0 then 20 else fl) (h0 : z = 0 → q) (h1 : ¬ z = 0 → (q ↔ p)) : FlP fl2 q := by
  by_cases hz : z = 0
  · rw [if_pos hz] at h2
    exact ⟨fun _ => h2, fun e => absurd (h0 hz) e⟩
  · rw [if_neg hz] at h2
    rw [h2]
    exact h.same (h1 hz)
theorem flat_leM {α : Type} {f : α → List UInt8} (n : Nat) : ∀ l : List α, (∀ x ∈ l, (f x).length ≤ n) → (l.flatMap f).length ≤ n * l.length
  | [], _ => by simp
  | x :: l, h => by have h1 := h x (by simp); have h2 := flat_leM (f := f) n l fun y hy => h y (by simp [hy]); rw [List.flatMap_cons, List.length_append, List.length_cons, Nat.mul_add]; omega
theorem WS.push {l : List ConstC} {g bm n : Nat} {L M : List UInt8} {vb v : Value} {fl : Int} {w w' : World} {q : Nat} (h : WS l g bm n L fl w) (he : EW w g L vb (.map (some bm)) fl) (hg : w.grownBy w' vb.ownBlock) (hq : q = M.length) (ho : w'.ownsRow (g + 1) 5 1 v (L.length + q) (L.map byteV ++ M.map byteV)) :
    WS l g bm n (L ++ M) fl (w'.setCell ⟨g, 0, none⟩ v) ∧ TY (GG g) (g + 1) w (w'.setCell ⟨g, 0, none⟩ v) := by
  subst hq
  have ht : Touch (PS_ g vb) w (w'.setCell ⟨g, 0, none⟩ v) := (Touch.of_grown (S := PS_ g vb) hg fun k hk => .inr hk).setCell (p := ⟨g, 0, none⟩) (.inl (.inl rfl)) v
  exact put_z h he (he.push hg ho) ht
set_option maxHeartbeats 16000000 in
theorem emit_Write (c : ClassC) (mv : List (MethC × Value × Value)) (vP vI vF vM : Value) (w : World) (h : CRd w c mv vP vI vF vM) (hsz : ∀ k ∈ c.pool, k.text.size ≤ maxLen) :
    Calls Try.prog 11 #[.agg (classV c vP vI vF vM).toArray] w (WriteG c w) := by
  have HC := Lib.hid h
  have HSZ := Lib.hid hsz
  clear hsz
  obtain ⟨aP, kP, aI, kI, aF, kF, aM, kM, rfl, rfl, rfl, rfl⟩ := h.forms
  obtain ⟨nP, hnP⟩ : ∃ n, n = c.pool.length := ⟨_, rfl⟩
  obtain ⟨nI, hnI⟩ : ∃ n, n = c.ifaces.length := ⟨_, rfl⟩
  obtain ⟨nF, hnF⟩ : ∃ n, n = c.fields.length := ⟨_, rfl⟩
  obtain ⟨nM, hnM⟩ : ∃ n, n = mv.length := ⟨_, rfl⟩
  change Calls Try.prog 11 #[.agg #[.int .i64 c.minor, .int .i64 c.major, .slice aP c.pool.length kP, .int .i64 c.access, .int .i64 c.this, .int .i64 c.super, .slice aI c.ifaces.length kI, .slice aF c.fields.length kF, .slice aM mv.length kM]] w _
  have HMS := Lib.hid h.ms
  rw [← hnP, ← hnI, ← hnF, ← hnM] at h ⊢
  have r1 := h.p
  have r2 := h.i
  have r3 := h.f
  have r4 := h.m
  rw [← hnP] at r1
  rw [← hnI] at r2
  rw [← hnF] at r3
  rw [← hnM] at r4
  have m1 : nP ≤ 9223372036854775807 := by obtain ⟨_, _, _, e, q1, q2, _⟩ := r1; cases e; omega
  have m2 : nI ≤ 9223372036854775807 := by obtain ⟨_, _, _, e, q1, q2, _⟩ := r2; cases e; omega
  have m3 : nF ≤ 9223372036854775807 := by obtain ⟨_, _, _, e, q1, q2, _⟩ := r3; cases e; omega
  have m4 : nM ≤ 9223372036854775807 := by obtain ⟨_, _, _, e, q1, q2, _⟩ := r4; cases e; omega
  have N1 := Lib.hid hnP
  have N2 := Lib.hid hnI
  have N3 := Lib.hid hnF
  have N4 := Lib.hid hnM
  clear hnP hnI hnF hnM
  have hk : Kept w (w.alloc (.cells #[.int .i64 c.minor, .int .i64 c.major, .slice aP nP kP, .int .i64 c.access, .int .i64 c.this, .int .i64 c.super, .slice aI nI kI, .slice aF nF kF, .slice aM nM kM] 27)) := (Below.refl _ _).alloc (Nat.le_refl _) _
  have HK := Lib.hid hk
  have HPP := Lib.hid (r1.kept hk)
  have HII := Lib.hid (r2.kept hk)
  have HFF := Lib.hid (r3.kept hk)
  have HMM := Lib.hid (r4.kept hk)
  have HRR := Lib.hid (fun x hx => (h.r x hx).kept hk)
  clear r1 r2 r3 r4
  have HB := Lib.hid (Blk.new w 27 #[.int .i64 c.minor, .int .i64 c.major, .slice aP nP kP, .int .i64 c.access, .int .i64 c.this, .int .i64 c.super, .slice aI nI kI, .slice aF nF kF, .slice aM nM kM])
  have HH := Lib.hid (show w.heap.size < (w.alloc (.cells #[.int .i64 c.minor, .int .i64 c.major, .slice aP nP kP, .int .i64 c.access, .int .i64 c.this, .int .i64 c.super, .slice aI nI kI, .slice aF nF kF, .slice aM nM kM] 27)).heap.size by simp)
  clear hk h
  go_enter Try.func11, Try.ntmps11
  go_upto_region 1 with fail
  generalize (w.alloc (.cells #[.int .i64 c.minor, .int .i64 c.major, .slice aP nP kP, .int .i64 c.access, .int .i64 c.this, .int .i64 c.super, .slice aI nI kI, .slice aF nF kF, .slice aM nM kM] 27)) = W at *
  have c0 := HB.out.cell 0
  have c1 := HB.out.cell 1
  have c2 := HB.out.cell 2
  have c3 := HB.out.cell 3
  have c4 := HB.out.cell 4
  have c5 := HB.out.cell 5
  have c6 := HB.out.cell 6
  have c7 := HB.out.cell 7
  have c8 := HB.out.cell 8
  simp only [List.getElem?_toArray, List.getElem?_cons_succ, List.getElem?_cons_zero] at c0 c1 c2 c3 c4 c5 c6 c7 c8
  have C := emit_long c mv _ _ _ _ W (HC.out.kept HK.out) _ Iff.rfl
  rw [← N1.out, ← N2.out, ← N3.out, ← N4.out] at C
  go_wp2_with fail
  refine C.mono ?_
  rintro e wz ⟨bL, rfl, hb, hk1⟩
  have HbL := Lib.hid hb
  have K1 := Lib.hid hk1
  have HBcz := Lib.hid (HB.out.kept hk1)
  clear hb hk1 C
  cases bL
  rotate_left
  · have HR : Hid (refusedC c = 2) := Lib.hid (if_pos (HbL.out.1 rfl))
    have HWR := Lib.hid (write_refused (c := c) (by rw [HR.out]; decide))
    go_wp2_with fail
    go_returns
    exact ⟨.slice none 0 0, by rw [HWR.out, HR.out]; rfl, by rw [HWR.out]; exact BW.nil _ _, Kept.trans HK.out K1.out⟩
  have HL := Lib.hid (show ¬ longC c from fun e => by have := HbL.out.2 e; cases this)
  clear HbL
  have l1 : nP ≤ 1024 := by have := HL.out; unfold longC at this; have := N1.out; omega
  have l2 : nI ≤ 64 := by have := HL.out; unfold longC at this; have := N2.out; omega
  have l3 : nF ≤ 64 := by have := HL.out; unfold longC at this; have := N3.out; omega
  have l4 : nM ≤ 64 := by have := HL.out; unfold longC at this; have := N4.out; have h0 : c.methods.length = mv.length := by rw [HMS.out, List.length_map]
                          omega
  have cz2 := K1.out.cell c2
  have hmm := @run_makeMap Try.prog
  go_upto_region 4 with fail
  clear hmm
  obtain ⟨bm, hbm⟩ : ∃ b, b = wz.heap.size := ⟨_, rfl⟩
  obtain ⟨g, hg⟩ : ∃ b, b = wz.heap.size + 1 := ⟨_, rfl⟩
  have hws : WS [] g bm 0 [] 0 ((wz.alloc (.map #[] 0)).alloc (.cells #[.slice none 0 0, .map (some wz.heap.size), .int .i64 0] 57)) := by
    subst hbm
    subst hg
    refine ⟨⟨.slice none 0 0, ⟨?_, World.ownsRow_nil _ _ _ _⟩⟩, ⟨_, (Dict.made Try.prog 61 encK wz).kept ((Below.refl _ _).alloc (Nat.le_refl _) _), IdxD.nil⟩, by omega⟩
    exact (show wz.heap.size + 1 = (wz.alloc (.map #[] 0)).heap.size by simp) ▸ Blk.new _ _ _
  have hkz : Kept wz ((wz.alloc (.map #[] 0)).alloc (.cells #[.slice none 0 0, .map (some wz.heap.size), .int .i64 0] 57)) := ((Below.refl _ _).alloc (Nat.le_refl _) _).alloc (by simp) _
  have HS0 := Lib.hid hws
  have HKZ := Lib.hid hkz
  have HG := Lib.hid hg
  have HBM := Lib.hid hbm
  have c2 := hkz.cell cz2
  clear hws hkz
  rw [← hbm] at hg
  rw [← hbm, ← hg]
  rw [← hbm] at HS0 HKZ c2
  clear hg hbm
  generalize ((wz.alloc (.map #[] 0)).alloc (.cells #[.slice none 0 0, .map (some bm), .int .i64 0] 57)) = wy at *
  go_wp2_with fail
  go_loopw [34] (fun s wr => ∃ k : Nat, k ≤ nP ∧ s = .int .i64 k ∧ WS (c.pool.take k) g bm k [] 0 wr ∧ Kept wz wr ∧ (∀ x ∈ c.pool.take k, kindC x.tag)) (fun s _ => nP - (intOf s).toNat)
  case atStart => exact ⟨0, Nat.zero_le _, rfl, HS0.out, HKZ.out, by simp⟩
  case round =>
    obtain ⟨k, hk, rfl, hw, hkw, ha⟩ := hrel
    have HA := Lib.hid ha
    have HW := Lib.hid hw
    have HKW := Lib.hid hkw
    have hkW := Kept.trans K1.out hkw
    clear ha hw hkw
    by_cases hlt : k < nP
    · skip
      obtain ⟨x, hx⟩ : ∃ x, c.pool[k]? = some x := ⟨_, List.getElem?_eq_getElem (by have := N1.out; omega)⟩
      obtain ⟨b1, o1, d1, hv1, e0, e1, e2, e3, e4⟩ := const_cells N1.out (HPP.out.kept hkW) hx
      simp only [Value.slice.injEq] at hv1
      obtain ⟨rfl, -, rfl⟩ := hv1
      have hkI : (k : Int) < (nP : Int) := by omega
      have h0I : (0 : Int) ≤ (k : Int) := by omega
      have HX := Lib.hid hx
      clear hx
      clear hkW
      go_upto_region 7 with fail
      have HBx := Lib.hid (Blk.new wr 41 #[.int .i64 x.tag, .string x.text, .int .i64 x.num, .int .i64 x.a, .int .i64 x.b])
      have KWx := Lib.hid (Kept.trans HKW.out ((Below.refl _ wr).alloc (Nat.le_refl _) (.cells #[.int .i64 x.tag, .string x.text, .int .i64 x.num, .int .i64 x.a, .int .i64 x.b] 41)))
      have KNW2 : Hid (Kept wr (wr.alloc (.cells #[.int .i64 x.tag, .string x.text, .int .i64 x.num, .int .i64 x.a, .int .i64 x.b] 41))) := Lib.hid ((Below.refl _ wr).alloc (Nat.le_refl _) (.cells #[.int .i64 x.tag, .string x.text, .int .i64 x.num, .int .i64 x.a, .int .i64 x.b] 41))
      generalize (wr.alloc (.cells #[.int .i64 x.tag, .string x.text, .int .i64 x.num, .int .i64 x.a, .int .i64 x.b] 41)) = W2 at *
      have HW2 := Lib.hid (HW.out.kept KNW2.out)
      have p0 := HBx.out.cell 0
      have p1 := HBx.out.cell 1
      simp only [List.getElem?_toArray, List.getElem?_cons_succ, List.getElem?_cons_zero] at p0 p1
      have C := emit_parts x.tag W2
      by_cases hkd : kindC x.tag
      rotate_left
      · rw [parts_none hkd] at C
        have HR : Hid (refusedC c = 13) := Lib.hid (by
          unfold refusedC
          rw [if_neg HL.out]
          exact if_pos ⟨x, List.mem_of_getElem? HX.out, hkd⟩)
        have HWR := Lib.hid (write_refused (c := c) (by rw [HR.out]; decide))
        clear hkd
        go_wp2_with fail
        refine C.mono ?_
        rintro e w3 ⟨rfl, rfl⟩
        clear C
        go_wp2_with fail
        go_returns
        exact ⟨.slice none 0 0, by rw [HWR.out, HR.out]; rfl, by rw [HWR.out]; exact BW.nil _ _, Kept.trans HK.out (Kept.trans K1.out KWx.out)⟩
      obtain ⟨pa, pb, pc, pd, hpv⟩ := parts_kind hkd
      rw [hpv] at C
      have HKDx := Lib.hid hkd
      clear hpv hkd
      go_wp2_with fail
      refine C.mono ?_
      rintro e w3 ⟨rfl, rfl⟩
      clear C
      go_upto_region 11 with fail
      have HBk := Lib.hid (Blk.new W2 61 #[.int .i64 x.tag, .string x.text])
      have hk3 : Kept W2 (W2.alloc (.cells #[.int .i64 x.tag, .string x.text] 61)) := (Below.refl _ _).alloc (Nat.le_refl _) _
      have HW3 := Lib.hid (HW2.out.kept hk3)
      have KW3 := Lib.hid (Kept.trans KWx.out hk3)
      clear hk3
      generalize (W2.alloc (.cells #[.int .i64 x.tag, .string x.text] 61)) = W3 at *
      have q0 := HBk.out.cell 0
      have q1 := HBk.out.cell 1
      simp only [List.getElem?_toArray, List.getElem?_cons_succ, List.getElem?_cons_zero] at q0 q1
      have c1 := HW3.out.c1
      have hg3 := HW3.out.glt
      obtain ⟨f, hd, hi⟩ := HW3.out.dict
      obtain ⟨kl, hkl⟩ := keyE_some ⟨x.tag, x.text⟩ (by have := HKDx.out; unfold kindC at this; dsimp only; omega) (by have := HKDx.out; unfold kindC at this; dsimp only; omega) (HSZ.out x (List.mem_of_getElem? HX.out))
      have hlook : ∀ m, (Instr.lookup 55 (.map (some bm)) (.agg #[.int .i64 x.tag, .string x.text]) false).run Try.prog (W3.drewN m) = .ok (.int .i64 ((idxC (c.pool.take k) ⟨x.tag, x.text⟩ : Nat) : Int)) (W3.drewN m) := fun m => by
        have h0 := (hd.drewN m).look law_keyE Try.underlying55 (zeroI _) (a := ⟨x.tag, x.text⟩) hkl
        rw [hi] at h0
        exact h0
      have HD := Lib.hid hd
      have HI := Lib.hid hi
      have HKL := Lib.hid hkl
      obtain ⟨ix, hix⟩ : ∃ ix, ix = idxC (c.pool.take k) ⟨x.tag, x.text⟩ := ⟨_, rfl⟩
      rw [← hix] at hlook
      have HIX := Lib.hid hix
      have HTK := Lib.hid (show c.pool.take (k + 1) = c.pool.take k ++ [x] by rw [List.take_add_one, HX.out]; rfl)
      have HKS := Lib.hid (all_snoc HA.out HX.out HKDx.out)
      have HLK := Lib.hid (show (c.pool.take k).length = k by rw [List.length_take]; have := N1.out; omega)
      clear hd hi hkl hix
      by_cases hz : ix = 0
      · subst hz
        go_quiet (fail)
        go_upto_region 12 with fail
        have HW4 := Lib.hid (HW3.out.kept (kept_drewN (Below.refl _ W3) nq))
        have HD4 := Lib.hid (HD.out.drewN nq)
        have KW4 := Lib.hid (Kept.trans KW3.out (kept_drewN (Below.refl _ W3) nq))
        have c1 := HW4.out.c1
        have hg4 := HW4.out.glt
        have HBk4 := Lib.hid (HBk.out.drewN nq)
        have q0 := HBk4.out.cell 0
        have q1 := HBk4.out.cell 1
        simp only [List.getElem?_toArray, List.getElem?_cons_succ, List.getElem?_cons_zero] at q0 q1
        clear hlook hg3
        generalize W3.drewN nq = W4 at *
        have hwr : IntKind.i64.wrap ((k : Int) + 1) = (k : Int) + 1 := IntWalk.i64_in _ (by omega)
        go_still_tail 7, (by kernel_rfl)
        go_wp2_with (at_mapUpdate; refine wpl_mapset _ rfl _ _ _ 55 rfl HD4.out.drew law_keyE Try.underlying55 (by unfold maxLen; omega) rfl ⟨x.tag, x.text⟩ rfl _ rfl HKL.out (fun a h => encK_inj a _ h) ?_; intro w5 hd5 hg5; (try rw [hwr] at hd5); have HD5 := Lib.hid hd5; have HG5 := Lib.hid hg5; clear hd5 hg5)
        have HIN := Lib.hid (HI.out.new (x := x) HIX.out.symm)
        go_roundw
        case rel =>
          refine ⟨k + 1, by omega, by go_num, ?_, ?_, HKS.out⟩
          · rw [HTK.out]
            refine (HW4.out.kept (kept_drewN (Below.refl _ W4) 1)).map_ HG5.out HD5.out ?_
            have h0 := HIN.out
            rw [HLK.out] at h0
            exact h0
          · have ht : Touch (fun b => b = bm) W4 w5 := ((Touch.refl (fun b => b = bm) W4).drew).trans (Touch.of_grown (S := fun b => b = bm) HG5.out (fun k hk => by simpa using hk.symm)) fun b hb => .inl hb
            exact Below.trans KW4.out (ht.below (fun b hb => by have := HBM.out; omega) KW4.out.size)
        case measure => simp [intOf]; omega
      · have hz1 : (((ix : Nat) : Int) == 0) = false := by simp; omega
        have HZN := Lib.hid hz
        clear hz
        go_quiet (fail)
        go_wp2_with fail
        go_roundw
        case rel =>
          refine ⟨k + 1, by omega, by go_num, ?_, Kept.trans KW3.out (kept_drewN (Below.refl _ _) _), HKS.out⟩
          rw [HTK.out]
          have h0 := HW3.out.kept (kept_drewN (Below.refl _ W3) nq)
          exact ⟨h0.ew, ⟨f, (HD.out.drewN nq).mono (by omega), HI.out.old (by rw [← HIX.out]; exact HZN.out)⟩, h0.lt⟩
        case measure => simp [intOf]; omega
    · have HKD := Lib.hid (all_end HA.out (by have := N1.out; omega))
      have HKE := Lib.hid (show c.pool.take k = c.pool from List.take_of_length_le (by have := N1.out; omega))
      rw [HKE.out] at HW
      have hbw := HBcz.out.kept HKW.out
      have HBCr := Lib.hid hbw
      have cc0 := HBCr.out.cell 0
      have cc1 := HBCr.out.cell 1
      have cc2 := HBCr.out.cell 2
      have cc3 := HBCr.out.cell 3
      have cc4 := HBCr.out.cell 4
      have cc5 := HBCr.out.cell 5
      have cc6 := HBCr.out.cell 6
      have cc7 := HBCr.out.cell 7
      have cc8 := HBCr.out.cell 8
      simp only [List.getElem?_toArray, List.getElem?_cons_succ, List.getElem?_cons_zero] at cc0 cc1 cc2 cc3 cc4 cc5 cc6 cc7 cc8
      have C := emit_args c mv _ _ _ _ wr (HC.out.kept (Kept.trans HK.out hkW)) HKD.out _ Iff.rfl
      rw [← N1.out, ← N2.out, ← N3.out, ← N4.out] at C
      obtain ⟨nn, hnn⟩ : ∃ n, n = k := ⟨_, rfl⟩
      rw [← hnn] at HW
      clear hnn hbw hkW
      go_wp2_with fail
      refine C.mono ?_
      rintro e w0 ⟨bA, rfl, hb, hkA⟩
      have HbA := Lib.hid hb
      have KA := Lib.hid (Kept.trans HKW.out hkA)
      have HS0 := Lib.hid (HW.out.kept hkA)
      have HBc0 := Lib.hid (HBCr.out.kept hkA)
      clear hb hkA C hlt HKW HW HA
      cases bA
      · have HR : Hid (refusedC c = 1) := Lib.hid (by
          unfold refusedC
          rw [if_neg HL.out, if_neg (fun ⟨k, hk, hn⟩ => hn (HKD.out k hk))]
          exact if_pos fun e => by have := HbA.out.2 e; cases this)
        have HWR := Lib.hid (write_refused (c := c) (by rw [HR.out]; decide))
        go_wp2_with fail
        go_returns
        exact ⟨.slice none 0 0, by rw [HWR.out, HR.out]; rfl, by rw [HWR.out]; exact BW.nil _ _, Kept.trans HK.out (Kept.trans K1.out KA.out)⟩
      have HAR := Lib.hid (HbA.out.1 rfl)
      have HRF := Lib.hid (refused_go HL.out HKD.out (HbA.out.1 rfl))
      clear HbA
      have HT0 := Lib.hid (TY.refl (GG g) (g + 1) w0)
      have BK := Lib.hid (fun (x : World) (h : TY (GG g) (g + 1) w0 x) => (Below.trans KA.out (h.below (B := wz.heap.size) (by have := HG.out; have := HBM.out; omega) (fun b e => by have := HG.out; have := HBM.out; unfold GG at e; omega) KA.out.size) : Kept wz x))
      have HGC := Lib.hid (show ¬ w.heap.size = g by have := HG.out; have := HBM.out; have := K1.out.size; have := HH.out; omega)
      have HL0 : Hid (([] : List UInt8).length ≤ 0 + 0) := Lib.hid (by decide)
      have cc0 := HBc0.out.cell 0
      have cc1 := HBc0.out.cell 1
      have cc2 := HBc0.out.cell 2
      have cc3 := HBc0.out.cell 3
      have cc4 := HBc0.out.cell 4
      have cc5 := HBc0.out.cell 5
      have cc6 := HBc0.out.cell 6
      have cc7 := HBc0.out.cell 7
      have cc8 := HBc0.out.cell 8
      simp only [List.getElem?_toArray, List.getElem?_cons_succ, List.getElem?_cons_zero] at cc0 cc1 cc2 cc3 cc4 cc5 cc6 cc7 cc8
      have C := emit_put4 c.pool g bm nn ([]) 0 (3405691582) w0 HS0.out (by have := HL0.out; omega)
      go_wp2_with fail
      refine C.mono ?_
      rintro e w1 ⟨rfl, h6, h7⟩
      have HS1 := Lib.hid h6
      have HT1 := Lib.hid (HT0.out.trans h7)
      have HBc1 := Lib.hid (h7.blk HBc0.out (by unfold GG; exact HGC.out) (by decide))
      have HL1 : Hid (([] ++ beB 4 (3405691582)).length ≤ 0 + 4) := Lib.hid (by have := HL0.out; simp only [List.length_append, twoB_len, beB_length, List.length_cons, List.length_nil] at this ⊢; omega)
      clear h6 h7 C
      have cc0 := HBc1.out.cell 0
      have cc1 := HBc1.out.cell 1
      have cc2 := HBc1.out.cell 2
      have cc3 := HBc1.out.cell 3
      have cc4 := HBc1.out.cell 4
      have cc5 := HBc1.out.cell 5
      have cc6 := HBc1.out.cell 6
      have cc7 := HBc1.out.cell 7
      have cc8 := HBc1.out.cell 8
      simp only [List.getElem?_toArray, List.getElem?_cons_succ, List.getElem?_cons_zero] at cc0 cc1 cc2 cc3 cc4 cc5 cc6 cc7 cc8
      have C := emit_put2 c.pool g bm nn ([] ++ beB 4 (3405691582)) 0 [c.minor, c.major, (nP : Int) + 1] w1 HS1.out (by have := HL1.out; simp only [List.length_cons, List.length_nil]; omega)
      go_wp2_with fail
      refine C.mono ?_
      rintro e w2 ⟨rfl, h6, h7⟩
      have HS2 := Lib.hid h6
      have HT2 := Lib.hid (HT1.out.trans h7)
      have HBc2 := Lib.hid (h7.blk HBc1.out (by unfold GG; exact HGC.out) (by decide))
      have HL2 : Hid (([] ++ beB 4 (3405691582) ++ twoB [c.minor, c.major, (nP : Int) + 1]).length ≤ 0 + 10) := Lib.hid (by have := HL1.out; simp only [List.length_append, twoB_len, beB_length, List.length_cons, List.length_nil] at this ⊢; omega)
      clear h6 h7 C
      have cc0 := HBc2.out.cell 0
      have cc1 := HBc2.out.cell 1
      have cc2 := HBc2.out.cell 2
      have cc3 := HBc2.out.cell 3
      have cc4 := HBc2.out.cell 4
      have cc5 := HBc2.out.cell 5
      have cc6 := HBc2.out.cell 6
      have cc7 := HBc2.out.cell 7
      have cc8 := HBc2.out.cell 8
      simp only [List.getElem?_toArray, List.getElem?_cons_succ, List.getElem?_cons_zero] at cc0 cc1 cc2 cc3 cc4 cc5 cc6 cc7 cc8
      go_wp2_with fail
      obtain ⟨LH, hLH⟩ : ∃ x, x = [] ++ beB 4 (3405691582) ++ twoB [c.minor, c.major, (nP : Int) + 1] := ⟨_, rfl⟩
      have HLH := Lib.hid hLH
      rw [← hLH] at HS2 HL2
      clear hLH
      have HLD := Lib.hid (show ∀ j, (LH ++ (c.pool.take j).flatMap constB).length ≤ 70000000 from fun j => by
        have q1 := flat_leM (f := constB) 65540 (c.pool.take j) fun x hx => constB_len (HAR.out.2.2.2.2.2.2.1 x (List.mem_of_mem_take hx)).2.2.1
        have q2 := HL2.out
        have q3 : (c.pool.take j).length ≤ 1024 := by rw [List.length_take]; have := N1.out; omega
        rw [List.length_append]
        omega)
      go_loopw [90] (fun s wr => ∃ k : Nat, k ≤ nP ∧ s = .int .i64 k ∧ WS c.pool g bm nn (LH ++ (c.pool.take k).flatMap constB) 0 wr ∧ TY (GG g) (g + 1) w0 wr) (fun s _ => nP - (intOf s).toNat)
      case atStart => exact ⟨0, Nat.zero_le _, rfl, by simpa using HS2.out, HT2.out⟩
      case round =>
        obtain ⟨k, hk, rfl, hw, hty⟩ := hrel
        have HSr := Lib.hid hw
        have HTr := Lib.hid hty
        have HBcr := Lib.hid (hty.blk HBc0.out (by unfold GG; exact HGC.out) (by decide))
        have KW := Lib.hid (Kept.trans K1.out (BK.out _ hty))
        clear hw hty
        by_cases hlt : k < nP
        · skip
          obtain ⟨x, hx⟩ : ∃ x, c.pool[k]? = some x := ⟨_, List.getElem?_eq_getElem (by have := N1.out; omega)⟩
          obtain ⟨b1, o1, d1, hv1, e0, e1, e2, e3, e4⟩ := const_cells N1.out (HPP.out.kept KW.out) hx
          simp only [Value.slice.injEq] at hv1
          obtain ⟨rfl, -, rfl⟩ := hv1
          have hkI : (k : Int) < (nP : Int) := by omega
          have h0I : (0 : Int) ≤ (k : Int) := by omega
          have HX := Lib.hid hx
          clear hx
          obtain ⟨LC, hLC⟩ : ∃ y, y = LH ++ (c.pool.take k).flatMap constB := ⟨_, rfl⟩
          rw [← hLC] at HSr
          have HL20 : Hid (LC.length ≤ 70000000 + 0) := Lib.hid (by rw [hLC]; exact HLD.out k)
          have HCAT := Lib.hid (show LC ++ constB x = LH ++ (c.pool.take (k + 1)).flatMap constB by
            rw [hLC, List.append_assoc, List.take_add_one, HX.out, List.flatMap_append]
            simp)
          clear hLC
          have HGX := Lib.hid (show ¬ wr.heap.size = g by have := HSr.out.glt; omega)
          have HFX := Lib.hid (HAR.out.2.2.2.2.2.2.1 x (List.mem_of_getElem? HX.out)).2.2.1
          go_upto_region 21 with fail
          have hkn : Kept wr (wr.alloc (.cells #[.int .i64 x.tag, .string x.text, .int .i64 x.num, .int .i64 x.a, .int .i64 x.b] 41)) := (Below.refl _ wr).alloc (Nat.le_refl _) _
          have HBx20 := Lib.hid (Blk.new wr 41 #[.int .i64 x.tag, .string x.text, .int .i64 x.num, .int .i64 x.a, .int .i64 x.b])
          have HS20 := Lib.hid (HSr.out.kept hkn)
          have HT20 := Lib.hid (HTr.out.trans (TY.of_kept hkn))
          clear hkn HSr HTr HBcr
          generalize (wr.alloc (.cells #[.int .i64 x.tag, .string x.text, .int .i64 x.num, .int .i64 x.a, .int .i64 x.b] 41)) = w20 at *
          have xc0 := HBx20.out.cell 0
          have xc1 := HBx20.out.cell 1
          have xc2 := HBx20.out.cell 2
          have xc3 := HBx20.out.cell 3
          have xc4 := HBx20.out.cell 4
          simp only [List.getElem?_toArray, List.getElem?_cons_succ, List.getElem?_cons_zero] at xc0 xc1 xc2 xc3 xc4
          have C := emit_put1 c.pool g bm nn (LC) 0 (x.tag) w20 HS20.out (by have := HL20.out; omega)
          go_wp2_with fail
          refine C.mono ?_
          rintro e w21 ⟨rfl, h6, h7⟩
          have HS21 := Lib.hid h6
          have HT21 := Lib.hid (HT20.out.trans h7)
          have HBx21 := Lib.hid (h7.blk HBx20.out (by unfold GG; exact HGX.out) (by decide))
          have HL21 : Hid ((LC ++ beB 1 (x.tag)).length ≤ 70000000 + 1) := Lib.hid (by have := HL20.out; simp only [List.length_append, twoB_len, beB_length, List.length_cons, List.length_nil] at this ⊢; omega)
          clear h6 h7 C
          have xc0 := HBx21.out.cell 0
          have xc1 := HBx21.out.cell 1
          have xc2 := HBx21.out.cell 2
          have xc3 := HBx21.out.cell 3
          have xc4 := HBx21.out.cell 4
          simp only [List.getElem?_toArray, List.getElem?_cons_succ, List.getElem?_cons_zero] at xc0 xc1 xc2 xc3 xc4
          have C := emit_parts x.tag w21
          rcases HKD.out x (List.mem_of_getElem? HX.out) with hx | hx | hx | hx
          · have HV := Lib.hid hx
            rw [show partsV x.tag = #[.bool true, .bool false, .bool false, .bool false, .bool true] by unfold partsV; rw [hx]; rfl] at C
            clear hx
            go_wp2_with fail
            refine C.mono ?_
            rintro e wq ⟨rfl, rfl⟩
            clear C
            have C := emit_put2 c.pool g bm nn (LC ++ beB 1 (x.tag)) 0 [(x.text.size : Int)] w21 HS21.out (by have := HL21.out; simp only [List.length_cons, List.length_nil]; omega)
            go_wp2_with fail
            refine C.mono ?_
            rintro e w22 ⟨rfl, h6, h7⟩
            have HS22 := Lib.hid h6
            have HT22 := Lib.hid (HT21.out.trans h7)
            have HBx22 := Lib.hid (h7.blk HBx21.out (by unfold GG; exact HGX.out) (by decide))
            have HL22 : Hid ((LC ++ beB 1 (x.tag) ++ twoB [(x.text.size : Int)]).length ≤ 70000000 + 3) := Lib.hid (by have := HL21.out; simp only [List.length_append, twoB_len, beB_length, List.length_cons, List.length_nil] at this ⊢; omega)
            clear h6 h7 C
            have xc1 := HBx22.out.cell 1
            simp only [List.getElem?_toArray, List.getElem?_cons_succ, List.getElem?_cons_zero] at xc1
            obtain ⟨LL, hLL⟩ : ∃ yL, yL = LC ++ beB 1 (x.tag) ++ twoB [(x.text.size : Int)] := ⟨_, rfl⟩
            obtain ⟨vq, cq, heq⟩ := HS22.out.c0
            obtain ⟨aq, kq, rfl, -, -⟩ := own_slice heq.row
            rw [← hLL] at heq cq
            have HEQ := Lib.hid heq
            have HLL := Lib.hid hLL
            have HLn := Lib.hid (show LL.length ≤ 70000000 + 3 by rw [hLL]; exact HL22.out)
            have hgl := HS22.out.glt
            clear heq hLL
            go_wp2_with fail
            go_region_law (first
              | (refine step_appS _ elem_byte Try.underlying9 rfl (.tmp 119) (.tmp 121) rfl (g + 1) (.slice aq LL.length kq) LL.length (LL.map byteV) rfl HEQ.out.drew.row x.text rfl (by have := HLn.out; have := HFX.out; omega) hgl _ rfl ?_
                 intro a5 c5 w9 ho5 hg5 hk5
                 have y7 := (HEQ.out.drew.grow hg5).cell 0
                 simp only [List.getElem?_toArray, List.getElem?_cons_zero] at y7
                 have i7 := (HEQ.out.drew.grow hg5).frozen 0
                 have l7 := (HEQ.out.drew.grow hg5).lt
                 have HO5 := Lib.hid ho5
                 have HG5 := Lib.hid hg5
                 clear ho5 hg5 hk5))
            all_goals
              (rw [← HLL.out] at HS22
               have hps := WS.push (M := x.text.data.toList) HS22.out.drew HEQ.out.drew HG5.out rfl (by have h0 := HO5.out; exact h0)
               have HS23 : Hid (WS c.pool g bm nn (LL ++ x.text.data.toList) 0 (w9.setCell ⟨g, 0, none⟩ (.slice a5 (LL.length + x.text.size) c5))) := Lib.hid hps.1
               have htq := TY.trans ((TY.refl (GG g) (g + 1) w22).drew) hps.2
               have HT23 := Lib.hid (HT22.out.trans htq)
               have HBx23 := Lib.hid (htq.blk HBx22.out (by unfold GG; exact HGX.out) (by decide))
               have HL23 : Hid ((LL ++ x.text.data.toList).length ≤ 70000000 + 65538) := Lib.hid (by have q1 := HLn.out; have q2 := HFX.out; have q3 : x.text.data.toList.length = x.text.size := Array.length_toList; simp only [List.length_append] at q1 ⊢; omega)
               clear hps htq HO5 HG5 y7 i7 l7 HEQ HLn cq hgl
               generalize w9.setCell ⟨g, 0, none⟩ (.slice a5 (LL.length + x.text.size) c5) = w23 at *
               go_wp2_with fail
               go_roundw
               case rel => exact ⟨k + 1, by omega, by go_num, (HCAT.out ▸ (by have h0 := HS23.out; rw [HLL.out] at h0; simpa [constB, HV.out, twoB, List.append_assoc] using h0)), HT23.out⟩
               case measure => simp [intOf]; omega)
          · have HV := Lib.hid hx
            rw [show partsV x.tag = #[.bool false, .bool true, .bool false, .bool false, .bool true] by unfold partsV; rw [hx]; rfl] at C
            clear hx
            go_wp2_with fail
            refine C.mono ?_
            rintro e wq ⟨rfl, rfl⟩
            clear C
            have C := emit_put4 c.pool g bm nn (LC ++ beB 1 (x.tag)) 0 (x.num) w21 HS21.out (by have := HL21.out; omega)
            go_wp2_with fail
            refine C.mono ?_
            rintro e w22 ⟨rfl, h6, h7⟩
            have HS22 := Lib.hid h6
            have HT22 := Lib.hid (HT21.out.trans h7)
            have HBx22 := Lib.hid (h7.blk HBx21.out (by unfold GG; exact HGX.out) (by decide))
            have HL22 : Hid ((LC ++ beB 1 (x.tag) ++ beB 4 (x.num)).length ≤ 70000000 + 5) := Lib.hid (by have := HL21.out; simp only [List.length_append, twoB_len, beB_length, List.length_cons, List.length_nil] at this ⊢; omega)
            clear h6 h7 C
            have xc0 := HBx22.out.cell 0
            have xc1 := HBx22.out.cell 1
            have xc2 := HBx22.out.cell 2
            have xc3 := HBx22.out.cell 3
            have xc4 := HBx22.out.cell 4
            simp only [List.getElem?_toArray, List.getElem?_cons_succ, List.getElem?_cons_zero] at xc0 xc1 xc2 xc3 xc4
            go_wp2_with fail
            go_roundw
            case rel => exact ⟨k + 1, by omega, by go_num, (HCAT.out ▸ (by have h0 := HS22.out; simpa [constB, HV.out, twoB, List.append_assoc] using h0)), HT22.out⟩
            case measure => simp [intOf]; omega
          · have HV := Lib.hid hx
            rw [show partsV x.tag = #[.bool false, .bool false, .bool true, .bool false, .bool true] by unfold partsV; rw [hx]; rfl] at C
            clear hx
            go_wp2_with fail
            refine C.mono ?_
            rintro e wq ⟨rfl, rfl⟩
            clear C
            have C := emit_put2 c.pool g bm nn (LC ++ beB 1 (x.tag)) 0 [x.a] w21 HS21.out (by have := HL21.out; simp only [List.length_cons, List.length_nil]; omega)
            go_wp2_with fail
            refine C.mono ?_
            rintro e w22 ⟨rfl, h6, h7⟩
            have HS22 := Lib.hid h6
            have HT22 := Lib.hid (HT21.out.trans h7)
            have HBx22 := Lib.hid (h7.blk HBx21.out (by unfold GG; exact HGX.out) (by decide))
            have HL22 : Hid ((LC ++ beB 1 (x.tag) ++ twoB [x.a]).length ≤ 70000000 + 3) := Lib.hid (by have := HL21.out; simp only [List.length_append, twoB_len, beB_length, List.length_cons, List.length_nil] at this ⊢; omega)
            clear h6 h7 C
            have xc0 := HBx22.out.cell 0
            have xc1 := HBx22.out.cell 1
            have xc2 := HBx22.out.cell 2
            have xc3 := HBx22.out.cell 3
            have xc4 := HBx22.out.cell 4
            simp only [List.getElem?_toArray, List.getElem?_cons_succ, List.getElem?_cons_zero] at xc0 xc1 xc2 xc3 xc4
            go_wp2_with fail
            go_roundw
            case rel => exact ⟨k + 1, by omega, by go_num, (HCAT.out ▸ (by have h0 := HS22.out; simpa [constB, HV.out, twoB, List.append_assoc] using h0)), HT22.out⟩
            case measure => simp [intOf]; omega
          · have HV := Lib.hid hx
            rw [show partsV x.tag = #[.bool false, .bool false, .bool true, .bool true, .bool true] by unfold partsV; rw [if_neg (by omega), if_neg (by omega), if_neg (by omega), if_pos hx]] at C
            clear hx
            go_wp2_with fail
            refine C.mono ?_
            rintro e wq ⟨rfl, rfl⟩
            clear C
            have C := emit_put2 c.pool g bm nn (LC ++ beB 1 (x.tag)) 0 [x.a] w21 HS21.out (by have := HL21.out; simp only [List.length_cons, List.length_nil]; omega)
            go_wp2_with fail
            refine C.mono ?_
            rintro e w22 ⟨rfl, h6, h7⟩
            have HS22 := Lib.hid h6
            have HT22 := Lib.hid (HT21.out.trans h7)
            have HBx22 := Lib.hid (h7.blk HBx21.out (by unfold GG; exact HGX.out) (by decide))
            have HL22 : Hid ((LC ++ beB 1 (x.tag) ++ twoB [x.a]).length ≤ 70000000 + 3) := Lib.hid (by have := HL21.out; simp only [List.length_append, twoB_len, beB_length, List.length_cons, List.length_nil] at this ⊢; omega)
            clear h6 h7 C
            have xc0 := HBx22.out.cell 0
            have xc1 := HBx22.out.cell 1
            have xc2 := HBx22.out.cell 2
            have xc3 := HBx22.out.cell 3
            have xc4 := HBx22.out.cell 4
            simp only [List.getElem?_toArray, List.getElem?_cons_succ, List.getElem?_cons_zero] at xc0 xc1 xc2 xc3 xc4
            have C := emit_put2 c.pool g bm nn (LC ++ beB 1 (x.tag) ++ twoB [x.a]) 0 [x.b] w22 HS22.out (by have := HL22.out; simp only [List.length_cons, List.length_nil]; omega)
            go_wp2_with fail
            refine C.mono ?_
            rintro e w23 ⟨rfl, h6, h7⟩
            have HS23 := Lib.hid h6
            have HT23 := Lib.hid (HT22.out.trans h7)
            have HBx23 := Lib.hid (h7.blk HBx22.out (by unfold GG; exact HGX.out) (by decide))
            have HL23 : Hid ((LC ++ beB 1 (x.tag) ++ twoB [x.a] ++ twoB [x.b]).length ≤ 70000000 + 5) := Lib.hid (by have := HL22.out; simp only [List.length_append, twoB_len, beB_length, List.length_cons, List.length_nil] at this ⊢; omega)
            clear h6 h7 C
            have xc0 := HBx23.out.cell 0
            have xc1 := HBx23.out.cell 1
            have xc2 := HBx23.out.cell 2
            have xc3 := HBx23.out.cell 3
            have xc4 := HBx23.out.cell 4
            simp only [List.getElem?_toArray, List.getElem?_cons_succ, List.getElem?_cons_zero] at xc0 xc1 xc2 xc3 xc4
            have q1 : ¬ x.tag = 1 := by have := HV.out; omega
            have q3 : ¬ x.tag = 3 := by have := HV.out; omega
            have q7 : ¬ x.tag = 7 := by have := HV.out; omega
            have HQ := Lib.hid (And.intro q1 (And.intro q3 q7))
            clear q1 q3 q7
            go_wp2_with fail
            go_roundw
            case rel => exact ⟨k + 1, by omega, by go_num, (HCAT.out ▸ (by have h0 := HS23.out; simpa [constB, HQ.out.1, HQ.out.2.1, HQ.out.2.2, twoB, List.append_assoc] using h0)), HT23.out⟩
            case measure => simp [intOf]; omega
        · have HEN := Lib.hid (show c.pool.take k = c.pool from List.take_of_length_le (by have := N1.out; omega))
          rw [HEN.out] at HSr
          obtain ⟨LP, hLP⟩ : ∃ x, x = LH ++ c.pool.flatMap constB := ⟨_, rfl⟩
          rw [← hLP] at HSr
          have HLP := Lib.hid hLP
          have HL30 : Hid (LP.length ≤ 70000000 + 0) := Lib.hid (by have := HLD.out k; rw [HEN.out] at this; rw [hLP]; exact this)
          clear hLP HEN
          obtain ⟨w30, hren⟩ : ∃ x, x = wr := ⟨_, rfl⟩
          subst hren
          have HS30 := HSr
          have HT30 := HTr
          have HBc30 := HBcr
          obtain ⟨nv, hnv⟩ : ∃ z : Int, z = ((namedC c.pool valueS : Nat) : Int) := ⟨_, rfl⟩
          have HNV := Lib.hid hnv
          obtain ⟨nc, hnc⟩ : ∃ z : Int, z = ((namedC c.pool codeS : Nat) : Int) := ⟨_, rfl⟩
          have HNC := Lib.hid hnc
          have cc0 := HBc30.out.cell 0
          have cc1 := HBc30.out.cell 1
          have cc2 := HBc30.out.cell 2
          have cc3 := HBc30.out.cell 3
          have cc4 := HBc30.out.cell 4
          have cc5 := HBc30.out.cell 5
          have cc6 := HBc30.out.cell 6
          have cc7 := HBc30.out.cell 7
          have cc8 := HBc30.out.cell 8
          simp only [List.getElem?_toArray, List.getElem?_cons_succ, List.getElem?_cons_zero] at cc0 cc1 cc2 cc3 cc4 cc5 cc6 cc7 cc8
          clear HSr HTr HBcr hnv hnc
          have C := emit_put2 c.pool g bm nn (LP) 0 [c.access, c.this, c.super, (nI : Int)] w30 HS30.out (by have := HL30.out; simp only [List.length_cons, List.length_nil]; omega)
          go_wp2_with fail
          refine C.mono ?_
          rintro e w31 ⟨rfl, h6, h7⟩
          have HS31 := Lib.hid h6
          have HT31 := Lib.hid (HT30.out.trans h7)
          have HBc31 := Lib.hid (h7.blk HBc30.out (by unfold GG; exact HGC.out) (by decide))
          have HL31 : Hid ((LP ++ twoB [c.access, c.this, c.super, (nI : Int)]).length ≤ 70000000 + 8) := Lib.hid (by have := HL30.out; simp only [List.length_append, twoB_len, beB_length, List.length_cons, List.length_nil] at this ⊢; omega)
          clear h6 h7 C
          have cc0 := HBc31.out.cell 0
          have cc1 := HBc31.out.cell 1
          have cc2 := HBc31.out.cell 2
          have cc3 := HBc31.out.cell 3
          have cc4 := HBc31.out.cell 4
          have cc5 := HBc31.out.cell 5
          have cc6 := HBc31.out.cell 6
          have cc7 := HBc31.out.cell 7
          have cc8 := HBc31.out.cell 8
          simp only [List.getElem?_toArray, List.getElem?_cons_succ, List.getElem?_cons_zero] at cc0 cc1 cc2 cc3 cc4 cc5 cc6 cc7 cc8
          have C := emit_putR c.pool g bm nn (LP ++ twoB [c.access, c.this, c.super, (nI : Int)]) 0 c.ifaces nI N2.out (.slice aI nI kI) w31 HS31.out (HII.out.kept (Kept.trans K1.out (BK.out _ HT31.out))) (fun h0 k hk => by have := rd_blk HII.out (by decide) h0 k hk; have := K1.out.size; have := HG.out; have := HBM.out; omega) (by have := HL31.out; have := N2.out; omega)
          go_wp2_with fail
          refine C.mono ?_
          rintro e w32 ⟨rfl, h6, h7⟩
          have HS32 := Lib.hid h6
          have HT32 := Lib.hid (HT31.out.trans h7)
          have HBc32 := Lib.hid (h7.blk HBc31.out (by unfold GG; exact HGC.out) (by decide))
          have HL32 : Hid ((LP ++ twoB [c.access, c.this, c.super, (nI : Int)] ++ twoB c.ifaces).length ≤ 70000000 + 136) := Lib.hid (by have := HL31.out; have q2 := N2.out; simp only [List.length_append, twoB_len, beB_length, List.length_cons, List.length_nil] at this ⊢; omega)
          clear h6 h7 C
          have cc0 := HBc32.out.cell 0
          have cc1 := HBc32.out.cell 1
          have cc2 := HBc32.out.cell 2
          have cc3 := HBc32.out.cell 3
          have cc4 := HBc32.out.cell 4
          have cc5 := HBc32.out.cell 5
          have cc6 := HBc32.out.cell 6
          have cc7 := HBc32.out.cell 7
          have cc8 := HBc32.out.cell 8
          simp only [List.getElem?_toArray, List.getElem?_cons_succ, List.getElem?_cons_zero] at cc0 cc1 cc2 cc3 cc4 cc5 cc6 cc7 cc8
          have C := emit_put2 c.pool g bm nn (LP ++ twoB [c.access, c.this, c.super, (nI : Int)] ++ twoB c.ifaces) 0 [(nF : Int)] w32 HS32.out (by have := HL32.out; simp only [List.length_cons, List.length_nil]; omega)
          go_wp2_with fail
          refine C.mono ?_
          rintro e w33 ⟨rfl, h6, h7⟩
          have HS33 := Lib.hid h6
          have HT33 := Lib.hid (HT32.out.trans h7)
          have HBc33 := Lib.hid (h7.blk HBc32.out (by unfold GG; exact HGC.out) (by decide))
          have HL33 : Hid ((LP ++ twoB [c.access, c.this, c.super, (nI : Int)] ++ twoB c.ifaces ++ twoB [(nF : Int)]).length ≤ 70000000 + 138) := Lib.hid (by have := HL32.out; simp only [List.length_append, twoB_len, beB_length, List.length_cons, List.length_nil] at this ⊢; omega)
          clear h6 h7 C
          have cc0 := HBc33.out.cell 0
          have cc1 := HBc33.out.cell 1
          have cc2 := HBc33.out.cell 2
          have cc3 := HBc33.out.cell 3
          have cc4 := HBc33.out.cell 4
          have cc5 := HBc33.out.cell 5
          have cc6 := HBc33.out.cell 6
          have cc7 := HBc33.out.cell 7
          have cc8 := HBc33.out.cell 8
          simp only [List.getElem?_toArray, List.getElem?_cons_succ, List.getElem?_cons_zero] at cc0 cc1 cc2 cc3 cc4 cc5 cc6 cc7 cc8
          go_wp2_with fail
          obtain ⟨LF, hLF⟩ : ∃ x, x = LP ++ twoB [c.access, c.this, c.super, (nI : Int)] ++ twoB c.ifaces ++ twoB [(nF : Int)] := ⟨_, rfl⟩
          have HLF := Lib.hid hLF
          rw [← hLF] at HS33 HL33
          clear hLF hlt
          go_loopw [169] (fun s wr => ∃ (k : Nat) (fl : Int), k ≤ nF ∧ s = .int .i64 k ∧ WS c.pool g bm nn (LF ++ (c.fields.take k).flatMap (fieldB nv)) fl wr ∧ TY (GG g) (g + 1) w0 wr ∧ FlP fl ((∃ x ∈ c.fields.take k, x.value ≠ 0) ∧ nv = 0)) (fun s _ => nF - (intOf s).toNat)
          case atStart => exact ⟨0, 0, Nat.zero_le _, rfl, by simpa using HS33.out, HT33.out, FlP.no (by simp)⟩
          case round =>
            obtain ⟨k, fl, hk, rfl, hw, hty, hfl⟩ := hrel
            have HSr := Lib.hid hw
            have HTr := Lib.hid hty
            have HFL := Lib.hid hfl
            have HBcr := Lib.hid (hty.blk HBc0.out (by unfold GG; exact HGC.out) (by decide))
            have KW := Lib.hid (Kept.trans K1.out (BK.out _ hty))
            clear hw hty hfl
            by_cases hlt : k < nF
            · skip
              obtain ⟨x, hx⟩ : ∃ x, c.fields[k]? = some x := ⟨_, List.getElem?_eq_getElem (by have := N3.out; omega)⟩
              obtain ⟨b1, o1, d1, hv1, e0, e1, e2, e3⟩ := field_cells N3.out (HFF.out.kept KW.out) hx
              simp only [Value.slice.injEq] at hv1
              obtain ⟨rfl, -, rfl⟩ := hv1
              have hkI : (k : Int) < (nF : Int) := by omega
              have h0I : (0 : Int) ≤ (k : Int) := by omega
              have HX := Lib.hid hx
              clear hx
              obtain ⟨LC, hLC⟩ : ∃ y, y = LF ++ (c.fields.take k).flatMap (fieldB nv) := ⟨_, rfl⟩
              rw [← hLC] at HSr
              have HL60 : Hid (LC.length ≤ 71000000 + 0) := Lib.hid (by
                have q1 := flat_le (f := fieldB nv) 16 (fieldB_len nv) (c.fields.take k)
                have q2 := HL33.out
                have q3 : (c.fields.take k).length ≤ 64 := by rw [List.length_take]; omega
                rw [hLC, List.length_append]
                omega)
              have HCAT := Lib.hid (show LC ++ fieldB nv x = LF ++ (c.fields.take (k + 1)).flatMap (fieldB nv) by
                rw [hLC, List.append_assoc, List.take_add_one, HX.out, List.flatMap_append]
                simp)
              clear hLC
              have HGX := Lib.hid (show ¬ wr.heap.size = g by have := HSr.out.glt; omega)
              go_upto_region 39 with fail
              have hkn : Kept wr (wr.alloc (.cells #[.int .i64 x.access, .int .i64 x.name, .int .i64 x.desc, .int .i64 x.value] 51)) := (Below.refl _ wr).alloc (Nat.le_refl _) _
              have HBf60 := Lib.hid (Blk.new wr 51 #[.int .i64 x.access, .int .i64 x.name, .int .i64 x.desc, .int .i64 x.value])
              have HS60 := Lib.hid (HSr.out.kept hkn)
              have HT60 := Lib.hid (HTr.out.trans (TY.of_kept hkn))
              clear hkn HSr HTr HBcr
              generalize (wr.alloc (.cells #[.int .i64 x.access, .int .i64 x.name, .int .i64 x.desc, .int .i64 x.value] 51)) = w60 at *
              have fc0 := HBf60.out.cell 0
              have fc1 := HBf60.out.cell 1
              have fc2 := HBf60.out.cell 2
              have fc3 := HBf60.out.cell 3
              simp only [List.getElem?_toArray, List.getElem?_cons_succ, List.getElem?_cons_zero] at fc0 fc1 fc2 fc3
              have C := emit_put2 c.pool g bm nn (LC) fl [x.access, x.name, x.desc] w60 HS60.out (by have := HL60.out; simp only [List.length_cons, List.length_nil]; omega)
              go_wp2_with fail
              refine C.mono ?_
              rintro e w61 ⟨rfl, h6, h7⟩
              have HS61 := Lib.hid h6
              have HT61 := Lib.hid (HT60.out.trans h7)
              have HBf61 := Lib.hid (h7.blk HBf60.out (by unfold GG; exact HGX.out) (by decide))
              have HL61 : Hid ((LC ++ twoB [x.access, x.name, x.desc]).length ≤ 71000000 + 6) := Lib.hid (by have := HL60.out; simp only [List.length_append, twoB_len, beB_length, List.length_cons, List.length_nil] at this ⊢; omega)
              clear h6 h7 C
              have fc0 := HBf61.out.cell 0
              have fc1 := HBf61.out.cell 1
              have fc2 := HBf61.out.cell 2
              have fc3 := HBf61.out.cell 3
              simp only [List.getElem?_toArray, List.getElem?_cons_succ, List.getElem?_cons_zero] at fc0 fc1 fc2 fc3
              by_cases hv : x.value = 0
              · have HVV := Lib.hid hv
                have HFN := Lib.hid (HFL.out.same (q := (∃ y ∈ c.fields.take (k + 1), y.value ≠ 0) ∧ nv = 0) (by rw [any_more HX.out]; simp [hv]))
                rw [hv] at fc3
                clear hv
                have C := emit_put2 c.pool g bm nn (LC ++ twoB [x.access, x.name, x.desc]) fl [0] w61 HS61.out (by have := HL61.out; simp only [List.length_cons, List.length_nil]; omega)
                go_wp2_with fail
                refine C.mono ?_
                rintro e w62 ⟨rfl, h6, h7⟩
                have HS62 := Lib.hid h6
                have HT62 := Lib.hid (HT61.out.trans h7)
                have HL62 : Hid ((LC ++ twoB [x.access, x.name, x.desc] ++ twoB [0]).length ≤ 71000000 + 8) := Lib.hid (by have := HL61.out; simp only [List.length_append, twoB_len, beB_length, List.length_cons, List.length_nil] at this ⊢; omega)
                clear h6 h7 C
                go_wp2_with fail
                go_roundw
                case rel => exact ⟨k + 1, _, by omega, by go_num, (HCAT.out ▸ (by have h0 := HS62.out; simpa [fieldB, HVV.out, twoB, List.append_assoc] using h0)), HT62.out, HFN.out⟩
                case measure => simp [intOf]; omega
              have HVV := Lib.hid hv
              have hv1 : (x.value == 0) = false := by simpa using hv
              have HANY := Lib.hid (show (∃ y ∈ c.fields.take (k + 1), y.value ≠ 0) by rw [any_more HX.out]; exact .inr hv)
              clear hv
              have C := emit_utf8 c.pool g bm nn (LC ++ twoB [x.access, x.name, x.desc]) fl valueS (by decide) w61 HS61.out nv HNV.out
              obtain ⟨fl2, hfl2⟩ : ∃ z : Int, z = (if nv = 0 then 20 else fl) := ⟨_, rfl⟩
              unfold Utf8G at C
              rw [← hfl2] at C
              have HF2 := Lib.hid hfl2
              clear hfl2
              go_wp2_with fail
              refine C.mono ?_
              rintro e w62 ⟨rfl, h6, h7⟩
              have HS62 := Lib.hid h6
              have HT62 := Lib.hid (HT61.out.trans h7)
              have HBf62 := Lib.hid (h7.blk HBf61.out (by unfold GG; exact HGX.out) (by decide))
              have HL62 := HL61
              clear h6 h7 C
              have fc0 := HBf62.out.cell 0
              have fc1 := HBf62.out.cell 1
              have fc2 := HBf62.out.cell 2
              have fc3 := HBf62.out.cell 3
              simp only [List.getElem?_toArray, List.getElem?_cons_succ, List.getElem?_cons_zero] at fc0 fc1 fc2 fc3
              have C := emit_put2 c.pool g bm nn (LC ++ twoB [x.access, x.name, x.desc]) fl2 [1, nv] w62 HS62.out (by have := HL62.out; simp only [List.length_cons, List.length_nil]; omega)
              go_wp2_with fail
              refine C.mono ?_
              rintro e w63 ⟨rfl, h6, h7⟩
              have HS63 := Lib.hid h6
              have HT63 := Lib.hid (HT62.out.trans h7)
              have HBf63 := Lib.hid (h7.blk HBf62.out (by unfold GG; exact HGX.out) (by decide))
              have HL63 : Hid ((LC ++ twoB [x.access, x.name, x.desc] ++ twoB [1, nv]).length ≤ 71000000 + 10) := Lib.hid (by have := HL62.out; simp only [List.length_append, twoB_len, beB_length, List.length_cons, List.length_nil] at this ⊢; omega)
              clear h6 h7 C
              have fc0 := HBf63.out.cell 0
              have fc1 := HBf63.out.cell 1
              have fc2 := HBf63.out.cell 2
              have fc3 := HBf63.out.cell 3
              simp only [List.getElem?_toArray, List.getElem?_cons_succ, List.getElem?_cons_zero] at fc0 fc1 fc2 fc3
              have C := emit_put4 c.pool g bm nn (LC ++ twoB [x.access, x.name, x.desc] ++ twoB [1, nv]) fl2 (2) w63 HS63.out (by have := HL63.out; omega)
              go_wp2_with fail
              refine C.mono ?_
              rintro e w64 ⟨rfl, h6, h7⟩
              have HS64 := Lib.hid h6
              have HT64 := Lib.hid (HT63.out.trans h7)
              have HBf64 := Lib.hid (h7.blk HBf63.out (by unfold GG; exact HGX.out) (by decide))
              have HL64 : Hid ((LC ++ twoB [x.access, x.name, x.desc] ++ twoB [1, nv] ++ beB 4 (2)).length ≤ 71000000 + 14) := Lib.hid (by have := HL63.out; simp only [List.length_append, twoB_len, beB_length, List.length_cons, List.length_nil] at this ⊢; omega)
              clear h6 h7 C
              have fc0 := HBf64.out.cell 0
              have fc1 := HBf64.out.cell 1
              have fc2 := HBf64.out.cell 2
              have fc3 := HBf64.out.cell 3
              simp only [List.getElem?_toArray, List.getElem?_cons_succ, List.getElem?_cons_zero] at fc0 fc1 fc2 fc3
              have C := emit_put2 c.pool g bm nn (LC ++ twoB [x.access, x.name, x.desc] ++ twoB [1, nv] ++ beB 4 (2)) fl2 [x.value] w64 HS64.out (by have := HL64.out; simp only [List.length_cons, List.length_nil]; omega)
              go_wp2_with fail
              refine C.mono ?_
              rintro e w65 ⟨rfl, h6, h7⟩
              have HS65 := Lib.hid h6
              have HT65 := Lib.hid (HT64.out.trans h7)
              have HBf65 := Lib.hid (h7.blk HBf64.out (by unfold GG; exact HGX.out) (by decide))
              have HL65 : Hid ((LC ++ twoB [x.access, x.name, x.desc] ++ twoB [1, nv] ++ beB 4 (2) ++ twoB [x.value]).length ≤ 71000000 + 16) := Lib.hid (by have := HL64.out; simp only [List.length_append, twoB_len, beB_length, List.length_cons, List.length_nil] at this ⊢; omega)
              clear h6 h7 C
              have HFN := Lib.hid (HFL.out.more (q := (∃ y ∈ c.fields.take (k + 1), y.value ≠ 0) ∧ nv = 0) (z := nv) (fl2 := fl2) HF2.out (fun e => ⟨HANY.out, e⟩) (fun e => ⟨fun h => absurd h.2 e, fun h => absurd h.2 e⟩))
              go_wp2_with fail
              go_roundw
              case rel => exact ⟨k + 1, _, by omega, by go_num, (HCAT.out ▸ (by have h0 := HS65.out; simpa [fieldB, HVV.out, twoB, List.append_assoc] using h0)), HT65.out, HFN.out⟩
              case measure => simp [intOf]; omega
            · have HEN := Lib.hid (show c.fields.take k = c.fields from List.take_of_length_le (by have := N3.out; omega))
              rw [HEN.out] at HSr HFL
              obtain ⟨LG, hLG⟩ : ∃ x, x = LF ++ c.fields.flatMap (fieldB nv) := ⟨_, rfl⟩
              rw [← hLG] at HSr
              have HLG := Lib.hid hLG
              have HL80 : Hid (LG.length ≤ 71000000 + 0) := Lib.hid (by
                have q1 := flat_le (f := fieldB nv) 16 (fieldB_len nv) c.fields
                have q2 := HL33.out
                have q3 := N3.out
                rw [hLG, List.length_append]
                omega)
              clear hLG HEN
              obtain ⟨w80, hren⟩ : ∃ x, x = wr := ⟨_, rfl⟩
              subst hren
              obtain ⟨flF, hren⟩ : ∃ x, x = fl := ⟨_, rfl⟩
              subst hren
              have HS80 := HSr
              have HT80 := HTr
              have HBc80 := HBcr
              have cc0 := HBc80.out.cell 0
              have cc1 := HBc80.out.cell 1
              have cc2 := HBc80.out.cell 2
              have cc3 := HBc80.out.cell 3
              have cc4 := HBc80.out.cell 4
              have cc5 := HBc80.out.cell 5
              have cc6 := HBc80.out.cell 6
              have cc7 := HBc80.out.cell 7
              have cc8 := HBc80.out.cell 8
              simp only [List.getElem?_toArray, List.getElem?_cons_succ, List.getElem?_cons_zero] at cc0 cc1 cc2 cc3 cc4 cc5 cc6 cc7 cc8
              clear HSr HTr HBcr
              have C := emit_put2 c.pool g bm nn (LG) flF [(nM : Int)] w80 HS80.out (by have := HL80.out; simp only [List.length_cons, List.length_nil]; omega)
              go_wp2_with fail
              refine C.mono ?_
              rintro e w81 ⟨rfl, h6, h7⟩
              have HS81 := Lib.hid h6
              have HT81 := Lib.hid (HT80.out.trans h7)
              have HBc81 := Lib.hid (h7.blk HBc80.out (by unfold GG; exact HGC.out) (by decide))
              have HL81 : Hid ((LG ++ twoB [(nM : Int)]).length ≤ 71000000 + 2) := Lib.hid (by have := HL80.out; simp only [List.length_append, twoB_len, beB_length, List.length_cons, List.length_nil] at this ⊢; omega)
              clear h6 h7 C
              have cc0 := HBc81.out.cell 0
              have cc1 := HBc81.out.cell 1
              have cc2 := HBc81.out.cell 2
              have cc3 := HBc81.out.cell 3
              have cc4 := HBc81.out.cell 4
              have cc5 := HBc81.out.cell 5
              have cc6 := HBc81.out.cell 6
              have cc7 := HBc81.out.cell 7
              have cc8 := HBc81.out.cell 8
              simp only [List.getElem?_toArray, List.getElem?_cons_succ, List.getElem?_cons_zero] at cc0 cc1 cc2 cc3 cc4 cc5 cc6 cc7 cc8
              go_wp2_with fail
              obtain ⟨LM, hLM⟩ : ∃ x, x = LG ++ twoB [(nM : Int)] := ⟨_, rfl⟩
              have HLM := Lib.hid hLM
              rw [← hLM] at HS81 HL81
              clear hLM hlt
              have HFF2 := HFL
              have HALLM := Lib.hid (show ∀ x ∈ mv, x.1.traps.length ≤ 64 ∧ x.1.code.length ≤ 4096 from fun x hx => by
                have h0 := HL.out
                have h1 : x.1 ∈ c.methods := by rw [HMS.out]; exact List.mem_map.2 ⟨x, hx, rfl⟩
                constructor
                · rcases Nat.lt_or_ge 64 x.1.traps.length with hh | hh
                  · exact absurd (.inr (.inr (.inr (.inr ⟨x.1, h1, .inl hh⟩)))) h0
                  · exact hh
                · rcases Nat.lt_or_ge 4096 x.1.code.length with hh | hh
                  · exact absurd (.inr (.inr (.inr (.inr ⟨x.1, h1, .inr hh⟩)))) h0
                  · exact hh)
              go_loopw [211] (fun s wr => ∃ (k : Nat) (fl : Int), k ≤ nM ∧ s = .int .i64 k ∧ WS c.pool g bm nn (LM ++ (mv.take k).flatMap (fun x => methB nc x.1)) fl wr ∧ TY (GG g) (g + 1) w0 wr ∧ FlP fl (((∃ x ∈ c.fields, x.value ≠ 0) ∧ nv = 0) ∨ ((∃ x ∈ mv.take k, x.1.has = true) ∧ nc = 0))) (fun s _ => nM - (intOf s).toNat)
              case atStart => exact ⟨0, flF, Nat.zero_le _, rfl, by simpa using HS81.out, HT81.out, HFF2.out.same (by simp)⟩
              case round =>
                obtain ⟨k, fl, hk, rfl, hw, hty, hfl⟩ := hrel
                have HSr := Lib.hid hw
                have HTr := Lib.hid hty
                have HFm := Lib.hid hfl
                have HBcr := Lib.hid (hty.blk HBc0.out (by unfold GG; exact HGC.out) (by decide))
                have KW := Lib.hid (Kept.trans K1.out (BK.out _ hty))
                clear hw hty hfl
                have HLC0 : Hid ((LM ++ (mv.take k).flatMap (fun x => methB nc x.1)).length ≤ 72000000) := Lib.hid (by
                  have q1 := meths_len nc (mv.take k) fun x hx => HALLM.out x (List.mem_of_mem_take hx)
                  have q2 := HL81.out
                  have q3 : (mv.take k).length ≤ 64 := by rw [List.length_take]; have := N4.out; omega
                  rw [List.length_append]
                  omega)
                by_cases hlt : k < nM
                · obtain ⟨⟨m, vc, vt⟩, hx⟩ : ∃ x, mv[k]? = some x := ⟨_, List.getElem?_eq_getElem (by have := N4.out; omega)⟩
                  obtain ⟨b1, o1, d1, hv1, e0, e1, e2, e3, e4, e5, e6, e7⟩ := meth_cells N4.out (HMM.out.kept KW.out) hx
                  have hrm := HRR.out _ (List.mem_of_getElem? hx)
                  simp only [Value.slice.injEq] at hv1
                  obtain ⟨rfl, -, rfl⟩ := hv1
                  dsimp only at e0 e1 e2 e3 e4 e5 e6 e7 hrm
                  obtain ⟨lc, hlc⟩ : ∃ lc, lc = m.code.length := ⟨_, rfl⟩
                  obtain ⟨lt, hlt'⟩ : ∃ lt, lt = m.traps.length := ⟨_, rfl⟩
                  have hrc := hrm.code
                  have hrt := hrm.traps
                  clear hrm
                  rw [← hlc] at hrc
                  rw [← hlt'] at hrt
                  have HRc := Lib.hid hrc
                  have HRt := Lib.hid hrt
                  obtain ⟨_, ac, kc, rfl, -⟩ := hrc
                  obtain ⟨_, at_, kt, rfl, -⟩ := hrt
                  have hkI : (k : Int) < (nM : Int) := by omega
                  have h0I : (0 : Int) ≤ (k : Int) := by omega
                  have HX := Lib.hid hx
                  have HLC := Lib.hid hlc
                  have HLT := Lib.hid hlt'
                  have hc1 : lc ≤ 4096 := by rw [hlc]; exact (HALLM.out _ (List.mem_of_getElem? hx)).2
                  have ht1 : lt ≤ 64 := by rw [hlt']; exact (HALLM.out _ (List.mem_of_getElem? hx)).1
                  clear hx hlc hlt'
                  obtain ⟨LC, hLC⟩ : ∃ y, y = LM ++ (mv.take k).flatMap (fun x => methB nc x.1) := ⟨_, rfl⟩
                  rw [← hLC] at HSr HLC0
                  have HL100 : Hid (LC.length ≤ 72000000 + 0) := HLC0
                  have HCAT := Lib.hid (show LC ++ methB nc m = LM ++ (mv.take (k + 1)).flatMap (fun x => methB nc x.1) by
                    rw [hLC, List.append_assoc, List.take_add_one, HX.out, List.flatMap_append]
                    simp)
                  clear hLC
                  have HGX := Lib.hid (show ¬ wr.heap.size = g by have := HSr.out.glt; omega)
                  go_upto_region 50 with fail
                  have hkn : Kept wr (wr.alloc (.cells #[.int .i64 m.access, .int .i64 m.name, .int .i64 m.desc, .bool m.has, .int .i64 m.stack, .int .i64 m.locals, .slice ac lc kc, .slice at_ lt kt] 49)) := (Below.refl _ wr).alloc (Nat.le_refl _) _
                  have HBm100 := Lib.hid (Blk.new wr 49 #[.int .i64 m.access, .int .i64 m.name, .int .i64 m.desc, .bool m.has, .int .i64 m.stack, .int .i64 m.locals, .slice ac lc kc, .slice at_ lt kt])
                  have HS100 := Lib.hid (HSr.out.kept hkn)
                  have HT100 := Lib.hid (HTr.out.trans (TY.of_kept hkn))
                  clear hkn HSr HTr HBcr
                  generalize (wr.alloc (.cells #[.int .i64 m.access, .int .i64 m.name, .int .i64 m.desc, .bool m.has, .int .i64 m.stack, .int .i64 m.locals, .slice ac lc kc, .slice at_ lt kt] 49)) = w100 at *
                  have mc0 := HBm100.out.cell 0
                  have mc1 := HBm100.out.cell 1
                  have mc2 := HBm100.out.cell 2
                  have mc3 := HBm100.out.cell 3
                  have mc4 := HBm100.out.cell 4
                  have mc5 := HBm100.out.cell 5
                  have mc6 := HBm100.out.cell 6
                  have mc7 := HBm100.out.cell 7
                  simp only [List.getElem?_toArray, List.getElem?_cons_succ, List.getElem?_cons_zero] at mc0 mc1 mc2 mc3 mc4 mc5 mc6 mc7
                  have C := emit_put2 c.pool g bm nn (LC) fl [m.access, m.name, m.desc] w100 HS100.out (by have := HL100.out; simp only [List.length_cons, List.length_nil]; omega)
                  go_wp2_with fail
                  refine C.mono ?_
                  rintro e w101 ⟨rfl, h6, h7⟩
                  have HS101 := Lib.hid h6
                  have HT101 := Lib.hid (HT100.out.trans h7)
                  have HBm101 := Lib.hid (h7.blk HBm100.out (by unfold GG; exact HGX.out) (by decide))
                  have HL101 : Hid ((LC ++ twoB [m.access, m.name, m.desc]).length ≤ 72000000 + 6) := Lib.hid (by have := HL100.out; simp only [List.length_append, twoB_len, beB_length, List.length_cons, List.length_nil] at this ⊢; omega)
                  clear h6 h7 C
                  have mc0 := HBm101.out.cell 0
                  have mc1 := HBm101.out.cell 1
                  have mc2 := HBm101.out.cell 2
                  have mc3 := HBm101.out.cell 3
                  have mc4 := HBm101.out.cell 4
                  have mc5 := HBm101.out.cell 5
                  have mc6 := HBm101.out.cell 6
                  have mc7 := HBm101.out.cell 7
                  simp only [List.getElem?_toArray, List.getElem?_cons_succ, List.getElem?_cons_zero] at mc0 mc1 mc2 mc3 mc4 mc5 mc6 mc7
                  by_cases hh : m.has = true
                  rotate_left
                  · have hf : m.has = false := by cases hm : m.has <;> simp_all
                    have HHV := Lib.hid hf
                    have HFN := Lib.hid (HFm.out.same (q := ((∃ x ∈ c.fields, x.value ≠ 0) ∧ nv = 0) ∨ ((∃ x ∈ mv.take (k + 1), x.1.has = true) ∧ nc = 0)) (by rw [any_more HX.out]; simp [hf]))
                    rw [hf] at mc3
                    clear hf hh
                    have C := emit_put2 c.pool g bm nn (LC ++ twoB [m.access, m.name, m.desc]) fl [0] w101 HS101.out (by have := HL101.out; simp only [List.length_cons, List.length_nil]; omega)
                    go_wp2_with fail
                    refine C.mono ?_
                    rintro e w102 ⟨rfl, h6, h7⟩
                    have HS102 := Lib.hid h6
                    have HT102 := Lib.hid (HT101.out.trans h7)
                    have HL102 : Hid ((LC ++ twoB [m.access, m.name, m.desc] ++ twoB [0]).length ≤ 72000000 + 8) := Lib.hid (by have := HL101.out; simp only [List.length_append, twoB_len, beB_length, List.length_cons, List.length_nil] at this ⊢; omega)
                    clear h6 h7 C
                    go_wp2_with fail
                    go_roundw
                    case rel => exact ⟨k + 1, _, by omega, by go_num, (HCAT.out ▸ (by have h0 := HS102.out; simpa [methB, HHV.out, twoB, List.append_assoc] using h0)), HT102.out, HFN.out⟩
                    case measure => simp [intOf]; omega
                  have HHV := Lib.hid hh
                  have HANY := Lib.hid (show (∃ y ∈ mv.take (k + 1), y.1.has = true) by rw [any_more HX.out]; exact .inr hh)
                  rw [hh] at mc3
                  clear hh
                  have C := emit_utf8 c.pool g bm nn (LC ++ twoB [m.access, m.name, m.desc]) fl codeS (by decide) w101 HS101.out nc HNC.out
                  obtain ⟨fl2, hfl2⟩ : ∃ z : Int, z = (if nc = 0 then 20 else fl) := ⟨_, rfl⟩
                  unfold Utf8G at C
                  rw [← hfl2] at C
                  have HF2 := Lib.hid hfl2
                  clear hfl2
                  go_wp2_with fail
                  refine C.mono ?_
                  rintro e w102 ⟨rfl, h6, h7⟩
                  have HS102 := Lib.hid h6
                  have HT102 := Lib.hid (HT101.out.trans h7)
                  have HBm102 := Lib.hid (h7.blk HBm101.out (by unfold GG; exact HGX.out) (by decide))
                  have HL102 := HL101
                  clear h6 h7 C
                  have mc0 := HBm102.out.cell 0
                  have mc1 := HBm102.out.cell 1
                  have mc2 := HBm102.out.cell 2
                  have mc3 := HBm102.out.cell 3
                  have mc4 := HBm102.out.cell 4
                  have mc5 := HBm102.out.cell 5
                  have mc6 := HBm102.out.cell 6
                  have mc7 := HBm102.out.cell 7
                  simp only [List.getElem?_toArray, List.getElem?_cons_succ, List.getElem?_cons_zero] at mc0 mc1 mc2 mc3 mc4 mc5 mc6 mc7
                  have C := emit_put2 c.pool g bm nn (LC ++ twoB [m.access, m.name, m.desc]) fl2 [1, nc] w102 HS102.out (by have := HL102.out; simp only [List.length_cons, List.length_nil]; omega)
                  go_wp2_with fail
                  refine C.mono ?_
                  rintro e w103 ⟨rfl, h6, h7⟩
                  have HS103 := Lib.hid h6
                  have HT103 := Lib.hid (HT102.out.trans h7)
                  have HBm103 := Lib.hid (h7.blk HBm102.out (by unfold GG; exact HGX.out) (by decide))
                  have HL103 : Hid ((LC ++ twoB [m.access, m.name, m.desc] ++ twoB [1, nc]).length ≤ 72000000 + 10) := Lib.hid (by have := HL102.out; simp only [List.length_append, twoB_len, beB_length, List.length_cons, List.length_nil] at this ⊢; omega)
                  clear h6 h7 C
                  have mc0 := HBm103.out.cell 0
                  have mc1 := HBm103.out.cell 1
                  have mc2 := HBm103.out.cell 2
                  have mc3 := HBm103.out.cell 3
                  have mc4 := HBm103.out.cell 4
                  have mc5 := HBm103.out.cell 5
                  have mc6 := HBm103.out.cell 6
                  have mc7 := HBm103.out.cell 7
                  simp only [List.getElem?_toArray, List.getElem?_cons_succ, List.getElem?_cons_zero] at mc0 mc1 mc2 mc3 mc4 mc5 mc6 mc7
                  have C := emit_put4 c.pool g bm nn (LC ++ twoB [m.access, m.name, m.desc] ++ twoB [1, nc]) fl2 (8 + (lc : Int) + 2 + 8 * (lt : Int) + 2) w103 HS103.out (by have := HL103.out; omega)
                  go_wp2_with fail
                  refine C.mono ?_
                  rintro e w104 ⟨rfl, h6, h7⟩
                  have HS104 := Lib.hid h6
                  have HT104 := Lib.hid (HT103.out.trans h7)
                  have HBm104 := Lib.hid (h7.blk HBm103.out (by unfold GG; exact HGX.out) (by decide))
                  have HL104 : Hid ((LC ++ twoB [m.access, m.name, m.desc] ++ twoB [1, nc] ++ beB 4 (8 + (lc : Int) + 2 + 8 * (lt : Int) + 2)).length ≤ 72000000 + 14) := Lib.hid (by have := HL103.out; simp only [List.length_append, twoB_len, beB_length, List.length_cons, List.length_nil] at this ⊢; omega)
                  clear h6 h7 C
                  have mc0 := HBm104.out.cell 0
                  have mc1 := HBm104.out.cell 1
                  have mc2 := HBm104.out.cell 2
                  have mc3 := HBm104.out.cell 3
                  have mc4 := HBm104.out.cell 4
                  have mc5 := HBm104.out.cell 5
                  have mc6 := HBm104.out.cell 6
                  have mc7 := HBm104.out.cell 7
                  simp only [List.getElem?_toArray, List.getElem?_cons_succ, List.getElem?_cons_zero] at mc0 mc1 mc2 mc3 mc4 mc5 mc6 mc7
                  have C := emit_put2 c.pool g bm nn (LC ++ twoB [m.access, m.name, m.desc] ++ twoB [1, nc] ++ beB 4 (8 + (lc : Int) + 2 + 8 * (lt : Int) + 2)) fl2 [m.stack, m.locals] w104 HS104.out (by have := HL104.out; simp only [List.length_cons, List.length_nil]; omega)
                  go_wp2_with fail
                  refine C.mono ?_
                  rintro e w105 ⟨rfl, h6, h7⟩
                  have HS105 := Lib.hid h6
                  have HT105 := Lib.hid (HT104.out.trans h7)
                  have HBm105 := Lib.hid (h7.blk HBm104.out (by unfold GG; exact HGX.out) (by decide))
                  have HL105 : Hid ((LC ++ twoB [m.access, m.name, m.desc] ++ twoB [1, nc] ++ beB 4 (8 + (lc : Int) + 2 + 8 * (lt : Int) + 2) ++ twoB [m.stack, m.locals]).length ≤ 72000000 + 18) := Lib.hid (by have := HL104.out; simp only [List.length_append, twoB_len, beB_length, List.length_cons, List.length_nil] at this ⊢; omega)
                  clear h6 h7 C
                  have mc0 := HBm105.out.cell 0
                  have mc1 := HBm105.out.cell 1
                  have mc2 := HBm105.out.cell 2
                  have mc3 := HBm105.out.cell 3
                  have mc4 := HBm105.out.cell 4
                  have mc5 := HBm105.out.cell 5
                  have mc6 := HBm105.out.cell 6
                  have mc7 := HBm105.out.cell 7
                  simp only [List.getElem?_toArray, List.getElem?_cons_succ, List.getElem?_cons_zero] at mc0 mc1 mc2 mc3 mc4 mc5 mc6 mc7
                  have C := emit_put4 c.pool g bm nn (LC ++ twoB [m.access, m.name, m.desc] ++ twoB [1, nc] ++ beB 4 (8 + (lc : Int) + 2 + 8 * (lt : Int) + 2) ++ twoB [m.stack, m.locals]) fl2 ((lc : Int)) w105 HS105.out (by have := HL105.out; omega)
                  go_wp2_with fail
                  refine C.mono ?_
                  rintro e w106 ⟨rfl, h6, h7⟩
                  have HS106 := Lib.hid h6
                  have HT106 := Lib.hid (HT105.out.trans h7)
                  have HBm106 := Lib.hid (h7.blk HBm105.out (by unfold GG; exact HGX.out) (by decide))
                  have HL106 : Hid ((LC ++ twoB [m.access, m.name, m.desc] ++ twoB [1, nc] ++ beB 4 (8 + (lc : Int) + 2 + 8 * (lt : Int) + 2) ++ twoB [m.stack, m.locals] ++ beB 4 ((lc : Int))).length ≤ 72000000 + 22) := Lib.hid (by have := HL105.out; simp only [List.length_append, twoB_len, beB_length, List.length_cons, List.length_nil] at this ⊢; omega)
                  clear h6 h7 C
                  have mc0 := HBm106.out.cell 0
                  have mc1 := HBm106.out.cell 1
                  have mc2 := HBm106.out.cell 2
                  have mc3 := HBm106.out.cell 3
                  have mc4 := HBm106.out.cell 4
                  have mc5 := HBm106.out.cell 5
                  have mc6 := HBm106.out.cell 6
                  have mc7 := HBm106.out.cell 7
                  simp only [List.getElem?_toArray, List.getElem?_cons_succ, List.getElem?_cons_zero] at mc0 mc1 mc2 mc3 mc4 mc5 mc6 mc7
                  obtain ⟨LL, hLL⟩ : ∃ yL, yL = LC ++ twoB [m.access, m.name, m.desc] ++ twoB [1, nc] ++ beB 4 (8 + (lc : Int) + 2 + 8 * (lt : Int) + 2) ++ twoB [m.stack, m.locals] ++ beB 4 ((lc : Int)) := ⟨_, rfl⟩
                  obtain ⟨vq, cq, heq⟩ := HS106.out.c0
                  obtain ⟨aq, kq, rfl, -, -⟩ := own_slice heq.row
                  rw [← hLL] at heq cq
                  have HEQ := Lib.hid heq
                  have HLL := Lib.hid hLL
                  have HLn := Lib.hid (show LL.length ≤ 72000000 + 22 by rw [hLL]; exact HL106.out)
                  have hgl := HS106.out.glt
                  clear heq hLL
                  go_upto_region 57 with fail
                  go_cut [211] from 262 to 271 (fun s wx => s = .int .i64 k ∧ WS c.pool g bm nn (LL ++ m.code) fl2 wx ∧ TY (GG g) (g + 1) w106 wx)
                  case first =>
                    go_wp2_with fail
                    go_region_law (first
                      | (refine step_appR _ elem_byte rfl (.tmp 266) (.tmp 268) rfl (g + 1) (.slice aq LL.length kq) LL.length (LL.map byteV) rfl HEQ.out.drew.row _ lc _ rfl ((HRc.out.kept (Kept.trans K1.out (BK.out _ HT106.out))).kept (kept_drewN (Below.refl _ _) 1)) (byteV_one _) (by have := HLn.out; omega) (by have := HLn.out; omega) hgl _ rfl ?_
                         intro a5 c5 w9 ho5 hg5 hk5
                         have y7 := (HEQ.out.drew.grow hg5).cell 0
                         simp only [List.getElem?_toArray, List.getElem?_cons_zero] at y7
                         have i7 := (HEQ.out.drew.grow hg5).frozen 0
                         have l7 := (HEQ.out.drew.grow hg5).lt
                         have HO5 := Lib.hid ho5
                         have HG5 := Lib.hid hg5
                         clear ho5 hg5 hk5))
                    all_goals
                      (rw [← HLL.out] at HS106
                       have hps := WS.push (M := m.code) HS106.out.drew HEQ.out.drew HG5.out HLC.out (by have h0 := HO5.out; exact h0)
                       have HS107 : Hid (WS c.pool g bm nn (LL ++ m.code) fl2 (w9.setCell ⟨g, 0, none⟩ (.slice a5 (LL.length + lc) c5))) := Lib.hid hps.1
                       have htq := TY.trans ((TY.refl (GG g) (g + 1) w106).drew) hps.2
                       have HTQ := Lib.hid htq
                       have HT107 := Lib.hid (HT106.out.trans htq)
                       have HL107 : Hid ((LL ++ m.code).length ≤ 72000000 + 4118) := Lib.hid (by have q1 := HLn.out; have q2 := HLC.out; simp only [List.length_append] at q1 ⊢; omega)
                       clear hps htq HO5 HG5 y7 i7 l7 HEQ cq hgl
                       generalize w9.setCell ⟨g, 0, none⟩ (.slice a5 (LL.length + lc) c5) = w107 at *
                       go_wp2_with fail
                       go_meet
                       exact ⟨rfl, HS107.out, HTQ.out⟩)
                  case rest =>
                  obtain ⟨rfl, h6, h7⟩ := hcut
                  rename World => w107
                  have HS107 := Lib.hid h6
                  have HT107 := Lib.hid (HT106.out.trans h7)
                  have HBm107 := Lib.hid (h7.blk HBm106.out (by unfold GG; exact HGX.out) (by decide))
                  have HL107 : Hid ((LL ++ m.code).length ≤ 72000000 + 4118) := Lib.hid (by have q1 := HLn.out; have q2 := HLC.out; rw [List.length_append]; omega)
                  clear h6 h7 cq hgl HEQ
                  have mc0 := HBm107.out.cell 0
                  have mc1 := HBm107.out.cell 1
                  have mc2 := HBm107.out.cell 2
                  have mc3 := HBm107.out.cell 3
                  have mc4 := HBm107.out.cell 4
                  have mc5 := HBm107.out.cell 5
                  have mc6 := HBm107.out.cell 6
                  have mc7 := HBm107.out.cell 7
                  simp only [List.getElem?_toArray, List.getElem?_cons_succ, List.getElem?_cons_zero] at mc0 mc1 mc2 mc3 mc4 mc5 mc6 mc7
                  have C := emit_put2 c.pool g bm nn (LL ++ m.code) fl2 [(lt : Int)] w107 HS107.out (by have := HL107.out; simp only [List.length_cons, List.length_nil]; omega)
                  go_wp2_with fail
                  refine C.mono ?_
                  rintro e w108 ⟨rfl, h6, h7⟩
                  have HS108 := Lib.hid h6
                  have HT108 := Lib.hid (HT107.out.trans h7)
                  have HBm108 := Lib.hid (h7.blk HBm107.out (by unfold GG; exact HGX.out) (by decide))
                  have HL108 : Hid ((LL ++ m.code ++ twoB [(lt : Int)]).length ≤ 72000000 + 4120) := Lib.hid (by have := HL107.out; simp only [List.length_append, twoB_len, beB_length, List.length_cons, List.length_nil] at this ⊢; omega)
                  clear h6 h7 C
                  have mc0 := HBm108.out.cell 0
                  have mc1 := HBm108.out.cell 1
                  have mc2 := HBm108.out.cell 2
                  have mc3 := HBm108.out.cell 3
                  have mc4 := HBm108.out.cell 4
                  have mc5 := HBm108.out.cell 5
                  have mc6 := HBm108.out.cell 6
                  have mc7 := HBm108.out.cell 7
                  simp only [List.getElem?_toArray, List.getElem?_cons_succ, List.getElem?_cons_zero] at mc0 mc1 mc2 mc3 mc4 mc5 mc6 mc7
                  obtain ⟨wm, hren⟩ : ∃ x, x = wr := ⟨_, rfl⟩
                  subst hren
                  obtain ⟨km, hren⟩ : ∃ x, x = k := ⟨_, rfl⟩
                  subst hren
                  go_wp2_with fail
                  obtain ⟨LT, hLT⟩ : ∃ x, x = LL ++ m.code ++ twoB [(lt : Int)] := ⟨_, rfl⟩
                  have HLTT := Lib.hid hLT
                  rw [← hLT] at HS108 HL108
                  clear hLT
                  have HLD2 := Lib.hid (show ∀ j, (LT ++ (m.traps.take j).flatMap trapB).length ≤ 73000000 from fun j => by
                    have q1 := flat_le (f := trapB) 8 (fun _ => by simp [trapB, twoB_len]) (m.traps.take j)
                    have q2 := HL108.out
                    have q3 : (m.traps.take j).length ≤ 64 := by rw [List.length_take]; have := HLT.out; omega
                    rw [List.length_append]
                    omega)
                  go_loopw [281] (fun s wr => ∃ k : Nat, k ≤ lt ∧ s = .int .i64 k ∧ WS c.pool g bm nn (LT ++ (m.traps.take k).flatMap trapB) fl2 wr ∧ TY (GG g) (g + 1) w108 wr) (fun s _ => lt - (intOf s).toNat)
                  case atStart => exact ⟨0, Nat.zero_le _, rfl, by simpa using HS108.out, TY.refl _ _ _⟩
                  case round =>
                    obtain ⟨k, hk, rfl, hw, hty⟩ := hrel
                    have HSr := Lib.hid hw
                    have HTr := Lib.hid hty
                    have HTa := Lib.hid (HT108.out.trans hty)
                    have KWt := Lib.hid (Kept.trans K1.out (BK.out _ HTa.out))
                    clear hw hty
                    by_cases hltt : k < lt
                    · skip
                      obtain ⟨y, hx⟩ : ∃ x, m.traps[k]? = some x := ⟨_, List.getElem?_eq_getElem (by have := HLT.out; omega)⟩
                      obtain ⟨b2, o2, d2, hv1, g0, g1, g2, g3⟩ := trap_cell HLT.out (HRt.out.kept KWt.out) hx
                      simp only [Value.slice.injEq] at hv1
                      obtain ⟨rfl, -, rfl⟩ := hv1
                      have hkJ : (k : Int) < (lt : Int) := by omega
                      have h0J : (0 : Int) ≤ (k : Int) := by omega
                      have HY := Lib.hid hx
                      clear hx
                      obtain ⟨LU, hLU⟩ : ∃ z, z = LT ++ (m.traps.take k).flatMap trapB := ⟨_, rfl⟩
                      rw [← hLU] at HSr
                      have HL130 : Hid (LU.length ≤ 73000000 + 0) := Lib.hid (by rw [hLU]; exact HLD2.out k)
                      have HCU := Lib.hid (show LU ++ twoB [y.fr, y.to, y.at_, y.ty] = LT ++ (m.traps.take (k + 1)).flatMap trapB by
                        rw [hLU, List.append_assoc, List.take_add_one, HY.out, List.flatMap_append]
                        simp [trapB])
                      clear hLU
                      have HGY := Lib.hid (show ¬ wr.heap.size = g by have := HSr.out.glt; omega)
                      go_upto_region 62 with fail
                      have hkn : Kept wr (wr.alloc (.cells #[.int .i64 y.fr, .int .i64 y.to, .int .i64 y.at_, .int .i64 y.ty] 53)) := (Below.refl _ wr).alloc (Nat.le_refl _) _
                      have HBy130 := Lib.hid (Blk.new wr 53 #[.int .i64 y.fr, .int .i64 y.to, .int .i64 y.at_, .int .i64 y.ty])
                      have HS130 := Lib.hid (HSr.out.kept hkn)
                      have HT130 := Lib.hid (HTr.out.trans (TY.of_kept hkn))
                      clear hkn HSr HTr
                      generalize (wr.alloc (.cells #[.int .i64 y.fr, .int .i64 y.to, .int .i64 y.at_, .int .i64 y.ty] 53)) = w130 at *
                      have yc0 := HBy130.out.cell 0
                      have yc1 := HBy130.out.cell 1
                      have yc2 := HBy130.out.cell 2
                      have yc3 := HBy130.out.cell 3
                      simp only [List.getElem?_toArray, List.getElem?_cons_succ, List.getElem?_cons_zero] at yc0 yc1 yc2 yc3
                      have C := emit_put2 c.pool g bm nn (LU) fl2 [y.fr, y.to, y.at_, y.ty] w130 HS130.out (by have := HL130.out; simp only [List.length_cons, List.length_nil]; omega)
                      go_wp2_with fail
                      refine C.mono ?_
                      rintro e w131 ⟨rfl, h6, h7⟩
                      have HS131 := Lib.hid h6
                      have HT131 := Lib.hid (HT130.out.trans h7)
                      have HL131 : Hid ((LU ++ twoB [y.fr, y.to, y.at_, y.ty]).length ≤ 73000000 + 8) := Lib.hid (by have := HL130.out; simp only [List.length_append, twoB_len, beB_length, List.length_cons, List.length_nil] at this ⊢; omega)
                      clear h6 h7 C
                      go_wp2_with fail
                      go_roundw
                      case rel => exact ⟨k + 1, by omega, by go_num, HCU.out ▸ HS131.out, HT131.out⟩
                      case measure => simp [intOf]; omega
                    · have HEN := Lib.hid (show m.traps.take k = m.traps from List.take_of_length_le (by have := HLT.out; omega))
                      have HL140 : Hid ((LT ++ m.traps.flatMap trapB).length ≤ 73000000 + 0) := Lib.hid (by have := HLD2.out k; rw [HEN.out] at this; exact this)
                      rw [HEN.out] at HSr
                      obtain ⟨w140, hren⟩ : ∃ x, x = wr := ⟨_, rfl⟩
                      subst hren
                      have HS140 := HSr
                      have HT140 := HTa
                      clear HSr HTr HTa
                      have C := emit_put2 c.pool g bm nn (LT ++ m.traps.flatMap trapB) fl2 [0] w140 HS140.out (by have := HL140.out; simp only [List.length_cons, List.length_nil]; omega)
                      go_wp2_with fail
                      refine C.mono ?_
                      rintro e w141 ⟨rfl, h6, h7⟩
                      have HS141 := Lib.hid h6
                      have HT141 := Lib.hid (HT140.out.trans h7)
                      have HL141 : Hid ((LT ++ m.traps.flatMap trapB ++ twoB [0]).length ≤ 73000000 + 2) := Lib.hid (by have := HL140.out; simp only [List.length_append, twoB_len, beB_length, List.length_cons, List.length_nil] at this ⊢; omega)
                      clear h6 h7 C
                      have HFN := Lib.hid (HFm.out.more (q := ((∃ x ∈ c.fields, x.value ≠ 0) ∧ nv = 0) ∨ ((∃ x ∈ mv.take (km + 1), x.1.has = true) ∧ nc = 0)) (z := nc) (fl2 := fl2) HF2.out (fun e => .inr ⟨HANY.out, e⟩) (fun e => ⟨fun h => h.elim .inl fun h => absurd h.2 e, fun h => h.elim .inl fun h => absurd h.2 e⟩))
                      have hfin : LT ++ m.traps.flatMap trapB ++ twoB [0] = LC ++ methB nc m := by
                        have e1 : 12 + (m.code.length : Int) + 8 * (m.traps.length : Int) = 8 + (lc : Int) + 2 + 8 * (lt : Int) + 2 := by have := HLC.out; have := HLT.out; omega
                        have e2 : (m.code.length : Int) = (lc : Int) := by have := HLC.out; omega
                        have e3 : (m.traps.length : Int) = (lt : Int) := by have := HLT.out; omega
                        rw [HLTT.out, HLL.out]
                        unfold methB codeB
                        rw [if_pos HHV.out, e1, e2, e3]
                        simp [twoB, List.append_assoc]
                      have HFI := Lib.hid hfin
                      clear hfin
                      go_wp2_with fail
                      go_roundw
                      case rel => exact ⟨km + 1, _, by omega, by go_num, (HCAT.out ▸ HFI.out ▸ HS141.out), HT141.out, HFN.out⟩
                      case measure => simp [intOf]; omega
                · have HEN := Lib.hid (show mv.take k = mv from List.take_of_length_le (by have := N4.out; omega))
                  rw [HEN.out] at HSr HFm
                  have HL200 : Hid ((LM ++ mv.flatMap (fun x => methB nc x.1)).length ≤ 72000000 + 0) := Lib.hid (by have := HLC0.out; rw [HEN.out] at this; exact this)
                  obtain ⟨w200, hren⟩ : ∃ x, x = wr := ⟨_, rfl⟩
                  subst hren
                  have HS200 := HSr
                  have HT200 := HTr
                  have HLACK := Lib.hid (HFm.out.same (q := lackC c) (by
                    unfold lackC
                    have q1 : (∃ m ∈ c.methods, m.has = true) ↔ ∃ x ∈ mv, x.1.has = true := by
                      rw [HMS.out]
                      exact ⟨fun ⟨m, hm, h⟩ => (by obtain ⟨x, hx, rfl⟩ := List.mem_map.1 hm; exact ⟨x, hx, h⟩), fun ⟨x, hx, h⟩ => ⟨x.1, List.mem_map.2 ⟨x, hx, rfl⟩, h⟩⟩
                    have q2 : nv = 0 ↔ namedC c.pool valueS = 0 := by rw [HNV.out]; omega
                    have q3 : nc = 0 ↔ namedC c.pool codeS = 0 := by rw [HNC.out]; omega
                    rw [q1, q2, q3]))
                  clear HSr HTr HFm
                  have C := emit_put2 c.pool g bm nn (LM ++ mv.flatMap (fun x => methB nc x.1)) fl [0] w200 HS200.out (by have := HL200.out; simp only [List.length_cons, List.length_nil]; omega)
                  go_wp2_with fail
                  refine C.mono ?_
                  rintro e w201 ⟨rfl, h6, h7⟩
                  have HS201 := Lib.hid h6
                  have HT201 := Lib.hid (HT200.out.trans h7)
                  have HL201 : Hid ((LM ++ mv.flatMap (fun x => methB nc x.1) ++ twoB [0]).length ≤ 72000000 + 2) := Lib.hid (by have := HL200.out; simp only [List.length_append, twoB_len, beB_length, List.length_cons, List.length_nil] at this ⊢; omega)
                  clear h6 h7 C
                  obtain ⟨LZ, hLZ⟩ : ∃ y, y = LM ++ mv.flatMap (fun x => methB nc x.1) ++ twoB [0] := ⟨_, rfl⟩
                  rw [← hLZ] at HS201 HL201
                  have HALL := Lib.hid (show LZ = classB c by
                    rw [hLZ, HLM.out, HLG.out, HLF.out, HLP.out, HLH.out]
                    unfold classB
                    rw [HMS.out, List.length_map, List.flatMap_map, ← HNV.out, ← HNC.out, N1.out, N2.out, N3.out, N4.out]
                    simp [twoB, List.append_assoc])
                  clear hLZ
                  have c2 := HS201.out.c2
                  have hgl := HS201.out.glt
                  by_cases hlack : lackC c
                  · have hfl : fl = 20 := HLACK.out.1 hlack
                    have HWR := Lib.hid (write_refused (c := c) (by rw [HRF.out, if_pos hlack]; decide))
                    have HR := Lib.hid (show refusedC c = 20 by rw [HRF.out, if_pos hlack])
                    rw [hfl] at c2
                    clear hlack hfl hlt
                    go_wp2_with fail
                    go_quiet (fail)
                    go_wp2_with fail
                    go_returns
                    exact ⟨.slice none 0 0, by rw [HWR.out, HR.out]; rfl, by rw [HWR.out]; exact BW.nil _ _, Kept.trans HK.out (Kept.trans K1.out (kept_drewN (BK.out _ HT201.out) _))⟩
                  · have hfl : fl = 0 := HLACK.out.2 hlack
                    have HR := Lib.hid (show refusedC c = 0 by rw [HRF.out, if_neg hlack])
                    rw [hfl] at c2
                    obtain ⟨vq, cq, heq⟩ := HS201.out.c0
                    obtain ⟨aq, kq, rfl, -, -⟩ := own_slice heq.row
                    have HEQ := Lib.hid heq
                    have hln := HL201.out
                    clear hlack hfl heq hlt
                    by_cases hbig : 65536 < LZ.length
                    · have hbigI : (65536 : Int) < (LZ.length : Int) := by omega
                      have HW := Lib.hid (write_long (c := c) HR.out (by rw [← HALL.out]; exact hbig))
                      go_wp2_with fail
                      go_returns
                      exact ⟨.slice none 0 0, by rw [HW.out]; rfl, by rw [HW.out]; exact BW.nil _ _, Kept.trans HK.out (Kept.trans K1.out (BK.out _ HT201.out))⟩
                    · have hbigI : ¬ (65536 : Int) < (LZ.length : Int) := by omega
                      have HW := Lib.hid (write_all (c := c) HR.out (by rw [← HALL.out]; exact hbig))
                      go_wp2_with fail
                      go_returns
                      refine ⟨.slice aq LZ.length kq, by rw [HW.out]; rfl, ?_, Kept.trans HK.out (Kept.trans K1.out (BK.out _ HT201.out))⟩
                      rw [HW.out, ← HALL.out]
                      exact BW.mono (base := g + 1) HEQ.out.row (by have := HG.out; have := HBM.out; have := K1.out.size; have := HK.out.size; omega)
end Go.Proofs.Ytbalmfoboaapjaa
