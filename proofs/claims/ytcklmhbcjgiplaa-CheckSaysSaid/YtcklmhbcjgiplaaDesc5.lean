/-
  Descriptors by contract: desc.Kinds.
-/
import Derived.Test.YtcklmhbcjgiplaaDesc4
import Derived.Shelf.RegionOpen
namespace Go.Proofs.Ytcklmhbcjgiplaa
set_option linter.unusedVariables false
set_option linter.unusedSimpArgs false
open Go.RowKit Go.Shelf
set_option maxRecDepth 100000
attribute [local go_sem] Oper.semAt_some

theorem blk_at5 {w : World} {g : Nat} {t : TypeId} {cs : Array Value} (h : w.heap.size = g) : Blk (w.alloc (.cells cs t)) g t cs := h ▸ Blk.new w t cs
/-- What Kinds holds: the boxes of the letters, of the place, of whether all was good. -/
structure KS (w : World) (A : ByteArray) (e : Nat) (g : Bool) (X : Nat → Prop) (W : World) : Prop where
  ab : Blk W w.heap.size 9 #[.string A]
  na : ¬ X w.heap.size
  eb : Blk W (w.heap.size + 1) 3 #[.int .i64 e]
  ne : ¬ X (w.heap.size + 1)
  gb : Blk W (w.heap.size + 1 + 1) 4 #[.bool g]
  ng : ¬ X (w.heap.size + 1 + 1)
  kept : Kept w W
  ge : ∀ k, X k → w.heap.size ≤ k
section
variable {w : World} {A : ByteArray} {e : Nat} {g : Bool} {X X' : Nat → Prop} {W W' : World}
theorem KS.step (h : KS w A e g X W) (st : Step1 X W X' W') : KS w A e g X' W' := by
  have far : ∀ k, k < W.heap.size → ¬ X k → ¬ X' k := fun k hk hx hx' => by
    rcases st.new k hx' with h1 | ⟨h1, _⟩
    · exact hx h1
    · omega
  exact ⟨h.ab.touch st.touch h.na, far _ h.ab.lt h.na, h.eb.touch st.touch h.ne, far _ h.eb.lt h.ne, h.gb.touch st.touch h.ng, far _ h.gb.lt h.ng,
    Below.trans h.kept (st.touch.below h.ge h.kept.size), fun k hk => (st.new k hk).elim (h.ge k) (fun h1 => Nat.le_trans h.kept.size h1.1)⟩
theorem KS.putA (h : KS w A e g X W) (B : ByteArray) : KS w B e g X (W.setCell ⟨w.heap.size, 0, none⟩ (.string B)) ∧ Apart X W (W.setCell ⟨w.heap.size, 0, none⟩ (.string B)) := by
  have ht : Touch (fun k => k = w.heap.size) W (W.setCell ⟨w.heap.size, 0, none⟩ (.string B)) := (Touch.refl (fun k => k = w.heap.size) W).setCell (p := ⟨w.heap.size, 0, none⟩) (.inl rfl) _
  exact ⟨⟨by simpa using h.ab.set_ 0 (.string B), h.na, h.eb.touch ht (by omega), h.ne, h.gb.touch ht (by omega), h.ng, Below.trans h.kept (ht.below (fun b hb => by omega) h.kept.size), h.ge⟩, Apart.of_touch ht (fun k hk => hk ▸ h.na)⟩
theorem KS.putE (h : KS w A e g X W) (f : Nat) : KS w A f g X (W.setCell ⟨w.heap.size + 1, 0, none⟩ (.int .i64 f)) ∧ Apart X W (W.setCell ⟨w.heap.size + 1, 0, none⟩ (.int .i64 f)) := by
  have ht : Touch (fun k => k = w.heap.size + 1) W (W.setCell ⟨w.heap.size + 1, 0, none⟩ (.int .i64 f)) := (Touch.refl (fun k => k = w.heap.size + 1) W).setCell (p := ⟨w.heap.size + 1, 0, none⟩) (.inl rfl) _
  exact ⟨⟨h.ab.touch ht (by omega), h.na, by simpa using h.eb.set_ 0 (.int .i64 f), h.ne, h.gb.touch ht (by omega), h.ng, Below.trans h.kept (ht.below (fun b hb => by omega) h.kept.size), h.ge⟩, Apart.of_touch ht (fun k hk => hk ▸ h.ne)⟩
theorem KS.putG (h : KS w A e g X W) (q : Bool) : KS w A e q X (W.setCell ⟨w.heap.size + 1 + 1, 0, none⟩ (.bool q)) ∧ Apart X W (W.setCell ⟨w.heap.size + 1 + 1, 0, none⟩ (.bool q)) := by
  have ht : Touch (fun k => k = w.heap.size + 1 + 1) W (W.setCell ⟨w.heap.size + 1 + 1, 0, none⟩ (.bool q)) := (Touch.refl (fun k => k = w.heap.size + 1 + 1) W).setCell (p := ⟨w.heap.size + 1 + 1, 0, none⟩) (.inl rfl) _
  exact ⟨⟨h.ab.touch ht (by omega), h.na, h.eb.touch ht (by omega), h.ne, by simpa using h.gb.set_ 0 (.bool q), h.ng, Below.trans h.kept (ht.below (fun b hb => by omega) h.kept.size), h.ge⟩, Apart.of_touch ht (fun k hk => hk ▸ h.ng)⟩
theorem KS.drewN (h : KS w A e g X W) (n : Nat) : KS w A e g X (W.drewN n) := ⟨h.ab, h.na, h.eb, h.ne, h.gb, h.ng, kept_drewN h.kept n, h.ge⟩
theorem KS.drew (h : KS w A e g X W) : KS w A e g X W.drew := ⟨h.ab, h.na, h.eb, h.ne, h.gb, h.ng, kept_drewN h.kept 1, h.ge⟩
theorem Apart.drew5 (h : Apart X W W') : Apart X W W'.drew := ⟨h.size, h.same⟩
theorem KS.keep (h : KS w A e g X W) (hk : Kept W W') : KS w A e g X W' := ⟨h.ab.kept hk, h.na, h.eb.kept hk, h.ne, h.gb.kept hk, h.ng, Below.trans h.kept (hk.mono h.kept.size), h.ge⟩
end
theorem dd_ne {W : World} {D g : Nat} {t : TypeId} {cs : Array Value} {dd : Option (List Deferred)} (hb : Blk W g t cs) (hd : W.heap[D]? = some (.deferred dd)) (e : D = g) : False := by
  subst e
  unfold Blk at hb
  rw [hd] at hb
  cases hb
/-- The last store of the letters. -/
structure KEnd (w : World) (A : ByteArray) (D : Nat) (W : World) : Prop where
  ab : Blk W w.heap.size 9 #[.string A]
  kept : Kept w W
  dd : W.heap[D]? = some (.deferred (some []))
theorem kinds_put {w W : World} {A : ByteArray} {e D : Nat} {g : Bool} {X : Nat → Prop} (h : KS w A e g X W) (hd : W.heap[D]? = some (.deferred (some []))) : KEnd w A D (W.setCell ⟨w.heap.size, 0, none⟩ (.string A)).drew := by
  have hp := (h.putA A).1
  refine ⟨hp.ab, kept_drewN hp.kept 1, ?_⟩
  show (W.setCell ⟨w.heap.size, 0, none⟩ (.string A)).heap[D]? = _
  rw [Below.heap_setCell _ _ _ _ (fun e => dd_ne h.ab hd e)]
  exact hd
/-- Between two rounds. -/
def KI (w : World) (s : ByteArray) (pre : List (List UInt8)) (X : Nat → Prop) (W : World) : Prop :=
  ∃ (A : ByteArray) (e : Nat), KS w A e true X W ∧ 1 ≤ e ∧ e ≤ s.size ∧ A.size ≤ 16 ∧ Cuts pre (s.data.toList.drop e) (s.data.toList.drop 1) ∧ kgo 256 (s.data.toList.drop 1) [] = kgo 256 (s.data.toList.drop e) A.data.toList
/-- The loop was left. -/
def KX (w : World) (s : ByteArray) (c : Code) (pre : List (List UInt8)) (X : Nat → Prop) (W : World) : Prop :=
  c = .exit 0 ∧ ∃ (A : ByteArray) (e : Nat) (g : Bool), KS w A e g X W ∧ 1 ≤ e ∧
    ((g = false ∧ kgo 256 (s.data.toList.drop 1) [] = none) ∨ (g = true ∧ ∃ h : e < s.size, s[e]'h = 41 ∧ kgo 256 (s.data.toList.drop 1) [] = some (A.data.toList, s.data.toList.drop (e + 1))))
theorem KI.step {w W W' : World} {s : ByteArray} {pre : List (List UInt8)} {X X' : Nat → Prop} (h : KI w s pre X W) (st : Step1 X W X' W') : KI w s pre X' W' := by
  obtain ⟨A, e, h1, h2⟩ := h
  exact ⟨A, e, h1.step st, h2⟩
theorem KX.step {w W W' : World} {s : ByteArray} {c : Code} {pre : List (List UInt8)} {X X' : Nat → Prop} (h : KX w s c pre X W) (st : Step1 X W X' W') : KX w s c pre X' W' := by
  obtain ⟨h0, A, e, g, h1, h2⟩ := h
  exact ⟨h0, A, e, g, h1.step st, h2⟩
theorem KI.start {w W : World} {s : ByteArray} {k0 : Nat} (h : KS w ⟨#[]⟩ 1 true (fun _ => False) W) (hg : ∀ k, k = k0 → w.heap.size ≤ k) (hk : w.heap.size + 1 + 1 < k0) (hz : 0 < s.size) : KI w s [] (fun k => k = k0) W :=
  ⟨⟨#[]⟩, 1, ⟨h.ab, by omega, h.eb, by omega, h.gb, by omega, h.kept, fun k hk' => hg k hk'⟩, Nat.le_refl _, hz, by decide, rfl, rfl⟩
/-- The end: the blocks of the ranges' deferred calls are shut, the letters are read. -/
theorem kinds_leaves {w W : World} {A : ByteArray} {fn : Func} {n : Nat} {tmps : Array Value} {R : Ending → World → Prop} (Ds : List Nat) (hd : ∀ d ∈ Ds, W.heap[d]? = some (.deferred (some [])) ∧ w.heap.size ≤ d) (hp : Ds.Pairwise (· ≠ ·))
    (hb : Blk W w.heap.size 9 #[.string A]) (hk : Kept w W) (hr : ∀ W', Blk W' w.heap.size 9 #[.string A] → Kept w W' → ∃ v, (results fn tmps).run Try.prog W' = .ok v W' ∧ R (.returned v) W') :
    LeavesInM Fence.wide n Try.prog fn tmps R (Ds.map fun D => { target := .collected D, args := #[] }) .returning W := by
  refine leaves_collected (fun W' => Blk W' w.heap.size 9 #[.string A] ∧ Kept w W') Ds W hp (fun d h => (hd d h).1) ⟨hb, hk⟩ ?_ (fun W' h' => hr W' h'.1 h'.2)
  rintro D W' hD ⟨q1, q2⟩ q3
  have ht : Touch (fun k => k = D) W' (W'.putObj D (.deferred none)) := touch_putObj W' _ rfl
  refine ⟨q1.touch ht (fun e => ?_), Below.trans q2 (ht.below (fun b hb => by have := (hd D hD).2; omega) q2.size)⟩
  rw [← e, show W'.heap[w.heap.size]? = _ from q1] at q3
  cases q3
theorem kinds_end {w W' : World} {A r : ByteArray} {b : Bool} {v0 v1 : Value} {rest : List Value} {Q : Value} (hq : Q = .tuple #[.string A, .string r, .bool b]) (hb : Blk W' w.heap.size 9 #[.string A]) (hk : Kept w W') :
    ∃ v, (results Try.f63 ([v0, v1, .pointer (some ⟨w.heap.size, 0, none⟩), .string r, .bool b] ++ rest).toArray).run Try.prog W' = .ok v W' ∧ (Ending.returned v = Ending.returned Q ∧ Kept w W') := by
  subst hq
  have hc := hb.cell 0
  simp only [List.getElem?_toArray, List.getElem?_cons_zero] at hc
  exact ⟨_, by simp [results, Try.f63, go_sem, hc], rfl, hk⟩

set_option maxHeartbeats 2000000 in
theorem desc_Kinds_in (n : Nat) (hn : 4 ≤ n) (s : ByteArray) (w : World) (hs : s.size ≤ maxLen) :
    CallsIn Fence.wide n Try.prog 63 #[.string s] w fun e w' => e = .returned (resK (kindsL s.data.toList)) ∧ Kept w w' := by
  have h1 : 1 ≤ n := by omega
  have HS := Lib.hid hs
  unfold maxLen at hs
  refine callsIn_of_wp_marks Try.func63 rfl trivial ?_ rfl
  refine wpIn_wide.2 ?_
  simp only [Try.ntmps63, List.size_toArray, List.length_cons, List.length_nil, Nat.reduceAdd, Nat.reduceSub, Array.replicate_succ, Array.replicate_zero, List.push_toArray, List.append_toArray, List.nil_append, List.cons_append]
  have kA : Kept w (w.alloc (.cells #[.string ⟨#[]⟩] 9)) := (Below.refl _ _).alloc (Nat.le_refl _) _
  have bA : Blk (w.alloc (.cells #[.string ⟨#[]⟩] 9)) w.heap.size 9 #[.string ⟨#[]⟩] := Blk.new _ _ _
  have KA := Lib.hid kA
  have BA := Lib.hid bA
  clear kA bA
  by_cases hz : s.data.toList = []
  · obtain rfl : s = ⟨#[]⟩ := bytes_eq hz
    have HR := Lib.hid (show kindsL (ByteArray.mk #[]).data.toList = none from rfl)
    clear hz
    go_wp2_with fail
    go_step3
    go_wp2_with fail
    rw [Exit.noGoto_ret]
    refine kinds_leaves [] (by simp) (by simp) BA.out KA.out ?_
    intro W' r1 r2
    exact kinds_end (by rw [HR.out]; rfl) r1 r2
  have e0 := strl_nnil hz
  have e1 := strl_empty hz
  have hz0 : 0 < s.size := by
    rcases Nat.eq_zero_or_pos s.size with h0 | h0
    · exact absurd (List.eq_nil_of_length_eq_zero (by rw [size_list]; exact h0)) hz
    · exact h0
  clear hz
  cases h3 : (((s[0]'hz0).toNat : Int) == 40) with
  | false =>
    have h3' : (((s[0]'hz0).toNat : Int) != 40) = true := by unfold bne; rw [h3]; rfl
    have HR := Lib.hid (show kindsL s.data.toList = none from kinds_no (.inr (by
      rw [get_getD s 0 hz0]
      rw [u8_40] at h3
      simpa using h3)))
    go_wp2_with fail
    go_step3
    go_wp2_with fail
    rw [Exit.noGoto_ret]
    refine kinds_leaves [] (by simp) (by simp) BA.out KA.out ?_
    intro W' r1 r2
    exact kinds_end (by rw [HR.out]; rfl) r1 r2
  | true =>
    have h3' : (((s[0]'hz0).toNat : Int) != 40) = false := by unfold bne; rw [h3]; rfl
    by_cases h2 : 255 < s.size
    · have h2' : 255 < (s.size : Int) := by omega
      have HR := Lib.hid (show kindsL s.data.toList = none from kinds_no (.inl (by rw [size_list]; exact h2)))
      go_wp2_with fail
      go_step3
      go_wp2_with fail
      rw [Exit.noGoto_ret]
      refine kinds_leaves [] (by simp) (by simp) BA.out KA.out ?_
      intro W' r1 r2
      exact kinds_end (by rw [HR.out]; rfl) r1 r2
    · have h2' : ¬ 255 < (s.size : Int) := by omega
      have HK := Lib.hid (show kindsL s.data.toList = (match kgo 256 (s.data.toList.drop 1) [] with
          | none => none
          | some (a, q) => if q = [86] ∨ fldB q = true then some (a, q.take 1) else none) by
        have h4 := list_cons hz0
        have h5 := kinds_is (c := s[0]'hz0) (r := s.data.toList.drop 1) (by rw [← h4, size_list]; omega) (by rw [u8_40] at h3; simpa using h3)
        rw [← h4] at h5
        exact h5)
      have h2d : decide (255 < (s.size : Int)) = false := by simp; omega
      go_wp2_with fail
      go_step3
      go_wp2_with fail
      go_step3
      have kw0 : Kept w (((w.alloc (.cells #[.string ⟨#[]⟩] 9)).alloc (.cells #[.int .i64 1] 3)).alloc (.cells #[.bool true] 4)) := ((((Below.refl _ _).alloc (Nat.le_refl _) _).alloc (by simp) _)).alloc (by simp; omega) _
      have ks0 : KS w ⟨#[]⟩ 1 true (fun _ => False) (((w.alloc (.cells #[.string ⟨#[]⟩] 9)).alloc (.cells #[.int .i64 1] 3)).alloc (.cells #[.bool true] 4)) :=
        ⟨((Blk.new _ _ _).alloc _).alloc _, id, (blk_at5 (by simp)).alloc _, id, blk_at5 (by simp), id, kw0, fun _ => False.elim⟩
      generalize (((w.alloc (.cells #[.string ⟨#[]⟩] 9)).alloc (.cells #[.int .i64 1] 3)).alloc (.cells #[.bool true] 4)) = w0 at *
      have KW0 := Lib.hid kw0
      have KS0 := Lib.hid ks0
      clear kw0 ks0 KA BA
      have hz1I : (1 : Int) ≤ (s.size : Int) := by omega
      go_wp2_with fail
      refine (desc_parts _ _).mono ?_
      rintro e w1 ⟨rfl, hw1⟩
      have k1 : Kept w0 w1 := by rw [hw1]; exact (Below.refl _ _).alloc (Nat.le_refl _) _
      have b1 : Blk w1 w0.heap.size 9 #[.string (s.extract 1 s.size)] := by rw [hw1]; exact Blk.new _ _ _
      have K1 := Lib.hid k1
      have B1 := Lib.hid b1
      have KS1 := Lib.hid (KS0.out.keep k1)
      clear hw1 k1 b1
      go_wp2_with fail
      refine (wpIn_wide (n := n)).1 ?_
      refine wpIn_rangeFunc_X rfl h1 (gf := 94) (lb := #[.pointer (some ⟨w0.heap.size, 0, none⟩)]) rfl trivial (enters_of Try.func94 (by kernel_rfl) rfl)
        (enc := strE) (X0 := fun k => k = w0.heap.size)
        (fun o o' => parts_seq (n - 1) (by omega) (s.extract 1 s.size) _ w0.heap.size w.heap.size (fun k => k = w0.heap.size) (mid_size s _ _ HS.out) ((B1.out.alloc _).alloc _) rfl (fun k hk => by have := B1.out.lt; simp; omega))
        (fun k hk => by have := B1.out.lt; omega) (Below.trans KW0.out (K1.out.mono KW0.out.size)).size rfl
        (fun pre X W => KI w s pre X W) (fun c pre X W => KX w s c pre X W)
        (fun s X W X' W' hs st => hs.step st) (fun c s X W X' W' hs st => hs.step st)
        (KI.start KS1.out (fun k hk => by have := KW0.out.size; omega) (by have := KW0.out.size; have := KS0.out.gb.lt; omega) hz0)
        (fun x => { tmps := #[.string s, undef, .pointer (some ⟨w.heap.size, 0, none⟩), .string ⟨#[]⟩, .bool false, .pointer (some ⟨w.heap.size + 1, 0, none⟩), .pointer (some ⟨w.heap.size + 1 + 1, 0, none⟩), strE x, .string s, .bool false, .bool false, .string s, .int .u8 (s[0]'hz0).toNat, .bool false, .bool false, .bool false, .string s, .int .i64 s.size, .bool false, .bool false, .string s, .string (s.extract 1 s.size), .func (.func 94) #[] #[.pointer (some ⟨w0.heap.size, 0, none⟩)], strE x, undef, undef, undef, undef, undef, undef, undef, undef, undef, undef, undef, undef, undef, undef, undef, undef, undef, undef, undef, undef, undef, undef, undef, undef, undef, undef, undef, undef, undef, undef, undef, undef, undef, undef, undef, undef, undef, undef, undef, undef, undef, undef, undef, undef, undef, undef, undef], defers := [] }) ?assign ?body ?done ?stop
      case assign =>
        intro l x W K hK
        gi_wp2
        exact hK
      case body =>
        rintro l pre X x W ⟨A, e, hS, he1, he2, hA, hct, hgo⟩ hX hlen ⟨rest, hcs⟩
        rw [drop_ext] at hcs
        obtain ⟨hne, hx, hrest⟩ := hcs.last hct
        have hes : e < s.size := by
          rcases Nat.lt_or_ge e s.size with h | h
          · exact h
          · exact absurd (List.drop_of_length_le (by rw [size_list]; exact h)) hne
        obtain ⟨q, hq⟩ : ∃ q, q = cutN (s.data.toList.drop e) := ⟨_, rfl⟩
        rw [← hq] at hx hrest
        have hq12 : 1 ≤ q ∧ q ≤ s.size - e := by
          have h2 := cutN_pos (c := s[e]'hes) (r := s.data.toList.drop (e + 1))
          have h3 := cutN_le (c := s[e]'hes) (r := s.data.toList.drop (e + 1))
          rw [← drop_cons hes] at h2 h3
          rw [List.length_drop, size_list] at h3
          rw [hq]
          exact ⟨h2, h3⟩
        obtain ⟨hq1, hq2⟩ := hq12
        obtain ⟨xb, hxb⟩ : ∃ xb : ByteArray, xb = ⟨x.toArray⟩ := ⟨_, rfl⟩
        have hxl : xb.data.toList = x := by rw [hxb]
        have hxz : xb.size = q := by
          rw [← size_list, hxl, hx, List.length_take, List.length_drop, size_list]; omega
        have hx0 : 0 < xb.size := by omega
        have hxg : xb[0]'hx0 = s[e]'hes := by
          have h4 := get_list_ xb 0 hx0
          rw [hxl, hx, drop_cons hes, List.getElem?_take_of_lt (by omega)] at h4
          simpa using h4.symm
        have hxe : strE x = .string xb := by unfold strE; rw [hxb]
        rw [hxe]
        have hk1 := hgo
        rw [drop_cons hes, kgo_cons (by rw [← drop_cons hes, List.length_drop, size_list]; omega), ← drop_cons hes, ← hq, ← hx, ← hrest] at hk1
        have HK1 := Lib.hid hk1
        have HCS := Lib.hid hcs
        have HX := Lib.hid hX
        have HKS := Lib.hid hS
        have HREST := Lib.hid hrest
        have HXL := Lib.hid hxl
        have HXT := Lib.hid (show x.take 1 = [s[e]'hes] by
          rw [hx, drop_cons hes, List.take_take, Nat.min_eq_left hq1]; rfl)
        have HXG := Lib.hid hxg
        have ca := hS.ab.cell 0
        have fa := hS.ab.frozen 0
        have ce := hS.eb.cell 0
        have fe := hS.eb.frozen 0
        have cg := hS.gb.cell 0
        have fg := hS.gb.frozen 0
        simp only [List.getElem?_toArray, List.getElem?_cons_zero] at ca ce cg
        have hle : w.heap.size ≤ W.heap.size := hS.kept.size
        have hxI : xb.size ≤ maxLen := by unfold maxLen; omega
        clear hk1 hgo hct hcs hX hS hq hrest hx hxl hxb hxe hne hxg
        dsimp only
        by_cases h41 : s[e]'hes = 41
        · have h41' : (((xb[0]'hx0).toNat : Int) == 41) = true := by rw [u8_41, HXG.out, h41]; rfl
          have HQ := Lib.hid (show kgo 256 (s.data.toList.drop 1) [] = some (A.data.toList, s.data.toList.drop (e + 1)) by rw [HK1.out, if_pos h41])
          have H41 := Lib.hid h41
          clear h41 HXG
          gi_wp2
          exact ⟨Apart.refl _ _, rfl, A, e, true, HKS.out, he1, .inr ⟨rfl, hes, H41.out, HQ.out⟩⟩
        · have h41' : (((xb[0]'hx0).toNat : Int) == 41) = false := by rw [u8_41, HXG.out]; simpa using h41
          have hk2 := HK1.out
          rw [if_neg h41] at hk2
          have HK2 := Lib.hid hk2
          clear h41 HK1 hk2
          have C := desc_Field xb W hxI
          rw [HXL.out] at C
          cases hf : fldB x with
          | false =>
            rw [hf] at C
            have HQ := Lib.hid (show kgo 256 (s.data.toList.drop 1) [] = none by rw [HK2.out, hf, if_neg (by simp)])
            clear hf
            gi_wp2
            refine ⟨trivial, fun _ => by omega, ?_⟩
            refine (CallsIn.inRound l (callsIn_wide.2 C)).mono ?_
            rintro e W2 ⟨rfl, k2⟩
            have hs2 := HKS.out.keep k2
            have cg2 := hs2.gb.cell 0
            have fg2 := hs2.gb.frozen 0
            simp only [List.getElem?_toArray, List.getElem?_cons_zero] at cg2
            have HS2 := Lib.hid hs2
            have K2 := Lib.hid k2
            clear hs2 k2 ca fa ce fe cg fg C
            gi_wp2
            have hp := HS2.out.putG false
            exact ⟨(Apart.of_touch (S := fun _ => False) (Touch.of_kept K2.out) (fun k hk => hk.elim)).trans hp.2, rfl, A, e, false, hp.1, he1, .inl ⟨rfl, HQ.out⟩⟩
          | true =>
            rw [hf] at C
            by_cases h16 : A.size = 16
            · have HQ := Lib.hid (show kgo 256 (s.data.toList.drop 1) [] = none by rw [HK2.out, if_neg (fun e => e.2 (by rw [size_list]; exact h16))])
              have e16 : ((A.size : Int) == 16) = true := by simp; omega
              clear hf h16
              gi_wp2
              refine ⟨trivial, fun _ => by omega, ?_⟩
              refine (CallsIn.inRound l (callsIn_wide.2 C)).mono ?_
              rintro e W2 ⟨rfl, k2⟩
              have hs2 := HKS.out.keep k2
              have ca2 := hs2.ab.cell 0
              have cg2 := hs2.gb.cell 0
              have fg2 := hs2.gb.frozen 0
              simp only [List.getElem?_toArray, List.getElem?_cons_zero] at cg2 ca2
              have HS2 := Lib.hid hs2
              have K2 := Lib.hid k2
              clear hs2 k2 ca fa ce fe cg fg C
              gi_wp2
              have hp := HS2.out.putG false
              exact ⟨(Apart.of_touch (S := fun _ => False) (Touch.of_kept K2.out) (fun k hk => hk.elim)).trans hp.2, rfl, A, e, false, hp.1, he1, .inl ⟨rfl, HQ.out⟩⟩
            · have HQ := Lib.hid (show kgo 256 (s.data.toList.drop 1) [] = kgo 256 rest (A.data.toList ++ [s[e]'hes]) by rw [HK2.out, if_pos ⟨hf, by rw [size_list]; exact h16⟩])
              have e16 : ((A.size : Int) == 16) = false := by simp; omega
              have hA16 : A.size < 16 := by omega
              clear hf h16
              gi_wp2
              refine ⟨trivial, fun _ => by omega, ?_⟩
              refine (CallsIn.inRound l (callsIn_wide.2 C)).mono ?_
              rintro e W2 ⟨rfl, k2⟩
              have hs2 := HKS.out.keep k2
              have ca2 := hs2.ab.cell 0
              have fa2 := hs2.ab.frozen 0
              have ce2 := hs2.eb.cell 0
              have fe2 := hs2.eb.frozen 0
              simp only [List.getElem?_toArray, List.getElem?_cons_zero] at ce2 ca2
              have HS2 := Lib.hid hs2
              have K2 := Lib.hid k2
              have hx1I : (1 : Int) ≤ (xb.size : Int) := by omega
              clear hs2 k2 ca fa ce fe cg fg C
              have hmix : Try.prog.follows .mixedOrders = true := by kernel_rfl
              gi_wp2
              gi_region_o
              all_goals gi_wp2
              all_goals
                have hp := HS2.out.putA (A ++ xb.extract 0 1)
                have hq := hp.1.putE (e + q)
                rw [Int.natCast_add] at hq
                refine ⟨(((Apart.of_touch (S := fun _ => False) (Touch.of_kept K2.out) (fun k hk => hk.elim)).trans hp.2).trans hq.2).drew5, ?_, A ++ xb.extract 0 1, e + q, hq.1.drew, by omega, by omega, by rw [ByteArray.size_append]; simp; omega, ?_, ?_⟩
                · exact kept_drewN ((((K2.out.mono hle)).setCell (p := ⟨w.heap.size, 0, none⟩) (Nat.le_refl _) _).setCell (p := ⟨w.heap.size + 1, 0, none⟩) (by show w.heap.size ≤ w.heap.size + 1; omega) _) 1
                · have h5 := HCS.out
                  rw [HREST.out, List.drop_drop] at h5
                  exact h5
                · have h5 := HQ.out
                  rw [HREST.out, List.drop_drop] at h5
                  rw [h5, ByteArray.data_append, Array.toList_append, take_ext, HXL.out, HXT.out]
      case done =>
        rintro DD ys X W hD hys ⟨A, e, hS, he1, he2, hA, hct, hgo⟩ hdd
        rw [drop_ext] at hys
        have hnil := hct.fn hys
        obtain rfl : e = s.size := by
          have := congrArg List.length hnil
          rw [List.length_drop, size_list] at this
          simp at this
          omega
        have HR := Lib.hid (show kindsL s.data.toList = none by rw [HK.out, hgo, hnil, kgo_nil])
        have ca := hS.ab.cell 0
        have fa := hS.ab.frozen 0
        have ce := hS.eb.cell 0
        have cg := hS.gb.cell 0
        simp only [List.getElem?_toArray, List.getElem?_cons_zero] at ca ce cg
        have HKS := Lib.hid hS
        have HDD := Lib.hid hdd
        have hDw : w.heap.size ≤ DD := by
          have h6 := KW0.out.size
          have h7 := K1.out.size
          rw [hD]; omega
        have hle : w.heap.size ≤ W.heap.size := hS.kept.size
        clear hys hct hgo hnil hS hdd hD
        go_wp2_with fail
        rw [Exit.noGoto_ret]
        have hp := (HKS.out.putA ⟨#[]⟩).1
        refine kinds_leaves (w := w) (A := ⟨#[]⟩) [DD] (fun d hd => ?_) (by simp) hp.ab hp.kept ?_
        · obtain rfl : d = DD := by simpa using hd
          refine ⟨?_, hDw⟩
          rw [Below.heap_setCell _ _ _ _ (fun e => dd_ne HKS.out.ab HDD.out e)]
          exact HDD.out
        · intro W' r1 r2
          exact kinds_end (by rw [HR.out]; rfl) r1 r2
      case stop =>
        rintro DD c pre X W hD hsp ⟨rfl, A, e, g, hS, he1, hcs⟩ hdd
        have ca := hS.ab.cell 0
        have fa := hS.ab.frozen 0
        have ce := hS.eb.cell 0
        have cg := hS.gb.cell 0
        simp only [List.getElem?_toArray, List.getElem?_cons_zero] at ca ce cg
        have HKS := Lib.hid hS
        have HDD := Lib.hid hdd
        have hDw : w.heap.size ≤ DD := by
          have h6 := KW0.out.size
          have h7 := K1.out.size
          rw [hD]; omega
        have hle : w.heap.size ≤ W.heap.size := hS.kept.size
        clear hsp hS hdd hD
        refine wpIn_wide.2 ?_
        rcases hcs with ⟨rfl, hno⟩ | ⟨rfl, hes, h41, hgo⟩
        · have HR := Lib.hid (show kindsL s.data.toList = none by rw [HK.out, hno])
          clear hno
          go_wp2_with fail
          rw [Exit.noGoto_ret]
          have hp := (HKS.out.putA ⟨#[]⟩).1
          refine kinds_leaves (w := w) (A := ⟨#[]⟩) [DD] (fun d hd => ?_) (by simp) hp.ab hp.kept ?_
          · obtain rfl : d = DD := by simpa using hd
            refine ⟨?_, hDw⟩
            rw [Below.heap_setCell _ _ _ _ (fun e => dd_ne HKS.out.ab HDD.out e)]
            exact HDD.out
          · intro W' r1 r2
            exact kinds_end (by rw [HR.out]; rfl) r1 r2
        · have h41' : (((s[e]'hes).toNat : Int) == 41) = true := by rw [u8_41, h41]; rfl
          have h41'' : (((s[e]'hes).toNat : Int) != 41) = false := by unfold bne; rw [h41']; rfl
          have hesI : (e : Int) < (s.size : Int) := by omega
          have HGO := Lib.hid hgo
          have HX := Lib.hid (drop_ext s (e + 1))
          have HXZ := Lib.hid (show (s.extract (e + 1) s.size).size = s.size - (e + 1) by simp)
          have C := desc_Field (s.extract (e + 1) s.size) W (mid_size s _ _ HS.out)
          rw [drop_ext] at C
          clear h41 hgo
          by_cases h86 : s.data.toList.drop (e + 1) = [86]
          · have e86 : ((s.extract (e + 1) s.size).toList == [86]) = true := strl_eq (by rw [drop_ext]; exact h86)
            have HR := Lib.hid (show kindsL s.data.toList = some (A.data.toList, (s.data.toList.drop (e + 1)).take 1) by
              rw [HK.out, HGO.out]
              simp only
              rw [if_pos (.inl h86)])
            have hx1 : 1 ≤ (s.extract (e + 1) s.size).size := by
              have := size_list (s.extract (e + 1) s.size)
              rw [drop_ext, h86] at this
              simp only [List.length_cons, List.length_nil] at this
              omega
            have hx1' : (1 : Int) ≤ ((s.extract (e + 1) s.size).size : Int) := by omega
            clear h86 C
            have HP := Lib.hid (kinds_put HKS.out HDD.out)
            go_wp2_with fail
            go_region
            all_goals
              go_wp2_with fail
              rw [Exit.noGoto_ret]
              have hp := HP.out
              refine kinds_leaves (w := w) (A := A) [DD] (fun d hd => ?_) (by simp) hp.ab hp.kept ?_
              · obtain rfl : d = DD := by simpa using hd
                exact ⟨hp.dd, hDw⟩
              · intro W' r1 r2
                exact kinds_end (by
                  rw [HR.out]
                  exact congrArg Value.tuple (by rw [bytes_eq (a := A) rfl, bytes_eq (a := (s.extract (e + 1) s.size).extract 0 1) (by rw [take_ext, HX.out])])) r1 r2
          · have e86 : ((s.extract (e + 1) s.size).toList == [86]) = false := strl_ne (by rw [drop_ext]; exact h86)
            cases hfb : fldB (s.data.toList.drop (e + 1)) with
            | false =>
              rw [hfb] at C
              have HR := Lib.hid (show kindsL s.data.toList = none by
                rw [HK.out, HGO.out]
                simp only
                rw [if_neg (by rw [hfb]; simpa using h86)])
              clear hfb h86
              go_wp2_with fail
              refine C.mono ?_
              rintro e' W2 ⟨rfl, k2⟩
              clear C ca fa ce cg
              have hs2 := HKS.out.keep k2
              have fa2 := hs2.ab.frozen 0
              have ca2 := hs2.ab.cell 0
              simp only [List.getElem?_toArray, List.getElem?_cons_zero] at ca2
              have HS2 := Lib.hid hs2
              have HD2 := Lib.hid (Kept.block k2 HDD.out)
              clear hs2 k2
              go_wp2_with fail
              rw [Exit.noGoto_ret]
              have hp := (HS2.out.putA ⟨#[]⟩).1
              refine kinds_leaves (w := w) (A := ⟨#[]⟩) [DD] (fun d hd => ?_) (by simp) hp.ab hp.kept ?_
              · obtain rfl : d = DD := by simpa using hd
                refine ⟨?_, hDw⟩
                rw [Below.heap_setCell _ _ _ _ (fun e => dd_ne HS2.out.ab HD2.out e)]
                exact HD2.out
              · intro W' r1 r2
                exact kinds_end (by rw [HR.out]; rfl) r1 r2
            | true =>
              rw [hfb] at C
              have HR := Lib.hid (show kindsL s.data.toList = some (A.data.toList, (s.data.toList.drop (e + 1)).take 1) by
                rw [HK.out, HGO.out]
                simp only
                rw [if_pos (.inr hfb)])
              have hx1 : 1 ≤ (s.extract (e + 1) s.size).size := by
                have := size_list (s.extract (e + 1) s.size)
                rw [drop_ext] at this
                rcases Nat.eq_zero_or_pos (s.extract (e + 1) s.size).size with h0 | h0
                · rw [h0] at this
                  rw [List.eq_nil_of_length_eq_zero this, fldB_nil] at hfb
                  cases hfb
                · exact h0
              have hx1' : (1 : Int) ≤ ((s.extract (e + 1) s.size).size : Int) := by omega
              clear hfb h86
              go_wp2_with fail
              refine C.mono ?_
              rintro e' W2 ⟨rfl, k2⟩
              clear C ca fa ce cg
              have hs2 := HKS.out.keep k2
              have fa2 := hs2.ab.frozen 0
              have ca2 := hs2.ab.cell 0
              simp only [List.getElem?_toArray, List.getElem?_cons_zero] at ca2
              have HP := Lib.hid (kinds_put hs2 (Kept.block k2 HDD.out))
              clear hs2 k2
              go_wp2_with fail
              go_region
              all_goals
                go_wp2_with fail
                rw [Exit.noGoto_ret]
                have hp := HP.out
                refine kinds_leaves (w := w) (A := A) [DD] (fun d hd => ?_) (by simp) hp.ab hp.kept ?_
                · obtain rfl : d = DD := by simpa using hd
                  exact ⟨hp.dd, hDw⟩
                · intro W' r1 r2
                  exact kinds_end (by
                    rw [HR.out]
                    exact congrArg Value.tuple (by rw [bytes_eq (a := A) rfl, bytes_eq (a := (s.extract (e + 1) s.size).extract 0 1) (by rw [take_ext, HX.out])])) r1 r2


theorem desc_Kinds (s : ByteArray) (w : World) (hs : s.size ≤ maxLen) :
    Calls Try.prog 63 #[.string s] w fun e w' => e = .returned (resK (kindsL s.data.toList)) ∧ Kept w w' :=
  callsIn_wide.1 (desc_Kinds_in 4 (by omega) s w hs)
end Go.Proofs.Ytcklmhbcjgiplaa
