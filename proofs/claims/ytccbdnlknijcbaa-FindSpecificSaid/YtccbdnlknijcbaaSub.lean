/-
  Package kin by contract: Sub.
-/
import Derived.Test.YtccbdnlknijcbaaAll
namespace Go.Proofs.Ytccbdnlknijcbaa
open Go.RowKit Go.Maps Go.WideMaps Go.Shelf
set_option maxRecDepth 100000
attribute [local go_sem] Oper.semAt_some

/-- What Sub holds: the boxes of the text that it looks for and of its answer, the chain, the blocks of the ranges that are done. -/
structure SubS (w : World) (b : ByteArray) (r : Bool) (vc : Value) (cl : List ByteArray) (Ds : List Nat) (X : Nat → Prop) (W : World) : Prop where
  bb : Blk W w.heap.size 9 #[.string b]
  nb : ¬ X w.heap.size
  rb : Blk W (w.heap.size + 1) 4 #[.bool r]
  nr : ¬ X (w.heap.size + 1)
  row : Row W w.heap.size 9 1 vc cl.length (cl.flatMap encS)
  nrow : ∀ k, vc.ownBlock = some k → ¬ X k
  ds : ∀ d ∈ Ds, W.heap[d]? = some (.deferred (some [])) ∧ ¬ X d ∧ w.heap.size ≤ d
  dd : Ds.Pairwise (· ≠ ·)
  base : Base w X W

section
variable {w : World} {b : ByteArray} {r : Bool} {vc : Value} {cl : List ByteArray} {Ds : List Nat} {X X' : Nat → Prop} {W W' : World}
theorem SubS.step (h : SubS w b r vc cl Ds X W) (st : Step1 X W X' W') : SubS w b r vc cl Ds X' W' := by
  have far : ∀ k, k < W.heap.size → ¬ X k → ¬ X' k := fun k hk hx hx' => by
    rcases st.new k hx' with h1 | ⟨h1, _⟩
    · exact hx h1
    · omega
  exact ⟨h.bb.touch st.touch h.nb, far _ h.bb.lt h.nb, h.rb.touch st.touch h.nr, far _ h.rb.lt h.nr, h.row.touch st.touch h.nrow, fun k hk => far k (h.row.lt k hk).2 (h.nrow k hk),
    fun d hd => ⟨st.touch.block (h.ds d hd).1 (h.ds d hd).2.1, far d (Array.getElem?_eq_some_iff.1 (h.ds d hd).1).1 (h.ds d hd).2.1, (h.ds d hd).2.2⟩, h.dd, h.base.step st⟩
theorem SubS.free (h : SubS w b r vc cl Ds X W) : SubS w b r vc cl Ds (fun _ => False) W :=
  ⟨h.bb, id, h.rb, id, h.row, fun _ _ => id, fun d hd => ⟨(h.ds d hd).1, id, (h.ds d hd).2.2⟩, h.dd, ⟨h.base.kept, fun _ => False.elim⟩⟩
theorem SubS.more {d : Nat} (h : SubS w b r vc cl Ds X W) (hd : W.heap[d]? = some (.deferred (some []))) (hge : w.heap.size ≤ d) (hn : ∀ d' ∈ Ds, d' < d) : SubS w b r vc cl (d :: Ds) (fun _ => False) W :=
  have h := h.free
  ⟨h.bb, h.nb, h.rb, h.nr, h.row, h.nrow, fun d' hd' => by
    rcases List.mem_cons.1 hd' with rfl | hd'
    · exact ⟨hd, id, hge⟩
    · exact h.ds d' hd', List.pairwise_cons.2 ⟨fun d' hd' e => by have := hn d' hd'; omega, h.dd⟩, h.base⟩
theorem SubS.put (h : SubS w b r vc cl Ds X W) (q : Bool) : SubS w b q vc cl Ds X (W.setCell ⟨w.heap.size + 1, 0, none⟩ (.bool q)) ∧ Apart X W (W.setCell ⟨w.heap.size + 1, 0, none⟩ (.bool q)) := by
  have ht : Touch (fun k => k = w.heap.size + 1) W (W.setCell ⟨w.heap.size + 1, 0, none⟩ (.bool q)) := (Touch.refl (fun k => k = w.heap.size + 1) W).setCell (p := ⟨w.heap.size + 1, 0, none⟩) (.inl rfl) _
  refine ⟨⟨h.bb.touch ht (by omega), h.nb, by simpa using h.rb.set_ 0 (.bool q), h.nr, h.row.touch ht (fun k hk e => (TyAt.ne (h.row.ty k hk) h.rb.ty (by decide)) e), h.nrow, fun d hd => ⟨ht.block (h.ds d hd).1 (fun e => ?_), (h.ds d hd).2⟩, h.dd, ⟨Below.trans h.base.kept (ht.below (fun b hb => by omega) h.base.kept.size), h.base.ge⟩⟩, Apart.of_touch ht (fun k hk => hk ▸ h.nr)⟩
  have := (h.ds d hd).1
  rw [e, show W.heap[w.heap.size + 1]? = _ from h.rb] at this
  cases this
/-- The end of Sub. -/
theorem SubS.leaves {fn : Func} {n : Nat} {tmps : Array Value} {R : Ending → World → Prop} (h : SubS w b r vc cl Ds X W) (hr : ∀ W', Blk W' (w.heap.size + 1) 4 #[.bool r] → Kept w W' → ∃ v, (results fn tmps).run Try.prog W' = .ok v W' ∧ R (.returned v) W') :
    LeavesInM Fence.wide n Try.prog fn tmps R (Ds.map fun D => { target := .collected D, args := #[] }) .returning W := by
  refine leaves_collected (fun W' => Blk W' (w.heap.size + 1) 4 #[.bool r] ∧ Kept w W') Ds W h.dd (fun d hd => (h.ds d hd).1) ⟨h.rb, h.base.kept⟩ ?_ (fun W' h' => hr W' h'.1 h'.2)
  rintro D W' hD ⟨q1, q2⟩ q3
  have ht : Touch (fun k => k = D) W' (W'.putObj D (.deferred none)) := touch_putObj W' _ rfl
  refine ⟨q1.touch ht (fun e => ?_), Below.trans q2 (ht.below (fun b hb => by have := (h.ds D hD).2.2; omega) q2.size)⟩
  rw [← e, show W'.heap[w.heap.size + 1]? = _ from q1] at q3
  cases q3
end

def SubR (w : World) (D : List TD) (s b : ByteArray) (ty vc : Value) (n : Nat) (m : Nat) (act : Act) (W : World) : Prop :=
  ∃ (k : Nat) (Ds : List Nat) (u9 u11 u18 u19 u20 u21 u22 u23 u24 u25 u29 u30 u31 u32 u33 u34 u39 : Value), k ≤ n ∧ m + k = n + 1 ∧ (∀ c ∈ (chainL D s).take k, b ∉ aboveL D c) ∧ SubS w b false vc (chainL D s) Ds (fun _ => False) W ∧
  act = { tmps := #[ty, .string s, .string b, undef, undef, .pointer (some ⟨w.heap.size, 0, none⟩), .pointer (some ⟨w.heap.size + 1, 0, none⟩), vc, undef, u9, undef, u11, undef, ty, .string s, vc, vc, .int .i64 n, u18, u19, u20, u21, u22, u23, u24, u25, vc, .int .i64 n, .int .i64 k, u29, u30, u31, u32, u33, u34, undef, undef, undef, undef, u39], defers := Ds.map fun d => { target := .collected d, args := #[] } }
theorem subB_chain {D : List TD} {s b : ByteArray} (h : b ∈ chainL D s) : decide (subB D s b) = true := decide_eq_true (.inl h)
theorem subB_above {D : List TD} {s b x : ByteArray} (hx : x ∈ chainL D s) (h : b ∈ aboveL D x) : decide (subB D s b) = true := decide_eq_true (.inr (allL_mem.2 ⟨x, hx, h⟩))
theorem subB_none {D : List TD} {s b : ByteArray} (h1 : b ∉ chainL D s) (h2 : ∀ c ∈ chainL D s, b ∉ aboveL D c) : decide (subB D s b) = false := decide_eq_false (by
  rintro (h | h)
  · exact h1 h
  · obtain ⟨c, hc, hb⟩ := allL_mem.1 h
    exact h2 c hc hb)
theorem sub_end {w W' : World} {r q : Bool} {ty t1 t2 t3 t4 t5 : Value} {rest : List Value} (hq : q = r) (hb : Blk W' (w.heap.size + 1) 4 #[.bool r]) (hk : Kept w W') :
    ∃ v, (results Try.f13 ([ty, t1, t2, t3, t4, t5, .pointer (some ⟨w.heap.size + 1, 0, none⟩)] ++ rest).toArray).run Try.prog W' = .ok v W' ∧ (Ending.returned v = Ending.returned (.bool q) ∧ Kept w W') := by
  subst hq
  have hc := hb.cell 0
  simp only [List.getElem?_toArray, List.getElem?_cons_zero] at hc
  exact ⟨.bool q, by simp [results, Try.f13, go_sem, hc], rfl, hk⟩

set_option maxHeartbeats 2000000 in
theorem kin_Sub_in (n : Nat) (hn : 4 ≤ n) (D : List TD) (s b : ByteArray) (v : Value) (w : World) (h : TyR w v D) (hs : s.size ≤ maxLen) :
    CallsIn Fence.wide n Try.prog 13 #[v, .string s, .string b] w fun e w' => e = .returned (.bool (decide (subB D s b))) ∧ Kept w w' := by
  have h1 : 1 ≤ n := by omega
  have H := Lib.hid h
  obtain ⟨a, c, rfl, hc1, hc2⟩ := h.slice
  have hl := h.len
  clear h
  refine callsIn_of_wp_marks Try.func13 rfl trivial ?_ rfl
  refine wpIn_wide.2 ?_
  simp only [Try.ntmps13, List.size_toArray, List.length_cons, List.length_nil, Nat.reduceAdd, Nat.reduceSub, Array.replicate_succ, Array.replicate_zero, List.push_toArray, List.append_toArray, List.nil_append, List.cons_append]
  go_wp2_with fail
  have bb0 : Blk ((w.alloc (.cells #[.string b] 9)).alloc (.cells #[.bool false] 4)) w.heap.size 9 #[.string b] := (Blk.new _ _ _).alloc _
  have rb0 : Blk ((w.alloc (.cells #[.string b] 9)).alloc (.cells #[.bool false] 4)) (w.heap.size + 1) 4 #[.bool false] := blk_at_ (by simp)
  have k0 : Kept w ((w.alloc (.cells #[.string b] 9)).alloc (.cells #[.bool false] 4)) := ((Below.refl _ _).alloc (Nat.le_refl _) _).alloc (by simp) _
  generalize ((w.alloc (.cells #[.string b] 9)).alloc (.cells #[.bool false] 4)) = wb at *
  refine (kin_Chain D s _ wb (H.out.kept k0) hs).mono ?_
  rintro e w3 ⟨vc, rfl, hR, k3⟩
  obtain ⟨ac, cc, rfl, hcc, hcc2⟩ := hR.form
  obtain ⟨N, hN⟩ : ∃ N, N = (chainL D s).length := ⟨_, rfl⟩
  have hND : N ≤ D.length := by rw [hN]; exact (chainL_nms D s).le
  have hS0 : SubS w b false (.slice ac (chainL D s).length cc) (chainL D s) [] (fun _ => False) w3 :=
    ⟨bb0.kept k3, id, rb0.kept k3, id, hR.base k0.size, fun _ _ => id, by simp, List.Pairwise.nil, ⟨Kept.trans k0 k3, fun _ => False.elim⟩⟩
  have hrd := hS0.row.rd
  rw [← hN] at hS0 hcc hrd ⊢
  have HS0 := Lib.hid hS0
  have HRD := Lib.hid hrd
  have HN := Lib.hid hN
  have q0 := hS0.bb.cell 0
  have q1 := hS0.rb.cell 0
  have q2 := hS0.rb.frozen 0
  simp only [List.getElem?_toArray, List.getElem?_cons_zero] at q0 q1
  clear bb0 rb0 k0 hR k3 hN hS0 hrd
  go_wp2_with fail
  go_loop [18] (fun s18 => ∃ k : Nat, k ≤ N ∧ s18 = .int .i64 k ∧ ∀ x ∈ (chainL D s).take k, x ≠ b) (fun s18 => N - (intOf s18).toNat)
  case atStart => exact ⟨0, by omega, rfl, by simp⟩
  case round =>
    obtain ⟨k, hk, rfl, hno⟩ := hrel
    have HNO := Lib.hid hno
    clear hno
    by_cases hlt : k < N
    · obtain ⟨x, hx⟩ : ∃ x, (chainL D s)[k]? = some x := ⟨_, List.getElem?_eq_getElem (by have := HN.out; omega)⟩
      obtain ⟨rb, ro, rc, hv, xs⟩ := str_cell HN.out HRD.out hx
      simp only [Value.slice.injEq] at hv
      obtain ⟨rfl, -, rfl⟩ := hv
      have HX := Lib.hid hx
      clear hx
      by_cases he : x = b
      · subst he
        have HB := Lib.hid (subB_chain (D := D) (s := s) (List.mem_of_getElem? HX.out))
        go_wp2_with fail
        refine (HS0.out.put true).1.leaves (Ds := []) ?_
        intro W' r1 r2
        exact sub_end (t1 := .string s) HB.out r1 r2
      · have hb := str_ne_ he
        have HE := Lib.hid he
        clear he
        go_wp2_with fail
        go_round
        case rel =>
          refine ⟨k + 1, by omega, by go_num, fun y hy => ?_⟩
          rw [List.take_add_one, HX.out] at hy
          rcases List.mem_append.1 hy with hy | hy
          · exact HNO.out y hy
          · obtain rfl : y = x := by simpa using hy
            exact HE.out
        case measure => simp [intOf]; omega
    · obtain rfl : k = N := by omega
      have hnc : b ∉ chainL D s := fun hb => HNO.out b (by rw [HN.out, List.take_length]; exact hb) rfl
      have HNC := Lib.hid hnc
      clear hnc
      go_wp2_with fail
      clear q0 q1 q2
      refine wp_loop_R (R := SubR w D s b (.slice a D.length c) (.slice ac k cc) k) (k + 1) ?h0 ?hz ?step
      case h0 => exact ⟨0, [], _, _, _, _, _, _, _, _, _, _, _, _, _, _, _, _, _, by omega, by omega, by simp, HS0.out, rfl⟩
      case hz =>
        rintro a' W ⟨j, _, _, _, _, _, _, _, _, _, _, _, _, _, _, _, _, _, _, h1, h2, _⟩
        omega
      case step =>
        rintro m a' W ⟨j, Ds, u9, u11, u18, u19, u20, u21, u22, u23, u24, u25, u29, u30, u31, u32, u33, u34, u39, hj, hm, hout, hS, rfl⟩
        have HS := Lib.hid hS
        have HOUT := Lib.hid hout
        have hrd := hS.row.rd
        rw [← HN.out] at hrd
        have HRD2 := Lib.hid hrd
        have q0 := hS.bb.cell 0
        have q1 := hS.rb.cell 0
        have q2 := hS.rb.frozen 0
        simp only [List.getElem?_toArray, List.getElem?_cons_zero] at q0 q1
        clear hS hout hrd HRD
        by_cases hlt : j < k
        · obtain ⟨x, hx⟩ : ∃ x, (chainL D s)[j]? = some x := ⟨_, List.getElem?_eq_getElem (by have := HN.out; omega)⟩
          obtain ⟨rb, ro, rc, hv, xs⟩ := str_cell HN.out HRD2.out hx
          simp only [Value.slice.injEq] at hv
          obtain ⟨rfl, -, rfl⟩ := hv
          have HX := Lib.hid hx
          have hth : there D x := (chainL_nms D s).th x (List.mem_of_getElem? hx)
          have hxz := H.out.size_of hth
          have zW := HS.out.base.kept.size
          clear hth hx q0 q1 q2
          go_wp2_with fail
          refine (kin_over _ _ _ x _).mono ?_
          rintro e w1 ⟨rfl, hw1⟩
          have s1 : Step1 (fun _ => False) W (fun k => k = W.heap.size ∨ k = W.heap.size + 1) w1 := by
            rw [hw1]
            exact ⟨((Touch.refl _ W).alloc _).alloc _, fun _ => False.elim, fun k hk => .inr (by simp; omega)⟩
          have bb1 : Blk w1 W.heap.size 28 #[.slice a D.length c] := by rw [hw1]; exact (Blk.new _ _ _).alloc _
          have bb2 : Blk w1 (W.heap.size + 1) 9 #[.string x] := by rw [hw1]; exact blk_at_ (by simp)
          have zw1 : w1.heap.size = W.heap.size + 1 + 1 := by rw [hw1]; simp
          have HS1 := Lib.hid (HS.out.step s1)
          have B1 := Lib.hid bb1
          have B2 := Lib.hid bb2
          have Z1 := Lib.hid zw1
          clear hw1 s1 bb1 bb2 zw1 HS HRD2
          go_wp2_with fail
          refine (wpIn_wide (n := n)).1 ?_
          have KW := Lib.hid HS1.out.base.kept
          refine wpIn_rangeFunc_X rfl h1 (gf := 23) (lb := #[.pointer (some ⟨W.heap.size, 0, none⟩), .pointer (some ⟨W.heap.size + 1, 0, none⟩)]) rfl trivial (enters_of Try.func23 (by kernel_rfl) rfl)
            (enc := Value.string) (X0 := fun k => k = W.heap.size ∨ k = W.heap.size + 1)
            (fun o o' => over_seq (n - 1) (by omega) D x _ w _ _ _ (fun k => k = W.heap.size ∨ k = W.heap.size + 1) H.out hxz (Below.trans KW.out (((Below.refl _ _).alloc KW.out.size _).alloc (by simp; have := KW.out.size; omega) _)) ((B1.out.alloc _).alloc _) ((B2.out.alloc _).alloc _) (.inl rfl) (.inr rfl) (fun k hk => by have := Z1.out; have := KW.out.size; simp; omega))
            (fun k hk => by have := Z1.out; omega) KW.out.size rfl
            (fun pre X W => (∀ y ∈ pre, y ≠ b) ∧ SubS w b false (.slice (some ⟨rb, ro, none⟩) k cc) (chainL D s) Ds X W) (fun c pre X W => (c = .ret ∧ b ∈ pre) ∧ SubS w b true (.slice (some ⟨rb, ro, none⟩) k cc) (chainL D s) Ds X W)
            (fun s X W X' W' hs st => ⟨hs.1, hs.2.step st⟩) (fun _ s X W X' W' hs st => ⟨hs.1, hs.2.step st⟩)
            ⟨by simp, HS1.out⟩
            (fun y => { tmps := #[.slice a D.length c, .string s, .string b, undef, undef, .pointer (some ⟨w.heap.size, 0, none⟩), .pointer (some ⟨w.heap.size + 1, 0, none⟩), .slice (some ⟨rb, ro, none⟩) k cc, undef, u9, undef, .string x, .string y, .slice a D.length c, .string s, .slice (some ⟨rb, ro, none⟩) k cc, .slice (some ⟨rb, ro, none⟩) k cc, .int .i64 k, u18, u19, u20, u21, u22, u23, u24, u25, .slice (some ⟨rb, ro, none⟩) k cc, .int .i64 k, .int .i64 j, .bool true, .pointer (some ⟨rb, ro + j, none⟩), .string x, .slice a D.length c, .string x, .func (.func 23) #[] #[.pointer (some ⟨W.heap.size, 0, none⟩), .pointer (some ⟨W.heap.size + 1, 0, none⟩)], .string y, undef, undef, undef, u39], defers := [] }) ?assign ?body ?done ?stop
          case assign =>
            intro l x W K hK
            gi_wp2
            exact hK
          case body =>
            rintro l pre X y V ⟨hp, hA⟩ hX hlen hpy
            have q0 := hA.bb.cell 0
            have q1 := hA.rb.cell 0
            have q2 := hA.rb.frozen 0
            simp only [List.getElem?_toArray, List.getElem?_cons_zero] at q0 q1
            have HA := Lib.hid hA
            have HP := Lib.hid hp
            clear hA hp hpy hX
            by_cases he : y = b
            · subst he
              gi_wp2
              exact ⟨(HA.out.put true).2, ⟨rfl, by simp⟩, (HA.out.put true).1⟩
            · have hb := str_ne_ he
              have HE := Lib.hid he
              clear he
              gi_wp2
              exact ⟨Apart.refl _ _, Below.refl _ _, fun z hz => (List.mem_append.1 hz).elim (HP.out z) (fun e => by simp at e; subst e; exact HE.out), HA.out⟩
          case done =>
            rintro DD ys X V hD rfl ⟨hp, hA⟩ hK
            have hZ := Z1.out
            have hA' := hA.more hK (by have := KW.out.size; omega) (fun d hd => by
              have := (Array.getElem?_eq_some_iff.1 (HS1.out.ds d hd).1).1
              omega)
            have HA := Lib.hid hA'
            have HP := Lib.hid hp
            have HD := Lib.hid hD
            clear hA hK hA' hZ hD hp
            go_wp2_with fail
            refine ⟨j + 1, DD :: Ds, _, _, _, _, _, _, _, _, _, _, _, _, _, _, _, _, _, by omega, by omega, ?_, HA.out, rfl⟩
            intro z hz hzb
            rw [List.take_add_one, HX.out] at hz
            rcases List.mem_append.1 hz with hz | hz
            · exact HOUT.out z hz hzb
            · obtain rfl : z = x := by simpa using hz
              exact HP.out b hzb rfl
          case stop =>
            rintro DD c pre X V hD hpre ⟨⟨rfl, hin⟩, hA⟩ hK
            have hZ := Z1.out
            have hA' := hA.more hK (by have := KW.out.size; omega) (fun d hd => by
              have := (Array.getElem?_eq_some_iff.1 (HS1.out.ds d hd).1).1
              omega)
            have HB := Lib.hid (subB_above (List.mem_of_getElem? HX.out) (hpre.subset hin))
            have HA := Lib.hid hA'
            clear hA hK hA' hZ hD hpre
            gi_wp2
            refine HA.out.leaves (Ds := DD :: Ds) ?_
            intro W' r1 r2
            exact sub_end (t1 := .string s) HB.out r1 r2
        · obtain rfl : j = k := by omega
          have HB := Lib.hid (subB_none HNC.out (fun c hc => HOUT.out c (by rw [HN.out, List.take_length]; exact hc)))
          go_wp2_with fail
          refine (HS.out.put false).1.leaves ?_
          intro W' r1 r2
          exact sub_end (t1 := .string s) HB.out r1 r2

theorem kin_Sub (D : List TD) (s b : ByteArray) (v : Value) (w : World) (h : TyR w v D) (hs : s.size ≤ maxLen) :
    Calls Try.prog 13 #[v, .string s, .string b] w fun e w' => e = .returned (.bool (decide (subB D s b))) ∧ Kept w w' :=
  callsIn_wide.1 (kin_Sub_in 4 (by omega) D s b v w h hs)
end Go.Proofs.Ytccbdnlknijcbaa
