/-
  Package kin by contract: All, Sub.
-/
import Derived.Test.YtccbdnlknijcbaaAbove
namespace Go.Proofs.Ytccbdnlknijcbaa
open Go.RowKit Go.Maps Go.WideMaps Go.Shelf
set_option maxRecDepth 100000
attribute [local go_sem] Oper.semAt_some

/-- What All holds: the box of its row, the set of what it has, the chain, the blocks of the ranges that are done. -/
structure AllS (w : World) (B bo bs ms : Nat) (vc : Value) (cl out : List ByteArray) (Ds : List Nat) (X : Nat → Prop) (W : World) : Prop where
  coll : Coll B bo out X W
  seen : SetM W ms out.length (fun x => decide (x ∈ out))
  nms : ¬ X ms
  sbox : Blk W bs 55 #[.map (some ms)]
  nbs : ¬ X bs
  row : Row W w.heap.size 9 1 vc cl.length (cl.flatMap encS)
  nrow : ∀ k, vc.ownBlock = some k → ¬ X k
  ds : ∀ d ∈ Ds, W.heap[d]? = some (.deferred (some [])) ∧ ¬ X d ∧ w.heap.size ≤ d
  dd : Ds.Pairwise (· ≠ ·)
  base : Base w X W
  ge : w.heap.size ≤ bo ∧ w.heap.size ≤ bs ∧ w.heap.size ≤ ms
  hB : w.heap.size ≤ B ∧ B ≤ W.heap.size
  rlt : ∀ k, vc.ownBlock = some k → k < B

section
variable {w : World} {B bo bs ms : Nat} {vc : Value} {cl out : List ByteArray} {Ds : List Nat} {X X' : Nat → Prop} {W W' : World}
theorem AllS.step (h : AllS w B bo bs ms vc cl out Ds X W) (st : Step1 X W X' W') : AllS w B bo bs ms vc cl out Ds X' W' := by
  have far : ∀ k, k < W.heap.size → ¬ X k → ¬ X' k := fun k hk hx hx' => by
    rcases st.new k hx' with h1 | ⟨h1, _⟩
    · exact hx h1
    · omega
  exact ⟨h.coll.step st, h.seen.touch st.touch h.nms, far _ h.seen.lt h.nms, h.sbox.touch st.touch h.nbs, far _ h.sbox.lt h.nbs, h.row.touch st.touch h.nrow, fun k hk => far k (h.row.lt k hk).2 (h.nrow k hk),
    fun d hd => ⟨st.touch.block (h.ds d hd).1 (h.ds d hd).2.1, far d (Array.getElem?_eq_some_iff.1 (h.ds d hd).1).1 (h.ds d hd).2.1, (h.ds d hd).2.2⟩, h.dd, h.base.step st, h.ge, ⟨h.hB.1, Nat.le_trans h.hB.2 st.touch.size⟩, h.rlt⟩
/-- Between two ranges nothing is an iterator's. -/
theorem AllS.free (h : AllS w B bo bs ms vc cl out Ds X W) : AllS w B bo bs ms vc cl out Ds (fun _ => False) W :=
  ⟨⟨by obtain ⟨vo, a, b, _⟩ := h.coll.box; exact ⟨vo, a, b, fun _ _ => id⟩, id⟩, h.seen, id, h.sbox, id, h.row, fun _ _ => id, fun d hd => ⟨(h.ds d hd).1, id, (h.ds d hd).2.2⟩, h.dd, ⟨h.base.kept, fun _ => False.elim⟩, h.ge, h.hB, h.rlt⟩
theorem AllS.more {d : Nat} (h : AllS w B bo bs ms vc cl out Ds X W) (hd : W.heap[d]? = some (.deferred (some []))) (hge : w.heap.size ≤ d) (hn : ∀ d' ∈ Ds, d' < d) : AllS w B bo bs ms vc cl out (d :: Ds) (fun _ => False) W :=
  have h := h.free
  ⟨h.coll, h.seen, h.nms, h.sbox, h.nbs, h.row, h.nrow, fun d' hd' => by
    rcases List.mem_cons.1 hd' with rfl | hd'
    · exact ⟨hd, id, hge⟩
    · exact h.ds d' hd', List.pairwise_cons.2 ⟨fun d' hd' e => by have := hn d' hd'; omega, h.dd⟩, h.base, h.ge, h.hB, h.rlt⟩
/-- One more text: into the set, and into the row. -/
theorem AllS.add {vo v2 : Value} {x : ByteArray} {w1 w2 : World} (h : AllS w B bo bs ms vc cl out Ds X W) (hX : ∀ k, X k → k < W.heap.size) (hb : Blk W bo 24 #[vo]) (ho : W.ownsRow B 9 1 vo out.length (out.flatMap encS)) (hn : ∀ k, vo.ownBlock = some k → ¬ X k)
    (hm : SetM w1 ms (out.length + 1) (fun y => decide (y = x) || decide (y ∈ out))) (hg1 : W.grownBy w1 (some ms))
    (h2 : w2.ownsRow B 9 1 v2 (out.length + 1) (out.flatMap encS ++ [.string x])) (hg : w1.grownBy w2 vo.ownBlock) (hk : ∀ k, v2.ownBlock = some k → vo.ownBlock = some k ∨ w1.heap.size ≤ k) :
    AllS w B bo bs ms vc cl (out ++ [x]) Ds X (w2.setCell ⟨bo, 0, none⟩ v2) ∧ Apart X W (w2.setCell ⟨bo, 0, none⟩ v2) ∧ Below w.heap.size W (w2.setCell ⟨bo, 0, none⟩ v2) := by
  have t1 : Touch (fun k => k = ms) W w1 := Touch.of_grown hg1 (fun k hk => by simpa using hk.symm)
  have nbm : bo ≠ ms := fun e => h.seen.blk hb e.symm
  have b1 : Blk w1 bo 24 #[vo] := hb.touch t1 nbm
  have o1 : w1.ownsRow B 9 1 vo out.length (out.flatMap encS) := t1.own ho (fun k hk' e => h.seen.own ho k hk' e)
  have hp := Coll.push b1 o1 hn h.coll.nb (fun k hk' => Nat.lt_of_lt_of_le (hX k hk') t1.size) h2 hg hk
  have tt : Touch (fun k => k = ms ∨ k = bo ∨ vo.ownBlock = some k) W (w2.setCell ⟨bo, 0, none⟩ v2) := (t1.mono fun b hb => .inl hb).trans (hp.2.mono fun b hb => .inr hb) fun b hb => .inl hb
  have nX : ∀ k, (k = ms ∨ k = bo ∨ vo.ownBlock = some k) → ¬ X k := by
    rintro k (rfl | rfl | hk')
    · exact h.nms
    · exact h.coll.nb
    · exact hn k hk'
  have bel : Below w.heap.size W (w2.setCell ⟨bo, 0, none⟩ v2) := tt.below (fun k hk' => by
    rcases hk' with rfl | rfl | hk'
    · exact h.ge.2.2
    · exact h.ge.1
    · exact Nat.le_trans h.hB.1 (ho.lt k hk').1) h.base.kept.size
  have hty := own_ty ho
  refine ⟨⟨hp.1, ?_, h.nms, h.sbox.touch tt ?_, h.nbs, h.row.touch tt ?_, h.nrow, fun d hd => ⟨?_, (h.ds d hd).2⟩, h.dd, ⟨Below.trans h.base.kept bel, h.base.ge⟩, h.ge, ⟨h.hB.1, Nat.le_trans h.hB.2 tt.size⟩, h.rlt⟩, Apart.of_touch tt nX, bel⟩
  · have := (SetM.touch hm hp.2 (fun e => e.elim (fun e => nbm e.symm) (fun e => hm.own o1 ms e rfl))).congr (q := fun y => decide (y ∈ out ++ [x])) (fun y => by simp [Bool.or_comm])
    simpa using this
  · rintro (e | e | e)
    · exact h.seen.blk h.sbox e.symm
    · exact Blk.ne_ h.sbox hb (by decide) e
    · exact own_ne ho h.sbox (by decide) bs e rfl
  · rintro k hk' (e | e | e)
    · subst e
      obtain ⟨cur, hc⟩ := h.row.ty k hk'
      exact h.seen.blk (g := k) (t := 9) (cs := cur) hc rfl
    · exact (TyAt.ne (h.row.ty k hk') hb.ty (by decide)) e
    · have h1 := h.rlt k hk'
      have h2 := (ho.lt k e).1
      omega
  · have hd' := (h.ds d hd).1
    refine tt.block hd' ?_
    rintro (e | e | e)
    · subst e
      obtain ⟨D', ⟨es, clock, hm', _⟩, _⟩ := h.seen
      rw [hm'] at hd'
      cases hd'
    · subst e
      rw [show W.heap[d]? = _ from hb] at hd'
      cases hd'
    · obtain ⟨cur, hc⟩ := hty d e
      rw [hc] at hd'
      cases hd'
end

theorem blk_at_ {w : World} {g : Nat} {t : TypeId} {cs : Array Value} (h : w.heap.size = g) : Blk (w.alloc (.cells cs t)) g t cs := h ▸ Blk.new w t cs
theorem AllS.row_rd {w : World} {B bo bs ms : Nat} {a : Option Addr} {n c : Nat} {cl out : List ByteArray} {Ds : List Nat} {X : Nat → Prop} {W : World} (h : AllS w B bo bs ms (.slice a n c) cl out Ds X W) (hn : n = cl.length := by assumption) : Rd W 1 (.slice a n c) n (cl.flatMap encS) := by
  have := h.row.rd
  rwa [← hn] at this
def AllR (w : World) (D : List TD) (s : ByteArray) (B : Nat) (ty vc : Value) (n : Nat) (m : Nat) (act : Act) (W : World) : Prop :=
  ∃ (k : Nat) (out : List ByteArray) (Ds : List Nat) (u8 u16 u17 u18 u19 u20 u21 u33 : Value), k ≤ n ∧ m + k = n + 1 ∧ out = ((chainL D s).take k).foldl (fun out c => addL out (aboveL D c)) [] ∧ AllS w B w.heap.size (w.heap.size + 1 + 1) (w.heap.size + 1) vc (chainL D s) out Ds (fun _ => False) W ∧
  act = { tmps := #[ty, .string s, undef, undef, .slice none 0 0, .pointer (some ⟨w.heap.size, 0, none⟩), .pointer (some ⟨w.heap.size + 1 + 1, 0, none⟩), undef, u8, undef, .map (some (w.heap.size + 1)), ty, .string s, vc, .int .i64 n, .int .i64 k, u16, u17, u18, u19, u20, u21, undef, undef, undef, undef, undef, undef, undef, undef, undef, undef, undef, u33, undef], defers := Ds.map fun d => { target := .collected d, args := #[] } }

set_option maxHeartbeats 2000000 in
theorem kin_All_in (n : Nat) (hn : 4 ≤ n) (D : List TD) (s : ByteArray) (v : Value) (w : World) (h : TyR w v D) (hs : s.size ≤ maxLen) :
    CallsIn Fence.wide n Try.prog 12 #[v, .string s] w fun e w' => ∃ v', e = .returned v' ∧ RowS w.heap.size (allL D s) w' v' ∧ Kept w w' := by
  have h1 : 1 ≤ n := by omega
  have H := Lib.hid h
  obtain ⟨a, c, rfl, hc1, hc2⟩ := h.slice
  have hl := h.len
  have hmm := @run_makeMap Try.prog
  clear h
  refine callsIn_of_wp_marks Try.func12 rfl trivial ?_ rfl
  refine wpIn_wide.2 ?_
  simp only [Try.ntmps12, List.size_toArray, List.length_cons, List.length_nil, Nat.reduceAdd, Nat.reduceSub, Array.replicate_succ, Array.replicate_zero, List.push_toArray, List.append_toArray, List.nil_append, List.cons_append]
  go_wp2_with fail
  have bo0 : Blk (((w.alloc (.cells #[.slice none 0 0] 24)).alloc (.map #[] 0)).alloc (.cells #[.map (some (w.heap.size + 1))] 55)) w.heap.size 24 #[.slice none 0 0] := ((Blk.new _ _ _).alloc _).alloc _
  have bs0 : Blk (((w.alloc (.cells #[.slice none 0 0] 24)).alloc (.map #[] 0)).alloc (.cells #[.map (some (w.heap.size + 1))] 55)) (w.heap.size + 1 + 1) 55 #[.map (some (w.heap.size + 1))] := blk_at_ (by simp)
  have ms0 : SetM (((w.alloc (.cells #[.slice none 0 0] 24)).alloc (.map #[] 0)).alloc (.cells #[.map (some (w.heap.size + 1))] 55)) (w.heap.size + 1) 0 (fun x => decide (x ∈ ([] : List ByteArray))) := by
    have := Dict.made Try.prog 9 Value.string (w.alloc (.cells #[.slice none 0 0] 24))
    rw [World.size_alloc] at this
    exact (Dict.kept this ((Below.refl _ _).alloc (Nat.le_refl _) _)).congr (fun a _ => by simp)
  have k0 : Kept w (((w.alloc (.cells #[.slice none 0 0] 24)).alloc (.map #[] 0)).alloc (.cells #[.map (some (w.heap.size + 1))] 55)) := (((Below.refl _ _).alloc (Nat.le_refl _) _).alloc (by simp) _).alloc (by simp; omega) _
  generalize (((w.alloc (.cells #[.slice none 0 0] 24)).alloc (.map #[] 0)).alloc (.cells #[.map (some (w.heap.size + 1))] 55)) = wb at *
  refine (kin_Chain D s _ wb (H.out.kept k0) hs).mono ?_
  rintro e w3 ⟨vc, rfl, hR, k3⟩
  obtain ⟨ac, cc, rfl, hcc, hcc2⟩ := hR.form
  obtain ⟨N, hN⟩ : ∃ N, N = (chainL D s).length := ⟨_, rfl⟩
  have hND : N ≤ D.length := by rw [hN]; exact (chainL_nms D s).le
  have hS0 : AllS w w3.heap.size w.heap.size (w.heap.size + 1 + 1) (w.heap.size + 1) (.slice ac (chainL D s).length cc) (chainL D s) [] [] (fun _ => False) w3 :=
    ⟨⟨⟨_, bo0.kept k3, World.ownsRow_nil _ _ _ _, fun _ _ => id⟩, id⟩, ms0.kept k3, id, bs0.kept k3, id, hR.base k0.size, fun _ _ => id, by simp, List.Pairwise.nil, ⟨Kept.trans k0 k3, fun _ => False.elim⟩, by omega, ⟨Nat.le_trans k0.size k3.size, Nat.le_refl _⟩, fun k hk => (hR.lt k hk).2⟩
  rw [← hN] at hS0 hcc ⊢
  have HS0 := Lib.hid hS0
  have HN := Lib.hid hN
  clear bo0 bs0 ms0 k0 hR k3 hN hS0 hmm
  go_wp2_with fail
  refine wp_loop_R (R := AllR w D s w3.heap.size (.slice a D.length c) (.slice ac N cc) N) (N + 1) ?h0 ?hz ?step
  case h0 => exact ⟨0, [], [], _, _, _, _, _, _, _, _, by omega, by omega, by simp, HS0.out, rfl⟩
  case hz =>
    rintro a' W ⟨k, _, _, _, _, _, _, _, _, _, _, h1, h2, _⟩
    omega
  case step =>
    rintro m a' W ⟨k, out, Ds, u8, u16, u17, u18, u19, u20, u21, u33, hk, hm, hout, hS, rfl⟩
    have HS := Lib.hid hS
    have HOUT := Lib.hid hout
    clear hS hout
    by_cases hlt : k < N
    · obtain ⟨x, hx⟩ : ∃ x, (chainL D s)[k]? = some x := ⟨_, List.getElem?_eq_getElem (by have := HN.out; omega)⟩
      obtain ⟨rb, ro, rc, hv, xs⟩ := str_cell HN.out (HS.out.row_rd HN.out) hx
      simp only [Value.slice.injEq] at hv
      obtain ⟨rfl, -, rfl⟩ := hv
      have HX := Lib.hid hx
      clear hx
      have hth : there D x := (chainL_nms D s).th x (List.mem_of_getElem? HX.out)
      have hxz := H.out.size_of hth
      have hno : Nms D out := by rw [HOUT.out]; exact foldl_keep (I := fun o => Nms D o) (fun o c ho => addL_nms ho (aboveL_nms D c).th) _ _ (Nms.nil D)
      have HNO := Lib.hid hno
      clear hth hno
      go_wp2_with fail
      refine (kin_over _ _ _ x _).mono ?_
      rintro e w1 ⟨rfl, hw1⟩
      have s1 : Step1 (fun _ => False) W (fun k => k = W.heap.size ∨ k = W.heap.size + 1) w1 := by
        rw [hw1]
        exact ⟨((Touch.refl _ W).alloc _).alloc _, fun _ => False.elim, fun k hk => .inr (by simp; omega)⟩
      have bb1 : Blk w1 W.heap.size 28 #[.slice a D.length c] := by rw [hw1]; exact (Blk.new _ _ _).alloc _
      have bb2 : Blk w1 (W.heap.size + 1) 9 #[.string x] := by rw [hw1]; exact blk_at_ (by simp)
      have zw1 : w1.heap.size = W.heap.size + 1 + 1 := by rw [hw1]; simp
      have HS1 := Lib.hid (HS.out.step s1)
      have B1 := Lib.hid bb1
      have B2 := Lib.hid bb2
      have Z1 := Lib.hid zw1
      have zW := HS.out.base.kept.size
      clear hw1 s1 bb1 bb2 zw1 HS
      go_wp2_with fail
      refine (wpIn_wide (n := n)).1 ?_
      have KW := Lib.hid HS1.out.base.kept
      refine wpIn_rangeFunc_X rfl h1 (gf := 23) (lb := #[.pointer (some ⟨W.heap.size, 0, none⟩), .pointer (some ⟨W.heap.size + 1, 0, none⟩)]) rfl trivial (enters_of Try.func23 (by kernel_rfl) rfl)
        (enc := Value.string) (X0 := fun k => k = W.heap.size ∨ k = W.heap.size + 1)
        (fun o o' => over_seq (n - 1) (by omega) D x _ w _ _ _ (fun k => k = W.heap.size ∨ k = W.heap.size + 1) H.out hxz (Below.trans KW.out (((Below.refl _ _).alloc KW.out.size _).alloc (by simp; have := KW.out.size; omega) _)) ((B1.out.alloc _).alloc _) ((B2.out.alloc _).alloc _) (.inl rfl) (.inr rfl) (fun k hk => by have := Z1.out; simp; omega))
        (fun k hk => by have := Z1.out; omega) KW.out.size rfl
        (fun pre X W => AllS w w3.heap.size w.heap.size (w.heap.size + 1 + 1) (w.heap.size + 1) (.slice (some ⟨rb, ro, none⟩) N cc) (chainL D s) (addL out pre) Ds X W) (fun _ _ _ _ => False)
        (fun s X W X' W' hs st => hs.step st) (fun _ _ _ _ _ _ hs _ => hs)
        HS1.out
        (fun y => { tmps := #[.slice a D.length c, .string s, undef, undef, .slice none 0 0, .pointer (some ⟨w.heap.size, 0, none⟩), .pointer (some ⟨w.heap.size + 1 + 1, 0, none⟩), undef, .string x, .string y, .map (some (w.heap.size + 1)), .slice a D.length c, .string s, .slice (some ⟨rb, ro, none⟩) N cc, .int .i64 N, .int .i64 k, .bool true, .pointer (some ⟨rb, ro + k, none⟩), .string x, .slice a D.length c, .string x, .func (.func 23) #[] #[.pointer (some ⟨W.heap.size, 0, none⟩), .pointer (some ⟨W.heap.size + 1, 0, none⟩)], .string y, undef, undef, undef, undef, undef, undef, undef, undef, undef, undef, u33, undef], defers := [] }) ?assign ?body ?done ?stop
      case assign =>
        intro l x W K hK
        gi_wp2
        exact hK
      case body =>
        rintro l pre X y V hA hX hlen hpy
        have hth : ∀ z ∈ pre ++ [y], there D z := fun z hz => (aboveL_nms D x).th z (hpy.subset hz)
        have hy : y.size ≤ maxLen := H.out.size_of (hth y (by simp))
        obtain ⟨vo, hb, ho, hn'⟩ := hA.coll.box
        have q0 := hA.sbox.cell 0
        have c0 := hb.cell 0
        simp only [List.getElem?_toArray, List.getElem?_cons_zero] at c0 q0
        have hon : (addL out pre).length ≤ D.length := (addL_nms HNO.out (fun z hz => hth z (by simp [hz]))).le
        clear hth hpy
        have HA := Lib.hid hA
        have HB := Lib.hid hb
        have HO := Lib.hid ho
        have HN' := Lib.hid hn'
        have HX := Lib.hid hX
        have zB := hA.hB.2
        have zo := hb.lt
        have zm := hA.seen.lt
        by_cases hin : y ∈ addL out pre
        · have hr := hA.seen.yes hy (by simpa using hin)
          have hadd : addL out (pre ++ [y]) = addL out pre := by rw [addL_snoc, if_pos hin]
          have HAD := Lib.hid hadd
          clear hA hb ho hn' hX hin hadd
          gi_wp2
          refine ⟨Apart.refl _ _, Below.refl _ _, ?_⟩
          dsimp only
          rw [HAD.out]
          exact HA.out
        · have hr := hA.seen.no hy (by simpa using hin)
          have hadd : addL out (pre ++ [y]) = addL out pre ++ [y] := by rw [addL_snoc, if_neg hin]
          have HAD := Lib.hid hadd
          obtain ⟨ly, hky⟩ := keyS hy
          obtain ⟨w4, hrun, hd4, hg4⟩ := Dict.store hA.seen lawS Try.underlying55 (by unfold maxLen; omega) hky (fun z hz => str_inj z y hz) (.int .i64 1)
          have HD4 := Lib.hid (SetM.put hd4)
          have t4 : Touch (fun k => k = w.heap.size + 1) V w4 := Touch.of_grown hg4 (fun k hk => by simpa using hk.symm)
          have hb4 := hb.touch t4 (by omega)
          have r0 := hb4.cell 0
          have r1 := hb4.frozen 0
          simp only [List.getElem?_toArray, List.getElem?_cons_zero] at r0
          have HO4 := Lib.hid (t4.own ho (fun k hk e => hA.seen.own ho k hk e))
          have HB4 := Lib.hid hb4
          have HG4 := Lib.hid hg4
          have z4 : w3.heap.size ≤ w4.heap.size := Nat.le_trans zB t4.size
          clear hA hb ho hn' hX hin hadd hky hd4 hg4 t4 hb4
          gi_wp2_with (gi_at_builtin; refine wplIn_push _ elem_str rfl _ _ rfl w3.heap.size vo (addL out pre).length _ rfl HO4.out [.string y] _ rfl rfl (one_S y) (by omega) (by omega) z4 ?_; intro v5 w5 ho5 hg5 hk5 hb5; obtain ⟨av, cv, rfl, -, -⟩ := own_slice ho5; have hb6 : Blk w5 w.heap.size 24 #[vo] := (hg5.block _ HB4.out.lt (fun e => own_ne HO4.out HB4.out (by decide) _ e.symm rfl)).trans HB4.out; have d0 := hb6.cell 0; have d1 := hb6.frozen 0; simp only [List.getElem?_toArray, List.getElem?_cons_zero] at d0; have hp := HA.out.add HX.out HB.out HO.out HN'.out HD4.out HG4.out ho5 hg5 hk5; have HP := Lib.hid hp; clear ho5 hg5 hk5 hb5 hb6 hp r0 r1)
          refine ⟨HP.out.2.1, HP.out.2.2, ?_⟩
          dsimp only
          rw [HAD.out]
          exact HP.out.1
      case done =>
        rintro DD ys X V hD rfl hA hK
        have hZ := Z1.out
        have hA' := hA.more hK (by have := KW.out.size; omega) (fun d hd => by
          have := (Array.getElem?_eq_some_iff.1 (HS1.out.ds d hd).1).1
          omega)
        have HA := Lib.hid hA'
        have HD := Lib.hid hD
        clear hA hK hA' hZ hD
        go_wp2_with fail
        refine ⟨k + 1, addL out (aboveL D x), DD :: Ds, _, _, _, _, _, _, _, _, by omega, by omega, ?_, HA.out, rfl⟩
        rw [List.take_add_one, HX.out, HOUT.out]
        simp
      case stop =>
        rintro D c pre X W _ _ hf
        exact hf.elim
    · obtain rfl : k = N := by omega
      have hfin : out = allL D s := by rw [HOUT.out, HN.out, List.take_length, allL_eq]
      obtain ⟨vo, hb, ho, -⟩ := HS.out.coll.box
      obtain ⟨av, cv, rfl, -, -⟩ := own_slice ho
      have c0 := hb.cell 0
      simp only [List.getElem?_toArray, List.getElem?_cons_zero] at c0
      have HO := Lib.hid ho
      have HF := Lib.hid hfin
      clear hb ho hfin
      go_wp2_with fail
      refine leaves_collected (fun W' => W'.ownsRow w3.heap.size 9 1 (.slice av out.length cv) out.length (out.flatMap encS) ∧ Kept w W') Ds W HS.out.dd (fun d hd => (HS.out.ds d hd).1) ⟨HO.out, HS.out.base.kept⟩ ?_ ?_
      · rintro D' W' hD' ⟨q1, q2⟩ q3
        exact keep_collected q1 q2 q3 (HS.out.ds D' hD').2.2
      · rintro W' ⟨q1, q2⟩
        exact ⟨.slice av out.length cv, by simp [results, Try.f12, go_sem], _, rfl, by rw [← HF.out]; exact (Row.of_own q1).base HS.out.hB.1, q2⟩

theorem kin_All (D : List TD) (s : ByteArray) (v : Value) (w : World) (h : TyR w v D) (hs : s.size ≤ maxLen) :
    Calls Try.prog 12 #[v, .string s] w fun e w' => ∃ v', e = .returned v' ∧ RowS w.heap.size (allL D s) w' v' ∧ Kept w w' :=
  callsIn_wide.1 (kin_All_in 4 (by omega) D s v w h hs)
end Go.Proofs.Ytccbdnlknijcbaa
