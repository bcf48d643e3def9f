/-
  Package kin: the iterator over a type's superinterfaces, by contract.
-/
import Derived.Test.YtccbdnlknijcbaaOverM
import Derived.Test.YtccbdnlknijcbaaScope
import Derived.RangeFuncNested
import Derived.RangeFuncBound
import Derived.RangeFuncCalls
namespace Go.Proofs.Ytccbdnlknijcbaa
open Go.RowKit Go.Maps Go.WideMaps Go.Shelf
set_option maxRecDepth 100000
attribute [local go_sem] Oper.semAt_some

theorem OvL.empty {D : List TD} {s : ByteArray} {pre : List ByteArray} (h : OvL D s [] pre) : pre = aboveL D s := h.fin_
theorem OvL.root_pop {D : List TD} {s : ByteArray} {pre : List ByteArray} {f : Fr} (h : OvL D s [f] pre) (hn : (ifs D f.name).length ≤ f.next) : OvL D s [] pre :=
  ⟨⟨Nms.nil D, h.good.o, by simp⟩, by simp, by simp, h.done hn⟩
theorem cameP_pop {st : List Fr} {nm : ByteArray} {a n : Nat} {pre : List ByteArray} (x : ByteArray) : cameP (st ++ [⟨nm, a, n⟩]) pre x = cameP st (pre ++ [nm]) x := by
  unfold cameP
  rw [Bool.eq_iff_iff]
  simp only [Bool.or_eq_true, decide_eq_true_eq, List.map_append, List.map_cons, List.map_nil, List.mem_append, List.mem_singleton]
  constructor
  · rintro ((h | h) | h)
    · exact .inl h
    · exact .inr (.inr h)
    · exact .inr (.inl h)
  · rintro (h | h | h)
    · exact .inl (.inl h)
    · exact .inr h
    · exact .inl (.inr h)
theorem cameP_next {st : List Fr} {nm : ByteArray} {a b n k : Nat} {pre : List ByteArray} (x : ByteArray) : cameP (st ++ [⟨nm, a, n⟩]) pre x = cameP (st ++ [⟨nm, b, k⟩]) pre x := by simp [cameP]
theorem cameP_push {st : List Fr} {nm : ByteArray} {a n : Nat} {pre : List ByteArray} (x : ByteArray) : cameP (st ++ [⟨nm, a, n⟩]) pre x = (decide (x = nm) || cameP st pre x) := by
  unfold cameP
  rw [Bool.eq_iff_iff]
  simp only [Bool.or_eq_true, decide_eq_true_eq, List.map_append, List.map_cons, List.map_nil, List.mem_append, List.mem_singleton]
  constructor
  · rintro ((h | h) | h)
    · exact .inr (.inl h)
    · exact .inl h
    · exact .inr (.inr h)
  · rintro (h | h | h)
    · exact .inl (.inr h)
    · exact .inl (.inl h)
    · exact .inr h
theorem fr_cells {w : World} {B m g c : Nat} {st : List Fr} {f : Fr} (hm : m = st.length) (h : w.ownsRow B 63 3 (.slice (some ⟨g, 0, none⟩) (m + 1) c) (m + 1) ((st ++ [f]).flatMap encFr)) :
    w.cell? ⟨g, m * 3, none⟩ = some (.string f.name) ∧ w.cell? ⟨g, m * 3 + 1, none⟩ = some (.int .i64 f.at_) ∧ w.cell? ⟨g, m * 3 + 2, none⟩ = some (.int .i64 f.next) ∧ w.frozen? ⟨g, m * 3 + 2, none⟩ = false := by
  obtain ⟨g', c', hv, _, _, _, _, hc, hf⟩ := own_form h (by omega)
  simp only [Value.slice.injEq, Option.some.injEq, Addr.mk.injEq] at hv
  obtain ⟨⟨rfl, -, -⟩, -, rfl⟩ := hv
  have hg : (st ++ [f])[m]? = some f := by rw [hm]; simp
  exact ⟨hc _ _ (flat_get encFr 3 (fun _ => rfl) _ m 0 f hg (by omega)), hc _ _ (flat_get encFr 3 (fun _ => rfl) _ m 1 f hg (by omega)), hc _ _ (flat_get encFr 3 (fun _ => rfl) _ m 2 f hg (by omega)), hf _⟩
theorem fr_set {st : List Fr} {f : Fr} {m : Nat} (hm : m = st.length) : ((st ++ [f]).flatMap encFr).set (m * 3 + 2) (.int .i64 ((f.next : Int) + 1)) = (st ++ [{ f with next := f.next + 1 }]).flatMap encFr := by
  rw [List.flatMap_append, List.flatMap_append, List.set_append_right _ _ (by rw [flat_length encFr 3 (fun _ => rfl)]; omega)]
  congr 1
  rw [flat_length encFr 3 (fun _ => rfl), hm, Nat.add_sub_cancel_left]
  simp [encFr]

theorem own_new {B : Nat} {e : TypeId} (W : World) (cs : List Value) (sz : Nat) (hB : B ≤ W.heap.size) (hl : cs.length = sz) : (W.alloc (.cells cs.toArray e)).ownsRow B e sz (.slice (some ⟨W.heap.size, 0, none⟩) 1 1) 1 cs :=
  ⟨by omega, .inr ⟨W.heap.size, 1, cs.toArray, rfl, hB, heap_alloc_new W _, Nat.le_refl _, by decide, by simp [hl], by simp [hl.symm]⟩⟩
theorem over_begin {w W0 w1 : World} {v : Value} {s : ByteArray} {b1 b2 k0 : Nat} {X0 : Nat → Prop} (hk : Kept w W0) (hb1 : Blk W0 b1 28 #[v]) (hb2 : Blk W0 b2 9 #[.string s]) (hx1 : X0 b1) (hx2 : X0 b2) (hX0 : ∀ k, X0 k → w.heap.size ≤ k ∧ k < W0.heap.size)
    (hm1 : Dict Try.prog 9 Value.string w1 W0.heap.size (0 + 1) (fun x => if x = s then some (.int .i64 1) else if (fun _ => false) x = true then some (.int .i64 1) else none)) (hg1 : (W0.alloc (.map #[] 0)).grownBy w1 (some W0.heap.size)) :
    OvM w v s b1 b2 W0.heap.size 1 (.slice none 0 0) [] (cameP [⟨s, k0, 0⟩] []) (fun k => X0 k ∨ k = W0.heap.size) w1 ∧ Step1 X0 W0 (fun k => X0 k ∨ k = W0.heap.size) w1 := by
  have k1 : Kept W0 w1 := Below.trans ((Below.refl _ _).alloc (Nat.le_refl _) _) ((Touch.of_grown (S := fun k => k = W0.heap.size) hg1 (fun k hk => by simpa using hk.symm)).below (fun b hb => by omega) (by simp))
  have s1 : Step1 X0 W0 (fun k => X0 k ∨ k = W0.heap.size) w1 := ⟨Touch.of_kept k1, fun _ => .inl, fun k hk => hk.imp id fun e => ⟨by omega, by have := hm1.lt; omega⟩⟩
  exact ⟨⟨Kept.trans hk k1, hb1.kept k1, hb2.kept k1, .inl hx1, .inl hx2, .inr rfl, (SetM.put hm1).congr (fun x => by simp [cameP]), World.ownsRow_nil _ _ _ _, (fun k hk => by cases hk), fun k hk => by
    rcases hk with hk | rfl
    · exact ⟨(hX0 k hk).1, Nat.lt_of_lt_of_le (hX0 k hk).2 k1.size⟩
    · exact ⟨Below.size hk, hm1.lt⟩⟩, s1⟩

set_option maxHeartbeats 4000000 in
theorem over_seq (n : Nat) (hn : 2 ≤ n) (D : List TD) (s : ByteArray) (v : Value) (w W0 : World) (b1 b2 : Nat) (X0 : Nat → Prop) (h : TyR w v D) (hs : s.size ≤ maxLen) (hk : Kept w W0) (hb1 : Blk W0 b1 28 #[v]) (hb2 : Blk W0 b2 9 #[.string s])
    (hx1 : X0 b1) (hx2 : X0 b2) (hX0 : ∀ k, X0 k → w.heap.size ≤ k ∧ k < W0.heap.size) :
    SeqX Fence.wide n Try.prog 23 #[.pointer (some ⟨b1, 0, none⟩), .pointer (some ⟨b2, 0, none⟩)] Value.string (fun xs => xs = aboveL D s) (fun pre => pre <+: aboveL D s) D.length w.heap.size X0 W0 := fun l J Jx hJ hJx hY h0 => by
  refine callsIn_of_wp Try.func23 rfl trivial ?_ rfl
  refine wpIn_wide.2 ?_
  simp only [Try.ntmps23, List.size_toArray, List.length_cons, List.length_nil, Nat.reduceAdd, Nat.reduceSub, Array.replicate_succ, Array.replicate_zero, List.push_toArray, List.append_toArray, List.nil_append, List.cons_append]
  obtain ⟨a, c, rfl, hc1, hc2⟩ := h.slice
  have hl := h.len
  have H := Lib.hid h
  have HJ := Lib.hid hJ
  have HJx := Lib.hid hJx
  have HY := Lib.hid hY
  have H0 := Lib.hid h0
  have HK := Lib.hid hk
  have HX0 := Lib.hid hX0
  have x0 := hb1.cell 0
  have y0 := hb2.cell 0
  simp at x0 y0
  have zb1 := hb1.lt
  have zb2 := hb2.lt
  have HB1 := Lib.hid hb1
  have HB2 := Lib.hid hb2
  clear h hJ hJx hY h0 hk hX0 hb1 hb2
  have hmm := @run_makeMap Try.prog
  go_step3
  go_wp2_with fail
  refine (kin_At D s _ _ (H.out.kept HK.out)).mono ?_
  rintro e w1 ⟨rfl, rfl⟩
  cases hat : atO D s with
  | none =>
    rw [atI_none hat]
    have hab := Lib.hid (aboveL_no hat)
    clear hat hmm
    go_wp2_with fail
    rw [Exit.noGoto_ret]
    refine bodyPost_ret (results_none rfl _ _ _) rfl ?_
    exact ⟨⟨_, rfl⟩, .inl ⟨_, X0, rfl, by rw [hab.out]; exact H0.out⟩⟩
  | some k0 =>
    rw [atI_some hat]
    have HL0 := Lib.hid (OvL.start hat)
    obtain ⟨lk, hkey⟩ := keyS hs
    have HKEY := Lib.hid hkey
    have d0 : SetM (W0.alloc (.map #[] 0)) W0.heap.size 0 (fun _ => false) := (Dict.made _ _ _ _).congr (fun a _ => by simp)
    have D0 := Lib.hid d0
    clear hat hkey d0
    go_wp2_with (refine wpl_insert _ rfl _ _ _ 55 rfl D0.out lawS Try.underlying55 (by decide) rfl s rfl (.int .i64 1) rfl HKEY.out (fun x hx => str_inj x s hx) ?_; intro w1 hm1 hg1; have o1 := over_begin (k0 := k0) HK.out HB1.out HB2.out hx1 hx2 HX0.out hm1 hg1; have O1 := Lib.hid o1.1; have S1 := Lib.hid o1.2; have y1 := o1.1.bn.cell 0; simp only [List.getElem?_toArray, List.getElem?_cons_succ, List.getElem?_cons_zero] at y1; clear o1 y0 x0 hm1 hg1)
    go_step3
    obtain ⟨W2, hW2⟩ : ∃ W2, W2 = w1.alloc (.cells #[.string s, .int .i64 k0, .int .i64 0] 63) := ⟨_, rfl⟩
    have p2 := O1.out.push (W' := W2) (f := ⟨s, k0, 0⟩) (v3 := .slice (some ⟨w1.heap.size, 0, none⟩) 1 1) (by rw [hW2]; exact own_new _ _ _ O1.out.kept.size rfl) (by rw [hW2]; exact World.grownBy_alloc _ _ _) (fun k hk => .inr (Nat.le_of_eq (by simpa [Value.ownBlock] using hk)))
    have O2 := Lib.hid p2.1
    have J2 := Lib.hid (HJ.out _ _ _ _ _ (HJ.out _ _ _ _ _ H0.out S1.out) p2.2)
    rw [← hW2]
    generalize hX2 : (fun k => (fun k => X0 k ∨ k = W0.heap.size) k ∨ (Value.slice (some ⟨w1.heap.size, 0, none⟩) 1 1).ownBlock = some k) = X2 at O2 J2
    clear p2 hW2 hX2 O1 y1
    go_wp2_with fail
    go_loopg [6] (2 * D.length) (fun g s6 wr => ∃ (st : List Fr) (pre : List ByteArray) (X : Nat → Prop) (cn : Nat) (p : ByteArray → Bool), OvM w (.slice a D.length c) s b1 b2 W0.heap.size cn s6 st p X wr ∧ OvL D s st pre ∧ J pre X wr ∧ (st ≠ [] → p = cameP st pre ∧ cn = st.length + pre.length ∧ g + st.length + 2 * pre.length = 2 * D.length + 1))
    case atStart => exact ⟨[⟨s, k0, 0⟩], [], X2, 1, _, O2.out, HL0.out, J2.out, fun _ => ⟨rfl, rfl, rfl⟩⟩
    case round =>
      obtain ⟨st, pre, X, cn, p, hO, hL, hJ1, hg⟩ := hrel
      have HO := Lib.hid hO
      have HL := Lib.hid hL
      have HJ1 := Lib.hid hJ1
      have HG := Lib.hid hg
      clear hO hL hJ1 hg
      rcases List.eq_nil_or_concat st with rfl | ⟨st', ⟨nm, ka, nx0⟩, rfl⟩
      · obtain ⟨ao, co, hv, -, -⟩ := own_slice HO.out.row
        subst hv
        simp only [List.length_nil]
        have HE := Lib.hid HL.out.empty
        go_wp2_with fail
        rw [Exit.noGoto_normal]
        refine bodyPost_end (results_none rfl _ _ _) rfl ?_
        exact ⟨⟨_, rfl⟩, .inl ⟨_, X, rfl, by rw [← HE.out]; exact HJ1.out⟩⟩
      · obtain ⟨m, hm⟩ : ∃ m, m = st'.length := ⟨_, rfl⟩
        have hrow := HO.out.row
        simp only [List.concat_eq_append, List.length_append, List.length_singleton, ← hm] at hrow
        obtain ⟨g, cg, hv, hgc, hgc2, -, -, -, -⟩ := own_form hrow (by omega)
        subst hv
        have hrow' := HO.out
        simp only [List.concat_eq_append] at hrow'
        have HO := Lib.hid hrow'
        have hL' := HL.out
        have hG' := HG.out (by simp)
        simp only [List.concat_eq_append] at hL'
        simp only [List.concat_eq_append, List.length_append, List.length_singleton, ← hm] at hG'
        obtain ⟨rfl, hcn, hgk⟩ := hG'
        obtain ⟨gO, hgO⟩ : ∃ gO, gO = gk := ⟨_, rfl⟩
        rw [← hgO] at hgk
        have hgle : gO ≤ gk := by omega
        clear hgO
        have hdep := hL'.depth
        simp only [List.length_append, List.length_singleton, ← hm] at hdep
        obtain ⟨ln, hln⟩ : ∃ ln, ln = (ifs D nm).length := ⟨_, rfl⟩
        have hat : atO D nm = some ka := hL'.ats ⟨nm, ka, nx0⟩ (by simp)
        obtain ⟨t, ht, -, hkl⟩ := atO_some hat
        have hifs := ifs_at hat ht
        have hnx : nx0 ≤ (ifs D nm).length := hL'.nxt ⟨nm, ka, nx0⟩ (by simp)
        rw [← hln] at hnx
        have HL := Lib.hid hL'
        have HM := Lib.hid hm
        have HLN := Lib.hid hln
        have HT := Lib.hid ht
        have HIF := Lib.hid hifs
        have hmI : IntKind.i64.wrap ((m : Int) + 1 - 1) = m := by rw [show (m : Int) + 1 - 1 = m by omega]; exact IntWalk.i64_in _ (by omega)
        clear hrow hrow' hL' hm hln ht hat hifs HG
        have hkI : (ka : Int) < (D.length : Int) := by omega
        have h0I : (0 : Int) ≤ (ka : Int) := by omega
        go_wp2_with fail
        go_loopg [6, 8, 9] (ln - nx0) (fun gi s6 s8 s9 wy => ∃ nx : Nat, s6 = .slice (some ⟨g, 0, none⟩) (m + 1) cg ∧ gi + nx = ln ∧ OvM w (.slice a D.length c) s b1 b2 W0.heap.size cn (.slice (some ⟨g, 0, none⟩) (m + 1) cg) (st' ++ [⟨nm, ka, nx⟩]) (cameP (st' ++ [⟨nm, ka, nx0⟩]) pre) X wy ∧ OvL D s (st' ++ [⟨nm, ka, nx⟩]) pre ∧ J pre X wy)
        case atStart => exact ⟨nx0, rfl, by omega, HO.out, HL.out, HJ1.out⟩
        case round =>
          obtain ⟨nx, rfl, hgi, hO, hL, hJ2⟩ := hrel
          clear HO HL HJ1 hnx
          have hrow := hO.row
          rw [List.length_append, List.length_singleton, ← HM.out] at hrow
          obtain ⟨q0, q1, q2, fz⟩ := fr_cells HM.out hrow
          dsimp only at q0 q1 q2
          have x0 := hO.bl.cell 0
          simp only [List.getElem?_toArray, List.getElem?_cons_zero] at x0
          obtain ⟨tb, off, cc, iv, fv, mv, hv, -, -, -, x3, -, -, hri, hil, -, -, -, -, -, -, hisz, -⟩ := (H.out.kept hO.kept).cells HT.out
          simp only [Value.slice.injEq] at hv
          obtain ⟨rfl, -, rfl⟩ := hv
          have hil2 : t.interfaces.length = ln := by rw [HLN.out, HIF.out]
          rw [hil2] at hri hil
          have HRD := Lib.hid hri
          obtain ⟨_, ai, ci, rfl, hci, hci2, _⟩ := hri
          have HO := Lib.hid hO
          have HL := Lib.hid hL
          have HJ2 := Lib.hid hJ2
          have HIS := Lib.hid hisz
          have HIL := Lib.hid hil2
          clear hrow hO hL hJ2 hisz hil2
          by_cases hlt : nx < ln
          · obtain ⟨x, hx⟩ : ∃ x, t.interfaces[nx]? = some x := ⟨_, List.getElem?_eq_getElem (by rw [HIL.out]; exact hlt)⟩
            obtain ⟨xb, xo, xc, hv, xs⟩ := str_cell HIL.out.symm HRD.out hx
            simp only [Value.slice.injEq] at hv
            obtain ⟨rfl, -, rfl⟩ := hv
            have hxi : (ifs D nm)[nx]? = some x := by rw [HIF.out]; exact hx
            have hxz := HIS.out x (List.mem_of_getElem? hx)
            have HXI := Lib.hid hxi
            have hnI : (nx : Int) < (ln : Int) := by omega
            have hn0 : (0 : Int) ≤ (nx : Int) := by omega
            clear hx hxi HIL
            go_wp2_with fail
            go_quiet (fail)
            generalize nq = n1 at *
            go_wp2_with fail
            go_quiet (fail)
            generalize nq = n2 at *
            go_wp2_with fail
            obtain ⟨V, hV⟩ : ∃ V, V = (wr.drewN (n1 + n2)).setCell ⟨g, m * 3 + 2, none⟩ (.int .i64 ((nx : Int) + 1)) := ⟨_, rfl⟩
            have hO1 := HO.out.drewN (n1 + n2)
            rw [show m + 1 = (st' ++ [(⟨nm, ka, nx⟩ : Fr)]).length by rw [List.length_append, List.length_singleton, ← HM.out]] at hO1
            have hS := hO1.store (m * 3 + 2) (.int .i64 ((nx : Int) + 1)) (st' := st' ++ [⟨nm, ka, nx + 1⟩]) (by simp) (fr_set HM.out)
            rw [← hV] at hS ⊢
            have hJ3 := HJ.out _ _ _ _ _ (HJ.out _ _ _ _ _ HJ2.out (show Step1 X wr X (wr.drewN (n1 + n2)) from ⟨(Touch.refl _ _).drewN _, fun _ => id, fun _ => .inl⟩)) hS.2
            have hO3 := hS.1
            rw [List.length_append, List.length_singleton, ← HM.out] at hO3
            have HO3 := Lib.hid hO3
            have HJ3 := Lib.hid hJ3
            clear hV hO1 hS hJ3 hO3 q0 q1 q2 fz x0 x3 xs HO HJ2
            refine (kin_At D x _ _ (H.out.kept HO3.out.kept)).mono ?_
            rintro e w3 ⟨rfl, rfl⟩
            cases hxa : atO D x with
            | none =>
              rw [atI_none hxa]
              have hL3 := HL.out.skip HXI.out (.inl (by unfold there; rw [hxa]; simp))
              have HL3 := Lib.hid hL3
              clear hxa hL3
              go_wp2_with fail
              go_roundg (gk - 1)
              case rel => exact ⟨nx + 1, rfl, by omega, HO3.out, HL3.out, HJ3.out⟩
              case measure => omega
            | some kx =>
              rw [atI_some hxa]
              by_cases hc : cameP (st' ++ [⟨nm, ka, nx⟩]) pre x = true
              · have hr := HO3.out.came.yes hxz (by rw [cameP_next (b := ka) (k := nx)]; exact hc)
                have hL3 := HL.out.skip HXI.out (.inr hc)
                have HL3 := Lib.hid hL3
                clear hxa hL3 hc
                go_wp2_with fail
                clear hr
                go_roundg (gk - 1)
                case rel => exact ⟨nx + 1, rfl, by omega, HO3.out, HL3.out, HJ3.out⟩
                case measure => omega
              · have hr := HO3.out.came.no hxz (by rw [cameP_next (b := ka) (k := nx)]; simpa using hc)
                have hL5 := HL.out.push HXI.out hxa (by simpa using hc)
                have HL5 := Lib.hid hL5
                obtain ⟨lx, hkx⟩ := keyS hxz
                have HKX := Lib.hid hkx
                clear hxa hL5 hc hkx
                go_wp2_with (first
                  | (at_mapUpdate; clear hr; refine wpl_mapset _ rfl _ _ _ 55 rfl HO3.out.came lawS Try.underlying55 (by unfold maxLen; omega) rfl x rfl (.int .i64 1) rfl HKX.out (fun y hy => str_inj y x hy) ?_; intro w4 hm4 hg4; have o4 := HO3.out.put (SetM.put hm4) hg4; have HO4 := Lib.hid o4.1; have HS4 := Lib.hid o4.2; have z4 := o4.1.kept.size; have r4 := o4.1.row; rw [List.length_append, List.length_singleton, ← HM.out] at r4; have HR4 := Lib.hid r4; clear o4 hm4 hg4 r4)
                  | (at_builtin; refine wpl_pushH _ elem_fr rfl _ _ rfl w.heap.size _ (m + 1) _ rfl HR4.out [.string x, .int .i64 kx, .int .i64 0] _ w4.heap.size rfl rfl rfl (fun u hu => by simp at hu; rcases hu with rfl | rfl | rfl <;> rfl) (by omega) (by omega) z4 ?_; intro v5 w5 ho5 hg5 hk5 hb5; have HO5 := Lib.hid ho5; have HG5 := Lib.hid hg5; have HK5 := Lib.hid hk5; clear ho5 hg5 hk5 hb5))
                have o5 := HO4.out.push (f := ⟨x, kx, 0⟩) (by rw [List.length_append, List.length_singleton, ← HM.out]; exact HO5.out) HG5.out HK5.out
                have J5 := HJ.out _ _ _ _ _ (HJ.out _ _ _ _ _ HJ3.out HS4.out) o5.2
                have O5 := Lib.hid o5.1
                have HJ5 := Lib.hid J5
                clear o5 J5
                go_roundg (gO - 1)
                case rel => exact ⟨_, pre, _, _, _, O5.out, HL5.out, HJ5.out, fun _ => ⟨funext fun y => by rw [cameP_push (st := st' ++ [(⟨nm, ka, nx + 1⟩ : Fr)]), cameP_next (st := st') (a := ka) (n := nx + 1) (b := ka) (k := nx0)], by simp; have := HM.out; omega, by simp; have := HM.out; omega⟩⟩
                case measure => omega
          · obtain rfl : nx = ln := by omega
            have hle : (ifs D nm).length ≤ nx := by rw [← HLN.out]; exact Nat.le_refl _
            by_cases hm0 : m = 0
            · obtain rfl : st' = [] := List.eq_nil_of_length_eq_zero (by rw [← HM.out, hm0])
              subst hm0
              have hend : pre = aboveL D s := HL.out.done hle
              have HEND := Lib.hid hend
              have hO1 := (HO.out.congr (q := cameP [⟨nm, ka, nx⟩] pre) (fun x => rfl))
              have hO2 := OvM.pop (st := []) hO1
              have HO2 := Lib.hid hO2
              have HL2 := Lib.hid (HL.out.root_pop hle)
              clear hle hend hO1 hO2
              go_wp2_with fail
              go_quiet (fail)
              go_wp2_with fail
              go_roundg (gO - 1)
              case rel => exact ⟨[], pre, X, cn, _, HO2.out.drewN nq, HL2.out, HJ.out _ _ _ _ _ HJ2.out ⟨(Touch.refl _ _).drewN nq, fun _ => id, fun _ => .inl⟩, fun h => absurd rfl h⟩
              case measure => omega
            · have hmp : 0 < m := by omega
              have hne : st' ≠ [] := fun e => hm0 (by rw [HM.out, e]; rfl)
              have hpop := HL.out.pop hne hle
              have hO1 := HO.out
              rw [HM.out] at hO1
              have hO2 := hO1.pop.congr (q := cameP st' (pre ++ [nm])) (fun x => by rw [cameP_pop])
              rw [← HM.out] at hO2
              have HO2 := Lib.hid hO2
              have HL2 := Lib.hid hpop
              have HNE := Lib.hid hne
              clear hle hpop hO1 hO2 hne
              go_wp2_with fail
              go_quiet (fail)
              go_upto_region 15 with fail
              have hJ3 := HJ.out _ _ _ _ _ HJ2.out (show Step1 X wr X (wr.drewN nq) from ⟨(Touch.refl _ _).drewN nq, fun _ => id, fun _ => .inl⟩)
              obtain ⟨fn, tmps, assign, body, hy, hR⟩ := HY.out pre X nm _ hJ3 (fun k hk => (HO.out.lt k hk).2) (by omega) HL2.out.told
              refine (wpIn_wide (n := n)).1 ?_
              clear hJ3
              gi_wp2
              refine ⟨fun _ => by omega, hR.mono ?_⟩
              rintro e W3 (⟨rfl, hJ4, hAp, hBe⟩ | ⟨rfl, hJx4⟩)
              · have HJ4 := Lib.hid hJ4
                have HO4 := Lib.hid ((HO2.out.drewN nq).round hAp hBe)
                clear hJ4 hAp hBe hy hR
                gi_wp2
                go_wp2_with fail
                go_roundg (gO - 1)
                case rel => exact ⟨st', pre ++ [nm], X, cn, _, HO4.out, HL2.out, HJ4.out, fun _ => ⟨rfl, by simp; have := HM.out; omega, by simp; have := HM.out; omega⟩⟩
                case measure => omega
              · have HJ4 := Lib.hid hJx4
                clear hJx4 hy hR
                gi_wp2
                go_wp2_with fail
                rw [Exit.noGoto_ret]
                refine bodyPost_ret (results_none rfl _ _ _) rfl ?_
                exact ⟨⟨_, rfl⟩, .inr ⟨pre ++ [nm], X, HL2.out.told, HJ4.out⟩⟩
end Go.Proofs.Ytccbdnlknijcbaa
