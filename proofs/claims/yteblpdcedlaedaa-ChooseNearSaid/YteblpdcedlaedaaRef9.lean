/-
  The document's own answer for chapter 9, by contract: over, Above, All, Sub.
-/
import Derived.Test.YteblpdcedlaedaaAbove
namespace Go.Proofs.Yteblpdcedlaedaa
open Go.RowKit Go.Maps Go.WideMaps
set_option maxRecDepth 100000

theorem strs_one (l : List ByteArray) : ∀ u ∈ l.flatMap encS, u.oneCell' = true := by
  intro u hu
  obtain ⟨y, _, hy⟩ := List.mem_flatMap.1 hu
  obtain rfl : u = Value.string y := by simpa [encS] using hy
  rfl
theorem stp_skip {D : List TD} {f : Nat} {busy out : List ByteArray} {x : ByteArray} (h : ¬ there D x ∨ x ∈ busy ∨ x ∈ out) : stp D f busy out x = out := by unfold stp; rw [if_pos h]
theorem stp_go {D : List TD} {f : Nat} {busy out : List ByteArray} {x : ByteArray} (h1 : there D x) (h2 : x ∉ busy) (h3 : x ∉ out) : stp D f busy out x = ovr D f x (busy ++ [x]) out ++ [x] := by
  unfold stp
  rw [if_neg]
  rintro (h | h | h)
  · exact h h1
  · exact h2 h
  · exact h3 h
theorem fold_next {D : List TD} {f : Nat} {busy out : List ByteArray} {l : List ByteArray} {i : Nat} {x : ByteArray} (hx : l[i]? = some x) : (l.drop i).foldl (stp D f busy) out = (l.drop (i + 1)).foldl (stp D f busy) (stp D f busy out x) := by
  have hl := (List.getElem?_eq_some_iff.1 hx).1
  rw [List.drop_eq_getElem_cons hl, List.foldl_cons, (List.getElem?_eq_some_iff.1 hx).2]

def Overed (w0 w : World) (vo : Value) (l : List ByteArray) (e : Ending) (w' : World) : Prop :=
  ∃ v', e = .returned v' ∧ w'.ownsRow w0.heap.size 9 1 v' l.length (l.flatMap encS) ∧ Touch (fun k => vo.ownBlock = some k) w w' ∧ ∀ k, v'.ownBlock = some k → vo.ownBlock = some k ∨ w.heap.size ≤ k

theorem ref9_over_none (D : List TD) (v : Value) (w0 : World) (hT : TyR w0 v D) (f : Nat) (name : ByteArray) (busy out : List ByteArray) (vb vo : Value) (w : World) (hk : Kept w0 w) (ho : w.ownsRow w0.heap.size 9 1 vo out.length (out.flatMap encS)) (hat : atO D name = none) :
    Calls Try.prog 55 #[v, .string name, vb, vo] w (Overed w0 w vo (ovr D f name busy out)) := by
  have C := ref9_At D name v w (hT.kept hk)
  rw [atI_none hat] at C
  rw [ovr_none hat]
  obtain ⟨ao, co, rfl, -, -⟩ := own_slice ho
  have HO := Lib.hid ho
  clear ho hat
  go_enter Try.func55, Try.ntmps55
  go_wp2_with fail
  refine C.mono ?_
  rintro e w1 ⟨rfl, rfl⟩
  clear C
  go_wp2_with fail
  go_ret
  exact ⟨_, rfl, HO.out, Touch.refl _ _, fun k hk => .inl hk⟩

set_option maxHeartbeats 4000000 in
theorem ref9_over (D : List TD) (v : Value) (w0 : World) (hT : TyR w0 v D) : ∀ (f : Nat) (name : ByteArray) (busy out : List ByteArray) (vb vo : Value) (w : World), name.size ≤ maxLen → Kept w0 w → Row w 0 9 1 vb busy.length (busy.flatMap encS) → w.ownsRow w0.heap.size 9 1 vo out.length (out.flatMap encS) →
    (∀ k, vb.ownBlock = some k → vo.ownBlock ≠ some k) → (there D name → Good D busy out ∧ f + busy.length = D.length + 1) → Calls Try.prog 55 #[v, .string name, vb, vo] w (Overed w0 w vo (ovr D f name busy out)) := by
  intro f
  induction f with
  | zero =>
    intro name busy out vb vo w hn hk hb ho hd hg
    cases hat : atO D name with
    | some k =>
      obtain ⟨g1, g2⟩ := hg (by unfold there; rw [hat]; rfl)
      have := g1.b.le
      omega
    | none => exact ref9_over_none D v w0 hT 0 name busy out vb vo w hk ho hat
  | succ f ih =>
    intro name busy out vb vo w hn hk hb ho hd hg
    cases hat : atO D name with
    | none => exact ref9_over_none D v w0 hT (f + 1) name busy out vb vo w hk ho hat
    | some ka =>
      have H := Lib.hid hT
      have IH := Lib.hid ih
      obtain ⟨a, c, rfl, hc1, hc2⟩ := hT.slice
      have hl := hT.len
      obtain ⟨g1, g2⟩ := hg (by unfold there; rw [hat]; rfl)
      have C := ref9_At D name _ w (hT.kept hk)
      rw [atI_some hat] at C
      obtain ⟨t, ht, -, hkl⟩ := atO_some hat
      obtain ⟨ln, hln⟩ : ∃ ln, ln = t.interfaces.length := ⟨_, rfl⟩
      have hifs := ifs_at hat ht
      obtain ⟨ab, cb, rfl, hcb, hcb2⟩ := hb.form
      have hbl := g1.b.le
      have HT := Lib.hid ht
      have HIF := Lib.hid hifs
      have HLN := Lib.hid hln
      have HK := Lib.hid hk
      have HB := Lib.hid hb
      have HO := Lib.hid ho
      have HD := Lib.hid hd
      have HG := Lib.hid g1
      have hkI : (ka : Int) < (D.length : Int) := by omega
      have h0I : (0 : Int) ≤ (ka : Int) := by omega
      clear hT ih hk hb ho hd hg hat ht hifs hln g1
      go_enter Try.func55, Try.ntmps55
      go_wp2_with fail
      refine C.mono ?_
      rintro e w1 ⟨rfl, rfl⟩
      clear C
      go_wp2_with fail
      go_loopw [3, 10] (fun s3 s10 wr => ∃ (i : Nat) (o : List ByteArray), i ≤ ln ∧ s10 = .int .i64 i ∧ Good D busy o ∧ (t.interfaces.drop i).foldl (stp D f busy) o = ovr D (f + 1) name busy out ∧ wr.ownsRow w0.heap.size 9 1 s3 o.length (o.flatMap encS) ∧ Touch (fun k => vo.ownBlock = some k) w wr ∧ ∀ k, s3.ownBlock = some k → vo.ownBlock = some k ∨ w.heap.size ≤ k) (fun _ s10 _ => ln - (intOf s10).toNat)
      case atStart => exact ⟨0, out, by omega, rfl, HG.out, by rw [ovr_succ, HIF.out]; rfl, HO.out, Touch.refl _ _, fun k hk => .inl hk⟩
      case round =>
        obtain ⟨i, o, hi, rfl, hGo, hfo, hoo, htt, hkk⟩ := hrel
        obtain ⟨ao, co, rfl, hco, hco2⟩ := own_slice hoo
        have hbel : Below w0.heap.size w wr := htt.below (fun b hb => (HO.out.lt b hb).1) HK.out.size
        have KR := Lib.hid (Below.trans HK.out hbel)
        have hbr := HB.out.touch htt (fun k hk hk' => HD.out k hk hk')
        have HBR := Lib.hid hbr
        have hol := hGo.o.le
        have HGo := Lib.hid hGo
        have HFo := Lib.hid hfo
        have HOo := Lib.hid hoo
        have HTT := Lib.hid htt
        have HKK := Lib.hid hkk
        clear hGo hfo hoo htt hkk hbel hbr
        obtain ⟨tb, off, cc, iv, fv, mv, hv, -, -, -, x3, -, -, hri, hil, -, -, -, -, -, -, hisz, -⟩ := (H.out.kept KR.out).cells HT.out
        simp only [Value.slice.injEq] at hv
        obtain ⟨rfl, -, rfl⟩ := hv
        rw [← HLN.out] at hri hil
        have HRD := Lib.hid hri
        obtain ⟨_, ai, ci, rfl, hci, hci2, _⟩ := hri
        have HIS := Lib.hid hisz
        have zr := KR.out.size
        clear hisz
        by_cases hlt : i < ln
        · obtain ⟨x, hx⟩ : ∃ x, t.interfaces[i]? = some x := ⟨_, List.getElem?_eq_getElem (by have := HLN.out; omega)⟩
          obtain ⟨xb, xo, xc, hv, xs⟩ := str_cell HLN.out HRD.out hx
          simp only [Value.slice.injEq] at hv
          obtain ⟨rfl, -, rfl⟩ := hv
          have hxz := HIS.out x (List.mem_of_getElem? hx)
          have hfx := fold_next (D := D) (f := f) (busy := busy) (out := o) hx
          rw [HFo.out] at hfx
          have HFX := Lib.hid hfx
          have C1 := Lib.hid (ref9_At D x _ wr (H.out.kept KR.out))
          have C2 := Lib.hid (ref9_Has busy x _ busy.length wr rfl HBR.out.rd (by omega))
          have C3 := Lib.hid (ref9_Has o x _ o.length wr rfl (Rd.of_own HOo.out) (by omega))
          have hnI : (i : Int) < (ln : Int) := by omega
          clear hx hfx
          cases hax : atO D x with
          | none =>
            have C1v := C1.out
            rw [atI_none hax] at C1v
            have hsk := HFX.out
            rw [stp_skip (.inl (by unfold there; rw [hax]; simp))] at hsk
            have HSK := Lib.hid hsk.symm
            generalize decide (x ∈ busy) = d1 at *
            generalize decide (x ∈ o) = d2 at *
            clear hsk hax
            go_wp2_with fail
            refine C1v.mono ?_
            rintro e w2 ⟨rfl, rfl⟩
            clear C1v
            go_wp2_with fail
            refine C2.out.mono ?_
            rintro e w2 ⟨rfl, rfl⟩
            go_wp2_with fail
            refine C3.out.mono ?_
            rintro e w2 ⟨rfl, rfl⟩
            go_wp2_with fail
            go_roundw
            case rel => exact ⟨i + 1, o, by omega, by go_num, HGo.out, HSK.out, HOo.out, HTT.out, HKK.out⟩
            case measure => simp [intOf]; omega
          | some kx =>
            have C1v := C1.out
            rw [atI_some hax] at C1v
            have hth : there D x := by unfold there; rw [hax]; rfl
            have HTH := Lib.hid hth
            clear hth hax
            by_cases hb1 : x ∈ busy
            · have hsk := HFX.out
              rw [stp_skip (.inr (.inl hb1))] at hsk
              have HSK := Lib.hid hsk.symm
              have c2 := C2.out
              rw [decide_eq_true hb1] at c2
              generalize decide (x ∈ o) = d2 at *
              clear hsk hb1
              go_wp2_with fail
              refine C1v.mono ?_
              rintro e w2 ⟨rfl, rfl⟩
              clear C1v
              go_wp2_with fail
              refine c2.mono ?_
              rintro e w2 ⟨rfl, rfl⟩
              clear c2
              go_wp2_with fail
              refine C3.out.mono ?_
              rintro e w2 ⟨rfl, rfl⟩
              go_wp2_with fail
              go_roundw
              case rel => exact ⟨i + 1, o, by omega, by go_num, HGo.out, HSK.out, HOo.out, HTT.out, HKK.out⟩
              case measure => simp [intOf]; omega
            · have c2 := C2.out
              rw [decide_eq_false hb1] at c2
              by_cases ho1 : x ∈ o
              · have hsk := HFX.out
                rw [stp_skip (.inr (.inr ho1))] at hsk
                have HSK := Lib.hid hsk.symm
                have c3 := C3.out
                rw [decide_eq_true ho1] at c3
                clear hsk hb1 ho1
                go_wp2_with fail
                refine C1v.mono ?_
                rintro e w2 ⟨rfl, rfl⟩
                clear C1v
                go_wp2_with fail
                refine c2.mono ?_
                rintro e w2 ⟨rfl, rfl⟩
                clear c2
                go_wp2_with fail
                refine c3.mono ?_
                rintro e w2 ⟨rfl, rfl⟩
                clear c3
                go_wp2_with fail
                go_roundw
                case rel => exact ⟨i + 1, o, by omega, by go_num, HGo.out, HSK.out, HOo.out, HTT.out, HKK.out⟩
                case measure => simp [intOf]; omega
              · have c3 := C3.out
                rw [decide_eq_false ho1] at c3
                have hgo := HFX.out
                rw [stp_go HTH.out hb1 ho1] at hgo
                have HGOO := Lib.hid hgo.symm
                have hgp := HGo.out.push HTH.out hb1 ho1
                have hgq := (ovr_good (f := f) (s := x) hgp).pop
                have HGP := Lib.hid hgp
                have HGQ := Lib.hid hgq
                have hol2 := hgq.o.le
                have hbl2 := hgp.b.le
                simp only [List.length_append, List.length_singleton] at hol2 hbl2
                clear hgo hb1 ho1 hgp hgq
                go_wp2_with fail
                refine C1v.mono ?_
                rintro e w2 ⟨rfl, rfl⟩
                clear C1v
                go_wp2_with fail
                refine c2.mono ?_
                rintro e w2 ⟨rfl, rfl⟩
                clear c2
                go_wp2_with fail
                refine c3.mono ?_
                rintro e w2 ⟨rfl, rfl⟩
                clear c3
                go_wp2_with (first
                  | (at_builtin; refine wpl_append _ elem_str rfl (.const (.slice none 0 0)) (.tmp 59) rfl wr.heap.size _ 0 [] rfl (World.ownsRow_nil _ _ _ _) _ busy.length _ rfl HBR.out.rd (strs_one _) (by omega) (by omega) (Nat.le_refl _) ?_; intro v4 w4 ho4 hg4; rw [Nat.zero_add, List.nil_append] at ho4; have k4 : Kept wr w4 := (Below.refl _ _).grown hg4 (Nat.le_refl _) (fun k hk => by cases hk); have HO4 := Lib.hid ho4; have K4 := Lib.hid k4; have z4 := k4.size; clear ho4 hg4 k4)
                  | (at_builtin; refine wpl_pushH _ elem_str rfl (.tmp 60) (.tmp 62) rfl wr.heap.size v4 busy.length _ rfl HO4.out [.string x] _ w4.heap.size rfl rfl rfl (one_S x) (by omega) (by omega) z4 ?_; intro v5 w5 ho5 hg5 hk5 hb5; have HO5 := Lib.hid ho5; have K5 := Lib.hid (Below.trans K4.out hb5); clear ho5 hg5 hk5 hb5))
                have hr5 : Row w5 0 9 1 v5 (busy ++ [x]).length ((busy ++ [x]).flatMap encS) := by
                  have := (Row.of_own HO5.out).base (Nat.zero_le _)
                  simpa [encS] using this
                have ho5 := Touch.own (S := fun _ => False) (Touch.of_kept K5.out) HOo.out (fun _ _ => id)
                have hd5 : ∀ k, v5.ownBlock = some k → (Value.slice ao o.length co).ownBlock ≠ some k := fun k hk e => by
                  have := (HO5.out.lt k hk).1
                  have := (HOo.out.lt k e).2
                  omega
                have k5 := K5.out.size
                have KW5 := Below.trans KR.out (K5.out.mono zr)
                have C6 := IH.out x (busy ++ [x]) o v5 _ w5 hxz KW5 hr5 ho5 hd5 (fun _ => ⟨HGP.out, by simp; omega⟩)
                have HKW5 := Lib.hid KW5
                have HOO5 := Lib.hid ho5
                clear hr5 ho5 hd5 KW5 HO4 HO5 K4 IH
                refine C6.mono ?_
                rintro e w6 ⟨v6, rfl, ho6, ht6, hk6⟩
                clear C6
                have hb6 : Below w0.heap.size w5 w6 := ht6.below (fun b hb => (HOO5.out.lt b hb).1) HKW5.out.size
                have z6 : w0.heap.size ≤ w6.heap.size := Nat.le_trans HKW5.out.size hb6.size
                have T6 := Lib.hid (((HTT.out.trans (S' := fun k => (Value.slice ao o.length co).ownBlock = some k) (Touch.of_kept K5.out) (fun b hb => HKK.out b hb)).trans ht6 (fun b hb => HKK.out b hb)))
                have HO6 := Lib.hid ho6
                have HK6 := Lib.hid (fun k (hk : v6.ownBlock = some k) => show vo.ownBlock = some k ∨ w.heap.size ≤ k from (hk6 k hk).elim (HKK.out k) (fun h => .inr (Nat.le_trans HTT.out.size (Nat.le_trans k5 h))))
                obtain ⟨a6, c6, rfl, -, -⟩ := own_slice ho6
                have ol6 := HGQ.out.o.le
                simp only [List.length_append, List.length_singleton] at ol6
                generalize hov : ovr D f x (busy ++ [x]) o = o6 at *
                clear ho6 ht6 hk6 hb6 hov
                go_wp2_with (at_builtin; refine wpl_pushH _ elem_str rfl (.tmp 66) (.tmp 68) rfl w0.heap.size _ o6.length _ rfl HO6.out [.string x] _ w6.heap.size rfl rfl rfl (one_S x) (by omega) (by omega) z6 ?_; intro v7 w7 ho7 hg7 hk7 hb7; have HO7 := Lib.hid ho7; have HG7 := Lib.hid hg7; have HK7 := Lib.hid hk7; clear ho7 hg7 hk7 hb7)
                go_roundw
                case rel =>
                  refine ⟨i + 1, o6 ++ [x], by omega, by go_num, HGQ.out, HGOO.out, by simpa [encS] using HO7.out, T6.out.trans (S' := fun k => (Value.slice a6 o6.length c6).ownBlock = some k) (Touch.of_grown HG7.out (fun k hk => hk)) (fun b hb => HK6.out b hb), fun k hk => ?_⟩
                  rcases HK7.out k hk with h7 | h7
                  · exact HK6.out k h7
                  · exact .inr (Nat.le_trans T6.out.size h7)
                case measure => simp [intOf]; omega
        · obtain rfl : i = ln := by omega
          have hfin : o = ovr D (f + 1) name busy out := by
            rw [← HFo.out, HLN.out, List.drop_length]
            rfl
          have HFI := Lib.hid hfin
          clear hfin
          go_wp2_with fail
          go_ret
          exact ⟨_, rfl, by rw [← HFI.out]; exact HOo.out, HTT.out, HKK.out⟩
end Go.Proofs.Yteblpdcedlaedaa
