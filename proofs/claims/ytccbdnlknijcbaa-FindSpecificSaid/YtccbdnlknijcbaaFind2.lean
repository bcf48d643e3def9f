/-
  Package find by contract: declared, Most.
-/
import Derived.Test.YtccbdnlknijcbaaFind1
import Derived.Test.YtccbdnlknijcbaaSub
namespace Go.Proofs.Ytccbdnlknijcbaa
open Go.RowKit
set_option maxRecDepth 100000

theorem elem_fnd : ElemTy Try.prog 34 37 (.agg #[.string ⟨#[]⟩, .int .i64 0]) 2 24 := ⟨Try.underlying34, by kernel_rfl, rfl, by decide⟩
/-- A row of founds in a block of its own. -/
def RowF (B : Nat) (l : List FV) (w : World) (v : Value) : Prop := Row w B 37 2 v l.length (l.flatMap encF)
theorem founds_len (l : List FV) : (l.flatMap encF).length = l.length * 2 := flat_length encF 2 (fun _ => rfl) l
theorem one_F (f : FV) : ∀ u ∈ encF f, u.oneCell' = true := by intro u hu; simp [encF] at hu; rcases hu with rfl | rfl <;> rfl
/-- Founds that can be read. -/
abbrev RdF (w : World) (v : Value) (l : List FV) (n : Nat) : Prop := Rd w 2 v n (l.flatMap encF)
theorem fnd_cell {w : World} {l : List FV} {v : Value} {n : Nat} (hn : n = l.length) (h : RdF w v l n) {k : Nat} {s : FV} (hs : l[k]? = some s) :
    ∃ b off c, v = .slice (some ⟨b, off, none⟩) n c ∧ w.cell? ⟨b, off + k * 2, none⟩ = some (.string s.1) ∧ w.cell? ⟨b, off + k * 2 + 1, none⟩ = some (.int .i64 s.2) := by
  have hl := (List.getElem?_eq_some_iff.1 hs).1
  rcases h.parts with ⟨h0, h1, _⟩ | ⟨b, off, c, rfl, h0, _, _, hc⟩
  · omega
  · have h1 := hc (k * 2 + 0) (.string s.1) (by rw [flat_get encF 2 (fun _ => rfl) l k 0 s hs (by omega)]; rfl)
    have h2 := hc (k * 2 + 1) (.int .i64 s.2) (by rw [flat_get encF 2 (fun _ => rfl) l k 1 s hs (by omega)]; rfl)
    exact ⟨b, off, c, rfl, h1, h2⟩
theorem take_next {α : Type} {l : List α} {k : Nat} {x : α} (h : l[k]? = some x) : l.take (k + 1) = l.take k ++ [x] := by
  rw [List.take_add_one, h]
  rfl

set_option maxHeartbeats 1000000 in
theorem find_declared (D : List TD) (ts : List ByteArray) (c0 n d : ByteArray) (v vt : Value) (N : Nat) (w : World) (h : TyR w v D) (hN : N = ts.length) (hr : Rd w 1 vt N (ts.flatMap encS)) (hl : N ≤ 100) :
    Calls Try.prog 11 #[v, vt, .agg #[.string c0, .string n, .string d]] w fun e w' => ∃ v', e = .returned v' ∧ RowF w.heap.size (declL D ts n d) w' v' ∧ Kept w w' := by
  have H := Lib.hid h
  have HR := Lib.hid hr
  have HN := Lib.hid hN
  obtain ⟨_, at_, ct, rfl, hct1, hct2, -⟩ := hr
  have b0 := Blk.new w 33 #[.string c0, .string n, .string d]
  have k0 : Kept w (w.alloc (.cells #[.string c0, .string n, .string d] 33)) := (Below.refl _ _).alloc (Nat.le_refl _) _
  have z0 : w.heap.size + 1 = (w.alloc (.cells #[.string c0, .string n, .string d] 33)).heap.size := by simp
  have B0 := Lib.hid b0
  have K0 := Lib.hid k0
  clear h b0 k0 hN
  go_enter Try.func11, Try.ntmps11
  go_wp2
  generalize (w.alloc (.cells #[.string c0, .string n, .string d] 33)) = W at *
  go_loopw [7, 15] (fun s7 s15 wr => ∃ k : Nat, k ≤ N ∧ s15 = .int .i64 k ∧ wr.ownsRow W.heap.size 37 2 s7 (declL D (ts.take k) n d).length ((declL D (ts.take k) n d).flatMap encF) ∧ Kept W wr) (fun _ s15 _ => N - (intOf s15).toNat)
  case atStart => exact ⟨0, by omega, rfl, World.ownsRow_nil _ _ _ _, Below.refl _ _⟩
  case round =>
    obtain ⟨k, hk, rfl, hO, hK⟩ := hrel
    rename World => wr
    obtain ⟨ao, co, rfl, hoc, hoc2⟩ := own_slice hO
    have HO := Lib.hid hO
    have HK := Lib.hid hK
    have KW := Lib.hid (Kept.trans K0.out hK)
    have bb := B0.out.kept hK
    have q0 := bb.cell 0
    have q1 := bb.cell 1
    have q2 := bb.cell 2
    simp only [List.getElem?_toArray, List.getElem?_cons_succ, List.getElem?_cons_zero] at q0 q1 q2
    have zs := hK.size
    have hOl : (declL D (ts.take k) n d).length ≤ 100 := by have := declL_len D (ts.take k) n d; simp at this; omega
    clear hO hK bb
    by_cases hlt : k < N
    · obtain ⟨c, hc⟩ : ∃ m, ts[k]? = some m := ⟨_, List.getElem?_eq_getElem (by have := HN.out; omega)⟩
      obtain ⟨b, off, cc, hv, y0⟩ := str_cell HN.out (HR.out.kept KW.out) hc
      simp only [Value.slice.injEq] at hv
      obtain ⟨rfl, -, rfl⟩ := hv
      have hnext : declL D (ts.take (k + 1)) n d = declL D (ts.take k) n d ++ (declF D n d c).toList := by rw [take_next hc, declL_snoc]
      have CM := find_method D c c0 n d v wr (H.out.kept KW.out)
      cases hm : mth D c n d with
      | none =>
        have hf : declF D n d c = none := by simp [declF, hm]
        rw [hf] at hnext
        have HX := Lib.hid hnext
        unfold mthV at CM
        rw [hm] at CM
        have CM := Lib.hid CM
        clear hc hm hf hnext
        go_wp2_with fail
        refine CM.out.mono ?_
        rintro e w2 ⟨rfl, k2⟩
        have K2 := Lib.hid k2
        have z2 := k2.size
        clear k2
        go_wp2_with fail
        go_roundw
        case rel => exact ⟨k + 1, by omega, by go_num, by rw [HX.out]; simpa using Touch.own (S := fun _ => False) (Touch.of_kept (K2.out.alloc (by omega) _)) HO.out (fun _ _ => id), Kept.trans HK.out (K2.out.alloc (by omega) _)⟩
        case measure => simp [intOf]; omega
      | some x =>
        have hf : declF D n d c = if bits .and .i64 x.2 10 = 0 then some (c, x.1) else none := by simp [declF, hm]
        unfold mthV at CM
        rw [hm] at CM
        have CM := Lib.hid CM
        by_cases ha : bits .and .i64 x.2 10 = 0
        · rw [if_pos ha] at hf
          rw [hf] at hnext
          have HX := Lib.hid hnext
          clear hc hm hf hnext
          go_wp2_with fail
          refine CM.out.mono ?_
          rintro e w2 ⟨rfl, k2⟩
          have K2 := Lib.hid k2
          have z2 := k2.size
          have HO2 := Lib.hid (Touch.own (S := fun _ => False) (Touch.of_kept (k2.alloc (by omega) (.cells #[.string c, .int .i64 x.1] 37))) HO.out (fun _ _ => id))
          clear k2
          go_wp2_with (at_builtin; refine wpl_pushH _ elem_fnd rfl _ _ rfl W.heap.size _ (declL D (ts.take k) n d).length _ rfl HO2.out [.string c, .int .i64 x.1] _ (w2.heap.size + 1) rfl (by simp) rfl (one_F (c, x.1)) (by omega) (by omega) (by omega) ?_; intro v3 w3 ho3 hg3 hk3 hb3; have HO3 := Lib.hid ho3; have HB3 := Lib.hid hb3; clear ho3 hg3 hk3 hb3)
          go_roundw
          case rel => exact ⟨k + 1, by omega, by go_num, by rw [HX.out]; simpa [encF] using HO3.out, Below.trans HK.out (Below.trans ((K2.out.alloc (by omega) _).mono zs) HB3.out)⟩
          case measure => simp [intOf]; omega
        · rw [if_neg ha] at hf
          rw [hf] at hnext
          have HX := Lib.hid hnext
          clear hc hm hf hnext
          go_wp2_with fail
          refine CM.out.mono ?_
          rintro e w2 ⟨rfl, k2⟩
          have K2 := Lib.hid k2
          have z2 := k2.size
          clear k2
          go_wp2_with fail
          go_roundw
          case rel => exact ⟨k + 1, by omega, by go_num, by rw [HX.out]; simpa using Touch.own (S := fun _ => False) (Touch.of_kept (K2.out.alloc (by omega) _)) HO.out (fun _ _ => id), Kept.trans HK.out (K2.out.alloc (by omega) _)⟩
          case measure => simp [intOf]; omega
    · have e1 : ts.take k = ts := by rw [List.take_of_length_le (by have := HN.out; omega)]
      have hR : RowF w.heap.size (declL D ts n d) wr (.slice ao (declL D (ts.take k) n d).length co) := by
        have := HO.out
        rw [e1] at this ⊢
        exact (Row.of_own this).base K0.out.size
      have HR := Lib.hid hR
      clear hR e1
      go_wp2
      go_ret
      exact ⟨_, rfl, HR.out, KW.out⟩
end Go.Proofs.Ytccbdnlknijcbaa
