/-
  Package kin by contract: Chain; the document's Chain.
-/
import Derived.Test.YtccbdnlknijcbaaKin1
import Derived.Deep.LoopGhost
import Derived.Deep.CutBlock
import Derived.Test.YtccbdnlknijcbaaVal
namespace Go.Proofs.Ytccbdnlknijcbaa
open Go.RowKit
open Go.Maps Go.WideMaps
set_option maxRecDepth 100000

theorem lawS : Keyed Try.prog 9 := string_keyed Try.underlying9
theorem zeroI (w : World) : (zeroValue 3).run Try.prog w = .ok (.int .i64 0) w := by kernel_rfl
theorem keyS {s : ByteArray} (h : s.size ≤ maxLen) : ∃ l, keyOf Try.prog 9 (.string s) = some l := ⟨_, keyOf_string_mk (P := Try.prog) (k := 9) Try.underlying9 h⟩
theorem elem_str : ElemTy Try.prog 24 9 (.string ⟨#[]⟩) 1 16 := ⟨Try.underlying24, by kernel_rfl, rfl, by decide⟩
theorem str_inj (a b : ByteArray) (h : Value.string a = Value.string b) : a = b := by simpa using h

/-- Block b is a map that has each text of which p holds, at 1. -/
def SetM (w : World) (b n : Nat) (p : ByteArray → Bool) : Prop := Dict Try.prog 9 Value.string w b n (fun s => if p s then some (.int .i64 1) else none)

theorem SetM.yes {w : World} {b n : Nat} {p : ByteArray → Bool} (h : SetM w b n p) {s : ByteArray} (hs : s.size ≤ maxLen) (hp : p s = true) : (Instr.lookup 55 (.map (some b)) (.string s) false).run Try.prog w = .ok (.int .i64 1) w := by
  obtain ⟨l, hl⟩ := keyS hs
  have := Dict.look h lawS Try.underlying55 (zeroI _) (a := s) hl
  simpa [hp] using this
theorem SetM.no {w : World} {b n : Nat} {p : ByteArray → Bool} (h : SetM w b n p) {s : ByteArray} (hs : s.size ≤ maxLen) (hp : p s = false) : (Instr.lookup 55 (.map (some b)) (.string s) false).run Try.prog w = .ok (.int .i64 0) w := by
  obtain ⟨l, hl⟩ := keyS hs
  have := Dict.look h lawS Try.underlying55 (zeroI _) (a := s) hl
  simpa [hp] using this
theorem SetM.congr {w : World} {b n : Nat} {p q : ByteArray → Bool} (h : SetM w b n p) (hq : ∀ s, p s = q s) : SetM w b n q := Dict.congr h fun a _ => by rw [hq a]
theorem SetM.touch {S : Nat → Prop} {w w' : World} {b n : Nat} {p : ByteArray → Bool} (h : SetM w b n p) (ht : Touch S w w') (hn : ¬ S b) : SetM w' b n p := Dict.touch h ht hn
theorem SetM.kept {w w' : World} {b n : Nat} {p : ByteArray → Bool} (h : SetM w b n p) (hk : Kept w w') : SetM w' b n p := Dict.kept h hk
theorem SetM.put {w : World} {b n : Nat} {p : ByteArray → Bool} {s : ByteArray} (h : Dict Try.prog 9 Value.string w b n (fun x => if x = s then some (.int .i64 1) else if p x then some (.int .i64 1) else none)) : SetM w b n (fun x => decide (x = s) || p x) :=
  Dict.congr h fun a _ => by by_cases e : a = s <;> simp [e]

theorem one_S (s : ByteArray) : ∀ u ∈ [Value.string s], u.oneCell' = true := by intro u hu; simp at hu; rw [hu]; rfl
theorem strs_len (l : List ByteArray) : (l.flatMap encS).length = l.length * 1 := flat_length encS 1 (fun _ => rfl) l

/-- A result that is a row of texts of its own, clipped. -/
def RowS (B : Nat) (l : List ByteArray) (w : World) (v : Value) : Prop := Row w B 9 1 v l.length (l.flatMap encS)

set_option maxHeartbeats 1000000 in
theorem kin_Chain (D : List TD) (s : ByteArray) (v : Value) (w : World) (h : TyR w v D) (hs : s.size ≤ maxLen) :
    Calls Try.prog 21 #[v, .string s] w fun e w' => ∃ v', e = .returned v' ∧ RowS w.heap.size (chainL D s) w' v' ∧ Kept w w' := by
  have H := Lib.hid h
  obtain ⟨a, c, rfl, hc1, hc2⟩ := h.slice
  have hl := h.len
  have hmm := @run_makeMap Try.prog
  clear h
  go_enter Try.func21, Try.ntmps21
  go_wp2_with fail
  refine (kin_At D s _ _ (H.out.kept ((Below.refl _ _).alloc (Nat.le_refl _) _))).mono ?_
  rintro e w1 ⟨rfl, rfl⟩
  have d0 : SetM (w.alloc (.map #[] 0)) w.heap.size 0 (fun x => decide (x ∈ ([] : List ByteArray))) := (Dict.made _ _ _ _).congr (fun a _ => by simp)
  have k0 : Kept w (w.alloc (.map #[] 0)) := (Below.refl _ _).alloc (Nat.le_refl _) _
  have D0 := Lib.hid d0
  have K0 := Lib.hid k0
  have z0 : w.heap.size < (w.alloc (.map #[] 0)).heap.size := by simp
  clear d0 k0 hmm
  go_wp2_with fail
  generalize (w.alloc (.map #[] 0)) = w1 at *
  go_loopg [1, 5, 7] (D.length + 1) (fun g s1 s5 s7 wr => ∃ (name : ByteArray) (out : List ByteArray), s1 = .string name ∧ s7 = .int .i64 (atI D name) ∧ name.size ≤ maxLen ∧ chainR D g name out = chainL D s ∧ g + out.length = D.length + 1 ∧ Nms D out ∧
    wr.ownsRow w.heap.size 9 1 s5 out.length (out.flatMap encS) ∧ SetM wr w.heap.size out.length (fun x => decide (x ∈ out)) ∧ Kept w wr)
  case atStart => exact ⟨s, [], rfl, rfl, hs, rfl, rfl, Nms.nil D, World.ownsRow_nil _ _ _ _, D0.out, K0.out⟩
  case round =>
    obtain ⟨name, out, rfl, rfl, hnm, hch, hg, hN, hO, hM, hK⟩ := hrel
    have hD := hN.le
    obtain ⟨ao, co, rfl, hoc, hoc2⟩ := own_slice hO
    have HO := Lib.hid hO
    have HM := Lib.hid hM
    have HK := Lib.hid hK
    have HCH := Lib.hid hch
    have HN := Lib.hid hN
    obtain ⟨lk, hkey⟩ := keyS hnm
    have HKEY := Lib.hid hkey
    have zr := hK.size
    clear hO hM hK hch hN hkey
    have fini : chainR D gk name out = out → RowS w.heap.size (chainL D s) wr (.slice ao out.length out.length) := fun e => by
      rw [← HCH.out, e]
      exact (Row.of_own HO.out).clip
    have FINI := Lib.hid fini
    clear fini
    cases ho : atO D name with
    | none =>
      have F := Lib.hid (FINI.out (chainR_end (.inl ho)))
      rw [atI_none ho]
      clear ho
      go_wp2_with fail
      go_ret
      exact ⟨_, rfl, F.out, HK.out⟩
    | some k =>
      rw [atI_some ho]
      by_cases hin : name ∈ out
      · have F := Lib.hid (FINI.out (chainR_end (.inr hin)))
        have hr := HM.out.yes hnm (by simp [hin])
        clear hin ho
        go_wp2_with fail
        go_ret
        exact ⟨_, rfl, F.out, HK.out⟩
      · have hr := HM.out.no hnm (by simp [hin])
        obtain ⟨t, ht, htn, hkl⟩ := atO_some ho
        obtain ⟨g', rfl⟩ : ∃ g', gk = g' + 1 := ⟨gk - 1, by omega⟩
        have hN' := HN.out.snoc (by unfold there; rw [ho]; rfl) hin
        have hch' := chainR_step (f := g') ho ht hin
        rw [HCH.out] at hch'
        have hD' := hN'.le
        simp only [List.length_append, List.length_singleton] at hD'
        have HC' := Lib.hid hch'.symm
        have HN' := Lib.hid hN'
        have HT := Lib.hid ht
        clear hin ho hN' hch' ht FINI HN
        obtain ⟨bb, off, cc, iv, fv, mv, hv, -, x1, -, -, -, -, -, -, -, -, -, -, -, hsup, -⟩ := (H.out.kept HK.out).cells HT.out
        simp only [Value.slice.injEq] at hv
        obtain ⟨rfl, -, rfl⟩ := hv
        have X1 := Lib.hid x1
        clear x1
        go_wp2_with (first
          | (at_mapUpdate; clear hr; refine wpl_mapset _ rfl _ _ _ 55 rfl HM.out lawS Try.underlying55 (by unfold maxLen; omega) rfl name rfl (.int .i64 1) rfl HKEY.out (fun x hx => str_inj x name hx) ?_; intro w2 hm2 hg2; have ho2 := Touch.own (Touch.of_grown (S := fun b => b = w.heap.size) hg2 (fun k hk => by simpa using hk.symm)) HO.out (fun k hk e => HM.out.own HO.out k hk e); have k2 : Below w.heap.size wr w2 := (Touch.of_grown (S := fun b => b = w.heap.size) hg2 (fun k hk => by simpa using hk.symm)).below (fun b hb => by omega) zr; have HM2 := Lib.hid (SetM.put hm2); have HO2 := Lib.hid ho2; have K2 := Lib.hid (Below.trans HK.out k2); have z2 := (Below.trans HK.out k2).size; clear hm2 ho2 k2 hg2)
          | (at_builtin; refine wpl_pushH _ elem_str rfl _ _ rfl w.heap.size _ out.length _ rfl HO2.out [.string name] _ w2.heap.size rfl rfl rfl (one_S name) (by omega) (by omega) z2 ?_; intro v3 w3 ho3 hg3 hk3 hb3; have HM3 := Lib.hid (HM2.out.touch (Touch.of_grown (S := fun b => (Value.slice ao out.length co).ownBlock = some b) hg3 (fun k hk => hk)) (fun hb => HM2.out.own HO2.out _ hb rfl)); have HO3 := Lib.hid ho3; have K3 := Lib.hid (Below.trans K2.out hb3); have x1 := (Below.trans (hb3.mono (Nat.le_of_eq rfl)) (Below.refl _ w3)).size; clear ho3 hg3 hk3 hb3 x1; obtain ⟨bb2, off2, cc2, iv2, fv2, mv2, hv2, -, y1, -⟩ := (H.out.kept K3.out).cells HT.out; simp only [Value.slice.injEq, Option.some.injEq, Addr.mk.injEq] at hv2; obtain ⟨⟨rfl, rfl, -⟩, -, rfl⟩ := hv2))
        refine (kin_At D t.super _ _ (H.out.kept K3.out)).mono ?_
        rintro e w4 ⟨rfl, rfl⟩
        clear y1
        go_wp2_with fail
        go_roundg g'
        case rel =>
          refine ⟨t.super, out ++ [name], rfl, rfl, hsup, HC'.out, by simp; omega, HN'.out, by simpa [encS] using HO3.out, ?_, K3.out⟩
          have h3 := SetM.congr HM3.out (q := fun x => decide (x ∈ out ++ [name])) (fun x => by simp [Bool.or_comm])
          simpa using h3
        case measure => omega

end Go.Proofs.Ytccbdnlknijcbaa
