/-
  Package pool by contract: what turns it.
-/
import Derived.Test.YtjdldgpkcfigiaaPool

namespace Go.Proofs.Ytjdldgpkcfigiaa
open Go.RowKit Go.Maps
set_option maxRecDepth 100000

/-- What tell answers; the entries behind it. -/
def tellE (es : List EntV) (t : Int) (x : EntV) : Int := if 1 ≤ t ∧ t ≤ es.length then (if x.st = 2 ∧ x.err.toList = [] then 1 else if (entAt es t).st = 0 then 0 else 24) else 40
def tellL (es : List EntV) (t : Int) (x : EntV) : List EntV := if tellE es t x = 0 then es.set (t - 1).toNat x else es

/-- Behind a call of tell. -/
structure Told (w : World) (g b n : Nat) (es : List EntV) (t : Int) (x : EntV) (e : Ending) (w' : World) : Prop where
  e : e = .returned (.int .i64 (tellE es t x))
  pool : IsPool w' (.pointer (some ⟨g, 0, none⟩)) (tellL es t x) g b (n + 1)
  touch : Touch (fun k => k = b) w w'

theorem IsPool.mono {w : World} {p : Value} {es : List EntV} {g b n n' : Nat} (h : IsPool w p es g b n) (hn : n ≤ n') : IsPool w p es g b n' := ⟨h.ptr, h.blk, h.dict.mono hn, h.bare, h.big⟩
theorem told_same {w w' : World} {g b n : Nat} {es : List EntV} {t : Int} {x : EntV} {k : Int} (h : IsPool w (.pointer (some ⟨g, 0, none⟩)) es g b n) (he : tellE es t x = k) (h0 : k ≠ 0) (hk : Kept w w') : Told w g b n es t x (.returned (.int .i64 k)) w' := by
  refine ⟨by rw [he], ?_, Touch.of_kept hk⟩
  rw [tellL, if_neg (by rw [he]; exact h0)]
  exact (h.kept hk).mono (by omega)
theorem told_set {w w1 w' : World} {g b n : Nat} {es : List EntV} {t : Int} {x : EntV} (h : IsPool w (.pointer (some ⟨g, 0, none⟩)) es g b n) (he : tellE es t x = 0) (hx : x.st ≠ 0) (hk : Kept w w1)
    (hd : Dict Try.prog 81 keyP w' b (n + 1) (fun y => if y = t then some (entry x) else dictP es y)) (hg : w1.grownBy w' (some b)) : Told w g b n es t x (.returned (.int .i64 0)) w' := by
  have ht : Touch (fun k => k = b) w w' := (Touch.of_kept hk).trans (Touch.of_grown (S := fun k => k = b) hg (fun k h => by simpa using h.symm)) fun k hk => .inl hk
  have hb : 1 ≤ t ∧ t ≤ es.length := by
    unfold tellE at he
    split at he
    · assumption
    · omega
  have hset : tellL es t x = es.set (t - 1).toNat x := by rw [tellL, if_pos he]
  refine ⟨by rw [he], ⟨rfl, ?_, ?_, ?_, ?_⟩, ht⟩
  · rw [hset, List.length_set]
    exact h.blk.touch ht (fun e => h.dict.blk h.blk e.symm)
  · refine hd.congr fun y _ => ?_
    have hy : entAt (tellL es t x) y = if y = t then x else entAt es y := by
      rw [hset]
      unfold entAt
      by_cases e : y = t
      · subst e
        rw [if_pos rfl, if_pos hb.1, List.getElem?_set_self (by omega)]
        rfl
      · rw [if_neg e]
        by_cases h1 : 1 ≤ y
        · rw [if_pos h1, if_pos h1, List.getElem?_set_ne (by omega)]
        · rw [if_neg h1, if_neg h1]
    unfold dictP
    rw [hy]
    by_cases e : y = t
    · rw [if_pos e, if_pos e, if_neg hx]
    · rw [if_neg e, if_neg e]
  · intro z hz h0
    rw [hset] at hz
    rcases List.mem_or_eq_of_mem_set hz with hz | rfl
    · exact h.bare z hz h0
    · exact absurd h0 hx
  · rw [hset, List.length_set]; exact h.big

set_option maxHeartbeats 1000000 in
theorem pool_tell (w : World) (es : List EntV) (g b n : Nat) (t : Int) (x : EntV) (h : IsPool w (.pointer (some ⟨g, 0, none⟩)) es g b n) (h1 : -9223372036854775808 ≤ t) (h2 : t ≤ 9223372036854775807) (hx0 : x.st ≠ 0) (hn : n < 9223372036854775807) :
    Calls Try.prog 29 #[.pointer (some ⟨g, 0, none⟩), .int .i64 t, .agg #[.int .i64 x.st, .string x.err, .string x.cls, .int .i64 x.at_]] w (Told w g b n es t x) := by
  obtain ⟨kl, hkl⟩ := key_some t h1 h2
  have H := Lib.hid h
  have HK := Lib.hid hkl
  have HL := Lib.hid (dict_look h.bare t)
  have c0 := h.blk.cell 0
  have c1 := h.blk.cell 1
  simp at c0 c1
  have hg := h.blk.lt
  have hbig := h.big
  have HX0 := Lib.hid hx0
  obtain ⟨m, hm⟩ : ∃ m, m = es.length := ⟨_, rfl⟩
  rw [← hm] at c0 hbig
  have HM := Lib.hid hm
  obtain ⟨q, hq⟩ : ∃ q, q = (dictP es t).isSome := ⟨_, rfl⟩
  have HQ := Lib.hid hq
  have hE : tellE es t x = if 1 ≤ t ∧ t ≤ m then (if x.st = 2 ∧ x.err.toList = [] then 1 else if q = true then 24 else 0) else 40 := by
    unfold tellE
    rw [hm, hq]
    by_cases hz : (entAt es t).st = 0
    · simp [dictP, hz]
    · simp [dictP, hz]
  have HE := Lib.hid hE
  clear h hkl hx0 hm hq hE
  rcases (by omega : t < 1 ∨ (¬ t < 1 ∧ (m : Int) < t) ∨ (¬ t < 1 ∧ ¬ (m : Int) < t)) with hr | ⟨hr0, hr⟩ | ⟨hr0, hr⟩
  · have he : tellE es t x = 40 := by rw [HE.out, if_neg (by omega)]
    have HE' := Lib.hid he
    clear he
    go_enter Try.func29, Try.ntmps29
    go_wp2_with (at_lookup; refine wpl_lookOk _ rfl _ _ 74 rfl (H.out.dict.kept ((Below.refl _ _).alloc (Nat.le_refl _) _)) law_key Try.underlying74 (zeroE _) rfl t rfl HK.out (entry (entAt es t)) HL.out q HQ.out.symm ?_; unfold entry)
    go_ret
    exact told_same H.out HE'.out (by decide) (((Below.refl _ _).alloc (Nat.le_refl _) _).alloc (by simp) _)
  · have he : tellE es t x = 40 := by rw [HE.out, if_neg (by omega)]
    have HE' := Lib.hid he
    clear he
    go_enter Try.func29, Try.ntmps29
    go_wp2_with (at_lookup; refine wpl_lookOk _ rfl _ _ 74 rfl (H.out.dict.kept ((Below.refl _ _).alloc (Nat.le_refl _) _)) law_key Try.underlying74 (zeroE _) rfl t rfl HK.out (entry (entAt es t)) HL.out q HQ.out.symm ?_; unfold entry)
    go_ret
    exact told_same H.out HE'.out (by decide) (((Below.refl _ _).alloc (Nat.le_refl _) _).alloc (by simp) _)
  · obtain ⟨st, err, cls, at_⟩ := x
    dsimp only at HX0 HE ⊢
    by_cases hbad : st = 2 ∧ err.toList = []
    · have he : tellE es t ⟨st, err, cls, at_⟩ = 1 := by rw [HE.out, if_pos (by omega), if_pos hbad]
      have HE' := Lib.hid he
      obtain ⟨rfl, h0⟩ := hbad
      clear he
      go_enter Try.func29, Try.ntmps29
      go_wp2_with (at_lookup; refine wpl_lookOk _ rfl _ _ 74 rfl (H.out.dict.kept ((Below.refl _ _).alloc (Nat.le_refl _) _)) law_key Try.underlying74 (zeroE _) rfl t rfl HK.out (entry (entAt es t)) HL.out q HQ.out.symm ?_; unfold entry)
      go_ret
      exact told_same H.out HE'.out (by decide) (((Below.refl _ _).alloc (Nat.le_refl _) _).alloc (by simp) _)
    · have hparts : (¬ st = 2) ∨ ((st == 2) = true ∧ err.toList.isEmpty = false) := by
        by_cases h2 : st = 2
        · exact .inr ⟨by simpa using h2, by simpa using fun e => hbad ⟨h2, e⟩⟩
        · exact .inl h2
      have HB := Lib.hid hbad
      clear hbad
      cases q with
      | true =>
        have he : tellE es t ⟨st, err, cls, at_⟩ = 24 := by rw [HE.out, if_pos (by omega), if_neg HB.out]; rfl
        have HE' := Lib.hid he
        clear he
        rcases hparts with h0 | ⟨h00, h0⟩
        all_goals
          go_enter Try.func29, Try.ntmps29
          go_wp2_with (at_lookup; refine wpl_lookOk _ rfl _ _ 74 rfl (H.out.dict.kept ((Below.refl _ _).alloc (Nat.le_refl _) _)) law_key Try.underlying74 (zeroE _) rfl t rfl HK.out (entry (entAt es t)) HL.out true HQ.out.symm ?_; unfold entry)
          go_ret
          exact told_same H.out HE'.out (by decide) (((Below.refl _ _).alloc (Nat.le_refl _) _).alloc (by simp) _)
      | false =>
        have he : tellE es t ⟨st, err, cls, at_⟩ = 0 := by rw [HE.out, if_pos (by omega), if_neg HB.out]; rfl
        have HE' := Lib.hid he
        clear he
        rcases hparts with h0 | ⟨h00, h0⟩
        all_goals
          go_enter Try.func29, Try.ntmps29
          go_wp2_with (at_lookup; refine wpl_lookOk _ rfl _ _ 74 rfl (H.out.dict.kept ((Below.refl _ _).alloc (Nat.le_refl _) _)) law_key Try.underlying74 (zeroE _) rfl t rfl HK.out (entry (entAt es t)) HL.out false HQ.out.symm ?_; unfold entry)
          generalize hW : World.alloc (World.alloc w _) _ = W
          have kW : Kept w W := by rw [← hW]; exact ((Below.refl _ _).alloc (Nat.le_refl _) _).alloc (by simp) _
          have hB : Blk W w.heap.size 80 #[.int .i64 st, .string err, .string cls, .int .i64 at_] := by rw [← hW]; exact (Blk.new w _ _).alloc _
          have x0 := hB.cell 0
          have x1 := hB.cell 1
          have x2 := hB.cell 2
          have x3 := hB.cell 3
          simp at x0 x1 x2 x3
          have c1' := Kept.cell kW c1
          have KW := Lib.hid kW
          clear hW hB kW c0 c1
          go_still_tail 7, (by kernel_rfl)
          go_wp2_with (at_mapUpdate; refine wpl_mapset _ rfl _ _ _ 74 rfl (H.out.dict.kept KW.out).drew law_key Try.underlying74 (by unfold maxLen; omega) rfl t rfl (entry ⟨st, err, cls, at_⟩) rfl HK.out (fun a h => keyP_inj a t h) ?_; intro w1 hd1 hg1; have HD1 := Lib.hid hd1; have HG1 := Lib.hid hg1; clear hd1 hg1)
          go_ret
          exact told_set H.out HE'.out HX0.out KW.out.drew HD1.out HG1.out
end Go.Proofs.Ytjdldgpkcfigiaa
