/-
  Several texts in one: XCs0 XCq0 XCs1.
-/
import Derived.Test.YtcklmhbcjgiplaaCo0
import Derived.Test.YtcklmhbcjgiplaaCo2
import Derived.Test.YtcklmhbcjgiplaaSaM
import Derived.Test.YtcklmhbcjgiplaaLfM
import Derived.Test.YtcklmhbcjgiplaaClM
import Derived.Test.YtcklmhbcjgiplaaOpD
namespace Go.Proofs.Ytcklmhbcjgiplaa
set_option linter.unusedVariables false
set_option linter.unusedSimpArgs false
open Go.RowKit
set_option maxRecDepth 100000

theorem own_any {w : World} {base : Nat} {e : TypeId} {sz n : Nat} {v : Value} {xs : List Value} (ho : w.ownsRow base e sz v n xs) (g j : Nat) (u : Value) : ∃ xs', (w.setCell ⟨g, j, none⟩ u).ownsRow base e sz v n xs' ∧ ∀ x ∈ xs', x = u ∨ x ∈ xs := by
  rcases ho.2 with ⟨rfl, rfl⟩ | ⟨g', cap, cur, rfl, h1, h2, h3⟩
  · exact ⟨xs, ⟨ho.1, .inl ⟨rfl, rfl⟩⟩, fun x hx => .inr hx⟩
  · by_cases hg : g = g'
    · subst hg
      refine ⟨xs.set j u, own_store ho j u, fun x hx => ?_⟩
      rcases List.mem_or_eq_of_mem_set hx with h | h
      · exact .inr h
      · exact .inl h
    · refine ⟨xs, Touch.own (S := fun b => b = g) (((Touch.refl (fun b => b = g) w).setCell (p := ⟨g, j, none⟩) (.inl rfl) u)) ho fun k hk e => ?_, fun x hx => .inr hx⟩
      simp only [Value.ownBlock, Option.some.injEq] at hk
      omega
theorem blk_lt {w : World} {g : Nat} {t : TypeId} (h : ∃ cs, Blk w g t cs) : g < w.heap.size := by
  obtain ⟨cs, h⟩ := h
  exact h.lt
theorem blk_set {w : World} {g : Nat} {t : TypeId} (h : ∃ cs, Blk w g t cs) (j : Nat) (u : Value) : ∃ cs, Blk (w.setCell ⟨g, j, none⟩ u) g t cs := by
  obtain ⟨cs, h⟩ := h
  exact ⟨_, h.set_ j u⟩
/-- A cell of an owned row. -/
theorem own_cell {w : World} {base : Nat} {e : TypeId} {sz n : Nat} {v : Value} {xs : List Value} (ho : w.ownsRow base e sz v n xs) (hn : 0 < n) : ∃ g c, v = .slice (some ⟨g, 0, none⟩) n c ∧ n ≤ c ∧ c ≤ 9223372036854775807 ∧ base ≤ g ∧ (∃ cs, Blk w g e cs) ∧ (∀ j, j < n * sz → ∃ u, xs[j]? = some u ∧ w.cell? ⟨g, j, none⟩ = some u) ∧ ∀ j, w.frozen? ⟨g, j, none⟩ = false := by
  obtain ⟨g, c, rfl, h1, h2, h3, h4, h5, h6⟩ := own_form ho hn
  refine ⟨g, c, rfl, h1, h2, h3, ?_, fun j hj => ?_, h6⟩
  · rcases ho.2 with ⟨h, _⟩ | ⟨g', cap, cur, h, hg, hh, _⟩
    · cases h
    · cases h
      exact ⟨cur, hh⟩
  · obtain ⟨u, hu⟩ : ∃ u, xs[j]? = some u := ⟨_, List.getElem?_eq_getElem (by rw [ho.1]; exact hj)⟩
    exact ⟨u, hu, h5 j u hu⟩
/-- What SpoilType holds. -/
structure SY (base b0 nI nF nM : Nat) (vI vF vM : Value) (W wr : World) : Prop where
  i : ∃ xs, wr.ownsRow base 9 1 vI nI xs
  f : ∃ xs, wr.ownsRow base 63 5 vF nF xs
  m : ∃ xs, wr.ownsRow base 63 5 vM nM xs
  tch : Touch (fun b => base ≤ b ∧ b ≠ b0) W wr
section
variable {base b0 nI nF nM g : Nat} {vI vF vM : Value} {W wr : World}
theorem SY.blk (h : SY base b0 nI nF nM vI vF vM W wr) {t : TypeId} {cs : Array Value} (hb : Blk W b0 t cs) : Blk wr b0 t cs := hb.touch h.tch fun e => e.2 rfl
theorem SY.st (h : SY base b0 nI nF nM vI vF vM W wr) (hg : base ≤ g ∧ g ≠ b0) (j : Nat) (u : Value) : SY base b0 nI nF nM vI vF vM W (wr.setCell ⟨g, j, none⟩ u) := by
  obtain ⟨xs, hi⟩ := h.i
  obtain ⟨ys, hf⟩ := h.f
  obtain ⟨zs, hm⟩ := h.m
  obtain ⟨xs', hi', -⟩ := own_any hi g j u
  obtain ⟨ys', hf', -⟩ := own_any hf g j u
  obtain ⟨zs', hm', -⟩ := own_any hm g j u
  exact ⟨⟨xs', hi'⟩, ⟨ys', hf'⟩, ⟨zs', hm'⟩, h.tch.setCell (p := ⟨g, j, none⟩) (.inl hg) u⟩
end
set_option maxHeartbeats 8000000 in
theorem law5_SpoilType (base : Nat) (T : TD) (vI vF vM : Value) (w : World) (h : TyOwn base T vI vF vM w) :
    Calls Try.prog 19 #[.agg #[.string T.name, .string T.super, .int .i64 T.access, vI, vF, vM]] w fun e w' => e = .returned (.tuple #[]) ∧ Touch (fun b => base ≤ b) w w' := by
  obtain ⟨aI, cI, rfl, ki1, ki2⟩ := own_slice h.i
  obtain ⟨aF, cF, rfl, kf1, kf2⟩ := own_slice h.f
  obtain ⟨aM, cM, rfl, km1, km2⟩ := own_slice h.m
  have h1 := h.i
  have h2 := h.f
  have h3 := h.m
  obtain ⟨nI, hnI⟩ : ∃ n, n = T.interfaces.length := ⟨_, rfl⟩
  obtain ⟨nF, hnF⟩ : ∃ n, n = T.fields.length := ⟨_, rfl⟩
  obtain ⟨nM, hnM⟩ : ∃ n, n = T.methods.length := ⟨_, rfl⟩
  rw [← hnI] at h1 ki1 ⊢
  rw [← hnF] at h2 kf1 ⊢
  rw [← hnM] at h3 km1 ⊢
  have HS0 : Hid (SY base w.heap.size nI nF nM (.slice aI nI cI) (.slice aF nF cF) (.slice aM nM cM) (w.alloc (.cells #[.string T.name, .string T.super, .int .i64 T.access, .slice aI nI cI, .slice aF nF cF, .slice aM nM cM] 36)) (w.alloc (.cells #[.string T.name, .string T.super, .int .i64 T.access, .slice aI nI cI, .slice aF nF cF, .slice aM nM cM] 36))) :=
    Lib.hid ⟨⟨_, h1.alloc _⟩, ⟨_, h2.alloc _⟩, ⟨_, h3.alloc _⟩, Touch.refl _ _⟩
  have HB := Lib.hid (Blk.new w 36 #[.string T.name, .string T.super, .int .i64 T.access, .slice aI nI cI, .slice aF nF cF, .slice aM nM cM])
  have HT := Lib.hid ((Touch.refl (fun b => base ≤ b) w).alloc (.cells #[.string T.name, .string T.super, .int .i64 T.access, .slice aI nI cI, .slice aF nF cF, .slice aM nM cM] 36))
  clear h h1 h2 h3 hnI hnF hnM
  go_enter Try.func19, Try.ntmps19
  go_upto_region 1 with fail
  obtain ⟨b0, hb0⟩ : ∃ b0, b0 = w.heap.size := ⟨_, rfl⟩
  rw [← hb0] at HS0 HB ⊢
  clear hb0
  generalize w.alloc (.cells #[.string T.name, .string T.super, .int .i64 T.access, .slice aI nI cI, .slice aF nF cF, .slice aM nM cM] 36) = W at *
  go_wp2_with fail
  go_loopw [2] (fun s wr => ∃ i : Nat, i ≤ nI ∧ s = .int .i64 i ∧ SY base b0 nI nF nM (.slice aI nI cI) (.slice aF nF cF) (.slice aM nM cM) W wr) (fun s _ => nI - (intOf s).toNat)
  case atStart => exact ⟨0, Nat.zero_le _, rfl, HS0.out⟩
  case round =>
    rename World => wr
    obtain ⟨i, hi, rfl, hs⟩ := hrel
    have hbb := hs.blk HB.out
    have pc := hbb.cell 3
    simp only [List.getElem?_toArray, List.getElem?_cons_succ, List.getElem?_cons_zero] at pc
    by_cases hlt : i < nI
    · obtain ⟨xs, ho⟩ := hs.i
      obtain ⟨g, cc, hv, h1, h2, hgb, hblk, hcell, hfz⟩ := own_cell ho (by omega)
      simp only [Value.slice.injEq] at hv
      obtain ⟨rfl, -, rfl⟩ := hv
      have hgg : base ≤ g ∧ g ≠ b0 := ⟨hgb, by obtain ⟨cs, hblk⟩ := hblk; exact Blk.ne_ hblk hbb (by decide)⟩
      obtain ⟨u0, -, x0⟩ := hcell i (by omega)
      have f0 := hfz (i)
      have lg : g < wr.heap.size := by obtain ⟨cs, hblk⟩ := hblk; exact hblk.lt
      have s1 := hs.st hgg (i) (.string ⟨#[63]⟩)
      have HS := Lib.hid s1
      have hltI : (i : Int) < (nI : Int) := by omega
      have h0I : (0 : Int) ≤ (i : Int) := by omega
      clear s1 hcell hfz ho hs hbb hblk
      go_upto_region 3 with fail
      clear x0 f0 pc lg
      generalize (wr.setCell ⟨g, i, none⟩ (.string ⟨#[63]⟩)) = W9 at *
      go_wp2_with fail
      go_roundw
      case rel => exact ⟨i + 1, by omega, by go_num, HS.out⟩
      case measure => simp [intOf]; omega
    · have hltI : ¬ (i : Int) < (nI : Int) := by omega
      have HSi := Lib.hid hs
      clear hs hbb

      go_wp2_with fail
      go_loopw [3] (fun s wr => ∃ i : Nat, i ≤ nF ∧ s = .int .i64 i ∧ SY base b0 nI nF nM (.slice aI nI cI) (.slice aF nF cF) (.slice aM nM cM) W wr) (fun s _ => nF - (intOf s).toNat)
      case atStart => exact ⟨0, Nat.zero_le _, rfl, HSi.out⟩
      case round =>
        rename World => wr
        obtain ⟨i, hi, rfl, hs⟩ := hrel
        have hbb := hs.blk HB.out
        have pc := hbb.cell 4
        simp only [List.getElem?_toArray, List.getElem?_cons_succ, List.getElem?_cons_zero] at pc
        by_cases hlt : i < nF
        · obtain ⟨xs, ho⟩ := hs.f
          obtain ⟨g, cc, hv, h1, h2, hgb, hblk, hcell, hfz⟩ := own_cell ho (by omega)
          simp only [Value.slice.injEq] at hv
          obtain ⟨rfl, -, rfl⟩ := hv
          have hgg : base ≤ g ∧ g ≠ b0 := ⟨hgb, by obtain ⟨cs, hblk⟩ := hblk; exact Blk.ne_ hblk hbb (by decide)⟩
          obtain ⟨u0, -, x0⟩ := hcell (i * 5) (by omega)
          obtain ⟨u1, -, x1⟩ := hcell (i * 5 + 1) (by omega)
          obtain ⟨u2, -, x2⟩ := hcell (i * 5 + 2) (by omega)
          obtain ⟨u3, -, x3⟩ := hcell (i * 5 + 3) (by omega)
          obtain ⟨u4, -, x4⟩ := hcell (i * 5 + 4) (by omega)
          have f0 := hfz (i * 5)
          have f1 := hfz (i * 5 + 1)
          have f2 := hfz (i * 5 + 2)
          have f3 := hfz (i * 5 + 3)
          have f4 := hfz (i * 5 + 4)
          have lg : g < wr.heap.size := by obtain ⟨cs, hblk⟩ := hblk; exact hblk.lt
          have s1 := hs.st hgg (i * 5) (.int .i64 (-1))
          have s2 := s1.st hgg (i * 5 + 1) (.string ⟨#[]⟩)
          have s3 := s2.st hgg (i * 5 + 2) (.string ⟨#[]⟩)
          have s4 := s3.st hgg (i * 5 + 3) (.bool false)
          have s5 := s4.st hgg (i * 5 + 4) (.int .i64 0)
          have HS := Lib.hid s5
          have hltI : (i : Int) < (nF : Int) := by omega
          have h0I : (0 : Int) ≤ (i : Int) := by omega
          clear s1 s2 s3 s4 s5 hcell hfz ho hs hbb hblk
          go_upto_region 7 with fail
          clear x0 f0 x1 f1 x2 f2 x3 f3 x4 f4 pc lg
          generalize (((((wr.setCell ⟨g, i * 5, none⟩ (.int .i64 (-1))).setCell ⟨g, i * 5 + 1, none⟩ (.string ⟨#[]⟩)).setCell ⟨g, i * 5 + 2, none⟩ (.string ⟨#[]⟩)).setCell ⟨g, i * 5 + 3, none⟩ (.bool false)).setCell ⟨g, i * 5 + 4, none⟩ (.int .i64 0)) = W9 at *
          go_wp2_with fail
          go_roundw
          case rel => exact ⟨i + 1, by omega, by go_num, HS.out⟩
          case measure => simp [intOf]; omega
        · have hltI : ¬ (i : Int) < (nF : Int) := by omega
          have HSf := Lib.hid hs
          clear hs hbb

          go_wp2_with fail
          go_loopw [4] (fun s wr => ∃ i : Nat, i ≤ nM ∧ s = .int .i64 i ∧ SY base b0 nI nF nM (.slice aI nI cI) (.slice aF nF cF) (.slice aM nM cM) W wr) (fun s _ => nM - (intOf s).toNat)
          case atStart => exact ⟨0, Nat.zero_le _, rfl, HSf.out⟩
          case round =>
            rename World => wr
            obtain ⟨i, hi, rfl, hs⟩ := hrel
            have hbb := hs.blk HB.out
            have pc := hbb.cell 5
            simp only [List.getElem?_toArray, List.getElem?_cons_succ, List.getElem?_cons_zero] at pc
            by_cases hlt : i < nM
            · obtain ⟨xs, ho⟩ := hs.m
              obtain ⟨g, cc, hv, h1, h2, hgb, hblk, hcell, hfz⟩ := own_cell ho (by omega)
              simp only [Value.slice.injEq] at hv
              obtain ⟨rfl, -, rfl⟩ := hv
              have hgg : base ≤ g ∧ g ≠ b0 := ⟨hgb, by obtain ⟨cs, hblk⟩ := hblk; exact Blk.ne_ hblk hbb (by decide)⟩
              obtain ⟨u0, -, x0⟩ := hcell (i * 5) (by omega)
              obtain ⟨u1, -, x1⟩ := hcell (i * 5 + 1) (by omega)
              obtain ⟨u2, -, x2⟩ := hcell (i * 5 + 2) (by omega)
              obtain ⟨u3, -, x3⟩ := hcell (i * 5 + 3) (by omega)
              obtain ⟨u4, -, x4⟩ := hcell (i * 5 + 4) (by omega)
              have f0 := hfz (i * 5)
              have f1 := hfz (i * 5 + 1)
              have f2 := hfz (i * 5 + 2)
              have f3 := hfz (i * 5 + 3)
              have f4 := hfz (i * 5 + 4)
              have lg : g < wr.heap.size := by obtain ⟨cs, hblk⟩ := hblk; exact hblk.lt
              have s1 := hs.st hgg (i * 5) (.int .i64 (-1))
              have s2 := s1.st hgg (i * 5 + 1) (.string ⟨#[]⟩)
              have s3 := s2.st hgg (i * 5 + 2) (.string ⟨#[]⟩)
              have s4 := s3.st hgg (i * 5 + 3) (.bool false)
              have s5 := s4.st hgg (i * 5 + 4) (.int .i64 0)
              have HS := Lib.hid s5
              have hltI : (i : Int) < (nM : Int) := by omega
              have h0I : (0 : Int) ≤ (i : Int) := by omega
              clear s1 s2 s3 s4 s5 hcell hfz ho hs hbb hblk
              go_upto_region 11 with fail
              clear x0 f0 x1 f1 x2 f2 x3 f3 x4 f4 pc lg
              generalize (((((wr.setCell ⟨g, i * 5, none⟩ (.int .i64 (-1))).setCell ⟨g, i * 5 + 1, none⟩ (.string ⟨#[]⟩)).setCell ⟨g, i * 5 + 2, none⟩ (.string ⟨#[]⟩)).setCell ⟨g, i * 5 + 3, none⟩ (.bool false)).setCell ⟨g, i * 5 + 4, none⟩ (.int .i64 0)) = W9 at *
              go_wp2_with fail
              go_roundw
              case rel => exact ⟨i + 1, by omega, by go_num, HS.out⟩
              case measure => simp [intOf]; omega
            · have hltI : ¬ (i : Int) < (nM : Int) := by omega
              have HSm := Lib.hid hs
              clear hs hbb

              go_wp2_with fail
              exact bodyPost_end (results_none rfl _ _ _) rfl ⟨rfl, HT.out.trans HSm.out.tch fun b hb => .inl hb.1⟩
end Go.Proofs.Ytcklmhbcjgiplaa

namespace Go.Proofs.Ytcklmhbcjgiplaa
set_option linter.unusedVariables false
set_option linter.unusedSimpArgs false
open Go.RowKit
set_option maxRecDepth 100000

def inI (x : Int) : Prop := -9223372036854775808 ≤ x ∧ x ≤ 9223372036854775807
structure MemB (z : MemberV) : Prop where
  a : inI z.access
  n : z.name.size ≤ maxLen
  d : z.desc.size ≤ maxLen
  v : inI z.value
theorem MemB.ok {z : MemberV} (h : MemB z) (w : World) : MemberV.Ok w z := ⟨h.a, h.n, h.d, h.v⟩
structure TB (T : TD) : Prop where
  n : T.name.size ≤ maxLen
  s : T.super.size ≤ maxLen
  a : inI T.access
  i : ∀ x ∈ T.interfaces, x.size ≤ maxLen
  il : T.interfaces.length ≤ 64
  f : ∀ z ∈ T.fields, MemB z
  fl : T.fields.length ≤ 64
  m : ∀ z ∈ T.methods, MemB z
  ml : T.methods.length ≤ 64
def tyV (T : TD) (vI vF vM : Value) : TypeV := ⟨T.name, T.super, T.access, vI, T.interfaces, vF, T.fields, vM, T.methods⟩
theorem tyV_d (T : TD) (vI vF vM : Value) : (tyV T vI vF vM).d = T := rfl
theorem TyOwn.ok {base : Nat} {T : TD} {vI vF vM : Value} {w : World} (h : TyOwn base T vI vF vM w) (b : TB T) : (tyV T vI vF vM).Ok w :=
  ⟨b.n, b.s, b.a, Rd.of_own h.i, b.i, Nat.le_trans b.il (by omega), Rd.of_own h.f, fun z hz => (b.f z hz).ok w, Nat.le_trans b.fl (by omega), Rd.of_own h.m, fun z hz => (b.m z hz).ok w, Nat.le_trans b.ml (by omega)⟩
theorem TyOwn.keep {base : Nat} {T : TD} {vI vF vM : Value} {w w' : World} (h : TyOwn base T vI vF vM w) (hk : Kept w w') : TyOwn base T vI vF vM w' :=
  ⟨(Touch.of_kept (S := fun _ => False) hk).own h.i fun _ _ h => h, (Touch.of_kept (S := fun _ => False) hk).own h.f fun _ _ h => h, (Touch.of_kept (S := fun _ => False) hk).own h.m fun _ _ h => h⟩
theorem outT_tb {c : ClassC} (hs : ∀ k ∈ c.pool, k.text.size ≤ maxLen) (ha : inI c.access) (hf : ∀ f ∈ c.fields, inI f.access) (hm : ∀ m ∈ c.methods, inI m.access) (hk : ∀ k ∈ c.pool, inI k.num) : TB (outT c) := by
  have h0 : inI 0 := ⟨by decide, by decide⟩
  have hn : ∀ n t, inI ((getC c.pool n t).getD zeroK).num := by
    intro n t
    cases h : getC c.pool n t with
    | none => exact h0
    | some x => exact hk x (getC_some h).1
  by_cases hc : checkE c = 0
  · rw [outT_good hc]
    have hl : c.ifaces.length ≤ 64 ∧ c.fields.length ≤ 64 ∧ c.methods.length ≤ 64 := by
      have h := (checkE_parts hc).1
      unfold muchB at h
      simp only [Bool.or_eq_false_iff, decide_eq_false_iff_not] at h
      omega
    refine ⟨nameC_size hs _, nameC_size hs _, ha, ?_, ?_, ?_, ?_, ?_, ?_⟩
    · intro x hx
      obtain ⟨n, _, rfl⟩ := List.mem_map.1 hx
      exact nameC_size hs _
    · show (c.ifaces.map _).length ≤ 64
      rw [List.length_map]
      exact hl.1
    · intro z hz
      obtain ⟨f, hf', rfl⟩ := List.mem_map.1 hz
      exact ⟨hf f hf', textC_size hs _, textC_size hs _, hn _ _⟩
    · show (c.fields.map _).length ≤ 64
      rw [List.length_map]
      exact hl.2.1
    · intro z hz
      obtain ⟨f, hf', rfl⟩ := List.mem_map.1 hz
      exact ⟨hm f hf', textC_size hs _, textC_size hs _, h0⟩
    · show (c.methods.map _).length ≤ 64
      rw [List.length_map]
      exact hl.2.2
  · rw [outT_bad hc]
    exact ⟨Nat.zero_le _, Nat.zero_le _, h0, (fun x hx => by cases hx), Nat.zero_le _, (fun x hx => by cases hx), Nat.zero_le _, (fun x hx => by cases hx), Nat.zero_le _⟩
/-- Two answers that say the same are the same. -/
theorem same_out {base base' : Nat} {T : TD} {vI vF vM uI uF uM : Value} {w : World} (h : TyOwn base T vI vF vM w) (h' : TyOwn base' T uI uF uM w) (b : TB T) :
    Calls Try.prog 22 #[.agg #[.string T.name, .string T.super, .int .i64 T.access, vI, vF, vM], .agg #[.string T.name, .string T.super, .int .i64 T.access, uI, uF, uM]] w fun e w' => e = .returned (.bool true) ∧ Kept w w' :=
  same_type w (tyV T vI vF vM) (tyV T uI uF uM) rfl (h.ok b) (h'.ok b) (by have := b.il; have := b.fl; have := b.ml; show T.interfaces.length + T.fields.length + T.methods.length ≤ 3000; omega)
end Go.Proofs.Ytcklmhbcjgiplaa

namespace Go.Proofs.Ytcklmhbcjgiplaa
set_option linter.unusedVariables false
set_option linter.unusedSimpArgs false
open Go.RowKit
set_option maxRecDepth 100000

/-- What is known of a class's numbers. -/
structure RngC (c : ClassC) : Prop where
  a : inI c.access
  f : ∀ f ∈ c.fields, inI f.access
  m : ∀ m ∈ c.methods, inI m.access
  k : ∀ k ∈ c.pool, inI k.num
theorem ClassV.rng {w : World} {y : ClassV} (h : ClassV.Ok w y) : RngC y.c := by
  refine ⟨h.access_, fun f hf => ?_, fun m hm => ?_, fun k hk => ?_⟩
  · obtain ⟨z, hz, rfl⟩ := List.mem_map.1 hf
    exact (h.fields_all z hz).access_
  · obtain ⟨z, hz, rfl⟩ := List.mem_map.1 hm
    exact (h.methods_all z hz).access_
  · obtain ⟨z, hz, rfl⟩ := List.mem_map.1 hk
    exact (h.pool_all z hz).int_
set_option maxHeartbeats 16000000 in
theorem checkSays_walk (c o : ClassC) (mv mo : List (MethC × Value × Value)) (vP vI vF vM uP uI uF uM : Value) (w : World) (ha : ArgC w c mv vP vI vF vM) (hb : ArgC w o mo uP uI uF uM) (hr : RngC c) :
    Calls Try.prog 3 #[.agg (classV c vP vI vF vM).toArray, .agg (classV o uP uI uF uM).toArray] w fun e w' => e = .returned (.bool true) ∧ Below w.heap.size w w' := by
  have HC := Lib.hid ha.rd
  have HTC := Lib.hid ha.text
  have HLC := Lib.hid ha.len
  have HCC := Lib.hid ha.code
  have HO := Lib.hid hb.rd
  have HTO := Lib.hid hb.text
  have HLO := Lib.hid hb.len
  have HTB0 := Lib.hid (outT_tb ha.text hr.a hr.f hr.m hr.k)
  clear ha hb hr
  obtain ⟨aP, kP, aI, kI, aF, kF, aM, kM, rfl, rfl, rfl, rfl⟩ := HC.out.forms
  obtain ⟨aP2, kP2, aI2, kI2, aF2, kF2, aM2, kM2, rfl, rfl, rfl, rfl⟩ := HO.out.forms
  have HK := Lib.hid (((Below.refl _ _).alloc (Nat.le_refl _) _).alloc (by simp) _ : Kept w ((w.alloc (.cells #[.int .i64 c.minor, .int .i64 c.major, .slice aP c.pool.length kP, .int .i64 c.access, .int .i64 c.this, .int .i64 c.super, .slice aI c.ifaces.length kI, .slice aF c.fields.length kF, .slice aM mv.length kM] 27)).alloc (.cells #[.int .i64 o.minor, .int .i64 o.major, .slice aP2 o.pool.length kP2, .int .i64 o.access, .int .i64 o.this, .int .i64 o.super, .slice aI2 o.ifaces.length kI2, .slice aF2 o.fields.length kF2, .slice aM2 mo.length kM2] 27)))
  have HBA := Lib.hid ((Blk.new w 27 #[.int .i64 c.minor, .int .i64 c.major, .slice aP c.pool.length kP, .int .i64 c.access, .int .i64 c.this, .int .i64 c.super, .slice aI c.ifaces.length kI, .slice aF c.fields.length kF, .slice aM mv.length kM]).alloc (.cells #[.int .i64 o.minor, .int .i64 o.major, .slice aP2 o.pool.length kP2, .int .i64 o.access, .int .i64 o.this, .int .i64 o.super, .slice aI2 o.ifaces.length kI2, .slice aF2 o.fields.length kF2, .slice aM2 mo.length kM2] 27))
  have hbo : Blk ((w.alloc (.cells #[.int .i64 c.minor, .int .i64 c.major, .slice aP c.pool.length kP, .int .i64 c.access, .int .i64 c.this, .int .i64 c.super, .slice aI c.ifaces.length kI, .slice aF c.fields.length kF, .slice aM mv.length kM] 27)).alloc (.cells #[.int .i64 o.minor, .int .i64 o.major, .slice aP2 o.pool.length kP2, .int .i64 o.access, .int .i64 o.this, .int .i64 o.super, .slice aI2 o.ifaces.length kI2, .slice aF2 o.fields.length kF2, .slice aM2 mo.length kM2] 27)) (w.heap.size + 1) 27 #[.int .i64 o.minor, .int .i64 o.major, .slice aP2 o.pool.length kP2, .int .i64 o.access, .int .i64 o.this, .int .i64 o.super, .slice aI2 o.ifaces.length kI2, .slice aF2 o.fields.length kF2, .slice aM2 mo.length kM2] := by
    have := Blk.new (w.alloc (.cells #[.int .i64 c.minor, .int .i64 c.major, .slice aP c.pool.length kP, .int .i64 c.access, .int .i64 c.this, .int .i64 c.super, .slice aI c.ifaces.length kI, .slice aF c.fields.length kF, .slice aM mv.length kM] 27)) 27 #[.int .i64 o.minor, .int .i64 o.major, .slice aP2 o.pool.length kP2, .int .i64 o.access, .int .i64 o.this, .int .i64 o.super, .slice aI2 o.ifaces.length kI2, .slice aF2 o.fields.length kF2, .slice aM2 mo.length kM2]
    simpa using this
  have HBO := Lib.hid hbo
  clear hbo
  change Calls Try.prog 3 #[.agg #[.int .i64 c.minor, .int .i64 c.major, .slice aP c.pool.length kP, .int .i64 c.access, .int .i64 c.this, .int .i64 c.super, .slice aI c.ifaces.length kI, .slice aF c.fields.length kF, .slice aM mv.length kM], .agg #[.int .i64 o.minor, .int .i64 o.major, .slice aP2 o.pool.length kP2, .int .i64 o.access, .int .i64 o.this, .int .i64 o.super, .slice aI2 o.ifaces.length kI2, .slice aF2 o.fields.length kF2, .slice aM2 mo.length kM2]] w _
  go_enter Try.func3, Try.ntmps3
  go_upto_region 1 with fail
  generalize ((w.alloc (.cells #[.int .i64 c.minor, .int .i64 c.major, .slice aP c.pool.length kP, .int .i64 c.access, .int .i64 c.this, .int .i64 c.super, .slice aI c.ifaces.length kI, .slice aF c.fields.length kF, .slice aM mv.length kM] 27)).alloc (.cells #[.int .i64 o.minor, .int .i64 o.major, .slice aP2 o.pool.length kP2, .int .i64 o.access, .int .i64 o.this, .int .i64 o.super, .slice aI2 o.ifaces.length kI2, .slice aF2 o.fields.length kF2, .slice aM2 mo.length kM2] 27)) = W at *
  go_wp2_with fail
  refine (alive5 W).mono ?_
  rintro e w1 ⟨rfl, hk1⟩
  have K1 := Lib.hid hk1
  have HA1 := Lib.hid (HBA.out.kept hk1)
  have HO1 := Lib.hid (HBO.out.kept hk1)
  have c0 := HA1.out.cell 0
  have c1 := HA1.out.cell 1
  have c2 := HA1.out.cell 2
  have c3 := HA1.out.cell 3
  have c4 := HA1.out.cell 4
  have c5 := HA1.out.cell 5
  have c6 := HA1.out.cell 6
  have c7 := HA1.out.cell 7
  have c8 := HA1.out.cell 8
  simp only [List.getElem?_toArray, List.getElem?_cons_succ, List.getElem?_cons_zero] at c0 c1 c2 c3 c4 c5 c6 c7 c8
  have d0 := HO1.out.cell 0
  have d1 := HO1.out.cell 1
  have d2 := HO1.out.cell 2
  have d3 := HO1.out.cell 3
  have d4 := HO1.out.cell 4
  have d5 := HO1.out.cell 5
  have d6 := HO1.out.cell 6
  have d7 := HO1.out.cell 7
  have d8 := HO1.out.cell 8
  simp only [List.getElem?_toArray, List.getElem?_cons_succ, List.getElem?_cons_zero] at d0 d1 d2 d3 d4 d5 d6 d7 d8
  clear hk1
  have C := law4_Big c mv _ _ _ _ w1 (HC.out.kept (Kept.trans HK.out K1.out)) HLC.out
  go_wp2_with fail
  refine C.mono ?_
  rintro e w2 ⟨b, rfl, hbig, hk2⟩
  have K2 := Lib.hid (Kept.trans K1.out hk2)
  have HA2 := Lib.hid (HA1.out.kept hk2)
  have HO2 := Lib.hid (HO1.out.kept hk2)
  have c0 := HA2.out.cell 0
  have c1 := HA2.out.cell 1
  have c2 := HA2.out.cell 2
  have c3 := HA2.out.cell 3
  have c4 := HA2.out.cell 4
  have c5 := HA2.out.cell 5
  have c6 := HA2.out.cell 6
  have c7 := HA2.out.cell 7
  have c8 := HA2.out.cell 8
  simp only [List.getElem?_toArray, List.getElem?_cons_succ, List.getElem?_cons_zero] at c0 c1 c2 c3 c4 c5 c6 c7 c8
  have d0 := HO2.out.cell 0
  have d1 := HO2.out.cell 1
  have d2 := HO2.out.cell 2
  have d3 := HO2.out.cell 3
  have d4 := HO2.out.cell 4
  have d5 := HO2.out.cell 5
  have d6 := HO2.out.cell 6
  have d7 := HO2.out.cell 7
  have d8 := HO2.out.cell 8
  simp only [List.getElem?_toArray, List.getElem?_cons_succ, List.getElem?_cons_zero] at d0 d1 d2 d3 d4 d5 d6 d7 d8
  have HBG := Lib.hid hbig
  clear hk2 C hbig
  cases b
  rotate_left
  · go_wp2_with fail
    go_ret
    exact ⟨rfl, Kept.trans HK.out K2.out⟩
  have C := law4_Big o mo _ _ _ _ w2 (HO.out.kept (Kept.trans HK.out K2.out)) HLO.out
  go_wp2_with fail
  refine C.mono ?_
  rintro e w3 ⟨b, rfl, -, hk3⟩
  have K3 := Lib.hid (Kept.trans K2.out hk3)
  have HA3 := Lib.hid (HA2.out.kept hk3)
  have HO3 := Lib.hid (HO2.out.kept hk3)
  have c0 := HA3.out.cell 0
  have c1 := HA3.out.cell 1
  have c2 := HA3.out.cell 2
  have c3 := HA3.out.cell 3
  have c4 := HA3.out.cell 4
  have c5 := HA3.out.cell 5
  have c6 := HA3.out.cell 6
  have c7 := HA3.out.cell 7
  have c8 := HA3.out.cell 8
  simp only [List.getElem?_toArray, List.getElem?_cons_succ, List.getElem?_cons_zero] at c0 c1 c2 c3 c4 c5 c6 c7 c8
  clear hk3 C
  cases b
  rotate_left
  · go_wp2_with fail
    go_ret
    exact ⟨rfl, Kept.trans HK.out K3.out⟩
  have hsz : SizeC c := by
    obtain ⟨b1, b2, b3, b4⟩ := HBG.out (by trivial)
    refine ⟨b1, b2, b3, by omega, fun x hx => ?_⟩
    rw [HC.out.ms] at hx
    obtain ⟨y, hy, rfl⟩ := List.mem_map.1 hx
    exact HCC.out y hy
  have HSZ := Lib.hid hsz
  have C := law4_Lent c mv _ _ _ _ w3 (HC.out.kept (Kept.trans HK.out K3.out)) hsz
  clear hsz
  go_wp2_with fail
  refine C.mono ?_
  rintro e w4 ⟨mf, gP, dP, gI, dI, gF, dF, gM, dM, rfl, hlc, hk4⟩
  have K4 := Lib.hid (Kept.trans K3.out hk4)
  have HA4 := Lib.hid (HA3.out.kept hk4)
  have HO4 := Lib.hid (HO3.out.kept hk4)
  have HL4 := Lib.hid hlc
  clear hlc hk4 C c0 c1 c2 c3 c4 c5 c6 c7 c8 d0 d1 d2 d3 d4 d5 d6 d7 d8
  go_upto_region 6 with fail
  have hk5 : Kept w4 (w4.alloc (.cells #[.int .i64 c.minor, .int .i64 c.major, .slice (some ⟨gP, 0, none⟩) c.pool.length dP, .int .i64 c.access, .int .i64 c.this, .int .i64 c.super, .slice (some ⟨gI, 0, none⟩) c.ifaces.length dI, .slice (some ⟨gF, 0, none⟩) c.fields.length dF, .slice (some ⟨gM, 0, none⟩) mf.length dM] 27)) := (Below.refl _ _).alloc (Nat.le_refl _) _
  have K5 := Lib.hid (Kept.trans K4.out hk5)
  have HA5 := Lib.hid (HA4.out.kept hk5)
  have HO5 := Lib.hid (HO4.out.kept hk5)
  obtain ⟨g, hg⟩ : ∃ g, g = w4.heap.size := ⟨_, rfl⟩
  have HF5 := Lib.hid (Blk.new w4 27 #[.int .i64 c.minor, .int .i64 c.major, .slice (some ⟨gP, 0, none⟩) c.pool.length dP, .int .i64 c.access, .int .i64 c.this, .int .i64 c.super, .slice (some ⟨gI, 0, none⟩) c.ifaces.length dI, .slice (some ⟨gF, 0, none⟩) c.fields.length dF, .slice (some ⟨gM, 0, none⟩) mf.length dM])
  have HL5 := Lib.hid (HL4.out.kept hk5)
  rw [← hg] at HF5 ⊢
  clear hg hk5
  generalize (w4.alloc (.cells #[.int .i64 c.minor, .int .i64 c.major, .slice (some ⟨gP, 0, none⟩) c.pool.length dP, .int .i64 c.access, .int .i64 c.this, .int .i64 c.super, .slice (some ⟨gI, 0, none⟩) c.ifaces.length dI, .slice (some ⟨gF, 0, none⟩) c.fields.length dF, .slice (some ⟨gM, 0, none⟩) mf.length dM] 27)) = w5 at *
  obtain ⟨R, hR⟩ : ∃ R, R = checkE c := ⟨_, rfl⟩
  obtain ⟨T, hT⟩ : ∃ T, T = outT c := ⟨_, rfl⟩
  obtain ⟨R2, hR2⟩ : ∃ R, R = checkE o := ⟨_, rfl⟩
  obtain ⟨T2, hT2⟩ : ∃ T, T = outT o := ⟨_, rfl⟩
  have HR_ := Lib.hid hR
  have HT_ := Lib.hid hT
  have HR2 := Lib.hid hR2
  have HT2_ := Lib.hid hT2
  have HTB := Lib.hid (show TB T by rw [hT]; exact HTB0.out)
  clear hR hT hR2 hT2 HTB0
  obtain ⟨nm, hnm⟩ : ∃ s, s = T.name := ⟨_, rfl⟩
  obtain ⟨sp, hsp⟩ : ∃ s, s = T.super := ⟨_, rfl⟩
  obtain ⟨tac, htac⟩ : ∃ s, s = T.access := ⟨_, rfl⟩
  obtain ⟨nI, hnI⟩ : ∃ s, s = T.interfaces.length := ⟨_, rfl⟩
  obtain ⟨nF, hnF⟩ : ∃ s, s = T.fields.length := ⟨_, rfl⟩
  obtain ⟨nM, hnM⟩ : ∃ s, s = T.methods.length := ⟨_, rfl⟩
  have HNM := Lib.hid hnm
  have HSP := Lib.hid hsp
  have HAC := Lib.hid htac
  have HNI := Lib.hid hnI
  have HNF := Lib.hid hnF
  have HNMM := Lib.hid hnM
  clear hnm hsp htac hnI hnF hnM
  obtain ⟨nmx, hnm⟩ : ∃ s, s = T2.name := ⟨_, rfl⟩
  obtain ⟨spx, hsp⟩ : ∃ s, s = T2.super := ⟨_, rfl⟩
  obtain ⟨tacx, htac⟩ : ∃ s, s = T2.access := ⟨_, rfl⟩
  obtain ⟨nIx, hnI⟩ : ∃ s, s = T2.interfaces.length := ⟨_, rfl⟩
  obtain ⟨nFx, hnF⟩ : ∃ s, s = T2.fields.length := ⟨_, rfl⟩
  obtain ⟨nMx, hnM⟩ : ∃ s, s = T2.methods.length := ⟨_, rfl⟩
  have HNMx := Lib.hid hnm
  have HSPx := Lib.hid hsp
  have HACx := Lib.hid htac
  have HNIx := Lib.hid hnI
  have HNFx := Lib.hid hnF
  have HNMMx := Lib.hid hnM
  clear hnm hsp htac hnI hnF hnM
  have f0 := HF5.out.cell 0
  have f1 := HF5.out.cell 1
  have f2 := HF5.out.cell 2
  have f3 := HF5.out.cell 3
  have f4 := HF5.out.cell 4
  have f5 := HF5.out.cell 5
  have f6 := HF5.out.cell 6
  have f7 := HF5.out.cell 7
  have f8 := HF5.out.cell 8
  simp only [List.getElem?_toArray, List.getElem?_cons_succ, List.getElem?_cons_zero] at f0 f1 f2 f3 f4 f5 f6 f7 f8
  have C := check_Check c mf _ _ _ _ w5 HL5.out.rd HTC.out
  unfold IntG at C
  rw [← HR_.out] at C
  go_wp2_with fail
  refine C.mono ?_
  rintro e w6 ⟨rfl, hk6⟩
  have K6 := Lib.hid (Kept.trans K5.out hk6)
  have HA6 := Lib.hid (HA5.out.kept hk6)
  have HO6 := Lib.hid (HO5.out.kept hk6)
  have HF6 := Lib.hid (HF5.out.kept hk6)
  have HL6 := Lib.hid (HL5.out.kept hk6)
  clear hk6 C f0 f1 f2 f3 f4 f5 f6 f7 f8
  have f0 := HF6.out.cell 0
  have f1 := HF6.out.cell 1
  have f2 := HF6.out.cell 2
  have f3 := HF6.out.cell 3
  have f4 := HF6.out.cell 4
  have f5 := HF6.out.cell 5
  have f6 := HF6.out.cell 6
  have f7 := HF6.out.cell 7
  have f8 := HF6.out.cell 8
  simp only [List.getElem?_toArray, List.getElem?_cons_succ, List.getElem?_cons_zero] at f0 f1 f2 f3 f4 f5 f6 f7 f8
  have C := check_Outline c mf _ _ _ _ w6 (HL6.out.rd) HTC.out
  unfold OutG at C
  rw [← HT_.out, ← HR_.out] at C
  go_wp2_with fail
  refine C.mono ?_
  rintro e wt ⟨vI, vF, vM, he, hown, hk8⟩
  obtain ⟨aaI, caI, rfl, -, -⟩ := own_slice hown.i
  obtain ⟨aaF, caF, rfl, -, -⟩ := own_slice hown.f
  obtain ⟨aaM, caM, rfl, -, -⟩ := own_slice hown.m
  have HOW := Lib.hid hown
  rw [← HNM.out, ← HSP.out, ← HAC.out, ← HNI.out, ← HNF.out, ← HNMM.out] at he
  rw [← HNI.out, ← HNF.out, ← HNMM.out] at HOW
  subst he
  clear hown C
  go_upto_region 8 with fail
  have hka : Kept w6 (wt.alloc (.cells #[.string nm, .string sp, .int .i64 tac, .slice aaI nI caI, .slice aaF nF caF, .slice aaM nM caM] 36)) := Kept.trans hk8 ((Below.refl _ _).alloc (Nat.le_refl _) _)
  have HT1 := Lib.hid (Blk.new wt 36 #[.string nm, .string sp, .int .i64 tac, .slice aaI nI caI, .slice aaF nF caF, .slice aaM nM caM])
  have OW1 := Lib.hid (HOW.out.keep (show Kept wt (wt.alloc (.cells #[.string nm, .string sp, .int .i64 tac, .slice aaI nI caI, .slice aaF nF caF, .slice aaM nM caM] 36)) from (Below.refl _ _).alloc (Nat.le_refl _) _))
  have KN7 := Lib.hid hka
  obtain ⟨gHT1, hgHT1⟩ : ∃ k, k = wt.heap.size := ⟨_, rfl⟩
  rw [← hgHT1] at HT1 ⊢
  clear hka hk8 HOW
  generalize (wt.alloc (.cells #[.string nm, .string sp, .int .i64 tac, .slice aaI nI caI, .slice aaF nF caF, .slice aaM nM caM] 36)) = w7 at *
  clear hgHT1
  have hk7 := KN7.out
  have K7 := Lib.hid (Kept.trans K6.out hk7)
  have HA7 := Lib.hid (HA6.out.kept hk7)
  have HO7 := Lib.hid (HO6.out.kept hk7)
  have HF7 := Lib.hid (HF6.out.kept hk7)
  have HL7 := Lib.hid (HL6.out.kept hk7)
  clear hk7 f0 f1 f2 f3 f4 f5 f6 f7 f8
  have f0 := HF7.out.cell 0
  have f1 := HF7.out.cell 1
  have f2 := HF7.out.cell 2
  have f3 := HF7.out.cell 3
  have f4 := HF7.out.cell 4
  have f5 := HF7.out.cell 5
  have f6 := HF7.out.cell 6
  have f7 := HF7.out.cell 7
  have f8 := HF7.out.cell 8
  simp only [List.getElem?_toArray, List.getElem?_cons_succ, List.getElem?_cons_zero] at f0 f1 f2 f3 f4 f5 f6 f7 f8
  have c0 := HA7.out.cell 0
  have c1 := HA7.out.cell 1
  have c2 := HA7.out.cell 2
  have c3 := HA7.out.cell 3
  have c4 := HA7.out.cell 4
  have c5 := HA7.out.cell 5
  have c6 := HA7.out.cell 6
  have c7 := HA7.out.cell 7
  have c8 := HA7.out.cell 8
  simp only [List.getElem?_toArray, List.getElem?_cons_succ, List.getElem?_cons_zero] at c0 c1 c2 c3 c4 c5 c6 c7 c8
  have C := law4_Stays _ c mf mv gP dP gI dI gF dF gM dM _ _ _ _ w7 HL7.out (HC.out.kept (Kept.trans HK.out K7.out)) HSZ.out
  go_wp2_with fail
  refine C.mono ?_
  rintro e w8 ⟨rfl, hk8⟩
  have K8 := Lib.hid (Kept.trans K7.out hk8)
  have HA8 := Lib.hid (HA7.out.kept hk8)
  have HO8 := Lib.hid (HO7.out.kept hk8)
  have HT1b := Lib.hid (HT1.out.kept hk8)
  have OW1b := Lib.hid (OW1.out.keep hk8)
  clear hk8 C HL4 HL5 HL6 HL7 HF5 HF6 HF7 f0 f1 f2 f3 f4 f5 f6 f7 f8 c0 c1 c2 c3 c4 c5 c6 c7 c8
  have d0 := HO8.out.cell 0
  have d1 := HO8.out.cell 1
  have d2 := HO8.out.cell 2
  have d3 := HO8.out.cell 3
  have d4 := HO8.out.cell 4
  have d5 := HO8.out.cell 5
  have d6 := HO8.out.cell 6
  have d7 := HO8.out.cell 7
  have d8 := HO8.out.cell 8
  simp only [List.getElem?_toArray, List.getElem?_cons_succ, List.getElem?_cons_zero] at d0 d1 d2 d3 d4 d5 d6 d7 d8
  have C := check_Outline o mo _ _ _ _ w8 (HO.out.kept (Kept.trans HK.out K8.out)) HTO.out
  unfold OutG at C
  rw [← HT2_.out, ← HR2.out] at C
  go_wp2_with fail
  refine C.mono ?_
  rintro e wt ⟨vI, vF, vM, he, hown, hk8⟩
  obtain ⟨abI, cbI, rfl, -, -⟩ := own_slice hown.i
  obtain ⟨abF, cbF, rfl, -, -⟩ := own_slice hown.f
  obtain ⟨abM, cbM, rfl, -, -⟩ := own_slice hown.m
  have HOW := Lib.hid hown
  rw [← HNMx.out, ← HSPx.out, ← HACx.out, ← HNIx.out, ← HNFx.out, ← HNMMx.out] at he
  rw [← HNIx.out, ← HNFx.out, ← HNMMx.out] at HOW
  subst he
  clear hown C
  go_upto_region 10 with fail
  have hka : Kept w8 (wt.alloc (.cells #[.string nmx, .string spx, .int .i64 tacx, .slice abI nIx cbI, .slice abF nFx cbF, .slice abM nMx cbM] 36)) := Kept.trans hk8 ((Below.refl _ _).alloc (Nat.le_refl _) _)
  have HT2 := Lib.hid (Blk.new wt 36 #[.string nmx, .string spx, .int .i64 tacx, .slice abI nIx cbI, .slice abF nFx cbF, .slice abM nMx cbM])
  have OW2 := Lib.hid (HOW.out.keep (show Kept wt (wt.alloc (.cells #[.string nmx, .string spx, .int .i64 tacx, .slice abI nIx cbI, .slice abF nFx cbF, .slice abM nMx cbM] 36)) from (Below.refl _ _).alloc (Nat.le_refl _) _))
  have KN9 := Lib.hid hka
  obtain ⟨gHT2, hgHT2⟩ : ∃ k, k = wt.heap.size := ⟨_, rfl⟩
  rw [← hgHT2] at HT2 ⊢
  clear hka hk8 HOW
  generalize (wt.alloc (.cells #[.string nmx, .string spx, .int .i64 tacx, .slice abI nIx cbI, .slice abF nFx cbF, .slice abM nMx cbM] 36)) = w9 at *
  clear hgHT2
  have C := law5_SpoilType _ T2 _ _ _ w9 (by have h := OW2.out; rw [HNIx.out, HNFx.out, HNMMx.out] at h; exact h)
  rw [← HNMx.out, ← HSPx.out, ← HACx.out, ← HNIx.out, ← HNFx.out, ← HNMMx.out] at C
  clear d0 d1 d2 d3 d4 d5 d6 d7 d8
  have y0 := HT2.out.cell 0
  have y1 := HT2.out.cell 1
  have y2 := HT2.out.cell 2
  have y3 := HT2.out.cell 3
  have y4 := HT2.out.cell 4
  have y5 := HT2.out.cell 5
  simp only [List.getElem?_toArray, List.getElem?_cons_succ, List.getElem?_cons_zero] at y0 y1 y2 y3 y4 y5
  go_wp2_with fail
  refine C.mono ?_
  rintro e w10 ⟨rfl, ht10⟩
  have hk10 : Kept w8 w10 := Below.trans KN9.out (ht10.below (fun b hb => hb) KN9.out.size)
  have K10 := Lib.hid (Kept.trans K8.out hk10)
  have HA10 := Lib.hid (HA8.out.kept hk10)
  have HO10 := Lib.hid (HO8.out.kept hk10)
  have HT1c := Lib.hid (HT1b.out.kept hk10)
  have OW1c := Lib.hid (OW1b.out.keep hk10)
  clear ht10 hk10 C y0 y1 y2 y3 y4 y5
  have c0 := HA10.out.cell 0
  have c1 := HA10.out.cell 1
  have c2 := HA10.out.cell 2
  have c3 := HA10.out.cell 3
  have c4 := HA10.out.cell 4
  have c5 := HA10.out.cell 5
  have c6 := HA10.out.cell 6
  have c7 := HA10.out.cell 7
  have c8 := HA10.out.cell 8
  simp only [List.getElem?_toArray, List.getElem?_cons_succ, List.getElem?_cons_zero] at c0 c1 c2 c3 c4 c5 c6 c7 c8
  have C := ref5_Outline c mv _ _ _ _ w10 (HC.out.kept (Kept.trans HK.out K10.out)) HTC.out
  unfold OutG at C
  rw [← HT_.out, ← HR_.out] at C
  go_wp2_with fail
  refine C.mono ?_
  rintro e wt ⟨vI, vF, vM, he, hown, hk8⟩
  obtain ⟨acI, ccI, rfl, -, -⟩ := own_slice hown.i
  obtain ⟨acF, ccF, rfl, -, -⟩ := own_slice hown.f
  obtain ⟨acM, ccM, rfl, -, -⟩ := own_slice hown.m
  have HOW := Lib.hid hown
  rw [← HNM.out, ← HSP.out, ← HAC.out, ← HNI.out, ← HNF.out, ← HNMM.out] at he
  rw [← HNI.out, ← HNF.out, ← HNMM.out] at HOW
  subst he
  clear hown C
  go_upto_region 12 with fail
  have hka : Kept w10 (wt.alloc (.cells #[.string nm, .string sp, .int .i64 tac, .slice acI nI ccI, .slice acF nF ccF, .slice acM nM ccM] 36)) := Kept.trans hk8 ((Below.refl _ _).alloc (Nat.le_refl _) _)
  have HT3 := Lib.hid (Blk.new wt 36 #[.string nm, .string sp, .int .i64 tac, .slice acI nI ccI, .slice acF nF ccF, .slice acM nM ccM])
  have OW3 := Lib.hid (HOW.out.keep (show Kept wt (wt.alloc (.cells #[.string nm, .string sp, .int .i64 tac, .slice acI nI ccI, .slice acF nF ccF, .slice acM nM ccM] 36)) from (Below.refl _ _).alloc (Nat.le_refl _) _))
  have KN11 := Lib.hid hka
  obtain ⟨gHT3, hgHT3⟩ : ∃ k, k = wt.heap.size := ⟨_, rfl⟩
  rw [← hgHT3] at HT3 ⊢
  clear hka hk8 HOW
  generalize (wt.alloc (.cells #[.string nm, .string sp, .int .i64 tac, .slice acI nI ccI, .slice acF nF ccF, .slice acM nM ccM] 36)) = w11 at *
  clear hgHT3
  have K11 := Lib.hid (Kept.trans K10.out KN11.out)
  have HT1d := Lib.hid (HT1c.out.kept KN11.out)
  have OW1d := Lib.hid (OW1c.out.keep KN11.out)
  have C := same_out (by have h := OW1d.out; rw [HNI.out, HNF.out, HNMM.out] at h; exact h) (by have h := OW3.out; rw [HNI.out, HNF.out, HNMM.out] at h; exact h) HTB.out
  rw [← HNM.out, ← HSP.out, ← HAC.out, ← HNI.out, ← HNF.out, ← HNMM.out] at C
  clear c0 c1 c2 c3 c4 c5 c6 c7 c8
  have x0 := HT1d.out.cell 0
  have x1 := HT1d.out.cell 1
  have x2 := HT1d.out.cell 2
  have x3 := HT1d.out.cell 3
  have x4 := HT1d.out.cell 4
  have x5 := HT1d.out.cell 5
  simp only [List.getElem?_toArray, List.getElem?_cons_succ, List.getElem?_cons_zero] at x0 x1 x2 x3 x4 x5
  have y0 := HT3.out.cell 0
  have y1 := HT3.out.cell 1
  have y2 := HT3.out.cell 2
  have y3 := HT3.out.cell 3
  have y4 := HT3.out.cell 4
  have y5 := HT3.out.cell 5
  simp only [List.getElem?_toArray, List.getElem?_cons_succ, List.getElem?_cons_zero] at y0 y1 y2 y3 y4 y5
  go_wp2_with (first | (go_at_call 21; refine (law5_num _ _).mono ?_; rintro e w9 ⟨rfl, rfl⟩) | (go_at_call 22; refine C.mono ?_; rintro e wz ⟨rfl, hkz⟩; have KZ := Lib.hid hkz; clear hkz))
  go_ret
  exact ⟨rfl, Kept.trans HK.out (Kept.trans K11.out KZ.out)⟩
theorem walk_CheckSays (c o : ClassV) (w : World) (h : ClassV.Ok w c) (k : ClassV.Ok w o) : Calls Try.prog 3 #[.agg (encClassV c).toArray, .agg (encClassV o).toArray] w fun e w' => e = .returned (.bool true) ∧ Below w.heap.size w w' :=
  checkSays_walk c.c o.c c.mv o.mv c.poolV c.interfacesV c.fieldsV c.methodsV o.poolV o.interfacesV o.fieldsV o.methodsV w (ClassV.arg h) (ClassV.arg k) (ClassV.rng h)
end Go.Proofs.Ytcklmhbcjgiplaa
