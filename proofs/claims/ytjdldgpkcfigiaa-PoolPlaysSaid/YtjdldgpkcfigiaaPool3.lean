/-
  Package pool by contract: Solve, Fail; the document's pool; what the law asks first.
-/
import Derived.Test.YtjdldgpkcfigiaaPool2
import Derived.Test.YtjdldgpkcfigiaaVal

namespace Go.Proofs.Ytjdldgpkcfigiaa
open Go.RowKit Go.Maps
set_option maxRecDepth 100000

theorem Told.of_kept {w w1 w' : World} {g b n : Nat} {es : List EntV} {t : Int} {x : EntV} {e : Ending} (hk : Kept w w1) (h : Told w1 g b n es t x e w') : Told w g b n es t x e w' :=
  ⟨h.e, h.pool, (Touch.of_kept hk).trans h.touch fun _ hb => .inl hb⟩

theorem pool_Solve (w : World) (es : List EntV) (g b n : Nat) (t : Int) (cls : ByteArray) (a : Int) (h : IsPool w (.pointer (some ⟨g, 0, none⟩)) es g b n) (h1 : -9223372036854775808 ≤ t) (h2 : t ≤ 9223372036854775807) (hn : n < 9223372036854775807) :
    Calls Try.prog 11 #[.pointer (some ⟨g, 0, none⟩), .int .i64 t, .agg #[.string cls, .int .i64 a]] w (Told w g b n es t ⟨1, ⟨#[]⟩, cls, a⟩) := by
  have k0 : Kept w (w.alloc (.cells #[.string cls, .int .i64 a] 35)) := (Below.refl _ _).alloc (Nat.le_refl _) _
  have C := Lib.hid (pool_tell _ es g b n t ⟨1, ⟨#[]⟩, cls, a⟩ (h.kept k0) h1 h2 (by simp) hn)
  have K0 := Lib.hid k0
  have bld : ∀ (a b c d : Value) (w : World), (Instr.build 80 #[(0, .agg #[a, b]), (1, .agg #[c, d])]).run Try.prog w = .ok (.agg #[a, b, c, d]) w := fun _ _ _ _ _ => by kernel_rfl
  clear h k0
  go_enter Try.func11, Try.ntmps11
  go_wp2_with fail
  refine C.out.mono ?_
  rintro e w' ⟨rfl, hp, ht⟩
  have H := Lib.hid (Told.of_kept K0.out ⟨rfl, hp, ht⟩)
  clear hp ht
  go_wp2_with fail
  go_ret
  exact H.out

theorem pool_Fail (w : World) (es : List EntV) (g b n : Nat) (t : Int) (err : ByteArray) (h : IsPool w (.pointer (some ⟨g, 0, none⟩)) es g b n) (h1 : -9223372036854775808 ≤ t) (h2 : t ≤ 9223372036854775807) (hn : n < 9223372036854775807) :
    Calls Try.prog 12 #[.pointer (some ⟨g, 0, none⟩), .int .i64 t, .string err] w (Told w g b n es t ⟨2, err, ⟨#[]⟩, 0⟩) := by
  have C := Lib.hid (pool_tell _ es g b n t ⟨2, err, ⟨#[]⟩, 0⟩ h h1 h2 (by simp) hn)
  have bld : ∀ (a b : Value) (w : World), (Instr.build 80 #[(0, .agg #[a, b])]).run Try.prog w = .ok (.agg #[a, b, .string ⟨#[]⟩, .int .i64 0]) w := fun _ _ _ => by kernel_rfl
  clear h
  go_enter Try.func12, Try.ntmps12
  go_wp2_with fail
  refine C.out.mono ?_
  rintro e w' ⟨rfl, hp, ht⟩
  have H := Lib.hid (show Told w g b n es t ⟨2, err, ⟨#[]⟩, 0⟩ _ w' from ⟨rfl, hp, ht⟩)
  clear hp ht
  go_wp2_with fail
  go_ret
  exact H.out

theorem law14_num (n : Int) (w : World) : Calls Try.prog 8 #[.int .i64 n] w fun e w' => e = .returned (.int .i64 n) ∧ w = w' := by
  go_enter Try.func8, Try.ntmps8
  go_wp2
  go_ret
  exact ⟨rfl, rfl⟩

def encE (x : EntV) : List Value := [.int .i64 x.st, .string x.err]
def encF (x : EntV) : List Value := [.string x.cls, .int .i64 x.at_]

/-- The document's pool behind a pointer: its block g, its two rows' slices. -/
structure IsRP (B : Nat) (w : World) (p : Value) (es : List EntV) (g : Nat) (u v : Value) : Prop where
  ptr : p = .pointer (some ⟨g, 0, none⟩)
  blk : Blk w g 33 #[u, v]
  re : Row w B 41 2 u es.length (es.flatMap encE)
  rf : Row w B 35 2 v es.length (es.flatMap encF)
  ge : B ≤ g

def footP (g : Nat) (u v : Value) (b : Nat) : Prop := b = g ∨ u.ownBlock = some b ∨ v.ownBlock = some b
section
variable {B : Nat} {w w' : World} {p : Value} {es : List EntV} {g : Nat} {u v : Value} {S : Nat → Prop}
theorem IsRP.apart (h : IsRP B w p es g u v) (ht : Touch S w w') (hn : ∀ b, footP g u v b → ¬ S b) : IsRP B w' p es g u v :=
  ⟨h.ptr, h.blk.touch ht (hn g (.inl rfl)), h.re.touch ht (fun k hk => hn k (.inr (.inl hk))), h.rf.touch ht (fun k hk => hn k (.inr (.inr hk))), h.ge⟩
theorem IsRP.kept (h : IsRP B w p es g u v) (hk : Kept w w') : IsRP B w' p es g u v := h.apart (Touch.of_kept (S := fun _ => False) hk) fun _ _ => id
end

/-- What Open answers. -/
def openE (es : List EntV) (t : Int) : Int := if 1 ≤ t ∧ t ≤ es.length then (if (entAt es t).st = 0 then 0 else 24) else 40

theorem ent_rd {w : World} {es : List EntV} {v : Value} {n : Nat} {enc : EntV → List Value} (he : ∀ x, (enc x).length = 2) (hl : es.length = n) (hr : Rd w 2 v n (es.flatMap enc)) {i : Nat} {x : EntV} (hx : es[i]? = some x) :
    ∃ b off c u0 u1, v = .slice (some ⟨b, off, none⟩) n c ∧ n ≤ c ∧ c ≤ 9223372036854775807 ∧ enc x = [u0, u1] ∧ w.cell? ⟨b, off + i * 2, none⟩ = some u0 ∧ w.cell? ⟨b, off + i * 2 + 1, none⟩ = some u1 := by
  have hl' := (List.getElem?_eq_some_iff.1 hx).1
  obtain ⟨u0, u1, hu⟩ : ∃ u0 u1, enc x = [u0, u1] := by
    have := he x
    match enc x, this with
    | [a, b], _ => exact ⟨a, b, rfl⟩
  rcases hr.parts with ⟨h0, _⟩ | ⟨b, off, c, rfl, h0, h1, h2, hc⟩
  · omega
  · have hg : ∀ f u, (enc x)[f]? = some u → f < 2 → w.cell? ⟨b, off + (i * 2 + f), none⟩ = some u := fun f u hu hf => hc _ _ (by rw [flat_get enc 2 he es i f x hx hf]; exact hu)
    exact ⟨b, off, c, u0, u1, rfl, h1, h2, hu, hg 0 _ (by rw [hu]; rfl) (by omega), hg 1 _ (by rw [hu]; rfl) (by omega)⟩

theorem entAt_at {es : List EntV} {i : Nat} {x : EntV} (h : es[i]? = some x) : entAt es ((i : Int) + 1) = x := by
  rw [entAt, if_pos (by omega), show ((i : Int) + 1 - 1).toNat = i by omega, h]; rfl
theorem entAt_out {es : List EntV} {t : Int} (h : ¬ (1 ≤ t ∧ t ≤ es.length)) : entAt es t = EntV.zero := by
  unfold entAt
  split
  · rw [List.getElem?_eq_none (by omega)]; rfl
  · rfl

theorem ref_Open (B : Nat) (w : World) (p : Value) (es : List EntV) (g : Nat) (u v : Value) (t : Int) (h : IsRP B w p es g u v) (hb : es.length ≤ 1024) :
    Calls Try.prog 10 #[p, .int .i64 t] w fun e w' => e = .returned (.int .i64 (openE es t)) ∧ w = w' := by
  obtain ⟨rfl, hblk, hre, hrf, hB⟩ := h
  have c0 := hblk.cell 0
  simp at c0
  by_cases hr : 1 ≤ t ∧ t ≤ es.length
  · obtain ⟨k, rfl⟩ : ∃ k : Nat, t = (k : Int) + 1 := ⟨(t - 1).toNat, by omega⟩
    obtain ⟨x, hx⟩ : ∃ x, es[k]? = some x := ⟨_, List.getElem?_eq_getElem (show k < es.length by omega)⟩
    have hE : openE es ((k : Int) + 1) = if x.st = 0 then 0 else 24 := by rw [openE, if_pos hr, entAt_at hx]
    obtain ⟨b, off, c, u0, u1, rfl, hc1, hc2, hu, z0, z1⟩ := ent_rd (fun _ => rfl) rfl hre.rd hx
    simp only [encE, List.cons.injEq] at hu
    obtain ⟨rfl, rfl, -⟩ := hu
    rw [hE]
    obtain ⟨m, hm⟩ : ∃ m, m = es.length := ⟨_, rfl⟩
    rw [← hm] at c0 hb hr hc1
    have hw : IntKind.i64.wrap ((k : Int) + 1 - 1) = (k : Int) := by rw [IntWalk.i64_in _ (by omega)]; omega
    have h1 : ¬ (k : Int) + 1 < 1 := by omega
    have h2 : ¬ (m : Int) < (k : Int) + 1 := by omega
    have h3 : k < m := by omega
    clear hE hblk hre hrf hx hm hr
    by_cases hz : x.st = 0
    · rw [if_pos hz]
      rw [hz] at z0
      clear hz
      go_enter Try.func10, Try.ntmps10
      go_wp2
      go_ret
      exact ⟨rfl, rfl⟩
    · rw [if_neg hz]
      go_enter Try.func10, Try.ntmps10
      go_wp2
      go_ret
      exact ⟨rfl, rfl⟩
  · have hE : openE es t = 40 := by rw [openE, if_neg hr]
    rw [hE]
    obtain ⟨a, c, rfl, hc1, hc2⟩ := hre.form
    obtain ⟨m, hm⟩ : ∃ m, m = es.length := ⟨_, rfl⟩
    rw [← hm] at c0 hb hr hc1
    clear hE hblk hre hrf hm
    rcases (by omega : t < 1 ∨ (¬ t < 1 ∧ (m : Int) < t)) with hr1 | ⟨hr0, hr1⟩
    all_goals
      clear hr
      go_enter Try.func10, Try.ntmps10
      go_wp2
      go_ret
      exact ⟨rfl, rfl⟩

theorem ref_State (B : Nat) (w : World) (p : Value) (es : List EntV) (g : Nat) (u v : Value) (t : Int) (h : IsRP B w p es g u v) (hb : es.length ≤ 1024) :
    Calls Try.prog 14 #[p, .int .i64 t] w fun e w' => e = .returned (.agg #[.int .i64 (entAt es t).st, .string (entAt es t).err]) ∧ Kept w w' := by
  obtain ⟨rfl, hblk, hre, hrf, hB⟩ := h
  have c0 := hblk.cell 0
  simp at c0
  have hg := hblk.lt
  by_cases hr : 1 ≤ t ∧ t ≤ es.length
  · obtain ⟨k, rfl⟩ : ∃ k : Nat, t = (k : Int) + 1 := ⟨(t - 1).toNat, by omega⟩
    obtain ⟨x, hx⟩ : ∃ x, es[k]? = some x := ⟨_, List.getElem?_eq_getElem (show k < es.length by omega)⟩
    rw [entAt_at hx]
    obtain ⟨b, off, c, u0, u1, rfl, hc1, hc2, hu, z0, z1⟩ := ent_rd (fun _ => rfl) rfl hre.rd hx
    simp only [encE, List.cons.injEq] at hu
    obtain ⟨rfl, rfl, -⟩ := hu
    have hbb : b < w.heap.size := World.block_lt_of_cell? w _ z0
    obtain ⟨m, hm⟩ : ∃ m, m = es.length := ⟨_, rfl⟩
    rw [← hm] at c0 hb hr hc1
    have hw : IntKind.i64.wrap ((k : Int) + 1 - 1) = (k : Int) := by rw [IntWalk.i64_in _ (by omega)]; omega
    have h1 : ¬ (k : Int) + 1 < 1 := by omega
    have h2 : ¬ (m : Int) < (k : Int) + 1 := by omega
    have h3 : k < m := by omega
    clear hblk hre hrf hx hm hr
    go_enter Try.func14, Try.ntmps14
    go_wp2
    go_returns
    exact ⟨rfl, (Below.refl _ _).alloc (Nat.le_refl _) _⟩
  · rw [entAt_out hr]
    obtain ⟨a, c, rfl, hc1, hc2⟩ := hre.form
    obtain ⟨m, hm⟩ : ∃ m, m = es.length := ⟨_, rfl⟩
    rw [← hm] at c0 hb hr hc1
    clear hblk hre hrf hm
    rcases (by omega : t < 1 ∨ (¬ t < 1 ∧ (m : Int) < t)) with hr1 | ⟨hr0, hr1⟩
    all_goals
      clear hr
      go_enter Try.func14, Try.ntmps14
      go_wp2
      go_returns
      exact ⟨rfl, (Below.refl _ _).alloc (Nat.le_refl _) _⟩
end Go.Proofs.Ytjdldgpkcfigiaa
