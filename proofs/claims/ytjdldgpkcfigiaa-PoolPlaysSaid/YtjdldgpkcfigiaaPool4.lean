/-
  The law PoolPlays: two pools and the document's side by side; what it asks first.
-/
import Derived.Test.YtjdldgpkcfigiaaPool3
import Derived.Test.YtjdldgpkcfigiaaTy

namespace Go.Proofs.Ytjdldgpkcfigiaa
open Go.RowKit Go.Maps
set_option maxRecDepth 100000

/-- The three pools of the law. -/
structure Three (B : Nat) (w : World) (es : List EntV) (g b n g2 b2 gr : Nat) (u v : Value) : Prop where
  p : IsPool w (.pointer (some ⟨g, 0, none⟩)) es g b n
  q : IsPool w (.pointer (some ⟨g2, 0, none⟩)) (List.replicate es.length EntV.zero) g2 b2 0
  r : IsRP B w (.pointer (some ⟨gr, 0, none⟩)) es gr u v
  ne : b ≠ b2
  ge : B ≤ b

section
variable {B : Nat} {w w' : World} {es : List EntV} {g b n g2 b2 gr : Nat} {u v : Value}
theorem Three.kept (h : Three B w es g b n g2 b2 gr u v) (hk : Kept w w') : Three B w' es g b n g2 b2 gr u v := ⟨h.p.kept hk, h.q.kept hk, h.r.kept hk, h.ne, h.ge⟩

/-- Behind a refusal. -/
theorem Three.same {t : Int} {x : EntV} {e : Ending} (h : Three B w es g b n g2 b2 gr u v) (ht : Told w g b n es t x e w') (h0 : tellE es t x ≠ 0) : Three B w' es g b (n + 1) g2 b2 gr u v := by
  have hp := ht.pool
  rw [tellL, if_neg h0] at hp
  refine ⟨hp, h.q.apart ht.touch (h.p.dict.ty h.q.blk.ty) (fun e => h.ne e.symm), h.r.apart ht.touch ?_, h.ne, h.ge⟩
  rintro k (rfl | hk | hk)
  · exact h.p.dict.ty h.r.blk.ty
  · exact h.p.dict.ty (h.r.re.ty k hk)
  · exact h.p.dict.ty (h.r.rf.ty k hk)

theorem enc_set {enc : EntV → List Value} (he : ∀ x, (enc x).length = 2) (es : List EntV) (k : Nat) (x : EntV) {u0 u1 : Value} (hx : enc x = [u0, u1]) (hk : k < es.length) : (((es.flatMap enc).set (k * 2) u0).set (k * 2 + 1) u1) = (es.set k x).flatMap enc := by
  rw [flat_set2 enc he x u0 u1 hx, if_pos hk]
theorem enc_still {enc : EntV → List Value} : ∀ (es : List EntV) (k : Nat) (x y : EntV), es[k]? = some y → enc x = enc y → (es.set k x).flatMap enc = es.flatMap enc
  | [], k, x, y, h, _ => by simp at h
  | z :: es, 0, x, y, h, he => by
    simp only [List.getElem?_cons_zero, Option.some.injEq] at h
    subst h
    simp [he]
  | z :: es, k + 1, x, y, h, he => by
    simp only [List.getElem?_cons_succ] at h
    simp [enc_still es k x y h he]

/-- Where the document's pool holds an entry. -/
theorem Three.cells (h : Three B w es g b n g2 b2 gr u v) (hn : 0 < es.length) : ∃ be ce bf cf, u = .slice (some ⟨be, 0, none⟩) es.length ce ∧ v = .slice (some ⟨bf, 0, none⟩) es.length cf ∧ es.length ≤ ce ∧ ce ≤ 9223372036854775807 ∧ es.length ≤ cf ∧ cf ≤ 9223372036854775807 := by
  obtain ⟨be, ce, rfl, h1, h2⟩ := h.r.re.addr hn
  obtain ⟨bf, cf, rfl, h3, h4⟩ := h.r.rf.addr hn
  exact ⟨be, ce, bf, cf, rfl, rfl, h1, h2, h3, h4⟩

/-- A store of an entry's first half. -/
theorem Three.putE {be ce k : Nat} {x : EntV} (h : Three B w es g b n g2 b2 gr u v) (hu : u = .slice (some ⟨be, 0, none⟩) es.length ce) :
    be ≠ g ∧ be ≠ b ∧ be ≠ g2 ∧ be ≠ b2 ∧ be ≠ gr ∧ (∀ j, v.ownBlock = some j → j ≠ be) ∧ B ≤ be := by
  have hown : u.ownBlock = some be := by rw [hu]; rfl
  have ty := h.r.re.ty be hown
  refine ⟨TyAt.ne ty h.p.blk.ty (by decide), h.p.dict.ty ty, TyAt.ne ty h.q.blk.ty (by decide), h.q.dict.ty ty, TyAt.ne ty h.r.blk.ty (by decide), fun j hj => TyAt.ne (h.r.rf.ty j hj) ty (by decide), (h.r.re.lt be hown).1⟩
theorem Three.putF {bf cf : Nat} (h : Three B w es g b n g2 b2 gr u v) (hv : v = .slice (some ⟨bf, 0, none⟩) es.length cf) :
    bf ≠ g ∧ bf ≠ b ∧ bf ≠ g2 ∧ bf ≠ b2 ∧ bf ≠ gr ∧ (∀ j, u.ownBlock = some j → j ≠ bf) ∧ B ≤ bf := by
  have hown : v.ownBlock = some bf := by rw [hv]; rfl
  have ty := h.r.rf.ty bf hown
  refine ⟨TyAt.ne ty h.p.blk.ty (by decide), h.p.dict.ty ty, TyAt.ne ty h.q.blk.ty (by decide), h.q.dict.ty ty, TyAt.ne ty h.r.blk.ty (by decide), fun j hj => TyAt.ne (h.r.re.ty j hj) ty (by decide), (h.r.rf.lt bf hown).1⟩
end

/-- Half way: the pool has been told, the document's not yet. -/
structure Half (B : Nat) (w : World) (es : List EntV) (k : Nat) (x : EntV) (g b n g2 b2 gr : Nat) (u v : Value) : Prop where
  p : IsPool w (.pointer (some ⟨g, 0, none⟩)) (es.set k x) g b n
  q : IsPool w (.pointer (some ⟨g2, 0, none⟩)) (List.replicate es.length EntV.zero) g2 b2 0
  r : IsRP B w (.pointer (some ⟨gr, 0, none⟩)) es gr u v
  ne : b ≠ b2
  ge : B ≤ b
theorem Three.half {B : Nat} {w w' : World} {es : List EntV} {g b n g2 b2 gr : Nat} {u v : Value} {k : Nat} {x : EntV} {e : Ending} (h : Three B w es g b n g2 b2 gr u v) (ht : Told w g b n es ((k : Int) + 1) x e w') (h0 : tellE es ((k : Int) + 1) x = 0) : Half B w' es k x g b (n + 1) g2 b2 gr u v := by
  have hp := ht.pool
  rw [tellL, if_pos h0, show ((k : Int) + 1 - 1).toNat = k by omega] at hp
  refine ⟨hp, h.q.apart ht.touch (h.p.dict.ty h.q.blk.ty) (fun e => h.ne e.symm), h.r.apart ht.touch ?_, h.ne, h.ge⟩
  rintro k (rfl | hk | hk)
  · exact h.p.dict.ty h.r.blk.ty
  · exact h.p.dict.ty (h.r.re.ty k hk)
  · exact h.p.dict.ty (h.r.rf.ty k hk)

section
variable {B : Nat} {w : World} {es : List EntV} {g b n g2 b2 gr k be ce bf cf : Nat} {u v : Value} {x y : EntV}
/-- The document's two rows are written. -/
theorem Half.both (h : Half B w es k x g b n g2 b2 gr u v) (hk : k < es.length) (hu : u = .slice (some ⟨be, 0, none⟩) es.length ce) (hv : v = .slice (some ⟨bf, 0, none⟩) es.length cf) :
    Three B ((((w.setCell ⟨be, k * 2, none⟩ (.int .i64 x.st)).setCell ⟨be, k * 2 + 1, none⟩ (.string x.err)).setCell ⟨bf, k * 2, none⟩ (.string x.cls)).setCell ⟨bf, k * 2 + 1, none⟩ (.int .i64 x.at_)) (es.set k x) g b n g2 b2 gr u v ∧
    Touch (fun j => B ≤ j) w ((((w.setCell ⟨be, k * 2, none⟩ (.int .i64 x.st)).setCell ⟨be, k * 2 + 1, none⟩ (.string x.err)).setCell ⟨bf, k * 2, none⟩ (.string x.cls)).setCell ⟨bf, k * 2 + 1, none⟩ (.int .i64 x.at_)) := by
  have tu := h.r.re.ty be (by rw [hu]; rfl)
  have tv := h.r.rf.ty bf (by rw [hv]; rfl)
  have hge1 := (h.r.re.lt be (by rw [hu]; rfl)).1
  have hge2 := (h.r.rf.lt bf (by rw [hv]; rfl)).1
  have ht : Touch (fun j => j = be ∨ j = bf) w ((((w.setCell ⟨be, k * 2, none⟩ (.int .i64 x.st)).setCell ⟨be, k * 2 + 1, none⟩ (.string x.err)).setCell ⟨bf, k * 2, none⟩ (.string x.cls)).setCell ⟨bf, k * 2 + 1, none⟩ (.int .i64 x.at_)) :=
    ((((Touch.refl (fun j => j = be ∨ j = bf) w).setCell (p := ⟨be, k * 2, none⟩) (.inl (.inl rfl)) _).setCell (p := ⟨be, k * 2 + 1, none⟩) (.inl (.inl rfl)) _).setCell (p := ⟨bf, k * 2, none⟩) (.inl (.inr rfl)) _).setCell (p := ⟨bf, k * 2 + 1, none⟩) (.inl (.inr rfl)) _
  have hbf : ∀ j, j = be ∨ j = bf → B ≤ j := by rintro j (rfl | rfl) <;> assumption
  have nb : ∀ {j : Nat} {t : TypeId}, TyAt w j t → 41 ≠ t → 35 ≠ t → ¬ (j = be ∨ j = bf) := by
    rintro j t hj h1 h2 (rfl | rfl)
    · exact TyAt.ne tu hj h1 rfl
    · exact TyAt.ne tv hj h2 rfl
  have nd : ∀ {j m : Nat} {f : Int → Option Value}, Dict Try.prog 81 keyP w j m f → ¬ (j = be ∨ j = bf) := by
    rintro j m f hj (rfl | rfl)
    · exact hj.ty tu rfl
    · exact hj.ty tv rfl
  refine ⟨⟨h.p.apart ht (nb h.p.blk.ty (by decide) (by decide)) (nd h.p.dict), ?_, ⟨rfl, h.r.blk.touch ht (nb h.r.blk.ty (by decide) (by decide)), ?_, ?_, h.r.ge⟩, h.ne, h.ge⟩, ht.mono hbf⟩
  · rw [List.length_set]
    exact h.q.apart ht (nb h.q.blk.ty (by decide) (by decide)) (nd h.q.dict)
  · have r1 := h.r.re
    rw [hu] at r1 ⊢
    have r2 := (r1.store (k * 2) (.int .i64 x.st)).store (k * 2 + 1) (.string x.err)
    rw [enc_set (enc := encE) (fun _ => rfl) es k x rfl hk] at r2
    have hne : be ≠ bf := TyAt.ne tu tv (by decide)
    have r3 := r2.touch (S := fun j => j = bf) (((Touch.refl (fun j => j = bf) _).setCell (p := ⟨bf, k * 2, none⟩) (.inl rfl) (.string x.cls)).setCell (p := ⟨bf, k * 2 + 1, none⟩) (.inl rfl) (.int .i64 x.at_)) (fun j hj e => hne (by simp [Value.ownBlock] at hj; omega))
    rw [List.length_set]
    exact r3
  · have r1 := h.r.rf
    have hne : be ≠ bf := TyAt.ne tu tv (by decide)
    have r0 := r1.touch (S := fun j => j = be) (((Touch.refl (fun j => j = be) _).setCell (p := ⟨be, k * 2, none⟩) (.inl rfl) (.int .i64 x.st)).setCell (p := ⟨be, k * 2 + 1, none⟩) (.inl rfl) (.string x.err)) (fun j hj e => by rw [hv] at hj; simp [Value.ownBlock] at hj; omega)
    rw [hv] at r0 ⊢
    have r2 := (r0.store (k * 2) (.string x.cls)).store (k * 2 + 1) (.int .i64 x.at_)
    rw [enc_set (enc := encF) (fun _ => rfl) es k x rfl hk] at r2
    rw [List.length_set]
    exact r2
/-- The document's first row is written alone. -/
theorem Half.one (h : Half B w es k x g b n g2 b2 gr u v) (hk : es[k]? = some y) (hy : encF x = encF y) (hu : u = .slice (some ⟨be, 0, none⟩) es.length ce) :
    Three B ((w.setCell ⟨be, k * 2, none⟩ (.int .i64 x.st)).setCell ⟨be, k * 2 + 1, none⟩ (.string x.err)) (es.set k x) g b n g2 b2 gr u v ∧
    Touch (fun j => B ≤ j) w ((w.setCell ⟨be, k * 2, none⟩ (.int .i64 x.st)).setCell ⟨be, k * 2 + 1, none⟩ (.string x.err)) := by
  have tu := h.r.re.ty be (by rw [hu]; rfl)
  have hlt := (List.getElem?_eq_some_iff.1 hk).1
  have hge1 := (h.r.re.lt be (by rw [hu]; rfl)).1
  have ht : Touch (fun j => j = be) w ((w.setCell ⟨be, k * 2, none⟩ (.int .i64 x.st)).setCell ⟨be, k * 2 + 1, none⟩ (.string x.err)) :=
    ((Touch.refl (fun j => j = be) w).setCell (p := ⟨be, k * 2, none⟩) (.inl rfl) _).setCell (p := ⟨be, k * 2 + 1, none⟩) (.inl rfl) _
  have nb : ∀ {j : Nat} {t : TypeId}, TyAt w j t → 41 ≠ t → ¬ j = be := by
    rintro j t hj h1 rfl
    exact TyAt.ne tu hj h1 rfl
  have nd : ∀ {j m : Nat} {f : Int → Option Value}, Dict Try.prog 81 keyP w j m f → ¬ j = be := by
    rintro j m f hj rfl
    exact hj.ty tu rfl
  refine ⟨⟨h.p.apart ht (nb h.p.blk.ty (by decide)) (nd h.p.dict), ?_, ⟨rfl, h.r.blk.touch ht (nb h.r.blk.ty (by decide)), ?_, ?_, h.r.ge⟩, h.ne, h.ge⟩, ht.mono (fun j e => by subst e; exact hge1)⟩
  · rw [List.length_set]
    exact h.q.apart ht (nb h.q.blk.ty (by decide)) (nd h.q.dict)
  · have r1 := h.r.re
    rw [hu] at r1 ⊢
    have r2 := (r1.store (k * 2) (.int .i64 x.st)).store (k * 2 + 1) (.string x.err)
    rw [enc_set (enc := encE) (fun _ => rfl) es k x rfl hlt] at r2
    rw [List.length_set]
    exact r2
  · rw [List.length_set, enc_still es k x y hk hy]
    exact h.r.rf.touch ht (fun j hj => nb (h.r.rf.ty j hj) (by decide))
end

set_option maxHeartbeats 1000000 in
theorem alive14 (w : World) : Calls Try.prog 6 #[] w fun e w' => e = .returned (.bool true) ∧ Kept w w' := by
  go_enter Try.func6, Try.ntmps6
  go_wp2_with fail
  refine (pool_New _ 2 (by decide)).mono ?_
  rintro e w1 ⟨g, b, rfl, hP, k1, hg, hb⟩
  have HP := Lib.hid hP
  have K1 := Lib.hid k1
  clear hP k1
  go_wp2_with fail
  refine (law14_num _ _).mono ?_
  rintro e w2 ⟨rfl, rfl⟩
  go_wp2_with fail
  have e1 : tellE (List.replicate 2 EntV.zero) 1 ⟨2, ⟨#[69]⟩, ⟨#[]⟩, 0⟩ = 0 := by simp [tellE, entAt, EntV.zero]
  have l1 : tellL (List.replicate 2 EntV.zero) 1 ⟨2, ⟨#[69]⟩, ⟨#[]⟩, 0⟩ = [⟨2, ⟨#[69]⟩, ⟨#[]⟩, 0⟩, EntV.zero] := by rw [tellL, if_pos e1]; rfl
  have e2 : tellE [⟨2, ⟨#[69]⟩, ⟨#[]⟩, 0⟩, EntV.zero] 1 ⟨1, ⟨#[]⟩, ⟨#[]⟩, 0⟩ = 24 := by simp [tellE, entAt]
  have l2 : tellL [⟨2, ⟨#[69]⟩, ⟨#[]⟩, 0⟩, EntV.zero] 1 ⟨1, ⟨#[]⟩, ⟨#[]⟩, 0⟩ = [⟨2, ⟨#[69]⟩, ⟨#[]⟩, 0⟩, EntV.zero] := by rw [tellL, if_neg (by rw [e2]; decide)]
  have E1 := Lib.hid e1
  have L1 := Lib.hid l1
  have E2 := Lib.hid e2
  have L2 := Lib.hid l2
  clear e1 l1 e2 l2
  refine (pool_Fail w1 _ g b 0 1 ⟨#[69]⟩ HP.out (by decide) (by decide) (by decide)).mono ?_
  rintro e w2 ⟨rfl, hp2, ht2⟩
  rw [L1.out] at hp2
  have HP2 := Lib.hid hp2
  have K2 := Lib.hid (Below.trans K1.out (ht2.below (fun j hj => by omega) K1.out.size))
  rw [E1.out]
  clear hp2 ht2
  go_wp2_with fail
  refine (pool_Solve w2 _ g b _ 1 ⟨#[]⟩ 0 HP2.out (by decide) (by decide) (by decide)).mono ?_
  rintro e w3 ⟨rfl, hp3, ht3⟩
  rw [L2.out] at hp3
  have HP3 := Lib.hid hp3
  have K3 := Lib.hid (Below.trans K2.out (ht3.below (fun j hj => by omega) K2.out.size))
  rw [E2.out]
  clear hp3 ht3
  go_wp2_with fail
  refine (law14_num _ _).mono ?_
  rintro e w4 ⟨rfl, rfl⟩
  go_wp2_with fail
  refine (law14_num _ _).mono ?_
  rintro e w4 ⟨rfl, rfl⟩
  go_wp2_with fail
  refine (pool_State w3 _ _ g b _ 1 HP3.out (by decide) (by decide)).mono ?_
  rintro e w4 ⟨rfl, k4⟩
  have K4 := Lib.hid (Below.trans K3.out (k4.mono K3.out.size))
  have HP4 := Lib.hid (HP3.out.kept k4)
  clear k4
  have ha : entAt [⟨2, ⟨#[69]⟩, ⟨#[]⟩, 0⟩, EntV.zero] 1 = ⟨2, ⟨#[69]⟩, ⟨#[]⟩, 0⟩ := rfl
  rw [ha]
  clear ha
  go_wp2_with fail
  refine (pool_Len w4 _ _ g b _ HP4.out).mono ?_
  rintro e w5 ⟨rfl, rfl⟩
  go_wp2_with fail
  go_ret
  exact ⟨rfl, K4.out⟩
end Go.Proofs.Ytjdldgpkcfigiaa
