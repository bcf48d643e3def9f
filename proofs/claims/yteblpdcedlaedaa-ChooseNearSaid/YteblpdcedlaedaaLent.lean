/-
  turnstilelaw9.Lent: types in memory of their own, with one more behind each list.
-/
import Derived.Test.YteblpdcedlaedaaKin2
import Derived.Test.YteblpdcedlaedaaBig
import Derived.Deep.RegionHeld2
import Derived.Deep.CutBlock
import Derived.Deep.RegionLaw
import Derived.Deep.AppendLies
import Derived.BigRegion
namespace Go.Proofs.Yteblpdcedlaedaa
open Go.RowKit
set_option maxRecDepth 100000

theorem step_append {P : Program} {w : World} {t e : TypeId} {z : Value} {size bytes : Nat} (E : ElemTy P t e z size bytes) {ops : Array Oper} {o : Oper} {a : Act} {K : Act → World → Prop} {F : Prop} (hgd : o.guard = none) (s x : Operand)
    (ho : o.op = .call { callee := .builtin .append, args := #[s, x], argTypes := #[t, t] })
    (base : Nat) (v : Value) (n : Nat) (xs : List Value) (hs : a.eval s = v) (hown : w.ownsRow base e size v n xs)
    (vx : Value) (m : Nat) (news : List Value) (hx : a.eval x = vx) (hr : Rd w size vx m news) (h1 : ∀ u ∈ news, u.oneCell' = true)
    (hbytes : (n + m) * bytes ≤ 140737488355328) (hsmall : n + m ≤ 9223372036854775807) (hbase : base ≤ w.heap.size) {Q : Exit → Act → World → Prop}
    (h : ∀ v' w', w'.ownsRow base e size v' (n + m) (xs ++ news) → w.grownBy w' v.ownBlock → (v'.ownBlock = v.ownBlock ∨ v'.ownBlock = some w.heap.size) → K (a.put o.dst v') w') :
    if Region.wanted o (yielded ops a.tmps) = true then Oper.wp P o a w K Q else F := by
  have hw : Region.wanted o (yielded ops a.tmps) = true := by simp [Region.wanted, hgd]
  rw [if_pos hw]
  obtain ⟨i, hi, hz0, hz1, hz2⟩ := info_parts E.hi
  rcases hr.parts with ⟨rfl, rfl, ad, c, rfl, _⟩ | ⟨b, off, c, rfl, h0, _, _, hc⟩
  · cases ad with
    | none =>
      have hrun := run_append_nothing (P := P) w base t o.type e i size E.ht hi v n xs hown c
      unfold Oper.wp
      simp only [execOp, ho, resolve, invoke, builtin, Sem.run_bind, Sem.run_pure, Result.andThen_ok, List.map_toArray, List.map_cons, List.map_nil, hs, hx, hrun]
      exact h v w (by simpa using hown) (World.grownBy.refl w _) (.inl rfl)
    | some ad =>
      obtain ⟨v', w', hr, h2, h3, -, h5⟩ := run_append_own_at (P := P) w base t o.type e i z size bytes E.ht hi hz0 hz1 hz2 E.hz E.hs v n xs hown ad 0 c [] (by simp) (by simp) (by simp) (by simpa [maxLen] using hsmall) hbytes hbase
      unfold Oper.wp execOp
      simp only [ho, resolve, invoke, builtin, Sem.run_bind, Sem.run_pure, Result.andThen_ok, List.map_toArray, List.map_cons, List.map_nil, hs, hx, hr]
      exact h v' w' h2 h3 h5
  · obtain ⟨v', w', hr, h2, h3, -, h5⟩ := run_append_own_at (P := P) w base t o.type e i z size bytes E.ht hi hz0 hz1 hz2 E.hz E.hs v n xs hown ⟨b, off, none⟩ m c news hr.1 (by
      intro j u hu
      have := hc j u hu
      unfold Addr.add
      split
      · rename_i hj; subst hj; simpa using this
      · exact this) h1 (by simpa [maxLen] using hsmall) hbytes hbase
    unfold Oper.wp execOp
    simp only [ho, resolve, invoke, builtin, Sem.run_bind, Sem.run_pure, Result.andThen_ok, List.map_toArray, List.map_cons, List.map_nil, hs, hx, hr]
    exact h v' w' h2 h3 h5

theorem elem_mem : ElemTy Try.prog 34 38 (.agg #[.int .i64 0, .string ⟨#[]⟩, .string ⟨#[]⟩, .bool false, .int .i64 0]) 5 56 := ⟨Try.underlying34, by kernel_rfl, rfl, by decide⟩
theorem elem_typ : ElemTy Try.prog 22 36 (.agg #[.string ⟨#[]⟩, .string ⟨#[]⟩, .int .i64 0, .slice none 0 0, .slice none 0 0, .slice none 0 0]) 6 112 := ⟨Try.underlying22, by kernel_rfl, rfl, by decide⟩
def m71 : ByteArray := ⟨#[45, 55, 49]⟩
def m74 : ByteArray := ⟨#[45, 55, 52]⟩
def memZ (n : Int) : MemberV := ⟨n, ⟨#[]⟩, ⟨#[]⟩, false, 0⟩

/-- A type's lists each lie in a row of their own, with one more behind. -/
structure LentT (w : World) (B : Nat) (y : TypeV) : Prop where
  i : ∃ g c, y.interfacesV = .slice (some ⟨g, 0, none⟩) y.interfaces.length c ∧ Row w B 9 1 (.slice (some ⟨g, 0, none⟩) (y.interfaces.length + 1) c) (y.interfaces.length + 1) ((y.interfaces ++ [m71]).flatMap encS)
  f : ∃ g c, y.fieldsV = .slice (some ⟨g, 0, none⟩) y.fields.length c ∧ Row w B 38 5 (.slice (some ⟨g, 0, none⟩) (y.fields.length + 1) c) (y.fields.length + 1) ((y.fields ++ [memZ (-72)]).flatMap encMemberV)
  m : ∃ g c, y.methodsV = .slice (some ⟨g, 0, none⟩) y.methods.length c ∧ Row w B 38 5 (.slice (some ⟨g, 0, none⟩) (y.methods.length + 1) c) (y.methods.length + 1) ((y.methods ++ [memZ (-73)]).flatMap encMemberV)
theorem lent_k {e : Nat} {W w4 w5 : World} {o : Obj} {v : Value} {sz n : Nat} {xs : List Value} (h : Kept W.drew w4) (hg : (w4.alloc o).grownBy w5 v.ownBlock) (ho : w4.ownsRow W.drew.heap.size e sz v n xs) : Kept W w5 := by
  have t5 : Touch (fun k => v.ownBlock = some k) w4 w5 := ((Touch.refl (fun k => v.ownBlock = some k) w4).alloc o).trans (Touch.of_grown hg (fun k hk => hk)) fun b => .inl
  have h1 : Kept W w4 := ⟨h.os, h.tape, h.output, h.size, fun k hk => Below.block h k hk⟩
  exact Below.trans h1 (t5.below (fun b hb => (ho.lt b hb).1) h1.size)

theorem lent_k2 {e : Nat} {W w6 w5 : World} {o : Obj} {v : Value} {sz n : Nat} {xs : List Value} (h : Kept (W.drew.alloc o) w6) (hg : w6.grownBy w5 v.ownBlock) (ho : w6.ownsRow W.drew.heap.size e sz v n xs) : Kept W w5 := by
  have h1 : Kept W w6 := Below.trans (((Below.refl W.heap.size W).drew).alloc (Nat.le_refl _) o) (h.mono (by simp))
  exact Below.trans h1 ((Touch.of_grown (S := fun k => v.ownBlock = some k) hg (fun k hk => hk)).below (fun b hb => (ho.lt b hb).1) h1.size)
theorem lent_close {e sz n t i T : Nat} {W w5 : World} {v u : Value} {xs : List Value} {cs : Array Value} (hb : Blk W t T cs) (k : Kept W w5) (ho : w5.ownsRow W.drew.heap.size e sz v n xs) :
    Blk (w5.setCell ⟨t, i, none⟩ u) t T (cs.setIfInBounds i u) ∧ Row (w5.setCell ⟨t, i, none⟩ u) (t + 1) e sz v n xs ∧ Touch (fun b => b = t) W (w5.setCell ⟨t, i, none⟩ u) := by
  have hr := Row.of_own ho
  have hlt := hb.lt
  have hr1 : Row w5 (t + 1) e sz v n xs := hr.base hlt
  refine ⟨(hb.kept k).set_ i u, hr1.touch (((Touch.refl (fun b => b = t) w5)).setCell (p := ⟨t, i, none⟩) (.inl rfl) u) (fun b hb' e => ?_), (Touch.of_kept (S := fun b => b = t) k).setCell (p := ⟨t, i, none⟩) (.inl rfl) u⟩
  have := (hr1.lt b hb').1
  omega
theorem kept_touch {t : Nat} {wr W W' : World} (h : Kept wr W) (ht : wr.heap.size ≤ t) (k : Touch (fun b => b = t) W W') : Kept wr W' :=
  Below.trans h (k.below (fun b hb => by omega) h.size)
theorem encV_one (y : MemberV) : ∀ u ∈ encMemberV y, u.oneCell' = true := by
  intro u hu
  simp [encMemberV] at hu
  rcases hu with rfl | rfl | rfl | rfl | rfl <;> rfl
theorem mems_one (l : List MemberV) : ∀ u ∈ l.flatMap encMemberV, u.oneCell' = true := by
  intro u hu
  obtain ⟨y, _, hy⟩ := List.mem_flatMap.1 hu
  exact encV_one y u hy
theorem strs_one_ (l : List ByteArray) : ∀ u ∈ l.flatMap encS, u.oneCell' = true := by
  intro u hu
  obtain ⟨y, _, hy⟩ := List.mem_flatMap.1 hu
  obtain rfl : u = Value.string y := by simpa [encS] using hy
  rfl

theorem Row.pre {w : World} {B e sz n g c : Nat} {xs ys : List Value} (h : Row w B e sz (.slice (some ⟨g, 0, none⟩) (n + 1) c) (n + 1) (xs ++ ys)) (hx : xs.length = n * sz) (hn : n + 1 ≤ c) (hc : c ≤ 9223372036854775807) : Rd w sz (.slice (some ⟨g, 0, none⟩) n c) n xs :=
  Rd.mk_ hx (by omega) hc fun j u hu => by
    rw [Nat.zero_add]
    refine h.cells.1 j u ?_
    rw [List.getElem?_append_left (List.getElem?_eq_some_iff.1 hu).1]
    exact hu
theorem Row.bounds {w : World} {B e sz n c : Nat} {a : Option Addr} {xs : List Value} (h : Row w B e sz (.slice a n c) n xs) : n ≤ c ∧ c ≤ 9223372036854775807 := by
  obtain ⟨_, _, hv, h1, h2⟩ := h.form
  simp only [Value.slice.injEq] at hv
  obtain ⟨-, -, rfl⟩ := hv
  exact ⟨h1, h2⟩
theorem LentT.ok {w W : World} {B : Nat} {y y' : TypeV} (h : LentT W B y') (hd : y'.d = y.d) (ho : y.Ok w) : y'.Ok W := by
  obtain ⟨nm, sp, acc, iv, is, fv, fs, mv, ms⟩ := y
  obtain ⟨nm', sp', acc', iv', is', fv', fs', mv', ms'⟩ := y'
  simp only [TypeV.d, TD.mk.injEq] at hd
  obtain ⟨rfl, rfl, rfl, rfl, rfl, rfl⟩ := hd
  obtain ⟨⟨g3, c3, v3, r3⟩, ⟨g4, c4, v4, r4⟩, ⟨g5, c5, v5, r5⟩⟩ := h
  dsimp only at v3 v4 v5 r3 r4 r5
  subst v3 v4 v5
  rw [List.flatMap_append] at r3 r4 r5
  refine ⟨ho.name_, ho.super_, ho.access_, r3.pre (strs_len _) r3.bounds.1 r3.bounds.2, ho.interfaces_all, ho.interfaces_len, r4.pre (flat_length encMemberV 5 (fun _ => rfl) _) r4.bounds.1 r4.bounds.2, fun z hz => ⟨(ho.fields_all z hz).access_, (ho.fields_all z hz).name_, (ho.fields_all z hz).desc_, (ho.fields_all z hz).value_⟩, ho.fields_len,
    r5.pre (flat_length encMemberV 5 (fun _ => rfl) _) r5.bounds.1 r5.bounds.2, fun z hz => ⟨(ho.methods_all z hz).access_, (ho.methods_all z hz).name_, (ho.methods_all z hz).desc_, (ho.methods_all z hz).value_⟩, ho.methods_len⟩
/-- What lies outside the row of types stays: the lists' rows are of other element types. -/
theorem LentT.touch {w W : World} {B : Nat} {y : TypeV} {S : Nat → Prop} (h : LentT w B y) (ht : Touch S w W) (hs : ∀ k, S k → k < w.heap.size → TyAt w k 36) : LentT W B y := by
  obtain ⟨⟨g3, c3, v3, r3⟩, ⟨g4, c4, v4, r4⟩, ⟨g5, c5, v5, r5⟩⟩ := h
  refine ⟨⟨g3, c3, v3, r3.touch ht fun k hk hS => ?_⟩, ⟨g4, c4, v4, r4.touch ht fun k hk hS => ?_⟩, ⟨g5, c5, v5, r5.touch ht fun k hk hS => ?_⟩⟩
  · exact TyAt.ne (r3.ty k hk) (hs k hS (r3.lt k hk).2) (by decide) rfl
  · exact TyAt.ne (r4.ty k hk) (hs k hS (r4.lt k hk).2) (by decide) rfl
  · exact TyAt.ne (r5.ty k hk) (hs k hS (r5.lt k hk).2) (by decide) rfl
theorem LentT.kept {w W : World} {B : Nat} {y : TypeV} (h : LentT w B y) (hk : Kept w W) : LentT W B y := h.touch (S := fun _ => False) (Touch.of_kept hk) fun _ h => h.elim

/-- Types that Lent has made, so far. -/
structure LentS (w : World) (L L' : List TypeV) (k : Nat) (v : Value) (W : World) : Prop where
  d : L'.map TypeV.d = (L.take k).map TypeV.d
  own : W.ownsRow w.heap.size 36 6 v L'.length (L'.flatMap encTypeV)
  lent : ∀ y ∈ L', LentT W w.heap.size y
  kept : Kept w W
def z74 : List Value := [.string m74, .string ⟨#[]⟩, .int .i64 0, .slice none 0 0, .slice none 0 0, .slice none 0 0]
/-- Types lent. -/
structure LentF (B : Nat) (L L' : List TypeV) (N g c : Nat) (W : World) : Prop where
  d : L'.map TypeV.d = L.map TypeV.d
  len : L.length = N
  row : Row W B 36 6 (.slice (some ⟨g, 0, none⟩) (N + 1) c) (N + 1) (L'.flatMap encTypeV ++ z74)
  lent : ∀ y ∈ L', LentT W B y
theorem LentF.kept {B : Nat} {L L' : List TypeV} {N g c : Nat} {w W : World} (h : LentF B L L' N g c w) (hk : Kept w W) : LentF B L L' N g c W := ⟨h.d, h.len, h.row.kept hk, fun y hy => (h.lent y hy).kept hk⟩
theorem LentF.tyR {B : Nat} {L L' : List TypeV} {N g c : Nat} {w W : World} (h : LentF B L L' N g c W) (hok : ∀ y ∈ L, TypeV.Ok w y) (hl : N ≤ 100) : TyR W (.slice (some ⟨g, 0, none⟩) N c) (L.map TypeV.d) := by
  have hll : L'.length = N := by
    have := congrArg List.length h.d
    simp only [List.length_map] at this
    rw [this, h.len]
  refine ⟨L', h.d, ?_, fun y hy => ?_, by omega⟩
  · rw [hll]
    exact h.row.pre (by rw [flat_length encTypeV 6 (fun _ => rfl), hll]) h.row.bounds.1 h.row.bounds.2
  · have : y.d ∈ L.map TypeV.d := by rw [← h.d]; exact List.mem_map_of_mem hy
    obtain ⟨y0, hy0, e0⟩ := List.mem_map.1 this
    exact (h.lent y hy).ok e0.symm (hok y0 hy0)

set_option maxHeartbeats 8000000 in
theorem law9_Lent (L : List TypeV) (v : Value) (w : World) (hr : Rd w 6 v L.length (L.flatMap encTypeV)) (hok : ∀ y ∈ L, TypeV.Ok w y) (hlen : L.length ≤ 60) (hct : ∀ y ∈ L, y.count ≤ 3000) :
    Calls Try.prog 10 #[v] w fun e w' => ∃ L' g c, e = .returned (.slice (some ⟨g, 0, none⟩) L.length c) ∧ LentF w.heap.size L L' L.length g c w' ∧ Kept w w' := by
  obtain ⟨N, hN⟩ : ∃ N, N = L.length := ⟨_, rfl⟩
  rw [← hN] at hr hlen ⊢
  have HR := Lib.hid hr
  have HOK := Lib.hid hok
  have HN := Lib.hid hN
  have HCT := Lib.hid hct
  obtain ⟨_, va, vc, rfl, hv1, hv2, _⟩ := hr
  clear hok hN hct
  go_enter Try.func10, Try.ntmps10
  go_wp2_with fail
  go_loopw [3, 4] (fun s3 s4 wr => ∃ (k : Nat) (L' : List TypeV), k ≤ N ∧ s4 = .int .i64 k ∧ LentS w L L' k s3 wr) (fun _ s4 _ => N - (intOf s4).toNat)
  case atStart => exact ⟨0, [], by omega, rfl, ⟨rfl, World.ownsRow_nil _ _ _ _, by simp, Below.refl _ _⟩⟩
  case round =>
    obtain ⟨k, L', hk, rfl, hS⟩ := hrel
    have HS := Lib.hid hS
    have KR := Lib.hid hS.kept
    have zr := hS.kept.size
    obtain ⟨ao, co, rfl, hco, hco2⟩ := own_slice hS.own
    have hll : L'.length = k := by
      have := congrArg List.length hS.d
      simp only [List.length_map, List.length_take] at this
      have := HN.out
      omega
    have HLL := Lib.hid hll
    clear hS hll
    by_cases hlt : k < N
    · obtain ⟨y, hy⟩ : ∃ y, L[k]? = some y := ⟨_, List.getElem?_eq_getElem (by have := HN.out; omega)⟩
      have hrR := HR.out.kept KR.out
      rw [HN.out] at hrR
      obtain ⟨b, off, c, hv, hc, z0, z1, z2, z3, z4, z5⟩ := type_cells hrR hy
      simp only [Value.slice.injEq] at hv
      obtain ⟨rfl, -, rfl⟩ := hv
      have hyo := HOK.out y (List.mem_of_getElem? hy)
      have hyc := HCT.out y (List.mem_of_getElem? hy)
      have HY := Lib.hid hy
      unfold TypeV.count at hyc
      have hkN : (k : Int) < (N : Int) := by omega
      obtain ⟨nm, sp, acc, iv, is, fv, fs, mv, ms⟩ := y
      have hri := hyo.interfaces_
      have hrf := hyo.fields_
      have hrm := hyo.methods_
      dsimp only at hri hrf hrm hyc z0 z1 z2 z3 z4 z5
      obtain ⟨n3, hn3⟩ : ∃ n, n = is.length := ⟨_, rfl⟩
      obtain ⟨n4, hn4⟩ : ∃ n, n = fs.length := ⟨_, rfl⟩
      obtain ⟨n5, hn5⟩ : ∃ n, n = ms.length := ⟨_, rfl⟩
      rw [← hn3] at hri hyc
      rw [← hn4] at hrf hyc
      rw [← hn5] at hrm hyc
      obtain ⟨_, a3, c3, rfl, hc3, hd3, _⟩ := hri
      obtain ⟨_, a4, c4, rfl, hc4, hd4, _⟩ := hrf
      obtain ⟨_, a5, c5, rfl, hc5, hd5, _⟩ := hrm
      have N3 := Lib.hid hn3
      have N4 := Lib.hid hn4
      have N5 := Lib.hid hn5
      clear hn3 hn4 hn5
      go_upto_region 6 with fail
      have kA : Kept wr (wr.alloc (.cells #[.string nm, .string sp, .int .i64 acc, (.slice a3 n3 c3), (.slice a4 n4 c4), (.slice a5 n5 c5)] 36)) := (Below.refl _ _).alloc (Nat.le_refl _) _
      have bA : Blk (wr.alloc (.cells #[.string nm, .string sp, .int .i64 acc, (.slice a3 n3 c3), (.slice a4 n4 c4), (.slice a5 n5 c5)] 36)) wr.heap.size 36 #[.string nm, .string sp, .int .i64 acc, (.slice a3 n3 c3), (.slice a4 n4 c4), (.slice a5 n5 c5)] := Blk.new _ _ _
      generalize (wr.alloc (.cells #[.string nm, .string sp, .int .i64 acc, (.slice a3 n3 c3), (.slice a4 n4 c4), (.slice a5 n5 c5)] 36)) = W6 at *
      have okA := Ok.keep_ hyo KR.out
      have BT6 := Lib.hid bA
      have KA6 := Lib.hid kA
      have OKA := Lib.hid okA
      have RW3 : Hid (Rd wr 1 (.slice a3 n3 c3) n3 (is.flatMap encS)) := Lib.hid (by have := okA.interfaces_; dsimp only at this; rw [N3.out]; rw [N3.out] at this; exact this)
      have RW4 : Hid (Rd wr 5 (.slice a4 n4 c4) n4 (fs.flatMap encMemberV)) := Lib.hid (by have := okA.fields_; dsimp only at this; rw [N4.out]; rw [N4.out] at this; exact this)
      have RW5 : Hid (Rd wr 5 (.slice a5 n5 c5) n5 (ms.flatMap encMemberV)) := Lib.hid (by have := okA.methods_; dsimp only at this; rw [N5.out]; rw [N5.out] at this; exact this)
      have OC3 := Lib.hid (strs_one_ is)
      have OC4 := Lib.hid (mems_one fs)
      have OC5 := Lib.hid (mems_one ms)
      clear hrR hy kA bA okA z0 z1 z2 z3 z4 z5
      obtain ⟨t, ht⟩ : ∃ t, t = wr.heap.size := ⟨_, rfl⟩
      rw [← ht] at BT6 ⊢
      have HTQ := Lib.hid ht
      clear ht
      go_upto_region 6 with fail
      have RD3 := Lib.hid (RW3.out.kept KA6.out)
      go_cut [] from 16 to 25 (fun wx => ∃ g c, Blk wx t 36 #[.string nm, .string sp, .int .i64 acc, (.slice (some ⟨g, 0, none⟩) n3 c), (.slice a4 n4 c4), (.slice a5 n5 c5)] ∧ Row wx (t + 1) 9 1 (.slice (some ⟨g, 0, none⟩) (n3 + 1) c) (n3 + 1) ((is ++ [m71]).flatMap encS) ∧ Touch (fun b => b = t) W6 wx ∧ n3 + 1 ≤ c ∧ c ≤ 9223372036854775807)
      case first =>
        have cf6 := BT6.out.cell 3
        simp only [List.getElem?_toArray, List.getElem?_cons_succ, List.getElem?_cons_zero] at cf6
        have fz6 := BT6.out.frozen 3
        have sW6 : t < W6.heap.size := BT6.out.lt
        have hI6 : (n3 : Int) ≤ (c3 : Int) := by omega
        have h06 : (0 : Int) ≤ (n3 : Int) := by omega
        have cx6 := Kept.cell (show Kept W6 (W6.drew.alloc (Obj.cells #[Value.string ⟨#[45, 55, 49]⟩] 9)) from ((Below.refl _ _).drew).alloc (Nat.le_refl _) _) cf6
        go_region_law
          (first
          | (refine step_append (P := Try.prog) elem_str rfl (.const (.slice none 0 0)) (.tmp 17) rfl W6.drew.heap.size _ 0 [] rfl (World.ownsRow_nil _ _ _ _) (.slice a3 n3 c3) n3 (is.flatMap encS) ?_ (show Rd W6.drew 1 _ n3 _ from RD3.out) (OC3.out) (by omega) (by omega) (Nat.le_refl _) ?_; rfl; intro v4 w4 ho4 hg4 hq4; rw [Nat.zero_add, List.nil_append] at ho4; obtain ⟨e4, d4, hv4, _, _⟩ := own_slice ho4; subst hv4; have HO4 := Lib.hid ho4; have K4 := Lib.hid (show Kept W6.drew w4 from (Below.refl _ _).grown hg4 (Nat.le_refl _) (fun k hk => by cases hk)); have ce4 := Kept.cell K4.out cf6; have ca4 := Kept.cell ((Below.refl _ w4).alloc (Nat.le_refl _) (Obj.cells #[Value.string ⟨#[45, 55, 49]⟩] 9)) ce4; clear ho4 hg4 hq4)
          | (refine step_append (P := Try.prog) elem_str rfl (.tmp 18) (.tmp 19) rfl W6.drew.heap.size (.slice e4 n3 d4) n3 (is.flatMap encS) ?_ (HO4.out.alloc _) (.slice (some ⟨w4.heap.size, 0, none⟩) 1 1) 1 ([Value.string ⟨#[45, 55, 49]⟩]) ?_ (Rd.one w4 ([Value.string ⟨#[45, 55, 49]⟩]) 9 rfl) (by intro u hu; simp at hu; rcases hu with rfl <;> rfl) (by omega) (by omega) (by rw [World.size_alloc]; exact Nat.le_succ_of_le K4.out.size) ?_; rfl; rfl; intro v5 w5 ho5 hg5 hq5; obtain ⟨g5, e5, hv5, hcc5, hcd5, _, _, _, _⟩ := own_form ho5 (by omega); subst hv5; have HO5 := Lib.hid ho5; have K5 := Lib.hid (show Kept W6 w5 from lent_k K4.out hg5 HO4.out); have ce5 := Kept.cell K5.out cf6; have fe5 := (BT6.out.kept K5.out).frozen 3; have hs5 : (n3 : Int) ≤ (e5 : Int) := (by omega); clear ho5 hg5 hq5)
          | (refine step_append (P := Try.prog) elem_str rfl (.const (.slice none 0 0)) (.tmp 17) rfl W6.drew.heap.size _ 0 [] rfl (World.ownsRow_nil _ _ _ _) (.slice a3 n3 c3) n3 (is.flatMap encS) ?_ (show Rd (W6.drew.alloc (.cells ([Value.string ⟨#[45, 55, 49]⟩]).toArray 9)) 1 _ n3 _ from (show Rd W6.drew 1 _ n3 _ from RD3.out).kept ((Below.refl _ _).alloc (Nat.le_refl _) _)) (OC3.out) (by omega) (by omega) (by rw [World.size_alloc]; exact Nat.le_succ _) ?_; rfl; intro v6 w6 ho6 hg6 hq6; rw [Nat.zero_add, List.nil_append] at ho6; obtain ⟨e6, d6, hv6, _, _⟩ := own_slice ho6; subst hv6; have HO6 := Lib.hid ho6; have K6 := Lib.hid (show Kept (W6.drew.alloc (.cells ([Value.string ⟨#[45, 55, 49]⟩]).toArray 9)) w6 from (Below.refl _ _).grown hg6 (Nat.le_refl _) (fun k hk => by cases hk)); have RT := Lib.hid ((Rd.one W6.drew ([Value.string ⟨#[45, 55, 49]⟩]) 9 rfl).kept K6.out); have ce6 := Kept.cell K6.out (Kept.cell (show Kept W6 (W6.drew.alloc (.cells ([Value.string ⟨#[45, 55, 49]⟩]).toArray 9)) from ((Below.refl _ _).drew).alloc (Nat.le_refl _) _) cf6); clear ho6 hg6 hq6)
          | (refine step_append (P := Try.prog) elem_str rfl (.tmp 18) (.tmp 19) rfl W6.drew.heap.size (.slice e6 n3 d6) n3 (is.flatMap encS) ?_ HO6.out (.slice (some ⟨W6.drew.heap.size, 0, none⟩) 1 1) 1 ([Value.string ⟨#[45, 55, 49]⟩]) ?_ RT.out (by intro u hu; simp at hu; rcases hu with rfl <;> rfl) (by omega) (by omega) (Nat.le_trans (by rw [World.size_alloc]; exact Nat.le_succ _) K6.out.size) ?_; rfl; rfl; intro v5 w5 ho5 hg5 hq5; obtain ⟨g5, e5, hv5, hcc5, hcd5, _, _, _, _⟩ := own_form ho5 (by omega); subst hv5; have HO5 := Lib.hid ho5; have K5 := Lib.hid (show Kept W6 w5 from lent_k2 K6.out hg5 HO6.out); have ce5 := Kept.cell K5.out cf6; have fe5 := (BT6.out.kept K5.out).frozen 3; have hs5 : (n3 : Int) ≤ (e5 : Int) := (by omega); clear ho5 hg5 hq5))
        all_goals go_wp2_with fail
        all_goals go_meet
        all_goals have HC := lent_close (i := 3) (u := .slice (some ⟨g5, 0, none⟩) n3 e5) BT6.out K5.out HO5.out
        all_goals exact ⟨g5, e5, by simpa using HC.1, by simpa [encS, encMemberV, memZ, m71] using HC.2.1, HC.2.2, by omega, hcd5⟩
      case rest =>
        obtain ⟨g3, d3, bb6, rr6, tt6, le6, lf6⟩ := hcut
        have BT7 := Lib.hid bb6
        have RO3 := Lib.hid rr6
        have TC6 := Lib.hid tt6
        have KA7 := Lib.hid (kept_touch KA6.out (Nat.le_of_eq HTQ.out.symm) tt6)
        clear bb6 rr6 tt6
        rename World => W7
        go_upto_region 7 with fail
        have RD4 := Lib.hid (RW4.out.kept KA7.out)
        go_cut [] from 26 to 36 (fun wx => ∃ g c, Blk wx t 36 #[.string nm, .string sp, .int .i64 acc, (.slice (some ⟨g3, 0, none⟩) n3 d3), (.slice (some ⟨g, 0, none⟩) n4 c), (.slice a5 n5 c5)] ∧ Row wx (t + 1) 38 5 (.slice (some ⟨g, 0, none⟩) (n4 + 1) c) (n4 + 1) ((fs ++ [memZ (-72)]).flatMap encMemberV) ∧ Touch (fun b => b = t) W7 wx ∧ n4 + 1 ≤ c ∧ c ≤ 9223372036854775807)
        case first =>
          have cf7 := BT7.out.cell 4
          simp only [List.getElem?_toArray, List.getElem?_cons_succ, List.getElem?_cons_zero] at cf7
          have fz7 := BT7.out.frozen 4
          have sW7 : t < W7.heap.size := BT7.out.lt
          have hI7 : (n4 : Int) ≤ (c4 : Int) := by omega
          have h07 : (0 : Int) ≤ (n4 : Int) := by omega
          have cx7 := Kept.cell (show Kept W7 (W7.drew.alloc (Obj.cells #[Value.int .i64 (-72), Value.string ⟨#[]⟩, Value.string ⟨#[]⟩, Value.bool false, Value.int .i64 0] 38)) from ((Below.refl _ _).drew).alloc (Nat.le_refl _) _) cf7
          go_region_law
            (first
            | (refine step_append (P := Try.prog) elem_mem rfl (.const (.slice none 0 0)) (.tmp 27) rfl W7.drew.heap.size _ 0 [] rfl (World.ownsRow_nil _ _ _ _) (.slice a4 n4 c4) n4 (fs.flatMap encMemberV) ?_ (show Rd W7.drew 5 _ n4 _ from RD4.out) (OC4.out) (by omega) (by omega) (Nat.le_refl _) ?_; rfl; intro v4 w4 ho4 hg4 hq4; rw [Nat.zero_add, List.nil_append] at ho4; obtain ⟨e4, d4, hv4, _, _⟩ := own_slice ho4; subst hv4; have HO4 := Lib.hid ho4; have K4 := Lib.hid (show Kept W7.drew w4 from (Below.refl _ _).grown hg4 (Nat.le_refl _) (fun k hk => by cases hk)); have ce4 := Kept.cell K4.out cf7; have ca4 := Kept.cell ((Below.refl _ w4).alloc (Nat.le_refl _) (Obj.cells #[Value.int .i64 (-72), Value.string ⟨#[]⟩, Value.string ⟨#[]⟩, Value.bool false, Value.int .i64 0] 38)) ce4; clear ho4 hg4 hq4)
            | (refine step_append (P := Try.prog) elem_mem rfl (.tmp 28) (.tmp 30) rfl W7.drew.heap.size (.slice e4 n4 d4) n4 (fs.flatMap encMemberV) ?_ (HO4.out.alloc _) (.slice (some ⟨w4.heap.size, 0, none⟩) 1 1) 1 ([Value.int .i64 (-72), Value.string ⟨#[]⟩, Value.string ⟨#[]⟩, Value.bool false, Value.int .i64 0]) ?_ (Rd.one w4 ([Value.int .i64 (-72), Value.string ⟨#[]⟩, Value.string ⟨#[]⟩, Value.bool false, Value.int .i64 0]) 38 rfl) (by intro u hu; simp at hu; rcases hu with rfl | rfl | rfl | rfl | rfl <;> rfl) (by omega) (by omega) (by rw [World.size_alloc]; exact Nat.le_succ_of_le K4.out.size) ?_; rfl; rfl; intro v5 w5 ho5 hg5 hq5; obtain ⟨g5, e5, hv5, hcc5, hcd5, _, _, _, _⟩ := own_form ho5 (by omega); subst hv5; have HO5 := Lib.hid ho5; have K5 := Lib.hid (show Kept W7 w5 from lent_k K4.out hg5 HO4.out); have ce5 := Kept.cell K5.out cf7; have fe5 := (BT7.out.kept K5.out).frozen 4; have hs5 : (n4 : Int) ≤ (e5 : Int) := (by omega); clear ho5 hg5 hq5)
            | (refine step_append (P := Try.prog) elem_mem rfl (.const (.slice none 0 0)) (.tmp 27) rfl W7.drew.heap.size _ 0 [] rfl (World.ownsRow_nil _ _ _ _) (.slice a4 n4 c4) n4 (fs.flatMap encMemberV) ?_ (show Rd (W7.drew.alloc (.cells ([Value.int .i64 (-72), Value.string ⟨#[]⟩, Value.string ⟨#[]⟩, Value.bool false, Value.int .i64 0]).toArray 38)) 5 _ n4 _ from (show Rd W7.drew 5 _ n4 _ from RD4.out).kept ((Below.refl _ _).alloc (Nat.le_refl _) _)) (OC4.out) (by omega) (by omega) (by rw [World.size_alloc]; exact Nat.le_succ _) ?_; rfl; intro v6 w6 ho6 hg6 hq6; rw [Nat.zero_add, List.nil_append] at ho6; obtain ⟨e6, d6, hv6, _, _⟩ := own_slice ho6; subst hv6; have HO6 := Lib.hid ho6; have K6 := Lib.hid (show Kept (W7.drew.alloc (.cells ([Value.int .i64 (-72), Value.string ⟨#[]⟩, Value.string ⟨#[]⟩, Value.bool false, Value.int .i64 0]).toArray 38)) w6 from (Below.refl _ _).grown hg6 (Nat.le_refl _) (fun k hk => by cases hk)); have RT := Lib.hid ((Rd.one W7.drew ([Value.int .i64 (-72), Value.string ⟨#[]⟩, Value.string ⟨#[]⟩, Value.bool false, Value.int .i64 0]) 38 rfl).kept K6.out); have ce6 := Kept.cell K6.out (Kept.cell (show Kept W7 (W7.drew.alloc (.cells ([Value.int .i64 (-72), Value.string ⟨#[]⟩, Value.string ⟨#[]⟩, Value.bool false, Value.int .i64 0]).toArray 38)) from ((Below.refl _ _).drew).alloc (Nat.le_refl _) _) cf7); clear ho6 hg6 hq6)
            | (refine step_append (P := Try.prog) elem_mem rfl (.tmp 28) (.tmp 30) rfl W7.drew.heap.size (.slice e6 n4 d6) n4 (fs.flatMap encMemberV) ?_ HO6.out (.slice (some ⟨W7.drew.heap.size, 0, none⟩) 1 1) 1 ([Value.int .i64 (-72), Value.string ⟨#[]⟩, Value.string ⟨#[]⟩, Value.bool false, Value.int .i64 0]) ?_ RT.out (by intro u hu; simp at hu; rcases hu with rfl | rfl | rfl | rfl | rfl <;> rfl) (by omega) (by omega) (Nat.le_trans (by rw [World.size_alloc]; exact Nat.le_succ _) K6.out.size) ?_; rfl; rfl; intro v5 w5 ho5 hg5 hq5; obtain ⟨g5, e5, hv5, hcc5, hcd5, _, _, _, _⟩ := own_form ho5 (by omega); subst hv5; have HO5 := Lib.hid ho5; have K5 := Lib.hid (show Kept W7 w5 from lent_k2 K6.out hg5 HO6.out); have ce5 := Kept.cell K5.out cf7; have fe5 := (BT7.out.kept K5.out).frozen 4; have hs5 : (n4 : Int) ≤ (e5 : Int) := (by omega); clear ho5 hg5 hq5))
          all_goals go_wp2_with fail
          all_goals go_meet
          all_goals have HC := lent_close (i := 4) (u := .slice (some ⟨g5, 0, none⟩) n4 e5) BT7.out K5.out HO5.out
          all_goals exact ⟨g5, e5, by simpa using HC.1, by simpa [encS, encMemberV, memZ, m71] using HC.2.1, HC.2.2, by omega, hcd5⟩
        case rest =>
          obtain ⟨g4, d4, bb7, rr7, tt7, le7, lf7⟩ := hcut
          have BT8 := Lib.hid bb7
          have RO4 := Lib.hid rr7
          have TC7 := Lib.hid tt7
          have KA8 := Lib.hid (kept_touch KA7.out (Nat.le_of_eq HTQ.out.symm) tt7)
          clear bb7 rr7 tt7
          rename World => W8
          go_upto_region 8 with fail
          have RD5 := Lib.hid (RW5.out.kept KA8.out)
          go_cut [] from 37 to 47 (fun wx => ∃ g c, Blk wx t 36 #[.string nm, .string sp, .int .i64 acc, (.slice (some ⟨g3, 0, none⟩) n3 d3), (.slice (some ⟨g4, 0, none⟩) n4 d4), (.slice (some ⟨g, 0, none⟩) n5 c)] ∧ Row wx (t + 1) 38 5 (.slice (some ⟨g, 0, none⟩) (n5 + 1) c) (n5 + 1) ((ms ++ [memZ (-73)]).flatMap encMemberV) ∧ Touch (fun b => b = t) W8 wx ∧ n5 + 1 ≤ c ∧ c ≤ 9223372036854775807)
          case first =>
            have cf8 := BT8.out.cell 5
            simp only [List.getElem?_toArray, List.getElem?_cons_succ, List.getElem?_cons_zero] at cf8
            have fz8 := BT8.out.frozen 5
            have sW8 : t < W8.heap.size := BT8.out.lt
            have hI8 : (n5 : Int) ≤ (c5 : Int) := by omega
            have h08 : (0 : Int) ≤ (n5 : Int) := by omega
            have cx8 := Kept.cell (show Kept W8 (W8.drew.alloc (Obj.cells #[Value.int .i64 (-73), Value.string ⟨#[]⟩, Value.string ⟨#[]⟩, Value.bool false, Value.int .i64 0] 38)) from ((Below.refl _ _).drew).alloc (Nat.le_refl _) _) cf8
            go_region_law
              (first
              | (refine step_append (P := Try.prog) elem_mem rfl (.const (.slice none 0 0)) (.tmp 38) rfl W8.drew.heap.size _ 0 [] rfl (World.ownsRow_nil _ _ _ _) (.slice a5 n5 c5) n5 (ms.flatMap encMemberV) ?_ (show Rd W8.drew 5 _ n5 _ from RD5.out) (OC5.out) (by omega) (by omega) (Nat.le_refl _) ?_; rfl; intro v4 w4 ho4 hg4 hq4; rw [Nat.zero_add, List.nil_append] at ho4; obtain ⟨e4, d4, hv4, _, _⟩ := own_slice ho4; subst hv4; have HO4 := Lib.hid ho4; have K4 := Lib.hid (show Kept W8.drew w4 from (Below.refl _ _).grown hg4 (Nat.le_refl _) (fun k hk => by cases hk)); have ce4 := Kept.cell K4.out cf8; have ca4 := Kept.cell ((Below.refl _ w4).alloc (Nat.le_refl _) (Obj.cells #[Value.int .i64 (-73), Value.string ⟨#[]⟩, Value.string ⟨#[]⟩, Value.bool false, Value.int .i64 0] 38)) ce4; clear ho4 hg4 hq4)
              | (refine step_append (P := Try.prog) elem_mem rfl (.tmp 39) (.tmp 41) rfl W8.drew.heap.size (.slice e4 n5 d4) n5 (ms.flatMap encMemberV) ?_ (HO4.out.alloc _) (.slice (some ⟨w4.heap.size, 0, none⟩) 1 1) 1 ([Value.int .i64 (-73), Value.string ⟨#[]⟩, Value.string ⟨#[]⟩, Value.bool false, Value.int .i64 0]) ?_ (Rd.one w4 ([Value.int .i64 (-73), Value.string ⟨#[]⟩, Value.string ⟨#[]⟩, Value.bool false, Value.int .i64 0]) 38 rfl) (by intro u hu; simp at hu; rcases hu with rfl | rfl | rfl | rfl | rfl <;> rfl) (by omega) (by omega) (by rw [World.size_alloc]; exact Nat.le_succ_of_le K4.out.size) ?_; rfl; rfl; intro v5 w5 ho5 hg5 hq5; obtain ⟨g5, e5, hv5, hcc5, hcd5, _, _, _, _⟩ := own_form ho5 (by omega); subst hv5; have HO5 := Lib.hid ho5; have K5 := Lib.hid (show Kept W8 w5 from lent_k K4.out hg5 HO4.out); have ce5 := Kept.cell K5.out cf8; have fe5 := (BT8.out.kept K5.out).frozen 5; have hs5 : (n5 : Int) ≤ (e5 : Int) := (by omega); clear ho5 hg5 hq5)
              | (refine step_append (P := Try.prog) elem_mem rfl (.const (.slice none 0 0)) (.tmp 38) rfl W8.drew.heap.size _ 0 [] rfl (World.ownsRow_nil _ _ _ _) (.slice a5 n5 c5) n5 (ms.flatMap encMemberV) ?_ (show Rd (W8.drew.alloc (.cells ([Value.int .i64 (-73), Value.string ⟨#[]⟩, Value.string ⟨#[]⟩, Value.bool false, Value.int .i64 0]).toArray 38)) 5 _ n5 _ from (show Rd W8.drew 5 _ n5 _ from RD5.out).kept ((Below.refl _ _).alloc (Nat.le_refl _) _)) (OC5.out) (by omega) (by omega) (by rw [World.size_alloc]; exact Nat.le_succ _) ?_; rfl; intro v6 w6 ho6 hg6 hq6; rw [Nat.zero_add, List.nil_append] at ho6; obtain ⟨e6, d6, hv6, _, _⟩ := own_slice ho6; subst hv6; have HO6 := Lib.hid ho6; have K6 := Lib.hid (show Kept (W8.drew.alloc (.cells ([Value.int .i64 (-73), Value.string ⟨#[]⟩, Value.string ⟨#[]⟩, Value.bool false, Value.int .i64 0]).toArray 38)) w6 from (Below.refl _ _).grown hg6 (Nat.le_refl _) (fun k hk => by cases hk)); have RT := Lib.hid ((Rd.one W8.drew ([Value.int .i64 (-73), Value.string ⟨#[]⟩, Value.string ⟨#[]⟩, Value.bool false, Value.int .i64 0]) 38 rfl).kept K6.out); have ce6 := Kept.cell K6.out (Kept.cell (show Kept W8 (W8.drew.alloc (.cells ([Value.int .i64 (-73), Value.string ⟨#[]⟩, Value.string ⟨#[]⟩, Value.bool false, Value.int .i64 0]).toArray 38)) from ((Below.refl _ _).drew).alloc (Nat.le_refl _) _) cf8); clear ho6 hg6 hq6)
              | (refine step_append (P := Try.prog) elem_mem rfl (.tmp 39) (.tmp 41) rfl W8.drew.heap.size (.slice e6 n5 d6) n5 (ms.flatMap encMemberV) ?_ HO6.out (.slice (some ⟨W8.drew.heap.size, 0, none⟩) 1 1) 1 ([Value.int .i64 (-73), Value.string ⟨#[]⟩, Value.string ⟨#[]⟩, Value.bool false, Value.int .i64 0]) ?_ RT.out (by intro u hu; simp at hu; rcases hu with rfl | rfl | rfl | rfl | rfl <;> rfl) (by omega) (by omega) (Nat.le_trans (by rw [World.size_alloc]; exact Nat.le_succ _) K6.out.size) ?_; rfl; rfl; intro v5 w5 ho5 hg5 hq5; obtain ⟨g5, e5, hv5, hcc5, hcd5, _, _, _, _⟩ := own_form ho5 (by omega); subst hv5; have HO5 := Lib.hid ho5; have K5 := Lib.hid (show Kept W8 w5 from lent_k2 K6.out hg5 HO6.out); have ce5 := Kept.cell K5.out cf8; have fe5 := (BT8.out.kept K5.out).frozen 5; have hs5 : (n5 : Int) ≤ (e5 : Int) := (by omega); clear ho5 hg5 hq5))
            all_goals go_wp2_with fail
            all_goals go_meet
            all_goals have HC := lent_close (i := 5) (u := .slice (some ⟨g5, 0, none⟩) n5 e5) BT8.out K5.out HO5.out
            all_goals exact ⟨g5, e5, by simpa using HC.1, by simpa [encS, encMemberV, memZ, m71] using HC.2.1, HC.2.2, by omega, hcd5⟩
          case rest =>
            obtain ⟨g5, d5, bb8, rr8, tt8, le8, lf8⟩ := hcut
            have BT9 := Lib.hid bb8
            have RO5 := Lib.hid rr8
            have TC8 := Lib.hid tt8
            have KA9 := Lib.hid (kept_touch KA8.out (Nat.le_of_eq HTQ.out.symm) tt8)
            clear bb8 rr8 tt8
            rename World => W9
            have x0 := BT9.out.cell 0
            have x1 := BT9.out.cell 1
            have x2 := BT9.out.cell 2
            have x3 := BT9.out.cell 3
            have x4 := BT9.out.cell 4
            have x5 := BT9.out.cell 5
            simp only [List.getElem?_toArray, List.getElem?_cons_succ, List.getElem?_cons_zero] at x0 x1 x2 x3 x4 x5
            have OW := Lib.hid ((Touch.of_kept (S := fun _ => False) KA9.out).own HS.out.own (fun _ _ => id))
            have z9 : w.heap.size ≤ W9.heap.size := Nat.le_trans zr KA9.out.size
            have hLN : L'.length + 1 ≤ 60 := by have := HLL.out; omega
            go_wp2_with (at_builtin; refine wpl_pushH _ elem_typ rfl _ _ rfl w.heap.size _ L'.length _ rfl OW.out [.string nm, .string sp, .int .i64 acc, .slice (some ⟨g3, 0, none⟩) n3 d3, .slice (some ⟨g4, 0, none⟩) n4 d4, .slice (some ⟨g5, 0, none⟩) n5 d5] _ W9.heap.size rfl rfl rfl (by intro u hu; simp at hu; rcases hu with rfl | rfl | rfl | rfl | rfl | rfl <;> rfl) (by omega) (by omega) z9 ?_; intro v3 w3 ho3 hg3 hk3 hb3; have HO3 := Lib.hid ho3; have HG3 := Lib.hid hg3; have HB3 := Lib.hid hb3; clear ho3 hg3 hk3 hb3)
            go_roundw
            case rel =>
              refine ⟨k + 1, L' ++ [⟨nm, sp, acc, .slice (some ⟨g3, 0, none⟩) n3 d3, is, .slice (some ⟨g4, 0, none⟩) n4 d4, fs, .slice (some ⟨g5, 0, none⟩) n5 d5, ms⟩], by omega, by go_num, ?_⟩
              have T3 : Touch (fun b => (Value.slice ao L'.length co).ownBlock = some b) W9 w3 := Touch.of_grown HG3.out (fun k hk => hk)
              have hz : t < W9.heap.size := BT9.out.lt
              have htq := HTQ.out
              have hnt : ∀ b, b = t → ¬ (t + 1 ≤ b) := fun b h => by omega
              have t7 := TC7.out
              have t8 := TC8.out
              have r3 := (RO3.out.touch t7 (fun b hb e => by have := (RO3.out.lt b hb).1; omega)).touch t8 (fun b hb e => by have := (RO3.out.lt b hb).1; omega)
              have r4 := RO4.out.touch t8 (fun b hb e => by have := (RO4.out.lt b hb).1; omega)
              have r5 := RO5.out
              have hB : w.heap.size ≤ t + 1 := by omega
              have hty : ∀ b, (Value.slice ao L'.length co).ownBlock = some b → b < W9.heap.size → TyAt W9 b 36 := fun b hb _ => own_ty OW.out b hb
              refine ⟨?_, ?_, ?_, Below.trans (Kept.trans KR.out KA9.out) HB3.out⟩
              · rw [List.map_append, HS.out.d, List.take_add_one, List.map_append, HY.out]
                rfl
              · rw [List.length_append, List.flatMap_append]
                exact HO3.out
              · intro y' hy'
                rcases List.mem_append.1 hy' with hy' | hy'
                · exact ((HS.out.lent y' hy').kept KA9.out).touch T3 hty
                · obtain rfl := List.mem_singleton.1 hy'
                  refine LentT.touch ⟨⟨g3, d3, by rw [N3.out], ?_⟩, ⟨g4, d4, by rw [N4.out], ?_⟩, ⟨g5, d5, by rw [N5.out], ?_⟩⟩ T3 hty
                  · rw [← N3.out]; exact r3.base hB
                  · rw [← N4.out]; exact r4.base hB
                  · rw [← N5.out]; exact r5.base hB
            case measure =>
              simp only [intOf]
              omega
    · have hkN : k = N := by omega
      subst hkN
      have hkN : ¬ ((k : Int) < (k : Int)) := by omega
      have hLN : L'.length ≤ 60 := by have := HLL.out; omega
      go_wp2_with (at_builtin; refine wpl_pushH _ elem_typ rfl _ _ rfl w.heap.size _ L'.length _ rfl HS.out.own z74 _ wr.heap.size rfl rfl rfl (by intro u hu; simp [z74] at hu; rcases hu with rfl | rfl | rfl | rfl <;> rfl) (by omega) (by omega) zr ?_; intro v3 w3 ho3 hg3 hk3 hb3; obtain ⟨g3, c3, hv3, hcc3, hcd3, _, _, _, _⟩ := own_form ho3 (by omega); subst hv3; have HO3 := Lib.hid ho3; have HG3 := Lib.hid hg3; have HB3 := Lib.hid hb3; have hc3 : (k : Int) ≤ (c3 : Int) := (by have := HLL.out; omega); clear ho3 hg3 hk3 hb3)
      go_ret
      refine ⟨L', g3, c3, rfl, ⟨by rw [HS.out.d, HN.out, List.take_length], HN.out.symm, ?_, fun y' hy' => ?_⟩, Below.trans KR.out HB3.out⟩
      · rw [← HLL.out]
        exact Row.of_own HO3.out
      · exact (HS.out.lent y' hy').touch (Touch.of_grown (S := fun b => (Value.slice ao L'.length co).ownBlock = some b) HG3.out (fun k hk => hk)) fun b hb _ => own_ty HS.out.own b hb
end Go.Proofs.Yteblpdcedlaedaa
