/-
  The document's list of types, by contract.
-/
import Derived.Test.YtmpnieokgeomcaaCore3
import Derived.Test.YtmpnieokgeomcaaTy
import Derived.Deep.RegionHeld2
import Derived.Deep.AppendLies
import Derived.Deep.CutBlock
namespace Go.Proofs.Ytmpnieokgeomcaa
open Go.RowKit
set_option maxRecDepth 100000

/-- A member and a type, as data. -/
structure MemC where
  acc : Int
  name : ByteArray
  desc : ByteArray
  has : Bool
  value : Int
structure TyC where
  name : ByteArray
  super : ByteArray
  acc : Int
  ms : List MemC
def encM (m : MemC) : List Value := [.int .i64 m.acc, .string m.name, .string m.desc, .bool m.has, .int .i64 m.value]
def encT (x : TyC × Value) : List Value := [.string x.1.name, .string x.1.super, .int .i64 x.1.acc, .slice none 0 0, .slice none 0 0, x.2]
theorem encM_one (m : MemC) : ∀ u ∈ encM m, u.oneCell' = true := by intro u hu; simp [encM] at hu; rcases hu with rfl | rfl | rfl | rfl | rfl <;> rfl

theorem elem_mem : ElemTy Try.prog 27 31 (.agg #[.int .i64 0, .string ⟨#[]⟩, .string ⟨#[]⟩, .bool false, .int .i64 0]) 5 56 := ⟨Try.underlying27, by kernel_rfl, rfl, by decide⟩
theorem elem_typ : ElemTy Try.prog 24 29 (.agg #[.string ⟨#[]⟩, .string ⟨#[]⟩, .int .i64 0, .slice none 0 0, .slice none 0 0, .slice none 0 0]) 6 112 := ⟨Try.underlying24, by kernel_rfl, rfl, by decide⟩

/-- A list of types in memory of the call's own. -/
structure IsTypes (B : Nat) (w : World) (v : Value) (its : List (TyC × Value)) : Prop where
  own : w.ownsRow B 29 6 v its.length (its.flatMap encT)
  mem : ∀ x ∈ its, w.ownsRow B 31 5 x.2 x.1.ms.length (x.1.ms.flatMap encM)

theorem own_lit {w : World} {B g : Nat} {e : TypeId} {sz n : Nat} {cs : List Value} (h : Blk w g e cs.toArray) (hB : B ≤ g) (hl : cs.length = n * sz) (hn : n ≤ maxLen) : w.ownsRow B e sz (.slice (some ⟨g, 0, none⟩) n n) n cs :=
  ⟨hl, .inr ⟨g, n, cs.toArray, rfl, hB, h, Nat.le_refl _, hn, by simpa using hl, by rw [List.toList_toArray, ← hl, List.take_length]⟩⟩

/-- Behind the append of one type. -/
theorem IsTypes.snoc {B : Nat} {w w' : World} {v v' mv : Value} {its : List (TyC × Value)} {t : TyC} (h : IsTypes B w v its) (hm : w.ownsRow B 31 5 mv t.ms.length (t.ms.flatMap encM))
    (ho : w'.ownsRow B 29 6 v' (its.length + 1) (its.flatMap encT ++ encT (t, mv))) (hg : w.grownBy w' v.ownBlock) : IsTypes B w' v' (its ++ [(t, mv)]) := by
  have ht : Touch (fun b => v.ownBlock = some b) w w' := Touch.of_grown hg fun k hk => hk
  refine ⟨by simpa using ho, fun x hx => ?_⟩
  have key : ∀ {mv : Value} {n : Nat} {xs : List Value}, w.ownsRow B 31 5 mv n xs → w'.ownsRow B 31 5 mv n xs := fun hr => ht.own hr fun k hk e => TyAt.ne (own_ty h.own k e) (own_ty hr k hk) (by decide) rfl
  rcases List.mem_append.1 hx with hx | hx
  · exact key (h.mem x hx)
  · obtain rfl : x = (t, mv) := by simpa using hx
    exact key hm
theorem IsTypes.kept {B : Nat} {w w' : World} {v : Value} {its : List (TyC × Value)} (h : IsTypes B w v its) (hk : Kept w w') : IsTypes B w' v its :=
  ⟨Touch.own (S := fun _ => False) (Touch.of_kept hk) h.own fun _ _ => id, fun x hx => Touch.own (S := fun _ => False) (Touch.of_kept hk) (h.mem x hx) fun _ _ => id⟩

def initM : MemC := ⟨1, ⟨#[60, 105, 110, 105, 116, 62]⟩, ⟨#[40, 41, 86]⟩, true, 0⟩
def objB : ByteArray := ⟨#[106, 97, 118, 97, 47, 108, 97, 110, 103, 47, 79, 98, 106, 101, 99, 116]⟩
def tyR (k : Nat) : TyC := ⟨(pr24R k).1, (pr24R k).2, 33, [initM]⟩
def taskT : TyC := ⟨taskB, objB, 1537, [⟨1025, ⟨#[114, 117, 110]⟩, ⟨#[40, 41, 86]⟩, false, 0⟩]⟩
def sysT : TyC := ⟨sysB, objB, 49, [⟨265, ⟨#[112, 114, 105, 110, 116]⟩, ⟨#[40, 73, 41, 86]⟩, false, 0⟩, ⟨265, ⟨#[115, 116, 97, 114, 116]⟩, ⟨#[40, 76, 118, 109, 47, 84, 97, 115, 107, 59, 41, 86]⟩, false, 0⟩]⟩
def types26 : List TyC := (List.range 24).map tyR ++ [taskT, sysT]
theorem types26_names : types26.map (·.name) = names26 := by
  unfold types26 names26
  rw [List.map_append, List.map_map]
  have h : (List.range 24).map ((fun x => x.name) ∘ tyR) = (List.range 24).map nm24 := List.map_congr_left fun k hk => pr24R_nm ⟨k, List.mem_range.1 hk⟩
  rw [h]
  rfl
theorem types26_len : types26.length = 26 := by simp [types26]

set_option maxHeartbeats 4000000 in
theorem ref7_pairs (w : World) : Calls Try.prog 17 #[] w fun e w' => e = .returned (.slice (some ⟨w.heap.size, 0, none⟩) 24 24) ∧ w' = w.alloc (.cells arr24R 45) := by
  go_enter Try.func17, Try.ntmps17
  go_wp2
  go_ret
  exact ⟨rfl, rfl⟩

theorem cell_grown {w w' : World} {row : Option Nat} {p : Addr} {v : Value} (hg : w.grownBy w' row) (hc : w.cell? p = some v) (hn : ∀ k, row = some k → k ≠ p.block) : w'.cell? p = some v := by
  rw [World.cell?_of_block (hg.block p.block (World.block_lt_of_cell? w p hc) (fun e => hn _ e.symm rfl)), hc]

/-- What the document's Types tells. -/
def TypesR (w : World) (e : Ending) (w' : World) : Prop := ∃ v its, e = .returned v ∧ IsTypes (w.heap.size + 1) w' v its ∧ its.map (·.1) = types26 ∧ Kept w w'

set_option maxHeartbeats 4000000 in
theorem ref7_Types (w : World) : Calls Try.prog 11 #[] w (TypesR w) := by
  obtain ⟨i0, hi, hz0, hz1, hz2⟩ := info_parts elem_typ.hi
  have HI := Lib.hid hi
  have HZ0 := Lib.hid hz0
  have HZ1 := Lib.hid hz1
  have HZ2 := Lib.hid hz2
  clear hi hz0 hz1 hz2
  go_enter Try.func11, Try.ntmps11
  go_wp2_with fail
  refine (ref7_pairs w).mono ?_
  rintro e w1 ⟨rfl, hw1⟩
  have hsz : w1.heap.size = w.heap.size + 1 := by rw [hw1]; simp
  have hP : Blk w1 w.heap.size 45 arr24R := by rw [hw1]; exact Blk.new _ _ _
  have k1 : Kept w w1 := by rw [hw1]; exact (Below.refl _ _).alloc (Nat.le_refl _) _
  have HSZ := Lib.hid hsz
  have HP := Lib.hid hP
  have K1 := Lib.hid k1
  clear hw1 hsz hP k1
  go_wp2_with fail
  go_loopw [2, 3] (fun s2 s3 wr => ∃ (k : Nat) (its : List (TyC × Value)), k ≤ 24 ∧ s3 = .int .i64 k ∧ IsTypes w1.heap.size wr s2 its ∧ its.map (·.1) = (List.range k).map tyR ∧ Kept w1 wr) (fun _ s3 _ => 24 - (intOf s3).toNat)
  case atStart => exact ⟨0, [], by omega, rfl, ⟨World.ownsRow_nil _ _ _ _, by simp⟩, rfl, Below.refl _ _⟩
  case round =>
    obtain ⟨k, its, hk, rfl, hT, hm, hK⟩ := hrel
    have HT := Lib.hid hT
    have HM := Lib.hid hm
    have HK := Lib.hid hK
    have hlen : its.length = k := by have := congrArg List.length hm; simpa using this
    have hle : its.length ≤ 24 := by omega
    have hbs := hK.size
    obtain ⟨av, cv, rfl, -, -⟩ := own_slice hT.own
    by_cases hlt : k < 24
    · obtain ⟨a, ha⟩ : ∃ a, a = (pr24R k).1 := ⟨_, rfl⟩
      obtain ⟨b, hb⟩ : ∃ b, b = (pr24R k).2 := ⟨_, rfl⟩
      have z0 : wr.cell? ⟨w.heap.size, k * 2, none⟩ = some (.string a) := by rw [(HP.out.kept hK).cell, (arr24R_at ⟨k, hlt⟩).1, ha]
      have z1 : wr.cell? ⟨w.heap.size, k * 2 + 1, none⟩ = some (.string b) := by rw [(HP.out.kept hK).cell, (arr24R_at ⟨k, hlt⟩).2, hb]
      have kk : Kept wr ((wr.drew.alloc (.cells #[.int .i64 1, .string ⟨#[60, 105, 110, 105, 116, 62]⟩, .string ⟨#[40, 41, 86]⟩, .bool true, .int .i64 0] 31)).alloc (.cells #[.string a, .string b, .int .i64 33, .slice none 0 0, .slice none 0 0, .slice (some ⟨wr.heap.size, 0, none⟩) 1 1] 29)) := (((Below.refl _ _).drew).alloc (Nat.le_refl _) _).alloc (by simp) _
      have hown := (hT.kept kk).own
      have hnb := World.news_of_block (Blk.new (wr.drew.alloc (.cells #[.int .i64 1, .string ⟨#[60, 105, 110, 105, 116, 62]⟩, .string ⟨#[40, 41, 86]⟩, .bool true, .int .i64 0] 31)) 29 #[.string a, .string b, .int .i64 33, .slice none 0 0, .slice none 0 0, .slice (some ⟨wr.heap.size, 0, none⟩) 1 1])
      rw [World.size_alloc] at hnb
      have hnb' : ∀ j u, (encT (tyR k, .slice (some ⟨wr.heap.size, 0, none⟩) 1 1))[j]? = some u → ((wr.drew.alloc (.cells #[.int .i64 1, .string ⟨#[60, 105, 110, 105, 116, 62]⟩, .string ⟨#[40, 41, 86]⟩, .bool true, .int .i64 0] 31)).alloc (.cells #[.string a, .string b, .int .i64 33, .slice none 0 0, .slice none 0 0, .slice (some ⟨wr.heap.size, 0, none⟩) 1 1] 29)).cell? ((⟨wr.heap.size + 1, 0, none⟩ : Addr).add j) = some u := by
        intro j u hu
        refine hnb j u ?_
        rw [ha, hb]
        exact hu
      have hmr : ((wr.drew.alloc (.cells #[.int .i64 1, .string ⟨#[60, 105, 110, 105, 116, 62]⟩, .string ⟨#[40, 41, 86]⟩, .bool true, .int .i64 0] 31)).alloc (.cells #[.string a, .string b, .int .i64 33, .slice none 0 0, .slice none 0 0, .slice (some ⟨wr.heap.size, 0, none⟩) 1 1] 29)).ownsRow w1.heap.size 31 5 (.slice (some ⟨wr.heap.size, 0, none⟩) 1 1) (tyR k).ms.length ((tyR k).ms.flatMap encM) := own_lit ((Blk.new wr.drew _ _).alloc _) hbs rfl (by unfold maxLen; decide)
      have z0p := Kept.cell kk z0
      have z1p := Kept.cell kk z1
      have hvb : ∀ q, (Value.slice av its.length cv).ownBlock = some q → q ≠ w.heap.size := fun q hq e => by have := (hT.own.lt q hq).1; have := HSZ.out; omega
      have k12 := Lib.hid (((Below.refl _ _).drew).alloc (Nat.le_refl _) _ : Kept wr (wr.drew.alloc (.cells #[.int .i64 1, .string ⟨#[60, 105, 110, 105, 116, 62]⟩, .string ⟨#[40, 41, 86]⟩, .bool true, .int .i64 0] 31)))
      have OWN := Lib.hid hown
      have NB := Lib.hid hnb'
      have HMR := Lib.hid hmr
      have KK := Lib.hid kk
      obtain ⟨v, hv⟩ : ∃ v, v = Value.slice av its.length cv := ⟨_, rfl⟩
      rw [← hv] at OWN hvb
      have HV := Lib.hid hv
      clear hT hm hK hown hnb hnb' hmr kk hlen hv ha hb
      go_wp2_with fail
      refine wp_region_held_drew (S := (fun w9 => w9.cell? ⟨w.heap.size, k * 2, none⟩ = some (.string a) ∧ w9.cell? ⟨w.heap.size, k * 2 + 1, none⟩ = some (.string b))) (by kernel_rfl) ⟨z0, z1⟩ (fun hHeld => ?_)
      refine wpAnyH_take (i := 0) (oi := { dst := some 11, op := Op.move (Operand.tmp 2), type := 24, pos := "core.go:41", after := #[], guard := none }) (v := ?va0) rfl (by kernel_rfl) (by kernel_rfl) (by kernel_rfl) (fun _ _ _ h => h) (Or.inl ⟨by rfl, ?ya0⟩) (by assumption) ?ra0
      case ya0 => (intro w hSw; (try dsimp only at hSw); go_simp <;> with_reducible rfl)
      (try simp only [Act.put, List.setIfInBounds_toArray, List.set_cons_zero, List.set_cons_succ])
      refine wpAnyH_take (i := 1) (oi := { dst := some 12, op := Op.move (Operand.tmp 1), type := 43, pos := "core.go:41", after := #[], guard := none }) (v := ?va1) rfl (by kernel_rfl) (by kernel_rfl) (by kernel_rfl) (fun _ _ _ h => h) (Or.inl ⟨by rfl, ?ya1⟩) (by assumption) ?ra1
      case ya1 => (intro w hSw; (try dsimp only at hSw); go_simp <;> with_reducible rfl)
      (try simp only [Act.put, List.setIfInBounds_toArray, List.set_cons_zero, List.set_cons_succ])
      refine wpAnyH_take (i := 2) (oi := { dst := some 13, op := Op.move (Operand.tmp 3), type := 3, pos := "core.go:41", after := #[], guard := none }) (v := ?va2) rfl (by kernel_rfl) (by kernel_rfl) (by kernel_rfl) (fun _ _ _ h => h) (Or.inl ⟨by rfl, ?ya2⟩) (by assumption) ?ra2
      case ya2 => (intro w hSw; (try dsimp only at hSw); go_simp <;> with_reducible rfl)
      (try simp only [Act.put, List.setIfInBounds_toArray, List.set_cons_zero, List.set_cons_succ])
      refine wpAnyH_take (i := 3) (oi := { dst := some 14, op := Op.indexAddr 43 (Operand.tmp 12) (Operand.tmp 13), type := 0, pos := "core.go:41", after := #[{ on := 1, ground := Ground.data }, { on := 2, ground := Ground.data }], guard := none }) (v := ?va3) rfl (by kernel_rfl) (by kernel_rfl) (by kernel_rfl) (fun _ _ _ h => h) (Or.inl ⟨by rfl, ?ya3⟩) (by assumption) ?ra3
      case ya3 => (intro w hSw; (try dsimp only at hSw); go_simp <;> with_reducible rfl)
      (try simp only [Act.put, List.setIfInBounds_toArray, List.set_cons_zero, List.set_cons_succ])
      refine wpAnyH_take (i := 4) (oi := { dst := some 15, op := Op.indexAddr 45 (Operand.tmp 14) (Operand.const (Value.int IntKind.i64 0)), type := 0, pos := "core.go:41", after := #[{ on := 3, ground := Ground.data }], guard := none }) (v := ?va4) rfl (by kernel_rfl) (by kernel_rfl) (by kernel_rfl) (fun _ _ _ h => h) (Or.inl ⟨by rfl, ?ya4⟩) (by assumption) ?ra4
      case ya4 => (intro w hSw; (try dsimp only at hSw); go_simp <;> with_reducible rfl)
      (try simp only [Act.put, List.setIfInBounds_toArray, List.set_cons_zero, List.set_cons_succ])
      refine wpAnyH_take (i := 5) (oi := { dst := some 16, op := Op.load 9 (Operand.tmp 15), type := 9, pos := "core.go:41", after := #[{ on := 4, ground := Ground.data }], guard := none }) (v := ?va5) rfl (by kernel_rfl) (by kernel_rfl) (by kernel_rfl) (fun _ _ _ h => h) (Or.inl ⟨by rfl, ?ya5⟩) (by assumption) ?ra5
      case ya5 => (intro w hSw; (try dsimp only at hSw); go_simp <;> with_reducible rfl)
      (try simp only [Act.put, List.setIfInBounds_toArray, List.set_cons_zero, List.set_cons_succ])
      refine wpAnyH_take (i := 6) (oi := { dst := some 17, op := Op.move (Operand.tmp 1), type := 43, pos := "core.go:41", after := #[], guard := none }) (v := ?va6) rfl (by kernel_rfl) (by kernel_rfl) (by kernel_rfl) (fun _ _ _ h => h) (Or.inl ⟨by rfl, ?ya6⟩) (by assumption) ?ra6
      case ya6 => (intro w hSw; (try dsimp only at hSw); go_simp <;> with_reducible rfl)
      (try simp only [Act.put, List.setIfInBounds_toArray, List.set_cons_zero, List.set_cons_succ])
      refine wpAnyH_take (i := 7) (oi := { dst := some 18, op := Op.move (Operand.tmp 3), type := 3, pos := "core.go:41", after := #[], guard := none }) (v := ?va7) rfl (by kernel_rfl) (by kernel_rfl) (by kernel_rfl) (fun _ _ _ h => h) (Or.inl ⟨by rfl, ?ya7⟩) (by assumption) ?ra7
      case ya7 => (intro w hSw; (try dsimp only at hSw); go_simp <;> with_reducible rfl)
      (try simp only [Act.put, List.setIfInBounds_toArray, List.set_cons_zero, List.set_cons_succ])
      refine wpAnyH_take (i := 8) (oi := { dst := some 19, op := Op.indexAddr 43 (Operand.tmp 17) (Operand.tmp 18), type := 0, pos := "core.go:41", after := #[{ on := 6, ground := Ground.data }, { on := 7, ground := Ground.data }], guard := none }) (v := ?va8) rfl (by kernel_rfl) (by kernel_rfl) (by kernel_rfl) (fun _ _ _ h => h) (Or.inl ⟨by rfl, ?ya8⟩) (by assumption) ?ra8
      case ya8 => (intro w hSw; (try dsimp only at hSw); go_simp <;> with_reducible rfl)
      (try simp only [Act.put, List.setIfInBounds_toArray, List.set_cons_zero, List.set_cons_succ])
      refine wpAnyH_take (i := 9) (oi := { dst := some 20, op := Op.indexAddr 45 (Operand.tmp 19) (Operand.const (Value.int IntKind.i64 1)), type := 0, pos := "core.go:41", after := #[{ on := 8, ground := Ground.data }], guard := none }) (v := ?va9) rfl (by kernel_rfl) (by kernel_rfl) (by kernel_rfl) (fun _ _ _ h => h) (Or.inl ⟨by rfl, ?ya9⟩) (by assumption) ?ra9
      case ya9 => (intro w hSw; (try dsimp only at hSw); go_simp <;> with_reducible rfl)
      (try simp only [Act.put, List.setIfInBounds_toArray, List.set_cons_zero, List.set_cons_succ])
      refine wpAnyH_take (i := 10) (oi := { dst := some 21, op := Op.load 9 (Operand.tmp 20), type := 9, pos := "core.go:41", after := #[{ on := 9, ground := Ground.data }], guard := none }) (v := ?va10) rfl (by kernel_rfl) (by kernel_rfl) (by kernel_rfl) (fun _ _ _ h => h) (Or.inl ⟨by rfl, ?ya10⟩) (by assumption) ?ra10
      case ya10 => (intro w hSw; (try dsimp only at hSw); go_simp <;> with_reducible rfl)
      (try simp only [Act.put, List.setIfInBounds_toArray, List.set_cons_zero, List.set_cons_succ])
      refine wpAnyH_take (i := 11) (oi := { dst := some 22, op := Op.build 31 #[(0, Operand.const (Value.int IntKind.i64 1)), (1, Operand.const (Value.string { data := #[60, 105, 110, 105, 116, 62] })), (2, Operand.const (Value.string { data := #[40, 41, 86] })), (3, Operand.const (Value.bool true))], type := 31, pos := "core.go:41", after := #[], guard := none }) (v := ?va11) rfl (by kernel_rfl) (by kernel_rfl) (by kernel_rfl) (fun _ _ _ h => h) (Or.inl ⟨by rfl, ?ya11⟩) (by assumption) ?ra11
      case ya11 => (intro w hSw; (try dsimp only at hSw); go_simp <;> with_reducible rfl)
      (try simp only [Act.put, List.setIfInBounds_toArray, List.set_cons_zero, List.set_cons_succ])
      refine wpAnyH_ready (rs := [12]) (by kernel_rfl) (by simp) ?_
      refine AllReadyH.cons (o := { dst := some 23, op := Op.buildSlice 27 1 #[(0, Operand.tmp 22)], type := 27, pos := "core.go:41", after := #[{ on := 11, ground := Ground.data }], guard := none }) rfl (fun K hK => ?_) AllReadyH.nil
      go_simp
      clear hHeld
      refine hK.out _ _ ?_ (fun hHeld => ?_)
      · exact ⟨Kept.cell k12.out z0, Kept.cell k12.out z1⟩
      clear hK K
      (try simp only [Act.put, List.setIfInBounds_toArray, List.set_cons_zero, List.set_cons_succ])
      refine wpAnyH_take (i := 13) (oi := { dst := some 24, op := Op.build 29 #[(0, Operand.tmp 16), (1, Operand.tmp 21), (2, Operand.const (Value.int IntKind.i64 33)), (5, Operand.tmp 23)], type := 29, pos := "core.go:41", after := #[{ on := 5, ground := Ground.data }, { on := 10, ground := Ground.data }, { on := 12, ground := Ground.data }], guard := none }) (v := ?va13) rfl (by kernel_rfl) (by kernel_rfl) (by kernel_rfl) (fun _ _ _ h => h) (Or.inl ⟨by rfl, ?ya13⟩) (by assumption) ?ra13
      case ya13 => (intro w hSw; (try dsimp only at hSw); go_simp <;> with_reducible rfl)
      (try simp only [Act.put, List.setIfInBounds_toArray, List.set_cons_zero, List.set_cons_succ])
      refine wpAnyH_ready (rs := [14]) (by kernel_rfl) (by simp) ?_
      refine AllReadyH.cons (o := { dst := some 25, op := Op.buildSlice 24 1 #[(0, Operand.tmp 24)], type := 24, pos := "core.go:41", after := #[{ on := 13, ground := Ground.data }], guard := none }) rfl (fun K hK => ?_) AllReadyH.nil
      go_simp
      clear hHeld
      refine hK.out _ _ ?_ (fun hHeld => ?_)
      · exact ⟨z0p, z1p⟩
      clear hK K
      (try simp only [Act.put, List.setIfInBounds_toArray, List.set_cons_zero, List.set_cons_succ])
      refine wpAnyH_ready (rs := [15]) (by kernel_rfl) (by simp) ?_
      refine AllReadyH.cons (o := { dst := some 26, op := Op.call { callee := Callee.builtin Builtin.append, args := #[Operand.tmp 11, Operand.tmp 25], argTypes := #[24, 24] }, type := 24, pos := "core.go:41", after := #[{ on := 0, ground := Ground.data }, { on := 14, ground := Ground.data }], guard := none }) rfl (fun K hK => ?_) AllReadyH.nil
      refine step_append_lies _ rfl (.tmp 11) (.tmp 25) 24 rfl w1.heap.size 29 i0 (.agg #[.string ⟨#[]⟩, .string ⟨#[]⟩, .int .i64 0, .slice none 0 0, .slice none 0 0, .slice none 0 0]) 6 112 Try.underlying24 HI.out HZ0.out HZ1.out HZ2.out rfl (by decide) v its.length (its.flatMap encT) (by simp [Act.eval, Act.put, HV.out]) OWN.out ⟨wr.heap.size + 1, 0, none⟩ 1 1 (encT (tyR k, .slice (some ⟨wr.heap.size, 0, none⟩) 1 1)) (by simp [Act.eval, Act.put]) rfl NB.out (by intro u hu; simp [encT] at hu; rcases hu with rfl | rfl | rfl | rfl | rfl <;> rfl) (by omega) (by unfold maxLen; omega) (by omega) (by simp; omega) (wr.heap.size + 1 + 1) (by simp) ?_
      intro g1 cp W1 ho1 hg1 hat1 hlt1
      have HO1 := Lib.hid ho1
      have HG1 := Lib.hid hg1
      clear ho1 hg1 hat1 hlt1
      clear hHeld
      refine hK.out _ _ ?_ (fun hHeld => ?_)
      · exact ⟨(cell_grown HG1.out z0p hvb).trans rfl, (cell_grown HG1.out z1p hvb).trans rfl⟩
      clear hK K
      (try simp only [Act.put, List.setIfInBounds_toArray, List.set_cons_zero, List.set_cons_succ])
      refine wpAnyH_take (i := 16) (oi := { dst := some 2, op := Op.assign (Operand.tmp 26), type := 24, pos := "core.go:41", after := #[{ on := 15, ground := Ground.data }, { on := 15, ground := Ground.chain }, { on := 0, ground := Ground.phase }, { on := 1, ground := Ground.phase }, { on := 2, ground := Ground.phase }, { on := 3, ground := Ground.phase }, { on := 4, ground := Ground.phase }, { on := 5, ground := Ground.phase }, { on := 6, ground := Ground.phase }, { on := 7, ground := Ground.phase }, { on := 8, ground := Ground.phase }, { on := 9, ground := Ground.phase }, { on := 10, ground := Ground.phase }, { on := 11, ground := Ground.phase }, { on := 12, ground := Ground.phase }, { on := 13, ground := Ground.phase }, { on := 14, ground := Ground.phase }, { on := 15, ground := Ground.phase }], guard := none }) (v := ?va16) rfl (by kernel_rfl) (by kernel_rfl) (by kernel_rfl) (fun _ _ _ h => h) (Or.inl ⟨by rfl, ?ya16⟩) (by assumption) ?ra16
      case ya16 => (intro w hSw; (try dsimp only at hSw); go_simp <;> with_reducible rfl)
      (try simp only [Act.put, List.setIfInBounds_toArray, List.set_cons_zero, List.set_cons_succ])
      refine wpAnyH_done (by kernel_rfl) ?_ _
      go_wp2_with fail
      have hgr : ((wr.drew.alloc (.cells #[.int .i64 1, .string ⟨#[60, 105, 110, 105, 116, 62]⟩, .string ⟨#[40, 41, 86]⟩, .bool true, .int .i64 0] 31)).alloc (.cells #[.string a, .string b, .int .i64 33, .slice none 0 0, .slice none 0 0, .slice (some ⟨wr.heap.size, 0, none⟩) 1 1] 29)).grownBy W1 (Value.slice av its.length cv).ownBlock := by rw [← HV.out]; exact HG1.out
      have HGR := Lib.hid hgr
      clear hgr
      go_roundw
      case rel =>
        refine ⟨k + 1, its ++ [(tyR k, .slice (some ⟨wr.heap.size, 0, none⟩) 1 1)], by omega, by go_num, ?_, ?_, ?_⟩
        · exact (HT.out.kept KK.out).snoc HMR.out HO1.out HGR.out
        · rw [List.map_append, HM.out, List.range_succ, List.map_append]
          rfl
        · exact (Kept.trans HK.out KK.out).grown HGR.out (Kept.trans HK.out KK.out).size (fun q hq => (HT.out.own.lt q hq).1)
      case measure => simp [intOf]; omega
    · obtain rfl : k = 24 := by omega
      have KR := Lib.hid (Kept.trans K1.out hK)
      have HLN := Lib.hid hlen
      have hk7 : Kept wr (wr.alloc (.cells #[.int .i64 1025, .string ⟨#[114, 117, 110]⟩, .string ⟨#[40, 41, 86]⟩, .bool false, .int .i64 0] 31)) := (Below.refl _ _).alloc (Nat.le_refl _) _
      have K7 := Lib.hid hk7
      have K7X := Lib.hid (show Below w1.heap.size wr (wr.alloc (.cells #[.int .i64 1025, .string ⟨#[114, 117, 110]⟩, .string ⟨#[40, 41, 86]⟩, .bool false, .int .i64 0] 31)) from hk7.mono hbs)
      have T7 := Lib.hid (hT.kept hk7)
      have hm7 : (wr.alloc (.cells #[.int .i64 1025, .string ⟨#[114, 117, 110]⟩, .string ⟨#[40, 41, 86]⟩, .bool false, .int .i64 0] 31)).ownsRow w1.heap.size 31 5 (.slice (some ⟨wr.heap.size, 0, none⟩) 1 1) taskT.ms.length (taskT.ms.flatMap encM) := own_lit (Blk.new wr _ _) hbs rfl (by unfold maxLen; decide)
      have M7 := Lib.hid hm7
      clear hT hm hK hlen hk7 hm7
      go_upto_region 8 with (at_builtin; refine wpl_pushH _ elem_typ rfl _ _ rfl w1.heap.size _ its.length _ rfl T7.out.own (encT (taskT, .slice (some ⟨wr.heap.size, 0, none⟩) 1 1)) _ (wr.heap.size + 1) rfl (by simp) rfl (by intro u hu; simp [encT] at hu; rcases hu with rfl | rfl | rfl | rfl | rfl <;> rfl) (by omega) (by omega) (by omega) ?_; intro v8 w8 ho8 hg8 hk8 hb8; have HO8 := Lib.hid ho8; have HG8 := Lib.hid hg8; have HB8 := Lib.hid hb8; obtain ⟨a8, c8, rfl, -, -⟩ := own_slice ho8; clear ho8 hg8 hk8 hb8)
      have t8 := T7.out.snoc M7.out HO8.out HG8.out
      have hb8 : w1.heap.size ≤ w8.heap.size := Nat.le_trans (Nat.le_trans hbs K7X.out.size) HB8.out.size
      have hk8 : Kept w8 (w8.alloc (.cells #[.int .i64 265, .string ⟨#[112, 114, 105, 110, 116]⟩, .string ⟨#[40, 73, 41, 86]⟩, .bool false, .int .i64 0, .int .i64 265, .string ⟨#[115, 116, 97, 114, 116]⟩, .string ⟨#[40, 76, 118, 109, 47, 84, 97, 115, 107, 59, 41, 86]⟩, .bool false, .int .i64 0] 31)) := (Below.refl _ _).alloc (Nat.le_refl _) _
      have K8 := Lib.hid hk8
      have T8 := Lib.hid (t8.kept hk8)
      have hm8 : (w8.alloc (.cells #[.int .i64 265, .string ⟨#[112, 114, 105, 110, 116]⟩, .string ⟨#[40, 73, 41, 86]⟩, .bool false, .int .i64 0, .int .i64 265, .string ⟨#[115, 116, 97, 114, 116]⟩, .string ⟨#[40, 76, 118, 109, 47, 84, 97, 115, 107, 59, 41, 86]⟩, .bool false, .int .i64 0] 31)).ownsRow w1.heap.size 31 5 (.slice (some ⟨w8.heap.size, 0, none⟩) 2 2) sysT.ms.length (sysT.ms.flatMap encM) := own_lit (Blk.new w8 _ _) hb8 rfl (by unfold maxLen; decide)
      have M8 := Lib.hid hm8
      have ho8 := (Touch.own (S := fun _ => False) (Touch.of_kept hk8) HO8.out (fun _ _ => id))
      have HO8' := Lib.hid ho8
      clear t8 hk8 hm8 ho8
      go_wp2_with (at_builtin; refine wpl_pushH _ elem_typ rfl _ _ rfl w1.heap.size _ (its.length + 1) _ rfl HO8'.out (encT (sysT, .slice (some ⟨w8.heap.size, 0, none⟩) 2 2)) _ (w8.heap.size + 1) rfl (by simp) rfl (by intro u hu; simp [encT] at hu; rcases hu with rfl | rfl | rfl | rfl | rfl <;> rfl) (by omega) (by omega) (by omega) ?_; intro v9 w9 ho9 hg9 hk9 hb9; have HO9 := Lib.hid ho9; have HG9 := Lib.hid hg9; have HB9 := Lib.hid hb9; obtain ⟨a9, c9, rfl, -, -⟩ := own_slice ho9; clear ho9 hg9 hk9 hb9)
      go_ret
      have hlen2 : (its ++ [(taskT, Value.slice (some ⟨wr.heap.size, 0, none⟩) 1 1)]).length = its.length + 1 := by simp
      have t9 := T8.out.snoc (t := sysT) (mv := .slice (some ⟨w8.heap.size, 0, none⟩) 2 2) M8.out (by rw [hlen2]; simpa using HO9.out) HG9.out
      refine ⟨_, its ++ [(taskT, .slice (some ⟨wr.heap.size, 0, none⟩) 1 1)] ++ [(sysT, .slice (some ⟨w8.heap.size, 0, none⟩) 2 2)], rfl, ?_, ?_, ?_⟩
      · rw [← HSZ.out]
        exact t9
      · rw [List.map_append, List.map_append, HM.out]
        simp [types26]
      · exact Below.trans KR.out ((((K7X.out.trans HB8.out).trans (K8.out.mono hb8)).trans HB9.out).mono K1.out.size)
end Go.Proofs.Ytmpnieokgeomcaa
