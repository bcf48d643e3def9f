/-
  Package check by contract: fields and methods that stand twice.
-/
import Derived.Test.YtcklmhbcjgiplaaCk8
import Derived.Deep.RegionHeld2
namespace Go.Proofs.Ytcklmhbcjgiplaa
set_option linter.unusedVariables false
set_option linter.unusedSimpArgs false
open Go.RowKit
open Go.Maps Go.WideMaps
set_option maxRecDepth 100000

/-- A member by name and descriptor. -/
def encN (k : ByteArray × ByteArray) : Value := .agg #[.string k.1, .string k.2]
theorem encN_inj (a b : ByteArray × ByteArray) (h : encN a = encN b) : a = b := by
  obtain ⟨t, s⟩ := a
  obtain ⟨t', s'⟩ := b
  simp only [encN, Value.agg.injEq, Array.mk.injEq, List.cons.injEq, Value.string.injEq, and_true] at h
  rw [h.1, h.2]
theorem laidN : laidOutB Try.prog = true := by kernel_rfl
theorem kl_key : KeyLaw Try.prog 102 := deep_law_laid laidN (m := 2) (by omega) (of_decide_eq_true (by kernel_rfl)) (by kernel_rfl) (by rw [Try.underlying102])
theorem law_key : Keyed Try.prog 102 := Keyed.of_law kl_key
theorem keyN_some (k : ByteArray × ByteArray) (h1 : k.1.size ≤ maxLen) (h3 : k.2.size ≤ maxLen) : ∃ l, keyOf Try.prog 102 (encN k) = some l := by
  obtain ⟨t, s⟩ := k
  dsimp only at h1 h3
  have hd : Try.prog.keyType 102 = true := by kernel_rfl
  have ck : Try.prog.cellsOf 102 = 2 := by kernel_rfl
  have cs : Try.prog.cellsOf 9 = 1 := by kernel_rfl
  have hf : (encN ⟨t, s⟩).formed Try.prog 102 = true := by simp [encN, Value.formed, Try.underlying102, ck]
  obtain ⟨d, hs⟩ : ∃ d, Try.prog.types.size + 1 = d + 2 := ⟨Try.prog.types.size - 1, by have : 1 ≤ Try.prog.types.size := of_decide_eq_true (by kernel_rfl); omega⟩
  have hk : Try.prog.keyLits (d + 2) 102 [.string t, .string s] = some [.string t.data.toList, .string s.data.toList] := by
    simp [Program.keyLits, Try.underlying102, Try.underlying9, ck, cs, h1, h3]
  refine ⟨.string (keyBytes [.string t.data.toList, .string s.data.toList]), ?_⟩
  unfold keyOf
  rw [Try.underlying102]
  simp only [hd, hf, Bool.and_self, if_true, hs]
  show (Program.keyLits _ _ _ [Value.string t, Value.string s]).map _ = _
  rw [hk]
  rfl
/-- Block b is a map that has each member of a list once. -/
def SeenN (w : World) (b n : Nat) (l : List (ByteArray × ByteArray)) : Prop := Dict Try.prog 102 encN w b n (fun s => if l.contains s = true then some (.int .i64 1) else none)
theorem SeenN.put {w : World} {b n : Nat} {l : List (ByteArray × ByteArray)} {s : ByteArray × ByteArray} (h : Dict Try.prog 102 encN w b n (fun x => if x = s then some (.int .i64 1) else if l.contains x = true then some (.int .i64 1) else none)) : SeenN w b n (l ++ [s]) :=
  Dict.congr h fun a _ => by
    by_cases e : a = s
    · subst e
      simp
    · rw [if_neg e]
      simp [e]
/-- What the rule 'twice' tells; what the map holds behind it. -/
def TwiceG (bm n : Nat) (l : List (ByteArray × ByteArray)) (k : ByteArray × ByteArray) (w : World) (e : Ending) (w' : World) : Prop :=
  e = .returned (.bool (l.contains k)) ∧ (l.contains k = false → SeenN w' bm (n + 1) (l ++ [k])) ∧ Touch (fun b => b = bm) w w'
set_option maxHeartbeats 8000000 in
theorem field_5 (xa xn xd xv : Int) (s d : ByteArray) (l : List (ByteArray × ByteArray)) (n bm gm gs gd : Nat) (w : World) (hs : s.size ≤ maxLen) (hd : d.size ≤ maxLen) (hn : n ≤ 100) (h1 : Blk w gm 75 #[.map (some bm)]) (h2 : Blk w gs 9 #[.string s]) (h3 : Blk w gd 9 #[.string d]) (hm : SeenN w bm n l) :
    Calls Try.prog 61 #[.agg #[.int .i64 xa, .int .i64 xn, .int .i64 xd, .int .i64 xv], .pointer (some ⟨gm, 0, none⟩), .pointer (some ⟨gs, 0, none⟩), .pointer (some ⟨gd, 0, none⟩)] w (TwiceG bm n l (s, d) w) := by
  have hk : Kept w (w.alloc (.cells #[.int .i64 xa, .int .i64 xn, .int .i64 xd, .int .i64 xv] 55)) := (Below.refl _ _).alloc (Nat.le_refl _) _
  have HK := Lib.hid hk
  have HM0 := Lib.hid (h1.kept hk)
  have HS0 := Lib.hid (h2.kept hk)
  have HD0 := Lib.hid (h3.kept hk)
  have HMM := Lib.hid (Dict.kept hm hk)
  have HBS := Lib.hid (show bm ≠ gs from Dict.blk hm h2)
  have HBD := Lib.hid (show bm ≠ gd from Dict.blk hm h3)
  have HBM := Lib.hid (show bm ≠ gm from Dict.blk hm h1)
  obtain ⟨lk, hkey⟩ := keyN_some (s, d) hs hd
  have HKEY := Lib.hid hkey
  obtain ⟨q, hq⟩ : ∃ q, q = l.contains (s, d) := ⟨_, rfl⟩
  obtain ⟨z, hz⟩ : ∃ z : Int, z = if q = true then 1 else 0 := ⟨_, rfl⟩
  have hz2 : 0 ≤ z ∧ z ≤ 1 := by rw [hz]; split <;> omega
  have hzw : IntKind.i64.wrap (z + 1) = z + 1 := IntWalk.i64_in _ (by omega)
  have HQ := Lib.hid hq
  have HZ := Lib.hid hz
  have HV := Lib.hid (show ((if l.contains (s, d) = true then some (Value.int .i64 1) else none).getD (.int .i64 0)) = .int .i64 z by rw [← hq, hz]; split <;> rfl)
  clear hk h1 h2 h3 hm hkey hq hz hz2 hs hd
  go_enter Try.func61, Try.ntmps61
  go_upto_region 1 with fail
  generalize (w.alloc (.cells #[.int .i64 xa, .int .i64 xn, .int .i64 xd, .int .i64 xv] 55)) = W at *
  obtain ⟨v0, st, w1, e1, e2, e3, e4⟩ := Dict.entry (w := W.drew) (Dict.drew HMM.out) kl_key law_key Try.underlying75 (fun u => zeroI u) (by unfold maxLen; omega) HKEY.out (fun a ha => encN_inj a _ ha)
  obtain ⟨w2, e5, e6, e7⟩ := e4 (.int .i64 (z + 1))
  have e0 := Dict.look (Dict.drew HMM.out) law_key Try.underlying75 (zeroI _) HKEY.out
  rw [show ((if l.contains (s, d) = true then some (Value.int .i64 1) else none).getD (.int .i64 0)) = .int .i64 z from HV.out] at e0
  have e2' := e2
  rw [show ((if l.contains (s, d) = true then some (Value.int .i64 1) else none).getD (.int .i64 0)) = .int .i64 z from HV.out] at e2'
  have T1 := Lib.hid (Touch.of_grown (S := fun b => b = bm) e3 (fun b hb => by cases hb; rfl))
  have T2 := Lib.hid (Touch.of_grown (S := fun b => b = bm) e7 (fun b hb => by cases hb; rfl))
  clear e4 e2 e3 e7
  have hA : W.drew.cell? ⟨gm, 0, none⟩ = some (.map (some bm)) ∧ W.drew.cell? ⟨gs, 0, none⟩ = some (.string s) ∧ W.drew.cell? ⟨gd, 0, none⟩ = some (.string d) := ⟨(HM0.out.drewN 1).cell 0, (HS0.out.drewN 1).cell 0, (HD0.out.drewN 1).cell 0⟩
  have hB : w1.cell? ⟨gm, 0, none⟩ = some (.map (some bm)) ∧ w1.cell? ⟨gs, 0, none⟩ = some (.string s) ∧ w1.cell? ⟨gd, 0, none⟩ = some (.string d) := ⟨T1.out.cell hA.1 (fun e => HBM.out e.symm), T1.out.cell hA.2.1 (fun e => HBS.out e.symm), T1.out.cell hA.2.2 (fun e => HBD.out e.symm)⟩
  have hC : w2.cell? ⟨gm, 0, none⟩ = some (.map (some bm)) ∧ w2.cell? ⟨gs, 0, none⟩ = some (.string s) ∧ w2.cell? ⟨gd, 0, none⟩ = some (.string d) := ⟨T2.out.cell hA.1 (fun e => HBM.out e.symm), T2.out.cell hA.2.1 (fun e => HBS.out e.symm), T2.out.cell hA.2.2 (fun e => HBD.out e.symm)⟩
  have f0 : (Instr.lookup 75 (.map (some bm)) (.agg #[.string s, .string d]) false).run Try.prog W.drew = .ok (.int .i64 z) W.drew := e0
  have f1 : (Instr.mapEntry 75 (.map (some bm)) (.agg #[.string s, .string d])).run Try.prog W.drew = .ok (.tuple #[v0, .int .i64 st]) w1 := e1
  have f2 : (Instr.lookup 75 (.map (some bm)) (.agg #[.string s, .string d]) false).run Try.prog w1 = .ok (.int .i64 z) w1 := e2'
  have f5 : (Instr.entryStore 75 (.map (some bm)) (.int .i64 st) (.int .i64 (z + 1))).run Try.prog w1 = .ok () w2 := e5
  have E6 := Lib.hid e6
  have T3 := Lib.hid (show Touch (fun b => b = bm) w w2 from (Touch.of_kept (S := fun b => b = bm) (kept_drewN HK.out 1)).trans T2.out fun b hb => .inl hb)
  clear e0 e1 e2' e5 e6
  refine wp_region_held_drew (S := (fun w9 => w9.cell? ⟨gm, 0, none⟩ = some (.map (some bm)) ∧ w9.cell? ⟨gs, 0, none⟩ = some (.string s) ∧ w9.cell? ⟨gd, 0, none⟩ = some (.string d))) (by kernel_rfl) (by first | assumption | ((try dsimp only); simp [*]; done)) (fun hHeld => ?_)
  refine wpAnyH_take (i := 0) (oi := { dst := some 6, op := Op.load 75 (Operand.tmp 1), type := 75, pos := "check.go:184", after := #[], guard := none }) (v := ?va0) rfl (by kernel_rfl) (by kernel_rfl) (by kernel_rfl) (fun _ _ _ h => h) (Or.inl ⟨by rfl, ?ya0⟩) (by assumption) ?ra0
  case ya0 => (intro w hSw; (try dsimp only at hSw); go_simp <;> with_reducible rfl)
  (try simp only [Act.put, List.setIfInBounds_toArray, List.set_cons_zero, List.set_cons_succ])
  refine wpAnyH_take (i := 1) (oi := { dst := some 7, op := Op.load 9 (Operand.tmp 2), type := 9, pos := "check.go:184", after := #[], guard := none }) (v := ?va1) rfl (by kernel_rfl) (by kernel_rfl) (by kernel_rfl) (fun _ _ _ h => h) (Or.inl ⟨by rfl, ?ya1⟩) (by assumption) ?ra1
  case ya1 => (intro w hSw; (try dsimp only at hSw); go_simp <;> with_reducible rfl)
  (try simp only [Act.put, List.setIfInBounds_toArray, List.set_cons_zero, List.set_cons_succ])
  refine wpAnyH_take (i := 2) (oi := { dst := some 8, op := Op.load 9 (Operand.tmp 3), type := 9, pos := "check.go:184", after := #[], guard := none }) (v := ?va2) rfl (by kernel_rfl) (by kernel_rfl) (by kernel_rfl) (fun _ _ _ h => h) (Or.inl ⟨by rfl, ?ya2⟩) (by assumption) ?ra2
  case ya2 => (intro w hSw; (try dsimp only at hSw); go_simp <;> with_reducible rfl)
  (try simp only [Act.put, List.setIfInBounds_toArray, List.set_cons_zero, List.set_cons_succ])
  refine wpAnyH_take (i := 3) (oi := { dst := some 9, op := Op.build 102 #[(0, Operand.tmp 7), (1, Operand.tmp 8)], type := 102, pos := "check.go:184", after := #[{ on := 1, ground := Ground.data }, { on := 2, ground := Ground.data }], guard := none }) (v := ?va3) rfl (by kernel_rfl) (by kernel_rfl) (by kernel_rfl) (fun _ _ _ h => h) (Or.inl ⟨by rfl, ?ya3⟩) (by assumption) ?ra3
  case ya3 => (intro w hSw; (try dsimp only at hSw); go_simp <;> with_reducible rfl)
  (try simp only [Act.put, List.setIfInBounds_toArray, List.set_cons_zero, List.set_cons_succ])
  refine wpAnyH_ready (rs := [4, 6]) (by kernel_rfl) (by simp) ?_
  refine AllReadyH.cons (o := { dst := some 10, op := Op.lookup 75 (Operand.tmp 6) (Operand.tmp 9) false, type := 3, pos := "check.go:184", after := #[{ on := 0, ground := Ground.data }, { on := 3, ground := Ground.data }], guard := none }) rfl (fun K hK => ?_) (AllReadyH.cons (o := { dst := some 12, op := Op.mapEntry 75 (Operand.tmp 6) (Operand.tmp 9), type := 0, pos := "check.go:184", after := #[{ on := 0, ground := Ground.data }, { on := 3, ground := Ground.data }, { on := 0, ground := Ground.phase }, { on := 1, ground := Ground.phase }, { on := 2, ground := Ground.phase }, { on := 3, ground := Ground.phase }, { on := 4, ground := Ground.textOnly Departure.mapOpAssignEntry }, { on := 5, ground := Ground.textOnly Departure.mapOpAssignEntry }], guard := none }) rfl (fun K hK => ?_) AllReadyH.nil)
  · skip
    go_simp
    clear hHeld
    refine hK.out _ _ ?_ (fun hHeld => ?_)
    · (first | exact hA | exact hB | exact hC)
    clear hK K
    (try simp only [Act.put, List.setIfInBounds_toArray, List.set_cons_zero, List.set_cons_succ])
    refine wpAnyH_take (i := 5) (oi := { dst := some 11, op := Op.binOp BinOp.add 3 (Operand.tmp 10) (Operand.const (Value.int IntKind.i64 1)) 3, type := 3, pos := "check.go:184", after := #[{ on := 4, ground := Ground.data }], guard := none }) (v := ?vab5) rfl (by kernel_rfl) (by kernel_rfl) (by kernel_rfl) (fun _ _ _ h => h) (Or.inl ⟨by rfl, ?yab5⟩) (by assumption) ?rab5
    case yab5 => (intro w hSw; (try dsimp only at hSw); go_simp <;> with_reducible rfl)
    (try simp only [Act.put, List.setIfInBounds_toArray, List.set_cons_zero, List.set_cons_succ])
    refine wpAnyH_ready (rs := [6]) (by kernel_rfl) (by simp) ?_
    refine AllReadyH.cons (o := { dst := some 12, op := Op.mapEntry 75 (Operand.tmp 6) (Operand.tmp 9), type := 0, pos := "check.go:184", after := #[{ on := 0, ground := Ground.data }, { on := 3, ground := Ground.data }, { on := 0, ground := Ground.phase }, { on := 1, ground := Ground.phase }, { on := 2, ground := Ground.phase }, { on := 3, ground := Ground.phase }, { on := 4, ground := Ground.textOnly Departure.mapOpAssignEntry }, { on := 5, ground := Ground.textOnly Departure.mapOpAssignEntry }], guard := none }) rfl (fun K hK => ?_) AllReadyH.nil
    skip
    go_simp
    clear hHeld
    refine hK.out _ _ ?_ (fun hHeld => ?_)
    · (first | exact hA | exact hB | exact hC)
    clear hK K
    (try simp only [Act.put, List.setIfInBounds_toArray, List.set_cons_zero, List.set_cons_succ])
    refine wpAnyH_take (i := 7) (oi := { dst := some 13, op := Op.extract (Operand.tmp 12) 1, type := 3, pos := "check.go:184", after := #[{ on := 6, ground := Ground.data }], guard := none }) (v := ?vab7) rfl (by kernel_rfl) (by kernel_rfl) (by kernel_rfl) (fun _ _ _ h => h) (Or.inl ⟨by rfl, ?yab7⟩) (by assumption) ?rab7
    case yab7 => (intro w hSw; (try dsimp only at hSw); go_simp <;> with_reducible rfl)
    (try simp only [Act.put, List.setIfInBounds_toArray, List.set_cons_zero, List.set_cons_succ])
    refine wpAnyH_ready (rs := [8]) (by kernel_rfl) (by simp) ?_
    refine AllReadyH.cons (o := { dst := none, op := Op.entryStore 75 (Operand.tmp 6) (Operand.tmp 13) (Operand.tmp 11), type := 0, pos := "check.go:184", after := #[{ on := 0, ground := Ground.data }, { on := 7, ground := Ground.data }, { on := 5, ground := Ground.data }, { on := 6, ground := Ground.chain }, { on := 0, ground := Ground.phase }, { on := 1, ground := Ground.phase }, { on := 2, ground := Ground.phase }, { on := 3, ground := Ground.phase }, { on := 4, ground := Ground.phase }, { on := 5, ground := Ground.phase }, { on := 6, ground := Ground.phase }, { on := 7, ground := Ground.phase }], guard := none }) rfl (fun K hK => ?_) AllReadyH.nil
    skip
    go_simp
    clear hHeld
    refine hK.out _ _ ?_ (fun hHeld => ?_)
    · (first | exact hA | exact hB | exact hC)
    clear hK K
    (try simp only [Act.put, List.setIfInBounds_toArray, List.set_cons_zero, List.set_cons_succ])
    refine wpAnyH_done (by kernel_rfl) ?_ _
    clear f0 f1 f2 f5 hA hB T1 T2
    obtain ⟨c0, c1, c2⟩ := hC
    have e8 := Dict.look E6.out law_key Try.underlying75 (zeroI _) HKEY.out
    simp only [if_true, Option.getD_some] at e8
    have e8' : (Instr.lookup 75 (.map (some bm)) (.agg #[.string s, .string d]) false).run Try.prog w2 = .ok (.int .i64 (z + 1)) w2 := e8
    clear e8
    cases q
    · have hz0 := HZ.out
      simp only [Bool.false_eq_true, if_false] at hz0
      subst hz0
      go_wp2_with fail
      go_ret
      exact ⟨by rw [← HQ.out]; rfl, fun _ => SeenN.put E6.out, T3.out⟩
    · have hz0 := HZ.out
      simp only [if_true] at hz0
      subst hz0
      go_wp2_with fail
      go_ret
      exact ⟨by rw [← HQ.out]; rfl, fun h => (by rw [← HQ.out] at h; cases h), T3.out⟩
  · skip
    go_simp
    clear hHeld
    refine hK.out _ _ ?_ (fun hHeld => ?_)
    · (first | exact hA | exact hB | exact hC)
    clear hK K
    (try simp only [Act.put, List.setIfInBounds_toArray, List.set_cons_zero, List.set_cons_succ])
    refine wpAnyH_take (i := 7) (oi := { dst := some 13, op := Op.extract (Operand.tmp 12) 1, type := 3, pos := "check.go:184", after := #[{ on := 6, ground := Ground.data }], guard := none }) (v := ?vae7) rfl (by kernel_rfl) (by kernel_rfl) (by kernel_rfl) (fun _ _ _ h => h) (Or.inl ⟨by rfl, ?yae7⟩) (by assumption) ?rae7
    case yae7 => (intro w hSw; (try dsimp only at hSw); go_simp <;> with_reducible rfl)
    (try simp only [Act.put, List.setIfInBounds_toArray, List.set_cons_zero, List.set_cons_succ])
    refine wpAnyH_ready (rs := [4]) (by kernel_rfl) (by simp) ?_
    refine AllReadyH.cons (o := { dst := some 10, op := Op.lookup 75 (Operand.tmp 6) (Operand.tmp 9) false, type := 3, pos := "check.go:184", after := #[{ on := 0, ground := Ground.data }, { on := 3, ground := Ground.data }], guard := none }) rfl (fun K hK => ?_) AllReadyH.nil
    skip
    go_simp
    clear hHeld
    refine hK.out _ _ ?_ (fun hHeld => ?_)
    · (first | exact hA | exact hB | exact hC)
    clear hK K
    (try simp only [Act.put, List.setIfInBounds_toArray, List.set_cons_zero, List.set_cons_succ])
    refine wpAnyH_take (i := 5) (oi := { dst := some 11, op := Op.binOp BinOp.add 3 (Operand.tmp 10) (Operand.const (Value.int IntKind.i64 1)) 3, type := 3, pos := "check.go:184", after := #[{ on := 4, ground := Ground.data }], guard := none }) (v := ?vae5) rfl (by kernel_rfl) (by kernel_rfl) (by kernel_rfl) (fun _ _ _ h => h) (Or.inl ⟨by rfl, ?yae5⟩) (by assumption) ?rae5
    case yae5 => (intro w hSw; (try dsimp only at hSw); go_simp <;> with_reducible rfl)
    (try simp only [Act.put, List.setIfInBounds_toArray, List.set_cons_zero, List.set_cons_succ])
    refine wpAnyH_ready (rs := [8]) (by kernel_rfl) (by simp) ?_
    refine AllReadyH.cons (o := { dst := none, op := Op.entryStore 75 (Operand.tmp 6) (Operand.tmp 13) (Operand.tmp 11), type := 0, pos := "check.go:184", after := #[{ on := 0, ground := Ground.data }, { on := 7, ground := Ground.data }, { on := 5, ground := Ground.data }, { on := 6, ground := Ground.chain }, { on := 0, ground := Ground.phase }, { on := 1, ground := Ground.phase }, { on := 2, ground := Ground.phase }, { on := 3, ground := Ground.phase }, { on := 4, ground := Ground.phase }, { on := 5, ground := Ground.phase }, { on := 6, ground := Ground.phase }, { on := 7, ground := Ground.phase }], guard := none }) rfl (fun K hK => ?_) AllReadyH.nil
    skip
    go_simp
    clear hHeld
    refine hK.out _ _ ?_ (fun hHeld => ?_)
    · (first | exact hA | exact hB | exact hC)
    clear hK K
    (try simp only [Act.put, List.setIfInBounds_toArray, List.set_cons_zero, List.set_cons_succ])
    refine wpAnyH_done (by kernel_rfl) ?_ _
    clear f0 f1 f2 f5 hA hB T1 T2
    obtain ⟨c0, c1, c2⟩ := hC
    have e8 := Dict.look E6.out law_key Try.underlying75 (zeroI _) HKEY.out
    simp only [if_true, Option.getD_some] at e8
    have e8' : (Instr.lookup 75 (.map (some bm)) (.agg #[.string s, .string d]) false).run Try.prog w2 = .ok (.int .i64 (z + 1)) w2 := e8
    clear e8
    cases q
    · have hz0 := HZ.out
      simp only [Bool.false_eq_true, if_false] at hz0
      subst hz0
      go_wp2_with fail
      go_ret
      exact ⟨by rw [← HQ.out]; rfl, fun _ => SeenN.put E6.out, T3.out⟩
    · have hz0 := HZ.out
      simp only [if_true] at hz0
      subst hz0
      go_wp2_with fail
      go_ret
      exact ⟨by rw [← HQ.out]; rfl, fun h => (by rw [← HQ.out] at h; cases h), T3.out⟩
set_option maxHeartbeats 8000000 in
theorem meth_6 (xa xn xd : Int) (xh : Bool) (xs xl : Int) (vC vT : Value) (s d : ByteArray) (l : List (ByteArray × ByteArray)) (n bm gm gs gd : Nat) (w : World) (hs : s.size ≤ maxLen) (hd : d.size ≤ maxLen) (hn : n ≤ 100) (h1 : Blk w gm 75 #[.map (some bm)]) (h2 : Blk w gs 9 #[.string s]) (h3 : Blk w gd 9 #[.string d]) (hm : SeenN w bm n l) :
    Calls Try.prog 71 #[.agg #[.int .i64 xa, .int .i64 xn, .int .i64 xd, .bool xh, .int .i64 xs, .int .i64 xl, vC, vT], .pointer (some ⟨gm, 0, none⟩), .pointer (some ⟨gs, 0, none⟩), .pointer (some ⟨gd, 0, none⟩)] w (TwiceG bm n l (s, d) w) := by
  have hk : Kept w (w.alloc (.cells #[.int .i64 xa, .int .i64 xn, .int .i64 xd, .bool xh, .int .i64 xs, .int .i64 xl, vC, vT] 52)) := (Below.refl _ _).alloc (Nat.le_refl _) _
  have HK := Lib.hid hk
  have HM0 := Lib.hid (h1.kept hk)
  have HS0 := Lib.hid (h2.kept hk)
  have HD0 := Lib.hid (h3.kept hk)
  have HMM := Lib.hid (Dict.kept hm hk)
  have HBS := Lib.hid (show bm ≠ gs from Dict.blk hm h2)
  have HBD := Lib.hid (show bm ≠ gd from Dict.blk hm h3)
  have HBM := Lib.hid (show bm ≠ gm from Dict.blk hm h1)
  obtain ⟨lk, hkey⟩ := keyN_some (s, d) hs hd
  have HKEY := Lib.hid hkey
  obtain ⟨q, hq⟩ : ∃ q, q = l.contains (s, d) := ⟨_, rfl⟩
  obtain ⟨z, hz⟩ : ∃ z : Int, z = if q = true then 1 else 0 := ⟨_, rfl⟩
  have hz2 : 0 ≤ z ∧ z ≤ 1 := by rw [hz]; split <;> omega
  have hzw : IntKind.i64.wrap (z + 1) = z + 1 := IntWalk.i64_in _ (by omega)
  have HQ := Lib.hid hq
  have HZ := Lib.hid hz
  have HV := Lib.hid (show ((if l.contains (s, d) = true then some (Value.int .i64 1) else none).getD (.int .i64 0)) = .int .i64 z by rw [← hq, hz]; split <;> rfl)
  clear hk h1 h2 h3 hm hkey hq hz hz2 hs hd
  go_enter Try.func71, Try.ntmps71
  go_upto_region 1 with fail
  generalize (w.alloc (.cells #[.int .i64 xa, .int .i64 xn, .int .i64 xd, .bool xh, .int .i64 xs, .int .i64 xl, vC, vT] 52)) = W at *
  obtain ⟨v0, st, w1, e1, e2, e3, e4⟩ := Dict.entry (w := W.drew) (Dict.drew HMM.out) kl_key law_key Try.underlying75 (fun u => zeroI u) (by unfold maxLen; omega) HKEY.out (fun a ha => encN_inj a _ ha)
  obtain ⟨w2, e5, e6, e7⟩ := e4 (.int .i64 (z + 1))
  have e0 := Dict.look (Dict.drew HMM.out) law_key Try.underlying75 (zeroI _) HKEY.out
  rw [show ((if l.contains (s, d) = true then some (Value.int .i64 1) else none).getD (.int .i64 0)) = .int .i64 z from HV.out] at e0
  have e2' := e2
  rw [show ((if l.contains (s, d) = true then some (Value.int .i64 1) else none).getD (.int .i64 0)) = .int .i64 z from HV.out] at e2'
  have T1 := Lib.hid (Touch.of_grown (S := fun b => b = bm) e3 (fun b hb => by cases hb; rfl))
  have T2 := Lib.hid (Touch.of_grown (S := fun b => b = bm) e7 (fun b hb => by cases hb; rfl))
  clear e4 e2 e3 e7
  have hA : W.drew.cell? ⟨gm, 0, none⟩ = some (.map (some bm)) ∧ W.drew.cell? ⟨gs, 0, none⟩ = some (.string s) ∧ W.drew.cell? ⟨gd, 0, none⟩ = some (.string d) := ⟨(HM0.out.drewN 1).cell 0, (HS0.out.drewN 1).cell 0, (HD0.out.drewN 1).cell 0⟩
  have hB : w1.cell? ⟨gm, 0, none⟩ = some (.map (some bm)) ∧ w1.cell? ⟨gs, 0, none⟩ = some (.string s) ∧ w1.cell? ⟨gd, 0, none⟩ = some (.string d) := ⟨T1.out.cell hA.1 (fun e => HBM.out e.symm), T1.out.cell hA.2.1 (fun e => HBS.out e.symm), T1.out.cell hA.2.2 (fun e => HBD.out e.symm)⟩
  have hC : w2.cell? ⟨gm, 0, none⟩ = some (.map (some bm)) ∧ w2.cell? ⟨gs, 0, none⟩ = some (.string s) ∧ w2.cell? ⟨gd, 0, none⟩ = some (.string d) := ⟨T2.out.cell hA.1 (fun e => HBM.out e.symm), T2.out.cell hA.2.1 (fun e => HBS.out e.symm), T2.out.cell hA.2.2 (fun e => HBD.out e.symm)⟩
  have f0 : (Instr.lookup 75 (.map (some bm)) (.agg #[.string s, .string d]) false).run Try.prog W.drew = .ok (.int .i64 z) W.drew := e0
  have f1 : (Instr.mapEntry 75 (.map (some bm)) (.agg #[.string s, .string d])).run Try.prog W.drew = .ok (.tuple #[v0, .int .i64 st]) w1 := e1
  have f2 : (Instr.lookup 75 (.map (some bm)) (.agg #[.string s, .string d]) false).run Try.prog w1 = .ok (.int .i64 z) w1 := e2'
  have f5 : (Instr.entryStore 75 (.map (some bm)) (.int .i64 st) (.int .i64 (z + 1))).run Try.prog w1 = .ok () w2 := e5
  have E6 := Lib.hid e6
  have T3 := Lib.hid (show Touch (fun b => b = bm) w w2 from (Touch.of_kept (S := fun b => b = bm) (kept_drewN HK.out 1)).trans T2.out fun b hb => .inl hb)
  clear e0 e1 e2' e5 e6
  refine wp_region_held_drew (S := (fun w9 => w9.cell? ⟨gm, 0, none⟩ = some (.map (some bm)) ∧ w9.cell? ⟨gs, 0, none⟩ = some (.string s) ∧ w9.cell? ⟨gd, 0, none⟩ = some (.string d))) (by kernel_rfl) (by first | assumption | ((try dsimp only); simp [*]; done)) (fun hHeld => ?_)
  refine wpAnyH_take (i := 0) (oi := { dst := some 6, op := Op.load 75 (Operand.tmp 1), type := 75, pos := "check.go:251", after := #[], guard := none }) (v := ?va0) rfl (by kernel_rfl) (by kernel_rfl) (by kernel_rfl) (fun _ _ _ h => h) (Or.inl ⟨by rfl, ?ya0⟩) (by assumption) ?ra0
  case ya0 => (intro w hSw; (try dsimp only at hSw); go_simp <;> with_reducible rfl)
  (try simp only [Act.put, List.setIfInBounds_toArray, List.set_cons_zero, List.set_cons_succ])
  refine wpAnyH_take (i := 1) (oi := { dst := some 7, op := Op.load 9 (Operand.tmp 2), type := 9, pos := "check.go:251", after := #[], guard := none }) (v := ?va1) rfl (by kernel_rfl) (by kernel_rfl) (by kernel_rfl) (fun _ _ _ h => h) (Or.inl ⟨by rfl, ?ya1⟩) (by assumption) ?ra1
  case ya1 => (intro w hSw; (try dsimp only at hSw); go_simp <;> with_reducible rfl)
  (try simp only [Act.put, List.setIfInBounds_toArray, List.set_cons_zero, List.set_cons_succ])
  refine wpAnyH_take (i := 2) (oi := { dst := some 8, op := Op.load 9 (Operand.tmp 3), type := 9, pos := "check.go:251", after := #[], guard := none }) (v := ?va2) rfl (by kernel_rfl) (by kernel_rfl) (by kernel_rfl) (fun _ _ _ h => h) (Or.inl ⟨by rfl, ?ya2⟩) (by assumption) ?ra2
  case ya2 => (intro w hSw; (try dsimp only at hSw); go_simp <;> with_reducible rfl)
  (try simp only [Act.put, List.setIfInBounds_toArray, List.set_cons_zero, List.set_cons_succ])
  refine wpAnyH_take (i := 3) (oi := { dst := some 9, op := Op.build 102 #[(0, Operand.tmp 7), (1, Operand.tmp 8)], type := 102, pos := "check.go:251", after := #[{ on := 1, ground := Ground.data }, { on := 2, ground := Ground.data }], guard := none }) (v := ?va3) rfl (by kernel_rfl) (by kernel_rfl) (by kernel_rfl) (fun _ _ _ h => h) (Or.inl ⟨by rfl, ?ya3⟩) (by assumption) ?ra3
  case ya3 => (intro w hSw; (try dsimp only at hSw); go_simp <;> with_reducible rfl)
  (try simp only [Act.put, List.setIfInBounds_toArray, List.set_cons_zero, List.set_cons_succ])
  refine wpAnyH_ready (rs := [4, 6]) (by kernel_rfl) (by simp) ?_
  refine AllReadyH.cons (o := { dst := some 10, op := Op.lookup 75 (Operand.tmp 6) (Operand.tmp 9) false, type := 3, pos := "check.go:251", after := #[{ on := 0, ground := Ground.data }, { on := 3, ground := Ground.data }], guard := none }) rfl (fun K hK => ?_) (AllReadyH.cons (o := { dst := some 12, op := Op.mapEntry 75 (Operand.tmp 6) (Operand.tmp 9), type := 0, pos := "check.go:251", after := #[{ on := 0, ground := Ground.data }, { on := 3, ground := Ground.data }, { on := 0, ground := Ground.phase }, { on := 1, ground := Ground.phase }, { on := 2, ground := Ground.phase }, { on := 3, ground := Ground.phase }, { on := 4, ground := Ground.textOnly Departure.mapOpAssignEntry }, { on := 5, ground := Ground.textOnly Departure.mapOpAssignEntry }], guard := none }) rfl (fun K hK => ?_) AllReadyH.nil)
  · skip
    go_simp
    clear hHeld
    refine hK.out _ _ ?_ (fun hHeld => ?_)
    · (first | exact hA | exact hB | exact hC)
    clear hK K
    (try simp only [Act.put, List.setIfInBounds_toArray, List.set_cons_zero, List.set_cons_succ])
    refine wpAnyH_take (i := 5) (oi := { dst := some 11, op := Op.binOp BinOp.add 3 (Operand.tmp 10) (Operand.const (Value.int IntKind.i64 1)) 3, type := 3, pos := "check.go:251", after := #[{ on := 4, ground := Ground.data }], guard := none }) (v := ?vab5) rfl (by kernel_rfl) (by kernel_rfl) (by kernel_rfl) (fun _ _ _ h => h) (Or.inl ⟨by rfl, ?yab5⟩) (by assumption) ?rab5
    case yab5 => (intro w hSw; (try dsimp only at hSw); go_simp <;> with_reducible rfl)
    (try simp only [Act.put, List.setIfInBounds_toArray, List.set_cons_zero, List.set_cons_succ])
    refine wpAnyH_ready (rs := [6]) (by kernel_rfl) (by simp) ?_
    refine AllReadyH.cons (o := { dst := some 12, op := Op.mapEntry 75 (Operand.tmp 6) (Operand.tmp 9), type := 0, pos := "check.go:251", after := #[{ on := 0, ground := Ground.data }, { on := 3, ground := Ground.data }, { on := 0, ground := Ground.phase }, { on := 1, ground := Ground.phase }, { on := 2, ground := Ground.phase }, { on := 3, ground := Ground.phase }, { on := 4, ground := Ground.textOnly Departure.mapOpAssignEntry }, { on := 5, ground := Ground.textOnly Departure.mapOpAssignEntry }], guard := none }) rfl (fun K hK => ?_) AllReadyH.nil
    skip
    go_simp
    clear hHeld
    refine hK.out _ _ ?_ (fun hHeld => ?_)
    · (first | exact hA | exact hB | exact hC)
    clear hK K
    (try simp only [Act.put, List.setIfInBounds_toArray, List.set_cons_zero, List.set_cons_succ])
    refine wpAnyH_take (i := 7) (oi := { dst := some 13, op := Op.extract (Operand.tmp 12) 1, type := 3, pos := "check.go:251", after := #[{ on := 6, ground := Ground.data }], guard := none }) (v := ?vab7) rfl (by kernel_rfl) (by kernel_rfl) (by kernel_rfl) (fun _ _ _ h => h) (Or.inl ⟨by rfl, ?yab7⟩) (by assumption) ?rab7
    case yab7 => (intro w hSw; (try dsimp only at hSw); go_simp <;> with_reducible rfl)
    (try simp only [Act.put, List.setIfInBounds_toArray, List.set_cons_zero, List.set_cons_succ])
    refine wpAnyH_ready (rs := [8]) (by kernel_rfl) (by simp) ?_
    refine AllReadyH.cons (o := { dst := none, op := Op.entryStore 75 (Operand.tmp 6) (Operand.tmp 13) (Operand.tmp 11), type := 0, pos := "check.go:251", after := #[{ on := 0, ground := Ground.data }, { on := 7, ground := Ground.data }, { on := 5, ground := Ground.data }, { on := 6, ground := Ground.chain }, { on := 0, ground := Ground.phase }, { on := 1, ground := Ground.phase }, { on := 2, ground := Ground.phase }, { on := 3, ground := Ground.phase }, { on := 4, ground := Ground.phase }, { on := 5, ground := Ground.phase }, { on := 6, ground := Ground.phase }, { on := 7, ground := Ground.phase }], guard := none }) rfl (fun K hK => ?_) AllReadyH.nil
    skip
    go_simp
    clear hHeld
    refine hK.out _ _ ?_ (fun hHeld => ?_)
    · (first | exact hA | exact hB | exact hC)
    clear hK K
    (try simp only [Act.put, List.setIfInBounds_toArray, List.set_cons_zero, List.set_cons_succ])
    refine wpAnyH_done (by kernel_rfl) ?_ _
    clear f0 f1 f2 f5 hA hB T1 T2
    obtain ⟨c0, c1, c2⟩ := hC
    have e8 := Dict.look E6.out law_key Try.underlying75 (zeroI _) HKEY.out
    simp only [if_true, Option.getD_some] at e8
    have e8' : (Instr.lookup 75 (.map (some bm)) (.agg #[.string s, .string d]) false).run Try.prog w2 = .ok (.int .i64 (z + 1)) w2 := e8
    clear e8
    cases q
    · have hz0 := HZ.out
      simp only [Bool.false_eq_true, if_false] at hz0
      subst hz0
      go_wp2_with fail
      go_ret
      exact ⟨by rw [← HQ.out]; rfl, fun _ => SeenN.put E6.out, T3.out⟩
    · have hz0 := HZ.out
      simp only [if_true] at hz0
      subst hz0
      go_wp2_with fail
      go_ret
      exact ⟨by rw [← HQ.out]; rfl, fun h => (by rw [← HQ.out] at h; cases h), T3.out⟩
  · skip
    go_simp
    clear hHeld
    refine hK.out _ _ ?_ (fun hHeld => ?_)
    · (first | exact hA | exact hB | exact hC)
    clear hK K
    (try simp only [Act.put, List.setIfInBounds_toArray, List.set_cons_zero, List.set_cons_succ])
    refine wpAnyH_take (i := 7) (oi := { dst := some 13, op := Op.extract (Operand.tmp 12) 1, type := 3, pos := "check.go:251", after := #[{ on := 6, ground := Ground.data }], guard := none }) (v := ?vae7) rfl (by kernel_rfl) (by kernel_rfl) (by kernel_rfl) (fun _ _ _ h => h) (Or.inl ⟨by rfl, ?yae7⟩) (by assumption) ?rae7
    case yae7 => (intro w hSw; (try dsimp only at hSw); go_simp <;> with_reducible rfl)
    (try simp only [Act.put, List.setIfInBounds_toArray, List.set_cons_zero, List.set_cons_succ])
    refine wpAnyH_ready (rs := [4]) (by kernel_rfl) (by simp) ?_
    refine AllReadyH.cons (o := { dst := some 10, op := Op.lookup 75 (Operand.tmp 6) (Operand.tmp 9) false, type := 3, pos := "check.go:251", after := #[{ on := 0, ground := Ground.data }, { on := 3, ground := Ground.data }], guard := none }) rfl (fun K hK => ?_) AllReadyH.nil
    skip
    go_simp
    clear hHeld
    refine hK.out _ _ ?_ (fun hHeld => ?_)
    · (first | exact hA | exact hB | exact hC)
    clear hK K
    (try simp only [Act.put, List.setIfInBounds_toArray, List.set_cons_zero, List.set_cons_succ])
    refine wpAnyH_take (i := 5) (oi := { dst := some 11, op := Op.binOp BinOp.add 3 (Operand.tmp 10) (Operand.const (Value.int IntKind.i64 1)) 3, type := 3, pos := "check.go:251", after := #[{ on := 4, ground := Ground.data }], guard := none }) (v := ?vae5) rfl (by kernel_rfl) (by kernel_rfl) (by kernel_rfl) (fun _ _ _ h => h) (Or.inl ⟨by rfl, ?yae5⟩) (by assumption) ?rae5
    case yae5 => (intro w hSw; (try dsimp only at hSw); go_simp <;> with_reducible rfl)
    (try simp only [Act.put, List.setIfInBounds_toArray, List.set_cons_zero, List.set_cons_succ])
    refine wpAnyH_ready (rs := [8]) (by kernel_rfl) (by simp) ?_
    refine AllReadyH.cons (o := { dst := none, op := Op.entryStore 75 (Operand.tmp 6) (Operand.tmp 13) (Operand.tmp 11), type := 0, pos := "check.go:251", after := #[{ on := 0, ground := Ground.data }, { on := 7, ground := Ground.data }, { on := 5, ground := Ground.data }, { on := 6, ground := Ground.chain }, { on := 0, ground := Ground.phase }, { on := 1, ground := Ground.phase }, { on := 2, ground := Ground.phase }, { on := 3, ground := Ground.phase }, { on := 4, ground := Ground.phase }, { on := 5, ground := Ground.phase }, { on := 6, ground := Ground.phase }, { on := 7, ground := Ground.phase }], guard := none }) rfl (fun K hK => ?_) AllReadyH.nil
    skip
    go_simp
    clear hHeld
    refine hK.out _ _ ?_ (fun hHeld => ?_)
    · (first | exact hA | exact hB | exact hC)
    clear hK K
    (try simp only [Act.put, List.setIfInBounds_toArray, List.set_cons_zero, List.set_cons_succ])
    refine wpAnyH_done (by kernel_rfl) ?_ _
    clear f0 f1 f2 f5 hA hB T1 T2
    obtain ⟨c0, c1, c2⟩ := hC
    have e8 := Dict.look E6.out law_key Try.underlying75 (zeroI _) HKEY.out
    simp only [if_true, Option.getD_some] at e8
    have e8' : (Instr.lookup 75 (.map (some bm)) (.agg #[.string s, .string d]) false).run Try.prog w2 = .ok (.int .i64 (z + 1)) w2 := e8
    clear e8
    cases q
    · have hz0 := HZ.out
      simp only [Bool.false_eq_true, if_false] at hz0
      subst hz0
      go_wp2_with fail
      go_ret
      exact ⟨by rw [← HQ.out]; rfl, fun _ => SeenN.put E6.out, T3.out⟩
    · have hz0 := HZ.out
      simp only [if_true] at hz0
      subst hz0
      go_wp2_with fail
      go_ret
      exact ⟨by rw [← HQ.out]; rfl, fun h => (by rw [← HQ.out] at h; cases h), T3.out⟩
end Go.Proofs.Ytcklmhbcjgiplaa
