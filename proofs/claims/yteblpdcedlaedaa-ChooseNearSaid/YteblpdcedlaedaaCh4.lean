/-
  Package choose by contract: on, asked.
-/
import Derived.Test.YteblpdcedlaedaaCh3
namespace Go.Proofs.Yteblpdcedlaedaa
open Go.RowKit
set_option maxRecDepth 100000

def gv (f : FV) : ByteArray × Int := (f.1, (f.2 : Nat))
/-- How the search goes on in a type's interfaces. -/
def onL : List FV → GR
  | [] => (gz, abB)
  | [f] => (gv f, ⟨#[]⟩)
  | _ => (gz, chB)
def onR (D : List TD) (s n d : ByteArray) : GR := onL (realM D (mostL D s n d))
theorem accO_M (D : List TD) (f : FV) : accO D f.1 (f.2 : Nat) = accM D f := by
  unfold accO accM memO
  rw [if_pos (by simp), Int.toNat_natCast]
  cases (metL D f.1)[f.2]? <;> rfl
theorem realM_next {D : List TD} {l : List FV} {k : Nat} {f : FV} (h : l[k]? = some f) : realM D (l.take (k + 1)) = realM D (l.take k) ++ if decide (bits .and .i64 (accM D f) 1024 = 0) then [f] else [] := filter_next _ h

set_option maxHeartbeats 8000000 in
theorem ch_on (D : List TD) (s n d : ByteArray) (v : Value) (w : World) (h : TyR w v D) (hs : s.size ≤ maxLen) :
    Calls Try.prog 28 #[v, .string s, .agg #[.string n, .string d]] w fun e w' => e = .returned (resG (onR D s n d)) ∧ Kept w w' := by
  have H := Lib.hid h
  have HS := Lib.hid hs
  have k0 : Kept w ((w.alloc (.cells #[.string n, .string d] 54)).alloc (.cells #[.string ⟨#[]⟩, .int .i64 0] 24)) := ((Below.refl _ _).alloc (Nat.le_refl _) _).alloc (by simp) _
  have b0 : Blk ((w.alloc (.cells #[.string n, .string d] 54)).alloc (.cells #[.string ⟨#[]⟩, .int .i64 0] 24)) w.heap.size 54 #[.string n, .string d] := (Blk.new w _ _).alloc _
  have b1 : Blk ((w.alloc (.cells #[.string n, .string d] 54)).alloc (.cells #[.string ⟨#[]⟩, .int .i64 0] 24)) (w.heap.size + 1) 24 #[.string ⟨#[]⟩, .int .i64 0] := Blk.at_ (by simp)
  have q0 := b0.cell 0
  have q1 := b0.cell 1
  simp only [List.getElem?_toArray, List.getElem?_cons_succ, List.getElem?_cons_zero] at q0 q1
  have zq := b0.lt
  have K0 := Lib.hid k0
  have B1 := Lib.hid b1
  have hal := all_len h s
  clear h hs k0 b0 b1
  go_enter Try.func28, Try.ntmps28
  go_upto_region 1 with fail
  generalize ((w.alloc (.cells #[.string n, .string d] 54)).alloc (.cells #[.string ⟨#[]⟩, .int .i64 0] 24)) = W at *
  go_wp2_with fail
  refine (find_Most D s s n d v W (H.out.kept K0.out) HS.out).mono ?_
  rintro e w2 ⟨vm, rfl, hm, k2⟩
  obtain ⟨A, hA⟩ : ∃ A, A = mostL D s n d := ⟨_, rfl⟩
  have hAl : A.length ≤ 100 := by rw [hA]; exact Nat.le_trans (mostL_len D s n d) hal
  obtain ⟨N, hN⟩ : ∃ N, N = A.length := ⟨_, rfl⟩
  have hm2 : RdF w2 vm A N := by rw [hN, hA]; exact hm.rd
  have HM := Lib.hid hm2
  have HN := Lib.hid hN
  have HA := Lib.hid (show onR D s n d = onL (realM D A) by rw [hA]; rfl)
  have hNl : N ≤ 100 := by omega
  have K2 := Lib.hid k2
  obtain ⟨-, am, cm, rfl, hcm1, hcm2, -⟩ := hm2
  clear hm k2 hA hN hAl hal q0 q1 zq
  go_wp2_with fail
  go_loopw [8, 23] (fun s8 s23 wr => ∃ (k : Nat) (L : List FV), k ≤ N ∧ s23 = .int .i64 k ∧ L = realM D (A.take k) ∧ wr.ownsRow w2.heap.size 24 2 s8 L.length (L.flatMap encF) ∧ Kept w2 wr) (fun _ s23 _ => N - (intOf s23).toNat)
  case atStart => exact ⟨0, [], by omega, rfl, rfl, World.ownsRow_nil _ _ _ _, Below.refl _ _⟩
  case round =>
    obtain ⟨k, L, hk, rfl, hL, hO, hK⟩ := hrel
    rename World => wr
    obtain ⟨ao, co, rfl, hoc, hoc2⟩ := own_slice hO
    have HO := Lib.hid hO
    have HK := Lib.hid hK
    have HL := Lib.hid hL
    have hLl : L.length ≤ 100 := by
      rw [hL]
      have h1 : (realM D (A.take k)).length ≤ (A.take k).length := List.length_filter_le _ _
      have h2 : (A.take k).length ≤ k := List.length_take_le _ _
      omega
    clear hO hL
    by_cases hlt : k < N
    · obtain ⟨f, hf⟩ : ∃ m, A[k]? = some m := ⟨_, List.getElem?_eq_getElem (by have := HN.out; omega)⟩
      obtain ⟨b, off, cc, hv, y0, y1⟩ := fnd_cell HN.out (HM.out.kept hK) hf
      simp only [Value.slice.injEq] at hv
      obtain ⟨rfl, -, rfl⟩ := hv
      have hnx := realM_next (D := D) hf
      rw [← HL.out, ← accO_M] at hnx
      have HNX := Lib.hid hnx
      have ka : Kept wr (wr.alloc (.cells #[.string f.1, .int .i64 f.2] 24)) := (Below.refl _ _).alloc (Nat.le_refl _) _
      have ba := Blk.new wr 24 #[.string f.1, .int .i64 f.2]
      have KA := Lib.hid (Kept.trans HK.out ka)
      have BA := Lib.hid ba
      have OA := Lib.hid (Touch.own (S := fun _ => False) (Touch.of_kept ka) HO.out (fun _ _ => id))
      clear hf hnx hK
      go_upto_region 5 with fail
      generalize (wr.alloc (.cells #[.string f.1, .int .i64 f.2] 24)) = WA at *
      clear y0 y1 ka
      have c0 := ba.cell 0
      have c1 := ba.cell 1
      simp only [List.getElem?_toArray, List.getElem?_cons_succ, List.getElem?_cons_zero] at c0 c1
      have al := ba.lt
      clear ba
      go_wp2_with fail
      refine (ch_member D f.1 f.2 _ WA (H.out.kept (Kept.trans K0.out (Kept.trans K2.out KA.out)))).mono ?_
      rintro e w5 ⟨rfl, k5⟩
      obtain ⟨m, hm⟩ : ∃ m, m = (memO D f.1 f.2).getD memZ0 := ⟨_, rfl⟩
      unfold memOV memVal_
      rw [← hm]
      have HACC := Lib.hid (show accO D f.1 f.2 = m.access by unfold accO; rw [hm])
      obtain ⟨bb, hbb⟩ : ∃ b, b = (memO D f.1 f.2).isSome := ⟨_, rfl⟩
      rw [← hbb]
      obtain ⟨acc, nm, ds, has, val⟩ := m
      simp only at HACC ⊢
      have kb : Kept w5 (w5.alloc (.cells #[.int .i64 acc, .string nm, .string ds, .bool has, .int .i64 val] 38)) := (Below.refl _ _).alloc (Nat.le_refl _) _
      have bm := Blk.new w5 38 #[.int .i64 acc, .string nm, .string ds, .bool has, .int .i64 val]
      have KB := Lib.hid (Kept.trans KA.out (Kept.trans k5 kb))
      have OB := Lib.hid (Touch.own (S := fun _ => False) (Touch.of_kept (Kept.trans k5 kb)) OA.out (fun _ _ => id))
      have BB := BA.out.kept (Kept.trans k5 kb)
      clear hm hbb k5 kb c0 c1 al
      go_upto_region 6 with fail
      generalize (w5.alloc (.cells #[.int .i64 acc, .string nm, .string ds, .bool has, .int .i64 val] 38)) = WB at *
      have c0 := BB.cell 0
      have c1 := BB.cell 1
      simp only [List.getElem?_toArray, List.getElem?_cons_succ, List.getElem?_cons_zero] at c0 c1
      have t0 := bm.cell 0
      simp only [List.getElem?_toArray, List.getElem?_cons_succ, List.getElem?_cons_zero] at t0
      have bl := BB.lt
      have tl := bm.lt
      have zb := KB.out.size
      clear BB bm
      by_cases hb : bits .and .i64 acc 1024 = 0
      · have e1 : (bits .and .i64 acc 1024 == 0) = true := by simp [hb]
        have HL2 := Lib.hid (show L ++ [f] = realM D (A.take (k + 1)) by rw [HNX.out, HACC.out, hb]; simp)
        clear hb
        go_wp2_with (at_builtin; refine wpl_pushH _ elem_fnd rfl _ _ rfl w2.heap.size _ L.length _ rfl OB.out [.string f.1, .int .i64 f.2] _ WB.heap.size rfl rfl rfl (one_F f) (by omega) (by omega) zb ?_; intro v6 w6 ho6 hg6 hk6 hb6; have HO6 := Lib.hid ho6; have HB6 := Lib.hid (Below.trans KB.out hb6); clear ho6 hg6 hk6 hb6)
        go_roundw
        case rel => exact ⟨k + 1, L ++ [f], by omega, by go_num, HL2.out, by simpa [encF] using HO6.out, HB6.out⟩
        case measure => simp [intOf]; omega
      · have e1 : (bits .and .i64 acc 1024 == 0) = false := by simp [hb]
        have HL2 := Lib.hid (show L = realM D (A.take (k + 1)) by rw [HNX.out, HACC.out, if_neg (by simpa using hb)]; simp)
        clear hb
        go_wp2_with fail
        go_roundw
        case rel => exact ⟨k + 1, L, by omega, by go_num, HL2.out, OB.out, KB.out⟩
        case measure => simp [intOf]; omega
    · have hL : L = realM D A := by rw [HL.out, List.take_of_length_le (by have := HN.out; omega)]
      have HF0 := Lib.hid (show onR D s n d = onL L by rw [HA.out, hL])
      obtain ⟨M, hM⟩ : ∃ M, M = L.length := ⟨_, rfl⟩
      have HM2 := Lib.hid hM
      rw [← hM] at HO hoc hLl ⊢
      clear hL hM hK
      have kp := Kept.trans K2.out HK.out
      have PF := fnd_put (B1.out.kept kp)
      have KP := Lib.hid (PF.keeps (Kept.trans K0.out kp) (by have := K0.out.size; omega))
      have g0 := PF.g0
      have g1 := PF.g1
      have h0 := PF.h0
      have h1 := PF.h1
      have zr := PF.lt
      have PF := Lib.hid PF
      clear kp
      by_cases m0 : M = 0
      · have hl0 : L = [] := List.eq_nil_of_length_eq_zero (by rw [← HM2.out]; exact m0)
        subst m0
        have HL0 := Lib.hid hl0
        clear hl0
        have E0 := Lib.hid (PF.out.e0 (.string ⟨#[]⟩))
        have E1 := Lib.hid (PF.out.e1 (.string ⟨#[]⟩) (.int .i64 0))
        have PE := Lib.hid (fnd_put (PF.out.set (.string ⟨#[]⟩) (.int .i64 0)))
        have HF := Lib.hid (show resG (onR D s n d) = resG (gz, abB) by rw [HF0.out, HL0.out]; rfl)
        go_wp2_with fail
        refine bodyPost_ret (v := resG (onR D s n d)) (by rw [HF.out]; simp [results, Try.results28, go_sem, E0.out, E1.out, PE.out.g0, PE.out.g1, resG, gz, abB]) rfl ⟨rfl, ?_⟩
        exact KP.out _ _
      · by_cases m1 : M = 1
        · obtain ⟨f, hf⟩ : ∃ f, L = [f] := List.length_eq_one_iff.1 (by rw [← HM2.out]; exact m1)
          obtain ⟨b, off, cc, hv, y0, y1⟩ := fnd_cell (l := L) (k := 0) HM2.out (by exact Rd.of_own HO.out) (by rw [hf]; rfl)
          simp only [Value.slice.injEq] at hv
          obtain ⟨rfl, -, rfl⟩ := hv
          have yb : b < wr.heap.size := World.block_lt_of_cell? wr _ y0
          have HL0 := Lib.hid hf
          subst m1
          simp only [Nat.zero_mul, Nat.add_zero, Nat.zero_add] at y0 y1
          clear hf m0
          have E0 := Lib.hid (PF.out.e0 (.string f.1))
          have E1 := Lib.hid (PF.out.e1 (.string f.1) (.int .i64 f.2))
          have PE := Lib.hid (fnd_put (PF.out.set (.string f.1) (.int .i64 f.2)))
          have HF := Lib.hid (show resG (onR D s n d) = resG (gv f, ⟨#[]⟩) by rw [HF0.out, HL0.out]; rfl)
          go_wp2_with fail
          refine bodyPost_ret (v := resG (onR D s n d)) (by rw [HF.out]; simp [results, Try.results28, go_sem, E0.out, E1.out, PE.out.g0, PE.out.g1, resG, gv]) rfl ⟨rfl, ?_⟩
          exact KP.out _ _
        · have HL0 := Lib.hid (show onL L = (gz, chB) by
            match L, HM2.out with
            | [], h => exact absurd h m0
            | [_], h => exact absurd h m1
            | _ :: _ :: _, _ => rfl)
          have e0 : ((M : Int) == 0) = false := by rw [beq_eq_false_iff_ne]; omega
          have e1 : ((M : Int) == 1) = false := by rw [beq_eq_false_iff_ne]; omega
          have E0 := Lib.hid (PF.out.e0 (.string ⟨#[]⟩))
          have E1 := Lib.hid (PF.out.e1 (.string ⟨#[]⟩) (.int .i64 0))
          have PE := Lib.hid (fnd_put (PF.out.set (.string ⟨#[]⟩) (.int .i64 0)))
          have HF := Lib.hid (show resG (onR D s n d) = resG (gz, chB) by rw [HF0.out, HL0.out])
          go_wp2_with fail
          refine bodyPost_ret (v := resG (onR D s n d)) (by rw [HF.out]; simp [results, Try.results28, go_sem, E0.out, E1.out, PE.out.g0, PE.out.g1, resG, gz, chB]) rfl ⟨rfl, ?_⟩
          exact KP.out _ _

def askV (D : List TD) (cls fc : ByteArray) (fi : Int) : Value := .tuple #[memVal_ ((memO D fc fi).getD memZ0), .bool (decide (there D cls) && (memO D fc fi).isSome)]

set_option maxHeartbeats 8000000 in
theorem ch_asked (D : List TD) (cls fc : ByteArray) (fi : Int) (v : Value) (w : World) (h : TyR w v D) :
    Calls Try.prog 22 #[v, .string cls, .agg #[.string fc, .int .i64 fi]] w fun e w' => e = .returned (askV D cls fc fi) ∧ Kept w w' := by
  have H := Lib.hid h
  have k0 : Kept w ((w.alloc (.cells #[.string fc, .int .i64 fi] 24)).alloc (.cells #[.int .i64 0, .string ⟨#[]⟩, .string ⟨#[]⟩, .bool false, .int .i64 0] 38)) := ((Below.refl _ _).alloc (Nat.le_refl _) _).alloc (by simp) _
  have b0 : Blk ((w.alloc (.cells #[.string fc, .int .i64 fi] 24)).alloc (.cells #[.int .i64 0, .string ⟨#[]⟩, .string ⟨#[]⟩, .bool false, .int .i64 0] 38)) w.heap.size 24 #[.string fc, .int .i64 fi] := (Blk.new w _ _).alloc _
  have b1 : Blk ((w.alloc (.cells #[.string fc, .int .i64 fi] 24)).alloc (.cells #[.int .i64 0, .string ⟨#[]⟩, .string ⟨#[]⟩, .bool false, .int .i64 0] 38)) (w.heap.size + 1) 38 #[.int .i64 0, .string ⟨#[]⟩, .string ⟨#[]⟩, .bool false, .int .i64 0] := Blk.at_ (by simp)
  have K0 := Lib.hid k0
  have B0 := Lib.hid b0
  have B1 := Lib.hid b1
  clear h k0 b0 b1
  go_enter Try.func22, Try.ntmps22
  go_upto_region 1 with fail
  generalize ((w.alloc (.cells #[.string fc, .int .i64 fi] 24)).alloc (.cells #[.int .i64 0, .string ⟨#[]⟩, .string ⟨#[]⟩, .bool false, .int .i64 0] 38)) = W at *
  cases ho : atO D cls with
  | none =>
    have CA := Lib.hid (ch_at_none D cls v W (H.out.kept K0.out) ho)
    have HTH := Lib.hid (show decide (there D cls) = false from decide_eq_false (by unfold there; rw [ho]; simp))
    clear ho
    go_wp2_with fail
    refine CA.out.mono ?_
    rintro e w1 ⟨rfl, k1⟩
    have kx : Kept w1 (w1.alloc (.cells #[.string ⟨#[]⟩, .string ⟨#[]⟩, .int .i64 0, .slice none 0 0, .slice none 0 0, .slice none 0 0] 36)) := (Below.refl _ _).alloc (Nat.le_refl _) _
    have KX := Lib.hid (Kept.trans k1 kx)
    clear CA k1 kx
    go_upto_region 2 with fail
    generalize (w1.alloc (.cells #[.string ⟨#[]⟩, .string ⟨#[]⟩, .int .i64 0, .slice none 0 0, .slice none 0 0, .slice none 0 0] 36)) = WX at *
    have bq := B0.out.kept KX.out
    have q0 := bq.cell 0
    have q1 := bq.cell 1
    simp only [List.getElem?_toArray, List.getElem?_cons_succ, List.getElem?_cons_zero] at q0 q1
    have zq := bq.lt
    clear bq
    go_wp2_with fail
    refine (ch_member D fc fi _ WX (H.out.kept (Kept.trans K0.out KX.out))).mono ?_
    rintro e w5 ⟨rfl, k5⟩
    obtain ⟨m, hm⟩ : ∃ m, m = (memO D fc fi).getD memZ0 := ⟨_, rfl⟩
    unfold memOV memVal_
    rw [← hm]
    obtain ⟨bb, hbb⟩ : ∃ b, b = (memO D fc fi).isSome := ⟨_, rfl⟩
    rw [← hbb]
    have HMM := Lib.hid hm
    have HBB := Lib.hid hbb
    obtain ⟨acc, nm, ds, has, val⟩ := m
    simp only
    have kb : Kept w5 (w5.alloc (.cells #[.int .i64 acc, .string nm, .string ds, .bool has, .int .i64 val] 38)) := (Below.refl _ _).alloc (Nat.le_refl _) _
    have bm := Blk.new w5 38 #[.int .i64 acc, .string nm, .string ds, .bool has, .int .i64 val]
    have KY := Lib.hid (Kept.trans KX.out (Kept.trans k5 kb))
    clear hm hbb k5 kb q0 q1 zq
    go_upto_region 3 with fail
    generalize (w5.alloc (.cells #[.int .i64 acc, .string nm, .string ds, .bool has, .int .i64 val] 38)) = WY at *
    have BY := B1.out.kept KY.out
    have y0 := bm.cell 0
    have y1 := bm.cell 1
    have y2 := bm.cell 2
    have y3 := bm.cell 3
    have y4 := bm.cell 4
    simp only [List.getElem?_toArray, List.getElem?_cons_succ, List.getElem?_cons_zero] at y0 y1 y2 y3 y4
    have c0 := BY.cell 0
    have c1 := BY.cell 1
    have c2 := BY.cell 2
    have c3 := BY.cell 3
    have c4 := BY.cell 4
    simp only [List.getElem?_toArray, List.getElem?_cons_succ, List.getElem?_cons_zero] at c0 c1 c2 c3 c4
    have f0 := BY.frozen 0
    have f1 := BY.frozen 1
    have f2 := BY.frozen 2
    have f3 := BY.frozen 3
    have f4 := BY.frozen 4
    have tl := bm.lt
    have bl := BY.lt
    have MP := mput BY (.int .i64 acc) (.string nm) (.string ds) (.bool has) (.int .i64 val)
    have E0 := Lib.hid MP.e0
    have E1 := Lib.hid MP.e1
    have E2 := Lib.hid MP.e2
    have E3 := Lib.hid MP.e3
    have E4 := Lib.hid MP.e4
    have PB := MP.blk
    have KP := Lib.hid (MPut.keeps (Kept.trans K0.out KY.out) (Nat.le_succ w.heap.size) (.int .i64 acc) (.string nm) (.string ds) (.bool has) (.int .i64 val))
    have z0 := PB.cell 0
    have z1 := PB.cell 1
    have z2 := PB.cell 2
    have z3 := PB.cell 3
    have z4 := PB.cell 4
    simp only [List.getElem?_toArray, List.getElem?_cons_succ, List.getElem?_cons_zero] at z0 z1 z2 z3 z4
    have Z0 := Lib.hid z0
    have Z1 := Lib.hid z1
    have Z2 := Lib.hid z2
    have Z3 := Lib.hid z3
    have Z4 := Lib.hid z4
    clear MP PB BY bm z0 z1 z2 z3 z4
    go_wp2_with fail
    refine bodyPost_ret (v := askV D cls fc fi) (by unfold askV; rw [← HMM.out, ← HBB.out, HTH.out]; simp [results, Try.results22, go_sem, E0.out, E1.out, E2.out, E3.out, E4.out, Z0.out, Z1.out, Z2.out, Z3.out, Z4.out, memVal_]) rfl ⟨rfl, ?_⟩
    exact KP.out
  | some k =>
    obtain ⟨t, ht, -, hkl⟩ := atO_some ho
    have CA := Lib.hid (ch_at_some D cls k t v W (H.out.kept K0.out) ho ht)
    have HTH := Lib.hid (show decide (there D cls) = true from decide_eq_true (by unfold there; rw [ho]; rfl))
    clear ho ht
    go_wp2_with fail
    refine CA.out.mono ?_
    rintro e w1 ⟨ai, ci, af, cf, am, cm, rfl, -, -, k1⟩
    have kx : Kept w1 (w1.alloc (.cells #[.string t.name, .string t.super, .int .i64 t.access, .slice ai t.interfaces.length ci, .slice af t.fields.length cf, .slice am t.methods.length cm] 36)) := (Below.refl _ _).alloc (Nat.le_refl _) _
    have KX := Lib.hid (Kept.trans k1 kx)
    clear CA k1 kx
    go_upto_region 2 with fail
    generalize (w1.alloc (.cells #[.string t.name, .string t.super, .int .i64 t.access, .slice ai t.interfaces.length ci, .slice af t.fields.length cf, .slice am t.methods.length cm] 36)) = WX at *
    have bq := B0.out.kept KX.out
    have q0 := bq.cell 0
    have q1 := bq.cell 1
    simp only [List.getElem?_toArray, List.getElem?_cons_succ, List.getElem?_cons_zero] at q0 q1
    have zq := bq.lt
    clear bq
    go_wp2_with fail
    refine (ch_member D fc fi _ WX (H.out.kept (Kept.trans K0.out KX.out))).mono ?_
    rintro e w5 ⟨rfl, k5⟩
    obtain ⟨m, hm⟩ : ∃ m, m = (memO D fc fi).getD memZ0 := ⟨_, rfl⟩
    unfold memOV memVal_
    rw [← hm]
    obtain ⟨bb, hbb⟩ : ∃ b, b = (memO D fc fi).isSome := ⟨_, rfl⟩
    rw [← hbb]
    have HMM := Lib.hid hm
    have HBB := Lib.hid hbb
    obtain ⟨acc, nm, ds, has, val⟩ := m
    simp only
    have kb : Kept w5 (w5.alloc (.cells #[.int .i64 acc, .string nm, .string ds, .bool has, .int .i64 val] 38)) := (Below.refl _ _).alloc (Nat.le_refl _) _
    have bm := Blk.new w5 38 #[.int .i64 acc, .string nm, .string ds, .bool has, .int .i64 val]
    have KY := Lib.hid (Kept.trans KX.out (Kept.trans k5 kb))
    clear hm hbb k5 kb q0 q1 zq
    go_upto_region 3 with fail
    generalize (w5.alloc (.cells #[.int .i64 acc, .string nm, .string ds, .bool has, .int .i64 val] 38)) = WY at *
    have BY := B1.out.kept KY.out
    have y0 := bm.cell 0
    have y1 := bm.cell 1
    have y2 := bm.cell 2
    have y3 := bm.cell 3
    have y4 := bm.cell 4
    simp only [List.getElem?_toArray, List.getElem?_cons_succ, List.getElem?_cons_zero] at y0 y1 y2 y3 y4
    have c0 := BY.cell 0
    have c1 := BY.cell 1
    have c2 := BY.cell 2
    have c3 := BY.cell 3
    have c4 := BY.cell 4
    simp only [List.getElem?_toArray, List.getElem?_cons_succ, List.getElem?_cons_zero] at c0 c1 c2 c3 c4
    have f0 := BY.frozen 0
    have f1 := BY.frozen 1
    have f2 := BY.frozen 2
    have f3 := BY.frozen 3
    have f4 := BY.frozen 4
    have tl := bm.lt
    have bl := BY.lt
    have MP := mput BY (.int .i64 acc) (.string nm) (.string ds) (.bool has) (.int .i64 val)
    have E0 := Lib.hid MP.e0
    have E1 := Lib.hid MP.e1
    have E2 := Lib.hid MP.e2
    have E3 := Lib.hid MP.e3
    have E4 := Lib.hid MP.e4
    have PB := MP.blk
    have KP := Lib.hid (MPut.keeps (Kept.trans K0.out KY.out) (Nat.le_succ w.heap.size) (.int .i64 acc) (.string nm) (.string ds) (.bool has) (.int .i64 val))
    have z0 := PB.cell 0
    have z1 := PB.cell 1
    have z2 := PB.cell 2
    have z3 := PB.cell 3
    have z4 := PB.cell 4
    simp only [List.getElem?_toArray, List.getElem?_cons_succ, List.getElem?_cons_zero] at z0 z1 z2 z3 z4
    have Z0 := Lib.hid z0
    have Z1 := Lib.hid z1
    have Z2 := Lib.hid z2
    have Z3 := Lib.hid z3
    have Z4 := Lib.hid z4
    clear MP PB BY bm z0 z1 z2 z3 z4
    go_wp2_with fail
    refine bodyPost_ret (v := askV D cls fc fi) (by unfold askV; rw [← HMM.out, ← HBB.out, HTH.out]; simp [results, Try.results22, go_sem, E0.out, E1.out, E2.out, E3.out, E4.out, Z0.out, Z1.out, Z2.out, Z3.out, Z4.out, memVal_]) rfl ⟨rfl, ?_⟩
    exact KP.out
end Go.Proofs.Yteblpdcedlaedaa
