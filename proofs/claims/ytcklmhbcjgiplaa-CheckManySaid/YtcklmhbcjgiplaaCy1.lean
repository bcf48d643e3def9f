/-
  The law CheckMany: its walk.
-/
import Derived.Test.YtcklmhbcjgiplaaCy0
import Derived.Deep.RegionHeld2
import Derived.Deep.RegionLaw
import Derived.IntWalk
namespace Go.Proofs.Ytcklmhbcjgiplaa
set_option linter.unusedVariables false
set_option linter.unusedSimpArgs false
open Go.RowKit
set_option maxRecDepth 100000

theorem many_check {which n : Nat} (hw : which ≤ 3) (h3 : which = 3 → n ≠ 0) : checkE (manyK which n) = if 64 < n then 2 else 0 := by
  by_cases hn : 64 < n
  · rw [if_pos hn]
    have hm : muchB (manyK which n) = true := by
      rcases (by omega : which = 0 ∨ which = 1 ∨ which = 2 ∨ which = 3) with rfl | rfl | rfl | rfl
      · show (_ || decide (64 < ((List.range n).map (fieldM n)).length) || _ || _) = true
        rw [List.length_map, List.length_range, show decide (64 < n) = true by simpa using hn]
        simp
      · show (_ || decide (64 < ((List.range n).map fun i => methM n i []).length) || _) = true
        rw [List.length_map, List.length_range, show decide (64 < n) = true by simpa using hn]
        simp
      · show (_ || decide (64 < ((List.range n).map fun i => ((6 + 2 * i : Nat) : Int)).length) || _ || _ || _) = true
        rw [List.length_map, List.length_range, show decide (64 < n) = true by simpa using hn]
        simp
      · show (_ || (decide (64 < (List.replicate n (⟨0, 1, 0, 0⟩ : TrapC)).length) || _ || false)) = true
        rw [List.length_replicate, show decide (64 < n) = true by simpa using hn]
        simp
    unfold checkE
    rw [if_pos hm]
  · rw [if_neg hn]
    rcases (by omega : which = 0 ∨ which = 1 ∨ which = 2 ∨ which = 3) with rfl | rfl | rfl | rfl
    · exact many_0 ⟨n, by omega⟩
    · exact many_1 ⟨n, by omega⟩
    · exact many_2 ⟨n, by omega⟩
    · have := h3 rfl
      have h := many_3 ⟨n - 1, by omega⟩
      dsimp only at h
      rwa [show n - 1 + 1 = n by omega] at h
theorem poolM_text (n : Nat) : ∀ k ∈ poolM n, k.text.size ≤ maxLen := by
  intro k hk
  have h : k.text.size ≤ 16 := by
    simp only [poolM, midM, tailM, smallK, List.mem_append, List.mem_cons, List.mem_flatMap, List.not_mem_nil, or_false] at hk
    rcases hk with ((rfl | rfl | rfl | rfl) | ⟨i, _, hk⟩) | rfl | rfl | rfl
    all_goals try exact of_decide_eq_true rfl
    simp only [pairM, List.mem_cons, List.not_mem_nil, or_false] at hk
    rcases hk with rfl | rfl
    · exact (show (3 : Nat) ≤ 16 by omega)
    · exact (show (0 : Nat) ≤ 16 by omega)
  exact Nat.le_trans h (by unfold maxLen; omega)
theorem midM_succ (k : Nat) : midM (k + 1) = midM k ++ pairM k := by
  unfold midM
  rw [List.range_succ, List.flatMap_append]
  simp
/-- What the loops keep: the class, its constants. -/
structure MyI (w : World) (base g np : Nat) (xs : List Value) (aP : Option Addr) (cP : Nat) (vI vF vM : Value) (wr : World) : Prop where
  blk : Blk wr g 27 #[.int .i64 0, .int .i64 52, .slice aP np cP, .int .i64 33, .int .i64 2, .int .i64 4, vI, vF, vM]
  pool : wr.ownsRow base 47 5 (.slice aP np cP) np xs
  kept : Below w.heap.size w wr
  size : base ≤ wr.heap.size
theorem MyI.keep {w : World} {base g np : Nat} {xs : List Value} {aP : Option Addr} {cP : Nat} {vI vF vM : Value} {wr wx : World} (h : MyI w base g np xs aP cP vI vF vM wr) (hk : Kept wr wx) : MyI w base g np xs aP cP vI vF vM wx :=
  ⟨h.blk.kept hk, (Touch.of_kept (S := fun _ => False) hk).own h.pool fun _ _ h => h, Below.trans h.kept (hk.mono h.kept.size), Nat.le_trans h.size hk.size⟩
theorem own_ownM {w : World} {base base' sz sz' n n' : Nat} {e e' : TypeId} {v v' : Value} {xs xs' : List Value} (h : w.ownsRow base e sz v n xs) (h' : w.ownsRow base' e' sz' v' n' xs') (hne : e ≠ e') : ∀ k, v.ownBlock = some k → ¬ v'.ownBlock = some k := by
  intro k hk hk'
  rcases h'.2 with ⟨rfl, _⟩ | ⟨g, cap, cur, rfl, _, hh, _⟩
  · cases hk'
  · have : g = k := by simpa [Value.ownBlock] using hk'
    subst this
    exact own_ne h (show Blk w g e' cur from hh) hne g hk rfl
theorem wpl_litH {P : Program} {w : World} {t e : TypeId} {z : Value} {size bytes : Nat} (E : ElemTy P t e z size bytes) {ops : Array Oper} {rest : List Oper} {o : Oper} {a : Act} {Q : Exit → Act → World → Prop} (hgd : o.guard = none) (s x : Operand)
    (ho : o.op = .call { callee := .builtin .append, args := #[s, x], argTypes := #[t, t] })
    (base : Nat) (v : Value) (n : Nat) (xs : List Value) (hs : a.eval s = v) (hown : w.ownsRow base e size v n xs)
    (m : Nat) (cs : List Value) (e' : TypeId) (H : Nat) (hx : a.eval x = .slice (some ⟨H, 0, none⟩) m m) (hH : w.heap.size = H) (hl : cs.length = m * size) (h1 : ∀ u ∈ cs, u.oneCell' = true)
    (hbytes : (n + m) * bytes ≤ 140737488355328) (hsmall : n + m ≤ 9223372036854775807) (hbase : base ≤ w.heap.size)
    (h : ∀ a1 c1 w', w'.ownsRow base e size (.slice a1 (n + m) c1) (n + m) (xs ++ cs) → Touch (fun b => v.ownBlock = some b) w w' → wpList P ops Q rest (a.put o.dst (.slice a1 (n + m) c1)) w') : wpList P ops Q (o :: rest) a (w.alloc (.cells cs.toArray e')) := by
  subst hH
  exact wpl_lit E hgd s x ho base v n xs hs hown m cs e' hx hl h1 hbytes hsmall hbase h
/-- The code of methods: a row of its own, each. -/
def CodeM (wr : World) (x : MethC × Value × Value) : Prop := x.2.2 = .slice none 0 0 ∧ ∃ b, x.2.1 = .slice (some ⟨b, 0, none⟩) 1 1 ∧ Blk wr b 5 #[.int .u8 177]
theorem poolM_len (n : Nat) : (poolM n).length = 2 * n + 7 := by
  have h : (midM n).length = 2 * n := by
    induction n with
    | zero => rfl
    | succ n ih => rw [midM_succ, List.length_append, ih]; simp [pairM]; omega
  simp only [poolM, List.length_append, h]
  simp [smallK, tailM]
  omega
theorem name_form {k : Nat} (h : k ≤ 70) (W : World) : ∃ q r : Int, IntKind.u8.wrap ((k : Int) / 10) = q ∧ IntKind.u8.wrap ((k : Int) % 10) = r ∧ IntKind.u8.wrap (48 + q) = 48 + q ∧ IntKind.u8.wrap (48 + r) = 48 + r ∧ 0 ≤ q ∧ q ≤ 7 ∧ 0 ≤ r ∧ r ≤ 9 ∧
    (convert 49 9 (.slice (some ⟨W.heap.size, 0, none⟩) 3 3)).run Try.prog (W.alloc (.cells #[.int .u8 102, .int .u8 (48 + q), .int .u8 (48 + r)] 5)) = .ok (.string (nameM k)) (W.alloc (.cells #[.int .u8 102, .int .u8 (48 + q), .int .u8 (48 + r)] 5)) := by
  have w1 : IntKind.u8.wrap ((k : Int) / 10) = (k : Int) / 10 := IntWalk.u8_in _ (by omega)
  have w2 : IntKind.u8.wrap ((k : Int) % 10) = (k : Int) % 10 := IntWalk.u8_in _ (by omega)
  refine ⟨_, _, rfl, rfl, ?_⟩
  rw [w1, w2]
  refine ⟨IntWalk.u8_in _ (by omega), IntWalk.u8_in _ (by omega), by omega, by omega, by omega, by omega, ?_⟩
  have e : [Value.int .u8 102, .int .u8 (48 + (k : Int) / 10), .int .u8 (48 + (k : Int) % 10)] = ([102, UInt8.ofNat (48 + k / 10), UInt8.ofNat (48 + k % 10)] : List UInt8).map byteV := by
    simp only [List.map_cons, List.map_nil, byteV, UInt8.toNat_ofNat']
    rw [Nat.mod_eq_of_lt (show 48 + k / 10 < 2 ^ 8 by omega), Nat.mod_eq_of_lt (show 48 + k % 10 < 2 ^ 8 by omega)]
    simp
  exact conv_bytes (l := [102, UInt8.ofNat (48 + k / 10), UInt8.ofNat (48 + k % 10)]) (by rw [← e]; exact Rd.many W [Value.int .u8 102, .int .u8 (48 + (k : Int) / 10), .int .u8 (48 + (k : Int) % 10)] 5 (n := 3) rfl (by omega))
set_option maxHeartbeats 16000000 in
theorem walk_CheckMany (wh nz : Int) (w : World) (q1 : (Lit.int .i64 wh).wf = true) (q2 : (Lit.int .i64 nz).wf = true) :
    Calls Try.prog 11 #[.int .i64 wh, .int .i64 nz] w fun e w' => e = .returned (.bool true) ∧ Below w.heap.size w w' := by
  clear q1 q2
  go_enter Try.func11, Try.ntmps11
  go_wp2_with fail
  refine (alive5 w).mono ?_
  rintro e w1 ⟨rfl, hk1⟩
  have K1 := Lib.hid hk1
  clear hk1

  by_cases s1 : wh < 0
  · go_wp2_with fail
    go_ret
    exact ⟨rfl, K1.out⟩
  by_cases s2 : 3 < wh
  · go_wp2_with fail
    go_ret
    exact ⟨rfl, K1.out⟩
  by_cases s3 : nz < 0
  · go_wp2_with fail
    go_ret
    exact ⟨rfl, K1.out⟩
  by_cases s4 : 70 < nz
  · go_wp2_with fail
    go_ret
    exact ⟨rfl, K1.out⟩
  obtain ⟨N, rfl⟩ : ∃ N : Nat, nz = (N : Int) := ⟨nz.toNat, by omega⟩
  have HN70 := Lib.hid (show N ≤ 70 by omega)
  have HWH := Lib.hid (show wh = 0 ∨ wh = 1 ∨ wh = 2 ∨ wh = 3 by omega)
  go_upto_region 4 with fail
  clear s1 s2 s3 s4
  go_wp2_with fail
  refine (law5_small w1).mono ?_
  rintro e w2 ⟨vP, he, ho, hk2⟩
  have he : e = .returned (.agg #[.int .i64 0, .int .i64 52, vP, .int .i64 33, .int .i64 2, .int .i64 4, .slice none 0 0, .slice none 0 0, .slice none 0 0]) := he
  subst he
  have K2 := Lib.hid (Kept.trans K1.out hk2)
  obtain ⟨gP, kP, rfl, hq1, hq2, hgw, hgl, hcell, hfz⟩ := own_form ho (by omega)
  have HGP := Lib.hid (show w.heap.size ≤ gP from Nat.le_trans K1.out.size hgw)
  have HRO2 := Lib.hid ho
  have hS2 := hk2.size
  clear ho hk2 hcell hfz hgw hq1 hq2
  go_upto_region 5 with fail
  have hk3 : Kept w2 (w2.alloc (.cells #[.int .i64 0, .int .i64 52, .slice (some ⟨gP, 0, none⟩) 4 kP, .int .i64 33, .int .i64 2, .int .i64 4, .slice none 0 0, .slice none 0 0, .slice none 0 0] 27)) := (Below.refl _ _).alloc (Nat.le_refl _) _
  obtain ⟨g, hg⟩ : ∃ g, g = w2.heap.size := ⟨_, rfl⟩
  have HT := Lib.hid (Blk.new w2 27 #[.int .i64 0, .int .i64 52, .slice (some ⟨gP, 0, none⟩) 4 kP, .int .i64 33, .int .i64 2, .int .i64 4, .slice none 0 0, .slice none 0 0, .slice none 0 0])
  have HG := Lib.hid (show w2.heap.size ≤ g by omega)
  have hne : gP ≠ g := by omega
  have K3 := Lib.hid (Kept.trans K2.out hk3)
  have hgW : w.heap.size ≤ g := Nat.le_trans K2.out.size HG.out
  have hgS : w1.heap.size ≤ g := Nat.le_trans hS2 HG.out
  have HRO := Lib.hid ((Touch.of_kept (S := fun _ => False) hk3).own HRO2.out fun _ _ h => h)
  rw [← hg] at HT ⊢
  clear hk3 hgl HRO2
  generalize (w2.alloc (.cells #[.int .i64 0, .int .i64 52, .slice (some ⟨gP, 0, none⟩) 4 kP, .int .i64 33, .int .i64 2, .int .i64 4, .slice none 0 0, .slice none 0 0, .slice none 0 0] 27)) = w3 at *
  clear hg hS2
  have hb3 : w1.heap.size ≤ w3.heap.size := Nat.le_trans hgS (Nat.le_of_lt HT.out.lt)
  have t0 := HT.out.cell 0
  have t1 := HT.out.cell 1
  have t2 := HT.out.cell 2
  have t3 := HT.out.cell 3
  have t4 := HT.out.cell 4
  have t5 := HT.out.cell 5
  have t6 := HT.out.cell 6
  have t7 := HT.out.cell 7
  have t8 := HT.out.cell 8
  simp only [List.getElem?_toArray, List.getElem?_cons_succ, List.getElem?_cons_zero] at t0 t1 t2 t3 t4 t5 t6 t7 t8

  clear t0 t1 t2 t3 t4 t5 t6 t7 t8
  go_wp2_with fail
  go_loopw [7] (fun s7 wr => ∃ (k np : Nat) (aP : Option Addr) (cP : Nat), k ≤ N ∧ np = 4 + 2 * k ∧ s7 = .int .i64 k ∧ MyI w w1.heap.size g np ((smallK.pool ++ midM k).flatMap encC) aP cP (.slice none 0 0) (.slice none 0 0) (.slice none 0 0) wr) (fun s7 _ => N - (intOf s7).toNat)
  case atStart => exact ⟨0, 4, _, _, Nat.zero_le _, rfl, rfl, ⟨HT.out, HRO.out, K3.out, hb3⟩⟩
  case round =>
  obtain ⟨k, np, aP, cP, hk, hnp, rfl, hi⟩ := hrel
  have HI := Lib.hid hi
  have HNP := Lib.hid hnp
  clear hi hnp
  by_cases hlt : k < N
  · have hltI : (k : Int) < (N : Int) := by omega
    have h0I : (0 : Int) ≤ (k : Int) := by omega
    have hkI : (k : Int) ≤ 70 := by have := HN70.out; omega
    have hnp2 : np ≤ 144 := by have := HNP.out; have := HN70.out; omega
    obtain ⟨q, r, x1, x2, x3, x4, x5, x6, x7, x8, x9⟩ := name_form (k := k) (by omega) wr
    obtain ⟨nm, hnm⟩ : ∃ s, s = nameM k := ⟨_, rfl⟩
    rw [← hnm] at x9
    have HNM := Lib.hid hnm
    clear hnm
    go_upto_region 9 with fail
    have hkf : Kept wr (wr.alloc (.cells #[.int .u8 102, .int .u8 (48 + q), .int .u8 (48 + r)] 5)) := (Below.refl _ wr).alloc (Nat.le_refl _) _
    have HI2 := Lib.hid (HI.out.keep hkf)
    clear hkf x1 x2 x3 x4 x9
    generalize (wr.alloc (.cells #[.int .u8 102, .int .u8 (48 + q), .int .u8 (48 + r)] 5)) = wa at *
    have u2 := HI2.out.blk.cell 2
    simp only [List.getElem?_toArray, List.getElem?_cons_succ, List.getElem?_cons_zero] at u2
    have uf2 := HI2.out.blk.frozen 2
    go_upto_region 7 with (at_builtin; refine wpl_lit elem_const rfl (.tmp 50) (.tmp 57) rfl w1.heap.size (.slice aP np cP) np ((smallK.pool ++ midM k).flatMap encC) rfl HI2.out.pool 2 [.int .i64 1, .string nm, .int .i64 0, .int .i64 0, .int .i64 0, .int .i64 7, .string ⟨#[]⟩, .int .i64 0, .int .i64 (5 + 2 * (k : Int)), .int .i64 0] _ rfl rfl (by intro u hu; simp only [List.mem_cons, List.not_mem_nil, or_false] at hu; rcases hu with rfl | rfl | rfl | rfl | rfl | rfl | rfl | rfl | rfl | rfl <;> rfl) (by omega) (by omega) HI2.out.size ?_; intro a9 c9 w5 ho9 hg9; have HR9 := Lib.hid ho9; have HT9 := Lib.hid hg9; have HB9 := Lib.hid (HI2.out.blk.touch hg9 (fun e => own_ne HI2.out.pool HI2.out.blk (by decide) _ e rfl)); have vf2 := HB9.out.frozen 2; have v2 := HB9.out.cell 2; simp only [List.getElem?_toArray, List.getElem?_cons_succ, List.getElem?_cons_zero] at v2; clear ho9 hg9)
    have HJ := Lib.hid (show MyI w w1.heap.size g (np + 2) ((smallK.pool ++ midM (k + 1)).flatMap encC) a9 c9 (.slice none 0 0) (.slice none 0 0) (.slice none 0 0) (w5.setCell ⟨g, 2, none⟩ (.slice a9 (np + 2) c9)) from by
      refine ⟨HB9.out.set_ 2 (.slice a9 (np + 2) c9), ?_, ?_, ?_⟩
      · have h := own_away HR9.out HB9.out (by decide) 2 (.slice a9 (np + 2) c9)
        rw [show (smallK.pool ++ midM (k + 1)).flatMap encC = (smallK.pool ++ midM k).flatMap encC ++ [.int .i64 1, .string nm, .int .i64 0, .int .i64 0, .int .i64 0, .int .i64 7, .string ⟨#[]⟩, .int .i64 0, .int .i64 (5 + 2 * (k : Int)), .int .i64 0] by rw [midM_succ, ← List.append_assoc, List.flatMap_append (xs := smallK.pool ++ midM k)]; rw [HNM.out]; simp [pairM, encC]]
        exact h
      · exact (Below.trans HI2.out.kept ((HT9.out.below (fun b hb => (HI2.out.pool.lt b hb).1) HI2.out.size).mono K1.out.size)).setCell (p := ⟨g, 2, none⟩) hgW _
      · have := HT9.out.size
        have := HI2.out.size
        simp [World.setCell]
        omega)
    clear v2 vf2 u2 uf2
    generalize (w5.setCell ⟨g, 2, none⟩ (.slice a9 (np + 2) c9)) = w6 at *
    go_wp2_with fail
    go_roundw
    case rel => exact ⟨k + 1, np + 2, a9, c9, by omega, by have := HNP.out; omega, by go_num, HJ.out⟩
    case measure => simp [intOf]; omega
  obtain rfl : k = N := by omega
  go_upto_region 10 with fail
  have hnp2 : np ≤ 144 := by have := HNP.out; have := HN70.out; omega
  have u2 := HI.out.blk.cell 2
  simp only [List.getElem?_toArray, List.getElem?_cons_succ, List.getElem?_cons_zero] at u2
  have uf2 := HI.out.blk.frozen 2
  go_upto_region 11 with (at_builtin; refine wpl_lit elem_const rfl (.tmp 61) (.tmp 65) rfl w1.heap.size (.slice aP np cP) np ((smallK.pool ++ midM k).flatMap encC) rfl HI.out.pool 3 [.int .i64 1, .string ⟨#[73]⟩, .int .i64 0, .int .i64 0, .int .i64 0, .int .i64 1, .string ⟨#[40, 41, 86]⟩, .int .i64 0, .int .i64 0, .int .i64 0, .int .i64 1, .string ⟨#[67, 111, 100, 101]⟩, .int .i64 0, .int .i64 0, .int .i64 0] _ rfl rfl (by intro u hu; simp only [List.mem_cons, List.not_mem_nil, or_false] at hu; rcases hu with rfl | rfl | rfl | rfl | rfl | rfl | rfl | rfl | rfl | rfl | rfl | rfl | rfl | rfl | rfl <;> rfl) (by omega) (by omega) HI.out.size ?_; intro a9 c9 w5 ho9 hg9; have HR9 := Lib.hid ho9; have HT9 := Lib.hid hg9; have HB9 := Lib.hid (HI.out.blk.touch hg9 (fun e => own_ne HI.out.pool HI.out.blk (by decide) _ e rfl)); have vf2 := HB9.out.frozen 2; have v2 := HB9.out.cell 2; simp only [List.getElem?_toArray, List.getElem?_cons_succ, List.getElem?_cons_zero] at v2; clear ho9 hg9)
  have HJ := Lib.hid (show MyI w w1.heap.size g (np + 3) ((poolM k).flatMap encC) a9 c9 (.slice none 0 0) (.slice none 0 0) (.slice none 0 0) (w5.setCell ⟨g, 2, none⟩ (.slice a9 (np + 3) c9)) from by
    refine ⟨HB9.out.set_ 2 (.slice a9 (np + 3) c9), ?_, ?_, ?_⟩
    · have h := own_away HR9.out HB9.out (by decide) 2 (.slice a9 (np + 3) c9)
      rw [show (poolM k).flatMap encC = (smallK.pool ++ midM k).flatMap encC ++ [.int .i64 1, .string ⟨#[73]⟩, .int .i64 0, .int .i64 0, .int .i64 0, .int .i64 1, .string ⟨#[40, 41, 86]⟩, .int .i64 0, .int .i64 0, .int .i64 0, .int .i64 1, .string ⟨#[67, 111, 100, 101]⟩, .int .i64 0, .int .i64 0, .int .i64 0] by unfold poolM; rw [List.flatMap_append]; rfl]
      exact h
    · exact (Below.trans HI.out.kept ((HT9.out.below (fun b hb => (HI.out.pool.lt b hb).1) HI.out.size).mono K1.out.size)).setCell (p := ⟨g, 2, none⟩) hgW _
    · have := HT9.out.size
      have := HI.out.size
      simp [World.setCell]
      omega)
  clear v2 vf2 u2 uf2
  generalize (w5.setCell ⟨g, 2, none⟩ (.slice a9 (np + 3) c9)) = w6 at *
  clear HI HT9 HB9 HR9
  obtain ⟨NP, hNP⟩ : ∃ n, n = np + 3 := ⟨_, rfl⟩
  rw [← hNP] at HJ ⊢
  have HNPP := Lib.hid (show NP = 2 * k + 7 by have := HNP.out; omega)
  have hb7 : 7 ≤ (NP : Int) := by have := HNPP.out; omega
  have hb147 : (NP : Int) ≤ 147 := by have := HNPP.out; have := HN70.out; omega
  clear hNP hnp2 HNP
  have u2 := HJ.out.blk.cell 2
  simp only [List.getElem?_toArray, List.getElem?_cons_succ, List.getElem?_cons_zero] at u2
  have uf2 := HJ.out.blk.frozen 2
  go_upto_region 12 with fail
  clear u2 uf2
  have HDD := Lib.hid (show (NP : Int) - 2 = ((2 * k + 5 : Nat) : Int) by have := HNPP.out; omega)
  have hd0 : 0 ≤ (NP : Int) - 2 := by omega
  have hd1 : (NP : Int) - 2 ≤ 200 := by omega
  generalize (NP : Int) - 2 = D at *
  clear hb7 hb147
  have hwh := HWH.out
  clear HWH
  rcases hwh with h | h | h | h
  · have e0 : (wh == 0) = true := by rw [h]; rfl
    have e3 : (wh == 3) = false := by rw [h]; rfl
    clear h
    go_wp2_with fail
    go_loopw [10] (fun s10 wr => ∃ (i : Nat) (aX : Option Addr) (cX : Nat), i ≤ k ∧ s10 = .int .i64 i ∧ MyI w w1.heap.size g NP ((poolM k).flatMap encC) a9 c9 (.slice none 0 0) (.slice aX i cX) (.slice none 0 0) wr ∧ wr.ownsRow w1.heap.size 55 4 (.slice aX i cX) i (((List.range i).map (fieldM k)).flatMap encF)) (fun s10 _ => k - (intOf s10).toNat)
    case atStart => exact ⟨0, none, 0, Nat.zero_le _, rfl, HJ.out, ⟨rfl, .inl ⟨rfl, rfl⟩⟩⟩
    case round =>
      obtain ⟨i, aX, cX, hik, rfl, hi, ho⟩ := hrel
      have HI := Lib.hid hi
      obtain ⟨xs, hxs⟩ : ∃ l, l = ((List.range i).map (fieldM k)).flatMap encF := ⟨_, rfl⟩
      rw [← hxs] at ho
      have HX := Lib.hid hxs
      have HR := Lib.hid ho
      clear hi ho hxs HJ
      by_cases hlt : i < k
      · have hltI : (i : Int) < (k : Int) := by omega
        have h0I : (0 : Int) ≤ (i : Int) := by omega
        have hkI : (i : Int) ≤ 70 := by have := HN70.out; omega
        have hi70 : i ≤ 70 := by have := HN70.out; omega
        have u7 := HI.out.blk.cell 7
        simp only [List.getElem?_toArray, List.getElem?_cons_succ, List.getElem?_cons_zero] at u7
        have uf7 := HI.out.blk.frozen 7
        go_upto_region 14 with (at_builtin; refine wpl_lit elem_field rfl (.tmp 81) (.tmp 87) rfl w1.heap.size (.slice aX i cX) i (xs) rfl HR.out 1 [.int .i64 0, .int .i64 (5 + 2 * (i : Int)), .int .i64 D, .int .i64 0] _ rfl rfl (by intro u hu; simp only [List.mem_cons, List.not_mem_nil, or_false] at hu; rcases hu with rfl | rfl | rfl | rfl <;> rfl) (by omega) (by omega) HI.out.size ?_; intro a8 c8 w7 ho9 hg9; have HR9 := Lib.hid ho9; have HT9 := Lib.hid hg9; have HB9 := Lib.hid (HI.out.blk.touch hg9 (fun e => own_ne HR.out HI.out.blk (by decide) _ e rfl)); have vf2 := HB9.out.frozen 7; have v2 := HB9.out.cell 7; simp only [List.getElem?_toArray, List.getElem?_cons_succ, List.getElem?_cons_zero] at v2; clear ho9 hg9)
        have HJ := Lib.hid (show MyI w w1.heap.size g NP ((poolM k).flatMap encC) a9 c9 (.slice none 0 0) (.slice a8 (i + 1) c8) (.slice none 0 0) (w7.setCell ⟨g, 7, none⟩ (.slice a8 (i + 1) c8)) from by
          refine ⟨HB9.out.set_ 7 (.slice a8 (i + 1) c8), own_away (HT9.out.own HI.out.pool (own_ownM HI.out.pool HR.out (by decide))) HB9.out (by decide) 7 _, ?_, ?_⟩
          · exact (Below.trans HI.out.kept ((HT9.out.below (fun b hb => (HR.out.lt b hb).1) HI.out.size).mono K1.out.size)).setCell (p := ⟨g, 7, none⟩) hgW _
          · have := HT9.out.size
            have := HI.out.size
            simp [World.setCell]
            omega)
        have HS := Lib.hid (own_away HR9.out HB9.out (by decide) 7 (.slice a8 (i + 1) c8))
        clear HT9
        clear v2 vf2 u7 uf7
        generalize (w7.setCell ⟨g, 7, none⟩ (.slice a8 (i + 1) c8)) = w8 at *
        go_wp2_with fail
        go_roundw
        case rel =>
          refine ⟨i + 1, a8, c8, by omega, by go_num, HJ.out, ?_⟩
          have h := HS.out
          rw [HX.out] at h
          rw [show ((List.range (i + 1)).map (fieldM k)).flatMap encF = ((List.range i).map (fieldM k)).flatMap encF ++ [.int .i64 0, .int .i64 (5 + 2 * (i : Int)), .int .i64 D, .int .i64 0] by rw [List.range_succ, List.map_append, List.flatMap_append]; congr 1; try (first | rfl | simp [encF, fieldM, HDD.out])]
          exact h
        case measure => simp [intOf]; omega
      obtain rfl : i = k := by omega
      rw [HX.out] at HR
      have hcr : CRd wr (manyK 0 i) [] (.slice a9 NP c9) (.slice none 0 0) (.slice aX i cX) (.slice none 0 0) := by
        refine ⟨?_, Rd.nil, ?_, Rd.nil, fun x hx => by simp at hx, rfl⟩
        · show Rd wr 5 (.slice a9 NP c9) (poolM i).length ((poolM i).flatMap encC)
          rw [poolM_len, ← HNPP.out]
          exact Rd.of_own HI.out.pool
        · show Rd wr 4 (.slice aX i cX) ((List.range i).map (fieldM i)).length (((List.range i).map (fieldM i)).flatMap encF)
          rw [List.length_map, List.length_range]
          exact Rd.of_own HR.out
      have C := check_Check (manyK 0 i) [] _ _ _ _ wr hcr (poolM_text i)
      unfold IntG at C
      rw [many_check (by omega) (by omega)] at C
      have y0 := HI.out.blk.cell 0
      have y1 := HI.out.blk.cell 1
      have y2 := HI.out.blk.cell 2
      have y3 := HI.out.blk.cell 3
      have y4 := HI.out.blk.cell 4
      have y5 := HI.out.blk.cell 5
      have y6 := HI.out.blk.cell 6
      have y7 := HI.out.blk.cell 7
      have y8 := HI.out.blk.cell 8
      simp only [List.getElem?_toArray, List.getElem?_cons_succ, List.getElem?_cons_zero] at y0 y1 y2 y3 y4 y5 y6 y7 y8
      by_cases h64 : 64 < i
      · have h64I : (64 : Int) < (i : Int) := by omega
        rw [if_pos h64] at C
        go_wp2_with fail
        refine C.mono ?_
        rintro e wz ⟨rfl, hk6⟩
        have K6 := Lib.hid (Below.trans HI.out.kept (hk6.mono HI.out.kept.size))
        clear hk6 C y0 y1 y2 y3 y4 y5 y6 y7 y8
        go_wp2_with (go_at_call 21; refine (law5_num _ _).mono ?_; rintro e w9 ⟨rfl, rfl⟩)
        go_ret
        exact ⟨rfl, K6.out⟩
      · have h64I : ¬ (64 : Int) < (i : Int) := by omega
        rw [if_neg h64] at C
        go_wp2_with fail
        refine C.mono ?_
        rintro e wz ⟨rfl, hk6⟩
        have K6 := Lib.hid (Below.trans HI.out.kept (hk6.mono HI.out.kept.size))
        clear hk6 C y0 y1 y2 y3 y4 y5 y6 y7 y8
        go_wp2_with (go_at_call 21; refine (law5_num _ _).mono ?_; rintro e w9 ⟨rfl, rfl⟩)
        go_ret
        exact ⟨rfl, K6.out⟩
  · have e0 : (wh == 0) = false := by rw [h]; rfl
    have e1 : (wh == 1) = true := by rw [h]; rfl
    have e3 : (wh == 3) = false := by rw [h]; rfl
    clear h
    go_wp2_with fail
    go_loopw [10] (fun s10 wr => ∃ (i : Nat) (aX : Option Addr) (cX : Nat) (mv : List (MethC × Value × Value)), i ≤ k ∧ s10 = .int .i64 i ∧ MyI w w1.heap.size g NP ((poolM k).flatMap encC) a9 c9 (.slice none 0 0) (.slice none 0 0) (.slice aX i cX) wr ∧ wr.ownsRow w1.heap.size 52 8 (.slice aX i cX) i (mv.flatMap encM) ∧ mv.map (fun x => x.1) = ((List.range i).map fun j => methM k j []) ∧ ∀ x ∈ mv, CodeM wr x) (fun s10 _ => k - (intOf s10).toNat)
    case atStart => exact ⟨0, none, 0, [], Nat.zero_le _, rfl, HJ.out, ⟨rfl, .inl ⟨rfl, rfl⟩⟩, rfl, fun x hx => by cases hx⟩
    case round =>
      obtain ⟨i, aX, cX, mv, hik, rfl, hi, ho, hmf, hms⟩ := hrel
      have HI := Lib.hid hi
      have HMF := Lib.hid hmf
      have HMS := Lib.hid hms
      obtain ⟨xs, hxs⟩ : ∃ l, l = mv.flatMap encM := ⟨_, rfl⟩
      rw [← hxs] at ho
      have HX := Lib.hid hxs
      have HR := Lib.hid ho
      clear hi ho hxs hmf hms HJ
      by_cases hlt : i < k
      · have hltI : (i : Int) < (k : Int) := by omega
        have h0I : (0 : Int) ≤ (i : Int) := by omega
        have hkI : (i : Int) ≤ 70 := by have := HN70.out; omega
        have hi70 : i ≤ 70 := by have := HN70.out; omega
        have hkc : Kept wr (wr.alloc (.cells #[.int .u8 177] 5)) := (Below.refl _ wr).alloc (Nat.le_refl _) _
        have HIc := Lib.hid (HI.out.keep hkc)
        have HRc := Lib.hid (HR.out.alloc (.cells #[.int .u8 177] 5))
        clear hkc
        have x8 := HI.out.blk.cell 8
        simp only [List.getElem?_toArray, List.getElem?_cons_succ, List.getElem?_cons_zero] at x8
        have xf8 := HI.out.blk.frozen 8
        have u8 := HIc.out.blk.cell 8
        simp only [List.getElem?_toArray, List.getElem?_cons_succ, List.getElem?_cons_zero] at u8
        have uf8 := HIc.out.blk.frozen 8
        go_upto_region 14 with (at_builtin; refine wpl_litH elem_meth rfl (.tmp 93) (.tmp 101) rfl w1.heap.size (.slice aX i cX) i (xs) rfl HRc.out 1 [.int .i64 8, .int .i64 (5 + 2 * (i : Int)), .int .i64 (D + 1), .bool true, .int .i64 0, .int .i64 0, .slice (some ⟨wr.heap.size, 0, none⟩) 1 1, .slice none 0 0] _ (wr.heap.size + 1) rfl (by simp) rfl (by intro u hu; simp only [List.mem_cons, List.not_mem_nil, or_false] at hu; rcases hu with rfl | rfl | rfl | rfl | rfl | rfl | rfl | rfl <;> rfl) (by omega) (by omega) HIc.out.size ?_; intro a8 c8 w7 ho9 hg9; have HR9 := Lib.hid ho9; have HT9 := Lib.hid hg9; have HB9 := Lib.hid (HIc.out.blk.touch hg9 (fun e => own_ne HRc.out HIc.out.blk (by decide) _ e rfl)); have vf2 := HB9.out.frozen 8; have v2 := HB9.out.cell 8; simp only [List.getElem?_toArray, List.getElem?_cons_succ, List.getElem?_cons_zero] at v2; clear ho9 hg9)
        have HJ := Lib.hid (show MyI w w1.heap.size g NP ((poolM k).flatMap encC) a9 c9 (.slice none 0 0) (.slice none 0 0) (.slice a8 (i + 1) c8) (w7.setCell ⟨g, 8, none⟩ (.slice a8 (i + 1) c8)) from by
          refine ⟨HB9.out.set_ 8 (.slice a8 (i + 1) c8), own_away (HT9.out.own HIc.out.pool (own_ownM HIc.out.pool HRc.out (by decide))) HB9.out (by decide) 8 _, ?_, ?_⟩
          · exact (Below.trans HIc.out.kept ((HT9.out.below (fun b hb => (HRc.out.lt b hb).1) HIc.out.size).mono K1.out.size)).setCell (p := ⟨g, 8, none⟩) hgW _
          · have := HT9.out.size
            have := HIc.out.size
            simp [World.setCell]
            omega)
        have HS := Lib.hid (own_away HR9.out HB9.out (by decide) 8 (.slice a8 (i + 1) c8))
        have HMV : Hid (∀ x ∈ mv ++ [((methM k i [], .slice (some ⟨wr.heap.size, 0, none⟩) 1 1, .slice none 0 0) : MethC × Value × Value)], CodeM (w7.setCell ⟨g, 8, none⟩ (.slice a8 (i + 1) c8)) x) := Lib.hid (by
          have up : ∀ b, Blk (wr.alloc (.cells #[.int .u8 177] 5)) b 5 #[.int .u8 177] → Blk (w7.setCell ⟨g, 8, none⟩ (.slice a8 (i + 1) c8)) b 5 #[.int .u8 177] := fun b hb => by
            have h1 := hb.touch HT9.out (fun e => own_ne HRc.out hb (by decide) _ e rfl)
            exact h1.far (p := ⟨g, 8, none⟩) (Blk.ne_ h1 HB9.out (by decide)) _
          intro x hx
          rcases List.mem_append.1 hx with hx | hx
          · obtain ⟨h1, b, h2, h3⟩ := HMS.out x hx
            exact ⟨h1, b, h2, up b (h3.alloc _)⟩
          · rw [List.mem_singleton] at hx
            subst hx
            exact ⟨rfl, _, rfl, up _ (Blk.new wr _ _)⟩)
        clear HT9
        clear v2 vf2 u8 uf8
        generalize (w7.setCell ⟨g, 8, none⟩ (.slice a8 (i + 1) c8)) = w8 at *
        go_wp2_with fail
        go_roundw
        case rel =>
          refine ⟨i + 1, a8, c8, mv ++ [((methM k i [], .slice (some ⟨wr.heap.size, 0, none⟩) 1 1, .slice none 0 0) : MethC × Value × Value)], by omega, by go_num, HJ.out, ?_, ?_, HMV.out⟩
          · have h := HS.out
            rw [HX.out] at h
            rw [show (mv ++ [((methM k i [], .slice (some ⟨wr.heap.size, 0, none⟩) 1 1, .slice none 0 0) : MethC × Value × Value)]).flatMap encM = mv.flatMap encM ++ [.int .i64 8, .int .i64 (5 + 2 * (i : Int)), .int .i64 (D + 1), .bool true, .int .i64 0, .int .i64 0, .slice (some ⟨wr.heap.size, 0, none⟩) 1 1, .slice none 0 0] by
              have hdd := HDD.out
              have h1 : ((2 * k + 6 : Nat) : Int) = D + 1 := by omega
              have h2 : ((5 + 2 * i : Nat) : Int) = 5 + 2 * (i : Int) := by omega
              rw [List.flatMap_append]
              congr 1
              simp only [List.flatMap_cons, List.flatMap_nil, encM, methV, methM, h1, h2]
              rfl]
            exact h
          · rw [List.map_append, HMF.out, List.range_succ, List.map_append]
            rfl
        case measure => simp [intOf]; omega
      obtain rfl : i = k := by omega
      rw [HX.out] at HR
      have hcr : CRd wr (manyK 1 i) mv (.slice a9 NP c9) (.slice none 0 0) (.slice none 0 0) (.slice aX i cX) := by
        have hl : mv.length = i := by have h := congrArg List.length HMF.out; rw [List.length_map, List.length_map, List.length_range] at h; exact h
        refine ⟨?_, Rd.nil, Rd.nil, ?_, ?_, HMF.out.symm⟩
        · show Rd wr 5 (.slice a9 NP c9) (poolM i).length ((poolM i).flatMap encC)
          rw [poolM_len, ← HNPP.out]
          exact Rd.of_own HI.out.pool
        · rw [hl]
          exact Rd.of_own HR.out
        · intro x hx
          obtain ⟨h1, b, h2, h3⟩ := HMS.out x hx
          have hm : x.1 ∈ (List.range i).map fun j => methM i j [] := by rw [← HMF.out]; exact List.mem_map.2 ⟨x, hx, rfl⟩
          obtain ⟨j, _, hj⟩ := List.mem_map.1 hm
          rw [← hj, h1, h2]
          exact ⟨Rd.lit h3 rfl (by omega), Rd.nil⟩
      have C := check_Check (manyK 1 i) mv _ _ _ _ wr hcr (poolM_text i)
      unfold IntG at C
      rw [many_check (by omega) (by omega)] at C
      have y0 := HI.out.blk.cell 0
      have y1 := HI.out.blk.cell 1
      have y2 := HI.out.blk.cell 2
      have y3 := HI.out.blk.cell 3
      have y4 := HI.out.blk.cell 4
      have y5 := HI.out.blk.cell 5
      have y6 := HI.out.blk.cell 6
      have y7 := HI.out.blk.cell 7
      have y8 := HI.out.blk.cell 8
      simp only [List.getElem?_toArray, List.getElem?_cons_succ, List.getElem?_cons_zero] at y0 y1 y2 y3 y4 y5 y6 y7 y8
      by_cases h64 : 64 < i
      · have h64I : (64 : Int) < (i : Int) := by omega
        rw [if_pos h64] at C
        go_wp2_with fail
        refine C.mono ?_
        rintro e wz ⟨rfl, hk6⟩
        have K6 := Lib.hid (Below.trans HI.out.kept (hk6.mono HI.out.kept.size))
        clear hk6 C y0 y1 y2 y3 y4 y5 y6 y7 y8
        go_wp2_with (go_at_call 21; refine (law5_num _ _).mono ?_; rintro e w9 ⟨rfl, rfl⟩)
        go_ret
        exact ⟨rfl, K6.out⟩
      · have h64I : ¬ (64 : Int) < (i : Int) := by omega
        rw [if_neg h64] at C
        go_wp2_with fail
        refine C.mono ?_
        rintro e wz ⟨rfl, hk6⟩
        have K6 := Lib.hid (Below.trans HI.out.kept (hk6.mono HI.out.kept.size))
        clear hk6 C y0 y1 y2 y3 y4 y5 y6 y7 y8
        go_wp2_with (go_at_call 21; refine (law5_num _ _).mono ?_; rintro e w9 ⟨rfl, rfl⟩)
        go_ret
        exact ⟨rfl, K6.out⟩
  · have e0 : (wh == 0) = false := by rw [h]; rfl
    have e1 : (wh == 1) = false := by rw [h]; rfl
    have e2 : (wh == 2) = true := by rw [h]; rfl
    have e3 : (wh == 3) = false := by rw [h]; rfl
    clear h
    go_wp2_with fail
    go_loopw [10] (fun s10 wr => ∃ (i : Nat) (aX : Option Addr) (cX : Nat), i ≤ k ∧ s10 = .int .i64 i ∧ MyI w w1.heap.size g NP ((poolM k).flatMap encC) a9 c9 (.slice aX i cX) (.slice none 0 0) (.slice none 0 0) wr ∧ wr.ownsRow w1.heap.size 3 1 (.slice aX i cX) i (((List.range i).map fun j => ((6 + 2 * j : Nat) : Int)).flatMap encI)) (fun s10 _ => k - (intOf s10).toNat)
    case atStart => exact ⟨0, none, 0, Nat.zero_le _, rfl, HJ.out, ⟨rfl, .inl ⟨rfl, rfl⟩⟩⟩
    case round =>
      obtain ⟨i, aX, cX, hik, rfl, hi, ho⟩ := hrel
      have HI := Lib.hid hi
      obtain ⟨xs, hxs⟩ : ∃ l, l = ((List.range i).map fun j => ((6 + 2 * j : Nat) : Int)).flatMap encI := ⟨_, rfl⟩
      rw [← hxs] at ho
      have HX := Lib.hid hxs
      have HR := Lib.hid ho
      clear hi ho hxs HJ
      by_cases hlt : i < k
      · have hltI : (i : Int) < (k : Int) := by omega
        have h0I : (0 : Int) ≤ (i : Int) := by omega
        have hkI : (i : Int) ≤ 70 := by have := HN70.out; omega
        have hi70 : i ≤ 70 := by have := HN70.out; omega
        have u6 := HI.out.blk.cell 6
        simp only [List.getElem?_toArray, List.getElem?_cons_succ, List.getElem?_cons_zero] at u6
        have uf6 := HI.out.blk.frozen 6
        go_upto_region 14 with (at_builtin; refine wpl_lit elem_int rfl (.tmp 107) (.tmp 111) rfl w1.heap.size (.slice aX i cX) i (xs) rfl HR.out 1 [.int .i64 (6 + 2 * (i : Int))] _ rfl rfl (by intro u hu; simp only [List.mem_cons, List.not_mem_nil, or_false] at hu; rcases hu with rfl <;> rfl) (by omega) (by omega) HI.out.size ?_; intro a8 c8 w7 ho9 hg9; have HR9 := Lib.hid ho9; have HT9 := Lib.hid hg9; have HB9 := Lib.hid (HI.out.blk.touch hg9 (fun e => own_ne HR.out HI.out.blk (by decide) _ e rfl)); have vf2 := HB9.out.frozen 6; have v2 := HB9.out.cell 6; simp only [List.getElem?_toArray, List.getElem?_cons_succ, List.getElem?_cons_zero] at v2; clear ho9 hg9)
        have HJ := Lib.hid (show MyI w w1.heap.size g NP ((poolM k).flatMap encC) a9 c9 (.slice a8 (i + 1) c8) (.slice none 0 0) (.slice none 0 0) (w7.setCell ⟨g, 6, none⟩ (.slice a8 (i + 1) c8)) from by
          refine ⟨HB9.out.set_ 6 (.slice a8 (i + 1) c8), own_away (HT9.out.own HI.out.pool (own_ownM HI.out.pool HR.out (by decide))) HB9.out (by decide) 6 _, ?_, ?_⟩
          · exact (Below.trans HI.out.kept ((HT9.out.below (fun b hb => (HR.out.lt b hb).1) HI.out.size).mono K1.out.size)).setCell (p := ⟨g, 6, none⟩) hgW _
          · have := HT9.out.size
            have := HI.out.size
            simp [World.setCell]
            omega)
        have HS := Lib.hid (own_away HR9.out HB9.out (by decide) 6 (.slice a8 (i + 1) c8))
        clear HT9
        clear v2 vf2 u6 uf6
        generalize (w7.setCell ⟨g, 6, none⟩ (.slice a8 (i + 1) c8)) = w8 at *
        go_wp2_with fail
        go_roundw
        case rel =>
          refine ⟨i + 1, a8, c8, by omega, by go_num, HJ.out, ?_⟩
          have h := HS.out
          rw [HX.out] at h
          rw [show ((List.range (i + 1)).map fun j => ((6 + 2 * j : Nat) : Int)).flatMap encI = ((List.range i).map fun j => ((6 + 2 * j : Nat) : Int)).flatMap encI ++ [.int .i64 (6 + 2 * (i : Int))] by rw [List.range_succ, List.map_append, List.flatMap_append]; congr 1; try (first | rfl | simp [encI, fieldM, HDD.out])]
          exact h
        case measure => simp [intOf]; omega
      obtain rfl : i = k := by omega
      rw [HX.out] at HR
      have hcr : CRd wr (manyK 2 i) [] (.slice a9 NP c9) (.slice aX i cX) (.slice none 0 0) (.slice none 0 0) := by
        refine ⟨?_, ?_, Rd.nil, Rd.nil, fun x hx => by simp at hx, rfl⟩
        · show Rd wr 5 (.slice a9 NP c9) (poolM i).length ((poolM i).flatMap encC)
          rw [poolM_len, ← HNPP.out]
          exact Rd.of_own HI.out.pool
        · show Rd wr 1 (.slice aX i cX) ((List.range i).map fun i => ((6 + 2 * i : Nat) : Int)).length (((List.range i).map fun i => ((6 + 2 * i : Nat) : Int)).flatMap encI)
          rw [List.length_map, List.length_range]
          exact Rd.of_own HR.out
      have C := check_Check (manyK 2 i) [] _ _ _ _ wr hcr (poolM_text i)
      unfold IntG at C
      rw [many_check (by omega) (by omega)] at C
      have y0 := HI.out.blk.cell 0
      have y1 := HI.out.blk.cell 1
      have y2 := HI.out.blk.cell 2
      have y3 := HI.out.blk.cell 3
      have y4 := HI.out.blk.cell 4
      have y5 := HI.out.blk.cell 5
      have y6 := HI.out.blk.cell 6
      have y7 := HI.out.blk.cell 7
      have y8 := HI.out.blk.cell 8
      simp only [List.getElem?_toArray, List.getElem?_cons_succ, List.getElem?_cons_zero] at y0 y1 y2 y3 y4 y5 y6 y7 y8
      by_cases h64 : 64 < i
      · have h64I : (64 : Int) < (i : Int) := by omega
        rw [if_pos h64] at C
        go_wp2_with fail
        refine C.mono ?_
        rintro e wz ⟨rfl, hk6⟩
        have K6 := Lib.hid (Below.trans HI.out.kept (hk6.mono HI.out.kept.size))
        clear hk6 C y0 y1 y2 y3 y4 y5 y6 y7 y8
        go_wp2_with (go_at_call 21; refine (law5_num _ _).mono ?_; rintro e w9 ⟨rfl, rfl⟩)
        go_ret
        exact ⟨rfl, K6.out⟩
      · have h64I : ¬ (64 : Int) < (i : Int) := by omega
        rw [if_neg h64] at C
        go_wp2_with fail
        refine C.mono ?_
        rintro e wz ⟨rfl, hk6⟩
        have K6 := Lib.hid (Below.trans HI.out.kept (hk6.mono HI.out.kept.size))
        clear hk6 C y0 y1 y2 y3 y4 y5 y6 y7 y8
        go_wp2_with (go_at_call 21; refine (law5_num _ _).mono ?_; rintro e w9 ⟨rfl, rfl⟩)
        go_ret
        exact ⟨rfl, K6.out⟩
  · have e0 : (wh == 0) = false := by rw [h]; rfl
    have e1 : (wh == 1) = false := by rw [h]; rfl
    have e2 : (wh == 2) = false := by rw [h]; rfl
    have e3 : (wh == 3) = true := by rw [h]; rfl
    clear h
    go_wp2_with fail
    go_loopw [10] (fun s10 wr => ∃ i : Nat, i ≤ k ∧ s10 = .int .i64 i ∧ w6 = wr) (fun s10 _ => k - (intOf s10).toNat)
    case atStart => exact ⟨0, Nat.zero_le _, rfl, rfl⟩
    case round =>
      obtain ⟨i, hik, rfl, rfl⟩ := hrel
      by_cases hlt : i < k
      · have hltI : (i : Int) < (k : Int) := by omega
        have h0I : (0 : Int) ≤ (i : Int) := by omega
        have hkI : (i : Int) ≤ 70 := by have := HN70.out; omega
        go_wp2_with fail
        go_roundw
        case rel => exact ⟨i + 1, by omega, by go_num, trivial⟩
        case measure => simp [intOf]; omega
      obtain rfl : i = k := by omega
      go_upto_region 23 with fail
      have hZ : Blk ((w6.alloc (.cells #[.int .u8 177] 5)).alloc (.cells #[.int .i64 8, .int .i64 5, .int .i64 (D + 1), .bool true, .int .i64 0, .int .i64 0, .slice (some ⟨w6.heap.size, 0, none⟩) 1 1, .slice none 0 0] 52)) g 27 #[.int .i64 0, .int .i64 52, .slice a9 NP c9, .int .i64 33, .int .i64 2, .int .i64 4, .slice none 0 0, .slice none 0 0, .slice none 0 0] := (HJ.out.blk.alloc _).alloc _
      have z8 := hZ.cell 8
      simp only [List.getElem?_toArray, List.getElem?_cons_succ, List.getElem?_cons_zero] at z8
      have f8 := hZ.frozen 8
      have HZ := Lib.hid hZ
      clear hZ
      go_upto_region 24 with fail
      have hgl5 := HJ.out.blk.lt
      have hb2 : w.heap.size ≤ w6.heap.size := HJ.out.kept.size
      have HI0 : Hid (MyI w w1.heap.size g NP ((poolM i).flatMap encC) a9 c9 (.slice none 0 0) (.slice none 0 0) (.slice (some ⟨w6.heap.size + 1, 0, none⟩) 1 1) (((w6.alloc (.cells #[.int .u8 177] 5)).alloc (.cells #[.int .i64 8, .int .i64 5, .int .i64 (D + 1), .bool true, .int .i64 0, .int .i64 0, .slice (some ⟨w6.heap.size, 0, none⟩) 1 1, .slice none 0 0] 52)).setCell ⟨g, 8, none⟩ (.slice (some ⟨w6.heap.size + 1, 0, none⟩) 1 1))) := Lib.hid (by
        refine ⟨HZ.out.set_ 8 _, own_away ((HJ.out.pool.alloc _).alloc _) HZ.out (by decide) 8 _, ?_, ?_⟩
        · exact (((HJ.out.kept.alloc hb2 _).alloc (by simp; omega) _).setCell (p := ⟨g, 8, none⟩) hgW _)
        · have := HJ.out.size
          simp [World.setCell]
          omega)
      have HC0 : Hid (Blk (((w6.alloc (.cells #[.int .u8 177] 5)).alloc (.cells #[.int .i64 8, .int .i64 5, .int .i64 (D + 1), .bool true, .int .i64 0, .int .i64 0, .slice (some ⟨w6.heap.size, 0, none⟩) 1 1, .slice none 0 0] 52)).setCell ⟨g, 8, none⟩ (.slice (some ⟨w6.heap.size + 1, 0, none⟩) 1 1)) w6.heap.size 5 #[.int .u8 177]) := Lib.hid (((Blk.new w6 _ _).alloc _).far (p := ⟨g, 8, none⟩) (by simp; omega) _)
      have HM0 : Hid (Blk (((w6.alloc (.cells #[.int .u8 177] 5)).alloc (.cells #[.int .i64 8, .int .i64 5, .int .i64 (D + 1), .bool true, .int .i64 0, .int .i64 0, .slice (some ⟨w6.heap.size, 0, none⟩) 1 1, .slice none 0 0] 52)).setCell ⟨g, 8, none⟩ (.slice (some ⟨w6.heap.size + 1, 0, none⟩) 1 1)) (w6.heap.size + 1) 52 #[.int .i64 8, .int .i64 5, .int .i64 (D + 1), .bool true, .int .i64 0, .int .i64 0, .slice (some ⟨w6.heap.size, 0, none⟩) 1 1, .slice none 0 0]) := Lib.hid ((Blk.new' _ _ (by simp)).far (p := ⟨g, 8, none⟩) (by simp; omega) _)
      clear z8 f8
      generalize (((w6.alloc (.cells #[.int .u8 177] 5)).alloc (.cells #[.int .i64 8, .int .i64 5, .int .i64 (D + 1), .bool true, .int .i64 0, .int .i64 0, .slice (some ⟨w6.heap.size, 0, none⟩) 1 1, .slice none 0 0] 52)).setCell ⟨g, 8, none⟩ (.slice (some ⟨w6.heap.size + 1, 0, none⟩) 1 1)) = wm at *
      obtain ⟨gc, hgc⟩ : ∃ k, k = w6.heap.size := ⟨_, rfl⟩
      obtain ⟨gm, hgm⟩ : ∃ k, k = w6.heap.size + 1 := ⟨_, rfl⟩
      rw [← hgm] at HI0 HM0 ⊢
      rw [← hgc] at HC0 HM0 ⊢
      have hgmW : w.heap.size ≤ gm := by omega
      clear hgc hgm hgl5 hb2 HJ HZ
      go_wp2_with fail
      go_loopw [11] (fun s11 wr => ∃ (j : Nat) (aX : Option Addr) (cX : Nat), j ≤ i ∧ s11 = .int .i64 j ∧ MyI w w1.heap.size g NP ((poolM i).flatMap encC) a9 c9 (.slice none 0 0) (.slice none 0 0) (.slice (some ⟨gm, 0, none⟩) 1 1) wr ∧ Blk wr gc 5 #[.int .u8 177] ∧ Blk wr gm 52 #[.int .i64 8, .int .i64 5, .int .i64 (D + 1), .bool true, .int .i64 0, .int .i64 0, .slice (some ⟨gc, 0, none⟩) 1 1, .slice aX j cX] ∧ wr.ownsRow w1.heap.size 59 4 (.slice aX j cX) j ((List.replicate j (⟨0, 1, 0, 0⟩ : TrapC)).flatMap encT)) (fun s11 _ => i - (intOf s11).toNat)
      case atStart => exact ⟨0, none, 0, Nat.zero_le _, rfl, HI0.out, HC0.out, HM0.out, ⟨rfl, .inl ⟨rfl, rfl⟩⟩⟩
      case round =>
        obtain ⟨j, aX, cX, hji, rfl, hi, hc, hm, ho⟩ := hrel
        have HI := Lib.hid hi
        have HC := Lib.hid hc
        have HMB := Lib.hid hm
        obtain ⟨xs, hxs⟩ : ∃ l, l = (List.replicate j (⟨0, 1, 0, 0⟩ : TrapC)).flatMap encT := ⟨_, rfl⟩
        rw [← hxs] at ho
        have HX := Lib.hid hxs
        have HR := Lib.hid ho
        clear hi hc hm ho hxs
        by_cases hjl : j < i
        · have hjlI : (j : Int) < (i : Int) := by omega
          have h0J : (0 : Int) ≤ (j : Int) := by omega
          have hj70 : j ≤ 70 := by have := HN70.out; omega
          have u8 := HI.out.blk.cell 8
          simp only [List.getElem?_toArray, List.getElem?_cons_succ, List.getElem?_cons_zero] at u8
          have uf8 := HI.out.blk.frozen 8
          have x7 := HMB.out.cell 7
          simp only [List.getElem?_toArray, List.getElem?_cons_succ, List.getElem?_cons_zero] at x7
          have xf7 := HMB.out.frozen 7
          have HRd : Hid ((wr.drew.alloc (.cells #[.int .i64 0, .int .i64 1, .int .i64 0, .int .i64 0] 59)).ownsRow w1.heap.size 59 4 (.slice aX j cX) j xs) := Lib.hid (((Touch.refl (fun _ => False) wr).drew.alloc _).own HR.out fun _ _ h => h)
          have hszd : w1.heap.size ≤ (wr.drew.alloc (.cells #[.int .i64 0, .int .i64 1, .int .i64 0, .int .i64 0] 59)).heap.size := by have := HI.out.size; simp; omega
          have lg := HI.out.blk.lt
          have lm := HMB.out.lt
          have ng : g ≠ wr.heap.size := by omega
          have nm' : gm ≠ wr.heap.size := by omega
          go_upto_region 27 with fail
          go_region_law (first
            | (refine step_appR _ elem_trap rfl (.tmp 133) (.tmp 135) rfl w1.heap.size (.slice aX j cX) j xs rfl HRd.out _ 1 [.int .i64 0, .int .i64 1, .int .i64 0, .int .i64 0] rfl (Rd.one wr.drew [.int .i64 0, .int .i64 1, .int .i64 0, .int .i64 0] 59 rfl) (by intro u hu; simp only [List.mem_cons, List.not_mem_nil, or_false] at hu; rcases hu with rfl | rfl | rfl | rfl <;> rfl) (by omega) (by omega) hszd _ rfl ?_
               intro a8 c8 w7 ho9 hg9 hk9
               have HR9 := Lib.hid ho9
               have HT9 : Hid (Touch (fun b => (Value.slice aX j cX).ownBlock = some b) wr w7) := Lib.hid (((Touch.refl _ wr).drew.alloc _).trans (Touch.of_grown hg9 fun k hk => hk) fun _ hb => .inl hb)
               have HB9 := Lib.hid (HI.out.blk.touch HT9.out (fun e => own_ne HR.out HI.out.blk (by decide) _ e rfl))
               have HM9 := Lib.hid (HMB.out.touch HT9.out (fun e => own_ne HR.out HMB.out (by decide) _ e rfl))
               have v8 := HB9.out.cell 8
               have y7 := HM9.out.cell 7
               have yf7 := HM9.out.frozen 7
               simp only [List.getElem?_toArray, List.getElem?_cons_succ, List.getElem?_cons_zero] at v8 y7
               clear ho9 hg9 hk9))
          all_goals
            (have HJ3 : Hid (MyI w w1.heap.size g NP ((poolM i).flatMap encC) a9 c9 (.slice none 0 0) (.slice none 0 0) (.slice (some ⟨gm, 0, none⟩) 1 1) (w7.setCell ⟨gm, 7, none⟩ (.slice a8 (j + 1) c8))) := Lib.hid (by
               refine ⟨HB9.out.far (p := ⟨gm, 7, none⟩) (Blk.ne_ HB9.out HM9.out (by decide)) _, own_away (HT9.out.own HI.out.pool (own_ownM HI.out.pool HR.out (by decide))) HM9.out (by decide) 7 _, ?_, ?_⟩
               · exact (Below.trans HI.out.kept ((HT9.out.below (fun b hb => (HR.out.lt b hb).1) HI.out.size).mono K1.out.size)).setCell (p := ⟨gm, 7, none⟩) hgmW _
               · have := HT9.out.size
                 have := HI.out.size
                 simp [World.setCell]
                 omega)
             have HC3 : Hid (Blk (w7.setCell ⟨gm, 7, none⟩ (.slice a8 (j + 1) c8)) gc 5 #[.int .u8 177]) := Lib.hid (by
               have h1 := HC.out.touch HT9.out (fun e => own_ne HR.out HC.out (by decide) _ e rfl)
               exact h1.far (p := ⟨gm, 7, none⟩) (Blk.ne_ h1 HM9.out (by decide)) _)
             have HM3 : Hid (Blk (w7.setCell ⟨gm, 7, none⟩ (.slice a8 (j + 1) c8)) gm 52 #[.int .i64 8, .int .i64 5, .int .i64 (D + 1), .bool true, .int .i64 0, .int .i64 0, .slice (some ⟨gc, 0, none⟩) 1 1, .slice a8 (j + 1) c8]) := Lib.hid (HM9.out.set_ 7 _)
             have HS3 := Lib.hid (own_away HR9.out HM9.out (by decide) 7 (.slice a8 (j + 1) c8))
             clear u8 uf8 x7 xf7 v8 y7 yf7 lg lm ng nm'
             generalize (w7.setCell ⟨gm, 7, none⟩ (.slice a8 (j + 1) c8)) = wn at *
             go_wp2_with fail
             go_roundw
             case rel =>
               refine ⟨j + 1, a8, c8, by omega, by go_num, HJ3.out, HC3.out, HM3.out, ?_⟩
               have h := HS3.out
               rw [HX.out] at h
               rw [show (List.replicate (j + 1) (⟨0, 1, 0, 0⟩ : TrapC)).flatMap encT = (List.replicate j (⟨0, 1, 0, 0⟩ : TrapC)).flatMap encT ++ [.int .i64 0, .int .i64 1, .int .i64 0, .int .i64 0] by rw [List.replicate_succ', List.flatMap_append]; rfl]
               exact h
             case measure => simp [intOf]; omega)
        · obtain rfl : j = i := by omega
          rw [HX.out] at HR
          by_cases hz : j = 0
          · have hzb : ((j : Int) == 0) = true := by simp; omega
            go_wp2_with fail
            go_ret
            exact ⟨rfl, HI.out.kept⟩
          have hzb : ((j : Int) == 0) = false := by simp; omega
          have HZJ := Lib.hid hz
          clear hz
          go_upto_region 30 with fail
          have hcr : CRd wr (manyK 3 j) [(methM j 0 (List.replicate j ⟨0, 1, 0, 0⟩), .slice (some ⟨gc, 0, none⟩) 1 1, .slice aX j cX)] (.slice a9 NP c9) (.slice none 0 0) (.slice none 0 0) (.slice (some ⟨gm, 0, none⟩) 1 1) := by
            refine ⟨?_, Rd.nil, Rd.nil, ?_, ?_, rfl⟩
            · show Rd wr 5 (.slice a9 NP c9) (poolM j).length ((poolM j).flatMap encC)
              rw [poolM_len, ← HNPP.out]
              exact Rd.of_own HI.out.pool
            · have hdd := HDD.out
              have h1 : ((2 * j + 6 : Nat) : Int) = D + 1 := by omega
              have h := Rd.lit (sz := 8) (n := 1) HMB.out rfl (by omega)
              simp only [List.length_cons, List.length_nil, List.flatMap_cons, List.flatMap_nil, encM, methV, methM, h1]
              exact h
            · intro x hx
              rw [List.mem_singleton] at hx
              subst hx
              refine ⟨Rd.lit HC.out rfl (by omega), ?_⟩
              show Rd wr 4 (.slice aX j cX) (List.replicate j (⟨0, 1, 0, 0⟩ : TrapC)).length ((List.replicate j (⟨0, 1, 0, 0⟩ : TrapC)).flatMap encT)
              rw [List.length_replicate]
              exact Rd.of_own HR.out
          have C := check_Check (manyK 3 j) [(methM j 0 (List.replicate j ⟨0, 1, 0, 0⟩), .slice (some ⟨gc, 0, none⟩) 1 1, .slice aX j cX)] _ _ _ _ wr hcr (poolM_text j)
          unfold IntG at C
          rw [many_check (by omega) (fun _ => HZJ.out)] at C
          have y0 := HI.out.blk.cell 0
          have y1 := HI.out.blk.cell 1
          have y2 := HI.out.blk.cell 2
          have y3 := HI.out.blk.cell 3
          have y4 := HI.out.blk.cell 4
          have y5 := HI.out.blk.cell 5
          have y6 := HI.out.blk.cell 6
          have y7 := HI.out.blk.cell 7
          have y8 := HI.out.blk.cell 8
          simp only [List.getElem?_toArray, List.getElem?_cons_succ, List.getElem?_cons_zero] at y0 y1 y2 y3 y4 y5 y6 y7 y8
          by_cases h64 : 64 < j
          · have h64I : (64 : Int) < (j : Int) := by omega
            rw [if_pos h64] at C
            go_wp2_with fail
            refine C.mono ?_
            rintro e wz ⟨rfl, hk6⟩
            have K6 := Lib.hid (Below.trans HI.out.kept (hk6.mono HI.out.kept.size))
            clear hk6 C y0 y1 y2 y3 y4 y5 y6 y7 y8
            go_wp2_with (go_at_call 21; refine (law5_num _ _).mono ?_; rintro e w9 ⟨rfl, rfl⟩)
            go_ret
            exact ⟨rfl, K6.out⟩
          · have h64I : ¬ (64 : Int) < (j : Int) := by omega
            rw [if_neg h64] at C
            go_wp2_with fail
            refine C.mono ?_
            rintro e wz ⟨rfl, hk6⟩
            have K6 := Lib.hid (Below.trans HI.out.kept (hk6.mono HI.out.kept.size))
            clear hk6 C y0 y1 y2 y3 y4 y5 y6 y7 y8
            go_wp2_with (go_at_call 21; refine (law5_num _ _).mono ?_; rintro e w9 ⟨rfl, rfl⟩)
            go_ret
            exact ⟨rfl, K6.out⟩
end Go.Proofs.Ytcklmhbcjgiplaa
