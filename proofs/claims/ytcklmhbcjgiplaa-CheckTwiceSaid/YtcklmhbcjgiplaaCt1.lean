/-
  The law CheckTwice: its walk.
-/
import Derived.Test.YtcklmhbcjgiplaaCt0
import Derived.Test.YtcklmhbcjgiplaaOpenInts
import Derived.StillTailTactics
import Derived.IntWalk
namespace Go.Proofs.Ytcklmhbcjgiplaa
set_option linter.unusedVariables false
set_option linter.unusedSimpArgs false
open Go.RowKit
set_option maxRecDepth 100000

theorem bits_natT (a : Int) (c : Nat) (hc : c < 4294967296) : bits .and .i64 a (c : Int) = (((BitVec.ofInt 64 a).toNat &&& c : Nat) : Int) := by
  show IntKind.i64.wrap ((BitVec.ofInt 64 a &&& BitVec.ofInt 64 (c : Int)).toNat : Nat) = _
  have h1 : (BitVec.ofInt 64 (c : Int)).toNat = c := by rw [BitVec.toNat_ofInt]; omega
  rw [BitVec.toNat_and, h1]
  have h2 : ((BitVec.ofInt 64 a).toNat &&& c) ≤ c := Nat.and_le_right
  exact IntWalk.i64_in _ (by omega)
theorem nm_form (x : Int) : ∃ m p q : Int, bits .and .i64 x 3 = m ∧ m.tmod 3 = p ∧ IntKind.i64.wrap (5 + p) = q ∧ 5 + p = q ∧ 0 ≤ m ∧ m ≤ 3 ∧ 0 ≤ p ∧ p ≤ 2 ∧ m % 3 = p ∧ q = ((5 + nmT x : Nat) : Int) := by
  have h := bits_natT x 3 (by omega)
  have h3 : ((BitVec.ofInt 64 x).toNat &&& 3) ≤ 3 := Nat.and_le_right
  refine ⟨_, _, _, h, rfl, rfl, ?_⟩
  have ht : (((BitVec.ofInt 64 x).toNat &&& 3 : Nat) : Int).tmod 3 = ((nmT x : Nat) : Int) := by
    unfold nmT
    rw [Int.tmod_eq_emod_of_nonneg (by omega)]
    omega
  have hl := nmT_lt x
  rw [ht, IntWalk.i64_in _ (by omega)]
  refine ⟨rfl, by omega, by omega, by omega, by omega, ?_, by omega⟩
  rw [← ht, Int.tmod_eq_emod_of_nonneg (by omega)]
theorem ds_form (x : Int) : ∃ m q : Int, bits .and .i64 x 1 = m ∧ IntKind.i64.wrap (8 + m) = q ∧ 8 + m = q ∧ 0 ≤ m ∧ m ≤ 1 ∧ q = ((8 + dsT x : Nat) : Int) := by
  have h := bits_natT x 1 (by omega)
  have hl := dsT_lt x
  refine ⟨_, _, h, rfl, ?_⟩
  rw [show (((BitVec.ofInt 64 x).toNat &&& 1 : Nat) : Int) = ((dsT x : Nat) : Int) from rfl, IntWalk.i64_in _ (by omega)]
  exact ⟨rfl, by omega, by omega, by omega⟩
theorem ints_cells {w : World} {l : List Int} {v : Value} {n : Nat} (hn : n = l.length) (hr : Rd w 1 v n (l.map (Value.int .i64))) {i : Nat} {t : Int} (hm : l[i]? = some t) :
    ∃ b off c, v = .slice (some ⟨b, off, none⟩) n c ∧ w.cell? ⟨b, off + i, none⟩ = some (.int .i64 t) := by
  have hl := (List.getElem?_eq_some_iff.1 hm).1
  rcases hr.parts with ⟨h0, _⟩ | ⟨b, off, c, rfl, h0, h1, h2, hc⟩
  · omega
  · exact ⟨b, off, c, rfl, hc i _ (by rw [List.getElem?_map, hm]; rfl)⟩
/-- What the loop keeps: the class, its constants, its fields. -/
structure TwI (w : World) (base g : Nat) (vP : Value) (xs : List Value) (F : List FieldC) (k : Nat) (aF : Option Addr) (cF : Nat) (wr : World) : Prop where
  blk : Blk wr g 27 #[.int .i64 0, .int .i64 52, vP, .int .i64 33, .int .i64 2, .int .i64 4, .slice none 0 0, .slice aF k cF, .slice none 0 0]
  pool : wr.ownsRow base 47 5 vP 9 xs
  row : wr.ownsRow base 55 4 (.slice aF k cF) k ((F.take k).flatMap encF)
  kept : Below w.heap.size w wr
  size : base ≤ wr.heap.size
theorem TwI.keep {w : World} {base g : Nat} {vP : Value} {xs : List Value} {F : List FieldC} {k : Nat} {aF : Option Addr} {cF : Nat} {wr wx : World} (h : TwI w base g vP xs F k aF cF wr) (hk : Kept wr wx) : TwI w base g vP xs F k aF cF wx :=
  ⟨h.blk.kept hk, (Touch.of_kept (S := fun _ => False) hk).own h.pool fun _ _ h => h, (Touch.of_kept (S := fun _ => False) hk).own h.row fun _ _ h => h, Below.trans h.kept (hk.mono h.kept.size), Nat.le_trans h.size hk.size⟩
theorem own_own {w : World} {base base' sz sz' n n' : Nat} {e e' : TypeId} {v v' : Value} {xs xs' : List Value} (h : w.ownsRow base e sz v n xs) (h' : w.ownsRow base' e' sz' v' n' xs') (hne : e ≠ e') : ∀ k, v.ownBlock = some k → ¬ v'.ownBlock = some k := by
  intro k hk hk'
  rcases h'.2 with ⟨rfl, _⟩ | ⟨g, cap, cur, rfl, _, hh, _⟩
  · cases hk'
  · have : g = k := by simpa [Value.ownBlock] using hk'
    subst this
    exact own_ne h (show Blk w g e' cur from hh) hne g hk rfl
theorem field_eql (n d n' d' : Int) (W : World) : (binOp .eql 55 (.agg #[.int .i64 0, .int .i64 n, .int .i64 d, .int .i64 0]) (.agg #[.int .i64 0, .int .i64 n', .int .i64 d', .int .i64 0])).run Try.prog W = .ok (.bool (n == n' && d == d')) W := by
  cases h1 : (n == n') <;> cases h2 : (d == d') <;> go_simp
set_option maxHeartbeats 16000000 in
theorem walk_CheckTwice (ns : List Int) (vn : Value) (ds : List Int) (vd : Value) (w : World) (h0 : Rd w 1 vn ns.length (ns.map (Value.int .i64)) ∧ ∀ z ∈ ns, -9223372036854775808 ≤ z ∧ z ≤ 9223372036854775807) (h1 : Rd w 1 vd ds.length (ds.map (Value.int .i64)) ∧ ∀ z ∈ ds, -9223372036854775808 ≤ z ∧ z ≤ 9223372036854775807) :
    Calls Try.prog 6 #[vn, vd] w fun e w' => e = .returned (.bool true) ∧ Below w.heap.size w w' := by
  have HN := Lib.hid h0.1
  have HD := Lib.hid h1.1
  obtain ⟨nn, hnn⟩ : ∃ n, n = ns.length := ⟨_, rfl⟩
  obtain ⟨nd, hnd⟩ : ∃ n, n = ds.length := ⟨_, rfl⟩
  rw [← hnn] at h0 HN
  rw [← hnd] at h1 HD
  have N1 := Lib.hid hnn
  have N2 := Lib.hid hnd
  obtain ⟨⟨_, an, kn, rfl, ln1, ln2, -⟩, -⟩ := h0
  obtain ⟨⟨_, ad, kd, rfl, ld1, ld2, -⟩, -⟩ := h1
  clear hnn hnd
  go_enter Try.func6, Try.ntmps6
  go_wp2_with fail
  refine (alive5 w).mono ?_
  rintro e w1 ⟨rfl, hk1⟩
  have K1 := Lib.hid hk1
  clear hk1

  by_cases s1 : 12 < nn
  · have s1I : (12 : Int) < (nn : Int) := by omega
    clear s1
    go_wp2_with fail
    go_ret
    exact ⟨rfl, K1.out⟩
  have s1I : ¬ (12 : Int) < (nn : Int) := by omega
  cases s2 : ((nn : Int) != (nd : Int))
  rotate_left
  · go_wp2_with fail
    go_ret
    exact ⟨rfl, K1.out⟩
  have HL := Lib.hid (show nn ≤ 12 by omega)
  have HE := Lib.hid (show ns.length = ds.length by have := N1.out; have := N2.out; simp only [bne_eq_false_iff_eq] at s2; omega)
  go_wp2_with fail
  refine (law5_small w1).mono ?_
  rintro e w2 ⟨vP, he, ho, hk2⟩
  have he : e = .returned (.agg #[.int .i64 0, .int .i64 52, vP, .int .i64 33, .int .i64 2, .int .i64 4, .slice none 0 0, .slice none 0 0, .slice none 0 0]) := he
  subst he
  have K2 := Lib.hid (Kept.trans K1.out hk2)
  obtain ⟨gP, kP, rfl, hq1, hq2, hgw, hgl, hcell, hfz⟩ := own_form ho (by omega)
  have HGP := Lib.hid (show w.heap.size ≤ gP from Nat.le_trans K1.out.size hgw)
  have HRO2 := Lib.hid ho
  have hS2 := hk2.size
  clear ho hk2 hcell hfz hgw hq1 hq2
  go_upto_region 5 with fail
  have hk3 : Kept w2 (w2.alloc (.cells #[.int .i64 0, .int .i64 52, .slice (some ⟨gP, 0, none⟩) 4 kP, .int .i64 33, .int .i64 2, .int .i64 4, .slice none 0 0, .slice none 0 0, .slice none 0 0] 27)) := (Below.refl _ _).alloc (Nat.le_refl _) _
  obtain ⟨g, hg⟩ : ∃ g, g = w2.heap.size := ⟨_, rfl⟩
  have HT := Lib.hid (Blk.new w2 27 #[.int .i64 0, .int .i64 52, .slice (some ⟨gP, 0, none⟩) 4 kP, .int .i64 33, .int .i64 2, .int .i64 4, .slice none 0 0, .slice none 0 0, .slice none 0 0])
  have HG := Lib.hid (show w2.heap.size ≤ g by omega)
  have hne : gP ≠ g := by omega
  have K3 := Lib.hid (Kept.trans K2.out hk3)
  have hgW : w.heap.size ≤ g := Nat.le_trans K2.out.size HG.out
  have hgS : w1.heap.size ≤ g := Nat.le_trans hS2 HG.out
  have HRO := Lib.hid ((Touch.of_kept (S := fun _ => False) hk3).own HRO2.out fun _ _ h => h)
  rw [← hg] at HT ⊢
  clear hk3 hgl HRO2
  generalize (w2.alloc (.cells #[.int .i64 0, .int .i64 52, .slice (some ⟨gP, 0, none⟩) 4 kP, .int .i64 33, .int .i64 2, .int .i64 4, .slice none 0 0, .slice none 0 0, .slice none 0 0] 27)) = w3 at *
  clear hg hS2
  have hb3 : w1.heap.size ≤ w3.heap.size := Nat.le_trans hgS (Nat.le_of_lt HT.out.lt)
  have t0 := HT.out.cell 0
  have t1 := HT.out.cell 1
  have t2 := HT.out.cell 2
  have t3 := HT.out.cell 3
  have t4 := HT.out.cell 4
  have t5 := HT.out.cell 5
  have t6 := HT.out.cell 6
  have t7 := HT.out.cell 7
  have t8 := HT.out.cell 8
  simp only [List.getElem?_toArray, List.getElem?_cons_succ, List.getElem?_cons_zero] at t0 t1 t2 t3 t4 t5 t6 t7 t8

  clear s1 s1I s2
  have f2 := HT.out.frozen 2
  go_upto_region 6 with (at_builtin; refine wpl_lit elem_const rfl (.tmp 30) (.tmp 36) rfl w1.heap.size (.slice (some ⟨gP, 0, none⟩) 4 kP) 4 (smallK.pool.flatMap encC) rfl HRO.out 5 [.int .i64 1, .string ⟨#[97]⟩, .int .i64 0, .int .i64 0, .int .i64 0, .int .i64 1, .string ⟨#[98]⟩, .int .i64 0, .int .i64 0, .int .i64 0, .int .i64 1, .string ⟨#[99]⟩, .int .i64 0, .int .i64 0, .int .i64 0, .int .i64 1, .string ⟨#[73]⟩, .int .i64 0, .int .i64 0, .int .i64 0, .int .i64 1, .string ⟨#[76, 65, 59]⟩, .int .i64 0, .int .i64 0, .int .i64 0] _ rfl rfl (by intro u hu; simp only [List.mem_cons, List.not_mem_nil, or_false] at hu; rcases hu with rfl | rfl | rfl | rfl | rfl | rfl | rfl | rfl | rfl | rfl | rfl | rfl | rfl | rfl | rfl | rfl | rfl | rfl | rfl | rfl | rfl | rfl | rfl | rfl | rfl <;> rfl) (by omega) (by omega) hb3 ?_; intro a4 c4 w4 ho7 hg7; have HRO4 := Lib.hid ho7; have HB4 := Lib.hid (HT.out.touch hg7 (fun e => own_ne HRO.out HT.out (by decide) _ e rfl)); have KT4 := Lib.hid hg7; have f2 := HB4.out.frozen 2; have z2 := HB4.out.cell 2; simp only [List.getElem?_toArray, List.getElem?_cons_succ, List.getElem?_cons_zero] at z2; clear ho7 hg7)
  have KW4 := Lib.hid (Below.trans K3.out ((KT4.out.below (fun b hb => (HRO.out.lt b hb).1) hb3).mono K1.out.size))
  have KX := Lib.hid (KW4.out.setCell (p := ⟨g, 2, none⟩) hgW (.slice a4 9 c4))
  have HX : Hid (Blk (w4.setCell ⟨g, 2, none⟩ (.slice a4 9 c4)) g 27 #[.int .i64 0, .int .i64 52, .slice a4 9 c4, .int .i64 33, .int .i64 2, .int .i64 4, .slice none 0 0, .slice none 0 0, .slice none 0 0]) := Lib.hid (HB4.out.set_ 2 (.slice a4 9 c4))
  have HRX := Lib.hid (own_away HRO4.out HB4.out (by decide) 2 (.slice a4 9 c4))
  have hb5 : w1.heap.size ≤ (w4.setCell ⟨g, 2, none⟩ (.slice a4 9 c4)).heap.size := by have := KT4.out.size; have := hb3; simp [World.setCell]; omega
  clear f2 z2 t0 t1 t2 t3 t4 t5 t6 t7 t8
  generalize (w4.setCell ⟨g, 2, none⟩ (.slice a4 9 c4)) = w5 at *
  have u0 := HX.out.cell 0
  have u1 := HX.out.cell 1
  have u2 := HX.out.cell 2
  have u3 := HX.out.cell 3
  have u4 := HX.out.cell 4
  have u5 := HX.out.cell 5
  have u6 := HX.out.cell 6
  have u7 := HX.out.cell 7
  have u8 := HX.out.cell 8
  simp only [List.getElem?_toArray, List.getElem?_cons_succ, List.getElem?_cons_zero] at u0 u1 u2 u3 u4 u5 u6 u7 u8
  clear u0 u1 u2 u3 u4 u5 u6 u7 u8
  go_wp2_with fail
  go_loopw [7, 8] (fun s7 s8 wr => ∃ (k : Nat) (aF : Option Addr) (cF : Nat), k ≤ nn ∧ s8 = .int .i64 k ∧ s7 = .bool (dupT [] ((twF ns ds).take k)) ∧ TwI w w1.heap.size g (.slice a4 9 c4) (twPool.flatMap encC) (twF ns ds) k aF cF wr) (fun _ s8 _ => nn - (intOf s8).toNat)
  case atStart => exact ⟨0, none, 0, Nat.zero_le _, rfl, rfl, ⟨HX.out, HRX.out, ⟨rfl, .inl ⟨rfl, rfl⟩⟩, KX.out, hb5⟩⟩
  case round =>
    obtain ⟨k, aF, cF, hk, rfl, rfl, hi⟩ := hrel
    have HI := Lib.hid hi
    clear hi
    obtain ⟨t0, ht0⟩ : ∃ t, t = dupT [] ((twF ns ds).take k) := ⟨_, rfl⟩
    rw [← ht0]
    have HT0 := Lib.hid ht0
    clear ht0
    by_cases hlt : k < nn
    · obtain ⟨x, hx⟩ : ∃ x, ns[k]? = some x := ⟨_, List.getElem?_eq_getElem (by have := N1.out; omega)⟩
      obtain ⟨y, hy⟩ : ∃ y, ds[k]? = some y := ⟨_, List.getElem?_eq_getElem (by have := N1.out; have := HE.out; omega)⟩
      obtain ⟨bn, on, dn, hvn, e0⟩ := ints_cells N1.out (HN.out.kept HI.out.kept) hx
      obtain ⟨bd, od, dd, hvd, f0⟩ := ints_cells N2.out (HD.out.kept HI.out.kept) hy
      simp only [Value.slice.injEq] at hvn hvd
      obtain ⟨rfl, -, rfl⟩ := hvn
      obtain ⟨rfl, -, rfl⟩ := hvd
      obtain ⟨m, p, q, x1, x2, x3, x4, x5, x6, x7, x8, x9, x10⟩ := nm_form x
      obtain ⟨m', q', y1, y2, y3, y4, y5, y6⟩ := ds_form y
      have HX10 := Lib.hid x10
      have HY6 := Lib.hid y6
      have HX1 := Lib.hid hx
      have HY1 := Lib.hid hy
      have hltI : (k : Int) < (nn : Int) := by omega
      have hltD : (k : Int) < (nd : Int) := by have := N1.out; have := N2.out; have := HE.out; omega
      have h0I : (0 : Int) ≤ (k : Int) := by omega
      clear x10 y6 hx hy
      go_upto_region 10 with fail
      have l1 : bn < wr.heap.size := World.block_lt_of_cell? wr _ e0
      have l2 : bd < wr.heap.size := World.block_lt_of_cell? wr _ f0
      have n1 : bn ≠ wr.heap.size := by omega
      have n2 : bd ≠ wr.heap.size := by omega
      go_region
      have hkf : Kept wr (wr.alloc (.cells #[.int .i64 0, .int .i64 q, .int .i64 q', .int .i64 0] 55)).drew := kept_drewN (Below.alloc (Below.refl _ wr) (Nat.le_refl _) _) 1
      have HIF := Lib.hid (HI.out.keep hkf)
      have HFB : Hid (Blk (wr.alloc (.cells #[.int .i64 0, .int .i64 q, .int .i64 q', .int .i64 0] 55)).drew wr.heap.size 55 #[.int .i64 0, .int .i64 q, .int .i64 q', .int .i64 0]) := Lib.hid (Blk.new wr _ _)
      obtain ⟨g9, hg9⟩ : ∃ b, b = wr.heap.size := ⟨_, rfl⟩
      have HG9 := Lib.hid (show w.heap.size ≤ g9 by rw [hg9]; exact HI.out.kept.size)
      rw [← hg9] at HFB ⊢
      clear hkf hg9 e0 f0 l1 l2 n1 n2 x1 x2 x3 x4 x5 x6 x7 x8 x9 y1 y2 y3 y4 y5
      generalize (wr.alloc (.cells #[.int .i64 0, .int .i64 q, .int .i64 q', .int .i64 0] 55)).drew = wf at *
      have z0 := HFB.out.cell 0
      have z1 := HFB.out.cell 1
      have z2 := HFB.out.cell 2
      have z3 := HFB.out.cell 3
      simp only [List.getElem?_toArray, List.getElem?_cons_succ, List.getElem?_cons_zero] at z0 z1 z2 z3
      have u7 := HIF.out.blk.cell 7
      simp only [List.getElem?_toArray, List.getElem?_cons_succ, List.getElem?_cons_zero] at u7
      have HFK := Lib.hid (show fldT x y = ⟨0, q, q', 0⟩ by unfold fldT; rw [HX10.out, HY6.out])
      have HFX := Lib.hid (show (twF ns ds)[k]? = some ⟨0, q, q', 0⟩ by rw [twF_at HX1.out HY1.out, HFK.out])
      go_wp2_with fail
      go_loopw [7, 10] (fun s7 s10 wi => ∃ (j : Nat) (tj : Bool), j ≤ k ∧ s10 = .int .i64 j ∧ s7 = .bool tj ∧ tj = (t0 || decide ((⟨0, q, q', 0⟩ : FieldC) ∈ ((twF ns ds).take k).take j)) ∧ ∃ n, wi = wf.drewN n) (fun _ s10 _ => k - (intOf s10).toNat)
      case atStart => exact ⟨0, t0, Nat.zero_le _, rfl, rfl, by simp, 0, rfl⟩
      case round =>
        obtain ⟨j, tj, hj, rfl, rfl, htj, nq, rfl⟩ := hrel
        have HTJ := Lib.hid htj
        clear htj
        by_cases hjk : j < k
        · have hjkI : (j : Int) < (k : Int) := by omega
          have h0J : (0 : Int) ≤ (j : Int) := by omega
          obtain ⟨xj, hxj⟩ : ∃ x, ns[j]? = some x := ⟨_, List.getElem?_eq_getElem (by have := N1.out; omega)⟩
          obtain ⟨yj, hyj⟩ : ∃ y, ds[j]? = some y := ⟨_, List.getElem?_eq_getElem (by have := N1.out; have := HE.out; omega)⟩
          have hfj : ((twF ns ds).take k)[j]? = some (fldT xj yj) := by rw [List.getElem?_take, if_pos hjk, twF_at hxj hyj]
          have hlen : k = ((twF ns ds).take k).length := by rw [List.length_take, twF_len HE.out]; have := N1.out; omega
          obtain ⟨b1, o1, d1, hv1, e0, e1, e2, e3⟩ := field_cells hlen (Rd.of_own HIF.out.row) hfj
          obtain ⟨nj, hnj⟩ : ∃ n, n = ((5 + nmT xj : Nat) : Int) := ⟨_, rfl⟩
          obtain ⟨dj, hdj⟩ : ∃ n, n = ((8 + dsT yj : Nat) : Int) := ⟨_, rfl⟩
          simp only [fldT] at e0 e1 e2 e3 hfj
          rw [← hnj] at e1 hfj
          rw [← hdj] at e2 hfj
          simp only [Value.slice.injEq] at hv1
          obtain ⟨rfl, -, rfl⟩ := hv1
          obtain ⟨bb, hbb⟩ : ∃ b, b = (nj == q && dj == q') := ⟨_, rfl⟩
          have hcmp := fun W => field_eql nj dj q q' W
          rw [← hbb] at hcmp
          have HBB := Lib.hid (show bb = decide ((⟨0, nj, dj, 0⟩ : FieldC) = ⟨0, q, q', 0⟩) by rw [hbb, Bool.eq_iff_iff]; simp)
          have HNX := Lib.hid (show decide ((⟨0, q, q', 0⟩ : FieldC) ∈ ((twF ns ds).take k).take (j + 1)) = (decide ((⟨0, q, q', 0⟩ : FieldC) ∈ ((twF ns ds).take k).take j) || bb) by rw [mem_take_snoc hfj, HBB.out])
          clear hbb hfj hlen hnj hdj hxj hyj
          cases tj
          rotate_left
          · go_wp2_with fail
            go_quiet (fail)
            go_wp2_with fail
            go_roundw
            case rel => exact ⟨j + 1, true, by omega, by go_num, rfl, by rw [HNX.out, ← Bool.or_assoc, ← HTJ.out]; rfl, _, rfl⟩
            case measure => simp [intOf]; omega
          · go_wp2_with fail
            go_quiet (fail)
            go_wp2_with fail
            go_roundw
            case rel => exact ⟨j + 1, bb, by omega, by go_num, rfl, by rw [HNX.out, ← Bool.or_assoc, ← HTJ.out]; rfl, _, rfl⟩
            case measure => simp [intOf]; omega
        · obtain rfl : j = k := by omega
          have hk4 : Kept wf (wf.drewN nq) := kept_drewN (Below.refl _ wf) nq
          have HI4 := Lib.hid (HIF.out.keep hk4)
          have HF4 := Lib.hid (HFB.out.kept hk4)
          go_upto_region 15 with fail
          clear hk4 z0 z1 z2 z3 u7 HIF HFB
          generalize wf.drewN nq = W4 at *
          have z0 := HF4.out.cell 0
          have z1 := HF4.out.cell 1
          have z2 := HF4.out.cell 2
          have z3 := HF4.out.cell 3
          simp only [List.getElem?_toArray, List.getElem?_cons_succ, List.getElem?_cons_zero] at z0 z1 z2 z3
          have u7 := HI4.out.blk.cell 7
          simp only [List.getElem?_toArray, List.getElem?_cons_succ, List.getElem?_cons_zero] at u7
          have uf7 := HI4.out.blk.frozen 7
          have hl12 : j ≤ 12 := by have := HL.out; omega
          go_upto_region 9 with (at_builtin; refine wpl_lit elem_field rfl (.tmp 77) (.tmp 79) rfl w1.heap.size (.slice aF j cF) j (((twF ns ds).take j).flatMap encF) rfl HI4.out.row 1 [.int .i64 0, .int .i64 q, .int .i64 q', .int .i64 0] _ rfl rfl (by intro u hu; simp only [List.mem_cons, List.not_mem_nil, or_false] at hu; rcases hu with rfl | rfl | rfl | rfl <;> rfl) (by omega) (by omega) HI4.out.size ?_; intro a9 c9 w5 ho9 hg9; have HR9 := Lib.hid ho9; have HT9 := Lib.hid hg9; have HB9 := Lib.hid (HI4.out.blk.touch hg9 (fun e => own_ne HI4.out.row HI4.out.blk (by decide) _ e rfl)); have vf7 := HB9.out.frozen 7; have v7 := HB9.out.cell 7; simp only [List.getElem?_toArray, List.getElem?_cons_succ, List.getElem?_cons_zero] at v7; clear ho9 hg9)
          have hP9 := HT9.out.own HI4.out.pool (own_own HI4.out.pool HI4.out.row (by decide))
          have hFL := HFX.out
          have HTW := Lib.hid (show TwI w w1.heap.size g (.slice a4 9 c4) (twPool.flatMap encC) (twF ns ds) (j + 1) a9 c9 (w5.setCell ⟨g, 7, none⟩ (.slice a9 (j + 1) c9)) from by
            refine ⟨HB9.out.set_ 7 (.slice a9 (j + 1) c9), own_away hP9 HB9.out (by decide) 7 _, ?_, ?_, ?_⟩
            · rw [List.take_add_one, hFL, List.flatMap_append]
              exact own_away HR9.out HB9.out (by decide) 7 _
            · exact (Below.trans HI4.out.kept ((HT9.out.below (fun b hb => (HI4.out.row.lt b hb).1) HI4.out.size).mono K1.out.size)).setCell (p := ⟨g, 7, none⟩) hgW _
            · have := HT9.out.size
              have := HI4.out.size
              simp [World.setCell]
              omega)
          have HDT := Lib.hid (show tj = dupT [] ((twF ns ds).take (j + 1)) by rw [HTJ.out, HT0.out, dupT_take hFL, List.take_take, Nat.min_self])
          clear hP9 hFL v7 vf7 u7 uf7 z0 z1 z2 z3
          generalize (w5.setCell ⟨g, 7, none⟩ (.slice a9 (j + 1) c9)) = w6 at *
          go_wp2_with fail
          go_roundw
          case rel => exact ⟨j + 1, a9, c9, by omega, by go_num, by rw [HDT.out], HTW.out⟩
          case measure => simp [intOf]; omega
    · obtain rfl : k = nn := by omega
      have HFN := Lib.hid (show (twF ns ds).take k = twF ns ds from List.take_of_length_le (by rw [twF_len HE.out]; have := N1.out; omega))
      have hcr : CRd wr (twK (twF ns ds)) [] (.slice a4 9 c4) (.slice none 0 0) (.slice aF k cF) (.slice none 0 0) := by
        have h1 := Rd.of_own HI.out.row
        rw [HFN.out] at h1
        have h2 : k = (twF ns ds).length := by rw [twF_len HE.out]; exact N1.out
        refine ⟨Rd.of_own HI.out.pool, Rd.nil, ?_, Rd.nil, fun x hx => by simp at hx, rfl⟩
        show Rd wr 4 (.slice aF k cF) (twF ns ds).length ((twF ns ds).flatMap encF)
        rw [← h2]
        exact h1
      have C := check_Check (twK (twF ns ds)) [] _ _ _ _ wr hcr twPool_text
      unfold IntG at C
      rw [twice_check twF_good (by rw [twF_len HE.out]; have := N1.out; have := HL.out; omega)] at C
      rw [HFN.out] at HT0
      rw [← HT0.out] at C
      have y0 := HI.out.blk.cell 0
      have y1 := HI.out.blk.cell 1
      have y2 := HI.out.blk.cell 2
      have y3 := HI.out.blk.cell 3
      have y4 := HI.out.blk.cell 4
      have y5 := HI.out.blk.cell 5
      have y6 := HI.out.blk.cell 6
      have y7 := HI.out.blk.cell 7
      have y8 := HI.out.blk.cell 8
      simp only [List.getElem?_toArray, List.getElem?_cons_succ, List.getElem?_cons_zero] at y0 y1 y2 y3 y4 y5 y6 y7 y8
      cases t0
      · rw [if_neg (by decide)] at C
        go_wp2_with fail
        refine C.mono ?_
        rintro e w8 ⟨rfl, hk6⟩
        have K6 := Lib.hid (Below.trans HI.out.kept (hk6.mono HI.out.kept.size))
        clear hk6 C y0 y1 y2 y3 y4 y5 y6 y7 y8
        go_wp2_with (go_at_call 21; refine (law5_num _ _).mono ?_; rintro e w9 ⟨rfl, rfl⟩)
        go_ret
        exact ⟨rfl, K6.out⟩
      · rw [if_pos rfl] at C
        go_wp2_with fail
        refine C.mono ?_
        rintro e w8 ⟨rfl, hk6⟩
        have K6 := Lib.hid (Below.trans HI.out.kept (hk6.mono HI.out.kept.size))
        clear hk6 C y0 y1 y2 y3 y4 y5 y6 y7 y8
        go_wp2_with (go_at_call 21; refine (law5_num _ _).mono ?_; rintro e w9 ⟨rfl, rfl⟩)
        go_ret
        exact ⟨rfl, K6.out⟩
end Go.Proofs.Ytcklmhbcjgiplaa
