/-
  Chapter 14's law PoolPlays, walked.
-/
import Derived.Test.YtjdldgpkcfigiaaPool4
import Derived.Deep.CutBlock
import Derived.RegionTactic
import Derived.BigRegion
import Derived.Deep.RegionHeld2
namespace Go.Proofs.Ytjdldgpkcfigiaa
open Go.RowKit Go.Maps
set_option maxRecDepth 100000

/-- A call of a pool, as data. -/
structure OpP where
  kind : Int
  at_ : Int
  cls : ByteArray
  fat : Int
  err : ByteArray
def encOpP (o : OpP) : List Value := [.int .i64 o.kind, .int .i64 o.at_, .string o.cls, .int .i64 o.fat, .string o.err]

theorem made_ents (a b : Value) (ha : a.oneCell' = true) (hb : b.oneCell' = true) (n : Nat) (enc : EntV → List Value) (he : ∀ x, (enc x).length = 2) (h0 : enc EntV.zero = [a, b]) : (madeCells #[a, b] (n * 2)).toList = (List.replicate n EntV.zero).flatMap enc := by
  apply List.ext_getElem?
  intro j
  by_cases hj : j < n * 2
  · have h1 : (List.replicate n EntV.zero)[j / 2]? = some EntV.zero := by rw [List.getElem?_replicate, if_pos (by omega)]
    have h2 := flat_get enc 2 he (List.replicate n EntV.zero) (j / 2) (j % 2) EntV.zero h1 (by omega)
    rw [show j / 2 * 2 + j % 2 = j by omega] at h2
    rw [h2, h0]
    rcases (by omega : j % 2 = 0 ∨ j % 2 = 1) with h3 | h3
    · simp [madeCells, hj, h3]
    · simp [madeCells, hj, h3]
  · rw [List.getElem?_eq_none (by simp [madeCells]; omega), List.getElem?_eq_none (by rw [flat_length enc 2 he]; simp; omega)]

theorem row_made {w : World} {B n : Nat} {e : TypeId} {cur : Array Value} {xs : List Value} {g : Nat} (hg : B ≤ g) (hh : w.heap[g]? = some (.cells cur e (0, 0))) (hc : cur.toList = xs) (hl : xs.length = n * 2) (hn : n ≤ 1024) : Row w B e 2 (.slice (some ⟨g, 0, none⟩) n n) n xs :=
  ⟨hl, .inr ⟨g, n, cur, rfl, hg, hh, Nat.le_refl _, by omega, by rw [hc, List.take_of_length_le (by omega)]⟩⟩

theorem elem_ent : ElemTy Try.prog 30 41 (.agg #[.int .i64 0, .string ⟨#[]⟩]) 2 24 := ⟨Try.underlying30, by kernel_rfl, rfl, by decide⟩
theorem elem_fnd : ElemTy Try.prog 31 35 (.agg #[.string ⟨#[]⟩, .int .i64 0]) 2 24 := ⟨Try.underlying31, by kernel_rfl, rfl, by decide⟩

theorem make_rows {P : Program} {t e : TypeId} {a b : Value} (E : ElemTy P t e (.agg #[a, b]) 2 24) (ha : a.oneCell' = true) (hb : b.oneCell' = true) (enc : EntV → List Value) (he : ∀ x, (enc x).length = 2) (h0 : enc EntV.zero = [a, b]) (hab : (Value.agg #[a, b]).cells = #[a, b]) (N : Nat) (hN : N ≤ 1024) :
    ∃ CE : Array Value, CE.toList = (List.replicate N EntV.zero).flatMap enc ∧ ∀ w : World, (Instr.makeSlice t (.int .i64 (N : Int)) (.int .i64 (N : Int))).run P w = .ok (.slice (some ⟨w.heap.size, 0, none⟩) N N) (w.alloc (.cells CE e)) := by
  obtain ⟨i0, hi, hz0, hz1, hz2⟩ := info_parts E.hi
  refine ⟨madeCells #[a, b] (N * 2), made_ents a b ha hb N enc he h0, fun w => ?_⟩
  have h := run_make (P := P) w t e i0 _ E.ht hi hz0 .i64 .i64 N N (by omega) (Int.le_refl _) (by rw [hz2]; omega) (by omega)
  rw [hab, hz1] at h
  simpa using h

theorem rp_made {w w' : World} {N gr ge gf : Nat} {CE CF : Array Value} (hCE : CE.toList = (List.replicate N EntV.zero).flatMap encE) (hCF : CF.toList = (List.replicate N EntV.zero).flatMap encF) (hN : N ≤ 1024)
    (h1 : Blk w' ge 41 CE) (h2 : Blk w' gf 35 CF) (h3 : Blk w' gr 33 #[.slice (some ⟨ge, 0, none⟩) N N, .slice (some ⟨gf, 0, none⟩) N N]) (k1 : w.heap.size ≤ ge) (k2 : w.heap.size ≤ gf) (k3 : w.heap.size ≤ gr) :
    IsRP w.heap.size w' (.pointer (some ⟨gr, 0, none⟩)) (List.replicate N EntV.zero) gr (.slice (some ⟨ge, 0, none⟩) N N) (.slice (some ⟨gf, 0, none⟩) N N) :=
  ⟨rfl, h3, by rw [List.length_replicate]; exact row_made k1 h1 hCE (by rw [flat_length encE 2 (fun _ => rfl)]; simp) hN, by rw [List.length_replicate]; exact row_made k2 h2 hCF (by rw [flat_length encF 2 (fun _ => rfl)]; simp) hN, k3⟩

/-- Only what is solved has a target. -/
def Clean (es : List EntV) : Prop := ∀ x ∈ es, x.st ≠ 1 → x.cls = ⟨#[]⟩ ∧ x.at_ = 0
theorem clean_zero (n : Nat) : Clean (List.replicate n EntV.zero) := fun x hx _ => by rw [(List.mem_replicate.1 hx).2]; exact ⟨rfl, rfl⟩
theorem clean_set {es : List EntV} (h : Clean es) (k : Nat) (x : EntV) (hx : x.st ≠ 1 → x.cls = ⟨#[]⟩ ∧ x.at_ = 0) : Clean (es.set k x) := by
  intro y hy hs
  rcases List.mem_or_eq_of_mem_set hy with hy | rfl
  · exact h y hy hs
  · exact hx hs
theorem clean_at {es : List EntV} (h : Clean es) (t : Int) (hs : (entAt es t).st ≠ 1) : (entAt es t).cls = ⟨#[]⟩ ∧ (entAt es t).at_ = 0 := by
  unfold entAt at hs ⊢
  split
  · rename_i ht
    rw [if_pos ht] at hs
    cases he : es[(t - 1).toNat]? with
    | none => exact ⟨rfl, rfl⟩
    | some x => rw [he] at hs; exact h x (List.mem_of_getElem? he) hs
  · exact ⟨rfl, rfl⟩

/-- The three answers of Open. -/
theorem open_cases (es : List EntV) (t : Int) : (openE es t = 40 ∧ ¬ (1 ≤ t ∧ t ≤ es.length)) ∨ (openE es t = 24 ∧ (1 ≤ t ∧ t ≤ es.length) ∧ (entAt es t).st ≠ 0) ∨ (openE es t = 0 ∧ (1 ≤ t ∧ t ≤ es.length) ∧ (entAt es t).st = 0) := by
  unfold openE
  by_cases h : 1 ≤ t ∧ t ≤ es.length
  · by_cases h0 : (entAt es t).st = 0
    · exact .inr (.inr ⟨by rw [if_pos h, if_pos h0], h, h0⟩)
    · exact .inr (.inl ⟨by rw [if_pos h, if_neg h0], h, h0⟩)
  · exact .inl ⟨by rw [if_neg h], h⟩
theorem tellE_open {es : List EntV} {t : Int} {x : EntV} (hx : ¬ (x.st = 2 ∧ x.err.toList = [])) : tellE es t x = openE es t := by
  unfold tellE openE
  rw [if_neg hx]
theorem tellE_arg {es : List EntV} {t : Int} {x : EntV} (hx : x.st = 2 ∧ x.err.toList = []) (h : 1 ≤ t ∧ t ≤ es.length) : tellE es t x = 1 := by
  unfold tellE
  rw [if_pos h, if_pos hx]
theorem tellE_out {es : List EntV} {t : Int} {x : EntV} (h : ¬ (1 ≤ t ∧ t ≤ es.length)) : tellE es t x = 40 := by
  unfold tellE
  rw [if_neg h]
theorem solved_in {es : List EntV} {t : Int} (h : (entAt es t).st = 1) : ∃ k : Nat, t = (k : Int) + 1 ∧ ∃ x, es[k]? = some x ∧ entAt es t = x := by
  by_cases hr : 1 ≤ t ∧ t ≤ es.length
  · obtain ⟨k, rfl⟩ : ∃ k : Nat, t = (k : Int) + 1 := ⟨(t - 1).toNat, by omega⟩
    obtain ⟨x, hx⟩ : ∃ x, es[k]? = some x := ⟨_, List.getElem?_eq_getElem (show k < es.length by omega)⟩
    exact ⟨k, rfl, x, hx, entAt_at hx⟩
  · rw [entAt_out hr] at h
    exact absurd h (by decide)

/-- Behind the switch. -/
structure Turned (B : Nat) (wr wx : World) (N k : Nat) (g b g2 b2 gr : Nat) (u v : Value) (es : List EntV) (nn : Nat) : Prop where
  len : es.length = N
  le : nn ≤ k + 1
  clean : Clean es
  three : Three B wx es g b nn g2 b2 gr u v
  below : Below B wr wx
def TurnedX (B : Nat) (wr wx : World) (N k : Nat) (g b g2 b2 gr : Nat) (u v : Value) : Prop := ∃ es nn, Turned B wr wx N k g b g2 b2 gr u v es nn

theorem turned_same {B : Nat} {wr w5 w6 : World} {N k g b g2 b2 gr : Nat} {u v : Value} {es : List EntV} {nn : Nat} {t : Int} {x : EntV} {e : Ending} (hl : es.length = N) (hn : nn ≤ k) (hc : Clean es) (h : Three B w5 es g b nn g2 b2 gr u v) (hk : Kept wr w5) (hB : B ≤ wr.heap.size)
    (ht : Told w5 g b nn es t x e w6) (h0 : tellE es t x ≠ 0) : TurnedX B wr w6 N k g b g2 b2 gr u v :=
  ⟨es, nn + 1, hl, by omega, hc, h.same ht h0, Below.trans (hk.mono hB) (ht.touch.below (fun j hj => by subst hj; exact h.ge) (Nat.le_trans hB hk.size))⟩
theorem turned_both {B : Nat} {wr w5 w6 : World} {N k g b g2 b2 gr j be ce bf cf : Nat} {u v : Value} {es : List EntV} {nn : Nat} {x : EntV} {e : Ending} (hl : es.length = N) (hn : nn ≤ k) (hc : Clean es) (h : Three B w5 es g b nn g2 b2 gr u v) (hk : Kept wr w5) (hB : B ≤ wr.heap.size)
    (ht : Told w5 g b nn es ((j : Int) + 1) x e w6) (h0 : tellE es ((j : Int) + 1) x = 0) (hx : x.st ≠ 1 → x.cls = ⟨#[]⟩ ∧ x.at_ = 0) (hj : j < es.length) (hu : u = .slice (some ⟨be, 0, none⟩) es.length ce) (hv : v = .slice (some ⟨bf, 0, none⟩) es.length cf) :
    TurnedX B wr ((((w6.setCell ⟨be, j * 2, none⟩ (.int .i64 x.st)).setCell ⟨be, j * 2 + 1, none⟩ (.string x.err)).setCell ⟨bf, j * 2, none⟩ (.string x.cls)).setCell ⟨bf, j * 2 + 1, none⟩ (.int .i64 x.at_)) N k g b g2 b2 gr u v := by
  have hh := h.half ht h0
  have hb := hh.both hj hu hv
  have b6 : Below B wr w6 := Below.trans (hk.mono hB) (ht.touch.below (fun j hj => by subst hj; exact h.ge) (Nat.le_trans hB hk.size))
  exact ⟨es.set j x, nn + 1, by rw [List.length_set]; exact hl, by omega, clean_set hc j x hx, hb.1, Below.trans b6 (hb.2.below (fun _ h => h) (Nat.le_trans hB b6.size))⟩
theorem turned_one {B : Nat} {wr w5 w6 : World} {N k g b g2 b2 gr j be ce : Nat} {u v : Value} {es : List EntV} {nn : Nat} {x y : EntV} {e : Ending} (hl : es.length = N) (hn : nn ≤ k) (hc : Clean es) (h : Three B w5 es g b nn g2 b2 gr u v) (hk : Kept wr w5) (hB : B ≤ wr.heap.size)
    (ht : Told w5 g b nn es ((j : Int) + 1) x e w6) (h0 : tellE es ((j : Int) + 1) x = 0) (hx : x.st ≠ 1 → x.cls = ⟨#[]⟩ ∧ x.at_ = 0) (hj : es[j]? = some y) (hy : encF x = encF y) (hu : u = .slice (some ⟨be, 0, none⟩) es.length ce) :
    TurnedX B wr ((w6.setCell ⟨be, j * 2, none⟩ (.int .i64 x.st)).setCell ⟨be, j * 2 + 1, none⟩ (.string x.err)) N k g b g2 b2 gr u v := by
  have hh := h.half ht h0
  have hb := hh.one hj hy hu
  have b6 : Below B wr w6 := Below.trans (hk.mono hB) (ht.touch.below (fun j hj => by subst hj; exact h.ge) (Nat.le_trans hB hk.size))
  exact ⟨es.set j x, nn + 1, by rw [List.length_set]; exact hl, by omega, clean_set hc j x hx, hb.1, Below.trans b6 (hb.2.below (fun _ h => h) (Nat.le_trans hB b6.size))⟩

theorem IsRP.base {B B' : Nat} {w : World} {p : Value} {es : List EntV} {g : Nat} {u v : Value} (h : IsRP B w p es g u v) (hb : B' ≤ B) : IsRP B' w p es g u v :=
  ⟨h.ptr, h.blk, h.re.base hb, h.rf.base hb, Nat.le_trans hb h.ge⟩

set_option maxHeartbeats 2000000 in
theorem walk_PoolPlays (n : Int) (ops : List OpP) (x0 : Value) (w : World) (_ : (Lit.int .i64 n).wf = true) (hr : Rd w 5 x0 ops.length (ops.flatMap encOpP)) (hq : ∀ y ∈ ops, -9223372036854775808 ≤ y.at_ ∧ y.at_ ≤ 9223372036854775807) :
    Calls Try.prog 3 #[.int .i64 n, x0] w fun e w' => e = .returned (.bool true) ∧ Below w.heap.size w w' := by
  obtain ⟨m, hm⟩ : ∃ m, m = ops.length := ⟨_, rfl⟩
  rw [← hm] at hr
  obtain ⟨hrl, a, c, hx0, h1, h2, h3⟩ := hr
  subst hx0
  have hm' := Lib.hid hm
  have h3' := Lib.hid h3
  have hq' := Lib.hid hq
  clear hm h3 hrl hq
  by_cases hlen : 300 < m
  · go_enter Try.func3, Try.ntmps3
    go_wp2_with fail
    refine (alive14 _).mono ?_
    rintro e w1 ⟨rfl, k1⟩
    have K1 := Lib.hid k1
    clear k1
    go_wp2
    go_ret
    exact ⟨rfl, K1.out⟩
  by_cases hsz : 0 ≤ n ∧ n ≤ 1024
  · obtain ⟨a1, a2⟩ := hsz
    obtain ⟨N, rfl⟩ : ∃ N : Nat, n = N := ⟨n.toNat, by omega⟩
    have hN : N ≤ 1024 := by omega
    go_enter Try.func3, Try.ntmps3
    go_wp2_with fail
    refine (alive14 _).mono ?_
    rintro e w1 ⟨rfl, k1⟩
    have K1 := Lib.hid k1
    clear k1
    go_wp2_with fail
    refine (pool_New _ N hN).mono ?_
    rintro e w2 ⟨g, b, rfl, hP, k2, hg, hb⟩
    have HP := Lib.hid hP
    have K2 := Lib.hid k2
    clear hP k2
    go_wp2_with fail
    refine (pool_New _ N hN).mono ?_
    rintro e w3 ⟨g2, b2, rfl, hQ, k3, hg2, hb2⟩
    have HQ := Lib.hid hQ
    have K3 := Lib.hid k3
    clear hQ k3
    go_wp2_with fail
    refine (law14_num _ _).mono ?_
    rintro e w4 ⟨rfl, rfl⟩
    go_wp2_with fail
    have hPL := pool_Len w3 _ _ g b _ (HP.out.kept K3.out)
    rw [List.length_replicate] at hPL
    refine hPL.mono ?_
    clear hPL
    rintro e w4 ⟨rfl, rfl⟩
    go_upto_region 10 with fail
    go_cut [10] from 69 to 74 (fun s10 wx => ∃ gr u v, s10 = .pointer (some ⟨gr, 0, none⟩) ∧ IsRP w3.heap.size wx (.pointer (some ⟨gr, 0, none⟩)) (List.replicate N EntV.zero) gr u v ∧ Kept w3 wx)
    case first =>
      obtain ⟨CE, hCE, mkE⟩ := make_rows elem_ent rfl rfl encE (fun _ => rfl) rfl rfl N hN
      obtain ⟨CF, hCF, mkF⟩ := make_rows elem_fnd rfl rfl encF (fun _ => rfl) rfl rfl N hN
      have HCE := Lib.hid hCE
      have HCF := Lib.hid hCF
      clear hCE hCF
      go_region
      all_goals go_wp2_with fail
      all_goals go_meet
      all_goals first
        | exact ⟨_, _, _, rfl, rp_made (ge := w3.heap.size) (gf := (w3.heap.size + 1)) HCE.out HCF.out hN (by first | exact ((Blk.new w3 _ _).alloc _).alloc _ | exact (blk_atP (by simp)).alloc _ | exact blk_atP (by simp)) (by first | exact ((Blk.new w3 _ _).alloc _).alloc _ | exact (blk_atP (by simp)).alloc _ | exact blk_atP (by simp)) (by first | exact ((Blk.new w3 _ _).alloc _).alloc _ | exact (blk_atP (by simp)).alloc _ | exact blk_atP (by simp)) (by omega) (by omega) (by omega), ((((Below.refl _ _).alloc (Nat.le_refl _) _).alloc (by simp) _).alloc (by simp; omega) _).drew⟩
        | exact ⟨_, _, _, rfl, rp_made (ge := (w3.heap.size + 1)) (gf := w3.heap.size) HCE.out HCF.out hN (by first | exact ((Blk.new w3 _ _).alloc _).alloc _ | exact (blk_atP (by simp)).alloc _ | exact blk_atP (by simp)) (by first | exact ((Blk.new w3 _ _).alloc _).alloc _ | exact (blk_atP (by simp)).alloc _ | exact blk_atP (by simp)) (by first | exact ((Blk.new w3 _ _).alloc _).alloc _ | exact (blk_atP (by simp)).alloc _ | exact blk_atP (by simp)) (by omega) (by omega) (by omega), ((((Below.refl _ _).alloc (Nat.le_refl _) _).alloc (by simp) _).alloc (by simp; omega) _).drew⟩
        | exact ⟨_, _, _, rfl, rp_made (ge := w3.heap.size) (gf := (w3.heap.size + 1 + 1)) HCE.out HCF.out hN (by first | exact ((Blk.new w3 _ _).alloc _).alloc _ | exact (blk_atP (by simp)).alloc _ | exact blk_atP (by simp)) (by first | exact ((Blk.new w3 _ _).alloc _).alloc _ | exact (blk_atP (by simp)).alloc _ | exact blk_atP (by simp)) (by first | exact ((Blk.new w3 _ _).alloc _).alloc _ | exact (blk_atP (by simp)).alloc _ | exact blk_atP (by simp)) (by omega) (by omega) (by omega), ((((Below.refl _ _).alloc (Nat.le_refl _) _).alloc (by simp) _).alloc (by simp; omega) _).drew⟩
        | exact ⟨_, _, _, rfl, rp_made (ge := (w3.heap.size + 1 + 1)) (gf := w3.heap.size) HCE.out HCF.out hN (by first | exact ((Blk.new w3 _ _).alloc _).alloc _ | exact (blk_atP (by simp)).alloc _ | exact blk_atP (by simp)) (by first | exact ((Blk.new w3 _ _).alloc _).alloc _ | exact (blk_atP (by simp)).alloc _ | exact blk_atP (by simp)) (by first | exact ((Blk.new w3 _ _).alloc _).alloc _ | exact (blk_atP (by simp)).alloc _ | exact blk_atP (by simp)) (by omega) (by omega) (by omega), ((((Below.refl _ _).alloc (Nat.le_refl _) _).alloc (by simp) _).alloc (by simp; omega) _).drew⟩
        | exact ⟨_, _, _, rfl, rp_made (ge := (w3.heap.size + 1)) (gf := (w3.heap.size + 1 + 1)) HCE.out HCF.out hN (by first | exact ((Blk.new w3 _ _).alloc _).alloc _ | exact (blk_atP (by simp)).alloc _ | exact blk_atP (by simp)) (by first | exact ((Blk.new w3 _ _).alloc _).alloc _ | exact (blk_atP (by simp)).alloc _ | exact blk_atP (by simp)) (by first | exact ((Blk.new w3 _ _).alloc _).alloc _ | exact (blk_atP (by simp)).alloc _ | exact blk_atP (by simp)) (by omega) (by omega) (by omega), ((((Below.refl _ _).alloc (Nat.le_refl _) _).alloc (by simp) _).alloc (by simp; omega) _).drew⟩
        | exact ⟨_, _, _, rfl, rp_made (ge := (w3.heap.size + 1 + 1)) (gf := (w3.heap.size + 1)) HCE.out HCF.out hN (by first | exact ((Blk.new w3 _ _).alloc _).alloc _ | exact (blk_atP (by simp)).alloc _ | exact blk_atP (by simp)) (by first | exact ((Blk.new w3 _ _).alloc _).alloc _ | exact (blk_atP (by simp)).alloc _ | exact blk_atP (by simp)) (by first | exact ((Blk.new w3 _ _).alloc _).alloc _ | exact (blk_atP (by simp)).alloc _ | exact blk_atP (by simp)) (by omega) (by omega) (by omega), ((((Below.refl _ _).alloc (Nat.le_refl _) _).alloc (by simp) _).alloc (by simp; omega) _).drew⟩
    case rest =>
      obtain ⟨gr, u, v, rfl, hR, k4⟩ := hcut
      obtain ⟨wo, rfl⟩ : ∃ wo, wo = wc := ⟨_, rfl⟩
      have hT0 : Three w1.heap.size wo (List.replicate N EntV.zero) g b 0 g2 b2 gr u v := by
        have z2 := K2.out.size
        have z3 := K3.out.size
        refine ⟨(HP.out.kept K3.out).kept k4, ?_, hR.base (by omega), ?_, hb⟩
        · rw [List.length_replicate]; exact HQ.out.kept k4
        · have := HP.out.dict.lt
          omega
      have HT0 := Lib.hid hT0
      have KW := Lib.hid (Kept.trans (Kept.trans K1.out K2.out) (Kept.trans K3.out k4))
      have hz1 := K1.out.size
      have hzc : w1.heap.size ≤ wo.heap.size := Nat.le_trans K2.out.size (Nat.le_trans K3.out.size k4.size)
      clear hR k4 hT0
      go_wp2_with fail
      go_loopw [11] (fun s11 wr => ∃ (k : Nat) (es : List EntV) (nn : Nat), k ≤ m ∧ s11 = .int .i64 k ∧ es.length = N ∧ nn ≤ k ∧ Clean es ∧ Three w1.heap.size wr es g b nn g2 b2 gr u v ∧ Below w1.heap.size wo wr) (fun s11 _ => m - (intOf s11).toNat)
      case atStart => exact ⟨0, _, 0, Nat.zero_le _, rfl, List.length_replicate, Nat.le_refl _, clean_zero N, HT0.out, Below.refl _ _⟩
      case round =>
        obtain ⟨k, es, nn, hk, rfl, hes, hnn, hCl, hT, hB⟩ := hrel
        have HCL := Lib.hid hCl
        have HT := Lib.hid hT
        have HB := Lib.hid hB
        have HES := Lib.hid hes
        have KR := Lib.hid (show Kept w wr from Below.trans KW.out (hB.mono hz1))
        clear hT hB hes hCl
        by_cases hlt : k < m
        · obtain ⟨o, ho⟩ : ∃ o, ops[k]? = some o := ⟨ops[k]'(by have := hm'.out; omega), List.getElem?_eq_getElem _⟩
          obtain ⟨bo, off, rfl, hc⟩ := h3'.out (by omega)
          have hg5 : ∀ f q, (encOpP o)[f]? = some q → f < 5 → wr.cell? ⟨bo, off + (k * 5 + f), none⟩ = some q := fun f q hu hf => Kept.cell KR.out (hc _ _ (by rw [flat_get encOpP 5 (fun _ => rfl) ops k f o ho hf]; exact hu))
          have g0 : wr.cell? ⟨bo, off + k * 5, none⟩ = some (.int .i64 o.kind) := hg5 0 _ rfl (by omega)
          have g1 : wr.cell? ⟨bo, off + k * 5 + 1, none⟩ = some (.int .i64 o.at_) := hg5 1 _ rfl (by omega)
          have g2' : wr.cell? ⟨bo, off + k * 5 + 2, none⟩ = some (.string o.cls) := hg5 2 _ rfl (by omega)
          have g3 : wr.cell? ⟨bo, off + k * 5 + 3, none⟩ = some (.int .i64 o.fat) := hg5 3 _ rfl (by omega)
          have g4 : wr.cell? ⟨bo, off + k * 5 + 4, none⟩ = some (.string o.err) := hg5 4 _ rfl (by omega)
          obtain ⟨q1, q2⟩ := hq'.out o (List.mem_of_getElem? ho)
          clear hc hg5 ho
          obtain ⟨kind, at_, cls, fat, err⟩ := o
          dsimp only at g0 g1 g2' g3 g4 q1 q2
          have hzr : w1.heap.size ≤ wr.heap.size := Nat.le_trans hzc HB.out.size
          have k5 : Kept wr (wr.alloc (.cells #[.int .i64 kind, .int .i64 at_, .string cls, .int .i64 fat, .string err] 37)) := (Below.refl _ _).alloc (Nat.le_refl _) _
          have b5 : Blk (wr.alloc (.cells #[.int .i64 kind, .int .i64 at_, .string cls, .int .i64 fat, .string err] 37)) wr.heap.size 37 #[.int .i64 kind, .int .i64 at_, .string cls, .int .i64 fat, .string err] := Blk.new _ _ _
          have hlen5 : es.length ≤ 1024 := by have := HES.out; omega
          obtain ⟨E, hE⟩ : ∃ E, E = openE es at_ := ⟨_, rfl⟩
          have hO := ref_Open w1.heap.size _ _ es gr u v at_ (HT.out.kept k5).r hlen5
          rw [← hE] at hO
          have HO := Lib.hid hO
          have HE := Lib.hid hE
          have HK5 := Lib.hid k5
          have HB5 := Lib.hid b5
          clear k5 b5 hE hO
          go_wp2_with fail
          refine HO.out.mono ?_
          rintro e w6 ⟨rfl, rfl⟩
          clear HO g0 g1 g2' g3 g4
          generalize (wr.alloc (.cells #[.int .i64 kind, .int .i64 at_, .string cls, .int .i64 fat, .string err] 37)) = w5 at *
          have o0 := HB5.out.cell 0
          have o1 := HB5.out.cell 1
          have o2 := HB5.out.cell 2
          have o3 := HB5.out.cell 3
          have o4 := HB5.out.cell 4
          simp at o0 o1 o2 o3 o4
          go_upto_block 2 with fail
          go_cut [13, 14, 15] from 87 to 149 (fun _ _ _ wx => TurnedX w1.heap.size wr wx N k g b g2 b2 gr u v ∧ Blk wx wr.heap.size 37 #[.int .i64 kind, .int .i64 at_, .string cls, .int .i64 fat, .string err])
          case first =>
            have hTT := HT.out.kept HK5.out
            have HTT := Lib.hid hTT
            have hbo : wr.heap.size ≠ b := fun e => by have := HT.out.p.dict.lt; omega
            have HBO := Lib.hid hbo
            clear hTT hbo
            by_cases c1 : kind.tmod 3 = 1
            · have hx : ¬ ((1 : Int) = 2 ∧ (⟨#[]⟩ : ByteArray).toList = []) := fun h => by have := h.1; omega
              have hT1 : tellE es at_ ⟨1, ⟨#[]⟩, cls, fat⟩ = E := by rw [HE.out]; exact tellE_open hx
              have HT1 := Lib.hid hT1
              clear hx hT1
              rcases open_cases es at_ with ⟨hh, hout⟩ | ⟨hh, hin, hz⟩ | ⟨hh, hin, hz⟩
              · obtain rfl : E = 40 := HE.out.trans hh
                clear hh hout
                go_wp2_with fail
                refine (pool_Solve w5 es g b nn at_ cls fat HTT.out.p q1 q2 (by omega)).mono ?_
                rintro e w6 ⟨rfl, hp, ht⟩
                have HD := Lib.hid (show Told w5 g b nn es at_ ⟨1, ⟨#[]⟩, cls, fat⟩ _ w6 from ⟨rfl, hp, ht⟩)
                clear hp ht
                rw [HT1.out]
                go_wp2_with fail
                refine (law14_num _ _).mono ?_
                rintro e w7 ⟨rfl, rfl⟩
                go_wp2_with fail
                go_meet
                exact ⟨turned_same HES.out hnn HCL.out HTT.out HK5.out hzr HD.out (by rw [HT1.out]; decide), HB5.out.touch HD.out.touch HBO.out⟩
              · obtain rfl : E = 24 := HE.out.trans hh
                clear hh hin hz
                go_wp2_with fail
                refine (pool_Solve w5 es g b nn at_ cls fat HTT.out.p q1 q2 (by omega)).mono ?_
                rintro e w6 ⟨rfl, hp, ht⟩
                have HD := Lib.hid (show Told w5 g b nn es at_ ⟨1, ⟨#[]⟩, cls, fat⟩ _ w6 from ⟨rfl, hp, ht⟩)
                clear hp ht
                rw [HT1.out]
                go_wp2_with fail
                refine (law14_num _ _).mono ?_
                rintro e w7 ⟨rfl, rfl⟩
                go_wp2_with fail
                go_meet
                exact ⟨turned_same HES.out hnn HCL.out HTT.out HK5.out hzr HD.out (by rw [HT1.out]; decide), HB5.out.touch HD.out.touch HBO.out⟩
              · obtain rfl : E = 0 := HE.out.trans hh
                obtain ⟨j, rfl⟩ : ∃ j : Nat, at_ = (j : Int) + 1 := ⟨(at_ - 1).toNat, by omega⟩
                have hjl : j < es.length := by omega
                have hjN : j < N := by have := HES.out; omega
                obtain ⟨be, ce, bf, cf, hu, hv, hce, hce2, hcf, hcf2⟩ := HTT.out.cells (by omega)
                have HU := Lib.hid hu
                have HV := Lib.hid hv
                rw [HES.out] at hu hv hce hcf
                subst hu hv
                clear hh hin hz
                go_wp2_with fail
                refine (pool_Solve w5 es g b nn _ cls fat HTT.out.p q1 q2 (by omega)).mono ?_
                rintro e w6 ⟨rfl, hp, ht⟩
                have hD : Told w5 g b nn es ((j : Int) + 1) ⟨1, ⟨#[]⟩, cls, fat⟩ _ w6 := ⟨rfl, hp, ht⟩
                have HD := Lib.hid hD
                have hH := HTT.out.half hD HT1.out
                have b6 := HB5.out.touch ht HBO.out
                have HB6 := Lib.hid b6
                have r0 := hH.r.blk.cell 0
                have r1 := hH.r.blk.cell 1
                have p1 := b6.cell 1
                have p2 := b6.cell 2
                have p3 := b6.cell 3
                simp at r0 r1 p1 p2 p3
                have re := hH.r.re
                have rf := hH.r.rf
                rw [HES.out] at re rf
                obtain ⟨ec, ef, _, _⟩ := re.cells
                obtain ⟨fc, ff, _, _⟩ := rf.cells
                obtain ⟨y, hy⟩ : ∃ y, es[j]? = some y := ⟨_, List.getElem?_eq_getElem hjl⟩
                have e0 : w6.cell? ⟨be, j * 2, none⟩ = some (.int .i64 y.st) := ec _ _ (by have := flat_get encE 2 (fun _ => rfl) es j 0 y hy (by omega); simpa [encE] using this)
                have e1 : w6.cell? ⟨be, j * 2 + 1, none⟩ = some (.string y.err) := ec _ _ (by have := flat_get encE 2 (fun _ => rfl) es j 1 y hy (by omega); simpa [encE] using this)
                have f0 : w6.cell? ⟨bf, j * 2, none⟩ = some (.string y.cls) := fc _ _ (by have := flat_get encF 2 (fun _ => rfl) es j 0 y hy (by omega); simpa [encF] using this)
                have f1 : w6.cell? ⟨bf, j * 2 + 1, none⟩ = some (.int .i64 y.at_) := fc _ _ (by have := flat_get encF 2 (fun _ => rfl) es j 1 y hy (by omega); simpa [encF] using this)
                have ez0 := ef (j * 2)
                have ez1 := ef (j * 2 + 1)
                have fz0 := ff (j * 2)
                have fz1 := ff (j * 2 + 1)
                have te := hH.r.re.ty be rfl
                have tf := hH.r.rf.ty bf rfl
                have n1 : be ≠ gr := TyAt.ne te hH.r.blk.ty (by decide)
                have n2 : be ≠ bf := TyAt.ne te tf (by decide)
                have n3 : be ≠ wr.heap.size := TyAt.ne te b6.ty (by decide)
                have n4 : bf ≠ gr := TyAt.ne tf hH.r.blk.ty (by decide)
                have n5 : bf ≠ wr.heap.size := TyAt.ne tf b6.ty (by decide)
                have N3 := Lib.hid n3
                have N5 := Lib.hid n5
                have m1 := n1.symm
                have m2 := n2.symm
                have m3 := n3.symm
                have m4 := n4.symm
                have m5 := n5.symm
                clear hp ht hD hH b6 re rf ec ef fc ff hy te tf
                rw [HT1.out]
                go_wp2_with fail
                refine (law14_num _ _).mono ?_
                rintro e w7 ⟨rfl, rfl⟩
                go_wp2_with fail
                go_meet
                have F := turned_both (x := ⟨1, ⟨#[]⟩, cls, fat⟩) HES.out hnn HCL.out HTT.out HK5.out hzr HD.out HT1.out (fun h => absurd rfl h) hjl HU.out HV.out
                exact ⟨F, (((HB6.out.far N3.out.symm _).far N3.out.symm _).far N5.out.symm _).far N5.out.symm _⟩
            · by_cases c2 : kind.tmod 3 = 2
              · rcases open_cases es at_ with ⟨hh, hout⟩ | ⟨hh, hin, hz⟩ | ⟨hh, hin, hz⟩
                · obtain rfl : E = 40 := HE.out.trans hh
                  have HT1 := Lib.hid (tellE_out (x := ⟨2, err, ⟨#[]⟩, 0⟩) hout)
                  clear hh hout
                  go_wp2_with fail
                  refine (pool_Fail w5 es g b nn at_ err HTT.out.p q1 q2 (by omega)).mono ?_
                  rintro e w6 ⟨rfl, hp, ht⟩
                  have HD := Lib.hid (show Told w5 g b nn es at_ ⟨2, err, ⟨#[]⟩, 0⟩ _ w6 from ⟨rfl, hp, ht⟩)
                  clear hp ht
                  rw [HT1.out]
                  go_wp2_with fail
                  refine (law14_num _ _).mono ?_
                  rintro e w7 ⟨rfl, rfl⟩
                  go_wp2_with fail
                  go_meet
                  exact ⟨turned_same HES.out hnn HCL.out HTT.out HK5.out hzr HD.out (by rw [HT1.out]; decide), HB5.out.touch HD.out.touch HBO.out⟩
                · obtain rfl : E = 24 := HE.out.trans hh
                  by_cases he : err.toList = []
                  · have HT1 := Lib.hid (tellE_arg (x := ⟨2, err, ⟨#[]⟩, 0⟩) ⟨rfl, he⟩ hin)
                    clear hh hin hz
                    go_wp2_with fail
                    refine (pool_Fail w5 es g b nn at_ err HTT.out.p q1 q2 (by omega)).mono ?_
                    rintro e w6 ⟨rfl, hp, ht⟩
                    have HD := Lib.hid (show Told w5 g b nn es at_ ⟨2, err, ⟨#[]⟩, 0⟩ _ w6 from ⟨rfl, hp, ht⟩)
                    have p4 := (HB5.out.touch ht HBO.out).cell 4
                    simp at p4
                    clear hp ht
                    rw [HT1.out]
                    go_wp2_with fail
                    refine (law14_num _ _).mono ?_
                    rintro e w7 ⟨rfl, rfl⟩
                    go_wp2_with fail
                    go_meet
                    exact ⟨turned_same HES.out hnn HCL.out HTT.out HK5.out hzr HD.out (by rw [HT1.out]; decide), HB5.out.touch HD.out.touch HBO.out⟩
                  · have HT1 := Lib.hid ((tellE_open (es := es) (t := at_) (x := ⟨2, err, ⟨#[]⟩, 0⟩) (fun h => he h.2)).trans hh)
                    have he2 : err.toList.isEmpty = false := by simpa using he
                    clear hh hin hz he
                    go_wp2_with fail
                    refine (pool_Fail w5 es g b nn at_ err HTT.out.p q1 q2 (by omega)).mono ?_
                    rintro e w6 ⟨rfl, hp, ht⟩
                    have HD := Lib.hid (show Told w5 g b nn es at_ ⟨2, err, ⟨#[]⟩, 0⟩ _ w6 from ⟨rfl, hp, ht⟩)
                    have p4 := (HB5.out.touch ht HBO.out).cell 4
                    simp at p4
                    clear hp ht
                    rw [HT1.out]
                    go_wp2_with fail
                    refine (law14_num _ _).mono ?_
                    rintro e w7 ⟨rfl, rfl⟩
                    go_wp2_with fail
                    go_meet
                    exact ⟨turned_same HES.out hnn HCL.out HTT.out HK5.out hzr HD.out (by rw [HT1.out]; decide), HB5.out.touch HD.out.touch HBO.out⟩
                · obtain rfl : E = 0 := HE.out.trans hh
                  by_cases he : err.toList = []
                  · have HT1 := Lib.hid (tellE_arg (x := ⟨2, err, ⟨#[]⟩, 0⟩) ⟨rfl, he⟩ hin)
                    clear hh hin hz
                    go_wp2_with fail
                    refine (pool_Fail w5 es g b nn at_ err HTT.out.p q1 q2 (by omega)).mono ?_
                    rintro e w6 ⟨rfl, hp, ht⟩
                    have HD := Lib.hid (show Told w5 g b nn es at_ ⟨2, err, ⟨#[]⟩, 0⟩ _ w6 from ⟨rfl, hp, ht⟩)
                    have p4 := (HB5.out.touch ht HBO.out).cell 4
                    simp at p4
                    clear hp ht
                    rw [HT1.out]
                    go_wp2_with fail
                    refine (law14_num _ _).mono ?_
                    rintro e w7 ⟨rfl, rfl⟩
                    go_wp2_with fail
                    go_meet
                    exact ⟨turned_same HES.out hnn HCL.out HTT.out HK5.out hzr HD.out (by rw [HT1.out]; decide), HB5.out.touch HD.out.touch HBO.out⟩
                  · have HT1 := Lib.hid ((tellE_open (es := es) (t := at_) (x := ⟨2, err, ⟨#[]⟩, 0⟩) (fun h => he h.2)).trans hh)
                    have he2 : err.toList.isEmpty = false := by simpa using he
                    obtain ⟨j, rfl⟩ : ∃ j : Nat, at_ = (j : Int) + 1 := ⟨(at_ - 1).toNat, by omega⟩
                    have hjl : j < es.length := by omega
                    have hjN : j < N := by have := HES.out; omega
                    obtain ⟨be, ce, bf, cf, hu, hv, hce, hce2, hcf, hcf2⟩ := HTT.out.cells (by omega)
                    have HU := Lib.hid hu
                    have HV := Lib.hid hv
                    rw [HES.out] at hu hv hce hcf
                    subst hu hv
                    obtain ⟨y, hy⟩ : ∃ y, es[j]? = some y := ⟨_, List.getElem?_eq_getElem hjl⟩
                    have hy0 : y = EntV.zero := HTT.out.p.bare y (List.mem_of_getElem? hy) (by rw [entAt_at hy] at hz; exact hz)
                    have HY := Lib.hid hy
                    have HY0 := Lib.hid hy0
                    clear hh hin hz he hy0
                    go_wp2_with fail
                    refine (pool_Fail w5 es g b nn _ err HTT.out.p q1 q2 (by omega)).mono ?_
                    rintro e w6 ⟨rfl, hp, ht⟩
                    have hD : Told w5 g b nn es ((j : Int) + 1) ⟨2, err, ⟨#[]⟩, 0⟩ _ w6 := ⟨rfl, hp, ht⟩
                    have HD := Lib.hid hD
                    have hH := HTT.out.half hD HT1.out
                    have b6 := HB5.out.touch ht HBO.out
                    have HB6 := Lib.hid b6
                    have r0 := hH.r.blk.cell 0
                    have p1 := b6.cell 1
                    have p4 := b6.cell 4
                    simp at r0 p1 p4
                    have re := hH.r.re
                    rw [HES.out] at re
                    obtain ⟨ec, ef, _, _⟩ := re.cells
                    have e0 : w6.cell? ⟨be, j * 2, none⟩ = some (.int .i64 y.st) := ec _ _ (by have := flat_get encE 2 (fun _ => rfl) es j 0 y hy (by omega); simpa [encE] using this)
                    have e1 : w6.cell? ⟨be, j * 2 + 1, none⟩ = some (.string y.err) := ec _ _ (by have := flat_get encE 2 (fun _ => rfl) es j 1 y hy (by omega); simpa [encE] using this)
                    have ez0 := ef (j * 2)
                    have ez1 := ef (j * 2 + 1)
                    have te := hH.r.re.ty be rfl
                    have n3 : be ≠ wr.heap.size := TyAt.ne te b6.ty (by decide)
                    have N3 := Lib.hid n3
                    clear hp ht hD hH b6 re ec ef hy te
                    rw [HT1.out]
                    go_wp2_with fail
                    refine (law14_num _ _).mono ?_
                    rintro e w7 ⟨rfl, rfl⟩
                    go_wp2_with fail
                    go_meet
                    have F := turned_one (x := ⟨2, err, ⟨#[]⟩, 0⟩) HES.out hnn HCL.out HTT.out HK5.out hzr HD.out HT1.out (fun _ => ⟨rfl, rfl⟩) HY.out (by rw [HY0.out]; rfl) HU.out
                    exact ⟨F, (HB6.out.far N3.out.symm _).far N3.out.symm _⟩
              · go_wp2_with fail
                go_meet
                exact ⟨⟨es, nn, HES.out, by omega, HCL.out, HTT.out, HK5.out.mono hzr⟩, HB5.out⟩
          case rest =>
            obtain ⟨⟨es', nn', hX⟩, hOB⟩ := hcut
            have HX := Lib.hid hX
            have p1 := hOB.cell 1
            simp at p1
            have hbw := hOB.lt
            have HOB := Lib.hid hOB
            have hl' : es'.length ≤ 1024 := by have := hX.len; omega
            obtain ⟨x, hx⟩ : ∃ x, x = entAt es' at_ := ⟨_, rfl⟩
            have hcl := clean_at hX.clean at_
            have CT := fun (W : World) (k : Kept wc W) => pool_Target W _ es' g b nn' at_ (hX.three.p.kept k) q1 q2
            have CR := fun (W : World) (k : Kept wc W) => ref_State w1.heap.size W _ es' gr u v at_ (hX.three.r.kept k) hl'
            have CP := fun (W : World) (k : Kept wc W) => pool_State W _ es' g b nn' at_ (hX.three.p.kept k) q1 q2
            have CQ := fun (W : World) (k : Kept wc W) => pool_State W _ _ g2 b2 0 at_ (hX.three.q.kept k) q1 q2
            simp only [entAt_zero] at CQ
            simp only [EntV.zero] at CQ
            have r1 := hX.three.r.blk.cell 1
            simp at r1
            rw [← hx] at hcl CT CR CP
            have HXX := Lib.hid hx
            obtain ⟨xs, xe, xc, xa⟩ := x
            dsimp only at hcl CT CR CP
            have HCR := Lib.hid CR
            have HCP := Lib.hid CP
            have HCQ := Lib.hid CQ
            clear hX hOB hx CR CP CQ
            by_cases hs : xs = 1
            · subst hs
              have HCT := Lib.hid CT
              obtain ⟨j, rfl, y, hy, hxy⟩ := solved_in (es := es') (t := at_) (by rw [← HXX.out])
              rw [← HXX.out] at hxy
              subst hxy
              have hjl := (List.getElem?_eq_some_iff.1 hy).1
              have hjN : j < N := by have := HX.out.len; omega
              obtain ⟨be, ce, bf, cf, hu, hv, hce, hce2, hcf, hcf2⟩ := HX.out.three.cells (by omega)
              rw [HX.out.len] at hu hv hce hcf
              subst hu hv
              have rf := HX.out.three.r.rf
              rw [HX.out.len] at rf
              obtain ⟨fc, ff, _, _⟩ := rf.cells
              have f0 : wc.cell? ⟨bf, j * 2, none⟩ = some (.string xc) := fc _ _ (by have := flat_get encF 2 (fun _ => rfl) es' j 0 _ hy (by omega); simpa [encF] using this)
              have f1 : wc.cell? ⟨bf, j * 2 + 1, none⟩ = some (.int .i64 xa) := fc _ _ (by have := flat_get encF 2 (fun _ => rfl) es' j 1 _ hy (by omega); simpa [encF] using this)
              clear rf fc ff hy CT hcl
              go_wp2_with fail
              refine (HCT.out wc (Below.refl _ _)).mono ?_
              rintro e w7 ⟨rfl, k7⟩
              have k8 : Kept wc (w7.alloc (.cells #[.string xc, .int .i64 xa] 35)) := Kept.trans k7 ((Below.refl _ _).alloc (Nat.le_refl _) _)
              have b8 : Blk (w7.alloc (.cells #[.string xc, .int .i64 xa] 35)) w7.heap.size 35 #[.string xc, .int .i64 xa] := Blk.new _ _ _
              have p1b := Kept.cell k7 p1
              have HK8 := Lib.hid k8
              have HB8 := Lib.hid b8
              have p1c := Kept.cell k8 p1
              have hz7 := k7.size
              clear k7 k8 b8
              go_wp2_with fail
              refine (HCR.out _ HK8.out).mono ?_
              rintro e w9 ⟨rfl, k9⟩
              have k10 : Kept wc (w9.alloc (.cells #[.int .i64 1, .string xe] 41)) := Kept.trans (Kept.trans HK8.out k9) ((Below.refl _ _).alloc (Nat.le_refl _) _)
              have b10 : Blk (w9.alloc (.cells #[.int .i64 1, .string xe] 41)) w9.heap.size 41 #[.int .i64 1, .string xe] := Blk.new _ _ _
              have x10 := (HB8.out.kept k9).alloc (.cells #[.int .i64 1, .string xe] 41)
              have HK10 := Lib.hid k10
              have HB10 := Lib.hid b10
              have HX10 := Lib.hid x10
              clear k9 k10 b10 x10
              go_upto_region 35 with fail
              generalize (w9.alloc (.cells #[.int .i64 1, .string xe] 41)) = w10 at *
              have s0 := HB10.out.cell 0
              have s1 := HB10.out.cell 1
              have y0 := HX10.out.cell 0
              have y1 := HX10.out.cell 1
              simp at s0 s1 y0 y1
              have q10 := Kept.cell HK10.out p1
              have g1 := Kept.cell HK10.out r1
              have f0' := Kept.cell HK10.out f0
              have f1' := Kept.cell HK10.out f1
              have hw : IntKind.i64.wrap (j : Int) = (j : Int) := IntWalk.i64_in _ (by omega)
              have hj0 : (0 : Int) ≤ (j : Int) := by omega
              have hj1 : (j : Int) < (N : Int) := by omega
              clear r1 f0 f1
              clear p1 p1b p1c
              refine wp_region_held_drew (S := (fun w' => w'.cell? ⟨w9.heap.size, 0, none⟩ = some (.int .i64 1) ∧ w'.cell? ⟨w9.heap.size, 1, none⟩ = some (.string xe) ∧ w'.cell? ⟨w7.heap.size, 0, none⟩ = some (.string xc) ∧ w'.cell? ⟨w7.heap.size, 1, none⟩ = some (.int .i64 xa) ∧ w'.cell? ⟨wr.heap.size, 1, none⟩ = some (.int .i64 ((j : Int) + 1)) ∧ w'.cell? ⟨gr, 1, none⟩ = some (.slice (some ⟨bf, 0, none⟩) N cf) ∧ w'.cell? ⟨bf, j * 2, none⟩ = some (.string xc) ∧ w'.cell? ⟨bf, j * 2 + 1, none⟩ = some (.int .i64 xa))) (by kernel_rfl) (by first | assumption | ((try dsimp only); simp [*]; done)) (fun hHeld => ?_)
              refine wpAnyH_take (i := 0) (oi := { dst := some 162, op := Op.move (Operand.tmp 6), type := 24, pos := "law.go:73", after := #[], guard := none }) (v := ?va0) rfl (by kernel_rfl) (by kernel_rfl) (by kernel_rfl) (fun _ _ _ h => h) (Or.inl ⟨by rfl, ?ya0⟩) (by assumption) ?ra0
              case ya0 => (intro w hSw; (try dsimp only at hSw); go_simp <;> with_reducible rfl)
              (try simp only [Act.put, List.setIfInBounds_toArray, List.set_cons_zero, List.set_cons_succ])
              refine wpAnyH_take (i := 1) (oi := { dst := some 163, op := Op.fieldAddr 37 (Operand.tmp 12) 1, type := 0, pos := "law.go:73", after := #[], guard := none }) (v := ?va1) rfl (by kernel_rfl) (by kernel_rfl) (by kernel_rfl) (fun _ _ _ h => h) (Or.inl ⟨by rfl, ?ya1⟩) (by assumption) ?ra1
              case ya1 => (intro w hSw; (try dsimp only at hSw); go_simp <;> with_reducible rfl)
              (try simp only [Act.put, List.setIfInBounds_toArray, List.set_cons_zero, List.set_cons_succ])
              refine wpAnyH_take (i := 2) (oi := { dst := some 164, op := Op.load 3 (Operand.tmp 163), type := 3, pos := "law.go:73", after := #[{ on := 1, ground := Ground.data }], guard := none }) (v := ?va2) rfl (by kernel_rfl) (by kernel_rfl) (by kernel_rfl) (fun _ _ _ h => h) (Or.inl ⟨by rfl, ?ya2⟩) (by assumption) ?ra2
              case ya2 => (intro w hSw; (try dsimp only at hSw); go_simp <;> with_reducible rfl)
              (try simp only [Act.put, List.setIfInBounds_toArray, List.set_cons_zero, List.set_cons_succ])
              refine wpAnyH_take (i := 4) (oi := { dst := some 166, op := Op.load 41 (Operand.tmp 18), type := 41, pos := "law.go:73", after := #[], guard := none }) (v := ?va4) rfl (by kernel_rfl) (by kernel_rfl) (by kernel_rfl) (fun _ _ _ h => h) (Or.inl ⟨by rfl, ?ya4⟩) (by assumption) ?ra4
              case ya4 => (intro w hSw; (try dsimp only at hSw); go_simp <;> with_reducible rfl)
              (try simp only [Act.put, List.setIfInBounds_toArray, List.set_cons_zero, List.set_cons_succ])
              refine wpAnyH_ready (rs := [3]) (by kernel_rfl) (by simp) ?_
              refine AllReadyH.cons (o := { dst := some 165, op := Op.call { callee := Callee.value (Operand.func 15), args := #[Operand.tmp 162, Operand.tmp 164], argTypes := #[24, 3] }, type := 41, pos := "law.go:73", after := #[{ on := 0, ground := Ground.data }, { on := 2, ground := Ground.data }], guard := none }) rfl (fun K hK => ?_) AllReadyH.nil
              go_simp
              go_wp2_with (go_at_call_of 15 (Value.pointer (some ⟨g, 0, none⟩)); refine (HCP.out _ (Kept.trans HK10.out (Below.refl _ _).drew)).mono ?_; rintro e wa ⟨rfl, ka⟩; have Ka := Lib.hid (Kept.trans (Kept.trans HK10.out (Below.refl _ _).drew) ka); have s0a := (HB10.out.kept (Kept.trans (Below.refl _ _).drew ka)).cell 0; have s1a := (HB10.out.kept (Kept.trans (Below.refl _ _).drew ka)).cell 1; have y0a := (HX10.out.kept (Kept.trans (Below.refl _ _).drew ka)).cell 0; have y1a := (HX10.out.kept (Kept.trans (Below.refl _ _).drew ka)).cell 1; simp at s0a s1a y0a y1a; have q1a := Kept.cell (Kept.trans (Below.refl _ _).drew ka) q10; have g1a := Kept.cell (Kept.trans (Below.refl _ _).drew ka) g1; have f0a := Kept.cell (Kept.trans (Below.refl _ _).drew ka) f0'; have f1a := Kept.cell (Kept.trans (Below.refl _ _).drew ka) f1'; clear ka)
              clear hHeld
              refine hK.out _ _ ?_ (fun hHeld => ?_)
              · ((try dsimp only); simp [*]; done)
              clear hK K
              (try simp only [Act.put, List.setIfInBounds_toArray, List.set_cons_zero, List.set_cons_succ])
              refine wpAnyH_take (i := 5) (oi := { dst := some 167, op := Op.binOp BinOp.neq 41 (Operand.tmp 165) (Operand.tmp 166) 41, type := 4, pos := "law.go:73", after := #[{ on := 3, ground := Ground.data }, { on := 4, ground := Ground.data }], guard := none }) (v := ?va5) rfl (by kernel_rfl) (by kernel_rfl) (by kernel_rfl) (fun _ _ _ h => h) (Or.inl ⟨by rfl, ?ya5⟩) (by assumption) ?ra5
              case ya5 => (intro w hSw; (try dsimp only at hSw); go_simp <;> with_reducible rfl)
              (try simp only [Act.put, List.setIfInBounds_toArray, List.set_cons_zero, List.set_cons_succ])
              refine wpAnyH_take (i := 6) (oi := { dst := some 168, op := Op.move (Operand.tmp 167), type := 4, pos := "law.go:73", after := #[{ on := 5, ground := Ground.data }, { on := 3, ground := Ground.chain }], guard := none }) (v := ?va6) rfl (by kernel_rfl) (by kernel_rfl) (by kernel_rfl) (fun _ _ _ h => h) (Or.inl ⟨by rfl, ?ya6⟩) (by assumption) ?ra6
              case ya6 => (intro w hSw; (try dsimp only at hSw); go_simp <;> with_reducible rfl)
              (try simp only [Act.put, List.setIfInBounds_toArray, List.set_cons_zero, List.set_cons_succ])
              refine wpAnyH_take (i := 7) (oi := { dst := some 169, op := Op.move (Operand.tmp 17), type := 4, pos := "law.go:73", after := #[{ on := 6, ground := Ground.guard }], guard := some (6, false) }) (v := ?va7) rfl (by kernel_rfl) (by kernel_rfl) (by kernel_rfl) (fun _ _ _ h => h) (Or.inl ⟨by rfl, ?ya7⟩) (by assumption) ?ra7
              case ya7 => (intro w hSw; (try dsimp only at hSw); go_simp <;> with_reducible rfl)
              (try simp only [Act.put, List.setIfInBounds_toArray, List.set_cons_zero, List.set_cons_succ])
              refine wpAnyH_take (i := 8) (oi := { dst := some 170, op := Op.move (Operand.tmp 19), type := 4, pos := "law.go:73", after := #[{ on := 6, ground := Ground.guard }], guard := some (6, false) }) (v := ?va8) rfl (by kernel_rfl) (by kernel_rfl) (by kernel_rfl) (fun _ _ _ h => h) (Or.inl ⟨by rfl, ?ya8⟩) (by assumption) ?ra8
              case ya8 => (intro w hSw; (try dsimp only at hSw); go_simp <;> with_reducible rfl)
              (try simp only [Act.put, List.setIfInBounds_toArray, List.set_cons_zero, List.set_cons_succ])
              refine wpAnyH_take (i := 9) (oi := { dst := some 171, op := Op.binOp BinOp.neq 4 (Operand.tmp 169) (Operand.tmp 170) 4, type := 4, pos := "law.go:73", after := #[{ on := 7, ground := Ground.data }, { on := 8, ground := Ground.data }, { on := 6, ground := Ground.guard }], guard := some (6, false) }) (v := ?va9) rfl (by kernel_rfl) (by kernel_rfl) (by kernel_rfl) (fun _ _ _ h => h) (Or.inl ⟨by rfl, ?ya9⟩) (by assumption) ?ra9
              case ya9 => (intro w hSw; (try dsimp only at hSw); go_simp <;> with_reducible rfl)
              (try simp only [Act.put, List.setIfInBounds_toArray, List.set_cons_zero, List.set_cons_succ])
              refine wpAnyH_take (i := 10) (oi := { dst := some 172, op := Op.pick (Operand.tmp 168) (Operand.const (Value.bool true)) (Operand.tmp 171), type := 4, pos := "law.go:73", after := #[{ on := 6, ground := Ground.data }, { on := 9, ground := Ground.data }], guard := none }) (v := ?va10) rfl (by kernel_rfl) (by kernel_rfl) (by kernel_rfl) (fun _ _ _ h => h) (Or.inl ⟨by rfl, ?ya10⟩) (by assumption) ?ra10
              case ya10 => (intro w hSw; (try dsimp only at hSw); go_simp <;> with_reducible rfl)
              (try simp only [Act.put, List.setIfInBounds_toArray, List.set_cons_zero, List.set_cons_succ])
              refine wpAnyH_take (i := 11) (oi := { dst := some 173, op := Op.move (Operand.tmp 172), type := 4, pos := "law.go:73", after := #[{ on := 10, ground := Ground.data }, { on := 6, ground := Ground.chain }], guard := none }) (v := ?va11) rfl (by kernel_rfl) (by kernel_rfl) (by kernel_rfl) (fun _ _ _ h => h) (Or.inl ⟨by rfl, ?ya11⟩) (by assumption) ?ra11
              case ya11 => (intro w hSw; (try dsimp only at hSw); go_simp <;> with_reducible rfl)
              (try simp only [Act.put, List.setIfInBounds_toArray, List.set_cons_zero, List.set_cons_succ])
              refine wpAnyH_take (i := 12) (oi := { dst := some 174, op := Op.move (Operand.tmp 19), type := 4, pos := "law.go:73", after := #[{ on := 11, ground := Ground.guard }], guard := some (11, false) }) (v := ?va12) rfl (by kernel_rfl) (by kernel_rfl) (by kernel_rfl) (fun _ _ _ h => h) (Or.inl ⟨by rfl, ?ya12⟩) (by assumption) ?ra12
              case ya12 => (intro w hSw; (try dsimp only at hSw); go_simp <;> with_reducible rfl)
              (try simp only [Act.put, List.setIfInBounds_toArray, List.set_cons_zero, List.set_cons_succ])
              refine wpAnyH_take (i := 13) (oi := { dst := some 175, op := Op.move (Operand.tmp 174), type := 4, pos := "law.go:73", after := #[{ on := 12, ground := Ground.data }, { on := 11, ground := Ground.chain }, { on := 11, ground := Ground.guard }], guard := some (11, false) }) (v := ?va13) rfl (by kernel_rfl) (by kernel_rfl) (by kernel_rfl) (fun _ _ _ h => h) (Or.inl ⟨by rfl, ?ya13⟩) (by assumption) ?ra13
              case ya13 => (intro w hSw; (try dsimp only at hSw); go_simp <;> with_reducible rfl)
              (try simp only [Act.put, List.setIfInBounds_toArray, List.set_cons_zero, List.set_cons_succ])
              refine wpAnyH_take (i := 14) (oi := { dst := some 176, op := Op.load 35 (Operand.tmp 16), type := 35, pos := "law.go:73", after := #[{ on := 13, ground := Ground.guard }], guard := some (13, true) }) (v := ?va14) rfl (by kernel_rfl) (by kernel_rfl) (by kernel_rfl) (fun _ _ _ h => h) (Or.inl ⟨by rfl, ?ya14⟩) (by assumption) ?ra14
              case ya14 => (intro w hSw; (try dsimp only at hSw); go_simp <;> with_reducible rfl)
              (try simp only [Act.put, List.setIfInBounds_toArray, List.set_cons_zero, List.set_cons_succ])
              refine wpAnyH_take (i := 15) (oi := { dst := some 177, op := Op.fieldAddr 33 (Operand.tmp 10) 1, type := 0, pos := "law.go:73", after := #[{ on := 13, ground := Ground.guard }], guard := some (13, true) }) (v := ?va15) rfl (by kernel_rfl) (by kernel_rfl) (by kernel_rfl) (fun _ _ _ h => h) (Or.inl ⟨by rfl, ?ya15⟩) (by assumption) ?ra15
              case ya15 => (intro w hSw; (try dsimp only at hSw); go_simp <;> with_reducible rfl)
              (try simp only [Act.put, List.setIfInBounds_toArray, List.set_cons_zero, List.set_cons_succ])
              refine wpAnyH_take (i := 16) (oi := { dst := some 178, op := Op.load 31 (Operand.tmp 177), type := 31, pos := "law.go:73", after := #[{ on := 15, ground := Ground.data }, { on := 13, ground := Ground.guard }], guard := some (13, true) }) (v := ?va16) rfl (by kernel_rfl) (by kernel_rfl) (by kernel_rfl) (fun _ _ _ h => h) (Or.inl ⟨by rfl, ?ya16⟩) (by assumption) ?ra16
              case ya16 => (intro w hSw; (try dsimp only at hSw); go_simp <;> with_reducible rfl)
              (try simp only [Act.put, List.setIfInBounds_toArray, List.set_cons_zero, List.set_cons_succ])
              refine wpAnyH_take (i := 17) (oi := { dst := some 179, op := Op.fieldAddr 37 (Operand.tmp 12) 1, type := 0, pos := "law.go:73", after := #[{ on := 13, ground := Ground.guard }], guard := some (13, true) }) (v := ?va17) rfl (by kernel_rfl) (by kernel_rfl) (by kernel_rfl) (fun _ _ _ h => h) (Or.inl ⟨by rfl, ?ya17⟩) (by assumption) ?ra17
              case ya17 => (intro w hSw; (try dsimp only at hSw); go_simp <;> with_reducible rfl)
              (try simp only [Act.put, List.setIfInBounds_toArray, List.set_cons_zero, List.set_cons_succ])
              refine wpAnyH_take (i := 18) (oi := { dst := some 180, op := Op.load 3 (Operand.tmp 179), type := 3, pos := "law.go:73", after := #[{ on := 17, ground := Ground.data }, { on := 13, ground := Ground.guard }], guard := some (13, true) }) (v := ?va18) rfl (by kernel_rfl) (by kernel_rfl) (by kernel_rfl) (fun _ _ _ h => h) (Or.inl ⟨by rfl, ?ya18⟩) (by assumption) ?ra18
              case ya18 => (intro w hSw; (try dsimp only at hSw); go_simp <;> with_reducible rfl)
              (try simp only [Act.put, List.setIfInBounds_toArray, List.set_cons_zero, List.set_cons_succ])
              refine wpAnyH_take (i := 19) (oi := { dst := some 181, op := Op.binOp BinOp.sub 3 (Operand.tmp 180) (Operand.const (Value.int IntKind.i64 1)) 3, type := 3, pos := "law.go:73", after := #[{ on := 18, ground := Ground.data }, { on := 13, ground := Ground.guard }], guard := some (13, true) }) (v := ?va19) rfl (by kernel_rfl) (by kernel_rfl) (by kernel_rfl) (fun _ _ _ h => h) (Or.inl ⟨by rfl, ?ya19⟩) (by assumption) ?ra19
              case ya19 => (intro w hSw; (try dsimp only at hSw); go_simp <;> with_reducible rfl)
              (try simp only [Act.put, List.setIfInBounds_toArray, List.set_cons_zero, List.set_cons_succ])
              refine wpAnyH_take (i := 20) (oi := { dst := some 182, op := Op.indexAddr 31 (Operand.tmp 178) (Operand.tmp 181), type := 0, pos := "law.go:73", after := #[{ on := 16, ground := Ground.data }, { on := 19, ground := Ground.data }, { on := 13, ground := Ground.guard }], guard := some (13, true) }) (v := ?va20) rfl (by kernel_rfl) (by kernel_rfl) (by kernel_rfl) (fun _ _ _ h => h) (Or.inl ⟨by rfl, ?ya20⟩) (by assumption) ?ra20
              case ya20 => (intro w hSw; (try dsimp only at hSw); go_simp <;> with_reducible rfl)
              (try simp only [Act.put, List.setIfInBounds_toArray, List.set_cons_zero, List.set_cons_succ])
              refine wpAnyH_take (i := 21) (oi := { dst := some 183, op := Op.load 35 (Operand.tmp 182), type := 35, pos := "law.go:73", after := #[{ on := 20, ground := Ground.data }, { on := 13, ground := Ground.guard }], guard := some (13, true) }) (v := ?va21) rfl (by kernel_rfl) (by kernel_rfl) (by kernel_rfl) (fun _ _ _ h => h) (Or.inl ⟨by rfl, ?ya21⟩) (by assumption) ?ra21
              case ya21 => (intro w hSw; (try dsimp only at hSw); go_simp <;> with_reducible rfl)
              (try simp only [Act.put, List.setIfInBounds_toArray, List.set_cons_zero, List.set_cons_succ])
              refine wpAnyH_take (i := 22) (oi := { dst := some 184, op := Op.binOp BinOp.neq 35 (Operand.tmp 176) (Operand.tmp 183) 35, type := 4, pos := "law.go:73", after := #[{ on := 14, ground := Ground.data }, { on := 21, ground := Ground.data }, { on := 13, ground := Ground.guard }], guard := some (13, true) }) (v := ?va22) rfl (by kernel_rfl) (by kernel_rfl) (by kernel_rfl) (fun _ _ _ h => h) (Or.inl ⟨by rfl, ?ya22⟩) (by assumption) ?ra22
              case ya22 => (intro w hSw; (try dsimp only at hSw); go_simp <;> with_reducible rfl)
              (try simp only [Act.put, List.setIfInBounds_toArray, List.set_cons_zero, List.set_cons_succ])
              refine wpAnyH_take (i := 23) (oi := { dst := some 185, op := Op.pick (Operand.tmp 175) (Operand.tmp 184) (Operand.const (Value.bool false)), type := 4, pos := "law.go:73", after := #[{ on := 13, ground := Ground.data }, { on := 22, ground := Ground.data }, { on := 11, ground := Ground.guard }], guard := some (11, false) }) (v := ?va23) rfl (by kernel_rfl) (by kernel_rfl) (by kernel_rfl) (fun _ _ _ h => h) (Or.inl ⟨by rfl, ?ya23⟩) (by assumption) ?ra23
              case ya23 => (intro w hSw; (try dsimp only at hSw); go_simp <;> with_reducible rfl)
              (try simp only [Act.put, List.setIfInBounds_toArray, List.set_cons_zero, List.set_cons_succ])
              refine wpAnyH_take (i := 24) (oi := { dst := some 186, op := Op.pick (Operand.tmp 173) (Operand.const (Value.bool true)) (Operand.tmp 185), type := 4, pos := "law.go:73", after := #[{ on := 11, ground := Ground.data }, { on := 23, ground := Ground.data }], guard := none }) (v := ?va24) rfl (by kernel_rfl) (by kernel_rfl) (by kernel_rfl) (fun _ _ _ h => h) (Or.inl ⟨by rfl, ?ya24⟩) (by assumption) ?ra24
              case ya24 => (intro w hSw; (try dsimp only at hSw); go_simp <;> with_reducible rfl)
              (try simp only [Act.put, List.setIfInBounds_toArray, List.set_cons_zero, List.set_cons_succ])
              refine wpAnyH_take (i := 25) (oi := { dst := some 187, op := Op.move (Operand.tmp 186), type := 4, pos := "law.go:73", after := #[{ on := 24, ground := Ground.data }, { on := 13, ground := Ground.chain }], guard := none }) (v := ?va25) rfl (by kernel_rfl) (by kernel_rfl) (by kernel_rfl) (fun _ _ _ h => h) (Or.inl ⟨by rfl, ?ya25⟩) (by assumption) ?ra25
              case ya25 => (intro w hSw; (try dsimp only at hSw); go_simp <;> with_reducible rfl)
              (try simp only [Act.put, List.setIfInBounds_toArray, List.set_cons_zero, List.set_cons_succ])
              refine wpAnyH_take (i := 26) (oi := { dst := some 188, op := Op.move (Operand.tmp 19), type := 4, pos := "law.go:73", after := #[{ on := 25, ground := Ground.guard }], guard := some (25, false) }) (v := ?va26) rfl (by kernel_rfl) (by kernel_rfl) (by kernel_rfl) (fun _ _ _ h => h) (Or.inl ⟨by rfl, ?ya26⟩) (by assumption) ?ra26
              case ya26 => (intro w hSw; (try dsimp only at hSw); go_simp <;> with_reducible rfl)
              (try simp only [Act.put, List.setIfInBounds_toArray, List.set_cons_zero, List.set_cons_succ])
              refine wpAnyH_take (i := 27) (oi := { dst := some 189, op := Op.unOp UnOp.not 4 (Operand.tmp 188), type := 4, pos := "law.go:73", after := #[{ on := 26, ground := Ground.data }, { on := 25, ground := Ground.guard }], guard := some (25, false) }) (v := ?va27) rfl (by kernel_rfl) (by kernel_rfl) (by kernel_rfl) (fun _ _ _ h => h) (Or.inl ⟨by rfl, ?ya27⟩) (by assumption) ?ra27
              case ya27 => (intro w hSw; (try dsimp only at hSw); go_simp <;> with_reducible rfl)
              (try simp only [Act.put, List.setIfInBounds_toArray, List.set_cons_zero, List.set_cons_succ])
              refine wpAnyH_take (i := 28) (oi := { dst := some 190, op := Op.move (Operand.tmp 189), type := 4, pos := "law.go:73", after := #[{ on := 27, ground := Ground.data }, { on := 25, ground := Ground.chain }, { on := 25, ground := Ground.guard }], guard := some (25, false) }) (v := ?va28) rfl (by kernel_rfl) (by kernel_rfl) (by kernel_rfl) (fun _ _ _ h => h) (Or.inl ⟨by rfl, ?ya28⟩) (by assumption) ?ra28
              case ya28 => (intro w hSw; (try dsimp only at hSw); go_simp <;> with_reducible rfl)
              (try simp only [Act.put, List.setIfInBounds_toArray, List.set_cons_zero, List.set_cons_succ])
              refine wpAnyH_take (i := 29) (oi := { dst := some 191, op := Op.load 35 (Operand.tmp 16), type := 35, pos := "law.go:73", after := #[{ on := 28, ground := Ground.guard }], guard := some (28, true) }) (v := undef) rfl (by kernel_rfl) (by kernel_rfl) (by kernel_rfl) (fun _ _ _ h => h) (Or.inr ⟨by rfl, rfl⟩) (by assumption) ?_
              (try simp only [Act.put, List.setIfInBounds_toArray, List.set_cons_zero, List.set_cons_succ])
              refine wpAnyH_take (i := 30) (oi := { dst := some 192, op := Op.build 35 #[], type := 35, pos := "law.go:73", after := #[{ on := 28, ground := Ground.guard }], guard := some (28, true) }) (v := undef) rfl (by kernel_rfl) (by kernel_rfl) (by kernel_rfl) (fun _ _ _ h => h) (Or.inr ⟨by rfl, rfl⟩) (by assumption) ?_
              (try simp only [Act.put, List.setIfInBounds_toArray, List.set_cons_zero, List.set_cons_succ])
              refine wpAnyH_take (i := 31) (oi := { dst := some 193, op := Op.binOp BinOp.neq 35 (Operand.tmp 191) (Operand.tmp 192) 35, type := 4, pos := "law.go:73", after := #[{ on := 29, ground := Ground.data }, { on := 30, ground := Ground.data }, { on := 28, ground := Ground.guard }], guard := some (28, true) }) (v := undef) rfl (by kernel_rfl) (by kernel_rfl) (by kernel_rfl) (fun _ _ _ h => h) (Or.inr ⟨by rfl, rfl⟩) (by assumption) ?_
              (try simp only [Act.put, List.setIfInBounds_toArray, List.set_cons_zero, List.set_cons_succ])
              refine wpAnyH_take (i := 32) (oi := { dst := some 194, op := Op.pick (Operand.tmp 190) (Operand.tmp 193) (Operand.const (Value.bool false)), type := 4, pos := "law.go:73", after := #[{ on := 28, ground := Ground.data }, { on := 31, ground := Ground.data }, { on := 25, ground := Ground.guard }], guard := some (25, false) }) (v := ?va32) rfl (by kernel_rfl) (by kernel_rfl) (by kernel_rfl) (fun _ _ _ h => h) (Or.inl ⟨by rfl, ?ya32⟩) (by assumption) ?ra32
              case ya32 => (intro w hSw; (try dsimp only at hSw); go_simp <;> with_reducible rfl)
              (try simp only [Act.put, List.setIfInBounds_toArray, List.set_cons_zero, List.set_cons_succ])
              refine wpAnyH_take (i := 33) (oi := { dst := some 195, op := Op.pick (Operand.tmp 187) (Operand.const (Value.bool true)) (Operand.tmp 194), type := 4, pos := "law.go:73", after := #[{ on := 25, ground := Ground.data }, { on := 32, ground := Ground.data }], guard := none }) (v := ?va33) rfl (by kernel_rfl) (by kernel_rfl) (by kernel_rfl) (fun _ _ _ h => h) (Or.inl ⟨by rfl, ?ya33⟩) (by assumption) ?ra33
              case ya33 => (intro w hSw; (try dsimp only at hSw); go_simp <;> with_reducible rfl)
              (try simp only [Act.put, List.setIfInBounds_toArray, List.set_cons_zero, List.set_cons_succ])
              refine wpAnyH_take (i := 34) (oi := { dst := some 196, op := Op.move (Operand.tmp 195), type := 4, pos := "law.go:73", after := #[{ on := 33, ground := Ground.data }, { on := 28, ground := Ground.chain }], guard := none }) (v := ?va34) rfl (by kernel_rfl) (by kernel_rfl) (by kernel_rfl) (fun _ _ _ h => h) (Or.inl ⟨by rfl, ?ya34⟩) (by assumption) ?ra34
              case ya34 => (intro w hSw; (try dsimp only at hSw); go_simp <;> with_reducible rfl)
              (try simp only [Act.put, List.setIfInBounds_toArray, List.set_cons_zero, List.set_cons_succ])
              refine wpAnyH_take (i := 35) (oi := { dst := some 197, op := Op.move (Operand.tmp 8), type := 24, pos := "law.go:73", after := #[{ on := 34, ground := Ground.guard }], guard := some (34, false) }) (v := ?va35) rfl (by kernel_rfl) (by kernel_rfl) (by kernel_rfl) (fun _ _ _ h => h) (Or.inl ⟨by rfl, ?ya35⟩) (by assumption) ?ra35
              case ya35 => (intro w hSw; (try dsimp only at hSw); go_simp <;> with_reducible rfl)
              (try simp only [Act.put, List.setIfInBounds_toArray, List.set_cons_zero, List.set_cons_succ])
              refine wpAnyH_take (i := 36) (oi := { dst := some 198, op := Op.fieldAddr 37 (Operand.tmp 12) 1, type := 0, pos := "law.go:73", after := #[{ on := 34, ground := Ground.guard }], guard := some (34, false) }) (v := ?va36) rfl (by kernel_rfl) (by kernel_rfl) (by kernel_rfl) (fun _ _ _ h => h) (Or.inl ⟨by rfl, ?ya36⟩) (by assumption) ?ra36
              case ya36 => (intro w hSw; (try dsimp only at hSw); go_simp <;> with_reducible rfl)
              (try simp only [Act.put, List.setIfInBounds_toArray, List.set_cons_zero, List.set_cons_succ])
              refine wpAnyH_take (i := 37) (oi := { dst := some 199, op := Op.load 3 (Operand.tmp 198), type := 3, pos := "law.go:73", after := #[{ on := 36, ground := Ground.data }, { on := 34, ground := Ground.guard }], guard := some (34, false) }) (v := ?va37) rfl (by kernel_rfl) (by kernel_rfl) (by kernel_rfl) (fun _ _ _ h => h) (Or.inl ⟨by rfl, ?ya37⟩) (by assumption) ?ra37
              case ya37 => (intro w hSw; (try dsimp only at hSw); go_simp <;> with_reducible rfl)
              (try simp only [Act.put, List.setIfInBounds_toArray, List.set_cons_zero, List.set_cons_succ])
              refine wpAnyH_take (i := 39) (oi := { dst := some 201, op := Op.build 41 #[], type := 41, pos := "law.go:73", after := #[{ on := 34, ground := Ground.guard }], guard := some (34, false) }) (v := ?va39) rfl (by kernel_rfl) (by kernel_rfl) (by kernel_rfl) (fun _ _ _ h => h) (Or.inl ⟨by rfl, ?ya39⟩) (by assumption) ?ra39
              case ya39 => (intro w hSw; (try dsimp only at hSw); go_simp <;> with_reducible rfl)
              (try simp only [Act.put, List.setIfInBounds_toArray, List.set_cons_zero, List.set_cons_succ])
              refine wpAnyH_ready (rs := [38]) (by kernel_rfl) (by simp) ?_
              refine AllReadyH.cons (o := { dst := some 200, op := Op.call { callee := Callee.value (Operand.func 15), args := #[Operand.tmp 197, Operand.tmp 199], argTypes := #[24, 3] }, type := 41, pos := "law.go:73", after := #[{ on := 35, ground := Ground.data }, { on := 37, ground := Ground.data }, { on := 34, ground := Ground.chain }, { on := 34, ground := Ground.guard }], guard := some (34, false) }) rfl (fun K hK => ?_) AllReadyH.nil
              go_simp
              go_wp2_with (go_at_call_of 15 (Value.pointer (some ⟨g2, 0, none⟩)); refine (HCQ.out _ Ka.out).mono ?_; rintro e wb ⟨rfl, kb⟩; have Kb := Lib.hid (Kept.trans Ka.out kb); have s0b := Kept.cell kb s0a; have s1b := Kept.cell kb s1a; have y0b := Kept.cell kb y0a; have y1b := Kept.cell kb y1a; have q1b := Kept.cell kb q1a; have g1b := Kept.cell kb g1a; have f0b := Kept.cell kb f0a; have f1b := Kept.cell kb f1a; clear kb)
              clear hHeld
              refine hK.out _ _ ?_ (fun hHeld => ?_)
              · ((try dsimp only); simp [*]; done)
              clear hK K
              (try simp only [Act.put, List.setIfInBounds_toArray, List.set_cons_zero, List.set_cons_succ])
              refine wpAnyH_take (i := 40) (oi := { dst := some 202, op := Op.binOp BinOp.neq 41 (Operand.tmp 200) (Operand.tmp 201) 41, type := 4, pos := "law.go:73", after := #[{ on := 38, ground := Ground.data }, { on := 39, ground := Ground.data }, { on := 34, ground := Ground.guard }], guard := some (34, false) }) (v := ?va40) rfl (by kernel_rfl) (by kernel_rfl) (by kernel_rfl) (fun _ _ _ h => h) (Or.inl ⟨by rfl, ?ya40⟩) (by assumption) ?ra40
              case ya40 => (intro w hSw; (try dsimp only at hSw); go_simp <;> with_reducible rfl)
              (try simp only [Act.put, List.setIfInBounds_toArray, List.set_cons_zero, List.set_cons_succ])
              refine wpAnyH_take (i := 41) (oi := { dst := some 203, op := Op.pick (Operand.tmp 196) (Operand.const (Value.bool true)) (Operand.tmp 202), type := 4, pos := "law.go:73", after := #[{ on := 34, ground := Ground.data }, { on := 40, ground := Ground.data }], guard := none }) (v := ?va41) rfl (by kernel_rfl) (by kernel_rfl) (by kernel_rfl) (fun _ _ _ h => h) (Or.inl ⟨by rfl, ?ya41⟩) (by assumption) ?ra41
              case ya41 => (intro w hSw; (try dsimp only at hSw); go_simp <;> with_reducible rfl)
              (try simp only [Act.put, List.setIfInBounds_toArray, List.set_cons_zero, List.set_cons_succ])
              refine wpAnyH_done (by kernel_rfl) ?_ _
              go_wp2_with fail
              go_roundw
              case rel => exact ⟨k + 1, es', nn', by omega, by go_num, HX.out.len, HX.out.le, HX.out.clean, HX.out.three.kept Kb.out, Below.trans (Below.trans HB.out HX.out.below) (Kb.out.mono (Nat.le_trans hzr HX.out.below.size))⟩
              case measure => simp [intOf]; omega
            · have hs2 : (xs == 1) = false := by simpa using hs
              obtain ⟨rfl, rfl⟩ := hcl hs
              rw [hs2] at CT
              have HCT := Lib.hid CT
              clear CT hcl
              go_wp2_with fail
              refine (HCT.out wc (Below.refl _ _)).mono ?_
              rintro e w7 ⟨rfl, k7⟩
              have k8 : Kept wc (w7.alloc (.cells #[.string ⟨#[]⟩, .int .i64 0] 35)) := Kept.trans k7 ((Below.refl _ _).alloc (Nat.le_refl _) _)
              have b8 : Blk (w7.alloc (.cells #[.string ⟨#[]⟩, .int .i64 0] 35)) w7.heap.size 35 #[.string ⟨#[]⟩, .int .i64 0] := Blk.new _ _ _
              have p1b := Kept.cell k7 p1
              have HK8 := Lib.hid k8
              have HB8 := Lib.hid b8
              have p1c := Kept.cell k8 p1
              have hz7 := k7.size
              clear k7 k8 b8
              go_wp2_with fail
              refine (HCR.out _ HK8.out).mono ?_
              rintro e w9 ⟨rfl, k9⟩
              have k10 : Kept wc (w9.alloc (.cells #[.int .i64 xs, .string xe] 41)) := Kept.trans (Kept.trans HK8.out k9) ((Below.refl _ _).alloc (Nat.le_refl _) _)
              have b10 : Blk (w9.alloc (.cells #[.int .i64 xs, .string xe] 41)) w9.heap.size 41 #[.int .i64 xs, .string xe] := Blk.new _ _ _
              have x10 := (HB8.out.kept k9).alloc (.cells #[.int .i64 xs, .string xe] 41)
              have HK10 := Lib.hid k10
              have HB10 := Lib.hid b10
              have HX10 := Lib.hid x10
              clear k9 k10 b10 x10
              go_upto_region 35 with fail
              generalize (w9.alloc (.cells #[.int .i64 xs, .string xe] 41)) = w10 at *
              have s0 := HB10.out.cell 0
              have s1 := HB10.out.cell 1
              have y0 := HX10.out.cell 0
              have y1 := HX10.out.cell 1
              simp at s0 s1 y0 y1
              have q10 := Kept.cell HK10.out p1
              clear r1
              clear p1 p1b p1c
              refine wp_region_held_drew (S := (fun w' => w'.cell? ⟨w9.heap.size, 0, none⟩ = some (.int .i64 xs) ∧ w'.cell? ⟨w9.heap.size, 1, none⟩ = some (.string xe) ∧ w'.cell? ⟨w7.heap.size, 0, none⟩ = some (.string ⟨#[]⟩) ∧ w'.cell? ⟨w7.heap.size, 1, none⟩ = some (.int .i64 0) ∧ w'.cell? ⟨wr.heap.size, 1, none⟩ = some (.int .i64 at_))) (by kernel_rfl) (by first | assumption | ((try dsimp only); simp [*]; done)) (fun hHeld => ?_)
              refine wpAnyH_take (i := 0) (oi := { dst := some 162, op := Op.move (Operand.tmp 6), type := 24, pos := "law.go:73", after := #[], guard := none }) (v := ?vb0) rfl (by kernel_rfl) (by kernel_rfl) (by kernel_rfl) (fun _ _ _ h => h) (Or.inl ⟨by rfl, ?yb0⟩) (by assumption) ?rb0
              case yb0 => (intro w hSw; (try dsimp only at hSw); go_simp <;> with_reducible rfl)
              (try simp only [Act.put, List.setIfInBounds_toArray, List.set_cons_zero, List.set_cons_succ])
              refine wpAnyH_take (i := 1) (oi := { dst := some 163, op := Op.fieldAddr 37 (Operand.tmp 12) 1, type := 0, pos := "law.go:73", after := #[], guard := none }) (v := ?vb1) rfl (by kernel_rfl) (by kernel_rfl) (by kernel_rfl) (fun _ _ _ h => h) (Or.inl ⟨by rfl, ?yb1⟩) (by assumption) ?rb1
              case yb1 => (intro w hSw; (try dsimp only at hSw); go_simp <;> with_reducible rfl)
              (try simp only [Act.put, List.setIfInBounds_toArray, List.set_cons_zero, List.set_cons_succ])
              refine wpAnyH_take (i := 2) (oi := { dst := some 164, op := Op.load 3 (Operand.tmp 163), type := 3, pos := "law.go:73", after := #[{ on := 1, ground := Ground.data }], guard := none }) (v := ?vb2) rfl (by kernel_rfl) (by kernel_rfl) (by kernel_rfl) (fun _ _ _ h => h) (Or.inl ⟨by rfl, ?yb2⟩) (by assumption) ?rb2
              case yb2 => (intro w hSw; (try dsimp only at hSw); go_simp <;> with_reducible rfl)
              (try simp only [Act.put, List.setIfInBounds_toArray, List.set_cons_zero, List.set_cons_succ])
              refine wpAnyH_take (i := 4) (oi := { dst := some 166, op := Op.load 41 (Operand.tmp 18), type := 41, pos := "law.go:73", after := #[], guard := none }) (v := ?vb4) rfl (by kernel_rfl) (by kernel_rfl) (by kernel_rfl) (fun _ _ _ h => h) (Or.inl ⟨by rfl, ?yb4⟩) (by assumption) ?rb4
              case yb4 => (intro w hSw; (try dsimp only at hSw); go_simp <;> with_reducible rfl)
              (try simp only [Act.put, List.setIfInBounds_toArray, List.set_cons_zero, List.set_cons_succ])
              refine wpAnyH_ready (rs := [3]) (by kernel_rfl) (by simp) ?_
              refine AllReadyH.cons (o := { dst := some 165, op := Op.call { callee := Callee.value (Operand.func 15), args := #[Operand.tmp 162, Operand.tmp 164], argTypes := #[24, 3] }, type := 41, pos := "law.go:73", after := #[{ on := 0, ground := Ground.data }, { on := 2, ground := Ground.data }], guard := none }) rfl (fun K hK => ?_) AllReadyH.nil
              go_simp
              go_wp2_with (go_at_call_of 15 (Value.pointer (some ⟨g, 0, none⟩)); refine (HCP.out _ (Kept.trans HK10.out (Below.refl _ _).drew)).mono ?_; rintro e wa ⟨rfl, ka⟩; have Ka := Lib.hid (Kept.trans (Kept.trans HK10.out (Below.refl _ _).drew) ka); have s0a := (HB10.out.kept (Kept.trans (Below.refl _ _).drew ka)).cell 0; have s1a := (HB10.out.kept (Kept.trans (Below.refl _ _).drew ka)).cell 1; have y0a := (HX10.out.kept (Kept.trans (Below.refl _ _).drew ka)).cell 0; have y1a := (HX10.out.kept (Kept.trans (Below.refl _ _).drew ka)).cell 1; simp at s0a s1a y0a y1a; have q1a := Kept.cell (Kept.trans (Below.refl _ _).drew ka) q10;  clear ka)
              clear hHeld
              refine hK.out _ _ ?_ (fun hHeld => ?_)
              · ((try dsimp only); simp [*]; done)
              clear hK K
              (try simp only [Act.put, List.setIfInBounds_toArray, List.set_cons_zero, List.set_cons_succ])
              refine wpAnyH_take (i := 5) (oi := { dst := some 167, op := Op.binOp BinOp.neq 41 (Operand.tmp 165) (Operand.tmp 166) 41, type := 4, pos := "law.go:73", after := #[{ on := 3, ground := Ground.data }, { on := 4, ground := Ground.data }], guard := none }) (v := ?vb5) rfl (by kernel_rfl) (by kernel_rfl) (by kernel_rfl) (fun _ _ _ h => h) (Or.inl ⟨by rfl, ?yb5⟩) (by assumption) ?rb5
              case yb5 => (intro w hSw; (try dsimp only at hSw); go_simp <;> with_reducible rfl)
              (try simp only [Act.put, List.setIfInBounds_toArray, List.set_cons_zero, List.set_cons_succ])
              refine wpAnyH_take (i := 6) (oi := { dst := some 168, op := Op.move (Operand.tmp 167), type := 4, pos := "law.go:73", after := #[{ on := 5, ground := Ground.data }, { on := 3, ground := Ground.chain }], guard := none }) (v := ?vb6) rfl (by kernel_rfl) (by kernel_rfl) (by kernel_rfl) (fun _ _ _ h => h) (Or.inl ⟨by rfl, ?yb6⟩) (by assumption) ?rb6
              case yb6 => (intro w hSw; (try dsimp only at hSw); go_simp <;> with_reducible rfl)
              (try simp only [Act.put, List.setIfInBounds_toArray, List.set_cons_zero, List.set_cons_succ])
              refine wpAnyH_take (i := 7) (oi := { dst := some 169, op := Op.move (Operand.tmp 17), type := 4, pos := "law.go:73", after := #[{ on := 6, ground := Ground.guard }], guard := some (6, false) }) (v := ?vb7) rfl (by kernel_rfl) (by kernel_rfl) (by kernel_rfl) (fun _ _ _ h => h) (Or.inl ⟨by rfl, ?yb7⟩) (by assumption) ?rb7
              case yb7 => (intro w hSw; (try dsimp only at hSw); go_simp <;> with_reducible rfl)
              (try simp only [Act.put, List.setIfInBounds_toArray, List.set_cons_zero, List.set_cons_succ])
              refine wpAnyH_take (i := 8) (oi := { dst := some 170, op := Op.move (Operand.tmp 19), type := 4, pos := "law.go:73", after := #[{ on := 6, ground := Ground.guard }], guard := some (6, false) }) (v := ?vb8) rfl (by kernel_rfl) (by kernel_rfl) (by kernel_rfl) (fun _ _ _ h => h) (Or.inl ⟨by rfl, ?yb8⟩) (by assumption) ?rb8
              case yb8 => (intro w hSw; (try dsimp only at hSw); go_simp <;> with_reducible rfl)
              (try simp only [Act.put, List.setIfInBounds_toArray, List.set_cons_zero, List.set_cons_succ])
              refine wpAnyH_take (i := 9) (oi := { dst := some 171, op := Op.binOp BinOp.neq 4 (Operand.tmp 169) (Operand.tmp 170) 4, type := 4, pos := "law.go:73", after := #[{ on := 7, ground := Ground.data }, { on := 8, ground := Ground.data }, { on := 6, ground := Ground.guard }], guard := some (6, false) }) (v := ?vb9) rfl (by kernel_rfl) (by kernel_rfl) (by kernel_rfl) (fun _ _ _ h => h) (Or.inl ⟨by rfl, ?yb9⟩) (by assumption) ?rb9
              case yb9 => (intro w hSw; (try dsimp only at hSw); go_simp <;> with_reducible rfl)
              (try simp only [Act.put, List.setIfInBounds_toArray, List.set_cons_zero, List.set_cons_succ])
              refine wpAnyH_take (i := 10) (oi := { dst := some 172, op := Op.pick (Operand.tmp 168) (Operand.const (Value.bool true)) (Operand.tmp 171), type := 4, pos := "law.go:73", after := #[{ on := 6, ground := Ground.data }, { on := 9, ground := Ground.data }], guard := none }) (v := ?vb10) rfl (by kernel_rfl) (by kernel_rfl) (by kernel_rfl) (fun _ _ _ h => h) (Or.inl ⟨by rfl, ?yb10⟩) (by assumption) ?rb10
              case yb10 => (intro w hSw; (try dsimp only at hSw); go_simp <;> with_reducible rfl)
              (try simp only [Act.put, List.setIfInBounds_toArray, List.set_cons_zero, List.set_cons_succ])
              refine wpAnyH_take (i := 11) (oi := { dst := some 173, op := Op.move (Operand.tmp 172), type := 4, pos := "law.go:73", after := #[{ on := 10, ground := Ground.data }, { on := 6, ground := Ground.chain }], guard := none }) (v := ?vb11) rfl (by kernel_rfl) (by kernel_rfl) (by kernel_rfl) (fun _ _ _ h => h) (Or.inl ⟨by rfl, ?yb11⟩) (by assumption) ?rb11
              case yb11 => (intro w hSw; (try dsimp only at hSw); go_simp <;> with_reducible rfl)
              (try simp only [Act.put, List.setIfInBounds_toArray, List.set_cons_zero, List.set_cons_succ])
              refine wpAnyH_take (i := 12) (oi := { dst := some 174, op := Op.move (Operand.tmp 19), type := 4, pos := "law.go:73", after := #[{ on := 11, ground := Ground.guard }], guard := some (11, false) }) (v := ?vb12) rfl (by kernel_rfl) (by kernel_rfl) (by kernel_rfl) (fun _ _ _ h => h) (Or.inl ⟨by rfl, ?yb12⟩) (by assumption) ?rb12
              case yb12 => (intro w hSw; (try dsimp only at hSw); go_simp <;> with_reducible rfl)
              (try simp only [Act.put, List.setIfInBounds_toArray, List.set_cons_zero, List.set_cons_succ])
              refine wpAnyH_take (i := 13) (oi := { dst := some 175, op := Op.move (Operand.tmp 174), type := 4, pos := "law.go:73", after := #[{ on := 12, ground := Ground.data }, { on := 11, ground := Ground.chain }, { on := 11, ground := Ground.guard }], guard := some (11, false) }) (v := ?vb13) rfl (by kernel_rfl) (by kernel_rfl) (by kernel_rfl) (fun _ _ _ h => h) (Or.inl ⟨by rfl, ?yb13⟩) (by assumption) ?rb13
              case yb13 => (intro w hSw; (try dsimp only at hSw); go_simp <;> with_reducible rfl)
              (try simp only [Act.put, List.setIfInBounds_toArray, List.set_cons_zero, List.set_cons_succ])
              refine wpAnyH_take (i := 14) (oi := { dst := some 176, op := Op.load 35 (Operand.tmp 16), type := 35, pos := "law.go:73", after := #[{ on := 13, ground := Ground.guard }], guard := some (13, true) }) (v := undef) rfl (by kernel_rfl) (by kernel_rfl) (by kernel_rfl) (fun _ _ _ h => h) (Or.inr ⟨by rfl, rfl⟩) (by assumption) ?_
              (try simp only [Act.put, List.setIfInBounds_toArray, List.set_cons_zero, List.set_cons_succ])
              refine wpAnyH_take (i := 15) (oi := { dst := some 177, op := Op.fieldAddr 33 (Operand.tmp 10) 1, type := 0, pos := "law.go:73", after := #[{ on := 13, ground := Ground.guard }], guard := some (13, true) }) (v := undef) rfl (by kernel_rfl) (by kernel_rfl) (by kernel_rfl) (fun _ _ _ h => h) (Or.inr ⟨by rfl, rfl⟩) (by assumption) ?_
              (try simp only [Act.put, List.setIfInBounds_toArray, List.set_cons_zero, List.set_cons_succ])
              refine wpAnyH_take (i := 16) (oi := { dst := some 178, op := Op.load 31 (Operand.tmp 177), type := 31, pos := "law.go:73", after := #[{ on := 15, ground := Ground.data }, { on := 13, ground := Ground.guard }], guard := some (13, true) }) (v := undef) rfl (by kernel_rfl) (by kernel_rfl) (by kernel_rfl) (fun _ _ _ h => h) (Or.inr ⟨by rfl, rfl⟩) (by assumption) ?_
              (try simp only [Act.put, List.setIfInBounds_toArray, List.set_cons_zero, List.set_cons_succ])
              refine wpAnyH_take (i := 17) (oi := { dst := some 179, op := Op.fieldAddr 37 (Operand.tmp 12) 1, type := 0, pos := "law.go:73", after := #[{ on := 13, ground := Ground.guard }], guard := some (13, true) }) (v := undef) rfl (by kernel_rfl) (by kernel_rfl) (by kernel_rfl) (fun _ _ _ h => h) (Or.inr ⟨by rfl, rfl⟩) (by assumption) ?_
              (try simp only [Act.put, List.setIfInBounds_toArray, List.set_cons_zero, List.set_cons_succ])
              refine wpAnyH_take (i := 18) (oi := { dst := some 180, op := Op.load 3 (Operand.tmp 179), type := 3, pos := "law.go:73", after := #[{ on := 17, ground := Ground.data }, { on := 13, ground := Ground.guard }], guard := some (13, true) }) (v := undef) rfl (by kernel_rfl) (by kernel_rfl) (by kernel_rfl) (fun _ _ _ h => h) (Or.inr ⟨by rfl, rfl⟩) (by assumption) ?_
              (try simp only [Act.put, List.setIfInBounds_toArray, List.set_cons_zero, List.set_cons_succ])
              refine wpAnyH_take (i := 19) (oi := { dst := some 181, op := Op.binOp BinOp.sub 3 (Operand.tmp 180) (Operand.const (Value.int IntKind.i64 1)) 3, type := 3, pos := "law.go:73", after := #[{ on := 18, ground := Ground.data }, { on := 13, ground := Ground.guard }], guard := some (13, true) }) (v := undef) rfl (by kernel_rfl) (by kernel_rfl) (by kernel_rfl) (fun _ _ _ h => h) (Or.inr ⟨by rfl, rfl⟩) (by assumption) ?_
              (try simp only [Act.put, List.setIfInBounds_toArray, List.set_cons_zero, List.set_cons_succ])
              refine wpAnyH_take (i := 20) (oi := { dst := some 182, op := Op.indexAddr 31 (Operand.tmp 178) (Operand.tmp 181), type := 0, pos := "law.go:73", after := #[{ on := 16, ground := Ground.data }, { on := 19, ground := Ground.data }, { on := 13, ground := Ground.guard }], guard := some (13, true) }) (v := undef) rfl (by kernel_rfl) (by kernel_rfl) (by kernel_rfl) (fun _ _ _ h => h) (Or.inr ⟨by rfl, rfl⟩) (by assumption) ?_
              (try simp only [Act.put, List.setIfInBounds_toArray, List.set_cons_zero, List.set_cons_succ])
              refine wpAnyH_take (i := 21) (oi := { dst := some 183, op := Op.load 35 (Operand.tmp 182), type := 35, pos := "law.go:73", after := #[{ on := 20, ground := Ground.data }, { on := 13, ground := Ground.guard }], guard := some (13, true) }) (v := undef) rfl (by kernel_rfl) (by kernel_rfl) (by kernel_rfl) (fun _ _ _ h => h) (Or.inr ⟨by rfl, rfl⟩) (by assumption) ?_
              (try simp only [Act.put, List.setIfInBounds_toArray, List.set_cons_zero, List.set_cons_succ])
              refine wpAnyH_take (i := 22) (oi := { dst := some 184, op := Op.binOp BinOp.neq 35 (Operand.tmp 176) (Operand.tmp 183) 35, type := 4, pos := "law.go:73", after := #[{ on := 14, ground := Ground.data }, { on := 21, ground := Ground.data }, { on := 13, ground := Ground.guard }], guard := some (13, true) }) (v := undef) rfl (by kernel_rfl) (by kernel_rfl) (by kernel_rfl) (fun _ _ _ h => h) (Or.inr ⟨by rfl, rfl⟩) (by assumption) ?_
              (try simp only [Act.put, List.setIfInBounds_toArray, List.set_cons_zero, List.set_cons_succ])
              refine wpAnyH_take (i := 23) (oi := { dst := some 185, op := Op.pick (Operand.tmp 175) (Operand.tmp 184) (Operand.const (Value.bool false)), type := 4, pos := "law.go:73", after := #[{ on := 13, ground := Ground.data }, { on := 22, ground := Ground.data }, { on := 11, ground := Ground.guard }], guard := some (11, false) }) (v := ?vb23) rfl (by kernel_rfl) (by kernel_rfl) (by kernel_rfl) (fun _ _ _ h => h) (Or.inl ⟨by rfl, ?yb23⟩) (by assumption) ?rb23
              case yb23 => (intro w hSw; (try dsimp only at hSw); go_simp <;> with_reducible rfl)
              (try simp only [Act.put, List.setIfInBounds_toArray, List.set_cons_zero, List.set_cons_succ])
              refine wpAnyH_take (i := 24) (oi := { dst := some 186, op := Op.pick (Operand.tmp 173) (Operand.const (Value.bool true)) (Operand.tmp 185), type := 4, pos := "law.go:73", after := #[{ on := 11, ground := Ground.data }, { on := 23, ground := Ground.data }], guard := none }) (v := ?vb24) rfl (by kernel_rfl) (by kernel_rfl) (by kernel_rfl) (fun _ _ _ h => h) (Or.inl ⟨by rfl, ?yb24⟩) (by assumption) ?rb24
              case yb24 => (intro w hSw; (try dsimp only at hSw); go_simp <;> with_reducible rfl)
              (try simp only [Act.put, List.setIfInBounds_toArray, List.set_cons_zero, List.set_cons_succ])
              refine wpAnyH_take (i := 25) (oi := { dst := some 187, op := Op.move (Operand.tmp 186), type := 4, pos := "law.go:73", after := #[{ on := 24, ground := Ground.data }, { on := 13, ground := Ground.chain }], guard := none }) (v := ?vb25) rfl (by kernel_rfl) (by kernel_rfl) (by kernel_rfl) (fun _ _ _ h => h) (Or.inl ⟨by rfl, ?yb25⟩) (by assumption) ?rb25
              case yb25 => (intro w hSw; (try dsimp only at hSw); go_simp <;> with_reducible rfl)
              (try simp only [Act.put, List.setIfInBounds_toArray, List.set_cons_zero, List.set_cons_succ])
              refine wpAnyH_take (i := 26) (oi := { dst := some 188, op := Op.move (Operand.tmp 19), type := 4, pos := "law.go:73", after := #[{ on := 25, ground := Ground.guard }], guard := some (25, false) }) (v := ?vb26) rfl (by kernel_rfl) (by kernel_rfl) (by kernel_rfl) (fun _ _ _ h => h) (Or.inl ⟨by rfl, ?yb26⟩) (by assumption) ?rb26
              case yb26 => (intro w hSw; (try dsimp only at hSw); go_simp <;> with_reducible rfl)
              (try simp only [Act.put, List.setIfInBounds_toArray, List.set_cons_zero, List.set_cons_succ])
              refine wpAnyH_take (i := 27) (oi := { dst := some 189, op := Op.unOp UnOp.not 4 (Operand.tmp 188), type := 4, pos := "law.go:73", after := #[{ on := 26, ground := Ground.data }, { on := 25, ground := Ground.guard }], guard := some (25, false) }) (v := ?vb27) rfl (by kernel_rfl) (by kernel_rfl) (by kernel_rfl) (fun _ _ _ h => h) (Or.inl ⟨by rfl, ?yb27⟩) (by assumption) ?rb27
              case yb27 => (intro w hSw; (try dsimp only at hSw); go_simp <;> with_reducible rfl)
              (try simp only [Act.put, List.setIfInBounds_toArray, List.set_cons_zero, List.set_cons_succ])
              refine wpAnyH_take (i := 28) (oi := { dst := some 190, op := Op.move (Operand.tmp 189), type := 4, pos := "law.go:73", after := #[{ on := 27, ground := Ground.data }, { on := 25, ground := Ground.chain }, { on := 25, ground := Ground.guard }], guard := some (25, false) }) (v := ?vb28) rfl (by kernel_rfl) (by kernel_rfl) (by kernel_rfl) (fun _ _ _ h => h) (Or.inl ⟨by rfl, ?yb28⟩) (by assumption) ?rb28
              case yb28 => (intro w hSw; (try dsimp only at hSw); go_simp <;> with_reducible rfl)
              (try simp only [Act.put, List.setIfInBounds_toArray, List.set_cons_zero, List.set_cons_succ])
              refine wpAnyH_take (i := 29) (oi := { dst := some 191, op := Op.load 35 (Operand.tmp 16), type := 35, pos := "law.go:73", after := #[{ on := 28, ground := Ground.guard }], guard := some (28, true) }) (v := ?vb29) rfl (by kernel_rfl) (by kernel_rfl) (by kernel_rfl) (fun _ _ _ h => h) (Or.inl ⟨by rfl, ?yb29⟩) (by assumption) ?rb29
              case yb29 => (intro w hSw; (try dsimp only at hSw); go_simp <;> with_reducible rfl)
              (try simp only [Act.put, List.setIfInBounds_toArray, List.set_cons_zero, List.set_cons_succ])
              refine wpAnyH_take (i := 30) (oi := { dst := some 192, op := Op.build 35 #[], type := 35, pos := "law.go:73", after := #[{ on := 28, ground := Ground.guard }], guard := some (28, true) }) (v := ?vb30) rfl (by kernel_rfl) (by kernel_rfl) (by kernel_rfl) (fun _ _ _ h => h) (Or.inl ⟨by rfl, ?yb30⟩) (by assumption) ?rb30
              case yb30 => (intro w hSw; (try dsimp only at hSw); go_simp <;> with_reducible rfl)
              (try simp only [Act.put, List.setIfInBounds_toArray, List.set_cons_zero, List.set_cons_succ])
              refine wpAnyH_take (i := 31) (oi := { dst := some 193, op := Op.binOp BinOp.neq 35 (Operand.tmp 191) (Operand.tmp 192) 35, type := 4, pos := "law.go:73", after := #[{ on := 29, ground := Ground.data }, { on := 30, ground := Ground.data }, { on := 28, ground := Ground.guard }], guard := some (28, true) }) (v := ?vb31) rfl (by kernel_rfl) (by kernel_rfl) (by kernel_rfl) (fun _ _ _ h => h) (Or.inl ⟨by rfl, ?yb31⟩) (by assumption) ?rb31
              case yb31 => (intro w hSw; (try dsimp only at hSw); go_simp <;> with_reducible rfl)
              (try simp only [Act.put, List.setIfInBounds_toArray, List.set_cons_zero, List.set_cons_succ])
              refine wpAnyH_take (i := 32) (oi := { dst := some 194, op := Op.pick (Operand.tmp 190) (Operand.tmp 193) (Operand.const (Value.bool false)), type := 4, pos := "law.go:73", after := #[{ on := 28, ground := Ground.data }, { on := 31, ground := Ground.data }, { on := 25, ground := Ground.guard }], guard := some (25, false) }) (v := ?vb32) rfl (by kernel_rfl) (by kernel_rfl) (by kernel_rfl) (fun _ _ _ h => h) (Or.inl ⟨by rfl, ?yb32⟩) (by assumption) ?rb32
              case yb32 => (intro w hSw; (try dsimp only at hSw); go_simp <;> with_reducible rfl)
              (try simp only [Act.put, List.setIfInBounds_toArray, List.set_cons_zero, List.set_cons_succ])
              refine wpAnyH_take (i := 33) (oi := { dst := some 195, op := Op.pick (Operand.tmp 187) (Operand.const (Value.bool true)) (Operand.tmp 194), type := 4, pos := "law.go:73", after := #[{ on := 25, ground := Ground.data }, { on := 32, ground := Ground.data }], guard := none }) (v := ?vb33) rfl (by kernel_rfl) (by kernel_rfl) (by kernel_rfl) (fun _ _ _ h => h) (Or.inl ⟨by rfl, ?yb33⟩) (by assumption) ?rb33
              case yb33 => (intro w hSw; (try dsimp only at hSw); go_simp <;> with_reducible rfl)
              (try simp only [Act.put, List.setIfInBounds_toArray, List.set_cons_zero, List.set_cons_succ])
              refine wpAnyH_take (i := 34) (oi := { dst := some 196, op := Op.move (Operand.tmp 195), type := 4, pos := "law.go:73", after := #[{ on := 33, ground := Ground.data }, { on := 28, ground := Ground.chain }], guard := none }) (v := ?vb34) rfl (by kernel_rfl) (by kernel_rfl) (by kernel_rfl) (fun _ _ _ h => h) (Or.inl ⟨by rfl, ?yb34⟩) (by assumption) ?rb34
              case yb34 => (intro w hSw; (try dsimp only at hSw); go_simp <;> with_reducible rfl)
              (try simp only [Act.put, List.setIfInBounds_toArray, List.set_cons_zero, List.set_cons_succ])
              refine wpAnyH_take (i := 35) (oi := { dst := some 197, op := Op.move (Operand.tmp 8), type := 24, pos := "law.go:73", after := #[{ on := 34, ground := Ground.guard }], guard := some (34, false) }) (v := ?vb35) rfl (by kernel_rfl) (by kernel_rfl) (by kernel_rfl) (fun _ _ _ h => h) (Or.inl ⟨by rfl, ?yb35⟩) (by assumption) ?rb35
              case yb35 => (intro w hSw; (try dsimp only at hSw); go_simp <;> with_reducible rfl)
              (try simp only [Act.put, List.setIfInBounds_toArray, List.set_cons_zero, List.set_cons_succ])
              refine wpAnyH_take (i := 36) (oi := { dst := some 198, op := Op.fieldAddr 37 (Operand.tmp 12) 1, type := 0, pos := "law.go:73", after := #[{ on := 34, ground := Ground.guard }], guard := some (34, false) }) (v := ?vb36) rfl (by kernel_rfl) (by kernel_rfl) (by kernel_rfl) (fun _ _ _ h => h) (Or.inl ⟨by rfl, ?yb36⟩) (by assumption) ?rb36
              case yb36 => (intro w hSw; (try dsimp only at hSw); go_simp <;> with_reducible rfl)
              (try simp only [Act.put, List.setIfInBounds_toArray, List.set_cons_zero, List.set_cons_succ])
              refine wpAnyH_take (i := 37) (oi := { dst := some 199, op := Op.load 3 (Operand.tmp 198), type := 3, pos := "law.go:73", after := #[{ on := 36, ground := Ground.data }, { on := 34, ground := Ground.guard }], guard := some (34, false) }) (v := ?vb37) rfl (by kernel_rfl) (by kernel_rfl) (by kernel_rfl) (fun _ _ _ h => h) (Or.inl ⟨by rfl, ?yb37⟩) (by assumption) ?rb37
              case yb37 => (intro w hSw; (try dsimp only at hSw); go_simp <;> with_reducible rfl)
              (try simp only [Act.put, List.setIfInBounds_toArray, List.set_cons_zero, List.set_cons_succ])
              refine wpAnyH_take (i := 39) (oi := { dst := some 201, op := Op.build 41 #[], type := 41, pos := "law.go:73", after := #[{ on := 34, ground := Ground.guard }], guard := some (34, false) }) (v := ?vb39) rfl (by kernel_rfl) (by kernel_rfl) (by kernel_rfl) (fun _ _ _ h => h) (Or.inl ⟨by rfl, ?yb39⟩) (by assumption) ?rb39
              case yb39 => (intro w hSw; (try dsimp only at hSw); go_simp <;> with_reducible rfl)
              (try simp only [Act.put, List.setIfInBounds_toArray, List.set_cons_zero, List.set_cons_succ])
              refine wpAnyH_ready (rs := [38]) (by kernel_rfl) (by simp) ?_
              refine AllReadyH.cons (o := { dst := some 200, op := Op.call { callee := Callee.value (Operand.func 15), args := #[Operand.tmp 197, Operand.tmp 199], argTypes := #[24, 3] }, type := 41, pos := "law.go:73", after := #[{ on := 35, ground := Ground.data }, { on := 37, ground := Ground.data }, { on := 34, ground := Ground.chain }, { on := 34, ground := Ground.guard }], guard := some (34, false) }) rfl (fun K hK => ?_) AllReadyH.nil
              go_simp
              go_wp2_with (go_at_call_of 15 (Value.pointer (some ⟨g2, 0, none⟩)); refine (HCQ.out _ Ka.out).mono ?_; rintro e wb ⟨rfl, kb⟩; have Kb := Lib.hid (Kept.trans Ka.out kb); have s0b := Kept.cell kb s0a; have s1b := Kept.cell kb s1a; have y0b := Kept.cell kb y0a; have y1b := Kept.cell kb y1a; have q1b := Kept.cell kb q1a;  clear kb)
              clear hHeld
              refine hK.out _ _ ?_ (fun hHeld => ?_)
              · ((try dsimp only); simp [*]; done)
              clear hK K
              (try simp only [Act.put, List.setIfInBounds_toArray, List.set_cons_zero, List.set_cons_succ])
              refine wpAnyH_take (i := 40) (oi := { dst := some 202, op := Op.binOp BinOp.neq 41 (Operand.tmp 200) (Operand.tmp 201) 41, type := 4, pos := "law.go:73", after := #[{ on := 38, ground := Ground.data }, { on := 39, ground := Ground.data }, { on := 34, ground := Ground.guard }], guard := some (34, false) }) (v := ?vb40) rfl (by kernel_rfl) (by kernel_rfl) (by kernel_rfl) (fun _ _ _ h => h) (Or.inl ⟨by rfl, ?yb40⟩) (by assumption) ?rb40
              case yb40 => (intro w hSw; (try dsimp only at hSw); go_simp <;> with_reducible rfl)
              (try simp only [Act.put, List.setIfInBounds_toArray, List.set_cons_zero, List.set_cons_succ])
              refine wpAnyH_take (i := 41) (oi := { dst := some 203, op := Op.pick (Operand.tmp 196) (Operand.const (Value.bool true)) (Operand.tmp 202), type := 4, pos := "law.go:73", after := #[{ on := 34, ground := Ground.data }, { on := 40, ground := Ground.data }], guard := none }) (v := ?vb41) rfl (by kernel_rfl) (by kernel_rfl) (by kernel_rfl) (fun _ _ _ h => h) (Or.inl ⟨by rfl, ?yb41⟩) (by assumption) ?rb41
              case yb41 => (intro w hSw; (try dsimp only at hSw); go_simp <;> with_reducible rfl)
              (try simp only [Act.put, List.setIfInBounds_toArray, List.set_cons_zero, List.set_cons_succ])
              refine wpAnyH_done (by kernel_rfl) ?_ _
              go_wp2_with fail
              go_roundw
              case rel => exact ⟨k + 1, es', nn', by omega, by go_num, HX.out.len, HX.out.le, HX.out.clean, HX.out.three.kept Kb.out, Below.trans (Below.trans HB.out HX.out.below) (Kb.out.mono (Nat.le_trans hzr HX.out.below.size))⟩
              case measure => simp [intOf]; omega
        · go_wp2_with fail
          go_ret
          exact ⟨rfl, KR.out⟩
  · rcases (by omega : n < 0 ∨ (¬ n < 0 ∧ 1024 < n)) with hh | hh
    all_goals
      have H := Lib.hid hsz
      clear hsz
      go_enter Try.func3, Try.ntmps3
      go_wp2_with fail
      refine (alive14 _).mono ?_
      rintro e w1 ⟨rfl, k1⟩
      have K1 := Lib.hid k1
      clear k1
      go_wp2_with fail
      refine (pool_New_bad _ n H.out).mono ?_
      rintro e w2 ⟨rfl, rfl⟩
      go_wp2_with fail
      refine (law14_num _ _).mono ?_
      rintro e w3 ⟨rfl, rfl⟩
      go_wp2_with fail
      go_ret
      exact ⟨rfl, K1.out⟩
end Go.Proofs.Ytjdldgpkcfigiaa
