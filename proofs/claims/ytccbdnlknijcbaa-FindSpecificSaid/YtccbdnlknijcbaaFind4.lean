/-
  Package find by contract: the ways to look.
-/
import Derived.Test.YtccbdnlknijcbaaFind3
import Derived.Test.YtccbdnlknijcbaaAll
import Derived.Test.YtccbdnlknijcbaaKin2
namespace Go.Proofs.Ytccbdnlknijcbaa
open Go.RowKit
set_option maxRecDepth 100000

def foV : Option FV → Value
  | some f => .tuple #[.agg #[.string f.1, .int .i64 f.2], .bool true]
  | none => .tuple #[.agg #[.string ⟨#[]⟩, .int .i64 0], .bool false]
def ownF (D : List TD) (c n d : ByteArray) : Option FV := (mth D c n d).map fun x => (c, x.1)
def chF (D : List TD) (c n d : ByteArray) : Option FV := (chainL D c).findSome? fun s => ownF D s n d
def objB : ByteArray := ⟨#[106, 97, 118, 97, 47, 108, 97, 110, 103, 47, 79, 98, 106, 101, 99, 116]⟩
def objF (D : List TD) (_c n d : ByteArray) : Option FV := (mth D objB n d).bind fun x => if bits .and .i64 x.2 1 = 0 ∨ bits .and .i64 x.2 8 ≠ 0 then none else some (objB, x.1)
def accF (D : List TD) (n d : ByteArray) (f : FV) : Int := ((mth D f.1 n d).map (·.2)).getD 0
def realB (D : List TD) (n d : ByteArray) (f : FV) : Bool := decide (bits .and .i64 (accF D n d f) 1024 = 0)
def realL (D : List TD) (n d : ByteArray) (l : List FV) : List FV := l.filter (realB D n d)
def sglF (D : List TD) (c n d : ByteArray) : Option FV := if (realL D n d (mostL D c n d)).length = 1 then (realL D n d (mostL D c n d)).head? else none
def fstF (D : List TD) (c n d : ByteArray) : Option FV := (declL D (allL D c) n d).head?
/-- A found in a block of its own, that is stored anew. -/
structure FPut (w : World) (r : Nat) (a b : Value) : Prop where
  blk : Blk w r 37 #[a, b]
  g0 : w.cell? ⟨r, 0, none⟩ = some a
  g1 : w.cell? ⟨r, 1, none⟩ = some b
  h0 : w.frozen? ⟨r, 0, none⟩ = false
  h1 : w.frozen? ⟨r, 1, none⟩ = false
  lt : r < w.heap.size
theorem fnd_put {w : World} {r : Nat} {a b : Value} (h : Blk w r 37 #[a, b]) : FPut w r a b :=
  ⟨h, by rw [h.cell 0]; rfl, by rw [h.cell 1]; rfl, h.frozen 0, h.frozen 1, h.lt⟩
theorem FPut.e0 {w : World} {r : Nat} {a b : Value} (h : FPut w r a b) (u : Value) : (w.setCell ⟨r, 0, none⟩ u).cell? ⟨r, 0, none⟩ = some u := by
  rw [(h.blk.set_ 0 u).cell 0]; simp
theorem FPut.e1 {w : World} {r : Nat} {a b : Value} (h : FPut w r a b) (u v : Value) : ((w.setCell ⟨r, 0, none⟩ u).setCell ⟨r, 1, none⟩ v).cell? ⟨r, 1, none⟩ = some v := by
  rw [((h.blk.set_ 0 u).set_ 1 v).cell 1]; simp
theorem FPut.keeps {w0 w : World} {r : Nat} {a b : Value} (_h : FPut w r a b) (hk : Kept w0 w) (hr : w0.heap.size ≤ r) (u v : Value) : Kept w0 ((w.setCell ⟨r, 0, none⟩ u).setCell ⟨r, 1, none⟩ v) :=
  (hk.setCell hr u).setCell hr v
theorem FPut.set {w : World} {r : Nat} {a b : Value} (h : FPut w r a b) (u v : Value) : Blk ((w.setCell ⟨r, 0, none⟩ u).setCell ⟨r, 1, none⟩ v) r 37 #[u, v] := by
  have := (h.blk.set_ 0 u).set_ 1 v
  simpa using this
theorem FPut.alloc {w : World} {r : Nat} {a b : Value} (h : FPut w r a b) (o : Obj) : FPut (w.alloc o) r a b := fnd_put (h.blk.alloc o)
theorem own_v (D : List TD) (c n d : ByteArray) : ∃ f acc b, mthV D c n d = .tuple #[.agg #[.string (Prod.fst f), .int .i64 (Prod.snd f : Nat)], .int .i64 acc, .bool b] ∧ foV (ownF D c n d) = .tuple #[.agg #[.string f.1, .int .i64 f.2], .bool b] := by
  unfold mthV ownF
  cases mth D c n d with
  | none => exact ⟨f0, 0, false, rfl, rfl⟩
  | some x => exact ⟨(c, x.1), x.2, true, rfl, rfl⟩

set_option maxHeartbeats 2000000 in
theorem find_first (D : List TD) (c n d : ByteArray) (v : Value) (w : World) (h : TyR w v D) (hs : c.size ≤ maxLen) :
    Calls Try.prog 17 #[v, .agg #[.string c, .string n, .string d]] w fun e w' => e = .returned (foV (fstF D c n d)) ∧ Kept w w' := by
  have H := Lib.hid h
  have HS := Lib.hid hs
  have k0 : Kept w ((w.alloc (.cells #[.string c, .string n, .string d] 33)).alloc (.cells #[.string ⟨#[]⟩, .int .i64 0] 37)) := ((Below.refl _ _).alloc (Nat.le_refl _) _).alloc (by simp) _
  have b0 : Blk ((w.alloc (.cells #[.string c, .string n, .string d] 33)).alloc (.cells #[.string ⟨#[]⟩, .int .i64 0] 37)) w.heap.size 33 #[.string c, .string n, .string d] := (Blk.new w _ _).alloc _
  have b1 : Blk ((w.alloc (.cells #[.string c, .string n, .string d] 33)).alloc (.cells #[.string ⟨#[]⟩, .int .i64 0] 37)) (w.heap.size + 1) 37 #[.string ⟨#[]⟩, .int .i64 0] := Blk.at_ (by simp)
  have zz : w.heap.size + 1 < ((w.alloc (.cells #[.string c, .string n, .string d] 33)).alloc (.cells #[.string ⟨#[]⟩, .int .i64 0] 37)).heap.size := by simp
  have q0 := b0.cell 0
  have q1 := b0.cell 1
  have q2 := b0.cell 2
  simp only [List.getElem?_toArray, List.getElem?_cons_succ, List.getElem?_cons_zero] at q0 q1 q2
  have K0 := Lib.hid k0
  have B0 := Lib.hid b0
  have B1 := Lib.hid b1
  have hal := all_len h c
  clear h hs k0 b0 b1
  go_enter Try.func17, Try.ntmps17
  go_upto_region 1 with fail
  generalize ((w.alloc (.cells #[.string c, .string n, .string d] 33)).alloc (.cells #[.string ⟨#[]⟩, .int .i64 0] 37)) = W at *
  go_region_held2 (fun w' => w'.cell? ⟨w.heap.size, 0, none⟩ = some (.string c) ∧ w'.cell? ⟨w.heap.size, 1, none⟩ = some (.string n) ∧ w'.cell? ⟨w.heap.size, 2, none⟩ = some (.string d)) (go_keep)
    (first
      | (go_at_call 12; refine (kin_All D c v W.drew (H.out.kept K0.out.drew) HS.out).mono ?_; rintro e w2 ⟨va, rfl, hva, k2⟩; have HVA := Lib.hid hva; have q02 := Kept.cell k2 q0; have q12 := Kept.cell k2 q1; have q22 := Kept.cell k2 q2; have K2 := Lib.hid k2; clear k2 hva)
      | (go_at_call 11; refine (find_declared D (allL D c) c n d v va (allL D c).length w2 (H.out.kept (Kept.trans K0.out.drew K2.out)) rfl HVA.out.rd hal).mono ?_; rintro e w3 ⟨vd, rfl, hvd, k3⟩; have HVD := Lib.hid hvd; have q03 := Kept.cell k3 q02; have q13 := Kept.cell k3 q12; have q23 := Kept.cell k3 q22; have K3 := Lib.hid (Kept.trans K2.out k3); clear k3 hvd))
  have kw3 : Kept W w3 := Kept.trans (Below.refl W.heap.size W).drew K3.out
  have hf : fstF D c n d = (declL D (allL D c) n d).head? := rfl
  have hvd := HVD.out
  obtain ⟨A, hA⟩ : ∃ A, A = declL D (allL D c) n d := ⟨_, rfl⟩
  have hAl : A.length ≤ 100 := by have := declL_len D (allL D c) n d; rw [← hA] at this; omega
  rw [← hA] at hvd hf
  clear hA HVD HVA q0 q1 q2 q02 q12 q22 q03 q13 q23
  have PF := fnd_put (B1.out.kept kw3)
  have KP := Lib.hid (PF.keeps (Kept.trans K0.out kw3) (Nat.le_succ _))
  have g0 := PF.g0
  have g1 := PF.g1
  have h0 := PF.h0
  have h1 := PF.h1
  have zr := PF.lt
  have PF := Lib.hid PF
  obtain ⟨N, hN⟩ : ∃ N, N = A.length := ⟨_, rfl⟩
  have hrd : RdF w3 vd A N := by rw [hN]; exact hvd.rd
  have HV := Lib.hid hrd
  obtain ⟨-, ad, cd, rfl, hcd1, hcd2, -⟩ := hrd
  cases hc : A with
  | nil =>
    rw [hc] at hf hN
    have E0 := Lib.hid (PF.out.e0 (.string ⟨#[]⟩))
    have E1 := Lib.hid (PF.out.e1 (.string ⟨#[]⟩) (.int .i64 0))
    have PE := Lib.hid (fnd_put (PF.out.set (.string ⟨#[]⟩) (.int .i64 0)))
    have h00 : N = 0 := by simpa using hN
    have HF := Lib.hid (congrArg foV hf)
    clear hf hN hc hvd
    subst h00
    go_wp2_with fail
    refine bodyPost_ret (v := foV (fstF D c n d)) (by rw [HF.out]; simp [results, Try.results17, go_sem, E0.out, E1.out, PE.out.g0, PE.out.g1, foV]) rfl ⟨rfl, ?_⟩
    exact KP.out _ _
  | cons f l =>
    have hf0 : A[0]? = some f := by rw [hc]; rfl
    obtain ⟨b, off, cc, hv, y0, y1⟩ := fnd_cell hN HV.out hf0
    simp only [Value.slice.injEq] at hv
    obtain ⟨rfl, -, rfl⟩ := hv
    simp only [Nat.zero_mul, Nat.add_zero] at y0 y1
    have h0N : 0 < N := by rw [hN, hc]; simp
    have h0i : (0 : Int) < (N : Int) := by omega
    have hNz : ¬ ((N : Int) = 0) := by omega
    rw [hc] at hf
    have E0 := Lib.hid (PF.out.e0 (.string f.1))
    have E1 := Lib.hid (PF.out.e1 (.string f.1) (.int .i64 f.2))
    have PE := Lib.hid (fnd_put (PF.out.set (.string f.1) (.int .i64 f.2)))
    have HF := Lib.hid (congrArg foV hf)
    clear hf hN hc hvd hf0
    go_wp2_with fail
    refine bodyPost_ret (v := foV (fstF D c n d)) (by rw [HF.out]; simp [results, Try.results17, go_sem, E0.out, E1.out, PE.out.g0, PE.out.g1, foV]) rfl ⟨rfl, ?_⟩
    exact KP.out _ _

theorem some_at {α β : Type} {g : α → Option β} : ∀ {l : List α} {k : Nat} {x : α} {y : β}, l[k]? = some x → g x = some y → (∀ j z, j < k → l[j]? = some z → g z = none) → l.findSome? g = some y
  | [], _, _, _, h, _, _ => by simp at h
  | a :: l, 0, x, y, h, hy, _ => by
    obtain rfl : a = x := by simpa using h
    simp [List.findSome?_cons, hy]
  | a :: l, k + 1, x, y, h, hy, hn => by
    have h0 := hn 0 a (by omega) rfl
    rw [List.findSome?_cons, h0]
    exact some_at (l := l) (k := k) (by simpa using h) hy (fun j z hj hz => hn (j + 1) z (by omega) (by simpa using hz))
theorem some_no {α β : Type} {g : α → Option β} {l : List α} (hn : ∀ (j : Nat) z, l[j]? = some z → g z = none) : l.findSome? g = none := by
  rw [List.findSome?_eq_none_iff]
  intro x hx
  obtain ⟨j, hj⟩ := List.mem_iff_getElem?.1 hx
  exact hn j x hj

set_option maxHeartbeats 2000000 in
theorem find_chained (D : List TD) (c n d : ByteArray) (v : Value) (w : World) (h : TyR w v D) (hs : c.size ≤ maxLen) :
    Calls Try.prog 15 #[v, .agg #[.string c, .string n, .string d]] w fun e w' => e = .returned (foV (chF D c n d)) ∧ Kept w w' := by
  have H := Lib.hid h
  have HS := Lib.hid hs
  have k0 : Kept w ((w.alloc (.cells #[.string c, .string n, .string d] 33)).alloc (.cells #[.string ⟨#[]⟩, .int .i64 0] 37)) := ((Below.refl _ _).alloc (Nat.le_refl _) _).alloc (by simp) _
  have b0 : Blk ((w.alloc (.cells #[.string c, .string n, .string d] 33)).alloc (.cells #[.string ⟨#[]⟩, .int .i64 0] 37)) w.heap.size 33 #[.string c, .string n, .string d] := (Blk.new w _ _).alloc _
  have b1 : Blk ((w.alloc (.cells #[.string c, .string n, .string d] 33)).alloc (.cells #[.string ⟨#[]⟩, .int .i64 0] 37)) (w.heap.size + 1) 37 #[.string ⟨#[]⟩, .int .i64 0] := Blk.at_ (by simp)
  have zz : w.heap.size + 1 < ((w.alloc (.cells #[.string c, .string n, .string d] 33)).alloc (.cells #[.string ⟨#[]⟩, .int .i64 0] 37)).heap.size := by simp
  have q0 := b0.cell 0
  have q1 := b0.cell 1
  have q2 := b0.cell 2
  simp only [List.getElem?_toArray, List.getElem?_cons_succ, List.getElem?_cons_zero] at q0 q1 q2
  have K0 := Lib.hid k0
  have B0 := Lib.hid b0
  have B1 := Lib.hid b1
  have hal := (chainL_nms D c).le
  have hDl := h.len
  clear h hs k0 b0 b1
  go_enter Try.func15, Try.ntmps15
  go_wp2_with fail
  generalize ((w.alloc (.cells #[.string c, .string n, .string d] 33)).alloc (.cells #[.string ⟨#[]⟩, .int .i64 0] 37)) = W at *
  refine (kin_Chain D c v W (H.out.kept K0.out) HS.out).mono ?_
  rintro e w2 ⟨vd, rfl, hvd, k2⟩
  obtain ⟨N, hN⟩ : ∃ N, N = (chainL D c).length := ⟨_, rfl⟩
  have hrd : Rd w2 1 vd N ((chainL D c).flatMap encS) := by rw [hN]; exact hvd.rd
  have HV := Lib.hid hrd
  have HN := Lib.hid hN
  have K2 := Lib.hid k2
  have hNl : N ≤ 100 := by omega
  obtain ⟨-, ad, cd, rfl, hcd1, hcd2, -⟩ := hrd
  clear hvd k2 hN hal q0 q1 q2
  go_wp2_with fail
  go_loopw [16] (fun s16 wr => ∃ k : Nat, k ≤ N ∧ s16 = .int .i64 k ∧ (∀ j z, j < k → (chainL D c)[j]? = some z → ownF D z n d = none) ∧ Kept w2 wr) (fun s16 _ => N - (intOf s16).toNat)
  case atStart => exact ⟨0, by omega, rfl, fun j z hj => (by omega), Below.refl _ _⟩
  case round =>
    obtain ⟨k, hk, rfl, hno, hK⟩ := hrel
    rename World => wr
    have HNO := Lib.hid hno
    have HK := Lib.hid hK
    have kw := Kept.trans K2.out hK
    have bb := B0.out.kept kw
    have q0 := bb.cell 0
    have q1 := bb.cell 1
    have q2 := bb.cell 2
    simp only [List.getElem?_toArray, List.getElem?_cons_succ, List.getElem?_cons_zero] at q0 q1 q2
    have KW := Lib.hid kw
    clear hno hK kw bb
    by_cases hlt : k < N
    · obtain ⟨s, hs⟩ : ∃ m, (chainL D c)[k]? = some m := ⟨_, List.getElem?_eq_getElem (by have := HN.out; omega)⟩
      obtain ⟨b, off, cc, hv, y0⟩ := str_cell HN.out (HV.out.kept HK.out) hs
      simp only [Value.slice.injEq] at hv
      obtain ⟨rfl, -, rfl⟩ := hv
      have CM := Lib.hid (find_method D s c n d v wr (H.out.kept (Kept.trans K0.out KW.out)))
      have HSK := Lib.hid hs
      clear hs
      go_wp2_with fail
      refine CM.out.mono ?_
      rintro e w4 ⟨rfl, k4⟩
      have kw4 := Kept.trans KW.out k4
      have z4 := kw4.size
      have K4 := Lib.hid k4
      unfold mthV
      have PF := fnd_put (B1.out.kept kw4)
      have KP := Lib.hid (PF.keeps (Kept.trans K0.out kw4) (Nat.le_succ _))
      have g0 := PF.g0
      have g1 := PF.g1
      have h0 := PF.h0
      have h1 := PF.h1
      have zr := PF.lt
      have PF := Lib.hid PF
      have zn : ¬ (w.heap.size + 1 = w4.heap.size) := by omega
      have zk := k4.size
      have zk2 := HK.out.size
      clear k4 kw4
      cases hm : mth D s n d with
      | none =>
        have ho : ownF D s n d = none := by simp [ownF, hm]
        have HX := Lib.hid (show ∀ j z, j < k + 1 → (chainL D c)[j]? = some z → ownF D z n d = none from fun j z hj hz => by
          by_cases e : j = k
          · subst e
            rw [HSK.out] at hz
            obtain rfl : s = z := by simpa using hz
            exact ho
          · exact HNO.out j z (by omega) hz)
        clear hm ho
        go_wp2_with fail
        go_roundw
        case rel => exact ⟨k + 1, by omega, by go_num, HX.out, Kept.trans HK.out (K4.out.alloc zk _)⟩
        case measure => simp [intOf]; omega
      | some x =>
        have ho : ownF D s n d = some (s, x.1) := by simp [ownF, hm]
        have hf : chF D c n d = some (s, x.1) := some_at HSK.out ho HNO.out
        have HF := Lib.hid (congrArg foV hf)
        have E0 := Lib.hid (PF.out.e0 (.string s))
        have E1 := Lib.hid (PF.out.e1 (.string s) (.int .i64 x.1))
        have PE := Lib.hid ((fnd_put (PF.out.set (.string s) (.int .i64 x.1))).alloc (.cells #[.string s, .int .i64 x.1] 37))
        clear hm ho hf
        go_wp2_with fail
        refine bodyPost_ret (v := foV (chF D c n d)) (by rw [HF.out]; simp [results, Try.results15, go_sem, E0.out, E1.out, PE.out.g0, PE.out.g1, foV]) rfl ⟨rfl, ?_⟩
        exact (KP.out _ _).alloc (by simp; omega) _
    · have hf : chF D c n d = none := some_no fun j z hz => HNO.out j z (by have := (List.getElem?_eq_some_iff.1 hz).1; have := HN.out; omega) hz
      have HF := Lib.hid (congrArg foV hf)
      have kw := KW.out
      have PF := fnd_put (B1.out.kept kw)
      have KP := Lib.hid (PF.keeps (Kept.trans K0.out kw) (Nat.le_succ _))
      have g0 := PF.g0
      have g1 := PF.g1
      have h0 := PF.h0
      have h1 := PF.h1
      have zr := PF.lt
      have PF := Lib.hid PF
      have E0 := Lib.hid (PF.out.e0 (.string ⟨#[]⟩))
      have E1 := Lib.hid (PF.out.e1 (.string ⟨#[]⟩) (.int .i64 0))
      have PE := Lib.hid (fnd_put (PF.out.set (.string ⟨#[]⟩) (.int .i64 0)))
      clear hf kw
      go_wp2_with fail
      refine bodyPost_ret (v := foV (chF D c n d)) (by rw [HF.out]; simp [results, Try.results15, go_sem, E0.out, E1.out, PE.out.g0, PE.out.g1, foV]) rfl ⟨rfl, ?_⟩
      exact KP.out _ _

theorem mthV_acc (D : List TD) (n d : ByteArray) (f : FV) : ∃ g b, mthV D f.1 n d = .tuple #[.agg #[.string (Prod.fst g), .int .i64 (Prod.snd g : Nat)], .int .i64 (accF D n d f), .bool b] := by
  unfold mthV accF
  cases mth D f.1 n d with
  | none => exact ⟨f0, false, rfl⟩
  | some x => exact ⟨(f.1, x.1), true, rfl⟩
theorem head_last {l : List FV} (h : l.length = 1) : l.head? = some (l.getLast?.getD f0) := by
  match l, h with
  | [x], _ => rfl
theorem mostL_len (D : List TD) (s n d : ByteArray) : (mostL D s n d).length ≤ (allL D s).length := Nat.le_trans (List.length_filter_le _ _) (declL_len D _ n d)
theorem mostL_there {D : List TD} {s n d : ByteArray} {f : FV} (h : f ∈ mostL D s n d) : there D f.1 := by
  have h1 := (List.mem_filter.1 h).1
  exact (allL_nms D s).th _ (declL_mem h1).1
theorem realL_next {D : List TD} {n d : ByteArray} {l : List FV} {k : Nat} {f : FV} (h : l[k]? = some f) : realL D n d (l.take (k + 1)) = realL D n d (l.take k) ++ if realB D n d f then [f] else [] := filter_next _ h

set_option maxHeartbeats 2000000 in
theorem find_single (D : List TD) (c n d : ByteArray) (v : Value) (w : World) (h : TyR w v D) (hs : c.size ≤ maxLen) :
    Calls Try.prog 16 #[v, .agg #[.string c, .string n, .string d]] w fun e w' => e = .returned (foV (sglF D c n d)) ∧ Kept w w' := by
  have H := Lib.hid h
  have HS := Lib.hid hs
  have k0 : Kept w ((w.alloc (.cells #[.string c, .string n, .string d] 33)).alloc (.cells #[.string ⟨#[]⟩, .int .i64 0] 37)) := ((Below.refl _ _).alloc (Nat.le_refl _) _).alloc (by simp) _
  have b0 : Blk ((w.alloc (.cells #[.string c, .string n, .string d] 33)).alloc (.cells #[.string ⟨#[]⟩, .int .i64 0] 37)) w.heap.size 33 #[.string c, .string n, .string d] := (Blk.new w _ _).alloc _
  have b1 : Blk ((w.alloc (.cells #[.string c, .string n, .string d] 33)).alloc (.cells #[.string ⟨#[]⟩, .int .i64 0] 37)) (w.heap.size + 1) 37 #[.string ⟨#[]⟩, .int .i64 0] := Blk.at_ (by simp)
  have zz : w.heap.size + 1 < ((w.alloc (.cells #[.string c, .string n, .string d] 33)).alloc (.cells #[.string ⟨#[]⟩, .int .i64 0] 37)).heap.size := by simp
  have q0 := b0.cell 0
  have q1 := b0.cell 1
  have q2 := b0.cell 2
  simp only [List.getElem?_toArray, List.getElem?_cons_succ, List.getElem?_cons_zero] at q0 q1 q2
  have K0 := Lib.hid k0
  have B0 := Lib.hid b0
  have B1 := Lib.hid b1
  have hal := all_len h c
  clear h hs k0 b0 b1
  have HWS := Lib.hid (show ((w.alloc (.cells #[.string c, .string n, .string d] 33)).alloc (.cells #[.string ⟨#[]⟩, .int .i64 0] 37)).heap.size = w.heap.size + 1 + 1 by simp)
  go_enter Try.func16, Try.ntmps16
  go_wp2_with fail
  generalize ((w.alloc (.cells #[.string c, .string n, .string d] 33)).alloc (.cells #[.string ⟨#[]⟩, .int .i64 0] 37)) = W at *
  have hWs : W.heap.size = w.heap.size + 1 + 1 := HWS.out
  have b2 : Blk (W.alloc (.cells #[.string ⟨#[]⟩, .int .i64 0] 37)) (w.heap.size + 1 + 1) 37 #[.string ⟨#[]⟩, .int .i64 0] := Blk.at_ hWs
  have B2 := Lib.hid b2
  have kA : Kept W (W.alloc (.cells #[.string ⟨#[]⟩, .int .i64 0] 37)) := (Below.refl _ _).alloc (Nat.le_refl _) _
  have KA := Lib.hid kA
  clear b2
  refine (find_Most D c c n d v _ (H.out.kept (Kept.trans K0.out kA)) HS.out).mono ?_
  rintro e w2 ⟨vd, rfl, hvd, k2⟩
  obtain ⟨A, hA⟩ : ∃ A, A = mostL D c n d := ⟨_, rfl⟩
  have hAl : A.length ≤ 100 := by have := mostL_len D c n d; rw [← hA] at this; omega
  have hth : ∀ f ∈ A, f.1.size ≤ maxLen := by
    intro f hf
    rw [hA] at hf
    exact H.out.size_of (mostL_there hf)
  have HTH := Lib.hid hth
  rw [← hA] at hvd
  have HA := Lib.hid hA
  obtain ⟨N, hN⟩ : ∃ N, N = A.length := ⟨_, rfl⟩
  have hrd : RdF w2 vd A N := by rw [hN]; exact hvd.rd
  have hrow : Row w2 (w.heap.size + 1 + 1 + 1) 37 2 vd N (A.flatMap encF) := by
    rw [hN]
    have := hvd
    unfold RowF at this
    simpa [hWs] using this
  have HV := Lib.hid hrow
  have HN := Lib.hid hN
  have K2 := Lib.hid (Kept.trans kA k2)
  have B2 := Lib.hid (B2.out.kept k2)
  have hNl : N ≤ 100 := by omega
  have z2 := (Kept.trans kA k2).size
  obtain ⟨-, ad, cd, rfl, hcd1, hcd2, -⟩ := hrd
  clear hvd k2 hN hal q0 q1 q2 hth hA kA hrow
  go_wp2_with fail
  go_loopw [7, 19] (fun s7 s19 wr => ∃ k : Nat, k ≤ N ∧ s19 = .int .i64 k ∧ s7 = .int .i64 (realL D n d (A.take k)).length ∧ Blk wr (w.heap.size + 1 + 1) 37 #[.string ((realL D n d (A.take k)).getLast?.getD f0).1, .int .i64 ((realL D n d (A.take k)).getLast?.getD f0).2] ∧ Kept W wr ∧ Row wr (w.heap.size + 1 + 1 + 1) 37 2 (.slice ad N cd) N (A.flatMap encF)) (fun _ s19 _ => N - (intOf s19).toNat)
  case atStart => exact ⟨0, by omega, rfl, rfl, B2.out, K2.out, HV.out⟩
  case round =>
    obtain ⟨k, hk, rfl, rfl, hB, hK, hR⟩ := hrel
    rename World => wr
    obtain ⟨m, hm⟩ : ∃ m, m = (realL D n d (A.take k)).length := ⟨_, rfl⟩
    have hml : m ≤ 100 := by have h1 : (realL D n d (A.take k)).length ≤ (A.take k).length := List.length_filter_le _ _; simp only [List.length_take] at h1; omega
    obtain ⟨o, ho⟩ : ∃ o, o = (realL D n d (A.take k)).getLast?.getD f0 := ⟨_, rfl⟩
    rw [← ho] at hB
    rw [← hm]
    have HB := Lib.hid hB
    have HK := Lib.hid hK
    have HR := Lib.hid hR
    have HM := Lib.hid hm
    have HO := Lib.hid ho
    have bb := B0.out.kept hK
    have q0 := bb.cell 0
    have q1 := bb.cell 1
    have q2 := bb.cell 2
    have p0 := hB.cell 0
    have p1 := hB.cell 1
    have f0' := hB.frozen 0
    have f1' := hB.frozen 1
    simp only [List.getElem?_toArray, List.getElem?_cons_succ, List.getElem?_cons_zero] at q0 q1 q2 p0 p1
    have zs := hK.size
    have zl0 : w.heap.size < wr.heap.size := bb.lt
    have zl2 : w.heap.size + 1 + 1 < wr.heap.size := hB.lt
    have zn0 : ¬ (w.heap.size = wr.heap.size) := by omega
    have zn2 : ¬ (w.heap.size + 1 + 1 = wr.heap.size) := by omega
    clear hK hB hR bb hm ho
    by_cases hlt : k < N
    · obtain ⟨f, hf⟩ : ∃ m, A[k]? = some m := ⟨_, List.getElem?_eq_getElem (by have := HN.out; omega)⟩
      obtain ⟨b, off, cc, hv, y0, y1⟩ := fnd_cell HN.out HR.out.rd hf
      simp only [Value.slice.injEq] at hv
      obtain ⟨rfl, -, rfl⟩ := hv
      have CM := Lib.hid (find_method D f.1 c n d v (wr.alloc (.cells #[.string f.1, .int .i64 f.2] 37)) (H.out.kept (Kept.trans K0.out (HK.out.alloc zs _))))
      have HX := Lib.hid (realL_next (D := D) (n := n) (d := d) hf)
      have BF := Lib.hid (Blk.new wr 37 #[.string f.1, .int .i64 f.2])
      have KA := Lib.hid (HK.out.alloc zs (.cells #[.string f.1, .int .i64 f.2] 37))
      clear hf
      go_wp2_with fail
      refine CM.out.mono ?_
      rintro e w4 ⟨rfl, k4⟩
      obtain ⟨g, bg, hV⟩ := mthV_acc D n d f
      rw [hV]
      have B4 := (HB.out.alloc (.cells #[.string f.1, .int .i64 f.2] 37)).kept k4
      have F4 := BF.out.kept k4
      have r0 := F4.cell 0
      have r1 := F4.cell 1
      have p0' := B4.cell 0
      have p1' := B4.cell 1
      have g0' := B4.frozen 0
      have g1' := B4.frozen 1
      simp only [List.getElem?_toArray, List.getElem?_cons_succ, List.getElem?_cons_zero] at r0 r1 p0' p1'
      have kw4 := Kept.trans KA.out k4
      have z4 := kw4.size
      have zr4 : wr.heap.size < w4.heap.size := F4.lt
      have zl4 : w.heap.size + 1 + 1 < w4.heap.size := B4.lt
      have zn4 : ¬ (w.heap.size + 1 + 1 = w4.heap.size) := by omega
      have zm4 : ¬ (wr.heap.size = w4.heap.size) := by omega
      have R4 := Lib.hid ((HR.out.kept ((Below.refl _ _).alloc (Nat.le_refl _) (.cells #[.string f.1, .int .i64 f.2] 37))).kept k4)
      have KW4 := Lib.hid kw4
      have HB4 := Lib.hid B4
      clear k4 kw4 B4 F4 hV
      by_cases hr : bits .and .i64 (accF D n d f) 1024 = 0
      · have hb : realB D n d f = true := decide_eq_true hr
        rw [if_pos hb] at HX
        clear hb
        have RT := Lib.hid (fun (u u' : Value) => R4.out.touch (S := fun b => b = w.heap.size + 1 + 1) (((Touch.refl (fun b => b = w.heap.size + 1 + 1) w4).setCell (p := ⟨w.heap.size + 1 + 1, 0, none⟩) (.inl rfl) u).setCell (p := ⟨w.heap.size + 1 + 1, 1, none⟩) (.inl rfl) u') (fun q hq e => by have := (R4.out.lt q hq).1; omega))
        go_wp2_with fail
        go_roundw
        case rel => exact ⟨k + 1, by omega, by go_num, by rw [HX.out, List.length_append, ← HM.out]; rfl, by rw [HX.out, List.getLast?_append]; exact ((fnd_put HB4.out).set _ _).alloc _, ((KW4.out.setCell (by rw [hWs]; exact Nat.le_refl _) _).setCell (by rw [hWs]; exact Nat.le_refl _) _).alloc (by simpa using z4) _, (RT.out _ _).kept ((Below.refl _ _).alloc (Nat.le_refl _) _)⟩
        case measure => simp [intOf]; omega
      · have hb : ¬ realB D n d f = true := by unfold realB; simpa using hr
        rw [if_neg hb, List.append_nil] at HX
        clear hb
        go_wp2_with fail
        go_roundw
        case rel => exact ⟨k + 1, by omega, by go_num, by rw [HX.out, ← HM.out], by rw [HX.out, ← HO.out]; exact HB4.out.alloc _, KW4.out.alloc z4 _, R4.out.kept ((Below.refl _ _).alloc (Nat.le_refl _) _)⟩
        case measure => simp [intOf]; omega
    · have e1 : A.take k = A := List.take_of_length_le (by have := HN.out; omega)
      have hs : sglF D c n d = if m = 1 then some o else none := by
        have h1 := HM.out
        have h2 := HO.out
        rw [e1, HA.out] at h1 h2
        unfold sglF
        rw [← h1]
        by_cases h3 : m = 1
        · rw [if_pos h3, if_pos h3, h2]
          exact head_last (by omega)
        · rw [if_neg h3, if_neg h3]
      have kw := HK.out
      have PF := fnd_put (B1.out.kept kw)
      have KP := Lib.hid (PF.keeps (Kept.trans K0.out kw) (Nat.le_succ _))
      have g0 := PF.g0
      have g1 := PF.g1
      have h0 := PF.h0
      have h1 := PF.h1
      have zr := PF.lt
      have PF := Lib.hid PF
      clear kw e1
      by_cases hm1 : m = 1
      · rw [if_pos hm1] at hs
        have HF := Lib.hid (congrArg foV hs)
        clear hs
        have hmi : (m : Int) = 1 := by omega
        have E0 := Lib.hid (PF.out.e0 (.string o.1))
        have E1 := Lib.hid (PF.out.e1 (.string o.1) (.int .i64 o.2))
        have PE := Lib.hid (fnd_put (PF.out.set (.string o.1) (.int .i64 o.2)))
        go_wp2_with fail
        refine bodyPost_ret (v := foV (sglF D c n d)) (by rw [HF.out]; simp [results, Try.results16, go_sem, E0.out, E1.out, PE.out.g0, PE.out.g1, foV]) rfl ⟨rfl, ?_⟩
        exact KP.out _ _
      · rw [if_neg hm1] at hs
        have HF := Lib.hid (congrArg foV hs)
        clear hs
        have hmi : ¬ ((m : Int) = 1) := by omega
        have E0 := Lib.hid (PF.out.e0 (.string ⟨#[]⟩))
        have E1 := Lib.hid (PF.out.e1 (.string ⟨#[]⟩) (.int .i64 0))
        have PE := Lib.hid (fnd_put (PF.out.set (.string ⟨#[]⟩) (.int .i64 0)))
        go_wp2_with fail
        refine bodyPost_ret (v := foV (sglF D c n d)) (by rw [HF.out]; simp [results, Try.results16, go_sem, E0.out, E1.out, PE.out.g0, PE.out.g1, foV]) rfl ⟨rfl, ?_⟩
        exact KP.out _ _
end Go.Proofs.Ytccbdnlknijcbaa
