/-
  Package find by contract: Field.
-/
import Derived.Test.YtccbdnlknijcbaaFindF
import Derived.Test.YtccbdnlknijcbaaFindR1
import Derived.Test.YtccbdnlknijcbaaFind5
import Derived.Test.YtccbdnlknijcbaaOverM
import Derived.Test.YtccbdnlknijcbaaOver
import Derived.DeepKeys4
namespace Go.Proofs.Ytccbdnlknijcbaa
open Go.RowKit Go.Maps
set_option maxRecDepth 100000

/-- A reference as a map's key. -/
def refK (n d s : ByteArray) : Value := .agg #[.string s, .string n, .string d]
theorem refK_inj (n d a b : ByteArray) (h : refK n d a = refK n d b) : a = b := by simpa [refK] using h
theorem laidF : laidOutB Try.prog = true := by kernel_rfl
theorem law_ref : Keyed Try.prog 33 := Keyed.of_law (deep_law_laid laidF (m := 2) (by omega) (of_decide_eq_true (by kernel_rfl)) (by kernel_rfl) (by rw [Try.underlying33]))
theorem lits_ref {s n d : ByteArray} (hs : s.size ≤ maxLen) (hn : n.size ≤ maxLen) (hd : d.size ≤ maxLen) (k : Nat) : Try.prog.keyLits (k + 2) 33 [.string s, .string n, .string d] = some [.string s.data.toList, .string n.data.toList, .string d.data.toList] := by
  have cR : Try.prog.cellsOf 33 = 3 := by kernel_rfl
  have cS : Try.prog.cellsOf 9 = 1 := by kernel_rfl
  simp [Program.keyLits, Try.underlying33, Try.underlying9, cR, cS, hs, hn, hd]
theorem key_ref {s n d : ByteArray} (hs : s.size ≤ maxLen) (hn : n.size ≤ maxLen) (hd : d.size ≤ maxLen) : ∃ l, keyOf Try.prog 33 (refK n d s) = some l := by
  have hk : Try.prog.keyType 33 = true := by kernel_rfl
  have cR : Try.prog.cellsOf 33 = 3 := by kernel_rfl
  have hf : (refK n d s).formed Try.prog 33 = true := by simp [refK, Value.formed, Try.underlying33, cR]
  obtain ⟨k, hz⟩ : ∃ k, Try.prog.types.size + 1 = k + 2 := ⟨Try.prog.types.size - 1, by have : 1 ≤ Try.prog.types.size := of_decide_eq_true (by kernel_rfl); omega⟩
  refine ⟨.string (keyBytes [.string s.data.toList, .string n.data.toList, .string d.data.toList]), ?_⟩
  unfold keyOf
  rw [Try.underlying33]
  simp only [hk, hf, Bool.and_self, if_true, hz]
  show (Program.keyLits _ _ _ [Value.string s, Value.string n, Value.string d]).map _ = _
  rw [lits_ref hs hn hd]
  rfl
/-- A set of types, kept by references that differ in them alone. -/
def SetR (n d : ByteArray) (w : World) (b m : Nat) (p : ByteArray → Bool) : Prop := Dict Try.prog 33 (refK n d) w b m (fun s => if p s then some (.int .i64 1) else none)
theorem SetR.run {n d : ByteArray} {w : World} {b m : Nat} {p : ByteArray → Bool} (h : SetR n d w b m p) {s : ByteArray} (hs : s.size ≤ maxLen) (hn : n.size ≤ maxLen) (hd : d.size ≤ maxLen) : (Instr.lookup 50 (.map (some b)) (.agg #[.string s, .string n, .string d]) false).run Try.prog w = .ok (.int .i64 (if p s then 1 else 0)) w := by
  obtain ⟨l, hl⟩ := key_ref hs hn hd
  have h1 := Dict.look h law_ref Try.underlying50 (zeroI w) hl
  rw [show (Value.agg #[.string s, .string n, .string d]) = refK n d s from rfl, h1]
  by_cases hp : p s <;> simp [hp]
theorem SetR.touch {S : Nat → Prop} {n d : ByteArray} {w w' : World} {b m : Nat} {p : ByteArray → Bool} (h : SetR n d w b m p) (ht : Touch S w w') (hn : ¬ S b) : SetR n d w' b m p := Dict.touch h ht hn
theorem SetR.kept {n d : ByteArray} {w w' : World} {b m : Nat} {p : ByteArray → Bool} (h : SetR n d w b m p) (hk : Kept w w') : SetR n d w' b m p := Dict.kept h hk
theorem SetR.put {n d : ByteArray} {w : World} {b m : Nat} {seen : List ByteArray} {s : ByteArray} (h : Dict Try.prog 33 (refK n d) w b m (fun x => if x = s then some (.int .i64 1) else if decide (x ∈ seen) then some (.int .i64 1) else none)) : SetR n d w b m (fun x => decide (x ∈ seen ++ [s])) :=
  Dict.congr h fun a _ => by by_cases e : a = s <;> simp [e]
/-- Where a search stands. -/
structure FldS (D : List TD) (n d : ByteArray) (R : Option FV) (W : World) (mb : Nat) (g : Nat) (todo seen : List ByteArray) (v : Value) (wr : World) : Prop where
  own : wr.ownsRow W.heap.size 9 1 v todo.length (todo.reverse.flatMap encS)
  fr : FR D n d g todo seen R
  nms : Nms D seen
  tl : todo.length ≤ 1 + 3001 * seen.length
  sz : ∀ s ∈ todo, s.size ≤ maxLen
  set : SetR n d wr mb seen.length (fun x => decide (x ∈ seen))
  kept : Kept W wr
def nfB : ByteArray := ⟨#[106, 97, 118, 97, 47, 108, 97, 110, 103, 47, 78, 111, 83, 117, 99, 104, 70, 105, 101, 108, 100, 69, 114, 114, 111, 114]⟩
def fldRes (o : Option FV) : FV × ByteArray := match o with
  | some f => (f, ⟨#[]⟩)
  | none => (f0, nfB)
def fieldR (D : List TD) (s n d : ByteArray) : FV × ByteArray := fldRes (fieldL D s n d)
theorem top_at (x : ByteArray) (rest : List ByteArray) : ((x :: rest).reverse.flatMap encS)[rest.length]? = some (.string x) := by
  rw [List.reverse_cons, List.flatMap_append, List.getElem?_append_right (by rw [strs_len]; simp), strs_len]
  simp [encS]
theorem top_take (x : ByteArray) (rest : List ByteArray) : ((x :: rest).reverse.flatMap encS).take (rest.length * 1) = rest.reverse.flatMap encS := by
  rw [List.reverse_cons, List.flatMap_append]
  exact List.take_left' (by rw [strs_len]; simp)
theorem FR_nil {D : List TD} {n d : ByteArray} {k : Nat} {seen : List ByteArray} {R : Option FV} (h : FR D n d k [] seen R) : R = none := by
  cases k <;> exact h
theorem FR_pos {D : List TD} {n d x : ByteArray} {k : Nat} {rest seen : List ByteArray} {R : Option FV} (h : FR D n d k (x :: rest) seen R) : ∃ j, k = j + 1 := by
  cases k with
  | zero => exact h.elim
  | succ j => exact ⟨j, rfl⟩
theorem FR_skip' {D : List TD} {n d x : ByteArray} {k : Nat} {rest seen : List ByteArray} {R : Option FV} (h : FR D n d (k + 1) (x :: rest) seen R) (hs : ¬ there D x ∨ x ∈ seen) : FR D n d k rest seen R := by
  unfold FR at h; rw [if_pos hs] at h; exact h
theorem FR_hit' {D : List TD} {n d x : ByteArray} {k i : Nat} {rest seen : List ByteArray} {R : Option FV} (h : FR D n d (k + 1) (x :: rest) seen R) (h1 : there D x) (h2 : x ∉ seen) (h3 : memAt (fldL D x) n d = some i) : R = some (x, i) := by
  unfold FR at h; rw [if_neg (by simp [h1, h2]), h3] at h; exact h
theorem FR_on' {D : List TD} {n d x : ByteArray} {k : Nat} {rest seen : List ByteArray} {R : Option FV} (h : FR D n d (k + 1) (x :: rest) seen R) (h1 : there D x) (h2 : x ∉ seen) (h3 : memAt (fldL D x) n d = none) : FR D n d k (ifs D x ++ (supO D x :: rest)) (seen ++ [x]) R := by
  unfold FR at h; rw [if_neg (by simp [h1, h2]), h3] at h; exact h

set_option maxHeartbeats 4000000 in
theorem find_Field (D : List TD) (c n d : ByteArray) (v : Value) (w : World) (h : TyR w v D) (hs : c.size ≤ maxLen) (hn : n.size ≤ maxLen) (hd : d.size ≤ maxLen) (hct : ∀ t ∈ D, t.interfaces.length ≤ 3000) :
    Calls Try.prog 9 #[v, .agg #[.string c, .string n, .string d]] w fun e w' => e = .returned (resV (fieldR D c n d)) ∧ Kept w w' := by
  have H := Lib.hid h
  have HSZ := Lib.hid (And.intro hn hd)
  have HCT := Lib.hid hct
  obtain ⟨av, cv, rfl, hcv1, hcv2⟩ := h.slice
  have hDl := h.len
  obtain ⟨k0, hfr⟩ := field_steps D c n d
  obtain ⟨R, hR⟩ : ∃ R, R = fieldL D c n d := ⟨_, rfl⟩
  rw [← hR] at hfr
  have hres : fieldR D c n d = fldRes R := by rw [hR]; rfl
  have HRES := Lib.hid hres
  have hmm := @run_makeMap Try.prog
  have K0 : Hid (Kept w ((w.alloc (.cells #[.string c, .string n, .string d] 33)).alloc (.cells #[.string ⟨#[]⟩, .int .i64 0] 37))) := Lib.hid (((Below.refl _ _).alloc (Nat.le_refl _) _).alloc (by simp) _)
  have B0 : Hid (Blk ((w.alloc (.cells #[.string c, .string n, .string d] 33)).alloc (.cells #[.string ⟨#[]⟩, .int .i64 0] 37)) w.heap.size 33 #[.string c, .string n, .string d]) := Lib.hid ((Blk.new w _ _).alloc _)
  have B1 : Hid (Blk ((w.alloc (.cells #[.string c, .string n, .string d] 33)).alloc (.cells #[.string ⟨#[]⟩, .int .i64 0] 37)) (w.heap.size + 1) 37 #[.string ⟨#[]⟩, .int .i64 0]) := Lib.hid (Blk.at_ (by simp))
  have hzW : ((w.alloc (.cells #[.string c, .string n, .string d] 33)).alloc (.cells #[.string ⟨#[]⟩, .int .i64 0] 37)).heap.size = w.heap.size + 1 + 1 := by simp
  have hd0 : SetR n d (((w.alloc (.cells #[.string c, .string n, .string d] 33)).alloc (.cells #[.string ⟨#[]⟩, .int .i64 0] 37)).alloc (.map #[] 0)) (w.heap.size + 1 + 1) 0 (fun x => decide (x ∈ ([] : List ByteArray))) := hzW ▸ (Dict.made _ _ _ _).congr (fun a _ => by simp)
  have HD0 := Lib.hid hd0
  have HZW := Lib.hid hzW
  have HFR := Lib.hid hfr
  have HS := Lib.hid hs
  clear h hs hn hd hct hd0 hfr hres hR hzW
  go_enter Try.func9, Try.ntmps9
  go_wp2_with fail
  generalize ((w.alloc (.cells #[.string c, .string n, .string d] 33)).alloc (.cells #[.string ⟨#[]⟩, .int .i64 0] 37)) = W at *
  go_loopg [7] k0 (fun g s7 wr => ∃ todo seen, FldS D n d R W (w.heap.size + 1 + 1) g todo seen s7 wr)
  case atStart =>
    have hz3 : (W.alloc (.map #[] 0)).heap.size = w.heap.size + 1 + 1 + 1 := by simp [HZW.out]
    have h0 : ((W.alloc (.map #[] 0)).alloc (.cells #[.string c] 9)).ownsRow W.heap.size 9 1 (.slice (some ⟨w.heap.size + 1 + 1 + 1, 0, none⟩) 1 1) 1 [.string c] := by
      rw [← hz3]
      exact own_new (W.alloc (.map #[] 0)) [.string c] 1 (by simp) rfl
    exact ⟨[c], [], ⟨h0, HFR.out, Nms.nil D, by simp, by simpa using HS.out, HD0.out.kept ((Below.refl _ (W.alloc (.map #[] 0))).alloc (Nat.le_refl _) _), ((Below.refl _ W).alloc (Nat.le_refl _) _).alloc (by simp) _⟩⟩
  case round =>
    obtain ⟨todo, seen, ⟨own, fr, nms, tl, sz, set, kept⟩⟩ := hrel
    rename World => wr
    have hseen : seen.length ≤ 100 := by have := nms.le; omega
    have KE := Lib.hid kept
    have zs := kept.size
    have zW := HZW.out
    cases todo with
    | nil =>
      obtain ⟨ao, co, rfl, -, -⟩ := own_slice own
      have hr : R = none := FR_nil fr
      have hf : fieldR D c n d = (f0, nfB) := by rw [HRES.out, hr]; rfl
      have HF := Lib.hid (congrArg resV hf)
      have PF := fnd_put (B1.out.kept kept)
      have KP := Lib.hid (PF.keeps (Kept.trans K0.out kept) (Nat.le_succ _))
      have g0 := PF.g0
      have g1 := PF.g1
      have h0 := PF.h0
      have h1 := PF.h1
      have zr := PF.lt
      have PF := Lib.hid PF
      have E0 := Lib.hid (PF.out.e0 (.string ⟨#[]⟩))
      have E1 := Lib.hid (PF.out.e1 (.string ⟨#[]⟩) (.int .i64 0))
      have PE := Lib.hid (fnd_put (PF.out.set (.string ⟨#[]⟩) (.int .i64 0)))
      clear own fr nms tl sz set kept hr hf zW
      go_wp2_with fail
      refine bodyPost_ret (v := resV (fieldR D c n d)) (by rw [HF.out]; simp [results, Try.results9, go_sem, E0.out, E1.out, PE.out.g0, PE.out.g1, resV, f0, nfB]) rfl ⟨rfl, ?_⟩
      exact KP.out _ _
    | cons x rest =>
      obtain ⟨j, rfl⟩ := FR_pos fr
      obtain ⟨gb, co, hv, hco, hco2, -, -, hcell, hfroz⟩ := own_form own (by simp)
      subst hv
      have x0 : wr.cell? ⟨gb, rest.length, none⟩ = some (.string x) := hcell _ _ (top_at x rest)
      have own' : wr.ownsRow W.heap.size 9 1 (.slice (some ⟨gb, 0, none⟩) rest.length co) rest.length (rest.reverse.flatMap encS) := by
        have := own_front_ own (k := rest.length) (by simp)
        rwa [top_take] at this
      have hN : rest.length ≤ 310000 := by simp only [List.length_cons] at tl; omega
      have hxs := sz x (by simp)
      have bb := B0.out.kept kept
      have q0 := bb.cell 0
      have q1 := bb.cell 1
      have q2 := bb.cell 2
      simp only [List.getElem?_toArray, List.getElem?_cons_succ, List.getElem?_cons_zero] at q0 q1 q2
      have zl : w.heap.size < wr.heap.size := bb.lt
      have zn : ¬ (w.heap.size = wr.heap.size) := by omega
      have OWN := Lib.hid own'
      have NMS := Lib.hid nms
      have SZ := Lib.hid sz
      have SET := Lib.hid set
      have FRA := Lib.hid fr
      have CA := kin_At D x _ wr (H.out.kept (Kept.trans K0.out kept))
      simp only [List.length_cons] at tl ⊢
      have hI1 : (rest.length : Int) < (rest.length : Int) + 1 := by omega
      have hI0 : (0 : Int) ≤ (rest.length : Int) := by omega
      have hcoN : rest.length ≤ co := by simp only [List.length_cons] at hco; omega
      have hcoI : (rest.length : Int) ≤ (co : Int) := by omega
      clear own own' fr nms sz set kept bb hcell hfroz hco
      cases ho : atO D x with
      | none =>
        rw [atI_none ho] at CA
        have FRS := Lib.hid (FR_skip' FRA.out (.inl (by unfold there; rw [ho]; simp)))
        have CA := Lib.hid CA
        clear ho hxs
        go_wp2_with fail
        refine CA.out.mono ?_
        rintro e w1 ⟨rfl, rfl⟩
        clear CA
        go_wp2_with fail
        go_roundg j
        case rel => exact ⟨rest, seen, ⟨Touch.own (S := fun _ => False) (Touch.of_kept ((Below.refl _ wr).alloc (Nat.le_refl _) _)) OWN.out (fun _ _ => id), FRS.out, NMS.out, by omega, fun s hs => SZ.out s (List.mem_cons_of_mem _ hs), SET.out.kept ((Below.refl _ wr).alloc (Nat.le_refl _) _), KE.out.alloc zs _⟩⟩
        case measure => omega
      | some ka =>
        have hth : there D x := by unfold there; rw [ho]; rfl
        rw [atI_some ho] at CA
        have CA := Lib.hid CA
        have hrun := SetR.run (SET.out.kept ((Below.refl _ wr).alloc (Nat.le_refl _) (.cells #[.string x, .string n, .string d] 33))) hxs HSZ.out.1 HSZ.out.2
        by_cases hin : x ∈ seen
        · rw [if_pos (by simpa using hin)] at hrun
          have FRS := Lib.hid (FR_skip' FRA.out (.inr hin))
          clear hin hth ho hxs
          go_wp2_with fail
          refine CA.out.mono ?_
          rintro e w1 ⟨rfl, rfl⟩
          clear CA
          go_wp2_with fail
          go_roundg j
          case rel => exact ⟨rest, seen, ⟨Touch.own (S := fun _ => False) (Touch.of_kept ((Below.refl _ wr).alloc (Nat.le_refl _) _)) OWN.out (fun _ _ => id), FRS.out, NMS.out, by omega, fun s hs => SZ.out s (List.mem_cons_of_mem _ hs), SET.out.kept ((Below.refl _ wr).alloc (Nat.le_refl _) _), KE.out.alloc zs _⟩⟩
          case measure => omega
        · rw [if_neg (by simpa using hin)] at hrun
          obtain ⟨t, ht, htn, hkl⟩ := atO_some ho
          obtain ⟨tb, tof, tc, ia, ic, fa, fc, ma, mc, hv, -, x1, -, x3, x4, -, hir, hil, hfr, hfl, -, -⟩ := ty_row (H.out.kept K0.out) ht
          simp only [Value.slice.injEq] at hv
          obtain ⟨rfl, -, rfl⟩ := hv
          obtain ⟨_, _, _, _, _, _, -, -, -, -, -, -, -, -, -, -, -, -, -, -, hsup, hisz, -⟩ := H.out.cells ht
          have hct := HCT.out t (List.mem_of_getElem? ht)
          have hfld := fldL_at ho ht
          have hifs := ifs_at ho ht
          have hspo := supO_at ho ht
          have hki : (ka : Int) < (D.length : Int) := by omega
          have hk0 : (0 : Int) ≤ (ka : Int) := by omega
          obtain ⟨kl, hkey⟩ := key_ref hxs HSZ.out.1 HSZ.out.2
          have HKEY := Lib.hid hkey
          have SET1 := Lib.hid (SET.out.kept ((Below.refl _ wr).alloc (Nat.le_refl _) (.cells #[.string x, .string n, .string d] 33)))
          have OWN1 := Lib.hid (Touch.own (S := fun _ => False) (Touch.of_kept ((Below.refl _ wr).alloc (Nat.le_refl _) (.cells #[.string x, .string n, .string d] 33))) OWN.out (fun _ _ => id))
          have KE1 := Lib.hid (KE.out.alloc zs (.cells #[.string x, .string n, .string d] 33))
          have NMS' := Lib.hid (NMS.out.snoc hth hin)
          have HSUP := Lib.hid hsup
          have HISZ := Lib.hid hisz
          have HIR := Lib.hid hir
          have HFRD := Lib.hid hfr
          have X1 := Lib.hid x1
          have X3 := Lib.hid x3
          have X4 := Lib.hid x4
          have HFLD := Lib.hid hfld
          have HIFS := Lib.hid hifs
          have HSPO := Lib.hid hspo
          have HTH := Lib.hid hth
          have HIN := Lib.hid hin
          clear ht htn ho hfld hifs hspo hkey hsup hisz hir hfr x1 x3 x4 hth hin hxs
          go_upto_region 6 with fail
          go_wp2_with fail
          refine CA.out.mono ?_
          rintro e w1 ⟨rfl, rfl⟩
          clear CA
          go_upto_region 10 with (at_mapUpdate; clear hrun; refine wpl_mapset _ rfl _ _ _ 50 rfl SET1.out law_ref Try.underlying50 (by unfold maxLen; omega) rfl x rfl (.int .i64 1) rfl HKEY.out (fun a ha => refK_inj n d a x ha) ?_; intro w2 hm2 hg2; have T2 := Lib.hid (Touch.of_grown (S := fun b => b = w.heap.size + 1 + 1) hg2 (fun k hk => by simpa using hk.symm)); have OWN2 := Lib.hid (Touch.own T2.out OWN1.out (fun k hk e => SET1.out.own OWN1.out k hk e)); have SET2 := Lib.hid (SetR.put hm2); clear hm2 hg2)
          have k2 : Kept W w2 := Below.trans KE1.out (T2.out.below (fun b hb => by omega) KE1.out.size)
          have bb := B0.out.kept k2
          have q0 := bb.cell 0
          have q1 := bb.cell 1
          have q2 := bb.cell 2
          simp only [List.getElem?_toArray, List.getElem?_cons_succ, List.getElem?_cons_zero] at q0 q1 q2
          have x4 := Kept.cell k2 X4.out
          have K2 := Lib.hid k2
          have CI := Lib.hid (find_in t.fields c n d _ w2.drew _ rfl (HFRD.out.kept (Kept.trans k2 (Below.refl _ _).drew)) hfl)
          clear bb k2
          go_region_held2 (fun w' => w'.cell? ⟨tb, tof + ka * 6 + 4, none⟩ = some (.slice fa t.fields.length fc) ∧ w'.cell? ⟨w.heap.size, 0, none⟩ = some (.string c) ∧ w'.cell? ⟨w.heap.size, 1, none⟩ = some (.string n) ∧ w'.cell? ⟨w.heap.size, 2, none⟩ = some (.string d)) (go_keep)
            ((go_at_call 19; refine CI.out.mono ?_; rintro e w3 ⟨rfl, k3⟩; have x43 := Kept.cell k3 x4; have q03 := Kept.cell k3 q0; have q13 := Kept.cell k3 q1; have q23 := Kept.cell k3 q2; have K3 := Lib.hid (Kept.trans (Below.refl w2.heap.size w2).drew k3); clear k3))
          have k3 := Kept.trans K2.out K3.out
          have K03 := Lib.hid k3
          have z3 := k3.size
          have SET3 := Lib.hid (SET2.out.kept K3.out)
          have OWN3 := Lib.hid (Touch.own (S := fun _ => False) (Touch.of_kept K3.out) OWN2.out (fun _ _ => id))
          have x1 := Kept.cell k3 X1.out
          clear x4 x43 q0 q1 q2 q03 q13 q23
          cases hm : memAt t.fields n d with
          | some i =>
            rw [memI_some hm]
            have hr : R = some (x, i) := FR_hit' FRA.out HTH.out HIN.out (by rw [HFLD.out]; exact hm)
            have hf : fieldR D c n d = ((x, i), ⟨#[]⟩) := by rw [HRES.out, hr]; rfl
            have HF := Lib.hid (congrArg resV hf)
            have PF := fnd_put (B1.out.kept k3)
            have KP := Lib.hid (PF.keeps (Kept.trans K0.out k3) (Nat.le_succ _))
            have g0 := PF.g0
            have g1 := PF.g1
            have h0 := PF.h0
            have h1 := PF.h1
            have zr := PF.lt
            have PF := Lib.hid PF
            have E0 := Lib.hid (PF.out.e0 (.string x))
            have E1 := Lib.hid (PF.out.e1 (.string x) (.int .i64 i))
            have PE := Lib.hid (fnd_put (PF.out.set (.string x) (.int .i64 i)))
            clear hr hf hm k3
            go_wp2_with fail
            refine bodyPost_ret (v := resV (fieldR D c n d)) (by rw [HF.out]; simp [results, Try.results9, go_sem, E0.out, E1.out, PE.out.g0, PE.out.g1, resV, fldRes, f0, nfB]) rfl ⟨rfl, ?_⟩
            exact KP.out _ _
          | none =>
            rw [memI_none hm]
            have FRS := Lib.hid (FR_on' FRA.out HTH.out HIN.out (by rw [HFLD.out]; exact hm))
            obtain ⟨ln, hln⟩ : ∃ ln, ln = t.interfaces.length := ⟨_, rfl⟩
            rw [← hln] at hct
            have HLN := Lib.hid hln
            have OWN3' := Lib.hid (OWN3.out)
            clear hm k3 hln
            go_wp2_with (at_builtin; refine wpl_pushH _ elem_str rfl _ _ rfl W.heap.size _ rest.length _ rfl OWN3.out [.string t.super] _ w3.heap.size rfl rfl rfl (one_S t.super) (by omega) (by omega) z3 ?_; intro v4 w4 ho4 hg4 hk4 hb4; have OWN4 := Lib.hid ho4; have HB4 := Lib.hid hb4; have k4 : Kept W w4 := Below.trans K03.out hb4; have K4 := Lib.hid k4; have SET4 := Lib.hid (SET3.out.touch (Touch.of_grown (S := fun b => (Value.slice (some ⟨gb, 0, none⟩) rest.length co).ownBlock = some b) hg4 (fun k hk => hk)) (fun hb => SET3.out.own OWN3.out _ hb rfl)); have y3 := Kept.cell k4 X3.out; have z4 := k4.size; obtain ⟨a4, c4, rfl, hc41, hc42⟩ := own_slice ho4; clear ho4 hg4 hk4 hb4 k4)
            rw [← HLN.out] at y3
            obtain ⟨v7, hv7⟩ : ∃ v7, v7 = Value.slice a4 (rest.length + 1) c4 := ⟨_, rfl⟩
            go_loopw [7, 12] (fun s7 s12 wi => ∃ j : Nat, j ≤ ln ∧ s12 = .int .i64 ((j : Int) - 1) ∧ wi.ownsRow W.heap.size 9 1 s7 (rest.length + 1 + (ln - j)) ((rest.reverse ++ [t.super] ++ (t.interfaces.drop j).reverse).flatMap encS) ∧ Kept W wi ∧ SetR n d wi (w.heap.size + 1 + 1) (seen.length + 1) (fun y => decide (y ∈ seen ++ [x]))) (fun _ s12 _ => (intOf s12 + 1).toNat)
            case atStart => exact ⟨ln, by omega, by rw [HLN.out], by rw [Nat.sub_self, List.drop_of_length_le (by have := HLN.out; omega)]; simpa [encS] using OWN4.out, K4.out, SET4.out⟩
            case round =>
              obtain ⟨i, hi, rfl, hoi, hki', hsi⟩ := hrel
              rename World => wi
              obtain ⟨ai, ci, rfl, hci1, hci2⟩ := own_slice hoi
              have OWI := Lib.hid hoi
              have SEI := Lib.hid hsi
              have KI := Lib.hid hki'
              have zi := hki'.size
              have y3i := Kept.cell hki' X3.out
              rw [← HLN.out] at y3i
              have hir := HIR.out.kept hki'
              rw [← HLN.out] at hir
              clear hoi hsi hki'
              cases i with
              | zero =>
                clear hir y3i
                have hneg : ¬ ((0 : Int) ≤ ((0 : Nat) : Int) - 1) := by omega
                go_wp2_with fail
                go_roundg j
                case rel =>
                  refine ⟨ifs D x ++ (supO D x :: rest), seen ++ [x], ⟨?_, FRS.out, NMS'.out, ?_, ?_, ?_, KI.out⟩⟩
                  · have h0 := OWI.out
                    rw [HIFS.out, HSPO.out]
                    have e1 : (t.interfaces ++ t.super :: rest).length = rest.length + 1 + (ln - 0) := by have := HLN.out; simp; omega
                    have e2 : (t.interfaces ++ t.super :: rest).reverse = rest.reverse ++ [t.super] ++ (t.interfaces.drop 0).reverse := by simp
                    rw [e1, e2]
                    exact h0
                  · rw [HIFS.out]
                    have := HLN.out
                    simp only [List.length_append, List.length_cons, List.length_nil]
                    omega
                  · intro s hs
                    rw [HIFS.out, HSPO.out] at hs
                    rcases List.mem_append.1 hs with h1 | h1
                    · exact HISZ.out s h1
                    · rcases List.mem_cons.1 h1 with h2 | h2
                      · rw [h2]; exact HSUP.out
                      · exact SZ.out s (List.mem_cons_of_mem _ h2)
                  · simpa using SEI.out
                case measure => omega
              | succ i =>
                obtain ⟨y, hy⟩ : ∃ y, t.interfaces[i]? = some y := ⟨_, List.getElem?_eq_getElem (by have := HLN.out; omega)⟩
                obtain ⟨yb, yo, yc, hv, ys⟩ := str_cell HLN.out hir hy
                simp only [Value.slice.injEq] at hv
                obtain ⟨rfl, -, rfl⟩ := hv
                have hdr : (t.interfaces.drop i).reverse = (t.interfaces.drop (i + 1)).reverse ++ [y] := by
                  rw [List.drop_eq_getElem_cons (List.getElem?_eq_some_iff.1 hy).1, (List.getElem?_eq_some_iff.1 hy).2, List.reverse_cons]
                have hii : (i : Int) < (ln : Int) := by omega
                have hi0 : (0 : Int) ≤ (i : Int) := by omega
                have hsub : ((i + 1 : Nat) : Int) - 1 = (i : Int) := by omega
                have HDR := Lib.hid hdr
                clear hir hy hdr
                simp only [hsub]
                obtain ⟨m, hm⟩ : ∃ m, m = rest.length + 1 + (ln - (i + 1)) := ⟨_, rfl⟩
                have hm' : rest.length + 1 + (ln - i) = m + 1 := by omega
                have hml : m ≤ 320000 := by omega
                rw [← hm] at OWI hci1 ⊢
                have HM' := Lib.hid hm'
                clear hm hm'
                go_wp2_with (at_builtin; refine wpl_pushH _ elem_str rfl _ _ rfl W.heap.size _ m _ rfl OWI.out [.string y] _ wi.heap.size rfl rfl rfl (one_S y) (by omega) (by omega) zi ?_; intro v5 w5 ho5 hg5 hk5 hb5; have OW5 := Lib.hid ho5; have HB5 := Lib.hid hb5; have SE5 := Lib.hid (SEI.out.touch (Touch.of_grown (S := fun b => (Value.slice ai m ci).ownBlock = some b) hg5 (fun k hk => hk)) (fun hb => SEI.out.own OWI.out _ hb rfl)); clear ho5 hg5 hk5 hb5)
                go_roundw
                case rel => exact ⟨i, by omega, rfl, by rw [HM'.out, HDR.out]; simpa [encS] using OW5.out, Below.trans KI.out HB5.out, SE5.out⟩
                case measure => simp [intOf] <;> omega
end Go.Proofs.Ytccbdnlknijcbaa
