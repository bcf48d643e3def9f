/-
  Package check by contract: head.
-/
import Derived.Test.YtcklmhbcjgiplaaCk6
import Derived.Test.YtcklmhbcjgiplaaCkB
namespace Go.Proofs.Ytcklmhbcjgiplaa
set_option linter.unusedVariables false
set_option linter.unusedSimpArgs false
open Go.RowKit
open Go.Maps Go.WideMaps
set_option maxRecDepth 100000

theorem ba_beq (a b : ByteArray) : (a == b) = (a.data == b.data) := rfl
instance lawfulBA : LawfulBEq ByteArray where
  eq_of_beq {a b} h := by
    rw [ba_beq] at h
    exact ByteArray.ext (eq_of_beq h)
  rfl {a} := by rw [ba_beq]; exact beq_self_eq_true _
theorem headF_3 (ac : Int) (s : ByteArray) : headF ac s = head3F ac true s := by
  unfold headF head3F
  rw [all_and]
  simp
theorem headF_0 (ac : Int) : headF ac ⟨#[]⟩ = head3F ac false ⟨#[]⟩ := by
  unfold headF head3F
  rw [all_and, show (((⟨#[]⟩ : ByteArray).toList == objS.toList) = false) by rw [ByteArray.toList_eq, ByteArray.toList_eq]; rfl]
  simp
/-- Block b is a map that has each text of a list once. -/
def SeenS (w : World) (b n : Nat) (l : List ByteArray) : Prop := Dict Try.prog 9 Value.string w b n (fun s => if l.contains s = true then some (.int .i64 1) else none)
theorem SeenS.put {w : World} {b n : Nat} {l : List ByteArray} {s : ByteArray} (h : Dict Try.prog 9 Value.string w b n (fun x => if x = s then some (.int .i64 1) else if l.contains x = true then some (.int .i64 1) else none)) : SeenS w b n (l ++ [s]) :=
  Dict.congr h fun a _ => by
    by_cases e : a = s
    · subst e
      simp
    · rw [if_neg e]
      simp [e]
def FaceI (pool : List ConstC) (ifs : List Int) (R : Int) (bm k : Nat) (E : Int) (w : World) : Prop :=
  (E = 0 → SeenS w bm k ((ifs.take k).map fun n => (nameC pool n).1) ∧ R = facesE pool ((ifs.take k).map fun n => (nameC pool n).1) (ifs.drop k)) ∧ (E ≠ 0 → R = E)
def headP (pool : List ConstC) (ac th su : Int) (ifs : List Int) : Int :=
  if (getC pool th 7).isSome = false then 20
  else if (getC pool su 7).isSome = false then 20
  else if headF ac (nameC pool su).1 = true then 23
  else facesE pool [] ifs
theorem rows_rd {w : World} {g n : Nat} {ty : TypeId} {cs : Array Value} {L : List RuleC} (h : Blk w g ty cs) (hn : n ≤ 9223372036854775807) (hl : L.length = n) (hc : L.flatMap encR = cs.toList) : Rd w 2 (.slice (some ⟨g, 0, none⟩) n n) L.length (L.flatMap encR) := by
  rw [hl, hc]
  refine Rd.mk_ ?_ (Nat.le_refl _) hn ?_
  · rw [← hc, flat_length encR 2 (fun _ => rfl), hl]
  · intro j u hu
    rw [Nat.zero_add]
    exact (h.cell j).trans (by simpa using hu)
def bsH (t u f : Bool) : Nat → Bool
  | 0 => !t
  | 1 => !u
  | _ => f
theorem firstH (t u f : Bool) (caps : Array Value) (f1 f2 f3 : Nat) : firstE (bsH t u f) 0 [⟨20, f1, #[]⟩, ⟨20, f2, #[]⟩, ⟨23, f3, caps⟩] = if t = false then 20 else if u = false then 20 else if f = true then 23 else 0 := by
  cases t <;> cases u <;> cases f <;> rfl
theorem facesE_cons (pool : List ConstC) (seen : List ByteArray) (n : Int) (l : List Int) : facesE pool seen (n :: l) = if (nameC pool n).2 = false then 20 else if seen.contains (nameC pool n).1 = true then 24 else facesE pool (seen ++ [(nameC pool n).1]) l := rfl
theorem fnH (gk gs : Nat) : ∀ r ∈ ([⟨20, 49, #[]⟩, ⟨20, 50, #[]⟩, ⟨23, 51, #[.pointer (some ⟨gk, 0, none⟩), .pointer (some ⟨gs, 0, none⟩)]⟩] : List RuleC), ∀ args W, Sem.run Try.prog (callFunc r.f args) W = .ok (.enter r.f args) W := by
  intro r hr
  simp only [List.mem_cons, List.mem_singleton, List.not_mem_nil, or_false] at hr
  rcases hr with rfl | rfl | rfl
  · exact (fun args W => call_enter Try.func49 (by kernel_rfl) rfl args W)
  · exact (fun args W => call_enter Try.func50 (by kernel_rfl) rfl args W)
  · exact (fun args W => call_enter Try.func51 (by kernel_rfl) rfl args W)
set_option maxHeartbeats 8000000 in
theorem check_head (pool : List ConstC) (mi ma ac th su : Int) (vP vI vF vM : Value) (ifs : List Int) (w : World) (hr : Rd w 5 vP pool.length (pool.flatMap encC)) (hi : Rd w 1 vI ifs.length (ifs.flatMap encI)) (hs : ∀ k ∈ pool, k.text.size ≤ maxLen) (hn : ifs.length ≤ 64) :
    Calls Try.prog 30 #[.agg #[.int .i64 mi, .int .i64 ma, vP, .int .i64 ac, .int .i64 th, .int .i64 su, vI, vF, vM]] w (IntG (headP pool ac th su ifs) w) := by
  obtain ⟨nI, hnI⟩ : ∃ n, n = ifs.length := ⟨_, rfl⟩
  have hi0 := hi
  rw [← hnI] at hi0
  obtain ⟨_, aI, kI, rfl, -, -, -⟩ := id hi0
  have HRD := Lib.hid hr
  have HSZ := Lib.hid hs
  have HII := Lib.hid hi0
  have N1 := Lib.hid hnI
  have hn64 : nI ≤ 64 := by omega
  have hk : Kept w (w.alloc (.cells #[.int .i64 mi, .int .i64 ma, vP, .int .i64 ac, .int .i64 th, .int .i64 su, .slice aI nI kI, vF, vM] 74)) := (Below.refl _ _).alloc (Nat.le_refl _) _
  have HK := Lib.hid hk
  have HB := Lib.hid (Blk.new w 74 #[.int .i64 mi, .int .i64 ma, vP, .int .i64 ac, .int .i64 th, .int .i64 su, .slice aI nI kI, vF, vM])
  obtain ⟨R, hR⟩ : ∃ R, R = headP pool ac th su ifs := ⟨_, rfl⟩
  rw [← hR]
  unfold headP at hR
  obtain ⟨t, ht⟩ : ∃ b, b = (getC pool th 7).isSome := ⟨_, rfl⟩
  obtain ⟨u, hu⟩ : ∃ b, b = (getC pool su 7).isSome := ⟨_, rfl⟩
  obtain ⟨s, hs0⟩ : ∃ b, b = (nameC pool su).1 := ⟨_, rfl⟩
  obtain ⟨kn, hkn⟩ : ∃ b, b = (nameC pool su).2 := ⟨_, rfl⟩
  obtain ⟨f, hf⟩ : ∃ b, b = head3F ac kn s := ⟨_, rfl⟩
  have hfe : headF ac s = f := by
    rw [hf]
    cases kn with
    | true => exact headF_3 ac s
    | false => rw [hs0.trans (nameC_no hkn.symm)]; exact headF_0 ac
  rw [← ht, ← hu, ← hs0, hfe] at hR
  have C := check_name pool mi ma ac th su vP (.slice aI nI kI) vF vM su _ (hr.kept hk)
  unfold TextG at C
  rw [← hs0, ← hkn] at C
  have HR := Lib.hid hR
  have HTT := Lib.hid ht
  have HUU := Lib.hid hu
  have HFF := Lib.hid hf
  clear hr hi hi0 hs hn hk hR ht hu hs0 hkn hf hfe hnI
  go_enter Try.func30, Try.ntmps30
  go_upto_region 1 with fail
  generalize (w.alloc (.cells #[.int .i64 mi, .int .i64 ma, vP, .int .i64 ac, .int .i64 th, .int .i64 su, .slice aI nI kI, vF, vM] 74)) = W at *
  have c0 := HB.out.cell 0
  have c1 := HB.out.cell 1
  have c2 := HB.out.cell 2
  have c3 := HB.out.cell 3
  have c4 := HB.out.cell 4
  have c5 := HB.out.cell 5
  have c6 := HB.out.cell 6
  have c7 := HB.out.cell 7
  have c8 := HB.out.cell 8
  simp only [List.getElem?_toArray, List.getElem?_cons_succ, List.getElem?_cons_zero] at c0 c1 c2 c3 c4 c5 c6 c7 c8
  go_wp2_with fail
  refine C.mono ?_
  rintro e w1 ⟨rfl, hk1⟩
  have K1 := Lib.hid (Kept.trans HK.out hk1)
  have HB1 := Lib.hid (HB.out.kept hk1)
  clear hk1 C
  go_upto_region 2 with fail
  obtain ⟨gs, hgs⟩ : ∃ g, g = w1.heap.size := ⟨_, rfl⟩
  obtain ⟨gk, hgk⟩ : ∃ g, g = w1.heap.size + 1 := ⟨_, rfl⟩
  have hk2 : Kept w1 ((w1.alloc (.cells #[.string s] 9)).alloc (.cells #[.bool kn] 4)) := ((Below.refl _ _).alloc (Nat.le_refl _) _).alloc (by simp) _
  have HGS : Hid (Blk ((w1.alloc (.cells #[.string s] 9)).alloc (.cells #[.bool kn] 4)) gs 9 #[.string s]) := Lib.hid (hgs ▸ (Blk.new w1 9 #[.string s]).alloc _)
  have HGK : Hid (Blk ((w1.alloc (.cells #[.string s] 9)).alloc (.cells #[.bool kn] 4)) gk 4 #[.bool kn]) := Lib.hid (heap_new_at' _ _ (by rw [hgk]; simp))
  have K2 := Lib.hid (Kept.trans K1.out hk2)
  have HB2 := Lib.hid (HB1.out.kept hk2)
  rw [← hgk, ← hgs]
  clear hk2 hgk
  generalize ((w1.alloc (.cells #[.string s] 9)).alloc (.cells #[.bool kn] 4)) = w2 at *
  clear hgs
  obtain ⟨gr, hgr⟩ : ∃ g, g = w2.heap.size := ⟨_, rfl⟩
  obtain ⟨w3, hw3⟩ : ∃ w3, w3 = w2.alloc (.cells #[.int .i64 20, .func (.func 49) #[] #[], .int .i64 20, .func (.func 50) #[] #[], .int .i64 23, .func (.func 51) #[] #[.pointer (some ⟨gk, 0, none⟩), .pointer (some ⟨gs, 0, none⟩)]] 93) := ⟨_, rfl⟩
  have hk3 : Kept w2 w3 := hw3 ▸ (Below.refl _ _).alloc (Nat.le_refl _) _
  have hblk : Blk w3 gr 93 #[.int .i64 20, .func (.func 49) #[] #[], .int .i64 20, .func (.func 50) #[] #[], .int .i64 23, .func (.func 51) #[] #[.pointer (some ⟨gk, 0, none⟩), .pointer (some ⟨gs, 0, none⟩)]] := by rw [hw3, hgr]; exact Blk.new _ _ _
  have HB3 := Lib.hid (HB2.out.kept hk3)
  have K3 := Lib.hid (Kept.trans K2.out hk3)
  have HGS3 := Lib.hid (HGS.out.kept hk3)
  have HGK3 := Lib.hid (HGK.out.kept hk3)
  have C := check_firstB (.int .i64 mi) (.int .i64 ma) vP (.int .i64 ac) (.int .i64 th) (.int .i64 su) (.slice aI nI kI) vF vM [⟨20, 49, #[]⟩, ⟨20, 50, #[]⟩, ⟨23, 51, #[.pointer (some ⟨gk, 0, none⟩), .pointer (some ⟨gs, 0, none⟩)]⟩] (.slice (some ⟨gr, 0, none⟩) 3 3) (bsH t u f) (fun _ X => Kept w3 X) (fun _ => False) w3
    (fun X hX => rows_rd (hblk.touch hX id) (by omega) rfl rfl)
    ⟨fnH gk gs, fun _ h => h.elim, fun _ _ _ h1 h2 => Kept.trans h1 h2, fun k r X hr _ hX _ => by
      rcases k with _ | _ | _ | k
      · simp only [List.getElem?_cons_zero, Option.some.injEq] at hr
        subst hr
        refine Calls.mono (head_1 pool mi ma ac th su vP (.slice aI nI kI) vF vM X (HRD.out.kept (Kept.trans K3.out hX))) ?_
        rintro e w' ⟨he, hk⟩
        refine ⟨?_, Kept.trans hX hk, Touch.of_kept hk⟩
        rw [he, ← HTT.out]
        rfl
      · simp only [List.getElem?_cons_succ, List.getElem?_cons_zero, Option.some.injEq] at hr
        subst hr
        refine Calls.mono (head_2 pool mi ma ac th su vP (.slice aI nI kI) vF vM X (HRD.out.kept (Kept.trans K3.out hX))) ?_
        rintro e w' ⟨he, hk⟩
        refine ⟨?_, Kept.trans hX hk, Touch.of_kept hk⟩
        rw [he, ← HUU.out]
        rfl
      · simp only [List.getElem?_cons_succ, List.getElem?_cons_zero, Option.some.injEq] at hr
        subst hr
        refine Calls.mono (head_3 mi ma ac th su vP (.slice aI nI kI) vF vM kn s gk gs X (HGK3.out.kept hX) (HGS3.out.kept hX)) ?_
        rintro e w' ⟨he, hk⟩
        refine ⟨?_, Kept.trans hX hk, Touch.of_kept hk⟩
        rw [he, ← HFF.out]
        rfl
      · simp at hr⟩ (Below.refl _ _)
  unfold FirstG at C
  rw [firstH] at C
  have HW3 := Lib.hid hw3
  have HGR := Lib.hid hgr
  obtain ⟨E, hE⟩ : ∃ E : Int, E = if t = false then 20 else if u = false then 20 else if f = true then 23 else 0 := ⟨_, rfl⟩
  rw [← hE] at C
  have HRE := Lib.hid (show (E = 0 → R = facesE pool [] ifs) ∧ (E ≠ 0 → R = E) by
    rw [hE, HR.out]
    cases t <;> cases u <;> cases f <;> simp)
  clear hk3 hblk hw3 hgr hE
  have hw3' := HW3.out
  have d0 := HB2.out.cell 0
  have d1 := HB2.out.cell 1
  have d2 := HB2.out.cell 2
  have d3 := HB2.out.cell 3
  have d4 := HB2.out.cell 4
  have d5 := HB2.out.cell 5
  have d6 := HB2.out.cell 6
  have d7 := HB2.out.cell 7
  have d8 := HB2.out.cell 8
  simp only [List.getElem?_toArray, List.getElem?_cons_succ, List.getElem?_cons_zero] at d0 d1 d2 d3 d4 d5 d6 d7 d8
  go_upto_region 3 with (rw [← HGR.out, ← HW3.out]; refine C.mono ?_; rintro e w4 ⟨rfl, -, hk4⟩)
  have K4 := Lib.hid (Kept.trans K3.out (hk4.below (fun _ h => h.elim) (Nat.le_refl _) : Kept w3 w4))
  have HB4 := Lib.hid (HB3.out.kept (hk4.below (fun _ h => h.elim) (Nat.le_refl _)))
  clear hk4 C hw3'
  have hmm := @run_makeMap Try.prog
  go_upto_region 4 with fail
  clear hmm
  have hd : SeenS (w4.alloc (.map #[] 0)) w4.heap.size 0 [] := (Dict.made Try.prog 9 Value.string w4).congr (fun a _ => by simp)
  have hk5 : Kept w4 (w4.alloc (.map #[] 0)) := (Below.refl _ _).alloc (Nat.le_refl _) _
  obtain ⟨bm, hbm⟩ : ∃ b, b = w4.heap.size := ⟨_, rfl⟩
  have K5 := Lib.hid (Kept.trans K4.out hk5)
  have HB5 := Lib.hid (HB4.out.kept hk5)
  have HBW := Lib.hid (show w.heap.size < bm by rw [hbm]; exact HB4.out.lt)
  rw [← hbm] at hd ⊢
  have HD := Lib.hid hd
  clear hd hk5 hbm
  generalize (w4.alloc (.map #[] 0)) = w5 at *
  have d0 := HB5.out.cell 0
  have d1 := HB5.out.cell 1
  have d2 := HB5.out.cell 2
  have d3 := HB5.out.cell 3
  have d4 := HB5.out.cell 4
  have d5 := HB5.out.cell 5
  have d6 := HB5.out.cell 6
  have d7 := HB5.out.cell 7
  have d8 := HB5.out.cell 8
  simp only [List.getElem?_toArray, List.getElem?_cons_succ, List.getElem?_cons_zero] at d0 d1 d2 d3 d4 d5 d6 d7 d8
  go_wp2_with fail
  go_loopw [5, 31] (fun s5 s31 wr => ∃ (k : Nat) (E : Int), k ≤ nI ∧ s31 = .int .i64 k ∧ s5 = .int .i64 E ∧ Kept w wr ∧ Blk wr w.heap.size 74 #[.int .i64 mi, .int .i64 ma, vP, .int .i64 ac, .int .i64 th, .int .i64 su, .slice aI nI kI, vF, vM] ∧ FaceI pool ifs R bm k E wr) (fun _ s31 _ => nI - (intOf s31).toNat)
  case atStart => exact ⟨0, E, by omega, rfl, rfl, K5.out, HB5.out, ⟨fun h => ⟨HD.out, by rw [HRE.out.1 h]; rfl⟩, HRE.out.2⟩⟩
  case round =>
    obtain ⟨k, E, hk, rfl, rfl, hkw, hb, hfi⟩ := hrel
    have KW := Lib.hid hkw
    have HB6 := Lib.hid hb
    have HFI := Lib.hid hfi
    clear hkw hb hfi HRE HB HB1 HB2 HB3 HB4 HB5 K1 K2 K3 K4 K5 HD HGS HGK HGS3 HGK3 HW3 HGR HTT HUU HFF HR
    by_cases hlt : k < nI
    rotate_left
    · obtain rfl : k = nI := by omega
      have HE := Lib.hid (show R = E by
        by_cases h0 : E = 0
        · obtain ⟨-, h⟩ := HFI.out.1 h0
          rw [h, List.drop_of_length_le (by rw [← N1.out]; exact Nat.le_refl _), h0]
          rfl
        · exact HFI.out.2 h0)
      go_wp2_with fail
      go_ret
      exact ⟨by rw [HE.out]; rfl, KW.out⟩
    obtain ⟨x, hx⟩ : ∃ x, ifs[k]? = some x := ⟨_, List.getElem?_eq_getElem (by have := N1.out; omega)⟩
    obtain ⟨b1, o1, d1, hv1, e0⟩ := iface_cells N1.out (HII.out.kept KW.out) hx
    simp only [Value.slice.injEq] at hv1
    obtain ⟨rfl, -, rfl⟩ := hv1
    have hkI : (k : Int) < (nI : Int) := by omega
    have h0I : (0 : Int) ≤ (k : Int) := by omega
    have HX := Lib.hid hx
    clear hx
    by_cases hE : E = 0
    rotate_left
    · have hne : (E != 0) = true := by simpa using hE
      have HE := Lib.hid (HFI.out.2 hE)
      clear hE
      go_wp2_with fail
      go_ret
      exact ⟨by rw [HE.out]; rfl, KW.out⟩
    subst hE
    obtain ⟨hd, hre⟩ := HFI.out.1 rfl
    obtain ⟨names, hnm⟩ : ∃ l, l = (ifs.take k).map (fun n => (nameC pool n).1) := ⟨_, rfl⟩
    rw [← hnm] at hd hre
    have hdc : ifs.drop k = x :: ifs.drop (k + 1) := by
      have hlt' : k < ifs.length := by have := N1.out; omega
      rw [List.drop_eq_getElem_cons hlt']
      congr 1
      exact (List.getElem?_eq_some_iff.1 HX.out).2
    rw [hdc, facesE_cons] at hre
    have C := check_name pool mi ma ac th su vP (.slice (some ⟨b1, o1, none⟩) nI kI) vF vM x wr (HRD.out.kept KW.out)
    unfold TextG at C
    have hz := nameC_size HSZ.out x
    obtain ⟨s1, hs1⟩ : ∃ s, s = (nameC pool x).1 := ⟨_, rfl⟩
    obtain ⟨ok, hok⟩ : ∃ s, s = (nameC pool x).2 := ⟨_, rfl⟩
    rw [← hs1] at hre hz
    rw [← hok] at hre
    rw [← hs1, ← hok] at C
    have HRE := Lib.hid hre
    have HNM := Lib.hid (show names ++ [s1] = (ifs.take (k + 1)).map (fun n => (nameC pool n).1) by rw [hnm, hs1, List.take_add_one, HX.out]; simp)
    have HKEY := Lib.hid (keyS hz)
    obtain ⟨lk, hkey⟩ := HKEY.out
    have HK2 := Lib.hid hkey
    have HD := Lib.hid hd
    clear hd hre hnm hdc hs1 hok hz hkey HFI HKEY
    have f0 := HB6.out.cell 0
    have f1 := HB6.out.cell 1
    have f2 := HB6.out.cell 2
    have f3 := HB6.out.cell 3
    have f4 := HB6.out.cell 4
    have f5 := HB6.out.cell 5
    have f6 := HB6.out.cell 6
    have f7 := HB6.out.cell 7
    have f8 := HB6.out.cell 8
    simp only [List.getElem?_toArray, List.getElem?_cons_succ, List.getElem?_cons_zero] at f0 f1 f2 f3 f4 f5 f6 f7 f8
    go_wp2_with fail
    refine C.mono ?_
    rintro e w6 ⟨rfl, hk6⟩
    have K6 := Lib.hid (Kept.trans KW.out hk6)
    have HB7 := Lib.hid (HB6.out.kept hk6)
    have HD6 := Lib.hid (Dict.kept HD.out hk6)
    have hbw := HBW.out
    clear hk6 C HD
    cases ok
    · obtain ⟨z, hz⟩ : ∃ z : Int, z = if names.contains s1 = true then 1 else 0 := ⟨_, rfl⟩
      have HV := Lib.hid (show ((if names.contains s1 = true then some (Value.int .i64 1) else none).getD (.int .i64 0)) = .int .i64 z by rw [hz]; split <;> rfl)
      have z0 : 0 ≤ z ∧ z ≤ 1 := by rw [hz]; split <;> omega
      have hzw : IntKind.i64.wrap (z + 1) = z + 1 := IntWalk.i64_in _ (by omega)
      clear hz z0
      go_wp2_with (first
        | (at_lookup; refine wpl_look _ rfl _ _ 95 rfl HD6.out lawS Try.underlying95 (zeroI _) rfl s1 rfl HK2.out (.int .i64 (z)) HV.out ?_)
        | (at_mapUpdate; refine wpl_mapset _ rfl _ _ _ 95 rfl HD6.out lawS Try.underlying95 (by unfold maxLen; omega) rfl s1 rfl (.int .i64 (z + 1)) rfl HK2.out (fun a ha => str_inj a _ ha) ?_; intro w7 hm7 hg7; have HD7 := Lib.hid hm7; have K7 := Lib.hid (Below.grown K6.out hg7 K6.out.size (fun b hb => by cases hb; exact Nat.le_of_lt hbw)); have HB8 := Lib.hid (HB7.out.touch (Touch.of_grown (S := fun b => b = bm) hg7 fun b hb => by cases hb; rfl) (by omega)); clear hm7 hg7))
      go_roundw
      case rel => exact ⟨k + 1, 20, by omega, by go_num, rfl, K7.out, HB8.out, ⟨fun h => absurd h (by decide), fun _ => HRE.out⟩⟩
      case measure => simp [intOf]; omega
    by_cases hin : names.contains s1 = true
    · have HV := Lib.hid (show ((if names.contains s1 = true then some (Value.int .i64 1) else none).getD (.int .i64 0)) = .int .i64 1 by rw [if_pos hin]; rfl)
      have HR2 := Lib.hid (show R = 24 by rw [HRE.out, if_neg (by decide), if_pos hin])
      clear hin
      go_wp2_with (first
        | (at_lookup; refine wpl_look _ rfl _ _ 95 rfl HD6.out lawS Try.underlying95 (zeroI _) rfl s1 rfl HK2.out (.int .i64 (1)) HV.out ?_)
        | (at_mapUpdate; refine wpl_mapset _ rfl _ _ _ 95 rfl HD6.out lawS Try.underlying95 (by unfold maxLen; omega) rfl s1 rfl (.int .i64 (2)) rfl HK2.out (fun a ha => str_inj a _ ha) ?_; intro w7 hm7 hg7; have HD7 := Lib.hid hm7; have K7 := Lib.hid (Below.grown K6.out hg7 K6.out.size (fun b hb => by cases hb; exact Nat.le_of_lt hbw)); have HB8 := Lib.hid (HB7.out.touch (Touch.of_grown (S := fun b => b = bm) hg7 fun b hb => by cases hb; rfl) (by omega)); clear hm7 hg7))
      go_roundw
      case rel => exact ⟨k + 1, 24, by omega, by go_num, rfl, K7.out, HB8.out, ⟨fun h => absurd h (by decide), fun _ => HR2.out⟩⟩
      case measure => simp [intOf]; omega
    · have HV := Lib.hid (show ((if names.contains s1 = true then some (Value.int .i64 1) else none).getD (.int .i64 0)) = .int .i64 0 by rw [if_neg hin]; rfl)
      have HR2 := Lib.hid (show R = facesE pool (names ++ [s1]) (ifs.drop (k + 1)) by rw [HRE.out, if_neg (by decide), if_neg hin])
      clear hin
      go_wp2_with (first
        | (at_lookup; refine wpl_look _ rfl _ _ 95 rfl HD6.out lawS Try.underlying95 (zeroI _) rfl s1 rfl HK2.out (.int .i64 (0)) HV.out ?_)
        | (at_mapUpdate; refine wpl_mapset _ rfl _ _ _ 95 rfl HD6.out lawS Try.underlying95 (by unfold maxLen; omega) rfl s1 rfl (.int .i64 (1)) rfl HK2.out (fun a ha => str_inj a _ ha) ?_; intro w7 hm7 hg7; have HD7 := Lib.hid hm7; have K7 := Lib.hid (Below.grown K6.out hg7 K6.out.size (fun b hb => by cases hb; exact Nat.le_of_lt hbw)); have HB8 := Lib.hid (HB7.out.touch (Touch.of_grown (S := fun b => b = bm) hg7 fun b hb => by cases hb; rfl) (by omega)); clear hm7 hg7))
      go_roundw
      case rel => exact ⟨k + 1, 0, by omega, by go_num, rfl, K7.out, HB8.out, ⟨fun _ => ⟨HNM.out ▸ SeenS.put HD7.out, by rw [HR2.out, HNM.out]⟩, fun h => absurd rfl h⟩⟩
      case measure => simp [intOf]; omega
end Go.Proofs.Ytcklmhbcjgiplaa
