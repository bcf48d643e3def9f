/-
  Package slots by contract: Place.
-/
import Derived.Test.YtjljfadfepidjaaSlotsR2
import Derived.DeepKeys4
namespace Go.Proofs.Ytjljfadfepidjaa
open Go.RowKit Go.Maps
set_option maxRecDepth 100000

/-- A slot as a map's key. -/
abbrev SK := ByteArray × Int
def slK (a : SK) : Value := .agg #[.string a.1, .int .i64 a.2]
theorem slK_inj (a b : SK) (h : slK a = slK b) : a = b := by
  simp only [slK, Value.agg.injEq] at h
  have h := congrArg Array.toList h
  simp at h
  exact Prod.ext h.1 h.2
/-- The first slot of a class and a place. -/
def plcO : List SV → SK → Option Nat
  | [], _ => none
  | x :: l, a => if (x.1, (x.2.1 : Int)) = a then some 0 else (plcO l a).map (· + 1)
theorem plcO_snoc : ∀ (l : List SV) (x : SV) (a : SK), plcO (l ++ [x]) a = (plcO l a).or (if (x.1, (x.2.1 : Int)) = a then some l.length else none)
  | [], x, a => by simp [plcO]
  | y :: l, x, a => by
    rw [List.cons_append, plcO, plcO, plcO_snoc l x a]
    by_cases h : (y.1, (y.2.1 : Int)) = a
    · simp [h]
    · rw [if_neg h, if_neg h]
      by_cases hx : (x.1, (x.2.1 : Int)) = a
      · rw [if_pos hx, if_pos hx]
        cases plcO l a <;> simp
      · rw [if_neg hx, if_neg hx]
        cases plcO l a <;> simp
def plcI (l : List SV) (a : SK) : Int := match plcO l a with
  | some i => i
  | none => -1
theorem laidS : laidOutB Try.prog = true := by kernel_rfl
theorem law_slot : Keyed Try.prog 33 := Keyed.of_law (deep_law_laid laidS (m := 2) (by omega) (of_decide_eq_true (by kernel_rfl)) (by kernel_rfl) (by rw [Try.underlying33]))
theorem lits_slot {a : SK} (hs : a.1.size ≤ maxLen) (k : Nat) (hi : -9223372036854775808 ≤ a.2 ∧ a.2 ≤ 9223372036854775807) : Try.prog.keyLits (k + 2) 33 [.string a.1, .int .i64 a.2] = some [.string a.1.data.toList, .int .i64 a.2] := by
  have cR : Try.prog.cellsOf 33 = 2 := by kernel_rfl
  have cS : Try.prog.cellsOf 9 = 1 := by kernel_rfl
  have cI : Try.prog.cellsOf 3 = 1 := by kernel_rfl
  simp [Program.keyLits, Try.underlying33, Try.underlying9, Try.underlying3, cR, cS, cI, hs, hi]
  have hw : (Lit.int IntKind.i64 a.2).wf = true := by
    have e1 : IntKind.i64.min = -9223372036854775808 := by decide
    have e2 : IntKind.i64.max = 9223372036854775807 := by decide
    simp [Lit.wf, e1, e2, hi]
  rw [if_pos hw]
  rfl
theorem key_slot {a : SK} (hs : a.1.size ≤ maxLen) (hi : -9223372036854775808 ≤ a.2 ∧ a.2 ≤ 9223372036854775807) : ∃ l, keyOf Try.prog 33 (slK a) = some l := by
  have hk : Try.prog.keyType 33 = true := by kernel_rfl
  have cR : Try.prog.cellsOf 33 = 2 := by kernel_rfl
  have hf : (slK a).formed Try.prog 33 = true := by simp [slK, Value.formed, Try.underlying33, cR]
  obtain ⟨k, hz⟩ : ∃ k, Try.prog.types.size + 1 = k + 2 := ⟨Try.prog.types.size - 1, by have : 1 ≤ Try.prog.types.size := of_decide_eq_true (by kernel_rfl); omega⟩
  refine ⟨.string (keyBytes [.string a.1.data.toList, .int .i64 a.2]), ?_⟩
  unfold keyOf
  rw [Try.underlying33]
  simp only [hk, hf, Bool.and_self, if_true, hz]
  show (Program.keyLits _ _ _ [Value.string a.1, Value.int .i64 a.2]).map _ = _
  rw [lits_slot hs k hi]
  rfl
theorem sl_cell {w : World} {l : List SV} {v : Value} {n : Nat} (hn : n = l.length) (h : Rd w 2 v n (l.flatMap encSl)) {k : Nat} {x : SV} (hs : l[k]? = some x) :
    ∃ b off c, v = .slice (some ⟨b, off, none⟩) n c ∧ w.cell? ⟨b, off + k * 2, none⟩ = some (.string x.1) ∧ w.cell? ⟨b, off + k * 2 + 1, none⟩ = some (.int .i64 x.2.1) := by
  have hk := (List.getElem?_eq_some_iff.1 hs).1
  rcases h.parts with ⟨h0, _⟩ | ⟨b, off, c, rfl, h0, h1, h2, hc⟩
  · omega
  · have g : ∀ f u, (encSl x)[f]? = some u → f < 2 → w.cell? ⟨b, off + (k * 2 + f), none⟩ = some u := fun f u hu hf => hc _ _ (by rw [flat_get encSl 2 (fun _ => rfl) l k f x hs hf]; exact hu)
    exact ⟨b, off, c, rfl, g 0 _ rfl (by omega), g 1 _ rfl (by omega)⟩
/-- The places that are kept so far. -/
def plcD (l : List SV) (a : SK) : Option Value := (plcO l a).map fun i => .int .i64 (i : Nat)
theorem instF_mem {c : ByteArray} : ∀ {l : List MemberV} {k : Nat} {x : SV}, x ∈ instF c l k → x.1 = c ∧ x.2.1 < k + l.length
  | [], _, _, h => by simp [instF] at h
  | m :: l, k, x, h => by
    unfold instF at h
    rcases List.mem_append.1 h with h | h
    · split at h
      · obtain rfl : x = (c, k, m.desc) := by simpa using h
        exact ⟨rfl, by simp⟩
      · simp at h
    · obtain ⟨h1, h2⟩ := instF_mem h
      exact ⟨h1, by simp only [List.length_cons]; omega⟩
theorem slot_mem {D : List TD} {s : ByteArray} {x : SV} (h : x ∈ slotL D s) : there D x.1 ∧ x.2.1 < (flds D x.1).length := by
  unfold slotL at h
  obtain ⟨c, hc, hx⟩ := List.mem_flatMap.1 h
  obtain ⟨h1, h2⟩ := instF_mem hx
  subst h1
  exact ⟨(chainL_nms D s).th _ (List.mem_reverse.1 hc), by omega⟩
theorem flds_len {D : List TD} (h : ∀ t ∈ D, t.fields.length ≤ 3000) (c : ByteArray) : (flds D c).length ≤ 3000 := by
  unfold flds
  cases ho : atO D c with
  | none => simp
  | some k =>
    obtain ⟨t, ht, _⟩ := atO_some ho
    simp only [ht, Option.map_some, Option.getD_some]
    exact h t (List.mem_of_getElem? ht)

set_option maxHeartbeats 4000000 in
theorem slots_Place (D : List TD) (s fc : ByteArray) (fi : Int) (v : Value) (w : World) (h : TyR w v D) (hs : s.size ≤ maxLen) (hct : ∀ t ∈ D, t.fields.length ≤ 3000) (hfc : fc.size ≤ maxLen) (hfi : -9223372036854775808 ≤ fi ∧ fi ≤ 9223372036854775807) :
    Calls Try.prog 13 #[v, .string s, .agg #[.string fc, .int .i64 fi]] w fun e w' => e = .returned (.int .i64 (plcI (slotL D s) (fc, fi))) ∧ Kept w w' := by
  have H := Lib.hid h
  obtain ⟨a, c, rfl, -, -⟩ := h.slice
  have hmm := @run_makeMap Try.prog
  have hlen := slot_len hct h.len s
  have HFI := Lib.hid hfi
  have hmem : ∀ x ∈ slotL D s, x.1.size ≤ maxLen ∧ -9223372036854775808 ≤ (x.2.1 : Int) ∧ (x.2.1 : Int) ≤ 9223372036854775807 := by
    intro x hx
    obtain ⟨h1, h2⟩ := slot_mem hx
    have := flds_len hct x.1
    exact ⟨h.size_of h1, by omega, by omega⟩
  have HMEM := Lib.hid hmem
  have HCT := Lib.hid hct
  obtain ⟨xs, hxs⟩ : ∃ xs, xs = slotL D s := ⟨_, rfl⟩
  have HXS := Lib.hid hxs
  rw [← hxs] at hlen HMEM ⊢
  have k0 : Kept w ((w.alloc (.cells #[.string fc, .int .i64 fi] 24)).alloc (.map #[] 0)) := ((Below.refl _ _).alloc (Nat.le_refl _) _).alloc (by simp) _
  have K0 := Lib.hid k0
  have d0 : Dict Try.prog 33 slK ((w.alloc (.cells #[.string fc, .int .i64 fi] 24)).alloc (.map #[] 0)) (w.heap.size + 1) 0 (plcD []) := by
    have := (Dict.made Try.prog 33 slK (w.alloc (.cells #[.string fc, .int .i64 fi] 24))).congr (g := plcD []) (fun a _ => rfl)
    simpa using this
  have D0 := Lib.hid d0
  have B0 := Lib.hid ((Blk.new w 24 #[.string fc, .int .i64 fi]).alloc (.map #[] 0))
  clear h hmem hxs k0 d0 hct hfi
  go_enter Try.func13, Try.ntmps13
  go_wp2_with fail
  generalize ((w.alloc (.cells #[.string fc, .int .i64 fi] 24)).alloc (.map #[] 0)) = W at *
  refine (slots_Layout D s _ W (H.out.kept K0.out) hs HCT.out).mono ?_
  rintro e w2 ⟨vl, rfl, ho, k2⟩
  rw [← HXS.out] at ho
  obtain ⟨al, cl, rfl, hcl1, hcl2⟩ := own_slice ho
  obtain ⟨N, hN⟩ : ∃ N, N = xs.length := ⟨_, rfl⟩
  rw [← hN] at ho hcl1 hlen ⊢
  have HN := Lib.hid hN
  have HO := Lib.hid ho
  have K2 := Lib.hid k2
  have D2 := Lib.hid (D0.out.kept k2)
  have B2 := Lib.hid (B0.out.kept k2)
  clear ho k2 hN
  go_wp2_with fail
  go_loopw [19] (fun s19 wr => ∃ k : Nat, k ≤ N ∧ s19 = .int .i64 k ∧ Dict Try.prog 33 slK wr (w.heap.size + 1) k (plcD (xs.take k)) ∧ Touch (fun b => b = w.heap.size + 1) w2 wr) (fun s19 _ => N - (intOf s19).toNat)
  case atStart => exact ⟨0, by omega, rfl, D2.out, Touch.refl _ _⟩
  case round =>
    obtain ⟨k, hk, rfl, hd, ht⟩ := hrel
    rename World => wr
    have HD := Lib.hid hd
    have HT := Lib.hid ht
    have RO := Lib.hid ((Rd.of_own (Touch.own ht HO.out (fun b hb e => D2.out.own HO.out b hb e))))
    have BF := B2.out.touch ht (fun e => D2.out.blk B2.out e.symm)
    have f0 := BF.cell 0
    have f1 := BF.cell 1
    simp only [List.getElem?_toArray, List.getElem?_cons_succ, List.getElem?_cons_zero] at f0 f1
    clear hd ht BF
    by_cases hlt : k < N
    · obtain ⟨x, hx⟩ : ∃ x, xs[k]? = some x := ⟨_, List.getElem?_eq_getElem (by have := HN.out; omega)⟩
      obtain ⟨xb, xo, xc, hv, x0, x1⟩ := sl_cell HN.out RO.out hx
      simp only [Value.slice.injEq] at hv
      obtain ⟨rfl, -, rfl⟩ := hv
      obtain ⟨hm1, hm2⟩ := HMEM.out x (List.mem_of_getElem? hx)
      obtain ⟨kl, hkey⟩ := key_slot (a := (x.1, (x.2.1 : Int))) hm1 hm2
      have hnx : plcD (xs.take (k + 1)) = fun a => if a = (x.1, (x.2.1 : Int)) then ((plcD (xs.take k) a).or (some (.int .i64 k))) else plcD (xs.take k) a := by
        funext a
        unfold plcD
        rw [List.take_add_one, hx]
        simp only [Option.toList]
        rw [plcO_snoc, List.length_take, Nat.min_eq_left (by have := HN.out; omega)]
        by_cases ha : (x.1, (x.2.1 : Int)) = a
        · rw [if_pos ha, if_pos ha.symm]
          cases plcO (xs.take k) a <;> rfl
        · rw [if_neg ha, if_neg (fun e => ha e.symm)]
          cases plcO (xs.take k) a <;> rfl
      have HNX := Lib.hid hnx
      have HKEY := Lib.hid hkey
      have DA := Lib.hid (HD.out.kept ((Below.refl _ wr).alloc (Nat.le_refl _) (.cells #[.string x.1, .int .i64 x.2.1] 33)))
      have TA := Lib.hid (HT.out.alloc (.cells #[.string x.1, .int .i64 x.2.1] 33))
      clear hm1 hm2 hnx hkey hx
      cases hp : plcD (xs.take k) (x.1, (x.2.1 : Int)) with
      | some u =>
        have hu : (plcD (xs.take k) (x.1, (x.2.1 : Int))).getD (.int .i64 0) = u := by rw [hp]; rfl
        have hq : (plcD (xs.take k) (x.1, (x.2.1 : Int))).isSome = true := by rw [hp]; rfl
        have HU := Lib.hid hu
        have HQ := Lib.hid hq
        have HE := Lib.hid (show plcD (xs.take (k + 1)) = plcD (xs.take k) by
          rw [HNX.out]
          funext a
          by_cases ha : a = (x.1, (x.2.1 : Int))
          · rw [if_pos ha, ha, hp]; rfl
          · rw [if_neg ha])
        clear hu hq hp
        go_wp2_with (at_lookup; refine wpl_lookOk _ rfl _ _ 59 rfl DA.out law_slot Try.underlying59 (zeroI _) rfl (x.1, (x.2.1 : Int)) rfl HKEY.out u HU.out true HQ.out ?_)
        go_roundw
        case rel => exact ⟨k + 1, by omega, by go_num, by rw [HE.out]; exact DA.out.mono (Nat.le_succ _), TA.out⟩
        case measure => simp [intOf]; omega
      | none =>
        have hu : (plcD (xs.take k) (x.1, (x.2.1 : Int))).getD (.int .i64 0) = .int .i64 0 := by rw [hp]; rfl
        have hq : (plcD (xs.take k) (x.1, (x.2.1 : Int))).isSome = false := by rw [hp]; rfl
        have HU := Lib.hid hu
        have HQ := Lib.hid hq
        have HE := Lib.hid (show (fun a => if a = (x.1, (x.2.1 : Int)) then some (Value.int .i64 k) else plcD (xs.take k) a) = plcD (xs.take (k + 1)) by
          rw [HNX.out]
          funext a
          by_cases ha : a = (x.1, (x.2.1 : Int))
          · rw [if_pos ha, if_pos ha, ha, hp]; rfl
          · rw [if_neg ha, if_neg ha])
        clear hu hq hp
        go_wp2_with (first
          | (at_lookup; refine wpl_lookOk _ rfl _ _ 59 rfl DA.out law_slot Try.underlying59 (zeroI _) rfl (x.1, (x.2.1 : Int)) rfl HKEY.out (.int .i64 0) HU.out false HQ.out ?_)
          | (at_mapUpdate; refine wpl_mapset _ rfl _ _ _ 59 rfl DA.out law_slot Try.underlying59 (by unfold maxLen; omega) rfl (x.1, (x.2.1 : Int)) rfl (.int .i64 k) rfl HKEY.out (fun a ha => slK_inj a _ ha) ?_; intro w5 hm5 hg5; have M5 := Lib.hid hm5; have T5 := Lib.hid (TA.out.trans (S' := fun b => b = w.heap.size + 1) (Touch.of_grown hg5 (fun k hk => by simpa using hk.symm)) (fun b hb => .inl hb)); clear hm5 hg5))
        go_roundw
        case rel => exact ⟨k + 1, by omega, by go_num, by rw [← HE.out]; exact M5.out, T5.out⟩
        case measure => simp [intOf]; omega
    · have e1 : xs.take k = xs := List.take_of_length_le (by have := HN.out; omega)
      have HD2 : Hid (Dict Try.prog 33 slK wr (w.heap.size + 1) k (plcD xs)) := Lib.hid (by rw [← e1]; rw [e1]; have := HD.out; rw [e1] at this; exact this)
      obtain ⟨kl, hkey⟩ := key_slot (a := (fc, fi)) hfc HFI.out
      have HKEY := Lib.hid hkey
      have kf : Kept w wr := Below.trans (Kept.trans K0.out K2.out) (HT.out.below (B := w.heap.size) (fun b hb => by omega) (Kept.trans K0.out K2.out).size)
      have KF := Lib.hid kf
      clear e1 hkey kf
      cases hp : plcO xs (fc, fi) with
      | some i =>
        have HP := Lib.hid (show plcI xs (fc, fi) = i by unfold plcI; rw [hp])
        have HU := Lib.hid (show (plcD xs (fc, fi)).getD (.int .i64 0) = .int .i64 i by unfold plcD; rw [hp]; rfl)
        have HQ := Lib.hid (show (plcD xs (fc, fi)).isSome = true by unfold plcD; rw [hp]; rfl)
        clear hp
        go_wp2_with (at_lookup; refine wpl_lookOk _ rfl _ _ 59 rfl HD2.out law_slot Try.underlying59 (zeroI _) rfl (fc, fi) rfl HKEY.out (.int .i64 i) HU.out true HQ.out ?_)
        go_ret
        exact ⟨ret_int HP.out.symm, KF.out⟩
      | none =>
        have HP := Lib.hid (show plcI xs (fc, fi) = -1 by unfold plcI; rw [hp])
        have HU := Lib.hid (show (plcD xs (fc, fi)).getD (.int .i64 0) = .int .i64 0 by unfold plcD; rw [hp]; rfl)
        have HQ := Lib.hid (show (plcD xs (fc, fi)).isSome = false by unfold plcD; rw [hp]; rfl)
        clear hp
        go_wp2_with (at_lookup; refine wpl_lookOk _ rfl _ _ 59 rfl HD2.out law_slot Try.underlying59 (zeroI _) rfl (fc, fi) rfl HKEY.out (.int .i64 0) HU.out false HQ.out ?_)
        go_ret
        exact ⟨ret_int HP.out.symm, KF.out⟩
end Go.Proofs.Ytjljfadfepidjaa
