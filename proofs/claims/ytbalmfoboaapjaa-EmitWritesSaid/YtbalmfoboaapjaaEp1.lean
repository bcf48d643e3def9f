/-
  Package emit by contract: what a writer is in memory; put.
-/
import Derived.Test.YtbalmfoboaapjaaProg
import Derived.Test.YtbalmfoboaapjaaFileD
import Derived.Test.YtbalmfoboaapjaaApp
import Derived.Test.YtbalmfoboaapjaaEm0
namespace Go.Proofs.Ytbalmfoboaapjaa
set_option linter.unusedVariables false
set_option linter.unusedSimpArgs false
open Go.RowKit
set_option maxRecDepth 100000

/-- A writer in memory: its bytes, its map, what failed. -/
structure EW (w : World) (g : Nat) (L : List UInt8) (vb va : Value) (fl : Int) : Prop where
  blk : Blk w g 57 #[vb, va, .int .i64 fl]
  row : w.ownsRow (g + 1) 5 1 vb L.length (L.map byteV)
/-- What put may turn. -/
def PS_ (g : Nat) (vb : Value) (b : Nat) : Prop := b = g ∨ vb.ownBlock = some b
section
variable {w w' : World} {g : Nat} {L : List UInt8} {vb va : Value} {fl : Int}
theorem EW.touch (h : EW w g L vb va fl) {S : Nat → Prop} (ht : Touch S w w') (hg : ¬ S g) (hb : ∀ k, vb.ownBlock = some k → ¬ S k) : EW w' g L vb va fl := ⟨h.blk.touch ht hg, ht.own h.row hb⟩
theorem EW.drew (h : EW w g L vb va fl) : EW w.drew g L vb va fl := h.touch (S := fun _ => False) (Touch.refl _ w).drew (fun e => e) fun _ _ e => e
theorem EW.grow (h : EW w g L vb va fl) (hg : w.grownBy w' vb.ownBlock) : Blk w' g 57 #[vb, va, .int .i64 fl] :=
  h.blk.touch (S := fun b => vb.ownBlock = some b) (Touch.of_grown hg fun k hk => hk) fun e => by have := (h.row.lt g e).1; omega
/-- Bytes more. -/
theorem EW.push (h : EW w g L vb va fl) {M : List UInt8} {v : Value} (hg : w.grownBy w' vb.ownBlock) (ho : w'.ownsRow (g + 1) 5 1 v (L.length + M.length) (L.map byteV ++ M.map byteV)) : EW (w'.setCell ⟨g, 0, none⟩ v) g (L ++ M) v va fl := by
  have hT : Touch (fun b => b = g) w' (w'.setCell ⟨g, 0, none⟩ v) := (Touch.refl _ _).one 0 v
  refine ⟨by simpa using (h.grow hg).set_ 0 v, ?_⟩
  rw [List.length_append, List.map_append]
  exact hT.own ho fun k hk e => by have := (ho.lt k hk).1; omega
end
theorem flat_lenB (n : Nat) (l : List Int) : (l.flatMap (beB n)).length = n * l.length := by
  induction l with
  | nil => simp
  | cons x l ih => simp only [List.flatMap_cons, List.length_append, beB_length, ih, List.length_cons, Nat.mul_add]; omega
theorem beB_at (n : Nat) (v : Int) : ∀ (j : Nat), j < n → (beB n v).take (j + 1) = (beB n v).take j ++ [byteOf v (n - 1 - j)] := by
  induction n with
  | zero => intro j hj; omega
  | succ n ih =>
    intro j hj
    cases j with
    | zero => simp [beB]
    | succ j =>
      have := ih j (by omega)
      simp only [beB, List.take_succ_cons, this, List.cons_append]
      rw [show n + 1 - 1 - (j + 1) = n - 1 - j by omega]
theorem ints_cell {w : World} {l : List Int} {v : Value} {n : Nat} (hn : n = l.length) (hr : Rd w 1 v n (l.flatMap encI)) {i : Nat} {t : Int} (hm : l[i]? = some t) :
    ∃ b off c, v = .slice (some ⟨b, off, none⟩) n c ∧ w.cell? ⟨b, off + i, none⟩ = some (.int .i64 t) := by
  have hl := (List.getElem?_eq_some_iff.1 hm).1
  rcases hr.parts with ⟨h0, _⟩ | ⟨b, off, c, rfl, h0, h1, h2, hc⟩
  · omega
  · refine ⟨b, off, c, rfl, hc _ _ ?_⟩
    have := flat_get encI 1 (fun _ => rfl) l i 0 t hm (by omega)
    rw [Nat.mul_one, Nat.add_zero] at this
    exact this
/-- As 'step_pushH', where the element has been laid ahead of the draw. -/
theorem step_pushE {P : Program} (w : World) {t e : TypeId} {z : Value} {size bytes : Nat} (E : ElemTy P t e z size bytes) {ops : Array Oper} {o : Oper} {a : Act} {K : Act → World → Prop} {Q : Exit → Act → World → Prop} {Ee : Prop} (hgd : o.guard = none) (s x : Operand)
    (ho : o.op = .call { callee := .builtin .append, args := #[s, x], argTypes := #[t, t] })
    (base : Nat) (v : Value) (n : Nat) (xs : List Value) (hs : a.eval s = v) (hown : w.drew.ownsRow base e size v n xs)
    (cs : List Value) (e' : TypeId) (H : Nat) (hx : a.eval x = .slice (some ⟨H, 0, none⟩) 1 1) (hH : w.heap.size = H) (hl : cs.length = size) (h1 : ∀ u ∈ cs, u.oneCell' = true)
    (hbytes : (n + 1) * bytes ≤ 140737488355328) (hsmall : n + 1 ≤ 9223372036854775807) (hbase : base ≤ H)
    (h : ∀ v' w', w'.ownsRow base e size v' (n + 1) (xs ++ cs) → w.drew.grownBy w' v.ownBlock → (∀ k, v'.ownBlock = some k → v.ownBlock = some k ∨ H ≤ k) → K (a.put o.dst v') w') :
    if Region.wanted o (yielded ops a.tmps) = true then Oper.wp P o a (w.alloc (.cells cs.toArray e')).drew K Q else Ee :=
  step_pushH w.drew E hgd s x ho base v n xs hs hown cs e' H hx hH hl h1 hbytes hsmall hbase h
theorem ep_by0 (v : Int) : Value.int .u8 (IntKind.u8.wrap v) = byteV (byteOf v 0) := byte_one (by rw [IntKind.wrap_u8]; simp)
theorem ep_by1 (v : Int) : Value.int .u8 (IntKind.u8.wrap (v / 256)) = byteV (byteOf v 1) := byte_one (by rw [IntKind.wrap_u8]; simp)
theorem ep_by2 (v : Int) : Value.int .u8 (IntKind.u8.wrap (v / 65536)) = byteV (byteOf v 2) := byte_one (by rw [IntKind.wrap_u8]; simp)
theorem ep_by3 (v : Int) : Value.int .u8 (IntKind.u8.wrap (v / 16777216)) = byteV (byteOf v 3) := byte_one (by rw [IntKind.wrap_u8]; simp)
theorem ep_sh0 (x : Int) : Op.shift .shr .i64 x .i64 (IntKind.i64.wrap 0) = pure (.int .i64 x) := by
  rw [show IntKind.i64.wrap 0 = 0 by decide, shift_shr _ _ _ _ (by decide) (by decide)]; simp
theorem ep_sh1 (x : Int) : Op.shift .shr .i64 x .i64 (IntKind.i64.wrap 8) = pure (.int .i64 (x / 256)) := by
  rw [show IntKind.i64.wrap 8 = 8 by decide, shift_shr _ _ _ _ (by decide) (by decide)]; simp
theorem ep_sh2 (x : Int) : Op.shift .shr .i64 x .i64 (IntKind.i64.wrap 16) = pure (.int .i64 (x / 65536)) := by
  rw [show IntKind.i64.wrap 16 = 16 by decide, shift_shr _ _ _ _ (by decide) (by decide)]; simp
theorem ep_sh3 (x : Int) : Op.shift .shr .i64 x .i64 (IntKind.i64.wrap 24) = pure (.int .i64 (x / 16777216)) := by
  rw [show IntKind.i64.wrap 24 = 24 by decide, shift_shr _ _ _ _ (by decide) (by decide)]; simp
def PutG (g : Nat) (L : List UInt8) (vb va : Value) (fl : Int) (w : World) (e : Ending) (w' : World) : Prop :=
  e = .returned (.tuple #[]) ∧ ∃ vb', EW w' g L vb' va fl ∧ Touch (PS_ g vb) w w' ∧ ∀ k, vb'.ownBlock = some k → vb.ownBlock = some k ∨ w.heap.size ≤ k
set_option maxHeartbeats 8000000 in
theorem emit_put (g : Nat) (L : List UInt8) (vb va : Value) (fl : Int) (n : Nat) (hn : n = 1 ∨ n = 2 ∨ n = 4) (xs : List Int) (vl : Value) (w : World) (h : EW w g L vb va fl) (hl : Rd w 1 vl xs.length (xs.flatMap encI))
    (hne : 0 < xs.length → ∀ k, vl.ownBlock = some k → k ≠ g ∧ vb.ownBlock ≠ some k) (hsz : L.length + 4 * xs.length ≤ 100000000000) (i : Int) (hi : i = n) :
    Calls Try.prog 22 #[.pointer (some ⟨g, 0, none⟩), .int .i64 i, vl] w (PutG g (L ++ xs.flatMap (beB n)) vb va fl w) := by
  subst hi
  obtain ⟨N, hN⟩ : ∃ N, N = xs.length := ⟨_, rfl⟩
  have HN := Lib.hid hN
  rw [← hN] at hl hne hsz
  have HLD := Lib.hid hl
  have HNE := Lib.hid hne
  have H0 := Lib.hid h
  have hsz0 := h.row
  obtain ⟨_, al, cl, rfl, hcl1, hcl2, _⟩ := hl
  clear hN hne h hsz0
  go_enter Try.func22, Try.ntmps22
  go_wp2_with fail
  go_loopw [11] (fun s11 wr => ∃ (k : Nat) (v : Value), k ≤ N ∧ s11 = .int .i64 k ∧ EW wr g (L ++ (xs.take k).flatMap (beB n)) v va fl ∧ Touch (PS_ g vb) w wr ∧ (∀ b, v.ownBlock = some b → vb.ownBlock = some b ∨ w.heap.size ≤ b)) (fun s11 _ => N - (intOf s11).toNat)
  case atStart => exact ⟨0, vb, Nat.zero_le _, rfl, by simpa using H0.out, Touch.refl _ _, fun b hb => .inl hb⟩
  case round =>
    obtain ⟨k, v, hk, rfl, hw, ht, hb⟩ := hrel
    by_cases hlt : k < N
    · obtain ⟨x, hx⟩ : ∃ x, xs[k]? = some x := ⟨_, List.getElem?_eq_getElem (by have := HN.out; omega)⟩
      have hrd := HLD.out.touch ht fun h0 b hb' => by
        have h1 := HNE.out (by omega) b hb'
        rintro (e | e)
        · exact h1.1 e
        · exact h1.2 e
      obtain ⟨bl, ol, dl, hv, xc⟩ := ints_cell HN.out hrd hx
      simp only [Value.slice.injEq] at hv
      obtain ⟨rfl, -, rfl⟩ := hv
      have hltI : (k : Int) < (N : Int) := by omega
      have h0I : (0 : Int) ≤ (k : Int) := by omega
      have HX := Lib.hid hx
      have HW := Lib.hid hw
      have HT := Lib.hid ht
      have HB := Lib.hid hb
      have HP := Lib.hid (show (xs.take k).length = k by rw [List.length_take]; have := HN.out; omega)
      clear hrd hx hw ht hb
      go_wp2_with fail
      go_loopw [8] (fun s8 wr' => ∃ (j : Nat) (v' : Value), j ≤ n ∧ s8 = .int .i64 ((n : Int) - 1 - j) ∧ EW wr' g (L ++ ((xs.take k).flatMap (beB n) ++ (beB n x).take j)) v' va fl ∧ Touch (PS_ g vb) w wr' ∧ (∀ b, v'.ownBlock = some b → vb.ownBlock = some b ∨ w.heap.size ≤ b)) (fun s8 _ => (intOf s8 + 1).toNat)
      case atStart => exact ⟨0, v, Nat.zero_le _, by simp, by simpa using HW.out, HT.out, HB.out⟩
      case round =>
        obtain ⟨j, v', hj, rfl, hw, ht, hb⟩ := hrel
        clear HW HT HB xc
        by_cases hjn : j < n
        · obtain ⟨m, hm⟩ : ∃ m : Nat, m = n - 1 - j := ⟨_, rfl⟩
          have hm2 : (n : Int) - 1 - (j : Int) = (m : Int) := by omega
          have hm3 : m ≤ 3 := by omega
          rw [hm2]
          obtain ⟨a, c, rfl, -, -⟩ := own_slice hw.row
          have HL := Lib.hid (beB_at n x j hjn)
          have hlen : (L ++ ((xs.take k).flatMap (beB n) ++ (beB n x).take j)).length ≤ 100000000000 := by
            have e1 : ((xs.take k).flatMap (beB n)).length = n * k := by
              rw [flat_lenB n, HP.out]
            simp only [List.length_append, List.length_take, beB_length, e1]
            have : n * k ≤ 4 * k := Nat.mul_le_mul_right k (by omega)
            omega
          obtain ⟨Lc, hLc⟩ : ∃ Lc, Lc = L ++ ((xs.take k).flatMap (beB n) ++ (beB n x).take j) := ⟨_, rfl⟩
          rw [← hLc] at hw hlen hb
          have HLC := Lib.hid hLc
          have HM := Lib.hid hm
          have HCAT := Lib.hid (show Lc ++ [byteOf x (n - 1 - j)] = L ++ ((xs.take k).flatMap (beB n) ++ (beB n x).take (j + 1)) by rw [hLc, HL.out]; simp only [List.append_assoc])
          have c0 := hw.blk.cell 0
          simp only [List.getElem?_toArray, List.getElem?_cons_zero] at c0
          have lg := hw.blk.lt
          have HW := Lib.hid hw
          have HT := Lib.hid ht
          have HB := Lib.hid hb
          have HMI := Lib.hid hm2
          clear hw ht hb hLc hm hm2
          have hs0 := ep_sh0 x
          have hs1 := ep_sh1 x
          have hs2 := ep_sh2 x
          have hs3 := ep_sh3 x
          rcases (by omega : m = 0 ∨ m = 1 ∨ m = 2 ∨ m = 3) with rfl | rfl | rfl | rfl
          all_goals
            (go_wp2_with fail
             go_region_law (first
               | (refine step_pushE _ elem_byte rfl (.tmp 25) (.tmp 31) rfl (g + 1) _ Lc.length _ rfl HW.out.drew.row [.int .u8 _] _ _ rfl rfl rfl (byte_oneCell _) (by omega) (by omega) (by omega) ?_
                  intro v5 w9 ho5 hg5 hk5
                  obtain ⟨a5, c5, rfl, -, -⟩ := own_slice (n := Lc.length + 1) ho5
                  have y7 := (HW.out.drew.grow hg5).cell 0
                  simp only [List.getElem?_toArray, List.getElem?_cons_zero] at y7
                  have i7 := (HW.out.drew.grow hg5).frozen 0
                  have l7 := (HW.out.drew.grow hg5).lt
                  have HO5 := Lib.hid ho5
                  have HG5 := Lib.hid hg5
                  have HK5 := Lib.hid hk5
                  clear ho5 hg5 hk5))
             all_goals
               (have HW9 : Hid (EW (w9.setCell ⟨g, 0, none⟩ (.slice a5 (Lc.length + 1) c5)) g (Lc ++ [byteOf x (n - 1 - j)]) (.slice a5 (Lc.length + 1) c5) va fl) := Lib.hid (HW.out.drew.push HG5.out (by
                  have h0 := HO5.out
                  rw [← HM.out]
                  first
                    | (rw [ep_by0] at h0; simpa using h0)
                    | (rw [ep_by1] at h0; simpa using h0)
                    | (rw [ep_by2] at h0; simpa using h0)
                    | (rw [ep_by3] at h0; simpa using h0)))
                have HT9 : Hid (Touch (PS_ g vb) w (w9.setCell ⟨g, 0, none⟩ (.slice a5 (Lc.length + 1) c5))) := Lib.hid (HT.out.trans (((Touch.refl _ _).drew.trans (Touch.of_grown (S := fun b => b = g ∨ (Value.slice a Lc.length c).ownBlock = some b) HG5.out fun k hk => .inr hk) fun b hb => .inl hb).setCell (p := ⟨g, 0, none⟩) (.inl (.inl rfl)) _) fun b hb => by
                  rcases hb with hb | hb
                  · exact .inl (.inl hb)
                  · rcases HB.out b hb with h1 | h1
                    · exact .inl (.inr h1)
                    · exact .inr h1)
                have HB9 : Hid (∀ b, (Value.slice a5 (Lc.length + 1) c5).ownBlock = some b → vb.ownBlock = some b ∨ w.heap.size ≤ b) := Lib.hid fun b hb => by
                  have hsz9 := HT.out.size
                  rcases HK5.out b hb with h1 | h1
                  · exact HB.out b h1
                  · exact .inr (by omega)
                clear HO5 HG5 HK5 y7 i7 l7 HW HT HB c0 lg
                generalize w9.setCell ⟨g, 0, none⟩ (.slice a5 (Lc.length + 1) c5) = W9 at *
                go_wp2_with fail
                go_roundw
                case rel => exact ⟨j + 1, _, by omega, (by have := HMI.out; congr 1; push_cast; omega), (HCAT.out ▸ HW9.out), HT9.out, HB9.out⟩
                case measure => simp [intOf]))
        · obtain rfl : j = n := by omega
          have hend : L ++ ((xs.take k).flatMap (beB j) ++ (beB j x).take j) = L ++ (xs.take (k + 1)).flatMap (beB j) := by
            rw [show (beB j x).take j = beB j x from List.take_of_length_le (by rw [beB_length]; exact Nat.le_refl _), List.take_add_one, HX.out, List.flatMap_append]
            simp
          rw [hend] at hw
          have HW := Lib.hid hw
          have HT := Lib.hid ht
          have HB := Lib.hid hb
          clear hw ht hb hend
          have hm1 : ¬ (0 : Int) ≤ (j : Int) - 1 - (j : Int) := by omega
          go_wp2_with fail
          go_roundw
          case rel => exact ⟨k + 1, _, by omega, by go_num, HW.out, HT.out, HB.out⟩
          case measure => simp [intOf]; omega
    · have HE := Lib.hid (show xs.take k = xs from List.take_of_length_le (by have := HN.out; omega))
      have HW := Lib.hid hw
      have HT := Lib.hid ht
      have HB := Lib.hid hb
      clear hw ht hb
      go_wp2_with fail
      refine bodyPost_end (results_none rfl _ _ _) rfl ?_
      exact ⟨rfl, v, by have := HW.out; rw [HE.out] at this; exact this, HT.out, HB.out⟩
end Go.Proofs.Ytbalmfoboaapjaa
