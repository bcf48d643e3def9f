/-
  The document's answer for emit by contract: two, constant.
-/
import Derived.Test.YtbalmfoboaapjaaEr1
import Derived.Test.YtbalmfoboaapjaaAppS
namespace Go.Proofs.Ytbalmfoboaapjaa
set_option linter.unusedVariables false
set_option linter.unusedSimpArgs false
open Go.RowKit
set_option maxRecDepth 100000

theorem putL_2 (v : Int) : putL v 2 = beB 2 v := rfl
theorem putL_4 (v : Int) : putL v 4 = beB 4 v := rfl
theorem byteV_one (l : List UInt8) : ∀ u ∈ l.map byteV, u.oneCell' = true := by
  intro u hu
  obtain ⟨x, _, rfl⟩ := List.mem_map.1 hu
  rfl
/-- A row of bytes of the call's own. -/
def BW (base : Nat) (L : List UInt8) (v : Value) (w : World) : Prop := w.ownsRow base 5 1 v L.length (L.map byteV)
theorem BW.touch {base : Nat} {L : List UInt8} {v : Value} {w w' : World} {S : Nat → Prop} (h : BW base L v w) (ht : Touch S w w') (hs : ∀ k, v.ownBlock = some k → ¬ S k) : BW base L v w' := ht.own h hs
theorem BW.kept {base : Nat} {L : List UInt8} {v : Value} {w w' : World} (h : BW base L v w) (k : Kept w w') : BW base L v w' := (Touch.of_kept (S := fun _ => False) k).own h fun _ _ e => e
/-- A row of bytes has grown. -/
def TwoG (base : Nat) (vb : Value) (L : List UInt8) (w : World) (e : Ending) (w' : World) : Prop :=
  ∃ v', e = .returned v' ∧ BW base L v' w' ∧ Touch (fun b => vb.ownBlock = some b) w w' ∧ ∀ k, v'.ownBlock = some k → vb.ownBlock = some k ∨ w.heap.size ≤ k
set_option maxHeartbeats 4000000 in
theorem ref4_two (base : Nat) (L : List UInt8) (vb : Value) (xs : List Int) (vl : Value) (w : World) (ho : BW base L vb w) (hbase : base ≤ w.heap.size) (hl : Rd w 1 vl xs.length (xs.flatMap encI)) (hne : 0 < xs.length → ∀ k, vl.ownBlock = some k → vb.ownBlock ≠ some k) (hsz : L.length + 2 * xs.length ≤ 100000000000) :
    Calls Try.prog 25 #[vb, vl] w (TwoG base vb (L ++ twoB xs) w) := by
  obtain ⟨N, hN⟩ : ∃ N, N = xs.length := ⟨_, rfl⟩
  have HN := Lib.hid hN
  rw [← hN] at hl hne hsz
  have HLD := Lib.hid hl
  have HNE := Lib.hid hne
  have H0 := Lib.hid ho
  obtain ⟨_, al, cl, rfl, hcl1, hcl2, _⟩ := hl
  clear hN hne ho
  go_enter Try.func25, Try.ntmps25
  go_wp2_with fail
  go_loopw [0, 5] (fun s0 s5 wr => ∃ k : Nat, k ≤ N ∧ s5 = .int .i64 k ∧ BW base (L ++ twoB (xs.take k)) s0 wr ∧ Touch (fun b => vb.ownBlock = some b) w wr ∧ (∀ b, s0.ownBlock = some b → vb.ownBlock = some b ∨ w.heap.size ≤ b)) (fun _ s5 _ => N - (intOf s5).toNat)
  case atStart => exact ⟨0, Nat.zero_le _, rfl, by simpa [twoB] using H0.out, Touch.refl _ _, fun b hb => .inl hb⟩
  case round v s5 =>
    obtain ⟨k, hk, rfl, hw, ht, hb⟩ := hrel
    by_cases hlt : k < N
    · obtain ⟨x, hx⟩ : ∃ x, xs[k]? = some x := ⟨_, List.getElem?_eq_getElem (by have := HN.out; omega)⟩
      have hrd := HLD.out.touch ht fun h0 b hb' => HNE.out (by omega) b hb'
      obtain ⟨bl, ol, dl, hv, xc⟩ := ints_cell HN.out hrd hx
      simp only [Value.slice.injEq] at hv
      obtain ⟨rfl, -, rfl⟩ := hv
      have hltI : (k : Int) < (N : Int) := by omega
      have h0I : (0 : Int) ≤ (k : Int) := by omega
      have hlen : (L ++ twoB (xs.take k)).length ≤ 100000000000 - 2 := by
        have e1 : (twoB (xs.take k)).length = 2 * k := by
          rw [show twoB (xs.take k) = (xs.take k).flatMap (beB 2) from rfl, flat_lenB 2, List.length_take]; have := HN.out; omega
        rw [List.length_append, e1]
        omega
      obtain ⟨Lc, hLc⟩ : ∃ Lc, Lc = L ++ twoB (xs.take k) := ⟨_, rfl⟩
      have HCAT := Lib.hid (show Lc ++ beB 2 x = L ++ twoB (xs.take (k + 1)) by
        rw [hLc, List.append_assoc]
        congr 1
        unfold twoB
        rw [List.take_add_one, hx, List.flatMap_append]
        simp)
      rw [← hLc] at hw hlen
      obtain ⟨a, c, rfl, -, -⟩ := own_slice hw
      have HX := Lib.hid hx
      have HW := Lib.hid hw
      have HT := Lib.hid ht
      have HB := Lib.hid hb
      have C := ref1_Put x 2 wr
      have hwb := ht.size
      clear hx hw ht hb hrd hLc
      go_wp2_with fail
      refine C.mono ?_
      rintro e w1 ⟨vx, rfl, hr, hk1⟩
      have HR1 := Lib.hid hr
      have HW1 := Lib.hid (HW.out.kept hk1)
      have HT1 := Lib.hid (HT.out.trans (Touch.of_kept (S := fun _ => False) hk1) fun b hb => hb.elim)
      have hs1 := hk1.size
      have HK1 := Lib.hid hk1
      clear hr hk1 C xc
      go_wp2_with (at_builtin; refine wpl_appR _ elem_byte rfl (.tmp 12) (.tmp 17) rfl base _ Lc.length _ rfl HW1.out _ _ _ rfl HR1.out (byteV_one _) (by rw [putL_2, beB_length]; omega) (by rw [putL_2, beB_length]; omega) (by omega) _ rfl ?_; intro a5 c5 w9 ho5 hg5 hk5; have HO5 := Lib.hid ho5; have HG5 := Lib.hid hg5; have HK5 := Lib.hid hk5; clear ho5 hg5 hk5)
      go_roundw
      case rel =>
        refine ⟨k + 1, by omega, by go_num, ?_, ?_, ?_⟩
        · have h0 := HO5.out
          unfold BW
          rw [← HCAT.out, List.length_append, List.map_append]
          exact h0
        · exact HT1.out.trans (Touch.of_grown (S := fun b => (Value.slice a Lc.length c).ownBlock = some b) HG5.out fun k hk => hk) fun b hb => HB.out b hb
        · intro b hb
          rcases HK5.out b hb with h1 | h1
          · exact HB.out b h1
          · exact .inr (by omega)
      case measure => simp [intOf]; omega
    · have HE := Lib.hid (show xs.take k = xs from List.take_of_length_le (by have := HN.out; omega))
      have HW := Lib.hid hw
      have HT := Lib.hid ht
      have HB := Lib.hid hb
      clear hw ht hb
      go_wp2_with fail
      go_ret
      exact ⟨_, rfl, by have := HW.out; rw [HE.out] at this; exact this, HT.out, HB.out⟩

/-- Of what was there only blocks of G, and rows of bytes from base on, may have turned. -/
def TY (G : Nat → Prop) (base : Nat) (w w' : World) : Prop := Touch (fun b => G b ∨ base ≤ b ∧ ∃ cs, Blk w b 5 cs) w w'
section
variable {G : Nat → Prop} {base : Nat} {w w' w'' : World}
theorem TY.refl (G : Nat → Prop) (base : Nat) (w : World) : TY G base w w := Touch.refl _ _
theorem TY.of_kept (h : Kept w w') : TY G base w w' := Touch.of_kept h
theorem TY.trans (h : TY G base w w') (k : TY G base w' w'') : TY G base w w'' := by
  refine ⟨k.os.trans h.os, k.tape.trans h.tape, k.output.trans h.output, Nat.le_trans h.size k.size, fun b hb hn => ?_⟩
  have h1 := h.blocks b hb hn
  rw [k.blocks b (Nat.lt_of_lt_of_le hb h.size) fun hs => hn (hs.imp id fun ⟨e, cs, hc⟩ => ⟨e, cs, by unfold Blk at *; rw [← h1]; exact hc⟩), h1]
theorem TY.alloc (h : TY G base w w') (o : Obj) : TY G base w (w'.alloc o) := Touch.alloc h o
theorem TY.drew (h : TY G base w w') : TY G base w w'.drew := Touch.drew h
theorem TY.blk {z : Nat} {t : TypeId} {cs : Array Value} (h : TY G base w w') (hb : Blk w z t cs) (hg : ¬ G z) (hne : t ≠ 5) : Blk w' z t cs :=
  Touch.block h hb fun e => e.elim hg fun ⟨_, cs', hc⟩ => Blk.ne_ hb hc hne rfl
theorem TY.below {B : Nat} (h : TY G base w w') (hB : B ≤ base) (hg : ∀ b, G b → B ≤ b) (hs : B ≤ w.heap.size) : Below B w w' := Touch.below h (fun b hb => hb.elim (hg b) fun e => by omega) hs
theorem TY.of_row {L : List UInt8} {v : Value} (hv : BW base L v w) (h : Touch (fun b => v.ownBlock = some b) w w') : TY G base w w' := h.mono fun b hb => .inr (by
  rcases hv.2 with ⟨rfl, _⟩ | ⟨g, cap, cur, rfl, hg, hh, _⟩
  · cases hb
  · obtain rfl : g = b := by simpa [Value.ownBlock] using hb
    exact ⟨hg, cur, hh⟩)
theorem TY.size (h : TY G base w w') : w.heap.size ≤ w'.heap.size := Touch.size h
end
/-- A row of bytes has grown; and what may have turned besides. -/
def TwoY (base : Nat) (L : List UInt8) (w : World) (e : Ending) (w' : World) : Prop := ∃ v', e = .returned v' ∧ BW base L v' w' ∧ TY (fun _ => False) base w w'
theorem ref4_twoN (base : Nat) (L : List UInt8) (vb : Value) (xs : List Int) (w : World) (ho : BW base L vb w) (hbase : base ≤ w.heap.size) (hsz : L.length + 2 * xs.length ≤ 100000000000) :
    Calls Try.prog 25 #[vb, .slice (some ⟨w.heap.size, 0, none⟩) xs.length xs.length] (w.alloc (.cells (xs.map (Value.int .i64)).toArray 3)) (TwoY base (L ++ twoB xs) w) := by
  have hk : Kept w (w.alloc (.cells (xs.map (Value.int .i64)).toArray 3)) := (Below.refl _ _).alloc (Nat.le_refl _) _
  have ho2 := ho.kept hk
  refine (ref4_two base L vb xs _ _ ho2 (by have := hk.size; omega) (rd_new w xs _ (by omega)) (fun _ k hk' hv => ?_) hsz).mono fun e w' ⟨v', h1, h2, h3, h4⟩ => ⟨v', h1, h2, (TY.of_kept hk).trans (TY.of_row ho2 h3)⟩
  obtain rfl : w.heap.size = k := by simpa [Value.ownBlock] using hk'
  rcases ho.2 with ⟨rfl, _⟩ | ⟨g, cap, cur, rfl, hg, hh, _⟩
  · cases hv
  · obtain rfl : g = w.heap.size := by simpa [Value.ownBlock] using hv
    have := (Array.getElem?_eq_some_iff.1 hh).1
    omega
theorem ref4_twoR (base : Nat) (L : List UInt8) (vb : Value) (xs : List Int) (n : Nat) (hn : n = xs.length) (vl : Value) (w : World) (ho : BW base L vb w) (hbase : base ≤ w.heap.size) (hl : Rd w 1 vl n (xs.flatMap encI)) (hne : 0 < n → ∀ k, vl.ownBlock = some k → k < base) (hsz : L.length + 2 * xs.length ≤ 100000000000) :
    Calls Try.prog 25 #[vb, vl] w (TwoY base (L ++ twoB xs) w) := by
  subst hn
  refine (ref4_two base L vb xs vl w ho hbase hl (fun h0 k hk' hv => ?_) hsz).mono fun e w' ⟨v', h1, h2, h3, h4⟩ => ⟨v', h1, h2, TY.of_row ho h3⟩
  have := hne h0 k hk'
  have := (ho.lt k hv).1
  omega
/-- The next thing to be written. -/
theorem TwoY.then_ {base : Nat} {L : List UInt8} {w w1 : World} {e : Ending} {w' : World} (ht : TY (fun _ => False) base w w1) (h : TwoY base L w1 e w') : TwoY base L w e w' := by
  obtain ⟨v, h1, h2, h3⟩ := h
  exact ⟨v, h1, h2, ht.trans h3⟩
end Go.Proofs.Ytbalmfoboaapjaa
