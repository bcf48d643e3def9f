/-
  Package slots, and the document's own answer of chapter 11: Zero, Statics.
-/
import Derived.Test.YtjljfadfepidjaaTouch
import Derived.Test.YtjljfadfepidjaaOpenType
import Derived.Test.YtjljfadfepidjaaVal
namespace Go.Proofs.Ytjljfadfepidjaa
open Go.RowKit
set_option maxRecDepth 100000

def zeroOf (s : ByteArray) : ValV := ⟨!(s.toList == [73]), 0⟩
/-- What a static field begins with. -/
def memVal (m : MemberV) : ValV := if bits .and .i64 m.access 8 = 0 then ⟨false, 0⟩ else if m.has then ⟨false, m.value⟩ else zeroOf m.desc

theorem slots_Zero (s : ByteArray) (w : World) : Calls Try.prog 34 #[.string s] w fun e w' => e = .returned (.agg #[.bool (zeroOf s).ref, .int .i64 (zeroOf s).n]) ∧ Kept w w' := by
  go_enter Try.func34, Try.ntmps34
  go_wp2
  go_returns
  exact ⟨rfl, (Below.refl _ _).alloc (Nat.le_refl _) _⟩

theorem ref11_Zero (s : ByteArray) (w : World) : Calls Try.prog 39 #[.string s] w fun e w' => e = .returned (.agg #[.bool (zeroOf s).ref, .int .i64 (zeroOf s).n]) ∧ Kept w w' := by
  go_enter Try.func39, Try.ntmps39
  go_wp2
  go_returns
  exact ⟨rfl, (Below.refl _ _).alloc (Nat.le_refl _) _⟩

theorem mem_cells {w : World} {l : List MemberV} {v : Value} (hr : Rd w 5 v l.length (l.flatMap encMemberV)) {i : Nat} {m : MemberV} (hm : l[i]? = some m) :
    ∃ b off c, v = .slice (some ⟨b, off, none⟩) l.length c ∧ c ≤ 9223372036854775807 ∧ w.cell? ⟨b, off + i * 5, none⟩ = some (.int .i64 m.access) ∧ w.cell? ⟨b, off + i * 5 + 1, none⟩ = some (.string m.name) ∧ w.cell? ⟨b, off + i * 5 + 2, none⟩ = some (.string m.desc) ∧ w.cell? ⟨b, off + i * 5 + 3, none⟩ = some (.bool m.has) ∧ w.cell? ⟨b, off + i * 5 + 4, none⟩ = some (.int .i64 m.value) := by
  have hl := (List.getElem?_eq_some_iff.1 hm).1
  rcases hr.parts with ⟨h0, _⟩ | ⟨b, off, c, rfl, h0, h1, h2, hc⟩
  · omega
  · have hg : ∀ f u, (encMemberV m)[f]? = some u → f < 5 → w.cell? ⟨b, off + (i * 5 + f), none⟩ = some u := fun f u hu hf => hc _ _ (by rw [flat_get encMemberV 5 (fun _ => rfl) l i f m hm hf]; exact hu)
    exact ⟨b, off, c, rfl, h2, hg 0 _ rfl (by omega), hg 1 _ rfl (by omega), hg 2 _ rfl (by omega), hg 3 _ rfl (by omega), hg 4 _ rfl (by omega)⟩

theorem Blk.at_ {w : World} {g : Nat} {t : TypeId} {cs : Array Value} (h : w.heap.size = g) : Blk (w.alloc (.cells cs t)) g t cs := h ▸ Blk.new w t cs
theorem Rd.one' {w : World} {g : Nat} {t : TypeId} {cs : List Value} {sz : Nat} (h : Blk w g t cs.toArray) (hs : cs.length = sz) : Rd w sz (.slice (some ⟨g, 0, none⟩) 1 1) 1 cs :=
  ⟨by omega, _, _, rfl, Nat.le_refl _, by omega, fun _ => ⟨_, _, rfl, fun j u hu => by rw [Nat.zero_add, h.cell j]; simpa using hu⟩⟩

/-- The literal inside Statics: the one value of field i. -/
theorem slots_lit (y : TypeV) (B T : Nat) (w : World) (hb : Blk w B T (encTypeV y).toArray) (hr : Rd w 5 y.fieldsV y.fields.length (y.fields.flatMap encMemberV)) (i : Nat) (m : MemberV) (hm : y.fields[i]? = some m) :
    Calls Try.prog 45 #[.int .i64 i, .pointer (some ⟨B, 0, none⟩)] w fun e w' => (∃ v, e = .returned v ∧ Rd w' 2 v 1 (encVal (memVal m))) ∧ Kept w w' := by
  obtain ⟨b, off, c, hv, hc, c0, c1, c2, c3, c4⟩ := mem_cells hr hm
  have d4 : w.cell? ⟨B, 4, none⟩ = some (.slice (some ⟨b, off, none⟩) y.fields.length c) := by rw [hb.cell]; simp [encTypeV, hv]
  have hil := (List.getElem?_eq_some_iff.1 hm).1
  have hil' : (i : Int) < (y.fields.length : Int) := by omega
  have hbl := hb.lt
  by_cases h0 : bits .and .i64 m.access 8 = 0
  · have hmv : memVal m = ⟨false, 0⟩ := by simp [memVal, h0]
    have HM := Lib.hid hmv
    clear hmv hm hr hb hv
    go_enter Try.func45, Try.ntmps45
    go_wp2
    go_ret
    refine ⟨⟨_, rfl, ?_⟩, ((Below.refl _ _).alloc (Nat.le_refl _) _).alloc (by simp) _⟩
    rw [HM.out]
    exact Rd.one' (t := 35) (Blk.at_ (by simp)) rfl
  · by_cases hh : m.has = true
    · have hmv : memVal m = ⟨false, m.value⟩ := by simp [memVal, h0, hh]
      have HM := Lib.hid hmv
      clear hmv hm hr hb hv
      go_enter Try.func45, Try.ntmps45
      go_wp2
      go_ret
      refine ⟨⟨_, rfl, ?_⟩, ((Below.refl _ _).alloc (Nat.le_refl _) _).alloc (by simp) _⟩
      rw [HM.out]
      exact Rd.one' (t := 35) (Blk.at_ (by simp)) rfl
    · have hh' : m.has = false := by simpa using hh
      have hmv : memVal m = zeroOf m.desc := by simp [memVal, h0, hh']
      have HM := Lib.hid hmv
      clear hmv hm hr hb hv hh
      go_enter Try.func45, Try.ntmps45
      go_wp2_with (go_at_call 34; ((with_reducible refine (slots_Zero _ _).mono ?_); rintro e w1 ⟨rfl, k1⟩))
      go_ret
      refine ⟨⟨_, rfl, ?_⟩, (Kept.trans ((Below.refl _ _).alloc (Nat.le_refl _) _) k1).alloc (by have := k1.size; simp at this; omega) _⟩
      rw [HM.out]
      exact Rd.one' (t := 35) (Blk.new w1 _ _) rfl

theorem blk_grown2 {w w' : World} {g : Nat} {t : TypeId} {cs : Array Value} {row : Option Nat} (h : Blk w g t cs) (hg : w.grownBy w' row) (hn : ∀ k, row = some k → k ≠ g) : Blk w' g t cs :=
  (hg.block g h.lt (fun e => hn g e.symm rfl)).trans h

/-- put: what is handed over stands behind what is gathered. -/
theorem slots_put (B V : Nat) (w : World) (v : Value) (n m : Nat) (xs news : List Value) (vn : Value) (hb : Blk w V 30 #[v]) (ho : w.ownsRow B 35 2 v n xs) (hr : Rd w 2 vn m news) (h1 : ∀ u ∈ news, u.oneCell' = true)
    (hbytes : (n + m) * 16 ≤ 140737488355328) (hBw : B ≤ w.heap.size) (hBV : B ≤ V) :
    Calls Try.prog 47 #[vn, .pointer (some ⟨V, 0, none⟩)] w fun e w' => e = .returned (.tuple #[]) ∧ (∃ v', Blk w' V 30 #[v'] ∧ w'.ownsRow B 35 2 v' (n + m) (xs ++ news)) ∧ Below B w w' := by
  obtain ⟨a, c, rfl, hlc, hc⟩ := own_slice ho
  have c0 := hb.cell 0
  have f0 := hb.frozen 0
  simp at c0
  have hrr := Lib.hid hr
  obtain ⟨_, an, cn, rfl, hn1, hn2, hn3⟩ := hr
  clear hn3
  go_enter Try.func47, Try.ntmps47
  go_wp2_with (at_builtin; refine wpl_append _ elem_val rfl _ _ rfl B _ _ _ rfl ho _ _ _ rfl hrr.out h1 hbytes (by omega) hBw ?_; intro v1 w1 ho1 hg1; obtain ⟨a1, c1, rfl, hl1, hc1⟩ := own_slice ho1; have hb1 := blk_grown2 hb hg1 (own_ne ho hb (by decide)); have d0 := hb1.cell 0; have f1 := hb1.frozen 0; simp at d0)
  go_end0
  have hh := hb1.hold ho1 (by decide)
  refine ⟨rfl, ⟨_, hh.1, hh.2⟩, ?_⟩
  have hbw : Below B w w1 := (Below.refl B w).grown hg1 hBw fun k hk => (ho.lt k hk).1
  exact hbw.setCell hBV _

def memVals (l : List MemberV) : List Value := l.flatMap fun m => encVal (memVal m)
theorem memVals_snoc {l : List MemberV} {k : Nat} {m : MemberV} (h : l[k]? = some m) : memVals (l.take (k + 1)) = memVals (l.take k) ++ encVal (memVal m) := by
  rw [memVals, List.take_add_one, h, List.flatMap_append]
  simp [memVals]

theorem slots_gathered (y : TypeV) (G T : Nat) (w : World) (hb : Blk w G T (encTypeV y).toArray) (hr : Rd w 5 y.fieldsV y.fields.length (y.fields.flatMap encMemberV)) (hn : y.fields.length ≤ 3000) :
    Calls Try.prog 44 #[.int .i64 y.fields.length, .func (.func 45) #[] #[.pointer (some ⟨G, 0, none⟩)]] w fun e w' => (∃ v, e = .returned v ∧ w'.ownsRow w.heap.size 35 2 v y.fields.length (memVals y.fields)) ∧ Kept w w' := by
  obtain ⟨n, hnn⟩ : ∃ n, n = y.fields.length := ⟨_, rfl⟩
  rw [← hnn] at hn ⊢
  have HN := Lib.hid hnn
  have HB := Lib.hid hb
  have HR := Lib.hid hr
  clear hnn hb hr
  have hmf : ∀ (fn : Fn) (first cap : Array Value) (w : World), (Instr.makeFunc fn first cap).run Try.prog w = .ok (.func fn first cap) w := fun _ _ _ _ => rfl
  go_enter Try.func44, Try.ntmps44
  go_wp2
  go_loopw [10] (fun s10 wr => ∃ k : Nat, k ≤ n ∧ s10 = .int .i64 k ∧ (∃ v, Blk wr w.heap.size 30 #[v] ∧ wr.ownsRow w.heap.size 35 2 v k (memVals (y.fields.take k))) ∧ Below w.heap.size w wr) (fun s10 _ => n - (intOf s10).toNat)
  case atStart => exact ⟨0, by omega, rfl, ⟨_, Blk.new _ _ _, World.ownsRow_nil _ _ _ _⟩, (Below.refl _ _).alloc (Nat.le_refl _) _⟩
  case round =>
    obtain ⟨k, hk, rfl, ⟨v, hbv, hown⟩, hbl⟩ := hrel
    have hsz := hbl.size
    by_cases hlt : k < n
    · obtain ⟨m, hm⟩ : ∃ m, y.fields[k]? = some m := ⟨_, List.getElem?_eq_getElem (show k < y.fields.length by have := HN.out; omega)⟩
      have C := slots_lit y G T wr (Kept.block hbl HB.out) (HR.out.kept hbl) k m hm
      have HV := Lib.hid hbv
      have HO := Lib.hid hown
      have HM := Lib.hid hm
      clear hbv hown hm
      go_wp2_with (first
        | (go_at_call 45; (refine C.mono ?_); rintro e w1 ⟨⟨v1, rfl, hr1⟩, k1⟩)
        | (go_at_call 47; (refine (slots_put w.heap.size w.heap.size _ v k 1 _ _ _ (HV.out.kept k1) (Touch.own (S := fun _ => False) (Touch.of_kept k1) HO.out (fun _ _ => id)) hr1 (encVal_one _) (by omega) (by have := k1.size; omega) (Nat.le_refl _)).mono ?_); rintro e w2 ⟨rfl, ⟨v2, hb2, ho2⟩, k2⟩))
      go_roundw
      case rel => exact ⟨k + 1, by omega, by go_num, ⟨v2, hb2, by rw [memVals_snoc HM.out]; exact ho2⟩, Below.trans hbl (Below.trans (k1.mono hsz) k2)⟩
      case measure => simp [intOf]; omega
    · obtain rfl : k = n := by omega
      have hf : y.fields.take k = y.fields := List.take_of_length_le (by have := HN.out; omega)
      rw [hf] at hown
      obtain ⟨a1, c1, rfl, hl1, hc1⟩ := own_slice hown
      have d0 := hbv.cell 0
      simp at d0
      clear hf
      go_wp2
      go_ret
      exact ⟨⟨_, rfl, hown⟩, hbl⟩
end Go.Proofs.Ytjljfadfepidjaa
