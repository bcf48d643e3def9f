/-
  core.Types by contract.
-/
import Derived.Test.YtmpnieokgeomcaaCoreRef
namespace Go.Proofs.Ytmpnieokgeomcaa
open Go.RowKit
set_option maxRecDepth 100000

theorem blk_atC {w : World} {g : Nat} {t : TypeId} {cs : Array Value} (h : w.heap.size = g) : Blk (w.alloc (.cells cs t)) g t cs := h ▸ Blk.new w t cs

/-- The class above, its name in full. -/
def supB (b : ByteArray) : ByteArray := if b.toList = [] then ⟨#[]⟩ else langB ++ b
theorem sup24 : ∀ k : Fin 24, supB (pr24 k).2 = (pr24R k).2 := by decide +kernel

/-- What 'made' tells. -/
def MadeT (w : World) (a b : ByteArray) (e : Ending) (w' : World) : Prop :=
  ∃ mv, e = .returned (.agg #[.string (langB ++ a), .string (supB b), .int .i64 33, .slice none 0 0, .slice none 0 0, mv]) ∧ w'.ownsRow w.heap.size 31 5 mv 1 (encM initM) ∧ Kept w w'

set_option maxHeartbeats 1000000 in
theorem core_made (w : World) (a b : ByteArray) (ha : a.size ≤ 100) (hb : b.size ≤ 100) : Calls Try.prog 15 #[.agg #[.string a, .string b]] w (MadeT w a b) := by
  have ha2 : 10 + a.size ≤ 9223372036854775807 := by omega
  have hb2 : 10 + b.size ≤ 9223372036854775807 := by omega
  by_cases h : b.toList = []
  · have he : supB b = ⟨#[]⟩ := by rw [supB, if_pos h]
    have HE := Lib.hid he
    clear he ha hb
    go_enter Try.func15, Try.ntmps15
    go_wp2
    go_returns
    exact ⟨.slice (some ⟨w.heap.size + 1 + 1 + 1, 0, none⟩) 1 1, by rw [HE.out]; rfl, own_lit (n := 1) (cs := encM initM) (blk_atC (by simp)) (by omega) rfl (by unfold maxLen; decide), ((((Below.refl _ _).alloc (Nat.le_refl _) _).alloc (by simp) _).alloc (by simp; omega) _).alloc (by simp; omega) _⟩
  · have he : supB b = langB ++ b := by rw [supB, if_neg h]
    have hne : b.toList.isEmpty = false := by simpa using h
    have HE := Lib.hid he
    clear he ha hb
    go_enter Try.func15, Try.ntmps15
    go_wp2
    go_returns
    exact ⟨.slice (some ⟨w.heap.size + 1 + 1 + 1, 0, none⟩) 1 1, by rw [HE.out]; rfl, own_lit (n := 1) (cs := encM initM) (blk_atC (by simp)) (by omega) rfl (by unfold maxLen; decide), ((((Below.refl _ _).alloc (Nat.le_refl _) _).alloc (by simp) _).alloc (by simp; omega) _).alloc (by simp; omega) _⟩

theorem own_baseC {w : World} {b b' : Nat} {e : TypeId} {sz n : Nat} {v : Value} {xs : List Value} (h : w.ownsRow b e sz v n xs) (hb : b' ≤ b) : w.ownsRow b' e sz v n xs :=
  ⟨h.1, h.2.imp id fun ⟨g, cap, cur, hv, hg, hr⟩ => ⟨g, cap, cur, hv, Nat.le_trans hb hg, hr⟩⟩

/-- No two types share their members' row. -/
def FarM (x y : TyC × Value) : Prop := ∀ q, x.2.ownBlock = some q → y.2.ownBlock = some q → False
theorem far_snoc {its : List (TyC × Value)} {x : TyC × Value} (h : its.Pairwise FarM) (hx : ∀ y ∈ its, FarM y x) : (its ++ [x]).Pairwise FarM :=
  List.pairwise_append.2 ⟨h, by simp, fun a ha b hb => by have e : b = x := (by simpa using hb); rw [e]; exact hx a ha⟩
theorem far_new {B : Nat} {w : World} {v : Value} {its : List (TyC × Value)} {x : TyC × Value} (h : IsTypes B w v its) (hx : ∀ q, x.2.ownBlock = some q → w.heap.size ≤ q) : ∀ y ∈ its, FarM y x := fun y hy q h1 h2 => by
  have := ((h.mem y hy).lt q h1).2
  have := hx q h2
  omega
/-- What core.Types tells. -/
def TypesC (w : World) (e : Ending) (w' : World) : Prop := ∃ v its, e = .returned v ∧ IsTypes w.heap.size w' v its ∧ its.map (·.1) = types26 ∧ Kept w w' ∧ its.Pairwise FarM

set_option maxHeartbeats 4000000 in
theorem core_Types (w : World) : Calls Try.prog 10 #[] w (TypesC w) := by
  go_enter Try.func10, Try.ntmps10
  go_wp2_with fail
  refine (core_all w).mono ?_
  rintro e w1 ⟨rfl, k1⟩
  have K1 := Lib.hid k1
  have hz1 := k1.size
  clear k1
  go_wp2_with fail
  go_loopw [2, 6] (fun s2 s6 wr => ∃ (k : Nat) (its : List (TyC × Value)), k ≤ 24 ∧ s6 = .int .i64 k ∧ IsTypes w.heap.size wr s2 its ∧ its.map (·.1) = (List.range k).map tyR ∧ Below w.heap.size w1 wr ∧ its.Pairwise FarM) (fun _ s6 _ => 24 - (intOf s6).toNat)
  case atStart => exact ⟨0, [], by omega, rfl, ⟨World.ownsRow_nil _ _ _ _, by simp⟩, rfl, Below.refl _ _, List.Pairwise.nil⟩
  case round =>
    obtain ⟨k, its, hk, rfl, hT, hm, hB, hF⟩ := hrel
    have HF := Lib.hid hF
    clear hF
    have hlen : its.length = k := by have := congrArg List.length hm; simpa using this
    have hle : its.length ≤ 24 := by omega
    have hbs : w.heap.size ≤ wr.heap.size := Nat.le_trans hz1 hB.size
    obtain ⟨av, cv, rfl, -, -⟩ := own_slice hT.own
    have HT := Lib.hid hT
    have HM := Lib.hid hm
    have HB := Lib.hid hB
    clear hT hm hB
    by_cases hlt : k < 24
    · have hi := fun W => idx24 W k hlt
      have hsz := pr24_small ⟨k, hlt⟩
      have hnm := pr24R_nm ⟨k, hlt⟩
      have hsp := sup24 ⟨k, hlt⟩
      dsimp only at hsz hnm hsp
      obtain ⟨pa, hpa⟩ : ∃ pa, pa = (pr24 k).1 := ⟨_, rfl⟩
      obtain ⟨pb, hpb⟩ : ∃ pb, pb = (pr24 k).2 := ⟨_, rfl⟩
      have hty : ∀ mv, encT (tyR k, mv) = [.string (langB ++ pa), .string (supB pb), .int .i64 33, .slice none 0 0, .slice none 0 0, mv] := by
        intro mv
        unfold encT tyR
        rw [hnm, ← hsp, hpb, hpa]
        rfl
      rw [← hpa, ← hpb] at hi hsz
      have HTY := Lib.hid hty
      have k2 : Kept wr (wr.alloc (.cells #[.string pa, .string pb] 39)) := (Below.refl _ _).alloc (Nat.le_refl _) _
      have K2 := Lib.hid k2
      have C := Lib.hid (core_made (wr.alloc (.cells #[.string pa, .string pb] 39)) pa pb hsz.1 hsz.2)
      clear hnm hsp hpa hpb hsz hty k2 hlen
      go_wp2_with fail
      refine C.out.mono ?_
      rintro e w5 ⟨mv, rfl, hmv, k5⟩
      have K5 := Lib.hid (Kept.trans K2.out k5)
      have hnew := far_new (x := (tyR k, mv)) HT.out (fun q hq => Nat.le_trans K2.out.size (hmv.lt q hq).1)
      have hmv' := own_baseC hmv (Nat.le_trans hbs K2.out.size)
      obtain ⟨am, cm, rfl, -, -⟩ := own_slice hmv'
      have HNEW := Lib.hid (far_snoc HF.out hnew)
      clear hnew
      have MV := Lib.hid hmv'
      have T5 := Lib.hid ((HT.out.kept K5.out))
      have hb5 : w.heap.size ≤ w5.heap.size := Nat.le_trans hbs K5.out.size
      clear hmv hmv' k5 hi
      go_wp2_with (at_builtin; refine wpl_push _ elem_typ rfl _ _ rfl w.heap.size _ its.length _ rfl T5.out.own [.string (langB ++ pa), .string (supB pb), .int .i64 33, .slice none 0 0, .slice none 0 0, .slice am 1 cm] _ rfl rfl (by intro u hu; simp at hu; rcases hu with rfl | rfl | rfl | rfl | rfl <;> rfl) (by omega) (by omega) hb5 ?_; intro v8 w8 ho8 hg8 hb8; have HO8 := Lib.hid ho8; have HG8 := Lib.hid hg8; have HB8 := Lib.hid hb8; obtain ⟨a8, c8, rfl, -, -⟩ := own_slice ho8; clear ho8 hg8 hb8)
      go_roundw
      case rel =>
        refine ⟨k + 1, its ++ [(tyR k, .slice am 1 cm)], by omega, by go_num, ?_, ?_, ?_, HNEW.out⟩
        · have h := T5.out.snoc (t := tyR k) (mv := .slice am 1 cm) MV.out (by rw [HTY.out]; exact HO8.out) HG8.out
          simpa using h
        · rw [List.map_append, HM.out, List.range_succ, List.map_append]
          rfl
        · exact Below.trans HB.out (Below.trans (K5.out.mono hbs) HB8.out)
      case measure => simp [intOf]; omega
    · obtain rfl : k = 24 := by omega
      have KR := Lib.hid (show Kept w wr from Below.trans K1.out HB.out)
      have hk7 : Kept wr (wr.alloc (.cells #[.int .i64 1025, .string ⟨#[114, 117, 110]⟩, .string ⟨#[40, 41, 86]⟩, .bool false, .int .i64 0] 31)) := (Below.refl _ _).alloc (Nat.le_refl _) _
      have K7X := Lib.hid (show Below w.heap.size wr (wr.alloc (.cells #[.int .i64 1025, .string ⟨#[114, 117, 110]⟩, .string ⟨#[40, 41, 86]⟩, .bool false, .int .i64 0] 31)) from hk7.mono hbs)
      have T7 := Lib.hid (HT.out.kept hk7)
      have hm7 : (wr.alloc (.cells #[.int .i64 1025, .string ⟨#[114, 117, 110]⟩, .string ⟨#[40, 41, 86]⟩, .bool false, .int .i64 0] 31)).ownsRow w.heap.size 31 5 (.slice (some ⟨wr.heap.size, 0, none⟩) 1 1) taskT.ms.length (taskT.ms.flatMap encM) := own_lit (Blk.new wr _ _) hbs rfl (by unfold maxLen; decide)
      have M7 := Lib.hid hm7
      have HN7 := Lib.hid (far_snoc HF.out (far_new (x := (taskT, Value.slice (some ⟨wr.heap.size, 0, none⟩) 1 1)) HT.out (fun q hq => by simp [Value.ownBlock] at hq; omega)))
      clear hk7 hm7 hlen
      go_upto_region 9 with (at_builtin; refine wpl_pushH _ elem_typ rfl _ _ rfl w.heap.size _ its.length _ rfl T7.out.own (encT (taskT, .slice (some ⟨wr.heap.size, 0, none⟩) 1 1)) _ (wr.heap.size + 1) rfl (by simp) rfl (by intro u hu; simp [encT] at hu; rcases hu with rfl | rfl | rfl | rfl | rfl <;> rfl) (by omega) (by omega) (by omega) ?_; intro v8 w8 ho8 hg8 hk8 hb8; have HO8 := Lib.hid ho8; have HG8 := Lib.hid hg8; have HB8 := Lib.hid hb8; obtain ⟨a8, c8, rfl, -, -⟩ := own_slice ho8; clear ho8 hg8 hk8 hb8)
      have t8 := T7.out.snoc M7.out HO8.out HG8.out
      have hb8 : w.heap.size ≤ w8.heap.size := Nat.le_trans (Nat.le_trans hbs K7X.out.size) HB8.out.size
      have HN8 := Lib.hid (far_snoc HN7.out (far_new (x := (sysT, Value.slice (some ⟨w8.heap.size, 0, none⟩) 2 2)) t8 (fun q hq => by simp [Value.ownBlock] at hq; omega)))
      have hk8 : Kept w8 (w8.alloc (.cells #[.int .i64 265, .string ⟨#[112, 114, 105, 110, 116]⟩, .string ⟨#[40, 73, 41, 86]⟩, .bool false, .int .i64 0, .int .i64 265, .string ⟨#[115, 116, 97, 114, 116]⟩, .string ⟨#[40, 76, 118, 109, 47, 84, 97, 115, 107, 59, 41, 86]⟩, .bool false, .int .i64 0] 31)) := (Below.refl _ _).alloc (Nat.le_refl _) _
      have K8 := Lib.hid hk8
      have T8 := Lib.hid (t8.kept hk8)
      have hm8 : (w8.alloc (.cells #[.int .i64 265, .string ⟨#[112, 114, 105, 110, 116]⟩, .string ⟨#[40, 73, 41, 86]⟩, .bool false, .int .i64 0, .int .i64 265, .string ⟨#[115, 116, 97, 114, 116]⟩, .string ⟨#[40, 76, 118, 109, 47, 84, 97, 115, 107, 59, 41, 86]⟩, .bool false, .int .i64 0] 31)).ownsRow w.heap.size 31 5 (.slice (some ⟨w8.heap.size, 0, none⟩) 2 2) sysT.ms.length (sysT.ms.flatMap encM) := own_lit (Blk.new w8 _ _) hb8 rfl (by unfold maxLen; decide)
      have M8 := Lib.hid hm8
      have ho8 := (Touch.own (S := fun _ => False) (Touch.of_kept hk8) HO8.out (fun _ _ => id))
      have HO8' := Lib.hid ho8
      clear t8 hk8 hm8 ho8
      go_wp2_with (at_builtin; refine wpl_pushH _ elem_typ rfl _ _ rfl w.heap.size _ (its.length + 1) _ rfl HO8'.out (encT (sysT, .slice (some ⟨w8.heap.size, 0, none⟩) 2 2)) _ (w8.heap.size + 1) rfl (by simp) rfl (by intro u hu; simp [encT] at hu; rcases hu with rfl | rfl | rfl | rfl | rfl <;> rfl) (by omega) (by omega) (by omega) ?_; intro v9 w9 ho9 hg9 hk9 hb9; have HO9 := Lib.hid ho9; have HG9 := Lib.hid hg9; have HB9 := Lib.hid hb9; obtain ⟨a9, c9, rfl, -, -⟩ := own_slice ho9; clear ho9 hg9 hk9 hb9)
      go_ret
      have hlen2 : (its ++ [(taskT, Value.slice (some ⟨wr.heap.size, 0, none⟩) 1 1)]).length = its.length + 1 := by simp
      have t9 := T8.out.snoc (t := sysT) (mv := .slice (some ⟨w8.heap.size, 0, none⟩) 2 2) M8.out (by rw [hlen2]; simpa using HO9.out) HG9.out
      refine ⟨_, its ++ [(taskT, .slice (some ⟨wr.heap.size, 0, none⟩) 1 1)] ++ [(sysT, .slice (some ⟨w8.heap.size, 0, none⟩) 2 2)], rfl, ?_, ?_, ?_, HN8.out⟩
      · exact t9
      · rw [List.map_append, List.map_append, HM.out]
        simp [types26]
      · exact Below.trans KR.out (((K7X.out.trans HB8.out).trans (K8.out.mono hb8)).trans HB9.out)
end Go.Proofs.Ytmpnieokgeomcaa
