/-
  The law SlotsStatics of chapter 11, walked.
-/
import Derived.Test.YtjljfadfepidjaaSlots3
import Derived.Test.YtjljfadfepidjaaBig
namespace Go.Proofs.Ytjljfadfepidjaa
open Go.RowKit
set_option maxRecDepth 100000

theorem memVals_map (l : List MemberV) : memVals l = (l.map memVal).flatMap encVal := by
  rw [memVals, List.flatMap_map]

def litT (H : Nat) : TypeV := ⟨⟨#[]⟩, ⟨#[]⟩, 0, .slice none 0 0, [], .slice (some ⟨H, 0, none⟩) 1 1, [⟨8, ⟨#[]⟩, ⟨#[73]⟩, true, 7⟩], .slice none 0 0, []⟩

theorem alive11 (w : World) : Calls Try.prog 8 #[] w fun e w' => e = .returned (.bool true) ∧ Kept w w' := by
  have C := slots_Statics (litT w.heap.size) (w.alloc (.cells #[.int .i64 8, .string ⟨#[]⟩, .string ⟨#[73]⟩, .bool true, .int .i64 7] 55)) (Rd.one w (encMemberV ⟨8, ⟨#[]⟩, ⟨#[73]⟩, true, 7⟩) 55 rfl) (by simp [litT])
  have E : memVals (litT w.heap.size).fields = [.bool false, .int .i64 7] := by
    have : memVal ⟨8, ⟨#[]⟩, ⟨#[73]⟩, true, 7⟩ = ⟨false, 7⟩ := by
      have h : ¬ bits .and .i64 8 8 = 0 := by decide +kernel
      simp [memVal, h]
    simp [memVals, litT, this, encVal]
  rw [E, show (litT w.heap.size).fields.length = 1 from rfl] at C
  clear E
  go_enter Try.func8, Try.ntmps8
  go_wp2_with fail
  refine C.mono ?_
  rintro e w1 ⟨⟨v, rfl, B, hB, hown⟩, k1⟩
  obtain ⟨g, c, rfl, hc1, hc2, _, _, hcell, _⟩ := own_form hown (by decide)
  have c0 := hcell 0 _ rfl
  have c1 := hcell 1 _ rfl
  clear C hown hcell
  have z : zeroOf ⟨#[76, 97, 59]⟩ = ⟨true, 0⟩ := by simp [zeroOf]
  go_wp2_with (go_at_call 34; ((with_reducible refine (slots_Zero _ _).mono ?_); rintro e w2 ⟨rfl, k2⟩; rw [z]))
  go_ret
  exact ⟨rfl, Kept.trans ((Below.refl _ _).alloc (Nat.le_refl _) _) (Kept.trans k1 k2)⟩

theorem Ok.keep {w w' : World} {y : TypeV} (h : y.Ok w) (hk : Kept w w') : y.Ok w' :=
  ⟨h.name_, h.super_, h.access_, h.interfaces_.kept hk, h.interfaces_all, h.interfaces_len, h.fields_.kept hk, fun z hz => ⟨(h.fields_all z hz).access_, (h.fields_all z hz).name_, (h.fields_all z hz).desc_, (h.fields_all z hz).value_⟩, h.fields_len, h.methods_.kept hk, fun z hz => ⟨(h.methods_all z hz).access_, (h.methods_all z hz).name_, (h.methods_all z hz).desc_, (h.methods_all z hz).value_⟩, h.methods_len⟩

theorem Rd.blk {w : World} {g : Nat} {t : TypeId} {cs : List Value} {sz n : Nat} (h : Blk w g t cs.toArray) (hs : cs.length = n * sz) (hn : n ≤ 9223372036854775807) : Rd w sz (.slice (some ⟨g, 0, none⟩) n n) n cs :=
  ⟨hs, _, _, rfl, Nat.le_refl _, hn, fun _ => ⟨_, _, rfl, fun j u hu => by rw [Nat.zero_add, h.cell j]; simpa using hu⟩⟩

end Go.Proofs.Ytjljfadfepidjaa
