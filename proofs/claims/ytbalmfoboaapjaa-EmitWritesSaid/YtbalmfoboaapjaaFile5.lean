/-
  Package file by contract: attributes that are passed over.
-/
import Derived.Test.YtbalmfoboaapjaaFile4
namespace Go.Proofs.Ytbalmfoboaapjaa
set_option linter.unusedVariables false
set_option linter.unusedSimpArgs false
open Go.RowKit
set_option maxRecDepth 100000

theorem strl_eq {s : ByteArray} {l : List UInt8} (h : s.data.toList = l) : (s.toList == l) = true := by rw [ByteArray.toList_eq, h]; simp
def SkipG (g B : Nat) (L : List UInt8) (vb : Value) (pool : List ConstC) (vp : Value) (w : World) (_ : Unit) (s' : PS) (e : Ending) (w' : World) : Prop :=
  e = .returned (.tuple #[]) ∧ RS w' g B L vb pool vp s' ∧ Touch (fun b => b = g) w w'
section
variable {L : List UInt8} {pool : List ConstC} {σ : Type} {want : ByteArray} {tell : σ → Int → Int → PS → Out σ} {k : Nat} {seen : Bool} {x : σ} {s : PS}
theorem attrP_succ : attrP L pool want tell (k + 1) seen x s = (nameP L pool s).bind fun nm s1 =>
    if nm = want ∧ want.size ≠ 0 then
      (if seen = true then .bad s.at_ 24 else (numP L 4 s1).bind fun long s2 => (tell x s.at_ long s2).bind fun y s3 => attrP L pool want tell k true y s3)
    else (numP L 4 s1).bind fun long s2 => (bytesP L long s2).bind fun _ s3 => attrP L pool want tell k seen x s3 := rfl
theorem attrP_bad {p e : Int} (h : nameP L pool s = .bad p e) : attrP L pool want tell (k + 1) seen x s = .bad p e := by rw [attrP_succ, h]; rfl
theorem attrP_pass {nm : ByteArray} {s1 : PS} (h : nameP L pool s = .ok nm s1) (hn : ¬ (nm = want ∧ want.size ≠ 0)) :
    attrP L pool want tell (k + 1) seen x s = (numP L 4 s1).bind fun long s2 => (bytesP L long s2).bind fun _ s3 => attrP L pool want tell k seen x s3 := by
  rw [attrP_succ, h, Out.bind_ok, if_neg hn]
theorem attrP_twice {nm : ByteArray} {s1 : PS} (h : nameP L pool s = .ok nm s1) (hn : nm = want ∧ want.size ≠ 0) : attrP L pool want tell (k + 1) true x s = .bad s.at_ 24 := by
  rw [attrP_succ, h, Out.bind_ok, if_pos hn, if_pos rfl]
theorem attrP_tell {nm : ByteArray} {s1 : PS} (h : nameP L pool s = .ok nm s1) (hn : nm = want ∧ want.size ≠ 0) : attrP L pool want tell (k + 1) false x s = (numP L 4 s1).bind fun long s2 => (tell x s.at_ long s2).bind fun y s3 => attrP L pool want tell k true y s3 := by
  rw [attrP_succ, h, Out.bind_ok, if_pos hn, if_neg (by decide)]
end

set_option maxHeartbeats 4000000 in
theorem file_skip (g B : Nat) (L : List UInt8) (vb : Value) (pool : List ConstC) (vp : Value) (s : PS) (w : World) (h : RS w g B L vb pool vp s) :
    Calls Try.prog 44 #[.pointer (some ⟨g, 0, none⟩), .string ⟨#[]⟩, .nilFunc] w (Ans (skipP L pool s) (fun b => b = g) w (SkipG g B L vb pool vp w)) := by
  have C := file_number g B L vb pool vp s 2 w h (by omega) (by omega) 2 rfl
  unfold skipP attrsP
  clear h
  cases hb : numP L 2 s with
  | bad p k =>
    rw [hb, Ans.bad_] at C
    rw [Out.bind_bad, Ans.bad_]
    clear hb
    go_enter Try.func44, Try.ntmps44
    go_wp2_with fail
    refine C.mono ?_
    rintro e w1 ⟨rfl, ht⟩
    exact ⟨rfl, rfl, ht⟩
  | ok n s1 =>
    rw [hb, Ans.ok_] at C
    rw [Out.bind_ok]
    clear hb
    obtain ⟨R, hR⟩ : ∃ R, R = attrP L pool ⟨#[]⟩ (fun x _ _ t => .ok x t) n.toNat false () s1 := ⟨_, rfl⟩
    rw [← hR]
    have HR := Lib.hid hR
    clear hR
    go_enter Try.func44, Try.ntmps44
    go_wp2_with fail
    refine C.mono ?_
    rintro e w1 ⟨rfl, hrs, ht, hn0, hn1⟩
    have hn2 : n < 65536 := hn1
    obtain ⟨N, rfl⟩ : ∃ N : Nat, n = N := ⟨n.toNat, by omega⟩
    have hN : N < 65536 := by omega
    have HR2 := Lib.hid (show R = attrP L pool ⟨#[]⟩ (fun x _ _ t => .ok x t) N false () s1 by rw [HR.out]; rfl)
    have HRS := Lib.hid hrs
    have HT := Lib.hid ht
    clear hn0 hn1 hn2 hrs ht C HR
    go_wp2_with fail
    go_loopw [6, 13] (fun s6 s13 wr => ∃ (k : Nat) (sk : PS), k ≤ N ∧ s6 = .bool false ∧ s13 = .int .i64 k ∧ RS wr g B L vb pool vp sk ∧ Touch (fun b => b = g) w wr ∧ R = attrP L pool ⟨#[]⟩ (fun x _ _ t => .ok x t) (N - k) false () sk) (fun _ s13 _ => N - (intOf s13).toNat)
    case atStart => exact ⟨0, s1, by omega, rfl, rfl, HRS.out, HT.out, HR2.out⟩
    case round =>
      obtain ⟨k, sk, hk, rfl, rfl, hrs, ht, hr⟩ := hrel
      clear HRS HT HR2
      by_cases hlt : k < N
      · obtain ⟨m, hm⟩ : ∃ m, N - k = m + 1 := ⟨N - k - 1, by omega⟩
        rw [hm] at hr
        have hmk : m = N - (k + 1) := by omega
        have hltI : (k : Int) < (N : Int) := by omega
        have CN := file_name g B L vb pool vp sk wr hrs
        cases hb : nameP L pool sk with
        | bad p q =>
          rw [hb, Ans.bad_] at CN
          have HB := Lib.hid (show R = .bad p q by rw [hr, attrP_bad hb])
          have HT := Lib.hid ht
          clear hb hr ht hrs
          go_wp2_with fail
          refine CN.mono ?_
          rintro e w2 ⟨rfl, ht2⟩
          refine ⟨rfl, ?_⟩
          rw [HB.out, Ans.bad_]
          exact ⟨rfl, HT.out.trans ht2 fun b hb => .inl hb⟩
        | ok nm s2 =>
          rw [hb, Ans.ok_] at CN
          have hr2 := hr.trans (attrP_pass hb (fun e => e.2 rfl))
          have HR2 := Lib.hid hr2
          have HT := Lib.hid ht
          clear hb hr ht hrs hr2 hm
          go_wp2_with fail
          refine CN.mono ?_
          rintro e w2 ⟨rfl, hrs2, ht2⟩
          have HT2 := Lib.hid (HT.out.trans ht2 fun b hb => .inl hb)
          have C4 := file_number g B L vb pool vp s2 4 w2 hrs2 (by omega) (by omega) 4 rfl
          clear CN hrs2 ht2
          cases hb4 : numP L 4 s2 with
          | bad p q =>
            rw [hb4, Ans.bad_] at C4
            have HB := Lib.hid (show R = .bad p q by rw [HR2.out, hb4]; rfl)
            clear hb4
            go_wp2_with fail
            refine C4.mono ?_
            rintro e w3 ⟨rfl, ht3⟩
            refine ⟨rfl, ?_⟩
            rw [HB.out, Ans.bad_]
            exact ⟨rfl, HT2.out.trans ht3 fun b hb => .inl hb⟩
          | ok long s3 =>
            rw [hb4, Ans.ok_] at C4
            have HR3 := Lib.hid (HR2.out.trans (by rw [hb4, Out.bind_ok]))
            clear hb4
            go_wp2_with fail
            refine C4.mono ?_
            rintro e w3 ⟨rfl, hrs3, ht3, hl0, hl1⟩
            have hl2 : long ≤ 4294967295 := by have : long < 4294967296 := hl1; omega
            have HT3 := Lib.hid (HT2.out.trans ht3 fun b hb => .inl hb)
            have C5 := file_bytes g B L vb pool vp s3 long w3 hrs3 ⟨hl0, hl2⟩
            clear C4 hrs3 ht3 hl1
            cases hb5 : bytesP L long s3 with
            | bad p q =>
              rw [hb5, Ans.bad_] at C5
              have HB := Lib.hid (show R = .bad p q by rw [HR3.out, hb5]; rfl)
              clear hb5
              go_wp2_with fail
              refine C5.mono ?_
              rintro e w4 ⟨rfl, ht4⟩
              refine ⟨rfl, ?_⟩
              rw [HB.out, Ans.bad_]
              exact ⟨rfl, HT3.out.trans ht4 fun b hb => .inl hb⟩
            | ok l s4 =>
              rw [hb5, Ans.ok_] at C5
              have HR4 := Lib.hid (HR3.out.trans (by rw [hb5, Out.bind_ok]))
              clear hb5
              go_wp2_with fail
              refine C5.mono ?_
              rintro e w4 ⟨v, rfl, -, hrs4, ht4, -⟩
              have HT4 := Lib.hid (HT3.out.trans ht4 fun b hb => .inl hb)
              have HRS4 := Lib.hid hrs4
              clear C5 hrs4 ht4
              go_wp2_with fail
              go_roundw
              case rel => exact ⟨k + 1, s4, by omega, rfl, by go_num, HRS4.out, HT4.out, by rw [HR4.out, hmk]⟩
              case measure => simp [intOf]; omega
      · obtain rfl : k = N := by omega
        have HB := Lib.hid (show R = .ok () sk by rw [hr, Nat.sub_self]; rfl)
        have hltI : ¬ (k : Int) < (k : Int) := by omega
        have HT := Lib.hid ht
        have HRS := Lib.hid hrs
        clear hr hrs ht
        go_wp2_with fail
        refine bodyPost_end (results_none rfl _ _ _) rfl ?_
        rw [HB.out, Ans.ok_]
        exact ⟨rfl, HRS.out, HT.out⟩
end Go.Proofs.Ytbalmfoboaapjaa
