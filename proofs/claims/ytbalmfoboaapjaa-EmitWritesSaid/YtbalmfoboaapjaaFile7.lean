/-
  Package file by contract: attributes of which one is told.
-/
import Derived.Test.YtbalmfoboaapjaaFile5
namespace Go.Proofs.Ytbalmfoboaapjaa
set_option linter.unusedVariables false
set_option linter.unusedSimpArgs false
open Go.RowKit
set_option maxRecDepth 100000

theorem strb_eq {a b : ByteArray} (h : a = b) : (a.toList == b.toList) = true := by rw [h]; simp
theorem strb_ne {a b : ByteArray} (h : ¬ a = b) : (a.toList == b.toList) = false := by
  rw [beq_eq_false_iff_ne]
  intro e
  rw [ByteArray.toList_eq, ByteArray.toList_eq] at e
  exact h (ByteArray.ext (Array.toList_inj.1 e))
theorem strb_isEmpty {a : ByteArray} (h : a.size ≠ 0) : a.toList.isEmpty = false := by
  rw [ByteArray.toList_eq]
  cases a with
  | mk d => simp [ByteArray.size] at h; simpa using h
theorem call_enter {P : Program} {f : FuncId} {fn : Func} {c : Code} (hf : P.funcs[f]? = some fn) (hname : (fn.name == "runtime.NumGoroutine") = false) (hb : fn.body = some c) (args : Array Value) (w : World) : (callFunc f args).run P w = .ok (.enter f args) w := by
  have h1 : fn.name ≠ "runtime.NumGoroutine" := by simpa using hname
  simp [callFunc, hf, h1, hb]
/-- Whether it was told or not. -/
def Told {σ : Type} (J : Bool → σ → World → Prop) (y : σ) (w : World) : Prop := ∃ sb, J sb y w
def TellG {σ : Type} (g B : Nat) (L : List UInt8) (vb : Value) (pool : List ConstC) (vp : Value) (S : Nat → Prop) (J : σ → World → Prop) (w : World) (y : σ) (s' : PS) (e : Ending) (w' : World) : Prop :=
  e = .returned (.tuple #[]) ∧ RS w' g B L vb pool vp s' ∧ Touch S w w' ∧ J y w'

set_option maxHeartbeats 4000000 in
theorem file_attrs {σ : Type} (g B : Nat) (L : List UInt8) (vb : Value) (pool : List ConstC) (vp : Value) (want : ByteArray) (hw : want.size ≠ 0) (tell : σ → Int → Int → PS → Out σ) (F : Nat) (caps : Array Value) (hF : ∀ args w, Sem.run Try.prog (callFunc F args) w = .ok (.enter F args) w) (S : Nat → Prop) (hS : ∀ b, b = g → S b) (J : Bool → σ → World → Prop)
    (hJ : ∀ sb x w w', J sb x w → Touch (fun b => b = g) w w' → J sb x w')
    (hT : ∀ x (p : Nat) long s w, RS w g B L vb pool vp s → J false x w → p ≤ 65536 → 0 ≤ long → long ≤ 4294967295 → Calls Try.prog F (#[.int .i64 p, .int .i64 long] ++ caps) w (Ans (tell x p long s) S w (TellG g B L vb pool vp S (J true) w)))
    (x : σ) (s : PS) (w : World) (h : RS w g B L vb pool vp s) (hj : J false x w) :
    Calls Try.prog 44 #[.pointer (some ⟨g, 0, none⟩), .string want, .func (.func F) #[] caps] w (Ans (attrsP L pool want tell x s) S w (TellG g B L vb pool vp S (Told J) w)) := by
  have HW := Lib.hid hw
  have hw1 := strb_isEmpty hw
  have HTELL := Lib.hid hT
  have HJ := Lib.hid hJ
  have HJ0 := Lib.hid hj
  have HS := Lib.hid hS
  have HFC := Lib.hid hF
  clear hF hw hT hJ hj hS
  have C := file_number g B L vb pool vp s 2 w h (by omega) (by omega) 2 rfl
  unfold attrsP
  clear h
  cases hb : numP L 2 s with
  | bad p k =>
    rw [hb, Ans.bad_] at C
    rw [Out.bind_bad, Ans.bad_]
    clear hb
    go_enter Try.func44, Try.ntmps44
    go_wp2_with fail
    refine C.mono ?_
    rintro e w1 ⟨rfl, ht⟩
    exact ⟨rfl, rfl, ht.mono HS.out⟩
  | ok n s1 =>
    rw [hb, Ans.ok_] at C
    rw [Out.bind_ok]
    clear hb
    obtain ⟨R, hR⟩ : ∃ R, R = attrP L pool want tell n.toNat false x s1 := ⟨_, rfl⟩
    rw [← hR]
    have HR := Lib.hid hR
    clear hR
    go_enter Try.func44, Try.ntmps44
    go_wp2_with fail
    refine C.mono ?_
    rintro e w1 ⟨rfl, hrs, ht, hn0, hn1⟩
    have hn2 : n < 65536 := hn1
    obtain ⟨N, rfl⟩ : ∃ N : Nat, n = N := ⟨n.toNat, by omega⟩
    have hN : N < 65536 := by omega
    have HR2 := Lib.hid (show R = attrP L pool want tell N false x s1 by rw [HR.out]; rfl)
    have HRS := Lib.hid hrs
    have HT := Lib.hid ht
    clear hn0 hn1 hn2 hrs ht C HR
    go_wp2_with fail
    go_loopw [6, 13] (fun s6 s13 wr => ∃ (k : Nat) (sk : PS) (sb : Bool) (y : σ), k ≤ N ∧ s6 = .bool sb ∧ s13 = .int .i64 k ∧ RS wr g B L vb pool vp sk ∧ Touch S w wr ∧ J sb y wr ∧ R = attrP L pool want tell (N - k) sb y sk) (fun _ s13 _ => N - (intOf s13).toNat)
    case atStart => exact ⟨0, s1, false, x, by omega, rfl, rfl, HRS.out, HT.out.mono HS.out, HJ.out _ _ _ _ HJ0.out HT.out, HR2.out⟩
    case round =>
      obtain ⟨k, sk, sb, y, hk, rfl, rfl, hrs, ht, hy, hr⟩ := hrel
      clear HRS HT HR2 HJ0
      by_cases hlt : k < N
      · obtain ⟨m, hm⟩ : ∃ m, N - k = m + 1 := ⟨N - k - 1, by omega⟩
        rw [hm] at hr
        have hmk : m = N - (k + 1) := by omega
        have hltI : (k : Int) < (N : Int) := by omega
        have hat : sk.at_ ≤ 65536 := Nat.le_trans hrs.at_ hrs.len
        have CN := file_name g B L vb pool vp sk wr hrs
        cases hb : nameP L pool sk with
        | bad p q =>
          rw [hb, Ans.bad_] at CN
          have HB := Lib.hid (show R = .bad p q by rw [hr, attrP_bad hb])
          have HT := Lib.hid ht
          clear hb hr ht hrs hy
          go_wp2_with fail
          refine CN.mono ?_
          rintro e w2 ⟨rfl, ht2⟩
          refine ⟨rfl, ?_⟩
          rw [HB.out, Ans.bad_]
          exact ⟨rfl, HT.out.trans ht2 fun b hb => .inl (HS.out b hb)⟩
        | ok nm s2 =>
          rw [hb, Ans.ok_] at CN
          have HR2 := Lib.hid hr
          have HT := Lib.hid ht
          have HY := Lib.hid hy
          have HNM := Lib.hid hb
          clear hb hr ht hrs hm hy
          by_cases hnm : nm = want
          · subst hnm
            cases sb with
            | true =>
              have HB := Lib.hid (show R = .bad sk.at_ 24 by rw [HR2.out, attrP_twice HNM.out ⟨rfl, HW.out⟩])
              go_wp2_with fail
              refine CN.mono ?_
              rintro e w2 ⟨rfl, hrs2, ht2⟩
              have HT2 := Lib.hid (HT.out.trans ht2 fun b hb => .inl (HS.out b hb))
              clear CN hrs2 ht2
              go_wp2_with fail
              refine (file_wrong _ _ _ _).mono ?_
              rintro e w3 ⟨rfl, rfl⟩
              refine ⟨rfl, ?_⟩
              rw [HB.out, Ans.bad_]
              exact ⟨rfl, HT2.out⟩
            | false =>
              have HR2 := Lib.hid (HR2.out.trans (attrP_tell HNM.out ⟨rfl, HW.out⟩))
              go_wp2_with fail
              refine CN.mono ?_
              rintro e w2 ⟨rfl, hrs2, ht2⟩
              have HT2 := Lib.hid (HT.out.trans ht2 fun b hb => .inl (HS.out b hb))
              have HY2 := Lib.hid (HJ.out _ _ _ _ HY.out ht2)
              have C4 := file_number g B L vb pool vp s2 4 w2 hrs2 (by omega) (by omega) 4 rfl
              clear CN hrs2 ht2
              cases hb4 : numP L 4 s2 with
              | bad p q =>
                rw [hb4, Ans.bad_] at C4
                have HB := Lib.hid (show R = .bad p q by rw [HR2.out, hb4]; rfl)
                clear hb4
                go_wp2_with fail
                refine C4.mono ?_
                rintro e w3 ⟨rfl, ht3⟩
                refine ⟨rfl, ?_⟩
                rw [HB.out, Ans.bad_]
                exact ⟨rfl, HT2.out.trans ht3 fun b hb => .inl (HS.out b hb)⟩
              | ok long s3 =>
                rw [hb4, Ans.ok_] at C4
                have HR3 := Lib.hid (HR2.out.trans (by rw [hb4, Out.bind_ok]))
                clear hb4
                go_wp2_with fail
                refine C4.mono ?_
                rintro e w3 ⟨rfl, hrs3, ht3, hl0, hl1⟩
                have hl2 : long ≤ 4294967295 := by have : long < 4294967296 := hl1; omega
                have HT3 := Lib.hid (HT2.out.trans ht3 fun b hb => .inl (HS.out b hb))
                have C5 := HTELL.out y sk.at_ long s3 w3 hrs3 (HJ.out _ _ _ _ HY2.out ht3) hat hl0 hl2
                clear C4 hrs3 ht3 hl1
                cases hb5 : tell y sk.at_ long s3 with
                | bad p q =>
                  rw [hb5, Ans.bad_] at C5
                  have HB := Lib.hid (show R = .bad p q by rw [HR3.out, hb5]; rfl)
                  clear hb5
                  go_wp2_with fail
                  rw [HFC.out]
                  refine Calls.mono C5 ?_
                  rintro e w4 ⟨rfl, ht4⟩
                  refine ⟨rfl, ?_⟩
                  rw [HB.out, Ans.bad_]
                  exact ⟨rfl, HT3.out.trans ht4 fun b hb => .inl hb⟩
                | ok y' s4 =>
                  rw [hb5, Ans.ok_] at C5
                  have HR4 := Lib.hid (HR3.out.trans (by rw [hb5, Out.bind_ok]))
                  clear hb5
                  go_wp2_with fail
                  rw [HFC.out]
                  refine Calls.mono C5 ?_
                  rintro e w4 ⟨rfl, hrs4, ht4, hy4⟩
                  have HT4 := Lib.hid (HT3.out.trans ht4 fun b hb => .inl hb)
                  have HRS4 := Lib.hid hrs4
                  have HY4 := Lib.hid hy4
                  clear C5 hrs4 ht4 hy4
                  go_wp2_with fail
                  go_roundw
                  case rel => exact ⟨k + 1, s4, true, y', by omega, rfl, by go_num, HRS4.out, HT4.out, HY4.out, by rw [HR4.out, hmk]⟩
                  case measure => simp [intOf]; omega
          · have HR2 := Lib.hid (HR2.out.trans (attrP_pass HNM.out (fun e => hnm e.1)))
            have hne := strb_ne hnm
            clear hnm
            go_wp2_with fail
            refine CN.mono ?_
            rintro e w2 ⟨rfl, hrs2, ht2⟩
            have HT2 := Lib.hid (HT.out.trans ht2 fun b hb => .inl (HS.out b hb))
            have HY2 := Lib.hid (HJ.out _ _ _ _ HY.out ht2)
            have C4 := file_number g B L vb pool vp s2 4 w2 hrs2 (by omega) (by omega) 4 rfl
            clear CN hrs2 ht2
            cases hb4 : numP L 4 s2 with
            | bad p q =>
              rw [hb4, Ans.bad_] at C4
              have HB := Lib.hid (show R = .bad p q by rw [HR2.out, hb4]; rfl)
              clear hb4
              go_wp2_with fail
              refine C4.mono ?_
              rintro e w3 ⟨rfl, ht3⟩
              refine ⟨rfl, ?_⟩
              rw [HB.out, Ans.bad_]
              exact ⟨rfl, HT2.out.trans ht3 fun b hb => .inl (HS.out b hb)⟩
            | ok long s3 =>
              rw [hb4, Ans.ok_] at C4
              have HR3 := Lib.hid (HR2.out.trans (by rw [hb4, Out.bind_ok]))
              clear hb4
              go_wp2_with fail
              refine C4.mono ?_
              rintro e w3 ⟨rfl, hrs3, ht3, hl0, hl1⟩
              have hl2 : long ≤ 4294967295 := by have : long < 4294967296 := hl1; omega
              have HT3 := Lib.hid (HT2.out.trans ht3 fun b hb => .inl (HS.out b hb))
              have HY3 := Lib.hid (HJ.out _ _ _ _ HY2.out ht3)
              have C5 := file_bytes g B L vb pool vp s3 long w3 hrs3 ⟨hl0, hl2⟩
              clear C4 hrs3 ht3 hl1
              cases hb5 : bytesP L long s3 with
              | bad p q =>
                rw [hb5, Ans.bad_] at C5
                have HB := Lib.hid (show R = .bad p q by rw [HR3.out, hb5]; rfl)
                clear hb5
                go_wp2_with fail
                refine C5.mono ?_
                rintro e w4 ⟨rfl, ht4⟩
                refine ⟨rfl, ?_⟩
                rw [HB.out, Ans.bad_]
                exact ⟨rfl, HT3.out.trans ht4 fun b hb => .inl (HS.out b hb)⟩
              | ok l s4 =>
                rw [hb5, Ans.ok_] at C5
                have HR4 := Lib.hid (HR3.out.trans (by rw [hb5, Out.bind_ok]))
                clear hb5
                go_wp2_with fail
                refine C5.mono ?_
                rintro e w4 ⟨v, rfl, -, hrs4, ht4, -⟩
                have HT4 := Lib.hid (HT3.out.trans ht4 fun b hb => .inl (HS.out b hb))
                have HY4 := Lib.hid (HJ.out _ _ _ _ HY3.out ht4)
                have HRS4 := Lib.hid hrs4
                clear C5 hrs4 ht4
                go_wp2_with fail
                go_roundw
                case rel => exact ⟨k + 1, s4, sb, y, by omega, rfl, by go_num, HRS4.out, HT4.out, HY4.out, by rw [HR4.out, hmk]⟩
                case measure => simp [intOf]; omega
      · obtain rfl : k = N := by omega
        have HB := Lib.hid (show R = .ok y sk by rw [hr, Nat.sub_self]; rfl)
        have hltI : ¬ (k : Int) < (k : Int) := by omega
        have HT := Lib.hid ht
        have HRS := Lib.hid hrs
        have HY := Lib.hid hy
        clear hr hrs ht hy
        go_wp2_with fail
        refine bodyPost_end (results_none rfl _ _ _) rfl ?_
        rw [HB.out, Ans.ok_]
        exact ⟨rfl, HRS.out, HT.out, ⟨sb, HY.out⟩⟩
end Go.Proofs.Ytbalmfoboaapjaa
