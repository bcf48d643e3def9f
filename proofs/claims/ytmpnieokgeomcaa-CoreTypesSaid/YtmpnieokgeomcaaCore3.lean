/-
  Names that begin as the machine's own do.
-/
import Derived.Test.YtmpnieokgeomcaaCore2
namespace Go.Proofs.Ytmpnieokgeomcaa
open Go.RowKit
set_option maxRecDepth 100000

/-- Does a text begin as another one stands? -/
def begins (s p : ByteArray) : Bool := decide (p.size ≤ s.size) && ((s.extract 0 p.size).toList == p.toList)

theorem slite_HasPrefix (s p : ByteArray) (w : World) (hs : s.size ≤ maxLen) (hp : p.size ≤ maxLen) :
    Calls Try.prog 19 #[.string s, .string p] w fun e w' => e = .returned (.bool (begins s p)) ∧ w = w' := by
  unfold maxLen at hs hp
  obtain ⟨n, hn⟩ : ∃ n, n = p.size := ⟨_, rfl⟩
  by_cases h : p.size ≤ s.size
  · obtain ⟨b, hb⟩ : ∃ b, b = ((s.extract 0 p.size).toList == p.toList) := ⟨_, rfl⟩
    have he : begins s p = b := by rw [begins, hb, decide_eq_true h, Bool.true_and]
    have HE := Lib.hid he
    have HB := Lib.hid hb
    clear he hb hn
    go_enter Try.func19, Try.ntmps19
    go_wp2
    go_ret
    exact ⟨by rw [HE.out, HB.out]; rfl, rfl⟩
  · have he : begins s p = false := by rw [begins, decide_eq_false h, Bool.false_and]
    have HE := Lib.hid he
    clear he hn
    go_enter Try.func19, Try.ntmps19
    go_wp2
    go_ret
    exact ⟨by rw [HE.out]; rfl, rfl⟩

theorem strings_HasPrefix (s p : ByteArray) (w : World) (hs : s.size ≤ maxLen) (hp : p.size ≤ maxLen) :
    Calls Try.prog 14 #[.string s, .string p] w fun e w' => e = .returned (.bool (begins s p)) ∧ w = w' := by
  have C := Lib.hid (slite_HasPrefix s p w hs hp)
  clear hs hp
  go_enter Try.func14, Try.ntmps14
  go_wp2_with fail
  refine C.out.mono ?_
  rintro e w' ⟨rfl, rfl⟩
  go_wp2
  go_ret
  exact ⟨rfl, rfl⟩

/-- The two beginnings. -/
def javaB : ByteArray := ⟨#[106, 97, 118, 97, 47]⟩
def vmB : ByteArray := ⟨#[118, 109, 47]⟩
def ownB (s : ByteArray) : Bool := begins s javaB || begins s vmB

theorem core_Own (s : ByteArray) (w : World) (hs : s.size ≤ maxLen) : Calls Try.prog 8 #[.string s] w fun e w' => e = .returned (.bool (ownB s)) ∧ w = w' := by
  have C1 := Lib.hid (strings_HasPrefix s javaB w hs (by unfold maxLen; decide))
  have C2 := Lib.hid (strings_HasPrefix s vmB w hs (by unfold maxLen; decide))
  obtain ⟨b1, hb1⟩ : ∃ b, b = begins s javaB := ⟨_, rfl⟩
  obtain ⟨b2, hb2⟩ : ∃ b, b = begins s vmB := ⟨_, rfl⟩
  have he : ownB s = (b1 || b2) := by rw [ownB, hb1, hb2]
  rw [← hb1] at C1
  rw [← hb2] at C2
  rw [he]
  clear hs hb1 hb2 he
  cases b1 with
  | true =>
    go_enter Try.func8, Try.ntmps8
    go_wp2_with fail
    refine C1.out.mono ?_
    rintro e w' ⟨rfl, rfl⟩
    go_wp2_with fail
    go_ret
    exact ⟨rfl, rfl⟩
  | false =>
    go_enter Try.func8, Try.ntmps8
    go_wp2_with fail
    refine C1.out.mono ?_
    rintro e w' ⟨rfl, rfl⟩
    go_wp2_with fail
    refine C2.out.mono ?_
    rintro e w' ⟨rfl, rfl⟩
    go_wp2_with fail
    go_ret
    exact ⟨by simp, rfl⟩

theorem ref7_Own (s : ByteArray) (w : World) (hs : s.size ≤ maxLen) : Calls Try.prog 9 #[.string s] w fun e w' => e = .returned (.bool (ownB s)) ∧ w = w' := by
  unfold maxLen at hs
  have e1 : begins s javaB = (decide (5 ≤ s.size) && ((s.extract 0 5).toList == (⟨#[106, 97, 118, 97, 47]⟩ : ByteArray).toList)) := rfl
  have e2 : begins s vmB = (decide (3 ≤ s.size) && ((s.extract 0 3).toList == (⟨#[118, 109, 47]⟩ : ByteArray).toList)) := rfl
  have he : ownB s = ((decide (5 ≤ s.size) && ((s.extract 0 5).toList == (⟨#[106, 97, 118, 97, 47]⟩ : ByteArray).toList)) || (decide (3 ≤ s.size) && ((s.extract 0 3).toList == (⟨#[118, 109, 47]⟩ : ByteArray).toList))) := by rw [ownB, e1, e2]
  have t1 : (⟨#[106, 97, 118, 97, 47]⟩ : ByteArray).toList = [106, 97, 118, 97, 47] := by simp
  have t2 : (⟨#[118, 109, 47]⟩ : ByteArray).toList = [118, 109, 47] := by simp
  rw [he, t1, t2]
  clear he e1 e2 t1 t2
  by_cases h5 : 5 ≤ s.size
  · have h3 : 3 ≤ s.size := by omega
    rw [decide_eq_true h5, decide_eq_true h3, Bool.true_and, Bool.true_and]
    by_cases q5 : (s.extract 0 5).toList = [106, 97, 118, 97, 47]
    · have e5 : ((s.extract 0 5).toList == [106, 97, 118, 97, 47]) = true := by rw [q5]; rfl
      rw [e5, Bool.true_or]
      clear e5
      go_enter Try.func9, Try.ntmps9
      go_wp2
      go_ret
      exact ⟨rfl, rfl⟩
    · have e5 : ((s.extract 0 5).toList == [106, 97, 118, 97, 47]) = false := by simpa using q5
      rw [e5, Bool.false_or]
      clear q5
      go_enter Try.func9, Try.ntmps9
      go_wp2
      go_ret
      exact ⟨rfl, rfl⟩
  · rw [decide_eq_false h5, Bool.false_and, Bool.false_or]
    by_cases h3 : 3 ≤ s.size
    · rw [decide_eq_true h3, Bool.true_and]
      go_enter Try.func9, Try.ntmps9
      go_wp2
      go_ret
      exact ⟨rfl, rfl⟩
    · rw [decide_eq_false h3, Bool.false_and]
      go_enter Try.func9, Try.ntmps9
      go_wp2
      go_ret
      exact ⟨rfl, rfl⟩
end Go.Proofs.Ytmpnieokgeomcaa
