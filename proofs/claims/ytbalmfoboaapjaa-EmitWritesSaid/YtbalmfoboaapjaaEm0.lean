/-
  A class file's bytes, written: plain, without a program in sight.
-/
import Derived.Test.YtbalmfoboaapjaaFile0
import Derived.Test.YtbalmfoboaapjaaWordPut
namespace Go.Proofs.Ytbalmfoboaapjaa
set_option linter.unusedVariables false
set_option linter.unusedSimpArgs false
open Go.RowKit
set_option maxRecDepth 100000

/-- A number in so many bytes, the highest first. -/
def beB : Nat → Int → List UInt8
  | 0, _ => []
  | k + 1, v => byteOf v k :: beB k v
def twoB (l : List Int) : List UInt8 := l.flatMap (beB 2)
def constB (c : ConstC) : List UInt8 := beB 1 c.tag ++ (if c.tag = 1 then beB 2 c.text.size ++ c.text.data.toList else if c.tag = 3 then beB 4 c.num else if c.tag = 7 then beB 2 c.a else twoB [c.a, c.b])
def fieldB (value : Int) (f : FieldC) : List UInt8 := twoB [f.access, f.name, f.desc] ++ (if f.value = 0 then beB 2 0 else twoB [1, value] ++ beB 4 2 ++ beB 2 f.value)
def trapB (t : TrapC) : List UInt8 := twoB [t.fr, t.to, t.at_, t.ty]
def codeB (m : MethC) : List UInt8 := twoB [m.stack, m.locals] ++ beB 4 m.code.length ++ m.code ++ beB 2 m.traps.length ++ m.traps.flatMap trapB ++ beB 2 0
def methB (code : Int) (m : MethC) : List UInt8 := twoB [m.access, m.name, m.desc] ++ (if m.has = true then twoB [1, code] ++ beB 4 (12 + m.code.length + 8 * m.traps.length) ++ codeB m else beB 2 0)
/-- The first constant that is a Utf8 with a text; 0: none. -/
def namedC (pool : List ConstC) (s : ByteArray) : Nat := match pool with
  | [] => 0
  | c :: l => if c.tag = 1 ∧ c.text = s then 1 else if namedC l s = 0 then 0 else namedC l s + 1
def classB (c : ClassC) : List UInt8 := beB 4 3405691582 ++ twoB [c.minor, c.major, (c.pool.length : Int) + 1] ++ c.pool.flatMap constB ++ twoB [c.access, c.this, c.super, (c.ifaces.length : Int)] ++ twoB c.ifaces ++
  beB 2 c.fields.length ++ c.fields.flatMap (fieldB (namedC c.pool valueS)) ++ beB 2 c.methods.length ++ c.methods.flatMap (methB (namedC c.pool codeS)) ++ beB 2 0
def twoC (n : Int) : Prop := 0 ≤ n ∧ n ≤ 65535
instance (n : Int) : Decidable (twoC n) := inferInstanceAs (Decidable (_ ∧ _))
def kindC (t : Int) : Prop := t = 1 ∨ t = 3 ∨ t = 7 ∨ (9 ≤ t ∧ t ≤ 12)
instance (n : Int) : Decidable (kindC n) := inferInstanceAs (Decidable (_ ∨ _))
/-- What a constant of a kind may have. -/
def fairC (c : ConstC) : Prop := twoC c.a ∧ twoC c.b ∧ c.text.size ≤ 65535 ∧ (-2147483648 ≤ c.num ∧ c.num ≤ 2147483647) ∧ (c.tag ≠ 1 → c.text.size = 0) ∧ (c.tag ≠ 3 → c.num = 0) ∧ (c.tag = 1 ∨ c.tag = 3 → c.a = 0) ∧ (c.tag = 1 ∨ c.tag = 3 ∨ c.tag = 7 → c.b = 0)
instance (c : ConstC) : Decidable (fairC c) := inferInstanceAs (Decidable (_ ∧ _))
def fairF (f : FieldC) : Prop := twoC f.access ∧ twoC f.name ∧ twoC f.desc ∧ twoC f.value
instance (f : FieldC) : Decidable (fairF f) := inferInstanceAs (Decidable (_ ∧ _))
def fairT (t : TrapC) : Prop := twoC t.fr ∧ twoC t.to ∧ twoC t.at_ ∧ twoC t.ty
instance (t : TrapC) : Decidable (fairT t) := inferInstanceAs (Decidable (_ ∧ _))
def fairM (m : MethC) : Prop := twoC m.access ∧ twoC m.name ∧ twoC m.desc ∧ twoC m.stack ∧ twoC m.locals ∧ (∀ t ∈ m.traps, fairT t) ∧ (m.has = false → m.stack = 0 ∧ m.locals = 0 ∧ m.code.length = 0 ∧ m.traps.length = 0)
instance (m : MethC) : Decidable (fairM m) := inferInstanceAs (Decidable (_ ∧ _))
def longC (c : ClassC) : Prop := 1024 < c.pool.length ∨ 64 < c.ifaces.length ∨ 64 < c.fields.length ∨ 64 < c.methods.length ∨ ∃ m ∈ c.methods, 64 < m.traps.length ∨ 4096 < m.code.length
instance (c : ClassC) : Decidable (longC c) := inferInstanceAs (Decidable (_ ∨ _))
def argsC (c : ClassC) : Prop := twoC c.minor ∧ twoC c.major ∧ twoC c.access ∧ twoC c.this ∧ twoC c.super ∧ (∀ i ∈ c.ifaces, twoC i) ∧ (∀ k ∈ c.pool, fairC k) ∧ (∀ f ∈ c.fields, fairF f) ∧ (∀ m ∈ c.methods, fairM m)
instance (c : ClassC) : Decidable (argsC c) := inferInstanceAs (Decidable (_ ∧ _))
def lackC (c : ClassC) : Prop := (∃ f ∈ c.fields, f.value ≠ 0) ∧ namedC c.pool valueS = 0 ∨ (∃ m ∈ c.methods, m.has = true) ∧ namedC c.pool codeS = 0
instance (c : ClassC) : Decidable (lackC c) := inferInstanceAs (Decidable (_ ∨ _))
/-- What is wrong with a class that is to be written, but that it is too long. -/
def refusedC (c : ClassC) : Int := if longC c then 2 else if ∃ k ∈ c.pool, ¬ kindC k.tag then 13 else if ¬ argsC c then 1 else if lackC c then 20 else 0
/-- What writing tells. -/
def writeC (c : ClassC) : List UInt8 × Int := if refusedC c ≠ 0 then ([], refusedC c) else if 65536 < (classB c).length then ([], 2) else (classB c, 0)

theorem beB_length (k : Nat) (v : Int) : (beB k v).length = k := by
  induction k with
  | zero => rfl
  | succ k ih => simp [beB, ih]
theorem beN_beB (k : Nat) (v : Int) : ((beN (beB k v) : Nat) : Int) = v % 256 ^ k := by
  have key : ∀ (k : Nat) (a : Nat), (((beB k v).foldl (fun v x => v * 256 + x.toNat) a : Nat) : Int) = a * 256 ^ k + v % 256 ^ k := by
    intro k
    induction k with
    | zero => intro a; simp [beB, Int.emod_one]
    | succ k ih =>
      intro a
      simp only [beB, List.foldl_cons]
      rw [ih]
      have h1 := byteOf_val v k
      push_cast
      rw [h1]
      have h2 : v % 256 ^ (k + 1) = (v / 256 ^ k % 256) * 256 ^ k + v % 256 ^ k := by
        have hp : (0 : Int) ≤ 256 ^ k := Int.le_of_lt (Int.pow_pos (by decide))
        rw [Int.pow_succ, Int.emod_def v (256 ^ k * 256), Int.emod_def (v / 256 ^ k) 256, Int.ediv_ediv_of_nonneg hp, Int.emod_def v (256 ^ k), Int.sub_mul, Int.mul_comm (v / 256 ^ k) (256 ^ k), Int.mul_comm (256 * (v / (256 ^ k * 256))) (256 ^ k), ← Int.mul_assoc]
        omega
      rw [h2, Int.pow_succ, Int.add_mul]
      have h3 : (a : Int) * 256 * 256 ^ k = a * (256 ^ k * 256) := by rw [Int.mul_assoc, Int.mul_comm 256 (256 ^ k)]
      rw [h3, Int.add_assoc]
  have := key k 0
  simpa [beN] using this
theorem beN_beB' {k : Nat} {v : Int} (h0 : 0 ≤ v) (h1 : v < 256 ^ k) : ((beN (beB k v) : Nat) : Int) = v := by
  rw [beN_beB, Int.emod_eq_of_lt h0 h1]

/-- A piece of bytes is read as x. -/
def Eats {α : Type} (f : List UInt8 → PS → Out α) (X : List UInt8) (x : α) : Prop := ∀ (A B : List UInt8) (most named : Int), (A.length : Int) + X.length ≤ most → f (A ++ X ++ B) ⟨A.length, most, named⟩ = .ok x ⟨A.length + X.length, most, named⟩
/-- The same, where no Code bounds it; a Code may stand in it. -/
def EatsF {α : Type} (f : List UInt8 → PS → Out α) (X : List UInt8) (x : α) : Prop := ∀ (A B : List UInt8) (named : Int), (A.length : Int) + X.length ≤ far → ∃ nm, f (A ++ X ++ B) ⟨A.length, far, named⟩ = .ok x ⟨A.length + X.length, far, nm⟩
section
variable {α β : Type} {f : List UInt8 → PS → Out α} {g : α → List UInt8 → PS → Out β} {X Y : List UInt8} {x : α} {y : β}
theorem Eats.toF (h : Eats f X x) : EatsF f X x := fun A B n hm => ⟨n, h A B far n hm⟩
theorem Eats.bind (h : Eats f X x) (k : Eats (g x) Y y) : Eats (fun L s => (f L s).bind fun a t => g a L t) (X ++ Y) y := by
  intro A B most named hm
  rw [List.length_append] at hm
  have h1 := h A (Y ++ B) most named (by omega)
  have h2 := k (A ++ X) B most named (by rw [List.length_append]; omega)
  rw [List.length_append] at h2
  dsimp only
  rw [show A ++ (X ++ Y) ++ B = A ++ X ++ (Y ++ B) by simp, h1, Out.bind_ok]
  rw [show A ++ X ++ Y ++ B = A ++ X ++ (Y ++ B) by simp] at h2
  rw [h2, List.length_append, Nat.add_assoc]
theorem EatsF.bind (h : EatsF f X x) (k : EatsF (g x) Y y) : EatsF (fun L s => (f L s).bind fun a t => g a L t) (X ++ Y) y := by
  intro A B named hm
  rw [List.length_append] at hm
  obtain ⟨n1, h1⟩ := h A (Y ++ B) named (by omega)
  obtain ⟨n2, h2⟩ := k (A ++ X) B n1 (by rw [List.length_append]; omega)
  rw [List.length_append] at h2
  refine ⟨n2, ?_⟩
  dsimp only
  rw [show A ++ (X ++ Y) ++ B = A ++ X ++ (Y ++ B) by simp, h1, Out.bind_ok]
  rw [show A ++ X ++ Y ++ B = A ++ X ++ (Y ++ B) by simp] at h2
  rw [h2, List.length_append, Nat.add_assoc]
theorem Eats.ok (x : α) : Eats (fun _ s => .ok x s) [] x := fun A B most named _ => by simp
theorem EatsF.ok (x : α) : EatsF (fun _ s => .ok x s) [] x := (Eats.ok x).toF
theorem Eats.map (h : Eats f X x) (m : α → β) : Eats (fun L s => (f L s).bind fun a t => .ok (m a) t) X (m x) := by
  have := h.bind (Eats.ok (m x)) (g := fun a _ s => .ok (m a) s)
  rw [List.append_nil] at this
  exact this
theorem EatsF.map (h : EatsF f X x) (m : α → β) : EatsF (fun L s => (f L s).bind fun a t => .ok (m a) t) X (m x) := by
  have := h.bind (EatsF.ok (m x)) (g := fun a _ s => .ok (m a) s)
  rw [List.append_nil] at this
  exact this
end
theorem drop_take_mid (A X B : List UInt8) : ((A ++ X ++ B).drop A.length).take X.length = X := by simp
theorem eats_bytes (X : List UInt8) (n : Int) (hn : n = X.length) : Eats (fun L s => bytesP L n s) X X := by
  subst hn
  intro A B most named hm
  dsimp only
  unfold bytesP
  rw [if_neg (by simp only [List.length_append]; omega), if_neg (by simp only; omega)]
  simp only [Int.toNat_natCast]
  rw [drop_take_mid]
theorem eats_num (k : Nat) (v : Int) (h0 : 0 ≤ v) (h1 : v < 256 ^ k) : Eats (fun L s => numP L k s) (beB k v) v := by
  have := (eats_bytes (beB k v) k (by rw [beB_length])).map (fun l => ((beN l : Nat) : Int))
  rw [beN_beB' h0 h1] at this
  exact this
theorem eats_two {v : Int} (h : twoC v) : Eats (fun L s => numP L 2 s) (beB 2 v) v := eats_num 2 v h.1 (by have := h.2; omega)
theorem eats_four {v : Int} (h0 : 0 ≤ v) (h1 : v < 4294967296) : Eats (fun L s => numP L 4 s) (beB 4 v) v := eats_num 4 v h0 h1
theorem eats_count {v most : Int} (h0 : 0 ≤ v) (h1 : v ≤ most) (h2 : v ≤ 65535) : Eats (fun L s => countP L most s) (beB 2 v) v := by
  intro A B mo named hm
  have h := eats_two (v := v) ⟨h0, h2⟩ A B mo named hm
  dsimp only at h ⊢
  unfold countP
  rw [h, Out.bind_ok, if_neg (by omega)]
theorem eats_many {α β : Type} {f : List UInt8 → PS → Out β} (enc : α → List UInt8) (dec : α → β) : ∀ (l : List α), (∀ x ∈ l, Eats f (enc x) (dec x)) → Eats (fun L s => manyP (f L) l.length s) (l.flatMap enc) (l.map dec)
  | [], _ => Eats.ok []
  | x :: l, h => by
    have h1 := h x (by simp)
    have h2 := eats_many enc dec l fun y hy => h y (by simp [hy])
    have := h1.bind (g := fun a L s => (manyP (f L) l.length s).bind fun r t => .ok (a :: r) t) (h2.map (fun r => dec x :: r))
    rw [List.flatMap_cons]
    exact this
theorem eatsF_many {α β : Type} {f : List UInt8 → PS → Out β} (enc : α → List UInt8) (dec : α → β) : ∀ (l : List α), (∀ x ∈ l, EatsF f (enc x) (dec x)) → EatsF (fun L s => manyP (f L) l.length s) (l.flatMap enc) (l.map dec)
  | [], _ => EatsF.ok []
  | x :: l, h => by
    have h1 := h x (by simp)
    have h2 := eatsF_many enc dec l fun y hy => h y (by simp [hy])
    have := h1.bind (g := fun a L s => (manyP (f L) l.length s).bind fun r t => .ok (a :: r) t) (h2.map (fun r => dec x :: r))
    rw [List.flatMap_cons]
    exact this
end Go.Proofs.Ytbalmfoboaapjaa
