/-
  What is chosen is neither abstract nor static, and has the name that is asked for: plain.
-/
import Derived.Test.YteblpdcedlaedaaCh5
namespace Go.Proofs.Yteblpdcedlaedaa
open Go.RowKit
set_option maxRecDepth 100000

theorem bits_nat (a : Int) (c : Nat) (hc : c < 4294967296) : bits .and .i64 a (c : Int) = (((BitVec.ofInt 64 a).toNat &&& c : Nat) : Int) := by
  show IntKind.i64.wrap ((BitVec.ofInt 64 a &&& BitVec.ofInt 64 (c : Int)).toNat : Nat) = _
  have h1 : (BitVec.ofInt 64 (c : Int)).toNat = c := by rw [BitVec.toNat_ofInt]; omega
  rw [BitVec.toNat_and, h1]
  have h2 : ((BitVec.ofInt 64 a).toNat &&& c) ≤ c := Nat.and_le_right
  exact IntWalk.i64_in _ (by omega)
theorem flags_1032 {a : Int} (h1 : bits .and .i64 a 1024 = 0) (h2 : bits .and .i64 a 8 = 0) : bits .and .i64 a 1032 = 0 := by
  have e1 : bits .and .i64 a 1024 = (((BitVec.ofInt 64 a).toNat &&& 1024 : Nat) : Int) := bits_nat a 1024 (by omega)
  have e2 : bits .and .i64 a 8 = (((BitVec.ofInt 64 a).toNat &&& 8 : Nat) : Int) := bits_nat a 8 (by omega)
  have e3 : bits .and .i64 a 1032 = (((BitVec.ofInt 64 a).toNat &&& 1032 : Nat) : Int) := bits_nat a 1032 (by omega)
  rw [e1] at h1
  rw [e2] at h2
  rw [e3]
  clear e1 e2 e3
  generalize (BitVec.ofInt 64 a).toNat = n at *
  have h1 : n &&& 1024 = 0 := Int.ofNat.inj h1
  have h2 : n &&& 8 = 0 := Int.ofNat.inj h2
  have h3 : n &&& 1032 = (n &&& 1024) ||| (n &&& 8) := by
    apply Nat.eq_of_testBit_eq
    intro i
    rw [Nat.testBit_or, Nat.testBit_and, Nat.testBit_and, Nat.testBit_and, show (1032 : Nat) = 1024 ||| 8 from rfl, Nat.testBit_or]
    cases n.testBit i <;> simp
  rw [h3, h1, h2]
  rfl
/-- An error that is not empty. -/
def ErrC (e : ByteArray) : Prop := e.toList.isEmpty = false
/-- What may be chosen for a method. -/
structure VOk (D : List TD) (m : MemberV) (g : FV) : Prop where
  fnd : Fnd D g
  nab : bits .and .i64 (accM D g) 1024 = 0
  nm : ∃ m', (metL D g.1)[g.2]? = some m' ∧ m'.name = m.name ∧ m'.desc = m.desc
theorem mth_nm {D : List TD} {c n d : ByteArray} {x : Nat × Int} (h : mth D c n d = some x) : ∃ m', (metL D c)[x.1]? = some m' ∧ m'.name = n ∧ m'.desc = d := by
  obtain ⟨m, -, h2, -, h4, h5, -⟩ := mth_some h
  exact ⟨m, h2, h4, h5⟩
theorem frs_ok {D : List TD} {ts : List ByteArray} {n d : ByteArray} {tk : Int → Bool} {g : FV} (h : frsL D ts n d tk = some g) : Fnd D g ∧ tk (accM D g) = true ∧ ∃ m', (metL D g.1)[g.2]? = some m' ∧ m'.name = n ∧ m'.desc = d := by
  unfold frsL at h
  obtain ⟨s, hs, ho⟩ := List.exists_of_findSome?_eq_some h
  unfold frsF at ho
  obtain ⟨x, hx, h3⟩ := Option.bind_eq_some_iff.1 ho
  split at h3
  · rename_i htk
    obtain rfl : (s, x.1) = g := by simpa using h3
    obtain ⟨a, b⟩ := mth_fnd hx
    exact ⟨a, by rw [b]; exact htk, mth_nm hx⟩
  · cases h3
theorem most_ok {D : List TD} {s n d : ByteArray} {g : FV} (h : g ∈ mostL D s n d) : Fnd D g ∧ bits .and .i64 (accM D g) 10 = 0 ∧ ∃ m', (metL D g.1)[g.2]? = some m' ∧ m'.name = n ∧ m'.desc = d := by
  have h2 := (declL_mem (List.mem_filter.1 h).1).2
  unfold declF at h2
  obtain ⟨x, hx, h3⟩ := Option.bind_eq_some_iff.1 h2
  split at h3
  · rename_i hb
    have he : (g.1, x.1) = g := by simpa using h3
    obtain ⟨a, b⟩ := mth_fnd hx
    rw [he] at a b
    have hn := mth_nm hx
    have hx1 : x.1 = g.2 := congrArg Prod.snd he
    rw [hx1] at hn
    exact ⟨a, by rw [b]; exact hb, hn⟩
  · cases h3
theorem on_cases (D : List TD) (s n d : ByteArray) : (∃ g, onR D s n d = (gv g, ⟨#[]⟩) ∧ Fnd D g ∧ bits .and .i64 (accM D g) 1024 = 0 ∧ bits .and .i64 (accM D g) 8 = 0 ∧ ∃ m', (metL D g.1)[g.2]? = some m' ∧ m'.name = n ∧ m'.desc = d) ∨ ∃ e, onR D s n d = (gz, e) ∧ ErrC e := by
  unfold onR
  match hL : realM D (mostL D s n d) with
  | [] => exact .inr ⟨abB, rfl, by unfold ErrC abB; simp [ByteArray.toList_eq]⟩
  | [g] =>
    left
    have hg : g ∈ realM D (mostL D s n d) := by rw [hL]; simp
    unfold realM at hg
    obtain ⟨h1, h2⟩ := List.mem_filter.1 hg
    obtain ⟨a, b, c⟩ := most_ok h1
    exact ⟨g, rfl, a, by simpa using h2, ((flags_10 _).1 b).1, c⟩
  | _ :: _ :: _ => exact .inr ⟨chB, rfl, by unfold ErrC chB; simp [ByteArray.toList_eq]⟩
theorem told_cases {D : List TD} {f : FV} : (toldR D f.1 (f.2 : Nat) = (gv f, ⟨#[]⟩) ∧ bits .and .i64 (accM D f) 1024 = 0) ∨ ∃ e, toldR D f.1 (f.2 : Nat) = (gz, e) ∧ ErrC e := by
  unfold toldR
  rw [accO_M]
  split
  · rename_i h
    exact .inl ⟨rfl, h⟩
  · exact .inr ⟨abB, rfl, by unfold ErrC abB; simp [ByteArray.toList_eq]⟩
theorem nm_errC : ErrC nmB := by unfold ErrC nmB; simp [ByteArray.toList_eq]
theorem virt_cases {D : List TD} {cls fc : ByteArray} {k : Nat} {m : MemberV} (hm : (metL D fc)[k]? = some m) (hf : Fnd D (fc, k)) : (∃ g, virtR D cls fc (k : Int) = (gv g, ⟨#[]⟩) ∧ VOk D m g ∧ (bits .and .i64 m.access 2 = 0 → bits .and .i64 (accM D g) 8 = 0) ∧ (bits .and .i64 m.access 2 ≠ 0 → g = (fc, k))) ∨ ∃ e, virtR D cls fc (k : Int) = (gz, e) ∧ ErrC e := by
  have hmo : memO D fc (k : Int) = some m := by unfold memO; rw [if_pos (by simp), Int.toNat_natCast]; exact hm
  unfold virtR
  split
  · rw [hmo]
    simp only
    split
    · rename_i h0
      cases hfr : frsL D (chainL D cls) m.name m.desc tkS with
      | some g =>
        obtain ⟨a, b, c⟩ := frs_ok hfr
        simp only
        rcases told_cases (D := D) (f := g) with ⟨h1, h2⟩ | ⟨e, h1, h2⟩
        · refine .inl ⟨g, h1, ⟨a, h2, c⟩, fun _ => ?_, fun h => absurd h0 h⟩
          unfold tkS at b
          rw [Bool.and_eq_true, beq_iff_eq] at b
          exact b.1
        · exact .inr ⟨e, h1, h2⟩
      | none =>
        simp only
        rcases on_cases D cls m.name m.desc with ⟨g, h1, h2, h3, h4, h5⟩ | h
        · exact .inl ⟨g, h1, ⟨h2, h3, h5⟩, fun _ => h4, fun h => absurd h0 h⟩
        · exact .inr h
    · rename_i h0
      rcases told_cases (D := D) (f := (fc, k)) with ⟨h1, h2⟩ | ⟨e, h1, h2⟩
      · exact .inl ⟨(fc, k), h1, ⟨hf, h2, m, hm, rfl, rfl⟩, fun h => absurd h h0, fun _ => rfl⟩
      · exact .inr ⟨e, h1, h2⟩
  · exact .inr ⟨nmB, rfl, nm_errC⟩
theorem iface_cases {D : List TD} {cls fc : ByteArray} {k : Nat} {m : MemberV} (hm : (metL D fc)[k]? = some m) : (∃ g, ifaceR D cls fc (k : Int) = (gv g, ⟨#[]⟩) ∧ VOk D m g ∧ bits .and .i64 (accM D g) 1032 = 0) ∨ ∃ e, ifaceR D cls fc (k : Int) = (gz, e) ∧ ErrC e := by
  have hmo : memO D fc (k : Int) = some m := by unfold memO; rw [if_pos (by simp), Int.toNat_natCast]; exact hm
  unfold ifaceR
  split
  · rw [hmo]
    simp only
    split
    · cases hfr : frsL D (chainL D cls) m.name m.desc tkI with
      | some g =>
        obtain ⟨a, b, c⟩ := frs_ok hfr
        simp only
        split
        · exact .inr ⟨acB, rfl, by unfold ErrC acB; simp [ByteArray.toList_eq]⟩
        · rcases told_cases (D := D) (f := g) with ⟨h1, h2⟩ | ⟨e, h1, h2⟩
          · refine .inl ⟨g, h1, ⟨a, h2, c⟩, flags_1032 h2 ?_⟩
            unfold tkI at b
            simpa using b
          · exact .inr ⟨e, h1, h2⟩
      | none =>
        simp only
        rcases on_cases D cls m.name m.desc with ⟨g, h1, h2, h3, h4, h5⟩ | h
        · exact .inl ⟨g, h1, ⟨h2, h3, h5⟩, flags_1032 h3 h4⟩
        · exact .inr h
    · exact .inr ⟨chB, rfl, by unfold ErrC chB; simp [ByteArray.toList_eq]⟩
  · exact .inr ⟨nmB, rfl, nm_errC⟩
end Go.Proofs.Yteblpdcedlaedaa
