/-
  Package pool by contract, and the document's pool.
-/
import Derived.Test.YtjdldgpkcfigiaaProg
import Derived.Test.YtjdldgpkcfigiaaDict
import Derived.DeepKeys4
import Derived.MapViews
import Derived.StillTailTactics

namespace Go.Proofs.Ytjdldgpkcfigiaa
open Go.RowKit Go.Maps
set_option maxRecDepth 100000

/-- An entry as data. -/
structure EntV where
  st : Int
  err : ByteArray
  cls : ByteArray
  at_ : Int
def EntV.zero : EntV := ⟨0, ⟨#[]⟩, ⟨#[]⟩, 0⟩
def entry (x : EntV) : Value := .agg #[.int .i64 x.st, .string x.err, .string x.cls, .int .i64 x.at_]
def keyP (a : Int) : Value := .agg #[.int .i64 a]
theorem keyP_inj (a b : Int) (h : keyP a = keyP b) : a = b := by simpa [keyP] using h

theorem laidP : laidOutB Try.prog = true := by kernel_rfl
theorem law_key : Keyed Try.prog 81 := Keyed.of_law (deep_law_laid laidP (m := 2) (by omega) (of_decide_eq_true (by kernel_rfl)) (by kernel_rfl) (by rw [Try.underlying81]))
theorem keyLits_one {P : Program} {k e : TypeId} (hk : P.underlying k = some (.array 1 e)) (he : P.underlying e = some (.int .i64)) (ck : P.cellsOf k = 1) (ce : P.cellsOf e = 1) {t : Int} (hw : (Lit.int .i64 t).wf = true) (d : Nat) : P.keyLits (d + 2) k [.int .i64 t] = some [.int .i64 t] := by
  simp [Program.keyLits, hk, he, ck, ce, hw, List.range_succ]
theorem key_some (t : Int) (h1 : -9223372036854775808 ≤ t) (h2 : t ≤ 9223372036854775807) : ∃ l, keyOf Try.prog 81 (keyP t) = some l := by
  have hw : (Lit.int .i64 t).wf = true := WalkArith.wf_i64 ⟨h1, h2⟩
  have hd : Try.prog.keyType 81 = true := by kernel_rfl
  have ck : Try.prog.cellsOf 81 = 1 := by kernel_rfl
  have ce : Try.prog.cellsOf 3 = 1 := by kernel_rfl
  have hf : (keyP t).formed Try.prog 81 = true := by simp [keyP, Value.formed, Try.underlying81, ck]
  obtain ⟨d, hs⟩ : ∃ d, Try.prog.types.size + 1 = d + 2 := ⟨Try.prog.types.size - 1, by have : 1 ≤ Try.prog.types.size := of_decide_eq_true (by kernel_rfl); omega⟩
  have hk := keyLits_one Try.underlying81 Try.underlying3 ck ce hw d
  refine ⟨.string (keyBytes [.int .i64 t]), ?_⟩
  unfold keyOf
  rw [Try.underlying81]
  simp only [hd, hf, Bool.and_self, if_true, hs]
  show (Program.keyLits _ _ _ [Value.int .i64 t]).map _ = _
  rw [hk]
  rfl

def entAt (es : List EntV) (t : Int) : EntV := if 1 ≤ t then (es[(t - 1).toNat]?).getD EntV.zero else EntV.zero
def dictP (es : List EntV) (t : Int) : Option Value := if (entAt es t).st = 0 then none else some (entry (entAt es t))
/-- An open entry is bare. -/
def Bare (es : List EntV) : Prop := ∀ x ∈ es, x.st = 0 → x = EntV.zero
theorem entAt_bare {es : List EntV} (h : Bare es) (t : Int) (h0 : (entAt es t).st = 0) : entAt es t = EntV.zero := by
  unfold entAt at h0 ⊢
  split
  · rename_i ht
    rw [if_pos ht] at h0
    cases he : es[(t - 1).toNat]? with
    | none => rfl
    | some x => rw [he] at h0; exact h x (List.mem_of_getElem? he) h0
  · rfl
theorem dict_look {es : List EntV} (h : Bare es) (t : Int) : (dictP es t).getD (entry EntV.zero) = entry (entAt es t) := by
  unfold dictP
  split
  · rename_i h0; rw [entAt_bare h t h0]; rfl
  · rfl

/-- A pool behind a pointer: its block g, its map's block b. -/
structure IsPool (w : World) (p : Value) (es : List EntV) (g b n : Nat) : Prop where
  ptr : p = .pointer (some ⟨g, 0, none⟩)
  blk : Blk w g 76 #[.int .i64 es.length, .map (some b)]
  dict : Dict Try.prog 81 keyP w b n (dictP es)
  bare : Bare es
  big : es.length ≤ 1024

section
variable {w w' : World} {p : Value} {es : List EntV} {g b n : Nat} {S : Nat → Prop}
theorem IsPool.apart (h : IsPool w p es g b n) (ht : Touch S w w') (hg : ¬ S g) (hb : ¬ S b) : IsPool w' p es g b n := ⟨h.ptr, h.blk.touch ht hg, h.dict.touch ht hb, h.bare, h.big⟩
theorem IsPool.kept (h : IsPool w p es g b n) (hk : Kept w w') : IsPool w' p es g b n := h.apart (Touch.of_kept (S := fun _ => False) hk) id id
end

theorem zeroE (w : World) : (zeroValue 80).run Try.prog w = .ok (entry EntV.zero) w := by kernel_rfl

theorem fld0 (a b c d : Value) (w : World) : (Instr.field 80 (.agg #[a, b, c, d]) 0).run Try.prog w = .ok (.agg #[a, b]) w := by kernel_rfl

/-- What became of an entry. -/
theorem pool_State (w : World) (p : Value) (es : List EntV) (g b n : Nat) (t : Int) (h : IsPool w p es g b n) (h1 : -9223372036854775808 ≤ t) (h2 : t ≤ 9223372036854775807) :
    Calls Try.prog 15 #[p, .int .i64 t] w fun e w' => e = .returned (.agg #[.int .i64 (entAt es t).st, .string (entAt es t).err]) ∧ Kept w w' := by
  obtain ⟨rfl, hb, hd, hf, hbig⟩ := h
  have c1 := hb.cell 1
  simp at c1
  have hg := hb.lt
  obtain ⟨kl, hkl⟩ := key_some t h1 h2
  have HK := Lib.hid hkl
  have hlook := dict_look hf t
  have HL := Lib.hid hlook
  have HD := Lib.hid hd
  obtain ⟨x, hx⟩ : ∃ x, x = entAt es t := ⟨_, rfl⟩
  rw [← hx]
  have HX := Lib.hid hx
  have F0 := fld0
  clear hb hd hf hkl hlook hx hbig
  go_enter Try.func15, Try.ntmps15
  go_wp2_with (at_lookup; refine wpl_look _ rfl _ _ 74 rfl (HD.out.kept ((Below.refl _ _).alloc (Nat.le_refl _) _)) law_key Try.underlying74 (zeroE _) rfl t rfl HK.out (entry x) (by rw [HX.out]; exact HL.out) ?_; unfold entry)
  go_returns
  exact ⟨rfl, (Below.refl _ _).alloc (Nat.le_refl _) _⟩

theorem pool_Target (w : World) (p : Value) (es : List EntV) (g b n : Nat) (t : Int) (h : IsPool w p es g b n) (h1 : -9223372036854775808 ≤ t) (h2 : t ≤ 9223372036854775807) :
    Calls Try.prog 13 #[p, .int .i64 t] w fun e w' => e = .returned (.tuple #[.agg #[.string (entAt es t).cls, .int .i64 (entAt es t).at_], .bool ((entAt es t).st == 1)]) ∧ Kept w w' := by
  obtain ⟨rfl, hb, hd, hf, hbig⟩ := h
  have c1 := hb.cell 1
  simp at c1
  have hg := hb.lt
  obtain ⟨kl, hkl⟩ := key_some t h1 h2
  have HK := Lib.hid hkl
  have hlook := dict_look hf t
  have HL := Lib.hid hlook
  have HD := Lib.hid hd
  obtain ⟨x, hx⟩ : ∃ x, x = entAt es t := ⟨_, rfl⟩
  rw [← hx]
  have HX := Lib.hid hx
  clear hb hd hf hkl hlook hx hbig
  go_enter Try.func13, Try.ntmps13
  go_wp2_with (at_lookup; refine wpl_look _ rfl _ _ 74 rfl (HD.out.kept ((Below.refl _ _).alloc (Nat.le_refl _) _)) law_key Try.underlying74 (zeroE _) rfl t rfl HK.out (entry x) (by rw [HX.out]; exact HL.out) ?_; unfold entry)
  go_region
  all_goals go_wp2
  all_goals go_returns
  all_goals exact ⟨rfl, by first | exact (kept_drewN (((Below.refl _ _).alloc (Nat.le_refl _) _).alloc (by simp) _) 1) | exact (((Below.refl _ _).alloc (Nat.le_refl _) _).alloc (by simp) _)⟩

theorem pool_Len (w : World) (p : Value) (es : List EntV) (g b n : Nat) (h : IsPool w p es g b n) :
    Calls Try.prog 9 #[p] w fun e w' => e = .returned (.int .i64 es.length) ∧ w = w' := by
  obtain ⟨rfl, hb, hd, hf, hbig⟩ := h
  have c0 := hb.cell 0
  simp at c0
  clear hb hd hf
  go_enter Try.func9, Try.ntmps9
  go_wp2
  go_ret
  exact ⟨rfl, rfl⟩

theorem pool_New_bad (w : World) (n : Int) (h : ¬ (0 ≤ n ∧ n ≤ 1024)) :
    Calls Try.prog 7 #[.int .i64 n] w fun e w' => e = .returned (.tuple #[.pointer none, .int .i64 2]) ∧ w = w' := by
  rcases (by omega : n < 0 ∨ (¬ n < 0 ∧ 1024 < n)) with h | h
  all_goals
    go_enter Try.func7, Try.ntmps7
    go_wp2
    go_returns
    exact ⟨rfl, rfl⟩

theorem bare_zero (n : Nat) : Bare (List.replicate n EntV.zero) := fun x hx _ => (List.mem_replicate.1 hx).2
theorem entAt_zero (n : Nat) (t : Int) : entAt (List.replicate n EntV.zero) t = EntV.zero := by
  unfold entAt
  split
  · rw [List.getElem?_replicate]; split <;> rfl
  · rfl
theorem dictP_zero (n : Nat) (t : Int) : dictP (List.replicate n EntV.zero) t = none := by simp only [dictP, entAt_zero]; rfl

theorem blk_atP {w : World} {g : Nat} {t : TypeId} {cs : Array Value} (h : w.heap.size = g) : Blk (w.alloc (.cells cs t)) g t cs := h ▸ Blk.new w t cs
def NewPool (w : World) (n : Nat) (e : Ending) (w' : World) : Prop := ∃ g b, e = .returned (.tuple #[.pointer (some ⟨g, 0, none⟩), .int .i64 0]) ∧ IsPool w' (.pointer (some ⟨g, 0, none⟩)) (List.replicate n EntV.zero) g b 0 ∧ Kept w w' ∧ w.heap.size ≤ g ∧ w.heap.size ≤ b
theorem pool_New (w : World) (n : Nat) (h : n ≤ 1024) : Calls Try.prog 7 #[.int .i64 n] w (NewPool w n) := by
  have hmm := @run_makeMap Try.prog
  have h0 : ¬ (n : Int) < 0 := by omega
  have h1 : ¬ 1024 < (n : Int) := by omega
  go_enter Try.func7, Try.ntmps7
  go_wp2
  go_returns
  refine ⟨w.heap.size + 1, w.heap.size, rfl, ⟨rfl, ?_, ?_, bare_zero n, by simpa using h⟩, ((Below.refl _ _).alloc (Nat.le_refl _) _).alloc (by simp) _, by omega, Nat.le_refl _⟩
  · rw [List.length_replicate]
    exact blk_atP (by simp)
  · exact (((Dict.made Try.prog 81 keyP w).congr (g := dictP (List.replicate n EntV.zero)) fun a _ => (dictP_zero n a).symm).kept ((Below.refl _ _).alloc (Nat.le_refl _) _))
end Go.Proofs.Ytjdldgpkcfigiaa
