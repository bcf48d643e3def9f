/-
  What Outline tells: plain; and what its loops keep.
-/
import Derived.Test.YtcklmhbcjgiplaaCkY
import Derived.Test.YtcklmhbcjgiplaaClone
import Derived.Test.YtcklmhbcjgiplaaKin0
import Derived.Test.YtcklmhbcjgiplaaApp
namespace Go.Proofs.Ytcklmhbcjgiplaa
set_option linter.unusedVariables false
set_option linter.unusedSimpArgs false
open Go.RowKit
set_option maxRecDepth 100000

def memF (pool : List ConstC) (f : FieldC) : MemberV := ⟨f.access, (textC pool f.name).1, (textC pool f.desc).1, f.value != 0, ((getC pool f.value 3).getD zeroK).num⟩
def memM (pool : List ConstC) (m : MethC) : MemberV := ⟨m.access, (textC pool m.name).1, (textC pool m.desc).1, m.has, 0⟩
/-- A class by names. -/
def outD (c : ClassC) : TD := ⟨(nameC c.pool c.this).1, (nameC c.pool c.super).1, c.access, c.ifaces.map fun n => (nameC c.pool n).1, c.fields.map (memF c.pool), c.methods.map (memM c.pool)⟩
def zeroT : TD := ⟨⟨#[]⟩, ⟨#[]⟩, 0, [], [], []⟩
def outT (c : ClassC) : TD := if checkE c = 0 then outD c else zeroT
def strV (s : ByteArray) : List Value := [.string s]
/-- What a type's rows are: each in memory of its own. -/
structure TyOwn (base : Nat) (T : TD) (vI vF vM : Value) (w : World) : Prop where
  i : w.ownsRow base 9 1 vI T.interfaces.length (T.interfaces.flatMap strV)
  f : w.ownsRow base 63 5 vF T.fields.length (T.fields.flatMap encMemberV)
  m : w.ownsRow base 63 5 vM T.methods.length (T.methods.flatMap encMemberV)
def OutG (c : ClassC) (w : World) (e : Ending) (w' : World) : Prop :=
  ∃ vI vF vM, e = .returned (.tuple #[.agg #[.string (outT c).name, .string (outT c).super, .int .i64 (outT c).access, vI, vF, vM], .int .i64 (checkE c)]) ∧ TyOwn w.heap.size (outT c) vI vF vM w' ∧ Kept w w'
theorem own_nil_ (w : World) (base : Nat) (e : TypeId) (sz : Nat) : w.ownsRow base e sz (.slice none 0 0) 0 [] := ⟨by simp, .inl ⟨rfl, rfl⟩⟩
theorem TyOwn.zero (base : Nat) (w : World) : TyOwn base zeroT (.slice none 0 0) (.slice none 0 0) (.slice none 0 0) w := ⟨own_nil_ _ _ _ _, own_nil_ _ _ _ _, own_nil_ _ _ _ _⟩
theorem outT_bad {c : ClassC} (h : checkE c ≠ 0) : outT c = zeroT := by unfold outT; rw [if_neg h]
theorem outT_good {c : ClassC} (h : checkE c = 0) : outT c = outD c := by unfold outT; rw [if_pos h]
/-- A name or descriptor that is right is short. -/
theorem getC_zero (pool : List ConstC) (t : Int) : ((getC pool 0 t).getD zeroK).num = 0 := by
  unfold getC
  rw [if_neg (by omega)]
  rfl
theorem fieldsE_all {pool : List ConstC} {ac : Int} : ∀ {l : List FieldC} {seen : List (ByteArray × ByteArray)}, fieldsE pool ac seen l = 0 → ∀ f ∈ l, ∃ s, fieldE pool ac s f = 0
  | [], _, _, f, hf => by cases hf
  | x :: l, seen, h, f, hf => by
    rw [fieldsE_cons] at h
    by_cases h0 : fieldE pool ac seen x = 0
    · rw [if_pos h0] at h
      rcases List.mem_cons.1 hf with rfl | hf
      · exact ⟨_, h0⟩
      · exact fieldsE_all h f hf
    · rw [if_neg h0] at h
      exact absurd h h0
theorem methsE_all {pool : List ConstC} {ac : Int} : ∀ {l : List MethC} {seen : List (ByteArray × ByteArray)}, methsE pool ac seen l = 0 → ∀ f ∈ l, ∃ s, methE pool ac s f = 0
  | [], _, _, f, hf => by cases hf
  | x :: l, seen, h, f, hf => by
    rw [methsE_cons] at h
    by_cases h0 : methE pool ac seen x = 0
    · rw [if_pos h0] at h
      rcases List.mem_cons.1 hf with rfl | hf
      · exact ⟨_, h0⟩
      · exact methsE_all h f hf
    · rw [if_neg h0] at h
      exact absurd h h0
theorem checkE_parts {c : ClassC} (h : checkE c = 0) : muchB c = false ∧ poolE c.pool c.pool = 0 ∧ headE c = 0 ∧ fieldsE c.pool c.access [] c.fields = 0 ∧ methsE c.pool c.access [] c.methods = 0 := by
  unfold checkE at h
  cases hm : muchB c with
  | true => rw [hm, if_pos rfl] at h; cases h
  | false =>
    rw [hm, if_neg (by decide)] at h
    by_cases h1 : c.major < 45 ∨ 52 < c.major
    · rw [if_pos h1] at h; cases h
    · rw [if_neg h1] at h
      by_cases h2 : poolE c.pool c.pool ≠ 0
      · rw [if_pos h2] at h; exact absurd h h2
      · rw [if_neg h2] at h
        by_cases h3 : headE c ≠ 0
        · rw [if_pos h3] at h; exact absurd h h3
        · rw [if_neg h3] at h
          by_cases h4 : fieldsE c.pool c.access [] c.fields ≠ 0
          · rw [if_pos h4] at h; exact absurd h h4
          · rw [if_neg h4] at h
            exact ⟨rfl, Decidable.not_not.1 h2, Decidable.not_not.1 h3, Decidable.not_not.1 h4, h⟩
/-- What the loops of Outline keep. -/
structure OutI (w : World) (gz gb gt : Nat) (cv : Array Value) (s1 s2 : ByteArray) (ac : Int) (vI vF vM : Value) (nI nF nM : Nat) (xI xF xM : List Value) (wr : World) : Prop where
  cls : Blk wr w.heap.size 27 cv
  zero : Blk wr gz 36 #[.string ⟨#[]⟩, .string ⟨#[]⟩, .int .i64 0, .slice none 0 0, .slice none 0 0, .slice none 0 0]
  book : Blk wr gb 74 cv
  typ : Blk wr gt 36 #[.string s1, .string s2, .int .i64 ac, vI, vF, vM]
  rI : wr.ownsRow w.heap.size 9 1 vI nI xI
  rF : wr.ownsRow w.heap.size 63 5 vF nF xF
  rM : wr.ownsRow w.heap.size 63 5 vM nM xM
  far : ∀ k, vF.ownBlock = some k → ¬ vM.ownBlock = some k
  kept : Kept w wr
  gtw : w.heap.size ≤ gt
  gzt : gz ≠ gt
theorem OutI.keep {w : World} {gz gb gt : Nat} {cv : Array Value} {s1 s2 : ByteArray} {ac : Int} {vI vF vM : Value} {nI nF nM : Nat} {xI xF xM : List Value} {wr wx : World} (h : OutI w gz gb gt cv s1 s2 ac vI vF vM nI nF nM xI xF xM wr) (hk : Kept wr wx) : OutI w gz gb gt cv s1 s2 ac vI vF vM nI nF nM xI xF xM wx :=
  ⟨h.cls.kept hk, h.zero.kept hk, h.book.kept hk, h.typ.kept hk, (Touch.of_kept (S := fun _ => False) hk).own h.rI fun _ _ h => h, (Touch.of_kept (S := fun _ => False) hk).own h.rF fun _ _ h => h, (Touch.of_kept (S := fun _ => False) hk).own h.rM fun _ _ h => h, h.far, Kept.trans h.kept hk, h.gtw, h.gzt⟩
theorem own_awayO {w : World} {base : Nat} {e t : TypeId} {sz n g : Nat} {v : Value} {xs : List Value} {cs : Array Value} (ho : w.ownsRow base e sz v n xs) (hb : Blk w g t cs) (hne : e ≠ t) (j : Nat) (u : Value) : (w.setCell ⟨g, j, none⟩ u).ownsRow base e sz v n xs :=
  Touch.own (S := fun b => b = g) ((Touch.refl (fun b => b = g) w).setCell (p := ⟨g, j, none⟩) (.inl rfl) u) ho fun k hk e => own_ne ho hb hne k hk e
theorem own_ownO {w : World} {base base' sz sz' n n' : Nat} {e e' : TypeId} {v v' : Value} {xs xs' : List Value} (h : w.ownsRow base e sz v n xs) (h' : w.ownsRow base' e' sz' v' n' xs') (hne : e ≠ e') : ∀ k, v.ownBlock = some k → ¬ v'.ownBlock = some k := by
  intro k hk hk'
  rcases h'.2 with ⟨rfl, _⟩ | ⟨g, cap, cur, rfl, _, hh, _⟩
  · cases hk'
  · have : g = k := by simpa [Value.ownBlock] using hk'
    subst this
    exact own_ne h (show Blk w g e' cur from hh) hne g hk rfl
section
variable {w : World} {gz gb gt : Nat} {cv : Array Value} {s1 s2 : ByteArray} {ac : Int} {vI vF vM v' : Value} {nI nF nM n' : Nat} {xI xF xM x' : List Value} {wr wx : World}
/-- A row of names has grown, and is stored. -/
theorem OutI.pushI (h : OutI w gz gb gt cv s1 s2 ac vI vF vM nI nF nM xI xF xM wr) (ht : Touch (fun b => vI.ownBlock = some b) wr wx) (ho : wx.ownsRow w.heap.size 9 1 v' n' x') :
    OutI w gz gb gt cv s1 s2 ac v' vF vM n' nF nM x' xF xM (wx.setCell ⟨gt, 3, none⟩ v') := by
  have t1 := h.typ.touch ht (fun e => own_ne h.rI h.typ (by decide) _ e rfl)
  have b1 := h.cls.touch ht (fun e => own_ne h.rI h.cls (by decide) _ e rfl)
  have b2 := h.zero.touch ht (fun e => own_ne h.rI h.zero (by decide) _ e rfl)
  have b3 := h.book.touch ht (fun e => own_ne h.rI h.book (by decide) _ e rfl)
  refine ⟨b1.far (p := ⟨gt, 3, none⟩) (Blk.ne_ b1 t1 (by decide)) _, b2.far (p := ⟨gt, 3, none⟩) h.gzt _, b3.far (p := ⟨gt, 3, none⟩) (Blk.ne_ b3 t1 (by decide)) _, t1.set_ 3 _, own_awayO ho t1 (by decide) 3 _, own_awayO (ht.own h.rF (own_ownO h.rF h.rI (by decide))) t1 (by decide) 3 _, own_awayO (ht.own h.rM (own_ownO h.rM h.rI (by decide))) t1 (by decide) 3 _, h.far, ?_, h.gtw, h.gzt⟩
  exact (Below.trans h.kept (ht.below (fun b hb => (h.rI.lt b hb).1) h.kept.size)).setCell (p := ⟨gt, 3, none⟩) h.gtw _
theorem OutI.pushF (h : OutI w gz gb gt cv s1 s2 ac vI vF vM nI nF nM xI xF xM wr) (hm : vM = .slice none 0 0) (ht : Touch (fun b => vF.ownBlock = some b) wr wx) (ho : wx.ownsRow w.heap.size 63 5 v' n' x') :
    OutI w gz gb gt cv s1 s2 ac vI v' vM nI n' nM xI x' xM (wx.setCell ⟨gt, 4, none⟩ v') := by
  have t1 := h.typ.touch ht (fun e => own_ne h.rF h.typ (by decide) _ e rfl)
  have b1 := h.cls.touch ht (fun e => own_ne h.rF h.cls (by decide) _ e rfl)
  have b2 := h.zero.touch ht (fun e => own_ne h.rF h.zero (by decide) _ e rfl)
  have b3 := h.book.touch ht (fun e => own_ne h.rF h.book (by decide) _ e rfl)
  refine ⟨b1.far (p := ⟨gt, 4, none⟩) (Blk.ne_ b1 t1 (by decide)) _, b2.far (p := ⟨gt, 4, none⟩) h.gzt _, b3.far (p := ⟨gt, 4, none⟩) (Blk.ne_ b3 t1 (by decide)) _, t1.set_ 4 _, own_awayO (ht.own h.rI (own_ownO h.rI h.rF (by decide))) t1 (by decide) 4 _, own_awayO ho t1 (by decide) 4 _, own_awayO (ht.own h.rM (fun k hk => by rw [hm] at hk; cases hk)) t1 (by decide) 4 _, (fun k _ hk => by rw [hm] at hk; cases hk), ?_, h.gtw, h.gzt⟩
  exact (Below.trans h.kept (ht.below (fun b hb => (h.rF.lt b hb).1) h.kept.size)).setCell (p := ⟨gt, 4, none⟩) h.gtw _
theorem OutI.pushM (h : OutI w gz gb gt cv s1 s2 ac vI vF vM nI nF nM xI xF xM wr) (ht : Touch (fun b => vM.ownBlock = some b) wr wx) (ho : wx.ownsRow w.heap.size 63 5 v' n' x') (hv : ∀ k, v'.ownBlock = some k → vM.ownBlock = some k ∨ wr.heap.size ≤ k) :
    OutI w gz gb gt cv s1 s2 ac vI vF v' nI nF n' xI xF x' (wx.setCell ⟨gt, 5, none⟩ v') := by
  have t1 := h.typ.touch ht (fun e => own_ne h.rM h.typ (by decide) _ e rfl)
  have b1 := h.cls.touch ht (fun e => own_ne h.rM h.cls (by decide) _ e rfl)
  have b2 := h.zero.touch ht (fun e => own_ne h.rM h.zero (by decide) _ e rfl)
  have b3 := h.book.touch ht (fun e => own_ne h.rM h.book (by decide) _ e rfl)
  refine ⟨b1.far (p := ⟨gt, 5, none⟩) (Blk.ne_ b1 t1 (by decide)) _, b2.far (p := ⟨gt, 5, none⟩) h.gzt _, b3.far (p := ⟨gt, 5, none⟩) (Blk.ne_ b3 t1 (by decide)) _, t1.set_ 5 _, own_awayO (ht.own h.rI (own_ownO h.rI h.rM (by decide))) t1 (by decide) 5 _, own_awayO (ht.own h.rF (fun k hk => h.far k hk)) t1 (by decide) 5 _, own_awayO ho t1 (by decide) 5 _, ?_, ?_, h.gtw, h.gzt⟩
  · intro k hk hk'
    rcases hv k hk' with h1 | h1
    · exact h.far k hk h1
    · have := (h.rF.lt k hk).2
      omega
  · exact (Below.trans h.kept (ht.below (fun b hb => (h.rM.lt b hb).1) h.kept.size)).setCell (p := ⟨gt, 5, none⟩) h.gtw _
end
end Go.Proofs.Ytcklmhbcjgiplaa
