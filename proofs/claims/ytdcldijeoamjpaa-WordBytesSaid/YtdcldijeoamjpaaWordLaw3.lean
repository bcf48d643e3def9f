/-
  The law WordBytes of chapter 1, walked.
-/
import Derived.Test.YtdcldijeoamjpaaWordLaw2
import Derived.Deep.RegionWith
import Derived.Deep.RegionHeld2
namespace Go.Proofs.Ytdcldijeoamjpaa
open Go.RowKit

theorem run_strN {P : Program} {w : World} {t e s : TypeId} (ht : P.underlying t = some (.slice e)) (he : P.underlying e = some (.int .u8)) (hs : P.underlying s = some .string) {v : Value} {l : List UInt8} (h : Rd w 1 v l.length (l.map byteV)) :
    ∀ k, (convert t s v).run P (w.drewN k) = .ok (.string ⟨l.toArray⟩) (w.drewN k) := fun k => run_str ht he hs (w := w.drewN k) (h.keep fun _ _ hc => hc)

theorem put_last {w w3 w4 : World} {k : Nat} (h : Kept w w3) (hk : Kept (w3.drewN k) w4) : Kept w w4 := h.trans (Below.trans (kept_drewN (Below.refl _ w3) k) hk)
theorem put_str {w3 w4 : World} {k : Nat} {p : Value} {l : List UInt8} (h : Rd w3 1 p l.length (l.map byteV)) (hk : Kept (w3.drewN k) w4) : Rd w4 1 p l.length (l.map byteV) :=
  h.kept (Below.trans (kept_drewN (Below.refl _ w3) k) hk)

theorem ref1_Signedn (u n : Int) (w : World) (hn : n = 1 ∨ n = 2 ∨ n = 4) :
    Calls Try.prog 16 #[.int .i64 u, .int .i64 (8 * n)] w fun e w' => e = .returned (.int .i64 (sgn n u)) ∧ w = w' := by
  rcases hn with rfl | rfl | rfl
  · exact ref1_Signed8 u w
  · exact ref1_Signed16 u w
  · exact ref1_Signed32 u w

/-- What is known once the bytes have been copied and one more laid behind them. -/
theorem full_facts {w w1 w2 : World} {a : Option Addr} {m c c2 g : Nat} {l : List UInt8} {v1 : Value} (hm : m = l.length) (hr : Rd w 1 (.slice a m c) m (l.map byteV)) (_ : ∀ u ∈ l.map byteV, u.oneCell' = true)
    (hown1 : w1.ownsRow w.heap.size 5 1 v1 m (l.map byteV)) (hg1 : w.grownBy w1 (Value.slice none 0 0).ownBlock)
    (hcs : ∀ j u, (l.map byteV ++ [Value.int .u8 167])[j]? = some u → w2.cell? ⟨g, j, none⟩ = some u) (hb2 : Below w.heap.size w1 w2) (h1 : m ≤ c2) (h2 : c2 ≤ 9223372036854775807) :
    Kept w w2 ∧ Rd w2 1 (.slice (some ⟨g, 0, none⟩) m c2) l.length (l.map byteV) ∧ Rd w2 1 (.slice a m c) l.length (l.map byteV) ∧ w2.cell? ⟨g, m, none⟩ = some (.int .u8 167) := by
  have hk : Kept w w2 := ((Below.refl _ w).grown hg1 (Nat.le_refl _) (by intro k hk; cases hk)).trans hb2
  subst hm
  refine ⟨hk, Rd.mk_ (by simp) h1 h2 fun j u hu => ?_, hr.kept hk, ?_⟩
  · rw [Nat.zero_add]
    exact hcs j u (by rw [List.getElem?_append_left (List.getElem?_eq_some_iff.1 hu).1]; exact hu)
  · exact hcs _ _ (by rw [List.getElem?_append_right (by simp)]; simp)
theorem put_facts {w w2 w3 : World} {a : Option Addr} {m c c2 g : Nat} {l : List UInt8} (hk : Kept w w2) (hf : Rd w2 1 (.slice (some ⟨g, 0, none⟩) m c2) l.length (l.map byteV)) (hb : Rd w2 1 (.slice a m c) l.length (l.map byteV))
    (h : w2.cell? ⟨g, m, none⟩ = some (.int .u8 167)) (hk3 : Kept w2 w3) :
    Kept w w3 ∧ Rd w3 1 (.slice (some ⟨g, 0, none⟩) m c2) l.length (l.map byteV) ∧ Rd w3 1 (.slice a m c) l.length (l.map byteV) ∧ w3.cell? ⟨g, m, none⟩ = some (.int .u8 167) :=
  ⟨hk.trans hk3, hf.kept hk3, hb.kept hk3, hk3.cell h⟩

set_option maxRecDepth 100000 in
set_option maxHeartbeats 4000000 in
theorem walk_WordBytes (l : List UInt8) (x0 : Value) (at_ n v : Int) (w : World) (hr : Rd w 1 x0 l.length (l.map byteV)) (_ : (Lit.int .i64 at_).wf = true) (_ : (Lit.int .i64 n).wf = true) (_ : (Lit.int .i64 v).wf = true) :
    Calls Try.prog 6 #[x0, .int .i64 at_, .int .i64 n, .int .i64 v] w fun e w' => e = .returned (.bool true) ∧ Below w.heap.size w w' := by
  obtain ⟨m, hm⟩ : ∃ m, m = l.length := ⟨_, rfl⟩
  rw [← hm] at hr
  have hm' := Lib.hid hm
  clear hm
  have hone : ∀ u ∈ l.map byteV, u.oneCell' = true := by intro u hu; obtain ⟨x, _, rfl⟩ := List.mem_map.1 hu; rfl
  obtain ⟨hrl, a, c, hx0, h1, h2, h3⟩ := hr
  subst hx0
  have hr : Rd w 1 (.slice a m c) m (l.map byteV) := ⟨hrl, a, c, rfl, h1, h2, h3⟩
  clear h3 hrl
  by_cases hlen : 3000 < m
  · go_enter Try.func6, Try.ntmps6
    go_wp2_with (go_at_call 8; ((with_reducible refine (alive1 _).mono ?_); rintro e w' ⟨rfl, rfl⟩))
    go_ret
    exact ⟨rfl, Below.refl _ _⟩
  · have hone' := Lib.hid hone
    clear hone
    cases hok : okAt l at_ n
    · have hs0 : getS l at_ n = 0 := by simp [getS, hok]
      go_enter Try.func6, Try.ntmps6
      have hn' : True := trivial
      go_wp2_with (first
      | (go_at_call 8; ((with_reducible refine (alive1 _).mono ?_); rintro e w' ⟨rfl, rfl⟩))
      | (at_builtin; refine wpl_append _ elem_u8 rfl (.const (.slice none 0 0)) (.tmp 28) rfl w.heap.size _ _ _ rfl (World.ownsRow_nil _ _ _ _) _ m _ rfl hr hone'.out (by omega) (by omega) (Nat.le_refl _) ?_; intro v1 w1 hown1 hg1; simp only [List.nil_append, Nat.zero_add] at hown1; have hs1 := hg1.size)
      | (at_builtin; refine wpl_push _ elem_u8 rfl _ _ rfl w.heap.size _ _ _ rfl hown1 [.int .u8 167] _ rfl rfl (byte_oneCell _) (by omega) (by omega) hs1 ?_; intro v2 w2 hown2 hg2 hb2; obtain ⟨g, c2, rfl, hc2, hc3, hbg, hgl, hcs, hfz⟩ := own_form hown2 (by omega); have F := full_facts hm'.out hr hone'.out hown1 hg1 hcs hb2 (by omega) hc3; obtain ⟨hw2, hrf, hrb, h167⟩ := F; have hG := Lib.hid (word_Get l _ at_ n w2 hrf); have hS := Lib.hid (word_Signed l _ at_ n w2 hrf); clear hown2 hcs hfz)
      | (go_at_call 33; ((with_reducible refine hG.out.mono ?_); rintro e w' ⟨rfl, rfl⟩))
      | (go_at_call 34; ((with_reducible refine hS.out.mono ?_); rintro e w' ⟨rfl, rfl⟩))
      | (go_at_call 35; ((with_reducible refine (word_Put _ _ _).mono ?_); rintro e w3 ⟨p, rfl, hp, hk3⟩; have F3 := put_facts hw2 hrf hrb h167 hk3; obtain ⟨hw3, hrf3, hrb3, h1673⟩ := F3; have e1 := run_strN Try.underlying29 Try.underlying5 Try.underlying9 hrf3; have e2 := run_strN Try.underlying29 Try.underlying5 Try.underlying9 hrb3; have e3 := run_strN Try.underlying29 Try.underlying5 Try.underlying9 hp; have hR := Lib.hid (fun k => ref1_Get l _ at_ n (w3.drewN k) (hrb3.keep fun _ _ hc => hc))))
      | (go_at_call 36; ((with_reducible refine (hR.out _).mono ?_); rintro e w' ⟨rfl, rfl⟩))
      | (go_at_call 16; ((with_reducible refine (ref1_Signedn _ _ _ hn').mono ?_); rintro e w' ⟨rfl, rfl⟩)))
      go_quiet (fail)
      go_wp2_with (first
      | (go_at_call 36; ((with_reducible refine (hR.out _).mono ?_); rintro e w' ⟨rfl, rfl⟩))
      | (go_at_call 16; ((with_reducible refine (ref1_Signedn _ _ _ hn').mono ?_); rintro e w' ⟨rfl, rfl⟩)))
      clear hr hown1 hg1 hb2 hrf hrb h167 hw2 hG hS hrf3 hrb3 h1673 e1 e2 hR hone' hs1 h1 h2 hm'
      refine wp_region_held_drew (S := (fun w9 => (convert 29 9 p).run Try.prog w9 = .ok (.string ⟨(putL v n).toArray⟩) w9)) (by kernel_rfl) (run_str Try.underlying29 Try.underlying5 Try.underlying9 (hp.keep fun _ _ hc => hc)) (fun hHeld => ?_)
      refine wpAnyH_take (i := 0) (oi := { dst := some 83, op := Op.move (Operand.tmp 11), type := 3, pos := "law.go:54", after := #[], guard := none }) (v := ?va0) rfl (by kernel_rfl) (by kernel_rfl) (by kernel_rfl) (fun _ _ _ h => h) (Or.inl ⟨by rfl, ?ya0⟩) (by assumption) ?ra0
      case ya0 => (intro w hSw; (try dsimp only at hSw); go_simp <;> with_reducible rfl)
      (try simp only [Act.put, List.setIfInBounds_toArray, List.set_cons_zero, List.set_cons_succ])
      refine wpAnyH_take (i := 1) (oi := { dst := some 84, op := Op.move (Operand.tmp 16), type := 3, pos := "law.go:54", after := #[], guard := none }) (v := ?va1) rfl (by kernel_rfl) (by kernel_rfl) (by kernel_rfl) (fun _ _ _ h => h) (Or.inl ⟨by rfl, ?ya1⟩) (by assumption) ?ra1
      case ya1 => (intro w hSw; (try dsimp only at hSw); go_simp <;> with_reducible rfl)
      (try simp only [Act.put, List.setIfInBounds_toArray, List.set_cons_zero, List.set_cons_succ])
      refine wpAnyH_take (i := 2) (oi := { dst := some 85, op := Op.binOp BinOp.eql 3 (Operand.tmp 83) (Operand.tmp 84) 3, type := 4, pos := "law.go:54", after := #[{ on := 0, ground := Ground.data }, { on := 1, ground := Ground.data }], guard := none }) (v := ?va2) rfl (by kernel_rfl) (by kernel_rfl) (by kernel_rfl) (fun _ _ _ h => h) (Or.inl ⟨by rfl, ?ya2⟩) (by assumption) ?ra2
      case ya2 => (intro w hSw; (try dsimp only at hSw); go_simp <;> with_reducible rfl)
      (try simp only [Act.put, List.setIfInBounds_toArray, List.set_cons_zero, List.set_cons_succ])
      refine wpAnyH_take (i := 3) (oi := { dst := some 86, op := Op.move (Operand.tmp 85), type := 4, pos := "law.go:54", after := #[{ on := 2, ground := Ground.data }], guard := none }) (v := ?va3) rfl (by kernel_rfl) (by kernel_rfl) (by kernel_rfl) (fun _ _ _ h => h) (Or.inl ⟨by rfl, ?ya3⟩) (by assumption) ?ra3
      case ya3 => (intro w hSw; (try dsimp only at hSw); go_simp <;> with_reducible rfl)
      (try simp only [Act.put, List.setIfInBounds_toArray, List.set_cons_zero, List.set_cons_succ])
      refine wpAnyH_take (i := 4) (oi := { dst := some 87, op := Op.move (Operand.tmp 12), type := 4, pos := "law.go:54", after := #[{ on := 3, ground := Ground.guard }], guard := some (3, true) }) (v := ?va4) rfl (by kernel_rfl) (by kernel_rfl) (by kernel_rfl) (fun _ _ _ h => h) (Or.inl ⟨by rfl, ?ya4⟩) (by assumption) ?ra4
      case ya4 => (intro w hSw; (try dsimp only at hSw); go_simp <;> with_reducible rfl)
      (try simp only [Act.put, List.setIfInBounds_toArray, List.set_cons_zero, List.set_cons_succ])
      refine wpAnyH_take (i := 5) (oi := { dst := some 88, op := Op.move (Operand.tmp 17), type := 4, pos := "law.go:54", after := #[{ on := 3, ground := Ground.guard }], guard := some (3, true) }) (v := ?va5) rfl (by kernel_rfl) (by kernel_rfl) (by kernel_rfl) (fun _ _ _ h => h) (Or.inl ⟨by rfl, ?ya5⟩) (by assumption) ?ra5
      case ya5 => (intro w hSw; (try dsimp only at hSw); go_simp <;> with_reducible rfl)
      (try simp only [Act.put, List.setIfInBounds_toArray, List.set_cons_zero, List.set_cons_succ])
      refine wpAnyH_take (i := 6) (oi := { dst := some 89, op := Op.binOp BinOp.eql 4 (Operand.tmp 87) (Operand.tmp 88) 4, type := 4, pos := "law.go:54", after := #[{ on := 4, ground := Ground.data }, { on := 5, ground := Ground.data }, { on := 3, ground := Ground.guard }], guard := some (3, true) }) (v := ?va6) rfl (by kernel_rfl) (by kernel_rfl) (by kernel_rfl) (fun _ _ _ h => h) (Or.inl ⟨by rfl, ?ya6⟩) (by assumption) ?ra6
      case ya6 => (intro w hSw; (try dsimp only at hSw); go_simp <;> with_reducible rfl)
      (try simp only [Act.put, List.setIfInBounds_toArray, List.set_cons_zero, List.set_cons_succ])
      refine wpAnyH_take (i := 7) (oi := { dst := some 90, op := Op.pick (Operand.tmp 86) (Operand.tmp 89) (Operand.const (Value.bool false)), type := 4, pos := "law.go:54", after := #[{ on := 3, ground := Ground.data }, { on := 6, ground := Ground.data }], guard := none }) (v := ?va7) rfl (by kernel_rfl) (by kernel_rfl) (by kernel_rfl) (fun _ _ _ h => h) (Or.inl ⟨by rfl, ?ya7⟩) (by assumption) ?ra7
      case ya7 => (intro w hSw; (try dsimp only at hSw); go_simp <;> with_reducible rfl)
      (try simp only [Act.put, List.setIfInBounds_toArray, List.set_cons_zero, List.set_cons_succ])
      refine wpAnyH_take (i := 8) (oi := { dst := some 91, op := Op.move (Operand.tmp 90), type := 4, pos := "law.go:54", after := #[{ on := 7, ground := Ground.data }, { on := 3, ground := Ground.chain }], guard := none }) (v := ?va8) rfl (by kernel_rfl) (by kernel_rfl) (by kernel_rfl) (fun _ _ _ h => h) (Or.inl ⟨by rfl, ?ya8⟩) (by assumption) ?ra8
      case ya8 => (intro w hSw; (try dsimp only at hSw); go_simp <;> with_reducible rfl)
      (try simp only [Act.put, List.setIfInBounds_toArray, List.set_cons_zero, List.set_cons_succ])
      refine wpAnyH_take (i := 9) (oi := { dst := some 92, op := Op.move (Operand.tmp 13), type := 3, pos := "law.go:54", after := #[{ on := 8, ground := Ground.guard }], guard := some (8, true) }) (v := ?va9) rfl (by kernel_rfl) (by kernel_rfl) (by kernel_rfl) (fun _ _ _ h => h) (Or.inl ⟨by rfl, ?ya9⟩) (by assumption) ?ra9
      case ya9 => (intro w hSw; (try dsimp only at hSw); go_simp <;> with_reducible rfl)
      (try simp only [Act.put, List.setIfInBounds_toArray, List.set_cons_zero, List.set_cons_succ])
      refine wpAnyH_take (i := 10) (oi := { dst := some 93, op := Op.move (Operand.tmp 18), type := 3, pos := "law.go:54", after := #[{ on := 8, ground := Ground.guard }], guard := some (8, true) }) (v := ?va10) rfl (by kernel_rfl) (by kernel_rfl) (by kernel_rfl) (fun _ _ _ h => h) (Or.inl ⟨by rfl, ?ya10⟩) (by assumption) ?ra10
      case ya10 => (intro w hSw; (try dsimp only at hSw); go_simp <;> with_reducible rfl)
      (try simp only [Act.put, List.setIfInBounds_toArray, List.set_cons_zero, List.set_cons_succ])
      refine wpAnyH_take (i := 11) (oi := { dst := some 94, op := Op.binOp BinOp.eql 3 (Operand.tmp 92) (Operand.tmp 93) 3, type := 4, pos := "law.go:54", after := #[{ on := 9, ground := Ground.data }, { on := 10, ground := Ground.data }, { on := 8, ground := Ground.guard }], guard := some (8, true) }) (v := ?va11) rfl (by kernel_rfl) (by kernel_rfl) (by kernel_rfl) (fun _ _ _ h => h) (Or.inl ⟨by rfl, ?ya11⟩) (by assumption) ?ra11
      case ya11 => (intro w hSw; (try dsimp only at hSw); go_simp <;> with_reducible rfl)
      (try simp only [Act.put, List.setIfInBounds_toArray, List.set_cons_zero, List.set_cons_succ])
      refine wpAnyH_take (i := 12) (oi := { dst := some 95, op := Op.pick (Operand.tmp 91) (Operand.tmp 94) (Operand.const (Value.bool false)), type := 4, pos := "law.go:54", after := #[{ on := 8, ground := Ground.data }, { on := 11, ground := Ground.data }], guard := none }) (v := ?va12) rfl (by kernel_rfl) (by kernel_rfl) (by kernel_rfl) (fun _ _ _ h => h) (Or.inl ⟨by rfl, ?ya12⟩) (by assumption) ?ra12
      case ya12 => (intro w hSw; (try dsimp only at hSw); go_simp <;> with_reducible rfl)
      (try simp only [Act.put, List.setIfInBounds_toArray, List.set_cons_zero, List.set_cons_succ])
      refine wpAnyH_take (i := 13) (oi := { dst := some 96, op := Op.move (Operand.tmp 95), type := 4, pos := "law.go:54", after := #[{ on := 12, ground := Ground.data }, { on := 8, ground := Ground.chain }], guard := none }) (v := ?va13) rfl (by kernel_rfl) (by kernel_rfl) (by kernel_rfl) (fun _ _ _ h => h) (Or.inl ⟨by rfl, ?ya13⟩) (by assumption) ?ra13
      case ya13 => (intro w hSw; (try dsimp only at hSw); go_simp <;> with_reducible rfl)
      (try simp only [Act.put, List.setIfInBounds_toArray, List.set_cons_zero, List.set_cons_succ])
      refine wpAnyH_take (i := 14) (oi := { dst := some 97, op := Op.move (Operand.tmp 14), type := 4, pos := "law.go:54", after := #[{ on := 13, ground := Ground.guard }], guard := some (13, true) }) (v := ?va14) rfl (by kernel_rfl) (by kernel_rfl) (by kernel_rfl) (fun _ _ _ h => h) (Or.inl ⟨by rfl, ?ya14⟩) (by assumption) ?ra14
      case ya14 => (intro w hSw; (try dsimp only at hSw); go_simp <;> with_reducible rfl)
      (try simp only [Act.put, List.setIfInBounds_toArray, List.set_cons_zero, List.set_cons_succ])
      refine wpAnyH_take (i := 15) (oi := { dst := some 98, op := Op.move (Operand.tmp 17), type := 4, pos := "law.go:54", after := #[{ on := 13, ground := Ground.guard }], guard := some (13, true) }) (v := ?va15) rfl (by kernel_rfl) (by kernel_rfl) (by kernel_rfl) (fun _ _ _ h => h) (Or.inl ⟨by rfl, ?ya15⟩) (by assumption) ?ra15
      case ya15 => (intro w hSw; (try dsimp only at hSw); go_simp <;> with_reducible rfl)
      (try simp only [Act.put, List.setIfInBounds_toArray, List.set_cons_zero, List.set_cons_succ])
      refine wpAnyH_take (i := 16) (oi := { dst := some 99, op := Op.binOp BinOp.eql 4 (Operand.tmp 97) (Operand.tmp 98) 4, type := 4, pos := "law.go:54", after := #[{ on := 14, ground := Ground.data }, { on := 15, ground := Ground.data }, { on := 13, ground := Ground.guard }], guard := some (13, true) }) (v := ?va16) rfl (by kernel_rfl) (by kernel_rfl) (by kernel_rfl) (fun _ _ _ h => h) (Or.inl ⟨by rfl, ?ya16⟩) (by assumption) ?ra16
      case ya16 => (intro w hSw; (try dsimp only at hSw); go_simp <;> with_reducible rfl)
      (try simp only [Act.put, List.setIfInBounds_toArray, List.set_cons_zero, List.set_cons_succ])
      refine wpAnyH_take (i := 17) (oi := { dst := some 100, op := Op.pick (Operand.tmp 96) (Operand.tmp 99) (Operand.const (Value.bool false)), type := 4, pos := "law.go:54", after := #[{ on := 13, ground := Ground.data }, { on := 16, ground := Ground.data }], guard := none }) (v := ?va17) rfl (by kernel_rfl) (by kernel_rfl) (by kernel_rfl) (fun _ _ _ h => h) (Or.inl ⟨by rfl, ?ya17⟩) (by assumption) ?ra17
      case ya17 => (intro w hSw; (try dsimp only at hSw); go_simp <;> with_reducible rfl)
      (try simp only [Act.put, List.setIfInBounds_toArray, List.set_cons_zero, List.set_cons_succ])
      refine wpAnyH_take (i := 18) (oi := { dst := some 101, op := Op.move (Operand.tmp 100), type := 4, pos := "law.go:54", after := #[{ on := 17, ground := Ground.data }, { on := 13, ground := Ground.chain }], guard := none }) (v := ?va18) rfl (by kernel_rfl) (by kernel_rfl) (by kernel_rfl) (fun _ _ _ h => h) (Or.inl ⟨by rfl, ?ya18⟩) (by assumption) ?ra18
      case ya18 => (intro w hSw; (try dsimp only at hSw); go_simp <;> with_reducible rfl)
      (try simp only [Act.put, List.setIfInBounds_toArray, List.set_cons_zero, List.set_cons_succ])
      refine wpAnyH_take (i := 19) (oi := { dst := some 102, op := Op.move (Operand.tmp 15), type := 29, pos := "law.go:54", after := #[{ on := 18, ground := Ground.guard }], guard := some (18, true) }) (v := ?va19) rfl (by kernel_rfl) (by kernel_rfl) (by kernel_rfl) (fun _ _ _ h => h) (Or.inl ⟨by rfl, ?ya19⟩) (by assumption) ?ra19
      case ya19 => (intro w hSw; (try dsimp only at hSw); go_simp <;> with_reducible rfl)
      (try simp only [Act.put, List.setIfInBounds_toArray, List.set_cons_zero, List.set_cons_succ])
      refine wpAnyH_take (i := 20) (oi := { dst := some 103, op := Op.convert 29 9 (Operand.tmp 102), type := 9, pos := "law.go:54", after := #[{ on := 19, ground := Ground.data }, { on := 18, ground := Ground.guard }], guard := some (18, true) }) (v := ?va20) rfl (by kernel_rfl) (by kernel_rfl) (by kernel_rfl) (fun _ _ _ h => h) (Or.inl ⟨by rfl, ?ya20⟩) (by assumption) ?ra20
      case ya20 => (intro w hSw; (try dsimp only at hSw); go_simp <;> with_reducible rfl)
      (try simp only [Act.put, List.setIfInBounds_toArray, List.set_cons_zero, List.set_cons_succ])
      refine wpAnyH_take (i := 21) (oi := { dst := some 104, op := Op.move (Operand.tmp 3), type := 3, pos := "law.go:54", after := #[{ on := 18, ground := Ground.guard }], guard := some (18, true) }) (v := ?va21) rfl (by kernel_rfl) (by kernel_rfl) (by kernel_rfl) (fun _ _ _ h => h) (Or.inl ⟨by rfl, ?ya21⟩) (by assumption) ?ra21
      case ya21 => (intro w hSw; (try dsimp only at hSw); go_simp <;> with_reducible rfl)
      (try simp only [Act.put, List.setIfInBounds_toArray, List.set_cons_zero, List.set_cons_succ])
      refine wpAnyH_take (i := 22) (oi := { dst := some 105, op := Op.move (Operand.tmp 2), type := 3, pos := "law.go:54", after := #[{ on := 18, ground := Ground.guard }], guard := some (18, true) }) (v := ?va22) rfl (by kernel_rfl) (by kernel_rfl) (by kernel_rfl) (fun _ _ _ h => h) (Or.inl ⟨by rfl, ?ya22⟩) (by assumption) ?ra22
      case ya22 => (intro w hSw; (try dsimp only at hSw); go_simp <;> with_reducible rfl)
      (try simp only [Act.put, List.setIfInBounds_toArray, List.set_cons_zero, List.set_cons_succ])
      refine wpAnyH_ready (rs := [23]) (by kernel_rfl) (by simp) ?_
      refine AllReadyH.cons (o := { dst := some 106, op := Op.call { callee := Callee.value (Operand.func 37), args := #[Operand.tmp 104, Operand.tmp 105], argTypes := #[3, 3] }, type := 29, pos := "law.go:54", after := #[{ on := 21, ground := Ground.data }, { on := 22, ground := Ground.data }, { on := 18, ground := Ground.chain }, { on := 18, ground := Ground.guard }], guard := some (18, true) }) rfl (fun K hK => ?_) AllReadyH.nil
      go_simp
      go_wp2_with (go_at_call 37; ((with_reducible refine (ref1_Put _ _ _).mono ?_); rintro e w4 ⟨q, rfl, hq, hk4⟩; have hk6 : Kept w3 w4 := ⟨hk4.os, hk4.tape, hk4.output, hk4.size, fun k h => Below.block hk4 k h⟩; have hk5 := hw3.trans hk6; have e4 := run_str Try.underlying29 Try.underlying5 Try.underlying9 hq; have e5 := run_str Try.underlying29 Try.underlying5 Try.underlying9 (hp.kept hk6)))
      clear hHeld
      refine hK.out _ _ ?_ (fun hHeld => ?_)
      · exact e5
      clear hK K
      (try simp only [Act.put, List.setIfInBounds_toArray, List.set_cons_zero, List.set_cons_succ])
      refine wpAnyH_ready (rs := [24]) (by kernel_rfl) (by simp) ?_
      refine AllReadyH.cons (o := { dst := some 107, op := Op.convert 29 9 (Operand.tmp 106), type := 9, pos := "law.go:54", after := #[{ on := 23, ground := Ground.data }, { on := 18, ground := Ground.guard }], guard := some (18, true) }) rfl (fun K hK => ?_) AllReadyH.nil
      go_simp
      clear hHeld
      refine hK.out _ _ ?_ (fun hHeld => ?_)
      · exact e5
      clear hK K
      (try simp only [Act.put, List.setIfInBounds_toArray, List.set_cons_zero, List.set_cons_succ])
      refine wpAnyH_take (i := 25) (oi := { dst := some 108, op := Op.binOp BinOp.eql 9 (Operand.tmp 103) (Operand.tmp 107) 9, type := 4, pos := "law.go:54", after := #[{ on := 20, ground := Ground.data }, { on := 24, ground := Ground.data }, { on := 18, ground := Ground.guard }], guard := some (18, true) }) (v := ?va25) rfl (by kernel_rfl) (by kernel_rfl) (by kernel_rfl) (fun _ _ _ h => h) (Or.inl ⟨by rfl, ?ya25⟩) (by assumption) ?ra25
      case ya25 => (intro w hSw; (try dsimp only at hSw); go_simp <;> with_reducible rfl)
      (try simp only [Act.put, List.setIfInBounds_toArray, List.set_cons_zero, List.set_cons_succ])
      refine wpAnyH_take (i := 26) (oi := { dst := some 109, op := Op.pick (Operand.tmp 101) (Operand.tmp 108) (Operand.const (Value.bool false)), type := 4, pos := "law.go:54", after := #[{ on := 18, ground := Ground.data }, { on := 25, ground := Ground.data }], guard := none }) (v := ?va26) rfl (by kernel_rfl) (by kernel_rfl) (by kernel_rfl) (fun _ _ _ h => h) (Or.inl ⟨by rfl, ?ya26⟩) (by assumption) ?ra26
      case ya26 => (intro w hSw; (try dsimp only at hSw); go_simp <;> with_reducible rfl)
      (try simp only [Act.put, List.setIfInBounds_toArray, List.set_cons_zero, List.set_cons_succ])
      refine wpAnyH_take (i := 27) (oi := { dst := some 8, op := Op.assign (Operand.tmp 109), type := 4, pos := "law.go:54", after := #[{ on := 26, ground := Ground.data }, { on := 23, ground := Ground.chain }, { on := 0, ground := Ground.phase }, { on := 1, ground := Ground.phase }, { on := 2, ground := Ground.phase }, { on := 3, ground := Ground.phase }, { on := 4, ground := Ground.phase }, { on := 5, ground := Ground.phase }, { on := 6, ground := Ground.phase }, { on := 7, ground := Ground.phase }, { on := 8, ground := Ground.phase }, { on := 9, ground := Ground.phase }, { on := 10, ground := Ground.phase }, { on := 11, ground := Ground.phase }, { on := 12, ground := Ground.phase }, { on := 13, ground := Ground.phase }, { on := 14, ground := Ground.phase }, { on := 15, ground := Ground.phase }, { on := 16, ground := Ground.phase }, { on := 17, ground := Ground.phase }, { on := 18, ground := Ground.phase }, { on := 19, ground := Ground.phase }, { on := 20, ground := Ground.phase }, { on := 21, ground := Ground.phase }, { on := 22, ground := Ground.phase }, { on := 23, ground := Ground.phase }, { on := 24, ground := Ground.phase }, { on := 25, ground := Ground.phase }, { on := 26, ground := Ground.phase }], guard := none }) (v := ?va27) rfl (by kernel_rfl) (by kernel_rfl) (by kernel_rfl) (fun _ _ _ h => h) (Or.inl ⟨by rfl, ?ya27⟩) (by assumption) ?ra27
      case ya27 => (intro w hSw; (try dsimp only at hSw); go_simp <;> with_reducible rfl)
      (try simp only [Act.put, List.setIfInBounds_toArray, List.set_cons_zero, List.set_cons_succ])
      refine wpAnyH_done (by kernel_rfl) ?_ _
      go_wp2
      go_ret
      exact ⟨ret_bool (by simp), hk5⟩
    · obtain ⟨hn', k, hk, hkn⟩ := okAt_true hok
      have hs0 : getS l at_ n = sgn n (getU l at_ n) := by simp [getS, getU, hok]
      have n1 : 1 ≤ n := by omega
      have n4 : n ≤ 4 := by omega
      have hk' := Lib.hid hk
      clear hk
      go_enter Try.func6, Try.ntmps6
      go_wp2_with (first
      | (go_at_call 8; ((with_reducible refine (alive1 _).mono ?_); rintro e w' ⟨rfl, rfl⟩))
      | (at_builtin; refine wpl_append _ elem_u8 rfl (.const (.slice none 0 0)) (.tmp 28) rfl w.heap.size _ _ _ rfl (World.ownsRow_nil _ _ _ _) _ m _ rfl hr hone'.out (by omega) (by omega) (Nat.le_refl _) ?_; intro v1 w1 hown1 hg1; simp only [List.nil_append, Nat.zero_add] at hown1; have hs1 := hg1.size)
      | (at_builtin; refine wpl_push _ elem_u8 rfl _ _ rfl w.heap.size _ _ _ rfl hown1 [.int .u8 167] _ rfl rfl (byte_oneCell _) (by omega) (by omega) hs1 ?_; intro v2 w2 hown2 hg2 hb2; obtain ⟨g, c2, rfl, hc2, hc3, hbg, hgl, hcs, hfz⟩ := own_form hown2 (by omega); have F := full_facts hm'.out hr hone'.out hown1 hg1 hcs hb2 (by omega) hc3; obtain ⟨hw2, hrf, hrb, h167⟩ := F; have hG := Lib.hid (word_Get l _ at_ n w2 hrf); have hS := Lib.hid (word_Signed l _ at_ n w2 hrf); clear hown2 hcs hfz)
      | (go_at_call 33; ((with_reducible refine hG.out.mono ?_); rintro e w' ⟨rfl, rfl⟩))
      | (go_at_call 34; ((with_reducible refine hS.out.mono ?_); rintro e w' ⟨rfl, rfl⟩))
      | (go_at_call 35; ((with_reducible refine (word_Put _ _ _).mono ?_); rintro e w3 ⟨p, rfl, hp, hk3⟩; have F3 := put_facts hw2 hrf hrb h167 hk3; obtain ⟨hw3, hrf3, hrb3, h1673⟩ := F3; have e1 := run_strN Try.underlying29 Try.underlying5 Try.underlying9 hrf3; have e2 := run_strN Try.underlying29 Try.underlying5 Try.underlying9 hrb3; have e3 := run_strN Try.underlying29 Try.underlying5 Try.underlying9 hp; have hR := Lib.hid (fun k => ref1_Get l _ at_ n (w3.drewN k) (hrb3.keep fun _ _ hc => hc))))
      | (go_at_call 36; ((with_reducible refine (hR.out _).mono ?_); rintro e w' ⟨rfl, rfl⟩))
      | (go_at_call 16; ((with_reducible refine (ref1_Signedn _ _ _ hn').mono ?_); rintro e w' ⟨rfl, rfl⟩)))
      go_quiet (fail)
      go_wp2_with (first
      | (go_at_call 36; ((with_reducible refine (hR.out _).mono ?_); rintro e w' ⟨rfl, rfl⟩))
      | (go_at_call 16; ((with_reducible refine (ref1_Signedn _ _ _ hn').mono ?_); rintro e w' ⟨rfl, rfl⟩)))
      clear hr hown1 hg1 hb2 hrf hrb h167 hw2 hG hS hrf3 hrb3 h1673 e1 e2 hR hone' hs1 h1 h2 hm'
      refine wp_region_held_drew (S := (fun w9 => (convert 29 9 p).run Try.prog w9 = .ok (.string ⟨(putL v n).toArray⟩) w9)) (by kernel_rfl) (run_str Try.underlying29 Try.underlying5 Try.underlying9 (hp.keep fun _ _ hc => hc)) (fun hHeld => ?_)
      refine wpAnyH_take (i := 0) (oi := { dst := some 83, op := Op.move (Operand.tmp 11), type := 3, pos := "law.go:54", after := #[], guard := none }) (v := ?vb0) rfl (by kernel_rfl) (by kernel_rfl) (by kernel_rfl) (fun _ _ _ h => h) (Or.inl ⟨by rfl, ?yb0⟩) (by assumption) ?rb0
      case yb0 => (intro w hSw; (try dsimp only at hSw); go_simp <;> with_reducible rfl)
      (try simp only [Act.put, List.setIfInBounds_toArray, List.set_cons_zero, List.set_cons_succ])
      refine wpAnyH_take (i := 1) (oi := { dst := some 84, op := Op.move (Operand.tmp 16), type := 3, pos := "law.go:54", after := #[], guard := none }) (v := ?vb1) rfl (by kernel_rfl) (by kernel_rfl) (by kernel_rfl) (fun _ _ _ h => h) (Or.inl ⟨by rfl, ?yb1⟩) (by assumption) ?rb1
      case yb1 => (intro w hSw; (try dsimp only at hSw); go_simp <;> with_reducible rfl)
      (try simp only [Act.put, List.setIfInBounds_toArray, List.set_cons_zero, List.set_cons_succ])
      refine wpAnyH_take (i := 2) (oi := { dst := some 85, op := Op.binOp BinOp.eql 3 (Operand.tmp 83) (Operand.tmp 84) 3, type := 4, pos := "law.go:54", after := #[{ on := 0, ground := Ground.data }, { on := 1, ground := Ground.data }], guard := none }) (v := ?vb2) rfl (by kernel_rfl) (by kernel_rfl) (by kernel_rfl) (fun _ _ _ h => h) (Or.inl ⟨by rfl, ?yb2⟩) (by assumption) ?rb2
      case yb2 => (intro w hSw; (try dsimp only at hSw); go_simp <;> with_reducible rfl)
      (try simp only [Act.put, List.setIfInBounds_toArray, List.set_cons_zero, List.set_cons_succ])
      refine wpAnyH_take (i := 3) (oi := { dst := some 86, op := Op.move (Operand.tmp 85), type := 4, pos := "law.go:54", after := #[{ on := 2, ground := Ground.data }], guard := none }) (v := ?vb3) rfl (by kernel_rfl) (by kernel_rfl) (by kernel_rfl) (fun _ _ _ h => h) (Or.inl ⟨by rfl, ?yb3⟩) (by assumption) ?rb3
      case yb3 => (intro w hSw; (try dsimp only at hSw); go_simp <;> with_reducible rfl)
      (try simp only [Act.put, List.setIfInBounds_toArray, List.set_cons_zero, List.set_cons_succ])
      refine wpAnyH_take (i := 4) (oi := { dst := some 87, op := Op.move (Operand.tmp 12), type := 4, pos := "law.go:54", after := #[{ on := 3, ground := Ground.guard }], guard := some (3, true) }) (v := ?vb4) rfl (by kernel_rfl) (by kernel_rfl) (by kernel_rfl) (fun _ _ _ h => h) (Or.inl ⟨by rfl, ?yb4⟩) (by assumption) ?rb4
      case yb4 => (intro w hSw; (try dsimp only at hSw); go_simp <;> with_reducible rfl)
      (try simp only [Act.put, List.setIfInBounds_toArray, List.set_cons_zero, List.set_cons_succ])
      refine wpAnyH_take (i := 5) (oi := { dst := some 88, op := Op.move (Operand.tmp 17), type := 4, pos := "law.go:54", after := #[{ on := 3, ground := Ground.guard }], guard := some (3, true) }) (v := ?vb5) rfl (by kernel_rfl) (by kernel_rfl) (by kernel_rfl) (fun _ _ _ h => h) (Or.inl ⟨by rfl, ?yb5⟩) (by assumption) ?rb5
      case yb5 => (intro w hSw; (try dsimp only at hSw); go_simp <;> with_reducible rfl)
      (try simp only [Act.put, List.setIfInBounds_toArray, List.set_cons_zero, List.set_cons_succ])
      refine wpAnyH_take (i := 6) (oi := { dst := some 89, op := Op.binOp BinOp.eql 4 (Operand.tmp 87) (Operand.tmp 88) 4, type := 4, pos := "law.go:54", after := #[{ on := 4, ground := Ground.data }, { on := 5, ground := Ground.data }, { on := 3, ground := Ground.guard }], guard := some (3, true) }) (v := ?vb6) rfl (by kernel_rfl) (by kernel_rfl) (by kernel_rfl) (fun _ _ _ h => h) (Or.inl ⟨by rfl, ?yb6⟩) (by assumption) ?rb6
      case yb6 => (intro w hSw; (try dsimp only at hSw); go_simp <;> with_reducible rfl)
      (try simp only [Act.put, List.setIfInBounds_toArray, List.set_cons_zero, List.set_cons_succ])
      refine wpAnyH_take (i := 7) (oi := { dst := some 90, op := Op.pick (Operand.tmp 86) (Operand.tmp 89) (Operand.const (Value.bool false)), type := 4, pos := "law.go:54", after := #[{ on := 3, ground := Ground.data }, { on := 6, ground := Ground.data }], guard := none }) (v := ?vb7) rfl (by kernel_rfl) (by kernel_rfl) (by kernel_rfl) (fun _ _ _ h => h) (Or.inl ⟨by rfl, ?yb7⟩) (by assumption) ?rb7
      case yb7 => (intro w hSw; (try dsimp only at hSw); go_simp <;> with_reducible rfl)
      (try simp only [Act.put, List.setIfInBounds_toArray, List.set_cons_zero, List.set_cons_succ])
      refine wpAnyH_take (i := 8) (oi := { dst := some 91, op := Op.move (Operand.tmp 90), type := 4, pos := "law.go:54", after := #[{ on := 7, ground := Ground.data }, { on := 3, ground := Ground.chain }], guard := none }) (v := ?vb8) rfl (by kernel_rfl) (by kernel_rfl) (by kernel_rfl) (fun _ _ _ h => h) (Or.inl ⟨by rfl, ?yb8⟩) (by assumption) ?rb8
      case yb8 => (intro w hSw; (try dsimp only at hSw); go_simp <;> with_reducible rfl)
      (try simp only [Act.put, List.setIfInBounds_toArray, List.set_cons_zero, List.set_cons_succ])
      refine wpAnyH_take (i := 9) (oi := { dst := some 92, op := Op.move (Operand.tmp 13), type := 3, pos := "law.go:54", after := #[{ on := 8, ground := Ground.guard }], guard := some (8, true) }) (v := ?vb9) rfl (by kernel_rfl) (by kernel_rfl) (by kernel_rfl) (fun _ _ _ h => h) (Or.inl ⟨by rfl, ?yb9⟩) (by assumption) ?rb9
      case yb9 => (intro w hSw; (try dsimp only at hSw); go_simp <;> with_reducible rfl)
      (try simp only [Act.put, List.setIfInBounds_toArray, List.set_cons_zero, List.set_cons_succ])
      refine wpAnyH_take (i := 10) (oi := { dst := some 93, op := Op.move (Operand.tmp 18), type := 3, pos := "law.go:54", after := #[{ on := 8, ground := Ground.guard }], guard := some (8, true) }) (v := ?vb10) rfl (by kernel_rfl) (by kernel_rfl) (by kernel_rfl) (fun _ _ _ h => h) (Or.inl ⟨by rfl, ?yb10⟩) (by assumption) ?rb10
      case yb10 => (intro w hSw; (try dsimp only at hSw); go_simp <;> with_reducible rfl)
      (try simp only [Act.put, List.setIfInBounds_toArray, List.set_cons_zero, List.set_cons_succ])
      refine wpAnyH_take (i := 11) (oi := { dst := some 94, op := Op.binOp BinOp.eql 3 (Operand.tmp 92) (Operand.tmp 93) 3, type := 4, pos := "law.go:54", after := #[{ on := 9, ground := Ground.data }, { on := 10, ground := Ground.data }, { on := 8, ground := Ground.guard }], guard := some (8, true) }) (v := ?vb11) rfl (by kernel_rfl) (by kernel_rfl) (by kernel_rfl) (fun _ _ _ h => h) (Or.inl ⟨by rfl, ?yb11⟩) (by assumption) ?rb11
      case yb11 => (intro w hSw; (try dsimp only at hSw); go_simp <;> with_reducible rfl)
      (try simp only [Act.put, List.setIfInBounds_toArray, List.set_cons_zero, List.set_cons_succ])
      refine wpAnyH_take (i := 12) (oi := { dst := some 95, op := Op.pick (Operand.tmp 91) (Operand.tmp 94) (Operand.const (Value.bool false)), type := 4, pos := "law.go:54", after := #[{ on := 8, ground := Ground.data }, { on := 11, ground := Ground.data }], guard := none }) (v := ?vb12) rfl (by kernel_rfl) (by kernel_rfl) (by kernel_rfl) (fun _ _ _ h => h) (Or.inl ⟨by rfl, ?yb12⟩) (by assumption) ?rb12
      case yb12 => (intro w hSw; (try dsimp only at hSw); go_simp <;> with_reducible rfl)
      (try simp only [Act.put, List.setIfInBounds_toArray, List.set_cons_zero, List.set_cons_succ])
      refine wpAnyH_take (i := 13) (oi := { dst := some 96, op := Op.move (Operand.tmp 95), type := 4, pos := "law.go:54", after := #[{ on := 12, ground := Ground.data }, { on := 8, ground := Ground.chain }], guard := none }) (v := ?vb13) rfl (by kernel_rfl) (by kernel_rfl) (by kernel_rfl) (fun _ _ _ h => h) (Or.inl ⟨by rfl, ?yb13⟩) (by assumption) ?rb13
      case yb13 => (intro w hSw; (try dsimp only at hSw); go_simp <;> with_reducible rfl)
      (try simp only [Act.put, List.setIfInBounds_toArray, List.set_cons_zero, List.set_cons_succ])
      refine wpAnyH_take (i := 14) (oi := { dst := some 97, op := Op.move (Operand.tmp 14), type := 4, pos := "law.go:54", after := #[{ on := 13, ground := Ground.guard }], guard := some (13, true) }) (v := ?vb14) rfl (by kernel_rfl) (by kernel_rfl) (by kernel_rfl) (fun _ _ _ h => h) (Or.inl ⟨by rfl, ?yb14⟩) (by assumption) ?rb14
      case yb14 => (intro w hSw; (try dsimp only at hSw); go_simp <;> with_reducible rfl)
      (try simp only [Act.put, List.setIfInBounds_toArray, List.set_cons_zero, List.set_cons_succ])
      refine wpAnyH_take (i := 15) (oi := { dst := some 98, op := Op.move (Operand.tmp 17), type := 4, pos := "law.go:54", after := #[{ on := 13, ground := Ground.guard }], guard := some (13, true) }) (v := ?vb15) rfl (by kernel_rfl) (by kernel_rfl) (by kernel_rfl) (fun _ _ _ h => h) (Or.inl ⟨by rfl, ?yb15⟩) (by assumption) ?rb15
      case yb15 => (intro w hSw; (try dsimp only at hSw); go_simp <;> with_reducible rfl)
      (try simp only [Act.put, List.setIfInBounds_toArray, List.set_cons_zero, List.set_cons_succ])
      refine wpAnyH_take (i := 16) (oi := { dst := some 99, op := Op.binOp BinOp.eql 4 (Operand.tmp 97) (Operand.tmp 98) 4, type := 4, pos := "law.go:54", after := #[{ on := 14, ground := Ground.data }, { on := 15, ground := Ground.data }, { on := 13, ground := Ground.guard }], guard := some (13, true) }) (v := ?vb16) rfl (by kernel_rfl) (by kernel_rfl) (by kernel_rfl) (fun _ _ _ h => h) (Or.inl ⟨by rfl, ?yb16⟩) (by assumption) ?rb16
      case yb16 => (intro w hSw; (try dsimp only at hSw); go_simp <;> with_reducible rfl)
      (try simp only [Act.put, List.setIfInBounds_toArray, List.set_cons_zero, List.set_cons_succ])
      refine wpAnyH_take (i := 17) (oi := { dst := some 100, op := Op.pick (Operand.tmp 96) (Operand.tmp 99) (Operand.const (Value.bool false)), type := 4, pos := "law.go:54", after := #[{ on := 13, ground := Ground.data }, { on := 16, ground := Ground.data }], guard := none }) (v := ?vb17) rfl (by kernel_rfl) (by kernel_rfl) (by kernel_rfl) (fun _ _ _ h => h) (Or.inl ⟨by rfl, ?yb17⟩) (by assumption) ?rb17
      case yb17 => (intro w hSw; (try dsimp only at hSw); go_simp <;> with_reducible rfl)
      (try simp only [Act.put, List.setIfInBounds_toArray, List.set_cons_zero, List.set_cons_succ])
      refine wpAnyH_take (i := 18) (oi := { dst := some 101, op := Op.move (Operand.tmp 100), type := 4, pos := "law.go:54", after := #[{ on := 17, ground := Ground.data }, { on := 13, ground := Ground.chain }], guard := none }) (v := ?vb18) rfl (by kernel_rfl) (by kernel_rfl) (by kernel_rfl) (fun _ _ _ h => h) (Or.inl ⟨by rfl, ?yb18⟩) (by assumption) ?rb18
      case yb18 => (intro w hSw; (try dsimp only at hSw); go_simp <;> with_reducible rfl)
      (try simp only [Act.put, List.setIfInBounds_toArray, List.set_cons_zero, List.set_cons_succ])
      refine wpAnyH_take (i := 19) (oi := { dst := some 102, op := Op.move (Operand.tmp 15), type := 29, pos := "law.go:54", after := #[{ on := 18, ground := Ground.guard }], guard := some (18, true) }) (v := ?vb19) rfl (by kernel_rfl) (by kernel_rfl) (by kernel_rfl) (fun _ _ _ h => h) (Or.inl ⟨by rfl, ?yb19⟩) (by assumption) ?rb19
      case yb19 => (intro w hSw; (try dsimp only at hSw); go_simp <;> with_reducible rfl)
      (try simp only [Act.put, List.setIfInBounds_toArray, List.set_cons_zero, List.set_cons_succ])
      refine wpAnyH_take (i := 20) (oi := { dst := some 103, op := Op.convert 29 9 (Operand.tmp 102), type := 9, pos := "law.go:54", after := #[{ on := 19, ground := Ground.data }, { on := 18, ground := Ground.guard }], guard := some (18, true) }) (v := ?vb20) rfl (by kernel_rfl) (by kernel_rfl) (by kernel_rfl) (fun _ _ _ h => h) (Or.inl ⟨by rfl, ?yb20⟩) (by assumption) ?rb20
      case yb20 => (intro w hSw; (try dsimp only at hSw); go_simp <;> with_reducible rfl)
      (try simp only [Act.put, List.setIfInBounds_toArray, List.set_cons_zero, List.set_cons_succ])
      refine wpAnyH_take (i := 21) (oi := { dst := some 104, op := Op.move (Operand.tmp 3), type := 3, pos := "law.go:54", after := #[{ on := 18, ground := Ground.guard }], guard := some (18, true) }) (v := ?vb21) rfl (by kernel_rfl) (by kernel_rfl) (by kernel_rfl) (fun _ _ _ h => h) (Or.inl ⟨by rfl, ?yb21⟩) (by assumption) ?rb21
      case yb21 => (intro w hSw; (try dsimp only at hSw); go_simp <;> with_reducible rfl)
      (try simp only [Act.put, List.setIfInBounds_toArray, List.set_cons_zero, List.set_cons_succ])
      refine wpAnyH_take (i := 22) (oi := { dst := some 105, op := Op.move (Operand.tmp 2), type := 3, pos := "law.go:54", after := #[{ on := 18, ground := Ground.guard }], guard := some (18, true) }) (v := ?vb22) rfl (by kernel_rfl) (by kernel_rfl) (by kernel_rfl) (fun _ _ _ h => h) (Or.inl ⟨by rfl, ?yb22⟩) (by assumption) ?rb22
      case yb22 => (intro w hSw; (try dsimp only at hSw); go_simp <;> with_reducible rfl)
      (try simp only [Act.put, List.setIfInBounds_toArray, List.set_cons_zero, List.set_cons_succ])
      refine wpAnyH_ready (rs := [23]) (by kernel_rfl) (by simp) ?_
      refine AllReadyH.cons (o := { dst := some 106, op := Op.call { callee := Callee.value (Operand.func 37), args := #[Operand.tmp 104, Operand.tmp 105], argTypes := #[3, 3] }, type := 29, pos := "law.go:54", after := #[{ on := 21, ground := Ground.data }, { on := 22, ground := Ground.data }, { on := 18, ground := Ground.chain }, { on := 18, ground := Ground.guard }], guard := some (18, true) }) rfl (fun K hK => ?_) AllReadyH.nil
      go_simp
      go_wp2_with (go_at_call 37; ((with_reducible refine (ref1_Put _ _ _).mono ?_); rintro e w4 ⟨q, rfl, hq, hk4⟩; have hk6 : Kept w3 w4 := ⟨hk4.os, hk4.tape, hk4.output, hk4.size, fun k h => Below.block hk4 k h⟩; have hk5 := hw3.trans hk6; have e4 := run_str Try.underlying29 Try.underlying5 Try.underlying9 hq; have e5 := run_str Try.underlying29 Try.underlying5 Try.underlying9 (hp.kept hk6)))
      clear hHeld
      refine hK.out _ _ ?_ (fun hHeld => ?_)
      · exact e5
      clear hK K
      (try simp only [Act.put, List.setIfInBounds_toArray, List.set_cons_zero, List.set_cons_succ])
      refine wpAnyH_ready (rs := [24]) (by kernel_rfl) (by simp) ?_
      refine AllReadyH.cons (o := { dst := some 107, op := Op.convert 29 9 (Operand.tmp 106), type := 9, pos := "law.go:54", after := #[{ on := 23, ground := Ground.data }, { on := 18, ground := Ground.guard }], guard := some (18, true) }) rfl (fun K hK => ?_) AllReadyH.nil
      go_simp
      clear hHeld
      refine hK.out _ _ ?_ (fun hHeld => ?_)
      · exact e5
      clear hK K
      (try simp only [Act.put, List.setIfInBounds_toArray, List.set_cons_zero, List.set_cons_succ])
      refine wpAnyH_take (i := 25) (oi := { dst := some 108, op := Op.binOp BinOp.eql 9 (Operand.tmp 103) (Operand.tmp 107) 9, type := 4, pos := "law.go:54", after := #[{ on := 20, ground := Ground.data }, { on := 24, ground := Ground.data }, { on := 18, ground := Ground.guard }], guard := some (18, true) }) (v := ?vb25) rfl (by kernel_rfl) (by kernel_rfl) (by kernel_rfl) (fun _ _ _ h => h) (Or.inl ⟨by rfl, ?yb25⟩) (by assumption) ?rb25
      case yb25 => (intro w hSw; (try dsimp only at hSw); go_simp <;> with_reducible rfl)
      (try simp only [Act.put, List.setIfInBounds_toArray, List.set_cons_zero, List.set_cons_succ])
      refine wpAnyH_take (i := 26) (oi := { dst := some 109, op := Op.pick (Operand.tmp 101) (Operand.tmp 108) (Operand.const (Value.bool false)), type := 4, pos := "law.go:54", after := #[{ on := 18, ground := Ground.data }, { on := 25, ground := Ground.data }], guard := none }) (v := ?vb26) rfl (by kernel_rfl) (by kernel_rfl) (by kernel_rfl) (fun _ _ _ h => h) (Or.inl ⟨by rfl, ?yb26⟩) (by assumption) ?rb26
      case yb26 => (intro w hSw; (try dsimp only at hSw); go_simp <;> with_reducible rfl)
      (try simp only [Act.put, List.setIfInBounds_toArray, List.set_cons_zero, List.set_cons_succ])
      refine wpAnyH_take (i := 27) (oi := { dst := some 8, op := Op.assign (Operand.tmp 109), type := 4, pos := "law.go:54", after := #[{ on := 26, ground := Ground.data }, { on := 23, ground := Ground.chain }, { on := 0, ground := Ground.phase }, { on := 1, ground := Ground.phase }, { on := 2, ground := Ground.phase }, { on := 3, ground := Ground.phase }, { on := 4, ground := Ground.phase }, { on := 5, ground := Ground.phase }, { on := 6, ground := Ground.phase }, { on := 7, ground := Ground.phase }, { on := 8, ground := Ground.phase }, { on := 9, ground := Ground.phase }, { on := 10, ground := Ground.phase }, { on := 11, ground := Ground.phase }, { on := 12, ground := Ground.phase }, { on := 13, ground := Ground.phase }, { on := 14, ground := Ground.phase }, { on := 15, ground := Ground.phase }, { on := 16, ground := Ground.phase }, { on := 17, ground := Ground.phase }, { on := 18, ground := Ground.phase }, { on := 19, ground := Ground.phase }, { on := 20, ground := Ground.phase }, { on := 21, ground := Ground.phase }, { on := 22, ground := Ground.phase }, { on := 23, ground := Ground.phase }, { on := 24, ground := Ground.phase }, { on := 25, ground := Ground.phase }, { on := 26, ground := Ground.phase }], guard := none }) (v := ?vb27) rfl (by kernel_rfl) (by kernel_rfl) (by kernel_rfl) (fun _ _ _ h => h) (Or.inl ⟨by rfl, ?yb27⟩) (by assumption) ?rb27
      case yb27 => (intro w hSw; (try dsimp only at hSw); go_simp <;> with_reducible rfl)
      (try simp only [Act.put, List.setIfInBounds_toArray, List.set_cons_zero, List.set_cons_succ])
      refine wpAnyH_done (by kernel_rfl) ?_ _
      go_wp2
      go_ret
      exact ⟨ret_bool (by simp), hk5⟩

end Go.Proofs.Ytdcldijeoamjpaa
