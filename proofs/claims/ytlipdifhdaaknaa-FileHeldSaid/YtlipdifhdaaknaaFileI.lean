/-
  The law FileCut: its walk.
-/
import Derived.Test.YtlipdifhdaaknaaFileH
namespace Go.Proofs.Ytlipdifhdaaknaa
open Go.RowKit
set_option maxRecDepth 100000

/-- Read, where its class is not looked at. -/
theorem file_ReadE (L : List UInt8) (vb : Value) (w : World) (hrd : Rd w 1 vb L.length (L.map byteV)) (p k : Int) (hp : (readP L).2 = (p, k)) :
    Calls Try.prog 9 #[vb] w fun e w' => (∃ i0 i1 a2 n2 c2 i3 i4 i5 a6 n6 c6 a7 n7 c7 a8 n8 c8, e = .returned (.tuple #[.agg #[.int .i64 i0, .int .i64 i1, .slice a2 n2 c2, .int .i64 i3, .int .i64 i4, .int .i64 i5, .slice a6 n6 c6, .slice a7 n7 c7, .slice a8 n8 c8], .int .i64 p, .int .i64 k])) ∧ Kept w w' := by
  refine (file_Read L vb w hrd).mono ?_
  rintro e w' ⟨mv, vP, vI, vF, vM, he, hcr, hk⟩
  obtain ⟨aP, cP, rfl, -, -⟩ := own_slice hcr.p
  obtain ⟨aI, cI, rfl, -, -⟩ := own_slice hcr.i
  obtain ⟨aF, cF, rfl, -, -⟩ := own_slice hcr.f
  obtain ⟨aM, cM, rfl, -, -⟩ := own_slice hcr.m
  rw [hp] at he
  exact ⟨⟨_, _, _, _, _, _, _, _, _, _, _, _, _, _, _, _, _, he⟩, hk⟩
theorem rd_take {w : World} {L : List UInt8} {a : Option Addr} {c k : Nat} (h : Rd w 1 (.slice a L.length c) L.length (L.map byteV)) (hk : k ≤ L.length) : Rd w 1 (.slice a k c) (L.take k).length ((L.take k).map byteV) := by
  obtain ⟨_, a', c', hv, h1, h2, h3⟩ := h
  simp only [Value.slice.injEq] at hv
  obtain ⟨rfl, -, rfl⟩ := hv
  have hl : (L.take k).length = k := by rw [List.length_take]; omega
  rw [hl]
  refine ⟨by rw [List.length_map, hl, Nat.mul_one], a, c, rfl, by omega, h2, fun h0 => ?_⟩
  obtain ⟨b, off, rfl, hc⟩ := h3 (by omega)
  refine ⟨b, off, rfl, fun j u hu => hc j u ?_⟩
  rw [List.map_take, List.getElem?_take] at hu
  by_cases hj : j < k
  · rwa [if_pos hj] at hu
  · rw [if_neg hj] at hu; cases hu
theorem bytes_one (l : List UInt8) : ∀ u ∈ l.map byteV, u.oneCell' = true := by
  intro u hu
  obtain ⟨x, _, rfl⟩ := List.mem_map.1 hu
  rfl
set_option maxHeartbeats 4000000 in
theorem walk_FileCut (b : List UInt8) (x0 : Value) (less : Int) (m : List UInt8) (x2 : Value) (w : World) (h0 : Rd w 1 x0 b.length (b.map byteV)) (hl : (Lit.int .i64 less).wf = true) (h2 : Rd w 1 x2 m.length (m.map byteV)) :
    Calls Try.prog 5 #[x0, .int .i64 less, x2] w fun e w' => e = .returned (.bool true) ∧ Below w.heap.size w w' := by
  have H0 := Lib.hid h0
  have H2 := Lib.hid h2
  obtain ⟨_, a0, c0, rfl, q1, q2, -⟩ := h0
  obtain ⟨_, a2, c2, rfl, q3, q4, -⟩ := h2
  clear hl
  rcases (by omega : 20000 < b.length ∨ (¬ 20000 < b.length ∧ less < 1) ∨ (¬ 20000 < b.length ∧ ¬ less < 1 ∧ m.length < 1) ∨ (¬ 20000 < b.length ∧ ¬ less < 1 ∧ ¬ m.length < 1 ∧ 100 < m.length) ∨ (¬ 20000 < b.length ∧ ¬ less < 1 ∧ ¬ m.length < 1 ∧ ¬ 100 < m.length)) with hh | hh | hh | hh | hh
  rotate_right
  · obtain ⟨g1, g2, g3, g4⟩ := hh
    have g1' : ¬ (20000 : Int) < (b.length : Int) := by omega
    have g3' : ¬ (m.length : Int) < 1 := by omega
    have g4' : ¬ (100 : Int) < (m.length : Int) := by omega
    go_enter Try.func5, Try.ntmps5
    go_wp2_with fail
    refine (alive3 _).mono ?_
    rintro e w1 ⟨rfl, k1⟩
    have K1 := Lib.hid k1
    clear k1
    go_wp2_with fail
    obtain ⟨p, k, hpk⟩ : ∃ p k, (readP b).2 = (p, k) := ⟨_, _, rfl⟩
    refine (file_ReadE b _ w1 (H0.out.kept K1.out) p k hpk).mono ?_
    rintro e w2 ⟨⟨i0, i1, j2, n2, d2, i3, i4, i5, j6, n6, d6, j7, n7, d7, j8, n8, d8, rfl⟩, k2⟩
    have K2 := Lib.hid (Kept.trans K1.out k2)
    clear k2
    go_upto_region 5 with fail
    have K3 : Hid (Kept w (w2.alloc (.cells #[.int .i64 i0, .int .i64 i1, .slice j2 n2 d2, .int .i64 i3, .int .i64 i4, .int .i64 i5, .slice j6 n6 d6, .slice j7 n7 d7, .slice j8 n8 d8] 29))) := Lib.hid (Below.alloc K2.out K2.out.size _)
    generalize w2.alloc (.cells #[.int .i64 i0, .int .i64 i1, .slice j2 n2 d2, .int .i64 i3, .int .i64 i4, .int .i64 i5, .slice j6 n6 d6, .slice j7 n7 d7, .slice j8 n8 d8] 29) = W3 at *
    by_cases hk : k = 0
    rotate_left
    · have hkb : (k != 0) = true := by simpa using hk
      go_wp2_with (first
        | (go_at_call 11; refine (law3_num _ _).mono ?_; rintro e w5 ⟨rfl, rfl⟩))
      go_ret
      exact ⟨rfl, K3.out⟩
    subst hk
    by_cases hlb : less ≤ b.length
    rotate_left
    · have hlb' : (b.length : Int) < less := by omega
      go_wp2_with (first
        | (go_at_call 11; refine (law3_num _ _).mono ?_; rintro e w5 ⟨rfl, rfl⟩))
      go_ret
      exact ⟨rfl, K3.out⟩
    obtain ⟨n, rfl⟩ : ∃ n : Nat, less = n := ⟨less.toNat, by omega⟩
    have hlb' : ¬ (b.length : Int) < (n : Int) := by omega
    have hr0 : (readP b).2.2 = 0 := by rw [hpk]
    obtain ⟨kk, hkk⟩ : ∃ kk, kk = b.length - n := ⟨_, rfl⟩
    have hwr : IntKind.i64.wrap ((b.length : Int) - (n : Int)) = (kk : Int) := by rw [show (b.length : Int) - (n : Int) = kk by omega]; exact IntWalk.i64_in _ (by omega)
    have hw2 : (b.length : Int) - (n : Int) = (kk : Int) := by omega
    have u1 : (0 : Int) ≤ (kk : Int) := by omega
    have u2 : (kk : Int) ≤ (c0 : Int) := by omega
    obtain ⟨pc, hpc, hpk2⟩ := read_cut hr0 (k := kk) (by omega)
    go_wp2_with (first
        | (go_at_call 11; refine (law3_num _ _).mono ?_; rintro e w5 ⟨rfl, rfl⟩))
    subst hkk
    refine (file_ReadE (b.take (b.length - n)) _ W3 (rd_take (H0.out.kept K3.out) (by omega)) pc 10 (by rw [hpc])).mono ?_
    rintro e w4 ⟨⟨k0, k1, l2, m2, o2, k3, k4, k5, l6, m6, o6, l7, m7, o7, l8, m8, o8, rfl⟩, k4'⟩
    have K4 := Lib.hid (Kept.trans K3.out k4')
    clear k4'
    go_upto_region 8 with fail
    have K5 : Hid (Kept w (w4.alloc (.cells #[.int .i64 k0, .int .i64 k1, .slice l2 m2 o2, .int .i64 k3, .int .i64 k4, .int .i64 k5, .slice l6 m6 o6, .slice l7 m7 o7, .slice l8 m8 o8] 29))) := Lib.hid (Below.alloc K4.out K4.out.size _)
    generalize w4.alloc (.cells #[.int .i64 k0, .int .i64 k1, .slice l2 m2 o2, .int .i64 k3, .int .i64 k4, .int .i64 k5, .slice l6 m6 o6, .slice l7 m7 o7, .slice l8 m8 o8] 29) = W5 at *
    have hs5 := K5.out.size
    go_wp2_with (first
      | (at_builtin; refine wpl_append _ elem_byte rfl (.const (.slice none 0 0)) (.tmp 67) rfl w.heap.size (.slice none 0 0) 0 [] rfl (World.ownsRow_nil _ _ _ _) _ b.length _ rfl (H0.out.kept K5.out) (bytes_one _) (by omega) (by omega) hs5 ?_; intro v6 w6 ho6 hg6; rw [Nat.zero_add, List.nil_append] at ho6; obtain ⟨a6, c6, rfl, -, -⟩ := own_slice ho6; have HO6 := Lib.hid ho6; have K6 := Lib.hid (Below.grown K5.out hg6 hs5 (fun k hk => by cases hk)); have hs6 := K6.out.size; clear ho6 hg6)
      | (at_builtin; refine wpl_append _ elem_byte rfl (.tmp 68) (.tmp 69) rfl w.heap.size _ b.length _ rfl HO6.out _ m.length _ rfl (H2.out.kept K6.out) (bytes_one _) (by omega) (by omega) hs6 ?_; intro v7 w7 ho7 hg7; obtain ⟨a7, c7, rfl, -, -⟩ := own_slice ho7; have HO7 := Lib.hid ho7; have K7 := Lib.hid (Below.grown K6.out hg7 hs6 (fun k hk => (HO6.out.lt k hk).1)); clear ho7 hg7))
    have hmore := read_more (M := m) hr0 (by intro e; subst e; simp at g3) (by rw [List.length_append]; omega)
    have hrd7 : Rd w7 1 (.slice a7 (b.length + m.length) c7) (b ++ m).length ((b ++ m).map byteV) := by
      rw [List.map_append, List.length_append]
      exact Rd.of_own HO7.out
    refine (file_ReadE (b ++ m) _ w7 hrd7 b.length 14 (by rw [hmore])).mono ?_
    rintro e w8 ⟨⟨s0, s1, s2, s3, s4, s5, s6, s7, s8, s9, sa, sb, sc, sd, se, sf, sg, rfl⟩, k8⟩
    have K8 := Lib.hid (Kept.trans K7.out k8)
    have hpc0 : (0 : Int) ≤ (pc : Int) := by omega
    have hpc1 : (pc : Int) ≤ ((b.length - n : Nat) : Int) := by omega
    clear k8 hpc hmore hpk hr0 hrd7
    go_wp2_with (first
        | (go_at_call 11; refine (law3_num _ _).mono ?_; rintro e w9 ⟨rfl, rfl⟩))
    go_ret
    exact ⟨rfl, Below.alloc K8.out K8.out.size _⟩
  · have g1 : (20000 : Int) < (b.length : Int) := by omega
    go_enter Try.func5, Try.ntmps5
    go_wp2_with (first | (go_at_call 8; refine (alive3 _).mono ?_; rintro e w1 ⟨rfl, k1⟩; have K1 := Lib.hid k1; clear k1))
    go_ret
    exact ⟨rfl, K1.out⟩
  · obtain ⟨g0, g2⟩ := hh
    have g1 : ¬ (20000 : Int) < (b.length : Int) := by omega
    go_enter Try.func5, Try.ntmps5
    go_wp2_with (first | (go_at_call 8; refine (alive3 _).mono ?_; rintro e w1 ⟨rfl, k1⟩; have K1 := Lib.hid k1; clear k1))
    go_ret
    exact ⟨rfl, K1.out⟩
  · obtain ⟨g0, g2, g3⟩ := hh
    have g1 : ¬ (20000 : Int) < (b.length : Int) := by omega
    have g4 : (m.length : Int) < 1 := by omega
    go_enter Try.func5, Try.ntmps5
    go_wp2_with (first | (go_at_call 8; refine (alive3 _).mono ?_; rintro e w1 ⟨rfl, k1⟩; have K1 := Lib.hid k1; clear k1))
    go_ret
    exact ⟨rfl, K1.out⟩
  · obtain ⟨g0, g2, g3, g5⟩ := hh
    have g1 : ¬ (20000 : Int) < (b.length : Int) := by omega
    have g4 : ¬ (m.length : Int) < 1 := by omega
    have g6 : (100 : Int) < (m.length : Int) := by omega
    go_enter Try.func5, Try.ntmps5
    go_wp2_with (first | (go_at_call 8; refine (alive3 _).mono ?_; rintro e w1 ⟨rfl, k1⟩; have K1 := Lib.hid k1; clear k1))
    go_ret
    exact ⟨rfl, K1.out⟩
end Go.Proofs.Ytlipdifhdaaknaa
