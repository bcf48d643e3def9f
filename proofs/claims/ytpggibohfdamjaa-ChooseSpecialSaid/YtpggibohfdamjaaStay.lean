/-
  turnstilelaw9.Stay: lent types are as they were.
-/
import Derived.Test.YtpggibohfdamjaaLent
import Derived.Test.YtpggibohfdamjaaSame
namespace Go.Proofs.Ytpggibohfdamjaa
open Go.RowKit
set_option maxRecDepth 100000

theorem LentF.at {B : Nat} {L L' : List TypeV} {N g c : Nat} {W : World} (h : LentF B L L' N g c W) {k : Nat} {y : TypeV} (hy : L[k]? = some y) : ∃ y', L'[k]? = some y' ∧ y'.d = y.d := by
  have h1 : (L'.map TypeV.d)[k]? = some y.d := by rw [h.d, List.getElem?_map, hy]; rfl
  rw [List.getElem?_map] at h1
  obtain ⟨y', h2, h3⟩ := Option.map_eq_some_iff.1 h1
  exact ⟨y', h2, h3⟩
theorem LentF.cells {B : Nat} {L L' : List TypeV} {N g c : Nat} {W : World} (h : LentF B L L' N g c W) {k : Nat} {y : TypeV} (hy : L'[k]? = some y) :
    W.cell? ⟨g, k * 6, none⟩ = some (.string y.name) ∧ W.cell? ⟨g, k * 6 + 1, none⟩ = some (.string y.super) ∧ W.cell? ⟨g, k * 6 + 2, none⟩ = some (.int .i64 y.access) ∧ W.cell? ⟨g, k * 6 + 3, none⟩ = some y.interfacesV ∧ W.cell? ⟨g, k * 6 + 4, none⟩ = some y.fieldsV ∧ W.cell? ⟨g, k * 6 + 5, none⟩ = some y.methodsV := by
  have hg : ∀ f u, (encTypeV y)[f]? = some u → f < 6 → W.cell? ⟨g, k * 6 + f, none⟩ = some u := fun f u hu hf => by
    refine h.row.cells.1 _ _ ?_
    have h1 := flat_get encTypeV 6 (fun _ => rfl) L' k f y hy hf
    rw [hu] at h1
    rw [List.getElem?_append_left (List.getElem?_eq_some_iff.1 h1).1]
    exact h1
  exact ⟨hg 0 _ rfl (by omega), hg 1 _ rfl (by omega), hg 2 _ rfl (by omega), hg 3 _ rfl (by omega), hg 4 _ rfl (by omega), hg 5 _ rfl (by omega)⟩
theorem LentF.last {B : Nat} {L L' : List TypeV} {N g c : Nat} {W : World} (h : LentF B L L' N g c W) : W.cell? ⟨g, N * 6, none⟩ = some (.string ⟨#[45, 55, 52]⟩) := by
  have hll : L'.length = N := by
    have := congrArg List.length h.d
    simp only [List.length_map] at this
    rw [this, h.len]
  refine h.row.cells.1 _ _ ?_
  have hl : (L'.flatMap encTypeV).length = N * 6 := by rw [flat_length encTypeV 6 (fun _ => rfl), hll]
  rw [List.getElem?_append_right (by omega), hl, Nat.sub_self]
  rfl
theorem Row.behind {w : World} {B e sz n g c : Nat} {xs ys : List Value} (h : Row w B e sz (.slice (some ⟨g, 0, none⟩) (n + 1) c) (n + 1) (xs ++ ys)) (hx : xs.length = n * sz) {u : Value} (hu : ys[0]? = some u) : w.cell? ⟨g, n * sz, none⟩ = some u := by
  refine h.cells.1 _ _ ?_
  rw [List.getElem?_append_right (by omega), hx, Nat.sub_self]
  exact hu

set_option maxHeartbeats 8000000 in
theorem law9_Stay (L L' : List TypeV) (B N g c : Nat) (v : Value) (w : World) (hF : LentF B L L' N g c w) (hr : Rd w 6 v N (L.flatMap encTypeV)) (hok : ∀ y ∈ L, TypeV.Ok w y) (hN : N ≤ 60) (hct : ∀ y ∈ L, y.count ≤ 3000) :
    Calls Try.prog 14 #[.slice (some ⟨g, 0, none⟩) N c, v] w fun e w' => e = .returned (.bool true) ∧ Kept w w' := by
  have HF := Lib.hid hF
  have HR := Lib.hid hr
  have HOK := Lib.hid hok
  have HCT := Lib.hid hct
  have HL := Lib.hid hF.len
  have hb := hF.row.bounds
  have zl := hF.last
  obtain ⟨_, va, vc, rfl, hv1, hv2, _⟩ := hr
  clear hok hct hF
  have hW0 : IntKind.i64.wrap ((N : Int) + 1) = (N : Int) + 1 := IntWalk.i64_in _ (by omega)
  have hI0 : (N : Int) + 1 ≤ (c : Int) := by omega
  have hI1 : (0 : Int) ≤ (N : Int) + 1 := by omega
  have hI2 : (N : Int) < (N : Int) + 1 := by omega
  have hI3 : (0 : Int) ≤ (N : Int) := by omega
  go_enter Try.func14, Try.ntmps14
  go_wp2_with fail
  go_loopw [6, 7, 8, 9, 10] (fun s6 _ _ _ _ wr => ∃ k : Nat, k ≤ N ∧ s6 = .int .i64 k ∧ Kept w wr) (fun s6 _ _ _ _ _ => N - (intOf s6).toNat)
  case atStart => exact ⟨0, by omega, rfl, Below.refl _ _⟩
  case round =>
    obtain ⟨k, hk, rfl, hkw⟩ := hrel
    have KR := Lib.hid hkw
    clear hkw zl
    by_cases hlt : k < N
    · obtain ⟨y, hy⟩ : ∃ y, L[k]? = some y := ⟨_, List.getElem?_eq_getElem (by have := HL.out; omega)⟩
      have FR := HF.out.kept KR.out
      obtain ⟨y', hy', hd⟩ := FR.at hy
      have hrR := HR.out.kept KR.out
      rw [← HL.out] at hrR
      obtain ⟨b, off, cc, hv, hc, z0, z1, z2, z3, z4, z5⟩ := type_cells hrR hy
      simp only [Value.slice.injEq] at hv
      obtain ⟨rfl, -, rfl⟩ := hv
      obtain ⟨o0, o1, o2, o3, o4, o5⟩ := FR.cells hy'
      have hlen := FR.lent y' (List.mem_of_getElem? hy')
      have hyo := Ok.keep_ (HOK.out y (List.mem_of_getElem? hy)) KR.out
      have hyo' := hlen.ok hd hyo
      have hyc := HCT.out y (List.mem_of_getElem? hy)
      have HYC := Lib.hid hyc
      unfold TypeV.count at hyc
      obtain ⟨nm, sp, acc, iv, is, fv, fs, mv, ms⟩ := y
      obtain ⟨nm', sp', acc', iv', is', fv', fs', mv', ms'⟩ := y'
      have hd2 := hd
      simp only [TypeV.d, TD.mk.injEq] at hd2
      obtain ⟨rfl, rfl, rfl, rfl, rfl, rfl⟩ := hd2
      have HYO := Lib.hid hyo
      have HD := Lib.hid hd
      have hri := hyo.interfaces_
      have hrf := hyo.fields_
      have hrm := hyo.methods_
      obtain ⟨⟨h3, e3, hv3, r3⟩, ⟨h4, e4, hv4, r4⟩, ⟨h5, e5, hv5, r5⟩⟩ := hlen
      dsimp only at hri hrf hrm hyc z0 z1 z2 z3 z4 z5 o0 o1 o2 o3 o4 o5 hv3 hv4 hv5 r3 r4 r5
      subst hv3 hv4 hv5
      obtain ⟨n3, hn3⟩ : ∃ n, n = is'.length := ⟨_, rfl⟩
      obtain ⟨n4, hn4⟩ : ∃ n, n = fs'.length := ⟨_, rfl⟩
      obtain ⟨n5, hn5⟩ : ∃ n, n = ms'.length := ⟨_, rfl⟩
      have l3 := strs_len is'
      have l4 := flat_length encMemberV 5 (fun _ => rfl) fs'
      have l5 := flat_length encMemberV 5 (fun _ => rfl) ms'
      rw [← hn3] at hri hyc r3 o3 l3
      rw [← hn4] at hrf hyc r4 o4 l4
      rw [← hn5] at hrm hyc r5 o5 l5
      rw [List.flatMap_append] at r3 r4 r5
      have v3 := r3.bounds
      have v4 := r4.bounds
      have v5 := r5.bounds
      have y3 : wr.cell? ⟨h3, n3, none⟩ = some (.string ⟨#[45, 55, 49]⟩) := by have := r3.behind l3 (u := .string ⟨#[45, 55, 49]⟩) rfl; rwa [Nat.mul_one] at this
      have y4 : wr.cell? ⟨h4, n4 * 5, none⟩ = some (.int .i64 (-72)) := r4.behind l4 rfl
      have y5 : wr.cell? ⟨h5, n5 * 5, none⟩ = some (.int .i64 (-73)) := r5.behind l5 rfl
      obtain ⟨_, a3, c3, rfl, hc3, hd3, _⟩ := hri
      obtain ⟨_, a4, c4, rfl, hc4, hd4, _⟩ := hrf
      obtain ⟨_, a5, c5, rfl, hc5, hd5, _⟩ := hrm
      have HYO' : Hid (TypeV.Ok wr ⟨nm', sp', acc', .slice (some ⟨h3, 0, none⟩) n3 e3, is', .slice (some ⟨h4, 0, none⟩) n4 e4, fs', .slice (some ⟨h5, 0, none⟩) n5 e5, ms'⟩) := Lib.hid (by rw [hn3, hn4, hn5]; exact hyo')
      have N3 := Lib.hid hn3
      have N4 := Lib.hid hn4
      have N5 := Lib.hid hn5
      clear hn3 hn4 hn5 l3 l4 l5 r3 r4 r5 hyo hyo' hd hy hy' FR hrR
      have hkN : (k : Int) < (N : Int) := by omega
      have hk0 : (0 : Int) ≤ (k : Int) := by omega
      have hw3 : IntKind.i64.wrap ((n3 : Int) + 1) = (n3 : Int) + 1 := IntWalk.i64_in _ (by omega)
      have hw4 : IntKind.i64.wrap ((n4 : Int) + 1) = (n4 : Int) + 1 := IntWalk.i64_in _ (by omega)
      have hw5 : IntKind.i64.wrap ((n5 : Int) + 1) = (n5 : Int) + 1 := IntWalk.i64_in _ (by omega)
      have i3 : (n3 : Int) + 1 ≤ (e3 : Int) := by omega
      have i4 : (n4 : Int) + 1 ≤ (e4 : Int) := by omega
      have i5 : (n5 : Int) + 1 ≤ (e5 : Int) := by omega
      have j3 : (0 : Int) ≤ (n3 : Int) + 1 := by omega
      have j4 : (0 : Int) ≤ (n4 : Int) + 1 := by omega
      have j5 : (0 : Int) ≤ (n5 : Int) + 1 := by omega
      have k3 : (n3 : Int) < (n3 : Int) + 1 := by omega
      have k4 : (n4 : Int) < (n4 : Int) + 1 := by omega
      have k5 : (n5 : Int) < (n5 : Int) + 1 := by omega
      go_upto_region 7 with fail
      go_region_held2 (fun w' => w'.cell? ⟨g, k * 6, none⟩ = some (.string nm') ∧ w'.cell? ⟨g, k * 6 + 1, none⟩ = some (.string sp') ∧ w'.cell? ⟨g, k * 6 + 2, none⟩ = some (.int .i64 acc') ∧ w'.cell? ⟨g, k * 6 + 3, none⟩ = some (.slice (some ⟨h3, 0, none⟩) n3 e3) ∧ w'.cell? ⟨g, k * 6 + 4, none⟩ = some (.slice (some ⟨h4, 0, none⟩) n4 e4) ∧ w'.cell? ⟨g, k * 6 + 5, none⟩ = some (.slice (some ⟨h5, 0, none⟩) n5 e5) ∧ w'.cell? ⟨b, off + k * 6, none⟩ = some (.string nm') ∧ w'.cell? ⟨b, off + k * 6 + 1, none⟩ = some (.string sp') ∧ w'.cell? ⟨b, off + k * 6 + 2, none⟩ = some (.int .i64 acc') ∧ w'.cell? ⟨b, off + k * 6 + 3, none⟩ = some (.slice a3 n3 c3) ∧ w'.cell? ⟨b, off + k * 6 + 4, none⟩ = some (.slice a4 n4 c4) ∧ w'.cell? ⟨b, off + k * 6 + 5, none⟩ = some (.slice a5 n5 c5)) (go_keep)
        (first | (go_at_call 33; refine (same_type wr.drew ⟨nm', sp', acc', .slice (some ⟨h3, 0, none⟩) n3 e3, is', .slice (some ⟨h4, 0, none⟩) n4 e4, fs', .slice (some ⟨h5, 0, none⟩) n5 e5, ms'⟩ ⟨nm', sp', acc', .slice a3 n3 c3, is', .slice a4 n4 c4, fs', .slice a5 n5 c5, ms'⟩ rfl (Ok.keep_ HYO'.out (Below.refl _ _).drew) (Ok.keep_ HYO.out (Below.refl _ _).drew) HYC.out).mono ?_; rintro e W7 ⟨rfl, k7⟩; have q0 := Kept.cell k7 o0; have q1 := Kept.cell k7 o1; have q2 := Kept.cell k7 o2; have q3 := Kept.cell k7 o3; have q4 := Kept.cell k7 o4; have q5 := Kept.cell k7 o5; have p0 := Kept.cell k7 z0; have p1 := Kept.cell k7 z1; have p2 := Kept.cell k7 z2; have p3 := Kept.cell k7 z3; have p4 := Kept.cell k7 z4; have p5 := Kept.cell k7 z5; have K7 := Lib.hid k7; have x3 := Kept.cell k7 y3; have x4 := Kept.cell k7 y4; have x5 := Kept.cell k7 y5; clear k7))
      go_wp2_with fail
      go_roundw
      case rel => exact ⟨k + 1, by omega, by go_num, Kept.trans KR.out (Kept.trans (Below.refl _ _).drew K7.out)⟩
      case measure => simp [intOf]; omega
    · have hkN : k = N := by omega
      subst hkN
      have hkN : ¬ ((k : Int) < (k : Int)) := by omega
      go_wp2_with fail
      go_ret
      exact ⟨rfl, KR.out⟩
end Go.Proofs.Ytpggibohfdamjaa
