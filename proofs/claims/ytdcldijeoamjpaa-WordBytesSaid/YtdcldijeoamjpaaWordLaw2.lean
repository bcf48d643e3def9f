/-
  The laws WordBack and WordBytes of chapter 1, walked.
-/
import Derived.Test.YtdcldijeoamjpaaWordPut
import Derived.Test.YtdcldijeoamjpaaWordLaws
namespace Go.Proofs.Ytdcldijeoamjpaa
open Go.RowKit

theorem run_str {P : Program} {w : World} {t e s : TypeId} (ht : P.underlying t = some (.slice e)) (he : P.underlying e = some (.int .u8)) (hs : P.underlying s = some .string) {v : Value} {l : List UInt8} (h : Rd w 1 v l.length (l.map byteV)) :
    (convert t s v).run P w = .ok (.string ⟨l.toArray⟩) w := by
  rcases h.parts with ⟨h0, hx, a, c, rfl, hc⟩ | ⟨b, off, c, rfl, h0, h1, h2, hc⟩
  · have hl : l = [] := List.eq_nil_of_length_eq_zero h0
    subst hl
    cases a with
    | none => exact run_convert_bytes_nil w t e ht he 0 c s hs
    | some a =>
      have hld : (loadCells a 0).run P w = .ok (([] : List Int).map (Value.int .u8)).toArray w := run_loadCells_list w a [] (by simp)
      rw [run_convert_bytes_string w t s e _ 0 c ht he hs, run_bytesToString w a 0 c [] hld]
      rfl
  · have := run_convert_bytes_arg w t e ht he b off l.length c (l.map fun x => (x.toNat : Int)) (by simp) (fun i hi => by
      rw [hc i (byteV l[i]) (by rw [List.getElem?_map, List.getElem?_eq_getElem hi]; rfl)]
      simp [byteV, List.getD, List.getElem?_eq_getElem hi]) s hs
    rw [this]
    simp only [strOfNums, List.map_map]
    congr 4
    have : ((fun n : Int => UInt8.ofNat n.toNat) ∘ fun x : UInt8 => (x.toNat : Int)) = id := by funext x; simp
    rw [this, List.map_id]

theorem getU_at0 (l : List UInt8) (n : Int) (h : okAt l 0 n = true) (hn : l.length = n.toNat) : getU l 0 n = (be l : Int) := by
  simp only [getU, h, if_true, Int.toNat_zero, List.drop_zero]
  rw [List.take_of_length_le (by omega)]
theorem getS_at0 (l : List UInt8) (n : Int) (h : okAt l 0 n = true) (hn : l.length = n.toNat) : getS l 0 n = sgn n (be l : Int) := by
  simp only [getS, h, if_true, Int.toNat_zero, List.drop_zero]
  rw [List.take_of_length_le (by omega)]
theorem be_put1 (v : Int) : (be [byteOf v 0] : Int) = v % 256 := by
  have h := byteOf_val v 0
  simp only [Int.pow_zero] at h
  simp only [be, List.foldl]
  omega
theorem be_put2 (v : Int) : (be [byteOf v 1, byteOf v 0] : Int) = v % 65536 := by
  have h := byteOf_val v 0
  have h1 := byteOf_val v 1
  simp only [Int.reducePow] at h h1
  simp only [be, List.foldl]
  omega
theorem be_put4 (v : Int) : (be [byteOf v 3, byteOf v 2, byteOf v 1, byteOf v 0] : Int) = v % 4294967296 := by
  have h := byteOf_val v 0
  have h1 := byteOf_val v 1
  have h2 := byteOf_val v 2
  have h3 := byteOf_val v 3
  simp only [Int.reducePow] at h h1 h2 h3
  simp only [be, List.foldl]
  omega
theorem and255 (x : Int) : b32 .and x 255 = x % 256 := by
  show (BitVec.ofInt 32 x &&& BitVec.ofInt 32 255).toInt = _
  rw [← wrap32_toInt, show (255 : Int) = ((2 ^ 8 - 1 : Nat) : Int) from rfl, mask_eq 32 8 _ (by decide)]
  unfold wrap32
  omega
theorem wrap8_mod (v : Int) : wrap8 (v % 256) = wrap8 v := by unfold wrap8; omega
theorem wrap16_mod (v : Int) : wrap16 (v % 65536) = wrap16 v := by unfold wrap16; omega

set_option maxHeartbeats 1000000 in
theorem walk_WordBack1 (v : Int) (w : World) :
    Calls Try.prog 7 #[.int .i64 v, .int .i64 1] w fun e w' => e = .returned (.bool true) ∧ Below w.heap.size w w' := by
  have hp : putL v 1 = [byteOf v 0] := by simp [putL]
  have ho : okAt [byteOf v 0] 0 1 = true := by simp [okAt]
  have hu : getU [byteOf v 0] 0 1 = v % 256 := by rw [getU_at0 _ _ ho (by simp), be_put1]
  have hs : getS [byteOf v 0] 0 1 = wrap8 v := by
    rw [getS_at0 _ _ ho (by simp), be_put1]
    simp only [sgn]
    exact wrap8_mod v
  have hm : b32 .and (v % 256) 255 = (byteOf v 0).toNat := by rw [and255, byteOf_val]; omega
  have hb0 := u8_lt (byteOf v 0)
  go_enter Try.func7, Try.ntmps7
  go_wp2_with (go_at_call 8; ((with_reducible refine (alive1 _).mono ?_); rintro e w' ⟨rfl, rfl⟩))
  refine (word_Put _ _ _).mono ?_
  rintro e w1 ⟨x, rfl, hr, hk⟩
  rw [hp] at hr
  have hr' : Rd w1 1 x 1 _ := hr
  have hg := Lib.hid (word_Get [byteOf v 0] x 0 1 w1 hr)
  have hgs := Lib.hid (word_Signed [byteOf v 0] x 0 1 w1 hr)
  rcases hr'.parts with ⟨h0, _⟩ | ⟨b, off, c, rfl, h0, h1, h2, hc⟩
  · simp at h0
  have hcell : w1.cell? ⟨b, off, none⟩ = some (.int .u8 (byteOf v 0).toNat) := hc 0 _ (by simp [byteV])
  have h1' : 1 ≤ c := h1
  clear hc hr hr' hp h1 h0
  go_wp2_with (first
    | (go_at_call 33; ((with_reducible refine hg.out.mono ?_); rintro e w' ⟨rfl, rfl⟩))
    | (go_at_call 34; ((with_reducible refine hgs.out.mono ?_); rintro e w' ⟨rfl, rfl⟩))
    | (go_at_call 24; ((with_reducible refine (word_Wrap _ _).mono ?_); rintro e w' ⟨rfl, rfl⟩))
    | (go_at_call 15; ((with_reducible refine (word_Byte _ _).mono ?_); rintro e w' ⟨rfl, rfl⟩))
    | (go_at_call 17; ((with_reducible refine (word_Short _ _).mono ?_); rintro e w' ⟨rfl, rfl⟩))
    | (go_at_call 30; ((with_reducible refine (word_And _ _ _).mono ?_); rintro e w' ⟨rfl, rfl⟩)))
  go_quiet ((go_at_call 30; exact quiet_l (word_And _ _ _)))
  go_wp2
  go_ret
  exact ⟨ret_bool (by simp), kept_drewN hk _⟩

set_option maxHeartbeats 1000000 in
theorem walk_WordBack2 (v : Int) (w : World) :
    Calls Try.prog 7 #[.int .i64 v, .int .i64 2] w fun e w' => e = .returned (.bool true) ∧ Below w.heap.size w w' := by
  have hp : putL v 2 = [byteOf v 1, byteOf v 0] := by simp [putL]
  have ho : okAt [byteOf v 1, byteOf v 0] 0 2 = true := by simp [okAt]
  have hu : getU [byteOf v 1, byteOf v 0] 0 2 = v % 65536 := by rw [getU_at0 _ _ ho (by simp), be_put2]
  have hs : getS [byteOf v 1, byteOf v 0] 0 2 = wrap16 v := by
    rw [getS_at0 _ _ ho (by simp), be_put2]
    simp only [sgn]
    exact wrap16_mod v
  have hm : b32 .and (v % 65536) 255 = (byteOf v 0).toNat := by rw [and255, byteOf_val]; omega
  have hb0 := u8_lt (byteOf v 0)
  go_enter Try.func7, Try.ntmps7
  go_wp2_with (go_at_call 8; ((with_reducible refine (alive1 _).mono ?_); rintro e w' ⟨rfl, rfl⟩))
  refine (word_Put _ _ _).mono ?_
  rintro e w1 ⟨x, rfl, hr, hk⟩
  rw [hp] at hr
  have hr' : Rd w1 1 x 2 _ := hr
  have hg := Lib.hid (word_Get [byteOf v 1, byteOf v 0] x 0 2 w1 hr)
  have hgs := Lib.hid (word_Signed [byteOf v 1, byteOf v 0] x 0 2 w1 hr)
  rcases hr'.parts with ⟨h0, _⟩ | ⟨b, off, c, rfl, h0, h1, h2, hc⟩
  · simp at h0
  have hcell : w1.cell? ⟨b, off + 1, none⟩ = some (.int .u8 (byteOf v 0).toNat) := hc 1 _ (by simp [byteV])
  have h1' : 2 ≤ c := h1
  clear hc hr hr' hp h1 h0
  go_wp2_with (first
    | (go_at_call 33; ((with_reducible refine hg.out.mono ?_); rintro e w' ⟨rfl, rfl⟩))
    | (go_at_call 34; ((with_reducible refine hgs.out.mono ?_); rintro e w' ⟨rfl, rfl⟩))
    | (go_at_call 24; ((with_reducible refine (word_Wrap _ _).mono ?_); rintro e w' ⟨rfl, rfl⟩))
    | (go_at_call 15; ((with_reducible refine (word_Byte _ _).mono ?_); rintro e w' ⟨rfl, rfl⟩))
    | (go_at_call 17; ((with_reducible refine (word_Short _ _).mono ?_); rintro e w' ⟨rfl, rfl⟩))
    | (go_at_call 30; ((with_reducible refine (word_And _ _ _).mono ?_); rintro e w' ⟨rfl, rfl⟩)))
  go_quiet ((go_at_call 30; exact quiet_l (word_And _ _ _)))
  go_wp2
  go_ret
  exact ⟨ret_bool (by simp), kept_drewN hk _⟩

set_option maxHeartbeats 1000000 in
theorem walk_WordBack4 (v : Int) (w : World) :
    Calls Try.prog 7 #[.int .i64 v, .int .i64 4] w fun e w' => e = .returned (.bool true) ∧ Below w.heap.size w w' := by
  have hp : putL v 4 = [byteOf v 3, byteOf v 2, byteOf v 1, byteOf v 0] := by simp [putL]
  have ho : okAt [byteOf v 3, byteOf v 2, byteOf v 1, byteOf v 0] 0 4 = true := by simp [okAt]
  have hu : getU [byteOf v 3, byteOf v 2, byteOf v 1, byteOf v 0] 0 4 = v % 4294967296 := by rw [getU_at0 _ _ ho (by simp), be_put4]
  have hs : getS [byteOf v 3, byteOf v 2, byteOf v 1, byteOf v 0] 0 4 = wrap32 v := by
    rw [getS_at0 _ _ ho (by simp), be_put4]
    simp only [sgn]
    exact wrap32_congr (by omega)
  have hm : b32 .and (v % 4294967296) 255 = (byteOf v 0).toNat := by rw [and255, byteOf_val]; omega
  have hb0 := u8_lt (byteOf v 0)
  go_enter Try.func7, Try.ntmps7
  go_wp2_with (go_at_call 8; ((with_reducible refine (alive1 _).mono ?_); rintro e w' ⟨rfl, rfl⟩))
  refine (word_Put _ _ _).mono ?_
  rintro e w1 ⟨x, rfl, hr, hk⟩
  rw [hp] at hr
  have hr' : Rd w1 1 x 4 _ := hr
  have hg := Lib.hid (word_Get [byteOf v 3, byteOf v 2, byteOf v 1, byteOf v 0] x 0 4 w1 hr)
  have hgs := Lib.hid (word_Signed [byteOf v 3, byteOf v 2, byteOf v 1, byteOf v 0] x 0 4 w1 hr)
  rcases hr'.parts with ⟨h0, _⟩ | ⟨b, off, c, rfl, h0, h1, h2, hc⟩
  · simp at h0
  have hcell : w1.cell? ⟨b, off + 3, none⟩ = some (.int .u8 (byteOf v 0).toNat) := hc 3 _ (by simp [byteV])
  have h1' : 4 ≤ c := h1
  clear hc hr hr' hp h1 h0
  go_wp2_with (first
    | (go_at_call 33; ((with_reducible refine hg.out.mono ?_); rintro e w' ⟨rfl, rfl⟩))
    | (go_at_call 34; ((with_reducible refine hgs.out.mono ?_); rintro e w' ⟨rfl, rfl⟩))
    | (go_at_call 24; ((with_reducible refine (word_Wrap _ _).mono ?_); rintro e w' ⟨rfl, rfl⟩))
    | (go_at_call 15; ((with_reducible refine (word_Byte _ _).mono ?_); rintro e w' ⟨rfl, rfl⟩))
    | (go_at_call 17; ((with_reducible refine (word_Short _ _).mono ?_); rintro e w' ⟨rfl, rfl⟩))
    | (go_at_call 30; ((with_reducible refine (word_And _ _ _).mono ?_); rintro e w' ⟨rfl, rfl⟩)))
  go_quiet ((go_at_call 30; exact quiet_l (word_And _ _ _)))
  go_wp2
  go_ret
  exact ⟨ret_bool (by simp), kept_drewN hk _⟩

theorem walk_WordBack0 (v n : Int) (w : World) (n1 : ¬ n = 1) (n2 : ¬ n = 2) (n4 : ¬ n = 4) :
    Calls Try.prog 7 #[.int .i64 v, .int .i64 n] w fun e w' => e = .returned (.bool true) ∧ Below w.heap.size w w' := by
  have m1 : (n != 1) = true := by simpa using n1
  have m2 : (n != 2) = true := by simpa using n2
  have m4 : (n != 4) = true := by simpa using n4
  have hp : putL v n = [] := by simp [putL, n1, n2, n4]
  clear n1 n2 n4
  go_enter Try.func7, Try.ntmps7
  go_wp2_with (go_at_call 8; ((with_reducible refine (alive1 _).mono ?_); rintro e w' ⟨rfl, rfl⟩))
  refine (word_Put _ _ _).mono ?_
  rintro e w1 ⟨x, rfl, hr, hk⟩
  rw [hp] at hr
  rcases hr.parts with ⟨_, _, a, c, rfl, _⟩ | ⟨b, off, c, rfl, h0, _⟩
  · clear hr hp
    go_wp2
    go_ret
    exact ⟨rfl, hk⟩
  · simp at h0

theorem walk_WordBack (v n : Int) (w : World) (_ : (Lit.int .i64 v).wf = true) (_ : (Lit.int .i64 n).wf = true) :
    Calls Try.prog 7 #[.int .i64 v, .int .i64 n] w fun e w' => e = .returned (.bool true) ∧ Below w.heap.size w w' := by
  rcases (by omega : n = 1 ∨ n = 2 ∨ n = 4 ∨ (¬ n = 1 ∧ ¬ n = 2 ∧ ¬ n = 4)) with rfl | rfl | rfl | ⟨n1, n2, n4⟩
  · exact walk_WordBack1 v w
  · exact walk_WordBack2 v w
  · exact walk_WordBack4 v w
  · exact walk_WordBack0 v n w n1 n2 n4

end Go.Proofs.Ytdcldijeoamjpaa
