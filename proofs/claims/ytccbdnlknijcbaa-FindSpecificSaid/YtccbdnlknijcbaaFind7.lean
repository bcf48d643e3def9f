/-
  Package find by contract: Method, Face.
-/
import Derived.Test.YtccbdnlknijcbaaFind5
import Derived.Test.YtccbdnlknijcbaaFind6
namespace Go.Proofs.Ytccbdnlknijcbaa
open Go.RowKit
set_option maxRecDepth 100000

set_option maxHeartbeats 2000000 in
theorem find_Method (D : List TD) (c n d : ByteArray) (v : Value) (w : World) (h : TyR w v D) (hs : c.size ≤ maxLen) :
    Calls Try.prog 8 #[v, .agg #[.string c, .string n, .string d]] w fun e w' => e = .returned (resV (methR D c n d)) ∧ Kept w w' := by
  have H := Lib.hid h
  have HS := Lib.hid hs
  have k0 : Kept w ((w.alloc (.cells #[.string c, .string n, .string d] 33)).alloc (.cells #[.string ⟨#[]⟩, .int .i64 0] 37)) := ((Below.refl _ _).alloc (Nat.le_refl _) _).alloc (by simp) _
  have b0 : Blk ((w.alloc (.cells #[.string c, .string n, .string d] 33)).alloc (.cells #[.string ⟨#[]⟩, .int .i64 0] 37)) w.heap.size 33 #[.string c, .string n, .string d] := (Blk.new w _ _).alloc _
  have b1 : Blk ((w.alloc (.cells #[.string c, .string n, .string d] 33)).alloc (.cells #[.string ⟨#[]⟩, .int .i64 0] 37)) (w.heap.size + 1) 37 #[.string ⟨#[]⟩, .int .i64 0] := Blk.at_ (by simp)
  have zz : w.heap.size + 1 < ((w.alloc (.cells #[.string c, .string n, .string d] 33)).alloc (.cells #[.string ⟨#[]⟩, .int .i64 0] 37)).heap.size := by simp
  have q0 := b0.cell 0
  have q1 := b0.cell 1
  have q2 := b0.cell 2
  simp only [List.getElem?_toArray, List.getElem?_cons_succ, List.getElem?_cons_zero] at q0 q1 q2
  have K0 := Lib.hid k0
  have B0 := Lib.hid b0
  have B1 := Lib.hid b1
  clear h hs k0 b0 b1
  have HWS := Lib.hid (show ((w.alloc (.cells #[.string c, .string n, .string d] 33)).alloc (.cells #[.string ⟨#[]⟩, .int .i64 0] 37)).heap.size = w.heap.size + 1 + 1 by simp)
  go_enter Try.func8, Try.ntmps8
  go_wp2_with fail
  generalize ((w.alloc (.cells #[.string c, .string n, .string d] 33)).alloc (.cells #[.string ⟨#[]⟩, .int .i64 0] 37)) = W at *
  have hWs : W.heap.size = w.heap.size + 1 + 1 := HWS.out
  have bg : Blk (W.alloc (.cells #[.func (.func 15) #[] #[], .func (.func 16) #[] #[], .func (.func 17) #[] #[]] 49)) (w.heap.size + 1 + 1) 49 #[.func (.func 15) #[] #[], .func (.func 16) #[] #[], .func (.func 17) #[] #[]] := Blk.at_ hWs
  have kA : Kept W (W.alloc (.cells #[.func (.func 15) #[] #[], .func (.func 16) #[] #[], .func (.func 17) #[] #[]] 49)) := (Below.refl _ _).alloc (Nat.le_refl _) _
  refine (try_cls D c n d v _ _ (H.out.kept (Kept.trans K0.out kA)) HS.out bg).mono ?_
  rintro e w2 ⟨rfl, k2⟩
  have kw := Kept.trans kA k2
  show _
  obtain ⟨r, hr⟩ : ∃ r, r = methR D c n d := ⟨_, rfl⟩
  rw [show tryR D c false (clsF D c n d) = r from hr.symm]
  have HF := Lib.hid (congrArg resV hr.symm)
  have PF := fnd_put (B1.out.kept kw)
  have KP := Lib.hid (PF.keeps (Kept.trans K0.out kw) (Nat.le_succ _))
  have g0 := PF.g0
  have g1 := PF.g1
  have h0 := PF.h0
  have h1 := PF.h1
  have zr := PF.lt
  have PF := Lib.hid PF
  have E0 := Lib.hid (PF.out.e0 (.string r.1.1))
  have E1 := Lib.hid (PF.out.e1 (.string r.1.1) (.int .i64 r.1.2))
  have PE := Lib.hid (fnd_put (PF.out.set (.string r.1.1) (.int .i64 r.1.2)))
  clear k2 kA bg hr kw
  unfold resV
  go_wp2_with fail
  refine bodyPost_ret (v := resV (methR D c n d)) (by rw [HF.out]; simp [results, Try.results8, go_sem, E0.out, E1.out, PE.out.g0, PE.out.g1, resV, lookR, f0, nmB, chB]) rfl ⟨rfl, ?_⟩ 
  exact KP.out _ _

end Go.Proofs.Ytccbdnlknijcbaa
