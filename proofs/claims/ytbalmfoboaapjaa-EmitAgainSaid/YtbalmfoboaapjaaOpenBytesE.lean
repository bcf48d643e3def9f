/-
  An argument that is a slice of bytes, as the walks want it.
-/
import Derived.Test.YtbalmfoboaapjaaWordBytes
import Derived.ProofKit
import Derived.OpenShut
namespace Go.Proofs.Ytbalmfoboaapjaa
open Go.RowKit Go.ChangeShapes Go.WideShapes

theorem byte_of_wf {n : Int} (h : (Lit.int .u8 n).wf = true) : Value.int .u8 n = byteV (UInt8.ofNat n.toNat) := by
  have hb := bounds_u8 h
  unfold byteV
  congr 1
  rw [UInt8.toNat_ofNat']
  omega

theorem open_bytes {H : Type} {enc : TypeId × Value → H} {P : Program} {w : World} {base b0 : Nat} {spare : Nat → Bool} {held : Bool} {r : Reach} {t e : TypeId} {v : Value} {d : DataW H} {p : List MemPlace}
    (ht : P.underlying t = some (.slice e)) (he : P.underlying e = some (.int .u8)) (hC : P.cellsOf e = 1)
    (hval : Value.okWide P w r b0 t v) (h : DataW.Trod enc P w base spare held t v d p) : ∃ l : List UInt8, Rd w 1 v l.length (l.map byteV) := by
  obtain ⟨a0, len, cap, rfl⟩ := okWide_slice ht hval
  obtain ⟨fuel, hf⟩ := h
  rcases open_ints ht he hC hf with ⟨hcs, _⟩ | ⟨x, l, c, zs, hcs, _, hl, hm, hz, _, hcell, hwz⟩
  · simp [Value.cells] at hcs
    obtain ⟨rfl, rfl, rfl⟩ := hcs
    exact ⟨[], Rd.nil⟩
  · simp [Value.cells] at hcs
    obtain ⟨rfl, rfl, rfl⟩ := hcs
    have hsp : ∀ i, i < len → i < zs.length := by
      intro i hi
      rw [hz]
      split <;> omega
    refine ⟨(zs.take len).map fun n => UInt8.ofNat n.toNat, ?_⟩
    have hlen : ((zs.take len).map fun n => UInt8.ofNat n.toNat).length = len := by
      have h0 : len ≤ zs.length := by rw [hz]; split <;> omega
      rw [List.length_map, List.length_take, Nat.min_eq_left h0]
    rw [hlen]
    refine ⟨by rw [List.length_map, hlen, Nat.mul_one], _, cap, rfl, hl, by simpa [maxLen] using hm, fun hn => ?_⟩
    obtain ⟨bb, off, sp⟩ := x
    have h0 := hcell 0 (hsp 0 hn)
    have hspot : sp = none := by simpa [Addr.add] using World.cell?_spot h0
    subst hspot
    refine ⟨bb, off, rfl, fun j u hu => ?_⟩
    rw [List.map_map, List.getElem?_map] at hu
    obtain ⟨z, hzj, hzu⟩ := Option.map_eq_some_iff.1 hu
    have hj : j < len := by
      have := (List.getElem?_eq_some_iff.1 hzj).1
      rw [List.length_take] at this
      omega
    have hz2 : zs[j]? = some z := by rw [List.getElem?_take_of_lt hj] at hzj; exact hzj
    have hc := hcell j (hsp j hj)
    have hadd : (⟨bb, off, none⟩ : Addr).add j = ⟨bb, off + j, none⟩ := by unfold Addr.add; split <;> simp_all
    rw [hadd] at hc
    rw [hc, ← hzu]
    have hgd : zs.getD j 0 = z := by simp [List.getD, hz2]
    rw [hgd]
    exact congrArg some (byte_of_wf (hwz z (List.mem_of_getElem? hz2)))

theorem open_bytesT {H : Type} {enc : TypeId × Value → H} {w : World} {base b0 : Nat} {spare : Nat → Bool} {held : Bool} {r : Reach} {v : Value} {d : DataW H} {p : List MemPlace}
    (hval : Value.okWide Try.prog w r b0 31 v) (h : DataW.Trod enc Try.prog w base spare held 31 v d p) : ∃ l : List UInt8, Rd w 1 v l.length (l.map byteV) :=
  open_bytes Try.underlying31 Try.underlying5 (by kernel_rfl) hval h
end Go.Proofs.Ytbalmfoboaapjaa
