/-
  An argument that is a class, as the walks want it: its rows, read.
-/
import Derived.Test.YtbalmfoboaapjaaOpenClass
import Derived.Test.YtbalmfoboaapjaaSm2
namespace Go.Proofs.Ytbalmfoboaapjaa
set_option linter.unusedVariables false
set_option linter.unusedSimpArgs false
open Go.RowKit
set_option maxRecDepth 100000

def ConstV.c (y : ConstV) : ConstC := ⟨y.tag, y.text, y.int, y.a, y.b⟩
def FieldV.c (y : FieldV) : FieldC := ⟨y.access, y.name, y.desc, y.value⟩
def TrapV.c (y : TrapV) : TrapC := ⟨y.from_, y.to_, y.at_, y.type_⟩
def MethodV.c (y : MethodV) : MethC := ⟨y.access, y.name, y.desc, y.has, y.stack, y.locals, y.code, y.traps.map TrapV.c⟩
def ClassV.c (y : ClassV) : ClassC := ⟨y.minor, y.major, y.pool.map ConstV.c, y.access, y.this, y.super, y.interfaces, y.fields.map FieldV.c, y.methods.map MethodV.c⟩
def ClassV.mv (y : ClassV) : List (MethC × Value × Value) := y.methods.map fun m => (m.c, m.codeV, m.trapsV)
theorem flat_conv {α β : Type} (f : α → β) (e : β → List Value) (e' : α → List Value) (h : ∀ x, e (f x) = e' x) (l : List α) : (l.map f).flatMap e = l.flatMap e' := by
  rw [List.flatMap_map]
  congr 1
  funext x
  exact h x
theorem flat_bytes (l : List UInt8) : l.flatMap (fun k : UInt8 => [byteV k]) = l.map byteV := by
  induction l with
  | nil => rfl
  | cons x l ih => simp [List.flatMap_cons, ih]
/-- What is known of a class that is an argument. -/
structure ArgC (w : World) (c : ClassC) (mv : List (MethC × Value × Value)) (vP vI vF vM : Value) : Prop where
  rd : CRd w c mv vP vI vF vM
  text : ∀ k ∈ c.pool, k.text.size ≤ maxLen
  len : c.pool.length ≤ 140737488351232 ∧ c.ifaces.length ≤ 140737488351232 ∧ c.fields.length ≤ 140737488351232
  code : ∀ x ∈ mv, x.1.code.length ≤ 140737488351232 ∧ x.1.traps.length * 32 ≤ 140737488351232
theorem ClassV.arg {w : World} {y : ClassV} (h : ClassV.Ok w y) : ArgC w y.c y.mv y.poolV y.interfacesV y.fieldsV y.methodsV := by
  refine ⟨⟨?_, ?_, ?_, ?_, ?_, ?_⟩, ?_, ?_, ?_⟩
  · have h0 := h.pool_
    show Rd w 5 y.poolV (y.pool.map ConstV.c).length ((y.pool.map ConstV.c).flatMap encC)
    rw [List.length_map, flat_conv ConstV.c encC encConstV (fun _ => rfl)]
    exact h0
  · exact h.interfaces_
  · have h0 := h.fields_
    show Rd w 4 y.fieldsV (y.fields.map FieldV.c).length ((y.fields.map FieldV.c).flatMap encF)
    rw [List.length_map, flat_conv FieldV.c encF encFieldV (fun _ => rfl)]
    exact h0
  · have h0 := h.methods_
    unfold ClassV.mv
    rw [List.length_map, flat_conv (fun m : MethodV => (m.c, m.codeV, m.trapsV)) encM encMethodV (fun _ => rfl)]
    exact h0
  · intro x hx
    obtain ⟨m, hm, rfl⟩ := List.mem_map.1 hx
    have hk := h.methods_all m hm
    refine ⟨?_, ?_⟩
    · have h0 := hk.code_
      rw [flat_bytes] at h0
      exact h0
    · have h0 := hk.traps_
      show Rd w 4 m.trapsV (m.traps.map TrapV.c).length ((m.traps.map TrapV.c).flatMap encT)
      rw [List.length_map, flat_conv TrapV.c encT encTrapV (fun _ => rfl)]
      exact h0
  · show y.methods.map MethodV.c = (y.methods.map fun m => (m.c, m.codeV, m.trapsV)).map fun x => x.1
    rw [List.map_map]
    rfl
  · intro k hk
    obtain ⟨x, hx, rfl⟩ := List.mem_map.1 hk
    exact (h.pool_all x hx).text_
  · exact ⟨by show (y.pool.map ConstV.c).length ≤ _; rw [List.length_map]; exact h.pool_len, h.interfaces_len, by show (y.fields.map FieldV.c).length ≤ _; rw [List.length_map]; exact h.fields_len⟩
  · intro x hx
    obtain ⟨m, hm, rfl⟩ := List.mem_map.1 hx
    have hk := h.methods_all m hm
    refine ⟨hk.code_len, ?_⟩
    have h0 := hk.traps_by
    rw [show Try.prog.bytesOf 53 = 32 by kernel_rfl] at h0
    show (m.traps.map TrapV.c).length * 32 ≤ _
    rw [List.length_map]
    exact h0
end Go.Proofs.Ytbalmfoboaapjaa
