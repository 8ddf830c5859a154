/- THE ENGINE AT A CALL: what the abstract machine computes of a call is what the call gives in whatever world, and nothing that was there turns. Conditions: none beyond the premises stated. -/
import Derived.Test.YtigifaghgnbgoaaGreatEng22
import Derived.RowKit3
namespace Go.Tm

theorem hr_start {E : Env} {W : World} (hb : E.base ≤ W.heap.size) (hro : ∀ b o, b < E.base → E.ro b = some o → W.heap[b]? = some o) : HR E W.heap.size (fun b => ⟨b, 0, 0⟩) ⟨E.base, .leaf⟩ W where
  base_le := Nat.le_refl _
  base_B := hb
  B_le := Nat.le_refl _
  fix := fun _ _ => rfl
  ro := hro
  live := fun b o h => by simp [Heap.get, Tr.get_leaf] at h
  inj := fun b b' o o' h => by simp [Heap.get, Tr.get_leaf] at h

theorem Step.kept {E : Env} {B n : Nat} {ρ ρ' : Ren} {h' : Heap} {w w' : World} (s : Step E B ρ ⟨n, .leaf⟩ w ρ' h' w') : w.keptBut w' (fun _ => False) := by
  refine ⟨s.os, s.output, fun i hi => ?_⟩
  have := s.frame i hi (fun b o h => by simp [Heap.get, Tr.get_leaf] at h)
  rw [this]
  cases w.heap[i]? with
  | none => trivial
  | some o => cases o <;> simp

/-- A call without arguments. -/
theorem call_closed {E : Env} (hp : progOk E = true) (hm : E.P.follows .mixedOrders = true) {k : Nat} {f : FuncId} {v : Value} {h' : Heap} (h : acall E k f [] ⟨E.base, .leaf⟩ = some (v, h')) (hv : ∀ ρ, ren ρ v = v)
    {W : World} (hb : E.base ≤ W.heap.size) (hro : ∀ b o, b < E.base → E.ro b = some o → W.heap[b]? = some o) : Calls E.P f #[] W fun e W' => e = .returned v ∧ W.keptBut W' (fun _ => False) := by
  obtain ⟨fn, b, _, _, _, hc⟩ := call_ok hp (fun n => exec_ok hp hm (B := W.heap.size) k n) f [] _ v h' h
  have := hc (fun b => ⟨b, 0, 0⟩) W (hr_start hb hro) (fun x hx => by simp at hx)
  refine this.mono ?_
  rintro e w' ⟨ρ', rfl, st, _⟩
  exact ⟨by rw [hv], st.kept⟩
end Go.Tm
