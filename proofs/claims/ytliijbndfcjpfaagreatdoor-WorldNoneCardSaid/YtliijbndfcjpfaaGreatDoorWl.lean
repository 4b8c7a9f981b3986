/- A start in which the listed package-level variables hold what the rows list: for the witnesses of this seat's laws. -/
import Derived.Test.YtliijbndfcjpfaaGreatDoorRows
import Derived.ProofKit
import Derived.OpenShut
import Derived.LaidMore
import Derived.Lay
import Derived.Stop.Joined
namespace Go.Proofs.YtliijbndfcjpfaaGreatDoor
open Go.ChangeShapes Go.WideShapes Go.ChangeAt Go.RowKit

theorem own : ownKnob Tryz.prog.godebug = none := by kernel_rfl
/-- the start, the handle's variable laid -/
noncomputable def startH (os : Os) : World :=
  let w0 := World.holding Tryz.prog os ⟨#[], #[], []⟩
  { w0 with heap := w0.heap.modify 3 fun
      | .cells _ t frozen => .cells #[.iface 316 (.agg #[typeHandle Tryz.prog 178])] t frozen
      | o => o }
def plainOf (laid : List (String × DataW Unit)) : List (String × DataW Unit) := laid.filter fun x => x.2.handleName?.isNone
noncomputable def startL (os : Os) (laid : List (String × DataW Unit)) : World := (startH os).layVars Tryz.prog (plainOf laid)
theorem startL_os (os : Os) (laid : List (String × DataW Unit)) : (startL os laid).os = os := World.layVars_os _ _ _
theorem startL_met {os : Os} {laid : List (String × DataW Unit)} (args : Array Value)
    (hf : (startH os).layFits Tryz.prog (plainOf laid) [] = true)
    (hi : (startH os).layIfaces Tryz.prog (plainOf laid) (startL os laid) = true)
    (hh : (laid.filter fun x => x.2.handleName?.isSome && x.2.funcsIn?.isNone).all (handleAtB Tryz.prog (startL os laid)) = true)
    (hfn : funcsListed laid = []) :
    laidMetH Tryz.prog laid ((startL os laid).forCall (fun _ _ => 0) ⟨#[], args, []⟩).memory := by
  have e1 : ((plainOf laid).filter fun x => ((plainOf laid).map (·.1)).contains x.1) = plainOf laid := List.filter_eq_self.2 fun x hx => List.contains_iff_mem.2 (List.mem_map.2 ⟨x, hx, rfl⟩)
  have e2 : ((plainOf laid).filter fun x => !((plainOf laid).map (·.1)).contains x.1) = [] := List.filter_eq_nil_iff.2 fun x hx => by rw [List.contains_iff_mem.2 (List.mem_map.2 ⟨x, hx, rfl⟩)]; simp
  have h : laidMet Tryz.prog (plainOf laid) (startL os laid) := laidMet_layVars (w0 := startH os) ((plainOf laid).map (·.1)) [] (by rw [e1]; rfl) (by rw [e1]; exact hf) (by rw [e1]; exact hi) (by rw [e2]; exact LaidIn.none)
  have h3 : laidMetH Tryz.prog laid (startL os laid) := laidMetH_of_parts3 (fuel := 0) h hh (by rw [hfn]; rfl)
  exact h3.of_heap (by simp [World.memory, World.forCall, Input.heap])
end Go.Proofs.YtliijbndfcjpfaaGreatDoor
