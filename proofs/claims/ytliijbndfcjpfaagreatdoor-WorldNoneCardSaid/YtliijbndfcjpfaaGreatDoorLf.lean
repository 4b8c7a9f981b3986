/- From a contract to a call that leaves all that was there as it was. -/
import Derived.Test.YtliijbndfcjpfaaGreatDoorSt
import Derived.Below
namespace Go.Proofs.YtliijbndfcjpfaaGreatDoor
open Go.RowKit

/-- all that is there -/
def whole (W : World) : HP := fun h => ∀ b, h b = W.heap[b]?
theorem sat_whole (W : World) : sat (strOf W) W [whole W] := by
  unfold sat
  refine ⟨rfl, fun b => W.heap[b]?, ?_, fun b o h => h⟩
  rw [sepL_one]; exact fun b => rfl
theorem below_whole {W w' : World} {L : List HP} (h : sat (strOf W) w' (L ++ [whole W])) : Below W.heap.size W w' := by
  have h2 := sat_dropN h
  unfold sat at h2
  obtain ⟨e, hh, h3, h4⟩ := h2
  rw [sepL_one] at h3
  have key : ∀ b o, W.heap[b]? = some o → w'.heap[b]? = some o := fun b o hb => h4 b o (by rw [h3 b]; exact hb)
  unfold strOf at e
  simp only [Str.mk.injEq] at e
  refine ⟨e.1, e.2.1, e.2.2, ?_, fun k hk => ?_⟩
  · by_cases hz : W.heap.size = 0
    · omega
    · have hlt : W.heap.size - 1 < W.heap.size := by omega
      have := key (W.heap.size - 1) W.heap[W.heap.size - 1] (Array.getElem?_eq_getElem hlt)
      have := (Array.getElem?_eq_some_iff.1 this).1
      omega
  · rw [Array.getElem?_eq_getElem hk]; exact key k _ (Array.getElem?_eq_getElem hk)
theorem SpecR.below {P : Program} {f : FuncId} {args : List Value} {C : List HP → Prop} {v : Value} (h : SpecR P f args C v) (W : World) (hC : C [whole W]) :
    Calls P f ⟨args⟩ W fun e w' => e = .returned v ∧ Below W.heap.size W w' := by
  unfold SpecR at h
  refine (h [whole W] (strOf W) W hC (sat_whole W)).mono ?_
  rintro e w' ⟨h1, h2⟩
  exact ⟨h1, below_whole (L := []) h2⟩
end Go.Proofs.YtliijbndfcjpfaaGreatDoor
