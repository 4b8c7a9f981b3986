/- Slices of the call's own, unopened: length, elements' places, loads and stores there. -/
import Derived.Test.YtliijbndfcjpfaaGreatDoorSp
namespace Go.Proofs.YtliijbndfcjpfaaGreatDoor
open Go.RowKit

/-- the place of the k-th cell behind a slice -/
def ptrIn (v : Value) (k : Nat) : Value := match v with
  | .slice (some a) _ _ => .pointer (some (a.add k))
  | _ => .pointer none

class GetSl (L : List HP) (v : Value) (T sz m : outParam Nat) (xs : outParam (List Value)) : Prop where
  get : ∀ s w, sat s w L → (v = .slice none 0 0 ∧ m = 0 ∧ xs = []) ∨ ∃ b c sp, v = .slice (some ⟨b, 0, none⟩) m c ∧ xs.length = m * sz ∧ w.heap[b]? = some (.cells ⟨xs ++ sp⟩ T (0, 0))
instance (priority := high) GetSl.head {v : Value} {T sz m : Nat} {xs : List Value} {L : List HP} : GetSl (sliceA v T sz m xs :: L) v T sz m xs := ⟨by
  intro s w l
  rcases sat_slice l with ⟨g1, g2, g3, _⟩ | ⟨b, c, sp, g1, g2, _, _, _, g6⟩
  · exact .inl ⟨g1, g2, g3⟩
  · exact .inr ⟨b, c, sp, g1, g2, sat_row (b := b) (T := T) (cs := xs ++ sp) g6⟩⟩
instance (priority := low) GetSl.tail {A : HP} {v : Value} {T sz m : Nat} {xs : List Value} {L : List HP} [i : GetSl L v T sz m xs] : GetSl (A :: L) v T sz m xs := ⟨fun s w l => i.get s w (sat_drop l)⟩

section
variable {P : Program} {n : Nat} {s : Str} {L : List HP} {env : Env} {k : List Fr} {Q : Exit → Act → World → Prop} {ops : Array Oper} {rest : List Oper}
variable {d : Option Tmp} {ty : TypeId} {pos : String} {aft : Array Edge} {g : Option (Nat × Bool)} {v u : Value}

theorem rd_lenA {x : Operand} {t e' T sz m : Nat} {xs : List Value} [tt : Ty P t (.slice e')] (hx : ev env x = some v) [gs : GetSl L v T sz m xs] :
    Rd P L env ⟨d, .call ⟨.builtin .len, #[x], #[t]⟩, ty, pos, aft, g⟩ (.int .i64 m) := by
  unfold Rd
  intro ρ s w e l
  rcases gs.get s w l with ⟨rfl, rfl, _⟩ | ⟨b, c, sp, rfl, _, _⟩
  · simp [execOp, resolve, invoke, builtin, e x _ hx, Builtin.len_, run_underlying tt.und, goInt]
  · simp [execOp, resolve, invoke, builtin, e x _ hx, Builtin.len_, run_underlying tt.und, goInt]
theorem rd_idxA {x y : Operand} {t e' T sz m bz j : Nat} {z : Value} {xs : List Value} {K : IntKind} {i : Int} [tt : Ty P t (.slice e')] [ti : TyI P e' z sz bz] (hx : ev env x = some v) (hy : ev env y = some (.int K i)) [gs : GetSl L v T sz m xs] [ij : NatI i j] (hj : j < m) :
    Rd P L env ⟨d, .indexAddr t x y, ty, pos, aft, g⟩ (ptrIn v (j * sz)) := by
  unfold Rd
  intro ρ s w e l
  rcases gs.get s w l with ⟨rfl, rfl, _⟩ | ⟨b, c, sp, rfl, _, _⟩
  · omega
  · have h := rd_index_addrN (P := P) (L := L) (d := d) (ty := ty) (pos := pos) (aft := aft) (g := g) (t := t) (e' := e') (m := m) (c := c) (j := j) hx hy hj
    unfold Rd at h
    have h2 := h ρ s w e l
    simpa [ptrIn, Addr.add_lit] using h2
theorem rd_fieldIn {x : Operand} {T0 U i off fz T sz m j : Nat} {xs : List Value} [f : Fld P T0 i U off fz] (hx : ev env x = some (ptrIn v j)) [gs : GetSl L v T sz m xs] (hj : j < m * sz) :
    Rd P L env ⟨d, .fieldAddr T0 x i, ty, pos, aft, g⟩ (ptrIn v (j + off)) := by
  unfold Rd
  intro ρ s w e l
  rcases gs.get s w l with ⟨rfl, rfl, _⟩ | ⟨b, c, sp, rfl, _, _⟩
  · simp at hj
  · have hx' : ev env x = some (.pointer (some ⟨b, j, none⟩)) := by rw [hx]; simp [ptrIn, Addr.add_lit]
    have h := rd_fieldAddr (P := P) (L := L) (d := d) (ty := ty) (pos := pos) (aft := aft) (g := g) (T := T0) (i := i) hx'
    unfold Rd at h
    have h2 := h ρ s w e l
    simpa [ptrIn, Addr.add_lit] using h2
theorem rd_loadIn {x : Operand} {t T sz m j : Nat} {xs : List Value} [i : TyS P t] (hx : ev env x = some (ptrIn v j)) [gs : GetSl L v T sz m xs] (hc : xs[j]? = some u) : Rd P L env ⟨d, .load t x, ty, pos, aft, g⟩ u := by
  unfold Rd
  intro ρ s w e l
  rcases gs.get s w l with ⟨rfl, rfl, rfl⟩ | ⟨b, c, sp, rfl, hl, hb⟩
  · simp at hc
  · have hx' : ev env x = some (.pointer (some ⟨b, j, none⟩)) := by rw [hx]; simp [ptrIn, Addr.add_lit]
    have hj : j < xs.length := (List.getElem?_eq_some_iff.1 hc).1
    have hcell : w.cell? ⟨b, j, none⟩ = some u := by
      rw [cell_of_row w b j ⟨xs ++ sp⟩ T (0, 0) hb]
      simp [List.getElem?_append_left hj, hc]
    simp [execOp, e x _ hx', Instr.loadAt, Instr.sureAddr, loadVar, run_isAggS (P := P) (t := t), run_load, hcell]
theorem rd_loadInA {x : Operand} {t T sz m j q : Nat} {xs us : List Value} [i : TyA P t q] (hx : ev env x = some (ptrIn v j)) [gs : GetSl L v T sz m xs] (hs : (xs.drop j).take q = us ∧ j + q ≤ xs.length) (hq : 1 ≤ q) : Rd P L env ⟨d, .load t x, ty, pos, aft, g⟩ (.agg ⟨us⟩) := by
  unfold Rd
  intro ρ s w e l
  rcases gs.get s w l with ⟨rfl, rfl, rfl⟩ | ⟨b, c, sp, rfl, hl, hb⟩
  · simp at hs; omega
  · have hx' : ev env x = some (.pointer (some ⟨b, j, none⟩)) := by rw [hx]; simp [ptrIn, Addr.add_lit]
    have hs' : ((xs ++ sp).drop j).take q = us ∧ j + q ≤ (xs ++ sp).length := by
      constructor
      · rw [List.drop_append_of_le_length (by omega), List.take_append_of_le_length (by simp; omega)]; exact hs.1
      · rw [List.length_append]; omega
    simp [execOp, e x _ hx', Instr.loadAt, Instr.sureAddr, loadVar, run_isAggA (P := P) (t := t), run_sizeA (P := P) (t := t), run_loadRow (P := P) hb hs']
theorem ovw_app {xs sp vs : List Value} {j : Nat} (h : j + vs.length ≤ xs.length) : ovw (xs ++ sp) j vs = ovw xs j vs ++ sp := by
  unfold ovw
  rw [List.take_append_of_le_length (by omega), List.drop_append_of_le_length (by omega)]
  simp
theorem ovw_len {xs vs : List Value} {j : Nat} (h : j + vs.length ≤ xs.length) : (ovw xs j vs).length = xs.length := by
  unfold ovw; simp; omega
theorem tro_storeIn {x y : Operand} {t T sz m j fz bz : Nat} {z : Value} {xs vs : List Value} {L' : List HP} [ti : TyI P t z fz bz] (hg : gd ops env g = some true) (hx : ev env x = some (ptrIn v j)) (hy : ev env y = some u) [cv : Cells u vs] (hsz : Nat.beq vs.length fz = true) (h1 : ones vs = true)
    [gs : GetSl L v T sz m xs] (hj : j + vs.length ≤ xs.length) (hv : 1 ≤ vs.length) [st : SetA L (sliceA v T sz m xs) (sliceA v T sz m (ovw xs j vs)) L']
    (h : TrO P n s ops L' env rest k Q) : TrO P n s ops L env (⟨none, .store t x y, ty, pos, aft, g⟩ :: rest) k Q := by
  obtain ⟨F, p1, p2⟩ := st.swap
  refine tro_slice p1 ?_ ?_
  · rintro _ _ rfl; rw [List.length_nil] at hj; omega
  · intro b c sp hv' g1 g2 g3 g4
    subst hv'
    have hx' : ev env x = some (.pointer (some ⟨b, j, none⟩)) := by rw [hx]; simp [ptrIn, Addr.add_lit]
    have : Ovw (xs ++ sp) j vs (ovw xs j vs ++ sp) := ⟨ovw_app hj, by rw [List.length_append]; omega⟩
    refine tro_store (T := T) hg hx' hy hsz h1 (r := GetPt.head) (ow := this) (st := SetPt.head) ?_
    refine tro_ent (Sub.trans (sub_slice (by rw [ovw_len hj]; exact g1) (by rw [ovw_len hj]; exact g2) g3 g4) (Sub.perm p2.symm)) h
end
section
variable {P : Program} {n : Nat} {s : Str} {L : List HP} {env : Env} {k : List Fr} {Q : Exit → Act → World → Prop} {ops : Array Oper} {rest : List Oper}
variable {ty : TypeId} {pos : String} {aft : Array Edge} {g : Option (Nat × Bool)}
/-- 'append', the outcome's parts named -/
theorem tro_appendS {d : Nat} {t e' : TypeId} {z : Value} {sz bz m m2 c2 : Nat} {x y : Operand} {a : Option Addr} {v : Value} {xs ys : List Value} {F : List HP} [tt : Ty P t (.slice e')] [te : TyI P e' z sz bz] (hp : List.Perm L (sliceA v e' sz m xs :: F))
    (hx : ev env x = some v) (hy : ev env y = some (.slice a m2 c2)) (hz : z.cells.size = sz) (hl : ys.length = m2 * sz) (ha : match a with | none => m2 = 0 | some a => RdC L a ys) (h1 : ones ys = true) (hb : (m + m2) * bz ≤ 140737488355328) (hb2 : m + m2 ≤ 9223372036854775807)
    (hg : gd ops env g = some true) (hd : Nat.ble (d + 1) n = true)
    (h : ∀ a' c', TrO P n s ops (sliceA (.slice a' (m + m2) c') e' sz (m + m2) (xs ++ ys) :: F) ((d, .slice a' (m + m2) c') :: env) rest k Q) : TrO P n s ops L env (⟨some d, .call ⟨.builtin .append, #[x, y], #[t, t]⟩, ty, pos, aft, g⟩ :: rest) k Q := by
  refine tro_append hp hx hy hz hl ha h1 hb hb2 hg hd ?_
  intro v'
  refine tro_slice (List.Perm.refl _) ?_ ?_
  · intro g1 g2 g3
    have := h none 0
    rw [g2, g3] at this
    rw [g1]
    exact tro_ent sub_slice_nil this
  · intro b c sp g1 g2 g3 g4 g5
    rw [g1]
    exact tro_ent (sub_slice g2 g3 g4 g5) (h (some ⟨b, 0, none⟩) c)
end
end Go.Proofs.YtliijbndfcjpfaaGreatDoor
