/- Steps over slices and maps: make, slicing, copy, append, clear; maps keyed by whole numbers; ranging over them. -/
import Derived.Test.YtliijbndfcjpfaaGreatDoorDr
namespace Go.Proofs.YtliijbndfcjpfaaGreatDoor
open Go.RowKit

/-- the cells at an address read as vs -/
def RdC (L : List HP) (a : Addr) (vs : List Value) : Prop := ∀ s w, sat s w L → ∀ (j : Nat) v, vs[j]? = some v → w.cell? (a.add j) = some v
theorem rdC_row {L : List HP} {b o m : Nat} {T : TypeId} {cs vs : List Value} [r : GetPt L b (.cells ⟨cs⟩ T (0, 0))] (h : (cs.drop o).take m = vs) : RdC L ⟨b, o, none⟩ vs := by
  intro s w l j v hv
  rw [Addr.add_lit, sat_cell (b := b) (cs := cs) (T := T) l]
  rw [← h] at hv
  have hj : j < m := by
    have := (List.getElem?_eq_some_iff.1 hv).1; simp at this; omega
  rw [List.getElem?_take, if_pos hj, List.getElem?_drop] at hv
  exact hv
theorem rdC_seg {L : List HP} {b o m : Nat} {T : TypeId} {cs vs : List Value} [r : GetPt L b (.cells ⟨cs⟩ T (0, 0))] [sg : Seg cs o m vs] : RdC L ⟨b, o, none⟩ vs := rdC_row (T := T) sg.seg.1

section
variable {P : Program} {n : Nat} {s : Str} {L : List HP} {env : Env} {k : List Fr} {Q : Exit → Act → World → Prop} {ops : Array Oper} {rest : List Oper}
variable {op : Op} {ty : TypeId} {pos : String} {aft : Array Edge} {g : Option (Nat × Bool)} {v : Value}

/-- An operation that changes memory, and of whose outcome something is known. -/
theorem tro_wrP {d : Nat} {X : Type} {pr : X → Prop} {val : X → Value} {L' : X → List HP} (hg : gd ops env g = some true) (hd : Nat.ble (d + 1) n = true)
    (hr : ∀ (ρ : Operand → Value) (s : Str) (w : World), (∀ x y, ev env x = some y → ρ x = y) → sat s w L → ∃ x w', pr x ∧ (execOp ρ ⟨some d, op, ty, pos, aft, g⟩).run P w = .ok (.value (val x)) w' ∧ sat s w' (L' x))
    (h : ∀ x, pr x → TrO P n s ops (L' x) ((d, val x) :: env) rest k Q) : TrO P n s ops L env (⟨some d, op, ty, pos, aft, g⟩ :: rest) k Q := by
  unfold TrO at h ⊢
  intro a w e l
  obtain ⟨x, w', px, h1, h2⟩ := hr a.eval s w e.ev l
  unfold wpList
  rw [if_pos (gd_wanted e hg)]
  left
  unfold Oper.wp
  rw [h1]
  exact h x px _ _ (e.put hd _) h2
theorem tro_wrN {X : Type} {pr : X → Prop} {val : X → Value} {L' : X → List HP} (hg : gd ops env g = some true)
    (hr : ∀ (ρ : Operand → Value) (s : Str) (w : World), (∀ x y, ev env x = some y → ρ x = y) → sat s w L → ∃ x w', pr x ∧ (execOp ρ ⟨none, op, ty, pos, aft, g⟩).run P w = .ok (.value (val x)) w' ∧ sat s w' (L' x))
    (h : ∀ x, pr x → TrO P n s ops (L' x) env rest k Q) : TrO P n s ops L env (⟨none, op, ty, pos, aft, g⟩ :: rest) k Q := by
  unfold TrO at h ⊢
  intro a w e l
  obtain ⟨x, w', px, h1, h2⟩ := hr a.eval s w e.ev l
  unfold wpList
  rw [if_pos (gd_wanted e hg)]
  left
  unfold Oper.wp
  rw [h1]
  exact h x px _ _ e h2

-- ================================================================ building structs and arrays
def evp (env : Env) : List (Nat × Operand) → Option (List (Nat × Value))
  | [] => some []
  | (i, x) :: r => match ev env x, evp env r with
    | some v, some vs => some ((i, v) :: vs)
    | _, _ => none
theorem evp_map {env : Env} {ρ : Operand → Value} (h : ∀ x v, ev env x = some v → ρ x = v) : ∀ (l : List (Nat × Operand)) (vs : List (Nat × Value)), evp env l = some vs → l.map (fun p => (p.1, ρ p.2)) = vs
  | [], vs, e => by simp [evp] at e; simp [e]
  | (i, x) :: r, vs, e => by
    simp only [evp] at e
    split at e
    · rename_i v vs' h1 h2
      simp at e
      rw [List.map_cons, h x v h1, evp_map h r vs' h2, e]
    · cases e
class LenIs (vs : List Value) (m : Nat) : Prop where
  len : vs.length = m
instance : LenIs [] 0 := ⟨rfl⟩
instance {x : Value} {vs : List Value} {m : Nat} [i : LenIs vs m] : LenIs (x :: vs) (m + 1) := ⟨by simp [i.len]⟩
theorem ovw_set {cs : List Value} {i : Nat} {u : Value} {us : List Value} (h : i < cs.length) : ovw (cs.set i u) (i + 1) us = ovw cs i (u :: us) := by
  obtain ⟨A, x, B, rfl, rfl⟩ : ∃ A x B, cs = A ++ x :: B ∧ A.length = i := ⟨cs.take i, cs[i], cs.drop (i + 1), by simp, by simp; omega⟩
  have e1 : (A ++ x :: B).set A.length u = A ++ u :: B := by simp
  rw [e1]
  unfold ovw
  have t1 : (A ++ u :: B).take (A.length + 1) = A ++ [u] := by rw [show A ++ u :: B = (A ++ [u]) ++ B from by simp]; rw [List.take_left' (by simp)]
  have t2 : (A ++ u :: B).drop (A.length + 1 + us.length) = B.drop us.length := by rw [show A ++ u :: B = (A ++ [u]) ++ B from by simp, ← List.drop_drop]; rw [List.drop_left' (by simp)]
  have t3 : (A ++ x :: B).take A.length = A := List.take_left' rfl
  have t4 : (A ++ x :: B).drop (A.length + (u :: us).length) = B.drop us.length := by rw [show A ++ x :: B = (A ++ [x]) ++ B from by simp, show A.length + (u :: us).length = (A.length + 1) + us.length from by simp; omega, ← List.drop_drop]; rw [List.drop_left' (by simp)]
  rw [t1, t2, t3, t4]; simp
theorem fill_one {place : Nat → Option (Nat × Nat)} {cs : List Value} {i off sz : Nat} {v : Value} {vs cs1 : List Value} {r : List (Nat × Value)} (hp : place i = some (off, sz)) (hc : v.cells.toList = vs) (hl : vs.length = sz)
    (ow : ovw cs off vs = cs1 ∧ off + vs.length ≤ cs.length) : Instr.fill place ⟨cs⟩ ((i, v) :: r) = Instr.fill place ⟨cs1⟩ r := by
  have hsz : v.cells.size = sz := by rw [← Array.length_toList, hc, hl]
  simp only [Instr.fill, hp, hsz]
  rw [if_neg (by simp; omega)]
  congr 1
  have key : ∀ (us : List Value) (j : Nat) (cs : List Value), off + j + us.length ≤ cs.length → ((us.zipIdx j).foldl (fun (cs : Array Value) (p : Value × Nat) => cs.setIfInBounds (off + p.2) p.1) ⟨cs⟩) = ⟨ovw cs (off + j) us⟩ := by
    intro us
    induction us with
    | nil => intro j cs _; simp [ovw]
    | cons u us ih =>
      intro j cs h
      simp only [List.length_cons] at h
      simp only [List.zipIdx_cons, List.foldl_cons]
      have e1 : (Array.mk cs).setIfInBounds (off + j) u = ⟨cs.set (off + j) u⟩ := by
        apply Array.ext'; simp
      rw [e1, ih (j + 1) (cs.set (off + j) u) (by simp; omega)]
      rw [show off + (j + 1) = (off + j) + 1 from by omega, ovw_set (by omega)]
  have hz : (v.cells.zipIdx).toList = vs.zipIdx 0 := by simp [Array.toList_zipIdx, hc]
  have := key vs 0 cs (by simpa using ow.2)
  rw [← Array.foldl_toList, hz]
  simpa [ow.1] using this
/-- parts laid over the cells of a struct -/
class Bld (P : Program) (T : TypeId) (cs : List Value) (ps : List (Nat × Value)) (cs' : outParam (List Value)) : Prop where
  bld : ∀ fs places, P.underlying T = some (.struct fs) → (∀ i u off sz, (∃ f, fs[i]? = some f ∧ f.type = u ∧ f.offset = off) → (∃ ii, P.info? u = some ii ∧ ii.size = sz) → places i = some (off, sz)) → Instr.fill places ⟨cs⟩ ps = some ⟨cs'⟩
instance {P : Program} {T : TypeId} {cs : List Value} : Bld P T cs [] cs := ⟨fun _ _ _ _ => rfl⟩
instance {P : Program} {T : TypeId} {cs cs1 cs' vs : List Value} {i u off sz : Nat} {v : Value} {ps : List (Nat × Value)} [f : Fld P T i u off sz] [cv : Cells v vs] [le : LenIs vs sz] [ow : Ovw cs off vs cs1] [b : Bld P T cs1 ps cs'] :
    Bld P T cs ((i, v) :: ps) cs' := ⟨fun fs places hu hp => by
  obtain ⟨fs', fd, h1, h2, h3, h4⟩ := f.fld
  rw [hu] at h1; cases h1
  obtain ⟨ii, h5, h6, _⟩ := f.pos
  have := hp i u off sz ⟨fd, h2, h3, h4⟩ ⟨ii, h5, h6⟩
  rw [fill_one this cv.cells le.len ow.ovw]
  exact b.bld fs places hu hp⟩
theorem run_places {P : Program} {fs : Array Field} (w : World) (hall : (fs.toList.all fun f => (P.info? f.type).isSome) = true) :
    (fs.mapM fun f => do pure (f.offset, ← sizeOf f.type) : Sem (Array (Nat × Nat))).run P w = .ok (fs.map fun f => (f.offset, P.cellsOf f.type)) w := by
  rw [Array.mapM_eq_mapM_toList]
  have key : ∀ l : List Field, (l.all fun f => (P.info? f.type).isSome) = true → (l.mapM fun f => do pure (f.offset, ← sizeOf f.type) : Sem (List (Nat × Nat))).run P w = .ok (l.map fun f => (f.offset, P.cellsOf f.type)) w := by
    intro l
    induction l with
    | nil => intro _; simp
    | cons f l ih =>
      intro h
      simp only [List.all_cons, Bool.and_eq_true] at h
      obtain ⟨i, hi⟩ := Option.isSome_iff_exists.1 h.1
      have e1 : (sizeOf f.type).run P w = .ok (P.cellsOf f.type) w := by simp [sizeOf, typeInfo, hi, Program.cellsOf]
      simp only [List.mapM_cons, Sem.run_bind, Sem.run_pure, e1, Result.andThen_ok, ih h.2, List.map_cons]
  have hk := key _ hall
  rw [Sem.run_map, hk]
  simp only [Result.andThen_ok]
  congr 1
  apply Array.ext'
  simp
theorem run_build {T : TypeId} {z : Value} {m bz : Nat} {cs cs' : List Value} {ps : List (Nat × Value)} [ti : TyI P T z m bz] [cz : Cells z cs] [to : Told P T] (b : Bld P T cs ps cs') (w : World) :
    (Instr.build T ⟨ps⟩).run P w = .ok (.agg ⟨cs'⟩) w := by
  obtain ⟨fs, h1, h2⟩ := to.told
  have hz : z.cells = ⟨cs⟩ := by apply Array.ext'; exact cz.cells
  have hf : Instr.fill (fun x => (fs.map fun f => (f.offset, P.cellsOf f.type))[x]?) ⟨cs⟩ ps = some ⟨cs'⟩ := by
    refine b.bld fs _ h1 ?_
    rintro i u off sz ⟨f, e1, rfl, rfl⟩ ⟨ii, e2, rfl⟩
    simp [e1, Program.cellsOf, e2]
  simp only [Instr.build, Sem.run_bind, run_zeroValue (P := P) (t := T), Result.andThen_ok, hz, run_underlying h1, run_places w h2, hf, Sem.run_pure]
theorem rd_build {d : Option Tmp} {T : TypeId} {z : Value} {m bz : Nat} {cs cs' : List Value} {xs : List (Nat × Operand)} {ps : List (Nat × Value)} [ti : TyI P T z m bz] [cz : Cells z cs] [to : Told P T] (hp : evp env xs = some ps) [b : Bld P T cs ps cs'] :
    Rd P L env ⟨d, .build T ⟨xs⟩, ty, pos, aft, g⟩ (.agg ⟨cs'⟩) := by
  unfold Rd
  intro ρ s w e _
  have hm := evp_map e xs ps hp
  have : (Array.mk xs).map (fun (p : Nat × Operand) => (p.1, ρ p.2)) = ⟨ps⟩ := by apply Array.ext'; simpa using hm
  simp only [execOp, Sem.run_bind, this, run_build b w, Result.andThen_ok, Sem.run_pure]

/-- elements of one cell laid over the cells of an array -/
class BldE (cs : List Value) (ps : List (Nat × Value)) (cs' : outParam (List Value)) : Prop where
  bld : Instr.fill (fun i => some (i * 1, 1)) ⟨cs⟩ ps = some ⟨cs'⟩
instance {cs : List Value} : BldE cs [] cs := ⟨rfl⟩
instance {cs cs1 cs' : List Value} {i : Nat} {v u : Value} {ps : List (Nat × Value)} [cv : Cells v [u]] [ow : Ovw cs i [u] cs1] [b : BldE cs1 ps cs'] : BldE cs ((i, v) :: ps) cs' := ⟨by
  rw [fill_one (off := i) (sz := 1) (by simp) cv.cells rfl ow.ovw]
  exact b.bld⟩
class Rep (m : Nat) (v : Value) (cs : outParam (List Value)) : Prop where
  rep : cs = List.replicate m v
instance {v : Value} : Rep 0 v [] := ⟨rfl⟩
instance {m : Nat} {v : Value} {cs : List Value} [i : Rep m v cs] : Rep (m + 1) v (v :: cs) := ⟨by rw [i.rep]; rfl⟩
theorem rd_buildA {d : Option Tmp} {T e' : TypeId} {N : Nat} {z ze : Value} {m bz b2 : Nat} {cs cs' : List Value} {xs : List (Nat × Operand)} {ps : List (Nat × Value)} [tt : Ty P T (.array N e')] [te : TyI P e' ze 1 b2] [ti : TyI P T z m bz] [cz : Cells z cs] (hp : evp env xs = some ps)
    [b : BldE cs ps cs'] : Rd P L env ⟨d, .build T ⟨xs⟩, ty, pos, aft, g⟩ (.agg ⟨cs'⟩) := by
  unfold Rd
  intro ρ s w e _
  have hm := evp_map e xs ps hp
  have hps : (Array.mk xs).map (fun (p : Nat × Operand) => (p.1, ρ p.2)) = ⟨ps⟩ := by apply Array.ext'; simpa using hm
  have hz : z.cells = ⟨cs⟩ := by apply Array.ext'; exact cz.cells
  have hrun : (Instr.build T ⟨ps⟩).run P w = .ok (.agg ⟨cs'⟩) w := by
    simp only [Instr.build, Sem.run_bind, run_zeroValue (P := P) (t := T), Result.andThen_ok, hz, run_underlying tt.und, run_sizeOf (P := P) (t := e'), b.bld, Sem.run_pure]
  simp only [execOp, Sem.run_bind, hps, hrun, Result.andThen_ok, Sem.run_pure]
theorem tro_buildSlice {d : Nat} {t e' : TypeId} {N : Nat} {ze : Value} {b2 : Nat} {cs cs' : List Value} {xs : List (Nat × Operand)} {ps : List (Nat × Value)} {u : Value} [tt : Ty P t (.slice e')] [te : TyI P e' ze 1 b2] [cz : Cells ze [u]] [rp : Rep N u cs] (hp : evp env xs = some ps)
    [b : BldE cs ps cs'] (hN : Nat.ble N 16777216 = true) (hg : gd ops env g = some true) (hd : Nat.ble (d + 1) n = true)
    (h : ∀ b, TrO P n s ops (row b e' cs' :: L) ((d, .slice (some ⟨b, 0, none⟩) N N) :: env) rest k Q) : TrO P n s ops L env (⟨some d, .buildSlice t N ⟨xs⟩, ty, pos, aft, g⟩ :: rest) k Q := by
  refine tro_wr (X := Nat) (val := fun b => .slice (some ⟨b, 0, none⟩) N N) (L' := fun b => row b e' cs' :: L) hg hd ?_ h
  intro ρ s w e l
  have hm := evp_map e xs ps hp
  have hps : (Array.mk xs).map (fun (p : Nat × Operand) => (p.1, ρ p.2)) = ⟨ps⟩ := by apply Array.ext'; simpa using hm
  have hz : ze.cells = #[u] := by apply Array.ext'; exact cz.cells
  have hN' := Nat.le_of_ble_eq_true hN
  have hcs : (Array.range (N * 1)).map (fun i => (#[u] : Array Value)[i % 1]!) = ⟨cs⟩ := by
    apply Array.ext'
    rw [rp.rep]
    apply List.ext_getElem
    · simp
    · intro i h1 h2
      simp [Nat.mod_one]
  refine ⟨w.heap.size, w.alloc (.cells ⟨cs'⟩ e' (0, 0)), ?_, sat_alloc l _⟩
  have hrun : (Instr.buildSlice t N ⟨ps⟩).run P w = .ok (.slice (some ⟨w.heap.size, 0, none⟩) N N) (w.alloc (.cells ⟨cs'⟩ e' (0, 0))) := by
    by_cases h0 : N = 0
    · subst h0
      have hc0 : cs = [] := rp.rep
      have hb := b.bld
      rw [hc0] at hb
      have hb2 : Instr.fill (fun i => some (i * 1, 1)) ((Array.range (0 * 1)).map (fun x => (#[] : Array Value)[x % (#[] : Array Value).size]!)) ps = some ⟨cs'⟩ := by
        rw [show (Array.range (0 * 1)).map (fun x => (#[] : Array Value)[x % (#[] : Array Value).size]!) = ⟨[]⟩ from by simp]; exact hb
      simp only [Instr.buildSlice, Sem.run_bind, run_underlying tt.und, run_sizeOf (P := P) (t := e'), Result.andThen_ok, if_neg (show ¬ 0 * 1 > 2 ^ 24 by omega), Nat.zero_mul, if_true, Sem.run_pure, newRow, run_newObj]
      simp only [Nat.zero_mul] at hb2
      simp only [hb2, Sem.run_bind, run_newObj, Result.andThen_ok, Sem.run_pure]
      rfl
    · have hz2 : (#[u] : Array Value).size = 1 := rfl
      have hb := b.bld
      rw [← hcs] at hb
      simp only [Instr.buildSlice, Sem.run_bind, run_underlying tt.und, run_sizeOf (P := P) (t := e'), Result.andThen_ok, Nat.mul_one, if_neg (show ¬ N > 2 ^ 24 by omega), if_neg h0, run_zeroValue (P := P) (t := e'), hz, Sem.run_pure, hz2]
      simp only [Nat.mul_one] at hb
      simp only [Nat.mul_one, hb, newRow, Sem.run_bind, run_newObj, Result.andThen_ok, Sem.run_pure]
      rfl
  simp only [execOp, Sem.run_bind, hps, hrun, Result.andThen_ok, Sem.run_pure]

/-- a slice of no elements, one of one element (of any size) -/
theorem tro_buildSlice0 {d : Nat} {t e' : TypeId} {ze : Value} {sz b2 : Nat} [tt : Ty P t (.slice e')] [te : TyI P e' ze sz b2] (hg : gd ops env g = some true) (hd : Nat.ble (d + 1) n = true)
    (h : ∀ b, TrO P n s ops (row b e' [] :: L) ((d, .slice (some ⟨b, 0, none⟩) 0 0) :: env) rest k Q) : TrO P n s ops L env (⟨some d, .buildSlice t 0 #[], ty, pos, aft, g⟩ :: rest) k Q := by
  refine tro_wr (X := Nat) (val := fun b => .slice (some ⟨b, 0, none⟩) 0 0) (L' := fun b => row b e' [] :: L) hg hd ?_ h
  intro ρ s w e l
  refine ⟨w.heap.size, w.alloc (.cells ⟨[]⟩ e' (0, 0)), ?_, sat_alloc l _⟩
  simp [execOp, Instr.buildSlice, run_underlying tt.und, run_sizeOf (P := P) (t := e'), Instr.fill, newRow]
  congr 2; apply Array.ext'; simp
theorem tro_buildSlice1 {d : Nat} {t e' : TypeId} {ze v : Value} {sz b2 : Nat} {x : Operand} {zs vs : List Value} [tt : Ty P t (.slice e')] [te : TyI P e' ze sz b2] [cz : Cells ze zs] (hx : ev env x = some v) [cv : Cells v vs] (hl : Nat.beq vs.length sz = true) (hz : Nat.beq zs.length sz = true) (hs : (Nat.ble 1 sz && Nat.ble sz 16777216) = true) (hg : gd ops env g = some true) (hd : Nat.ble (d + 1) n = true)
    (h : ∀ b, TrO P n s ops (row b e' vs :: L) ((d, .slice (some ⟨b, 0, none⟩) 1 1) :: env) rest k Q) : TrO P n s ops L env (⟨some d, .buildSlice t 1 #[(0, x)], ty, pos, aft, g⟩ :: rest) k Q := by
  refine tro_wr (X := Nat) (val := fun b => .slice (some ⟨b, 0, none⟩) 1 1) (L' := fun b => row b e' vs :: L) hg hd ?_ h
  intro ρ s w e l
  have hl := Nat.eq_of_beq_eq_true hl
  have hz := Nat.eq_of_beq_eq_true hz
  rw [Bool.and_eq_true] at hs
  have hs1 := Nat.le_of_ble_eq_true hs.1
  have hs2 := Nat.le_of_ble_eq_true hs.2
  have hzc : ze.cells = ⟨zs⟩ := by apply Array.ext'; exact cz.cells
  have hcs : (Array.range (1 * sz)).map (fun i => (⟨zs⟩ : Array Value)[i % sz]!) = ⟨zs⟩ := by
    apply Array.ext'
    apply List.ext_getElem
    · simp [hz]
    · intro i h1 h2
      have : i < sz := by rw [← hz]; exact h2
      simp [Nat.mod_eq_of_lt this, h2]
  have hfill : Instr.fill (fun i => some (i * sz, sz)) ⟨zs⟩ [(0, v)] = some ⟨vs⟩ := by
    rw [fill_one (off := 0) (sz := sz) (cs1 := vs) (by simp) cv.cells hl ⟨by unfold ovw; simp [hl, ← hz], by omega⟩]
    rfl
  refine ⟨w.heap.size, w.alloc (.cells ⟨vs⟩ e' (0, 0)), ?_, sat_alloc l _⟩
  have hzs : (Array.mk zs).size = sz := by simpa using hz
  have hrun : (Instr.buildSlice t 1 ⟨[(0, v)]⟩).run P w = .ok (.slice (some ⟨w.heap.size, 0, none⟩) 1 1) (w.alloc (.cells ⟨vs⟩ e' (0, 0))) := by
    simp only [Instr.buildSlice, Sem.run_bind, run_underlying tt.und, run_sizeOf (P := P) (t := e'), Result.andThen_ok, Nat.one_mul, if_neg (show ¬ sz > 2 ^ 24 by omega), if_neg (show ¬ sz = 0 by omega), run_zeroValue (P := P) (t := e'), hzc, Sem.run_pure, hzs]
    simp only [Nat.one_mul] at hcs
    simp only [hcs, hfill, newRow, Sem.run_bind, run_newObj, Result.andThen_ok, Sem.run_pure]
    rfl
  simp only [execOp, Sem.run_bind, List.map_toArray, List.map_cons, List.map_nil, e x _ hx, hrun, Result.andThen_ok, Sem.run_pure]

-- ================================================================ slices
theorem tro_make {d : Nat} {t e' : TypeId} {ze u : Value} {bz : Nat} {x y : Operand} {kx ky : IntKind} {lx ly : Int} [tt : Ty P t (.slice e')] [te : TyI P e' ze 1 bz] [cz : Cells ze [u]] (hx : ev env x = some (.int kx lx)) (hy : ev env y = some (.int ky ly))
    (h0 : 0 ≤ lx) (h1 : lx ≤ ly) (h2 : (bz : Int) * ly ≤ 281474976710656) (h3 : ly ≤ 9223372036854775807) (hg : gd ops env g = some true) (hd : Nat.ble (d + 1) n = true)
    (h : ∀ b, TrO P n s ops (row b e' (List.replicate ly.toNat u) :: L) ((d, .slice (some ⟨b, 0, none⟩) lx.toNat ly.toNat) :: env) rest k Q) : TrO P n s ops L env (⟨some d, .makeSlice t x y, ty, pos, aft, g⟩ :: rest) k Q := by
  refine tro_wr (X := Nat) (val := fun b => .slice (some ⟨b, 0, none⟩) lx.toNat ly.toNat) (L' := fun b => row b e' (List.replicate ly.toNat u) :: L) hg hd ?_ h
  intro ρ s w e l
  obtain ⟨i, hi, hz0, hz1, hz2⟩ := te.inf
  have hz : ze.cells = #[u] := by apply Array.ext'; exact cz.cells
  have hrun := run_make (P := P) w t e' i ze tt.und hi hz0 kx ky lx ly h0 h1 (by rw [hz2]; exact h2) h3
  have hc : madeCells ze.cells (ly.toNat * i.size) = ⟨List.replicate ly.toNat u⟩ := by
    rw [hz, hz1]
    apply Array.ext'
    apply List.ext_getElem
    · simp [madeCells]
    · intro j h1 h2
      simp [madeCells, Nat.mod_one]
  rw [hc] at hrun
  refine ⟨w.heap.size, _, ?_, sat_alloc l _⟩
  simp only [execOp, e x _ hx, e y _ hy, Sem.run_bind, hrun, Result.andThen_ok, Sem.run_pure]

/-- the place where 'x[l:]' begins -/
def cutAt (o c l sz : Nat) : Nat := if c = l then o else o + l * sz
theorem rd_slice {d : Option Tmp} {t e' : TypeId} {z : Value} {sz bz b o len cap : Nat} {x : Operand} {lo hi : Option Operand} {l h : Nat} [tt : Ty P t (.slice e')] [te : TyI P e' z sz bz] (hx : ev env x = some (.slice (some ⟨b, o, none⟩) len cap))
    (hl : match lo with | none => l = 0 | some y => ∃ K i, ev env y = some (.int K i) ∧ i = (l : Int)) (hh : match hi with | none => h = len | some y => ∃ K i, ev env y = some (.int K i) ∧ i = (h : Int)) (h1 : l ≤ h) (h2 : h ≤ cap) :
    Rd P L env ⟨d, .slice t x lo hi none, ty, pos, aft, g⟩ (.slice (some ⟨b, cutAt o cap l sz, none⟩) (h - l) (cap - l)) := by
  unfold Rd
  intro ρ s w e _
  have key : (Instr.slice t (ρ x) (lo.map ρ) (hi.map ρ) none).run P w = .ok (.slice (some ⟨b, cutAt o cap l sz, none⟩) (h - l) (cap - l)) w := by
    have hb : (Instr.sliceBounds true len cap (lo.map ρ) (hi.map ρ) none).run P w = .ok (l, h, cap) w := by
      cases lo with
      | none =>
        simp only at hl
        subst hl
        cases hi with
        | none => simp only at hh; subst hh; simp [Instr.sliceBounds]
        | some y =>
          obtain ⟨K, i, hy, rfl⟩ := hh
          simp [Instr.sliceBounds, e y _ hy, run_sliceBound, h2]
      | some yl =>
        obtain ⟨Kl, il, hyl, rfl⟩ := hl
        cases hi with
        | none => simp only at hh; subst hh; simp [Instr.sliceBounds, e yl _ hyl, run_sliceBound, h1]
        | some y =>
          obtain ⟨K, i, hy, rfl⟩ := hh
          simp [Instr.sliceBounds, e y _ hy, e yl _ hyl, run_sliceBound, h1, h2]
    rw [e x _ hx]
    simp only [Instr.slice, Sem.run_bind, run_underlying tt.und, Result.andThen_ok, hb, run_sizeOf (P := P) (t := e'), Sem.run_pure]
    congr 2
    unfold cutAt
    by_cases hc : cap = l
    · simp [hc]
    · simp [hc, Addr.add_lit]
  have hs : (Instr.sliceAt t (ρ x) (lo.map ρ) (hi.map ρ) none).run P w = .ok (.slice (some ⟨b, cutAt o cap l sz, none⟩) (h - l) (cap - l)) w := by
    simp only [Instr.sliceAt, Sem.run_bind, run_underlying tt.und, Result.andThen_ok, key]
  simp only [execOp, Sem.run_bind, Option.map_none, hs, Result.andThen_ok, Sem.run_pure]
theorem rd_sliceA {d : Option Tmp} {t e' : TypeId} {z : Value} {sz bz b o N : Nat} {x : Operand} {lo hi : Option Operand} {l h : Nat} [tt : Ty P t (.array N e')] [te : TyI P e' z sz bz] (hx : ev env x = some (.pointer (some ⟨b, o, none⟩)))
    (hl : match lo with | none => l = 0 | some y => ∃ K i, ev env y = some (.int K i) ∧ i = (l : Int)) (hh : match hi with | none => h = N | some y => ∃ K i, ev env y = some (.int K i) ∧ i = (h : Int)) (h1 : l ≤ h) (h2 : h ≤ N) :
    Rd P L env ⟨d, .slice t x lo hi none, ty, pos, aft, g⟩ (.slice (some ⟨b, cutAt o N l sz, none⟩) (h - l) (N - l)) := by
  unfold Rd
  intro ρ s w e _
  have hb : (Instr.sliceBounds false N N (lo.map ρ) (hi.map ρ) none).run P w = .ok (l, h, N) w := by
    cases lo with
    | none =>
      simp only at hl
      subst hl
      cases hi with
      | none => simp only at hh; subst hh; simp [Instr.sliceBounds]
      | some y =>
        obtain ⟨K, i, hy, rfl⟩ := hh
        simp [Instr.sliceBounds, e y _ hy, run_sliceBound, h2]
    | some yl =>
      obtain ⟨Kl, il, hyl, rfl⟩ := hl
      cases hi with
      | none => simp only at hh; subst hh; simp [Instr.sliceBounds, e yl _ hyl, run_sliceBound, h1]
      | some y =>
        obtain ⟨K, i, hy, rfl⟩ := hh
        simp [Instr.sliceBounds, e y _ hy, e yl _ hyl, run_sliceBound, h1, h2]
  have hs : (Instr.sliceAt t (ρ x) (lo.map ρ) (hi.map ρ) none).run P w = .ok (.slice (some ⟨b, cutAt o N l sz, none⟩) (h - l) (N - l)) w := by
    simp only [Instr.sliceAt, Sem.run_bind, run_underlying tt.und, Result.andThen_ok, e x _ hx, Instr.sureAddr, hb, run_sizeOf (P := P) (t := e'), Sem.run_pure]
    congr 2
    unfold cutAt
    by_cases hc : N = l
    · simp [hc]
    · simp [hc, Addr.add_lit]
  simp only [execOp, Sem.run_bind, Option.map_none, hs, Result.andThen_ok, Sem.run_pure]

/-- whole numbers that are natural ones -/
class NatI (i : Int) (m : outParam Nat) : Prop where
  eq : i = (m : Int)
instance {m : Nat} : NatI (m : Int) m := ⟨rfl⟩
instance {m : Nat} : NatI (OfNat.ofNat m : Int) m := ⟨rfl⟩
instance {m : Nat} : NatI (((m + 1 : Nat) : Int) - 1) m := ⟨by omega⟩
instance {i j : Int} {m l : Nat} [a : NatI i m] [b : NatI j l] : NatI (i + j) (m + l) := ⟨by rw [a.eq, b.eq]; simp⟩
theorem rd_index_addrN {d : Option Tmp} {x y : Operand} {t e' : TypeId} {z : Value} {sz bz : Nat} {b o m c : Nat} {K : IntKind} {i : Int} {j : Nat} [tt : Ty P t (.slice e')] [ti : TyI P e' z sz bz]
    (hx : ev env x = some (.slice (some ⟨b, o, none⟩) m c)) (hy : ev env y = some (.int K i)) [ij : NatI i j] (h1 : j < m) :
    Rd P L env ⟨d, .indexAddr t x y, ty, pos, aft, g⟩ (.pointer (some ⟨b, o + j * sz, none⟩)) := by
  have h := rd_index_addr (P := P) (t := t) (e' := e') (m := m) (L := L) (d := d) (ty := ty) (pos := pos) (aft := aft) (g := g) hx hy (by rw [ij.eq]; omega) (by rw [ij.eq]; omega)
  rw [ij.eq, Int.toNat_natCast] at h
  exact h
theorem rd_index_addrAN {d : Option Tmp} {x y : Operand} {t e' : TypeId} {z : Value} {sz bz : Nat} {b o m : Nat} {K : IntKind} {i : Int} {j : Nat} [tt : Ty P t (.array m e')] [ti : TyI P e' z sz bz]
    (hx : ev env x = some (.pointer (some ⟨b, o, none⟩))) (hy : ev env y = some (.int K i)) [ij : NatI i j] (h1 : j < m) :
    Rd P L env ⟨d, .indexAddr t x y, ty, pos, aft, g⟩ (.pointer (some ⟨b, o + j * sz, none⟩)) := by
  have h := rd_index_addrA (P := P) (t := t) (e' := e') (m := m) (L := L) (d := d) (ty := ty) (pos := pos) (aft := aft) (g := g) hx hy (by rw [ij.eq]; omega) (by rw [ij.eq]; omega)
  rw [ij.eq, Int.toNat_natCast] at h
  exact h
/-- 'x[l:h]' of a slice that may be none -/
def cutS (a : Option Addr) (c l sz : Nat) : Option Addr := if c = l then a else a.map (·.add (l * sz))
theorem rd_sliceS {d : Option Tmp} {t e' : TypeId} {z : Value} {sz bz len cap : Nat} {a : Option Addr} {x : Operand} {lo hi : Option Operand} {l h : Nat} [tt : Ty P t (.slice e')] [te : TyI P e' z sz bz] (hx : ev env x = some (.slice a len cap))
    (hl : match lo with | none => l = 0 | some y => ∃ K i, ev env y = some (.int K i) ∧ i = (l : Int)) (hh : match hi with | none => h = len | some y => ∃ K i, ev env y = some (.int K i) ∧ i = (h : Int)) (h1 : l ≤ h) (h2 : h ≤ cap) :
    Rd P L env ⟨d, .slice t x lo hi none, ty, pos, aft, g⟩ (.slice (cutS a cap l sz) (h - l) (cap - l)) := by
  unfold Rd
  intro ρ s w e _
  have hb : (Instr.sliceBounds true len cap (lo.map ρ) (hi.map ρ) none).run P w = .ok (l, h, cap) w := by
    cases lo with
    | none =>
      simp only at hl
      subst hl
      cases hi with
      | none => simp only at hh; subst hh; simp [Instr.sliceBounds]
      | some y =>
        obtain ⟨K, i, hy, rfl⟩ := hh
        simp [Instr.sliceBounds, e y _ hy, run_sliceBound, h2]
    | some yl =>
      obtain ⟨Kl, il, hyl, rfl⟩ := hl
      cases hi with
      | none => simp only at hh; subst hh; simp [Instr.sliceBounds, e yl _ hyl, run_sliceBound, h1]
      | some y =>
        obtain ⟨K, i, hy, rfl⟩ := hh
        simp [Instr.sliceBounds, e y _ hy, e yl _ hyl, run_sliceBound, h1, h2]
  have key : (Instr.slice t (ρ x) (lo.map ρ) (hi.map ρ) none).run P w = .ok (.slice (cutS a cap l sz) (h - l) (cap - l)) w := by
    rw [e x _ hx]
    simp only [Instr.slice, Sem.run_bind, run_underlying tt.und, Result.andThen_ok, hb, run_sizeOf (P := P) (t := e'), Sem.run_pure]
    rfl
  have hs : (Instr.sliceAt t (ρ x) (lo.map ρ) (hi.map ρ) none).run P w = .ok (.slice (cutS a cap l sz) (h - l) (cap - l)) w := by
    simp only [Instr.sliceAt, Sem.run_bind, run_underlying tt.und, Result.andThen_ok, key]
  simp only [execOp, Sem.run_bind, Option.map_none, hs, Result.andThen_ok, Sem.run_pure]
section
variable {d : Option Tmp} {t e' : TypeId} {z : Value} {sz bz b o len cap N : Nat} {x yl yh : Operand} {l h : Nat} {Kl Kh : IntKind} {il ih : Int}
theorem rd_slice_00 [tt : Ty P t (.slice e')] [te : TyI P e' z sz bz] (hx : ev env x = some (.slice (some ⟨b, o, none⟩) len cap)) (h2 : len ≤ cap) :
    Rd P L env ⟨d, .slice t x none none none, ty, pos, aft, g⟩ (.slice (some ⟨b, cutAt o cap 0 sz, none⟩) (len - 0) (cap - 0)) := rd_slice hx rfl rfl (by omega) h2
theorem rd_slice_10 [tt : Ty P t (.slice e')] [te : TyI P e' z sz bz] (hx : ev env x = some (.slice (some ⟨b, o, none⟩) len cap)) (hl : ev env yl = some (.int Kl il)) [il' : NatI il l] (h1 : l ≤ len ∧ len ≤ cap) :
    Rd P L env ⟨d, .slice t x (some yl) none none, ty, pos, aft, g⟩ (.slice (some ⟨b, cutAt o cap l sz, none⟩) (len - l) (cap - l)) := rd_slice hx ⟨Kl, il, hl, il'.eq⟩ rfl h1.1 h1.2
theorem rd_slice_01 [tt : Ty P t (.slice e')] [te : TyI P e' z sz bz] (hx : ev env x = some (.slice (some ⟨b, o, none⟩) len cap)) (hh : ev env yh = some (.int Kh ih)) [ih' : NatI ih h] (h1 : h ≤ cap) :
    Rd P L env ⟨d, .slice t x none (some yh) none, ty, pos, aft, g⟩ (.slice (some ⟨b, cutAt o cap 0 sz, none⟩) (h - 0) (cap - 0)) := rd_slice hx rfl ⟨Kh, ih, hh, ih'.eq⟩ (by omega) h1
theorem rd_slice_11 [tt : Ty P t (.slice e')] [te : TyI P e' z sz bz] (hx : ev env x = some (.slice (some ⟨b, o, none⟩) len cap)) (hl : ev env yl = some (.int Kl il)) [il' : NatI il l] (hh : ev env yh = some (.int Kh ih)) [ih' : NatI ih h] (h1 : l ≤ h ∧ h ≤ cap) :
    Rd P L env ⟨d, .slice t x (some yl) (some yh) none, ty, pos, aft, g⟩ (.slice (some ⟨b, cutAt o cap l sz, none⟩) (h - l) (cap - l)) := rd_slice hx ⟨Kl, il, hl, il'.eq⟩ ⟨Kh, ih, hh, ih'.eq⟩ h1.1 h1.2
theorem rd_sliceA_00 [tt : Ty P t (.array N e')] [te : TyI P e' z sz bz] (hx : ev env x = some (.pointer (some ⟨b, o, none⟩))) :
    Rd P L env ⟨d, .slice t x none none none, ty, pos, aft, g⟩ (.slice (some ⟨b, cutAt o N 0 sz, none⟩) (N - 0) (N - 0)) := rd_sliceA hx rfl rfl (by omega) (by omega)
theorem rd_sliceA_10 [tt : Ty P t (.array N e')] [te : TyI P e' z sz bz] (hx : ev env x = some (.pointer (some ⟨b, o, none⟩))) (hl : ev env yl = some (.int Kl il)) [il' : NatI il l] (h1 : l ≤ N) :
    Rd P L env ⟨d, .slice t x (some yl) none none, ty, pos, aft, g⟩ (.slice (some ⟨b, cutAt o N l sz, none⟩) (N - l) (N - l)) := rd_sliceA hx ⟨Kl, il, hl, il'.eq⟩ rfl h1 (by omega)
theorem rd_sliceA_11 [tt : Ty P t (.array N e')] [te : TyI P e' z sz bz] (hx : ev env x = some (.pointer (some ⟨b, o, none⟩))) (hl : ev env yl = some (.int Kl il)) [il' : NatI il l] (hh : ev env yh = some (.int Kh ih)) [ih' : NatI ih h] (h1 : l ≤ h ∧ h ≤ N) :
    Rd P L env ⟨d, .slice t x (some yl) (some yh) none, ty, pos, aft, g⟩ (.slice (some ⟨b, cutAt o N l sz, none⟩) (h - l) (N - l)) := rd_sliceA hx ⟨Kl, il, hl, il'.eq⟩ ⟨Kh, ih, hh, ih'.eq⟩ h1.1 h1.2
end

/-- 'copy(dst, src)' into a row of the call's own; elements of one cell. -/
theorem tro_copy {d : Nat} {t t2 e' T : TypeId} {z : Value} {bz b o dl dc sl sc : Nat} {x y : Operand} {a : Addr} {cs vs : List Value} {L' : List HP} [tt : Ty P t (.slice e')] [te : TyI P e' z 1 bz]
    (hx : ev env x = some (.slice (some ⟨b, o, none⟩) dl dc)) (hy : ev env y = some (.slice (some a) sl sc)) (hv : vs.length = min sl dl) (hr : RdC L a vs) (h1 : ones vs = true)
    [r : GetPt L b (.cells ⟨cs⟩ T (0, 0))] (hfit : o + vs.length ≤ cs.length) [st : SetPt L b (.cells ⟨ovw cs o vs⟩ T (0, 0)) L'] (hg : gd ops env g = some true) (hd : Nat.ble (d + 1) n = true)
    (h : TrO P n s ops L' ((d, .int .i64 vs.length) :: env) rest k Q) : TrO P n s ops L env (⟨some d, .call ⟨.builtin .copy, #[x, y], #[t, t2]⟩, ty, pos, aft, g⟩ :: rest) k Q := by
  refine tro_wr (X := Unit) (val := fun _ => .int .i64 vs.length) (L' := fun _ => L') hg hd ?_ (fun _ => h)
  intro ρ s w e l
  obtain ⟨i, hi, _, hz1, _⟩ := te.inf
  have hrun := run_copy_row (P := P) w t t2 ty e' b o dl dc a sl sc ⟨cs⟩ T vs tt.und (by rw [hi]; simp [hz1]) (sat_row (b := b) (T := T) (cs := cs) l) hv (hr s w l) (by simpa using hfit) (fun v hv => List.all_eq_true.1 h1 v hv)
  refine ⟨(), _, ?_, sat_setRow (b := b) (T := T) (cs := cs) (cs' := ovw cs o vs) l⟩
  simp only [execOp, resolve, e x _ hx, e y _ hy, invoke, builtin, Sem.run_bind, Sem.run_pure, Result.andThen_ok, List.map_toArray, List.map_cons, List.map_nil, hrun, goInt]
  rfl

/-- 'clear(x)', x a slice of a row; elements of one cell -/
theorem tro_clearSlice {t e' T : TypeId} {ze u : Value} {bz b o len cap : Nat} {x : Operand} {cs : List Value} {ts : List TypeId} {L' : List HP} [tt : Ty P t (.slice e')] [te : TyI P e' ze 1 bz] [cz : Cells ze [u]] (hx : ev env x = some (.slice (some ⟨b, o, none⟩) len cap)) (hu : u.oneCell' = true)
    [r : GetPt L b (.cells ⟨cs⟩ T (0, 0))] (hfit : o + len ≤ cs.length) [st : SetPt L b (.cells ⟨ovw cs o (List.replicate len u)⟩ T (0, 0)) L'] (hg : gd ops env g = some true)
    (h : TrO P n s ops L' env rest k Q) : TrO P n s ops L env (⟨none, .call ⟨.builtin .clear, #[x], ⟨t :: ts⟩⟩, ty, pos, aft, g⟩ :: rest) k Q := by
  refine tro_wrN (X := Unit) (pr := fun _ => True) (val := fun _ => .tuple #[]) (L' := fun _ => L') hg ?_ (fun _ _ => h)
  intro ρ s w e l
  have hrow := sat_row (b := b) (T := T) (cs := cs) l
  have hz : ze.cells = #[u] := by apply Array.ext'; exact cz.cells
  suffices hs : ∃ w', (Builtin.clear_ ⟨t :: ts⟩ ty #[.slice (some ⟨b, o, none⟩) len cap]).run P w = .ok (.tuple #[]) w' ∧ sat s w' L' by
    obtain ⟨w', hrun, hsat⟩ := hs
    refine ⟨(), w', trivial, ?_, hsat⟩
    simp only [execOp, resolve, e x _ hx, invoke, builtin, Sem.run_bind, Sem.run_pure, Result.andThen_ok, List.map_toArray, List.map_cons, List.map_nil, hrun]
  by_cases h0 : len = 0
  · subst h0
    refine ⟨w, by simp [Builtin.clear_, run_underlying tt.und], ?_⟩
    refine sat_set (b := b) (o' := .cells ⟨ovw cs o (List.replicate 0 u)⟩ T (0, 0)) l rfl ?_ (fun _ _ => rfl)
    rw [hrow]; simp [ovw]
  · have hcells : (Builtin.zeroCells #[u] len).toList = List.replicate len u := by
      apply List.ext_getElem
      · simp [Builtin.zeroCells]
      · intro i h1 h2
        simp [Builtin.zeroCells, Nat.mod_one]
    have hst := run_storeRow (P := P) (vs := List.replicate len u) hrow (by rw [List.length_replicate]; exact hfit) (fun v hv => by rw [List.eq_of_mem_replicate hv]; exact hu)
    refine ⟨_, ?_, sat_setRow (b := b) (T := T) (cs := cs) (cs' := ovw cs o (List.replicate len u)) l⟩
    obtain ⟨m, rfl⟩ : ∃ m, len = m + 1 := ⟨len - 1, by omega⟩
    simp [Builtin.clear_, run_underlying tt.und, run_zeroValue (P := P) (t := e'), hz, hcells, hst]

/-- a slice of the call's own: its elements, and room that nobody sees -/
def sliceA (v : Value) (T sz m : Nat) (xs : List Value) : HP := fun h =>
  (v = .slice none 0 0 ∧ m = 0 ∧ xs = [] ∧ hemp h) ∨
  ∃ b c sp, v = .slice (some ⟨b, 0, none⟩) m c ∧ xs.length = m * sz ∧ xs.length + sp.length = c * sz ∧ m ≤ c ∧ c ≤ maxLen ∧ row b T (xs ++ sp) h
theorem sat_slice {v : Value} {T sz m : Nat} {xs : List Value} {F : List HP} {w : World} (l : sat s w (sliceA v T sz m xs :: F)) :
    (v = .slice none 0 0 ∧ m = 0 ∧ xs = [] ∧ sat s w F) ∨ ∃ b c sp, v = .slice (some ⟨b, 0, none⟩) m c ∧ xs.length = m * sz ∧ xs.length + sp.length = c * sz ∧ m ≤ c ∧ c ≤ maxLen ∧ sat s w (row b T (xs ++ sp) :: F) := by
  have l0 := l
  unfold sat at l
  obtain ⟨e0, h, hs, c⟩ := l
  unfold sepL star at hs
  obtain ⟨h1, h2, d, e, a, b⟩ := hs
  rcases a with ⟨rfl, rfl, rfl, _⟩ | ⟨bb, cc, sp, a1, a2, a3, a4, a5, a6⟩
  · exact .inl ⟨rfl, rfl, rfl, sat_drop l0⟩
  · refine .inr ⟨bb, cc, sp, a1, a2, a3, a4, a5, ?_⟩
    unfold sat
    refine ⟨e0, h, ?_, c⟩
    unfold sepL star
    exact ⟨h1, h2, d, e, a6, b⟩
theorem sat_slice_nil {T sz : Nat} {F : List HP} {w : World} (l : sat s w F) : sat s w (sliceA (.slice none 0 0) T sz 0 [] :: F) := by
  unfold sat at l ⊢
  obtain ⟨e0, h, hs, c⟩ := l
  refine ⟨e0, h, ?_, c⟩
  unfold sepL star
  exact ⟨PH.none, h, fun _ => .inl rfl, (PH.none_un h).symm, .inl ⟨rfl, rfl, rfl, by unfold hemp; rfl⟩, hs⟩
theorem sat_slice_mk {b c T sz m : Nat} {xs sp : List Value} {F : List HP} {w : World} (h1 : xs.length = m * sz) (h2 : xs.length + sp.length = c * sz) (h3 : m ≤ c) (h4 : c ≤ maxLen) (l : sat s w (row b T (xs ++ sp) :: F)) :
    sat s w (sliceA (.slice (some ⟨b, 0, none⟩) m c) T sz m xs :: F) := by
  unfold sat at l ⊢
  obtain ⟨e0, h, hs, c'⟩ := l
  refine ⟨e0, h, ?_, c'⟩
  unfold sepL star at hs ⊢
  obtain ⟨k1, k2, d, e, a, bb⟩ := hs
  exact ⟨k1, k2, d, e, .inr ⟨b, c, sp, rfl, h1, h2, h3, h4, a⟩, bb⟩
theorem sub_slice {b c T sz m : Nat} {xs sp : List Value} {F : List HP} (h1 : xs.length = m * sz) (h2 : xs.length + sp.length = c * sz) (h3 : m ≤ c) (h4 : c ≤ maxLen) : Sub (row b T (xs ++ sp) :: F) (sliceA (.slice (some ⟨b, 0, none⟩) m c) T sz m xs :: F) := ⟨fun h a => ⟨h, PH.none, fun _ => .inr rfl, (PH.un_none h).symm, by
  unfold sepL star at a ⊢
  obtain ⟨k1, k2, d, e, a, bb⟩ := a
  exact ⟨k1, k2, d, e, .inr ⟨b, c, sp, rfl, h1, h2, h3, h4, a⟩, bb⟩⟩⟩
theorem sub_slice_nil {T sz : Nat} {F : List HP} : Sub F (sliceA (.slice none 0 0) T sz 0 [] :: F) := ⟨fun h a => ⟨h, PH.none, fun _ => .inr rfl, (PH.un_none h).symm, by
  unfold sepL star
  exact ⟨PH.none, h, fun _ => .inl rfl, (PH.none_un h).symm, .inl ⟨rfl, rfl, rfl, by unfold hemp; rfl⟩, a⟩⟩⟩
theorem sub_slice_drop {v : Value} {T sz m : Nat} {xs : List Value} {F : List HP} : Sub (sliceA v T sz m xs :: F) F := Sub.drop1
theorem tro_slice {v : Value} {T sz m : Nat} {xs : List Value} {F : List HP} (hp : List.Perm L (sliceA v T sz m xs :: F)) (h0 : v = .slice none 0 0 → m = 0 → xs = [] → TrO P n s ops F env rest k Q)
    (h1 : ∀ b c sp, v = .slice (some ⟨b, 0, none⟩) m c → xs.length = m * sz → xs.length + sp.length = c * sz → m ≤ c → c ≤ maxLen → TrO P n s ops (row b T (xs ++ sp) :: F) env rest k Q) : TrO P n s ops L env rest k Q := by
  unfold TrO at h0 h1 ⊢
  intro a w e l
  rcases sat_slice (sat_perm hp l) with ⟨g1, g2, g3, g4⟩ | ⟨b, c, sp, g1, g2, g3, g4, g5, g6⟩
  · exact h0 g1 g2 g3 a w e g4
  · exact h1 b c sp g1 g2 g3 g4 g5 a w e g6
theorem spec_slice {f : FuncId} {args : List Value} {v : Value} {T sz m : Nat} {xs : List Value} {pre : List HP} {X : Type} {pr : X → Prop} {val : X → Value} {pst : X → List HP} (h0 : v = .slice none 0 0 → m = 0 → xs = [] → Spec P f args pre pr val pst)
    (h1 : ∀ b c sp, v = .slice (some ⟨b, 0, none⟩) m c → xs.length = m * sz → xs.length + sp.length = c * sz → m ≤ c → c ≤ maxLen → Spec P f args (row b T (xs ++ sp) :: pre) pr val pst) : Spec P f args (sliceA v T sz m xs :: pre) pr val pst := by
  unfold Spec at h0 h1 ⊢
  intro F s w l
  rcases sat_slice l with ⟨g1, g2, g3, g4⟩ | ⟨b, c, sp, g1, g2, g3, g4, g5, g6⟩
  · exact h0 g1 g2 g3 F s w g4
  · exact h1 b c sp g1 g2 g3 g4 g5 F s w g6
theorem rd_eqSN {d : Option Tmp} {x y : Operand} {t u e' : TypeId} [i : Ty P t (.slice e')] {a : Option Addr} {m c : Nat} (hx : ev env x = some (.slice a m c)) (hy : ev env y = some (.slice none 0 0)) :
    Rd P L env ⟨d, .binOp .eql t x y u, ty, pos, aft, g⟩ (.bool a.isNone) := by
  unfold Rd
  intro ρ s w e _
  have hr : (binOp .eql t (.slice a m c) (.slice none 0 0)).run P w = .ok (.bool a.isNone) w := by
    have h1 : ∀ D, (Op.equalIn (D + 1) t (.slice a m c) (.slice none 0 0)).run P w = .ok a.isNone w := by
      intro D; cases a <;> simp [Op.equalIn, run_underlying i.und]
    have h2 : (Op.equal t (.slice a m c) (.slice none 0 0)).run P w = .ok a.isNone w := h1 9999
    simp only [binOp, Sem.run_bind, h2, Result.andThen_ok, Sem.run_pure]
  cases a <;> simp [execOp, e x _ hx, e y _ hy, eqGuard, hr]
theorem rd_cap {d : Option Tmp} {x : Operand} {t e' : TypeId} [i : Ty P t (.slice e')] {a : Option Addr} {m c : Nat} (hx : ev env x = some (.slice a m c)) :
    Rd P L env ⟨d, .call ⟨.builtin .cap, #[x], #[t]⟩, ty, pos, aft, g⟩ (.int .i64 c) := by
  unfold Rd
  intro ρ s w e _
  simp [execOp, resolve, invoke, builtin, e x _ hx, Builtin.cap_, run_underlying i.und, goInt]
theorem sat_drew {L : List HP} {w : World} (l : sat s w L) : sat s w.drew L :=
  sat_mono (w := w) (by unfold strOf; rfl) (fun _ _ hx => hx) l

/-- 'append(x, y...)', x a slice of the call's own -/
theorem tro_append {d : Nat} {t e' : TypeId} {z : Value} {sz bz m m2 c2 : Nat} {x y : Operand} {a : Option Addr} {v : Value} {xs ys : List Value} {F : List HP} [tt : Ty P t (.slice e')] [te : TyI P e' z sz bz] (hp : List.Perm L (sliceA v e' sz m xs :: F))
    (hx : ev env x = some v) (hy : ev env y = some (.slice a m2 c2)) (hz : z.cells.size = sz) (hl : ys.length = m2 * sz) (ha : match a with | none => m2 = 0 | some a => RdC L a ys) (h1 : ones ys = true) (hb : (m + m2) * bz ≤ 140737488355328) (hb2 : m + m2 ≤ 9223372036854775807)
    (hg : gd ops env g = some true) (hd : Nat.ble (d + 1) n = true)
    (h : ∀ v', TrO P n s ops (sliceA v' e' sz (m + m2) (xs ++ ys) :: F) ((d, v') :: env) rest k Q) : TrO P n s ops L env (⟨some d, .call ⟨.builtin .append, #[x, y], #[t, t]⟩, ty, pos, aft, g⟩ :: rest) k Q := by
  refine tro_wr (X := Value) (val := fun v' => v') (L' := fun v' => sliceA v' e' sz (m + m2) (xs ++ ys) :: F) hg hd ?_ h
  intro ρ s w e l
  obtain ⟨i, hi, hz0, hz1, hz2⟩ := te.inf
  suffices hs : ∃ v' w', (Builtin.append_ #[t, t] ty #[v, .slice a m2 c2]).run P w = .ok v' w' ∧ sat s w' (sliceA v' e' sz (m + m2) (xs ++ ys) :: F) by
    obtain ⟨v', w', hrun, hsat⟩ := hs
    refine ⟨v', w', ?_, hsat⟩
    simp only [execOp, resolve, e x _ hx, e y _ hy, invoke, builtin, Sem.run_bind, Sem.run_pure, Result.andThen_ok, List.map_toArray, List.map_cons, List.map_nil, hrun]
  have l2 := sat_perm hp l
  have hzz : ∀ N, (Builtin.zeroCells z.cells N).toList.length = N * sz := fun N => by simp [Builtin.zeroCells, hz]
  cases a with
  | none =>
    simp only at ha
    subst ha
    have hys : ys = [] := List.eq_nil_of_length_eq_zero (by simpa using hl)
    subst hys
    refine ⟨v, w, ?_, by simpa using l2⟩
    rcases sat_slice l2 with ⟨rfl, rfl, _, _⟩ | ⟨b, c, sp, rfl, _, _, hmc, _, lr⟩
    · simp [Builtin.append_, run_underlying tt.und, sizeOf, typeInfo, hi, Builtin.lenOf, Builtin.firstCells]
    · simp [Builtin.append_, run_underlying tt.und, sizeOf, typeInfo, hi, Builtin.lenOf, Builtin.firstCells, hmc, storeCells]
  | some a =>
    simp only at ha
    have hnews := ha s w l
    rcases sat_slice l2 with ⟨rfl, rfl, rfl, lf⟩ | ⟨b, c, sp, rfl, hxl, hsp, hmc, hcm, lr⟩
    · by_cases h0 : m2 = 0
      · subst h0
        have hys : ys = [] := List.eq_nil_of_length_eq_zero (by simpa using hl)
        subst hys
        refine ⟨.slice none 0 0, w, ?_, by simpa using sat_slice_nil lf⟩
        simp [Builtin.append_, run_underlying tt.und, sizeOf, typeInfo, hi, Builtin.lenOf, Builtin.firstCells, loadCells, loadCellsFrom]
      · have hrun := run_append_nil (P := P) w t ty e' i z tt.und hi hz0 a m2 c2 ys (by rw [hz1]; exact hl) hnews (by omega) (by omega) (by rw [hz2]; rw [Nat.zero_add] at hb; omega)
        refine ⟨_, _, hrun, ?_⟩
        have hge := grownCap_ge w m2 0 e'
        have hcm : grownCap w m2 0 e' ≤ maxLen := grownCap_le_maxLen w m2 0 e' (by unfold maxLen; omega)
        have hrow := sat_alloc (sat_drew lf) (.cells (ys.toArray ++ Builtin.zeroCells z.cells (grownCap w m2 0 e' - m2)) e' (0, 0))
        simp only [Nat.zero_add, List.nil_append]
        refine sat_slice_mk (sp := (Builtin.zeroCells z.cells (grownCap w m2 0 e' - m2)).toList) hl ?_ hge hcm ?_
        · rw [hzz, hl, ← Nat.add_mul]; congr 1; omega
        · have : (ys.toArray ++ Builtin.zeroCells z.cells (grownCap w m2 0 e' - m2)) = ⟨ys ++ (Builtin.zeroCells z.cells (grownCap w m2 0 e' - m2)).toList⟩ := by apply Array.ext'; simp
          rw [this] at hrow ⊢
          exact hrow
    · have hgrow : w.heap[b]? = some (.cells ⟨xs ++ sp⟩ e' (0, 0)) := sat_row (b := b) (T := e') (cs := xs ++ sp) lr
      by_cases hroom : m + m2 ≤ c
      · have hfit : m * i.size + ys.length ≤ (Array.mk (xs ++ sp)).size := by
          have : (m + m2) * sz ≤ c * sz := Nat.mul_le_mul_right _ hroom
          rw [Nat.add_mul] at this
          simp [hz1, hl]; omega
        have hrun := run_append_room (P := P) w t ty e' i tt.und hi b m c ⟨xs ++ sp⟩ hgrow a m2 c2 ys (by rw [hz1]; exact hl) hnews (fun v hv => List.all_eq_true.1 h1 v hv) hroom hfit
        refine ⟨_, _, hrun, ?_⟩
        have hcells : ((Array.mk (xs ++ sp)).toList.take (m * i.size) ++ ys ++ (Array.mk (xs ++ sp)).toList.drop (m * i.size + ys.length)).toArray = ⟨(xs ++ ys) ++ sp.drop ys.length⟩ := by
          apply Array.ext'
          simp only [hz1]
          rw [← hxl]
          rw [List.take_left' rfl, ← List.drop_drop, List.drop_left' rfl]
        rw [hcells]
        refine sat_slice_mk (sp := sp.drop ys.length) (by rw [List.length_append, hxl, hl, Nat.add_mul]) ?_ hroom hcm ?_
        · have : (m + m2) * sz ≤ c * sz := Nat.mul_le_mul_right _ hroom
          rw [Nat.add_mul] at this
          simp; omega
        · exact sat_setRow (b := b) (T := e') (cs := xs ++ sp) lr
      · have holds : ∀ (j : Nat) v, xs[j]? = some v → w.cell? ((⟨b, 0, none⟩ : Addr).add j) = some v := by
          intro j v hv
          rw [Addr.add_lit, Nat.zero_add, sat_cell (b := b) (T := e') (cs := xs ++ sp) lr, List.getElem?_append_left (List.getElem?_eq_some_iff.1 hv).1]
          exact hv
        have hrun := run_append_grow (P := P) w t ty e' i z tt.und hi hz0 ⟨b, 0, none⟩ m c xs (by rw [hz1]; exact hxl) holds a m2 c2 ys (by rw [hz1]; exact hl) hnews (by omega) (by omega) (growslice_fits (by omega) (by rw [hz2]; exact hb))
        refine ⟨_, _, hrun, ?_⟩
        have hge := grownCap_ge w (m + m2) c e'
        have hcm2 : grownCap w (m + m2) c e' ≤ maxLen := grownCap_le_maxLen w (m + m2) c e' (by unfold maxLen; omega)
        have hrow := sat_alloc (sat_drew (sat_drop lr)) (.cells (xs.toArray ++ ys.toArray ++ Builtin.zeroCells z.cells (grownCap w (m + m2) c e' - (m + m2))) e' (0, 0))
        refine sat_slice_mk (sp := (Builtin.zeroCells z.cells (grownCap w (m + m2) c e' - (m + m2))).toList) (by rw [List.length_append, hxl, hl, Nat.add_mul]) ?_ hge hcm2 ?_
        · rw [hzz, List.length_append, hl, hxl, ← Nat.add_mul, ← Nat.add_mul]; congr 1; omega
        · have : (xs.toArray ++ ys.toArray ++ Builtin.zeroCells z.cells (grownCap w (m + m2) c e' - (m + m2))) = ⟨(xs ++ ys) ++ (Builtin.zeroCells z.cells (grownCap w (m + m2) c e' - (m + m2))).toList⟩ := by apply Array.ext'; simp
          rw [this] at hrow ⊢
          exact hrow
end
end Go.Proofs.YtliijbndfcjpfaaGreatDoor
