/- Steps over maps keyed by whole numbers: make, look up, set, delete, clear, length, range. -/
import Derived.Test.YtliijbndfcjpfaaGreatDoorMem
namespace Go.Proofs.YtliijbndfcjpfaaGreatDoor
open Go.RowKit

/-- a map's entries read as the list m -/
def goodE (K : IntKind) (m : List (Int × Value)) (es : List MapEntry) (ck : Nat) : Prop :=
  es.map (fun e => (e.key, e.val)) = m.map (fun p => (Value.int K p.1, p.2)) ∧ (m.map (·.1)).Nodup ∧ (es.map (·.born)).Nodup ∧ ∀ e ∈ es, e.born < ck
abbrev mapE (b : Nat) (es : List MapEntry) (ck : Nat) : HP := pt b (.map ⟨es⟩ ck)
def mapA (b : Nat) (K : IntKind) (m : List (Int × Value)) : HP := fun h => ∃ es ck, goodE K m es ck ∧ mapE b es ck h

def lkm (m : List (Int × Value)) (x : Int) : Option Value := (m.find? (fun p => p.1 == x)).map (·.2)
def insm (m : List (Int × Value)) (x : Int) (v : Value) : List (Int × Value) := if m.any (fun p => p.1 == x) then m.map (fun p => if p.1 == x then (x, v) else p) else m ++ [(x, v)]
def delm (m : List (Int × Value)) (x : Int) : List (Int × Value) := m.filter (fun p => !(p.1 == x))

theorem lkm_ins {m : List (Int × Value)} {x y : Int} {v : Value} : lkm (insm m x v) y = if y = x then some v else lkm m y := by
  unfold insm
  split
  · rename_i h
    induction m with
    | nil => simp at h
    | cons p m ih =>
      simp only [lkm, List.map_cons, List.find?_cons]
      by_cases hp : (p.1 == x) = true
      · have hpx : p.1 = x := by simpa using hp
        simp only [hp, if_true]
        by_cases hy : y = x
        · subst hy; simp
        · have e1 : (x == y) = false := by simp; omega
          have e2 : (p.1 == y) = false := by simp; omega
          rw [if_neg hy]
          simp only [e1, e2]
          by_cases hm : (m.any fun p => p.1 == x) = true
          · have := ih hm; rw [if_neg hy] at this; exact this
          · have hno : m.map (fun p => if (p.1 == x) = true then (x, v) else p) = m := by
              apply List.map_congr_left (g := id) _ |>.trans (List.map_id m)
              intro q hq
              have : ¬ (q.1 == x) = true := fun h' => hm (List.any_eq_true.2 ⟨q, hq, h'⟩)
              simp [this]
            simp only [hno]
      · have hpf : (p.1 == x) = false := by simpa using hp
        have hm : (m.any fun p => p.1 == x) = true := by simpa [hpf] using h
        have := ih hm
        simp only [hpf, Bool.false_eq_true, if_false]
        by_cases hy : (p.1 == y) = true
        · have : p.1 = y := by simpa using hy
          have hne : ¬ y = x := by subst this; simpa using hpf
          simp [hy, hne]
        · have hyf : (p.1 == y) = false := by simpa using hy
          simp only [hyf]; exact this
  · rename_i h
    simp only [lkm, List.find?_append]
    by_cases hy : y = x
    · subst hy
      have : m.find? (fun p => p.1 == y) = none := by
        rw [List.find?_eq_none]
        intro p hp he
        exact h (List.any_eq_true.2 ⟨p, hp, he⟩)
      simp [this]
    · have e1 : (x == y) = false := by simp; omega
      rw [if_neg hy]
      cases m.find? (fun p => p.1 == y) <;> simp [e1]
theorem lkm_del {m : List (Int × Value)} {x y : Int} : lkm (delm m x) y = if y = x then none else lkm m y := by
  unfold lkm delm
  rw [List.find?_filter]
  by_cases hy : y = x
  · subst hy
    have : m.find? (fun a => decide ((!(a.1 == y)) = true ∧ (a.1 == y) = true)) = none := by
      rw [List.find?_eq_none]; intro p _; simp
    simp [this]
  · rw [if_neg hy]
    congr 1
    congr 1
    funext a
    by_cases ha : a.1 = y
    · have : ¬ a.1 = x := by omega
      simp [ha, hy]
    · simp [ha]
theorem lkm_nil {x : Int} : lkm [] x = none := rfl
theorem insm_mem {m : List (Int × Value)} {x : Int} {v : Value} {p : Int × Value} (h : p ∈ insm m x v) : p = (x, v) ∨ (p ∈ m ∧ p.1 ≠ x) := by
  unfold insm at h
  split at h
  · obtain ⟨q, hq, rfl⟩ := List.mem_map.1 h
    by_cases he : (q.1 == x) = true
    · simp [he]
    · right; simp only [he]; exact ⟨hq, by simpa using he⟩
  · rename_i hn
    rcases List.mem_append.1 h with h | h
    · right; exact ⟨h, fun e => hn (List.any_eq_true.2 ⟨p, h, by simp [e]⟩)⟩
    · left; simpa using h
theorem lkm_mem {m : List (Int × Value)} {x : Int} {v : Value} (h : lkm m x = some v) : (x, v) ∈ m := by
  unfold lkm at h
  obtain ⟨p, hp, rfl⟩ := Option.map_eq_some_iff.1 h
  have h1 := List.find?_some hp
  have h2 := List.mem_of_find?_eq_some hp
  have : p.1 = x := by simpa using h1
  subst this; exact h2

/-- where the entry of x stands -/
def fnd : List (Int × Value) → Int → Nat → Option (Nat × Value)
  | [], _, _ => none
  | (k, v) :: r, x, i => if x == k then some (i, v) else fnd r x (i + 1)
theorem findNow_eq {K K' : IntKind} {x : Int} : ∀ {es : List MapEntry} {m : List (Int × Value)} {i : Nat}, es.map (fun e => (e.key, e.val)) = m.map (fun p => (Value.int K p.1, p.2)) → Instr.findNow (.int K') (.int K x) es i = some (fnd m x i)
  | [], [], i, _ => rfl
  | [], _ :: _, i, h => by simp at h
  | _ :: _, [], i, h => by simp at h
  | e :: es, (k, v) :: m, i, h => by
    simp only [List.map_cons, List.cons.injEq, Prod.mk.injEq] at h
    obtain ⟨⟨h1, h2⟩, h3⟩ := h
    simp only [Instr.findNow, h1, Instr.sameNow, if_true, fnd]
    by_cases hx : (x == k) = true
    · simp [hx, h2]
    · simp [hx, findNow_eq h3]
theorem fnd_lkm : ∀ {m : List (Int × Value)} {x : Int} {i : Nat}, (fnd m x i).map (·.2) = lkm m x
  | [], x, i => rfl
  | (k, v) :: m, x, i => by
    simp only [fnd, lkm, List.find?_cons]
    by_cases hx : x = k
    · subst hx; simp
    · have h1 : (x == k) = false := by simpa using hx
      have h2 : (k == x) = false := by simpa using (fun e => hx e.symm : ¬ k = x)
      have ih := fnd_lkm (m := m) (x := x) (i := i + 1)
      rw [h1, h2]; exact ih
theorem fnd_some : ∀ {m : List (Int × Value)} {x : Int} {i j : Nat} {v : Value}, fnd m x i = some (j, v) → ∃ d, j = i + d ∧ m[d]? = some (x, v)
  | [], x, i, j, v, h => by cases h
  | (k, u) :: m, x, i, j, v, h => by
    simp only [fnd] at h
    by_cases hx : (x == k) = true
    · simp only [hx, if_true, Option.some.injEq, Prod.mk.injEq] at h
      obtain ⟨rfl, rfl⟩ := h
      exact ⟨0, rfl, by have : x = k := by simpa using hx
                        simp [this]⟩
    · simp only [hx] at h
      obtain ⟨d, rfl, h2⟩ := fnd_some (by simpa using h)
      exact ⟨d + 1, by omega, by simpa using h2⟩
theorem fnd_none {m : List (Int × Value)} {x : Int} {i : Nat} (h : fnd m x i = none) : (m.any fun p => p.1 == x) = false := by
  induction m generalizing i with
  | nil => rfl
  | cons p m ih =>
    obtain ⟨k, u⟩ := p
    simp only [fnd] at h
    by_cases hx : (x == k) = true
    · simp [hx] at h
    · simp only [hx] at h
      have : ¬ k = x := fun e => hx (by simp [e])
      simp [this, ih (by simpa using h)]

class GetMap (L : List HP) (b : Nat) (K : outParam IntKind) (m : outParam (List (Int × Value))) : Prop where
  get : ∀ h, sepL L h → ∃ es ck, goodE K m es ck ∧ h b = some (.map ⟨es⟩ ck)
instance (priority := high) GetMap.head {b : Nat} {K : IntKind} {m : List (Int × Value)} {L : List HP} : GetMap (mapA b K m :: L) b K m := ⟨by
  intro h hs
  unfold sepL star at hs
  obtain ⟨h1, h2, d, rfl, ⟨es, ck, hg, hm⟩, _⟩ := hs
  unfold mapE pt at hm
  subst hm
  exact ⟨es, ck, hg, by simp [PH.un, PH.one]⟩⟩
instance (priority := low) GetMap.tail {A : HP} {b : Nat} {K : IntKind} {m : List (Int × Value)} {L : List HP} [i : GetMap L b K m] : GetMap (A :: L) b K m := ⟨by
  intro h hs
  unfold sepL star at hs
  obtain ⟨h1, h2, d, rfl, _, a⟩ := hs
  obtain ⟨es, ck, hg, hb⟩ := i.get h2 a
  refine ⟨es, ck, hg, ?_⟩
  rcases d b with e | e
  · simp [PH.un, e, hb]
  · rw [e] at hb; cases hb⟩
/-- A stands in L; L' has A' there -/
class SetA (L : List HP) (A A' : HP) (L' : outParam (List HP)) : Prop where
  swap : ∃ M, List.Perm L (A :: M) ∧ List.Perm L' (A' :: M)
instance (priority := high) SetA.head {A A' : HP} {L : List HP} : SetA (A :: L) A A' (A' :: L) := ⟨⟨L, List.Perm.refl _, List.Perm.refl _⟩⟩
instance (priority := low) SetA.tail {A A' B : HP} {L L' : List HP} [i : SetA L A A' L'] : SetA (B :: L) A A' (B :: L') := ⟨by
  obtain ⟨M, h1, h2⟩ := i.swap
  exact ⟨B :: M, (List.Perm.cons B h1).trans (List.Perm.swap A B M), (List.Perm.cons B h2).trans (List.Perm.swap A' B M)⟩⟩

section
variable {P : Program} {n : Nat} {s : Str} {L : List HP} {env : Env} {k : List Fr} {Q : Exit → Act → World → Prop} {ops : Array Oper} {rest : List Oper}
variable {op : Op} {ty : TypeId} {pos : String} {aft : Array Edge} {g : Option (Nat × Bool)} {v : Value}

theorem sat_map {w : World} {b : Nat} {K : IntKind} {m : List (Int × Value)} [i : GetMap L b K m] (l : sat s w L) : ∃ es ck, goodE K m es ck ∧ w.heap[b]? = some (.map ⟨es⟩ ck) := by
  unfold sat at l
  obtain ⟨_, h, a, c⟩ := l
  obtain ⟨es, ck, hg, hb⟩ := i.get h a
  exact ⟨es, ck, hg, c b _ hb⟩
theorem sat_mapA {w : World} {b : Nat} {K : IntKind} {m : List (Int × Value)} {F : List HP} : sat s w (mapA b K m :: F) ↔ ∃ es ck, goodE K m es ck ∧ sat s w (mapE b es ck :: F) := by
  unfold sat sepL star mapA
  constructor
  · rintro ⟨e0, h, ⟨h1, h2, d, e, ⟨es, ck, hg, hm⟩, a⟩, c⟩
    exact ⟨es, ck, hg, e0, h, ⟨h1, h2, d, e, hm, a⟩, c⟩
  · rintro ⟨es, ck, hg, e0, h, ⟨h1, h2, d, e, hm, a⟩, c⟩
    exact ⟨e0, h, ⟨h1, h2, d, e, ⟨es, ck, hg, hm⟩, a⟩, c⟩
/-- the block of a map is written -/
theorem sat_mapSet {w : World} {b : Nat} {K : IntKind} {m m' : List (Int × Value)} {L' : List HP} {es' : List MapEntry} {ck' : Nat} [st : SetA L (mapA b K m) (mapA b K m') L'] (l : sat s w L) (hg : goodE K m' es' ck') :
    sat s { w with heap := w.heap.setIfInBounds b (.map ⟨es'⟩ ck') } L' := by
  obtain ⟨M, p1, p2⟩ := st.swap
  obtain ⟨es, ck, _, l2⟩ := sat_mapA.1 (sat_perm p1 l)
  refine sat_perm p2.symm (sat_mapA.2 ⟨es', ck', hg, ?_⟩)
  have hb : w.heap[b]? = some (.map ⟨es⟩ ck) := sat_get (b := b) l2
  have hlt : b < w.heap.size := (Array.getElem?_eq_some_iff.1 hb).1
  refine sat_set (i := SetPt.head (b := b) (o := .map ⟨es⟩ ck)) l2 (by unfold strOf; rfl) ?_ ?_
  · simp [hlt]
  · intro c hc
    simp [Array.getElem?_setIfInBounds, Ne.symm hc]

theorem run_checkKey {kt : TypeId} {K : IntKind} (i : Ty P kt (.int K)) (e : Bool) (J : IntKind) (x : Int) (w : World) : (Instr.checkKey e 10000 kt (.int J x)).run P w = .ok () w := by
  have key : ∀ D, (Instr.checkKey e (D + 1) kt (.int J x)).run P w = .ok () w := fun D => by
    simp [Instr.checkKey, run_underlying i.und]
  exact key 9999
theorem run_findKey {kt : TypeId} {K K' : IntKind} (i : Ty P kt (.int K')) {x : Int} {es : List MapEntry} {m : List (Int × Value)} {ck : Nat} (hg : goodE K m es ck) (w : World) : (Instr.findKey kt (.int K x) es).run P w = .ok (fnd m x 0) w := by
  simp [Instr.findKey, run_underlying i.und, findNow_eq (K' := K') hg.1]
theorem run_lookup {t kt et : TypeId} {K K' : IntKind} {z : Value} {sz bz : Nat} {b : Nat} {x : Int} {m : List (Int × Value)} [tt : Ty P t (.map kt et)] [tk : Ty P kt (.int K')] [ti : TyI P et z sz bz] [gm : GetMap L b K m] (ok : Bool) {w : World} (l : sat s w L) :
    (Instr.lookup t (.map (some b)) (.int K x) ok).run P w = .ok (if ok then .tuple #[(lkm m x).getD z, .bool (lkm m x).isSome] else (lkm m x).getD z) w := by
  obtain ⟨es, ck, hg, hb⟩ := sat_map (b := b) l
  have hget : (getObj b).run P w = .ok (.map ⟨es⟩ ck) w := by simp [getObj, Sem.run, hb]
  have hf := run_findKey tk (x := x) hg w
  simp only [Instr.lookup, Sem.run_bind, run_underlying tt.und, Result.andThen_ok, hget, Sem.run_pure, run_checkKey tk, hf]
  rw [← fnd_lkm (i := 0)]
  cases fnd m x 0 with
  | none => cases ok <;> simp [run_zeroValue (P := P) (t := et)]
  | some p => cases ok <;> simp
theorem rd_lookup2 {d : Option Tmp} {t kt et : TypeId} {K K' : IntKind} {z : Value} {sz bz : Nat} {b : Nat} {x : Int} {m : List (Int × Value)} {y1 y2 : Operand} [tt : Ty P t (.map kt et)] [tk : Ty P kt (.int K')] [ti : TyI P et z sz bz] (h1 : ev env y1 = some (.map (some b))) [gm : GetMap L b K m]
    (h2 : ev env y2 = some (.int K x)) : Rd P L env ⟨d, .lookup t y1 y2 true, ty, pos, aft, g⟩ (.tuple ⟨[(lkm m x).getD z, .bool (lkm m x).isSome]⟩) := by
  unfold Rd
  intro ρ s w e l
  simp only [execOp, e y1 _ h1, e y2 _ h2, Sem.run_bind, run_lookup (P := P) (t := t) (m := m) (x := x) true l, Result.andThen_ok, Sem.run_pure, if_true]
theorem rd_lookup1 {d : Option Tmp} {t kt et : TypeId} {K K' : IntKind} {z : Value} {sz bz : Nat} {b : Nat} {x : Int} {m : List (Int × Value)} {y1 y2 : Operand} [tt : Ty P t (.map kt et)] [tk : Ty P kt (.int K')] [ti : TyI P et z sz bz] (h1 : ev env y1 = some (.map (some b))) [gm : GetMap L b K m]
    (h2 : ev env y2 = some (.int K x)) : Rd P L env ⟨d, .lookup t y1 y2 false, ty, pos, aft, g⟩ ((lkm m x).getD z) := by
  unfold Rd
  intro ρ s w e l
  simp only [execOp, e y1 _ h1, e y2 _ h2, Sem.run_bind, run_lookup (P := P) (t := t) (m := m) (x := x) false l, Result.andThen_ok, Sem.run_pure, Bool.false_eq_true, if_false]
theorem rd_lenMap {d : Option Tmp} {t kt et : TypeId} {K : IntKind} {b : Nat} {m : List (Int × Value)} {y1 : Operand} [tt : Ty P t (.map kt et)] (h1 : ev env y1 = some (.map (some b))) [gm : GetMap L b K m] :
    Rd P L env ⟨d, .call ⟨.builtin .len, #[y1], #[t]⟩, ty, pos, aft, g⟩ (.int .i64 m.length) := by
  unfold Rd
  intro ρ s w e l
  obtain ⟨es, ck, hg, hb⟩ := sat_map (b := b) l
  have hget : (getObj b).run P w = .ok (.map ⟨es⟩ ck) w := by simp [getObj, Sem.run, hb]
  have hlen : es.length = m.length := by have := congrArg List.length hg.1; simpa using this
  simp [execOp, resolve, invoke, builtin, e y1 _ h1, Builtin.len_, run_underlying tt.und, hget, goInt, hlen]
theorem tro_makeMap {d : Nat} {t kt et : TypeId} {K : IntKind} [tt : Ty P t (.map kt et)] [tk : Ty P kt (.int K)] (hg : gd ops env g = some true) (hd : Nat.ble (d + 1) n = true)
    (h : ∀ b, TrO P n s ops (mapA b K [] :: L) ((d, .map (some b)) :: env) rest k Q) : TrO P n s ops L env (⟨some d, .makeMap t none, ty, pos, aft, g⟩ :: rest) k Q := by
  refine tro_wr (X := Nat) (val := fun b => .map (some b)) (L' := fun b => mapA b K [] :: L) hg hd ?_ h
  intro ρ s w e l
  refine ⟨w.heap.size, w.alloc (.map #[] 0), ?_, sat_mapA.2 ⟨[], 0, ⟨rfl, List.nodup_nil, List.nodup_nil, fun e he => by cases he⟩, sat_alloc l _⟩⟩
  simp [execOp, Instr.makeMap]
theorem goodE_set {K : IntKind} {m : List (Int × Value)} {es : List MapEntry} {ck : Nat} {x : Int} {v : Value} {j : Nat} {u : Value} (hg : goodE K m es ck) (hj : fnd m x 0 = some (j, u)) :
    goodE K (insm m x v) (es.modify j fun e => { e with key := .int K x, val := v }) ck := by
  obtain ⟨h1, h2, h3, h4⟩ := hg
  obtain ⟨dd, hd, hmj⟩ := fnd_some hj
  rw [Nat.zero_add] at hd; subst hd
  have hlen : es.length = m.length := by have := congrArg List.length h1; simpa using this
  have hjl : j < m.length := (List.getElem?_eq_some_iff.1 hmj).1
  have hany : (m.any fun p => p.1 == x) = true := List.any_eq_true.2 ⟨(x, u), List.mem_of_getElem? hmj, by simp⟩
  have huniq : ∀ (i : Nat) p, m[i]? = some p → p.1 = x → i = j := by
    intro i p hp hx
    have hi : i < m.length := (List.getElem?_eq_some_iff.1 hp).1
    have e1 : (m.map (·.1))[i]'(by simpa using hi) = x := by
      have := (List.getElem?_eq_some_iff.1 hp).2; simp [this, hx]
    have e2 : (m.map (·.1))[j]'(by simpa using hjl) = x := by
      have := (List.getElem?_eq_some_iff.1 hmj).2; simp [this]
    exact (List.getElem_inj h2).1 (e1.trans e2.symm)
  have hins : insm m x v = m.modify j (fun _ => (x, v)) := by
    unfold insm
    rw [if_pos hany]
    apply List.ext_getElem?
    intro i
    rw [List.getElem?_map, List.getElem?_modify]
    cases hp : m[i]? with
    | none => simp
    | some p =>
      by_cases he : p.1 = x
      · have := huniq i p hp he; subst this; simp [he]
      · have : ¬ j = i := fun e => by subst e; rw [hmj] at hp; cases hp; exact he rfl
        simp [he, this]
  refine ⟨?_, ?_, ?_, ?_⟩
  · rw [hins]
    apply List.ext_getElem?
    intro i
    have hi := congrArg (·[i]?) h1
    simp only [List.getElem?_map, List.getElem?_modify] at hi ⊢
    by_cases he : j = i
    · subst he
      simp only [if_true]
      rw [hmj] at hi ⊢
      cases hes : es[j]? with
      | none => rw [hes] at hi; simp at hi
      | some e => simp
    · simp only [he, if_false]
      cases hes : es[i]? <;> cases hmm : m[i]? <;> simp_all
  · have : (insm m x v).map (·.1) = m.map (·.1) := by
      rw [hins]
      apply List.ext_getElem?
      intro i
      simp only [List.getElem?_map, List.getElem?_modify]
      by_cases he : j = i
      · subst he; simp [hmj]
      · simp [he]
    rw [this]; exact h2
  · have : (es.modify j fun e => { e with key := .int K x, val := v }).map (·.born) = es.map (·.born) := by
      apply List.ext_getElem?
      intro i
      simp only [List.getElem?_map, List.getElem?_modify]
      by_cases he : j = i
      · subst he; cases es[j]? <;> simp
      · simp [he]
    rw [this]; exact h3
  · intro e he
    obtain ⟨i, hi⟩ := List.getElem?_of_mem he
    rw [List.getElem?_modify] at hi
    cases hes : es[i]? with
    | none => rw [hes] at hi; simp at hi
    | some e0 =>
      rw [hes] at hi
      have := h4 e0 (List.mem_of_getElem? hes)
      by_cases hji : j = i
      · simp [hji] at hi; subst hi; exact this
      · simp [hji] at hi; subst hi; exact this
theorem goodE_push {K : IntKind} {m : List (Int × Value)} {es : List MapEntry} {ck : Nat} {x : Int} {v : Value} (hg : goodE K m es ck) (hj : fnd m x 0 = none) :
    goodE K (insm m x v) (es ++ [{ key := .int K x, val := v, born := ck }]) (ck + 1) := by
  obtain ⟨h1, h2, h3, h4⟩ := hg
  have hany := fnd_none hj
  have hins : insm m x v = m ++ [(x, v)] := by unfold insm; rw [hany]; rfl
  rw [hins]
  refine ⟨by simp [h1], ?_, ?_, ?_⟩
  · rw [List.map_append, List.nodup_append]
    refine ⟨h2, by simp, ?_⟩
    intro a ha b hb
    simp at hb; subst hb
    intro e; subst e
    obtain ⟨p, hp, hpx⟩ := List.mem_map.1 ha
    have : (m.any fun p => p.1 == a) = true := List.any_eq_true.2 ⟨p, hp, by simp [hpx]⟩
    rw [hany] at this; cases this
  · rw [List.map_append, List.nodup_append]
    refine ⟨h3, by simp, ?_⟩
    intro a ha b hb
    simp at hb; subst hb
    intro e; subst e
    obtain ⟨p, hp, hpx⟩ := List.mem_map.1 ha
    have := h4 p hp; omega
  · intro e he
    rcases List.mem_append.1 he with he | he
    · have := h4 e he; omega
    · simp at he; subst he; show ck < ck + 1; omega
theorem tro_mapUpdate {t kt et : TypeId} {K K' : IntKind} {b : Nat} {x : Int} {m : List (Int × Value)} {y1 y2 y3 : Operand} {L' : List HP} [tt : Ty P t (.map kt et)] [tk : Ty P kt (.int K')] (h1 : ev env y1 = some (.map (some b))) [gm : GetMap L b K m]
    (h2 : ev env y2 = some (.int K x)) (h3 : ev env y3 = some v) [st : SetA L (mapA b K m) (mapA b K (insm m x v)) L'] (hg : gd ops env g = some true)
    (h : TrO P n s ops L' env rest k Q) : TrO P n s ops L env (⟨none, .mapUpdate t y1 y2 y3, ty, pos, aft, g⟩ :: rest) k Q := by
  refine tro_wr0 (L' := L') hg ?_ h
  intro ρ s w e l
  obtain ⟨es, ck, hge, hb⟩ := sat_map (b := b) l
  have hget : (getObj b).run P w = .ok (.map ⟨es⟩ ck) w := by simp [getObj, Sem.run, hb]
  have hset : ∀ o, (setObj b o).run P w = .ok () { w with heap := w.heap.setIfInBounds b o } := fun o => by simp [setObj, Sem.run, hb]
  have hf := run_findKey tk (x := x) hge w
  cases hfn : fnd m x 0 with
  | none =>
    refine ⟨_, ?_, sat_mapSet (b := b) (m := m) (m' := insm m x v) l (goodE_push hge hfn)⟩
    rw [hfn] at hf
    simp only [execOp, e y1 _ h1, e y2 _ h2, e y3 _ h3, Instr.mapUpdate, Sem.run_bind, run_underlying tt.und, Result.andThen_ok, hget, run_checkKey tk, hf, hset, Sem.run_pure]
    congr 3
    simp
  | some p =>
    obtain ⟨j, u⟩ := p
    refine ⟨_, ?_, sat_mapSet (b := b) (m := m) (m' := insm m x v) l (goodE_set hge hfn)⟩
    rw [hfn] at hf
    obtain ⟨dd, hd, hmj⟩ := fnd_some hfn
    rw [Nat.zero_add] at hd; subst hd
    have hej : ∃ e0, es[j]? = some e0 ∧ e0.key = .int K x := by
      have hi := congrArg (·[j]?) hge.1
      simp only [List.getElem?_map, hmj] at hi
      cases hes : es[j]? with
      | none => rw [hes] at hi; simp at hi
      | some e0 => rw [hes] at hi; simp at hi; exact ⟨e0, rfl, hi.1⟩
    obtain ⟨e0, he0, hk0⟩ := hej
    have hkey : (Instr.keyThatStays (.int K x) (.int K x)).run P w = .ok (.int K x) w := by
      have hsb : ∀ D, Instr.sameBits D (.int K x) (.int K x) = true := fun D => by cases D <;> simp [Instr.sameBits]
      simp [Instr.keyThatStays, hsb]
    have hkd : (((⟨es⟩ : Array MapEntry)[j]?).map (·.key)).getD (.int K x) = .int K x := by simp [he0, hk0]
    simp only [execOp, e y1 _ h1, e y2 _ h2, e y3 _ h3, Instr.mapUpdate, Sem.run_bind, run_underlying tt.und, Result.andThen_ok, hget, run_checkKey tk, hf, hkd, hkey, hset, Sem.run_pure]
    congr 3
    simp
theorem erase_map {α β : Type} (f : α → β) (l : List α) (j : Nat) : (l.map f).eraseIdx j = (l.eraseIdx j).map f := by
  simp [List.eraseIdx_eq_take_drop_succ, List.map_take, List.map_drop]
theorem goodE_del {K : IntKind} {m : List (Int × Value)} {es : List MapEntry} {ck : Nat} {x : Int} {j : Nat} {u : Value} (hg : goodE K m es ck) (hj : fnd m x 0 = some (j, u)) : goodE K (delm m x) (es.eraseIdx j) ck := by
  obtain ⟨h1, h2, h3, h4⟩ := hg
  obtain ⟨dd, hd, hmj⟩ := fnd_some hj
  rw [Nat.zero_add] at hd; subst hd
  have hdel : delm m x = m.eraseIdx j := by
    unfold delm
    have hjl : j < m.length := (List.getElem?_eq_some_iff.1 hmj).1
    have hm : m = m.take j ++ (x, u) :: m.drop (j + 1) := by
      have e1 := (List.getElem?_eq_some_iff.1 hmj).2
      rw [← e1]; simp
    have hno : ∀ p ∈ m.take j ++ m.drop (j + 1), p.1 ≠ x := by
      intro p hp e
      have hn := h2
      rw [hm, List.map_append, List.map_cons, List.nodup_append] at hn
      obtain ⟨_, hn2, hn3⟩ := hn
      rcases List.mem_append.1 hp with hp | hp
      · exact hn3 p.1 (List.mem_map.2 ⟨p, hp, rfl⟩) x (by simp) e
      · have := (List.nodup_cons.1 hn2).1
        exact this (List.mem_map.2 ⟨p, hp, e⟩)
    rw [List.eraseIdx_eq_take_drop_succ]
    conv => lhs; rw [hm]
    rw [List.filter_append, List.filter_cons]
    simp only [beq_self_eq_true, Bool.not_true, Bool.false_eq_true, if_false]
    rw [← List.filter_append, List.filter_eq_self]
    intro p hp
    simp [hno p hp]
  rw [hdel]
  refine ⟨?_, ?_, ?_, ?_⟩
  · rw [← erase_map, ← erase_map, h1]
  · rw [← erase_map]; exact h2.sublist (List.eraseIdx_sublist _ _)
  · rw [← erase_map]; exact h3.sublist (List.eraseIdx_sublist _ _)
  · intro e he; exact h4 e ((List.eraseIdx_sublist _ _).subset he)
theorem delm_none {m : List (Int × Value)} {x : Int} {i : Nat} (h : fnd m x i = none) : delm m x = m := by
  have := fnd_none h
  unfold delm
  rw [List.filter_eq_self]
  intro p hp
  have : ¬ (p.1 == x) = true := fun e => by rw [List.any_eq_true.2 ⟨p, hp, e⟩] at this; cases this
  simpa using this
theorem run_delete {t kt et : TypeId} {K K' : IntKind} {b : Nat} {x : Int} {m : List (Int × Value)} [tt : Ty P t (.map kt et)] [tk : Ty P kt (.int K')] [gm : GetMap L b K m] {L' : List HP} [st : SetA L (mapA b K m) (mapA b K (delm m x)) L'] {ts : List TypeId} {w : World} (l : sat s w L) :
    ∃ w', (Builtin.delete_ ⟨t :: ts⟩ ty #[.map (some b), .int K x]).run P w = .ok (.tuple #[]) w' ∧ sat s w' L' := by
  obtain ⟨es, ck, hge, hb⟩ := sat_map (b := b) l
  have hget : (getObj b).run P w = .ok (.map ⟨es⟩ ck) w := by simp [getObj, Sem.run, hb]
  have hset : ∀ o, (setObj b o).run P w = .ok () { w with heap := w.heap.setIfInBounds b o } := fun o => by simp [setObj, Sem.run, hb]
  have hf := run_findKey tk (x := x) hge w
  cases hfn : fnd m x 0 with
  | none =>
    rw [hfn] at hf
    have hd := delm_none hfn
    refine ⟨_, ?_, sat_mapSet (b := b) (m := m) (m' := delm m x) l (by rw [hd]; exact hge)⟩
    simp [Builtin.delete_, run_underlying tt.und, hget, run_checkKey tk, hf, hset]
  | some p =>
    obtain ⟨j, u⟩ := p
    rw [hfn] at hf
    have hjl : j < es.length := by
      obtain ⟨dd, hd, hmj⟩ := fnd_some hfn
      have hlen : es.length = m.length := by have := congrArg List.length hge.1; simpa using this
      have := (List.getElem?_eq_some_iff.1 hmj).1
      omega
    refine ⟨_, ?_, sat_mapSet (b := b) (m := m) (m' := delm m x) l (goodE_del hge hfn)⟩
    have he : (Array.mk es).eraseIdxIfInBounds j = ⟨es.eraseIdx j⟩ := by
      apply Array.ext'; simp [Array.eraseIdxIfInBounds, hjl]
    simp [Builtin.delete_, run_underlying tt.und, hget, run_checkKey tk, hf, hset, he]
theorem tro_delete {t kt et : TypeId} {K K' : IntKind} {b : Nat} {x : Int} {m : List (Int × Value)} {y1 y2 : Operand} {ts : List TypeId} {L' : List HP} [tt : Ty P t (.map kt et)] [tk : Ty P kt (.int K')] (h1 : ev env y1 = some (.map (some b))) [gm : GetMap L b K m]
    (h2 : ev env y2 = some (.int K x)) [st : SetA L (mapA b K m) (mapA b K (delm m x)) L'] (hg : gd ops env g = some true)
    (h : TrO P n s ops L' env rest k Q) : TrO P n s ops L env (⟨none, .call ⟨.builtin .delete, #[y1, y2], ⟨t :: ts⟩⟩, ty, pos, aft, g⟩ :: rest) k Q := by
  refine tro_wrN (X := Unit) (pr := fun _ => True) (val := fun _ => .tuple #[]) (L' := fun _ => L') hg ?_ (fun _ _ => h)
  intro ρ s w e l
  obtain ⟨w', hrun, hs⟩ := run_delete (P := P) (t := t) (b := b) (m := m) (x := x) (ts := ts) (ty := ty) (L' := L') l
  refine ⟨(), w', trivial, ?_, hs⟩
  simp only [execOp, resolve, invoke, builtin, e y1 _ h1, e y2 _ h2, Sem.run_bind, Sem.run_pure, Result.andThen_ok, List.map_toArray, List.map_cons, List.map_nil, hrun]
theorem tro_clearMap {t kt et : TypeId} {K : IntKind} {b : Nat} {m : List (Int × Value)} {y1 : Operand} {ts : List TypeId} {L' : List HP} [tt : Ty P t (.map kt et)] (h1 : ev env y1 = some (.map (some b))) [gm : GetMap L b K m]
    [st : SetA L (mapA b K m) (mapA b K []) L'] (hg : gd ops env g = some true)
    (h : TrO P n s ops L' env rest k Q) : TrO P n s ops L env (⟨none, .call ⟨.builtin .clear, #[y1], ⟨t :: ts⟩⟩, ty, pos, aft, g⟩ :: rest) k Q := by
  refine tro_wrN (X := Unit) (pr := fun _ => True) (val := fun _ => .tuple #[]) (L' := fun _ => L') hg ?_ (fun _ _ => h)
  intro ρ s w e l
  obtain ⟨es, ck, hge, hb⟩ := sat_map (b := b) l
  have hget : (getObj b).run P w = .ok (.map ⟨es⟩ ck) w := by simp [getObj, Sem.run, hb]
  have hset : ∀ o, (setObj b o).run P w = .ok () { w with heap := w.heap.setIfInBounds b o } := fun o => by simp [setObj, Sem.run, hb]
  refine ⟨(), _, trivial, ?_, sat_mapSet (b := b) (K := K) (m := m) (m' := []) (es' := []) (ck' := ck) l ⟨rfl, List.nodup_nil, List.nodup_nil, fun e he => by cases he⟩⟩
  have hrun : (Builtin.clear_ ⟨t :: ts⟩ ty #[.map (some b)]).run P w = .ok (.tuple #[]) { w with heap := w.heap.setIfInBounds b (.map #[] ck) } := by
    simp [Builtin.clear_, run_underlying tt.und, hget, hset]
  simp only [execOp, resolve, invoke, builtin, e y1 _ h1, Sem.run_bind, Sem.run_pure, Result.andThen_ok, List.map_toArray, List.map_cons, List.map_nil, hrun]

-- ================================================================ ranging over a map, in whatever order
abbrev iterA (it b ck : Nat) (seen : List Nat) : HP := pt it (.mapIter (some b) ck ⟨seen⟩ ck)
theorem tro_range {d : Nat} {t kt et : TypeId} {K : IntKind} {b : Nat} {m : List (Int × Value)} {y1 : Operand} {F : List HP} [tt : Ty P t (.map kt et)] (hp : List.Perm L (mapA b K m :: F)) (h1 : ev env y1 = some (.map (some b))) (hg : gd ops env g = some true) (hd : Nat.ble (d + 1) n = true)
    (h : ∀ it es ck, goodE K m es ck → TrO P n s ops (iterA it b ck [] :: mapE b es ck :: F) ((d, .pointer (some ⟨it, 0, none⟩)) :: env) rest k Q) : TrO P n s ops L env (⟨some d, .range t y1, ty, pos, aft, g⟩ :: rest) k Q := by
  refine tro_wrP (X := Nat × List MapEntry × Nat) (pr := fun x => goodE K m x.2.1 x.2.2) (val := fun x => .pointer (some ⟨x.1, 0, none⟩)) (L' := fun x => iterA x.1 b x.2.2 [] :: mapE b x.2.1 x.2.2 :: F) hg hd ?_ (fun x hx => h x.1 x.2.1 x.2.2 hx)
  intro ρ s w e l
  obtain ⟨es, ck, hge, l2⟩ := sat_mapA.1 (sat_perm hp l)
  have hb : w.heap[b]? = some (.map ⟨es⟩ ck) := sat_get (b := b) l2
  have hget : (getObj b).run P w = .ok (.map ⟨es⟩ ck) w := by simp [getObj, Sem.run, hb]
  refine ⟨(w.heap.size, es, ck), w.alloc (.mapIter (some b) ck #[] ck), hge, ?_, sat_alloc l2 _⟩
  simp [execOp, e y1 _ h1, Instr.range, run_underlying tt.und, hget]
/-- what is still to come -/
def leftE (es : List MapEntry) (seen : List Nat) : List MapEntry := es.filter fun e => !seen.contains e.born
theorem tro_next {d : Nat} {it b ck : Nat} {seen : List Nat} {es : List MapEntry} {y1 : Operand} {F : List HP} (hp : List.Perm L (iterA it b ck seen :: mapE b es ck :: F)) (hck : ∀ e ∈ es, e.born < ck) (h1 : ev env y1 = some (.pointer (some ⟨it, 0, none⟩)))
    (hg : gd ops env g = some true) (hd : Nat.ble (d + 1) n = true)
    (hover : leftE es seen = [] → TrO P n s ops (iterA it b ck seen :: mapE b es ck :: F) ((d, .tuple ⟨[.bool false]⟩) :: env) rest k Q)
    (hmore : ∀ e, e ∈ leftE es seen → TrO P n s ops (iterA it b ck (seen ++ [e.born]) :: mapE b es ck :: F) ((d, .tuple ⟨[.bool true, e.key, e.val]⟩) :: env) rest k Q) :
    TrO P n s ops L env (⟨some d, .next y1 false, ty, pos, aft, g⟩ :: rest) k Q := by
  refine tro_wrP (X := Option MapEntry) (pr := fun x => match x with | none => leftE es seen = [] | some e => e ∈ leftE es seen) (val := fun x => match x with | none => .tuple ⟨[.bool false]⟩ | some e => .tuple ⟨[.bool true, e.key, e.val]⟩)
    (L' := fun x => match x with | none => iterA it b ck seen :: mapE b es ck :: F | some e => iterA it b ck (seen ++ [e.born]) :: mapE b es ck :: F) hg hd ?_ (fun x hx => match x with | none => hover hx | some e => hmore e hx)
  intro ρ s w e l
  have l2 := sat_perm hp l
  have hi : w.heap[it]? = some (.mapIter (some b) ck ⟨seen⟩ ck) := sat_get (b := it) l2
  have hb : w.heap[b]? = some (.map ⟨es⟩ ck) := sat_get (b := b) l2
  have hget : (getObj b).run P w = .ok (.map ⟨es⟩ ck) w := by simp [getObj, Sem.run, hb]
  have hgeti : (getObj it).run P w = .ok (.mapIter (some b) ck ⟨seen⟩ ck) w := by simp [getObj, Sem.run, hi]
  have hguard : (!(Array.mk seen).isEmpty && !(Array.mk es).isEmpty && (Array.mk es).all (fun x => decide (x.born ≥ ck))) = false := by
    cases es with
    | nil => simp
    | cons e0 es =>
      have := hck e0 (by simp)
      have : ¬ ck ≤ e0.born := by omega
      simp [this]
  have hleft : (Array.mk es).filter (fun e => !(Array.mk seen).contains e.born) = ⟨leftE es seen⟩ := by apply Array.ext'; simp [leftE]
  have hold : (Array.mk (leftE es seen)).filter (fun x => decide (x.born < ck)) = ⟨leftE es seen⟩ := by
    apply Array.ext'
    simp only [Array.toList_filter]
    rw [List.filter_eq_self]
    intro x hx
    simp [hck x (List.mem_filter.1 hx).1]
  have hnew : (Array.mk (leftE es seen)).filter (fun x => decide (x.born ≥ ck)) = ⟨[]⟩ := by
    apply Array.ext'
    simp only [Array.toList_filter]
    rw [List.filter_eq_nil_iff]
    intro x hx
    have := hck x (List.mem_filter.1 hx).1
    simp; omega
  let cand : Array (Option MapEntry) := (if (Array.mk (leftE es seen)).isEmpty then #[none] else #[]) ++ ((Array.mk (leftE es seen)) ++ (Array.mk ([] : List MapEntry))).map some
  have hnext : (Instr.next (.pointer (some ⟨it, 0, none⟩)) false ty).run P w = ((choose (.mapNext cand.size)).run P w).andThen fun q w' => ((match cand[q]? with
      | some (some e) => do
        setObj it (.mapIter (some b) ck ((Array.mk seen).push e.born) ck)
        pure (.tuple #[.bool true, e.key, e.val])
      | some none => pure (.tuple #[.bool false])
      | none => stuck "Next: no such candidate") : Sem Value).run P w' := by
    simp only [Instr.next, Sem.run_bind, hgeti, hget, Result.andThen_ok, hguard, Bool.false_eq_true, if_false, hleft, hold, hnew, Sem.run_pure, cand]
    rfl
  have hset : ∀ o (w' : World), w'.heap = w.heap → (setObj it o).run P w' = .ok () { w' with heap := w'.heap.setIfInBounds it o } := fun o w' hw => by simp [setObj, Sem.run, hw, hi]
  cases hl : leftE es seen with
  | nil =>
    refine ⟨none, w, rfl, ?_, l2⟩
    have hc : cand = #[none] := by simp [cand, hl]
    rw [hc] at hnext
    have hch : (choose (.mapNext (#[(none : Option MapEntry)]).size)).run P w = .ok 0 w := by simp [choose, Sem.run, Question.forced]
    rw [hch, Result.andThen_ok] at hnext
    simp only [execOp, e y1 _ h1, Sem.run_bind, hnext]
    rfl
  | cons e0 r =>
    have hc : cand = ⟨(e0 :: r).map some⟩ := by apply Array.ext'; simp [cand, hl]
    have hsz : cand.size = r.length + 1 := by simp [hc]
    have hch : ∃ q w', (choose (.mapNext cand.size)).run P w = .ok q w' ∧ q < r.length + 1 ∧ w'.heap = w.heap ∧ sat s w' (iterA it b ck seen :: mapE b es ck :: F) := by
      rw [hsz]
      by_cases h0 : r.length + 1 ≤ 1
      · exact ⟨0, w, by simp [choose, Sem.run, Question.forced, h0], by omega, rfl, l2⟩
      · refine ⟨(Question.mapNext (r.length + 1)).cut (w.tape w.drawn (.mapNext (r.length + 1))), w.drew, by rw [run_choose]; simp [Question.forced, h0], ?_, rfl, sat_drew l2⟩
        simp only [Question.cut]; exact Nat.mod_lt _ (by omega)
    obtain ⟨q, w', hq, hlt, hw, l3⟩ := hch
    rw [hq, Result.andThen_ok] at hnext
    have hget2 : cand[q]? = some (some ((e0 :: r)[q]'(by simpa using hlt))) := by
      rw [hc, List.getElem?_toArray, List.getElem?_map, List.getElem?_eq_getElem (by simpa using hlt)]; rfl
    rw [hget2] at hnext
    simp only [Sem.run_bind, hset _ w' hw, Result.andThen_ok, Sem.run_pure] at hnext
    refine ⟨some ((e0 :: r)[q]'(by simpa using hlt)), { w' with heap := w'.heap.setIfInBounds it (.mapIter (some b) ck ((Array.mk seen).push ((e0 :: r)[q]'(by simpa using hlt)).born) ck) }, List.getElem_mem _, ?_, ?_⟩
    · simp only [execOp, e y1 _ h1, Sem.run_bind, hnext, Result.andThen_ok, Sem.run_pure]
    · have hps : (Array.mk seen).push ((e0 :: r)[q]'(by simpa using hlt)).born = ⟨seen ++ [((e0 :: r)[q]'(by simpa using hlt)).born]⟩ := by apply Array.ext'; simp
      rw [hps]
      refine sat_set (i := SetPt.head (b := it) (o := .mapIter (some b) ck ⟨seen⟩ ck)) l3 (by unfold strOf; rfl) ?_ ?_
      · have hlt2 : it < w'.heap.size := by rw [hw]; exact (Array.getElem?_eq_some_iff.1 hi).1
        simp [hlt2]
      · intro c hc
        simp [Array.getElem?_setIfInBounds, Ne.symm hc]
theorem rd_entry {d : Option Tmp} {it b ck : Nat} {seen : List Nat} {es : List MapEntry} {e0 : MapEntry} {y1 : Operand} (h1 : ev env y1 = some (.pointer (some ⟨it, 0, none⟩))) [gi : GetPt L it (.mapIter (some b) ck ⟨seen ++ [e0.born]⟩ ck)] [gm : GetPt L b (.map ⟨es⟩ ck)]
    (he : e0 ∈ es) (hn : (es.map (·.born)).Nodup) : Rd P L env ⟨d, .entry y1, ty, pos, aft, g⟩ (.tuple ⟨[e0.key, e0.val]⟩) := by
  unfold Rd
  intro ρ s w e l
  have hi : w.heap[it]? = some (.mapIter (some b) ck ⟨seen ++ [e0.born]⟩ ck) := sat_get (b := it) l
  have hb : w.heap[b]? = some (.map ⟨es⟩ ck) := sat_get (b := b) l
  have hget : (getObj b).run P w = .ok (.map ⟨es⟩ ck) w := by simp [getObj, Sem.run, hb]
  have hgeti : (getObj it).run P w = .ok (.mapIter (some b) ck ⟨seen ++ [e0.born]⟩ ck) w := by simp [getObj, Sem.run, hi]
  have hfind : es.find? (fun x => x.born == e0.born) = some e0 := by
    obtain ⟨i, hi⟩ := List.getElem?_of_mem he
    have hil : i < es.length := (List.getElem?_eq_some_iff.1 hi).1
    rw [List.find?_eq_some_iff_getElem]
    refine ⟨by simp, i, hil, (List.getElem?_eq_some_iff.1 hi).2, ?_⟩
    intro j hj
    have hne : ¬ es[j].born = e0.born := by
      intro heq
      have e1 : (es.map (·.born))[j]'(by simp; omega) = (es.map (·.born))[i]'(by simpa using hil) := by
        have := (List.getElem?_eq_some_iff.1 hi).2
        simp [this, heq]
      have := (List.getElem_inj hn).1 e1
      omega
    simpa using hne
  simp [execOp, e y1 _ h1, Instr.entry, hgeti, hget, hfind]
end
end Go.Proofs.YtliijbndfcjpfaaGreatDoor
