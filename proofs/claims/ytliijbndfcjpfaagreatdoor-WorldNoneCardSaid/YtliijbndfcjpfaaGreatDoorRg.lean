/- Ranging over a map keyed by whole numbers, with entries deleted or kept on the way. -/
import Derived.Test.YtliijbndfcjpfaaGreatDoorSp
namespace Go.Proofs.YtliijbndfcjpfaaGreatDoor
open Go.RowKit

/-- an iterator over a map that holds m: the keys that are still to come, and the entry that it is at -/
def rangeA (it b : Nat) (K : IntKind) (m : List (Int × Value)) (left : List Int) (cur : Option (Int × Value)) : HP := hex fun es => hex fun ck => hex fun seen =>
  hp (goodE K m es ck ∧ (∀ k, k ∈ left ↔ ∃ e ∈ es, e.born ∉ seen ∧ e.key = .int K k) ∧ ∀ k v, cur = some (k, v) → ∃ s0, ∃ e ∈ es, seen = s0 ++ [e.born] ∧ e.key = .int K k ∧ e.val = v)
    (sepL [iterA it b ck seen, mapE b es ck])

theorem goodE_mem {K : IntKind} {m : List (Int × Value)} {es : List MapEntry} {ck : Nat} (h : goodE K m es ck) {e : MapEntry} (he : e ∈ es) : ∃ k v, e.key = .int K k ∧ e.val = v ∧ (k, v) ∈ m := by
  have : (e.key, e.val) ∈ m.map (fun p => (Value.int K p.1, p.2)) := by rw [← h.1]; exact List.mem_map.2 ⟨e, he, rfl⟩
  obtain ⟨p, hp, hq⟩ := List.mem_map.1 this
  simp only [Prod.mk.injEq] at hq
  exact ⟨p.1, p.2, hq.1.symm, hq.2.symm, hp⟩
theorem goodE_mem' {K : IntKind} {m : List (Int × Value)} {es : List MapEntry} {ck : Nat} (h : goodE K m es ck) {k : Int} {v : Value} (he : (k, v) ∈ m) : ∃ e ∈ es, e.key = .int K k ∧ e.val = v := by
  have : (Value.int K k, v) ∈ es.map (fun e => (e.key, e.val)) := by rw [h.1]; exact List.mem_map.2 ⟨(k, v), he, rfl⟩
  obtain ⟨e, h1, h2⟩ := List.mem_map.1 this
  simp only [Prod.mk.injEq] at h2
  exact ⟨e, h1, h2.1, h2.2⟩
theorem lkm_of_mem {m : List (Int × Value)} (h : (m.map (·.1)).Nodup) {k : Int} {v : Value} (hm : (k, v) ∈ m) : lkm m k = some v := by
  induction m with
  | nil => cases hm
  | cons p m ih =>
    simp only [List.map_cons, List.nodup_cons] at h
    unfold lkm
    rw [List.find?_cons]
    rcases List.mem_cons.1 hm with rfl | hm
    · simp
    · have : ¬ p.1 = k := fun e => h.1 (e ▸ List.mem_map.2 ⟨(k, v), hm, rfl⟩)
      have hb : (p.1 == k) = false := by simpa using this
      rw [hb]
      exact ih h.2 hm
theorem goodE_key {K : IntKind} {m : List (Int × Value)} {es : List MapEntry} {ck : Nat} (h : goodE K m es ck) : (es.map (·.key)).Nodup := by
  have e1 : es.map (·.key) = (m.map (·.1)).map (Value.int K) := by
    have := congrArg (List.map Prod.fst) h.1
    simpa [List.map_map, Function.comp_def] using this
  rw [e1]
  have := h.2.1
  generalize m.map (·.1) = l at this
  induction l with
  | nil => exact List.nodup_nil
  | cons x l ih =>
    rw [List.nodup_cons] at this
    rw [List.map_cons, List.nodup_cons]
    refine ⟨?_, ih this.2⟩
    intro hc
    obtain ⟨y, hy, he⟩ := List.mem_map.1 hc
    simp at he
    exact this.1 (he ▸ hy)
theorem nodup_key_inj {es : List MapEntry} (h : (es.map (·.key)).Nodup) {i j : Nat} (hi : i < es.length) (hj : j < es.length) (he : es[i].key = es[j].key) : i = j := by
  have e1 : (es.map (·.key))[i]'(by simpa using hi) = (es.map (·.key))[j]'(by simpa using hj) := by simpa using he
  exact (List.getElem_inj h).1 e1
theorem mem_erase {es : List MapEntry} (h : (es.map (·.key)).Nodup) {j : Nat} (hj : j < es.length) {e : MapEntry} : e ∈ es.eraseIdx j ↔ e ∈ es ∧ e.key ≠ es[j].key := by
  rw [List.mem_eraseIdx_iff_getElem]
  constructor
  · rintro ⟨i, hi, hne, rfl⟩
    exact ⟨List.getElem_mem _, fun hc => hne (nodup_key_inj h hi hj hc)⟩
  · rintro ⟨he, hk⟩
    obtain ⟨i, hi, rfl⟩ := List.getElem_of_mem he
    exact ⟨i, hi, fun e => by subst e; exact hk rfl, rfl⟩
theorem nodup_born_inj {es : List MapEntry} (h : (es.map (·.born)).Nodup) {e e' : MapEntry} (h1 : e ∈ es) (h2 : e' ∈ es) (he : e.born = e'.born) : e = e' := by
  obtain ⟨i, hi, rfl⟩ := List.getElem_of_mem h1
  obtain ⟨j, hj, rfl⟩ := List.getElem_of_mem h2
  have e1 : (es.map (·.born))[i]'(by simpa using hi) = (es.map (·.born))[j]'(by simpa using hj) := by simpa using he
  have := (List.getElem_inj h).1 e1
  subst this; rfl

/-- the ranging by the iterator 'it' -/
class TakeR (L : List HP) (it : Nat) (b : outParam Nat) (K : outParam IntKind) (m : outParam (List (Int × Value))) (left : outParam (List Int)) (cur : outParam (Option (Int × Value))) (F : outParam (List HP)) : Prop where
  perm : List.Perm L (rangeA it b K m left cur :: F)
instance (priority := high) TakeR.head {it b : Nat} {K : IntKind} {m : List (Int × Value)} {left : List Int} {cur : Option (Int × Value)} {L : List HP} : TakeR (rangeA it b K m left cur :: L) it b K m left cur L := ⟨List.Perm.refl _⟩
instance (priority := low) TakeR.tail {A : HP} {it b : Nat} {K : IntKind} {m : List (Int × Value)} {left : List Int} {cur : Option (Int × Value)} {L F : List HP} [i : TakeR L it b K m left cur F] : TakeR (A :: L) it b K m left cur (A :: F) :=
  ⟨(List.Perm.cons A i.perm).trans (List.Perm.swap _ A F)⟩
/-- the ranging over the map 'b' -/
class TakeB (L : List HP) (b : Nat) (it : outParam Nat) (K : outParam IntKind) (m : outParam (List (Int × Value))) (left : outParam (List Int)) (cur : outParam (Option (Int × Value))) (F : outParam (List HP)) : Prop where
  perm : List.Perm L (rangeA it b K m left cur :: F)
instance (priority := high) TakeB.head {it b : Nat} {K : IntKind} {m : List (Int × Value)} {left : List Int} {cur : Option (Int × Value)} {L : List HP} : TakeB (rangeA it b K m left cur :: L) b it K m left cur L := ⟨List.Perm.refl _⟩
instance (priority := low) TakeB.tail {A : HP} {it b : Nat} {K : IntKind} {m : List (Int × Value)} {left : List Int} {cur : Option (Int × Value)} {L F : List HP} [i : TakeB L b it K m left cur F] : TakeB (A :: L) b it K m left cur (A :: F) :=
  ⟨(List.Perm.cons A i.perm).trans (List.Perm.swap _ A F)⟩

section
variable {P : Program} {n : Nat} {s : Str} {L : List HP} {env : Env} {k : List Fr} {Q : Exit → Act → World → Prop} {ops : Array Oper} {rest : List Oper}
variable {op : Op} {ty : TypeId} {pos : String} {aft : Array Edge} {g : Option (Nat × Bool)} {v : Value}

theorem sub_range {it b : Nat} {K : IntKind} {m : List (Int × Value)} {left : List Int} {cur : Option (Int × Value)} {es : List MapEntry} {ck : Nat} {seen : List Nat} {F : List HP}
    (h : goodE K m es ck ∧ (∀ k, k ∈ left ↔ ∃ e ∈ es, e.born ∉ seen ∧ e.key = .int K k) ∧ ∀ k v, cur = some (k, v) → ∃ s0, ∃ e ∈ es, seen = s0 ++ [e.born] ∧ e.key = .int K k ∧ e.val = v) :
    Sub (iterA it b ck seen :: mapE b es ck :: F) (rangeA it b K m left cur :: F) := by
  unfold rangeA
  exact sub_hex es (sub_hex ck (sub_hex seen (sub_hp h (sub_fold (M := [iterA it b ck seen, mapE b es ck])))))
theorem sub_mapE {b : Nat} {K : IntKind} {m : List (Int × Value)} {es : List MapEntry} {ck : Nat} {F : List HP} (h : goodE K m es ck) : Sub (mapE b es ck :: F) (mapA b K m :: F) := ⟨fun hh a => ⟨hh, PH.none, fun _ => .inr rfl, (PH.un_none hh).symm, by
  unfold sepL star at a ⊢
  obtain ⟨h1, h2, d, e, a1, a2⟩ := a
  exact ⟨h1, h2, d, e, ⟨es, ck, h, a1⟩, a2⟩⟩⟩
theorem tro_rangeR {d : Nat} {t kt et : TypeId} {K : IntKind} {b : Nat} {m : List (Int × Value)} {y1 : Operand} {F : List HP} [tt : Ty P t (.map kt et)] (h1 : ev env y1 = some (.map (some b))) [tk : GetMap L b K m] [tp : Take L (mapA b K m) F] (hg : gd ops env g = some true) (hd : Nat.ble (d + 1) n = true)
    (h : ∀ it, TrO P n s ops (rangeA it b K m (m.map (·.1)) none :: F) ((d, .pointer (some ⟨it, 0, none⟩)) :: env) rest k Q) : TrO P n s ops L env (⟨some d, .range t y1, ty, pos, aft, g⟩ :: rest) k Q := by
  refine tro_range tp.perm h1 hg hd fun it es ck hge => ?_
  refine tro_ent (sub_range ⟨hge, ?_, fun k v hc => by cases hc⟩) (h it)
  intro k
  constructor
  · intro hk
    obtain ⟨p, hp, rfl⟩ := List.mem_map.1 hk
    obtain ⟨e, he, h2, _⟩ := goodE_mem' hge (k := p.1) (v := p.2) hp
    exact ⟨e, he, by simp, h2⟩
  · rintro ⟨e, he, _, h2⟩
    obtain ⟨k', v', h3, _, h4⟩ := goodE_mem hge he
    rw [h3] at h2
    simp at h2
    exact List.mem_map.2 ⟨(k', v'), h4, h2⟩
theorem tro_openR {it b : Nat} {K : IntKind} {m : List (Int × Value)} {left : List Int} {cur : Option (Int × Value)} {F : List HP} (hp : List.Perm L (rangeA it b K m left cur :: F))
    (h : ∀ es ck seen, goodE K m es ck → (∀ k, k ∈ left ↔ ∃ e ∈ es, e.born ∉ seen ∧ e.key = .int K k) → (∀ k v, cur = some (k, v) → ∃ s0, ∃ e ∈ es, seen = s0 ++ [e.born] ∧ e.key = .int K k ∧ e.val = v) →
      TrO P n s ops (iterA it b ck seen :: mapE b es ck :: F) env rest k Q) : TrO P n s ops L env rest k Q := by
  unfold rangeA at hp
  refine tro_hex hp fun es => tro_hex (List.Perm.refl _) fun ck => tro_hex (List.Perm.refl _) fun seen => tro_hp (List.Perm.refl _) fun hh => ?_
  exact tro_ent sub_sepL (h es ck seen hh.1 hh.2.1 hh.2.2)
theorem tro_nextR {d : Nat} {it b : Nat} {K : IntKind} {m : List (Int × Value)} {left : List Int} {cur : Option (Int × Value)} {y1 : Operand} {F : List HP} (h1 : ev env y1 = some (.pointer (some ⟨it, 0, none⟩))) [tp : TakeR L it b K m left cur F]
    (hg : gd ops env g = some true) (hd : Nat.ble (d + 1) n = true)
    (hover : left = [] → TrO P n s ops (mapA b K m :: F) ((d, .tuple ⟨[.bool false]⟩) :: env) rest k Q)
    (hmore : ∀ x v, x ∈ left → lkm m x = some v → TrO P n s ops (rangeA it b K m (left.filter (fun y => !(y == x))) (some (x, v)) :: F) ((d, .tuple ⟨[.bool true, .int K x, v]⟩) :: env) rest k Q) :
    TrO P n s ops L env (⟨some d, .next y1 false, ty, pos, aft, g⟩ :: rest) k Q := by
  refine tro_openR tp.perm fun es ck seen hge hl hc => ?_
  refine tro_next (List.Perm.refl _) hge.2.2.2 h1 hg hd ?_ ?_
  · intro hnil
    refine tro_ent (Sub.trans Sub.drop1 (sub_mapE hge)) (hover ?_)
    rw [List.eq_nil_iff_forall_not_mem]
    intro x hx
    obtain ⟨e, he, h2, _⟩ := (hl x).1 hx
    have : e ∈ leftE es seen := List.mem_filter.2 ⟨he, by simpa using h2⟩
    rw [hnil] at this; cases this
  · intro e he
    obtain ⟨he1, he2⟩ := List.mem_filter.1 he
    have he2 : e.born ∉ seen := by simpa using he2
    obtain ⟨x, v, h3, h4, h5⟩ := goodE_mem hge he1
    rw [h3, h4]
    refine tro_ent (sub_range ⟨hge, ?_, ?_⟩) (hmore x v ((hl x).2 ⟨e, he1, he2, h3⟩) (lkm_of_mem hge.2.1 h5))
    · intro y
      rw [List.mem_filter, hl y]
      constructor
      · rintro ⟨⟨e', g1, g2, g3⟩, g4⟩
        refine ⟨e', g1, ?_, g3⟩
        intro hm
        rcases List.mem_append.1 hm with hm | hm
        · exact g2 hm
        · simp at hm
          have := nodup_born_inj hge.2.2.1 g1 he1 hm
          subst this
          rw [h3] at g3
          simp at g3
          simp [g3] at g4
      · rintro ⟨e', g1, g2, g3⟩
        refine ⟨⟨e', g1, fun hm => g2 (List.mem_append_left _ hm), g3⟩, ?_⟩
        simp only [Bool.not_eq_true', beq_eq_false_iff_ne]
        intro hxy
        subst hxy
        obtain ⟨i, hi, rfl⟩ := List.getElem_of_mem g1
        obtain ⟨j, hj, rfl⟩ := List.getElem_of_mem he1
        have := nodup_key_inj (goodE_key hge) hi hj (by rw [g3, h3])
        subst this
        exact g2 (by simp)
    · intro k' v' hk
      simp only [Option.some.injEq, Prod.mk.injEq] at hk
      obtain ⟨rfl, rfl⟩ := hk
      exact ⟨seen, e, he1, rfl, h3, h4⟩
theorem rd_entryR {d : Option Tmp} {it b : Nat} {K : IntKind} {m : List (Int × Value)} {left : List Int} {x : Int} {y1 : Operand} {F : List HP} (h1 : ev env y1 = some (.pointer (some ⟨it, 0, none⟩))) [tp : TakeR L it b K m left (some (x, v)) F] :
    Rd P L env ⟨d, .entry y1, ty, pos, aft, g⟩ (.tuple ⟨[.int K x, v]⟩) := by
  have key : ∀ es ck seen, goodE K m es ck → (∀ k v', some (x, v) = some (k, v') → ∃ s0, ∃ e ∈ es, seen = s0 ++ [e.born] ∧ e.key = .int K k ∧ e.val = v') → Rd P (iterA it b ck seen :: mapE b es ck :: F) env ⟨d, .entry y1, ty, pos, aft, g⟩ (.tuple ⟨[.int K x, v]⟩) := by
    intro es ck seen hge hc
    obtain ⟨s0, e, he, rfl, h2, h3⟩ := hc x v rfl
    have := rd_entry (P := P) (L := iterA it b ck (s0 ++ [e.born]) :: mapE b es ck :: F) (env := env) (d := d) (ty := ty) (pos := pos) (aft := aft) (g := g) (b := b) (seen := s0) (es := es) (e0 := e) h1 he hge.2.2.1
    rw [h2, h3] at this
    exact this
  unfold Rd at key ⊢
  intro ρ s w e l
  have l2 := sat_perm tp.perm l
  unfold rangeA at l2
  obtain ⟨es, l2⟩ := sat_ex.1 l2
  obtain ⟨ck, l2⟩ := sat_ex.1 l2
  obtain ⟨seen, l2⟩ := sat_ex.1 l2
  obtain ⟨hh, l2⟩ := sat_hp.1 l2
  exact key es ck seen hh.1 hh.2.2 ρ s w e (sat_sepL.1 l2)
theorem run_deleteE {t kt et : TypeId} {K K' : IntKind} {b : Nat} {x : Int} {m : List (Int × Value)} {es : List MapEntry} {ck : Nat} {F : List HP} [tt : Ty P t (.map kt et)] [tk : Ty P kt (.int K')] (hge : goodE K m es ck) {ts : List TypeId} {w : World} (l : sat s w (mapE b es ck :: F)) :
    ∃ w' es', (Builtin.delete_ ⟨t :: ts⟩ ty #[.map (some b), .int K x]).run P w = .ok (.tuple #[]) w' ∧ goodE K (delm m x) es' ck ∧ (∀ e, e ∈ es' ↔ e ∈ es ∧ e.key ≠ .int K x) ∧ sat s w' (mapE b es' ck :: F) := by
  have hb : w.heap[b]? = some (.map ⟨es⟩ ck) := sat_get (b := b) l
  have hlt : b < w.heap.size := (Array.getElem?_eq_some_iff.1 hb).1
  have hget : (getObj b).run P w = .ok (.map ⟨es⟩ ck) w := by simp [getObj, Sem.run, hb]
  have hset : ∀ o, (setObj b o).run P w = .ok () { w with heap := w.heap.setIfInBounds b o } := fun o => by simp [setObj, Sem.run, hb]
  have hf := run_findKey tk (x := x) hge w
  have hsat : ∀ es', sat s { w with heap := w.heap.setIfInBounds b (.map ⟨es'⟩ ck) } (mapE b es' ck :: F) := by
    intro es'
    refine sat_set (i := SetPt.head (b := b) (o := .map ⟨es⟩ ck)) l (by unfold strOf; rfl) ?_ ?_
    · simp [hlt]
    · intro c hc
      simp [Array.getElem?_setIfInBounds, Ne.symm hc]
  cases hfn : fnd m x 0 with
  | none =>
    rw [hfn] at hf
    refine ⟨_, es, ?_, by rw [delm_none hfn]; exact hge, ?_, hsat es⟩
    · simp [Builtin.delete_, run_underlying tt.und, hget, run_checkKey tk, hf, hset]
    · intro e
      constructor
      · intro he
        refine ⟨he, fun hk => ?_⟩
        obtain ⟨k', v', h3, _, h5⟩ := goodE_mem hge he
        rw [h3] at hk
        simp at hk
        subst hk
        have := fnd_none hfn
        rw [List.any_eq_false] at this
        exact this _ h5 (by simp)
      · exact fun he => he.1
  | some p =>
    obtain ⟨j, u⟩ := p
    rw [hfn] at hf
    obtain ⟨dd, hd, hmj⟩ := fnd_some hfn
    rw [Nat.zero_add] at hd
    subst hd
    have hlen : es.length = m.length := by have := congrArg List.length hge.1; simpa using this
    have hjl : j < es.length := by
      have := (List.getElem?_eq_some_iff.1 hmj).1
      omega
    refine ⟨_, es.eraseIdx j, ?_, goodE_del hge hfn, ?_, hsat (es.eraseIdx j)⟩
    · have he : (Array.mk es).eraseIdxIfInBounds j = ⟨es.eraseIdx j⟩ := by
        apply Array.ext'; simp [Array.eraseIdxIfInBounds, hjl]
      simp [Builtin.delete_, run_underlying tt.und, hget, run_checkKey tk, hf, hset, he]
    · intro e
      rw [mem_erase (goodE_key hge) hjl]
      have hk : es[j].key = .int K x := by
        have h1 : (es.map (fun e => (e.key, e.val)))[j]? = (m.map (fun p => (Value.int K p.1, p.2)))[j]? := by rw [hge.1]
        rw [List.getElem?_map, List.getElem?_map, hmj, List.getElem?_eq_getElem hjl] at h1
        simp at h1
        exact h1.1
      rw [hk]
theorem tro_deleteR {t kt et : TypeId} {it : Nat} {K K' : IntKind} {b : Nat} {x : Int} {m : List (Int × Value)} {left : List Int} {cur : Option (Int × Value)} {y1 y2 : Operand} {ts : List TypeId} {F : List HP} [tt : Ty P t (.map kt et)] [tk : Ty P kt (.int K')] (h1 : ev env y1 = some (.map (some b)))
    (h2 : ev env y2 = some (.int K x)) [tp : TakeB L b it K m left cur F] (hg : gd ops env g = some true)
    (h : TrO P n s ops (rangeA it b K (delm m x) (left.filter (fun y => !(y == x))) none :: F) env rest k Q) : TrO P n s ops L env (⟨none, .call ⟨.builtin .delete, #[y1, y2], ⟨t :: ts⟩⟩, ty, pos, aft, g⟩ :: rest) k Q := by
  refine tro_openR tp.perm fun es ck seen hge hl _ => ?_
  refine tro_wrN (X := List MapEntry) (pr := fun es' => goodE K (delm m x) es' ck ∧ ∀ e, e ∈ es' ↔ e ∈ es ∧ e.key ≠ .int K x) (val := fun _ => .tuple #[]) (L' := fun es' => mapE b es' ck :: iterA it b ck seen :: F) hg ?_ ?_
  · intro ρ s w e l
    obtain ⟨w', es', hrun, h3, h4, h5⟩ := run_deleteE (P := P) (t := t) (x := x) (ts := ts) (ty := ty) hge (sat_perm (List.Perm.swap (mapE b es ck) (iterA it b ck seen) F) l)
    refine ⟨es', w', ⟨h3, h4⟩, ?_, h5⟩
    simp only [execOp, resolve, invoke, builtin, e y1 _ h1, e y2 _ h2, Sem.run_bind, Sem.run_pure, Result.andThen_ok, List.map_toArray, List.map_cons, List.map_nil, hrun]
  · rintro es' ⟨g1, g2⟩
    refine tro_ent (Sub.trans (Sub.perm (List.Perm.swap (iterA it b ck seen) (mapE b es' ck) F)) (sub_range ⟨g1, ?_, fun k v hc => by cases hc⟩)) h
    intro y
    rw [List.mem_filter, hl y]
    constructor
    · rintro ⟨⟨e, q1, q2, q3⟩, q4⟩
      refine ⟨e, (g2 e).2 ⟨q1, ?_⟩, q2, q3⟩
      rw [q3]
      simp at q4
      simpa using q4
    · rintro ⟨e, q1, q2, q3⟩
      obtain ⟨q4, q5⟩ := (g2 e).1 q1
      refine ⟨⟨e, q4, q2, q3⟩, ?_⟩
      rw [q3] at q5
      simp at q5
      simpa using q5
end
end Go.Proofs.YtliijbndfcjpfaaGreatDoor
