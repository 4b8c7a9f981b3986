/- Assertions over the heap and goals over code with a symbolic heap: the words of the proofs of this seat. -/
import Derived.WalkKit
import Derived.Orders
import Derived.Deep.LoopGhost
import Derived.Laws.AppendOwn
import Derived.Laws.OwnMore
import Derived.Laws.MakeOwn
import Derived.Laws.IdiomCopy
import Derived.Laws.StructEq
namespace Go.Proofs.YtliijbndfcjpfaaGreatDoor
open Go.RowKit

-- ================================================================ partial heaps
abbrev PH := Nat → Option Obj
abbrev HP := PH → Prop

def PH.none : PH := fun _ => Option.none
def PH.one (b : Nat) (o : Obj) : PH := fun c => if c = b then some o else Option.none
def PH.Dj (h k : PH) : Prop := ∀ b, h b = Option.none ∨ k b = Option.none
def PH.un (h k : PH) : PH := fun b => (h b).or (k b)

def pt (b : Nat) (o : Obj) : HP := fun h => h = PH.one b o
abbrev row (b : Nat) (T : TypeId) (cs : List Value) : HP := pt b (.cells ⟨cs⟩ T (0, 0))
def hemp : HP := fun h => h = PH.none
def star (A B : HP) : HP := fun h => ∃ h1 h2, PH.Dj h1 h2 ∧ h = PH.un h1 h2 ∧ A h1 ∧ B h2
def hex {α : Sort _} (A : α → HP) : HP := fun h => ∃ x, A x h
def hp (p : Prop) (A : HP) : HP := fun h => p ∧ A h
def sepL : List HP → HP
  | [] => hemp
  | A :: L => star A (sepL L)

theorem PH.Dj.symm {h k : PH} (d : PH.Dj h k) : PH.Dj k h := fun b => (d b).symm
theorem PH.un_comm {h k : PH} (d : PH.Dj h k) : PH.un h k = PH.un k h := by
  funext b
  rcases d b with e | e <;> simp only [PH.un, e, Option.none_or, Option.or_none]
theorem PH.un_none (h : PH) : PH.un h PH.none = h := by funext b; simp [PH.un, PH.none]
theorem PH.none_un (h : PH) : PH.un PH.none h = h := by funext b; simp [PH.un, PH.none]
theorem PH.un_assoc (h k l : PH) : PH.un (PH.un h k) l = PH.un h (PH.un k l) := by
  funext b; simp [PH.un, Option.or_assoc]
theorem PH.Dj.un_left {h k l : PH} : PH.Dj (PH.un h k) l ↔ PH.Dj h l ∧ PH.Dj k l := by
  constructor
  · intro d
    refine ⟨fun b => ?_, fun b => ?_⟩ <;> rcases d b with e | e
    · left; simp [PH.un, Option.or_eq_none_iff] at e; exact e.1
    · right; exact e
    · left; simp [PH.un, Option.or_eq_none_iff] at e; exact e.2
    · right; exact e
  · rintro ⟨d1, d2⟩ b
    rcases d1 b with e1 | e1
    · rcases d2 b with e2 | e2
      · left; simp [PH.un, e1, e2]
      · right; exact e2
    · right; exact e1
theorem PH.Dj.un_right {h k l : PH} : PH.Dj h (PH.un k l) ↔ PH.Dj h k ∧ PH.Dj h l := by
  constructor
  · intro d
    have := PH.Dj.un_left.1 d.symm
    exact ⟨this.1.symm, this.2.symm⟩
  · rintro ⟨d1, d2⟩
    exact (PH.Dj.un_left.2 ⟨d1.symm, d2.symm⟩).symm

theorem star_comm (A B : HP) : star A B = star B A := by
  have key : ∀ (A B : HP) h, star A B h → star B A h := fun A B h ⟨h1, h2, d, e, a, b⟩ => ⟨h2, h1, d.symm, by rw [e, PH.un_comm d], b, a⟩
  funext h; exact propext ⟨key A B h, key B A h⟩
theorem star_assoc (A B C : HP) : star (star A B) C = star A (star B C) := by
  funext h; apply propext; constructor
  · rintro ⟨_, h3, d, rfl, ⟨h1, h2, d', rfl, a, b⟩, c⟩
    have ⟨d1, d2⟩ := PH.Dj.un_left.1 d
    exact ⟨h1, PH.un h2 h3, PH.Dj.un_right.2 ⟨d', d1⟩, PH.un_assoc _ _ _, a, h2, h3, d2, rfl, b, c⟩
  · rintro ⟨h1, _, d, rfl, a, h2, h3, d', rfl, b, c⟩
    have ⟨d1, d2⟩ := PH.Dj.un_right.1 d
    exact ⟨PH.un h1 h2, h3, PH.Dj.un_left.2 ⟨d2, d'⟩, (PH.un_assoc _ _ _).symm, ⟨h1, h2, d1, rfl, a, b⟩, c⟩
theorem star_emp (A : HP) : star A hemp = A := by
  funext h; apply propext; constructor
  · rintro ⟨h1, _, _, rfl, a, rfl⟩; rw [PH.un_none]; exact a
  · intro a; exact ⟨h, PH.none, fun b => .inr rfl, (PH.un_none _).symm, a, rfl⟩
theorem star_left (A B C : HP) : star A (star B C) = star B (star A C) := by
  rw [← star_assoc, star_comm A B, star_assoc]
theorem sepL_append (L M : List HP) : sepL (L ++ M) = star (sepL L) (sepL M) := by
  induction L with
  | nil => rw [List.nil_append, sepL, star_comm, star_emp]
  | cons A L ih => rw [List.cons_append, sepL, sepL, ih, star_assoc]
theorem sepL_perm {L M : List HP} (h : List.Perm L M) : sepL L = sepL M := by
  induction h with
  | nil => rfl
  | cons A _ ih => rw [sepL, sepL, ih]
  | swap A B L => rw [sepL, sepL, sepL, sepL, star_left]
  | trans _ _ i1 i2 => rw [i1, i2]
theorem sepL_one (A : HP) : sepL [A] = A := by rw [sepL, sepL, star_emp]

-- ================================================================ a world that meets a list of assertions; the streams stay
structure Str where
  os : Os
  tape : Nat → Question → Nat
  output : Array (Nat × ByteArray)
def strOf (w : World) : Str := ⟨w.os, w.tape, w.output⟩

def sat (s : Str) (w : World) (L : List HP) : Prop := strOf w = s ∧ ∃ h, sepL L h ∧ ∀ (b : Nat) (o : Obj), h b = some o → w.heap[b]? = some o

theorem sat_of_eq {s : Str} {w : World} {L M : List HP} (e : sepL L = sepL M) (h : sat s w L) : sat s w M := by
  obtain ⟨e0, k, a, b⟩ := h; exact ⟨e0, k, by rw [← e]; exact a, b⟩
theorem sat_perm {s : Str} {w : World} {L M : List HP} (p : List.Perm L M) (h : sat s w L) : sat s w M := sat_of_eq (sepL_perm p) h
theorem sat_drop {s : Str} {w : World} {A : HP} {L : List HP} (h : sat s w (A :: L)) : sat s w L := by
  obtain ⟨e0, _, ⟨h1, h2, d, rfl, _, b⟩, c⟩ := h
  refine ⟨e0, h2, b, fun x o hx => c x o ?_⟩
  rcases d x with e | e
  · simp [PH.un, e, hx]
  · rw [e] at hx; cases hx
theorem sat_dropN {s : Str} {w : World} {L M : List HP} (h : sat s w (L ++ M)) : sat s w M := by
  induction L with
  | nil => exact h
  | cons A L ih => exact ih (sat_drop h)
theorem sat_mono {s : Str} {w w' : World} {L : List HP} (hs : strOf w' = strOf w) (hw : ∀ (b : Nat) (o : Obj), w.heap[b]? = some o → w'.heap[b]? = some o) (h : sat s w L) : sat s w' L := by
  obtain ⟨e0, k, a, b⟩ := h
  exact ⟨hs.trans e0, k, a, fun x o hx => hw x o (b x o hx)⟩
theorem sat_ex {s : Str} {w : World} {α : Sort _} {A : α → HP} {L : List HP} : sat s w (hex A :: L) ↔ ∃ x, sat s w (A x :: L) := by
  constructor
  · rintro ⟨e0, h, ⟨h1, h2, d, e, ⟨x, a⟩, b⟩, c⟩; exact ⟨x, e0, h, ⟨h1, h2, d, e, a, b⟩, c⟩
  · rintro ⟨x, e0, h, ⟨h1, h2, d, e, a, b⟩, c⟩; exact ⟨e0, h, ⟨h1, h2, d, e, ⟨x, a⟩, b⟩, c⟩
theorem sat_hp {s : Str} {w : World} {p : Prop} {A : HP} {L : List HP} : sat s w (hp p A :: L) ↔ p ∧ sat s w (A :: L) := by
  constructor
  · rintro ⟨e0, h, ⟨h1, h2, d, e, ⟨x, a⟩, b⟩, c⟩; exact ⟨x, e0, h, ⟨h1, h2, d, e, a, b⟩, c⟩
  · rintro ⟨x, e0, h, ⟨h1, h2, d, e, a, b⟩, c⟩; exact ⟨e0, h, ⟨h1, h2, d, e, ⟨x, a⟩, b⟩, c⟩
theorem sat_sepL {s : Str} {w : World} {M L : List HP} : sat s w (sepL M :: L) ↔ sat s w (M ++ L) := by
  constructor <;> exact sat_of_eq (by rw [sepL_append, sepL])
theorem sat_alloc {s : Str} {w : World} {L : List HP} (h : sat s w L) (o : Obj) : sat s (w.alloc o) (pt w.heap.size o :: L) := by
  obtain ⟨e0, k, a, b⟩ := h
  refine ⟨e0, _, ⟨PH.one w.heap.size o, k, fun x => ?_, rfl, rfl, a⟩, fun x p hx => ?_⟩
  · by_cases e : x = w.heap.size
    · right
      cases hk : k x with
      | none => rfl
      | some p => have := b x p hk; rw [e] at this; simp at this
    · left; simp [PH.one, e]
  · show (w.heap.push o)[x]? = some p
    by_cases e : x = w.heap.size
    · simp [PH.un, PH.one, e] at hx; rw [e, ← hx]; simp
    · simp [PH.un, PH.one, e] at hx
      have := b x p hx
      rw [Array.getElem?_push, if_neg e]; exact this

-- ================================================================ looking a block up, changing it
class GetPt (L : List HP) (b : Nat) (o : outParam Obj) : Prop where
  get : ∀ h, sepL L h → h b = some o
instance (priority := high) GetPt.head {b : Nat} {o : Obj} {L : List HP} : GetPt (pt b o :: L) b o := ⟨by
  rintro h ⟨h1, h2, d, rfl, rfl, _⟩; simp [PH.un, PH.one]⟩
instance (priority := low) GetPt.tail {A : HP} {b : Nat} {o : Obj} {L : List HP} [i : GetPt L b o] : GetPt (A :: L) b o := ⟨by
  rintro h ⟨h1, h2, d, rfl, _, a⟩
  have := i.get h2 a
  rcases d b with e | e
  · simp [PH.un, e, this]
  · rw [e] at this; cases this⟩

class SetPt (L : List HP) (b : Nat) (o' : Obj) (L' : outParam (List HP)) : Prop where
  set : ∀ h, sepL L h → (∃ o, h b = some o) ∧ sepL L' (fun c => if c = b then some o' else h c)
instance (priority := high) SetPt.head {b : Nat} {o o' : Obj} {L : List HP} : SetPt (pt b o :: L) b o' (pt b o' :: L) := ⟨by
  rintro h ⟨h1, h2, d, rfl, rfl, a⟩
  have hb : h2 b = Option.none := by
    rcases d b with e | e
    · simp [PH.one] at e
    · exact e
  refine ⟨⟨o, by simp [PH.un, PH.one]⟩, PH.one b o', h2, fun x => ?_, ?_, rfl, a⟩
  · by_cases e : x = b
    · right; rw [e]; exact hb
    · left; simp [PH.one, e]
  · funext x
    by_cases e : x = b <;> simp [PH.un, PH.one, e]⟩
instance (priority := low) SetPt.tail {A : HP} {b : Nat} {o' : Obj} {L L' : List HP} [i : SetPt L b o' L'] : SetPt (A :: L) b o' (A :: L') := ⟨by
  rintro h ⟨h1, h2, d, rfl, a, l⟩
  obtain ⟨⟨o, ho⟩, hs⟩ := i.set h2 l
  have hb : h1 b = Option.none := by rcases d b with e | e
                                     · exact e
                                     · rw [ho] at e; cases e
  refine ⟨⟨o, by simp [PH.un, hb, ho]⟩, h1, _, fun x => ?_, ?_, a, hs⟩
  · by_cases e : x = b
    · left; rw [e]; exact hb
    · rcases d x with e' | e'
      · left; exact e'
      · right; simp [e, e']
  · funext x
    by_cases e : x = b
    · simp [PH.un, e, hb]
    · simp [PH.un, e]⟩

theorem sat_get {s : Str} {w : World} {L : List HP} {b : Nat} {o : Obj} [i : GetPt L b o] (h : sat s w L) : w.heap[b]? = some o := by
  obtain ⟨_, k, a, c⟩ := h; exact c b o (i.get k a)
theorem sat_set {s : Str} {w w' : World} {L L' : List HP} {b : Nat} {o' : Obj} [i : SetPt L b o' L'] (h : sat s w L) (hs : strOf w' = strOf w)
    (hb : w'.heap[b]? = some o') (ho : ∀ c, c ≠ b → w'.heap[c]? = w.heap[c]?) : sat s w' L' := by
  obtain ⟨e0, k, a, c⟩ := h
  obtain ⟨_, hs'⟩ := i.set k a
  refine ⟨hs.trans e0, _, hs', fun x o hx => ?_⟩
  by_cases e : x = b
  · simp [e] at hx; rw [e, hb, hx]
  · simp [e] at hx; rw [ho x e]; exact c x o hx

-- ================================================================ taking assertions out of a list
class Take (L : List HP) (A : HP) (L' : outParam (List HP)) : Prop where
  perm : List.Perm L (A :: L')
instance (priority := high) Take.head {A : HP} {L : List HP} : Take (A :: L) A L := ⟨List.Perm.refl _⟩
instance (priority := low) Take.tail {A B : HP} {L L' : List HP} [i : Take L A L'] : Take (B :: L) A (B :: L') :=
  ⟨(List.Perm.cons B i.perm).trans (List.Perm.swap A B L')⟩

/-- L holds all of M (the rest falls away). -/
class Sub (L M : List HP) : Prop where
  sub : ∀ h, sepL L h → ∃ k l, PH.Dj k l ∧ h = PH.un k l ∧ sepL M k
instance (priority := high) Sub.refl {L : List HP} : Sub L L := ⟨fun h a => ⟨h, PH.none, fun _ => .inr rfl, (PH.un_none h).symm, a⟩⟩
theorem Sub.trans {L M N : List HP} (i : Sub L M) (j : Sub M N) : Sub L N := ⟨fun h a => by
  obtain ⟨k, l, d, rfl, m⟩ := i.sub h a
  obtain ⟨k', l', d', rfl, m'⟩ := j.sub k m
  have ⟨d1, d2⟩ := PH.Dj.un_left.1 d
  exact ⟨k', PH.un l' l, PH.Dj.un_right.2 ⟨d', d1⟩, PH.un_assoc _ _ _, m'⟩⟩
theorem Sub.cons {L M : List HP} (A : HP) (i : Sub L M) : Sub (A :: L) (A :: M) := ⟨by
  rintro h ⟨h1, h2, d, rfl, a, b⟩
  obtain ⟨k, l, dk, rfl, m⟩ := i.sub h2 b
  have ⟨d1, d2⟩ := PH.Dj.un_right.1 d
  exact ⟨PH.un h1 k, l, PH.Dj.un_left.2 ⟨d2, dk⟩, (PH.un_assoc _ _ _).symm, h1, k, d1, rfl, a, m⟩⟩
theorem Sub.perm {L M : List HP} (p : List.Perm L M) : Sub L M := ⟨fun h a => ⟨h, PH.none, fun _ => .inr rfl, (PH.un_none h).symm, by rw [← sepL_perm p]; exact a⟩⟩
theorem Sub.drop1 {A : HP} {L : List HP} : Sub (A :: L) L := ⟨by
  rintro h ⟨h1, h2, d, rfl, a, b⟩
  exact ⟨h2, h1, d.symm, PH.un_comm d, b⟩⟩
instance (priority := 200) Sub.take {L L' M : List HP} {A : HP} [t : Take L A L'] [i : Sub L' M] : Sub L (A :: M) := (Sub.perm t.perm).trans (Sub.cons A i)
instance (priority := low) Sub.dropHead {A : HP} {L M : List HP} [i : Sub L M] : Sub (A :: L) M := Sub.drop1.trans i
instance (priority := high) Sub.appNil {L F : List HP} [i : Sub L F] : Sub L ([] ++ F) := i
instance (priority := high) Sub.appCons {L M F : List HP} {A : HP} [i : Sub L (A :: (M ++ F))] : Sub L ((A :: M) ++ F) := i
theorem sat_sub {L M : List HP} (i : Sub L M) {s : Str} {w : World} (h : sat s w L) : sat s w M := by
  obtain ⟨e0, h, a, c⟩ := h
  obtain ⟨k, l, d, rfl, m⟩ := i.sub h a
  exact ⟨e0, k, m, fun x o hx => c x o (by simp [PH.un, hx])⟩
theorem Sub.app {L M F : List HP} (i : Sub L M) : Sub (L ++ F) (M ++ F) := ⟨by
  intro h a
  rw [sepL_append] at a
  obtain ⟨h1, h2, d, rfl, a, b⟩ := a
  obtain ⟨k, l, dk, rfl, m⟩ := i.sub h1 a
  have ⟨d1, d2⟩ := PH.Dj.un_left.1 d
  refine ⟨PH.un k h2, l, PH.Dj.un_left.2 ⟨dk, d2.symm⟩, ?_, ?_⟩
  · rw [PH.un_assoc, PH.un_assoc, PH.un_comm d2]
  · rw [sepL_append]; exact ⟨k, h2, d1, rfl, m, b⟩⟩

-- picking by places
def nth : Nat → List HP → HP
  | _, [] => hemp
  | 0, A :: _ => A
  | n + 1, _ :: L => nth n L
def del : Nat → List HP → List HP
  | _, [] => []
  | 0, _ :: L => L
  | n + 1, A :: L => A :: del n L
def bnd : Nat → List HP → Bool
  | _, [] => false
  | 0, _ :: _ => true
  | n + 1, _ :: L => bnd n L
theorem del_perm : ∀ {n : Nat} {L : List HP}, bnd n L = true → List.Perm L (nth n L :: del n L)
  | _, [], h => by simp [bnd] at h
  | 0, A :: L, _ => List.Perm.refl _
  | n + 1, A :: L, h => (List.Perm.cons A (del_perm (n := n) h)).trans (List.Perm.swap _ _ _)

-- ================================================================ values in slots
abbrev Env := List (Nat × Value)
def get : Env → Nat → Option Value
  | [], _ => none
  | (k, v) :: r, t => bif Nat.beq k t then some v else get r t
def ev (env : Env) : Operand → Option Value
  | .tmp t => get env t
  | .const v => some v
  | .global g => some (.pointer (some ⟨g, 0, none⟩))
  | .func f => some (.func (.func f) #[] #[])
def evs (env : Env) : List Operand → Option (List Value)
  | [] => some []
  | x :: r => match ev env x, evs env r with
    | some v, some vs => some (v :: vs)
    | _, _ => none
structure EnvOk (n : Nat) (env : Env) (a : Act) : Prop where
  size : a.tmps.size = n
  dfr : a.defers = []
  val : ∀ t v, get env t = some v → a.tmps[t]? = some v
theorem EnvOk.ev {n : Nat} {env : Env} {a : Act} (h : EnvOk n env a) : ∀ x v, ev env x = some v → a.eval x = v := by
  intro x v hx
  cases x with
  | tmp t => have := h.val t v hx; simp [Act.eval, this]
  | const c => simpa [Go.Proofs.YtliijbndfcjpfaaGreatDoor.ev, Act.eval] using hx
  | global g => simpa [Go.Proofs.YtliijbndfcjpfaaGreatDoor.ev, Act.eval] using hx
  | func f => simpa [Go.Proofs.YtliijbndfcjpfaaGreatDoor.ev, Act.eval] using hx
theorem evs_map {env : Env} {ρ : Operand → Value} (h : ∀ x v, ev env x = some v → ρ x = v) : ∀ (l : List Operand) (vs : List Value), evs env l = some vs → l.map ρ = vs
  | [], vs, e => by simp [evs] at e; simp [e]
  | x :: r, vs, e => by
    simp only [evs] at e
    split at e
    · rename_i v vs' h1 h2
      simp at e
      rw [List.map_cons, h x v h1, evs_map h r vs' h2, e]
    · cases e
theorem beq_false {d t : Nat} (e : ¬ d = t) : Nat.beq d t = false := by
  cases hh : Nat.beq d t with
  | true => exact absurd (Nat.eq_of_beq_eq_true hh) e
  | false => rfl
theorem EnvOk.put {n : Nat} {env : Env} {a : Act} (h : EnvOk n env a) {d : Nat} (hd : Nat.ble (d + 1) n = true) (v : Value) : EnvOk n ((d, v) :: env) (a.put (some d) v) := by
  have hlt : d < n := Nat.le_of_ble_eq_true hd
  refine ⟨by simp [Act.put, h.size], h.dfr, fun t u ht => ?_⟩
  simp only [get] at ht
  by_cases e : d = t
  · subst e
    rw [show Nat.beq d d = true from Nat.beq_refl d] at ht
    have ht : some v = some u := ht
    obtain rfl := Option.some.inj ht
    simp [Act.put, h.size, hlt]
  · have hb : Nat.beq d t = false := beq_false e
    rw [hb] at ht
    simp only [cond_false] at ht
    simp only [Act.put]
    rw [Array.getElem?_setIfInBounds_ne e]
    exact h.val t u ht
def EnvSub (e' env : Env) : Prop := ∀ t v, get e' t = some v → get env t = some v
theorem EnvSub.nil {env : Env} : EnvSub [] env := by intro t v h; cases h
theorem EnvSub.cons {t : Nat} {v : Value} {e' env : Env} (h : get env t = some v) (r : EnvSub e' env) : EnvSub ((t, v) :: e') env := by
  intro u x hx
  simp only [get] at hx
  by_cases e : t = u
  · subst e
    rw [show Nat.beq t t = true from Nat.beq_refl t] at hx
    have hx : some v = some x := hx
    rw [← hx]; exact h
  · have hb : Nat.beq t u = false := beq_false e
    rw [hb] at hx; exact r u x hx
theorem EnvSub.refl {env : Env} : EnvSub env env := fun _ _ h => h
theorem EnvOk.sub {n : Nat} {e' env : Env} {a : Act} (h : EnvOk n env a) (s : EnvSub e' env) : EnvOk n e' a := ⟨h.size, h.dfr, fun t v ht => h.val t v (s t v ht)⟩

-- ================================================================ goals
inductive Fr where
  | code (c : Code)
  | blk (id : Nat)
  | inv (I : Act → World → Prop)
def post (P : Program) : List Fr → (Exit → Act → World → Prop) → Exit → Act → World → Prop
  | [], Q => Q
  | .code c :: k, Q => Exit.then (c.wp P (post P k Q)) (post P k Q)
  | .blk id :: k, Q => Exit.inBlock id (post P k Q)
  | .inv I :: k, Q => Exit.then I (post P k Q)

section
variable (P : Program) (n : Nat) (s : Str)
def TrK (L : List HP) (env : Env) (c : Code) (k : List Fr) (Q : Exit → Act → World → Prop) : Prop := ∀ a w, EnvOk n env a → sat s w L → c.wp P (post P k Q) a w
def TrX (e : Exit) (L : List HP) (env : Env) (k : List Fr) (Q : Exit → Act → World → Prop) : Prop := ∀ a w, EnvOk n env a → sat s w L → post P k Q e a w
def TrO (ops : Array Oper) (L : List HP) (env : Env) (rest : List Oper) (k : List Fr) (Q : Exit → Act → World → Prop) : Prop := ∀ a w, EnvOk n env a → sat s w L → wpList P ops (post P k Q) rest a w
end
section
variable {P : Program} {n : Nat} {s : Str} {L : List HP} {env : Env} {k : List Fr} {Q : Exit → Act → World → Prop}
theorem trk_seq {x y : Code} (h : TrK P n s L env x (.code y :: k) Q) : TrK P n s L env (.seq x y) k Q := fun a w e l => wp_seq (h a w e l)
theorem trk_skip (h : TrX P n s .normal L env k Q) : TrK P n s L env .skip k Q := fun a w e l => wp_skip (h a w e l)
theorem trk_ret (h : TrX P n s .ret L env k Q) : TrK P n s L env .ret k Q := fun a w e l => wp_ret (h a w e l)
theorem trk_exit {id : Nat} (h : TrX P n s (.exit id) L env k Q) : TrK P n s L env (.exit id) k Q := fun a w e l => wp_exit (h a w e l)
theorem trk_block {id : Nat} {c : Code} (h : TrK P n s L env c (.blk id :: k) Q) : TrK P n s L env (.block id c) k Q := fun a w e l => wp_block (h a w e l)
theorem trk_region {id : Nat} {l : List Oper} (h : TrO P n s l.toArray L env l k Q) : TrK P n s L env (.region id l.toArray false) k Q := fun a w e l => wp_region_lit (h a w e l)
theorem trk_cond {c : Operand} {x y : Code} {t : Bool} (hc : ev env c = some (.bool t)) (h : TrK P n s L env (bif t then x else y) k Q) : TrK P n s L env (.cond c x y) k Q :=
  fun a w e l => wp_cond (t := t) (e.ev c _ hc) (by have := h a w e l; cases t <;> exact this)
theorem trk_ct {c : Operand} {x y : Code} (hc : ev env c = some (.bool true)) (h : TrK P n s L env x k Q) : TrK P n s L env (.cond c x y) k Q := trk_cond hc h
theorem trk_cf {c : Operand} {x y : Code} (hc : ev env c = some (.bool false)) (h : TrK P n s L env y k Q) : TrK P n s L env (.cond c x y) k Q := trk_cond hc h
theorem trk_if {c : Operand} {x y : Code} {t : Bool} (hc : ev env c = some (.bool t)) (h1 : t = true → TrK P n s L env x k Q) (h2 : t = false → TrK P n s L env y k Q) : TrK P n s L env (.cond c x y) k Q := by
  cases t
  · exact trk_cf hc (h2 rfl)
  · exact trk_ct hc (h1 rfl)
theorem trx_code {c : Code} (h : TrK P n s L env c k Q) : TrX P n s .normal L env (.code c :: k) Q := h
theorem trx_blk {id : Nat} (h : TrX P n s .normal L env k Q) : TrX P n s .normal L env (.blk id :: k) Q := h
theorem trx_ret_code {c : Code} (h : TrX P n s .ret L env k Q) : TrX P n s .ret L env (.code c :: k) Q := h
theorem trx_ret_blk {id : Nat} (h : TrX P n s .ret L env k Q) : TrX P n s .ret L env (.blk id :: k) Q := h
theorem trx_ret_inv {I : Act → World → Prop} (h : TrX P n s .ret L env k Q) : TrX P n s .ret L env (.inv I :: k) Q := h
theorem trx_exit_code {c : Code} {id : Nat} (h : TrX P n s (.exit id) L env k Q) : TrX P n s (.exit id) L env (.code c :: k) Q := h
theorem trx_exit_inv {I : Act → World → Prop} {id : Nat} (h : TrX P n s (.exit id) L env k Q) : TrX P n s (.exit id) L env (.inv I :: k) Q := h
theorem trx_exit_hit {id : Nat} (h : TrX P n s .normal L env k Q) : TrX P n s (.exit id) L env (.blk id :: k) Q := fun a w e l => by
  have := h a w e l
  simp only [post, Exit.inBlock, if_true]; exact this
theorem trx_exit_miss {id id' : Nat} (hne : Nat.beq id id' = false) (h : TrX P n s (.exit id) L env k Q) : TrX P n s (.exit id) L env (.blk id' :: k) Q := fun a w e l => by
  have := h a w e l
  have hne' : id ≠ id' := Nat.ne_of_beq_eq_false hne
  simp only [post, Exit.inBlock, if_neg hne']; exact this
theorem tro_nil {ops : Array Oper} (h : TrX P n s .normal L env k Q) : TrO P n s ops L env [] k Q := fun a w e l => wpList_nil (h a w e l)

theorem trk_loop {c : Code} {X : Type} (p : X → Prop) (A : X → List HP) (E : X → Env) (m : X → Nat) (x0 : X) (h0 : p x0) (hE : EnvSub (E x0) env) (hA : Sub L (A x0))
    (h : ∀ x, p x → TrK P n s (A x) (E x) c (.inv (fun a w => ∃ y, p y ∧ m y < m x ∧ EnvOk n (E y) a ∧ sat s w (A y)) :: k) Q) : TrK P n s L env (.loop c) k Q := by
  intro a w e l
  refine wp_loop_ghost (fun N a w => ∃ y, p y ∧ m y = N ∧ EnvOk n (E y) a ∧ sat s w (A y)) (m x0) ⟨x0, h0, rfl, e.sub hE, sat_sub hA l⟩ ?_
  rintro N a w ⟨y, py, rfl, ey, ly⟩
  refine wp_mono (h y py a w ey ly) ?_
  intro x a' w' hq
  cases x with
  | normal => obtain ⟨z, pz, mz, ez, lz⟩ := hq; exact ⟨m z, mz, z, pz, rfl, ez, lz⟩
  | exit id => exact hq
  | goto l => exact hq
  | ret => exact hq
  | panic ch => exact hq
  | outgrown => exact hq
theorem trk_loop1 {c : Code} (h : TrK P n s L env c (.inv (fun _ _ => False) :: k) Q) : TrK P n s L env (.loop c) k Q := by
  refine trk_loop (X := Unit) (fun _ => True) (fun _ => L) (fun _ => env) (fun _ => 0) () trivial (fun _ _ h => h) Sub.refl ?_
  intro _ _ a w e l
  refine wp_mono (h a w e l) ?_
  intro x a' w' hq
  cases x with
  | normal => exact absurd hq (fun h => h)
  | exit id => exact hq
  | goto l => exact hq
  | ret => exact hq
  | panic ch => exact hq
  | outgrown => exact hq
theorem trx_inv {X : Type} {p : X → Prop} {A : X → List HP} {E : X → Env} {m : X → Nat} {N : Nat} (y : X) (py : p y) (hm : m y < N) (hE : EnvSub (E y) env) (hA : Sub L (A y)) :
    TrX P n s .normal L env (.inv (fun a w => ∃ y, p y ∧ m y < N ∧ EnvOk n (E y) a ∧ sat s w (A y)) :: k) Q :=
  fun _ _ e l => ⟨y, py, hm, e.sub hE, sat_sub hA l⟩
end

/-- Types: what the table says of them. -/
class Ty (P : Program) (t : TypeId) (d : outParam TypeDesc) : Prop where
  und : P.underlying t = some d
class TyI (P : Program) (t : TypeId) (z : outParam Value) (n b : outParam Nat) : Prop where
  inf : ∃ i, P.info? t = some i ∧ i.zero = some z ∧ i.size = n ∧ i.bytes = b
/-- a type of one cell -/
class TyS (P : Program) (t : TypeId) : Prop where
  sc : ∃ dd, P.underlying t = some dd ∧ (match dd with | .struct _ | .array _ _ => false | _ => true) = true
/-- a struct or array of n cells -/
class TyA (P : Program) (t : TypeId) (n : outParam Nat) : Prop where
  ag : ∃ dd, P.underlying t = some dd ∧ (match dd with | .struct _ | .array _ _ => false | _ => true) = false
  sz : ∃ i, P.info? t = some i ∧ i.size = n
/-- field i of struct type T: its type and place (of fields that have a cell) -/
class Fld (P : Program) (T : TypeId) (i : Nat) (u off sz : outParam Nat) : Prop where
  fld : ∃ fs f, P.underlying T = some (.struct fs) ∧ fs[i]? = some f ∧ f.type = u ∧ f.offset = off
  pos : ∃ i, P.info? u = some i ∧ i.size = sz ∧ sz ≠ 0
/-- a struct type all of whose fields' types are told -/
class Told (P : Program) (T : TypeId) : Prop where
  told : ∃ fs, P.underlying T = some (.struct fs) ∧ (fs.toList.all fun f => (P.info? f.type).isSome) = true
class HasBody (P : Program) (f : FuncId) : Prop where
  body : ∃ fn, P.funcs[f]? = some fn ∧ (fn.name == "runtime.NumGoroutine") = false ∧ fn.body.isNone = false
/-- one cell: no struct, no array -/
def scal : TypeDesc → Bool
  | .struct _ | .array _ _ => false
  | _ => true

def gd (ops : Array Oper) (env : Env) : Option (Nat × Bool) → Option Bool
  | none => some true
  | some (j, want) => match ((ops[j]?).bind (·.dst)).bind (get env) with
    | some (.bool b) => some (b == want)
    | _ => none
theorem gd_wanted {ops : Array Oper} {n : Nat} {env : Env} {a : Act} (e : EnvOk n env a) {o : Oper} {b : Bool} (h : gd ops env o.guard = some b) : Region.wanted o (yielded ops a.tmps) = b := by
  unfold Region.wanted
  cases hg : o.guard with
  | none => rw [hg] at h; simpa [gd] using h
  | some jw =>
    obtain ⟨j, want⟩ := jw
    rw [hg] at h
    simp only [gd] at h
    split at h
    · rename_i c hc
      obtain ⟨d, hd, hv⟩ := Option.bind_eq_some_iff.1 hc
      have hy : yielded ops a.tmps j = some c := by simp [yielded, hd, e.val d _ hv]
      simp only [hy]
      simpa using h
    · cases h

/-- An operation that only reads: its value in every world that meets L. -/
def Rd (P : Program) (L : List HP) (env : Env) (o : Oper) (v : Value) : Prop :=
  ∀ (ρ : Operand → Value) (s : Str) (w : World), (∀ x y, ev env x = some y → ρ x = y) → sat s w L → (execOp ρ o).run P w = .ok (.value v) w

section
variable {P : Program} {n : Nat} {s : Str} {L : List HP} {env : Env} {k : List Fr} {Q : Exit → Act → World → Prop} {ops : Array Oper} {rest : List Oper}
variable {d : Nat} {op : Op} {ty : TypeId} {pos : String} {aft : Array Edge} {g : Option (Nat × Bool)} {v : Value}

theorem tro_rd (hg : gd ops env g = some true) (hd : Nat.ble (d + 1) n = true) (hr : Rd P L env ⟨some d, op, ty, pos, aft, g⟩ v)
    (h : TrO P n s ops L ((d, v) :: env) rest k Q) : TrO P n s ops L env (⟨some d, op, ty, pos, aft, g⟩ :: rest) k Q := by
  intro a w e l
  unfold wpList
  rw [if_pos (gd_wanted e hg)]
  left
  unfold Oper.wp
  rw [hr a.eval s w e.ev l]
  exact h _ _ (e.put hd v) l
theorem tro_rd0 (hg : gd ops env g = some true) (hr : Rd P L env ⟨none, op, ty, pos, aft, g⟩ v)
    (h : TrO P n s ops L env rest k Q) : TrO P n s ops L env (⟨none, op, ty, pos, aft, g⟩ :: rest) k Q := by
  intro a w e l
  unfold wpList
  rw [if_pos (gd_wanted e hg)]
  left
  unfold Oper.wp
  rw [hr a.eval s w e.ev l]
  exact h _ _ e l
theorem tro_skip (hg : gd ops env g = some false) (hd : Nat.ble (d + 1) n = true)
    (h : TrO P n s ops L ((d, undef) :: env) rest k Q) : TrO P n s ops L env (⟨some d, op, ty, pos, aft, g⟩ :: rest) k Q := by
  intro a w e l
  unfold wpList
  rw [if_neg (by rw [gd_wanted e hg]; simp)]
  exact h _ _ (e.put hd undef) l

/-- An operation that changes memory or makes some. -/
theorem tro_wr {X : Type} {val : X → Value} {L' : X → List HP} (hg : gd ops env g = some true) (hd : Nat.ble (d + 1) n = true)
    (hr : ∀ (ρ : Operand → Value) (s : Str) (w : World), (∀ x y, ev env x = some y → ρ x = y) → sat s w L → ∃ x w', (execOp ρ ⟨some d, op, ty, pos, aft, g⟩).run P w = .ok (.value (val x)) w' ∧ sat s w' (L' x))
    (h : ∀ x, TrO P n s ops (L' x) ((d, val x) :: env) rest k Q) : TrO P n s ops L env (⟨some d, op, ty, pos, aft, g⟩ :: rest) k Q := by
  intro a w e l
  obtain ⟨x, w', h1, h2⟩ := hr a.eval s w e.ev l
  unfold wpList
  rw [if_pos (gd_wanted e hg)]
  left
  unfold Oper.wp
  rw [h1]
  exact h x _ _ (e.put hd _) h2
theorem tro_wr0 {L' : List HP} (hg : gd ops env g = some true)
    (hr : ∀ (ρ : Operand → Value) (s : Str) (w : World), (∀ x y, ev env x = some y → ρ x = y) → sat s w L → ∃ w', (execOp ρ ⟨none, op, ty, pos, aft, g⟩).run P w = .ok .skip w' ∧ sat s w' L')
    (h : TrO P n s ops L' env rest k Q) : TrO P n s ops L env (⟨none, op, ty, pos, aft, g⟩ :: rest) k Q := by
  intro a w e l
  obtain ⟨w', h1, h2⟩ := hr a.eval s w e.ev l
  unfold wpList
  rw [if_pos (gd_wanted e hg)]
  left
  unfold Oper.wp
  rw [h1]
  exact h _ _ e h2
end

section
variable {P : Program} {s : Str} {L : List HP} {env : Env} {d : Option Tmp} {ty : TypeId} {pos : String} {aft : Array Edge} {g : Option (Nat × Bool)} {v : Value}

theorem rd_move {x : Operand} (hx : ev env x = some v) : Rd P L env ⟨d, .move x, ty, pos, aft, g⟩ v := fun ρ s w e _ => by
  simp [execOp, e x v hx]
theorem rd_assign {x : Operand} (hx : ev env x = some v) : Rd P L env ⟨d, .assign x, ty, pos, aft, g⟩ v := fun ρ s w e _ => by
  simp [execOp, e x v hx]
theorem rd_pickT {c x y : Operand} (hc : ev env c = some (.bool true)) (hx : ev env x = some v) : Rd P L env ⟨d, .pick c x y, ty, pos, aft, g⟩ v := fun ρ s w e _ => by
  simp [execOp, e c _ hc, e x v hx, asBool]
theorem rd_pickF {c x y : Operand} (hc : ev env c = some (.bool false)) (hx : ev env y = some v) : Rd P L env ⟨d, .pick c x y, ty, pos, aft, g⟩ v := fun ρ s w e _ => by
  simp [execOp, e c _ hc, e y v hx, asBool]
theorem rd_nilCheck {x : Operand} {a : Addr} (hx : ev env x = some (.pointer (some a))) : Rd P L env ⟨d, .nilCheck x, ty, pos, aft, g⟩ (.pointer (some a)) := fun ρ s w e _ => by
  simp [execOp, e x _ hx]
theorem rd_extract {x : Operand} {vs : Array Value} {i : Nat} (hx : ev env x = some (.tuple vs)) (hv : vs[i]? = some v) : Rd P L env ⟨d, .extract x i, ty, pos, aft, g⟩ v := fun ρ s w e _ => by
  simp [execOp, e x _ hx, Instr.extract, hv]
theorem rd_not {x : Operand} {t : TypeId} {b : Bool} (hx : ev env x = some (.bool b)) : Rd P L env ⟨d, .unOp .not t x, ty, pos, aft, g⟩ (.bool (!b)) := fun ρ s w e _ => by
  simp [execOp, e x _ hx, Op.unary]
theorem rd_neg {x : Operand} {t : TypeId} {K : IntKind} {a : Int} (hx : ev env x = some (.int K a)) : Rd P L env ⟨d, .unOp .neg t x, ty, pos, aft, g⟩ (.int K (K.wrap (0 - a))) := fun ρ s w e _ => by
  simp [execOp, e x _ hx, Op.unary, Op.intArith]
theorem rd_xor1 {x : Operand} {t : TypeId} {K : IntKind} {a : Int} (hx : ev env x = some (.int K a)) : Rd P L env ⟨d, .unOp .xor t x, ty, pos, aft, g⟩ (.int K (bits .xor K (if K.signed then -1 else K.max) a)) := fun ρ s w e _ => by
  simp [execOp, e x _ hx, Op.unary, Op.intBits, bits]
theorem rd_conv {x : Operand} {t u : TypeId} {d0 : TypeDesc} {K J : IntKind} {a : Int} [Ty P t d0] [i : Ty P u (.int K)] (hx : ev env x = some (.int J a)) :
    Rd P L env ⟨d, .convert t u x, ty, pos, aft, g⟩ (.int K (K.wrap a)) := fun ρ s w e _ => by
  have hK : P.intKind u = K := by simp [Program.intKind, i.und]
  have hr := run_convert_int (P := P) w t u J a (by rw [Ty.und (P := P) (t := t)]; rfl) (by rw [hK]; exact i.und)
  rw [hK] at hr
  simp [execOp, e x _ hx, hr]

/-- what an operator on two whole numbers gives -/
def ibin : BinOp → IntKind → Int → Int → Option Value
  | .add, K, a, b => some (.int K (K.wrap (a + b)))
  | .sub, K, a, b => some (.int K (K.wrap (a - b)))
  | .mul, K, a, b => some (.int K (K.wrap (a * b)))
  | .and, K, a, b => some (.int K (bits .and K a b))
  | .or, K, a, b => some (.int K (bits .or K a b))
  | .xor, K, a, b => some (.int K (bits .xor K a b))
  | .andNot, K, a, b => some (.int K (bits .andNot K a b))
  | .eql, _, a, b => some (.bool (a == b))
  | .neq, _, a, b => some (.bool (a != b))
  | .lss, _, a, b => some (.bool (decide (a < b)))
  | .leq, _, a, b => some (.bool (decide (a ≤ b)))
  | .gtr, _, a, b => some (.bool (decide (a > b)))
  | .geq, _, a, b => some (.bool (decide (a ≥ b)))
  | _, _, _, _ => none
theorem rd_ibin {x y : Operand} {t u : TypeId} {o : BinOp} {K : IntKind} {a b : Int} (hx : ev env x = some (.int K a)) (hy : ev env y = some (.int K b)) (hv : ibin o K a b = some v) :
    Rd P L env ⟨d, .binOp o t x y u, ty, pos, aft, g⟩ v := fun ρ s w e _ => by
  cases o <;> simp only [ibin, Option.some.injEq] at hv <;> first | (cases hv; done) | skip
  all_goals (subst hv; simp [execOp, e x _ hx, e y _ hy, eqGuard_at_int, binOp_add, binOp_sub, binOp_mul, binOp_and, binOp_or, binOp_xor, binOp_andNot, binOp_eql, binOp_neq, binOp_lss, binOp_leq, binOp_gtr, binOp_geq, Op.intArith, intBits_and, intBits_or, intBits_xor, intBits_andNot])
theorem rd_quo {x y : Operand} {t u : TypeId} {K : IntKind} {a b : Int} (hx : ev env x = some (.int K a)) (hy : ev env y = some (.int K b)) (hb : b ≠ 0) :
    Rd P L env ⟨d, .binOp .quo t x y u, ty, pos, aft, g⟩ (.int K (K.wrap (a.tdiv b))) := fun ρ s w e _ => by
  simp [execOp, e x _ hx, e y _ hy, eqGuard_at_int, binOp_quo, Op.intDiv, hb]
theorem rd_rem {x y : Operand} {t u : TypeId} {K : IntKind} {a b : Int} (hx : ev env x = some (.int K a)) (hy : ev env y = some (.int K b)) (hb : b ≠ 0) :
    Rd P L env ⟨d, .binOp .rem t x y u, ty, pos, aft, g⟩ (.int K (a.tmod b)) := fun ρ s w e _ => by
  simp [execOp, e x _ hx, e y _ hy, eqGuard_at_int, binOp_rem, Op.intDiv, hb]
def shlv (K : IntKind) (a b : Int) : Int := K.wrap (a * 2 ^ (min b.toNat K.bits))
def shrv (K : IntKind) (a b : Int) : Int := a.fdiv (2 ^ (min b.toNat K.bits))
theorem rd_shl {x y : Operand} {t u : TypeId} {K J : IntKind} {a b : Int} (hx : ev env x = some (.int K a)) (hy : ev env y = some (.int J b)) (hb : 0 ≤ b) :
    Rd P L env ⟨d, .binOp .shl t x y u, ty, pos, aft, g⟩ (.int K (shlv K a b)) := fun ρ s w e _ => by
  simp [execOp, e x _ hx, e y _ hy, eqGuard_at_int, binOp_shl, Op.shift, show ¬ b < 0 by omega, shlv]
theorem rd_shr {x y : Operand} {t u : TypeId} {K J : IntKind} {a b : Int} (hx : ev env x = some (.int K a)) (hy : ev env y = some (.int J b)) (hb : 0 ≤ b) :
    Rd P L env ⟨d, .binOp .shr t x y u, ty, pos, aft, g⟩ (.int K (shrv K a b)) := fun ρ s w e _ => by
  simp [execOp, e x _ hx, e y _ hy, eqGuard_at_int, binOp_shr, Op.shift, show ¬ b < 0 by omega, shrv]

theorem run_equalInB (D : Nat) {t : TypeId} [i : Ty P t .bool] (a b : Bool) (w : World) : (Op.equalIn (D + 1) t (.bool a) (.bool b)).run P w = .ok (a == b) w := by
  simp [Op.equalIn, run_underlying i.und]
theorem run_equalB {t : TypeId} [i : Ty P t .bool] (a b : Bool) (w : World) : (Op.equal t (.bool a) (.bool b)).run P w = .ok (a == b) w := run_equalInB 9999 a b w
theorem run_eqB {t : TypeId} [i : Ty P t .bool] (a b : Bool) (w : World) : (binOp .eql t (.bool a) (.bool b)).run P w = .ok (.bool (a == b)) w := by
  simp only [binOp, Sem.run_bind, run_equalB, Result.andThen_ok, Sem.run_pure]
theorem run_neB {t : TypeId} [i : Ty P t .bool] (a b : Bool) (w : World) : (binOp .neq t (.bool a) (.bool b)).run P w = .ok (.bool (!(a == b))) w := by
  simp only [binOp, Sem.run_bind, run_equalB, Result.andThen_ok, Sem.run_pure]
theorem rd_eqB {x y : Operand} {t u : TypeId} [i : Ty P t .bool] {a b : Bool} (hx : ev env x = some (.bool a)) (hy : ev env y = some (.bool b)) :
    Rd P L env ⟨d, .binOp .eql t x y u, ty, pos, aft, g⟩ (.bool (a == b)) := fun ρ s w e _ => by
  simp [execOp, e x _ hx, e y _ hy, eqGuard_at_bool, run_eqB]
theorem rd_neB {x y : Operand} {t u : TypeId} [i : Ty P t .bool] {a b : Bool} (hx : ev env x = some (.bool a)) (hy : ev env y = some (.bool b)) :
    Rd P L env ⟨d, .binOp .neq t x y u, ty, pos, aft, g⟩ (.bool (!(a == b))) := fun ρ s w e _ => by
  simp [execOp, e x _ hx, e y _ hy, eqGuard_at_bool, run_neB]
theorem run_equalInPN (D : Nat) {t e : TypeId} [i : Ty P t (.pointer e)] (a : Option Addr) (w : World) : (Op.equalIn (D + 1) t (.pointer a) (.pointer none)).run P w = .ok a.isNone w := by
  cases a <;> simp [Op.equalIn, run_underlying i.und]
theorem run_equalPN {t e : TypeId} [i : Ty P t (.pointer e)] (a : Option Addr) (w : World) : (Op.equal t (.pointer a) (.pointer none)).run P w = .ok a.isNone w := run_equalInPN 9999 a w
theorem run_eqPN {t e : TypeId} [i : Ty P t (.pointer e)] (a : Option Addr) (w : World) : (binOp .eql t (.pointer a) (.pointer none)).run P w = .ok (.bool a.isNone) w := by
  simp only [binOp, Sem.run_bind, run_equalPN, Result.andThen_ok, Sem.run_pure]
theorem run_nePN {t e : TypeId} [i : Ty P t (.pointer e)] (a : Option Addr) (w : World) : (binOp .neq t (.pointer a) (.pointer none)).run P w = .ok (.bool (!a.isNone)) w := by
  simp only [binOp, Sem.run_bind, run_equalPN, Result.andThen_ok, Sem.run_pure]
theorem rd_eqPN {x y : Operand} {t u e' : TypeId} [i : Ty P t (.pointer e')] {a : Option Addr} (hx : ev env x = some (.pointer a)) (hy : ev env y = some (.pointer none)) :
    Rd P L env ⟨d, .binOp .eql t x y u, ty, pos, aft, g⟩ (.bool a.isNone) := fun ρ s w e _ => by
  simp [execOp, e x _ hx, e y _ hy, eqGuard_at_pointer, run_eqPN]
theorem rd_nePN {x y : Operand} {t u e' : TypeId} [i : Ty P t (.pointer e')] {a : Option Addr} (hx : ev env x = some (.pointer a)) (hy : ev env y = some (.pointer none)) :
    Rd P L env ⟨d, .binOp .neq t x y u, ty, pos, aft, g⟩ (.bool (!a.isNone)) := fun ρ s w e _ => by
  simp [execOp, e x _ hx, e y _ hy, eqGuard_at_pointer, run_nePN]

theorem rd_len {x : Operand} {t : TypeId} {e' : TypeId} [i : Ty P t (.slice e')] {a : Option Addr} {m c : Nat} (hx : ev env x = some (.slice a m c)) :
    Rd P L env ⟨d, .call ⟨.builtin .len, #[x], #[t]⟩, ty, pos, aft, g⟩ (.int .i64 m) := fun ρ s w e _ => by
  simp [execOp, resolve, invoke, builtin, e x _ hx, Builtin.len_, run_underlying i.und, goInt]
theorem rd_lenS {x : Operand} {t : TypeId} [i : Ty P t .string] {b : ByteArray} (hx : ev env x = some (.string b)) :
    Rd P L env ⟨d, .call ⟨.builtin .len, #[x], #[t]⟩, ty, pos, aft, g⟩ (.int .i64 b.size) := fun ρ s w e _ => by
  simp [execOp, resolve, invoke, builtin, e x _ hx, Builtin.len_, run_underlying i.und, goInt]
theorem rd_min2 {x y : Operand} {ts : Array TypeId} {K J : IntKind} {a b : Int} (hx : ev env x = some (.int K a)) (hy : ev env y = some (.int J b)) :
    Rd P L env ⟨d, .call ⟨.builtin .min, #[x, y], ts⟩, ty, pos, aft, g⟩ (.int K (min a b)) := fun ρ s w e _ => by
  rw [show min a b = if b < a then b else a from by rw [Int.min_def]; split <;> split <;> omega]
  simp [execOp, resolve, invoke, builtin, e x _ hx, e y _ hy, Builtin.min_, Builtin.min2]
theorem rd_max2 {x y : Operand} {ts : Array TypeId} {K J : IntKind} {a b : Int} (hx : ev env x = some (.int K a)) (hy : ev env y = some (.int J b)) :
    Rd P L env ⟨d, .call ⟨.builtin .max, #[x, y], ts⟩, ty, pos, aft, g⟩ (.int K (max a b)) := fun ρ s w e _ => by
  rw [show max a b = if b > a then b else a from by rw [Int.max_def]; split <;> split <;> omega]
  simp [execOp, resolve, invoke, builtin, e x _ hx, e y _ hy, Builtin.max_, Builtin.max2]
theorem rd_makeFunc {fn : Fn} {fs cs : List Operand} {vs us : List Value} (h1 : evs env fs = some vs) (h2 : evs env cs = some us) :
    Rd P L env ⟨d, .makeFunc fn ⟨fs⟩ ⟨cs⟩, ty, pos, aft, g⟩ (.func fn ⟨vs⟩ ⟨us⟩) := fun ρ s w e _ => by
  have e1 := evs_map e fs vs h1
  have e2 := evs_map e cs us h2
  simp [execOp, Instr.makeFunc, e1, e2]
end

-- ================================================================ parts of lists
class Seg (cs : List Value) (o n : Nat) (vs : outParam (List Value)) : Prop where
  seg : (cs.drop o).take n = vs ∧ o + n ≤ cs.length
instance (priority := high) Seg.nil {cs : List Value} : Seg cs (no_index 0) (no_index 0) [] := ⟨by simp⟩
instance (priority := 900) Seg.cons {x : Value} {cs vs : List Value} {n : Nat} [i : Seg cs 0 n vs] : Seg (x :: cs) (no_index 0) (n + 1) (x :: vs) := ⟨by
  have := i.seg; simp only [List.drop_zero] at this ⊢; exact ⟨by rw [List.take_succ_cons, this.1], by have := this.2; simp; omega⟩⟩
instance (priority := 800) Seg.skip {x : Value} {cs vs : List Value} {o n : Nat} [i : Seg cs o n vs] : Seg (x :: cs) (o + 1) n vs := ⟨by
  have := i.seg; exact ⟨by simpa using this.1, by have := this.2; simp; omega⟩⟩

/-- vs written over cs from o on -/
def ovw (cs : List Value) (o : Nat) (vs : List Value) : List Value := cs.take o ++ vs ++ cs.drop (o + vs.length)
class Ovw (cs : List Value) (o : Nat) (vs : List Value) (cs' : outParam (List Value)) : Prop where
  ovw : ovw cs o vs = cs' ∧ o + vs.length ≤ cs.length
instance (priority := high) Ovw.nil {cs : List Value} : Ovw cs (no_index 0) [] cs := ⟨by simp [Go.Proofs.YtliijbndfcjpfaaGreatDoor.ovw]⟩
instance (priority := 900) Ovw.cons {x v : Value} {cs vs cs' : List Value} [i : Ovw cs 0 vs cs'] : Ovw (x :: cs) (no_index 0) (v :: vs) (v :: cs') := ⟨by
  have := i.ovw; simp only [Go.Proofs.YtliijbndfcjpfaaGreatDoor.ovw, List.take_zero, List.nil_append, Nat.zero_add] at this ⊢
  exact ⟨by simp [← this.1], by have := this.2; simp; omega⟩⟩
instance (priority := 800) Ovw.skip {x : Value} {cs vs cs' : List Value} {o : Nat} [i : Ovw cs o vs cs'] : Ovw (x :: cs) (o + 1) vs (x :: cs') := ⟨by
  have := i.ovw; simp only [Go.Proofs.YtliijbndfcjpfaaGreatDoor.ovw] at this ⊢
  exact ⟨by rw [← this.1]; simp [Nat.add_right_comm], by have := this.2; simp; omega⟩⟩

class Idx (cs : List Value) (o : Nat) (v : outParam Value) : Prop where
  idx : cs[o]? = some v
instance (priority := high) Idx.here {x : Value} {cs : List Value} : Idx (x :: cs) (no_index 0) x := ⟨rfl⟩
instance (priority := 900) Idx.there {x v : Value} {cs : List Value} {o : Nat} [i : Idx cs o v] : Idx (x :: cs) (o + 1) v := ⟨by simpa using i.idx⟩

-- ================================================================ memory: addresses, loads
section
variable {P : Program} {s : Str} {L : List HP} {env : Env} {d : Option Tmp} {ty : TypeId} {pos : String} {aft : Array Edge} {g : Option (Nat × Bool)} {v : Value}

theorem run_info {t : TypeId} {z : Value} {n b : Nat} [i : TyI P t z n b] (w : World) : ∃ i, (typeInfo t).run P w = .ok i w ∧ i.zero = some z ∧ i.size = n ∧ i.bytes = b := by
  obtain ⟨i, h1, h2⟩ := i.inf; exact ⟨i, by simp [typeInfo, h1], h2⟩
theorem run_sizeOf {t : TypeId} {z : Value} {n b : Nat} [i : TyI P t z n b] (w : World) : (sizeOf t).run P w = .ok n w := by
  obtain ⟨i, h1, _, h2, _⟩ := run_info (P := P) (t := t) w; simp [sizeOf, h1, h2]
theorem run_zeroValue {t : TypeId} {z : Value} {n b : Nat} [i : TyI P t z n b] (w : World) : (zeroValue t).run P w = .ok z w := by
  obtain ⟨i, h1, h2, _⟩ := run_info (P := P) (t := t) w; simp [zeroValue, h1, h2]
theorem run_isAgg {t : TypeId} {dd : TypeDesc} [i : Ty P t dd] (w : World) : (isAgg t).run P w = .ok (!scal dd) w := by
  cases dd <;> simp [isAgg, run_underlying i.und, scal]
theorem sat_row {w : World} {b : Nat} {T : TypeId} {cs : List Value} [i : GetPt L b (.cells ⟨cs⟩ T (0, 0))] (h : sat s w L) : w.heap[b]? = some (.cells ⟨cs⟩ T (0, 0)) := sat_get h
theorem sat_cell {w : World} {b o : Nat} {T : TypeId} {cs : List Value} [i : GetPt L b (.cells ⟨cs⟩ T (0, 0))] (h : sat s w L) : w.cell? ⟨b, o, none⟩ = cs[o]? := by
  rw [cell_of_row w b o ⟨cs⟩ T (0, 0) (sat_row h)]; simp

theorem run_isAggS {t : TypeId} [i : TyS P t] (w : World) : (isAgg t).run P w = .ok false w := by
  obtain ⟨dd, h1, h2⟩ := i.sc
  cases dd <;> simp at h2 <;> simp [isAgg, run_underlying h1]
theorem run_isAggA {t : TypeId} {m : Nat} [i : TyA P t m] (w : World) : (isAgg t).run P w = .ok true w := by
  obtain ⟨dd, h1, h2⟩ := i.ag
  cases dd <;> simp at h2 <;> simp [isAgg, run_underlying h1]
theorem run_sizeA {t : TypeId} {m : Nat} [i : TyA P t m] (w : World) : (sizeOf t).run P w = .ok m w := by
  obtain ⟨i, h1, h2⟩ := i.sz; simp [sizeOf, typeInfo, h1, h2]
theorem rd_fieldAddr {x : Operand} {T u i off sz : Nat} {b o : Nat} [f : Fld P T i u off sz] (hx : ev env x = some (.pointer (some ⟨b, o, none⟩))) :
    Rd P L env ⟨d, .fieldAddr T x i, ty, pos, aft, g⟩ (.pointer (some ⟨b, o + off, none⟩)) := fun ρ s w e _ => by
  obtain ⟨fs, fd, h1, h2, h3, h4⟩ := f.fld
  obtain ⟨ii, h5, h6, h7⟩ := f.pos
  simp [execOp, e x _ hx, Instr.fieldAt, run_underlying h1, h2, h3, h4, Instr.sureAddr, fieldPlace, sizeOf, typeInfo, h5, h6, h7, Addr.add_lit]
theorem rd_loadX {x : Operand} {t T : TypeId} {b o : Nat} {cs : List Value} [i : TyS P t] (hx : ev env x = some (.pointer (some ⟨b, o, none⟩))) [r : GetPt L b (.cells ⟨cs⟩ T (0, 0))]
    (hc : cs[o]? = some v) : Rd P L env ⟨d, .load t x, ty, pos, aft, g⟩ v := fun ρ s w e l => by
  have hcell : w.cell? ⟨b, o, none⟩ = some v := (sat_cell l).trans hc
  simp [execOp, e x _ hx, Instr.loadAt, Instr.sureAddr, loadVar, run_isAggS (P := P) (t := t), run_load, hcell]
theorem rd_load {x : Operand} {t T : TypeId} {b o : Nat} {cs : List Value} [i : TyS P t] (hx : ev env x = some (.pointer (some ⟨b, o, none⟩))) [r : GetPt L b (.cells ⟨cs⟩ T (0, 0))]
    [c : Idx cs o v] : Rd P L env ⟨d, .load t x, ty, pos, aft, g⟩ v := rd_loadX hx c.idx
theorem run_loadRow {w : World} {b o m : Nat} {T : TypeId} {cs vs : List Value} (hw : w.heap[b]? = some (.cells ⟨cs⟩ T (0, 0))) (hs : (cs.drop o).take m = vs ∧ o + m ≤ cs.length) :
    (loadCells ⟨b, o, none⟩ m).run P w = .ok ⟨vs⟩ w := by
  have hl : vs.length = m := by rw [← hs.1]; simp; omega
  have := run_loadCells_list (P := P) (w := w) ⟨b, o, none⟩ vs (fun j v hv => by
    rw [Addr.add_lit, cell_of_row w b (o + j) ⟨cs⟩ T (0, 0) hw]
    rw [← hs.1] at hv
    have hj : j < m := by
      have := (List.getElem?_eq_some_iff.1 hv).1; simp at this; omega
    rw [List.getElem?_take, if_pos hj, List.getElem?_drop] at hv
    simpa using hv)
  rw [hl] at this
  exact this
theorem rd_loadAX {x : Operand} {t T : TypeId} {b o : Nat} {cs vs : List Value} {m : Nat} [i : TyA P t m] (hx : ev env x = some (.pointer (some ⟨b, o, none⟩)))
    [r : GetPt L b (.cells ⟨cs⟩ T (0, 0))] (sg : (cs.drop o).take m = vs ∧ o + m ≤ cs.length) : Rd P L env ⟨d, .load t x, ty, pos, aft, g⟩ (.agg ⟨vs⟩) := fun ρ s w e l => by
  simp [execOp, e x _ hx, Instr.loadAt, Instr.sureAddr, loadVar, run_isAggA (P := P) (t := t), run_sizeA (P := P) (t := t), run_loadRow (P := P) (sat_row l) sg]
theorem rd_loadA {x : Operand} {t T : TypeId} {b o : Nat} {cs vs : List Value} {m : Nat} [i : TyA P t m] (hx : ev env x = some (.pointer (some ⟨b, o, none⟩)))
    [r : GetPt L b (.cells ⟨cs⟩ T (0, 0))] [sg : Seg cs o m vs] : Rd P L env ⟨d, .load t x, ty, pos, aft, g⟩ (.agg ⟨vs⟩) := rd_loadAX hx sg.seg
/-- a struct's field, an array's element, by value -/
theorem run_partS {u : TypeId} {vs : List Value} {off : Nat} [i : TyS P u] (hv : vs[off]? = some v) (w : World) : (part u ⟨vs⟩ off).run P w = .ok v w := by
  simp [part, run_isAggS (P := P) (t := u), hv]
theorem run_partA {u : TypeId} {vs us : List Value} {off m : Nat} [i : TyA P u m] (sg : (vs.drop off).take m = us ∧ off + m ≤ vs.length) (w : World) :
    (part u ⟨vs⟩ off).run P w = .ok (.agg ⟨us⟩) w := by
  have : (Array.mk vs).extract off (off + m) = ⟨us⟩ := by
    apply Array.ext'
    rw [Array.toList_extract, List.extract_eq_take_drop, ← sg.1]
    rw [show off + m - off = m from by omega]
  simp [part, run_isAggA (P := P) (t := u), run_sizeA (P := P) (t := u), this, sg.1]
theorem rd_extractT {x : Operand} {vs : List Value} {i : Nat} (hx : ev env x = some (.tuple ⟨vs⟩)) [c : Idx vs i v] : Rd P L env ⟨d, .extract x i, ty, pos, aft, g⟩ v := rd_extract hx (by simpa using c.idx)
theorem rd_field {x : Operand} {T u i off sz : Nat} {vs : List Value} [f : Fld P T i u off sz] [tu : TyS P u] (hx : ev env x = some (.agg ⟨vs⟩)) [c : Idx vs off v] :
    Rd P L env ⟨d, .field T x i, ty, pos, aft, g⟩ v := fun ρ s w e _ => by
  obtain ⟨fs, fd, h1, h2, h3, h4⟩ := f.fld
  simp [execOp, e x _ hx, Instr.field, run_underlying h1, h2, h3, h4, asAgg, run_partS (P := P) (u := u) c.idx]
theorem rd_fieldA {x : Operand} {T u i off sz m : Nat} {vs us : List Value} [f : Fld P T i u off sz] [tu : TyA P u m] (hx : ev env x = some (.agg ⟨vs⟩)) [sg : Seg vs off m us] :
    Rd P L env ⟨d, .field T x i, ty, pos, aft, g⟩ (.agg ⟨us⟩) := fun ρ s w e _ => by
  obtain ⟨fs, fd, h1, h2, h3, h4⟩ := f.fld
  simp [execOp, e x _ hx, Instr.field, run_underlying h1, h2, h3, h4, asAgg, run_partA (P := P) (u := u) sg.seg]
theorem rd_index_addr {x y : Operand} {t e' : TypeId} {z : Value} {sz bz : Nat} {b o m c : Nat} {K : IntKind} {i : Int} [tt : Ty P t (.slice e')] [ti : TyI P e' z sz bz]
    (hx : ev env x = some (.slice (some ⟨b, o, none⟩) m c)) (hy : ev env y = some (.int K i)) (h0 : 0 ≤ i) (h1 : i < m) :
    Rd P L env ⟨d, .indexAddr t x y, ty, pos, aft, g⟩ (.pointer (some ⟨b, o + i.toNat * sz, none⟩)) := fun ρ s w e _ => by
  simp [execOp, e x _ hx, e y _ hy, Instr.indexAt, asIntOf, run_underlying tt.und, h0, h1, run_sizeOf (P := P) (t := e'), Addr.add_lit]
theorem rd_index_addrA {x y : Operand} {t e' : TypeId} {z : Value} {sz bz : Nat} {b o m : Nat} {K : IntKind} {i : Int} [tt : Ty P t (.array m e')] [ti : TyI P e' z sz bz]
    (hx : ev env x = some (.pointer (some ⟨b, o, none⟩))) (hy : ev env y = some (.int K i)) (h0 : 0 ≤ i) (h1 : i < m) :
    Rd P L env ⟨d, .indexAddr t x y, ty, pos, aft, g⟩ (.pointer (some ⟨b, o + i.toNat * sz, none⟩)) := fun ρ s w e _ => by
  simp [execOp, e x _ hx, e y _ hy, Instr.indexAt, asIntOf, run_underlying tt.und, h0, h1, run_sizeOf (P := P) (t := e'), Addr.add_lit, Instr.sureAddr]
theorem rd_index {x y : Operand} {t e' : TypeId} {z : Value} {sz bz m : Nat} {K : IntKind} {i : Int} {vs : List Value} [tt : Ty P t (.array m e')] [ti : TyI P e' z sz bz] [te : TyS P e']
    (hx : ev env x = some (.agg ⟨vs⟩)) (hy : ev env y = some (.int K i)) (h0 : 0 ≤ i) (h1 : i < m) (hv : vs[i.toNat * sz]? = some v) :
    Rd P L env ⟨d, .index t x y, ty, pos, aft, g⟩ v := fun ρ s w e _ => by
  simp [execOp, e x _ hx, e y _ hy, Instr.index, asIntOf, run_underlying tt.und, h0, h1, run_sizeOf (P := P) (t := e'), run_partS (P := P) (u := e') hv]
end

-- ================================================================ memory: new blocks, stores
class Cells (v : Value) (vs : outParam (List Value)) : Prop where
  cells : v.cells.toList = vs
instance {vs : List Value} : Cells (.agg ⟨vs⟩) vs := ⟨rfl⟩
instance {K : IntKind} {x : Int} : Cells (.int K x) [.int K x] := ⟨rfl⟩
instance {b : Bool} : Cells (.bool b) [.bool b] := ⟨rfl⟩
instance {b : ByteArray} : Cells (.string b) [.string b] := ⟨rfl⟩
instance {a : Option Addr} : Cells (.pointer a) [.pointer a] := ⟨rfl⟩
instance {a : Option Addr} {l c : Nat} : Cells (.slice a l c) [.slice a l c] := ⟨rfl⟩
instance {a : Option Nat} : Cells (.map a) [.map a] := ⟨rfl⟩
instance {f : Fn} {a c : Array Value} : Cells (.func f a c) [.func f a c] := ⟨rfl⟩
instance : Cells .nilFunc [.nilFunc] := ⟨rfl⟩
instance : Cells .nilIface [.nilIface] := ⟨rfl⟩
instance {t : TypeId} {v : Value} : Cells (.iface t v) [.iface t v] := ⟨rfl⟩
section
variable {P : Program} {n : Nat} {s : Str} {L : List HP} {env : Env} {k : List Fr} {Q : Exit → Act → World → Prop} {ops : Array Oper} {rest : List Oper}
variable {d : Nat} {ty : TypeId} {pos : String} {aft : Array Edge} {g : Option (Nat × Bool)} {v : Value}

theorem tro_alloc {t : TypeId} {z : Value} {sz bz : Nat} {zc : List Value} [ti : TyI P t z sz bz] [cz : Cells z zc] (hg : gd ops env g = some true) (hd : Nat.ble (d + 1) n = true)
    (h : ∀ b, TrO P n s ops (row b t zc :: L) ((d, .pointer (some ⟨b, 0, none⟩)) :: env) rest k Q) : TrO P n s ops L env (⟨some d, .alloc t, ty, pos, aft, g⟩ :: rest) k Q :=
  tro_wr hg hd (fun ρ s w e l => ⟨w.heap.size, w.alloc (.cells ⟨zc⟩ t (0, 0)), by simp [← cz.cells, execOp, Instr.alloc, run_zeroValue (P := P) (t := t), newVar, newRow], sat_alloc l _⟩) h
theorem tro_box {x : Operand} {t : TypeId} {vs : List Value} [cv : Cells v vs] (hx : ev env x = some v) (hg : gd ops env g = some true) (hd : Nat.ble (d + 1) n = true)
    (h : ∀ b, TrO P n s ops (row b t vs :: L) ((d, .pointer (some ⟨b, 0, none⟩)) :: env) rest k Q) : TrO P n s ops L env (⟨some d, .box t x, ty, pos, aft, g⟩ :: rest) k Q :=
  tro_wr hg hd (fun ρ s w e l => ⟨w.heap.size, w.alloc (.cells ⟨vs⟩ t (0, 0)), by simp [← cv.cells, execOp, Instr.box, e x v hx, newVar, newRow], sat_alloc l _⟩) h
theorem strOf_setRow (w : World) (b : Nat) (cs : Array Value) : strOf (w.setRow b cs) = strOf w := rfl
theorem sat_setRow {w : World} {b : Nat} {T : TypeId} {cs cs' : List Value} {L' : List HP} [r : GetPt L b (.cells ⟨cs⟩ T (0, 0))] [st : SetPt L b (.cells ⟨cs'⟩ T (0, 0)) L'] (l : sat s w L) : sat s (w.setRow b ⟨cs'⟩) L' :=
  sat_set (i := st) l rfl (setRow_heap w b ⟨cs⟩ ⟨cs'⟩ T (0, 0) (sat_row l)) (fun c hc => setRow_other w b c _ hc)
theorem run_storeRow {w : World} {b o : Nat} {T : TypeId} {cs vs : List Value} (hw : w.heap[b]? = some (.cells ⟨cs⟩ T (0, 0))) (hl : o + vs.length ≤ cs.length) (h1 : ∀ v ∈ vs, v.oneCell' = true) :
    (storeCells ⟨b, o, none⟩ vs).run P w = .ok () (w.setRow b ⟨ovw cs o vs⟩) := by
  have := run_storeCells_at P b o T vs 0 ⟨cs⟩ w hw (by simpa using hl) h1
  simpa [ovw] using this
def ones (vs : List Value) : Bool := vs.all Value.oneCell'
theorem tro_store {x y : Operand} {t T : TypeId} {z : Value} {sz bz : Nat} {b o : Nat} {cs cs' vs : List Value} {L' : List HP} [ti : TyI P t z sz bz]
    (hg : gd ops env g = some true) (hx : ev env x = some (.pointer (some ⟨b, o, none⟩))) (hy : ev env y = some v) [cv : Cells v vs] (hsz : Nat.beq vs.length sz = true) (h1 : ones vs = true)
    [r : GetPt L b (.cells ⟨cs⟩ T (0, 0))] [ow : Ovw cs o vs cs'] [st : SetPt L b (.cells ⟨cs'⟩ T (0, 0)) L']
    (h : TrO P n s ops L' env rest k Q) : TrO P n s ops L env (⟨none, .store t x y, ty, pos, aft, g⟩ :: rest) k Q :=
  tro_wr0 hg (fun ρ s w e l => ⟨w.setRow b ⟨cs'⟩, by
    have hrun := run_storeRow (P := P) (sat_row (b := b) (T := T) (cs := cs) l) ow.ovw.2 (fun v hv => by have := List.all_eq_true.1 h1 v hv; exact this)
    rw [ow.ovw.1] at hrun
    simp [execOp, e x _ hx, e y _ hy, Instr.storeAt, Instr.sureAddr, storeVar, run_sizeOf (P := P) (t := t), cv.cells, show v.cells.size = sz from by rw [← Array.length_toList, cv.cells]; exact Nat.eq_of_beq_eq_true hsz, hrun], sat_setRow l⟩) h
end

-- ================================================================ calls
section
variable {P : Program}
/-- A contract: memory that meets 'pre' and whatever else, and the call ends in some x of which 'pure' holds, with the value 'val x', in memory that meets 'post x' and that else. -/
def Spec (P : Program) (f : FuncId) (args : List Value) (pre : List HP) {X : Type} (pr : X → Prop) (val : X → Value) (pst : X → List HP) : Prop :=
  ∀ (F : List HP) (s : Str) (w : World), sat s w (pre ++ F) → Calls P f ⟨args⟩ w fun e w' => ∃ x, pr x ∧ e = .returned (val x) ∧ sat s w' (pst x ++ F)
/-- A call that only computes (and reads what C says of memory). -/
def SpecR (P : Program) (f : FuncId) (args : List Value) (C : List HP → Prop) (v : Value) : Prop :=
  ∀ (F : List HP) (s : Str) (w : World), C F → sat s w F → Calls P f ⟨args⟩ w fun e w' => e = .returned v ∧ sat s w' F
abbrev SpecP (P : Program) (f : FuncId) (args : List Value) (v : Value) : Prop := SpecR P f args (fun _ => True) v

variable {n : Nat} {s : Str} {L : List HP} {env : Env} {k : List Fr} {Q : Exit → Act → World → Prop} {ops : Array Oper} {rest : List Oper}
variable {d : Nat} {ty : TypeId} {pos : String} {aft : Array Edge} {g : Option (Nat × Bool)} {v : Value}

theorem tro_calls {x : Operand} {xs : List Operand} {ts : Array TypeId} {f : FuncId} {vs : List Value} {fs cs : Array Value} {X : Type} {pr : X → Prop} {val : X → Value} {L' : X → List HP} [hb : HasBody P f]
    (hg : gd ops env g = some true) (hd : Nat.ble (d + 1) n = true) (hx : ev env x = some (.func (.func f) fs cs)) (hs : evs env xs = some vs)
    (hc : ∀ s w, sat s w L → Calls P f (fs ++ ⟨vs⟩ ++ cs) w fun e w' => ∃ x, pr x ∧ e = .returned (val x) ∧ sat s w' (L' x))
    (h : ∀ x, pr x → TrO P n s ops (L' x) ((d, val x) :: env) rest k Q) : TrO P n s ops L env (⟨some d, .call ⟨.value x, ⟨xs⟩, ts⟩, ty, pos, aft, g⟩ :: rest) k Q := by
  intro a w e l
  unfold wpList
  rw [if_pos (gd_wanted e hg)]
  left
  obtain ⟨fn, h1, h2, h3⟩ := hb.body
  have hm := evs_map e.ev xs vs hs
  have hrun : (execOp a.eval ⟨some d, .call ⟨.value x, ⟨xs⟩, ts⟩, ty, pos, aft, g⟩).run P w = .ok (.enter f (fs ++ ⟨vs⟩ ++ cs)) w := by
    simp only [execOp, resolve, e.ev x _ hx, Deferred.ofValue, invoke, callFunc, Sem.run_bind, Sem.run_pure, Result.andThen_ok, run_program, h1, h2, h3, Bool.false_eq_true, if_false, List.map_toArray, hm]
  unfold Oper.wp
  rw [hrun]
  refine (hc s w l).mono ?_
  rintro en w' ⟨y, py, rfl, l'⟩
  exact h y py _ _ (e.put hd _) l'
theorem tro_spec {x : Operand} {xs : List Operand} {ts : Array TypeId} {f : FuncId} {vs args : List Value} {fs cs : List Value} {X : Type} {pr : X → Prop} {val : X → Value} {pre F : List HP} {pst : X → List HP} [hb : HasBody P f]
    (hsp : Spec P f args pre pr val pst) (hp : List.Perm L (pre ++ F))
    (hg : gd ops env g = some true) (hd : Nat.ble (d + 1) n = true) (hx : ev env x = some (.func (.func f) ⟨fs⟩ ⟨cs⟩)) (hs : evs env xs = some vs) (ha : fs ++ vs ++ cs = args)
    (h : ∀ x, pr x → TrO P n s ops (pst x ++ F) ((d, val x) :: env) rest k Q) : TrO P n s ops L env (⟨some d, .call ⟨.value x, ⟨xs⟩, ts⟩, ty, pos, aft, g⟩ :: rest) k Q :=
  tro_calls hg hd hx hs (fun s w l => by
    have := hsp F s w (sat_perm hp l)
    rw [← ha] at this
    simpa using this) h
theorem tro_specR {x : Operand} {xs : List Operand} {ts : Array TypeId} {f : FuncId} {vs args : List Value} {fs cs : List Value} {C : List HP → Prop} [hb : HasBody P f]
    (hsp : SpecR P f args C v) (hC : C L)
    (hg : gd ops env g = some true) (hd : Nat.ble (d + 1) n = true) (hx : ev env x = some (.func (.func f) ⟨fs⟩ ⟨cs⟩)) (hs : evs env xs = some vs) (ha : fs ++ vs ++ cs = args)
    (h : TrO P n s ops L ((d, v) :: env) rest k Q) : TrO P n s ops L env (⟨some d, .call ⟨.value x, ⟨xs⟩, ts⟩, ty, pos, aft, g⟩ :: rest) k Q :=
  tro_calls (X := Unit) (pr := fun _ => True) (val := fun _ => v) (L' := fun _ => L) hg hd hx hs (fun s w l => by
    have := hsp L s w hC l
    rw [← ha] at this
    refine Calls.mono (by simpa using this) ?_
    rintro e w' ⟨rfl, l'⟩
    exact ⟨(), trivial, rfl, l'⟩) (fun _ _ => h)

-- picking by places: one or two assertions
theorem perm1 {L : List HP} (i : Nat) (h : bnd i L = true) : List.Perm L ([nth i L] ++ del i L) := del_perm h
theorem perm2 {L : List HP} (i j : Nat) (h : bnd i L = true) (h' : bnd j (del i L) = true) : List.Perm L ([nth i L, nth j (del i L)] ++ del j (del i L)) :=
  (del_perm h).trans (List.Perm.cons _ (del_perm h'))
theorem perm3 {L : List HP} (i j l : Nat) (h : bnd i L = true) (h' : bnd j (del i L) = true) (h'' : bnd l (del j (del i L)) = true) :
    List.Perm L ([nth i L, nth j (del i L), nth l (del j (del i L))] ++ del l (del j (del i L))) :=
  (del_perm h).trans (List.Perm.cons _ ((del_perm h').trans (List.Perm.cons _ (del_perm h''))))

-- entering a function
def envOf : Nat → List Value → Env
  | _, [] => []
  | i, v :: vs => (i, v) :: envOf (i + 1) vs
theorem get_envOf : ∀ (vs : List Value) (i t : Nat) (v : Value), get (envOf i vs) t = some v → i ≤ t ∧ vs[t - i]? = some v
  | [], i, t, v, h => by cases h
  | x :: vs, i, t, v, h => by
    simp only [envOf, get] at h
    by_cases e : i = t
    · subst e
      rw [show Nat.beq i i = true from Nat.beq_refl i] at h
      have h : some x = some v := h
      exact ⟨Nat.le_refl _, by simpa using h⟩
    · rw [beq_false e] at h
      obtain ⟨h1, h2⟩ := get_envOf vs (i + 1) t v h
      refine ⟨by omega, ?_⟩
      rw [show t - i = (t - (i + 1)) + 1 from by omega, List.getElem?_cons_succ]; exact h2
theorem envOk_enter (args : List Value) (m : Nat) (hm : Nat.ble args.length m = true) : EnvOk m (envOf 0 args) { tmps := (Array.mk args) ++ Array.replicate (m - (Array.mk args).size) undef, defers := [] } := by
  have hle := Nat.le_of_ble_eq_true hm
  refine ⟨by simp; omega, rfl, fun t v h => ?_⟩
  obtain ⟨_, h2⟩ := get_envOf args 0 t v h
  simp only [Nat.sub_zero] at h2
  have hlt : t < args.length := (List.getElem?_eq_some_iff.1 h2).1
  rw [Array.getElem?_append_left (by simpa using hlt)]
  simpa using h2
theorem calls_enter {f : FuncId} {fn : Func} {c : Code} {args : List Value} {m : Nat} {w : World} {R : Ending → World → Prop} {s : Str} {L : List HP} (hf : P.funcs[f]? = some fn) (hb : fn.body = some c) (hn : fn.ntmps = m)
    (hm : Nat.ble args.length m = true) (l : sat s w L) (h : TrK P m s L (envOf 0 args) c [] (bodyPost P fn R)) : Calls P f ⟨args⟩ w R := by
  subst hn
  refine calls_of_wp hf hb ?_
  exact h _ w (envOk_enter args _ hm) l
def SpecPost {X : Type} (pr : X → Prop) (val : X → Value) (pst : X → List HP) (s : Str) (F : List HP) : Ending → World → Prop := fun e w' => ∃ x, pr x ∧ e = .returned (val x) ∧ sat s w' (pst x ++ F)
def SpecRPost (v : Value) (s : Str) (F : List HP) : Ending → World → Prop := fun e w' => e = .returned v ∧ sat s w' F
theorem spec_enter {f : FuncId} {fn : Func} {c : Code} {args : List Value} {m : Nat} {pre : List HP} {X : Type} {pr : X → Prop} {val : X → Value} {pst : X → List HP} (hf : P.funcs[f]? = some fn) (hb : fn.body = some c) (hn : fn.ntmps = m)
    (hm : Nat.ble args.length m = true) (h : ∀ s F, TrK P m s (pre ++ F) (envOf 0 args) c [] (bodyPost P fn (SpecPost pr val pst s F))) : Spec P f args pre pr val pst :=
  fun F s _ l => calls_enter hf hb hn hm l (h s F)
theorem specR_enter {f : FuncId} {fn : Func} {c : Code} {args : List Value} {m : Nat} {C : List HP → Prop} {v : Value} (hf : P.funcs[f]? = some fn) (hb : fn.body = some c) (hn : fn.ntmps = m)
    (hm : Nat.ble args.length m = true) (h : ∀ s F, C F → TrK P m s F (envOf 0 args) c [] (bodyPost P fn (SpecRPost v s F))) : SpecR P f args C v :=
  fun F s _ hC l => calls_enter hf hb hn hm l (h s F hC)

-- leaving a function: the results
/-- one result -/
def Res (P : Program) (L : List HP) (env : Env) : ResultVar → Value → Prop
  | .tmp t, v => get env t = some v
  | .cell p t, v => ∃ a, get env p = some (.pointer (some a)) ∧ ∀ s w, sat s w L → (loadVar t a).run P w = .ok v w
theorem res_tmp {t : Nat} (h : get env t = some v) : Res P L env (.tmp t) v := h
theorem res_cellAX {p : Nat} {t T : TypeId} {b o : Nat} {cs vs : List Value} {m : Nat} [i : TyA P t m] (hx : get env p = some (.pointer (some ⟨b, o, none⟩)))
    [r : GetPt L b (.cells ⟨cs⟩ T (0, 0))] (sg : (cs.drop o).take m = vs ∧ o + m ≤ cs.length) : Res P L env (.cell p t) (.agg ⟨vs⟩) :=
  ⟨_, hx, fun s w l => by simp [loadVar, run_isAggA (P := P) (t := t), run_sizeA (P := P) (t := t), run_loadRow (P := P) (sat_row l) sg]⟩
theorem res_cellA {p : Nat} {t T : TypeId} {b o : Nat} {cs vs : List Value} {m : Nat} [i : TyA P t m] (hx : get env p = some (.pointer (some ⟨b, o, none⟩)))
    [r : GetPt L b (.cells ⟨cs⟩ T (0, 0))] [sg : Seg cs o m vs] : Res P L env (.cell p t) (.agg ⟨vs⟩) := res_cellAX hx sg.seg
theorem res_cell {p : Nat} {t T : TypeId} {b o : Nat} {cs : List Value} [i : TyS P t] (hx : get env p = some (.pointer (some ⟨b, o, none⟩))) [r : GetPt L b (.cells ⟨cs⟩ T (0, 0))]
    [c : Idx cs o v] : Res P L env (.cell p t) v :=
  ⟨_, hx, fun s w l => by
    have hcell : w.cell? ⟨b, o, none⟩ = some v := (sat_cell l).trans c.idx
    simp [loadVar, run_isAggS (P := P) (t := t), run_load, hcell]⟩
inductive ResL (P : Program) (L : List HP) (env : Env) : List ResultVar → List Value → Prop
  | nil : ResL P L env [] []
  | cons {r v rs vs} (h : Res P L env r v) (t : ResL P L env rs vs) : ResL P L env (r :: rs) (v :: vs)
def resV : List Value → Value
  | [v] => v
  | vs => .tuple ⟨vs⟩
def resOne (tmps : Array Value) : ResultVar → Sem Value
  | .tmp t => pure (tmps.getD t undef)
  | .cell p t => do loadVar t (← asAddr (tmps.getD p undef))
theorem run_resL {rs : List ResultVar} {vs : List Value} (h : ResL P L env rs vs) {n : Nat} {a : Act} {s : Str} {w : World} (e : EnvOk n env a) (l : sat s w L) :
    (rs.mapM (resOne a.tmps)).run P w = .ok vs w := by
  induction h with
  | nil => simp
  | @cons r v rs vs h t ih =>
    have h1 : (resOne a.tmps r).run P w = .ok v w := by
      cases r with
      | tmp t =>
        have := e.val t v h
        simp [resOne, this]
      | cell p t =>
        obtain ⟨ad, h1, h2⟩ := h
        have := e.val p _ h1
        simp [resOne, this, asAddr, h2 s w l]
    simp only [List.mapM_cons, Sem.run_bind, Sem.run_pure, h1, Result.andThen_ok, ih]
theorem results_eq (fn : Func) (tmps : Array Value) : results fn tmps = (do let vs ← fn.results.mapM (resOne tmps); pure (if h : vs.size = 1 then vs[0] else .tuple vs)) := by
  unfold results
  congr 2
theorem trx_ret {fn : Func} {R : Ending → World → Prop} {ex : Exit} {rs : List ResultVar} {vs : List Value} (hex : ex = .ret ∨ ex = .normal) (hr : fn.results = ⟨rs⟩) (h : ResL P L env rs vs)
    (hR : ∀ w, sat s w L → R (.returned (resV vs)) w) : TrX P n s ex L env [] (bodyPost P fn R) := by
  intro a w e l
  have hrun := run_resL h e l
  have hres : (results fn a.tmps).run P w = .ok (resV vs) w := by
    have h2 : ((Array.mk rs).mapM (resOne a.tmps)).run P w = .ok ⟨vs⟩ w := by
      rw [Array.mapM_eq_mapM_toList]
      simp only [Sem.run_map, hrun, Result.andThen_ok]
    rw [results_eq, hr, Sem.run_bind, h2]
    simp only [Result.andThen_ok, Sem.run_pure]
    match vs with
    | [] => rfl
    | [v] => rfl
    | v :: u :: r => simp [resV]
  rcases hex with rfl | rfl
  · exact ⟨e.dfr, _, hres, hR w l⟩
  · exact ⟨e.dfr, _, hres, hR w l⟩
theorem trx_leave {fn : Func} {ex : Exit} {rs : List ResultVar} {vs : List Value} {X : Type} {pr : X → Prop} {val : X → Value} {pst : X → List HP} {F : List HP} (hex : ex = .ret ∨ ex = .normal) (hr : fn.results = ⟨rs⟩) (h : ResL P L env rs vs)
    (x : X) (hx : pr x) (hv : resV vs = val x) (hs : Sub L (pst x ++ F)) : TrX P n s ex L env [] (bodyPost P fn (SpecPost pr val pst s F)) :=
  trx_ret hex hr h (fun _ l => ⟨x, hx, by rw [hv], sat_sub hs l⟩)
theorem trx_leaveR {fn : Func} {ex : Exit} {rs : List ResultVar} {vs : List Value} {u : Value} {F : List HP} (hex : ex = .ret ∨ ex = .normal) (hr : fn.results = ⟨rs⟩) (h : ResL P L env rs vs)
    (hv : resV vs = u) (hs : Sub L F) : TrX P n s ex L env [] (bodyPost P fn (SpecRPost u s F)) :=
  trx_ret hex hr h (fun _ l => ⟨by rw [hv], sat_sub hs l⟩)
end

attribute [irreducible] TrK TrX TrO Rd Spec SpecR SpecPost SpecRPost Res sat pt star hemp hex hp sepL post strOf

end Go.Proofs.YtliijbndfcjpfaaGreatDoor
