/- Steps in bulk: guarded tests ('a && b', 'a || b') as one value; statements whose order is open; cuts. -/
import Derived.Test.YtliijbndfcjpfaaGreatDoorFr
namespace Go.Proofs.YtliijbndfcjpfaaGreatDoor
open Go.RowKit

def putE (env : Env) : Option Tmp → Value → Env
  | some d, v => (d, v) :: env
  | none, _ => env
def dok (n : Nat) : Option Tmp → Bool
  | some d => Nat.ble (d + 1) n
  | none => true
theorem EnvOk.putE {n : Nat} {env : Env} {a : Act} (h : EnvOk n env a) {d : Option Tmp} (hd : dok n d = true) (v : Value) : EnvOk n (putE env d v) (a.put d v) := by
  cases d with
  | none => exact h
  | some d => exact h.put hd v

/-- An operation, or a call, that leaves L as it is, and its value. -/
def RdW (P : Program) (L : List HP) (env : Env) (o : Oper) (v : Value) : Prop :=
  ∀ (ρ : Operand → Value) (s : Str) (w : World), (∀ x y, ev env x = some y → ρ x = y) → sat s w L → (execOp ρ o).run P w = .ok (.value v) w ∨
    ∃ f args, (execOp ρ o).run P w = .ok (.enter f args) w ∧ Calls P f args w fun e w' => e = .returned v ∧ sat s w' L
theorem RdW.of {P : Program} {L : List HP} {env : Env} {o : Oper} {v : Value} (h : Rd P L env o v) : RdW P L env o v := by
  unfold Rd at h
  exact fun ρ s w e l => .inl (h ρ s w e l)
/-- A run of operations that only read, in the text's order, with their values. -/
inductive RdL (P : Program) (ops : Array Oper) (L : List HP) : Env → List Oper → List Value → Prop
  | nil {env} : RdL P ops L env [] []
  | cons {env o rest v vs} (hg : gd ops env o.guard = some true) (hr : RdW P L env o v) (t : RdL P ops L (putE env o.dst v) rest vs) : RdL P ops L env (o :: rest) (v :: vs)
  | skip {env o rest vs} (hg : gd ops env o.guard = some false) (t : RdL P ops L (putE env o.dst undef) rest vs) : RdL P ops L env (o :: rest) (undef :: vs)
def envFin : Env → List Oper → List Value → Env
  | env, o :: r, v :: vs => envFin (putE env o.dst v) r vs
  | env, _, _ => env
/-- the same, with the slots at its end -/
inductive RdE (P : Program) (ops : Array Oper) (L : List HP) : Env → List Oper → Env → Prop
  | nil {env} : RdE P ops L env [] env
  | cons {env o rest v e'} (hg : gd ops env o.guard = some true) (hr : RdW P L env o v) (t : RdE P ops L (putE env o.dst v) rest e') : RdE P ops L env (o :: rest) e'
  | skip {env o rest e'} (hg : gd ops env o.guard = some false) (t : RdE P ops L (putE env o.dst undef) rest e') : RdE P ops L env (o :: rest) e'
theorem rde_cons {P : Program} {ops : Array Oper} {L : List HP} {env e' : Env} {rest : List Oper} {d : Nat} {op : Op} {ty : TypeId} {pos : String} {aft : Array Edge} {g : Option (Nat × Bool)} {v : Value} (hg : gd ops env g = some true) (hr : Rd P L env ⟨some d, op, ty, pos, aft, g⟩ v)
    (t : RdE P ops L ((d, v) :: env) rest e') : RdE P ops L env (⟨some d, op, ty, pos, aft, g⟩ :: rest) e' := RdE.cons hg (RdW.of hr) t
theorem rde_consW {P : Program} {ops : Array Oper} {L : List HP} {env e' : Env} {rest : List Oper} {d : Nat} {op : Op} {ty : TypeId} {pos : String} {aft : Array Edge} {g : Option (Nat × Bool)} {v : Value} (hg : gd ops env g = some true) (hr : RdW P L env ⟨some d, op, ty, pos, aft, g⟩ v)
    (t : RdE P ops L ((d, v) :: env) rest e') : RdE P ops L env (⟨some d, op, ty, pos, aft, g⟩ :: rest) e' := RdE.cons hg hr t
theorem rde_skip {P : Program} {ops : Array Oper} {L : List HP} {env e' : Env} {rest : List Oper} {d : Nat} {op : Op} {ty : TypeId} {pos : String} {aft : Array Edge} {g : Option (Nat × Bool)} (hg : gd ops env g = some false)
    (t : RdE P ops L ((d, undef) :: env) rest e') : RdE P ops L env (⟨some d, op, ty, pos, aft, g⟩ :: rest) e' := RdE.skip hg t
theorem RdE.list {P : Program} {ops : Array Oper} {L : List HP} {env e' : Env} {G : List Oper} (h : RdE P ops L env G e') : ∃ vs, RdL P ops L env G vs ∧ envFin env G vs = e' := by
  induction h with
  | nil => exact ⟨[], .nil, rfl⟩
  | @cons env o rest v e' hg hr t ih => obtain ⟨vs, h1, h2⟩ := ih; exact ⟨v :: vs, .cons hg hr h1, h2⟩
  | @skip env o rest e' hg t ih => obtain ⟨vs, h1, h2⟩ := ih; exact ⟨undef :: vs, .skip hg h1, h2⟩
def doks (n : Nat) (l : List Oper) : Bool := l.all fun o => dok n o.dst

section
variable {P : Program} {n : Nat} {s : Str} {L : List HP} {env : Env} {k : List Fr} {Q : Exit → Act → World → Prop} {ops : Array Oper} {rest : List Oper}

theorem wpList_reads {G rest : List Oper} {vs : List Value} {env : Env} (h : RdL P ops L env G vs) : ∀ {a : Act} {w : World} {Q : Exit → Act → World → Prop}, doks n G = true → EnvOk n env a → sat s w L →
    (∀ a' w', EnvOk n (envFin env G vs) a' → sat s w' L → wpList P ops Q rest a' w') → wpList P ops Q (G ++ rest) a w := by
  induction h with
  | nil => intro a w Q _ e l hk; exact hk a w e l
  | @cons env o G v vs hg hr t ih =>
    intro a w Q hd e l hk
    simp only [doks, List.all_cons, Bool.and_eq_true] at hd
    rw [List.cons_append]
    unfold wpList
    rw [if_pos (gd_wanted e hg)]
    left
    unfold Oper.wp
    rcases hr a.eval s w e.ev l with h1 | ⟨f, args, h1, h2⟩
    · rw [h1]
      exact ih hd.2 (e.putE hd.1 v) l hk
    · rw [h1, Oper.upon_enter]
      refine h2.mono ?_
      rintro en w' ⟨rfl, l'⟩
      exact ih hd.2 (e.putE hd.1 v) l' hk
  | @skip env o G vs hg t ih =>
    intro a w Q hd e l hk
    simp only [doks, List.all_cons, Bool.and_eq_true] at hd
    rw [List.cons_append]
    unfold wpList
    rw [if_neg (by rw [gd_wanted e hg]; simp)]
    exact ih hd.2 (e.putE hd.1 undef) l hk

/-- none of the slots that G writes is a key of env -/
def fresh (env : Env) (G : List Oper) : Bool := G.all fun o => match o.dst with
  | some d => !(env.any fun p => Nat.beq p.1 d)
  | none => true
theorem get_fresh {env : Env} {d t : Nat} {v : Value} (h : (env.any fun p => Nat.beq p.1 d) = false) (ht : get env t = some v) : d ≠ t := by
  rintro rfl
  induction env with
  | nil => cases ht
  | cons p env ih =>
    simp only [List.any_cons, Bool.or_eq_false_iff] at h
    obtain ⟨h1, h2⟩ := h
    obtain ⟨x, y⟩ := p
    simp only [get] at ht
    rw [show Nat.beq x d = false from h1] at ht
    exact ih h2 ht
theorem envFin_sub : ∀ {G : List Oper} {vs : List Value} {env env0 : Env}, fresh env0 G = true → EnvSub env0 env → EnvSub env0 (envFin env G vs)
  | [], _, env, env0, _, h => by cases ‹List Value› <;> exact h
  | o :: G, [], env, env0, _, h => h
  | o :: G, v :: vs, env, env0, hf, h => by
    simp only [fresh, List.all_cons, Bool.and_eq_true] at hf
    refine envFin_sub (G := G) (vs := vs) (env0 := env0) hf.2 ?_
    cases hd : o.dst with
    | none => exact h
    | some d =>
      have h1 := hf.1
      rw [hd] at h1
      simp only [Bool.not_eq_true'] at h1
      intro t u ht
      have hne := get_fresh h1 ht
      show get ((d, v) :: env) t = some u
      simp only [get]
      rw [beq_false hne]
      exact h t u ht
theorem wpList_skips {G rest : List Oper} {env : Env} {j : Nat} {want b : Bool} (hg : gd ops env (some (j, want)) = some b) (hb : b = false) (hG : (G.all fun o => o.guard == some (j, want)) = true) (hf : fresh env G = true) :
    ∀ {a : Act} {w : World} {Q : Exit → Act → World → Prop}, doks n G = true → EnvOk n env a → (∀ a', EnvOk n env a' → wpList P ops Q rest a' w) → wpList P ops Q (G ++ rest) a w := by
  subst hb
  induction G with
  | nil => intro a w Q _ e hk; exact hk a e
  | cons o G ih =>
    intro a w Q hd e hk
    simp only [doks, List.all_cons, Bool.and_eq_true] at hd hG
    have hf' := hf
    simp only [fresh, List.all_cons, Bool.and_eq_true] at hf
    have ho : o.guard = some (j, want) := by simpa using hG.1
    rw [List.cons_append]
    unfold wpList
    rw [if_neg (by rw [gd_wanted e (by rw [ho]; exact hg)]; simp)]
    refine ih hG.2 hf.2 hd.2 ((e.putE hd.1 undef).sub ?_) hk
    cases hdst : o.dst with
    | none => exact EnvSub.refl
    | some d =>
      have h1 := hf.1
      rw [hdst] at h1
      simp only [Bool.not_eq_true'] at h1
      intro t u ht
      show get ((d, undef) :: env) t = some u
      simp only [get]
      rw [beq_false (get_fresh h1 ht)]
      exact ht

/-- 'a || b' as one value: the m operations ahead of the pick reckon b where a is false. -/
theorem tro_or0 (m : Nat) {d j : Nat} {c y : Operand} {ty : TypeId} {pos : String} {aft : Array Edge} {cb vb : Bool} {vs : List Value} {rest' : List Oper}
    (hsp : rest.drop m = ⟨some d, .pick c (.const (.bool true)) y, ty, pos, aft, none⟩ :: rest') (hG : ((rest.take m).all fun o => o.guard == some (j, false)) = true) (hc : ev env c = some (.bool cb)) (hgd : gd ops env (some (j, false)) = some (cb == false))
    (hd : (doks n (rest.take m) && Nat.ble (d + 1) n && fresh env (rest.take m)) = true)
    (hr : cb = false → RdL P ops L env (rest.take m) vs) (hy : cb = false → ev (envFin env (rest.take m) vs) y = some (.bool vb))
    (h : TrO P n s ops L ((d, .bool (cb || vb)) :: env) rest' k Q) : TrO P n s ops L env rest k Q := by
  unfold TrO at h ⊢
  intro a w e l
  have hrest : rest = rest.take m ++ (⟨some d, .pick c (.const (.bool true)) y, ty, pos, aft, none⟩ :: rest') := by rw [← hsp, List.take_append_drop]
  simp only [Bool.and_eq_true] at hd
  obtain ⟨⟨hd1, hd2⟩, hd3⟩ := hd
  rw [hrest]
  cases cb with
  | true =>
    refine wpList_skips (n := n) hgd rfl hG hd3 hd1 e ?_
    intro a' e'
    unfold wpList
    rw [if_pos (by simp [Region.wanted])]
    left
    unfold Oper.wp
    have hr2 := rd_pickT (P := P) (L := L) (d := some d) (ty := ty) (pos := pos) (aft := aft) (g := none) (x := .const (.bool true)) (y := y) hc rfl
    unfold Rd at hr2
    rw [hr2 a'.eval s w e'.ev l]
    exact h _ _ (e'.put hd2 _) l
  | false =>
    refine wpList_reads (n := n) (s := s) (hr rfl) hd1 e l ?_
    intro a' w e' l
    have hsub : EnvSub env (envFin env (rest.take m) vs) := envFin_sub hd3 EnvSub.refl
    have hc' : ev (envFin env (rest.take m) vs) c = some (.bool false) := by
      cases c with
      | tmp t => exact hsub t _ hc
      | const c => exact hc
      | global c => exact hc
      | func c => exact hc
    unfold wpList
    rw [if_pos (by simp [Region.wanted])]
    left
    unfold Oper.wp
    have hr2 := rd_pickF (P := P) (L := L) (d := some d) (ty := ty) (pos := pos) (aft := aft) (g := none) (x := .const (.bool true)) (y := y) hc' (hy rfl)
    unfold Rd at hr2
    rw [hr2 a'.eval s w e'.ev l]
    refine h _ _ ((e'.put hd2 _).sub ?_) l
    intro t u ht
    simp only [get] at ht ⊢
    cases hb : Nat.beq d t with
    | true => rw [hb] at ht; simpa using ht
    | false => rw [hb] at ht; exact hsub t u ht
/-- 'a && b' as one value. -/
theorem tro_and0 (m : Nat) {d j : Nat} {c y : Operand} {ty : TypeId} {pos : String} {aft : Array Edge} {cb vb : Bool} {vs : List Value} {rest' : List Oper}
    (hsp : rest.drop m = ⟨some d, .pick c y (.const (.bool false)), ty, pos, aft, none⟩ :: rest') (hG : ((rest.take m).all fun o => o.guard == some (j, true)) = true) (hc : ev env c = some (.bool cb)) (hgd : gd ops env (some (j, true)) = some (cb == true))
    (hd : (doks n (rest.take m) && Nat.ble (d + 1) n && fresh env (rest.take m)) = true)
    (hr : cb = true → RdL P ops L env (rest.take m) vs) (hy : cb = true → ev (envFin env (rest.take m) vs) y = some (.bool vb))
    (h : TrO P n s ops L ((d, .bool (cb && vb)) :: env) rest' k Q) : TrO P n s ops L env rest k Q := by
  unfold TrO at h ⊢
  intro a w e l
  have hrest : rest = rest.take m ++ (⟨some d, .pick c y (.const (.bool false)), ty, pos, aft, none⟩ :: rest') := by rw [← hsp, List.take_append_drop]
  simp only [Bool.and_eq_true] at hd
  obtain ⟨⟨hd1, hd2⟩, hd3⟩ := hd
  rw [hrest]
  cases cb with
  | false =>
    refine wpList_skips (n := n) hgd rfl hG hd3 hd1 e ?_
    intro a' e'
    unfold wpList
    rw [if_pos (by simp [Region.wanted])]
    left
    unfold Oper.wp
    have hr2 := rd_pickF (P := P) (L := L) (d := some d) (ty := ty) (pos := pos) (aft := aft) (g := none) (x := y) (y := .const (.bool false)) hc rfl
    unfold Rd at hr2
    rw [hr2 a'.eval s w e'.ev l]
    exact h _ _ (e'.put hd2 _) l
  | true =>
    refine wpList_reads (n := n) (s := s) (hr rfl) hd1 e l ?_
    intro a' w e' l
    have hsub : EnvSub env (envFin env (rest.take m) vs) := envFin_sub hd3 EnvSub.refl
    have hc' : ev (envFin env (rest.take m) vs) c = some (.bool true) := by
      cases c with
      | tmp t => exact hsub t _ hc
      | const c => exact hc
      | global c => exact hc
      | func c => exact hc
    unfold wpList
    rw [if_pos (by simp [Region.wanted])]
    left
    unfold Oper.wp
    have hr2 := rd_pickT (P := P) (L := L) (d := some d) (ty := ty) (pos := pos) (aft := aft) (g := none) (x := y) (y := .const (.bool false)) hc' (hy rfl)
    unfold Rd at hr2
    rw [hr2 a'.eval s w e'.ev l]
    refine h _ _ ((e'.put hd2 _).sub ?_) l
    intro t u ht
    simp only [get] at ht ⊢
    cases hb : Nat.beq d t with
    | true => rw [hb] at ht; simpa using ht
    | false => rw [hb] at ht; exact hsub t u ht

theorem tro_or (m : Nat) {d j : Nat} {c y : Operand} {ty : TypeId} {pos : String} {aft : Array Edge} {cb vb : Bool} {e' : Env} {rest' : List Oper}
    (hsp : rest.drop m = ⟨some d, .pick c (.const (.bool true)) y, ty, pos, aft, none⟩ :: rest') (hG : ((rest.take m).all fun o => o.guard == some (j, false)) = true) (hc : ev env c = some (.bool cb)) (hgd : gd ops env (some (j, false)) = some (cb == false))
    (hd : (doks n (rest.take m) && Nat.ble (d + 1) n && fresh env (rest.take m)) = true)
    (hr : cb = false → RdE P ops L env (rest.take m) e') (hy : cb = false → ev e' y = some (.bool vb))
    (h : TrO P n s ops L ((d, .bool (cb || vb)) :: env) rest' k Q) : TrO P n s ops L env rest k Q := by
  by_cases hcb : cb = false
  · obtain ⟨vs, h1, h2⟩ := (hr hcb).list
    exact tro_or0 m (vs := vs) hsp hG hc hgd hd (fun _ => h1) (fun _ => by rw [h2]; exact hy hcb) h
  · exact tro_or0 m (vs := []) hsp hG hc hgd hd (fun e => absurd e hcb) (fun e => absurd e hcb) h
theorem tro_and (m : Nat) {d j : Nat} {c y : Operand} {ty : TypeId} {pos : String} {aft : Array Edge} {cb vb : Bool} {e' : Env} {rest' : List Oper}
    (hsp : rest.drop m = ⟨some d, .pick c y (.const (.bool false)), ty, pos, aft, none⟩ :: rest') (hG : ((rest.take m).all fun o => o.guard == some (j, true)) = true) (hc : ev env c = some (.bool cb)) (hgd : gd ops env (some (j, true)) = some (cb == true))
    (hd : (doks n (rest.take m) && Nat.ble (d + 1) n && fresh env (rest.take m)) = true)
    (hr : cb = true → RdE P ops L env (rest.take m) e') (hy : cb = true → ev e' y = some (.bool vb))
    (h : TrO P n s ops L ((d, .bool (cb && vb)) :: env) rest' k Q) : TrO P n s ops L env rest k Q := by
  by_cases hcb : cb = true
  · obtain ⟨vs, h1, h2⟩ := (hr hcb).list
    exact tro_and0 m (vs := vs) hsp hG hc hgd hd (fun _ => h1) (fun _ => by rw [h2]; exact hy hcb) h
  · exact tro_and0 m (vs := []) hsp hG hc hgd hd (fun e => absurd e hcb) (fun e => absurd e hcb) h

theorem ev_sub {e' env : Env} (h : EnvSub e' env) {x : Operand} {v : Value} (hx : ev e' x = some v) : ev env x = some v := by
  cases x with
  | tmp t => exact h t v hx
  | const c => exact hx
  | global c => exact hx
  | func c => exact hx
theorem gd_sub {e' env : Env} (h : EnvSub e' env) {g : Option (Nat × Bool)} {b : Bool} (hg : gd ops e' g = some b) : gd ops env g = some b := by
  cases g with
  | none => exact hg
  | some jw =>
    obtain ⟨j, want⟩ := jw
    simp only [gd] at hg ⊢
    cases hd : (ops[j]?).bind (·.dst) with
    | none => rw [hd] at hg; simp at hg
    | some d =>
      rw [hd] at hg
      simp only [Option.bind_some] at hg ⊢
      cases hv : get e' d with
      | none => rw [hv] at hg; cases hg
      | some v => rw [hv] at hg; rw [h d v hv]; exact hg
theorem envSub_put {e' env : Env} (h : EnvSub e' env) (d : Option Tmp) (v : Value) : EnvSub (putE e' d v) (putE env d v) := by
  cases d with
  | none => exact h
  | some d =>
    intro t u ht
    simp only [putE, get] at ht ⊢
    cases hb : Nat.beq d t with
    | true => rw [hb] at ht; exact ht
    | false => rw [hb] at ht; exact h t u ht
theorem rd_sub {e' env : Env} (h : EnvSub e' env) {o : Oper} {v : Value} (hr : RdW P L e' o v) : RdW P L env o v := by
  exact fun ρ s w e l => hr ρ s w (fun x y hx => e x y (ev_sub h hx)) l
theorem rde_sub {G : List Oper} {e1 e2 : Env} (hr : RdE P ops L e1 G e2) : ∀ {env : Env}, EnvSub e1 env → ∃ e3, RdE P ops L env G e3 ∧ EnvSub e2 e3 := by
  induction hr with
  | nil => intro env h; exact ⟨env, .nil, h⟩
  | cons hg hr t ih =>
    intro env h
    obtain ⟨e3, h1, h2⟩ := ih (envSub_put h _ _)
    exact ⟨e3, .cons (gd_sub h hg) (rd_sub h hr) h1, h2⟩
  | skip hg t ih =>
    intro env h
    obtain ⟨e3, h1, h2⟩ := ih (envSub_put h _ _)
    exact ⟨e3, .skip (gd_sub h hg) h1, h2⟩
/-- the operations of one guard, and what follows them -/
def cutG (j : Nat) (b : Bool) : List Oper → List Oper × List Oper
  | [] => ([], [])
  | o :: r => match o.guard with
    | some (i, c) => bif Nat.beq i j && (c == b) then (o :: (cutG j b r).1, (cutG j b r).2) else ([], o :: r)
    | none => ([], o :: r)
theorem cutG_spec {j : Nat} {b : Bool} : ∀ {l G r : List Oper}, cutG j b l = (G, r) → l = G ++ r ∧ (G.all fun o => o.guard == some (j, b)) = true
  | [], G, r, h => by simp [cutG] at h; obtain ⟨rfl, rfl⟩ := h; simp
  | o :: l, G, r, h => by
    have key : (∃ i c, o.guard = some (i, c) ∧ i = j ∧ c = b) ∨ cutG j b (o :: l) = ([], o :: l) := by
      cases hg : o.guard with
      | none => right; simp [cutG, hg]
      | some ic =>
        obtain ⟨i, c⟩ := ic
        by_cases hh : i = j ∧ c = b
        · left; exact ⟨i, c, rfl, hh⟩
        · right
          have : (Nat.beq i j && (c == b)) = false := by
            cases hb : Nat.beq i j with
            | false => rfl
            | true =>
              have := Nat.eq_of_beq_eq_true hb
              cases hc : (c == b) with
              | false => rfl
              | true => exact absurd ⟨this, by simpa using hc⟩ hh
          simp [cutG, hg, this]
    rcases key with ⟨i, c, hg, rfl, rfl⟩ | hk
    · have hb : Nat.beq i i = true := Nat.beq_refl i
      simp only [cutG, hg, hb, beq_self_eq_true, Bool.and_self, cond_true, Prod.mk.injEq] at h
      obtain ⟨rfl, h2⟩ := h
      have ih := cutG_spec (j := i) (b := c) (l := l) (G := (cutG i c l).1) (r := (cutG i c l).2) rfl
      rw [← h2]
      refine ⟨by rw [List.cons_append, ← ih.1], ?_⟩
      rw [List.all_cons, ih.2, hg]; simp
    · rw [hk] at h
      simp only [Prod.mk.injEq] at h
      obtain ⟨rfl, rfl⟩ := h
      simp
theorem tro_orG {d j dj : Nat} {y : Operand} {ty : TypeId} {pos : String} {aft : Array Edge} {o : Oper} {cb vb : Bool} {e' : Env} {G rest' : List Oper}
    (_hg : o.guard = some (j, false)) (hcut : cutG j false (o :: rest) = (G, ⟨some d, .pick (.tmp dj) (.const (.bool true)) y, ty, pos, aft, none⟩ :: rest')) (hj : (ops[j]?).bind (·.dst) = some dj) (hc : get env dj = some (.bool cb))
    (hd : (doks n G && Nat.ble (d + 1) n && fresh env G) = true)
    (hr : RdE P ops L ((dj, .bool false) :: env) G e') (hy : ev e' y = some (.bool vb))
    (h : TrO P n s ops L ((d, .bool (cb || vb)) :: env) rest' k Q) : TrO P n s ops L env (o :: rest) k Q := by
  obtain ⟨h1, h2⟩ := cutG_spec hcut
  by_cases hcb : cb = false
  · subst hcb
    obtain ⟨e3, g1, g2⟩ := rde_sub hr (env := env) (fun t u ht => by
      simp only [get] at ht
      cases hb : Nat.beq dj t with
      | true => rw [hb] at ht; have ht : some (Value.bool false) = some u := ht; rw [← ht, ← Nat.eq_of_beq_eq_true hb]; exact hc
      | false => rw [hb] at ht; exact ht)
    exact tro_or G.length (c := .tmp dj) (cb := false) (vb := vb) (e' := e3) (by rw [h1, List.drop_left]) (by rw [h1, List.take_left]; exact h2) hc (by simp [gd, hj, hc]) (by rw [h1, List.take_left]; exact hd) (fun _ => by rw [h1, List.take_left]; exact g1) (fun _ => ev_sub g2 hy) h
  · exact tro_or G.length (c := .tmp dj) (cb := cb) (vb := vb) (e' := env) (by rw [h1, List.drop_left]) (by rw [h1, List.take_left]; exact h2) hc (by simp [gd, hj, hc]) (by rw [h1, List.take_left]; exact hd) (fun hc2 => absurd hc2 hcb) (fun hc2 => absurd hc2 hcb) h
theorem tro_andG {d j dj : Nat} {y : Operand} {ty : TypeId} {pos : String} {aft : Array Edge} {o : Oper} {cb vb : Bool} {e' : Env} {G rest' : List Oper}
    (_hg : o.guard = some (j, true)) (hcut : cutG j true (o :: rest) = (G, ⟨some d, .pick (.tmp dj) y (.const (.bool false)), ty, pos, aft, none⟩ :: rest')) (hj : (ops[j]?).bind (·.dst) = some dj) (hc : get env dj = some (.bool cb))
    (hd : (doks n G && Nat.ble (d + 1) n && fresh env G) = true)
    (hr : RdE P ops L ((dj, .bool true) :: env) G e') (hy : ev e' y = some (.bool vb))
    (h : TrO P n s ops L ((d, .bool (cb && vb)) :: env) rest' k Q) : TrO P n s ops L env (o :: rest) k Q := by
  obtain ⟨h1, h2⟩ := cutG_spec hcut
  by_cases hcb : cb = true
  · subst hcb
    obtain ⟨e3, g1, g2⟩ := rde_sub hr (env := env) (fun t u ht => by
      simp only [get] at ht
      cases hb : Nat.beq dj t with
      | true => rw [hb] at ht; have ht : some (Value.bool true) = some u := ht; rw [← ht, ← Nat.eq_of_beq_eq_true hb]; exact hc
      | false => rw [hb] at ht; exact ht)
    exact tro_and G.length (c := .tmp dj) (cb := true) (vb := vb) (e' := e3) (by rw [h1, List.drop_left]) (by rw [h1, List.take_left]; exact h2) hc (by simp [gd, hj, hc]) (by rw [h1, List.take_left]; exact hd) (fun _ => by rw [h1, List.take_left]; exact g1) (fun _ => ev_sub g2 hy) h
  · exact tro_and G.length (c := .tmp dj) (cb := cb) (vb := vb) (e' := env) (by rw [h1, List.drop_left]) (by rw [h1, List.take_left]; exact h2) hc (by simp [gd, hj, hc]) (by rw [h1, List.take_left]; exact hd) (fun hc2 => absurd hc2 hcb) (fun hc2 => absurd hc2 hcb) h

/-- Ways meet again: what holds behind a piece of code. -/
theorem trk_cut {c : Code} {X : Type} (p : X → Prop) (A : X → List HP) (E : X → Env)
    (h : TrK P n s L env c (.inv (fun a w => ∃ y, p y ∧ EnvOk n (E y) a ∧ sat s w (A y)) :: k) Q) (h2 : ∀ y, p y → TrX P n s .normal (A y) (E y) k Q) : TrK P n s L env c k Q := by
  unfold TrK at h ⊢
  unfold TrX at h2
  intro a w e l
  refine wp_mono (h a w e l) ?_
  intro x a' w' hq
  unfold post at hq
  cases x with
  | normal => obtain ⟨y, py, ey, ly⟩ := hq; exact h2 y py a' w' ey ly
  | exit id => exact hq
  | goto l => exact hq
  | ret => exact hq
  | panic ch => exact hq
  | outgrown => exact hq
theorem trx_cut {X : Type} {p : X → Prop} {A : X → List HP} {E : X → Env} (y : X) (py : p y) (hE : EnvSub (E y) env) (hA : Sub L (A y)) :
    TrX P n s .normal L env (.inv (fun a w => ∃ y, p y ∧ EnvOk n (E y) a ∧ sat s w (A y)) :: k) Q := by
  unfold TrX post
  exact fun _ _ e l => ⟨y, py, e.sub hE, sat_sub hA l⟩
end

-- ================================================================ a statement whose order is open: reads in any order, then the rest in the text's
def tmpsOf (o : Oper) : List Tmp := o.op.operands.toList.filterMap fun | .tmp t => some t | _ => none
/-- the slots that an operation looks at, its guard's included -/
def sees (l : List Oper) (o : Oper) : List Tmp := tmpsOf o ++ (match o.guard with
  | some (j, _) => ((l[j]?).bind (·.dst)).toList
  | none => [])
def edgesOf (o : Oper) : List Nat := (o.after.toList.filter (Region.binds .any)).map (·.on)
def mem (t : Nat) : List Nat → Bool
  | [] => false
  | x :: r => bif Nat.beq x t then true else mem t r
theorem mem_iff {t : Nat} {l : List Nat} : mem t l = true ↔ t ∈ l := by
  induction l with
  | nil => simp [mem]
  | cons x r ih =>
    simp only [mem, List.mem_cons]
    cases h : Nat.beq x t with
    | true => simp [Nat.eq_of_beq_eq_true h]
    | false => simp only [cond_false, ih]; exact ⟨fun hr => .inr hr, fun hr => hr.resolve_left (fun e => by subst e; simp [Nat.beq_refl] at h)⟩
/-- the place of the first operation that writes slot t -/
def lk (t : Nat) : List Oper → Option Nat
  | [] => none
  | o :: G => match o.dst with
    | some d => bif Nat.beq d t then some 0 else (lk t G).map (· + 1)
    | none => (lk t G).map (· + 1)
def distinct : List Oper → Bool
  | [] => true
  | o :: G => (match o.dst with
    | some d => (lk d G).isNone
    | none => true) && distinct G
def reach (l : List Oper) : Nat → Nat → Nat → Bool
  | 0, _, _ => false
  | f + 1, i, j => match l[i]? with
    | some o => mem j (edgesOf o) || (edgesOf o).any fun e => reach l f e j
    | none => false
def allAt (p : Nat → Oper → Bool) : Nat → List Oper → Bool
  | _, [] => true
  | i, o :: r => p i o && allAt p (i + 1) r
def notSel (o : Oper) : Bool := match o.op with
  | .select _ _ => false
  | _ => true
def opCheck (l : List Oper) (m : Nat) : Bool :=
  allAt (fun i o => ((edgesOf o).all fun j => Nat.ble (j + 1) i) && notSel o && (bif Nat.ble (i + 1) m then (sees l o).all fun t => match lk t (l.take m) with
    | some j => mem j (edgesOf o)
    | none => true
   else (List.range i).all fun j => reach l i i j)) 0 l && distinct (l.take m)

theorem allAt_get {p : Nat → Oper → Bool} : ∀ {l : List Oper} {k : Nat}, allAt p k l = true → ∀ {i : Nat} {o : Oper}, l[i]? = some o → p (k + i) o = true
  | [], _, _, i, o, h => by simp at h
  | x :: l, k, hp, i, o, h => by
    simp only [allAt, Bool.and_eq_true] at hp
    cases i with
    | zero => simp at h; subst h; exact hp.1
    | succ i =>
      rw [List.getElem?_cons_succ] at h
      have := allAt_get hp.2 h
      rw [show k + (i + 1) = k + 1 + i from by omega]; exact this
theorem lk_take {t i j : Nat} : ∀ {G : List Oper}, lk t (G.take i) = some j → lk t G = some j ∧ j < i := by
  induction i generalizing j with
  | zero => intro G h; simp [lk] at h
  | succ i ih =>
    intro G h
    cases G with
    | nil => simp [lk] at h
    | cons o G =>
      rw [List.take_succ_cons] at h
      simp only [lk] at h ⊢
      cases hd : o.dst with
      | none =>
        rw [hd] at h
        simp only [Option.map_eq_some_iff] at h ⊢
        obtain ⟨j', h1, rfl⟩ := h
        have := ih h1
        exact ⟨⟨j', this.1, rfl⟩, by omega⟩
      | some d =>
        rw [hd] at h
        simp only at h ⊢
        cases hb : Nat.beq d t with
        | true => rw [hb] at h; simp at h; subst h; simp
        | false =>
          rw [hb] at h
          simp only [cond_false, Option.map_eq_some_iff] at h ⊢
          obtain ⟨j', h1, rfl⟩ := h
          have := ih h1
          exact ⟨⟨j', this.1, rfl⟩, by omega⟩
theorem lk_none_take {t i : Nat} : ∀ {G : List Oper}, lk t (G.take i) = none → ∀ {j}, lk t G = some j → i ≤ j := by
  induction i with
  | zero => intros; omega
  | succ i ih =>
    intro G h j hj
    cases G with
    | nil => simp [lk] at hj
    | cons o G =>
      rw [List.take_succ_cons] at h
      simp only [lk] at h hj
      cases hd : o.dst with
      | none =>
        rw [hd] at h hj
        simp only [Option.map_eq_none_iff, Option.map_eq_some_iff] at h hj
        obtain ⟨j', h1, rfl⟩ := hj
        have := ih h h1; omega
      | some d =>
        rw [hd] at h hj
        simp only at h hj
        cases hb : Nat.beq d t with
        | true => rw [hb] at h; simp at h
        | false =>
          rw [hb] at h hj
          simp only [cond_false, Option.map_eq_none_iff, Option.map_eq_some_iff] at h hj
          obtain ⟨j', h1, rfl⟩ := hj
          have := ih h h1; omega
theorem lk_get {t j : Nat} : ∀ {G : List Oper}, lk t G = some j → ∃ o, G[j]? = some o ∧ o.dst = some t
  | [], h => by simp [lk] at h
  | o :: G, h => by
    simp only [lk] at h
    cases hd : o.dst with
    | none =>
      rw [hd] at h
      simp only [Option.map_eq_some_iff] at h
      obtain ⟨j', h1, rfl⟩ := h
      simpa using lk_get h1
    | some d =>
      rw [hd] at h
      simp only at h
      cases hb : Nat.beq d t with
      | true => rw [hb] at h; simp at h; subst h; exact ⟨o, by simp, by rw [hd, Nat.eq_of_beq_eq_true hb]⟩
      | false =>
        rw [hb] at h
        simp only [cond_false, Option.map_eq_some_iff] at h
        obtain ⟨j', h1, rfl⟩ := h
        simpa using lk_get h1
theorem lk_of_get {t j : Nat} {o : Oper} : ∀ {G : List Oper}, distinct G = true → G[j]? = some o → o.dst = some t → lk t G = some j
  | [], _, h, _ => by simp at h
  | x :: G, hn, h, hd => by
    simp only [distinct, Bool.and_eq_true] at hn
    cases j with
    | zero =>
      simp at h; subst h
      simp only [lk, hd, Nat.beq_refl, cond_true]
    | succ j =>
      rw [List.getElem?_cons_succ] at h
      have ih := lk_of_get hn.2 h hd
      simp only [lk]
      cases hx : x.dst with
      | none => simp [ih]
      | some d =>
        have hb : Nat.beq d t = false := by
          cases hb : Nat.beq d t with
          | false => rfl
          | true =>
            have := Nat.eq_of_beq_eq_true hb
            subst this
            have h1 := hn.1
            rw [hx] at h1
            simp [ih] at h1
        simp [hb, ih]
theorem get_envFin {t : Nat} : ∀ {G : List Oper} {vs : List Value} {env : Env}, G.length = vs.length → distinct G = true → get (envFin env G vs) t = match lk t G with
    | some i => vs[i]?
    | none => get env t
  | [], vs, env, _, _ => by cases vs <;> rfl
  | o :: G, [], env, h, _ => by simp at h
  | o :: G, v :: vs, env, h, hn => by
    simp only [distinct, Bool.and_eq_true] at hn
    have ih := get_envFin (t := t) (G := G) (vs := vs) (env := putE env o.dst v) (by simpa using h) hn.2
    show get (envFin (putE env o.dst v) G vs) t = _
    rw [ih]
    simp only [lk]
    cases hd : o.dst with
    | none => cases lk t G <;> simp [putE]
    | some d =>
      simp only
      cases hb : Nat.beq d t with
      | true =>
        have := Nat.eq_of_beq_eq_true hb; subst this
        have h1 := hn.1
        rw [hd] at h1
        simp only [Option.isNone_iff_eq_none] at h1
        rw [h1]
        simp [putE, get, Nat.beq_refl]
      | false => cases lk t G <;> simp [putE, get, hb]
theorem RdL.length {P : Program} {ops : Array Oper} {L : List HP} {env : Env} {G : List Oper} {vs : List Value} (h : RdL P ops L env G vs) : G.length = vs.length := by
  induction h with
  | nil => rfl
  | cons _ _ _ ih => simp [ih]
  | skip _ _ ih => simp [ih]
theorem RdL.at {P : Program} {ops : Array Oper} {L : List HP} {env : Env} {G : List Oper} {vs : List Value} (h : RdL P ops L env G vs) : ∀ {i : Nat} {o : Oper}, G[i]? = some o → ∃ v, vs[i]? = some v ∧
    ((gd ops (envFin env (G.take i) (vs.take i)) o.guard = some true ∧ RdW P L (envFin env (G.take i) (vs.take i)) o v) ∨ (gd ops (envFin env (G.take i) (vs.take i)) o.guard = some false ∧ v = undef)) := by
  induction h with
  | nil => intro i o h; simp at h
  | @cons env o G v vs hg hr t ih =>
    intro i o' h
    cases i with
    | zero => simp at h; subst h; exact ⟨v, rfl, .inl ⟨hg, hr⟩⟩
    | succ i => rw [List.getElem?_cons_succ] at h; simpa [envFin] using ih h
  | @skip env o G vs hg t ih =>
    intro i o' h
    cases i with
    | zero => simp at h; subst h; exact ⟨undef, rfl, .inr ⟨hg, rfl⟩⟩
    | succ i => rw [List.getElem?_cons_succ] at h; simpa [envFin] using ih h

theorem reach_listed {l : List Oper} {listed : Array Bool} (down : ∀ (j : Nat) o, l[j]? = some o → listed.getD j false = true → ∀ e ∈ edgesOf o, listed.getD e false = true) :
    ∀ (f i j : Nat), reach l f i j = true → (∀ o, l[i]? = some o → ∀ e ∈ edgesOf o, listed.getD e false = true) → listed.getD j false = true
  | 0, i, j, h, _ => by simp [reach] at h
  | f + 1, i, j, h, hi => by
    simp only [reach] at h
    cases ho : l[i]? with
    | none => rw [ho] at h; simp at h
    | some o =>
      rw [ho] at h
      simp only [Bool.or_eq_true, List.any_eq_true] at h
      rcases h with h | ⟨e, he, h⟩
      · exact hi o ho j (mem_iff.1 h)
      · exact reach_listed down f e j h (fun o' ho' => down e o' ho' (hi o ho e he))

theorem getD_set {listed : Array Bool} {i j : Nat} (hi : i < listed.size) : (listed.setIfInBounds i true).getD j false = (if j = i then true else listed.getD j false) := by
  by_cases e : j = i
  · subst e; simp [hi]
  · rw [getD_set_ne false (Ne.symm e), if_neg e]

section
variable {P : Program} {n : Nat} {s : Str} {L : List HP} {env : Env} {k : List Fr} {Q : Exit → Act → World → Prop}

/-- behind the reads: one by one in the text's order -/
theorem wpAny_tail {l : List Oper} {m : Nat} (hc : opCheck l m = true) {Q : Exit → Act → World → Prop} : ∀ (rest : List Oper) (i : Nat), m ≤ i → l.drop i = rest → ∀ (listed : Array Bool) (fuel : Nat) (a : Act) (w : World), listed.size = l.length →
    (∀ j, j < l.length → (listed.getD j false = true ↔ j < i)) → rest.length ≤ fuel → wpList P l.toArray Q rest a w → wpAny P .any l.toArray Q fuel listed a w := by
  unfold opCheck at hc
  rw [Bool.and_eq_true] at hc
  have hat := fun {i : Nat} {o : Oper} (h : l[i]? = some o) => allAt_get hc.1 h
  intro rest
  induction rest with
  | nil =>
    intro i _ hd listed fuel a w hsz hl _ h
    have hil : l.length ≤ i := by simpa using hd
    have hready : Region.ready .any l.toArray listed = [] := by
      apply List.eq_nil_iff_forall_not_mem.2
      intro j hj
      obtain ⟨h0, o, ho, _⟩ := mem_ready.1 hj
      have hjl : j < l.length := by have := (Array.getElem?_eq_some_iff.1 ho).1; simpa using this
      have := (hl j hjl).2 (by omega)
      simp [hsz, hjl] at h0 this
      simp [h0] at this
    cases fuel with
    | zero => exact ⟨hready, h⟩
    | succ f => exact ⟨fun _ => h, fun j hj => by rw [hready] at hj; cases hj⟩
  | cons o rest ih =>
    intro i hmi hd listed fuel a w hsz hl hf h
    have hio : l[i]? = some o := by
      have := congrArg (·[0]?) hd
      simpa using this
    have hil : i < l.length := (List.getElem?_eq_some_iff.1 hio).1
    have hd' : l.drop (i + 1) = rest := by rw [← List.drop_drop, hd]; rfl
    obtain ⟨f, rfl⟩ : ∃ f, fuel = f + 1 := ⟨fuel - 1, by simp at hf; omega⟩
    have hnl : listed.getD i false = false := by
      cases hh : listed.getD i false with
      | false => rfl
      | true => have := (hl i hil).1 hh; omega
    have hon : i ∈ Region.ready .any l.toArray listed := by
      refine mem_ready.2 ⟨?_, o, by simpa using hio, ?_⟩
      · simp [hsz, hil] at hnl ⊢; exact hnl
      · intro e he hb
        have h1 := hat hio
        simp only [Nat.zero_add, Bool.and_eq_true, List.all_eq_true] at h1
        have hmem : e.on ∈ edgesOf o := List.mem_map.2 ⟨e, List.mem_filter.2 ⟨Array.mem_toList_iff.2 he, hb⟩, rfl⟩
        have hlt := Nat.le_of_ble_eq_true (h1.1.1 e.on hmem)
        exact (hl e.on (by omega)).2 (by omega)
    refine ⟨fun hr => by rw [hr] at hon; (cases hon), ?_⟩
    intro j hj
    obtain ⟨h0, oj, hoj, hall⟩ := mem_ready.1 hj
    have hjl : j < l.length := by have := (Array.getElem?_eq_some_iff.1 hoj).1; simpa using this
    have hji : j = i := by
      have hge : ¬ j < i := fun hlt => by
        have := (hl j hjl).2 hlt
        simp [hsz, hjl] at h0 this
        simp [h0] at this
      by_cases hgt : i < j
      · exfalso
        have hoj' : l[j]? = some oj := by simpa using hoj
        have h1 := hat hoj'
        simp only [Nat.zero_add, Bool.and_eq_true] at h1
        have hb : Nat.ble (j + 1) m = false := by cases hh : Nat.ble (j + 1) m with
          | false => rfl
          | true => have := Nat.le_of_ble_eq_true hh; omega
        rw [hb, cond_false] at h1
        have hr := (List.all_eq_true.1 h1.2) i (List.mem_range.2 hgt)
        have hdown : ∀ (x : Nat) ox, l[x]? = some ox → listed.getD x false = true → ∀ e ∈ edgesOf ox, listed.getD e false = true := by
          intro x ox hx hlx e he
          have hxl : x < l.length := (List.getElem?_eq_some_iff.1 hx).1
          have hxi := (hl x hxl).1 hlx
          have h1 := hat hx
          simp only [Nat.zero_add, Bool.and_eq_true, List.all_eq_true] at h1
          have hlt := Nat.le_of_ble_eq_true (h1.1.1 e he)
          exact (hl e (by omega)).2 (by omega)
        have hl2 := reach_listed hdown j j i hr (fun ox hox e he => by
          rw [hoj'] at hox; cases hox
          obtain ⟨ed, h2, rfl⟩ := List.mem_map.1 he
          obtain ⟨h3, h4⟩ := List.mem_filter.1 h2
          exact hall ed (Array.mem_toList_iff.1 h3) h4)
        rw [hnl] at hl2; cases hl2
      · omega
    subst hji
    have ho : l.toArray[j]? = some o := by simpa using hio
    unfold wpOp
    rw [ho]
    unfold wpList at h
    have hnext : ∀ a' w', wpList P l.toArray Q rest a' w' → wpAny P .any l.toArray Q f (listed.setIfInBounds j true) a' w' := by
      intro a' w' h'
      refine ih (j + 1) (by omega) hd' _ f a' w' (by simp [hsz]) ?_ (by simp at hf; omega) h'
      intro x hx
      rw [getD_set (by omega)]
      by_cases e : x = j
      · simp [e]
      · rw [if_neg e, hl x hx]; omega
    simp only
    by_cases hw : Region.wanted o (yielded l.toArray a.tmps) = true
    · rw [if_pos hw] at h ⊢
      exact h.imp (Oper.wp_mono hnext) id
    · rw [if_neg hw] at h ⊢
      exact hnext _ _ h

/-- what is known while the reads come up -/
structure Mid (l : List Oper) (m n : Nat) (env : Env) (vs : List Value) (listed : Array Bool) (a : Act) : Prop where
  lsz : listed.size = l.length
  size : a.tmps.size = n
  dfr : a.defers = []
  down : ∀ (j : Nat) o, l[j]? = some o → listed.getD j false = true → ∀ e ∈ edgesOf o, listed.getD e false = true
  late : ∀ j, m ≤ j → listed.getD j false = false
  vals : ∀ (j : Nat) o d, (l.take m)[j]? = some o → listed.getD j false = true → o.dst = some d → a.tmps[d]? = vs[j]?
  base : ∀ t v, get env t = some v → lk t (l.take m) = none → a.tmps[t]? = some v
def cnt (listed : Array Bool) : Nat → Nat
  | 0 => 0
  | i + 1 => cnt listed i + (if listed.getD i false then 0 else 1)
theorem cnt_set {listed : Array Bool} {i : Nat} (hi : i < listed.size) (hn : listed.getD i false = false) : ∀ N, i < N → cnt (listed.setIfInBounds i true) N + 1 = cnt listed N
  | 0, h => by omega
  | N + 1, h => by
    simp only [cnt, getD_set hi]
    by_cases e : N = i
    · subst e
      have hsame : ∀ M, M ≤ N → cnt (listed.setIfInBounds N true) M = cnt listed M := by
        intro M
        induction M with
        | zero => intro _; rfl
        | succ M ih => intro hM; simp only [cnt, getD_set hi, ih (by omega), if_neg (show ¬ M = N by omega)]
      simp [hsame N (Nat.le_refl _)]
      simp at hn
      simp [hn]
    · rw [if_neg e]
      have := cnt_set hi hn N (by omega)
      omega
theorem cnt_zero {listed : Array Bool} : ∀ {N i : Nat}, cnt listed N = 0 → i < N → listed.getD i false = true
  | N + 1, i, h, hi => by
    simp only [cnt] at h
    by_cases e : i = N
    · subst e
      cases hh : listed.getD i false with
      | true => rfl
      | false => rw [hh] at h; simp at h
    · exact cnt_zero (N := N) (by omega) (by omega)

theorem wpAny_reads {l : List Oper} {m : Nat} {vs : List Value} (hm : m ≤ l.length) (hc : opCheck l m = true) (hd : doks n (l.take m) = true) (hr : RdL P l.toArray L env (l.take m) vs) {Q : Exit → Act → World → Prop}
    (h : ∀ a w, EnvOk n (envFin env (l.take m) vs) a → sat s w L → wpList P l.toArray Q (l.drop m) a w) :
    ∀ (c : Nat) (listed : Array Bool) (fuel : Nat) (a : Act) (w : World), cnt listed m = c → c + (l.drop m).length ≤ fuel → Mid l m n env vs listed a → sat s w L → wpAny P .any l.toArray Q fuel listed a w := by
  have hc0 := hc
  unfold opCheck at hc
  rw [Bool.and_eq_true] at hc
  have hat := fun {i : Nat} {o : Oper} (h : l[i]? = some o) => allAt_get hc.1 h
  have hdist := hc.2
  have hlen := hr.length
  have hml : (l.take m).length = m := by simp; omega
  intro c
  induction c with
  | zero =>
    intro listed fuel a w hcz hf M hs
    refine wpAny_tail hc0 (l.drop m) m (Nat.le_refl _) rfl listed fuel a w M.lsz ?_ (by omega) (h a w ⟨M.size, M.dfr, ?_⟩ hs)
    · intro j hj
      constructor
      · intro hl
        by_cases hjm : j < m
        · exact hjm
        · have := M.late j (by omega); rw [this] at hl; cases hl
      · intro hjm; exact cnt_zero hcz hjm
    · intro t v ht
      rw [get_envFin hlen hdist] at ht
      cases hk : lk t (l.take m) with
      | none => rw [hk] at ht; exact M.base t v ht hk
      | some j =>
        rw [hk] at ht
        obtain ⟨o, ho, hdst⟩ := lk_get hk
        have hjm : j < m := by have := (List.getElem?_eq_some_iff.1 ho).1; omega
        rw [M.vals j o t ho (cnt_zero hcz hjm) hdst]; exact ht
  | succ c ih =>
    intro listed fuel a w hcz hf M hs
    obtain ⟨f, rfl⟩ : ∃ f, fuel = f + 1 := ⟨fuel - 1, by omega⟩
    have hex : ∃ i, i < m ∧ listed.getD i false = false ∧ ∀ j, j < i → listed.getD j false = true := by
      have key : ∀ N, cnt listed N ≠ 0 → ∃ i, i < N ∧ listed.getD i false = false ∧ ∀ j, j < i → listed.getD j false = true := by
        intro N
        induction N with
        | zero => intro h; exact absurd rfl h
        | succ N ihN =>
          intro hN
          by_cases hz : cnt listed N = 0
          · refine ⟨N, by omega, ?_, fun j hj => cnt_zero hz hj⟩
            cases hh : listed.getD N false with
            | false => rfl
            | true => simp only [cnt, hz, hh, if_true] at hN; exact absurd rfl hN
          · obtain ⟨i, h1, h2, h3⟩ := ihN hz; exact ⟨i, by omega, h2, h3⟩
      exact key m (by omega)
    obtain ⟨i, him, hin, hlow⟩ := hex
    have hon : i ∈ Region.ready .any l.toArray listed := by
      have hil : i < l.length := by omega
      obtain ⟨o, hio⟩ : ∃ o, l[i]? = some o := ⟨l[i], List.getElem?_eq_getElem hil⟩
      refine mem_ready.2 ⟨?_, o, by simpa using hio, ?_⟩
      · have := M.lsz; simp [this, hil] at hin ⊢; exact hin
      · intro e he hb
        have h1 := hat hio
        simp only [Nat.zero_add, Bool.and_eq_true, List.all_eq_true] at h1
        have hmem : e.on ∈ edgesOf o := List.mem_map.2 ⟨e, List.mem_filter.2 ⟨Array.mem_toList_iff.2 he, hb⟩, rfl⟩
        have hlt := Nat.le_of_ble_eq_true (h1.1.1 e.on hmem)
        exact hlow e.on (by omega)
    refine ⟨fun hr => by rw [hr] at hon; (cases hon), ?_⟩
    intro j hj
    obtain ⟨h0, oj, hoj, hall⟩ := mem_ready.1 hj
    have hoj' : l[j]? = some oj := by simpa using hoj
    have hjl : j < l.length := (List.getElem?_eq_some_iff.1 hoj').1
    have hedges : ∀ e ∈ edgesOf oj, listed.getD e false = true := fun e he => by
      obtain ⟨ed, h2, rfl⟩ := List.mem_map.1 he
      obtain ⟨h3, h4⟩ := List.mem_filter.1 h2
      exact hall ed (Array.mem_toList_iff.1 h3) h4
    have hnl : listed.getD j false = false := by have := M.lsz; simp [this, hjl] at h0 ⊢; exact h0
    have h1 := hat hoj'
    simp only [Nat.zero_add, Bool.and_eq_true] at h1
    have hjm : j < m := by
      by_cases hjm : j < m
      · exact hjm
      · exfalso
        have hb : Nat.ble (j + 1) m = false := by cases hh : Nat.ble (j + 1) m with
          | false => rfl
          | true => have := Nat.le_of_ble_eq_true hh; omega
        rw [hb, cond_false] at h1
        have hr := (List.all_eq_true.1 h1.2) i (List.mem_range.2 (by omega))
        have hl2 := reach_listed M.down j j i hr (fun ox hox e he => by rw [hoj'] at hox; cases hox; exact hedges e he)
        rw [hin] at hl2; cases hl2
    have hb : Nat.ble (j + 1) m = true := Nat.ble_eq_true_of_le hjm
    rw [hb, cond_true] at h1
    have hsees := List.all_eq_true.1 h1.2
    have hojm : (l.take m)[j]? = some oj := by rw [List.getElem?_take, if_pos hjm]; exact hoj'
    obtain ⟨v, hv, hcase⟩ := hr.at hojm
    -- the slots that it looks at hold what they hold in the text's order
    have hslot : ∀ t ∈ sees l oj, ∀ y, get (envFin env ((l.take m).take j) (vs.take j)) t = some y → a.tmps[t]? = some y := by
      intro t ht y hy
      have hdj : distinct ((l.take m).take j) = true := by
        have key : ∀ (G : List Oper) (j : Nat), distinct G = true → distinct (G.take j) = true := by
          intro G
          induction G with
          | nil => intro j _; simp [distinct]
          | cons o G ihG =>
            intro j hG
            cases j with
            | zero => simp [distinct]
            | succ j =>
              simp only [List.take_succ_cons, distinct, Bool.and_eq_true] at hG ⊢
              refine ⟨?_, ihG j hG.2⟩
              cases hd : o.dst with
              | none => rfl
              | some d =>
                have h2 := hG.1
                rw [hd] at h2
                simp only [Option.isNone_iff_eq_none] at h2 ⊢
                cases hk : lk d (G.take j) with
                | none => rfl
                | some x => have := (lk_take hk).1; rw [h2] at this; cases this
        exact key _ j hdist
      rw [get_envFin (by simp [hlen]) hdj] at hy
      have hchk := hsees t ht
      cases hk : lk t ((l.take m).take j) with
      | some x =>
        rw [hk] at hy
        obtain ⟨hk1, hxj⟩ := lk_take hk
        rw [hk1] at hchk
        obtain ⟨o, ho, hdst⟩ := lk_get hk1
        have hlx : listed.getD x false = true := hedges x (mem_iff.1 hchk)
        rw [M.vals x o t ho hlx hdst]
        have hy : (List.take j vs)[x]? = some y := hy
        rw [List.getElem?_take, if_pos hxj] at hy; exact hy
      | none =>
        rw [hk] at hy
        cases hk2 : lk t (l.take m) with
        | none => exact M.base t y hy hk2
        | some x =>
          exfalso
          have hge := lk_none_take hk hk2
          rw [hk2] at hchk
          have hlt := Nat.le_of_ble_eq_true ((List.all_eq_true.1 h1.1.1) x (mem_iff.1 hchk))
          omega
    have hwant : ∀ b, gd l.toArray (envFin env ((l.take m).take j) (vs.take j)) oj.guard = some b → Region.wanted oj (yielded l.toArray a.tmps) = b := by
      intro b hg
      unfold Region.wanted
      cases hgu : oj.guard with
      | none => rw [hgu] at hg; simpa [gd] using hg
      | some jw =>
        obtain ⟨x, want⟩ := jw
        rw [hgu] at hg
        simp only [gd] at hg
        split at hg
        · rename_i cc hcc
          obtain ⟨d, hdd, hvv⟩ := Option.bind_eq_some_iff.1 hcc
          have hmem : d ∈ sees l oj := by
            unfold sees
            rw [hgu]
            apply List.mem_append_right
            have : (l[x]?).bind (·.dst) = some d := by simpa using hdd
            simp [this]
          have := hslot d hmem _ hvv
          have hyy : yielded l.toArray a.tmps x = some cc := by simp only [yielded, hdd, Option.bind_some, this]
          simp only [hyy]
          simpa using hg
        · cases hg
    have hnext : ∀ (v' : Value) (w : World), vs[j]? = some v' → sat s w L → wpAny P .any l.toArray Q f (listed.setIfInBounds j true) (a.put oj.dst v') w := by
      intro v' w hv' hs
      have hjs : j < listed.size := by rw [M.lsz]; exact hjl
      refine ih _ f _ w ?_ (by omega) ⟨by simp [M.lsz], ?_, ?_, ?_, ?_, ?_, ?_⟩ hs
      · have := cnt_set hjs hnl m hjm; omega
      · cases oj.dst <;> simp [Act.put, M.size]
      · cases oj.dst <;> simp [Act.put, M.dfr]
      · intro x ox hx hlx e he
        rw [getD_set hjs] at hlx ⊢
        by_cases ex : x = j
        · subst ex
          rw [hoj'] at hx; cases hx
          have := hedges e he
          simp [this]
        · rw [if_neg ex] at hlx
          have := M.down x ox hx hlx e he
          simp [this]
      · intro x hx
        rw [getD_set hjs, if_neg (by omega)]; exact M.late x hx
      · intro x ox d hx hlx hdx
        rw [getD_set hjs] at hlx
        by_cases ex : x = j
        · subst ex
          rw [hojm] at hx; cases hx
          have hdn : Nat.ble (d + 1) n = true := by
            have := List.all_eq_true.1 hd oj (List.mem_of_getElem? hojm)
            rw [hdx] at this; exact this
          have hdn' := Nat.le_of_ble_eq_true hdn
          have hdn2 : d < n := hdn'
          rw [hdx, hv']
          simp [Act.put, M.size, hdn2]
        · rw [if_neg ex] at hlx
          have hold := M.vals x ox d hx hlx hdx
          cases hdj : oj.dst with
          | none => simpa [Act.put] using hold
          | some dj =>
            have hne : dj ≠ d := by
              rintro rfl
              have e1 := lk_of_get hdist hx hdx
              have e2 := lk_of_get hdist hojm hdj
              rw [e1] at e2; cases e2; exact ex rfl
            simp only [Act.put]
            rw [Array.getElem?_setIfInBounds_ne hne]; exact hold
      · intro t u ht hk
        have hold := M.base t u ht hk
        cases hdj : oj.dst with
        | none => simpa [Act.put] using hold
        | some dj =>
          have hne : dj ≠ t := by
            rintro rfl
            have e2 := lk_of_get hdist hojm hdj
            rw [hk] at e2; cases e2
          simp only [Act.put]
          rw [Array.getElem?_setIfInBounds_ne hne]; exact hold
    unfold wpOp
    rw [hoj]
    simp only
    rcases hcase with ⟨hg, hrd⟩ | ⟨hg, rfl⟩
    · rw [if_pos (hwant true hg)]
      left
      unfold Oper.wp
      let ρ : Operand → Value := fun x => match ev (envFin env ((l.take m).take j) (vs.take j)) x with
        | some y => y
        | none => a.eval x
      have hsel : ∀ cs b, oj.op ≠ .select cs b := by
        intro cs b he
        have := h1.1.2
        simp [notSel, he] at this
      have hcong : execOp a.eval oj = execOp ρ oj := execOp_congr oj hsel (fun x hx => by
        cases x with
        | tmp t =>
          have hmem : t ∈ sees l oj := List.mem_append_left _ (List.mem_filterMap.2 ⟨.tmp t, Array.mem_toList_iff.2 hx, rfl⟩)
          show a.eval (.tmp t) = match get (envFin env ((l.take m).take j) (vs.take j)) t with
            | some y => y
            | none => a.eval (.tmp t)
          cases hy : get (envFin env ((l.take m).take j) (vs.take j)) t with
          | none => rfl
          | some y => have := hslot t hmem y hy; simp [Act.eval, this]
        | const c => rfl
        | global c => rfl
        | func c => rfl)
      rw [hcong]
      rcases hrd ρ s w (fun x y hxy => by simp [ρ, hxy]) hs with h1 | ⟨f', args, h1, h2⟩
      · rw [h1]
        exact hnext v w hv hs
      · rw [h1, Oper.upon_enter]
        refine h2.mono ?_
        rintro en w' ⟨rfl, l'⟩
        exact hnext v w' hv l'
    · rw [if_neg (by rw [hwant false hg]; simp)]
      exact hnext undef w hv hs

/-- A statement whose order is open: m reads in any order, then the rest in the text's order. -/
theorem trk_draw0 {id : Nat} {l : List Oper} (m : Nat) {vs : List Value} (hf : P.follows .mixedOrders = true) (hm : Nat.ble m l.length = true) (hc : opCheck l m = true) (hd : doks n (l.take m) = true) (hr : RdL P l.toArray L env (l.take m) vs)
    (h : TrO P n s l.toArray L (envFin env (l.take m) vs) (l.drop m) k Q) : TrK P n s L env (.region id l.toArray true) k Q := by
  unfold TrK
  unfold TrO at h
  intro a w e hs
  have hm' := Nat.le_of_ble_eq_true hm
  have hnone : ∀ j, (Array.replicate l.toArray.size false).getD j false = false := by
    intro j
    by_cases hj : j < l.length
    · simp [hj]
    · simp [Array.getElem?_eq_none, hj]
  refine wp_region_any hf ?_
  refine wpAny_reads (n := n) (s := s) hm' hc hd hr h (cnt (Array.replicate l.length false) m) _ _ _ _ ?_ ?_ ?_ ?_
  · simp
  · have : ∀ M, cnt (Array.replicate l.length false) M ≤ M := by
      intro M
      induction M with
      | zero => simp [cnt]
      | succ M ih => simp only [cnt]; split <;> omega
    have := this m
    simp; omega
  · refine ⟨by simp, e.size, e.dfr, ?_, ?_, ?_, fun t v ht _ => e.val t v ht⟩
    · intro j o _ hl; rw [hnone j] at hl; cases hl
    · intro j _; exact hnone j
    · intro j o d _ hl; rw [hnone j] at hl; cases hl
  · have hst : strOf { w with drawn := w.drawn + 1 } = strOf w := by unfold strOf; rfl
    exact sat_mono (w := w) hst (fun _ _ hx => hx) hs
theorem trk_draw {id : Nat} {l : List Oper} (m : Nat) {e' : Env} (hf : P.follows .mixedOrders = true) (hm : Nat.ble m l.length = true) (hc : opCheck l m = true) (hd : doks n (l.take m) = true) (hr : RdE P l.toArray L env (l.take m) e')
    (h : TrO P n s l.toArray L e' (l.drop m) k Q) : TrK P n s L env (.region id l.toArray true) k Q := by
  obtain ⟨vs, h1, h2⟩ := hr.list
  subst h2
  exact trk_draw0 m hf hm hc hd h1 h
end
end Go.Proofs.YtliijbndfcjpfaaGreatDoor
