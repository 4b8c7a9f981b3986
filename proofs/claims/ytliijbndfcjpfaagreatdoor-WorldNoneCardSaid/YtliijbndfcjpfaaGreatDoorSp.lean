/- Tools on contracts: opening and closing assertions; whole numbers in their kinds. -/
import Derived.Test.YtliijbndfcjpfaaGreatDoorMap
namespace Go.Proofs.YtliijbndfcjpfaaGreatDoor
open Go.RowKit

section
variable {P : Program} {n : Nat} {s : Str} {L : List HP} {env : Env} {k : List Fr} {Q : Exit → Act → World → Prop} {ops : Array Oper} {rest : List Oper}
theorem trk_ent {L' : List HP} {c : Code} (h : Sub L L') (h' : TrK P n s L' env c k Q) : TrK P n s L env c k Q := by
  unfold TrK at h' ⊢; exact fun a w e l => h' a w e (sat_sub h l)
theorem tro_ent {L' : List HP} (h : Sub L L') (h' : TrO P n s ops L' env rest k Q) : TrO P n s ops L env rest k Q := by
  unfold TrO at h' ⊢; exact fun a w e l => h' a w e (sat_sub h l)
theorem trx_ent {L' : List HP} {ex : Exit} (h : Sub L L') (h' : TrX P n s ex L' env k Q) : TrX P n s ex L env k Q := by
  unfold TrX at h' ⊢; exact fun a w e l => h' a w e (sat_sub h l)
theorem trk_env {E : Env} {c : Code} (h : EnvSub E env) (h' : TrK P n s L E c k Q) : TrK P n s L env c k Q := by
  unfold TrK at h' ⊢; exact fun a w e l => h' a w (e.sub h) l
theorem tro_env {E : Env} (h : EnvSub E env) (h' : TrO P n s ops L E rest k Q) : TrO P n s ops L env rest k Q := by
  unfold TrO at h' ⊢; exact fun a w e l => h' a w (e.sub h) l
theorem trx_env {E : Env} {ex : Exit} (h : EnvSub E env) (h' : TrX P n s ex L E k Q) : TrX P n s ex L env k Q := by
  unfold TrX at h' ⊢; exact fun a w e l => h' a w (e.sub h) l
/-- what is known of memory, as a fact -/
theorem tro_know {p : Prop} (h : ∀ s w, sat s w L → p) (h' : p → TrO P n s ops L env rest k Q) : TrO P n s ops L env rest k Q := by
  unfold TrO at h' ⊢; exact fun a w e l => h' (h s w l) a w e l
theorem trk_know {p : Prop} {c : Code} (h : ∀ s w, sat s w L → p) (h' : p → TrK P n s L env c k Q) : TrK P n s L env c k Q := by
  unfold TrK at h' ⊢; exact fun a w e l => h' (h s w l) a w e l
theorem tro_hex {α : Sort _} {A : α → HP} {F : List HP} (hp : List.Perm L (hex A :: F)) (h : ∀ x, TrO P n s ops (A x :: F) env rest k Q) : TrO P n s ops L env rest k Q := by
  unfold TrO at h ⊢
  intro a w e l
  obtain ⟨x, l⟩ := sat_ex.1 (sat_perm hp l)
  exact h x a w e l
theorem tro_hp {p : Prop} {A : HP} {F : List HP} (hp' : List.Perm L (hp p A :: F)) (h : p → TrO P n s ops (A :: F) env rest k Q) : TrO P n s ops L env rest k Q := by
  unfold TrO at h ⊢
  intro a w e l
  obtain ⟨x, l⟩ := sat_hp.1 (sat_perm hp' l)
  exact h x a w e l
theorem trk_hex {α : Sort _} {A : α → HP} {F : List HP} {c : Code} (hp : List.Perm L (hex A :: F)) (h : ∀ x, TrK P n s (A x :: F) env c k Q) : TrK P n s L env c k Q := by
  unfold TrK at h ⊢
  intro a w e l
  obtain ⟨x, l⟩ := sat_ex.1 (sat_perm hp l)
  exact h x a w e l
theorem trk_hp {p : Prop} {A : HP} {F : List HP} {c : Code} (hp' : List.Perm L (hp p A :: F)) (h : p → TrK P n s (A :: F) env c k Q) : TrK P n s L env c k Q := by
  unfold TrK at h ⊢
  intro a w e l
  obtain ⟨x, l⟩ := sat_hp.1 (sat_perm hp' l)
  exact h x a w e l
theorem Sub.at {L F L' : List HP} {A : HP} [t : Take L A F] (h : Sub (A :: F) L') : Sub L L' := (Sub.perm t.perm).trans h
theorem Sub.at2 {L L1 F L' : List HP} {A B : HP} [t : Take L A L1] [u : Take L1 B F] (h : Sub (A :: B :: F) L') : Sub L L' := (Sub.perm (t.perm.trans (List.Perm.cons _ u.perm))).trans h
theorem Sub.at3 {L L1 L2 F L' : List HP} {A B C : HP} [t : Take L A L1] [u : Take L1 B L2] [v : Take L2 C F] (h : Sub (A :: B :: C :: F) L') : Sub L L' :=
  (Sub.perm (t.perm.trans (List.Perm.cons _ (u.perm.trans (List.Perm.cons _ v.perm))))).trans h
theorem Sub.emp {L : List HP} : Sub L (sepL [] :: L) := ⟨fun h a => ⟨h, PH.none, fun _ => .inr rfl, (PH.un_none h).symm, by
  have e : sepL (sepL [] :: L) = star (sepL L) (sepL []) := by rw [star_comm]; rw [show star (sepL []) (sepL L) = sepL (sepL [] :: L) from by conv => rhs; unfold sepL]
  rw [e]; have e2 : sepL [] = hemp := by rw [sepL]
  rw [e2, star_emp]; exact a⟩⟩
theorem Sub.via {L A B M : List HP} (h : Sub A B) [i : Sub L A] [j : Sub B M] : Sub L M := (i.trans h).trans j
/-- several assertions taken out of a list -/
class TakeL (L M : List HP) (F : outParam (List HP)) : Prop where
  perm : List.Perm L (M ++ F)
instance {L : List HP} : TakeL L [] L := ⟨List.Perm.refl _⟩
instance {L L1 M F : List HP} {A : HP} [t : Take L A L1] [u : TakeL L1 M F] : TakeL L (A :: M) F := ⟨t.perm.trans (List.Perm.cons _ u.perm)⟩
/-- the row at a block, taken out of a list -/
class TakeRow (L : List HP) (b : Nat) (T : outParam TypeId) (cs : outParam (List Value)) (F : outParam (List HP)) : Prop where
  perm : List.Perm L (row b T cs :: F)
instance (priority := high) TakeRow.head {b : Nat} {T : TypeId} {cs : List Value} {L : List HP} : TakeRow (pt b (.cells ⟨cs⟩ T (0, 0)) :: L) b T cs L := ⟨List.Perm.refl _⟩
instance (priority := low) TakeRow.tail {A : HP} {b : Nat} {T : TypeId} {cs : List Value} {L F : List HP} [i : TakeRow L b T cs F] : TakeRow (A :: L) b T cs (A :: F) :=
  ⟨(List.Perm.cons A i.perm).trans (List.Perm.swap _ A F)⟩
theorem sub_sepL {M F : List HP} : Sub (sepL M :: F) (M ++ F) := ⟨fun h a => ⟨h, PH.none, fun _ => .inr rfl, (PH.un_none h).symm, by rw [sepL_append]; unfold sepL at a; exact a⟩⟩
theorem sub_fold {M F : List HP} : Sub (M ++ F) (sepL M :: F) := ⟨fun h a => ⟨h, PH.none, fun _ => .inr rfl, (PH.un_none h).symm, by
  rw [sepL_append] at a
  have e : sepL (sepL M :: F) = star (sepL M) (sepL F) := by rw [sepL]
  rw [e]; exact a⟩⟩
theorem sub_hex {α : Sort _} {A : α → HP} {F : List HP} (x : α) (h : Sub L (A x :: F)) : Sub L (hex A :: F) := ⟨fun hh a => by
  obtain ⟨k, l, d, e, m⟩ := h.sub hh a
  refine ⟨k, l, d, e, ?_⟩
  unfold sepL star at m ⊢
  obtain ⟨h1, h2, d', e', a1, a2⟩ := m
  exact ⟨h1, h2, d', e', by unfold hex; exact ⟨x, a1⟩, a2⟩⟩
theorem sub_hp {p : Prop} {A : HP} {F : List HP} (hh : p) (h : Sub L (A :: F)) : Sub L (hp p A :: F) := ⟨fun h0 a => by
  obtain ⟨k, l, d, e, m⟩ := h.sub h0 a
  refine ⟨k, l, d, e, ?_⟩
  unfold sepL star at m ⊢
  obtain ⟨h1, h2, d', e', a1, a2⟩ := m
  exact ⟨h1, h2, d', e', by unfold hp; exact ⟨hh, a1⟩, a2⟩⟩

theorem spec_hex {f : FuncId} {args : List Value} {α : Sort _} {A : α → HP} {pre : List HP} {X : Type} {pr : X → Prop} {val : X → Value} {pst : X → List HP} (h : ∀ x, Spec P f args (A x :: pre) pr val pst) : Spec P f args (hex A :: pre) pr val pst := by
  unfold Spec at h ⊢
  intro F s w l
  obtain ⟨x, l⟩ := sat_ex.1 l
  exact h x F s w l
theorem spec_hp {f : FuncId} {args : List Value} {p : Prop} {A : HP} {pre : List HP} {X : Type} {pr : X → Prop} {val : X → Value} {pst : X → List HP} (h : p → Spec P f args (A :: pre) pr val pst) : Spec P f args (hp p A :: pre) pr val pst := by
  unfold Spec at h ⊢
  intro F s w l
  obtain ⟨x, l⟩ := sat_hp.1 l
  exact h x F s w l
theorem Spec.frame {P : Program} {f : FuncId} {args : List Value} {pre G : List HP} {X : Type} {pr : X → Prop} {val : X → Value} {pst : X → List HP} (h : Spec P f args pre pr val pst) : Spec P f args (pre ++ G) pr val (fun x => pst x ++ G) := by
  unfold Spec at h ⊢
  intro F s w l
  refine Calls.mono (h (G ++ F) s w (by rw [← List.append_assoc]; exact l)) ?_
  rintro e w' ⟨x, h1, h2, h3⟩
  exact ⟨x, h1, h2, by rw [List.append_assoc]; exact h3⟩
theorem Spec.conseq {P : Program} {f : FuncId} {args : List Value} {pre pre' : List HP} {X Y : Type} {pr : X → Prop} {val : X → Value} {pst : X → List HP} {pr' : Y → Prop} {val' : Y → Value} {pst' : Y → List HP} (h : Spec P f args pre pr val pst)
    (h1 : ∀ F, Sub (pre' ++ F) (pre ++ F)) (h2 : ∀ x, pr x → ∃ y, pr' y ∧ val x = val' y ∧ ∀ F, Sub (pst x ++ F) (pst' y ++ F)) : Spec P f args pre' pr' val' pst' := by
  unfold Spec at h ⊢
  intro F s w l
  refine Calls.mono (h F s w (sat_sub (h1 F) l)) ?_
  rintro e w' ⟨x, g1, rfl, g3⟩
  obtain ⟨y, k1, k2, k3⟩ := h2 x g1
  exact ⟨y, k1, by rw [k2], sat_sub (k3 F) g3⟩
theorem spec_sepL {f : FuncId} {args : List Value} {M : List HP} {pre : List HP} {X : Type} {pr : X → Prop} {val : X → Value} {pst : X → List HP} (h : Spec P f args (M ++ pre) pr val pst) : Spec P f args (sepL M :: pre) pr val pst := by
  unfold Spec at h ⊢
  intro F s w l
  have l2 := sat_sepL.1 l
  exact h F s w (by rw [List.append_assoc]; exact l2)
end

section
variable {P : Program} {n : Nat} {s : Str} {L : List HP} {env : Env} {k : List Fr} {Q : Exit → Act → World → Prop} {ops : Array Oper} {rest : List Oper}
variable {d : Nat} {ty : TypeId} {pos : String} {aft : Array Edge} {g : Option (Nat × Bool)} {v : Value}
theorem tro_call {x : Operand} {xs : List Operand} {ts : Array TypeId} {f : FuncId} {vs args : List Value} {fs cs : List Value} {X : Type} {pr : X → Prop} {val : X → Value} {pre F : List HP} {pst : X → List HP} [hb : HasBody P f]
    (hsp : Spec P f args pre pr val pst) [hp : TakeL L pre F]
    (hg : gd ops env g = some true) (hd : Nat.ble (d + 1) n = true) (hx : ev env x = some (.func (.func f) ⟨fs⟩ ⟨cs⟩)) (hs : evs env xs = some vs) (ha : fs ++ vs ++ cs = args)
    (h : ∀ x, pr x → TrO P n s ops (pst x ++ F) ((d, val x) :: env) rest k Q) : TrO P n s ops L env (⟨some d, .call ⟨.value x, ⟨xs⟩, ts⟩, ty, pos, aft, g⟩ :: rest) k Q :=
  tro_spec hsp hp.perm hg hd hx hs ha h
end

section
variable {P : Program} {L : List HP} {env : Env} {d : Option Tmp} {ty : TypeId} {pos : String} {aft : Array Edge} {g : Option (Nat × Bool)} {v : Value}
/-- a call that leaves memory as it is, among reads -/
theorem rdw_call {x : Operand} {xs : List Operand} {ts : Array TypeId} {f : FuncId} {vs args : List Value} {fs cs : List Value} {X : Type} {pr : X → Prop} {pre F : List HP} [hb : HasBody P f]
    (hsp : Spec P f args pre pr (fun _ => v) (fun _ => pre)) [hp : TakeL L pre F] (hx : ev env x = some (.func (.func f) ⟨fs⟩ ⟨cs⟩)) (hs : evs env xs = some vs) (ha : fs ++ vs ++ cs = args) :
    RdW P L env ⟨d, .call ⟨.value x, ⟨xs⟩, ts⟩, ty, pos, aft, g⟩ v := by
  intro ρ s w e l
  right
  obtain ⟨fn, h1, h2, h3⟩ := hb.body
  have hm := evs_map e xs vs hs
  have hrun : (execOp ρ ⟨d, .call ⟨.value x, ⟨xs⟩, ts⟩, ty, pos, aft, g⟩).run P w = .ok (.enter f ((⟨fs⟩ : Array Value) ++ ⟨vs⟩ ++ ⟨cs⟩)) w := by
    simp only [execOp, resolve, e x _ hx, Deferred.ofValue, invoke, callFunc, Sem.run_bind, Sem.run_pure, Result.andThen_ok, run_program, h1, h2, h3, Bool.false_eq_true, if_false, List.map_toArray, hm]
  refine ⟨f, _, hrun, ?_⟩
  unfold Spec at hsp
  have := hsp F s w (sat_perm hp.perm l)
  rw [← ha] at this
  have e3 : (⟨fs⟩ : Array Value) ++ ⟨vs⟩ ++ ⟨cs⟩ = ⟨fs ++ vs ++ cs⟩ := by simp
  rw [e3]
  refine Calls.mono this ?_
  rintro en w' ⟨y, _, rfl, l'⟩
  exact ⟨rfl, sat_perm hp.perm.symm l'⟩
theorem rdw_callR {x : Operand} {xs : List Operand} {ts : Array TypeId} {f : FuncId} {vs args : List Value} {fs cs : List Value} {C : List HP → Prop} [hb : HasBody P f]
    (hsp : SpecR P f args C v) (hC : C L) (hx : ev env x = some (.func (.func f) ⟨fs⟩ ⟨cs⟩)) (hs : evs env xs = some vs) (ha : fs ++ vs ++ cs = args) :
    RdW P L env ⟨d, .call ⟨.value x, ⟨xs⟩, ts⟩, ty, pos, aft, g⟩ v := by
  intro ρ s w e l
  right
  obtain ⟨fn, h1, h2, h3⟩ := hb.body
  have hm := evs_map e xs vs hs
  have hrun : (execOp ρ ⟨d, .call ⟨.value x, ⟨xs⟩, ts⟩, ty, pos, aft, g⟩).run P w = .ok (.enter f ((⟨fs⟩ : Array Value) ++ ⟨vs⟩ ++ ⟨cs⟩)) w := by
    simp only [execOp, resolve, e x _ hx, Deferred.ofValue, invoke, callFunc, Sem.run_bind, Sem.run_pure, Result.andThen_ok, run_program, h1, h2, h3, Bool.false_eq_true, if_false, List.map_toArray, hm]
  refine ⟨f, _, hrun, ?_⟩
  unfold SpecR at hsp
  have := hsp L s w hC l
  rw [← ha] at this
  exact Calls.mono (by simpa using this) (fun en w' h => h)
end

-- ================================================================ whole numbers
theorem wrap_u64 {x : Int} (h0 : 0 ≤ x) (h1 : x < 18446744073709551616) : IntKind.u64.wrap x = x := by
  simp only [IntKind.wrap, IntKind.bits, IntKind.signed]; simp; omega
theorem wrap_u32 {x : Int} (h0 : 0 ≤ x) (h1 : x < 4294967296) : IntKind.u32.wrap x = x := by
  simp only [IntKind.wrap, IntKind.bits, IntKind.signed]; simp; omega
theorem wrap_u16 {x : Int} (h0 : 0 ≤ x) (h1 : x < 65536) : IntKind.u16.wrap x = x := by
  simp only [IntKind.wrap, IntKind.bits, IntKind.signed]; simp; omega
theorem wrap_u8 {x : Int} (h0 : 0 ≤ x) (h1 : x < 256) : IntKind.u8.wrap x = x := by
  simp only [IntKind.wrap, IntKind.bits, IntKind.signed]; simp; omega
theorem wrap_i64 {x : Int} (h0 : -9223372036854775808 ≤ x) (h1 : x < 9223372036854775808) : IntKind.i64.wrap x = x := by
  simp only [IntKind.wrap, IntKind.bits, IntKind.signed]; simp; omega
theorem wrap_u64_eq (x : Int) : IntKind.u64.wrap x = x % 18446744073709551616 := by
  simp [IntKind.wrap, IntKind.bits, IntKind.signed]
theorem wrap_u32_eq (x : Int) : IntKind.u32.wrap x = x % 4294967296 := by
  simp [IntKind.wrap, IntKind.bits, IntKind.signed]
theorem wrap_u8_eq (x : Int) : IntKind.u8.wrap x = x % 256 := by
  simp [IntKind.wrap, IntKind.bits, IntKind.signed]
theorem wrap_u16_eq (x : Int) : IntKind.u16.wrap x = x % 65536 := by
  simp [IntKind.wrap, IntKind.bits, IntKind.signed]
theorem wrap_i64_eq (x : Int) : IntKind.i64.wrap x = if x % 18446744073709551616 ≥ 9223372036854775808 then x % 18446744073709551616 - 18446744073709551616 else x % 18446744073709551616 := by
  simp [IntKind.wrap, IntKind.bits, IntKind.signed]
theorem tmod_nn {a b : Int} (h : 0 ≤ a) : a.tmod b = a % b := Int.tmod_eq_emod_of_nonneg h
theorem tdiv_nn {a b : Int} (h : 0 ≤ a) : a.tdiv b = a / b := Int.tdiv_eq_ediv_of_nonneg h

section
variable {P : Program} {L : List HP} {env : Env} {d : Option Tmp} {ty : TypeId} {pos : String} {aft : Array Edge} {g : Option (Nat × Bool)} {x y : Operand} {t u : TypeId} {K : IntKind} {a b : Int}
theorem rd_eq_val {o : Oper} {v v' : Value} (h : Rd P L env o v) (e : v = v') : Rd P L env o v' := e ▸ h
theorem rd_lss_t (hx : ev env x = some (.int K a)) (hy : ev env y = some (.int K b)) (h : a < b) : Rd P L env ⟨d, .binOp .lss t x y u, ty, pos, aft, g⟩ (.bool true) := rd_eq_val (rd_ibin hx hy rfl) (by simp [h])
theorem rd_lss_f (hx : ev env x = some (.int K a)) (hy : ev env y = some (.int K b)) (h : ¬ a < b) : Rd P L env ⟨d, .binOp .lss t x y u, ty, pos, aft, g⟩ (.bool false) := rd_eq_val (rd_ibin hx hy rfl) (by simp [h])
theorem rd_leq_t (hx : ev env x = some (.int K a)) (hy : ev env y = some (.int K b)) (h : a ≤ b) : Rd P L env ⟨d, .binOp .leq t x y u, ty, pos, aft, g⟩ (.bool true) := rd_eq_val (rd_ibin hx hy rfl) (by simp [h])
theorem rd_leq_f (hx : ev env x = some (.int K a)) (hy : ev env y = some (.int K b)) (h : ¬ a ≤ b) : Rd P L env ⟨d, .binOp .leq t x y u, ty, pos, aft, g⟩ (.bool false) := rd_eq_val (rd_ibin hx hy rfl) (by simp [h])
theorem rd_gtr_t (hx : ev env x = some (.int K a)) (hy : ev env y = some (.int K b)) (h : a > b) : Rd P L env ⟨d, .binOp .gtr t x y u, ty, pos, aft, g⟩ (.bool true) := rd_eq_val (rd_ibin hx hy rfl) (by simp [h])
theorem rd_gtr_f (hx : ev env x = some (.int K a)) (hy : ev env y = some (.int K b)) (h : ¬ a > b) : Rd P L env ⟨d, .binOp .gtr t x y u, ty, pos, aft, g⟩ (.bool false) := rd_eq_val (rd_ibin hx hy rfl) (by simp [h])
theorem rd_geq_t (hx : ev env x = some (.int K a)) (hy : ev env y = some (.int K b)) (h : a ≥ b) : Rd P L env ⟨d, .binOp .geq t x y u, ty, pos, aft, g⟩ (.bool true) := rd_eq_val (rd_ibin hx hy rfl) (by simp [h])
theorem rd_geq_f (hx : ev env x = some (.int K a)) (hy : ev env y = some (.int K b)) (h : ¬ a ≥ b) : Rd P L env ⟨d, .binOp .geq t x y u, ty, pos, aft, g⟩ (.bool false) := rd_eq_val (rd_ibin hx hy rfl) (by simp [h])
theorem rd_eql_t (hx : ev env x = some (.int K a)) (hy : ev env y = some (.int K b)) (h : a = b) : Rd P L env ⟨d, .binOp .eql t x y u, ty, pos, aft, g⟩ (.bool true) := rd_eq_val (rd_ibin hx hy rfl) (by simp [h])
theorem rd_eql_f (hx : ev env x = some (.int K a)) (hy : ev env y = some (.int K b)) (h : ¬ a = b) : Rd P L env ⟨d, .binOp .eql t x y u, ty, pos, aft, g⟩ (.bool false) := rd_eq_val (rd_ibin hx hy rfl) (by simp [h])
theorem rd_neq_t (hx : ev env x = some (.int K a)) (hy : ev env y = some (.int K b)) (h : ¬ a = b) : Rd P L env ⟨d, .binOp .neq t x y u, ty, pos, aft, g⟩ (.bool true) := rd_eq_val (rd_ibin hx hy rfl) (by simp [h])
theorem rd_neq_f (hx : ev env x = some (.int K a)) (hy : ev env y = some (.int K b)) (h : a = b) : Rd P L env ⟨d, .binOp .neq t x y u, ty, pos, aft, g⟩ (.bool false) := rd_eq_val (rd_ibin hx hy rfl) (by simp [h])
theorem rd_add_i (hx : ev env x = some (.int .i64 a)) (hy : ev env y = some (.int .i64 b)) (h : -9223372036854775808 ≤ a + b ∧ a + b < 9223372036854775808) : Rd P L env ⟨d, .binOp .add t x y u, ty, pos, aft, g⟩ (.int .i64 (a + b)) := rd_eq_val (rd_ibin hx hy rfl) (by rw [wrap_i64 h.1 h.2])
theorem rd_sub_i (hx : ev env x = some (.int .i64 a)) (hy : ev env y = some (.int .i64 b)) (h : -9223372036854775808 ≤ a - b ∧ a - b < 9223372036854775808) : Rd P L env ⟨d, .binOp .sub t x y u, ty, pos, aft, g⟩ (.int .i64 (a - b)) := rd_eq_val (rd_ibin hx hy rfl) (by rw [wrap_i64 h.1 h.2])
theorem rd_mul_i (hx : ev env x = some (.int .i64 a)) (hy : ev env y = some (.int .i64 b)) (h : -9223372036854775808 ≤ a * b ∧ a * b < 9223372036854775808) : Rd P L env ⟨d, .binOp .mul t x y u, ty, pos, aft, g⟩ (.int .i64 (a * b)) := rd_eq_val (rd_ibin hx hy rfl) (by rw [wrap_i64 h.1 h.2])
theorem rd_add_u (hx : ev env x = some (.int .u64 a)) (hy : ev env y = some (.int .u64 b)) (h : 0 ≤ a + b ∧ a + b < 18446744073709551616) : Rd P L env ⟨d, .binOp .add t x y u, ty, pos, aft, g⟩ (.int .u64 (a + b)) := rd_eq_val (rd_ibin hx hy rfl) (by rw [wrap_u64 h.1 h.2])
theorem rd_sub_u (hx : ev env x = some (.int .u64 a)) (hy : ev env y = some (.int .u64 b)) (h : 0 ≤ a - b ∧ a - b < 18446744073709551616) : Rd P L env ⟨d, .binOp .sub t x y u, ty, pos, aft, g⟩ (.int .u64 (a - b)) := rd_eq_val (rd_ibin hx hy rfl) (by rw [wrap_u64 h.1 h.2])
theorem rd_mul_u (hx : ev env x = some (.int .u64 a)) (hy : ev env y = some (.int .u64 b)) (h : 0 ≤ a * b ∧ a * b < 18446744073709551616) : Rd P L env ⟨d, .binOp .mul t x y u, ty, pos, aft, g⟩ (.int .u64 (a * b)) := rd_eq_val (rd_ibin hx hy rfl) (by rw [wrap_u64 h.1 h.2])
theorem rd_rem_n (hx : ev env x = some (.int K a)) (hy : ev env y = some (.int K b)) (h : 0 ≤ a ∧ ¬ b = 0) : Rd P L env ⟨d, .binOp .rem t x y u, ty, pos, aft, g⟩ (.int K (a % b)) := rd_eq_val (rd_rem hx hy h.2) (by rw [tmod_nn h.1])
theorem rd_quo_u (hx : ev env x = some (.int .u64 a)) (hy : ev env y = some (.int .u64 b)) (h : 0 ≤ a ∧ a < 18446744073709551616 ∧ 0 < b) : Rd P L env ⟨d, .binOp .quo t x y u, ty, pos, aft, g⟩ (.int .u64 (a / b)) := rd_eq_val (rd_quo hx hy (by omega)) (by
  rw [tdiv_nn h.1, wrap_u64 (Int.ediv_nonneg h.1 (by omega)) (by have := Int.ediv_le_self b h.1; omega)])
theorem rd_quo_i (hx : ev env x = some (.int .i64 a)) (hy : ev env y = some (.int .i64 b)) (h : 0 ≤ a ∧ a < 9223372036854775808 ∧ 0 < b) : Rd P L env ⟨d, .binOp .quo t x y u, ty, pos, aft, g⟩ (.int .i64 (a / b)) := rd_eq_val (rd_quo hx hy (by omega)) (by
  rw [tdiv_nn h.1, wrap_i64 (by have := Int.ediv_nonneg h.1 (show 0 ≤ b by omega); omega) (by have := Int.ediv_le_self b h.1; omega)])
theorem rd_conv_u {d0 : TypeDesc} {J : IntKind} [Ty P t d0] [i : Ty P u (.int .u64)] (hx : ev env x = some (.int J a)) (h : 0 ≤ a ∧ a < 18446744073709551616) : Rd P L env ⟨d, .convert t u x, ty, pos, aft, g⟩ (.int .u64 a) := rd_eq_val (rd_conv hx) (by rw [wrap_u64 h.1 h.2])
theorem rd_conv_i {d0 : TypeDesc} {J : IntKind} [Ty P t d0] [i : Ty P u (.int .i64)] (hx : ev env x = some (.int J a)) (h : -9223372036854775808 ≤ a ∧ a < 9223372036854775808) : Rd P L env ⟨d, .convert t u x, ty, pos, aft, g⟩ (.int .i64 a) := rd_eq_val (rd_conv hx) (by rw [wrap_i64 h.1 h.2])
theorem rd_conv_8 {d0 : TypeDesc} {J : IntKind} [Ty P t d0] [i : Ty P u (.int .u8)] (hx : ev env x = some (.int J a)) (h : 0 ≤ a ∧ a < 256) : Rd P L env ⟨d, .convert t u x, ty, pos, aft, g⟩ (.int .u8 a) := rd_eq_val (rd_conv hx) (by rw [wrap_u8 h.1 h.2])
theorem rd_conv_32 {d0 : TypeDesc} {J : IntKind} [Ty P t d0] [i : Ty P u (.int .u32)] (hx : ev env x = some (.int J a)) (h : 0 ≤ a ∧ a < 4294967296) : Rd P L env ⟨d, .convert t u x, ty, pos, aft, g⟩ (.int .u32 a) := rd_eq_val (rd_conv hx) (by rw [wrap_u32 h.1 h.2])
theorem rd_conv_16 {d0 : TypeDesc} {J : IntKind} [Ty P t d0] [i : Ty P u (.int .u16)] (hx : ev env x = some (.int J a)) (h : 0 ≤ a ∧ a < 65536) : Rd P L env ⟨d, .convert t u x, ty, pos, aft, g⟩ (.int .u16 a) := rd_eq_val (rd_conv hx) (by rw [wrap_u16 h.1 h.2])
end
end Go.Proofs.YtliijbndfcjpfaaGreatDoor
