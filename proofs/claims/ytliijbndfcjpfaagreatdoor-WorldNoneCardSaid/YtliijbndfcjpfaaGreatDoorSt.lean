/- Steps that find their own premises: one text for all functions. -/
import Derived.Test.YtliijbndfcjpfaaGreatDoorRg
import Derived.Test.YtliijbndfcjpfaaGreatDoorSl
namespace Go.Proofs.YtliijbndfcjpfaaGreatDoor
open Go.RowKit

structure Held (p : Prop) : Prop where
  out : p

/-- a function that only computes: its value, found by its name -/
class PC (P : Program) (f : FuncId) (args : List Value) (v : outParam Value) : Prop where
  sp : SpecP P f args v
section
variable {P : Program} {n : Nat} {s : Str} {L : List HP} {env : Env} {k : List Fr} {Q : Exit → Act → World → Prop} {ops : Array Oper} {rest : List Oper}
variable {d : Nat} {ty : TypeId} {pos : String} {aft : Array Edge} {g : Option (Nat × Bool)} {v : Value} {x : Operand} {xs : List Operand} {ts : Array TypeId} {f : FuncId} {vs : List Value}
theorem tro_pc [hb : HasBody P f] (hg : gd ops env g = some true) (hd : Nat.ble (d + 1) n = true) (hx : ev env x = some (.func (.func f) ⟨[]⟩ ⟨[]⟩)) (hs : evs env xs = some vs) [i : PC P f vs v]
    (h : TrO P n s ops L ((d, v) :: env) rest k Q) : TrO P n s ops L env (⟨some d, .call ⟨.value x, ⟨xs⟩, ts⟩, ty, pos, aft, g⟩ :: rest) k Q :=
  tro_specR i.sp trivial hg hd hx hs (by simp) h
theorem tro_isCall (h : TrO P n s ops L env (⟨some d, .call ⟨.value x, ⟨xs⟩, ts⟩, ty, pos, aft, g⟩ :: rest) k Q) : TrO P n s ops L env (⟨some d, .call ⟨.value x, ⟨xs⟩, ts⟩, ty, pos, aft, g⟩ :: rest) k Q := h
theorem rde_callW {e' : Env} (hg : gd ops env g = some true) (hr : RdW P L env ⟨some d, .call ⟨.value x, ⟨xs⟩, ts⟩, ty, pos, aft, g⟩ v) (t : RdE P ops L ((d, v) :: env) rest e') : RdE P ops L env (⟨some d, .call ⟨.value x, ⟨xs⟩, ts⟩, ty, pos, aft, g⟩ :: rest) e' := RdE.cons hg hr t
theorem rdw_pc {d : Option Tmp} [hb : HasBody P f] (hx : ev env x = some (.func (.func f) ⟨[]⟩ ⟨[]⟩)) (hs : evs env xs = some vs) [i : PC P f vs v] :
    RdW P L env ⟨d, .call ⟨.value x, ⟨xs⟩, ts⟩, ty, pos, aft, g⟩ v := rdw_callR i.sp trivial hx hs (by simp)
end

section
variable {P : Program} {n : Nat} {s : Str} {L : List HP} {env e' : Env} {ops : Array Oper} {G : List Oper} {rs : List ResultVar} {vs : List Value} {o : Oper} {v : Value}
/-- a read -/
theorem rdx (h : Rd P L env o v := by (first
    | (exact rd_move rfl) | (exact rd_nilCheck rfl) | (exact rd_fieldAddr rfl) | (exact rd_load rfl) | (exact rd_ibin rfl rfl rfl) | (exact rd_assign rfl) | (exact rd_loadA rfl)
    | (exact rd_conv rfl) | (exact rd_extractT rfl) | (exact rd_extract rfl rfl) | (exact rd_pickT rfl rfl) | (exact rd_pickF rfl rfl) | (exact rd_field rfl) | (exact rd_fieldA rfl)
    | (exact rd_not rfl) | (exact rd_len rfl) | (exact rd_eqPN rfl rfl) | (exact rd_nePN rfl rfl) | (exact rd_quo rfl rfl (by decide)) | (exact rd_rem rfl rfl (by decide))
    | (exact rd_shl rfl rfl (by decide)) | (exact rd_shr rfl rfl (by decide)) | (exact rd_eqB rfl rfl) | (exact rd_neB rfl rfl) | (exact rd_min2 rfl rfl) | (exact rd_max2 rfl rfl)
    | (exact rd_neg rfl) | (exact rd_xor1 rfl) | (exact rd_lenS rfl) | (exact rd_makeFunc rfl rfl) | (exact rd_loadIn rfl (by assumption)) | (exact rd_loadX rfl (by assumption))
    | (exact rd_eqSN rfl rfl) | (exact rd_cap rfl) | (exact rd_lookup1 rfl rfl) | (exact rd_lookup2 rfl rfl) | (exact rd_lenMap rfl) | (exact rd_build rfl) | (exact rd_buildA rfl)
    | (exact rd_entryR rfl))) : Rd P L env o v := h
/-- a read, sums and tests by what is known -/
theorem rdox (h : Rd P L env o v := by (first
    | (exact rd_move rfl) | (exact rd_nilCheck rfl) | (exact rd_fieldAddr rfl) | (exact rd_load rfl) | (exact rd_lenA rfl) | (exact rd_idxA rfl rfl (by omega))
    | (exact rd_fieldIn rfl (by omega)) | (exact rd_index_addrN rfl rfl (by omega)) | (exact rd_index_addrAN rfl rfl (by omega)) | (exact rd_slice_10 rfl rfl (by omega))
    | (exact rd_slice_01 rfl rfl (by omega)) | (exact rd_slice_11 rfl rfl rfl (by omega)) | (exact rd_slice_00 rfl (by omega)) | (exact rd_sliceA_00 rfl)
    | (exact rd_sliceA_10 rfl rfl (by omega)) | (exact rd_sliceA_11 rfl rfl rfl (by omega)) | (exact rd_lss_t rfl rfl (by omega)) | (exact rd_lss_f rfl rfl (by omega))
    | (exact rd_eql_t rfl rfl (by omega)) | (exact rd_eql_f rfl rfl (by omega)) | (exact rd_neq_t rfl rfl (by omega)) | (exact rd_neq_f rfl rfl (by omega))
    | (exact rd_gtr_t rfl rfl (by omega)) | (exact rd_gtr_f rfl rfl (by omega)) | (exact rd_geq_t rfl rfl (by omega)) | (exact rd_geq_f rfl rfl (by omega))
    | (exact rd_leq_t rfl rfl (by omega)) | (exact rd_leq_f rfl rfl (by omega)) | (exact rd_add_i rfl rfl (by omega)) | (exact rd_add_u rfl rfl (by omega))
    | (exact rd_sub_i rfl rfl (by omega)) | (exact rd_sub_u rfl rfl (by omega)) | (exact rd_mul_u rfl rfl (by omega)) | (exact rd_mul_i rfl rfl (by omega))
    | (exact rd_rem_n rfl rfl (by omega)) | (exact rd_quo_u rfl rfl (by omega)) | (exact rd_quo_i rfl rfl (by omega)) | (exact rd_conv_u rfl (by omega))
    | (exact rd_conv_i rfl (by omega)) | (exact rd_conv_8 rfl (by omega)) | (exact rd_conv_32 rfl (by omega)) | (exact rd_conv_16 rfl (by omega)) | (exact rd_shl rfl rfl (by omega)) | (exact rd_shr rfl rfl (by omega)) | (exact rdx))) : Rd P L env o v := h
theorem rde1 (h : RdE P ops L env G e' := by (repeat (first | exact RdE.nil | (apply rde_cons; (focus rfl); focus (exact rdx)) | (apply rde_skip; focus rfl) | (apply rde_callW; (focus rfl); exact rdw_pc rfl rfl) | (apply rde_callW; (focus rfl); exact rdw_call (by assumption) rfl rfl rfl) | (apply rde_callW; (focus rfl); exact rdw_callR (by assumption) trivial rfl rfl rfl)))) : RdE P ops L env G e' := h
theorem rdeo (h : RdE P ops L env G e' := by (repeat (first | exact RdE.nil | (apply rde_cons; (focus rfl); focus (exact rdox)) | (apply rde_skip; focus rfl) | (apply rde_callW; (focus rfl); exact rdw_pc rfl rfl) | (apply rde_callW; (focus rfl); exact rdw_call (by assumption) rfl rfl rfl) | (apply rde_callW; (focus rfl); exact rdw_callR (by assumption) trivial rfl rfl rfl)))) : RdE P ops L env G e' := h
theorem resl (h : ResL P L env rs vs := by (first
    | (exact ResL.nil) | (exact (ResL.cons (res_tmp rfl) ResL.nil)) | (exact (ResL.cons (res_cellA rfl) ResL.nil)) | (exact (ResL.cons (res_tmp rfl) (ResL.cons (res_tmp rfl) ResL.nil)))
    | (exact (ResL.cons (res_tmp rfl) (ResL.cons (res_cellA rfl) ResL.nil))) | (exact (ResL.cons (res_cellA rfl) (ResL.cons (res_tmp rfl) ResL.nil)))
    | (exact (ResL.cons (res_cellA rfl) (ResL.cons (res_cellA rfl) ResL.nil))) | (exact (ResL.cons (res_tmp rfl) (ResL.cons (res_tmp rfl) (ResL.cons (res_tmp rfl) ResL.nil))))
    | (exact (ResL.cons (res_tmp rfl) (ResL.cons (res_tmp rfl) (ResL.cons (res_cellA rfl) ResL.nil))))
    | (exact (ResL.cons (res_tmp rfl) (ResL.cons (res_cellA rfl) (ResL.cons (res_tmp rfl) ResL.nil))))
    | (exact (ResL.cons (res_tmp rfl) (ResL.cons (res_cellA rfl) (ResL.cons (res_cellA rfl) ResL.nil))))
    | (exact (ResL.cons (res_cellA rfl) (ResL.cons (res_tmp rfl) (ResL.cons (res_tmp rfl) ResL.nil))))
    | (exact (ResL.cons (res_cellA rfl) (ResL.cons (res_tmp rfl) (ResL.cons (res_cellA rfl) ResL.nil))))
    | (exact (ResL.cons (res_cellA rfl) (ResL.cons (res_cellA rfl) (ResL.cons (res_tmp rfl) ResL.nil))))
    | (exact (ResL.cons (res_cellA rfl) (ResL.cons (res_cellA rfl) (ResL.cons (res_cellA rfl) ResL.nil)))))) : ResL P L env rs vs := h
end
/-- one step -/
theorem st1 {G G' : Prop} (g : G') (h : Held G' → G := by (intro hh; first
    | (apply tro_rd; (focus rfl); (focus rfl); (exact rdx); exact hh.out) | (apply tro_rd0; (focus rfl); (exact rdx); exact hh.out)
    | (apply tro_andG; (focus rfl); (focus rfl); (focus rfl); (focus rfl); (focus rfl); (focus (exact rde1)); (focus rfl); exact hh.out)
    | (apply tro_orG; (focus rfl); (focus rfl); (focus rfl); (focus rfl); (focus rfl); (focus (exact rde1)); (focus rfl); exact hh.out) | (refine tro_nil ?_; exact hh.out) | (apply tro_isCall; refine tro_pc rfl rfl rfl rfl ?_; exact hh.out)
    | (refine trx_code ?_; exact hh.out) | (refine trk_seq ?_; exact hh.out) | (refine trk_region ?_; exact hh.out) | (refine trx_blk ?_; exact hh.out) | (refine tro_skip rfl rfl ?_; exact hh.out)
    | (refine tro_store rfl rfl rfl rfl rfl ?_; exact hh.out) | (refine tro_alloc rfl rfl ?_; exact hh.out) | (refine tro_box rfl rfl rfl ?_; exact hh.out)
    | (refine tro_makeMap rfl rfl ?_; exact hh.out) | (refine tro_buildSlice0 rfl rfl ?_; exact hh.out) | (refine tro_buildSlice1 rfl rfl rfl rfl rfl rfl ?_; exact hh.out)
    | (refine tro_rangeR rfl rfl rfl ?_; exact hh.out) | (refine trk_ct rfl ?_; exact hh.out) | (refine trk_cf rfl ?_; exact hh.out) | (refine trk_skip ?_; exact hh.out)
    | (refine trk_block ?_; exact hh.out) | (refine trk_ret ?_; exact hh.out) | (refine trk_exit ?_; exact hh.out) | (refine trx_ret_code ?_; exact hh.out) | (refine trx_ret_blk ?_; exact hh.out)
    | (refine trx_ret_inv ?_; exact hh.out) | (refine trx_exit_code ?_; exact hh.out) | (refine trx_exit_inv ?_; exact hh.out) | (refine trx_exit_hit ?_; exact hh.out)
    | (refine trx_exit_miss rfl ?_; exact hh.out)))  : G := h ⟨g⟩
/-- one step, sums and tests by what is known -/
theorem so1 {G G' : Prop} (g : G') (h : Held G' → G := by (intro hh; first
    | (apply tro_rd; (focus rfl); (focus rfl); (exact rdox); exact hh.out) | (apply tro_rd0; (focus rfl); (exact rdox); exact hh.out)
    | (apply tro_andG; (focus rfl); (focus rfl); (focus rfl); (focus rfl); (focus rfl); (focus (exact rdeo)); (focus rfl); exact hh.out)
    | (apply tro_orG; (focus rfl); (focus rfl); (focus rfl); (focus rfl); (focus rfl); (focus (exact rdeo)); (focus rfl); exact hh.out) | (refine tro_nil ?_; exact hh.out) | (apply tro_isCall; refine tro_pc rfl rfl rfl rfl ?_; exact hh.out)
    | (refine trx_code ?_; exact hh.out) | (refine trk_seq ?_; exact hh.out) | (refine trk_region ?_; exact hh.out) | (refine trx_blk ?_; exact hh.out) | (refine tro_skip rfl rfl ?_; exact hh.out)
    | (refine tro_store rfl rfl rfl rfl rfl ?_; exact hh.out) | (refine tro_alloc rfl rfl ?_; exact hh.out) | (refine tro_box rfl rfl rfl ?_; exact hh.out)
    | (refine tro_makeMap rfl rfl ?_; exact hh.out) | (refine tro_buildSlice0 rfl rfl ?_; exact hh.out) | (refine tro_buildSlice1 rfl rfl rfl rfl rfl rfl ?_; exact hh.out)
    | (refine tro_rangeR rfl rfl rfl ?_; exact hh.out) | (refine trk_ct rfl ?_; exact hh.out) | (refine trk_cf rfl ?_; exact hh.out) | (refine trk_skip ?_; exact hh.out)
    | (refine trk_block ?_; exact hh.out) | (refine trk_ret ?_; exact hh.out) | (refine trk_exit ?_; exact hh.out) | (refine trx_ret_code ?_; exact hh.out) | (refine trx_ret_blk ?_; exact hh.out)
    | (refine trx_ret_inv ?_; exact hh.out) | (refine trx_exit_code ?_; exact hh.out) | (refine trx_exit_inv ?_; exact hh.out) | (refine trx_exit_hit ?_; exact hh.out)
    | (refine trx_exit_miss rfl ?_; exact hh.out)))  : G := h ⟨g⟩
end Go.Proofs.YtliijbndfcjpfaaGreatDoor
