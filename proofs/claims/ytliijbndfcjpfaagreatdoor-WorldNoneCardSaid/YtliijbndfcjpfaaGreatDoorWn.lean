/- A process that is none: what each function of package world answers for it. -/
import Derived.Test.YtliijbndfcjpfaaGreatDoorTy
import Derived.Test.YtliijbndfcjpfaaGreatDoorSt
namespace Go.Proofs.YtliijbndfcjpfaaGreatDoor
open Go.RowKit
abbrev unitV : Value := .tuple ⟨[]⟩
instance wtick_pc : PC Tryz.prog 16 [.pointer none] unitV := ⟨by
  refine specR_enter Tryz.func16 rfl Tryz.ntmps16 rfl ?_
  intro s F _
  repeat (first | refine st1 ?_ | intro _)
  first | exact trx_leaveR (.inl rfl) rfl (by exact resl) rfl Sub.refl | exact trx_leaveR (.inr rfl) rfl (by exact resl) rfl Sub.refl⟩
instance wforce_pc {n x : Int} : PC Tryz.prog 17 [.pointer none, .int .i64 n, .int .u64 x] unitV := ⟨by
  refine specR_enter Tryz.func17 rfl Tryz.ntmps17 rfl ?_
  intro s F _
  repeat (first | refine st1 ?_ | intro _)
  first | exact trx_leaveR (.inl rfl) rfl (by exact resl) rfl Sub.refl | exact trx_leaveR (.inr rfl) rfl (by exact resl) rfl Sub.refl⟩
instance wexit_pc {v : List Value} : PC Tryz.prog 11 [.pointer none, .agg ⟨v⟩] unitV := ⟨by
  refine specR_enter Tryz.func11 rfl Tryz.ntmps11 rfl ?_
  intro s F _
  repeat (first | refine st1 ?_ | intro _)
  first | exact trx_leaveR (.inl rfl) rfl (by exact resl) rfl Sub.drop1 | exact trx_leaveR (.inr rfl) rfl (by exact resl) rfl Sub.drop1⟩
instance wnote_pc {v : List Value} : PC Tryz.prog 19 [.pointer none, .agg ⟨v⟩] unitV := ⟨by
  refine specR_enter Tryz.func19 rfl Tryz.ntmps19 rfl ?_
  intro s F _
  repeat (first | refine st1 ?_ | intro _)
  first | exact trx_leaveR (.inl rfl) rfl (by exact resl) rfl Sub.drop1 | exact trx_leaveR (.inr rfl) rfl (by exact resl) rfl Sub.drop1⟩
instance wenter_pc {n : Int} {v : List Value} : PC Tryz.prog 18 [.pointer none, .int .i64 n, .agg ⟨v⟩] unitV := ⟨by
  refine specR_enter Tryz.func18 rfl Tryz.ntmps18 rfl ?_
  intro s F _
  repeat (first | refine st1 ?_ | intro _)
  first | exact trx_leaveR (.inl rfl) rfl (by exact resl) rfl Sub.drop1 | exact trx_leaveR (.inr rfl) rfl (by exact resl) rfl Sub.drop1⟩
instance wdeliver_pc : PC Tryz.prog 15 [.pointer none] unitV := ⟨by
  refine specR_enter Tryz.func15 rfl Tryz.ntmps15 rfl ?_
  intro s F _
  repeat (first | refine st1 ?_ | intro _)
  refine trk_loop1 ?_
  repeat (first | refine st1 ?_ | intro _)
  first | exact trx_leaveR (.inl rfl) rfl (by exact resl) rfl Sub.refl | exact trx_leaveR (.inr rfl) rfl (by exact resl) rfl Sub.refl⟩
instance wend_pc : PC Tryz.prog 10 [.pointer none] (.tuple ⟨[.agg ⟨[.int .i64 0, .int .i64 0]⟩, .bool false]⟩) := ⟨by
  refine specR_enter Tryz.func10 rfl Tryz.ntmps10 rfl ?_
  intro s F _
  repeat (first | refine st1 ?_ | intro _)
  exact trx_leaveR (.inl rfl) rfl (by exact resl) rfl (by infer_instance)⟩
instance wshort_pc {n : Int} : PC Tryz.prog 9 [.pointer none, .int .i64 n] (.int .i64 0) := ⟨by
  refine specR_enter Tryz.func9 rfl Tryz.ntmps9 rfl ?_
  intro s F _
  repeat (first | refine st1 ?_ | intro _)
  exact trx_leaveR (.inl rfl) rfl (by exact resl) rfl Sub.refl⟩
instance wrandom_pc {n : Int} : PC Tryz.prog 20 [.pointer none, .int .i64 n] (.slice none 0 0) := ⟨by
  refine specR_enter Tryz.func20 rfl Tryz.ntmps20 rfl ?_
  intro s F _
  repeat (first | refine st1 ?_ | intro _)
  exact trx_leaveR (.inl rfl) rfl (by exact resl) rfl Sub.refl⟩
instance wtrace_pc : PC Tryz.prog 21 [.pointer none] (.slice none 0 0) := ⟨by
  refine specR_enter Tryz.func21 rfl Tryz.ntmps21 rfl ?_
  intro s F _
  repeat (first | refine st1 ?_ | intro _)
  exact trx_leaveR (.inl rfl) rfl (by exact resl) rfl Sub.refl⟩
instance wready_pc : PC Tryz.prog 22 [.pointer none] (.bool false) := ⟨by
  refine specR_enter Tryz.func22 rfl Tryz.ntmps22 rfl ?_
  intro s F _
  repeat (first | refine st1 ?_ | intro _)
  exact trx_leaveR (.inl rfl) rfl (by exact resl) rfl Sub.refl⟩
instance wwait_pc {n : Int} : PC Tryz.prog 23 [.pointer none, .int .i64 n] (.int .i64 0) := ⟨by
  refine specR_enter Tryz.func23 rfl Tryz.ntmps23 rfl ?_
  intro s F _
  repeat (first | refine st1 ?_ | intro _)
  exact trx_leaveR (.inl rfl) rfl (by exact resl) rfl Sub.refl⟩
abbrev setup0 : Value := .agg ⟨[.slice none 0 0, .slice none 0 0, .slice none 0 0, .slice none 0 0, .slice none 0 0, .int .i64 (-1), .int .i64 0, .int .i64 0, .bool false]⟩
instance wsound_pc : PC Tryz.prog 24 [.agg ⟨[.slice none 0 0, .slice none 0 0, .slice none 0 0, .slice none 0 0, .slice none 0 0, .int .i64 (-1), .int .i64 0, .int .i64 0, .bool false]⟩] (.bool false) := ⟨by
  refine specR_enter Tryz.func24 rfl Tryz.ntmps24 rfl ?_
  intro s F _
  repeat (first | refine st1 ?_ | intro _)
  exact trx_leaveR (.inl rfl) rfl (by exact resl) rfl Sub.drop1⟩
instance wnew_pc : PC Tryz.prog 8 [.agg ⟨[.slice none 0 0, .slice none 0 0, .slice none 0 0, .slice none 0 0, .slice none 0 0, .int .i64 (-1), .int .i64 0, .int .i64 0, .bool false]⟩] (.tuple ⟨[.pointer none, .int .i64 200]⟩) := ⟨by
  refine specR_enter Tryz.func8 rfl Tryz.ntmps8 rfl ?_
  intro s F _
  repeat (first | refine st1 ?_ | intro _)
  exact trx_leaveR (.inl rfl) rfl (by exact resl) rfl Sub.drop1⟩
instance wanswers_pc : PC Tryz.prog 6 [] (.bool true) := ⟨by
  refine specR_enter Tryz.func6 rfl Tryz.ntmps6 rfl ?_
  intro s F _
  repeat (first | refine st1 ?_ | intro _)
  exact trx_leaveR (.inl rfl) rfl (by exact resl) rfl Sub.refl⟩
theorem worldNone_spec (n x : Int) : SpecP Tryz.prog 5 [.int .i64 n, .int .u64 x] (.bool true) := by
  refine specR_enter Tryz.func5 rfl Tryz.ntmps5 rfl ?_
  intro s F _
  repeat (first | refine st1 ?_ | intro _)
  exact trx_leaveR (.inl rfl) rfl (by exact resl) rfl Sub.drop1
end Go.Proofs.YtliijbndfcjpfaaGreatDoor
