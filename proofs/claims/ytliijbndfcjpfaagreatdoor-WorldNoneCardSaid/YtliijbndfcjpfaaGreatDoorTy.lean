/- Facts about the types and functions of this seat's translation: what the table says, as instances for the steps. Written by the program mkty.py. -/
import Derived.Test.YtliijbndfcjpfaaGreatDoorFr
import Derived.Test.YtliijbndfcjpfaaGreatDoorRows
namespace Go.Proofs.YtliijbndfcjpfaaGreatDoor
instance ty2 : Ty Tryz.prog 2 (.int .i64) := ⟨Tryz.underlying2⟩
theorem info2 : (Tryz.prog.info? 2).map (fun i => (i.zero, i.size, i.bytes)) = some (some (.int .i64 0), 1, 8) := by kernel_rfl
instance tyi2 : TyI Tryz.prog 2 (.int .i64 0) 1 8 := ⟨info_parts info2⟩
instance : TyS Tryz.prog 2 := ⟨_, Tryz.underlying2, rfl⟩
instance ty3 : Ty Tryz.prog 3 (.int .i64) := ⟨Tryz.underlying3⟩
theorem info3 : (Tryz.prog.info? 3).map (fun i => (i.zero, i.size, i.bytes)) = some (some (.int .i64 0), 1, 8) := by kernel_rfl
instance tyi3 : TyI Tryz.prog 3 (.int .i64 0) 1 8 := ⟨info_parts info3⟩
instance : TyS Tryz.prog 3 := ⟨_, Tryz.underlying3, rfl⟩
instance ty4 : Ty Tryz.prog 4 (.bool) := ⟨Tryz.underlying4⟩
theorem info4 : (Tryz.prog.info? 4).map (fun i => (i.zero, i.size, i.bytes)) = some (some (.bool false), 1, 1) := by kernel_rfl
instance tyi4 : TyI Tryz.prog 4 (.bool false) 1 1 := ⟨info_parts info4⟩
instance : TyS Tryz.prog 4 := ⟨_, Tryz.underlying4, rfl⟩
instance ty5 : Ty Tryz.prog 5 (.int .u8) := ⟨Tryz.underlying5⟩
theorem info5 : (Tryz.prog.info? 5).map (fun i => (i.zero, i.size, i.bytes)) = some (some (.int .u8 0), 1, 1) := by kernel_rfl
instance tyi5 : TyI Tryz.prog 5 (.int .u8 0) 1 1 := ⟨info_parts info5⟩
instance : TyS Tryz.prog 5 := ⟨_, Tryz.underlying5, rfl⟩
instance ty6 : Ty Tryz.prog 6 (.int .u8) := ⟨Tryz.underlying6⟩
theorem info6 : (Tryz.prog.info? 6).map (fun i => (i.zero, i.size, i.bytes)) = some (some (.int .u8 0), 1, 1) := by kernel_rfl
instance tyi6 : TyI Tryz.prog 6 (.int .u8 0) 1 1 := ⟨info_parts info6⟩
instance : TyS Tryz.prog 6 := ⟨_, Tryz.underlying6, rfl⟩
instance ty7 : Ty Tryz.prog 7 (.struct #[{ name := "x", type := 2, offset := 0, embedded := false, tag := "", pkgPath := "runtime", byteOffset := 0 }, { name := "y", type := 3, offset := 1, embedded := false, tag := "", pkgPath := "runtime", byteOffset := 8 }, { name := "signed", type := 4, offset := 2, embedded := false, tag := "", pkgPath := "runtime", byteOffset := 16 }, { name := "code", type := 6, offset := 3, embedded := false, tag := "", pkgPath := "runtime", byteOffset := 17 }]) := ⟨Tryz.underlying7⟩
theorem info7 : (Tryz.prog.info? 7).map (fun i => (i.zero, i.size, i.bytes)) = some (some (.agg ⟨[.int .i64 0, .int .i64 0, .bool false, .int .u8 0]⟩), 4, 24) := by kernel_rfl
instance tyi7 : TyI Tryz.prog 7 (.agg ⟨[.int .i64 0, .int .i64 0, .bool false, .int .u8 0]⟩) 4 24 := ⟨info_parts info7⟩
instance : TyA Tryz.prog 7 4 := ⟨⟨_, Tryz.underlying7, rfl⟩, by obtain ⟨i, h1, _, h2, _⟩ := info_parts info7; exact ⟨i, h1, h2⟩⟩
instance ty8 : Ty Tryz.prog 8 (.struct #[{ name := "x", type := 2, offset := 0, embedded := false, tag := "", pkgPath := "runtime", byteOffset := 0 }, { name := "y", type := 3, offset := 1, embedded := false, tag := "", pkgPath := "runtime", byteOffset := 8 }, { name := "signed", type := 4, offset := 2, embedded := false, tag := "", pkgPath := "runtime", byteOffset := 16 }, { name := "code", type := 6, offset := 3, embedded := false, tag := "", pkgPath := "runtime", byteOffset := 17 }]) := ⟨Tryz.underlying8⟩
theorem info8 : (Tryz.prog.info? 8).map (fun i => (i.zero, i.size, i.bytes)) = some (some (.agg ⟨[.int .i64 0, .int .i64 0, .bool false, .int .u8 0]⟩), 4, 24) := by kernel_rfl
instance tyi8 : TyI Tryz.prog 8 (.agg ⟨[.int .i64 0, .int .i64 0, .bool false, .int .u8 0]⟩) 4 24 := ⟨info_parts info8⟩
instance : TyA Tryz.prog 8 4 := ⟨⟨_, Tryz.underlying8, rfl⟩, by obtain ⟨i, h1, _, h2, _⟩ := info_parts info8; exact ⟨i, h1, h2⟩⟩
instance ty9 : Ty Tryz.prog 9 (.string) := ⟨Tryz.underlying9⟩
theorem info9 : (Tryz.prog.info? 9).map (fun i => (i.zero, i.size, i.bytes)) = some (some (.string ⟨#[]⟩), 1, 16) := by kernel_rfl
instance tyi9 : TyI Tryz.prog 9 (.string ⟨#[]⟩) 1 16 := ⟨info_parts info9⟩
instance : TyS Tryz.prog 9 := ⟨_, Tryz.underlying9, rfl⟩
instance ty10 : Ty Tryz.prog 10 (.string) := ⟨Tryz.underlying10⟩
theorem info10 : (Tryz.prog.info? 10).map (fun i => (i.zero, i.size, i.bytes)) = some (some (.string ⟨#[]⟩), 1, 16) := by kernel_rfl
instance tyi10 : TyI Tryz.prog 10 (.string ⟨#[]⟩) 1 16 := ⟨info_parts info10⟩
instance : TyS Tryz.prog 10 := ⟨_, Tryz.underlying10, rfl⟩
instance ty11 : Ty Tryz.prog 11 (.string) := ⟨Tryz.underlying11⟩
theorem info11 : (Tryz.prog.info? 11).map (fun i => (i.zero, i.size, i.bytes)) = some (some (.string ⟨#[]⟩), 1, 16) := by kernel_rfl
instance tyi11 : TyI Tryz.prog 11 (.string ⟨#[]⟩) 1 16 := ⟨info_parts info11⟩
instance : TyS Tryz.prog 11 := ⟨_, Tryz.underlying11, rfl⟩
instance ty12 : Ty Tryz.prog 12 (.int .u64) := ⟨Tryz.underlying12⟩
theorem info12 : (Tryz.prog.info? 12).map (fun i => (i.zero, i.size, i.bytes)) = some (some (.int .u64 0), 1, 8) := by kernel_rfl
instance tyi12 : TyI Tryz.prog 12 (.int .u64 0) 1 8 := ⟨info_parts info12⟩
instance : TyS Tryz.prog 12 := ⟨_, Tryz.underlying12, rfl⟩
instance ty13 : Ty Tryz.prog 13 (.struct #[{ name := "msg", type := 9, offset := 0, embedded := false, tag := "", pkgPath := "runtime", byteOffset := 0 }, { name := "addr", type := 12, offset := 1, embedded := false, tag := "", pkgPath := "runtime", byteOffset := 16 }]) := ⟨Tryz.underlying13⟩
theorem info13 : (Tryz.prog.info? 13).map (fun i => (i.zero, i.size, i.bytes)) = some (some (.agg ⟨[.string ⟨#[]⟩, .int .u64 0]⟩), 2, 24) := by kernel_rfl
instance tyi13 : TyI Tryz.prog 13 (.agg ⟨[.string ⟨#[]⟩, .int .u64 0]⟩) 2 24 := ⟨info_parts info13⟩
instance : TyA Tryz.prog 13 2 := ⟨⟨_, Tryz.underlying13, rfl⟩, by obtain ⟨i, h1, _, h2, _⟩ := info_parts info13; exact ⟨i, h1, h2⟩⟩
instance ty14 : Ty Tryz.prog 14 (.struct #[{ name := "msg", type := 9, offset := 0, embedded := false, tag := "", pkgPath := "runtime", byteOffset := 0 }, { name := "addr", type := 12, offset := 1, embedded := false, tag := "", pkgPath := "runtime", byteOffset := 16 }]) := ⟨Tryz.underlying14⟩
theorem info14 : (Tryz.prog.info? 14).map (fun i => (i.zero, i.size, i.bytes)) = some (some (.agg ⟨[.string ⟨#[]⟩, .int .u64 0]⟩), 2, 24) := by kernel_rfl
instance tyi14 : TyI Tryz.prog 14 (.agg ⟨[.string ⟨#[]⟩, .int .u64 0]⟩) 2 24 := ⟨info_parts info14⟩
instance : TyA Tryz.prog 14 2 := ⟨⟨_, Tryz.underlying14, rfl⟩, by obtain ⟨i, h1, _, h2, _⟩ := info_parts info14; exact ⟨i, h1, h2⟩⟩
instance ty15 : Ty Tryz.prog 15 (.pointer 360) := ⟨Tryz.underlying15⟩
theorem info15 : (Tryz.prog.info? 15).map (fun i => (i.zero, i.size, i.bytes)) = some (some (.pointer none), 1, 8) := by kernel_rfl
instance tyi15 : TyI Tryz.prog 15 (.pointer none) 1 8 := ⟨info_parts info15⟩
instance : TyS Tryz.prog 15 := ⟨_, Tryz.underlying15, rfl⟩
instance ty16 : Ty Tryz.prog 16 (.pointer 363) := ⟨Tryz.underlying16⟩
theorem info16 : (Tryz.prog.info? 16).map (fun i => (i.zero, i.size, i.bytes)) = some (some (.pointer none), 1, 8) := by kernel_rfl
instance tyi16 : TyI Tryz.prog 16 (.pointer none) 1 8 := ⟨info_parts info16⟩
instance : TyS Tryz.prog 16 := ⟨_, Tryz.underlying16, rfl⟩
instance ty17 : Ty Tryz.prog 17 (.pointer 371) := ⟨Tryz.underlying17⟩
theorem info17 : (Tryz.prog.info? 17).map (fun i => (i.zero, i.size, i.bytes)) = some (some (.pointer none), 1, 8) := by kernel_rfl
instance tyi17 : TyI Tryz.prog 17 (.pointer none) 1 8 := ⟨info_parts info17⟩
instance : TyS Tryz.prog 17 := ⟨_, Tryz.underlying17, rfl⟩
instance ty18 : Ty Tryz.prog 18 (.struct #[{ name := "typ", type := 17, offset := 0, embedded := false, tag := "", pkgPath := "internal/runtime/maps", byteOffset := 0 }]) := ⟨Tryz.underlying18⟩
theorem info18 : (Tryz.prog.info? 18).map (fun i => (i.zero, i.size, i.bytes)) = some (some (.agg ⟨[.pointer none]⟩), 1, 8) := by kernel_rfl
instance tyi18 : TyI Tryz.prog 18 (.agg ⟨[.pointer none]⟩) 1 8 := ⟨info_parts info18⟩
instance : TyA Tryz.prog 18 1 := ⟨⟨_, Tryz.underlying18, rfl⟩, by obtain ⟨i, h1, _, h2, _⟩ := info_parts info18; exact ⟨i, h1, h2⟩⟩
instance ty19 : Ty Tryz.prog 19 (.struct #[{ name := "typ", type := 17, offset := 0, embedded := false, tag := "", pkgPath := "internal/runtime/maps", byteOffset := 0 }]) := ⟨Tryz.underlying19⟩
theorem info19 : (Tryz.prog.info? 19).map (fun i => (i.zero, i.size, i.bytes)) = some (some (.agg ⟨[.pointer none]⟩), 1, 8) := by kernel_rfl
instance tyi19 : TyI Tryz.prog 19 (.agg ⟨[.pointer none]⟩) 1 8 := ⟨info_parts info19⟩
instance : TyA Tryz.prog 19 1 := ⟨⟨_, Tryz.underlying19, rfl⟩, by obtain ⟨i, h1, _, h2, _⟩ := info_parts info19; exact ⟨i, h1, h2⟩⟩
instance ty21 : Ty Tryz.prog 21 (.int .i32) := ⟨Tryz.underlying21⟩
theorem info21 : (Tryz.prog.info? 21).map (fun i => (i.zero, i.size, i.bytes)) = some (some (.int .i32 0), 1, 4) := by kernel_rfl
instance tyi21 : TyI Tryz.prog 21 (.int .i32 0) 1 4 := ⟨info_parts info21⟩
instance : TyS Tryz.prog 21 := ⟨_, Tryz.underlying21, rfl⟩
instance ty22 : Ty Tryz.prog 22 (.slice 5) := ⟨Tryz.underlying22⟩
theorem info22 : (Tryz.prog.info? 22).map (fun i => (i.zero, i.size, i.bytes)) = some (some (.slice none 0 0), 1, 24) := by kernel_rfl
instance tyi22 : TyI Tryz.prog 22 (.slice none 0 0) 1 24 := ⟨info_parts info22⟩
instance : TyS Tryz.prog 22 := ⟨_, Tryz.underlying22, rfl⟩
instance ty23 : Ty Tryz.prog 23 (.slice 9) := ⟨Tryz.underlying23⟩
theorem info23 : (Tryz.prog.info? 23).map (fun i => (i.zero, i.size, i.bytes)) = some (some (.slice none 0 0), 1, 24) := by kernel_rfl
instance tyi23 : TyI Tryz.prog 23 (.slice none 0 0) 1 24 := ⟨info_parts info23⟩
instance : TyS Tryz.prog 23 := ⟨_, Tryz.underlying23, rfl⟩
instance ty24 : Ty Tryz.prog 24 (.slice 75) := ⟨Tryz.underlying24⟩
theorem info24 : (Tryz.prog.info? 24).map (fun i => (i.zero, i.size, i.bytes)) = some (some (.slice none 0 0), 1, 24) := by kernel_rfl
instance tyi24 : TyI Tryz.prog 24 (.slice none 0 0) 1 24 := ⟨info_parts info24⟩
instance : TyS Tryz.prog 24 := ⟨_, Tryz.underlying24, rfl⟩
instance ty25 : Ty Tryz.prog 25 (.slice 33) := ⟨Tryz.underlying25⟩
theorem info25 : (Tryz.prog.info? 25).map (fun i => (i.zero, i.size, i.bytes)) = some (some (.slice none 0 0), 1, 24) := by kernel_rfl
instance tyi25 : TyI Tryz.prog 25 (.slice none 0 0) 1 24 := ⟨info_parts info25⟩
instance : TyS Tryz.prog 25 := ⟨_, Tryz.underlying25, rfl⟩
instance ty26 : Ty Tryz.prog 26 (.struct #[{ name := "File", type := 22, offset := 0, embedded := false, tag := "", pkgPath := "", byteOffset := 0 }, { name := "Args", type := 23, offset := 1, embedded := false, tag := "", pkgPath := "", byteOffset := 24 }, { name := "Env", type := 23, offset := 2, embedded := false, tag := "", pkgPath := "", byteOffset := 48 }, { name := "Tree", type := 24, offset := 3, embedded := false, tag := "", pkgPath := "", byteOffset := 72 }, { name := "Picks", type := 25, offset := 4, embedded := false, tag := "", pkgPath := "", byteOffset := 96 }, { name := "Fuel", type := 3, offset := 5, embedded := false, tag := "", pkgPath := "", byteOffset := 120 }, { name := "Pages", type := 3, offset := 6, embedded := false, tag := "", pkgPath := "", byteOffset := 128 }, { name := "Files", type := 3, offset := 7, embedded := false, tag := "", pkgPath := "", byteOffset := 136 }, { name := "Cache", type := 4, offset := 8, embedded := false, tag := "", pkgPath := "", byteOffset := 144 }]) := ⟨Tryz.underlying26⟩
theorem info26 : (Tryz.prog.info? 26).map (fun i => (i.zero, i.size, i.bytes)) = some (some (.agg ⟨[.slice none 0 0, .slice none 0 0, .slice none 0 0, .slice none 0 0, .slice none 0 0, .int .i64 0, .int .i64 0, .int .i64 0, .bool false]⟩), 9, 152) := by kernel_rfl
instance tyi26 : TyI Tryz.prog 26 (.agg ⟨[.slice none 0 0, .slice none 0 0, .slice none 0 0, .slice none 0 0, .slice none 0 0, .int .i64 0, .int .i64 0, .int .i64 0, .bool false]⟩) 9 152 := ⟨info_parts info26⟩
instance : TyA Tryz.prog 26 9 := ⟨⟨_, Tryz.underlying26, rfl⟩, by obtain ⟨i, h1, _, h2, _⟩ := info_parts info26; exact ⟨i, h1, h2⟩⟩
instance ty27 : Ty Tryz.prog 27 (.struct #[{ name := "File", type := 22, offset := 0, embedded := false, tag := "", pkgPath := "", byteOffset := 0 }, { name := "Args", type := 23, offset := 1, embedded := false, tag := "", pkgPath := "", byteOffset := 24 }, { name := "Env", type := 23, offset := 2, embedded := false, tag := "", pkgPath := "", byteOffset := 48 }, { name := "Tree", type := 24, offset := 3, embedded := false, tag := "", pkgPath := "", byteOffset := 72 }, { name := "Picks", type := 25, offset := 4, embedded := false, tag := "", pkgPath := "", byteOffset := 96 }, { name := "Fuel", type := 3, offset := 5, embedded := false, tag := "", pkgPath := "", byteOffset := 120 }, { name := "Pages", type := 3, offset := 6, embedded := false, tag := "", pkgPath := "", byteOffset := 128 }, { name := "Files", type := 3, offset := 7, embedded := false, tag := "", pkgPath := "", byteOffset := 136 }, { name := "Cache", type := 4, offset := 8, embedded := false, tag := "", pkgPath := "", byteOffset := 144 }]) := ⟨Tryz.underlying27⟩
theorem info27 : (Tryz.prog.info? 27).map (fun i => (i.zero, i.size, i.bytes)) = some (some (.agg ⟨[.slice none 0 0, .slice none 0 0, .slice none 0 0, .slice none 0 0, .slice none 0 0, .int .i64 0, .int .i64 0, .int .i64 0, .bool false]⟩), 9, 152) := by kernel_rfl
instance tyi27 : TyI Tryz.prog 27 (.agg ⟨[.slice none 0 0, .slice none 0 0, .slice none 0 0, .slice none 0 0, .slice none 0 0, .int .i64 0, .int .i64 0, .int .i64 0, .bool false]⟩) 9 152 := ⟨info_parts info27⟩
instance : TyA Tryz.prog 27 9 := ⟨⟨_, Tryz.underlying27, rfl⟩, by obtain ⟨i, h1, _, h2, _⟩ := info_parts info27; exact ⟨i, h1, h2⟩⟩
instance ty28 : Ty Tryz.prog 28 (.slice 34) := ⟨Tryz.underlying28⟩
theorem info28 : (Tryz.prog.info? 28).map (fun i => (i.zero, i.size, i.bytes)) = some (some (.slice none 0 0), 1, 24) := by kernel_rfl
instance tyi28 : TyI Tryz.prog 28 (.slice none 0 0) 1 24 := ⟨info_parts info28⟩
instance : TyS Tryz.prog 28 := ⟨_, Tryz.underlying28, rfl⟩
instance ty31 : Ty Tryz.prog 31 (.int .u64) := ⟨Tryz.underlying31⟩
theorem info31 : (Tryz.prog.info? 31).map (fun i => (i.zero, i.size, i.bytes)) = some (some (.int .u64 0), 1, 8) := by kernel_rfl
instance tyi31 : TyI Tryz.prog 31 (.int .u64 0) 1 8 := ⟨info_parts info31⟩
instance : TyS Tryz.prog 31 := ⟨_, Tryz.underlying31, rfl⟩
instance ty32 : Ty Tryz.prog 32 (.struct #[{ name := "Kind", type := 3, offset := 0, embedded := false, tag := "", pkgPath := "", byteOffset := 0 }, { name := "N", type := 31, offset := 1, embedded := false, tag := "", pkgPath := "", byteOffset := 8 }]) := ⟨Tryz.underlying32⟩
theorem info32 : (Tryz.prog.info? 32).map (fun i => (i.zero, i.size, i.bytes)) = some (some (.agg ⟨[.int .i64 0, .int .u64 0]⟩), 2, 16) := by kernel_rfl
instance tyi32 : TyI Tryz.prog 32 (.agg ⟨[.int .i64 0, .int .u64 0]⟩) 2 16 := ⟨info_parts info32⟩
instance : TyA Tryz.prog 32 2 := ⟨⟨_, Tryz.underlying32, rfl⟩, by obtain ⟨i, h1, _, h2, _⟩ := info_parts info32; exact ⟨i, h1, h2⟩⟩
instance ty33 : Ty Tryz.prog 33 (.struct #[{ name := "Kind", type := 3, offset := 0, embedded := false, tag := "", pkgPath := "", byteOffset := 0 }, { name := "N", type := 31, offset := 1, embedded := false, tag := "", pkgPath := "", byteOffset := 8 }]) := ⟨Tryz.underlying33⟩
theorem info33 : (Tryz.prog.info? 33).map (fun i => (i.zero, i.size, i.bytes)) = some (some (.agg ⟨[.int .i64 0, .int .u64 0]⟩), 2, 16) := by kernel_rfl
instance tyi33 : TyI Tryz.prog 33 (.agg ⟨[.int .i64 0, .int .u64 0]⟩) 2 16 := ⟨info_parts info33⟩
instance : TyA Tryz.prog 33 2 := ⟨⟨_, Tryz.underlying33, rfl⟩, by obtain ⟨i, h1, _, h2, _⟩ := info_parts info33; exact ⟨i, h1, h2⟩⟩
instance ty34 : Ty Tryz.prog 34 (.int .u16) := ⟨Tryz.underlying34⟩
theorem info34 : (Tryz.prog.info? 34).map (fun i => (i.zero, i.size, i.bytes)) = some (some (.int .u16 0), 1, 2) := by kernel_rfl
instance tyi34 : TyI Tryz.prog 34 (.int .u16 0) 1 2 := ⟨info_parts info34⟩
instance : TyS Tryz.prog 34 := ⟨_, Tryz.underlying34, rfl⟩
instance ty35 : Ty Tryz.prog 35 (.pointer 58) := ⟨Tryz.underlying35⟩
theorem info35 : (Tryz.prog.info? 35).map (fun i => (i.zero, i.size, i.bytes)) = some (some (.pointer none), 1, 8) := by kernel_rfl
instance tyi35 : TyI Tryz.prog 35 (.pointer none) 1 8 := ⟨info_parts info35⟩
instance : TyS Tryz.prog 35 := ⟨_, Tryz.underlying35, rfl⟩
instance ty36 : Ty Tryz.prog 36 (.int .i64) := ⟨Tryz.underlying36⟩
theorem info36 : (Tryz.prog.info? 36).map (fun i => (i.zero, i.size, i.bytes)) = some (some (.int .i64 0), 1, 8) := by kernel_rfl
instance tyi36 : TyI Tryz.prog 36 (.int .i64 0) 1 8 := ⟨info_parts info36⟩
instance : TyS Tryz.prog 36 := ⟨_, Tryz.underlying36, rfl⟩
instance ty41 : Ty Tryz.prog 41 (.struct #[{ name := "Kind", type := 3, offset := 0, embedded := false, tag := "", pkgPath := "", byteOffset := 0 }, { name := "Code", type := 3, offset := 1, embedded := false, tag := "", pkgPath := "", byteOffset := 8 }]) := ⟨Tryz.underlying41⟩
theorem info41 : (Tryz.prog.info? 41).map (fun i => (i.zero, i.size, i.bytes)) = some (some (.agg ⟨[.int .i64 0, .int .i64 0]⟩), 2, 16) := by kernel_rfl
instance tyi41 : TyI Tryz.prog 41 (.agg ⟨[.int .i64 0, .int .i64 0]⟩) 2 16 := ⟨info_parts info41⟩
instance : TyA Tryz.prog 41 2 := ⟨⟨_, Tryz.underlying41, rfl⟩, by obtain ⟨i, h1, _, h2, _⟩ := info_parts info41; exact ⟨i, h1, h2⟩⟩
instance ty42 : Ty Tryz.prog 42 (.struct #[{ name := "Kind", type := 3, offset := 0, embedded := false, tag := "", pkgPath := "", byteOffset := 0 }, { name := "Code", type := 3, offset := 1, embedded := false, tag := "", pkgPath := "", byteOffset := 8 }]) := ⟨Tryz.underlying42⟩
theorem info42 : (Tryz.prog.info? 42).map (fun i => (i.zero, i.size, i.bytes)) = some (some (.agg ⟨[.int .i64 0, .int .i64 0]⟩), 2, 16) := by kernel_rfl
instance tyi42 : TyI Tryz.prog 42 (.agg ⟨[.int .i64 0, .int .i64 0]⟩) 2 16 := ⟨info_parts info42⟩
instance : TyA Tryz.prog 42 2 := ⟨⟨_, Tryz.underlying42, rfl⟩, by obtain ⟨i, h1, _, h2, _⟩ := info_parts info42; exact ⟨i, h1, h2⟩⟩
instance ty46 : Ty Tryz.prog 46 (.array 32 31) := ⟨Tryz.underlying46⟩
theorem info46 : (Tryz.prog.info? 46).map (fun i => (i.zero, i.size, i.bytes)) = some (some (.agg ⟨[.int .u64 0, .int .u64 0, .int .u64 0, .int .u64 0, .int .u64 0, .int .u64 0, .int .u64 0, .int .u64 0, .int .u64 0, .int .u64 0, .int .u64 0, .int .u64 0, .int .u64 0, .int .u64 0, .int .u64 0, .int .u64 0, .int .u64 0, .int .u64 0, .int .u64 0, .int .u64 0, .int .u64 0, .int .u64 0, .int .u64 0, .int .u64 0, .int .u64 0, .int .u64 0, .int .u64 0, .int .u64 0, .int .u64 0, .int .u64 0, .int .u64 0, .int .u64 0]⟩), 32, 256) := by kernel_rfl
instance tyi46 : TyI Tryz.prog 46 (.agg ⟨[.int .u64 0, .int .u64 0, .int .u64 0, .int .u64 0, .int .u64 0, .int .u64 0, .int .u64 0, .int .u64 0, .int .u64 0, .int .u64 0, .int .u64 0, .int .u64 0, .int .u64 0, .int .u64 0, .int .u64 0, .int .u64 0, .int .u64 0, .int .u64 0, .int .u64 0, .int .u64 0, .int .u64 0, .int .u64 0, .int .u64 0, .int .u64 0, .int .u64 0, .int .u64 0, .int .u64 0, .int .u64 0, .int .u64 0, .int .u64 0, .int .u64 0, .int .u64 0]⟩) 32 256 := ⟨info_parts info46⟩
instance : TyA Tryz.prog 46 32 := ⟨⟨_, Tryz.underlying46, rfl⟩, by obtain ⟨i, h1, _, h2, _⟩ := info_parts info46; exact ⟨i, h1, h2⟩⟩
instance ty47 : Ty Tryz.prog 47 (.struct #[{ name := "Addr", type := 31, offset := 0, embedded := false, tag := "", pkgPath := "", byteOffset := 0 }, { name := "Size", type := 3, offset := 1, embedded := false, tag := "", pkgPath := "", byteOffset := 8 }]) := ⟨Tryz.underlying47⟩
theorem info47 : (Tryz.prog.info? 47).map (fun i => (i.zero, i.size, i.bytes)) = some (some (.agg ⟨[.int .u64 0, .int .i64 0]⟩), 2, 16) := by kernel_rfl
instance tyi47 : TyI Tryz.prog 47 (.agg ⟨[.int .u64 0, .int .i64 0]⟩) 2 16 := ⟨info_parts info47⟩
instance : TyA Tryz.prog 47 2 := ⟨⟨_, Tryz.underlying47, rfl⟩, by obtain ⟨i, h1, _, h2, _⟩ := info_parts info47; exact ⟨i, h1, h2⟩⟩
instance ty48 : Ty Tryz.prog 48 (.struct #[{ name := "Addr", type := 31, offset := 0, embedded := false, tag := "", pkgPath := "", byteOffset := 0 }, { name := "Size", type := 3, offset := 1, embedded := false, tag := "", pkgPath := "", byteOffset := 8 }]) := ⟨Tryz.underlying48⟩
theorem info48 : (Tryz.prog.info? 48).map (fun i => (i.zero, i.size, i.bytes)) = some (some (.agg ⟨[.int .u64 0, .int .i64 0]⟩), 2, 16) := by kernel_rfl
instance tyi48 : TyI Tryz.prog 48 (.agg ⟨[.int .u64 0, .int .i64 0]⟩) 2 16 := ⟨info_parts info48⟩
instance : TyA Tryz.prog 48 2 := ⟨⟨_, Tryz.underlying48, rfl⟩, by obtain ⟨i, h1, _, h2, _⟩ := info_parts info48; exact ⟨i, h1, h2⟩⟩
instance ty49 : Ty Tryz.prog 49 (.struct #[{ name := "PC", type := 31, offset := 0, embedded := false, tag := "", pkgPath := "", byteOffset := 0 }, { name := "X", type := 46, offset := 1, embedded := false, tag := "", pkgPath := "", byteOffset := 8 }, { name := "Hold", type := 48, offset := 33, embedded := false, tag := "", pkgPath := "", byteOffset := 264 }]) := ⟨Tryz.underlying49⟩
theorem info49 : (Tryz.prog.info? 49).map (fun i => (i.zero, i.size, i.bytes)) = some (some (.agg ⟨[.int .u64 0, .int .u64 0, .int .u64 0, .int .u64 0, .int .u64 0, .int .u64 0, .int .u64 0, .int .u64 0, .int .u64 0, .int .u64 0, .int .u64 0, .int .u64 0, .int .u64 0, .int .u64 0, .int .u64 0, .int .u64 0, .int .u64 0, .int .u64 0, .int .u64 0, .int .u64 0, .int .u64 0, .int .u64 0, .int .u64 0, .int .u64 0, .int .u64 0, .int .u64 0, .int .u64 0, .int .u64 0, .int .u64 0, .int .u64 0, .int .u64 0, .int .u64 0, .int .u64 0, .int .u64 0, .int .i64 0]⟩), 35, 280) := by kernel_rfl
instance tyi49 : TyI Tryz.prog 49 (.agg ⟨[.int .u64 0, .int .u64 0, .int .u64 0, .int .u64 0, .int .u64 0, .int .u64 0, .int .u64 0, .int .u64 0, .int .u64 0, .int .u64 0, .int .u64 0, .int .u64 0, .int .u64 0, .int .u64 0, .int .u64 0, .int .u64 0, .int .u64 0, .int .u64 0, .int .u64 0, .int .u64 0, .int .u64 0, .int .u64 0, .int .u64 0, .int .u64 0, .int .u64 0, .int .u64 0, .int .u64 0, .int .u64 0, .int .u64 0, .int .u64 0, .int .u64 0, .int .u64 0, .int .u64 0, .int .u64 0, .int .i64 0]⟩) 35 280 := ⟨info_parts info49⟩
instance : TyA Tryz.prog 49 35 := ⟨⟨_, Tryz.underlying49, rfl⟩, by obtain ⟨i, h1, _, h2, _⟩ := info_parts info49; exact ⟨i, h1, h2⟩⟩
instance ty50 : Ty Tryz.prog 50 (.struct #[{ name := "PC", type := 31, offset := 0, embedded := false, tag := "", pkgPath := "", byteOffset := 0 }, { name := "X", type := 46, offset := 1, embedded := false, tag := "", pkgPath := "", byteOffset := 8 }, { name := "Hold", type := 48, offset := 33, embedded := false, tag := "", pkgPath := "", byteOffset := 264 }]) := ⟨Tryz.underlying50⟩
theorem info50 : (Tryz.prog.info? 50).map (fun i => (i.zero, i.size, i.bytes)) = some (some (.agg ⟨[.int .u64 0, .int .u64 0, .int .u64 0, .int .u64 0, .int .u64 0, .int .u64 0, .int .u64 0, .int .u64 0, .int .u64 0, .int .u64 0, .int .u64 0, .int .u64 0, .int .u64 0, .int .u64 0, .int .u64 0, .int .u64 0, .int .u64 0, .int .u64 0, .int .u64 0, .int .u64 0, .int .u64 0, .int .u64 0, .int .u64 0, .int .u64 0, .int .u64 0, .int .u64 0, .int .u64 0, .int .u64 0, .int .u64 0, .int .u64 0, .int .u64 0, .int .u64 0, .int .u64 0, .int .u64 0, .int .i64 0]⟩), 35, 280) := by kernel_rfl
instance tyi50 : TyI Tryz.prog 50 (.agg ⟨[.int .u64 0, .int .u64 0, .int .u64 0, .int .u64 0, .int .u64 0, .int .u64 0, .int .u64 0, .int .u64 0, .int .u64 0, .int .u64 0, .int .u64 0, .int .u64 0, .int .u64 0, .int .u64 0, .int .u64 0, .int .u64 0, .int .u64 0, .int .u64 0, .int .u64 0, .int .u64 0, .int .u64 0, .int .u64 0, .int .u64 0, .int .u64 0, .int .u64 0, .int .u64 0, .int .u64 0, .int .u64 0, .int .u64 0, .int .u64 0, .int .u64 0, .int .u64 0, .int .u64 0, .int .u64 0, .int .i64 0]⟩) 35 280 := ⟨info_parts info50⟩
instance : TyA Tryz.prog 50 35 := ⟨⟨_, Tryz.underlying50, rfl⟩, by obtain ⟨i, h1, _, h2, _⟩ := info_parts info50; exact ⟨i, h1, h2⟩⟩
instance ty51 : Ty Tryz.prog 51 (.pointer 203) := ⟨Tryz.underlying51⟩
theorem info51 : (Tryz.prog.info? 51).map (fun i => (i.zero, i.size, i.bytes)) = some (some (.pointer none), 1, 8) := by kernel_rfl
instance tyi51 : TyI Tryz.prog 51 (.pointer none) 1 8 := ⟨info_parts info51⟩
instance : TyS Tryz.prog 51 := ⟨_, Tryz.underlying51, rfl⟩
instance ty52 : Ty Tryz.prog 52 (.pointer 96) := ⟨Tryz.underlying52⟩
theorem info52 : (Tryz.prog.info? 52).map (fun i => (i.zero, i.size, i.bytes)) = some (some (.pointer none), 1, 8) := by kernel_rfl
instance tyi52 : TyI Tryz.prog 52 (.pointer none) 1 8 := ⟨info_parts info52⟩
instance : TyS Tryz.prog 52 := ⟨_, Tryz.underlying52, rfl⟩
instance ty53 : Ty Tryz.prog 53 (.pointer 151) := ⟨Tryz.underlying53⟩
theorem info53 : (Tryz.prog.info? 53).map (fun i => (i.zero, i.size, i.bytes)) = some (some (.pointer none), 1, 8) := by kernel_rfl
instance tyi53 : TyI Tryz.prog 53 (.pointer none) 1 8 := ⟨info_parts info53⟩
instance : TyS Tryz.prog 53 := ⟨_, Tryz.underlying53, rfl⟩
instance ty54 : Ty Tryz.prog 54 (.pointer 102) := ⟨Tryz.underlying54⟩
theorem info54 : (Tryz.prog.info? 54).map (fun i => (i.zero, i.size, i.bytes)) = some (some (.pointer none), 1, 8) := by kernel_rfl
instance tyi54 : TyI Tryz.prog 54 (.pointer none) 1 8 := ⟨info_parts info54⟩
instance : TyS Tryz.prog 54 := ⟨_, Tryz.underlying54, rfl⟩
instance ty55 : Ty Tryz.prog 55 (.pointer 127) := ⟨Tryz.underlying55⟩
theorem info55 : (Tryz.prog.info? 55).map (fun i => (i.zero, i.size, i.bytes)) = some (some (.pointer none), 1, 8) := by kernel_rfl
instance tyi55 : TyI Tryz.prog 55 (.pointer none) 1 8 := ⟨info_parts info55⟩
instance : TyS Tryz.prog 55 := ⟨_, Tryz.underlying55, rfl⟩
instance ty56 : Ty Tryz.prog 56 (.slice 70) := ⟨Tryz.underlying56⟩
theorem info56 : (Tryz.prog.info? 56).map (fun i => (i.zero, i.size, i.bytes)) = some (some (.slice none 0 0), 1, 24) := by kernel_rfl
instance tyi56 : TyI Tryz.prog 56 (.slice none 0 0) 1 24 := ⟨info_parts info56⟩
instance : TyS Tryz.prog 56 := ⟨_, Tryz.underlying56, rfl⟩
instance ty57 : Ty Tryz.prog 57 (.struct #[{ name := "Space", type := 51, offset := 0, embedded := false, tag := "", pkgPath := "", byteOffset := 0 }, { name := "Hart", type := 52, offset := 1, embedded := false, tag := "", pkgPath := "", byteOffset := 8 }, { name := "FS", type := 53, offset := 2, embedded := false, tag := "", pkgPath := "", byteOffset := 16 }, { name := "Sig", type := 54, offset := 3, embedded := false, tag := "", pkgPath := "", byteOffset := 24 }, { name := "Clock", type := 55, offset := 4, embedded := false, tag := "", pkgPath := "", byteOffset := 32 }, { name := "picks", type := 25, offset := 5, embedded := false, tag := "", pkgPath := "marionette/world", byteOffset := 40 }, { name := "seed", type := 31, offset := 6, embedded := false, tag := "", pkgPath := "marionette/world", byteOffset := 64 }, { name := "trace", type := 56, offset := 7, embedded := false, tag := "", pkgPath := "marionette/world", byteOffset := 72 }, { name := "end", type := 42, offset := 8, embedded := false, tag := "", pkgPath := "marionette/world", byteOffset := 96 }, { name := "ended", type := 4, offset := 10, embedded := false, tag := "", pkgPath := "marionette/world", byteOffset := 112 }]) := ⟨Tryz.underlying57⟩
theorem info57 : (Tryz.prog.info? 57).map (fun i => (i.zero, i.size, i.bytes)) = some (some (.agg ⟨[.pointer none, .pointer none, .pointer none, .pointer none, .pointer none, .slice none 0 0, .int .u64 0, .slice none 0 0, .int .i64 0, .int .i64 0, .bool false]⟩), 11, 120) := by kernel_rfl
instance tyi57 : TyI Tryz.prog 57 (.agg ⟨[.pointer none, .pointer none, .pointer none, .pointer none, .pointer none, .slice none 0 0, .int .u64 0, .slice none 0 0, .int .i64 0, .int .i64 0, .bool false]⟩) 11 120 := ⟨info_parts info57⟩
instance : TyA Tryz.prog 57 11 := ⟨⟨_, Tryz.underlying57, rfl⟩, by obtain ⟨i, h1, _, h2, _⟩ := info_parts info57; exact ⟨i, h1, h2⟩⟩
instance ty58 : Ty Tryz.prog 58 (.struct #[{ name := "Space", type := 51, offset := 0, embedded := false, tag := "", pkgPath := "", byteOffset := 0 }, { name := "Hart", type := 52, offset := 1, embedded := false, tag := "", pkgPath := "", byteOffset := 8 }, { name := "FS", type := 53, offset := 2, embedded := false, tag := "", pkgPath := "", byteOffset := 16 }, { name := "Sig", type := 54, offset := 3, embedded := false, tag := "", pkgPath := "", byteOffset := 24 }, { name := "Clock", type := 55, offset := 4, embedded := false, tag := "", pkgPath := "", byteOffset := 32 }, { name := "picks", type := 25, offset := 5, embedded := false, tag := "", pkgPath := "marionette/world", byteOffset := 40 }, { name := "seed", type := 31, offset := 6, embedded := false, tag := "", pkgPath := "marionette/world", byteOffset := 64 }, { name := "trace", type := 56, offset := 7, embedded := false, tag := "", pkgPath := "marionette/world", byteOffset := 72 }, { name := "end", type := 42, offset := 8, embedded := false, tag := "", pkgPath := "marionette/world", byteOffset := 96 }, { name := "ended", type := 4, offset := 10, embedded := false, tag := "", pkgPath := "marionette/world", byteOffset := 112 }]) := ⟨Tryz.underlying58⟩
theorem info58 : (Tryz.prog.info? 58).map (fun i => (i.zero, i.size, i.bytes)) = some (some (.agg ⟨[.pointer none, .pointer none, .pointer none, .pointer none, .pointer none, .slice none 0 0, .int .u64 0, .slice none 0 0, .int .i64 0, .int .i64 0, .bool false]⟩), 11, 120) := by kernel_rfl
instance tyi58 : TyI Tryz.prog 58 (.agg ⟨[.pointer none, .pointer none, .pointer none, .pointer none, .pointer none, .slice none 0 0, .int .u64 0, .slice none 0 0, .int .i64 0, .int .i64 0, .bool false]⟩) 11 120 := ⟨info_parts info58⟩
instance : TyA Tryz.prog 58 11 := ⟨⟨_, Tryz.underlying58, rfl⟩, by obtain ⟨i, h1, _, h2, _⟩ := info_parts info58; exact ⟨i, h1, h2⟩⟩
instance ty62 : Ty Tryz.prog 62 (.struct #[{ name := "Handler", type := 31, offset := 0, embedded := false, tag := "", pkgPath := "", byteOffset := 0 }, { name := "Flags", type := 31, offset := 1, embedded := false, tag := "", pkgPath := "", byteOffset := 8 }, { name := "Mask", type := 31, offset := 2, embedded := false, tag := "", pkgPath := "", byteOffset := 16 }]) := ⟨Tryz.underlying62⟩
theorem info62 : (Tryz.prog.info? 62).map (fun i => (i.zero, i.size, i.bytes)) = some (some (.agg ⟨[.int .u64 0, .int .u64 0, .int .u64 0]⟩), 3, 24) := by kernel_rfl
instance tyi62 : TyI Tryz.prog 62 (.agg ⟨[.int .u64 0, .int .u64 0, .int .u64 0]⟩) 3 24 := ⟨info_parts info62⟩
instance : TyA Tryz.prog 62 3 := ⟨⟨_, Tryz.underlying62, rfl⟩, by obtain ⟨i, h1, _, h2, _⟩ := info_parts info62; exact ⟨i, h1, h2⟩⟩
instance ty63 : Ty Tryz.prog 63 (.struct #[{ name := "Handler", type := 31, offset := 0, embedded := false, tag := "", pkgPath := "", byteOffset := 0 }, { name := "Flags", type := 31, offset := 1, embedded := false, tag := "", pkgPath := "", byteOffset := 8 }, { name := "Mask", type := 31, offset := 2, embedded := false, tag := "", pkgPath := "", byteOffset := 16 }]) := ⟨Tryz.underlying63⟩
theorem info63 : (Tryz.prog.info? 63).map (fun i => (i.zero, i.size, i.bytes)) = some (some (.agg ⟨[.int .u64 0, .int .u64 0, .int .u64 0]⟩), 3, 24) := by kernel_rfl
instance tyi63 : TyI Tryz.prog 63 (.agg ⟨[.int .u64 0, .int .u64 0, .int .u64 0]⟩) 3 24 := ⟨info_parts info63⟩
instance : TyA Tryz.prog 63 3 := ⟨⟨_, Tryz.underlying63, rfl⟩, by obtain ⟨i, h1, _, h2, _⟩ := info_parts info63; exact ⟨i, h1, h2⟩⟩
instance ty68 : Ty Tryz.prog 68 (.array 6 31) := ⟨Tryz.underlying68⟩
theorem info68 : (Tryz.prog.info? 68).map (fun i => (i.zero, i.size, i.bytes)) = some (some (.agg ⟨[.int .u64 0, .int .u64 0, .int .u64 0, .int .u64 0, .int .u64 0, .int .u64 0]⟩), 6, 48) := by kernel_rfl
instance tyi68 : TyI Tryz.prog 68 (.agg ⟨[.int .u64 0, .int .u64 0, .int .u64 0, .int .u64 0, .int .u64 0, .int .u64 0]⟩) 6 48 := ⟨info_parts info68⟩
instance : TyA Tryz.prog 68 6 := ⟨⟨_, Tryz.underlying68, rfl⟩, by obtain ⟨i, h1, _, h2, _⟩ := info_parts info68; exact ⟨i, h1, h2⟩⟩
instance ty69 : Ty Tryz.prog 69 (.struct #[{ name := "Number", type := 31, offset := 0, embedded := false, tag := "", pkgPath := "", byteOffset := 0 }, { name := "Args", type := 68, offset := 1, embedded := false, tag := "", pkgPath := "", byteOffset := 8 }, { name := "Result", type := 31, offset := 7, embedded := false, tag := "", pkgPath := "", byteOffset := 56 }]) := ⟨Tryz.underlying69⟩
theorem info69 : (Tryz.prog.info? 69).map (fun i => (i.zero, i.size, i.bytes)) = some (some (.agg ⟨[.int .u64 0, .int .u64 0, .int .u64 0, .int .u64 0, .int .u64 0, .int .u64 0, .int .u64 0, .int .u64 0]⟩), 8, 64) := by kernel_rfl
instance tyi69 : TyI Tryz.prog 69 (.agg ⟨[.int .u64 0, .int .u64 0, .int .u64 0, .int .u64 0, .int .u64 0, .int .u64 0, .int .u64 0, .int .u64 0]⟩) 8 64 := ⟨info_parts info69⟩
instance : TyA Tryz.prog 69 8 := ⟨⟨_, Tryz.underlying69, rfl⟩, by obtain ⟨i, h1, _, h2, _⟩ := info_parts info69; exact ⟨i, h1, h2⟩⟩
instance ty70 : Ty Tryz.prog 70 (.struct #[{ name := "Number", type := 31, offset := 0, embedded := false, tag := "", pkgPath := "", byteOffset := 0 }, { name := "Args", type := 68, offset := 1, embedded := false, tag := "", pkgPath := "", byteOffset := 8 }, { name := "Result", type := 31, offset := 7, embedded := false, tag := "", pkgPath := "", byteOffset := 56 }]) := ⟨Tryz.underlying70⟩
theorem info70 : (Tryz.prog.info? 70).map (fun i => (i.zero, i.size, i.bytes)) = some (some (.agg ⟨[.int .u64 0, .int .u64 0, .int .u64 0, .int .u64 0, .int .u64 0, .int .u64 0, .int .u64 0, .int .u64 0]⟩), 8, 64) := by kernel_rfl
instance tyi70 : TyI Tryz.prog 70 (.agg ⟨[.int .u64 0, .int .u64 0, .int .u64 0, .int .u64 0, .int .u64 0, .int .u64 0, .int .u64 0, .int .u64 0]⟩) 8 64 := ⟨info_parts info70⟩
instance : TyA Tryz.prog 70 8 := ⟨⟨_, Tryz.underlying70, rfl⟩, by obtain ⟨i, h1, _, h2, _⟩ := info_parts info70; exact ⟨i, h1, h2⟩⟩
instance ty74 : Ty Tryz.prog 74 (.struct #[{ name := "Path", type := 9, offset := 0, embedded := false, tag := "", pkgPath := "", byteOffset := 0 }, { name := "Kind", type := 3, offset := 1, embedded := false, tag := "", pkgPath := "", byteOffset := 16 }, { name := "Mode", type := 3, offset := 2, embedded := false, tag := "", pkgPath := "", byteOffset := 24 }, { name := "Data", type := 22, offset := 3, embedded := false, tag := "", pkgPath := "", byteOffset := 32 }]) := ⟨Tryz.underlying74⟩
theorem info74 : (Tryz.prog.info? 74).map (fun i => (i.zero, i.size, i.bytes)) = some (some (.agg ⟨[.string ⟨#[]⟩, .int .i64 0, .int .i64 0, .slice none 0 0]⟩), 4, 56) := by kernel_rfl
instance tyi74 : TyI Tryz.prog 74 (.agg ⟨[.string ⟨#[]⟩, .int .i64 0, .int .i64 0, .slice none 0 0]⟩) 4 56 := ⟨info_parts info74⟩
instance : TyA Tryz.prog 74 4 := ⟨⟨_, Tryz.underlying74, rfl⟩, by obtain ⟨i, h1, _, h2, _⟩ := info_parts info74; exact ⟨i, h1, h2⟩⟩
instance ty75 : Ty Tryz.prog 75 (.struct #[{ name := "Path", type := 9, offset := 0, embedded := false, tag := "", pkgPath := "", byteOffset := 0 }, { name := "Kind", type := 3, offset := 1, embedded := false, tag := "", pkgPath := "", byteOffset := 16 }, { name := "Mode", type := 3, offset := 2, embedded := false, tag := "", pkgPath := "", byteOffset := 24 }, { name := "Data", type := 22, offset := 3, embedded := false, tag := "", pkgPath := "", byteOffset := 32 }]) := ⟨Tryz.underlying75⟩
theorem info75 : (Tryz.prog.info? 75).map (fun i => (i.zero, i.size, i.bytes)) = some (some (.agg ⟨[.string ⟨#[]⟩, .int .i64 0, .int .i64 0, .slice none 0 0]⟩), 4, 56) := by kernel_rfl
instance tyi75 : TyI Tryz.prog 75 (.agg ⟨[.string ⟨#[]⟩, .int .i64 0, .int .i64 0, .slice none 0 0]⟩) 4 56 := ⟨info_parts info75⟩
instance : TyA Tryz.prog 75 4 := ⟨⟨_, Tryz.underlying75, rfl⟩, by obtain ⟨i, h1, _, h2, _⟩ := info_parts info75; exact ⟨i, h1, h2⟩⟩
instance ty76 : Ty Tryz.prog 76 (.pointer 122) := ⟨Tryz.underlying76⟩
theorem info76 : (Tryz.prog.info? 76).map (fun i => (i.zero, i.size, i.bytes)) = some (some (.pointer none), 1, 8) := by kernel_rfl
instance tyi76 : TyI Tryz.prog 76 (.pointer none) 1 8 := ⟨info_parts info76⟩
instance : TyS Tryz.prog 76 := ⟨_, Tryz.underlying76, rfl⟩
instance ty83 : Ty Tryz.prog 83 (.array 16 5) := ⟨Tryz.underlying83⟩
theorem info83 : (Tryz.prog.info? 83).map (fun i => (i.zero, i.size, i.bytes)) = some (some (.agg ⟨[.int .u8 0, .int .u8 0, .int .u8 0, .int .u8 0, .int .u8 0, .int .u8 0, .int .u8 0, .int .u8 0, .int .u8 0, .int .u8 0, .int .u8 0, .int .u8 0, .int .u8 0, .int .u8 0, .int .u8 0, .int .u8 0]⟩), 16, 16) := by kernel_rfl
instance tyi83 : TyI Tryz.prog 83 (.agg ⟨[.int .u8 0, .int .u8 0, .int .u8 0, .int .u8 0, .int .u8 0, .int .u8 0, .int .u8 0, .int .u8 0, .int .u8 0, .int .u8 0, .int .u8 0, .int .u8 0, .int .u8 0, .int .u8 0, .int .u8 0, .int .u8 0]⟩) 16 16 := ⟨info_parts info83⟩
instance : TyA Tryz.prog 83 16 := ⟨⟨_, Tryz.underlying83, rfl⟩, by obtain ⟨i, h1, _, h2, _⟩ := info_parts info83; exact ⟨i, h1, h2⟩⟩
instance ty85 : Ty Tryz.prog 85 (.pointer 146) := ⟨Tryz.underlying85⟩
theorem info85 : (Tryz.prog.info? 85).map (fun i => (i.zero, i.size, i.bytes)) = some (some (.pointer none), 1, 8) := by kernel_rfl
instance tyi85 : TyI Tryz.prog 85 (.pointer none) 1 8 := ⟨info_parts info85⟩
instance : TyS Tryz.prog 85 := ⟨_, Tryz.underlying85, rfl⟩
instance ty89 : Ty Tryz.prog 89 (.array 3 3) := ⟨Tryz.underlying89⟩
theorem info89 : (Tryz.prog.info? 89).map (fun i => (i.zero, i.size, i.bytes)) = some (some (.agg ⟨[.int .i64 0, .int .i64 0, .int .i64 0]⟩), 3, 24) := by kernel_rfl
instance tyi89 : TyI Tryz.prog 89 (.agg ⟨[.int .i64 0, .int .i64 0, .int .i64 0]⟩) 3 24 := ⟨info_parts info89⟩
instance : TyA Tryz.prog 89 3 := ⟨⟨_, Tryz.underlying89, rfl⟩, by obtain ⟨i, h1, _, h2, _⟩ := info_parts info89; exact ⟨i, h1, h2⟩⟩
instance ty92 : Ty Tryz.prog 92 (.array 3 9) := ⟨Tryz.underlying92⟩
theorem info92 : (Tryz.prog.info? 92).map (fun i => (i.zero, i.size, i.bytes)) = some (some (.agg ⟨[.string ⟨#[]⟩, .string ⟨#[]⟩, .string ⟨#[]⟩]⟩), 3, 48) := by kernel_rfl
instance tyi92 : TyI Tryz.prog 92 (.agg ⟨[.string ⟨#[]⟩, .string ⟨#[]⟩, .string ⟨#[]⟩]⟩) 3 48 := ⟨info_parts info92⟩
instance : TyA Tryz.prog 92 3 := ⟨⟨_, Tryz.underlying92, rfl⟩, by obtain ⟨i, h1, _, h2, _⟩ := info_parts info92; exact ⟨i, h1, h2⟩⟩
instance ty95 : Ty Tryz.prog 95 (.struct #[{ name := "state", type := 50, offset := 0, embedded := false, tag := "", pkgPath := "marionette/hart", byteOffset := 0 }, { name := "space", type := 51, offset := 35, embedded := false, tag := "", pkgPath := "marionette/hart", byteOffset := 280 }, { name := "cache", type := 85, offset := 36, embedded := false, tag := "", pkgPath := "marionette/hart", byteOffset := 288 }]) := ⟨Tryz.underlying95⟩
theorem info95 : (Tryz.prog.info? 95).map (fun i => (i.zero, i.size, i.bytes)) = some (some (.agg ⟨[.int .u64 0, .int .u64 0, .int .u64 0, .int .u64 0, .int .u64 0, .int .u64 0, .int .u64 0, .int .u64 0, .int .u64 0, .int .u64 0, .int .u64 0, .int .u64 0, .int .u64 0, .int .u64 0, .int .u64 0, .int .u64 0, .int .u64 0, .int .u64 0, .int .u64 0, .int .u64 0, .int .u64 0, .int .u64 0, .int .u64 0, .int .u64 0, .int .u64 0, .int .u64 0, .int .u64 0, .int .u64 0, .int .u64 0, .int .u64 0, .int .u64 0, .int .u64 0, .int .u64 0, .int .u64 0, .int .i64 0, .pointer none, .pointer none]⟩), 37, 296) := by kernel_rfl
instance tyi95 : TyI Tryz.prog 95 (.agg ⟨[.int .u64 0, .int .u64 0, .int .u64 0, .int .u64 0, .int .u64 0, .int .u64 0, .int .u64 0, .int .u64 0, .int .u64 0, .int .u64 0, .int .u64 0, .int .u64 0, .int .u64 0, .int .u64 0, .int .u64 0, .int .u64 0, .int .u64 0, .int .u64 0, .int .u64 0, .int .u64 0, .int .u64 0, .int .u64 0, .int .u64 0, .int .u64 0, .int .u64 0, .int .u64 0, .int .u64 0, .int .u64 0, .int .u64 0, .int .u64 0, .int .u64 0, .int .u64 0, .int .u64 0, .int .u64 0, .int .i64 0, .pointer none, .pointer none]⟩) 37 296 := ⟨info_parts info95⟩
instance : TyA Tryz.prog 95 37 := ⟨⟨_, Tryz.underlying95, rfl⟩, by obtain ⟨i, h1, _, h2, _⟩ := info_parts info95; exact ⟨i, h1, h2⟩⟩
instance ty96 : Ty Tryz.prog 96 (.struct #[{ name := "state", type := 50, offset := 0, embedded := false, tag := "", pkgPath := "marionette/hart", byteOffset := 0 }, { name := "space", type := 51, offset := 35, embedded := false, tag := "", pkgPath := "marionette/hart", byteOffset := 280 }, { name := "cache", type := 85, offset := 36, embedded := false, tag := "", pkgPath := "marionette/hart", byteOffset := 288 }]) := ⟨Tryz.underlying96⟩
theorem info96 : (Tryz.prog.info? 96).map (fun i => (i.zero, i.size, i.bytes)) = some (some (.agg ⟨[.int .u64 0, .int .u64 0, .int .u64 0, .int .u64 0, .int .u64 0, .int .u64 0, .int .u64 0, .int .u64 0, .int .u64 0, .int .u64 0, .int .u64 0, .int .u64 0, .int .u64 0, .int .u64 0, .int .u64 0, .int .u64 0, .int .u64 0, .int .u64 0, .int .u64 0, .int .u64 0, .int .u64 0, .int .u64 0, .int .u64 0, .int .u64 0, .int .u64 0, .int .u64 0, .int .u64 0, .int .u64 0, .int .u64 0, .int .u64 0, .int .u64 0, .int .u64 0, .int .u64 0, .int .u64 0, .int .i64 0, .pointer none, .pointer none]⟩), 37, 296) := by kernel_rfl
instance tyi96 : TyI Tryz.prog 96 (.agg ⟨[.int .u64 0, .int .u64 0, .int .u64 0, .int .u64 0, .int .u64 0, .int .u64 0, .int .u64 0, .int .u64 0, .int .u64 0, .int .u64 0, .int .u64 0, .int .u64 0, .int .u64 0, .int .u64 0, .int .u64 0, .int .u64 0, .int .u64 0, .int .u64 0, .int .u64 0, .int .u64 0, .int .u64 0, .int .u64 0, .int .u64 0, .int .u64 0, .int .u64 0, .int .u64 0, .int .u64 0, .int .u64 0, .int .u64 0, .int .u64 0, .int .u64 0, .int .u64 0, .int .u64 0, .int .u64 0, .int .i64 0, .pointer none, .pointer none]⟩) 37 296 := ⟨info_parts info96⟩
instance : TyA Tryz.prog 96 37 := ⟨⟨_, Tryz.underlying96, rfl⟩, by obtain ⟨i, h1, _, h2, _⟩ := info_parts info96; exact ⟨i, h1, h2⟩⟩
instance ty98 : Ty Tryz.prog 98 (.array 65 63) := ⟨Tryz.underlying98⟩
theorem info98 : (Tryz.prog.info? 98).map (fun i => (i.zero, i.size, i.bytes)) = some (some (.agg ⟨List.replicate 195 (.int .u64 0)⟩), 195, 1560) := by kernel_rfl
instance tyi98 : TyI Tryz.prog 98 (.agg ⟨List.replicate 195 (.int .u64 0)⟩) 195 1560 := ⟨info_parts info98⟩
instance : TyA Tryz.prog 98 195 := ⟨⟨_, Tryz.underlying98, rfl⟩, by obtain ⟨i, h1, _, h2, _⟩ := info_parts info98; exact ⟨i, h1, h2⟩⟩
instance ty99 : Ty Tryz.prog 99 (.struct #[{ name := "Addr", type := 31, offset := 0, embedded := false, tag := "", pkgPath := "", byteOffset := 0 }, { name := "Size", type := 31, offset := 1, embedded := false, tag := "", pkgPath := "", byteOffset := 8 }]) := ⟨Tryz.underlying99⟩
theorem info99 : (Tryz.prog.info? 99).map (fun i => (i.zero, i.size, i.bytes)) = some (some (.agg ⟨[.int .u64 0, .int .u64 0]⟩), 2, 16) := by kernel_rfl
instance tyi99 : TyI Tryz.prog 99 (.agg ⟨[.int .u64 0, .int .u64 0]⟩) 2 16 := ⟨info_parts info99⟩
instance : TyA Tryz.prog 99 2 := ⟨⟨_, Tryz.underlying99, rfl⟩, by obtain ⟨i, h1, _, h2, _⟩ := info_parts info99; exact ⟨i, h1, h2⟩⟩
instance ty100 : Ty Tryz.prog 100 (.struct #[{ name := "Addr", type := 31, offset := 0, embedded := false, tag := "", pkgPath := "", byteOffset := 0 }, { name := "Size", type := 31, offset := 1, embedded := false, tag := "", pkgPath := "", byteOffset := 8 }]) := ⟨Tryz.underlying100⟩
theorem info100 : (Tryz.prog.info? 100).map (fun i => (i.zero, i.size, i.bytes)) = some (some (.agg ⟨[.int .u64 0, .int .u64 0]⟩), 2, 16) := by kernel_rfl
instance tyi100 : TyI Tryz.prog 100 (.agg ⟨[.int .u64 0, .int .u64 0]⟩) 2 16 := ⟨info_parts info100⟩
instance : TyA Tryz.prog 100 2 := ⟨⟨_, Tryz.underlying100, rfl⟩, by obtain ⟨i, h1, _, h2, _⟩ := info_parts info100; exact ⟨i, h1, h2⟩⟩
instance ty101 : Ty Tryz.prog 101 (.struct #[{ name := "actions", type := 98, offset := 0, embedded := false, tag := "", pkgPath := "marionette/sig", byteOffset := 0 }, { name := "mask", type := 31, offset := 195, embedded := false, tag := "", pkgPath := "marionette/sig", byteOffset := 1560 }, { name := "pending", type := 31, offset := 196, embedded := false, tag := "", pkgPath := "marionette/sig", byteOffset := 1568 }, { name := "stack", type := 100, offset := 197, embedded := false, tag := "", pkgPath := "marionette/sig", byteOffset := 1576 }]) := ⟨Tryz.underlying101⟩
theorem info101 : (Tryz.prog.info? 101).map (fun i => (i.zero, i.size, i.bytes)) = some (some (.agg ⟨List.replicate 199 (.int .u64 0)⟩), 199, 1592) := by kernel_rfl
instance tyi101 : TyI Tryz.prog 101 (.agg ⟨List.replicate 199 (.int .u64 0)⟩) 199 1592 := ⟨info_parts info101⟩
instance : TyA Tryz.prog 101 199 := ⟨⟨_, Tryz.underlying101, rfl⟩, by obtain ⟨i, h1, _, h2, _⟩ := info_parts info101; exact ⟨i, h1, h2⟩⟩
instance ty102 : Ty Tryz.prog 102 (.struct #[{ name := "actions", type := 98, offset := 0, embedded := false, tag := "", pkgPath := "marionette/sig", byteOffset := 0 }, { name := "mask", type := 31, offset := 195, embedded := false, tag := "", pkgPath := "marionette/sig", byteOffset := 1560 }, { name := "pending", type := 31, offset := 196, embedded := false, tag := "", pkgPath := "marionette/sig", byteOffset := 1568 }, { name := "stack", type := 100, offset := 197, embedded := false, tag := "", pkgPath := "marionette/sig", byteOffset := 1576 }]) := ⟨Tryz.underlying102⟩
theorem info102 : (Tryz.prog.info? 102).map (fun i => (i.zero, i.size, i.bytes)) = some (some (.agg ⟨List.replicate 199 (.int .u64 0)⟩), 199, 1592) := by kernel_rfl
instance tyi102 : TyI Tryz.prog 102 (.agg ⟨List.replicate 199 (.int .u64 0)⟩) 199 1592 := ⟨info_parts info102⟩
instance : TyA Tryz.prog 102 199 := ⟨⟨_, Tryz.underlying102, rfl⟩, by obtain ⟨i, h1, _, h2, _⟩ := info_parts info102; exact ⟨i, h1, h2⟩⟩
instance ty107 : Ty Tryz.prog 107 (.slice 3) := ⟨Tryz.underlying107⟩
theorem info107 : (Tryz.prog.info? 107).map (fun i => (i.zero, i.size, i.bytes)) = some (some (.slice none 0 0), 1, 24) := by kernel_rfl
instance tyi107 : TyI Tryz.prog 107 (.slice none 0 0) 1 24 := ⟨info_parts info107⟩
instance : TyS Tryz.prog 107 := ⟨_, Tryz.underlying107, rfl⟩
instance ty112 : Ty Tryz.prog 112 (.int .u64) := ⟨Tryz.underlying112⟩
theorem info112 : (Tryz.prog.info? 112).map (fun i => (i.zero, i.size, i.bytes)) = some (some (.int .u64 0), 1, 8) := by kernel_rfl
instance tyi112 : TyI Tryz.prog 112 (.int .u64 0) 1 8 := ⟨info_parts info112⟩
instance : TyS Tryz.prog 112 := ⟨_, Tryz.underlying112, rfl⟩
instance ty116 : Ty Tryz.prog 116 (.pointer 119) := ⟨Tryz.underlying116⟩
theorem info116 : (Tryz.prog.info? 116).map (fun i => (i.zero, i.size, i.bytes)) = some (some (.pointer none), 1, 8) := by kernel_rfl
instance tyi116 : TyI Tryz.prog 116 (.pointer none) 1 8 := ⟨info_parts info116⟩
instance : TyS Tryz.prog 116 := ⟨_, Tryz.underlying116, rfl⟩
instance ty117 : Ty Tryz.prog 117 (.slice 243) := ⟨Tryz.underlying117⟩
theorem info117 : (Tryz.prog.info? 117).map (fun i => (i.zero, i.size, i.bytes)) = some (some (.slice none 0 0), 1, 24) := by kernel_rfl
instance tyi117 : TyI Tryz.prog 117 (.slice none 0 0) 1 24 := ⟨info_parts info117⟩
instance : TyS Tryz.prog 117 := ⟨_, Tryz.underlying117, rfl⟩
instance ty118 : Ty Tryz.prog 118 (.struct #[{ name := "kind", type := 3, offset := 0, embedded := false, tag := "", pkgPath := "marionette/node", byteOffset := 0 }, { name := "mode", type := 3, offset := 1, embedded := false, tag := "", pkgPath := "marionette/node", byteOffset := 8 }, { name := "data", type := 22, offset := 2, embedded := false, tag := "", pkgPath := "marionette/node", byteOffset := 16 }, { name := "entries", type := 117, offset := 3, embedded := false, tag := "", pkgPath := "marionette/node", byteOffset := 40 }, { name := "parent", type := 3, offset := 4, embedded := false, tag := "", pkgPath := "marionette/node", byteOffset := 64 }, { name := "links", type := 3, offset := 5, embedded := false, tag := "", pkgPath := "marionette/node", byteOffset := 72 }, { name := "held", type := 3, offset := 6, embedded := false, tag := "", pkgPath := "marionette/node", byteOffset := 80 }]) := ⟨Tryz.underlying118⟩
theorem info118 : (Tryz.prog.info? 118).map (fun i => (i.zero, i.size, i.bytes)) = some (some (.agg ⟨[.int .i64 0, .int .i64 0, .slice none 0 0, .slice none 0 0, .int .i64 0, .int .i64 0, .int .i64 0]⟩), 7, 88) := by kernel_rfl
instance tyi118 : TyI Tryz.prog 118 (.agg ⟨[.int .i64 0, .int .i64 0, .slice none 0 0, .slice none 0 0, .int .i64 0, .int .i64 0, .int .i64 0]⟩) 7 88 := ⟨info_parts info118⟩
instance : TyA Tryz.prog 118 7 := ⟨⟨_, Tryz.underlying118, rfl⟩, by obtain ⟨i, h1, _, h2, _⟩ := info_parts info118; exact ⟨i, h1, h2⟩⟩
instance ty119 : Ty Tryz.prog 119 (.struct #[{ name := "kind", type := 3, offset := 0, embedded := false, tag := "", pkgPath := "marionette/node", byteOffset := 0 }, { name := "mode", type := 3, offset := 1, embedded := false, tag := "", pkgPath := "marionette/node", byteOffset := 8 }, { name := "data", type := 22, offset := 2, embedded := false, tag := "", pkgPath := "marionette/node", byteOffset := 16 }, { name := "entries", type := 117, offset := 3, embedded := false, tag := "", pkgPath := "marionette/node", byteOffset := 40 }, { name := "parent", type := 3, offset := 4, embedded := false, tag := "", pkgPath := "marionette/node", byteOffset := 64 }, { name := "links", type := 3, offset := 5, embedded := false, tag := "", pkgPath := "marionette/node", byteOffset := 72 }, { name := "held", type := 3, offset := 6, embedded := false, tag := "", pkgPath := "marionette/node", byteOffset := 80 }]) := ⟨Tryz.underlying119⟩
theorem info119 : (Tryz.prog.info? 119).map (fun i => (i.zero, i.size, i.bytes)) = some (some (.agg ⟨[.int .i64 0, .int .i64 0, .slice none 0 0, .slice none 0 0, .int .i64 0, .int .i64 0, .int .i64 0]⟩), 7, 88) := by kernel_rfl
instance tyi119 : TyI Tryz.prog 119 (.agg ⟨[.int .i64 0, .int .i64 0, .slice none 0 0, .slice none 0 0, .int .i64 0, .int .i64 0, .int .i64 0]⟩) 7 88 := ⟨info_parts info119⟩
instance : TyA Tryz.prog 119 7 := ⟨⟨_, Tryz.underlying119, rfl⟩, by obtain ⟨i, h1, _, h2, _⟩ := info_parts info119; exact ⟨i, h1, h2⟩⟩
instance ty120 : Ty Tryz.prog 120 (.map 3 116) := ⟨Tryz.underlying120⟩
theorem info120 : (Tryz.prog.info? 120).map (fun i => (i.zero, i.size, i.bytes)) = some (some (.map none), 1, 8) := by kernel_rfl
instance tyi120 : TyI Tryz.prog 120 (.map none) 1 8 := ⟨info_parts info120⟩
instance : TyS Tryz.prog 120 := ⟨_, Tryz.underlying120, rfl⟩
instance ty121 : Ty Tryz.prog 121 (.struct #[{ name := "files", type := 120, offset := 0, embedded := false, tag := "", pkgPath := "marionette/node", byteOffset := 0 }]) := ⟨Tryz.underlying121⟩
theorem info121 : (Tryz.prog.info? 121).map (fun i => (i.zero, i.size, i.bytes)) = some (some (.agg ⟨[.map none]⟩), 1, 8) := by kernel_rfl
instance tyi121 : TyI Tryz.prog 121 (.agg ⟨[.map none]⟩) 1 8 := ⟨info_parts info121⟩
instance : TyA Tryz.prog 121 1 := ⟨⟨_, Tryz.underlying121, rfl⟩, by obtain ⟨i, h1, _, h2, _⟩ := info_parts info121; exact ⟨i, h1, h2⟩⟩
instance ty122 : Ty Tryz.prog 122 (.struct #[{ name := "files", type := 120, offset := 0, embedded := false, tag := "", pkgPath := "marionette/node", byteOffset := 0 }]) := ⟨Tryz.underlying122⟩
theorem info122 : (Tryz.prog.info? 122).map (fun i => (i.zero, i.size, i.bytes)) = some (some (.agg ⟨[.map none]⟩), 1, 8) := by kernel_rfl
instance tyi122 : TyI Tryz.prog 122 (.agg ⟨[.map none]⟩) 1 8 := ⟨info_parts info122⟩
instance : TyA Tryz.prog 122 1 := ⟨⟨_, Tryz.underlying122, rfl⟩, by obtain ⟨i, h1, _, h2, _⟩ := info_parts info122; exact ⟨i, h1, h2⟩⟩
instance ty124 : Ty Tryz.prog 124 (.slice 167) := ⟨Tryz.underlying124⟩
theorem info124 : (Tryz.prog.info? 124).map (fun i => (i.zero, i.size, i.bytes)) = some (some (.slice none 0 0), 1, 24) := by kernel_rfl
instance tyi124 : TyI Tryz.prog 124 (.slice none 0 0) 1 24 := ⟨info_parts info124⟩
instance : TyS Tryz.prog 124 := ⟨_, Tryz.underlying124, rfl⟩
instance ty125 : Ty Tryz.prog 125 (.slice 167) := ⟨Tryz.underlying125⟩
theorem info125 : (Tryz.prog.info? 125).map (fun i => (i.zero, i.size, i.bytes)) = some (some (.slice none 0 0), 1, 24) := by kernel_rfl
instance tyi125 : TyI Tryz.prog 125 (.slice none 0 0) 1 24 := ⟨info_parts info125⟩
instance : TyS Tryz.prog 125 := ⟨_, Tryz.underlying125, rfl⟩
instance ty126 : Ty Tryz.prog 126 (.struct #[{ name := "now", type := 3, offset := 0, embedded := false, tag := "", pkgPath := "marionette/timer", byteOffset := 0 }, { name := "alarms", type := 125, offset := 1, embedded := false, tag := "", pkgPath := "marionette/timer", byteOffset := 8 }]) := ⟨Tryz.underlying126⟩
theorem info126 : (Tryz.prog.info? 126).map (fun i => (i.zero, i.size, i.bytes)) = some (some (.agg ⟨[.int .i64 0, .slice none 0 0]⟩), 2, 32) := by kernel_rfl
instance tyi126 : TyI Tryz.prog 126 (.agg ⟨[.int .i64 0, .slice none 0 0]⟩) 2 32 := ⟨info_parts info126⟩
instance : TyA Tryz.prog 126 2 := ⟨⟨_, Tryz.underlying126, rfl⟩, by obtain ⟨i, h1, _, h2, _⟩ := info_parts info126; exact ⟨i, h1, h2⟩⟩
instance ty127 : Ty Tryz.prog 127 (.struct #[{ name := "now", type := 3, offset := 0, embedded := false, tag := "", pkgPath := "marionette/timer", byteOffset := 0 }, { name := "alarms", type := 125, offset := 1, embedded := false, tag := "", pkgPath := "marionette/timer", byteOffset := 8 }]) := ⟨Tryz.underlying127⟩
theorem info127 : (Tryz.prog.info? 127).map (fun i => (i.zero, i.size, i.bytes)) = some (some (.agg ⟨[.int .i64 0, .slice none 0 0]⟩), 2, 32) := by kernel_rfl
instance tyi127 : TyI Tryz.prog 127 (.agg ⟨[.int .i64 0, .slice none 0 0]⟩) 2 32 := ⟨info_parts info127⟩
instance : TyA Tryz.prog 127 2 := ⟨⟨_, Tryz.underlying127, rfl⟩, by obtain ⟨i, h1, _, h2, _⟩ := info_parts info127; exact ⟨i, h1, h2⟩⟩
instance ty128 : Ty Tryz.prog 128 (.slice 137) := ⟨Tryz.underlying128⟩
theorem info128 : (Tryz.prog.info? 128).map (fun i => (i.zero, i.size, i.bytes)) = some (some (.slice none 0 0), 1, 24) := by kernel_rfl
instance tyi128 : TyI Tryz.prog 128 (.slice none 0 0) 1 24 := ⟨info_parts info128⟩
instance : TyS Tryz.prog 128 := ⟨_, Tryz.underlying128, rfl⟩
instance ty129 : Ty Tryz.prog 129 (.struct #[{ name := "Entry", type := 31, offset := 0, embedded := false, tag := "", pkgPath := "", byteOffset := 0 }, { name := "Segments", type := 128, offset := 1, embedded := false, tag := "", pkgPath := "", byteOffset := 8 }, { name := "Phdr", type := 31, offset := 2, embedded := false, tag := "", pkgPath := "", byteOffset := 32 }, { name := "PhNum", type := 3, offset := 3, embedded := false, tag := "", pkgPath := "", byteOffset := 40 }, { name := "PhSize", type := 3, offset := 4, embedded := false, tag := "", pkgPath := "", byteOffset := 48 }]) := ⟨Tryz.underlying129⟩
theorem info129 : (Tryz.prog.info? 129).map (fun i => (i.zero, i.size, i.bytes)) = some (some (.agg ⟨[.int .u64 0, .slice none 0 0, .int .u64 0, .int .i64 0, .int .i64 0]⟩), 5, 56) := by kernel_rfl
instance tyi129 : TyI Tryz.prog 129 (.agg ⟨[.int .u64 0, .slice none 0 0, .int .u64 0, .int .i64 0, .int .i64 0]⟩) 5 56 := ⟨info_parts info129⟩
instance : TyA Tryz.prog 129 5 := ⟨⟨_, Tryz.underlying129, rfl⟩, by obtain ⟨i, h1, _, h2, _⟩ := info_parts info129; exact ⟨i, h1, h2⟩⟩
instance ty130 : Ty Tryz.prog 130 (.struct #[{ name := "Entry", type := 31, offset := 0, embedded := false, tag := "", pkgPath := "", byteOffset := 0 }, { name := "Segments", type := 128, offset := 1, embedded := false, tag := "", pkgPath := "", byteOffset := 8 }, { name := "Phdr", type := 31, offset := 2, embedded := false, tag := "", pkgPath := "", byteOffset := 32 }, { name := "PhNum", type := 3, offset := 3, embedded := false, tag := "", pkgPath := "", byteOffset := 40 }, { name := "PhSize", type := 3, offset := 4, embedded := false, tag := "", pkgPath := "", byteOffset := 48 }]) := ⟨Tryz.underlying130⟩
theorem info130 : (Tryz.prog.info? 130).map (fun i => (i.zero, i.size, i.bytes)) = some (some (.agg ⟨[.int .u64 0, .slice none 0 0, .int .u64 0, .int .i64 0, .int .i64 0]⟩), 5, 56) := by kernel_rfl
instance tyi130 : TyI Tryz.prog 130 (.agg ⟨[.int .u64 0, .slice none 0 0, .int .u64 0, .int .i64 0, .int .i64 0]⟩) 5 56 := ⟨info_parts info130⟩
instance : TyA Tryz.prog 130 5 := ⟨⟨_, Tryz.underlying130, rfl⟩, by obtain ⟨i, h1, _, h2, _⟩ := info_parts info130; exact ⟨i, h1, h2⟩⟩
instance ty136 : Ty Tryz.prog 136 (.struct #[{ name := "Addr", type := 31, offset := 0, embedded := false, tag := "", pkgPath := "", byteOffset := 0 }, { name := "Size", type := 31, offset := 1, embedded := false, tag := "", pkgPath := "", byteOffset := 8 }, { name := "Off", type := 31, offset := 2, embedded := false, tag := "", pkgPath := "", byteOffset := 16 }, { name := "Len", type := 31, offset := 3, embedded := false, tag := "", pkgPath := "", byteOffset := 24 }, { name := "Prot", type := 3, offset := 4, embedded := false, tag := "", pkgPath := "", byteOffset := 32 }]) := ⟨Tryz.underlying136⟩
theorem info136 : (Tryz.prog.info? 136).map (fun i => (i.zero, i.size, i.bytes)) = some (some (.agg ⟨[.int .u64 0, .int .u64 0, .int .u64 0, .int .u64 0, .int .i64 0]⟩), 5, 40) := by kernel_rfl
instance tyi136 : TyI Tryz.prog 136 (.agg ⟨[.int .u64 0, .int .u64 0, .int .u64 0, .int .u64 0, .int .i64 0]⟩) 5 40 := ⟨info_parts info136⟩
instance : TyA Tryz.prog 136 5 := ⟨⟨_, Tryz.underlying136, rfl⟩, by obtain ⟨i, h1, _, h2, _⟩ := info_parts info136; exact ⟨i, h1, h2⟩⟩
instance ty137 : Ty Tryz.prog 137 (.struct #[{ name := "Addr", type := 31, offset := 0, embedded := false, tag := "", pkgPath := "", byteOffset := 0 }, { name := "Size", type := 31, offset := 1, embedded := false, tag := "", pkgPath := "", byteOffset := 8 }, { name := "Off", type := 31, offset := 2, embedded := false, tag := "", pkgPath := "", byteOffset := 16 }, { name := "Len", type := 31, offset := 3, embedded := false, tag := "", pkgPath := "", byteOffset := 24 }, { name := "Prot", type := 3, offset := 4, embedded := false, tag := "", pkgPath := "", byteOffset := 32 }]) := ⟨Tryz.underlying137⟩
theorem info137 : (Tryz.prog.info? 137).map (fun i => (i.zero, i.size, i.bytes)) = some (some (.agg ⟨[.int .u64 0, .int .u64 0, .int .u64 0, .int .u64 0, .int .i64 0]⟩), 5, 40) := by kernel_rfl
instance tyi137 : TyI Tryz.prog 137 (.agg ⟨[.int .u64 0, .int .u64 0, .int .u64 0, .int .u64 0, .int .i64 0]⟩) 5 40 := ⟨info_parts info137⟩
instance : TyA Tryz.prog 137 5 := ⟨⟨_, Tryz.underlying137, rfl⟩, by obtain ⟨i, h1, _, h2, _⟩ := info_parts info137; exact ⟨i, h1, h2⟩⟩
instance ty144 : Ty Tryz.prog 144 (.map 31 377) := ⟨Tryz.underlying144⟩
theorem info144 : (Tryz.prog.info? 144).map (fun i => (i.zero, i.size, i.bytes)) = some (some (.map none), 1, 8) := by kernel_rfl
instance tyi144 : TyI Tryz.prog 144 (.map none) 1 8 := ⟨info_parts info144⟩
instance : TyS Tryz.prog 144 := ⟨_, Tryz.underlying144, rfl⟩
instance ty145 : Ty Tryz.prog 145 (.struct #[{ name := "on", type := 4, offset := 0, embedded := false, tag := "", pkgPath := "marionette/cache", byteOffset := 0 }, { name := "entries", type := 144, offset := 1, embedded := false, tag := "", pkgPath := "marionette/cache", byteOffset := 8 }, { name := "space", type := 51, offset := 2, embedded := false, tag := "", pkgPath := "marionette/cache", byteOffset := 16 }]) := ⟨Tryz.underlying145⟩
theorem info145 : (Tryz.prog.info? 145).map (fun i => (i.zero, i.size, i.bytes)) = some (some (.agg ⟨[.bool false, .map none, .pointer none]⟩), 3, 24) := by kernel_rfl
instance tyi145 : TyI Tryz.prog 145 (.agg ⟨[.bool false, .map none, .pointer none]⟩) 3 24 := ⟨info_parts info145⟩
instance : TyA Tryz.prog 145 3 := ⟨⟨_, Tryz.underlying145, rfl⟩, by obtain ⟨i, h1, _, h2, _⟩ := info_parts info145; exact ⟨i, h1, h2⟩⟩
instance ty146 : Ty Tryz.prog 146 (.struct #[{ name := "on", type := 4, offset := 0, embedded := false, tag := "", pkgPath := "marionette/cache", byteOffset := 0 }, { name := "entries", type := 144, offset := 1, embedded := false, tag := "", pkgPath := "marionette/cache", byteOffset := 8 }, { name := "space", type := 51, offset := 2, embedded := false, tag := "", pkgPath := "marionette/cache", byteOffset := 16 }]) := ⟨Tryz.underlying146⟩
theorem info146 : (Tryz.prog.info? 146).map (fun i => (i.zero, i.size, i.bytes)) = some (some (.agg ⟨[.bool false, .map none, .pointer none]⟩), 3, 24) := by kernel_rfl
instance tyi146 : TyI Tryz.prog 146 (.agg ⟨[.bool false, .map none, .pointer none]⟩) 3 24 := ⟨info_parts info146⟩
instance : TyA Tryz.prog 146 3 := ⟨⟨_, Tryz.underlying146, rfl⟩, by obtain ⟨i, h1, _, h2, _⟩ := info_parts info146; exact ⟨i, h1, h2⟩⟩
instance ty148 : Ty Tryz.prog 148 (.pointer 214) := ⟨Tryz.underlying148⟩
theorem info148 : (Tryz.prog.info? 148).map (fun i => (i.zero, i.size, i.bytes)) = some (some (.pointer none), 1, 8) := by kernel_rfl
instance tyi148 : TyI Tryz.prog 148 (.pointer none) 1 8 := ⟨info_parts info148⟩
instance : TyS Tryz.prog 148 := ⟨_, Tryz.underlying148, rfl⟩
instance ty150 : Ty Tryz.prog 150 (.struct #[{ name := "Tree", type := 76, offset := 0, embedded := false, tag := "", pkgPath := "", byteOffset := 0 }, { name := "Table", type := 148, offset := 1, embedded := false, tag := "", pkgPath := "", byteOffset := 8 }, { name := "Cwd", type := 3, offset := 2, embedded := false, tag := "", pkgPath := "", byteOffset := 16 }, { name := "Umask", type := 3, offset := 3, embedded := false, tag := "", pkgPath := "", byteOffset := 24 }]) := ⟨Tryz.underlying150⟩
theorem info150 : (Tryz.prog.info? 150).map (fun i => (i.zero, i.size, i.bytes)) = some (some (.agg ⟨[.pointer none, .pointer none, .int .i64 0, .int .i64 0]⟩), 4, 32) := by kernel_rfl
instance tyi150 : TyI Tryz.prog 150 (.agg ⟨[.pointer none, .pointer none, .int .i64 0, .int .i64 0]⟩) 4 32 := ⟨info_parts info150⟩
instance : TyA Tryz.prog 150 4 := ⟨⟨_, Tryz.underlying150, rfl⟩, by obtain ⟨i, h1, _, h2, _⟩ := info_parts info150; exact ⟨i, h1, h2⟩⟩
instance ty151 : Ty Tryz.prog 151 (.struct #[{ name := "Tree", type := 76, offset := 0, embedded := false, tag := "", pkgPath := "", byteOffset := 0 }, { name := "Table", type := 148, offset := 1, embedded := false, tag := "", pkgPath := "", byteOffset := 8 }, { name := "Cwd", type := 3, offset := 2, embedded := false, tag := "", pkgPath := "", byteOffset := 16 }, { name := "Umask", type := 3, offset := 3, embedded := false, tag := "", pkgPath := "", byteOffset := 24 }]) := ⟨Tryz.underlying151⟩
theorem info151 : (Tryz.prog.info? 151).map (fun i => (i.zero, i.size, i.bytes)) = some (some (.agg ⟨[.pointer none, .pointer none, .int .i64 0, .int .i64 0]⟩), 4, 32) := by kernel_rfl
instance tyi151 : TyI Tryz.prog 151 (.agg ⟨[.pointer none, .pointer none, .int .i64 0, .int .i64 0]⟩) 4 32 := ⟨info_parts info151⟩
instance : TyA Tryz.prog 151 4 := ⟨⟨_, Tryz.underlying151, rfl⟩, by obtain ⟨i, h1, _, h2, _⟩ := info_parts info151; exact ⟨i, h1, h2⟩⟩
instance ty152 : Ty Tryz.prog 152 (.struct #[{ name := "Dir", type := 3, offset := 0, embedded := false, tag := "", pkgPath := "", byteOffset := 0 }, { name := "Name", type := 9, offset := 1, embedded := false, tag := "", pkgPath := "", byteOffset := 8 }, { name := "Node", type := 3, offset := 2, embedded := false, tag := "", pkgPath := "", byteOffset := 24 }]) := ⟨Tryz.underlying152⟩
theorem info152 : (Tryz.prog.info? 152).map (fun i => (i.zero, i.size, i.bytes)) = some (some (.agg ⟨[.int .i64 0, .string ⟨#[]⟩, .int .i64 0]⟩), 3, 32) := by kernel_rfl
instance tyi152 : TyI Tryz.prog 152 (.agg ⟨[.int .i64 0, .string ⟨#[]⟩, .int .i64 0]⟩) 3 32 := ⟨info_parts info152⟩
instance : TyA Tryz.prog 152 3 := ⟨⟨_, Tryz.underlying152, rfl⟩, by obtain ⟨i, h1, _, h2, _⟩ := info_parts info152; exact ⟨i, h1, h2⟩⟩
instance ty153 : Ty Tryz.prog 153 (.struct #[{ name := "Dir", type := 3, offset := 0, embedded := false, tag := "", pkgPath := "", byteOffset := 0 }, { name := "Name", type := 9, offset := 1, embedded := false, tag := "", pkgPath := "", byteOffset := 8 }, { name := "Node", type := 3, offset := 2, embedded := false, tag := "", pkgPath := "", byteOffset := 24 }]) := ⟨Tryz.underlying153⟩
theorem info153 : (Tryz.prog.info? 153).map (fun i => (i.zero, i.size, i.bytes)) = some (some (.agg ⟨[.int .i64 0, .string ⟨#[]⟩, .int .i64 0]⟩), 3, 32) := by kernel_rfl
instance tyi153 : TyI Tryz.prog 153 (.agg ⟨[.int .i64 0, .string ⟨#[]⟩, .int .i64 0]⟩) 3 32 := ⟨info_parts info153⟩
instance : TyA Tryz.prog 153 3 := ⟨⟨_, Tryz.underlying153, rfl⟩, by obtain ⟨i, h1, _, h2, _⟩ := info_parts info153; exact ⟨i, h1, h2⟩⟩
instance ty157 : Ty Tryz.prog 157 (.pointer 380) := ⟨Tryz.underlying157⟩
theorem info157 : (Tryz.prog.info? 157).map (fun i => (i.zero, i.size, i.bytes)) = some (some (.pointer none), 1, 8) := by kernel_rfl
instance tyi157 : TyI Tryz.prog 157 (.pointer none) 1 8 := ⟨info_parts info157⟩
instance : TyS Tryz.prog 157 := ⟨_, Tryz.underlying157, rfl⟩
instance ty158 : Ty Tryz.prog 158 (.struct #[{ name := "Node", type := 3, offset := 0, embedded := false, tag := "", pkgPath := "", byteOffset := 0 }, { name := "Pipe", type := 157, offset := 1, embedded := false, tag := "", pkgPath := "", byteOffset := 8 }, { name := "Read", type := 4, offset := 2, embedded := false, tag := "", pkgPath := "", byteOffset := 16 }, { name := "Write", type := 4, offset := 3, embedded := false, tag := "", pkgPath := "", byteOffset := 17 }, { name := "Append", type := 4, offset := 4, embedded := false, tag := "", pkgPath := "", byteOffset := 18 }, { name := "Wait", type := 4, offset := 5, embedded := false, tag := "", pkgPath := "", byteOffset := 19 }, { name := "At", type := 3, offset := 6, embedded := false, tag := "", pkgPath := "", byteOffset := 24 }]) := ⟨Tryz.underlying158⟩
theorem info158 : (Tryz.prog.info? 158).map (fun i => (i.zero, i.size, i.bytes)) = some (some (.agg ⟨[.int .i64 0, .pointer none, .bool false, .bool false, .bool false, .bool false, .int .i64 0]⟩), 7, 32) := by kernel_rfl
instance tyi158 : TyI Tryz.prog 158 (.agg ⟨[.int .i64 0, .pointer none, .bool false, .bool false, .bool false, .bool false, .int .i64 0]⟩) 7 32 := ⟨info_parts info158⟩
instance : TyA Tryz.prog 158 7 := ⟨⟨_, Tryz.underlying158, rfl⟩, by obtain ⟨i, h1, _, h2, _⟩ := info_parts info158; exact ⟨i, h1, h2⟩⟩
instance ty159 : Ty Tryz.prog 159 (.struct #[{ name := "Node", type := 3, offset := 0, embedded := false, tag := "", pkgPath := "", byteOffset := 0 }, { name := "Pipe", type := 157, offset := 1, embedded := false, tag := "", pkgPath := "", byteOffset := 8 }, { name := "Read", type := 4, offset := 2, embedded := false, tag := "", pkgPath := "", byteOffset := 16 }, { name := "Write", type := 4, offset := 3, embedded := false, tag := "", pkgPath := "", byteOffset := 17 }, { name := "Append", type := 4, offset := 4, embedded := false, tag := "", pkgPath := "", byteOffset := 18 }, { name := "Wait", type := 4, offset := 5, embedded := false, tag := "", pkgPath := "", byteOffset := 19 }, { name := "At", type := 3, offset := 6, embedded := false, tag := "", pkgPath := "", byteOffset := 24 }]) := ⟨Tryz.underlying159⟩
theorem info159 : (Tryz.prog.info? 159).map (fun i => (i.zero, i.size, i.bytes)) = some (some (.agg ⟨[.int .i64 0, .pointer none, .bool false, .bool false, .bool false, .bool false, .int .i64 0]⟩), 7, 32) := by kernel_rfl
instance tyi159 : TyI Tryz.prog 159 (.agg ⟨[.int .i64 0, .pointer none, .bool false, .bool false, .bool false, .bool false, .int .i64 0]⟩) 7 32 := ⟨info_parts info159⟩
instance : TyA Tryz.prog 159 7 := ⟨⟨_, Tryz.underlying159, rfl⟩, by obtain ⟨i, h1, _, h2, _⟩ := info_parts info159; exact ⟨i, h1, h2⟩⟩
instance ty166 : Ty Tryz.prog 166 (.struct #[{ name := "id", type := 3, offset := 0, embedded := false, tag := "", pkgPath := "marionette/timer", byteOffset := 0 }, { name := "due", type := 3, offset := 1, embedded := false, tag := "", pkgPath := "marionette/timer", byteOffset := 8 }, { name := "every", type := 3, offset := 2, embedded := false, tag := "", pkgPath := "marionette/timer", byteOffset := 16 }]) := ⟨Tryz.underlying166⟩
theorem info166 : (Tryz.prog.info? 166).map (fun i => (i.zero, i.size, i.bytes)) = some (some (.agg ⟨[.int .i64 0, .int .i64 0, .int .i64 0]⟩), 3, 24) := by kernel_rfl
instance tyi166 : TyI Tryz.prog 166 (.agg ⟨[.int .i64 0, .int .i64 0, .int .i64 0]⟩) 3 24 := ⟨info_parts info166⟩
instance : TyA Tryz.prog 166 3 := ⟨⟨_, Tryz.underlying166, rfl⟩, by obtain ⟨i, h1, _, h2, _⟩ := info_parts info166; exact ⟨i, h1, h2⟩⟩
instance ty167 : Ty Tryz.prog 167 (.struct #[{ name := "id", type := 3, offset := 0, embedded := false, tag := "", pkgPath := "marionette/timer", byteOffset := 0 }, { name := "due", type := 3, offset := 1, embedded := false, tag := "", pkgPath := "marionette/timer", byteOffset := 8 }, { name := "every", type := 3, offset := 2, embedded := false, tag := "", pkgPath := "marionette/timer", byteOffset := 16 }]) := ⟨Tryz.underlying167⟩
theorem info167 : (Tryz.prog.info? 167).map (fun i => (i.zero, i.size, i.bytes)) = some (some (.agg ⟨[.int .i64 0, .int .i64 0, .int .i64 0]⟩), 3, 24) := by kernel_rfl
instance tyi167 : TyI Tryz.prog 167 (.agg ⟨[.int .i64 0, .int .i64 0, .int .i64 0]⟩) 3 24 := ⟨info_parts info167⟩
instance : TyA Tryz.prog 167 3 := ⟨⟨_, Tryz.underlying167, rfl⟩, by obtain ⟨i, h1, _, h2, _⟩ := info_parts info167; exact ⟨i, h1, h2⟩⟩
instance ty180 : Ty Tryz.prog 180 (.slice 5) := ⟨Tryz.underlying180⟩
theorem info180 : (Tryz.prog.info? 180).map (fun i => (i.zero, i.size, i.bytes)) = some (some (.slice none 0 0), 1, 24) := by kernel_rfl
instance tyi180 : TyI Tryz.prog 180 (.slice none 0 0) 1 24 := ⟨info_parts info180⟩
instance : TyS Tryz.prog 180 := ⟨_, Tryz.underlying180, rfl⟩
instance ty182 : Ty Tryz.prog 182 (.pointer 253) := ⟨Tryz.underlying182⟩
theorem info182 : (Tryz.prog.info? 182).map (fun i => (i.zero, i.size, i.bytes)) = some (some (.pointer none), 1, 8) := by kernel_rfl
instance tyi182 : TyI Tryz.prog 182 (.pointer none) 1 8 := ⟨info_parts info182⟩
instance : TyS Tryz.prog 182 := ⟨_, Tryz.underlying182, rfl⟩
instance ty184 : Ty Tryz.prog 184 (.pointer 182) := ⟨Tryz.underlying184⟩
theorem info184 : (Tryz.prog.info? 184).map (fun i => (i.zero, i.size, i.bytes)) = some (some (.pointer none), 1, 8) := by kernel_rfl
instance tyi184 : TyI Tryz.prog 184 (.pointer none) 1 8 := ⟨info_parts info184⟩
instance : TyS Tryz.prog 184 := ⟨_, Tryz.underlying184, rfl⟩
instance ty189 : Ty Tryz.prog 189 (.pointer 192) := ⟨Tryz.underlying189⟩
theorem info189 : (Tryz.prog.info? 189).map (fun i => (i.zero, i.size, i.bytes)) = some (some (.pointer none), 1, 8) := by kernel_rfl
instance tyi189 : TyI Tryz.prog 189 (.pointer none) 1 8 := ⟨info_parts info189⟩
instance : TyS Tryz.prog 189 := ⟨_, Tryz.underlying189, rfl⟩
instance ty190 : Ty Tryz.prog 190 (.slice 31) := ⟨Tryz.underlying190⟩
theorem info190 : (Tryz.prog.info? 190).map (fun i => (i.zero, i.size, i.bytes)) = some (some (.slice none 0 0), 1, 24) := by kernel_rfl
instance tyi190 : TyI Tryz.prog 190 (.slice none 0 0) 1 24 := ⟨info_parts info190⟩
instance : TyS Tryz.prog 190 := ⟨_, Tryz.underlying190, rfl⟩
instance ty191 : Ty Tryz.prog 191 (.struct #[{ name := "texts", type := 22, offset := 0, embedded := false, tag := "", pkgPath := "marionette/start", byteOffset := 0 }, { name := "words", type := 190, offset := 1, embedded := false, tag := "", pkgPath := "marionette/start", byteOffset := 24 }]) := ⟨Tryz.underlying191⟩
theorem info191 : (Tryz.prog.info? 191).map (fun i => (i.zero, i.size, i.bytes)) = some (some (.agg ⟨[.slice none 0 0, .slice none 0 0]⟩), 2, 48) := by kernel_rfl
instance tyi191 : TyI Tryz.prog 191 (.agg ⟨[.slice none 0 0, .slice none 0 0]⟩) 2 48 := ⟨info_parts info191⟩
instance : TyA Tryz.prog 191 2 := ⟨⟨_, Tryz.underlying191, rfl⟩, by obtain ⟨i, h1, _, h2, _⟩ := info_parts info191; exact ⟨i, h1, h2⟩⟩
instance ty192 : Ty Tryz.prog 192 (.struct #[{ name := "texts", type := 22, offset := 0, embedded := false, tag := "", pkgPath := "marionette/start", byteOffset := 0 }, { name := "words", type := 190, offset := 1, embedded := false, tag := "", pkgPath := "marionette/start", byteOffset := 24 }]) := ⟨Tryz.underlying192⟩
theorem info192 : (Tryz.prog.info? 192).map (fun i => (i.zero, i.size, i.bytes)) = some (some (.agg ⟨[.slice none 0 0, .slice none 0 0]⟩), 2, 48) := by kernel_rfl
instance tyi192 : TyI Tryz.prog 192 (.agg ⟨[.slice none 0 0, .slice none 0 0]⟩) 2 48 := ⟨info_parts info192⟩
instance : TyA Tryz.prog 192 2 := ⟨⟨_, Tryz.underlying192, rfl⟩, by obtain ⟨i, h1, _, h2, _⟩ := info_parts info192; exact ⟨i, h1, h2⟩⟩
instance ty194 : Ty Tryz.prog 194 (.slice 196) := ⟨Tryz.underlying194⟩
theorem info194 : (Tryz.prog.info? 194).map (fun i => (i.zero, i.size, i.bytes)) = some (some (.slice none 0 0), 1, 24) := by kernel_rfl
instance tyi194 : TyI Tryz.prog 194 (.slice none 0 0) 1 24 := ⟨info_parts info194⟩
instance : TyS Tryz.prog 194 := ⟨_, Tryz.underlying194, rfl⟩
instance ty196 : Ty Tryz.prog 196 (.array 2 31) := ⟨Tryz.underlying196⟩
theorem info196 : (Tryz.prog.info? 196).map (fun i => (i.zero, i.size, i.bytes)) = some (some (.agg ⟨[.int .u64 0, .int .u64 0]⟩), 2, 16) := by kernel_rfl
instance tyi196 : TyI Tryz.prog 196 (.agg ⟨[.int .u64 0, .int .u64 0]⟩) 2 16 := ⟨info_parts info196⟩
instance : TyA Tryz.prog 196 2 := ⟨⟨_, Tryz.underlying196, rfl⟩, by obtain ⟨i, h1, _, h2, _⟩ := info_parts info196; exact ⟨i, h1, h2⟩⟩
instance ty198 : Ty Tryz.prog 198 (.pointer 271) := ⟨Tryz.underlying198⟩
theorem info198 : (Tryz.prog.info? 198).map (fun i => (i.zero, i.size, i.bytes)) = some (some (.pointer none), 1, 8) := by kernel_rfl
instance tyi198 : TyI Tryz.prog 198 (.pointer none) 1 8 := ⟨info_parts info198⟩
instance : TyS Tryz.prog 198 := ⟨_, Tryz.underlying198, rfl⟩
instance ty200 : Ty Tryz.prog 200 (.pointer 275) := ⟨Tryz.underlying200⟩
theorem info200 : (Tryz.prog.info? 200).map (fun i => (i.zero, i.size, i.bytes)) = some (some (.pointer none), 1, 8) := by kernel_rfl
instance tyi200 : TyI Tryz.prog 200 (.pointer none) 1 8 := ⟨info_parts info200⟩
instance : TyS Tryz.prog 200 := ⟨_, Tryz.underlying200, rfl⟩
instance ty202 : Ty Tryz.prog 202 (.struct #[{ name := "List", type := 198, offset := 0, embedded := true, tag := "", pkgPath := "", byteOffset := 0 }, { name := "bytes", type := 200, offset := 1, embedded := false, tag := "", pkgPath := "marionette/mem", byteOffset := 8 }, { name := "most", type := 3, offset := 2, embedded := false, tag := "", pkgPath := "marionette/mem", byteOffset := 16 }, { name := "base", type := 31, offset := 3, embedded := false, tag := "", pkgPath := "marionette/mem", byteOffset := 24 }, { name := "end", type := 31, offset := 4, embedded := false, tag := "", pkgPath := "marionette/mem", byteOffset := 32 }]) := ⟨Tryz.underlying202⟩
theorem info202 : (Tryz.prog.info? 202).map (fun i => (i.zero, i.size, i.bytes)) = some (some (.agg ⟨[.pointer none, .pointer none, .int .i64 0, .int .u64 0, .int .u64 0]⟩), 5, 40) := by kernel_rfl
instance tyi202 : TyI Tryz.prog 202 (.agg ⟨[.pointer none, .pointer none, .int .i64 0, .int .u64 0, .int .u64 0]⟩) 5 40 := ⟨info_parts info202⟩
instance : TyA Tryz.prog 202 5 := ⟨⟨_, Tryz.underlying202, rfl⟩, by obtain ⟨i, h1, _, h2, _⟩ := info_parts info202; exact ⟨i, h1, h2⟩⟩
instance ty203 : Ty Tryz.prog 203 (.struct #[{ name := "List", type := 198, offset := 0, embedded := true, tag := "", pkgPath := "", byteOffset := 0 }, { name := "bytes", type := 200, offset := 1, embedded := false, tag := "", pkgPath := "marionette/mem", byteOffset := 8 }, { name := "most", type := 3, offset := 2, embedded := false, tag := "", pkgPath := "marionette/mem", byteOffset := 16 }, { name := "base", type := 31, offset := 3, embedded := false, tag := "", pkgPath := "marionette/mem", byteOffset := 24 }, { name := "end", type := 31, offset := 4, embedded := false, tag := "", pkgPath := "marionette/mem", byteOffset := 32 }]) := ⟨Tryz.underlying203⟩
theorem info203 : (Tryz.prog.info? 203).map (fun i => (i.zero, i.size, i.bytes)) = some (some (.agg ⟨[.pointer none, .pointer none, .int .i64 0, .int .u64 0, .int .u64 0]⟩), 5, 40) := by kernel_rfl
instance tyi203 : TyI Tryz.prog 203 (.agg ⟨[.pointer none, .pointer none, .int .i64 0, .int .u64 0, .int .u64 0]⟩) 5 40 := ⟨info_parts info203⟩
instance : TyA Tryz.prog 203 5 := ⟨⟨_, Tryz.underlying203, rfl⟩, by obtain ⟨i, h1, _, h2, _⟩ := info_parts info203; exact ⟨i, h1, h2⟩⟩
instance ty207 : Ty Tryz.prog 207 (.struct #[{ name := "Start", type := 31, offset := 0, embedded := false, tag := "", pkgPath := "", byteOffset := 0 }, { name := "End", type := 31, offset := 1, embedded := false, tag := "", pkgPath := "", byteOffset := 8 }, { name := "Prot", type := 3, offset := 2, embedded := false, tag := "", pkgPath := "", byteOffset := 16 }]) := ⟨Tryz.underlying207⟩
theorem info207 : (Tryz.prog.info? 207).map (fun i => (i.zero, i.size, i.bytes)) = some (some (.agg ⟨[.int .u64 0, .int .u64 0, .int .i64 0]⟩), 3, 24) := by kernel_rfl
instance tyi207 : TyI Tryz.prog 207 (.agg ⟨[.int .u64 0, .int .u64 0, .int .i64 0]⟩) 3 24 := ⟨info_parts info207⟩
instance : TyA Tryz.prog 207 3 := ⟨⟨_, Tryz.underlying207, rfl⟩, by obtain ⟨i, h1, _, h2, _⟩ := info_parts info207; exact ⟨i, h1, h2⟩⟩
instance ty208 : Ty Tryz.prog 208 (.struct #[{ name := "Start", type := 31, offset := 0, embedded := false, tag := "", pkgPath := "", byteOffset := 0 }, { name := "End", type := 31, offset := 1, embedded := false, tag := "", pkgPath := "", byteOffset := 8 }, { name := "Prot", type := 3, offset := 2, embedded := false, tag := "", pkgPath := "", byteOffset := 16 }]) := ⟨Tryz.underlying208⟩
theorem info208 : (Tryz.prog.info? 208).map (fun i => (i.zero, i.size, i.bytes)) = some (some (.agg ⟨[.int .u64 0, .int .u64 0, .int .i64 0]⟩), 3, 24) := by kernel_rfl
instance tyi208 : TyI Tryz.prog 208 (.agg ⟨[.int .u64 0, .int .u64 0, .int .i64 0]⟩) 3 24 := ⟨info_parts info208⟩
instance : TyA Tryz.prog 208 3 := ⟨⟨_, Tryz.underlying208, rfl⟩, by obtain ⟨i, h1, _, h2, _⟩ := info_parts info208; exact ⟨i, h1, h2⟩⟩
instance ty212 : Ty Tryz.prog 212 (.map 3 217) := ⟨Tryz.underlying212⟩
theorem info212 : (Tryz.prog.info? 212).map (fun i => (i.zero, i.size, i.bytes)) = some (some (.map none), 1, 8) := by kernel_rfl
instance tyi212 : TyI Tryz.prog 212 (.map none) 1 8 := ⟨info_parts info212⟩
instance : TyS Tryz.prog 212 := ⟨_, Tryz.underlying212, rfl⟩
instance ty213 : Ty Tryz.prog 213 (.struct #[{ name := "most", type := 3, offset := 0, embedded := false, tag := "", pkgPath := "marionette/desc", byteOffset := 0 }, { name := "slots", type := 212, offset := 1, embedded := false, tag := "", pkgPath := "marionette/desc", byteOffset := 8 }]) := ⟨Tryz.underlying213⟩
theorem info213 : (Tryz.prog.info? 213).map (fun i => (i.zero, i.size, i.bytes)) = some (some (.agg ⟨[.int .i64 0, .map none]⟩), 2, 16) := by kernel_rfl
instance tyi213 : TyI Tryz.prog 213 (.agg ⟨[.int .i64 0, .map none]⟩) 2 16 := ⟨info_parts info213⟩
instance : TyA Tryz.prog 213 2 := ⟨⟨_, Tryz.underlying213, rfl⟩, by obtain ⟨i, h1, _, h2, _⟩ := info_parts info213; exact ⟨i, h1, h2⟩⟩
instance ty214 : Ty Tryz.prog 214 (.struct #[{ name := "most", type := 3, offset := 0, embedded := false, tag := "", pkgPath := "marionette/desc", byteOffset := 0 }, { name := "slots", type := 212, offset := 1, embedded := false, tag := "", pkgPath := "marionette/desc", byteOffset := 8 }]) := ⟨Tryz.underlying214⟩
theorem info214 : (Tryz.prog.info? 214).map (fun i => (i.zero, i.size, i.bytes)) = some (some (.agg ⟨[.int .i64 0, .map none]⟩), 2, 16) := by kernel_rfl
instance tyi214 : TyI Tryz.prog 214 (.agg ⟨[.int .i64 0, .map none]⟩) 2 16 := ⟨info_parts info214⟩
instance : TyA Tryz.prog 214 2 := ⟨⟨_, Tryz.underlying214, rfl⟩, by obtain ⟨i, h1, _, h2, _⟩ := info_parts info214; exact ⟨i, h1, h2⟩⟩
instance ty217 : Ty Tryz.prog 217 (.pointer 222) := ⟨Tryz.underlying217⟩
theorem info217 : (Tryz.prog.info? 217).map (fun i => (i.zero, i.size, i.bytes)) = some (some (.pointer none), 1, 8) := by kernel_rfl
instance tyi217 : TyI Tryz.prog 217 (.pointer none) 1 8 := ⟨info_parts info217⟩
instance : TyS Tryz.prog 217 := ⟨_, Tryz.underlying217, rfl⟩
instance ty218 : Ty Tryz.prog 218 (.pointer 220) := ⟨Tryz.underlying218⟩
theorem info218 : (Tryz.prog.info? 218).map (fun i => (i.zero, i.size, i.bytes)) = some (some (.pointer none), 1, 8) := by kernel_rfl
instance tyi218 : TyI Tryz.prog 218 (.pointer none) 1 8 := ⟨info_parts info218⟩
instance : TyS Tryz.prog 218 := ⟨_, Tryz.underlying218, rfl⟩
instance ty219 : Ty Tryz.prog 219 (.struct #[{ name := "Open", type := 159, offset := 0, embedded := true, tag := "", pkgPath := "", byteOffset := 0 }, { name := "count", type := 3, offset := 7, embedded := false, tag := "", pkgPath := "marionette/desc", byteOffset := 32 }]) := ⟨Tryz.underlying219⟩
theorem info219 : (Tryz.prog.info? 219).map (fun i => (i.zero, i.size, i.bytes)) = some (some (.agg ⟨[.int .i64 0, .pointer none, .bool false, .bool false, .bool false, .bool false, .int .i64 0, .int .i64 0]⟩), 8, 40) := by kernel_rfl
instance tyi219 : TyI Tryz.prog 219 (.agg ⟨[.int .i64 0, .pointer none, .bool false, .bool false, .bool false, .bool false, .int .i64 0, .int .i64 0]⟩) 8 40 := ⟨info_parts info219⟩
instance : TyA Tryz.prog 219 8 := ⟨⟨_, Tryz.underlying219, rfl⟩, by obtain ⟨i, h1, _, h2, _⟩ := info_parts info219; exact ⟨i, h1, h2⟩⟩
instance ty220 : Ty Tryz.prog 220 (.struct #[{ name := "Open", type := 159, offset := 0, embedded := true, tag := "", pkgPath := "", byteOffset := 0 }, { name := "count", type := 3, offset := 7, embedded := false, tag := "", pkgPath := "marionette/desc", byteOffset := 32 }]) := ⟨Tryz.underlying220⟩
theorem info220 : (Tryz.prog.info? 220).map (fun i => (i.zero, i.size, i.bytes)) = some (some (.agg ⟨[.int .i64 0, .pointer none, .bool false, .bool false, .bool false, .bool false, .int .i64 0, .int .i64 0]⟩), 8, 40) := by kernel_rfl
instance tyi220 : TyI Tryz.prog 220 (.agg ⟨[.int .i64 0, .pointer none, .bool false, .bool false, .bool false, .bool false, .int .i64 0, .int .i64 0]⟩) 8 40 := ⟨info_parts info220⟩
instance : TyA Tryz.prog 220 8 := ⟨⟨_, Tryz.underlying220, rfl⟩, by obtain ⟨i, h1, _, h2, _⟩ := info_parts info220; exact ⟨i, h1, h2⟩⟩
instance ty221 : Ty Tryz.prog 221 (.struct #[{ name := "file", type := 218, offset := 0, embedded := false, tag := "", pkgPath := "marionette/desc", byteOffset := 0 }, { name := "shut", type := 4, offset := 1, embedded := false, tag := "", pkgPath := "marionette/desc", byteOffset := 8 }]) := ⟨Tryz.underlying221⟩
theorem info221 : (Tryz.prog.info? 221).map (fun i => (i.zero, i.size, i.bytes)) = some (some (.agg ⟨[.pointer none, .bool false]⟩), 2, 16) := by kernel_rfl
instance tyi221 : TyI Tryz.prog 221 (.agg ⟨[.pointer none, .bool false]⟩) 2 16 := ⟨info_parts info221⟩
instance : TyA Tryz.prog 221 2 := ⟨⟨_, Tryz.underlying221, rfl⟩, by obtain ⟨i, h1, _, h2, _⟩ := info_parts info221; exact ⟨i, h1, h2⟩⟩
instance ty222 : Ty Tryz.prog 222 (.struct #[{ name := "file", type := 218, offset := 0, embedded := false, tag := "", pkgPath := "marionette/desc", byteOffset := 0 }, { name := "shut", type := 4, offset := 1, embedded := false, tag := "", pkgPath := "marionette/desc", byteOffset := 8 }]) := ⟨Tryz.underlying222⟩
theorem info222 : (Tryz.prog.info? 222).map (fun i => (i.zero, i.size, i.bytes)) = some (some (.agg ⟨[.pointer none, .bool false]⟩), 2, 16) := by kernel_rfl
instance tyi222 : TyI Tryz.prog 222 (.agg ⟨[.pointer none, .bool false]⟩) 2 16 := ⟨info_parts info222⟩
instance : TyA Tryz.prog 222 2 := ⟨⟨_, Tryz.underlying222, rfl⟩, by obtain ⟨i, h1, _, h2, _⟩ := info_parts info222; exact ⟨i, h1, h2⟩⟩
instance ty223 : Ty Tryz.prog 223 (.pointer 159) := ⟨Tryz.underlying223⟩
theorem info223 : (Tryz.prog.info? 223).map (fun i => (i.zero, i.size, i.bytes)) = some (some (.pointer none), 1, 8) := by kernel_rfl
instance tyi223 : TyI Tryz.prog 223 (.pointer none) 1 8 := ⟨info_parts info223⟩
instance : TyS Tryz.prog 223 := ⟨_, Tryz.underlying223, rfl⟩
instance ty228 : Ty Tryz.prog 228 (.array 64 5) := ⟨Tryz.underlying228⟩
theorem info228 : (Tryz.prog.info? 228).map (fun i => (i.zero, i.size, i.bytes)) = some (some (.agg ⟨[.int .u8 0, .int .u8 0, .int .u8 0, .int .u8 0, .int .u8 0, .int .u8 0, .int .u8 0, .int .u8 0, .int .u8 0, .int .u8 0, .int .u8 0, .int .u8 0, .int .u8 0, .int .u8 0, .int .u8 0, .int .u8 0, .int .u8 0, .int .u8 0, .int .u8 0, .int .u8 0, .int .u8 0, .int .u8 0, .int .u8 0, .int .u8 0, .int .u8 0, .int .u8 0, .int .u8 0, .int .u8 0, .int .u8 0, .int .u8 0, .int .u8 0, .int .u8 0, .int .u8 0, .int .u8 0, .int .u8 0, .int .u8 0, .int .u8 0, .int .u8 0, .int .u8 0, .int .u8 0, .int .u8 0, .int .u8 0, .int .u8 0, .int .u8 0, .int .u8 0, .int .u8 0, .int .u8 0, .int .u8 0, .int .u8 0, .int .u8 0, .int .u8 0, .int .u8 0, .int .u8 0, .int .u8 0, .int .u8 0, .int .u8 0, .int .u8 0, .int .u8 0, .int .u8 0, .int .u8 0, .int .u8 0, .int .u8 0, .int .u8 0, .int .u8 0]⟩), 64, 64) := by kernel_rfl
instance tyi228 : TyI Tryz.prog 228 (.agg ⟨[.int .u8 0, .int .u8 0, .int .u8 0, .int .u8 0, .int .u8 0, .int .u8 0, .int .u8 0, .int .u8 0, .int .u8 0, .int .u8 0, .int .u8 0, .int .u8 0, .int .u8 0, .int .u8 0, .int .u8 0, .int .u8 0, .int .u8 0, .int .u8 0, .int .u8 0, .int .u8 0, .int .u8 0, .int .u8 0, .int .u8 0, .int .u8 0, .int .u8 0, .int .u8 0, .int .u8 0, .int .u8 0, .int .u8 0, .int .u8 0, .int .u8 0, .int .u8 0, .int .u8 0, .int .u8 0, .int .u8 0, .int .u8 0, .int .u8 0, .int .u8 0, .int .u8 0, .int .u8 0, .int .u8 0, .int .u8 0, .int .u8 0, .int .u8 0, .int .u8 0, .int .u8 0, .int .u8 0, .int .u8 0, .int .u8 0, .int .u8 0, .int .u8 0, .int .u8 0, .int .u8 0, .int .u8 0, .int .u8 0, .int .u8 0, .int .u8 0, .int .u8 0, .int .u8 0, .int .u8 0, .int .u8 0, .int .u8 0, .int .u8 0, .int .u8 0]⟩) 64 64 := ⟨info_parts info228⟩
instance : TyA Tryz.prog 228 64 := ⟨⟨_, Tryz.underlying228, rfl⟩, by obtain ⟨i, h1, _, h2, _⟩ := info_parts info228; exact ⟨i, h1, h2⟩⟩
instance ty230 : Ty Tryz.prog 230 (.pointer 125) := ⟨Tryz.underlying230⟩
theorem info230 : (Tryz.prog.info? 230).map (fun i => (i.zero, i.size, i.bytes)) = some (some (.pointer none), 1, 8) := by kernel_rfl
instance tyi230 : TyI Tryz.prog 230 (.pointer none) 1 8 := ⟨info_parts info230⟩
instance : TyS Tryz.prog 230 := ⟨_, Tryz.underlying230, rfl⟩
instance ty235 : Ty Tryz.prog 235 (.slice 5) := ⟨Tryz.underlying235⟩
theorem info235 : (Tryz.prog.info? 235).map (fun i => (i.zero, i.size, i.bytes)) = some (some (.slice none 0 0), 1, 24) := by kernel_rfl
instance tyi235 : TyI Tryz.prog 235 (.slice none 0 0) 1 24 := ⟨info_parts info235⟩
instance : TyS Tryz.prog 235 := ⟨_, Tryz.underlying235, rfl⟩
instance ty242 : Ty Tryz.prog 242 (.struct #[{ name := "Name", type := 9, offset := 0, embedded := false, tag := "", pkgPath := "", byteOffset := 0 }, { name := "Node", type := 3, offset := 1, embedded := false, tag := "", pkgPath := "", byteOffset := 16 }, { name := "Kind", type := 3, offset := 2, embedded := false, tag := "", pkgPath := "", byteOffset := 24 }]) := ⟨Tryz.underlying242⟩
theorem info242 : (Tryz.prog.info? 242).map (fun i => (i.zero, i.size, i.bytes)) = some (some (.agg ⟨[.string ⟨#[]⟩, .int .i64 0, .int .i64 0]⟩), 3, 32) := by kernel_rfl
instance tyi242 : TyI Tryz.prog 242 (.agg ⟨[.string ⟨#[]⟩, .int .i64 0, .int .i64 0]⟩) 3 32 := ⟨info_parts info242⟩
instance : TyA Tryz.prog 242 3 := ⟨⟨_, Tryz.underlying242, rfl⟩, by obtain ⟨i, h1, _, h2, _⟩ := info_parts info242; exact ⟨i, h1, h2⟩⟩
instance ty243 : Ty Tryz.prog 243 (.struct #[{ name := "Name", type := 9, offset := 0, embedded := false, tag := "", pkgPath := "", byteOffset := 0 }, { name := "Node", type := 3, offset := 1, embedded := false, tag := "", pkgPath := "", byteOffset := 16 }, { name := "Kind", type := 3, offset := 2, embedded := false, tag := "", pkgPath := "", byteOffset := 24 }]) := ⟨Tryz.underlying243⟩
theorem info243 : (Tryz.prog.info? 243).map (fun i => (i.zero, i.size, i.bytes)) = some (some (.agg ⟨[.string ⟨#[]⟩, .int .i64 0, .int .i64 0]⟩), 3, 32) := by kernel_rfl
instance tyi243 : TyI Tryz.prog 243 (.agg ⟨[.string ⟨#[]⟩, .int .i64 0, .int .i64 0]⟩) 3 32 := ⟨info_parts info243⟩
instance : TyA Tryz.prog 243 3 := ⟨⟨_, Tryz.underlying243, rfl⟩, by obtain ⟨i, h1, _, h2, _⟩ := info_parts info243; exact ⟨i, h1, h2⟩⟩
instance ty252 : Ty Tryz.prog 252 (.struct #[{ name := "entry", type := 3, offset := 0, embedded := false, tag := "", pkgPath := "marionette/elf", byteOffset := 0 }, { name := "err", type := 178, offset := 1, embedded := false, tag := "", pkgPath := "marionette/elf", byteOffset := 8 }]) := ⟨Tryz.underlying252⟩
theorem info252 : (Tryz.prog.info? 252).map (fun i => (i.zero, i.size, i.bytes)) = some (some (.agg ⟨[.int .i64 0, .nilIface]⟩), 2, 24) := by kernel_rfl
instance tyi252 : TyI Tryz.prog 252 (.agg ⟨[.int .i64 0, .nilIface]⟩) 2 24 := ⟨info_parts info252⟩
instance : TyA Tryz.prog 252 2 := ⟨⟨_, Tryz.underlying252, rfl⟩, by obtain ⟨i, h1, _, h2, _⟩ := info_parts info252; exact ⟨i, h1, h2⟩⟩
instance ty253 : Ty Tryz.prog 253 (.struct #[{ name := "entry", type := 3, offset := 0, embedded := false, tag := "", pkgPath := "marionette/elf", byteOffset := 0 }, { name := "err", type := 178, offset := 1, embedded := false, tag := "", pkgPath := "marionette/elf", byteOffset := 8 }]) := ⟨Tryz.underlying253⟩
theorem info253 : (Tryz.prog.info? 253).map (fun i => (i.zero, i.size, i.bytes)) = some (some (.agg ⟨[.int .i64 0, .nilIface]⟩), 2, 24) := by kernel_rfl
instance tyi253 : TyI Tryz.prog 253 (.agg ⟨[.int .i64 0, .nilIface]⟩) 2 24 := ⟨info_parts info253⟩
instance : TyA Tryz.prog 253 2 := ⟨⟨_, Tryz.underlying253, rfl⟩, by obtain ⟨i, h1, _, h2, _⟩ := info_parts info253; exact ⟨i, h1, h2⟩⟩
instance ty255 : Ty Tryz.prog 255 (.int .u64) := ⟨Tryz.underlying255⟩
theorem info255 : (Tryz.prog.info? 255).map (fun i => (i.zero, i.size, i.bytes)) = some (some (.int .u64 0), 1, 8) := by kernel_rfl
instance tyi255 : TyI Tryz.prog 255 (.int .u64 0) 1 8 := ⟨info_parts info255⟩
instance : TyS Tryz.prog 255 := ⟨_, Tryz.underlying255, rfl⟩
instance ty256 : Ty Tryz.prog 256 (.struct #[{ name := "typ_", type := 17, offset := 0, embedded := false, tag := "", pkgPath := "internal/reflectlite", byteOffset := 0 }, { name := "ptr", type := 254, offset := 1, embedded := false, tag := "", pkgPath := "internal/reflectlite", byteOffset := 8 }, { name := "flag", type := 255, offset := 2, embedded := true, tag := "", pkgPath := "internal/reflectlite", byteOffset := 16 }]) := ⟨Tryz.underlying256⟩
theorem info256 : (Tryz.prog.info? 256).map (fun i => (i.zero, i.size, i.bytes)) = some (some (.agg ⟨[.pointer none, .pointer none, .int .u64 0]⟩), 3, 24) := by kernel_rfl
instance tyi256 : TyI Tryz.prog 256 (.agg ⟨[.pointer none, .pointer none, .int .u64 0]⟩) 3 24 := ⟨info_parts info256⟩
instance : TyA Tryz.prog 256 3 := ⟨⟨_, Tryz.underlying256, rfl⟩, by obtain ⟨i, h1, _, h2, _⟩ := info_parts info256; exact ⟨i, h1, h2⟩⟩
instance ty257 : Ty Tryz.prog 257 (.struct #[{ name := "typ_", type := 17, offset := 0, embedded := false, tag := "", pkgPath := "internal/reflectlite", byteOffset := 0 }, { name := "ptr", type := 254, offset := 1, embedded := false, tag := "", pkgPath := "internal/reflectlite", byteOffset := 8 }, { name := "flag", type := 255, offset := 2, embedded := true, tag := "", pkgPath := "internal/reflectlite", byteOffset := 16 }]) := ⟨Tryz.underlying257⟩
theorem info257 : (Tryz.prog.info? 257).map (fun i => (i.zero, i.size, i.bytes)) = some (some (.agg ⟨[.pointer none, .pointer none, .int .u64 0]⟩), 3, 24) := by kernel_rfl
instance tyi257 : TyI Tryz.prog 257 (.agg ⟨[.pointer none, .pointer none, .int .u64 0]⟩) 3 24 := ⟨info_parts info257⟩
instance : TyA Tryz.prog 257 3 := ⟨⟨_, Tryz.underlying257, rfl⟩, by obtain ⟨i, h1, _, h2, _⟩ := info_parts info257; exact ⟨i, h1, h2⟩⟩
instance ty262 : Ty Tryz.prog 262 (.int .u8) := ⟨Tryz.underlying262⟩
theorem info262 : (Tryz.prog.info? 262).map (fun i => (i.zero, i.size, i.bytes)) = some (some (.int .u8 0), 1, 1) := by kernel_rfl
instance tyi262 : TyI Tryz.prog 262 (.int .u8 0) 1 1 := ⟨info_parts info262⟩
instance : TyS Tryz.prog 262 := ⟨_, Tryz.underlying262, rfl⟩
instance ty268 : Ty Tryz.prog 268 (.slice 23) := ⟨Tryz.underlying268⟩
theorem info268 : (Tryz.prog.info? 268).map (fun i => (i.zero, i.size, i.bytes)) = some (some (.slice none 0 0), 1, 24) := by kernel_rfl
instance tyi268 : TyI Tryz.prog 268 (.slice none 0 0) 1 24 := ⟨info_parts info268⟩
instance : TyS Tryz.prog 268 := ⟨_, Tryz.underlying268, rfl⟩
instance ty269 : Ty Tryz.prog 269 (.slice 208) := ⟨Tryz.underlying269⟩
theorem info269 : (Tryz.prog.info? 269).map (fun i => (i.zero, i.size, i.bytes)) = some (some (.slice none 0 0), 1, 24) := by kernel_rfl
instance tyi269 : TyI Tryz.prog 269 (.slice none 0 0) 1 24 := ⟨info_parts info269⟩
instance : TyS Tryz.prog 269 := ⟨_, Tryz.underlying269, rfl⟩
instance ty270 : Ty Tryz.prog 270 (.struct #[{ name := "all", type := 269, offset := 0, embedded := false, tag := "", pkgPath := "marionette/region", byteOffset := 0 }]) := ⟨Tryz.underlying270⟩
theorem info270 : (Tryz.prog.info? 270).map (fun i => (i.zero, i.size, i.bytes)) = some (some (.agg ⟨[.slice none 0 0]⟩), 1, 24) := by kernel_rfl
instance tyi270 : TyI Tryz.prog 270 (.agg ⟨[.slice none 0 0]⟩) 1 24 := ⟨info_parts info270⟩
instance : TyA Tryz.prog 270 1 := ⟨⟨_, Tryz.underlying270, rfl⟩, by obtain ⟨i, h1, _, h2, _⟩ := info_parts info270; exact ⟨i, h1, h2⟩⟩
instance ty271 : Ty Tryz.prog 271 (.struct #[{ name := "all", type := 269, offset := 0, embedded := false, tag := "", pkgPath := "marionette/region", byteOffset := 0 }]) := ⟨Tryz.underlying271⟩
theorem info271 : (Tryz.prog.info? 271).map (fun i => (i.zero, i.size, i.bytes)) = some (some (.agg ⟨[.slice none 0 0]⟩), 1, 24) := by kernel_rfl
instance tyi271 : TyI Tryz.prog 271 (.agg ⟨[.slice none 0 0]⟩) 1 24 := ⟨info_parts info271⟩
instance : TyA Tryz.prog 271 1 := ⟨⟨_, Tryz.underlying271, rfl⟩, by obtain ⟨i, h1, _, h2, _⟩ := info_parts info271; exact ⟨i, h1, h2⟩⟩
instance ty272 : Ty Tryz.prog 272 (.map 31 282) := ⟨Tryz.underlying272⟩
theorem info272 : (Tryz.prog.info? 272).map (fun i => (i.zero, i.size, i.bytes)) = some (some (.map none), 1, 8) := by kernel_rfl
instance tyi272 : TyI Tryz.prog 272 (.map none) 1 8 := ⟨info_parts info272⟩
instance : TyS Tryz.prog 272 := ⟨_, Tryz.underlying272, rfl⟩
instance ty273 : Ty Tryz.prog 273 (.map 31 31) := ⟨Tryz.underlying273⟩
theorem info273 : (Tryz.prog.info? 273).map (fun i => (i.zero, i.size, i.bytes)) = some (some (.map none), 1, 8) := by kernel_rfl
instance tyi273 : TyI Tryz.prog 273 (.map none) 1 8 := ⟨info_parts info273⟩
instance : TyS Tryz.prog 273 := ⟨_, Tryz.underlying273, rfl⟩
instance ty274 : Ty Tryz.prog 274 (.struct #[{ name := "leaves", type := 272, offset := 0, embedded := false, tag := "", pkgPath := "marionette/page", byteOffset := 0 }, { name := "stamps", type := 273, offset := 1, embedded := false, tag := "", pkgPath := "marionette/page", byteOffset := 8 }, { name := "clock", type := 31, offset := 2, embedded := false, tag := "", pkgPath := "marionette/page", byteOffset := 16 }, { name := "all", type := 31, offset := 3, embedded := false, tag := "", pkgPath := "marionette/page", byteOffset := 24 }]) := ⟨Tryz.underlying274⟩
theorem info274 : (Tryz.prog.info? 274).map (fun i => (i.zero, i.size, i.bytes)) = some (some (.agg ⟨[.map none, .map none, .int .u64 0, .int .u64 0]⟩), 4, 32) := by kernel_rfl
instance tyi274 : TyI Tryz.prog 274 (.agg ⟨[.map none, .map none, .int .u64 0, .int .u64 0]⟩) 4 32 := ⟨info_parts info274⟩
instance : TyA Tryz.prog 274 4 := ⟨⟨_, Tryz.underlying274, rfl⟩, by obtain ⟨i, h1, _, h2, _⟩ := info_parts info274; exact ⟨i, h1, h2⟩⟩
instance ty275 : Ty Tryz.prog 275 (.struct #[{ name := "leaves", type := 272, offset := 0, embedded := false, tag := "", pkgPath := "marionette/page", byteOffset := 0 }, { name := "stamps", type := 273, offset := 1, embedded := false, tag := "", pkgPath := "marionette/page", byteOffset := 8 }, { name := "clock", type := 31, offset := 2, embedded := false, tag := "", pkgPath := "marionette/page", byteOffset := 16 }, { name := "all", type := 31, offset := 3, embedded := false, tag := "", pkgPath := "marionette/page", byteOffset := 24 }]) := ⟨Tryz.underlying275⟩
theorem info275 : (Tryz.prog.info? 275).map (fun i => (i.zero, i.size, i.bytes)) = some (some (.agg ⟨[.map none, .map none, .int .u64 0, .int .u64 0]⟩), 4, 32) := by kernel_rfl
instance tyi275 : TyI Tryz.prog 275 (.agg ⟨[.map none, .map none, .int .u64 0, .int .u64 0]⟩) 4 32 := ⟨info_parts info275⟩
instance : TyA Tryz.prog 275 4 := ⟨⟨_, Tryz.underlying275, rfl⟩, by obtain ⟨i, h1, _, h2, _⟩ := info_parts info275; exact ⟨i, h1, h2⟩⟩
instance ty282 : Ty Tryz.prog 282 (.pointer 285) := ⟨Tryz.underlying282⟩
theorem info282 : (Tryz.prog.info? 282).map (fun i => (i.zero, i.size, i.bytes)) = some (some (.pointer none), 1, 8) := by kernel_rfl
instance tyi282 : TyI Tryz.prog 282 (.pointer none) 1 8 := ⟨info_parts info282⟩
instance : TyS Tryz.prog 282 := ⟨_, Tryz.underlying282, rfl⟩
instance ty284 : Ty Tryz.prog 284 (.array 4096 5) := ⟨Tryz.underlying284⟩
theorem info284 : (Tryz.prog.info? 284).map (fun i => (i.zero, i.size, i.bytes)) = some (some (.agg ⟨List.replicate 4096 (.int .u8 0)⟩), 4096, 4096) := by kernel_rfl
instance tyi284 : TyI Tryz.prog 284 (.agg ⟨List.replicate 4096 (.int .u8 0)⟩) 4096 4096 := ⟨info_parts info284⟩
instance : TyA Tryz.prog 284 4096 := ⟨⟨_, Tryz.underlying284, rfl⟩, by obtain ⟨i, h1, _, h2, _⟩ := info_parts info284; exact ⟨i, h1, h2⟩⟩
instance ty285 : Ty Tryz.prog 285 (.array 4096 5) := ⟨Tryz.underlying285⟩
theorem info285 : (Tryz.prog.info? 285).map (fun i => (i.zero, i.size, i.bytes)) = some (some (.agg ⟨List.replicate 4096 (.int .u8 0)⟩), 4096, 4096) := by kernel_rfl
instance tyi285 : TyI Tryz.prog 285 (.agg ⟨List.replicate 4096 (.int .u8 0)⟩) 4096 4096 := ⟨info_parts info285⟩
instance : TyA Tryz.prog 285 4096 := ⟨⟨_, Tryz.underlying285, rfl⟩, by obtain ⟨i, h1, _, h2, _⟩ := info_parts info285; exact ⟨i, h1, h2⟩⟩
instance ty287 : Ty Tryz.prog 287 (.struct #[{ name := "Node", type := 3, offset := 0, embedded := false, tag := "", pkgPath := "", byteOffset := 0 }, { name := "Kind", type := 3, offset := 1, embedded := false, tag := "", pkgPath := "", byteOffset := 8 }, { name := "Mode", type := 3, offset := 2, embedded := false, tag := "", pkgPath := "", byteOffset := 16 }, { name := "Links", type := 3, offset := 3, embedded := false, tag := "", pkgPath := "", byteOffset := 24 }, { name := "Size", type := 3, offset := 4, embedded := false, tag := "", pkgPath := "", byteOffset := 32 }]) := ⟨Tryz.underlying287⟩
theorem info287 : (Tryz.prog.info? 287).map (fun i => (i.zero, i.size, i.bytes)) = some (some (.agg ⟨[.int .i64 0, .int .i64 0, .int .i64 0, .int .i64 0, .int .i64 0]⟩), 5, 40) := by kernel_rfl
instance tyi287 : TyI Tryz.prog 287 (.agg ⟨[.int .i64 0, .int .i64 0, .int .i64 0, .int .i64 0, .int .i64 0]⟩) 5 40 := ⟨info_parts info287⟩
instance : TyA Tryz.prog 287 5 := ⟨⟨_, Tryz.underlying287, rfl⟩, by obtain ⟨i, h1, _, h2, _⟩ := info_parts info287; exact ⟨i, h1, h2⟩⟩
instance ty288 : Ty Tryz.prog 288 (.struct #[{ name := "Node", type := 3, offset := 0, embedded := false, tag := "", pkgPath := "", byteOffset := 0 }, { name := "Kind", type := 3, offset := 1, embedded := false, tag := "", pkgPath := "", byteOffset := 8 }, { name := "Mode", type := 3, offset := 2, embedded := false, tag := "", pkgPath := "", byteOffset := 16 }, { name := "Links", type := 3, offset := 3, embedded := false, tag := "", pkgPath := "", byteOffset := 24 }, { name := "Size", type := 3, offset := 4, embedded := false, tag := "", pkgPath := "", byteOffset := 32 }]) := ⟨Tryz.underlying288⟩
theorem info288 : (Tryz.prog.info? 288).map (fun i => (i.zero, i.size, i.bytes)) = some (some (.agg ⟨[.int .i64 0, .int .i64 0, .int .i64 0, .int .i64 0, .int .i64 0]⟩), 5, 40) := by kernel_rfl
instance tyi288 : TyI Tryz.prog 288 (.agg ⟨[.int .i64 0, .int .i64 0, .int .i64 0, .int .i64 0, .int .i64 0]⟩) 5 40 := ⟨info_parts info288⟩
instance : TyA Tryz.prog 288 5 := ⟨⟨_, Tryz.underlying288, rfl⟩, by obtain ⟨i, h1, _, h2, _⟩ := info_parts info288; exact ⟨i, h1, h2⟩⟩
instance ty291 : Ty Tryz.prog 291 (.pointer 293) := ⟨Tryz.underlying291⟩
theorem info291 : (Tryz.prog.info? 291).map (fun i => (i.zero, i.size, i.bytes)) = some (some (.pointer none), 1, 8) := by kernel_rfl
instance tyi291 : TyI Tryz.prog 291 (.pointer none) 1 8 := ⟨info_parts info291⟩
instance : TyS Tryz.prog 291 := ⟨_, Tryz.underlying291, rfl⟩
instance ty292 : Ty Tryz.prog 292 (.struct #[{ name := "Tree", type := 76, offset := 0, embedded := true, tag := "", pkgPath := "", byteOffset := 0 }, { name := "dir", type := 3, offset := 1, embedded := false, tag := "", pkgPath := "marionette/walk", byteOffset := 8 }, { name := "links", type := 3, offset := 2, embedded := false, tag := "", pkgPath := "marionette/walk", byteOffset := 16 }]) := ⟨Tryz.underlying292⟩
theorem info292 : (Tryz.prog.info? 292).map (fun i => (i.zero, i.size, i.bytes)) = some (some (.agg ⟨[.pointer none, .int .i64 0, .int .i64 0]⟩), 3, 24) := by kernel_rfl
instance tyi292 : TyI Tryz.prog 292 (.agg ⟨[.pointer none, .int .i64 0, .int .i64 0]⟩) 3 24 := ⟨info_parts info292⟩
instance : TyA Tryz.prog 292 3 := ⟨⟨_, Tryz.underlying292, rfl⟩, by obtain ⟨i, h1, _, h2, _⟩ := info_parts info292; exact ⟨i, h1, h2⟩⟩
instance ty293 : Ty Tryz.prog 293 (.struct #[{ name := "Tree", type := 76, offset := 0, embedded := true, tag := "", pkgPath := "", byteOffset := 0 }, { name := "dir", type := 3, offset := 1, embedded := false, tag := "", pkgPath := "marionette/walk", byteOffset := 8 }, { name := "links", type := 3, offset := 2, embedded := false, tag := "", pkgPath := "marionette/walk", byteOffset := 16 }]) := ⟨Tryz.underlying293⟩
theorem info293 : (Tryz.prog.info? 293).map (fun i => (i.zero, i.size, i.bytes)) = some (some (.agg ⟨[.pointer none, .int .i64 0, .int .i64 0]⟩), 3, 24) := by kernel_rfl
instance tyi293 : TyI Tryz.prog 293 (.agg ⟨[.pointer none, .int .i64 0, .int .i64 0]⟩) 3 24 := ⟨info_parts info293⟩
instance : TyA Tryz.prog 293 3 := ⟨⟨_, Tryz.underlying293, rfl⟩, by obtain ⟨i, h1, _, h2, _⟩ := info_parts info293; exact ⟨i, h1, h2⟩⟩
instance ty309 : Ty Tryz.prog 309 (.struct #[{ name := "at", type := 3, offset := 0, embedded := false, tag := "", pkgPath := "marionette/elf", byteOffset := 0 }, { name := "n", type := 3, offset := 1, embedded := false, tag := "", pkgPath := "marionette/elf", byteOffset := 8 }, { name := "want", type := 31, offset := 2, embedded := false, tag := "", pkgPath := "marionette/elf", byteOffset := 16 }]) := ⟨Tryz.underlying309⟩
theorem info309 : (Tryz.prog.info? 309).map (fun i => (i.zero, i.size, i.bytes)) = some (some (.agg ⟨[.int .i64 0, .int .i64 0, .int .u64 0]⟩), 3, 24) := by kernel_rfl
instance tyi309 : TyI Tryz.prog 309 (.agg ⟨[.int .i64 0, .int .i64 0, .int .u64 0]⟩) 3 24 := ⟨info_parts info309⟩
instance : TyA Tryz.prog 309 3 := ⟨⟨_, Tryz.underlying309, rfl⟩, by obtain ⟨i, h1, _, h2, _⟩ := info_parts info309; exact ⟨i, h1, h2⟩⟩
instance ty310 : Ty Tryz.prog 310 (.array 5 309) := ⟨Tryz.underlying310⟩
theorem info310 : (Tryz.prog.info? 310).map (fun i => (i.zero, i.size, i.bytes)) = some (some (.agg ⟨[.int .i64 0, .int .i64 0, .int .u64 0, .int .i64 0, .int .i64 0, .int .u64 0, .int .i64 0, .int .i64 0, .int .u64 0, .int .i64 0, .int .i64 0, .int .u64 0, .int .i64 0, .int .i64 0, .int .u64 0]⟩), 15, 120) := by kernel_rfl
instance tyi310 : TyI Tryz.prog 310 (.agg ⟨[.int .i64 0, .int .i64 0, .int .u64 0, .int .i64 0, .int .i64 0, .int .u64 0, .int .i64 0, .int .i64 0, .int .u64 0, .int .i64 0, .int .i64 0, .int .u64 0, .int .i64 0, .int .i64 0, .int .u64 0]⟩) 15 120 := ⟨info_parts info310⟩
instance : TyA Tryz.prog 310 15 := ⟨⟨_, Tryz.underlying310, rfl⟩, by obtain ⟨i, h1, _, h2, _⟩ := info_parts info310; exact ⟨i, h1, h2⟩⟩
instance ty315 : Ty Tryz.prog 315 (.struct #[{ name := "Type", type := 17, offset := 0, embedded := true, tag := "", pkgPath := "", byteOffset := 0 }]) := ⟨Tryz.underlying315⟩
theorem info315 : (Tryz.prog.info? 315).map (fun i => (i.zero, i.size, i.bytes)) = some (some (.agg ⟨[.pointer none]⟩), 1, 8) := by kernel_rfl
instance tyi315 : TyI Tryz.prog 315 (.agg ⟨[.pointer none]⟩) 1 8 := ⟨info_parts info315⟩
instance : TyA Tryz.prog 315 1 := ⟨⟨_, Tryz.underlying315, rfl⟩, by obtain ⟨i, h1, _, h2, _⟩ := info_parts info315; exact ⟨i, h1, h2⟩⟩
instance ty316 : Ty Tryz.prog 316 (.struct #[{ name := "Type", type := 17, offset := 0, embedded := true, tag := "", pkgPath := "", byteOffset := 0 }]) := ⟨Tryz.underlying316⟩
theorem info316 : (Tryz.prog.info? 316).map (fun i => (i.zero, i.size, i.bytes)) = some (some (.agg ⟨[.pointer none]⟩), 1, 8) := by kernel_rfl
instance tyi316 : TyI Tryz.prog 316 (.agg ⟨[.pointer none]⟩) 1 8 := ⟨info_parts info316⟩
instance : TyA Tryz.prog 316 1 := ⟨⟨_, Tryz.underlying316, rfl⟩, by obtain ⟨i, h1, _, h2, _⟩ := info_parts info316; exact ⟨i, h1, h2⟩⟩
instance ty317 : Ty Tryz.prog 317 (.pointer 385) := ⟨Tryz.underlying317⟩
theorem info317 : (Tryz.prog.info? 317).map (fun i => (i.zero, i.size, i.bytes)) = some (some (.pointer none), 1, 8) := by kernel_rfl
instance tyi317 : TyI Tryz.prog 317 (.pointer none) 1 8 := ⟨info_parts info317⟩
instance : TyS Tryz.prog 317 := ⟨_, Tryz.underlying317, rfl⟩
instance ty325 : Ty Tryz.prog 325 (.slice 178) := ⟨Tryz.underlying325⟩
theorem info325 : (Tryz.prog.info? 325).map (fun i => (i.zero, i.size, i.bytes)) = some (some (.slice none 0 0), 1, 24) := by kernel_rfl
instance tyi325 : TyI Tryz.prog 325 (.slice none 0 0) 1 24 := ⟨info_parts info325⟩
instance : TyS Tryz.prog 325 := ⟨_, Tryz.underlying325, rfl⟩
instance ty349 : Ty Tryz.prog 349 (.array 256 5) := ⟨Tryz.underlying349⟩
theorem info349 : (Tryz.prog.info? 349).map (fun i => (i.zero, i.size, i.bytes)) = some (some (.agg ⟨List.replicate 256 (.int .u8 0)⟩), 256, 256) := by kernel_rfl
instance tyi349 : TyI Tryz.prog 349 (.agg ⟨List.replicate 256 (.int .u8 0)⟩) 256 256 := ⟨info_parts info349⟩
instance : TyA Tryz.prog 349 256 := ⟨⟨_, Tryz.underlying349, rfl⟩, by obtain ⟨i, h1, _, h2, _⟩ := info_parts info349; exact ⟨i, h1, h2⟩⟩
instance ty350 : Ty Tryz.prog 350 (.struct #[{ name := "lo", type := 5, offset := 0, embedded := false, tag := "", pkgPath := "unicode/utf8", byteOffset := 0 }, { name := "hi", type := 5, offset := 1, embedded := false, tag := "", pkgPath := "unicode/utf8", byteOffset := 1 }]) := ⟨Tryz.underlying350⟩
theorem info350 : (Tryz.prog.info? 350).map (fun i => (i.zero, i.size, i.bytes)) = some (some (.agg ⟨[.int .u8 0, .int .u8 0]⟩), 2, 2) := by kernel_rfl
instance tyi350 : TyI Tryz.prog 350 (.agg ⟨[.int .u8 0, .int .u8 0]⟩) 2 2 := ⟨info_parts info350⟩
instance : TyA Tryz.prog 350 2 := ⟨⟨_, Tryz.underlying350, rfl⟩, by obtain ⟨i, h1, _, h2, _⟩ := info_parts info350; exact ⟨i, h1, h2⟩⟩
instance ty351 : Ty Tryz.prog 351 (.struct #[{ name := "lo", type := 5, offset := 0, embedded := false, tag := "", pkgPath := "unicode/utf8", byteOffset := 0 }, { name := "hi", type := 5, offset := 1, embedded := false, tag := "", pkgPath := "unicode/utf8", byteOffset := 1 }]) := ⟨Tryz.underlying351⟩
theorem info351 : (Tryz.prog.info? 351).map (fun i => (i.zero, i.size, i.bytes)) = some (some (.agg ⟨[.int .u8 0, .int .u8 0]⟩), 2, 2) := by kernel_rfl
instance tyi351 : TyI Tryz.prog 351 (.agg ⟨[.int .u8 0, .int .u8 0]⟩) 2 2 := ⟨info_parts info351⟩
instance : TyA Tryz.prog 351 2 := ⟨⟨_, Tryz.underlying351, rfl⟩, by obtain ⟨i, h1, _, h2, _⟩ := info_parts info351; exact ⟨i, h1, h2⟩⟩
instance ty352 : Ty Tryz.prog 352 (.array 16 351) := ⟨Tryz.underlying352⟩
theorem info352 : (Tryz.prog.info? 352).map (fun i => (i.zero, i.size, i.bytes)) = some (some (.agg ⟨[.int .u8 0, .int .u8 0, .int .u8 0, .int .u8 0, .int .u8 0, .int .u8 0, .int .u8 0, .int .u8 0, .int .u8 0, .int .u8 0, .int .u8 0, .int .u8 0, .int .u8 0, .int .u8 0, .int .u8 0, .int .u8 0, .int .u8 0, .int .u8 0, .int .u8 0, .int .u8 0, .int .u8 0, .int .u8 0, .int .u8 0, .int .u8 0, .int .u8 0, .int .u8 0, .int .u8 0, .int .u8 0, .int .u8 0, .int .u8 0, .int .u8 0, .int .u8 0]⟩), 32, 32) := by kernel_rfl
instance tyi352 : TyI Tryz.prog 352 (.agg ⟨[.int .u8 0, .int .u8 0, .int .u8 0, .int .u8 0, .int .u8 0, .int .u8 0, .int .u8 0, .int .u8 0, .int .u8 0, .int .u8 0, .int .u8 0, .int .u8 0, .int .u8 0, .int .u8 0, .int .u8 0, .int .u8 0, .int .u8 0, .int .u8 0, .int .u8 0, .int .u8 0, .int .u8 0, .int .u8 0, .int .u8 0, .int .u8 0, .int .u8 0, .int .u8 0, .int .u8 0, .int .u8 0, .int .u8 0, .int .u8 0, .int .u8 0, .int .u8 0]⟩) 32 32 := ⟨info_parts info352⟩
instance : TyA Tryz.prog 352 32 := ⟨⟨_, Tryz.underlying352, rfl⟩, by obtain ⟨i, h1, _, h2, _⟩ := info_parts info352; exact ⟨i, h1, h2⟩⟩
instance ty353 : Ty Tryz.prog 353 (.int .u32) := ⟨Tryz.underlying353⟩
theorem info353 : (Tryz.prog.info? 353).map (fun i => (i.zero, i.size, i.bytes)) = some (some (.int .u32 0), 1, 4) := by kernel_rfl
instance tyi353 : TyI Tryz.prog 353 (.int .u32 0) 1 4 := ⟨info_parts info353⟩
instance : TyS Tryz.prog 353 := ⟨_, Tryz.underlying353, rfl⟩
instance ty357 : Ty Tryz.prog 357 (.pointer 387) := ⟨Tryz.underlying357⟩
theorem info357 : (Tryz.prog.info? 357).map (fun i => (i.zero, i.size, i.bytes)) = some (some (.pointer none), 1, 8) := by kernel_rfl
instance tyi357 : TyI Tryz.prog 357 (.pointer none) 1 8 := ⟨info_parts info357⟩
instance : TyS Tryz.prog 357 := ⟨_, Tryz.underlying357, rfl⟩
instance ty359 : Ty Tryz.prog 359 (.struct #[{ name := "_interface", type := 17, offset := 0, embedded := false, tag := "", pkgPath := "runtime", byteOffset := 0 }, { name := "concrete", type := 17, offset := 1, embedded := false, tag := "", pkgPath := "runtime", byteOffset := 8 }, { name := "asserted", type := 17, offset := 2, embedded := false, tag := "", pkgPath := "runtime", byteOffset := 16 }, { name := "missingMethod", type := 9, offset := 3, embedded := false, tag := "", pkgPath := "runtime", byteOffset := 24 }]) := ⟨Tryz.underlying359⟩
theorem info359 : (Tryz.prog.info? 359).map (fun i => (i.zero, i.size, i.bytes)) = some (some (.agg ⟨[.pointer none, .pointer none, .pointer none, .string ⟨#[]⟩]⟩), 4, 40) := by kernel_rfl
instance tyi359 : TyI Tryz.prog 359 (.agg ⟨[.pointer none, .pointer none, .pointer none, .string ⟨#[]⟩]⟩) 4 40 := ⟨info_parts info359⟩
instance : TyA Tryz.prog 359 4 := ⟨⟨_, Tryz.underlying359, rfl⟩, by obtain ⟨i, h1, _, h2, _⟩ := info_parts info359; exact ⟨i, h1, h2⟩⟩
instance ty360 : Ty Tryz.prog 360 (.struct #[{ name := "_interface", type := 17, offset := 0, embedded := false, tag := "", pkgPath := "runtime", byteOffset := 0 }, { name := "concrete", type := 17, offset := 1, embedded := false, tag := "", pkgPath := "runtime", byteOffset := 8 }, { name := "asserted", type := 17, offset := 2, embedded := false, tag := "", pkgPath := "runtime", byteOffset := 16 }, { name := "missingMethod", type := 9, offset := 3, embedded := false, tag := "", pkgPath := "runtime", byteOffset := 24 }]) := ⟨Tryz.underlying360⟩
theorem info360 : (Tryz.prog.info? 360).map (fun i => (i.zero, i.size, i.bytes)) = some (some (.agg ⟨[.pointer none, .pointer none, .pointer none, .string ⟨#[]⟩]⟩), 4, 40) := by kernel_rfl
instance tyi360 : TyI Tryz.prog 360 (.agg ⟨[.pointer none, .pointer none, .pointer none, .string ⟨#[]⟩]⟩) 4 40 := ⟨info_parts info360⟩
instance : TyA Tryz.prog 360 4 := ⟨⟨_, Tryz.underlying360, rfl⟩, by obtain ⟨i, h1, _, h2, _⟩ := info_parts info360; exact ⟨i, h1, h2⟩⟩
instance ty361 : Ty Tryz.prog 361 (.array 0 16) := ⟨Tryz.underlying361⟩
theorem info361 : (Tryz.prog.info? 361).map (fun i => (i.zero, i.size, i.bytes)) = some (some (.agg ⟨[]⟩), 0, 0) := by kernel_rfl
instance tyi361 : TyI Tryz.prog 361 (.agg ⟨[]⟩) 0 0 := ⟨info_parts info361⟩
instance : TyA Tryz.prog 361 0 := ⟨⟨_, Tryz.underlying361, rfl⟩, by obtain ⟨i, h1, _, h2, _⟩ := info_parts info361; exact ⟨i, h1, h2⟩⟩
instance ty362 : Ty Tryz.prog 362 (.struct #[{ name := "_", type := 361, offset := 0, embedded := false, tag := "", pkgPath := "runtime", byteOffset := 0 }]) := ⟨Tryz.underlying362⟩
theorem info362 : (Tryz.prog.info? 362).map (fun i => (i.zero, i.size, i.bytes)) = some (some (.agg ⟨[]⟩), 0, 0) := by kernel_rfl
instance tyi362 : TyI Tryz.prog 362 (.agg ⟨[]⟩) 0 0 := ⟨info_parts info362⟩
instance : TyA Tryz.prog 362 0 := ⟨⟨_, Tryz.underlying362, rfl⟩, by obtain ⟨i, h1, _, h2, _⟩ := info_parts info362; exact ⟨i, h1, h2⟩⟩
instance ty363 : Ty Tryz.prog 363 (.struct #[{ name := "_", type := 361, offset := 0, embedded := false, tag := "", pkgPath := "runtime", byteOffset := 0 }]) := ⟨Tryz.underlying363⟩
theorem info363 : (Tryz.prog.info? 363).map (fun i => (i.zero, i.size, i.bytes)) = some (some (.agg ⟨[]⟩), 0, 0) := by kernel_rfl
instance tyi363 : TyI Tryz.prog 363 (.agg ⟨[]⟩) 0 0 := ⟨info_parts info363⟩
instance : TyA Tryz.prog 363 0 := ⟨⟨_, Tryz.underlying363, rfl⟩, by obtain ⟨i, h1, _, h2, _⟩ := info_parts info363; exact ⟨i, h1, h2⟩⟩
instance ty365 : Ty Tryz.prog 365 (.int .u8) := ⟨Tryz.underlying365⟩
theorem info365 : (Tryz.prog.info? 365).map (fun i => (i.zero, i.size, i.bytes)) = some (some (.int .u8 0), 1, 1) := by kernel_rfl
instance tyi365 : TyI Tryz.prog 365 (.int .u8 0) 1 1 := ⟨info_parts info365⟩
instance : TyS Tryz.prog 365 := ⟨_, Tryz.underlying365, rfl⟩
instance ty367 : Ty Tryz.prog 367 (.pointer 5) := ⟨Tryz.underlying367⟩
theorem info367 : (Tryz.prog.info? 367).map (fun i => (i.zero, i.size, i.bytes)) = some (some (.pointer none), 1, 8) := by kernel_rfl
instance tyi367 : TyI Tryz.prog 367 (.pointer none) 1 8 := ⟨info_parts info367⟩
instance : TyS Tryz.prog 367 := ⟨_, Tryz.underlying367, rfl⟩
instance ty368 : Ty Tryz.prog 368 (.int .i32) := ⟨Tryz.underlying368⟩
theorem info368 : (Tryz.prog.info? 368).map (fun i => (i.zero, i.size, i.bytes)) = some (some (.int .i32 0), 1, 4) := by kernel_rfl
instance tyi368 : TyI Tryz.prog 368 (.int .i32 0) 1 4 := ⟨info_parts info368⟩
instance : TyS Tryz.prog 368 := ⟨_, Tryz.underlying368, rfl⟩
instance ty369 : Ty Tryz.prog 369 (.int .i32) := ⟨Tryz.underlying369⟩
theorem info369 : (Tryz.prog.info? 369).map (fun i => (i.zero, i.size, i.bytes)) = some (some (.int .i32 0), 1, 4) := by kernel_rfl
instance tyi369 : TyI Tryz.prog 369 (.int .i32 0) 1 4 := ⟨info_parts info369⟩
instance : TyS Tryz.prog 369 := ⟨_, Tryz.underlying369, rfl⟩
instance ty370 : Ty Tryz.prog 370 (.struct #[{ name := "Size_", type := 12, offset := 0, embedded := false, tag := "", pkgPath := "", byteOffset := 0 }, { name := "PtrBytes", type := 12, offset := 1, embedded := false, tag := "", pkgPath := "", byteOffset := 8 }, { name := "Hash", type := 353, offset := 2, embedded := false, tag := "", pkgPath := "", byteOffset := 16 }, { name := "TFlag", type := 365, offset := 3, embedded := false, tag := "", pkgPath := "", byteOffset := 20 }, { name := "Align_", type := 5, offset := 4, embedded := false, tag := "", pkgPath := "", byteOffset := 21 }, { name := "FieldAlign_", type := 5, offset := 5, embedded := false, tag := "", pkgPath := "", byteOffset := 22 }, { name := "Kind_", type := 262, offset := 6, embedded := false, tag := "", pkgPath := "", byteOffset := 23 }, { name := "Equal", type := 366, offset := 7, embedded := false, tag := "", pkgPath := "", byteOffset := 24 }, { name := "GCData", type := 367, offset := 8, embedded := false, tag := "", pkgPath := "", byteOffset := 32 }, { name := "Str", type := 368, offset := 9, embedded := false, tag := "", pkgPath := "", byteOffset := 40 }, { name := "PtrToThis", type := 369, offset := 10, embedded := false, tag := "", pkgPath := "", byteOffset := 44 }]) := ⟨Tryz.underlying370⟩
theorem info370 : (Tryz.prog.info? 370).map (fun i => (i.zero, i.size, i.bytes)) = some (some (.agg ⟨[.int .u64 0, .int .u64 0, .int .u32 0, .int .u8 0, .int .u8 0, .int .u8 0, .int .u8 0, .nilFunc, .pointer none, .int .i32 0, .int .i32 0]⟩), 11, 48) := by kernel_rfl
instance tyi370 : TyI Tryz.prog 370 (.agg ⟨[.int .u64 0, .int .u64 0, .int .u32 0, .int .u8 0, .int .u8 0, .int .u8 0, .int .u8 0, .nilFunc, .pointer none, .int .i32 0, .int .i32 0]⟩) 11 48 := ⟨info_parts info370⟩
instance : TyA Tryz.prog 370 11 := ⟨⟨_, Tryz.underlying370, rfl⟩, by obtain ⟨i, h1, _, h2, _⟩ := info_parts info370; exact ⟨i, h1, h2⟩⟩
instance ty371 : Ty Tryz.prog 371 (.struct #[{ name := "Size_", type := 12, offset := 0, embedded := false, tag := "", pkgPath := "", byteOffset := 0 }, { name := "PtrBytes", type := 12, offset := 1, embedded := false, tag := "", pkgPath := "", byteOffset := 8 }, { name := "Hash", type := 353, offset := 2, embedded := false, tag := "", pkgPath := "", byteOffset := 16 }, { name := "TFlag", type := 365, offset := 3, embedded := false, tag := "", pkgPath := "", byteOffset := 20 }, { name := "Align_", type := 5, offset := 4, embedded := false, tag := "", pkgPath := "", byteOffset := 21 }, { name := "FieldAlign_", type := 5, offset := 5, embedded := false, tag := "", pkgPath := "", byteOffset := 22 }, { name := "Kind_", type := 262, offset := 6, embedded := false, tag := "", pkgPath := "", byteOffset := 23 }, { name := "Equal", type := 366, offset := 7, embedded := false, tag := "", pkgPath := "", byteOffset := 24 }, { name := "GCData", type := 367, offset := 8, embedded := false, tag := "", pkgPath := "", byteOffset := 32 }, { name := "Str", type := 368, offset := 9, embedded := false, tag := "", pkgPath := "", byteOffset := 40 }, { name := "PtrToThis", type := 369, offset := 10, embedded := false, tag := "", pkgPath := "", byteOffset := 44 }]) := ⟨Tryz.underlying371⟩
theorem info371 : (Tryz.prog.info? 371).map (fun i => (i.zero, i.size, i.bytes)) = some (some (.agg ⟨[.int .u64 0, .int .u64 0, .int .u32 0, .int .u8 0, .int .u8 0, .int .u8 0, .int .u8 0, .nilFunc, .pointer none, .int .i32 0, .int .i32 0]⟩), 11, 48) := by kernel_rfl
instance tyi371 : TyI Tryz.prog 371 (.agg ⟨[.int .u64 0, .int .u64 0, .int .u32 0, .int .u8 0, .int .u8 0, .int .u8 0, .int .u8 0, .nilFunc, .pointer none, .int .i32 0, .int .i32 0]⟩) 11 48 := ⟨info_parts info371⟩
instance : TyA Tryz.prog 371 11 := ⟨⟨_, Tryz.underlying371, rfl⟩, by obtain ⟨i, h1, _, h2, _⟩ := info_parts info371; exact ⟨i, h1, h2⟩⟩
instance ty374 : Ty Tryz.prog 374 (.struct #[{ name := "Op", type := 3, offset := 0, embedded := false, tag := "", pkgPath := "", byteOffset := 0 }, { name := "Rd", type := 3, offset := 1, embedded := false, tag := "", pkgPath := "", byteOffset := 8 }, { name := "Rs1", type := 3, offset := 2, embedded := false, tag := "", pkgPath := "", byteOffset := 16 }, { name := "Rs2", type := 3, offset := 3, embedded := false, tag := "", pkgPath := "", byteOffset := 24 }, { name := "Imm", type := 3, offset := 4, embedded := false, tag := "", pkgPath := "", byteOffset := 32 }, { name := "Order", type := 3, offset := 5, embedded := false, tag := "", pkgPath := "", byteOffset := 40 }, { name := "Size", type := 3, offset := 6, embedded := false, tag := "", pkgPath := "", byteOffset := 48 }]) := ⟨Tryz.underlying374⟩
theorem info374 : (Tryz.prog.info? 374).map (fun i => (i.zero, i.size, i.bytes)) = some (some (.agg ⟨[.int .i64 0, .int .i64 0, .int .i64 0, .int .i64 0, .int .i64 0, .int .i64 0, .int .i64 0]⟩), 7, 56) := by kernel_rfl
instance tyi374 : TyI Tryz.prog 374 (.agg ⟨[.int .i64 0, .int .i64 0, .int .i64 0, .int .i64 0, .int .i64 0, .int .i64 0, .int .i64 0]⟩) 7 56 := ⟨info_parts info374⟩
instance : TyA Tryz.prog 374 7 := ⟨⟨_, Tryz.underlying374, rfl⟩, by obtain ⟨i, h1, _, h2, _⟩ := info_parts info374; exact ⟨i, h1, h2⟩⟩
instance ty375 : Ty Tryz.prog 375 (.struct #[{ name := "Op", type := 3, offset := 0, embedded := false, tag := "", pkgPath := "", byteOffset := 0 }, { name := "Rd", type := 3, offset := 1, embedded := false, tag := "", pkgPath := "", byteOffset := 8 }, { name := "Rs1", type := 3, offset := 2, embedded := false, tag := "", pkgPath := "", byteOffset := 16 }, { name := "Rs2", type := 3, offset := 3, embedded := false, tag := "", pkgPath := "", byteOffset := 24 }, { name := "Imm", type := 3, offset := 4, embedded := false, tag := "", pkgPath := "", byteOffset := 32 }, { name := "Order", type := 3, offset := 5, embedded := false, tag := "", pkgPath := "", byteOffset := 40 }, { name := "Size", type := 3, offset := 6, embedded := false, tag := "", pkgPath := "", byteOffset := 48 }]) := ⟨Tryz.underlying375⟩
theorem info375 : (Tryz.prog.info? 375).map (fun i => (i.zero, i.size, i.bytes)) = some (some (.agg ⟨[.int .i64 0, .int .i64 0, .int .i64 0, .int .i64 0, .int .i64 0, .int .i64 0, .int .i64 0]⟩), 7, 56) := by kernel_rfl
instance tyi375 : TyI Tryz.prog 375 (.agg ⟨[.int .i64 0, .int .i64 0, .int .i64 0, .int .i64 0, .int .i64 0, .int .i64 0, .int .i64 0]⟩) 7 56 := ⟨info_parts info375⟩
instance : TyA Tryz.prog 375 7 := ⟨⟨_, Tryz.underlying375, rfl⟩, by obtain ⟨i, h1, _, h2, _⟩ := info_parts info375; exact ⟨i, h1, h2⟩⟩
instance ty376 : Ty Tryz.prog 376 (.struct #[{ name := "inst", type := 375, offset := 0, embedded := false, tag := "", pkgPath := "marionette/cache", byteOffset := 0 }, { name := "first", type := 31, offset := 7, embedded := false, tag := "", pkgPath := "marionette/cache", byteOffset := 56 }, { name := "last", type := 31, offset := 8, embedded := false, tag := "", pkgPath := "marionette/cache", byteOffset := 64 }]) := ⟨Tryz.underlying376⟩
theorem info376 : (Tryz.prog.info? 376).map (fun i => (i.zero, i.size, i.bytes)) = some (some (.agg ⟨[.int .i64 0, .int .i64 0, .int .i64 0, .int .i64 0, .int .i64 0, .int .i64 0, .int .i64 0, .int .u64 0, .int .u64 0]⟩), 9, 72) := by kernel_rfl
instance tyi376 : TyI Tryz.prog 376 (.agg ⟨[.int .i64 0, .int .i64 0, .int .i64 0, .int .i64 0, .int .i64 0, .int .i64 0, .int .i64 0, .int .u64 0, .int .u64 0]⟩) 9 72 := ⟨info_parts info376⟩
instance : TyA Tryz.prog 376 9 := ⟨⟨_, Tryz.underlying376, rfl⟩, by obtain ⟨i, h1, _, h2, _⟩ := info_parts info376; exact ⟨i, h1, h2⟩⟩
instance ty377 : Ty Tryz.prog 377 (.struct #[{ name := "inst", type := 375, offset := 0, embedded := false, tag := "", pkgPath := "marionette/cache", byteOffset := 0 }, { name := "first", type := 31, offset := 7, embedded := false, tag := "", pkgPath := "marionette/cache", byteOffset := 56 }, { name := "last", type := 31, offset := 8, embedded := false, tag := "", pkgPath := "marionette/cache", byteOffset := 64 }]) := ⟨Tryz.underlying377⟩
theorem info377 : (Tryz.prog.info? 377).map (fun i => (i.zero, i.size, i.bytes)) = some (some (.agg ⟨[.int .i64 0, .int .i64 0, .int .i64 0, .int .i64 0, .int .i64 0, .int .i64 0, .int .i64 0, .int .u64 0, .int .u64 0]⟩), 9, 72) := by kernel_rfl
instance tyi377 : TyI Tryz.prog 377 (.agg ⟨[.int .i64 0, .int .i64 0, .int .i64 0, .int .i64 0, .int .i64 0, .int .i64 0, .int .i64 0, .int .u64 0, .int .u64 0]⟩) 9 72 := ⟨info_parts info377⟩
instance : TyA Tryz.prog 377 9 := ⟨⟨_, Tryz.underlying377, rfl⟩, by obtain ⟨i, h1, _, h2, _⟩ := info_parts info377; exact ⟨i, h1, h2⟩⟩
instance ty379 : Ty Tryz.prog 379 (.struct #[{ name := "data", type := 22, offset := 0, embedded := false, tag := "", pkgPath := "marionette/pipe", byteOffset := 0 }, { name := "readers", type := 3, offset := 1, embedded := false, tag := "", pkgPath := "marionette/pipe", byteOffset := 24 }, { name := "writers", type := 3, offset := 2, embedded := false, tag := "", pkgPath := "marionette/pipe", byteOffset := 32 }]) := ⟨Tryz.underlying379⟩
theorem info379 : (Tryz.prog.info? 379).map (fun i => (i.zero, i.size, i.bytes)) = some (some (.agg ⟨[.slice none 0 0, .int .i64 0, .int .i64 0]⟩), 3, 40) := by kernel_rfl
instance tyi379 : TyI Tryz.prog 379 (.agg ⟨[.slice none 0 0, .int .i64 0, .int .i64 0]⟩) 3 40 := ⟨info_parts info379⟩
instance : TyA Tryz.prog 379 3 := ⟨⟨_, Tryz.underlying379, rfl⟩, by obtain ⟨i, h1, _, h2, _⟩ := info_parts info379; exact ⟨i, h1, h2⟩⟩
instance ty380 : Ty Tryz.prog 380 (.struct #[{ name := "data", type := 22, offset := 0, embedded := false, tag := "", pkgPath := "marionette/pipe", byteOffset := 0 }, { name := "readers", type := 3, offset := 1, embedded := false, tag := "", pkgPath := "marionette/pipe", byteOffset := 24 }, { name := "writers", type := 3, offset := 2, embedded := false, tag := "", pkgPath := "marionette/pipe", byteOffset := 32 }]) := ⟨Tryz.underlying380⟩
theorem info380 : (Tryz.prog.info? 380).map (fun i => (i.zero, i.size, i.bytes)) = some (some (.agg ⟨[.slice none 0 0, .int .i64 0, .int .i64 0]⟩), 3, 40) := by kernel_rfl
instance tyi380 : TyI Tryz.prog 380 (.agg ⟨[.slice none 0 0, .int .i64 0, .int .i64 0]⟩) 3 40 := ⟨info_parts info380⟩
instance : TyA Tryz.prog 380 3 := ⟨⟨_, Tryz.underlying380, rfl⟩, by obtain ⟨i, h1, _, h2, _⟩ := info_parts info380; exact ⟨i, h1, h2⟩⟩
instance ty384 : Ty Tryz.prog 384 (.struct #[{ name := "Method", type := 9, offset := 0, embedded := false, tag := "", pkgPath := "", byteOffset := 0 }, { name := "Kind", type := 262, offset := 1, embedded := false, tag := "", pkgPath := "", byteOffset := 16 }]) := ⟨Tryz.underlying384⟩
theorem info384 : (Tryz.prog.info? 384).map (fun i => (i.zero, i.size, i.bytes)) = some (some (.agg ⟨[.string ⟨#[]⟩, .int .u8 0]⟩), 2, 24) := by kernel_rfl
instance tyi384 : TyI Tryz.prog 384 (.agg ⟨[.string ⟨#[]⟩, .int .u8 0]⟩) 2 24 := ⟨info_parts info384⟩
instance : TyA Tryz.prog 384 2 := ⟨⟨_, Tryz.underlying384, rfl⟩, by obtain ⟨i, h1, _, h2, _⟩ := info_parts info384; exact ⟨i, h1, h2⟩⟩
instance ty385 : Ty Tryz.prog 385 (.struct #[{ name := "Method", type := 9, offset := 0, embedded := false, tag := "", pkgPath := "", byteOffset := 0 }, { name := "Kind", type := 262, offset := 1, embedded := false, tag := "", pkgPath := "", byteOffset := 16 }]) := ⟨Tryz.underlying385⟩
theorem info385 : (Tryz.prog.info? 385).map (fun i => (i.zero, i.size, i.bytes)) = some (some (.agg ⟨[.string ⟨#[]⟩, .int .u8 0]⟩), 2, 24) := by kernel_rfl
instance tyi385 : TyI Tryz.prog 385 (.agg ⟨[.string ⟨#[]⟩, .int .u8 0]⟩) 2 24 := ⟨info_parts info385⟩
instance : TyA Tryz.prog 385 2 := ⟨⟨_, Tryz.underlying385, rfl⟩, by obtain ⟨i, h1, _, h2, _⟩ := info_parts info385; exact ⟨i, h1, h2⟩⟩
instance ty386 : Ty Tryz.prog 386 (.struct #[{ name := "s", type := 9, offset := 0, embedded := false, tag := "", pkgPath := "errors", byteOffset := 0 }]) := ⟨Tryz.underlying386⟩
theorem info386 : (Tryz.prog.info? 386).map (fun i => (i.zero, i.size, i.bytes)) = some (some (.agg ⟨[.string ⟨#[]⟩]⟩), 1, 16) := by kernel_rfl
instance tyi386 : TyI Tryz.prog 386 (.agg ⟨[.string ⟨#[]⟩]⟩) 1 16 := ⟨info_parts info386⟩
instance : TyA Tryz.prog 386 1 := ⟨⟨_, Tryz.underlying386, rfl⟩, by obtain ⟨i, h1, _, h2, _⟩ := info_parts info386; exact ⟨i, h1, h2⟩⟩
instance ty387 : Ty Tryz.prog 387 (.struct #[{ name := "s", type := 9, offset := 0, embedded := false, tag := "", pkgPath := "errors", byteOffset := 0 }]) := ⟨Tryz.underlying387⟩
theorem info387 : (Tryz.prog.info? 387).map (fun i => (i.zero, i.size, i.bytes)) = some (some (.agg ⟨[.string ⟨#[]⟩]⟩), 1, 16) := by kernel_rfl
instance tyi387 : TyI Tryz.prog 387 (.agg ⟨[.string ⟨#[]⟩]⟩) 1 16 := ⟨info_parts info387⟩
instance : TyA Tryz.prog 387 1 := ⟨⟨_, Tryz.underlying387, rfl⟩, by obtain ⟨i, h1, _, h2, _⟩ := info_parts info387; exact ⟨i, h1, h2⟩⟩
instance ty388 : Ty Tryz.prog 388 (.pointer 391) := ⟨Tryz.underlying388⟩
theorem info388 : (Tryz.prog.info? 388).map (fun i => (i.zero, i.size, i.bytes)) = some (some (.pointer none), 1, 8) := by kernel_rfl
instance tyi388 : TyI Tryz.prog 388 (.pointer none) 1 8 := ⟨info_parts info388⟩
instance : TyS Tryz.prog 388 := ⟨_, Tryz.underlying388, rfl⟩
instance ty390 : Ty Tryz.prog 390 (.struct #[{ name := "PkgPath", type := 368, offset := 0, embedded := false, tag := "", pkgPath := "", byteOffset := 0 }, { name := "Mcount", type := 34, offset := 1, embedded := false, tag := "", pkgPath := "", byteOffset := 4 }, { name := "Xcount", type := 34, offset := 2, embedded := false, tag := "", pkgPath := "", byteOffset := 6 }, { name := "Moff", type := 353, offset := 3, embedded := false, tag := "", pkgPath := "", byteOffset := 8 }, { name := "_", type := 353, offset := 4, embedded := false, tag := "", pkgPath := "internal/abi", byteOffset := 12 }]) := ⟨Tryz.underlying390⟩
theorem info390 : (Tryz.prog.info? 390).map (fun i => (i.zero, i.size, i.bytes)) = some (some (.agg ⟨[.int .i32 0, .int .u16 0, .int .u16 0, .int .u32 0, .int .u32 0]⟩), 5, 16) := by kernel_rfl
instance tyi390 : TyI Tryz.prog 390 (.agg ⟨[.int .i32 0, .int .u16 0, .int .u16 0, .int .u32 0, .int .u32 0]⟩) 5 16 := ⟨info_parts info390⟩
instance : TyA Tryz.prog 390 5 := ⟨⟨_, Tryz.underlying390, rfl⟩, by obtain ⟨i, h1, _, h2, _⟩ := info_parts info390; exact ⟨i, h1, h2⟩⟩
instance ty391 : Ty Tryz.prog 391 (.struct #[{ name := "PkgPath", type := 368, offset := 0, embedded := false, tag := "", pkgPath := "", byteOffset := 0 }, { name := "Mcount", type := 34, offset := 1, embedded := false, tag := "", pkgPath := "", byteOffset := 4 }, { name := "Xcount", type := 34, offset := 2, embedded := false, tag := "", pkgPath := "", byteOffset := 6 }, { name := "Moff", type := 353, offset := 3, embedded := false, tag := "", pkgPath := "", byteOffset := 8 }, { name := "_", type := 353, offset := 4, embedded := false, tag := "", pkgPath := "internal/abi", byteOffset := 12 }]) := ⟨Tryz.underlying391⟩
theorem info391 : (Tryz.prog.info? 391).map (fun i => (i.zero, i.size, i.bytes)) = some (some (.agg ⟨[.int .i32 0, .int .u16 0, .int .u16 0, .int .u32 0, .int .u32 0]⟩), 5, 16) := by kernel_rfl
instance tyi391 : TyI Tryz.prog 391 (.agg ⟨[.int .i32 0, .int .u16 0, .int .u16 0, .int .u32 0, .int .u32 0]⟩) 5 16 := ⟨info_parts info391⟩
instance : TyA Tryz.prog 391 5 := ⟨⟨_, Tryz.underlying391, rfl⟩, by obtain ⟨i, h1, _, h2, _⟩ := info_parts info391; exact ⟨i, h1, h2⟩⟩
instance ty392 : Ty Tryz.prog 392 (.slice 395) := ⟨Tryz.underlying392⟩
theorem info392 : (Tryz.prog.info? 392).map (fun i => (i.zero, i.size, i.bytes)) = some (some (.slice none 0 0), 1, 24) := by kernel_rfl
instance tyi392 : TyI Tryz.prog 392 (.slice none 0 0) 1 24 := ⟨info_parts info392⟩
instance : TyS Tryz.prog 392 := ⟨_, Tryz.underlying392, rfl⟩
instance ty393 : Ty Tryz.prog 393 (.int .i32) := ⟨Tryz.underlying393⟩
theorem info393 : (Tryz.prog.info? 393).map (fun i => (i.zero, i.size, i.bytes)) = some (some (.int .i32 0), 1, 4) := by kernel_rfl
instance tyi393 : TyI Tryz.prog 393 (.int .i32 0) 1 4 := ⟨info_parts info393⟩
instance : TyS Tryz.prog 393 := ⟨_, Tryz.underlying393, rfl⟩
instance ty394 : Ty Tryz.prog 394 (.struct #[{ name := "Name", type := 368, offset := 0, embedded := false, tag := "", pkgPath := "", byteOffset := 0 }, { name := "Mtyp", type := 369, offset := 1, embedded := false, tag := "", pkgPath := "", byteOffset := 4 }, { name := "Ifn", type := 393, offset := 2, embedded := false, tag := "", pkgPath := "", byteOffset := 8 }, { name := "Tfn", type := 393, offset := 3, embedded := false, tag := "", pkgPath := "", byteOffset := 12 }]) := ⟨Tryz.underlying394⟩
theorem info394 : (Tryz.prog.info? 394).map (fun i => (i.zero, i.size, i.bytes)) = some (some (.agg ⟨[.int .i32 0, .int .i32 0, .int .i32 0, .int .i32 0]⟩), 4, 16) := by kernel_rfl
instance tyi394 : TyI Tryz.prog 394 (.agg ⟨[.int .i32 0, .int .i32 0, .int .i32 0, .int .i32 0]⟩) 4 16 := ⟨info_parts info394⟩
instance : TyA Tryz.prog 394 4 := ⟨⟨_, Tryz.underlying394, rfl⟩, by obtain ⟨i, h1, _, h2, _⟩ := info_parts info394; exact ⟨i, h1, h2⟩⟩
instance ty395 : Ty Tryz.prog 395 (.struct #[{ name := "Name", type := 368, offset := 0, embedded := false, tag := "", pkgPath := "", byteOffset := 0 }, { name := "Mtyp", type := 369, offset := 1, embedded := false, tag := "", pkgPath := "", byteOffset := 4 }, { name := "Ifn", type := 393, offset := 2, embedded := false, tag := "", pkgPath := "", byteOffset := 8 }, { name := "Tfn", type := 393, offset := 3, embedded := false, tag := "", pkgPath := "", byteOffset := 12 }]) := ⟨Tryz.underlying395⟩
theorem info395 : (Tryz.prog.info? 395).map (fun i => (i.zero, i.size, i.bytes)) = some (some (.agg ⟨[.int .i32 0, .int .i32 0, .int .i32 0, .int .i32 0]⟩), 4, 16) := by kernel_rfl
instance tyi395 : TyI Tryz.prog 395 (.agg ⟨[.int .i32 0, .int .i32 0, .int .i32 0, .int .i32 0]⟩) 4 16 := ⟨info_parts info395⟩
instance : TyA Tryz.prog 395 4 := ⟨⟨_, Tryz.underlying395, rfl⟩, by obtain ⟨i, h1, _, h2, _⟩ := info_parts info395; exact ⟨i, h1, h2⟩⟩
instance ty397 : Ty Tryz.prog 397 (.pointer 178) := ⟨Tryz.underlying397⟩
theorem info397 : (Tryz.prog.info? 397).map (fun i => (i.zero, i.size, i.bytes)) = some (some (.pointer none), 1, 8) := by kernel_rfl
instance tyi397 : TyI Tryz.prog 397 (.pointer none) 1 8 := ⟨info_parts info397⟩
instance : TyS Tryz.prog 397 := ⟨_, Tryz.underlying397, rfl⟩
instance : Told Tryz.prog 7 := ⟨_, Tryz.underlying7, by kernel_rfl⟩
instance : Fld Tryz.prog 7 0 2 0 1 := ⟨⟨_, _, Tryz.underlying7, rfl, rfl, rfl⟩, by obtain ⟨i, h1, _, h2, _⟩ := info_parts info2; exact ⟨i, h1, h2, by decide⟩⟩
instance : Fld Tryz.prog 7 1 3 1 1 := ⟨⟨_, _, Tryz.underlying7, rfl, rfl, rfl⟩, by obtain ⟨i, h1, _, h2, _⟩ := info_parts info3; exact ⟨i, h1, h2, by decide⟩⟩
instance : Fld Tryz.prog 7 2 4 2 1 := ⟨⟨_, _, Tryz.underlying7, rfl, rfl, rfl⟩, by obtain ⟨i, h1, _, h2, _⟩ := info_parts info4; exact ⟨i, h1, h2, by decide⟩⟩
instance : Fld Tryz.prog 7 3 6 3 1 := ⟨⟨_, _, Tryz.underlying7, rfl, rfl, rfl⟩, by obtain ⟨i, h1, _, h2, _⟩ := info_parts info6; exact ⟨i, h1, h2, by decide⟩⟩
instance : Told Tryz.prog 8 := ⟨_, Tryz.underlying8, by kernel_rfl⟩
instance : Fld Tryz.prog 8 0 2 0 1 := ⟨⟨_, _, Tryz.underlying8, rfl, rfl, rfl⟩, by obtain ⟨i, h1, _, h2, _⟩ := info_parts info2; exact ⟨i, h1, h2, by decide⟩⟩
instance : Fld Tryz.prog 8 1 3 1 1 := ⟨⟨_, _, Tryz.underlying8, rfl, rfl, rfl⟩, by obtain ⟨i, h1, _, h2, _⟩ := info_parts info3; exact ⟨i, h1, h2, by decide⟩⟩
instance : Fld Tryz.prog 8 2 4 2 1 := ⟨⟨_, _, Tryz.underlying8, rfl, rfl, rfl⟩, by obtain ⟨i, h1, _, h2, _⟩ := info_parts info4; exact ⟨i, h1, h2, by decide⟩⟩
instance : Fld Tryz.prog 8 3 6 3 1 := ⟨⟨_, _, Tryz.underlying8, rfl, rfl, rfl⟩, by obtain ⟨i, h1, _, h2, _⟩ := info_parts info6; exact ⟨i, h1, h2, by decide⟩⟩
instance : Told Tryz.prog 13 := ⟨_, Tryz.underlying13, by kernel_rfl⟩
instance : Fld Tryz.prog 13 0 9 0 1 := ⟨⟨_, _, Tryz.underlying13, rfl, rfl, rfl⟩, by obtain ⟨i, h1, _, h2, _⟩ := info_parts info9; exact ⟨i, h1, h2, by decide⟩⟩
instance : Fld Tryz.prog 13 1 12 1 1 := ⟨⟨_, _, Tryz.underlying13, rfl, rfl, rfl⟩, by obtain ⟨i, h1, _, h2, _⟩ := info_parts info12; exact ⟨i, h1, h2, by decide⟩⟩
instance : Told Tryz.prog 14 := ⟨_, Tryz.underlying14, by kernel_rfl⟩
instance : Fld Tryz.prog 14 0 9 0 1 := ⟨⟨_, _, Tryz.underlying14, rfl, rfl, rfl⟩, by obtain ⟨i, h1, _, h2, _⟩ := info_parts info9; exact ⟨i, h1, h2, by decide⟩⟩
instance : Fld Tryz.prog 14 1 12 1 1 := ⟨⟨_, _, Tryz.underlying14, rfl, rfl, rfl⟩, by obtain ⟨i, h1, _, h2, _⟩ := info_parts info12; exact ⟨i, h1, h2, by decide⟩⟩
instance : Told Tryz.prog 18 := ⟨_, Tryz.underlying18, by kernel_rfl⟩
instance : Fld Tryz.prog 18 0 17 0 1 := ⟨⟨_, _, Tryz.underlying18, rfl, rfl, rfl⟩, by obtain ⟨i, h1, _, h2, _⟩ := info_parts info17; exact ⟨i, h1, h2, by decide⟩⟩
instance : Told Tryz.prog 19 := ⟨_, Tryz.underlying19, by kernel_rfl⟩
instance : Fld Tryz.prog 19 0 17 0 1 := ⟨⟨_, _, Tryz.underlying19, rfl, rfl, rfl⟩, by obtain ⟨i, h1, _, h2, _⟩ := info_parts info17; exact ⟨i, h1, h2, by decide⟩⟩
instance : Told Tryz.prog 26 := ⟨_, Tryz.underlying26, by kernel_rfl⟩
instance : Fld Tryz.prog 26 0 22 0 1 := ⟨⟨_, _, Tryz.underlying26, rfl, rfl, rfl⟩, by obtain ⟨i, h1, _, h2, _⟩ := info_parts info22; exact ⟨i, h1, h2, by decide⟩⟩
instance : Fld Tryz.prog 26 1 23 1 1 := ⟨⟨_, _, Tryz.underlying26, rfl, rfl, rfl⟩, by obtain ⟨i, h1, _, h2, _⟩ := info_parts info23; exact ⟨i, h1, h2, by decide⟩⟩
instance : Fld Tryz.prog 26 2 23 2 1 := ⟨⟨_, _, Tryz.underlying26, rfl, rfl, rfl⟩, by obtain ⟨i, h1, _, h2, _⟩ := info_parts info23; exact ⟨i, h1, h2, by decide⟩⟩
instance : Fld Tryz.prog 26 3 24 3 1 := ⟨⟨_, _, Tryz.underlying26, rfl, rfl, rfl⟩, by obtain ⟨i, h1, _, h2, _⟩ := info_parts info24; exact ⟨i, h1, h2, by decide⟩⟩
instance : Fld Tryz.prog 26 4 25 4 1 := ⟨⟨_, _, Tryz.underlying26, rfl, rfl, rfl⟩, by obtain ⟨i, h1, _, h2, _⟩ := info_parts info25; exact ⟨i, h1, h2, by decide⟩⟩
instance : Fld Tryz.prog 26 5 3 5 1 := ⟨⟨_, _, Tryz.underlying26, rfl, rfl, rfl⟩, by obtain ⟨i, h1, _, h2, _⟩ := info_parts info3; exact ⟨i, h1, h2, by decide⟩⟩
instance : Fld Tryz.prog 26 6 3 6 1 := ⟨⟨_, _, Tryz.underlying26, rfl, rfl, rfl⟩, by obtain ⟨i, h1, _, h2, _⟩ := info_parts info3; exact ⟨i, h1, h2, by decide⟩⟩
instance : Fld Tryz.prog 26 7 3 7 1 := ⟨⟨_, _, Tryz.underlying26, rfl, rfl, rfl⟩, by obtain ⟨i, h1, _, h2, _⟩ := info_parts info3; exact ⟨i, h1, h2, by decide⟩⟩
instance : Fld Tryz.prog 26 8 4 8 1 := ⟨⟨_, _, Tryz.underlying26, rfl, rfl, rfl⟩, by obtain ⟨i, h1, _, h2, _⟩ := info_parts info4; exact ⟨i, h1, h2, by decide⟩⟩
instance : Told Tryz.prog 27 := ⟨_, Tryz.underlying27, by kernel_rfl⟩
instance : Fld Tryz.prog 27 0 22 0 1 := ⟨⟨_, _, Tryz.underlying27, rfl, rfl, rfl⟩, by obtain ⟨i, h1, _, h2, _⟩ := info_parts info22; exact ⟨i, h1, h2, by decide⟩⟩
instance : Fld Tryz.prog 27 1 23 1 1 := ⟨⟨_, _, Tryz.underlying27, rfl, rfl, rfl⟩, by obtain ⟨i, h1, _, h2, _⟩ := info_parts info23; exact ⟨i, h1, h2, by decide⟩⟩
instance : Fld Tryz.prog 27 2 23 2 1 := ⟨⟨_, _, Tryz.underlying27, rfl, rfl, rfl⟩, by obtain ⟨i, h1, _, h2, _⟩ := info_parts info23; exact ⟨i, h1, h2, by decide⟩⟩
instance : Fld Tryz.prog 27 3 24 3 1 := ⟨⟨_, _, Tryz.underlying27, rfl, rfl, rfl⟩, by obtain ⟨i, h1, _, h2, _⟩ := info_parts info24; exact ⟨i, h1, h2, by decide⟩⟩
instance : Fld Tryz.prog 27 4 25 4 1 := ⟨⟨_, _, Tryz.underlying27, rfl, rfl, rfl⟩, by obtain ⟨i, h1, _, h2, _⟩ := info_parts info25; exact ⟨i, h1, h2, by decide⟩⟩
instance : Fld Tryz.prog 27 5 3 5 1 := ⟨⟨_, _, Tryz.underlying27, rfl, rfl, rfl⟩, by obtain ⟨i, h1, _, h2, _⟩ := info_parts info3; exact ⟨i, h1, h2, by decide⟩⟩
instance : Fld Tryz.prog 27 6 3 6 1 := ⟨⟨_, _, Tryz.underlying27, rfl, rfl, rfl⟩, by obtain ⟨i, h1, _, h2, _⟩ := info_parts info3; exact ⟨i, h1, h2, by decide⟩⟩
instance : Fld Tryz.prog 27 7 3 7 1 := ⟨⟨_, _, Tryz.underlying27, rfl, rfl, rfl⟩, by obtain ⟨i, h1, _, h2, _⟩ := info_parts info3; exact ⟨i, h1, h2, by decide⟩⟩
instance : Fld Tryz.prog 27 8 4 8 1 := ⟨⟨_, _, Tryz.underlying27, rfl, rfl, rfl⟩, by obtain ⟨i, h1, _, h2, _⟩ := info_parts info4; exact ⟨i, h1, h2, by decide⟩⟩
instance : Told Tryz.prog 32 := ⟨_, Tryz.underlying32, by kernel_rfl⟩
instance : Fld Tryz.prog 32 0 3 0 1 := ⟨⟨_, _, Tryz.underlying32, rfl, rfl, rfl⟩, by obtain ⟨i, h1, _, h2, _⟩ := info_parts info3; exact ⟨i, h1, h2, by decide⟩⟩
instance : Fld Tryz.prog 32 1 31 1 1 := ⟨⟨_, _, Tryz.underlying32, rfl, rfl, rfl⟩, by obtain ⟨i, h1, _, h2, _⟩ := info_parts info31; exact ⟨i, h1, h2, by decide⟩⟩
instance : Told Tryz.prog 33 := ⟨_, Tryz.underlying33, by kernel_rfl⟩
instance : Fld Tryz.prog 33 0 3 0 1 := ⟨⟨_, _, Tryz.underlying33, rfl, rfl, rfl⟩, by obtain ⟨i, h1, _, h2, _⟩ := info_parts info3; exact ⟨i, h1, h2, by decide⟩⟩
instance : Fld Tryz.prog 33 1 31 1 1 := ⟨⟨_, _, Tryz.underlying33, rfl, rfl, rfl⟩, by obtain ⟨i, h1, _, h2, _⟩ := info_parts info31; exact ⟨i, h1, h2, by decide⟩⟩
instance : Told Tryz.prog 41 := ⟨_, Tryz.underlying41, by kernel_rfl⟩
instance : Fld Tryz.prog 41 0 3 0 1 := ⟨⟨_, _, Tryz.underlying41, rfl, rfl, rfl⟩, by obtain ⟨i, h1, _, h2, _⟩ := info_parts info3; exact ⟨i, h1, h2, by decide⟩⟩
instance : Fld Tryz.prog 41 1 3 1 1 := ⟨⟨_, _, Tryz.underlying41, rfl, rfl, rfl⟩, by obtain ⟨i, h1, _, h2, _⟩ := info_parts info3; exact ⟨i, h1, h2, by decide⟩⟩
instance : Told Tryz.prog 42 := ⟨_, Tryz.underlying42, by kernel_rfl⟩
instance : Fld Tryz.prog 42 0 3 0 1 := ⟨⟨_, _, Tryz.underlying42, rfl, rfl, rfl⟩, by obtain ⟨i, h1, _, h2, _⟩ := info_parts info3; exact ⟨i, h1, h2, by decide⟩⟩
instance : Fld Tryz.prog 42 1 3 1 1 := ⟨⟨_, _, Tryz.underlying42, rfl, rfl, rfl⟩, by obtain ⟨i, h1, _, h2, _⟩ := info_parts info3; exact ⟨i, h1, h2, by decide⟩⟩
instance : Told Tryz.prog 47 := ⟨_, Tryz.underlying47, by kernel_rfl⟩
instance : Fld Tryz.prog 47 0 31 0 1 := ⟨⟨_, _, Tryz.underlying47, rfl, rfl, rfl⟩, by obtain ⟨i, h1, _, h2, _⟩ := info_parts info31; exact ⟨i, h1, h2, by decide⟩⟩
instance : Fld Tryz.prog 47 1 3 1 1 := ⟨⟨_, _, Tryz.underlying47, rfl, rfl, rfl⟩, by obtain ⟨i, h1, _, h2, _⟩ := info_parts info3; exact ⟨i, h1, h2, by decide⟩⟩
instance : Told Tryz.prog 48 := ⟨_, Tryz.underlying48, by kernel_rfl⟩
instance : Fld Tryz.prog 48 0 31 0 1 := ⟨⟨_, _, Tryz.underlying48, rfl, rfl, rfl⟩, by obtain ⟨i, h1, _, h2, _⟩ := info_parts info31; exact ⟨i, h1, h2, by decide⟩⟩
instance : Fld Tryz.prog 48 1 3 1 1 := ⟨⟨_, _, Tryz.underlying48, rfl, rfl, rfl⟩, by obtain ⟨i, h1, _, h2, _⟩ := info_parts info3; exact ⟨i, h1, h2, by decide⟩⟩
instance : Told Tryz.prog 49 := ⟨_, Tryz.underlying49, by kernel_rfl⟩
instance : Fld Tryz.prog 49 0 31 0 1 := ⟨⟨_, _, Tryz.underlying49, rfl, rfl, rfl⟩, by obtain ⟨i, h1, _, h2, _⟩ := info_parts info31; exact ⟨i, h1, h2, by decide⟩⟩
instance : Fld Tryz.prog 49 1 46 1 32 := ⟨⟨_, _, Tryz.underlying49, rfl, rfl, rfl⟩, by obtain ⟨i, h1, _, h2, _⟩ := info_parts info46; exact ⟨i, h1, h2, by decide⟩⟩
instance : Fld Tryz.prog 49 2 48 33 2 := ⟨⟨_, _, Tryz.underlying49, rfl, rfl, rfl⟩, by obtain ⟨i, h1, _, h2, _⟩ := info_parts info48; exact ⟨i, h1, h2, by decide⟩⟩
instance : Told Tryz.prog 50 := ⟨_, Tryz.underlying50, by kernel_rfl⟩
instance : Fld Tryz.prog 50 0 31 0 1 := ⟨⟨_, _, Tryz.underlying50, rfl, rfl, rfl⟩, by obtain ⟨i, h1, _, h2, _⟩ := info_parts info31; exact ⟨i, h1, h2, by decide⟩⟩
instance : Fld Tryz.prog 50 1 46 1 32 := ⟨⟨_, _, Tryz.underlying50, rfl, rfl, rfl⟩, by obtain ⟨i, h1, _, h2, _⟩ := info_parts info46; exact ⟨i, h1, h2, by decide⟩⟩
instance : Fld Tryz.prog 50 2 48 33 2 := ⟨⟨_, _, Tryz.underlying50, rfl, rfl, rfl⟩, by obtain ⟨i, h1, _, h2, _⟩ := info_parts info48; exact ⟨i, h1, h2, by decide⟩⟩
instance : Told Tryz.prog 57 := ⟨_, Tryz.underlying57, by kernel_rfl⟩
instance : Fld Tryz.prog 57 0 51 0 1 := ⟨⟨_, _, Tryz.underlying57, rfl, rfl, rfl⟩, by obtain ⟨i, h1, _, h2, _⟩ := info_parts info51; exact ⟨i, h1, h2, by decide⟩⟩
instance : Fld Tryz.prog 57 1 52 1 1 := ⟨⟨_, _, Tryz.underlying57, rfl, rfl, rfl⟩, by obtain ⟨i, h1, _, h2, _⟩ := info_parts info52; exact ⟨i, h1, h2, by decide⟩⟩
instance : Fld Tryz.prog 57 2 53 2 1 := ⟨⟨_, _, Tryz.underlying57, rfl, rfl, rfl⟩, by obtain ⟨i, h1, _, h2, _⟩ := info_parts info53; exact ⟨i, h1, h2, by decide⟩⟩
instance : Fld Tryz.prog 57 3 54 3 1 := ⟨⟨_, _, Tryz.underlying57, rfl, rfl, rfl⟩, by obtain ⟨i, h1, _, h2, _⟩ := info_parts info54; exact ⟨i, h1, h2, by decide⟩⟩
instance : Fld Tryz.prog 57 4 55 4 1 := ⟨⟨_, _, Tryz.underlying57, rfl, rfl, rfl⟩, by obtain ⟨i, h1, _, h2, _⟩ := info_parts info55; exact ⟨i, h1, h2, by decide⟩⟩
instance : Fld Tryz.prog 57 5 25 5 1 := ⟨⟨_, _, Tryz.underlying57, rfl, rfl, rfl⟩, by obtain ⟨i, h1, _, h2, _⟩ := info_parts info25; exact ⟨i, h1, h2, by decide⟩⟩
instance : Fld Tryz.prog 57 6 31 6 1 := ⟨⟨_, _, Tryz.underlying57, rfl, rfl, rfl⟩, by obtain ⟨i, h1, _, h2, _⟩ := info_parts info31; exact ⟨i, h1, h2, by decide⟩⟩
instance : Fld Tryz.prog 57 7 56 7 1 := ⟨⟨_, _, Tryz.underlying57, rfl, rfl, rfl⟩, by obtain ⟨i, h1, _, h2, _⟩ := info_parts info56; exact ⟨i, h1, h2, by decide⟩⟩
instance : Fld Tryz.prog 57 8 42 8 2 := ⟨⟨_, _, Tryz.underlying57, rfl, rfl, rfl⟩, by obtain ⟨i, h1, _, h2, _⟩ := info_parts info42; exact ⟨i, h1, h2, by decide⟩⟩
instance : Fld Tryz.prog 57 9 4 10 1 := ⟨⟨_, _, Tryz.underlying57, rfl, rfl, rfl⟩, by obtain ⟨i, h1, _, h2, _⟩ := info_parts info4; exact ⟨i, h1, h2, by decide⟩⟩
instance : Told Tryz.prog 58 := ⟨_, Tryz.underlying58, by kernel_rfl⟩
instance : Fld Tryz.prog 58 0 51 0 1 := ⟨⟨_, _, Tryz.underlying58, rfl, rfl, rfl⟩, by obtain ⟨i, h1, _, h2, _⟩ := info_parts info51; exact ⟨i, h1, h2, by decide⟩⟩
instance : Fld Tryz.prog 58 1 52 1 1 := ⟨⟨_, _, Tryz.underlying58, rfl, rfl, rfl⟩, by obtain ⟨i, h1, _, h2, _⟩ := info_parts info52; exact ⟨i, h1, h2, by decide⟩⟩
instance : Fld Tryz.prog 58 2 53 2 1 := ⟨⟨_, _, Tryz.underlying58, rfl, rfl, rfl⟩, by obtain ⟨i, h1, _, h2, _⟩ := info_parts info53; exact ⟨i, h1, h2, by decide⟩⟩
instance : Fld Tryz.prog 58 3 54 3 1 := ⟨⟨_, _, Tryz.underlying58, rfl, rfl, rfl⟩, by obtain ⟨i, h1, _, h2, _⟩ := info_parts info54; exact ⟨i, h1, h2, by decide⟩⟩
instance : Fld Tryz.prog 58 4 55 4 1 := ⟨⟨_, _, Tryz.underlying58, rfl, rfl, rfl⟩, by obtain ⟨i, h1, _, h2, _⟩ := info_parts info55; exact ⟨i, h1, h2, by decide⟩⟩
instance : Fld Tryz.prog 58 5 25 5 1 := ⟨⟨_, _, Tryz.underlying58, rfl, rfl, rfl⟩, by obtain ⟨i, h1, _, h2, _⟩ := info_parts info25; exact ⟨i, h1, h2, by decide⟩⟩
instance : Fld Tryz.prog 58 6 31 6 1 := ⟨⟨_, _, Tryz.underlying58, rfl, rfl, rfl⟩, by obtain ⟨i, h1, _, h2, _⟩ := info_parts info31; exact ⟨i, h1, h2, by decide⟩⟩
instance : Fld Tryz.prog 58 7 56 7 1 := ⟨⟨_, _, Tryz.underlying58, rfl, rfl, rfl⟩, by obtain ⟨i, h1, _, h2, _⟩ := info_parts info56; exact ⟨i, h1, h2, by decide⟩⟩
instance : Fld Tryz.prog 58 8 42 8 2 := ⟨⟨_, _, Tryz.underlying58, rfl, rfl, rfl⟩, by obtain ⟨i, h1, _, h2, _⟩ := info_parts info42; exact ⟨i, h1, h2, by decide⟩⟩
instance : Fld Tryz.prog 58 9 4 10 1 := ⟨⟨_, _, Tryz.underlying58, rfl, rfl, rfl⟩, by obtain ⟨i, h1, _, h2, _⟩ := info_parts info4; exact ⟨i, h1, h2, by decide⟩⟩
instance : Told Tryz.prog 62 := ⟨_, Tryz.underlying62, by kernel_rfl⟩
instance : Fld Tryz.prog 62 0 31 0 1 := ⟨⟨_, _, Tryz.underlying62, rfl, rfl, rfl⟩, by obtain ⟨i, h1, _, h2, _⟩ := info_parts info31; exact ⟨i, h1, h2, by decide⟩⟩
instance : Fld Tryz.prog 62 1 31 1 1 := ⟨⟨_, _, Tryz.underlying62, rfl, rfl, rfl⟩, by obtain ⟨i, h1, _, h2, _⟩ := info_parts info31; exact ⟨i, h1, h2, by decide⟩⟩
instance : Fld Tryz.prog 62 2 31 2 1 := ⟨⟨_, _, Tryz.underlying62, rfl, rfl, rfl⟩, by obtain ⟨i, h1, _, h2, _⟩ := info_parts info31; exact ⟨i, h1, h2, by decide⟩⟩
instance : Told Tryz.prog 63 := ⟨_, Tryz.underlying63, by kernel_rfl⟩
instance : Fld Tryz.prog 63 0 31 0 1 := ⟨⟨_, _, Tryz.underlying63, rfl, rfl, rfl⟩, by obtain ⟨i, h1, _, h2, _⟩ := info_parts info31; exact ⟨i, h1, h2, by decide⟩⟩
instance : Fld Tryz.prog 63 1 31 1 1 := ⟨⟨_, _, Tryz.underlying63, rfl, rfl, rfl⟩, by obtain ⟨i, h1, _, h2, _⟩ := info_parts info31; exact ⟨i, h1, h2, by decide⟩⟩
instance : Fld Tryz.prog 63 2 31 2 1 := ⟨⟨_, _, Tryz.underlying63, rfl, rfl, rfl⟩, by obtain ⟨i, h1, _, h2, _⟩ := info_parts info31; exact ⟨i, h1, h2, by decide⟩⟩
instance : Told Tryz.prog 69 := ⟨_, Tryz.underlying69, by kernel_rfl⟩
instance : Fld Tryz.prog 69 0 31 0 1 := ⟨⟨_, _, Tryz.underlying69, rfl, rfl, rfl⟩, by obtain ⟨i, h1, _, h2, _⟩ := info_parts info31; exact ⟨i, h1, h2, by decide⟩⟩
instance : Fld Tryz.prog 69 1 68 1 6 := ⟨⟨_, _, Tryz.underlying69, rfl, rfl, rfl⟩, by obtain ⟨i, h1, _, h2, _⟩ := info_parts info68; exact ⟨i, h1, h2, by decide⟩⟩
instance : Fld Tryz.prog 69 2 31 7 1 := ⟨⟨_, _, Tryz.underlying69, rfl, rfl, rfl⟩, by obtain ⟨i, h1, _, h2, _⟩ := info_parts info31; exact ⟨i, h1, h2, by decide⟩⟩
instance : Told Tryz.prog 70 := ⟨_, Tryz.underlying70, by kernel_rfl⟩
instance : Fld Tryz.prog 70 0 31 0 1 := ⟨⟨_, _, Tryz.underlying70, rfl, rfl, rfl⟩, by obtain ⟨i, h1, _, h2, _⟩ := info_parts info31; exact ⟨i, h1, h2, by decide⟩⟩
instance : Fld Tryz.prog 70 1 68 1 6 := ⟨⟨_, _, Tryz.underlying70, rfl, rfl, rfl⟩, by obtain ⟨i, h1, _, h2, _⟩ := info_parts info68; exact ⟨i, h1, h2, by decide⟩⟩
instance : Fld Tryz.prog 70 2 31 7 1 := ⟨⟨_, _, Tryz.underlying70, rfl, rfl, rfl⟩, by obtain ⟨i, h1, _, h2, _⟩ := info_parts info31; exact ⟨i, h1, h2, by decide⟩⟩
instance : Told Tryz.prog 74 := ⟨_, Tryz.underlying74, by kernel_rfl⟩
instance : Fld Tryz.prog 74 0 9 0 1 := ⟨⟨_, _, Tryz.underlying74, rfl, rfl, rfl⟩, by obtain ⟨i, h1, _, h2, _⟩ := info_parts info9; exact ⟨i, h1, h2, by decide⟩⟩
instance : Fld Tryz.prog 74 1 3 1 1 := ⟨⟨_, _, Tryz.underlying74, rfl, rfl, rfl⟩, by obtain ⟨i, h1, _, h2, _⟩ := info_parts info3; exact ⟨i, h1, h2, by decide⟩⟩
instance : Fld Tryz.prog 74 2 3 2 1 := ⟨⟨_, _, Tryz.underlying74, rfl, rfl, rfl⟩, by obtain ⟨i, h1, _, h2, _⟩ := info_parts info3; exact ⟨i, h1, h2, by decide⟩⟩
instance : Fld Tryz.prog 74 3 22 3 1 := ⟨⟨_, _, Tryz.underlying74, rfl, rfl, rfl⟩, by obtain ⟨i, h1, _, h2, _⟩ := info_parts info22; exact ⟨i, h1, h2, by decide⟩⟩
instance : Told Tryz.prog 75 := ⟨_, Tryz.underlying75, by kernel_rfl⟩
instance : Fld Tryz.prog 75 0 9 0 1 := ⟨⟨_, _, Tryz.underlying75, rfl, rfl, rfl⟩, by obtain ⟨i, h1, _, h2, _⟩ := info_parts info9; exact ⟨i, h1, h2, by decide⟩⟩
instance : Fld Tryz.prog 75 1 3 1 1 := ⟨⟨_, _, Tryz.underlying75, rfl, rfl, rfl⟩, by obtain ⟨i, h1, _, h2, _⟩ := info_parts info3; exact ⟨i, h1, h2, by decide⟩⟩
instance : Fld Tryz.prog 75 2 3 2 1 := ⟨⟨_, _, Tryz.underlying75, rfl, rfl, rfl⟩, by obtain ⟨i, h1, _, h2, _⟩ := info_parts info3; exact ⟨i, h1, h2, by decide⟩⟩
instance : Fld Tryz.prog 75 3 22 3 1 := ⟨⟨_, _, Tryz.underlying75, rfl, rfl, rfl⟩, by obtain ⟨i, h1, _, h2, _⟩ := info_parts info22; exact ⟨i, h1, h2, by decide⟩⟩
instance : Told Tryz.prog 95 := ⟨_, Tryz.underlying95, by kernel_rfl⟩
instance : Fld Tryz.prog 95 0 50 0 35 := ⟨⟨_, _, Tryz.underlying95, rfl, rfl, rfl⟩, by obtain ⟨i, h1, _, h2, _⟩ := info_parts info50; exact ⟨i, h1, h2, by decide⟩⟩
instance : Fld Tryz.prog 95 1 51 35 1 := ⟨⟨_, _, Tryz.underlying95, rfl, rfl, rfl⟩, by obtain ⟨i, h1, _, h2, _⟩ := info_parts info51; exact ⟨i, h1, h2, by decide⟩⟩
instance : Fld Tryz.prog 95 2 85 36 1 := ⟨⟨_, _, Tryz.underlying95, rfl, rfl, rfl⟩, by obtain ⟨i, h1, _, h2, _⟩ := info_parts info85; exact ⟨i, h1, h2, by decide⟩⟩
instance : Told Tryz.prog 96 := ⟨_, Tryz.underlying96, by kernel_rfl⟩
instance : Fld Tryz.prog 96 0 50 0 35 := ⟨⟨_, _, Tryz.underlying96, rfl, rfl, rfl⟩, by obtain ⟨i, h1, _, h2, _⟩ := info_parts info50; exact ⟨i, h1, h2, by decide⟩⟩
instance : Fld Tryz.prog 96 1 51 35 1 := ⟨⟨_, _, Tryz.underlying96, rfl, rfl, rfl⟩, by obtain ⟨i, h1, _, h2, _⟩ := info_parts info51; exact ⟨i, h1, h2, by decide⟩⟩
instance : Fld Tryz.prog 96 2 85 36 1 := ⟨⟨_, _, Tryz.underlying96, rfl, rfl, rfl⟩, by obtain ⟨i, h1, _, h2, _⟩ := info_parts info85; exact ⟨i, h1, h2, by decide⟩⟩
instance : Told Tryz.prog 99 := ⟨_, Tryz.underlying99, by kernel_rfl⟩
instance : Fld Tryz.prog 99 0 31 0 1 := ⟨⟨_, _, Tryz.underlying99, rfl, rfl, rfl⟩, by obtain ⟨i, h1, _, h2, _⟩ := info_parts info31; exact ⟨i, h1, h2, by decide⟩⟩
instance : Fld Tryz.prog 99 1 31 1 1 := ⟨⟨_, _, Tryz.underlying99, rfl, rfl, rfl⟩, by obtain ⟨i, h1, _, h2, _⟩ := info_parts info31; exact ⟨i, h1, h2, by decide⟩⟩
instance : Told Tryz.prog 100 := ⟨_, Tryz.underlying100, by kernel_rfl⟩
instance : Fld Tryz.prog 100 0 31 0 1 := ⟨⟨_, _, Tryz.underlying100, rfl, rfl, rfl⟩, by obtain ⟨i, h1, _, h2, _⟩ := info_parts info31; exact ⟨i, h1, h2, by decide⟩⟩
instance : Fld Tryz.prog 100 1 31 1 1 := ⟨⟨_, _, Tryz.underlying100, rfl, rfl, rfl⟩, by obtain ⟨i, h1, _, h2, _⟩ := info_parts info31; exact ⟨i, h1, h2, by decide⟩⟩
instance : Told Tryz.prog 101 := ⟨_, Tryz.underlying101, by kernel_rfl⟩
instance : Fld Tryz.prog 101 0 98 0 195 := ⟨⟨_, _, Tryz.underlying101, rfl, rfl, rfl⟩, by obtain ⟨i, h1, _, h2, _⟩ := info_parts info98; exact ⟨i, h1, h2, by decide⟩⟩
instance : Fld Tryz.prog 101 1 31 195 1 := ⟨⟨_, _, Tryz.underlying101, rfl, rfl, rfl⟩, by obtain ⟨i, h1, _, h2, _⟩ := info_parts info31; exact ⟨i, h1, h2, by decide⟩⟩
instance : Fld Tryz.prog 101 2 31 196 1 := ⟨⟨_, _, Tryz.underlying101, rfl, rfl, rfl⟩, by obtain ⟨i, h1, _, h2, _⟩ := info_parts info31; exact ⟨i, h1, h2, by decide⟩⟩
instance : Fld Tryz.prog 101 3 100 197 2 := ⟨⟨_, _, Tryz.underlying101, rfl, rfl, rfl⟩, by obtain ⟨i, h1, _, h2, _⟩ := info_parts info100; exact ⟨i, h1, h2, by decide⟩⟩
instance : Told Tryz.prog 102 := ⟨_, Tryz.underlying102, by kernel_rfl⟩
instance : Fld Tryz.prog 102 0 98 0 195 := ⟨⟨_, _, Tryz.underlying102, rfl, rfl, rfl⟩, by obtain ⟨i, h1, _, h2, _⟩ := info_parts info98; exact ⟨i, h1, h2, by decide⟩⟩
instance : Fld Tryz.prog 102 1 31 195 1 := ⟨⟨_, _, Tryz.underlying102, rfl, rfl, rfl⟩, by obtain ⟨i, h1, _, h2, _⟩ := info_parts info31; exact ⟨i, h1, h2, by decide⟩⟩
instance : Fld Tryz.prog 102 2 31 196 1 := ⟨⟨_, _, Tryz.underlying102, rfl, rfl, rfl⟩, by obtain ⟨i, h1, _, h2, _⟩ := info_parts info31; exact ⟨i, h1, h2, by decide⟩⟩
instance : Fld Tryz.prog 102 3 100 197 2 := ⟨⟨_, _, Tryz.underlying102, rfl, rfl, rfl⟩, by obtain ⟨i, h1, _, h2, _⟩ := info_parts info100; exact ⟨i, h1, h2, by decide⟩⟩
instance : Told Tryz.prog 118 := ⟨_, Tryz.underlying118, by kernel_rfl⟩
instance : Fld Tryz.prog 118 0 3 0 1 := ⟨⟨_, _, Tryz.underlying118, rfl, rfl, rfl⟩, by obtain ⟨i, h1, _, h2, _⟩ := info_parts info3; exact ⟨i, h1, h2, by decide⟩⟩
instance : Fld Tryz.prog 118 1 3 1 1 := ⟨⟨_, _, Tryz.underlying118, rfl, rfl, rfl⟩, by obtain ⟨i, h1, _, h2, _⟩ := info_parts info3; exact ⟨i, h1, h2, by decide⟩⟩
instance : Fld Tryz.prog 118 2 22 2 1 := ⟨⟨_, _, Tryz.underlying118, rfl, rfl, rfl⟩, by obtain ⟨i, h1, _, h2, _⟩ := info_parts info22; exact ⟨i, h1, h2, by decide⟩⟩
instance : Fld Tryz.prog 118 3 117 3 1 := ⟨⟨_, _, Tryz.underlying118, rfl, rfl, rfl⟩, by obtain ⟨i, h1, _, h2, _⟩ := info_parts info117; exact ⟨i, h1, h2, by decide⟩⟩
instance : Fld Tryz.prog 118 4 3 4 1 := ⟨⟨_, _, Tryz.underlying118, rfl, rfl, rfl⟩, by obtain ⟨i, h1, _, h2, _⟩ := info_parts info3; exact ⟨i, h1, h2, by decide⟩⟩
instance : Fld Tryz.prog 118 5 3 5 1 := ⟨⟨_, _, Tryz.underlying118, rfl, rfl, rfl⟩, by obtain ⟨i, h1, _, h2, _⟩ := info_parts info3; exact ⟨i, h1, h2, by decide⟩⟩
instance : Fld Tryz.prog 118 6 3 6 1 := ⟨⟨_, _, Tryz.underlying118, rfl, rfl, rfl⟩, by obtain ⟨i, h1, _, h2, _⟩ := info_parts info3; exact ⟨i, h1, h2, by decide⟩⟩
instance : Told Tryz.prog 119 := ⟨_, Tryz.underlying119, by kernel_rfl⟩
instance : Fld Tryz.prog 119 0 3 0 1 := ⟨⟨_, _, Tryz.underlying119, rfl, rfl, rfl⟩, by obtain ⟨i, h1, _, h2, _⟩ := info_parts info3; exact ⟨i, h1, h2, by decide⟩⟩
instance : Fld Tryz.prog 119 1 3 1 1 := ⟨⟨_, _, Tryz.underlying119, rfl, rfl, rfl⟩, by obtain ⟨i, h1, _, h2, _⟩ := info_parts info3; exact ⟨i, h1, h2, by decide⟩⟩
instance : Fld Tryz.prog 119 2 22 2 1 := ⟨⟨_, _, Tryz.underlying119, rfl, rfl, rfl⟩, by obtain ⟨i, h1, _, h2, _⟩ := info_parts info22; exact ⟨i, h1, h2, by decide⟩⟩
instance : Fld Tryz.prog 119 3 117 3 1 := ⟨⟨_, _, Tryz.underlying119, rfl, rfl, rfl⟩, by obtain ⟨i, h1, _, h2, _⟩ := info_parts info117; exact ⟨i, h1, h2, by decide⟩⟩
instance : Fld Tryz.prog 119 4 3 4 1 := ⟨⟨_, _, Tryz.underlying119, rfl, rfl, rfl⟩, by obtain ⟨i, h1, _, h2, _⟩ := info_parts info3; exact ⟨i, h1, h2, by decide⟩⟩
instance : Fld Tryz.prog 119 5 3 5 1 := ⟨⟨_, _, Tryz.underlying119, rfl, rfl, rfl⟩, by obtain ⟨i, h1, _, h2, _⟩ := info_parts info3; exact ⟨i, h1, h2, by decide⟩⟩
instance : Fld Tryz.prog 119 6 3 6 1 := ⟨⟨_, _, Tryz.underlying119, rfl, rfl, rfl⟩, by obtain ⟨i, h1, _, h2, _⟩ := info_parts info3; exact ⟨i, h1, h2, by decide⟩⟩
instance : Told Tryz.prog 121 := ⟨_, Tryz.underlying121, by kernel_rfl⟩
instance : Fld Tryz.prog 121 0 120 0 1 := ⟨⟨_, _, Tryz.underlying121, rfl, rfl, rfl⟩, by obtain ⟨i, h1, _, h2, _⟩ := info_parts info120; exact ⟨i, h1, h2, by decide⟩⟩
instance : Told Tryz.prog 122 := ⟨_, Tryz.underlying122, by kernel_rfl⟩
instance : Fld Tryz.prog 122 0 120 0 1 := ⟨⟨_, _, Tryz.underlying122, rfl, rfl, rfl⟩, by obtain ⟨i, h1, _, h2, _⟩ := info_parts info120; exact ⟨i, h1, h2, by decide⟩⟩
instance : Told Tryz.prog 126 := ⟨_, Tryz.underlying126, by kernel_rfl⟩
instance : Fld Tryz.prog 126 0 3 0 1 := ⟨⟨_, _, Tryz.underlying126, rfl, rfl, rfl⟩, by obtain ⟨i, h1, _, h2, _⟩ := info_parts info3; exact ⟨i, h1, h2, by decide⟩⟩
instance : Fld Tryz.prog 126 1 125 1 1 := ⟨⟨_, _, Tryz.underlying126, rfl, rfl, rfl⟩, by obtain ⟨i, h1, _, h2, _⟩ := info_parts info125; exact ⟨i, h1, h2, by decide⟩⟩
instance : Told Tryz.prog 127 := ⟨_, Tryz.underlying127, by kernel_rfl⟩
instance : Fld Tryz.prog 127 0 3 0 1 := ⟨⟨_, _, Tryz.underlying127, rfl, rfl, rfl⟩, by obtain ⟨i, h1, _, h2, _⟩ := info_parts info3; exact ⟨i, h1, h2, by decide⟩⟩
instance : Fld Tryz.prog 127 1 125 1 1 := ⟨⟨_, _, Tryz.underlying127, rfl, rfl, rfl⟩, by obtain ⟨i, h1, _, h2, _⟩ := info_parts info125; exact ⟨i, h1, h2, by decide⟩⟩
instance : Told Tryz.prog 129 := ⟨_, Tryz.underlying129, by kernel_rfl⟩
instance : Fld Tryz.prog 129 0 31 0 1 := ⟨⟨_, _, Tryz.underlying129, rfl, rfl, rfl⟩, by obtain ⟨i, h1, _, h2, _⟩ := info_parts info31; exact ⟨i, h1, h2, by decide⟩⟩
instance : Fld Tryz.prog 129 1 128 1 1 := ⟨⟨_, _, Tryz.underlying129, rfl, rfl, rfl⟩, by obtain ⟨i, h1, _, h2, _⟩ := info_parts info128; exact ⟨i, h1, h2, by decide⟩⟩
instance : Fld Tryz.prog 129 2 31 2 1 := ⟨⟨_, _, Tryz.underlying129, rfl, rfl, rfl⟩, by obtain ⟨i, h1, _, h2, _⟩ := info_parts info31; exact ⟨i, h1, h2, by decide⟩⟩
instance : Fld Tryz.prog 129 3 3 3 1 := ⟨⟨_, _, Tryz.underlying129, rfl, rfl, rfl⟩, by obtain ⟨i, h1, _, h2, _⟩ := info_parts info3; exact ⟨i, h1, h2, by decide⟩⟩
instance : Fld Tryz.prog 129 4 3 4 1 := ⟨⟨_, _, Tryz.underlying129, rfl, rfl, rfl⟩, by obtain ⟨i, h1, _, h2, _⟩ := info_parts info3; exact ⟨i, h1, h2, by decide⟩⟩
instance : Told Tryz.prog 130 := ⟨_, Tryz.underlying130, by kernel_rfl⟩
instance : Fld Tryz.prog 130 0 31 0 1 := ⟨⟨_, _, Tryz.underlying130, rfl, rfl, rfl⟩, by obtain ⟨i, h1, _, h2, _⟩ := info_parts info31; exact ⟨i, h1, h2, by decide⟩⟩
instance : Fld Tryz.prog 130 1 128 1 1 := ⟨⟨_, _, Tryz.underlying130, rfl, rfl, rfl⟩, by obtain ⟨i, h1, _, h2, _⟩ := info_parts info128; exact ⟨i, h1, h2, by decide⟩⟩
instance : Fld Tryz.prog 130 2 31 2 1 := ⟨⟨_, _, Tryz.underlying130, rfl, rfl, rfl⟩, by obtain ⟨i, h1, _, h2, _⟩ := info_parts info31; exact ⟨i, h1, h2, by decide⟩⟩
instance : Fld Tryz.prog 130 3 3 3 1 := ⟨⟨_, _, Tryz.underlying130, rfl, rfl, rfl⟩, by obtain ⟨i, h1, _, h2, _⟩ := info_parts info3; exact ⟨i, h1, h2, by decide⟩⟩
instance : Fld Tryz.prog 130 4 3 4 1 := ⟨⟨_, _, Tryz.underlying130, rfl, rfl, rfl⟩, by obtain ⟨i, h1, _, h2, _⟩ := info_parts info3; exact ⟨i, h1, h2, by decide⟩⟩
instance : Told Tryz.prog 136 := ⟨_, Tryz.underlying136, by kernel_rfl⟩
instance : Fld Tryz.prog 136 0 31 0 1 := ⟨⟨_, _, Tryz.underlying136, rfl, rfl, rfl⟩, by obtain ⟨i, h1, _, h2, _⟩ := info_parts info31; exact ⟨i, h1, h2, by decide⟩⟩
instance : Fld Tryz.prog 136 1 31 1 1 := ⟨⟨_, _, Tryz.underlying136, rfl, rfl, rfl⟩, by obtain ⟨i, h1, _, h2, _⟩ := info_parts info31; exact ⟨i, h1, h2, by decide⟩⟩
instance : Fld Tryz.prog 136 2 31 2 1 := ⟨⟨_, _, Tryz.underlying136, rfl, rfl, rfl⟩, by obtain ⟨i, h1, _, h2, _⟩ := info_parts info31; exact ⟨i, h1, h2, by decide⟩⟩
instance : Fld Tryz.prog 136 3 31 3 1 := ⟨⟨_, _, Tryz.underlying136, rfl, rfl, rfl⟩, by obtain ⟨i, h1, _, h2, _⟩ := info_parts info31; exact ⟨i, h1, h2, by decide⟩⟩
instance : Fld Tryz.prog 136 4 3 4 1 := ⟨⟨_, _, Tryz.underlying136, rfl, rfl, rfl⟩, by obtain ⟨i, h1, _, h2, _⟩ := info_parts info3; exact ⟨i, h1, h2, by decide⟩⟩
instance : Told Tryz.prog 137 := ⟨_, Tryz.underlying137, by kernel_rfl⟩
instance : Fld Tryz.prog 137 0 31 0 1 := ⟨⟨_, _, Tryz.underlying137, rfl, rfl, rfl⟩, by obtain ⟨i, h1, _, h2, _⟩ := info_parts info31; exact ⟨i, h1, h2, by decide⟩⟩
instance : Fld Tryz.prog 137 1 31 1 1 := ⟨⟨_, _, Tryz.underlying137, rfl, rfl, rfl⟩, by obtain ⟨i, h1, _, h2, _⟩ := info_parts info31; exact ⟨i, h1, h2, by decide⟩⟩
instance : Fld Tryz.prog 137 2 31 2 1 := ⟨⟨_, _, Tryz.underlying137, rfl, rfl, rfl⟩, by obtain ⟨i, h1, _, h2, _⟩ := info_parts info31; exact ⟨i, h1, h2, by decide⟩⟩
instance : Fld Tryz.prog 137 3 31 3 1 := ⟨⟨_, _, Tryz.underlying137, rfl, rfl, rfl⟩, by obtain ⟨i, h1, _, h2, _⟩ := info_parts info31; exact ⟨i, h1, h2, by decide⟩⟩
instance : Fld Tryz.prog 137 4 3 4 1 := ⟨⟨_, _, Tryz.underlying137, rfl, rfl, rfl⟩, by obtain ⟨i, h1, _, h2, _⟩ := info_parts info3; exact ⟨i, h1, h2, by decide⟩⟩
instance : Told Tryz.prog 145 := ⟨_, Tryz.underlying145, by kernel_rfl⟩
instance : Fld Tryz.prog 145 0 4 0 1 := ⟨⟨_, _, Tryz.underlying145, rfl, rfl, rfl⟩, by obtain ⟨i, h1, _, h2, _⟩ := info_parts info4; exact ⟨i, h1, h2, by decide⟩⟩
instance : Fld Tryz.prog 145 1 144 1 1 := ⟨⟨_, _, Tryz.underlying145, rfl, rfl, rfl⟩, by obtain ⟨i, h1, _, h2, _⟩ := info_parts info144; exact ⟨i, h1, h2, by decide⟩⟩
instance : Fld Tryz.prog 145 2 51 2 1 := ⟨⟨_, _, Tryz.underlying145, rfl, rfl, rfl⟩, by obtain ⟨i, h1, _, h2, _⟩ := info_parts info51; exact ⟨i, h1, h2, by decide⟩⟩
instance : Told Tryz.prog 146 := ⟨_, Tryz.underlying146, by kernel_rfl⟩
instance : Fld Tryz.prog 146 0 4 0 1 := ⟨⟨_, _, Tryz.underlying146, rfl, rfl, rfl⟩, by obtain ⟨i, h1, _, h2, _⟩ := info_parts info4; exact ⟨i, h1, h2, by decide⟩⟩
instance : Fld Tryz.prog 146 1 144 1 1 := ⟨⟨_, _, Tryz.underlying146, rfl, rfl, rfl⟩, by obtain ⟨i, h1, _, h2, _⟩ := info_parts info144; exact ⟨i, h1, h2, by decide⟩⟩
instance : Fld Tryz.prog 146 2 51 2 1 := ⟨⟨_, _, Tryz.underlying146, rfl, rfl, rfl⟩, by obtain ⟨i, h1, _, h2, _⟩ := info_parts info51; exact ⟨i, h1, h2, by decide⟩⟩
instance : Told Tryz.prog 150 := ⟨_, Tryz.underlying150, by kernel_rfl⟩
instance : Fld Tryz.prog 150 0 76 0 1 := ⟨⟨_, _, Tryz.underlying150, rfl, rfl, rfl⟩, by obtain ⟨i, h1, _, h2, _⟩ := info_parts info76; exact ⟨i, h1, h2, by decide⟩⟩
instance : Fld Tryz.prog 150 1 148 1 1 := ⟨⟨_, _, Tryz.underlying150, rfl, rfl, rfl⟩, by obtain ⟨i, h1, _, h2, _⟩ := info_parts info148; exact ⟨i, h1, h2, by decide⟩⟩
instance : Fld Tryz.prog 150 2 3 2 1 := ⟨⟨_, _, Tryz.underlying150, rfl, rfl, rfl⟩, by obtain ⟨i, h1, _, h2, _⟩ := info_parts info3; exact ⟨i, h1, h2, by decide⟩⟩
instance : Fld Tryz.prog 150 3 3 3 1 := ⟨⟨_, _, Tryz.underlying150, rfl, rfl, rfl⟩, by obtain ⟨i, h1, _, h2, _⟩ := info_parts info3; exact ⟨i, h1, h2, by decide⟩⟩
instance : Told Tryz.prog 151 := ⟨_, Tryz.underlying151, by kernel_rfl⟩
instance : Fld Tryz.prog 151 0 76 0 1 := ⟨⟨_, _, Tryz.underlying151, rfl, rfl, rfl⟩, by obtain ⟨i, h1, _, h2, _⟩ := info_parts info76; exact ⟨i, h1, h2, by decide⟩⟩
instance : Fld Tryz.prog 151 1 148 1 1 := ⟨⟨_, _, Tryz.underlying151, rfl, rfl, rfl⟩, by obtain ⟨i, h1, _, h2, _⟩ := info_parts info148; exact ⟨i, h1, h2, by decide⟩⟩
instance : Fld Tryz.prog 151 2 3 2 1 := ⟨⟨_, _, Tryz.underlying151, rfl, rfl, rfl⟩, by obtain ⟨i, h1, _, h2, _⟩ := info_parts info3; exact ⟨i, h1, h2, by decide⟩⟩
instance : Fld Tryz.prog 151 3 3 3 1 := ⟨⟨_, _, Tryz.underlying151, rfl, rfl, rfl⟩, by obtain ⟨i, h1, _, h2, _⟩ := info_parts info3; exact ⟨i, h1, h2, by decide⟩⟩
instance : Told Tryz.prog 152 := ⟨_, Tryz.underlying152, by kernel_rfl⟩
instance : Fld Tryz.prog 152 0 3 0 1 := ⟨⟨_, _, Tryz.underlying152, rfl, rfl, rfl⟩, by obtain ⟨i, h1, _, h2, _⟩ := info_parts info3; exact ⟨i, h1, h2, by decide⟩⟩
instance : Fld Tryz.prog 152 1 9 1 1 := ⟨⟨_, _, Tryz.underlying152, rfl, rfl, rfl⟩, by obtain ⟨i, h1, _, h2, _⟩ := info_parts info9; exact ⟨i, h1, h2, by decide⟩⟩
instance : Fld Tryz.prog 152 2 3 2 1 := ⟨⟨_, _, Tryz.underlying152, rfl, rfl, rfl⟩, by obtain ⟨i, h1, _, h2, _⟩ := info_parts info3; exact ⟨i, h1, h2, by decide⟩⟩
instance : Told Tryz.prog 153 := ⟨_, Tryz.underlying153, by kernel_rfl⟩
instance : Fld Tryz.prog 153 0 3 0 1 := ⟨⟨_, _, Tryz.underlying153, rfl, rfl, rfl⟩, by obtain ⟨i, h1, _, h2, _⟩ := info_parts info3; exact ⟨i, h1, h2, by decide⟩⟩
instance : Fld Tryz.prog 153 1 9 1 1 := ⟨⟨_, _, Tryz.underlying153, rfl, rfl, rfl⟩, by obtain ⟨i, h1, _, h2, _⟩ := info_parts info9; exact ⟨i, h1, h2, by decide⟩⟩
instance : Fld Tryz.prog 153 2 3 2 1 := ⟨⟨_, _, Tryz.underlying153, rfl, rfl, rfl⟩, by obtain ⟨i, h1, _, h2, _⟩ := info_parts info3; exact ⟨i, h1, h2, by decide⟩⟩
instance : Told Tryz.prog 158 := ⟨_, Tryz.underlying158, by kernel_rfl⟩
instance : Fld Tryz.prog 158 0 3 0 1 := ⟨⟨_, _, Tryz.underlying158, rfl, rfl, rfl⟩, by obtain ⟨i, h1, _, h2, _⟩ := info_parts info3; exact ⟨i, h1, h2, by decide⟩⟩
instance : Fld Tryz.prog 158 1 157 1 1 := ⟨⟨_, _, Tryz.underlying158, rfl, rfl, rfl⟩, by obtain ⟨i, h1, _, h2, _⟩ := info_parts info157; exact ⟨i, h1, h2, by decide⟩⟩
instance : Fld Tryz.prog 158 2 4 2 1 := ⟨⟨_, _, Tryz.underlying158, rfl, rfl, rfl⟩, by obtain ⟨i, h1, _, h2, _⟩ := info_parts info4; exact ⟨i, h1, h2, by decide⟩⟩
instance : Fld Tryz.prog 158 3 4 3 1 := ⟨⟨_, _, Tryz.underlying158, rfl, rfl, rfl⟩, by obtain ⟨i, h1, _, h2, _⟩ := info_parts info4; exact ⟨i, h1, h2, by decide⟩⟩
instance : Fld Tryz.prog 158 4 4 4 1 := ⟨⟨_, _, Tryz.underlying158, rfl, rfl, rfl⟩, by obtain ⟨i, h1, _, h2, _⟩ := info_parts info4; exact ⟨i, h1, h2, by decide⟩⟩
instance : Fld Tryz.prog 158 5 4 5 1 := ⟨⟨_, _, Tryz.underlying158, rfl, rfl, rfl⟩, by obtain ⟨i, h1, _, h2, _⟩ := info_parts info4; exact ⟨i, h1, h2, by decide⟩⟩
instance : Fld Tryz.prog 158 6 3 6 1 := ⟨⟨_, _, Tryz.underlying158, rfl, rfl, rfl⟩, by obtain ⟨i, h1, _, h2, _⟩ := info_parts info3; exact ⟨i, h1, h2, by decide⟩⟩
instance : Told Tryz.prog 159 := ⟨_, Tryz.underlying159, by kernel_rfl⟩
instance : Fld Tryz.prog 159 0 3 0 1 := ⟨⟨_, _, Tryz.underlying159, rfl, rfl, rfl⟩, by obtain ⟨i, h1, _, h2, _⟩ := info_parts info3; exact ⟨i, h1, h2, by decide⟩⟩
instance : Fld Tryz.prog 159 1 157 1 1 := ⟨⟨_, _, Tryz.underlying159, rfl, rfl, rfl⟩, by obtain ⟨i, h1, _, h2, _⟩ := info_parts info157; exact ⟨i, h1, h2, by decide⟩⟩
instance : Fld Tryz.prog 159 2 4 2 1 := ⟨⟨_, _, Tryz.underlying159, rfl, rfl, rfl⟩, by obtain ⟨i, h1, _, h2, _⟩ := info_parts info4; exact ⟨i, h1, h2, by decide⟩⟩
instance : Fld Tryz.prog 159 3 4 3 1 := ⟨⟨_, _, Tryz.underlying159, rfl, rfl, rfl⟩, by obtain ⟨i, h1, _, h2, _⟩ := info_parts info4; exact ⟨i, h1, h2, by decide⟩⟩
instance : Fld Tryz.prog 159 4 4 4 1 := ⟨⟨_, _, Tryz.underlying159, rfl, rfl, rfl⟩, by obtain ⟨i, h1, _, h2, _⟩ := info_parts info4; exact ⟨i, h1, h2, by decide⟩⟩
instance : Fld Tryz.prog 159 5 4 5 1 := ⟨⟨_, _, Tryz.underlying159, rfl, rfl, rfl⟩, by obtain ⟨i, h1, _, h2, _⟩ := info_parts info4; exact ⟨i, h1, h2, by decide⟩⟩
instance : Fld Tryz.prog 159 6 3 6 1 := ⟨⟨_, _, Tryz.underlying159, rfl, rfl, rfl⟩, by obtain ⟨i, h1, _, h2, _⟩ := info_parts info3; exact ⟨i, h1, h2, by decide⟩⟩
instance : Told Tryz.prog 166 := ⟨_, Tryz.underlying166, by kernel_rfl⟩
instance : Fld Tryz.prog 166 0 3 0 1 := ⟨⟨_, _, Tryz.underlying166, rfl, rfl, rfl⟩, by obtain ⟨i, h1, _, h2, _⟩ := info_parts info3; exact ⟨i, h1, h2, by decide⟩⟩
instance : Fld Tryz.prog 166 1 3 1 1 := ⟨⟨_, _, Tryz.underlying166, rfl, rfl, rfl⟩, by obtain ⟨i, h1, _, h2, _⟩ := info_parts info3; exact ⟨i, h1, h2, by decide⟩⟩
instance : Fld Tryz.prog 166 2 3 2 1 := ⟨⟨_, _, Tryz.underlying166, rfl, rfl, rfl⟩, by obtain ⟨i, h1, _, h2, _⟩ := info_parts info3; exact ⟨i, h1, h2, by decide⟩⟩
instance : Told Tryz.prog 167 := ⟨_, Tryz.underlying167, by kernel_rfl⟩
instance : Fld Tryz.prog 167 0 3 0 1 := ⟨⟨_, _, Tryz.underlying167, rfl, rfl, rfl⟩, by obtain ⟨i, h1, _, h2, _⟩ := info_parts info3; exact ⟨i, h1, h2, by decide⟩⟩
instance : Fld Tryz.prog 167 1 3 1 1 := ⟨⟨_, _, Tryz.underlying167, rfl, rfl, rfl⟩, by obtain ⟨i, h1, _, h2, _⟩ := info_parts info3; exact ⟨i, h1, h2, by decide⟩⟩
instance : Fld Tryz.prog 167 2 3 2 1 := ⟨⟨_, _, Tryz.underlying167, rfl, rfl, rfl⟩, by obtain ⟨i, h1, _, h2, _⟩ := info_parts info3; exact ⟨i, h1, h2, by decide⟩⟩
instance : Told Tryz.prog 191 := ⟨_, Tryz.underlying191, by kernel_rfl⟩
instance : Fld Tryz.prog 191 0 22 0 1 := ⟨⟨_, _, Tryz.underlying191, rfl, rfl, rfl⟩, by obtain ⟨i, h1, _, h2, _⟩ := info_parts info22; exact ⟨i, h1, h2, by decide⟩⟩
instance : Fld Tryz.prog 191 1 190 1 1 := ⟨⟨_, _, Tryz.underlying191, rfl, rfl, rfl⟩, by obtain ⟨i, h1, _, h2, _⟩ := info_parts info190; exact ⟨i, h1, h2, by decide⟩⟩
instance : Told Tryz.prog 192 := ⟨_, Tryz.underlying192, by kernel_rfl⟩
instance : Fld Tryz.prog 192 0 22 0 1 := ⟨⟨_, _, Tryz.underlying192, rfl, rfl, rfl⟩, by obtain ⟨i, h1, _, h2, _⟩ := info_parts info22; exact ⟨i, h1, h2, by decide⟩⟩
instance : Fld Tryz.prog 192 1 190 1 1 := ⟨⟨_, _, Tryz.underlying192, rfl, rfl, rfl⟩, by obtain ⟨i, h1, _, h2, _⟩ := info_parts info190; exact ⟨i, h1, h2, by decide⟩⟩
instance : Told Tryz.prog 202 := ⟨_, Tryz.underlying202, by kernel_rfl⟩
instance : Fld Tryz.prog 202 0 198 0 1 := ⟨⟨_, _, Tryz.underlying202, rfl, rfl, rfl⟩, by obtain ⟨i, h1, _, h2, _⟩ := info_parts info198; exact ⟨i, h1, h2, by decide⟩⟩
instance : Fld Tryz.prog 202 1 200 1 1 := ⟨⟨_, _, Tryz.underlying202, rfl, rfl, rfl⟩, by obtain ⟨i, h1, _, h2, _⟩ := info_parts info200; exact ⟨i, h1, h2, by decide⟩⟩
instance : Fld Tryz.prog 202 2 3 2 1 := ⟨⟨_, _, Tryz.underlying202, rfl, rfl, rfl⟩, by obtain ⟨i, h1, _, h2, _⟩ := info_parts info3; exact ⟨i, h1, h2, by decide⟩⟩
instance : Fld Tryz.prog 202 3 31 3 1 := ⟨⟨_, _, Tryz.underlying202, rfl, rfl, rfl⟩, by obtain ⟨i, h1, _, h2, _⟩ := info_parts info31; exact ⟨i, h1, h2, by decide⟩⟩
instance : Fld Tryz.prog 202 4 31 4 1 := ⟨⟨_, _, Tryz.underlying202, rfl, rfl, rfl⟩, by obtain ⟨i, h1, _, h2, _⟩ := info_parts info31; exact ⟨i, h1, h2, by decide⟩⟩
instance : Told Tryz.prog 203 := ⟨_, Tryz.underlying203, by kernel_rfl⟩
instance : Fld Tryz.prog 203 0 198 0 1 := ⟨⟨_, _, Tryz.underlying203, rfl, rfl, rfl⟩, by obtain ⟨i, h1, _, h2, _⟩ := info_parts info198; exact ⟨i, h1, h2, by decide⟩⟩
instance : Fld Tryz.prog 203 1 200 1 1 := ⟨⟨_, _, Tryz.underlying203, rfl, rfl, rfl⟩, by obtain ⟨i, h1, _, h2, _⟩ := info_parts info200; exact ⟨i, h1, h2, by decide⟩⟩
instance : Fld Tryz.prog 203 2 3 2 1 := ⟨⟨_, _, Tryz.underlying203, rfl, rfl, rfl⟩, by obtain ⟨i, h1, _, h2, _⟩ := info_parts info3; exact ⟨i, h1, h2, by decide⟩⟩
instance : Fld Tryz.prog 203 3 31 3 1 := ⟨⟨_, _, Tryz.underlying203, rfl, rfl, rfl⟩, by obtain ⟨i, h1, _, h2, _⟩ := info_parts info31; exact ⟨i, h1, h2, by decide⟩⟩
instance : Fld Tryz.prog 203 4 31 4 1 := ⟨⟨_, _, Tryz.underlying203, rfl, rfl, rfl⟩, by obtain ⟨i, h1, _, h2, _⟩ := info_parts info31; exact ⟨i, h1, h2, by decide⟩⟩
instance : Told Tryz.prog 207 := ⟨_, Tryz.underlying207, by kernel_rfl⟩
instance : Fld Tryz.prog 207 0 31 0 1 := ⟨⟨_, _, Tryz.underlying207, rfl, rfl, rfl⟩, by obtain ⟨i, h1, _, h2, _⟩ := info_parts info31; exact ⟨i, h1, h2, by decide⟩⟩
instance : Fld Tryz.prog 207 1 31 1 1 := ⟨⟨_, _, Tryz.underlying207, rfl, rfl, rfl⟩, by obtain ⟨i, h1, _, h2, _⟩ := info_parts info31; exact ⟨i, h1, h2, by decide⟩⟩
instance : Fld Tryz.prog 207 2 3 2 1 := ⟨⟨_, _, Tryz.underlying207, rfl, rfl, rfl⟩, by obtain ⟨i, h1, _, h2, _⟩ := info_parts info3; exact ⟨i, h1, h2, by decide⟩⟩
instance : Told Tryz.prog 208 := ⟨_, Tryz.underlying208, by kernel_rfl⟩
instance : Fld Tryz.prog 208 0 31 0 1 := ⟨⟨_, _, Tryz.underlying208, rfl, rfl, rfl⟩, by obtain ⟨i, h1, _, h2, _⟩ := info_parts info31; exact ⟨i, h1, h2, by decide⟩⟩
instance : Fld Tryz.prog 208 1 31 1 1 := ⟨⟨_, _, Tryz.underlying208, rfl, rfl, rfl⟩, by obtain ⟨i, h1, _, h2, _⟩ := info_parts info31; exact ⟨i, h1, h2, by decide⟩⟩
instance : Fld Tryz.prog 208 2 3 2 1 := ⟨⟨_, _, Tryz.underlying208, rfl, rfl, rfl⟩, by obtain ⟨i, h1, _, h2, _⟩ := info_parts info3; exact ⟨i, h1, h2, by decide⟩⟩
instance : Told Tryz.prog 213 := ⟨_, Tryz.underlying213, by kernel_rfl⟩
instance : Fld Tryz.prog 213 0 3 0 1 := ⟨⟨_, _, Tryz.underlying213, rfl, rfl, rfl⟩, by obtain ⟨i, h1, _, h2, _⟩ := info_parts info3; exact ⟨i, h1, h2, by decide⟩⟩
instance : Fld Tryz.prog 213 1 212 1 1 := ⟨⟨_, _, Tryz.underlying213, rfl, rfl, rfl⟩, by obtain ⟨i, h1, _, h2, _⟩ := info_parts info212; exact ⟨i, h1, h2, by decide⟩⟩
instance : Told Tryz.prog 214 := ⟨_, Tryz.underlying214, by kernel_rfl⟩
instance : Fld Tryz.prog 214 0 3 0 1 := ⟨⟨_, _, Tryz.underlying214, rfl, rfl, rfl⟩, by obtain ⟨i, h1, _, h2, _⟩ := info_parts info3; exact ⟨i, h1, h2, by decide⟩⟩
instance : Fld Tryz.prog 214 1 212 1 1 := ⟨⟨_, _, Tryz.underlying214, rfl, rfl, rfl⟩, by obtain ⟨i, h1, _, h2, _⟩ := info_parts info212; exact ⟨i, h1, h2, by decide⟩⟩
instance : Told Tryz.prog 219 := ⟨_, Tryz.underlying219, by kernel_rfl⟩
instance : Fld Tryz.prog 219 0 159 0 7 := ⟨⟨_, _, Tryz.underlying219, rfl, rfl, rfl⟩, by obtain ⟨i, h1, _, h2, _⟩ := info_parts info159; exact ⟨i, h1, h2, by decide⟩⟩
instance : Fld Tryz.prog 219 1 3 7 1 := ⟨⟨_, _, Tryz.underlying219, rfl, rfl, rfl⟩, by obtain ⟨i, h1, _, h2, _⟩ := info_parts info3; exact ⟨i, h1, h2, by decide⟩⟩
instance : Told Tryz.prog 220 := ⟨_, Tryz.underlying220, by kernel_rfl⟩
instance : Fld Tryz.prog 220 0 159 0 7 := ⟨⟨_, _, Tryz.underlying220, rfl, rfl, rfl⟩, by obtain ⟨i, h1, _, h2, _⟩ := info_parts info159; exact ⟨i, h1, h2, by decide⟩⟩
instance : Fld Tryz.prog 220 1 3 7 1 := ⟨⟨_, _, Tryz.underlying220, rfl, rfl, rfl⟩, by obtain ⟨i, h1, _, h2, _⟩ := info_parts info3; exact ⟨i, h1, h2, by decide⟩⟩
instance : Told Tryz.prog 221 := ⟨_, Tryz.underlying221, by kernel_rfl⟩
instance : Fld Tryz.prog 221 0 218 0 1 := ⟨⟨_, _, Tryz.underlying221, rfl, rfl, rfl⟩, by obtain ⟨i, h1, _, h2, _⟩ := info_parts info218; exact ⟨i, h1, h2, by decide⟩⟩
instance : Fld Tryz.prog 221 1 4 1 1 := ⟨⟨_, _, Tryz.underlying221, rfl, rfl, rfl⟩, by obtain ⟨i, h1, _, h2, _⟩ := info_parts info4; exact ⟨i, h1, h2, by decide⟩⟩
instance : Told Tryz.prog 222 := ⟨_, Tryz.underlying222, by kernel_rfl⟩
instance : Fld Tryz.prog 222 0 218 0 1 := ⟨⟨_, _, Tryz.underlying222, rfl, rfl, rfl⟩, by obtain ⟨i, h1, _, h2, _⟩ := info_parts info218; exact ⟨i, h1, h2, by decide⟩⟩
instance : Fld Tryz.prog 222 1 4 1 1 := ⟨⟨_, _, Tryz.underlying222, rfl, rfl, rfl⟩, by obtain ⟨i, h1, _, h2, _⟩ := info_parts info4; exact ⟨i, h1, h2, by decide⟩⟩
instance : Told Tryz.prog 242 := ⟨_, Tryz.underlying242, by kernel_rfl⟩
instance : Fld Tryz.prog 242 0 9 0 1 := ⟨⟨_, _, Tryz.underlying242, rfl, rfl, rfl⟩, by obtain ⟨i, h1, _, h2, _⟩ := info_parts info9; exact ⟨i, h1, h2, by decide⟩⟩
instance : Fld Tryz.prog 242 1 3 1 1 := ⟨⟨_, _, Tryz.underlying242, rfl, rfl, rfl⟩, by obtain ⟨i, h1, _, h2, _⟩ := info_parts info3; exact ⟨i, h1, h2, by decide⟩⟩
instance : Fld Tryz.prog 242 2 3 2 1 := ⟨⟨_, _, Tryz.underlying242, rfl, rfl, rfl⟩, by obtain ⟨i, h1, _, h2, _⟩ := info_parts info3; exact ⟨i, h1, h2, by decide⟩⟩
instance : Told Tryz.prog 243 := ⟨_, Tryz.underlying243, by kernel_rfl⟩
instance : Fld Tryz.prog 243 0 9 0 1 := ⟨⟨_, _, Tryz.underlying243, rfl, rfl, rfl⟩, by obtain ⟨i, h1, _, h2, _⟩ := info_parts info9; exact ⟨i, h1, h2, by decide⟩⟩
instance : Fld Tryz.prog 243 1 3 1 1 := ⟨⟨_, _, Tryz.underlying243, rfl, rfl, rfl⟩, by obtain ⟨i, h1, _, h2, _⟩ := info_parts info3; exact ⟨i, h1, h2, by decide⟩⟩
instance : Fld Tryz.prog 243 2 3 2 1 := ⟨⟨_, _, Tryz.underlying243, rfl, rfl, rfl⟩, by obtain ⟨i, h1, _, h2, _⟩ := info_parts info3; exact ⟨i, h1, h2, by decide⟩⟩
instance : Told Tryz.prog 252 := ⟨_, Tryz.underlying252, by kernel_rfl⟩
instance : Fld Tryz.prog 252 0 3 0 1 := ⟨⟨_, _, Tryz.underlying252, rfl, rfl, rfl⟩, by obtain ⟨i, h1, _, h2, _⟩ := info_parts info3; exact ⟨i, h1, h2, by decide⟩⟩
instance : Told Tryz.prog 253 := ⟨_, Tryz.underlying253, by kernel_rfl⟩
instance : Fld Tryz.prog 253 0 3 0 1 := ⟨⟨_, _, Tryz.underlying253, rfl, rfl, rfl⟩, by obtain ⟨i, h1, _, h2, _⟩ := info_parts info3; exact ⟨i, h1, h2, by decide⟩⟩
instance : Fld Tryz.prog 256 0 17 0 1 := ⟨⟨_, _, Tryz.underlying256, rfl, rfl, rfl⟩, by obtain ⟨i, h1, _, h2, _⟩ := info_parts info17; exact ⟨i, h1, h2, by decide⟩⟩
instance : Fld Tryz.prog 256 2 255 2 1 := ⟨⟨_, _, Tryz.underlying256, rfl, rfl, rfl⟩, by obtain ⟨i, h1, _, h2, _⟩ := info_parts info255; exact ⟨i, h1, h2, by decide⟩⟩
instance : Fld Tryz.prog 257 0 17 0 1 := ⟨⟨_, _, Tryz.underlying257, rfl, rfl, rfl⟩, by obtain ⟨i, h1, _, h2, _⟩ := info_parts info17; exact ⟨i, h1, h2, by decide⟩⟩
instance : Fld Tryz.prog 257 2 255 2 1 := ⟨⟨_, _, Tryz.underlying257, rfl, rfl, rfl⟩, by obtain ⟨i, h1, _, h2, _⟩ := info_parts info255; exact ⟨i, h1, h2, by decide⟩⟩
instance : Told Tryz.prog 270 := ⟨_, Tryz.underlying270, by kernel_rfl⟩
instance : Fld Tryz.prog 270 0 269 0 1 := ⟨⟨_, _, Tryz.underlying270, rfl, rfl, rfl⟩, by obtain ⟨i, h1, _, h2, _⟩ := info_parts info269; exact ⟨i, h1, h2, by decide⟩⟩
instance : Told Tryz.prog 271 := ⟨_, Tryz.underlying271, by kernel_rfl⟩
instance : Fld Tryz.prog 271 0 269 0 1 := ⟨⟨_, _, Tryz.underlying271, rfl, rfl, rfl⟩, by obtain ⟨i, h1, _, h2, _⟩ := info_parts info269; exact ⟨i, h1, h2, by decide⟩⟩
instance : Told Tryz.prog 274 := ⟨_, Tryz.underlying274, by kernel_rfl⟩
instance : Fld Tryz.prog 274 0 272 0 1 := ⟨⟨_, _, Tryz.underlying274, rfl, rfl, rfl⟩, by obtain ⟨i, h1, _, h2, _⟩ := info_parts info272; exact ⟨i, h1, h2, by decide⟩⟩
instance : Fld Tryz.prog 274 1 273 1 1 := ⟨⟨_, _, Tryz.underlying274, rfl, rfl, rfl⟩, by obtain ⟨i, h1, _, h2, _⟩ := info_parts info273; exact ⟨i, h1, h2, by decide⟩⟩
instance : Fld Tryz.prog 274 2 31 2 1 := ⟨⟨_, _, Tryz.underlying274, rfl, rfl, rfl⟩, by obtain ⟨i, h1, _, h2, _⟩ := info_parts info31; exact ⟨i, h1, h2, by decide⟩⟩
instance : Fld Tryz.prog 274 3 31 3 1 := ⟨⟨_, _, Tryz.underlying274, rfl, rfl, rfl⟩, by obtain ⟨i, h1, _, h2, _⟩ := info_parts info31; exact ⟨i, h1, h2, by decide⟩⟩
instance : Told Tryz.prog 275 := ⟨_, Tryz.underlying275, by kernel_rfl⟩
instance : Fld Tryz.prog 275 0 272 0 1 := ⟨⟨_, _, Tryz.underlying275, rfl, rfl, rfl⟩, by obtain ⟨i, h1, _, h2, _⟩ := info_parts info272; exact ⟨i, h1, h2, by decide⟩⟩
instance : Fld Tryz.prog 275 1 273 1 1 := ⟨⟨_, _, Tryz.underlying275, rfl, rfl, rfl⟩, by obtain ⟨i, h1, _, h2, _⟩ := info_parts info273; exact ⟨i, h1, h2, by decide⟩⟩
instance : Fld Tryz.prog 275 2 31 2 1 := ⟨⟨_, _, Tryz.underlying275, rfl, rfl, rfl⟩, by obtain ⟨i, h1, _, h2, _⟩ := info_parts info31; exact ⟨i, h1, h2, by decide⟩⟩
instance : Fld Tryz.prog 275 3 31 3 1 := ⟨⟨_, _, Tryz.underlying275, rfl, rfl, rfl⟩, by obtain ⟨i, h1, _, h2, _⟩ := info_parts info31; exact ⟨i, h1, h2, by decide⟩⟩
instance : Told Tryz.prog 287 := ⟨_, Tryz.underlying287, by kernel_rfl⟩
instance : Fld Tryz.prog 287 0 3 0 1 := ⟨⟨_, _, Tryz.underlying287, rfl, rfl, rfl⟩, by obtain ⟨i, h1, _, h2, _⟩ := info_parts info3; exact ⟨i, h1, h2, by decide⟩⟩
instance : Fld Tryz.prog 287 1 3 1 1 := ⟨⟨_, _, Tryz.underlying287, rfl, rfl, rfl⟩, by obtain ⟨i, h1, _, h2, _⟩ := info_parts info3; exact ⟨i, h1, h2, by decide⟩⟩
instance : Fld Tryz.prog 287 2 3 2 1 := ⟨⟨_, _, Tryz.underlying287, rfl, rfl, rfl⟩, by obtain ⟨i, h1, _, h2, _⟩ := info_parts info3; exact ⟨i, h1, h2, by decide⟩⟩
instance : Fld Tryz.prog 287 3 3 3 1 := ⟨⟨_, _, Tryz.underlying287, rfl, rfl, rfl⟩, by obtain ⟨i, h1, _, h2, _⟩ := info_parts info3; exact ⟨i, h1, h2, by decide⟩⟩
instance : Fld Tryz.prog 287 4 3 4 1 := ⟨⟨_, _, Tryz.underlying287, rfl, rfl, rfl⟩, by obtain ⟨i, h1, _, h2, _⟩ := info_parts info3; exact ⟨i, h1, h2, by decide⟩⟩
instance : Told Tryz.prog 288 := ⟨_, Tryz.underlying288, by kernel_rfl⟩
instance : Fld Tryz.prog 288 0 3 0 1 := ⟨⟨_, _, Tryz.underlying288, rfl, rfl, rfl⟩, by obtain ⟨i, h1, _, h2, _⟩ := info_parts info3; exact ⟨i, h1, h2, by decide⟩⟩
instance : Fld Tryz.prog 288 1 3 1 1 := ⟨⟨_, _, Tryz.underlying288, rfl, rfl, rfl⟩, by obtain ⟨i, h1, _, h2, _⟩ := info_parts info3; exact ⟨i, h1, h2, by decide⟩⟩
instance : Fld Tryz.prog 288 2 3 2 1 := ⟨⟨_, _, Tryz.underlying288, rfl, rfl, rfl⟩, by obtain ⟨i, h1, _, h2, _⟩ := info_parts info3; exact ⟨i, h1, h2, by decide⟩⟩
instance : Fld Tryz.prog 288 3 3 3 1 := ⟨⟨_, _, Tryz.underlying288, rfl, rfl, rfl⟩, by obtain ⟨i, h1, _, h2, _⟩ := info_parts info3; exact ⟨i, h1, h2, by decide⟩⟩
instance : Fld Tryz.prog 288 4 3 4 1 := ⟨⟨_, _, Tryz.underlying288, rfl, rfl, rfl⟩, by obtain ⟨i, h1, _, h2, _⟩ := info_parts info3; exact ⟨i, h1, h2, by decide⟩⟩
instance : Told Tryz.prog 292 := ⟨_, Tryz.underlying292, by kernel_rfl⟩
instance : Fld Tryz.prog 292 0 76 0 1 := ⟨⟨_, _, Tryz.underlying292, rfl, rfl, rfl⟩, by obtain ⟨i, h1, _, h2, _⟩ := info_parts info76; exact ⟨i, h1, h2, by decide⟩⟩
instance : Fld Tryz.prog 292 1 3 1 1 := ⟨⟨_, _, Tryz.underlying292, rfl, rfl, rfl⟩, by obtain ⟨i, h1, _, h2, _⟩ := info_parts info3; exact ⟨i, h1, h2, by decide⟩⟩
instance : Fld Tryz.prog 292 2 3 2 1 := ⟨⟨_, _, Tryz.underlying292, rfl, rfl, rfl⟩, by obtain ⟨i, h1, _, h2, _⟩ := info_parts info3; exact ⟨i, h1, h2, by decide⟩⟩
instance : Told Tryz.prog 293 := ⟨_, Tryz.underlying293, by kernel_rfl⟩
instance : Fld Tryz.prog 293 0 76 0 1 := ⟨⟨_, _, Tryz.underlying293, rfl, rfl, rfl⟩, by obtain ⟨i, h1, _, h2, _⟩ := info_parts info76; exact ⟨i, h1, h2, by decide⟩⟩
instance : Fld Tryz.prog 293 1 3 1 1 := ⟨⟨_, _, Tryz.underlying293, rfl, rfl, rfl⟩, by obtain ⟨i, h1, _, h2, _⟩ := info_parts info3; exact ⟨i, h1, h2, by decide⟩⟩
instance : Fld Tryz.prog 293 2 3 2 1 := ⟨⟨_, _, Tryz.underlying293, rfl, rfl, rfl⟩, by obtain ⟨i, h1, _, h2, _⟩ := info_parts info3; exact ⟨i, h1, h2, by decide⟩⟩
instance : Told Tryz.prog 309 := ⟨_, Tryz.underlying309, by kernel_rfl⟩
instance : Fld Tryz.prog 309 0 3 0 1 := ⟨⟨_, _, Tryz.underlying309, rfl, rfl, rfl⟩, by obtain ⟨i, h1, _, h2, _⟩ := info_parts info3; exact ⟨i, h1, h2, by decide⟩⟩
instance : Fld Tryz.prog 309 1 3 1 1 := ⟨⟨_, _, Tryz.underlying309, rfl, rfl, rfl⟩, by obtain ⟨i, h1, _, h2, _⟩ := info_parts info3; exact ⟨i, h1, h2, by decide⟩⟩
instance : Fld Tryz.prog 309 2 31 2 1 := ⟨⟨_, _, Tryz.underlying309, rfl, rfl, rfl⟩, by obtain ⟨i, h1, _, h2, _⟩ := info_parts info31; exact ⟨i, h1, h2, by decide⟩⟩
instance : Told Tryz.prog 315 := ⟨_, Tryz.underlying315, by kernel_rfl⟩
instance : Fld Tryz.prog 315 0 17 0 1 := ⟨⟨_, _, Tryz.underlying315, rfl, rfl, rfl⟩, by obtain ⟨i, h1, _, h2, _⟩ := info_parts info17; exact ⟨i, h1, h2, by decide⟩⟩
instance : Told Tryz.prog 316 := ⟨_, Tryz.underlying316, by kernel_rfl⟩
instance : Fld Tryz.prog 316 0 17 0 1 := ⟨⟨_, _, Tryz.underlying316, rfl, rfl, rfl⟩, by obtain ⟨i, h1, _, h2, _⟩ := info_parts info17; exact ⟨i, h1, h2, by decide⟩⟩
instance : Told Tryz.prog 350 := ⟨_, Tryz.underlying350, by kernel_rfl⟩
instance : Fld Tryz.prog 350 0 5 0 1 := ⟨⟨_, _, Tryz.underlying350, rfl, rfl, rfl⟩, by obtain ⟨i, h1, _, h2, _⟩ := info_parts info5; exact ⟨i, h1, h2, by decide⟩⟩
instance : Fld Tryz.prog 350 1 5 1 1 := ⟨⟨_, _, Tryz.underlying350, rfl, rfl, rfl⟩, by obtain ⟨i, h1, _, h2, _⟩ := info_parts info5; exact ⟨i, h1, h2, by decide⟩⟩
instance : Told Tryz.prog 351 := ⟨_, Tryz.underlying351, by kernel_rfl⟩
instance : Fld Tryz.prog 351 0 5 0 1 := ⟨⟨_, _, Tryz.underlying351, rfl, rfl, rfl⟩, by obtain ⟨i, h1, _, h2, _⟩ := info_parts info5; exact ⟨i, h1, h2, by decide⟩⟩
instance : Fld Tryz.prog 351 1 5 1 1 := ⟨⟨_, _, Tryz.underlying351, rfl, rfl, rfl⟩, by obtain ⟨i, h1, _, h2, _⟩ := info_parts info5; exact ⟨i, h1, h2, by decide⟩⟩
instance : Told Tryz.prog 359 := ⟨_, Tryz.underlying359, by kernel_rfl⟩
instance : Fld Tryz.prog 359 0 17 0 1 := ⟨⟨_, _, Tryz.underlying359, rfl, rfl, rfl⟩, by obtain ⟨i, h1, _, h2, _⟩ := info_parts info17; exact ⟨i, h1, h2, by decide⟩⟩
instance : Fld Tryz.prog 359 1 17 1 1 := ⟨⟨_, _, Tryz.underlying359, rfl, rfl, rfl⟩, by obtain ⟨i, h1, _, h2, _⟩ := info_parts info17; exact ⟨i, h1, h2, by decide⟩⟩
instance : Fld Tryz.prog 359 2 17 2 1 := ⟨⟨_, _, Tryz.underlying359, rfl, rfl, rfl⟩, by obtain ⟨i, h1, _, h2, _⟩ := info_parts info17; exact ⟨i, h1, h2, by decide⟩⟩
instance : Fld Tryz.prog 359 3 9 3 1 := ⟨⟨_, _, Tryz.underlying359, rfl, rfl, rfl⟩, by obtain ⟨i, h1, _, h2, _⟩ := info_parts info9; exact ⟨i, h1, h2, by decide⟩⟩
instance : Told Tryz.prog 360 := ⟨_, Tryz.underlying360, by kernel_rfl⟩
instance : Fld Tryz.prog 360 0 17 0 1 := ⟨⟨_, _, Tryz.underlying360, rfl, rfl, rfl⟩, by obtain ⟨i, h1, _, h2, _⟩ := info_parts info17; exact ⟨i, h1, h2, by decide⟩⟩
instance : Fld Tryz.prog 360 1 17 1 1 := ⟨⟨_, _, Tryz.underlying360, rfl, rfl, rfl⟩, by obtain ⟨i, h1, _, h2, _⟩ := info_parts info17; exact ⟨i, h1, h2, by decide⟩⟩
instance : Fld Tryz.prog 360 2 17 2 1 := ⟨⟨_, _, Tryz.underlying360, rfl, rfl, rfl⟩, by obtain ⟨i, h1, _, h2, _⟩ := info_parts info17; exact ⟨i, h1, h2, by decide⟩⟩
instance : Fld Tryz.prog 360 3 9 3 1 := ⟨⟨_, _, Tryz.underlying360, rfl, rfl, rfl⟩, by obtain ⟨i, h1, _, h2, _⟩ := info_parts info9; exact ⟨i, h1, h2, by decide⟩⟩
instance : Told Tryz.prog 362 := ⟨_, Tryz.underlying362, by kernel_rfl⟩
instance : Told Tryz.prog 363 := ⟨_, Tryz.underlying363, by kernel_rfl⟩
instance : Fld Tryz.prog 370 0 12 0 1 := ⟨⟨_, _, Tryz.underlying370, rfl, rfl, rfl⟩, by obtain ⟨i, h1, _, h2, _⟩ := info_parts info12; exact ⟨i, h1, h2, by decide⟩⟩
instance : Fld Tryz.prog 370 1 12 1 1 := ⟨⟨_, _, Tryz.underlying370, rfl, rfl, rfl⟩, by obtain ⟨i, h1, _, h2, _⟩ := info_parts info12; exact ⟨i, h1, h2, by decide⟩⟩
instance : Fld Tryz.prog 370 2 353 2 1 := ⟨⟨_, _, Tryz.underlying370, rfl, rfl, rfl⟩, by obtain ⟨i, h1, _, h2, _⟩ := info_parts info353; exact ⟨i, h1, h2, by decide⟩⟩
instance : Fld Tryz.prog 370 3 365 3 1 := ⟨⟨_, _, Tryz.underlying370, rfl, rfl, rfl⟩, by obtain ⟨i, h1, _, h2, _⟩ := info_parts info365; exact ⟨i, h1, h2, by decide⟩⟩
instance : Fld Tryz.prog 370 4 5 4 1 := ⟨⟨_, _, Tryz.underlying370, rfl, rfl, rfl⟩, by obtain ⟨i, h1, _, h2, _⟩ := info_parts info5; exact ⟨i, h1, h2, by decide⟩⟩
instance : Fld Tryz.prog 370 5 5 5 1 := ⟨⟨_, _, Tryz.underlying370, rfl, rfl, rfl⟩, by obtain ⟨i, h1, _, h2, _⟩ := info_parts info5; exact ⟨i, h1, h2, by decide⟩⟩
instance : Fld Tryz.prog 370 6 262 6 1 := ⟨⟨_, _, Tryz.underlying370, rfl, rfl, rfl⟩, by obtain ⟨i, h1, _, h2, _⟩ := info_parts info262; exact ⟨i, h1, h2, by decide⟩⟩
instance : Fld Tryz.prog 370 8 367 8 1 := ⟨⟨_, _, Tryz.underlying370, rfl, rfl, rfl⟩, by obtain ⟨i, h1, _, h2, _⟩ := info_parts info367; exact ⟨i, h1, h2, by decide⟩⟩
instance : Fld Tryz.prog 370 9 368 9 1 := ⟨⟨_, _, Tryz.underlying370, rfl, rfl, rfl⟩, by obtain ⟨i, h1, _, h2, _⟩ := info_parts info368; exact ⟨i, h1, h2, by decide⟩⟩
instance : Fld Tryz.prog 370 10 369 10 1 := ⟨⟨_, _, Tryz.underlying370, rfl, rfl, rfl⟩, by obtain ⟨i, h1, _, h2, _⟩ := info_parts info369; exact ⟨i, h1, h2, by decide⟩⟩
instance : Fld Tryz.prog 371 0 12 0 1 := ⟨⟨_, _, Tryz.underlying371, rfl, rfl, rfl⟩, by obtain ⟨i, h1, _, h2, _⟩ := info_parts info12; exact ⟨i, h1, h2, by decide⟩⟩
instance : Fld Tryz.prog 371 1 12 1 1 := ⟨⟨_, _, Tryz.underlying371, rfl, rfl, rfl⟩, by obtain ⟨i, h1, _, h2, _⟩ := info_parts info12; exact ⟨i, h1, h2, by decide⟩⟩
instance : Fld Tryz.prog 371 2 353 2 1 := ⟨⟨_, _, Tryz.underlying371, rfl, rfl, rfl⟩, by obtain ⟨i, h1, _, h2, _⟩ := info_parts info353; exact ⟨i, h1, h2, by decide⟩⟩
instance : Fld Tryz.prog 371 3 365 3 1 := ⟨⟨_, _, Tryz.underlying371, rfl, rfl, rfl⟩, by obtain ⟨i, h1, _, h2, _⟩ := info_parts info365; exact ⟨i, h1, h2, by decide⟩⟩
instance : Fld Tryz.prog 371 4 5 4 1 := ⟨⟨_, _, Tryz.underlying371, rfl, rfl, rfl⟩, by obtain ⟨i, h1, _, h2, _⟩ := info_parts info5; exact ⟨i, h1, h2, by decide⟩⟩
instance : Fld Tryz.prog 371 5 5 5 1 := ⟨⟨_, _, Tryz.underlying371, rfl, rfl, rfl⟩, by obtain ⟨i, h1, _, h2, _⟩ := info_parts info5; exact ⟨i, h1, h2, by decide⟩⟩
instance : Fld Tryz.prog 371 6 262 6 1 := ⟨⟨_, _, Tryz.underlying371, rfl, rfl, rfl⟩, by obtain ⟨i, h1, _, h2, _⟩ := info_parts info262; exact ⟨i, h1, h2, by decide⟩⟩
instance : Fld Tryz.prog 371 8 367 8 1 := ⟨⟨_, _, Tryz.underlying371, rfl, rfl, rfl⟩, by obtain ⟨i, h1, _, h2, _⟩ := info_parts info367; exact ⟨i, h1, h2, by decide⟩⟩
instance : Fld Tryz.prog 371 9 368 9 1 := ⟨⟨_, _, Tryz.underlying371, rfl, rfl, rfl⟩, by obtain ⟨i, h1, _, h2, _⟩ := info_parts info368; exact ⟨i, h1, h2, by decide⟩⟩
instance : Fld Tryz.prog 371 10 369 10 1 := ⟨⟨_, _, Tryz.underlying371, rfl, rfl, rfl⟩, by obtain ⟨i, h1, _, h2, _⟩ := info_parts info369; exact ⟨i, h1, h2, by decide⟩⟩
instance : Told Tryz.prog 374 := ⟨_, Tryz.underlying374, by kernel_rfl⟩
instance : Fld Tryz.prog 374 0 3 0 1 := ⟨⟨_, _, Tryz.underlying374, rfl, rfl, rfl⟩, by obtain ⟨i, h1, _, h2, _⟩ := info_parts info3; exact ⟨i, h1, h2, by decide⟩⟩
instance : Fld Tryz.prog 374 1 3 1 1 := ⟨⟨_, _, Tryz.underlying374, rfl, rfl, rfl⟩, by obtain ⟨i, h1, _, h2, _⟩ := info_parts info3; exact ⟨i, h1, h2, by decide⟩⟩
instance : Fld Tryz.prog 374 2 3 2 1 := ⟨⟨_, _, Tryz.underlying374, rfl, rfl, rfl⟩, by obtain ⟨i, h1, _, h2, _⟩ := info_parts info3; exact ⟨i, h1, h2, by decide⟩⟩
instance : Fld Tryz.prog 374 3 3 3 1 := ⟨⟨_, _, Tryz.underlying374, rfl, rfl, rfl⟩, by obtain ⟨i, h1, _, h2, _⟩ := info_parts info3; exact ⟨i, h1, h2, by decide⟩⟩
instance : Fld Tryz.prog 374 4 3 4 1 := ⟨⟨_, _, Tryz.underlying374, rfl, rfl, rfl⟩, by obtain ⟨i, h1, _, h2, _⟩ := info_parts info3; exact ⟨i, h1, h2, by decide⟩⟩
instance : Fld Tryz.prog 374 5 3 5 1 := ⟨⟨_, _, Tryz.underlying374, rfl, rfl, rfl⟩, by obtain ⟨i, h1, _, h2, _⟩ := info_parts info3; exact ⟨i, h1, h2, by decide⟩⟩
instance : Fld Tryz.prog 374 6 3 6 1 := ⟨⟨_, _, Tryz.underlying374, rfl, rfl, rfl⟩, by obtain ⟨i, h1, _, h2, _⟩ := info_parts info3; exact ⟨i, h1, h2, by decide⟩⟩
instance : Told Tryz.prog 375 := ⟨_, Tryz.underlying375, by kernel_rfl⟩
instance : Fld Tryz.prog 375 0 3 0 1 := ⟨⟨_, _, Tryz.underlying375, rfl, rfl, rfl⟩, by obtain ⟨i, h1, _, h2, _⟩ := info_parts info3; exact ⟨i, h1, h2, by decide⟩⟩
instance : Fld Tryz.prog 375 1 3 1 1 := ⟨⟨_, _, Tryz.underlying375, rfl, rfl, rfl⟩, by obtain ⟨i, h1, _, h2, _⟩ := info_parts info3; exact ⟨i, h1, h2, by decide⟩⟩
instance : Fld Tryz.prog 375 2 3 2 1 := ⟨⟨_, _, Tryz.underlying375, rfl, rfl, rfl⟩, by obtain ⟨i, h1, _, h2, _⟩ := info_parts info3; exact ⟨i, h1, h2, by decide⟩⟩
instance : Fld Tryz.prog 375 3 3 3 1 := ⟨⟨_, _, Tryz.underlying375, rfl, rfl, rfl⟩, by obtain ⟨i, h1, _, h2, _⟩ := info_parts info3; exact ⟨i, h1, h2, by decide⟩⟩
instance : Fld Tryz.prog 375 4 3 4 1 := ⟨⟨_, _, Tryz.underlying375, rfl, rfl, rfl⟩, by obtain ⟨i, h1, _, h2, _⟩ := info_parts info3; exact ⟨i, h1, h2, by decide⟩⟩
instance : Fld Tryz.prog 375 5 3 5 1 := ⟨⟨_, _, Tryz.underlying375, rfl, rfl, rfl⟩, by obtain ⟨i, h1, _, h2, _⟩ := info_parts info3; exact ⟨i, h1, h2, by decide⟩⟩
instance : Fld Tryz.prog 375 6 3 6 1 := ⟨⟨_, _, Tryz.underlying375, rfl, rfl, rfl⟩, by obtain ⟨i, h1, _, h2, _⟩ := info_parts info3; exact ⟨i, h1, h2, by decide⟩⟩
instance : Told Tryz.prog 376 := ⟨_, Tryz.underlying376, by kernel_rfl⟩
instance : Fld Tryz.prog 376 0 375 0 7 := ⟨⟨_, _, Tryz.underlying376, rfl, rfl, rfl⟩, by obtain ⟨i, h1, _, h2, _⟩ := info_parts info375; exact ⟨i, h1, h2, by decide⟩⟩
instance : Fld Tryz.prog 376 1 31 7 1 := ⟨⟨_, _, Tryz.underlying376, rfl, rfl, rfl⟩, by obtain ⟨i, h1, _, h2, _⟩ := info_parts info31; exact ⟨i, h1, h2, by decide⟩⟩
instance : Fld Tryz.prog 376 2 31 8 1 := ⟨⟨_, _, Tryz.underlying376, rfl, rfl, rfl⟩, by obtain ⟨i, h1, _, h2, _⟩ := info_parts info31; exact ⟨i, h1, h2, by decide⟩⟩
instance : Told Tryz.prog 377 := ⟨_, Tryz.underlying377, by kernel_rfl⟩
instance : Fld Tryz.prog 377 0 375 0 7 := ⟨⟨_, _, Tryz.underlying377, rfl, rfl, rfl⟩, by obtain ⟨i, h1, _, h2, _⟩ := info_parts info375; exact ⟨i, h1, h2, by decide⟩⟩
instance : Fld Tryz.prog 377 1 31 7 1 := ⟨⟨_, _, Tryz.underlying377, rfl, rfl, rfl⟩, by obtain ⟨i, h1, _, h2, _⟩ := info_parts info31; exact ⟨i, h1, h2, by decide⟩⟩
instance : Fld Tryz.prog 377 2 31 8 1 := ⟨⟨_, _, Tryz.underlying377, rfl, rfl, rfl⟩, by obtain ⟨i, h1, _, h2, _⟩ := info_parts info31; exact ⟨i, h1, h2, by decide⟩⟩
instance : Told Tryz.prog 379 := ⟨_, Tryz.underlying379, by kernel_rfl⟩
instance : Fld Tryz.prog 379 0 22 0 1 := ⟨⟨_, _, Tryz.underlying379, rfl, rfl, rfl⟩, by obtain ⟨i, h1, _, h2, _⟩ := info_parts info22; exact ⟨i, h1, h2, by decide⟩⟩
instance : Fld Tryz.prog 379 1 3 1 1 := ⟨⟨_, _, Tryz.underlying379, rfl, rfl, rfl⟩, by obtain ⟨i, h1, _, h2, _⟩ := info_parts info3; exact ⟨i, h1, h2, by decide⟩⟩
instance : Fld Tryz.prog 379 2 3 2 1 := ⟨⟨_, _, Tryz.underlying379, rfl, rfl, rfl⟩, by obtain ⟨i, h1, _, h2, _⟩ := info_parts info3; exact ⟨i, h1, h2, by decide⟩⟩
instance : Told Tryz.prog 380 := ⟨_, Tryz.underlying380, by kernel_rfl⟩
instance : Fld Tryz.prog 380 0 22 0 1 := ⟨⟨_, _, Tryz.underlying380, rfl, rfl, rfl⟩, by obtain ⟨i, h1, _, h2, _⟩ := info_parts info22; exact ⟨i, h1, h2, by decide⟩⟩
instance : Fld Tryz.prog 380 1 3 1 1 := ⟨⟨_, _, Tryz.underlying380, rfl, rfl, rfl⟩, by obtain ⟨i, h1, _, h2, _⟩ := info_parts info3; exact ⟨i, h1, h2, by decide⟩⟩
instance : Fld Tryz.prog 380 2 3 2 1 := ⟨⟨_, _, Tryz.underlying380, rfl, rfl, rfl⟩, by obtain ⟨i, h1, _, h2, _⟩ := info_parts info3; exact ⟨i, h1, h2, by decide⟩⟩
instance : Told Tryz.prog 384 := ⟨_, Tryz.underlying384, by kernel_rfl⟩
instance : Fld Tryz.prog 384 0 9 0 1 := ⟨⟨_, _, Tryz.underlying384, rfl, rfl, rfl⟩, by obtain ⟨i, h1, _, h2, _⟩ := info_parts info9; exact ⟨i, h1, h2, by decide⟩⟩
instance : Fld Tryz.prog 384 1 262 1 1 := ⟨⟨_, _, Tryz.underlying384, rfl, rfl, rfl⟩, by obtain ⟨i, h1, _, h2, _⟩ := info_parts info262; exact ⟨i, h1, h2, by decide⟩⟩
instance : Told Tryz.prog 385 := ⟨_, Tryz.underlying385, by kernel_rfl⟩
instance : Fld Tryz.prog 385 0 9 0 1 := ⟨⟨_, _, Tryz.underlying385, rfl, rfl, rfl⟩, by obtain ⟨i, h1, _, h2, _⟩ := info_parts info9; exact ⟨i, h1, h2, by decide⟩⟩
instance : Fld Tryz.prog 385 1 262 1 1 := ⟨⟨_, _, Tryz.underlying385, rfl, rfl, rfl⟩, by obtain ⟨i, h1, _, h2, _⟩ := info_parts info262; exact ⟨i, h1, h2, by decide⟩⟩
instance : Told Tryz.prog 386 := ⟨_, Tryz.underlying386, by kernel_rfl⟩
instance : Fld Tryz.prog 386 0 9 0 1 := ⟨⟨_, _, Tryz.underlying386, rfl, rfl, rfl⟩, by obtain ⟨i, h1, _, h2, _⟩ := info_parts info9; exact ⟨i, h1, h2, by decide⟩⟩
instance : Told Tryz.prog 387 := ⟨_, Tryz.underlying387, by kernel_rfl⟩
instance : Fld Tryz.prog 387 0 9 0 1 := ⟨⟨_, _, Tryz.underlying387, rfl, rfl, rfl⟩, by obtain ⟨i, h1, _, h2, _⟩ := info_parts info9; exact ⟨i, h1, h2, by decide⟩⟩
instance : Told Tryz.prog 390 := ⟨_, Tryz.underlying390, by kernel_rfl⟩
instance : Fld Tryz.prog 390 0 368 0 1 := ⟨⟨_, _, Tryz.underlying390, rfl, rfl, rfl⟩, by obtain ⟨i, h1, _, h2, _⟩ := info_parts info368; exact ⟨i, h1, h2, by decide⟩⟩
instance : Fld Tryz.prog 390 1 34 1 1 := ⟨⟨_, _, Tryz.underlying390, rfl, rfl, rfl⟩, by obtain ⟨i, h1, _, h2, _⟩ := info_parts info34; exact ⟨i, h1, h2, by decide⟩⟩
instance : Fld Tryz.prog 390 2 34 2 1 := ⟨⟨_, _, Tryz.underlying390, rfl, rfl, rfl⟩, by obtain ⟨i, h1, _, h2, _⟩ := info_parts info34; exact ⟨i, h1, h2, by decide⟩⟩
instance : Fld Tryz.prog 390 3 353 3 1 := ⟨⟨_, _, Tryz.underlying390, rfl, rfl, rfl⟩, by obtain ⟨i, h1, _, h2, _⟩ := info_parts info353; exact ⟨i, h1, h2, by decide⟩⟩
instance : Fld Tryz.prog 390 4 353 4 1 := ⟨⟨_, _, Tryz.underlying390, rfl, rfl, rfl⟩, by obtain ⟨i, h1, _, h2, _⟩ := info_parts info353; exact ⟨i, h1, h2, by decide⟩⟩
instance : Told Tryz.prog 391 := ⟨_, Tryz.underlying391, by kernel_rfl⟩
instance : Fld Tryz.prog 391 0 368 0 1 := ⟨⟨_, _, Tryz.underlying391, rfl, rfl, rfl⟩, by obtain ⟨i, h1, _, h2, _⟩ := info_parts info368; exact ⟨i, h1, h2, by decide⟩⟩
instance : Fld Tryz.prog 391 1 34 1 1 := ⟨⟨_, _, Tryz.underlying391, rfl, rfl, rfl⟩, by obtain ⟨i, h1, _, h2, _⟩ := info_parts info34; exact ⟨i, h1, h2, by decide⟩⟩
instance : Fld Tryz.prog 391 2 34 2 1 := ⟨⟨_, _, Tryz.underlying391, rfl, rfl, rfl⟩, by obtain ⟨i, h1, _, h2, _⟩ := info_parts info34; exact ⟨i, h1, h2, by decide⟩⟩
instance : Fld Tryz.prog 391 3 353 3 1 := ⟨⟨_, _, Tryz.underlying391, rfl, rfl, rfl⟩, by obtain ⟨i, h1, _, h2, _⟩ := info_parts info353; exact ⟨i, h1, h2, by decide⟩⟩
instance : Fld Tryz.prog 391 4 353 4 1 := ⟨⟨_, _, Tryz.underlying391, rfl, rfl, rfl⟩, by obtain ⟨i, h1, _, h2, _⟩ := info_parts info353; exact ⟨i, h1, h2, by decide⟩⟩
instance : Told Tryz.prog 394 := ⟨_, Tryz.underlying394, by kernel_rfl⟩
instance : Fld Tryz.prog 394 0 368 0 1 := ⟨⟨_, _, Tryz.underlying394, rfl, rfl, rfl⟩, by obtain ⟨i, h1, _, h2, _⟩ := info_parts info368; exact ⟨i, h1, h2, by decide⟩⟩
instance : Fld Tryz.prog 394 1 369 1 1 := ⟨⟨_, _, Tryz.underlying394, rfl, rfl, rfl⟩, by obtain ⟨i, h1, _, h2, _⟩ := info_parts info369; exact ⟨i, h1, h2, by decide⟩⟩
instance : Fld Tryz.prog 394 2 393 2 1 := ⟨⟨_, _, Tryz.underlying394, rfl, rfl, rfl⟩, by obtain ⟨i, h1, _, h2, _⟩ := info_parts info393; exact ⟨i, h1, h2, by decide⟩⟩
instance : Fld Tryz.prog 394 3 393 3 1 := ⟨⟨_, _, Tryz.underlying394, rfl, rfl, rfl⟩, by obtain ⟨i, h1, _, h2, _⟩ := info_parts info393; exact ⟨i, h1, h2, by decide⟩⟩
instance : Told Tryz.prog 395 := ⟨_, Tryz.underlying395, by kernel_rfl⟩
instance : Fld Tryz.prog 395 0 368 0 1 := ⟨⟨_, _, Tryz.underlying395, rfl, rfl, rfl⟩, by obtain ⟨i, h1, _, h2, _⟩ := info_parts info368; exact ⟨i, h1, h2, by decide⟩⟩
instance : Fld Tryz.prog 395 1 369 1 1 := ⟨⟨_, _, Tryz.underlying395, rfl, rfl, rfl⟩, by obtain ⟨i, h1, _, h2, _⟩ := info_parts info369; exact ⟨i, h1, h2, by decide⟩⟩
instance : Fld Tryz.prog 395 2 393 2 1 := ⟨⟨_, _, Tryz.underlying395, rfl, rfl, rfl⟩, by obtain ⟨i, h1, _, h2, _⟩ := info_parts info393; exact ⟨i, h1, h2, by decide⟩⟩
instance : Fld Tryz.prog 395 3 393 3 1 := ⟨⟨_, _, Tryz.underlying395, rfl, rfl, rfl⟩, by obtain ⟨i, h1, _, h2, _⟩ := info_parts info393; exact ⟨i, h1, h2, by decide⟩⟩
instance hb3 : HasBody Tryz.prog 3 := ⟨_, Tryz.func3, by kernel_rfl, by kernel_rfl⟩
instance hb4 : HasBody Tryz.prog 4 := ⟨_, Tryz.func4, by kernel_rfl, by kernel_rfl⟩
instance hb5 : HasBody Tryz.prog 5 := ⟨_, Tryz.func5, by kernel_rfl, by kernel_rfl⟩
instance hb6 : HasBody Tryz.prog 6 := ⟨_, Tryz.func6, by kernel_rfl, by kernel_rfl⟩
instance hb7 : HasBody Tryz.prog 7 := ⟨_, Tryz.func7, by kernel_rfl, by kernel_rfl⟩
instance hb8 : HasBody Tryz.prog 8 := ⟨_, Tryz.func8, by kernel_rfl, by kernel_rfl⟩
instance hb9 : HasBody Tryz.prog 9 := ⟨_, Tryz.func9, by kernel_rfl, by kernel_rfl⟩
instance hb10 : HasBody Tryz.prog 10 := ⟨_, Tryz.func10, by kernel_rfl, by kernel_rfl⟩
instance hb11 : HasBody Tryz.prog 11 := ⟨_, Tryz.func11, by kernel_rfl, by kernel_rfl⟩
instance hb12 : HasBody Tryz.prog 12 := ⟨_, Tryz.func12, by kernel_rfl, by kernel_rfl⟩
instance hb13 : HasBody Tryz.prog 13 := ⟨_, Tryz.func13, by kernel_rfl, by kernel_rfl⟩
instance hb14 : HasBody Tryz.prog 14 := ⟨_, Tryz.func14, by kernel_rfl, by kernel_rfl⟩
instance hb15 : HasBody Tryz.prog 15 := ⟨_, Tryz.func15, by kernel_rfl, by kernel_rfl⟩
instance hb16 : HasBody Tryz.prog 16 := ⟨_, Tryz.func16, by kernel_rfl, by kernel_rfl⟩
instance hb17 : HasBody Tryz.prog 17 := ⟨_, Tryz.func17, by kernel_rfl, by kernel_rfl⟩
instance hb18 : HasBody Tryz.prog 18 := ⟨_, Tryz.func18, by kernel_rfl, by kernel_rfl⟩
instance hb19 : HasBody Tryz.prog 19 := ⟨_, Tryz.func19, by kernel_rfl, by kernel_rfl⟩
instance hb20 : HasBody Tryz.prog 20 := ⟨_, Tryz.func20, by kernel_rfl, by kernel_rfl⟩
instance hb21 : HasBody Tryz.prog 21 := ⟨_, Tryz.func21, by kernel_rfl, by kernel_rfl⟩
instance hb22 : HasBody Tryz.prog 22 := ⟨_, Tryz.func22, by kernel_rfl, by kernel_rfl⟩
instance hb23 : HasBody Tryz.prog 23 := ⟨_, Tryz.func23, by kernel_rfl, by kernel_rfl⟩
instance hb24 : HasBody Tryz.prog 24 := ⟨_, Tryz.func24, by kernel_rfl, by kernel_rfl⟩
instance hb25 : HasBody Tryz.prog 25 := ⟨_, Tryz.func25, by kernel_rfl, by kernel_rfl⟩
instance hb26 : HasBody Tryz.prog 26 := ⟨_, Tryz.func26, by kernel_rfl, by kernel_rfl⟩
instance hb27 : HasBody Tryz.prog 27 := ⟨_, Tryz.func27, by kernel_rfl, by kernel_rfl⟩
instance hb28 : HasBody Tryz.prog 28 := ⟨_, Tryz.func28, by kernel_rfl, by kernel_rfl⟩
instance hb29 : HasBody Tryz.prog 29 := ⟨_, Tryz.func29, by kernel_rfl, by kernel_rfl⟩
instance hb30 : HasBody Tryz.prog 30 := ⟨_, Tryz.func30, by kernel_rfl, by kernel_rfl⟩
instance hb31 : HasBody Tryz.prog 31 := ⟨_, Tryz.func31, by kernel_rfl, by kernel_rfl⟩
instance hb32 : HasBody Tryz.prog 32 := ⟨_, Tryz.func32, by kernel_rfl, by kernel_rfl⟩
instance hb33 : HasBody Tryz.prog 33 := ⟨_, Tryz.func33, by kernel_rfl, by kernel_rfl⟩
instance hb34 : HasBody Tryz.prog 34 := ⟨_, Tryz.func34, by kernel_rfl, by kernel_rfl⟩
instance hb35 : HasBody Tryz.prog 35 := ⟨_, Tryz.func35, by kernel_rfl, by kernel_rfl⟩
instance hb36 : HasBody Tryz.prog 36 := ⟨_, Tryz.func36, by kernel_rfl, by kernel_rfl⟩
instance hb37 : HasBody Tryz.prog 37 := ⟨_, Tryz.func37, by kernel_rfl, by kernel_rfl⟩
instance hb38 : HasBody Tryz.prog 38 := ⟨_, Tryz.func38, by kernel_rfl, by kernel_rfl⟩
instance hb39 : HasBody Tryz.prog 39 := ⟨_, Tryz.func39, by kernel_rfl, by kernel_rfl⟩
instance hb40 : HasBody Tryz.prog 40 := ⟨_, Tryz.func40, by kernel_rfl, by kernel_rfl⟩
instance hb41 : HasBody Tryz.prog 41 := ⟨_, Tryz.func41, by kernel_rfl, by kernel_rfl⟩
instance hb42 : HasBody Tryz.prog 42 := ⟨_, Tryz.func42, by kernel_rfl, by kernel_rfl⟩
instance hb43 : HasBody Tryz.prog 43 := ⟨_, Tryz.func43, by kernel_rfl, by kernel_rfl⟩
instance hb44 : HasBody Tryz.prog 44 := ⟨_, Tryz.func44, by kernel_rfl, by kernel_rfl⟩
instance hb45 : HasBody Tryz.prog 45 := ⟨_, Tryz.func45, by kernel_rfl, by kernel_rfl⟩
instance hb46 : HasBody Tryz.prog 46 := ⟨_, Tryz.func46, by kernel_rfl, by kernel_rfl⟩
instance hb47 : HasBody Tryz.prog 47 := ⟨_, Tryz.func47, by kernel_rfl, by kernel_rfl⟩
instance hb48 : HasBody Tryz.prog 48 := ⟨_, Tryz.func48, by kernel_rfl, by kernel_rfl⟩
instance hb49 : HasBody Tryz.prog 49 := ⟨_, Tryz.func49, by kernel_rfl, by kernel_rfl⟩
instance hb50 : HasBody Tryz.prog 50 := ⟨_, Tryz.func50, by kernel_rfl, by kernel_rfl⟩
instance hb51 : HasBody Tryz.prog 51 := ⟨_, Tryz.func51, by kernel_rfl, by kernel_rfl⟩
instance hb52 : HasBody Tryz.prog 52 := ⟨_, Tryz.func52, by kernel_rfl, by kernel_rfl⟩
instance hb53 : HasBody Tryz.prog 53 := ⟨_, Tryz.func53, by kernel_rfl, by kernel_rfl⟩
instance hb54 : HasBody Tryz.prog 54 := ⟨_, Tryz.func54, by kernel_rfl, by kernel_rfl⟩
instance hb55 : HasBody Tryz.prog 55 := ⟨_, Tryz.func55, by kernel_rfl, by kernel_rfl⟩
instance hb56 : HasBody Tryz.prog 56 := ⟨_, Tryz.func56, by kernel_rfl, by kernel_rfl⟩
instance hb57 : HasBody Tryz.prog 57 := ⟨_, Tryz.func57, by kernel_rfl, by kernel_rfl⟩
instance hb58 : HasBody Tryz.prog 58 := ⟨_, Tryz.func58, by kernel_rfl, by kernel_rfl⟩
instance hb59 : HasBody Tryz.prog 59 := ⟨_, Tryz.func59, by kernel_rfl, by kernel_rfl⟩
instance hb60 : HasBody Tryz.prog 60 := ⟨_, Tryz.func60, by kernel_rfl, by kernel_rfl⟩
instance hb61 : HasBody Tryz.prog 61 := ⟨_, Tryz.func61, by kernel_rfl, by kernel_rfl⟩
instance hb62 : HasBody Tryz.prog 62 := ⟨_, Tryz.func62, by kernel_rfl, by kernel_rfl⟩
instance hb63 : HasBody Tryz.prog 63 := ⟨_, Tryz.func63, by kernel_rfl, by kernel_rfl⟩
instance hb64 : HasBody Tryz.prog 64 := ⟨_, Tryz.func64, by kernel_rfl, by kernel_rfl⟩
instance hb65 : HasBody Tryz.prog 65 := ⟨_, Tryz.func65, by kernel_rfl, by kernel_rfl⟩
instance hb66 : HasBody Tryz.prog 66 := ⟨_, Tryz.func66, by kernel_rfl, by kernel_rfl⟩
instance hb67 : HasBody Tryz.prog 67 := ⟨_, Tryz.func67, by kernel_rfl, by kernel_rfl⟩
instance hb70 : HasBody Tryz.prog 70 := ⟨_, Tryz.func70, by kernel_rfl, by kernel_rfl⟩
instance hb71 : HasBody Tryz.prog 71 := ⟨_, Tryz.func71, by kernel_rfl, by kernel_rfl⟩
instance hb72 : HasBody Tryz.prog 72 := ⟨_, Tryz.func72, by kernel_rfl, by kernel_rfl⟩
instance hb73 : HasBody Tryz.prog 73 := ⟨_, Tryz.func73, by kernel_rfl, by kernel_rfl⟩
instance hb76 : HasBody Tryz.prog 76 := ⟨_, Tryz.func76, by kernel_rfl, by kernel_rfl⟩
instance hb77 : HasBody Tryz.prog 77 := ⟨_, Tryz.func77, by kernel_rfl, by kernel_rfl⟩
instance hb78 : HasBody Tryz.prog 78 := ⟨_, Tryz.func78, by kernel_rfl, by kernel_rfl⟩
instance hb79 : HasBody Tryz.prog 79 := ⟨_, Tryz.func79, by kernel_rfl, by kernel_rfl⟩
instance hb80 : HasBody Tryz.prog 80 := ⟨_, Tryz.func80, by kernel_rfl, by kernel_rfl⟩
instance hb81 : HasBody Tryz.prog 81 := ⟨_, Tryz.func81, by kernel_rfl, by kernel_rfl⟩
instance hb82 : HasBody Tryz.prog 82 := ⟨_, Tryz.func82, by kernel_rfl, by kernel_rfl⟩
instance hb83 : HasBody Tryz.prog 83 := ⟨_, Tryz.func83, by kernel_rfl, by kernel_rfl⟩
instance hb84 : HasBody Tryz.prog 84 := ⟨_, Tryz.func84, by kernel_rfl, by kernel_rfl⟩
instance hb85 : HasBody Tryz.prog 85 := ⟨_, Tryz.func85, by kernel_rfl, by kernel_rfl⟩
instance hb86 : HasBody Tryz.prog 86 := ⟨_, Tryz.func86, by kernel_rfl, by kernel_rfl⟩
instance hb87 : HasBody Tryz.prog 87 := ⟨_, Tryz.func87, by kernel_rfl, by kernel_rfl⟩
instance hb88 : HasBody Tryz.prog 88 := ⟨_, Tryz.func88, by kernel_rfl, by kernel_rfl⟩
instance hb89 : HasBody Tryz.prog 89 := ⟨_, Tryz.func89, by kernel_rfl, by kernel_rfl⟩
instance hb90 : HasBody Tryz.prog 90 := ⟨_, Tryz.func90, by kernel_rfl, by kernel_rfl⟩
instance hb91 : HasBody Tryz.prog 91 := ⟨_, Tryz.func91, by kernel_rfl, by kernel_rfl⟩
instance hb92 : HasBody Tryz.prog 92 := ⟨_, Tryz.func92, by kernel_rfl, by kernel_rfl⟩
instance hb93 : HasBody Tryz.prog 93 := ⟨_, Tryz.func93, by kernel_rfl, by kernel_rfl⟩
instance hb94 : HasBody Tryz.prog 94 := ⟨_, Tryz.func94, by kernel_rfl, by kernel_rfl⟩
instance hb95 : HasBody Tryz.prog 95 := ⟨_, Tryz.func95, by kernel_rfl, by kernel_rfl⟩
instance hb96 : HasBody Tryz.prog 96 := ⟨_, Tryz.func96, by kernel_rfl, by kernel_rfl⟩
instance hb97 : HasBody Tryz.prog 97 := ⟨_, Tryz.func97, by kernel_rfl, by kernel_rfl⟩
instance hb98 : HasBody Tryz.prog 98 := ⟨_, Tryz.func98, by kernel_rfl, by kernel_rfl⟩
instance hb99 : HasBody Tryz.prog 99 := ⟨_, Tryz.func99, by kernel_rfl, by kernel_rfl⟩
instance hb100 : HasBody Tryz.prog 100 := ⟨_, Tryz.func100, by kernel_rfl, by kernel_rfl⟩
instance hb101 : HasBody Tryz.prog 101 := ⟨_, Tryz.func101, by kernel_rfl, by kernel_rfl⟩
instance hb104 : HasBody Tryz.prog 104 := ⟨_, Tryz.func104, by kernel_rfl, by kernel_rfl⟩
instance hb105 : HasBody Tryz.prog 105 := ⟨_, Tryz.func105, by kernel_rfl, by kernel_rfl⟩
instance hb106 : HasBody Tryz.prog 106 := ⟨_, Tryz.func106, by kernel_rfl, by kernel_rfl⟩
instance hb107 : HasBody Tryz.prog 107 := ⟨_, Tryz.func107, by kernel_rfl, by kernel_rfl⟩
instance hb108 : HasBody Tryz.prog 108 := ⟨_, Tryz.func108, by kernel_rfl, by kernel_rfl⟩
instance hb112 : HasBody Tryz.prog 112 := ⟨_, Tryz.func112, by kernel_rfl, by kernel_rfl⟩
instance hb113 : HasBody Tryz.prog 113 := ⟨_, Tryz.func113, by kernel_rfl, by kernel_rfl⟩
instance hb114 : HasBody Tryz.prog 114 := ⟨_, Tryz.func114, by kernel_rfl, by kernel_rfl⟩
instance hb115 : HasBody Tryz.prog 115 := ⟨_, Tryz.func115, by kernel_rfl, by kernel_rfl⟩
instance hb116 : HasBody Tryz.prog 116 := ⟨_, Tryz.func116, by kernel_rfl, by kernel_rfl⟩
instance hb117 : HasBody Tryz.prog 117 := ⟨_, Tryz.func117, by kernel_rfl, by kernel_rfl⟩
instance hb119 : HasBody Tryz.prog 119 := ⟨_, Tryz.func119, by kernel_rfl, by kernel_rfl⟩
instance hb120 : HasBody Tryz.prog 120 := ⟨_, Tryz.func120, by kernel_rfl, by kernel_rfl⟩
instance hb121 : HasBody Tryz.prog 121 := ⟨_, Tryz.func121, by kernel_rfl, by kernel_rfl⟩
instance hb122 : HasBody Tryz.prog 122 := ⟨_, Tryz.func122, by kernel_rfl, by kernel_rfl⟩
instance hb129 : HasBody Tryz.prog 129 := ⟨_, Tryz.func129, by kernel_rfl, by kernel_rfl⟩
instance hb130 : HasBody Tryz.prog 130 := ⟨_, Tryz.func130, by kernel_rfl, by kernel_rfl⟩
instance hb131 : HasBody Tryz.prog 131 := ⟨_, Tryz.func131, by kernel_rfl, by kernel_rfl⟩
instance hb132 : HasBody Tryz.prog 132 := ⟨_, Tryz.func132, by kernel_rfl, by kernel_rfl⟩
instance hb133 : HasBody Tryz.prog 133 := ⟨_, Tryz.func133, by kernel_rfl, by kernel_rfl⟩
instance hb134 : HasBody Tryz.prog 134 := ⟨_, Tryz.func134, by kernel_rfl, by kernel_rfl⟩
instance hb135 : HasBody Tryz.prog 135 := ⟨_, Tryz.func135, by kernel_rfl, by kernel_rfl⟩
instance hb136 : HasBody Tryz.prog 136 := ⟨_, Tryz.func136, by kernel_rfl, by kernel_rfl⟩
instance hb137 : HasBody Tryz.prog 137 := ⟨_, Tryz.func137, by kernel_rfl, by kernel_rfl⟩
instance hb138 : HasBody Tryz.prog 138 := ⟨_, Tryz.func138, by kernel_rfl, by kernel_rfl⟩
instance hb140 : HasBody Tryz.prog 140 := ⟨_, Tryz.func140, by kernel_rfl, by kernel_rfl⟩
instance hb141 : HasBody Tryz.prog 141 := ⟨_, Tryz.func141, by kernel_rfl, by kernel_rfl⟩
instance hb142 : HasBody Tryz.prog 142 := ⟨_, Tryz.func142, by kernel_rfl, by kernel_rfl⟩
instance hb143 : HasBody Tryz.prog 143 := ⟨_, Tryz.func143, by kernel_rfl, by kernel_rfl⟩
instance hb146 : HasBody Tryz.prog 146 := ⟨_, Tryz.func146, by kernel_rfl, by kernel_rfl⟩
instance hb147 : HasBody Tryz.prog 147 := ⟨_, Tryz.func147, by kernel_rfl, by kernel_rfl⟩
instance hb148 : HasBody Tryz.prog 148 := ⟨_, Tryz.func148, by kernel_rfl, by kernel_rfl⟩
instance hb149 : HasBody Tryz.prog 149 := ⟨_, Tryz.func149, by kernel_rfl, by kernel_rfl⟩
instance hb155 : HasBody Tryz.prog 155 := ⟨_, Tryz.func155, by kernel_rfl, by kernel_rfl⟩
instance hb156 : HasBody Tryz.prog 156 := ⟨_, Tryz.func156, by kernel_rfl, by kernel_rfl⟩
instance hb157 : HasBody Tryz.prog 157 := ⟨_, Tryz.func157, by kernel_rfl, by kernel_rfl⟩
instance hb160 : HasBody Tryz.prog 160 := ⟨_, Tryz.func160, by kernel_rfl, by kernel_rfl⟩
instance hb161 : HasBody Tryz.prog 161 := ⟨_, Tryz.func161, by kernel_rfl, by kernel_rfl⟩
instance hb162 : HasBody Tryz.prog 162 := ⟨_, Tryz.func162, by kernel_rfl, by kernel_rfl⟩
instance hb165 : HasBody Tryz.prog 165 := ⟨_, Tryz.func165, by kernel_rfl, by kernel_rfl⟩
instance hb166 : HasBody Tryz.prog 166 := ⟨_, Tryz.func166, by kernel_rfl, by kernel_rfl⟩
instance hb167 : HasBody Tryz.prog 167 := ⟨_, Tryz.func167, by kernel_rfl, by kernel_rfl⟩
instance hb168 : HasBody Tryz.prog 168 := ⟨_, Tryz.func168, by kernel_rfl, by kernel_rfl⟩
instance hb169 : HasBody Tryz.prog 169 := ⟨_, Tryz.func169, by kernel_rfl, by kernel_rfl⟩
instance hb170 : HasBody Tryz.prog 170 := ⟨_, Tryz.func170, by kernel_rfl, by kernel_rfl⟩
instance hb171 : HasBody Tryz.prog 171 := ⟨_, Tryz.func171, by kernel_rfl, by kernel_rfl⟩
instance hb172 : HasBody Tryz.prog 172 := ⟨_, Tryz.func172, by kernel_rfl, by kernel_rfl⟩
instance hb173 : HasBody Tryz.prog 173 := ⟨_, Tryz.func173, by kernel_rfl, by kernel_rfl⟩
instance hb174 : HasBody Tryz.prog 174 := ⟨_, Tryz.func174, by kernel_rfl, by kernel_rfl⟩
instance hb175 : HasBody Tryz.prog 175 := ⟨_, Tryz.func175, by kernel_rfl, by kernel_rfl⟩
instance hb176 : HasBody Tryz.prog 176 := ⟨_, Tryz.func176, by kernel_rfl, by kernel_rfl⟩
instance hb184 : HasBody Tryz.prog 184 := ⟨_, Tryz.func184, by kernel_rfl, by kernel_rfl⟩
instance hb185 : HasBody Tryz.prog 185 := ⟨_, Tryz.func185, by kernel_rfl, by kernel_rfl⟩
instance hb186 : HasBody Tryz.prog 186 := ⟨_, Tryz.func186, by kernel_rfl, by kernel_rfl⟩
instance hb187 : HasBody Tryz.prog 187 := ⟨_, Tryz.func187, by kernel_rfl, by kernel_rfl⟩
instance hb188 : HasBody Tryz.prog 188 := ⟨_, Tryz.func188, by kernel_rfl, by kernel_rfl⟩
instance hb189 : HasBody Tryz.prog 189 := ⟨_, Tryz.func189, by kernel_rfl, by kernel_rfl⟩
instance hb191 : HasBody Tryz.prog 191 := ⟨_, Tryz.func191, by kernel_rfl, by kernel_rfl⟩
instance hb192 : HasBody Tryz.prog 192 := ⟨_, Tryz.func192, by kernel_rfl, by kernel_rfl⟩
instance hb198 : HasBody Tryz.prog 198 := ⟨_, Tryz.func198, by kernel_rfl, by kernel_rfl⟩
instance hb200 : HasBody Tryz.prog 200 := ⟨_, Tryz.func200, by kernel_rfl, by kernel_rfl⟩
instance hb202 : HasBody Tryz.prog 202 := ⟨_, Tryz.func202, by kernel_rfl, by kernel_rfl⟩
instance hb203 : HasBody Tryz.prog 203 := ⟨_, Tryz.func203, by kernel_rfl, by kernel_rfl⟩
instance hb223 : HasBody Tryz.prog 223 := ⟨_, Tryz.func223, by kernel_rfl, by kernel_rfl⟩
instance hb225 : HasBody Tryz.prog 225 := ⟨_, Tryz.func225, by kernel_rfl, by kernel_rfl⟩
instance hb226 : HasBody Tryz.prog 226 := ⟨_, Tryz.func226, by kernel_rfl, by kernel_rfl⟩
instance hb227 : HasBody Tryz.prog 227 := ⟨_, Tryz.func227, by kernel_rfl, by kernel_rfl⟩
instance hb228 : HasBody Tryz.prog 228 := ⟨_, Tryz.func228, by kernel_rfl, by kernel_rfl⟩
instance hb234 : HasBody Tryz.prog 234 := ⟨_, Tryz.func234, by kernel_rfl, by kernel_rfl⟩
instance hb236 : HasBody Tryz.prog 236 := ⟨_, Tryz.func236, by kernel_rfl, by kernel_rfl⟩
instance hb238 : HasBody Tryz.prog 238 := ⟨_, Tryz.func238, by kernel_rfl, by kernel_rfl⟩
end Go.Proofs.YtliijbndfcjpfaaGreatDoor
