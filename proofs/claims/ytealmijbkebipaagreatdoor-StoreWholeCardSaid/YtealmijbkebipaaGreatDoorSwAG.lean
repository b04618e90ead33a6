/- Facts on the program's types, by the kernel. bytes.Clone, and layer 3 (wire), walked. -/
import Derived.Test.YtealmijbkebipaaGreatDoorProg
import Derived.Test.YtealmijbkebipaaGreatDoorSwAF
namespace Go.Proofs.YtealmijbkebipaaGreatDoor
open Go
set_option maxRecDepth 100000
theorem mixed : Tryz.prog.follows .mixedOrders = true := by kernel_rfl
theorem tyS_3 : TyScalar Tryz.prog 3 := TyScalar.of (by kernel_rfl)
theorem tyS_4 : TyScalar Tryz.prog 4 := TyScalar.of (by kernel_rfl)
theorem tyS_5 : TyScalar Tryz.prog 5 := TyScalar.of (by kernel_rfl)
theorem tyS_9 : TyScalar Tryz.prog 9 := TyScalar.of (by kernel_rfl)
theorem tyS_22 : TyScalar Tryz.prog 22 := TyScalar.of (by kernel_rfl)
theorem tyS_23 : TyScalar Tryz.prog 23 := TyScalar.of (by kernel_rfl)
theorem tyS_27 : TyScalar Tryz.prog 27 := TyScalar.of (by kernel_rfl)
theorem tyS_29 : TyScalar Tryz.prog 29 := TyScalar.of (by kernel_rfl)
theorem tyS_30 : TyScalar Tryz.prog 30 := TyScalar.of (by kernel_rfl)
theorem tyS_33 : TyScalar Tryz.prog 33 := TyScalar.of (by kernel_rfl)
theorem tyS_38 : TyScalar Tryz.prog 38 := TyScalar.of (by kernel_rfl)
theorem tyS_41 : TyScalar Tryz.prog 41 := TyScalar.of (by kernel_rfl)
theorem tyS_45 : TyScalar Tryz.prog 45 := TyScalar.of (by kernel_rfl)
theorem tyS_56 : TyScalar Tryz.prog 56 := TyScalar.of (by kernel_rfl)
theorem tyS_57 : TyScalar Tryz.prog 57 := TyScalar.of (by kernel_rfl)
theorem tyS_58 : TyScalar Tryz.prog 58 := TyScalar.of (by kernel_rfl)
theorem tyS_70 : TyScalar Tryz.prog 70 := TyScalar.of (by kernel_rfl)
theorem tyS_71 : TyScalar Tryz.prog 71 := TyScalar.of (by kernel_rfl)
theorem tyS_72 : TyScalar Tryz.prog 72 := TyScalar.of (by kernel_rfl)
theorem tyS_104 : TyScalar Tryz.prog 104 := TyScalar.of (by kernel_rfl)
theorem tyS_127 : TyScalar Tryz.prog 127 := TyScalar.of (by kernel_rfl)
theorem tyS_128 : TyScalar Tryz.prog 128 := TyScalar.of (by kernel_rfl)
theorem tyS_158 : TyScalar Tryz.prog 158 := TyScalar.of (by kernel_rfl)
theorem tyS_172 : TyScalar Tryz.prog 172 := TyScalar.of (by kernel_rfl)
theorem tyS_186 : TyScalar Tryz.prog 186 := TyScalar.of (by kernel_rfl)
theorem tyA_35 : TyAgg Tryz.prog 35 8 := TyAgg.of (by kernel_rfl)
theorem tyA_40 : TyAgg Tryz.prog 40 2 := TyAgg.of (by kernel_rfl)
theorem tyA_43 : TyAgg Tryz.prog 43 7 := TyAgg.of (by kernel_rfl)
theorem tyA_47 : TyAgg Tryz.prog 47 3 := TyAgg.of (by kernel_rfl)
theorem tyA_67 : TyAgg Tryz.prog 67 3 := TyAgg.of (by kernel_rfl)
theorem tyA_79 : TyAgg Tryz.prog 79 2 := TyAgg.of (by kernel_rfl)
theorem tyA_82 : TyAgg Tryz.prog 82 2 := TyAgg.of (by kernel_rfl)
theorem tyA_86 : TyAgg Tryz.prog 86 3 := TyAgg.of (by kernel_rfl)
theorem tyA_101 : TyAgg Tryz.prog 101 4 := TyAgg.of (by kernel_rfl)
theorem tyA_107 : TyAgg Tryz.prog 107 4 := TyAgg.of (by kernel_rfl)
theorem tyA_110 : TyAgg Tryz.prog 110 8 := TyAgg.of (by kernel_rfl)
theorem tyA_122 : TyAgg Tryz.prog 122 4 := TyAgg.of (by kernel_rfl)
theorem tyA_126 : TyAgg Tryz.prog 126 6 := TyAgg.of (by kernel_rfl)
theorem tyA_178 : TyAgg Tryz.prog 178 3 := TyAgg.of (by kernel_rfl)
theorem tyA_179 : TyAgg Tryz.prog 179 21 := TyAgg.of (by kernel_rfl)
theorem tyA_222 : TyAgg Tryz.prog 222 256 := TyAgg.of (by kernel_rfl)
theorem tyN_3 : TySize Tryz.prog 3 1 := by show (Tryz.prog.info? 3).map (·.size) = some 1; kernel_rfl
theorem tyN_4 : TySize Tryz.prog 4 1 := by show (Tryz.prog.info? 4).map (·.size) = some 1; kernel_rfl
theorem tyN_5 : TySize Tryz.prog 5 1 := by show (Tryz.prog.info? 5).map (·.size) = some 1; kernel_rfl
theorem tyN_9 : TySize Tryz.prog 9 1 := by show (Tryz.prog.info? 9).map (·.size) = some 1; kernel_rfl
theorem tyN_23 : TySize Tryz.prog 23 1 := by show (Tryz.prog.info? 23).map (·.size) = some 1; kernel_rfl
theorem tyN_30 : TySize Tryz.prog 30 1 := by show (Tryz.prog.info? 30).map (·.size) = some 1; kernel_rfl
theorem tyN_33 : TySize Tryz.prog 33 1 := by show (Tryz.prog.info? 33).map (·.size) = some 1; kernel_rfl
theorem tyN_35 : TySize Tryz.prog 35 8 := by show (Tryz.prog.info? 35).map (·.size) = some 8; kernel_rfl
theorem tyN_38 : TySize Tryz.prog 38 1 := by show (Tryz.prog.info? 38).map (·.size) = some 1; kernel_rfl
theorem tyN_40 : TySize Tryz.prog 40 2 := by show (Tryz.prog.info? 40).map (·.size) = some 2; kernel_rfl
theorem tyN_41 : TySize Tryz.prog 41 1 := by show (Tryz.prog.info? 41).map (·.size) = some 1; kernel_rfl
theorem tyN_43 : TySize Tryz.prog 43 7 := by show (Tryz.prog.info? 43).map (·.size) = some 7; kernel_rfl
theorem tyN_45 : TySize Tryz.prog 45 1 := by show (Tryz.prog.info? 45).map (·.size) = some 1; kernel_rfl
theorem tyN_47 : TySize Tryz.prog 47 3 := by show (Tryz.prog.info? 47).map (·.size) = some 3; kernel_rfl
theorem tyN_58 : TySize Tryz.prog 58 1 := by show (Tryz.prog.info? 58).map (·.size) = some 1; kernel_rfl
theorem tyN_67 : TySize Tryz.prog 67 3 := by show (Tryz.prog.info? 67).map (·.size) = some 3; kernel_rfl
theorem tyN_70 : TySize Tryz.prog 70 1 := by show (Tryz.prog.info? 70).map (·.size) = some 1; kernel_rfl
theorem tyN_71 : TySize Tryz.prog 71 1 := by show (Tryz.prog.info? 71).map (·.size) = some 1; kernel_rfl
theorem tyN_72 : TySize Tryz.prog 72 1 := by show (Tryz.prog.info? 72).map (·.size) = some 1; kernel_rfl
theorem tyN_79 : TySize Tryz.prog 79 2 := by show (Tryz.prog.info? 79).map (·.size) = some 2; kernel_rfl
theorem tyN_82 : TySize Tryz.prog 82 2 := by show (Tryz.prog.info? 82).map (·.size) = some 2; kernel_rfl
theorem tyN_86 : TySize Tryz.prog 86 3 := by show (Tryz.prog.info? 86).map (·.size) = some 3; kernel_rfl
theorem tyN_101 : TySize Tryz.prog 101 4 := by show (Tryz.prog.info? 101).map (·.size) = some 4; kernel_rfl
theorem tyN_104 : TySize Tryz.prog 104 1 := by show (Tryz.prog.info? 104).map (·.size) = some 1; kernel_rfl
theorem tyN_107 : TySize Tryz.prog 107 4 := by show (Tryz.prog.info? 107).map (·.size) = some 4; kernel_rfl
theorem tyN_110 : TySize Tryz.prog 110 8 := by show (Tryz.prog.info? 110).map (·.size) = some 8; kernel_rfl
theorem tyN_122 : TySize Tryz.prog 122 4 := by show (Tryz.prog.info? 122).map (·.size) = some 4; kernel_rfl
theorem tyN_126 : TySize Tryz.prog 126 6 := by show (Tryz.prog.info? 126).map (·.size) = some 6; kernel_rfl
theorem tyN_178 : TySize Tryz.prog 178 3 := by show (Tryz.prog.info? 178).map (·.size) = some 3; kernel_rfl
theorem tyN_179 : TySize Tryz.prog 179 21 := by show (Tryz.prog.info? 179).map (·.size) = some 21; kernel_rfl
theorem tyN_186 : TySize Tryz.prog 186 1 := by show (Tryz.prog.info? 186).map (·.size) = some 1; kernel_rfl
theorem tyN_222 : TySize Tryz.prog 222 256 := by show (Tryz.prog.info? 222).map (·.size) = some 256; kernel_rfl
theorem tyB_3 : (Tryz.prog.info? 3).map (·.bytes) = some 8 := by kernel_rfl
theorem tyB_4 : (Tryz.prog.info? 4).map (·.bytes) = some 1 := by kernel_rfl
theorem tyB_5 : (Tryz.prog.info? 5).map (·.bytes) = some 1 := by kernel_rfl
theorem tyB_33 : (Tryz.prog.info? 33).map (·.bytes) = some 8 := by kernel_rfl
theorem tyB_45 : (Tryz.prog.info? 45).map (·.bytes) = some 24 := by kernel_rfl
theorem tyB_79 : (Tryz.prog.info? 79).map (·.bytes) = some 32 := by kernel_rfl
theorem tyB_86 : (Tryz.prog.info? 86).map (·.bytes) = some 32 := by kernel_rfl
theorem tyB_126 : (Tryz.prog.info? 126).map (·.bytes) = some 56 := by kernel_rfl
theorem tyZ_3 : TyZero Tryz.prog 3 (.int .i64 0) := by show (Tryz.prog.info? 3).bind (·.zero) = some (.int .i64 0); kernel_rfl
theorem tyZ_4 : TyZero Tryz.prog 4 (.bool false) := by show (Tryz.prog.info? 4).bind (·.zero) = some (.bool false); kernel_rfl
theorem tyZ_5 : TyZero Tryz.prog 5 (.int .u8 0) := by show (Tryz.prog.info? 5).bind (·.zero) = some (.int .u8 0); kernel_rfl
theorem tyZ_23 : TyZero Tryz.prog 23 (.slice none 0 0) := by show (Tryz.prog.info? 23).bind (·.zero) = some (.slice none 0 0); kernel_rfl
theorem tyZ_30 : TyZero Tryz.prog 30 (.int .i64 0) := by show (Tryz.prog.info? 30).bind (·.zero) = some (.int .i64 0); kernel_rfl
theorem tyZ_33 : TyZero Tryz.prog 33 (.int .u64 0) := by show (Tryz.prog.info? 33).bind (·.zero) = some (.int .u64 0); kernel_rfl
theorem tyZ_35 : TyZero Tryz.prog 35 (.agg #[(.int .i64 0), (.int .i64 0), (.int .i64 0), (.int .i64 0), (.int .i64 0), (.int .i64 0), (.int .i64 0), (.int .u64 0)]) := by show (Tryz.prog.info? 35).bind (·.zero) = some (.agg #[(.int .i64 0), (.int .i64 0), (.int .i64 0), (.int .i64 0), (.int .i64 0), (.int .i64 0), (.int .i64 0), (.int .u64 0)]); kernel_rfl
theorem tyZ_40 : TyZero Tryz.prog 40 (.agg #[(.slice none 0 0), (.int .i64 0)]) := by show (Tryz.prog.info? 40).bind (·.zero) = some (.agg #[(.slice none 0 0), (.int .i64 0)]); kernel_rfl
theorem tyZ_43 : TyZero Tryz.prog 43 (.agg #[(.slice none 0 0), (.int .i64 0), (.int .i64 0), (.slice none 0 0), (.slice none 0 0), (.slice none 0 0), (.slice none 0 0)]) := by show (Tryz.prog.info? 43).bind (·.zero) = some (.agg #[(.slice none 0 0), (.int .i64 0), (.int .i64 0), (.slice none 0 0), (.slice none 0 0), (.slice none 0 0), (.slice none 0 0)]); kernel_rfl
theorem tyZ_45 : TyZero Tryz.prog 45 (.slice none 0 0) := by show (Tryz.prog.info? 45).bind (·.zero) = some (.slice none 0 0); kernel_rfl
theorem tyZ_60 : TyZero Tryz.prog 60 (.agg #[(.int .i64 0), (.int .i64 0), (.map none), (.slice none 0 0), (.map none), (.int .i64 0), (.int .i64 0), (.bool false)]) := by show (Tryz.prog.info? 60).bind (·.zero) = some (.agg #[(.int .i64 0), (.int .i64 0), (.map none), (.slice none 0 0), (.map none), (.int .i64 0), (.int .i64 0), (.bool false)]); kernel_rfl
theorem tyZ_67 : TyZero Tryz.prog 67 (.agg #[(.int .i64 0), (.slice none 0 0), (.bool false)]) := by show (Tryz.prog.info? 67).bind (·.zero) = some (.agg #[(.int .i64 0), (.slice none 0 0), (.bool false)]); kernel_rfl
theorem tyZ_74 : TyZero Tryz.prog 74 (.agg #[(.pointer none), (.int .i64 0), (.int .i64 0), (.int .i64 0), (.int .i64 0), (.int .i64 0), (.int .i64 0), (.int .i64 0), (.int .u64 0), (.int .i64 0), (.int .i64 0), (.int .i64 0), (.int .i64 0), (.pointer none), (.map none), (.map none), (.map none), (.pointer none)]) := by show (Tryz.prog.info? 74).bind (·.zero) = some (.agg #[(.pointer none), (.int .i64 0), (.int .i64 0), (.int .i64 0), (.int .i64 0), (.int .i64 0), (.int .i64 0), (.int .i64 0), (.int .u64 0), (.int .i64 0), (.int .i64 0), (.int .i64 0), (.int .i64 0), (.pointer none), (.map none), (.map none), (.map none), (.pointer none)]); kernel_rfl
theorem tyZ_77 : TyZero Tryz.prog 77 (.agg #[(.int .i64 0)]) := by show (Tryz.prog.info? 77).bind (·.zero) = some (.agg #[(.int .i64 0)]); kernel_rfl
theorem tyZ_79 : TyZero Tryz.prog 79 (.agg #[(.int .i64 0), (.slice none 0 0)]) := by show (Tryz.prog.info? 79).bind (·.zero) = some (.agg #[(.int .i64 0), (.slice none 0 0)]); kernel_rfl
theorem tyZ_82 : TyZero Tryz.prog 82 (.agg #[(.int .i64 0), (.int .i64 0)]) := by show (Tryz.prog.info? 82).bind (·.zero) = some (.agg #[(.int .i64 0), (.int .i64 0)]); kernel_rfl
theorem tyZ_86 : TyZero Tryz.prog 86 (.agg #[(.int .i64 0), (.int .i64 0), (.string ⟨#[]⟩)]) := by show (Tryz.prog.info? 86).bind (·.zero) = some (.agg #[(.int .i64 0), (.int .i64 0), (.string ⟨#[]⟩)]); kernel_rfl
theorem tyZ_101 : TyZero Tryz.prog 101 (.agg #[(.int .i64 0), (.int .i64 0), (.int .i64 0), (.string ⟨#[]⟩)]) := by show (Tryz.prog.info? 101).bind (·.zero) = some (.agg #[(.int .i64 0), (.int .i64 0), (.int .i64 0), (.string ⟨#[]⟩)]); kernel_rfl
theorem tyZ_104 : TyZero Tryz.prog 104 (.slice none 0 0) := by show (Tryz.prog.info? 104).bind (·.zero) = some (.slice none 0 0); kernel_rfl
theorem tyZ_107 : TyZero Tryz.prog 107 (.agg #[(.slice none 0 0), (.slice none 0 0), (.slice none 0 0), (.slice none 0 0)]) := by show (Tryz.prog.info? 107).bind (·.zero) = some (.agg #[(.slice none 0 0), (.slice none 0 0), (.slice none 0 0), (.slice none 0 0)]); kernel_rfl
theorem tyZ_110 : TyZero Tryz.prog 110 (.agg #[(.int .i64 0), (.int .i64 0), (.int .i64 0), (.int .i64 0), (.int .i64 0), (.int .i64 0), (.int .i64 0), (.int .i64 0)]) := by show (Tryz.prog.info? 110).bind (·.zero) = some (.agg #[(.int .i64 0), (.int .i64 0), (.int .i64 0), (.int .i64 0), (.int .i64 0), (.int .i64 0), (.int .i64 0), (.int .i64 0)]); kernel_rfl
theorem tyZ_122 : TyZero Tryz.prog 122 (.agg #[(.int .i64 0), (.int .i64 0), (.int .i64 0), (.slice none 0 0)]) := by show (Tryz.prog.info? 122).bind (·.zero) = some (.agg #[(.int .i64 0), (.int .i64 0), (.int .i64 0), (.slice none 0 0)]); kernel_rfl
theorem tyZ_126 : TyZero Tryz.prog 126 (.agg #[(.int .i64 0), (.int .i64 0), (.slice none 0 0), (.bool false), (.bool false), (.bool false)]) := by show (Tryz.prog.info? 126).bind (·.zero) = some (.agg #[(.int .i64 0), (.int .i64 0), (.slice none 0 0), (.bool false), (.bool false), (.bool false)]); kernel_rfl
theorem tyZ_130 : TyZero Tryz.prog 130 (.agg #[(.slice none 0 0), (.map none), (.int .i64 0)]) := by show (Tryz.prog.info? 130).bind (·.zero) = some (.agg #[(.slice none 0 0), (.map none), (.int .i64 0)]); kernel_rfl
theorem tyZ_160 : TyZero Tryz.prog 160 (.agg #[(.int .i64 0), (.int .i64 0), (.slice none 0 0)]) := by show (Tryz.prog.info? 160).bind (·.zero) = some (.agg #[(.int .i64 0), (.int .i64 0), (.slice none 0 0)]); kernel_rfl
theorem tyZ_178 : TyZero Tryz.prog 178 (.agg #[(.int .i64 0), (.int .i64 0), (.int .i64 0)]) := by show (Tryz.prog.info? 178).bind (·.zero) = some (.agg #[(.int .i64 0), (.int .i64 0), (.int .i64 0)]); kernel_rfl
theorem tyZ_179 : TyZero Tryz.prog 179 (.agg (List.replicate 21 (.int .i64 0)).toArray) := by show (Tryz.prog.info? 179).bind (·.zero) = some (.agg (List.replicate 21 (.int .i64 0)).toArray); kernel_rfl
theorem tyZ_186 : TyZero Tryz.prog 186 (.int .u32 0) := by show (Tryz.prog.info? 186).bind (·.zero) = some (.int .u32 0); kernel_rfl
theorem tyZ_201 : TyZero Tryz.prog 201 (.agg #[(.slice none 0 0), (.int .i64 0), (.bool false)]) := by show (Tryz.prog.info? 201).bind (·.zero) = some (.agg #[(.slice none 0 0), (.int .i64 0), (.bool false)]); kernel_rfl
theorem tyZ_205 : TyZero Tryz.prog 205 (.agg #[(.slice none 0 0), (.bool false)]) := by show (Tryz.prog.info? 205).bind (·.zero) = some (.agg #[(.slice none 0 0), (.bool false)]); kernel_rfl
theorem tyZ_222 : TyZero Tryz.prog 222 (.agg (List.replicate 256 (.int .u32 0)).toArray) := by show (Tryz.prog.info? 222).bind (·.zero) = some (.agg (List.replicate 256 (.int .u32 0)).toArray); kernel_rfl
theorem tyU_3 : TyUnd Tryz.prog 3 (.int .i64) := by show Tryz.prog.underlying 3 = some (.int .i64); kernel_rfl
theorem tyU_5 : TyUnd Tryz.prog 5 (.int .u8) := by show Tryz.prog.underlying 5 = some (.int .u8); kernel_rfl
theorem tyU_9 : TyUnd Tryz.prog 9 (.string) := by show Tryz.prog.underlying 9 = some (.string); kernel_rfl
theorem tyU_22 : TyUnd Tryz.prog 22 (.slice 47) := by show Tryz.prog.underlying 22 = some (.slice 47); kernel_rfl
theorem tyU_23 : TyUnd Tryz.prog 23 (.slice 3) := by show Tryz.prog.underlying 23 = some (.slice 3); kernel_rfl
theorem tyU_27 : TyUnd Tryz.prog 27 (.pointer 60) := by show Tryz.prog.underlying 27 = some (.pointer 60); kernel_rfl
theorem tyU_29 : TyUnd Tryz.prog 29 (.pointer 74) := by show Tryz.prog.underlying 29 = some (.pointer 74); kernel_rfl
theorem tyU_33 : TyUnd Tryz.prog 33 (.int .u64) := by show Tryz.prog.underlying 33 = some (.int .u64); kernel_rfl
theorem tyU_38 : TyUnd Tryz.prog 38 (.slice 4) := by show Tryz.prog.underlying 38 = some (.slice 4); kernel_rfl
theorem tyU_41 : TyUnd Tryz.prog 41 (.slice 86) := by show Tryz.prog.underlying 41 = some (.slice 86); kernel_rfl
theorem tyU_45 : TyUnd Tryz.prog 45 (.slice 5) := by show Tryz.prog.underlying 45 = some (.slice 5); kernel_rfl
theorem tyU_56 : TyUnd Tryz.prog 56 (.map 3 45) := by show Tryz.prog.underlying 56 = some (.map 3 45); kernel_rfl
theorem tyU_57 : TyUnd Tryz.prog 57 (.map 3 104) := by show Tryz.prog.underlying 57 = some (.map 3 104); kernel_rfl
theorem tyU_58 : TyUnd Tryz.prog 58 (.slice 79) := by show Tryz.prog.underlying 58 = some (.slice 79); kernel_rfl
theorem tyU_70 : TyUnd Tryz.prog 70 (.pointer 160) := by show Tryz.prog.underlying 70 = some (.pointer 160); kernel_rfl
theorem tyU_71 : TyUnd Tryz.prog 71 (.map 3 4) := by show Tryz.prog.underlying 71 = some (.map 3 4); kernel_rfl
theorem tyU_72 : TyUnd Tryz.prog 72 (.pointer 130) := by show Tryz.prog.underlying 72 = some (.pointer 130); kernel_rfl
theorem tyU_104 : TyUnd Tryz.prog 104 (.slice 45) := by show Tryz.prog.underlying 104 = some (.slice 45); kernel_rfl
theorem tyU_123 : TyUnd Tryz.prog 123 (.pointer 126) := by show Tryz.prog.underlying 123 = some (.pointer 126); kernel_rfl
theorem tyU_127 : TyUnd Tryz.prog 127 (.slice 126) := by show Tryz.prog.underlying 127 = some (.slice 126); kernel_rfl
theorem tyU_128 : TyUnd Tryz.prog 128 (.map 3 3) := by show Tryz.prog.underlying 128 = some (.map 3 3); kernel_rfl
theorem tyU_158 : TyUnd Tryz.prog 158 (.slice 33) := by show Tryz.prog.underlying 158 = some (.slice 33); kernel_rfl
theorem tyU_179 : TyUnd Tryz.prog 179 (.array 7 178) := by show Tryz.prog.underlying 179 = some (.array 7 178); kernel_rfl
theorem tyU_182 : TyUnd Tryz.prog 182 (.pointer 201) := by show Tryz.prog.underlying 182 = some (.pointer 201); kernel_rfl
theorem tyU_186 : TyUnd Tryz.prog 186 (.int .u32) := by show Tryz.prog.underlying 186 = some (.int .u32); kernel_rfl
theorem tyU_190 : TyUnd Tryz.prog 190 (.pointer 205) := by show Tryz.prog.underlying 190 = some (.pointer 205); kernel_rfl
theorem tyU_199 : TyUnd Tryz.prog 199 (.int .u64) := by show Tryz.prog.underlying 199 = some (.int .u64); kernel_rfl
theorem tyU_203 : TyUnd Tryz.prog 203 (.array 64 5) := by show Tryz.prog.underlying 203 = some (.array 64 5); kernel_rfl
theorem tyU_222 : TyUnd Tryz.prog 222 (.array 256 186) := by show Tryz.prog.underlying 222 = some (.array 256 186); kernel_rfl
theorem tyF_25_0 : TyField Tryz.prog 25 0 0 := by show fieldB Tryz.prog 25 0 0 = true; kernel_rfl
theorem tyF_25_1 : TyField Tryz.prog 25 1 1 := by show fieldB Tryz.prog 25 1 1 = true; kernel_rfl
theorem tyF_25_2 : TyField Tryz.prog 25 2 2 := by show fieldB Tryz.prog 25 2 2 = true; kernel_rfl
theorem tyF_35_0 : TyField Tryz.prog 35 0 0 := by show fieldB Tryz.prog 35 0 0 = true; kernel_rfl
theorem tyF_35_1 : TyField Tryz.prog 35 1 1 := by show fieldB Tryz.prog 35 1 1 = true; kernel_rfl
theorem tyF_35_2 : TyField Tryz.prog 35 2 2 := by show fieldB Tryz.prog 35 2 2 = true; kernel_rfl
theorem tyF_35_3 : TyField Tryz.prog 35 3 3 := by show fieldB Tryz.prog 35 3 3 = true; kernel_rfl
theorem tyF_35_4 : TyField Tryz.prog 35 4 4 := by show fieldB Tryz.prog 35 4 4 = true; kernel_rfl
theorem tyF_35_5 : TyField Tryz.prog 35 5 5 := by show fieldB Tryz.prog 35 5 5 = true; kernel_rfl
theorem tyF_35_6 : TyField Tryz.prog 35 6 6 := by show fieldB Tryz.prog 35 6 6 = true; kernel_rfl
theorem tyF_40_0 : TyField Tryz.prog 40 0 0 := by show fieldB Tryz.prog 40 0 0 = true; kernel_rfl
theorem tyF_40_1 : TyField Tryz.prog 40 1 1 := by show fieldB Tryz.prog 40 1 1 = true; kernel_rfl
theorem tyF_43_0 : TyField Tryz.prog 43 0 0 := by show fieldB Tryz.prog 43 0 0 = true; kernel_rfl
theorem tyF_43_1 : TyField Tryz.prog 43 1 2 := by show fieldB Tryz.prog 43 1 2 = true; kernel_rfl
theorem tyF_43_2 : TyField Tryz.prog 43 2 3 := by show fieldB Tryz.prog 43 2 3 = true; kernel_rfl
theorem tyF_43_3 : TyField Tryz.prog 43 3 4 := by show fieldB Tryz.prog 43 3 4 = true; kernel_rfl
theorem tyF_43_4 : TyField Tryz.prog 43 4 5 := by show fieldB Tryz.prog 43 4 5 = true; kernel_rfl
theorem tyF_43_5 : TyField Tryz.prog 43 5 6 := by show fieldB Tryz.prog 43 5 6 = true; kernel_rfl
theorem tyF_47_0 : TyField Tryz.prog 47 0 0 := by show fieldB Tryz.prog 47 0 0 = true; kernel_rfl
theorem tyF_47_1 : TyField Tryz.prog 47 1 1 := by show fieldB Tryz.prog 47 1 1 = true; kernel_rfl
theorem tyF_47_2 : TyField Tryz.prog 47 2 2 := by show fieldB Tryz.prog 47 2 2 = true; kernel_rfl
theorem tyF_60_0 : TyField Tryz.prog 60 0 0 := by show fieldB Tryz.prog 60 0 0 = true; kernel_rfl
theorem tyF_60_1 : TyField Tryz.prog 60 1 1 := by show fieldB Tryz.prog 60 1 1 = true; kernel_rfl
theorem tyF_60_2 : TyField Tryz.prog 60 2 2 := by show fieldB Tryz.prog 60 2 2 = true; kernel_rfl
theorem tyF_60_3 : TyField Tryz.prog 60 3 3 := by show fieldB Tryz.prog 60 3 3 = true; kernel_rfl
theorem tyF_60_4 : TyField Tryz.prog 60 4 4 := by show fieldB Tryz.prog 60 4 4 = true; kernel_rfl
theorem tyF_60_5 : TyField Tryz.prog 60 5 5 := by show fieldB Tryz.prog 60 5 5 = true; kernel_rfl
theorem tyF_60_6 : TyField Tryz.prog 60 6 6 := by show fieldB Tryz.prog 60 6 6 = true; kernel_rfl
theorem tyF_60_7 : TyField Tryz.prog 60 7 7 := by show fieldB Tryz.prog 60 7 7 = true; kernel_rfl
theorem tyF_67_0 : TyField Tryz.prog 67 0 0 := by show fieldB Tryz.prog 67 0 0 = true; kernel_rfl
theorem tyF_67_1 : TyField Tryz.prog 67 1 1 := by show fieldB Tryz.prog 67 1 1 = true; kernel_rfl
theorem tyF_67_2 : TyField Tryz.prog 67 2 2 := by show fieldB Tryz.prog 67 2 2 = true; kernel_rfl
theorem tyF_74_0 : TyField Tryz.prog 74 0 0 := by show fieldB Tryz.prog 74 0 0 = true; kernel_rfl
theorem tyF_74_2 : TyField Tryz.prog 74 2 9 := by show fieldB Tryz.prog 74 2 9 = true; kernel_rfl
theorem tyF_74_3 : TyField Tryz.prog 74 3 10 := by show fieldB Tryz.prog 74 3 10 = true; kernel_rfl
theorem tyF_74_4 : TyField Tryz.prog 74 4 11 := by show fieldB Tryz.prog 74 4 11 = true; kernel_rfl
theorem tyF_74_5 : TyField Tryz.prog 74 5 12 := by show fieldB Tryz.prog 74 5 12 = true; kernel_rfl
theorem tyF_74_6 : TyField Tryz.prog 74 6 13 := by show fieldB Tryz.prog 74 6 13 = true; kernel_rfl
theorem tyF_74_7 : TyField Tryz.prog 74 7 14 := by show fieldB Tryz.prog 74 7 14 = true; kernel_rfl
theorem tyF_74_8 : TyField Tryz.prog 74 8 15 := by show fieldB Tryz.prog 74 8 15 = true; kernel_rfl
theorem tyF_74_9 : TyField Tryz.prog 74 9 16 := by show fieldB Tryz.prog 74 9 16 = true; kernel_rfl
theorem tyF_74_10 : TyField Tryz.prog 74 10 17 := by show fieldB Tryz.prog 74 10 17 = true; kernel_rfl
theorem tyF_77_0 : TyField Tryz.prog 77 0 0 := by show fieldB Tryz.prog 77 0 0 = true; kernel_rfl
theorem tyF_79_0 : TyField Tryz.prog 79 0 0 := by show fieldB Tryz.prog 79 0 0 = true; kernel_rfl
theorem tyF_79_1 : TyField Tryz.prog 79 1 1 := by show fieldB Tryz.prog 79 1 1 = true; kernel_rfl
theorem tyF_82_0 : TyField Tryz.prog 82 0 0 := by show fieldB Tryz.prog 82 0 0 = true; kernel_rfl
theorem tyF_82_1 : TyField Tryz.prog 82 1 1 := by show fieldB Tryz.prog 82 1 1 = true; kernel_rfl
theorem tyF_86_0 : TyField Tryz.prog 86 0 0 := by show fieldB Tryz.prog 86 0 0 = true; kernel_rfl
theorem tyF_86_1 : TyField Tryz.prog 86 1 1 := by show fieldB Tryz.prog 86 1 1 = true; kernel_rfl
theorem tyF_86_2 : TyField Tryz.prog 86 2 2 := by show fieldB Tryz.prog 86 2 2 = true; kernel_rfl
theorem tyF_101_0 : TyField Tryz.prog 101 0 0 := by show fieldB Tryz.prog 101 0 0 = true; kernel_rfl
theorem tyF_101_1 : TyField Tryz.prog 101 1 1 := by show fieldB Tryz.prog 101 1 1 = true; kernel_rfl
theorem tyF_101_2 : TyField Tryz.prog 101 2 2 := by show fieldB Tryz.prog 101 2 2 = true; kernel_rfl
theorem tyF_101_3 : TyField Tryz.prog 101 3 3 := by show fieldB Tryz.prog 101 3 3 = true; kernel_rfl
theorem tyF_107_2 : TyField Tryz.prog 107 2 2 := by show fieldB Tryz.prog 107 2 2 = true; kernel_rfl
theorem tyF_110_1 : TyField Tryz.prog 110 1 1 := by show fieldB Tryz.prog 110 1 1 = true; kernel_rfl
theorem tyF_110_2 : TyField Tryz.prog 110 2 2 := by show fieldB Tryz.prog 110 2 2 = true; kernel_rfl
theorem tyF_110_3 : TyField Tryz.prog 110 3 3 := by show fieldB Tryz.prog 110 3 3 = true; kernel_rfl
theorem tyF_110_4 : TyField Tryz.prog 110 4 4 := by show fieldB Tryz.prog 110 4 4 = true; kernel_rfl
theorem tyF_110_6 : TyField Tryz.prog 110 6 6 := by show fieldB Tryz.prog 110 6 6 = true; kernel_rfl
theorem tyF_110_7 : TyField Tryz.prog 110 7 7 := by show fieldB Tryz.prog 110 7 7 = true; kernel_rfl
theorem tyF_122_0 : TyField Tryz.prog 122 0 0 := by show fieldB Tryz.prog 122 0 0 = true; kernel_rfl
theorem tyF_122_1 : TyField Tryz.prog 122 1 1 := by show fieldB Tryz.prog 122 1 1 = true; kernel_rfl
theorem tyF_122_2 : TyField Tryz.prog 122 2 2 := by show fieldB Tryz.prog 122 2 2 = true; kernel_rfl
theorem tyF_122_3 : TyField Tryz.prog 122 3 3 := by show fieldB Tryz.prog 122 3 3 = true; kernel_rfl
theorem tyF_126_0 : TyField Tryz.prog 126 0 0 := by show fieldB Tryz.prog 126 0 0 = true; kernel_rfl
theorem tyF_126_1 : TyField Tryz.prog 126 1 1 := by show fieldB Tryz.prog 126 1 1 = true; kernel_rfl
theorem tyF_126_2 : TyField Tryz.prog 126 2 4 := by show fieldB Tryz.prog 126 2 4 = true; kernel_rfl
theorem tyF_126_3 : TyField Tryz.prog 126 3 5 := by show fieldB Tryz.prog 126 3 5 = true; kernel_rfl
theorem tyF_130_0 : TyField Tryz.prog 130 0 0 := by show fieldB Tryz.prog 130 0 0 = true; kernel_rfl
theorem tyF_130_1 : TyField Tryz.prog 130 1 1 := by show fieldB Tryz.prog 130 1 1 = true; kernel_rfl
theorem tyF_130_2 : TyField Tryz.prog 130 2 2 := by show fieldB Tryz.prog 130 2 2 = true; kernel_rfl
theorem tyF_160_0 : TyField Tryz.prog 160 0 0 := by show fieldB Tryz.prog 160 0 0 = true; kernel_rfl
theorem tyF_160_1 : TyField Tryz.prog 160 1 1 := by show fieldB Tryz.prog 160 1 1 = true; kernel_rfl
theorem tyF_160_2 : TyField Tryz.prog 160 2 2 := by show fieldB Tryz.prog 160 2 2 = true; kernel_rfl
theorem tyF_178_0 : TyField Tryz.prog 178 0 0 := by show fieldB Tryz.prog 178 0 0 = true; kernel_rfl
theorem tyF_178_1 : TyField Tryz.prog 178 1 1 := by show fieldB Tryz.prog 178 1 1 = true; kernel_rfl
theorem tyF_178_2 : TyField Tryz.prog 178 2 2 := by show fieldB Tryz.prog 178 2 2 = true; kernel_rfl
theorem tyF_201_0 : TyField Tryz.prog 201 0 0 := by show fieldB Tryz.prog 201 0 0 = true; kernel_rfl
theorem tyF_201_1 : TyField Tryz.prog 201 1 1 := by show fieldB Tryz.prog 201 1 1 = true; kernel_rfl
theorem tyF_201_2 : TyField Tryz.prog 201 2 2 := by show fieldB Tryz.prog 201 2 2 = true; kernel_rfl
theorem tyF_205_0 : TyField Tryz.prog 205 0 0 := by show fieldB Tryz.prog 205 0 0 = true; kernel_rfl
theorem tyF_205_1 : TyField Tryz.prog 205 1 1 := by show fieldB Tryz.prog 205 1 1 = true; kernel_rfl
theorem tyFT_107_0 : TyFT Tryz.prog 107 0 0 23 := ⟨_, _, Tryz.underlying107, rfl, rfl, rfl⟩
theorem tyBu_35 : TyStruct Tryz.prog 35 [.int .i64 0, .int .i64 0, .int .i64 0, .int .i64 0, .int .i64 0, .int .i64 0, .int .i64 0, .int .u64 0] [(0, 1), (1, 1), (2, 1), (3, 1), (4, 1), (5, 1), (6, 1), (7, 1)] := ⟨⟨_, tyZ_35, rfl⟩, ⟨_, Tryz.underlying35, by kernel_rfl⟩⟩
theorem tyBu_40 : TyStruct Tryz.prog 40 [.slice none 0 0, .int .i64 0] [(0, 1), (1, 1)] := ⟨⟨_, tyZ_40, rfl⟩, ⟨_, Tryz.underlying40, by kernel_rfl⟩⟩
theorem tyBu_43 : TyStruct Tryz.prog 43 [.slice none 0 0, .int .i64 0, .int .i64 0, .slice none 0 0, .slice none 0 0, .slice none 0 0, .slice none 0 0] [(0, 2), (2, 1), (3, 1), (4, 1), (5, 1), (6, 1)] := ⟨⟨_, tyZ_43, rfl⟩, ⟨_, Tryz.underlying43, by kernel_rfl⟩⟩
theorem tyBu_60 : TyStruct Tryz.prog 60 [.int .i64 0, .int .i64 0, .map none, .slice none 0 0, .map none, .int .i64 0, .int .i64 0, .bool false] [(0, 1), (1, 1), (2, 1), (3, 1), (4, 1), (5, 1), (6, 1), (7, 1)] := ⟨⟨_, tyZ_60, rfl⟩, ⟨_, Tryz.underlying60, by kernel_rfl⟩⟩
theorem tyBu_67 : TyStruct Tryz.prog 67 [.int .i64 0, .slice none 0 0, .bool false] [(0, 1), (1, 1), (2, 1)] := ⟨⟨_, tyZ_67, rfl⟩, ⟨_, Tryz.underlying67, by kernel_rfl⟩⟩
theorem tyBu_74 : TyStruct Tryz.prog 74 [.pointer none, .int .i64 0, .int .i64 0, .int .i64 0, .int .i64 0, .int .i64 0, .int .i64 0, .int .i64 0, .int .u64 0, .int .i64 0, .int .i64 0, .int .i64 0, .int .i64 0, .pointer none, .map none, .map none, .map none, .pointer none] [(0, 1), (1, 8), (9, 1), (10, 1), (11, 1), (12, 1), (13, 1), (14, 1), (15, 1), (16, 1), (17, 1)] := ⟨⟨_, tyZ_74, rfl⟩, ⟨_, Tryz.underlying74, by kernel_rfl⟩⟩
theorem tyBu_77 : TyStruct Tryz.prog 77 [.int .i64 0] [(0, 1)] := ⟨⟨_, tyZ_77, rfl⟩, ⟨_, Tryz.underlying77, by kernel_rfl⟩⟩
theorem tyBu_79 : TyStruct Tryz.prog 79 [.int .i64 0, .slice none 0 0] [(0, 1), (1, 1)] := ⟨⟨_, tyZ_79, rfl⟩, ⟨_, Tryz.underlying79, by kernel_rfl⟩⟩
theorem tyBu_82 : TyStruct Tryz.prog 82 [.int .i64 0, .int .i64 0] [(0, 1), (1, 1)] := ⟨⟨_, tyZ_82, rfl⟩, ⟨_, Tryz.underlying82, by kernel_rfl⟩⟩
theorem tyBu_86 : TyStruct Tryz.prog 86 [.int .i64 0, .int .i64 0, .string ⟨#[]⟩] [(0, 1), (1, 1), (2, 1)] := ⟨⟨_, tyZ_86, rfl⟩, ⟨_, Tryz.underlying86, by kernel_rfl⟩⟩
theorem tyBu_101 : TyStruct Tryz.prog 101 [.int .i64 0, .int .i64 0, .int .i64 0, .string ⟨#[]⟩] [(0, 1), (1, 1), (2, 1), (3, 1)] := ⟨⟨_, tyZ_101, rfl⟩, ⟨_, Tryz.underlying101, by kernel_rfl⟩⟩
theorem tyBu_107 : TyStruct Tryz.prog 107 [.slice none 0 0, .slice none 0 0, .slice none 0 0, .slice none 0 0] [(0, 1), (1, 1), (2, 1), (3, 1)] := ⟨⟨_, tyZ_107, rfl⟩, ⟨_, Tryz.underlying107, by kernel_rfl⟩⟩
theorem tyBu_110 : TyStruct Tryz.prog 110 [.int .i64 0, .int .i64 0, .int .i64 0, .int .i64 0, .int .i64 0, .int .i64 0, .int .i64 0, .int .i64 0] [(0, 1), (1, 1), (2, 1), (3, 1), (4, 1), (5, 1), (6, 1), (7, 1)] := ⟨⟨_, tyZ_110, rfl⟩, ⟨_, Tryz.underlying110, by kernel_rfl⟩⟩
theorem tyBu_122 : TyStruct Tryz.prog 122 [.int .i64 0, .int .i64 0, .int .i64 0, .slice none 0 0] [(0, 1), (1, 1), (2, 1), (3, 1)] := ⟨⟨_, tyZ_122, rfl⟩, ⟨_, Tryz.underlying122, by kernel_rfl⟩⟩
theorem tyBu_126 : TyStruct Tryz.prog 126 [.int .i64 0, .int .i64 0, .slice none 0 0, .bool false, .bool false, .bool false] [(0, 1), (1, 3), (4, 1), (5, 1)] := ⟨⟨_, tyZ_126, rfl⟩, ⟨_, Tryz.underlying126, by kernel_rfl⟩⟩
theorem tyBu_130 : TyStruct Tryz.prog 130 [.slice none 0 0, .map none, .int .i64 0] [(0, 1), (1, 1), (2, 1)] := ⟨⟨_, tyZ_130, rfl⟩, ⟨_, Tryz.underlying130, by kernel_rfl⟩⟩
theorem tyBu_160 : TyStruct Tryz.prog 160 [.int .i64 0, .int .i64 0, .slice none 0 0] [(0, 1), (1, 1), (2, 1)] := ⟨⟨_, tyZ_160, rfl⟩, ⟨_, Tryz.underlying160, by kernel_rfl⟩⟩
theorem tyBu_178 : TyStruct Tryz.prog 178 [.int .i64 0, .int .i64 0, .int .i64 0] [(0, 1), (1, 1), (2, 1)] := ⟨⟨_, tyZ_178, rfl⟩, ⟨_, Tryz.underlying178, by kernel_rfl⟩⟩
-- tyBu_179 array
theorem tyBu_201 : TyStruct Tryz.prog 201 [.slice none 0 0, .int .i64 0, .bool false] [(0, 1), (1, 1), (2, 1)] := ⟨⟨_, tyZ_201, rfl⟩, ⟨_, Tryz.underlying201, by kernel_rfl⟩⟩
theorem tyBu_205 : TyStruct Tryz.prog 205 [.slice none 0 0, .bool false] [(0, 1), (1, 1)] := ⟨⟨_, tyZ_205, rfl⟩, ⟨_, Tryz.underlying205, by kernel_rfl⟩⟩
theorem tyM_56 : tyMapB Tryz.prog 56 (.slice none 0 0) := ⟨_, _, tyU_56, tyU_3, tyZ_45⟩
theorem tyM_57 : tyMapB Tryz.prog 57 (.slice none 0 0) := ⟨_, _, tyU_57, tyU_3, tyZ_104⟩
theorem tyM_71 : tyMapB Tryz.prog 71 (.bool false) := ⟨_, _, tyU_71, tyU_3, tyZ_4⟩
theorem tyM_128 : tyMapB Tryz.prog 128 (.int .i64 0) := ⟨_, _, tyU_128, tyU_3, tyZ_3⟩
end Go.Proofs.YtealmijbkebipaaGreatDoor

namespace Go.Proofs.YtealmijbkebipaaGreatDoor
open Go
attribute [local irreducible] own pe nf

theorem s_bytes_Clone {x : SV} {bs : List UInt8} (hb : bs.length ≤ 4294967296) : FnSpec Tryz.prog 23 #[x.v] [pe (bsl x bs)]
    (fun y : SV => y.v) (fun y => y.n = bs.length) (fun y R => pe (bsl y bs) :: R) := by
  refine fn_spec Tryz.func23 rfl rfl rfl rfl fun G R => ?_
  dsimp only [List.append_eq, List.cons_append, List.nil_append]
  refine wk_ro (x := x) (cells := u8s bs) (size := 1) (by repeat constructor) fun hx => ?_
  have hlen : bs.length = x.n := by have := hx.1; simpa using this
  refine wk_seq ?_
  refine wk_region ?_
  refine wo_v (v_assign rfl) ?_
  refine wo_nil ?_
  refine wk_seq ?_
  refine wk_seq ?_
  refine wk_region ?_
  refine wo_v (v_move rfl) ?_
  refine wo_v (v_eqSlN tyU_45 rfl rfl) ?_
  refine wo_nil ?_
  refine wk_if rfl (fun hn => ?_) (fun hn => ?_)
  · refine wk_seq ?_
    refine wk_region ?_
    refine wo_v (v_assign rfl) ?_
    refine wo_nil ?_
    refine wk_ret Tryz.func23 rfl rfl (res_tmp rfl res_nil) fun W h => ?_
    have h0 := hx.2.2 (by simpa using hn)
    have hbs : bs = [] := List.eq_nil_of_length_eq_zero (by omega)
    subst hbs
    refine ⟨nilSV, rfl, rfl, ?_⟩
    exact Ent.sat (ent_roNil rfl ent_tail) h
  · refine wk_skip ?_
    refine wk_seq ?_
    refine wk_region ?_
    refine wo_w (w_buildSlice0 tyU_45 tyN_5 fun b1 => ?_)
    refine wo_ent (ent_oslEmpty (size := 1)) ?_
    refine wo_v (v_move rfl) ?_
    refine wo_w (w_append (x := ⟨some ⟨b1, 0, none⟩, 0, 0⟩) tyU_45 tyU_45 (.inl ⟨_, rfl⟩) tyB_5 tyN_5 tyZ_5 rfl (by decide) rfl rfl (src_ro) (allOne_u8s bs) (by repeat constructor) (by (try dsimp only); omega) (by (try dsimp only); omega) hx.1 fun b2 hb2 => ?_)
    refine wo_v (v_assign rfl) ?_
    refine wo_nil ?_
    refine wk_ret Tryz.func23 rfl rfl (res_tmp rfl res_nil) fun W h => ?_
    refine ⟨b2, rfl, ?_, Ent.sat (by refine ent_take ?_; exact ent_tail) (up_freeze _ _ h)⟩
    rw [hb2, hlen, Nat.zero_add]


/-- A writer: what was written, and its limit; it is not full. -/
def WrH (w : Nat) (bs : List UInt8) (limit : Nat) : HP :=
  nf (fun x : SV × TypeId => x.1.n = bs.length) fun x => [blk w [x.1.v, .int .i64 limit, .bool false] x.2, osl x.1 (u8s bs) 1 5]

theorem s_wire_NewWriter {n : Nat} : FnSpec Tryz.prog 101 #[.int .i64 n] []
    (fun w : Nat => .pointer (some ⟨w, 0, none⟩)) (fun _ => True) (fun w R => WrH w [] n :: R) := by
  refine fn_spec Tryz.func101 rfl rfl rfl rfl fun G R => ?_
  dsimp only [List.append_eq, List.cons_append, List.nil_append]
  refine wk_seq ?_
  refine wk_region ?_
  refine wo_v (v_assign rfl) ?_
  refine wo_nil ?_
  refine wk_seq ?_
  refine wk_region ?_
  refine wo_v (v_move rfl) ?_
  refine wo_v (v_maxI rfl rfl) ?_
  rw [if_neg (by omega)]
  refine wo_v (v_buildN tyBu_201 rfl (by repeat constructor)) ?_
  refine wo_w (w_boxA rfl fun b1 => ?_)
  refine wo_v (v_assign rfl) ?_
  refine wo_nil ?_
  refine wk_ret Tryz.func101 rfl rfl (res_tmp rfl res_nil) fun W h => ?_
  exact ⟨b1, rfl, trivial, Ent.sat ((ent_take (ent_oslNil ent_tail)).trans (by refine ent_nf (nilSV, 201) rfl ?_; exact ent_tail)) h⟩

theorem s_wire_may {n : Nat} : FnSpec Tryz.prog 119 #[.int .i64 n] []
    (fun _ : Unit => .bool (decide (n = 1 ∨ n = 2 ∨ n = 4 ∨ n = 8))) (fun _ => True) (fun _ R => R) := by
  refine fn_spec Tryz.func119 rfl rfl rfl rfl fun G R => ?_
  dsimp only [List.append_eq, List.cons_append, List.nil_append]
  refine wk_seq ?_
  refine wk_region ?_
  refine wo_v (v_assign rfl) ?_
  refine wo_nil ?_
  refine wk_seq ?_
  refine wk_region ?_
  refine wo_v (v_move rfl) ?_
  refine wo_v (v_eql rfl rfl) ?_
  refine wo_v (v_move rfl) ?_
  refine wo_if (t := 5) rfl (fun h1 => ?_) (fun h1 => ?_)
  · refine wo_gF ?_
    refine wo_gF ?_
    refine wo_v (v_pickT rfl rfl) ?_
    refine wo_v (v_move rfl) ?_
    refine wo_gF ?_
    refine wo_gF ?_
    refine wo_v (v_pickT rfl rfl) ?_
    refine wo_v (v_move rfl) ?_
    refine wo_gF ?_
    refine wo_gF ?_
    refine wo_v (v_pickT rfl rfl) ?_
    refine wo_v (v_assign rfl) ?_
    refine wo_nil ?_
    refine wk_ret Tryz.func119 rfl rfl (res_tmp rfl res_nil) fun W h => ?_
    refine ⟨(), ?_, trivial, h⟩
    have : decide (n = 1 ∨ n = 2 ∨ n = 4 ∨ n = 8) = true := by rw [decide_eq_true_eq]; omega
    rw [this]; rfl
  · refine wo_gv (v_move rfl) ?_
    refine wo_gv (v_eql rfl rfl) ?_
    refine wo_v (v_pickF rfl rfl) ?_
    refine wo_v (v_move rfl) ?_
    refine wo_if (t := 9) rfl (fun h2 => ?_) (fun h2 => ?_)
    · refine wo_gF ?_
      refine wo_gF ?_
      refine wo_v (v_pickT rfl rfl) ?_
      refine wo_v (v_move rfl) ?_
      refine wo_gF ?_
      refine wo_gF ?_
      refine wo_v (v_pickT rfl rfl) ?_
      refine wo_v (v_assign rfl) ?_
      refine wo_nil ?_
      refine wk_ret Tryz.func119 rfl rfl (res_tmp rfl res_nil) fun W h => ?_
      refine ⟨(), ?_, trivial, h⟩
      have : decide (n = 1 ∨ n = 2 ∨ n = 4 ∨ n = 8) = true := by rw [decide_eq_true_eq]; omega
      rw [this]; rfl
    · refine wo_gv (v_move rfl) ?_
      refine wo_gv (v_eql rfl rfl) ?_
      refine wo_v (v_pickF rfl rfl) ?_
      refine wo_v (v_move rfl) ?_
      refine wo_if (t := 13) rfl (fun h3 => ?_) (fun h3 => ?_)
      · refine wo_gF ?_
        refine wo_gF ?_
        refine wo_v (v_pickT rfl rfl) ?_
        refine wo_v (v_assign rfl) ?_
        refine wo_nil ?_
        refine wk_ret Tryz.func119 rfl rfl (res_tmp rfl res_nil) fun W h => ?_
        refine ⟨(), ?_, trivial, h⟩
        have : decide (n = 1 ∨ n = 2 ∨ n = 4 ∨ n = 8) = true := by rw [decide_eq_true_eq]; omega
        rw [this]; rfl
      · refine wo_gv (v_move rfl) ?_
        refine wo_gv (v_eql rfl rfl) ?_
        refine wo_v (v_pickF rfl rfl) ?_
        refine wo_v (v_assign rfl) ?_
        refine wo_nil ?_
        refine wk_ret Tryz.func119 rfl rfl (res_tmp rfl res_nil) fun W h => ?_
        refine ⟨(), ?_, trivial, h⟩
        have : decide (n = 1 ∨ n = 2 ∨ n = 4 ∨ n = 8) = decide ((n : Int) = (8 : Int)) := by rw [decide_eq_decide]; omega
        rw [this]; rfl


/-- A number's bytes, the lowest first. -/
def numB : Nat → Nat → List UInt8
  | _, 0 => []
  | n, k + 1 => UInt8.ofNat (n % 256) :: numB (n / 256) k
@[simp] theorem numB_length (n k : Nat) : (numB n k).length = k := by
  induction k generalizing n with
  | zero => rfl
  | succ k ih => simp [numB, ih]
theorem numB_snoc (n k : Nat) : numB n (k + 1) = numB n k ++ [UInt8.ofNat (n / 256 ^ k % 256)] := by
  induction k generalizing n with
  | zero => simp [numB]
  | succ k ih =>
    rw [numB, ih (n / 256), numB, List.cons_append, Nat.div_div_eq_div_mul, ← Nat.pow_succ']
theorem u8_ofNat (a : Nat) : ((UInt8.ofNat (a % 256)).toNat : Int) = ((a % 256 : Nat) : Int) := by
  rw [UInt8.toNat_ofNat']; congr 1; exact Nat.mod_eq_of_lt (Nat.mod_lt _ (by decide))
theorem number_step {n k i : Nat} (hi : i < k) : (u8s (numB n i) ++ List.replicate (k - i) (Value.int .u8 0)).set (0 + (i : Int).toNat * 1) (.int .u8 ((n / 256 ^ i % 256 : Nat) : Int)) = u8s (numB n (i + 1)) ++ List.replicate (k - (i + 1)) (.int .u8 0) := by
  rw [numB_snoc, u8s_append, show k - i = (k - (i + 1)) + 1 from by omega, List.replicate_succ]
  have h1 : 0 + (i : Int).toNat * 1 = (u8s (numB n i)).length := by simp
  rw [h1, List.set_append_right _ _ (Nat.le_refl _), Nat.sub_self, List.set_cons_zero, List.append_assoc]
  congr 1
  show _ = [Value.int .u8 ((UInt8.ofNat (n / 256 ^ i % 256)).toNat : Int)] ++ _
  rw [u8_ofNat]; rfl

theorem s_wire_number {n k : Nat} (hn : n < 18446744073709551616) (hk : k ≤ 8) : FnSpec Tryz.prog 120 #[.int .u64 n, .int .i64 k] []
    (fun x : SV => x.v) (fun x => x.n = k) (fun x R => pe (bsl x (numB n k)) :: R) := by
  refine fn_spec Tryz.func120 rfl rfl rfl rfl fun G R => ?_
  dsimp only [List.append_eq, List.cons_append, List.nil_append]
  refine wk_seq ?_
  refine wk_region ?_
  refine wo_v (v_assign rfl) ?_
  refine wo_nil ?_
  refine wk_seq ?_
  refine wk_region ?_
  refine wo_v (v_move rfl) ?_
  refine wo_w (w_makeSliceN tyU_45 tyB_5 tyN_5 tyZ_5 rfl rfl rfl rfl rfl (by omega) fun b1 => ?_)
  refine wo_v (v_assign rfl) ?_
  refine wo_nil ?_
  refine wk_seq ?_
  refine wk_seq ?_
  refine wk_region ?_
  refine wo_v (v_move rfl) ?_
  refine wo_v (v_len tyU_45 rfl) ?_
  refine wo_v (v_move rfl) ?_
  refine wo_nil ?_
  refine wk_block ?_
  refine wk_loop (fun i : Nat => i ≤ k) (fun i => [(0, .int .u64 (n / 256 ^ i : Nat)), (5, .slice (some ⟨b1, 0, none⟩) k k), (10, .int .i64 k), (11, .int .i64 i)]) (fun i => blk b1 (u8s (numB n i) ++ List.replicate (k - i) (.int .u8 0)) 5 :: R) (fun i => k - i) 0 (Nat.zero_le _) ⟨by simp; rfl, rfl, rfl, rfl, trivial⟩ (by simp [numB]; exact ent_tail) fun i hi next => ?_
  refine wk_seq ?_
  refine wk_region ?_
  refine wo_v (v_lss rfl rfl) ?_
  refine wo_nil ?_
  refine wk_seq ?_
  refine wk_if rfl (fun hb => ?_) (fun hb => ?_)
  · have hdi : n / 256 ^ i < 18446744073709551616 := Nat.lt_of_le_of_lt (Nat.div_le_self _ _) hn
    have hik : i < k := by omega
    refine wk_skip ?_
    refine wk_seq ?_
    refine wk_block ?_
    refine wk_seq ?_
    refine wk_region ?_
    refine wo_v (v_move rfl) ?_
    refine wo_v (v_assign rfl) ?_
    refine wo_nil ?_
    refine wk_seq ?_
    refine wk_region ?_
    refine wo_v (v_move rfl) ?_
    refine wo_v (v_move rfl) ?_
    refine wo_v (v_move rfl) ?_
    refine wo_v (v_convN tyU_5 tyU_33 rfl wrapN_u8) ?_
    refine wo_v (v_indexAddr tyU_45 tyN_5 rfl rfl) ?_
    refine wo_w0 (w_store1 tyN_5 rfl rfl rfl (blt_of (b := (u8s (numB n i) ++ List.replicate (k - i) (Value.int .u8 0)).length) (by simp; omega)) (by repeat constructor) ?_)
    refine wo_nil ?_
    refine wk_region ?_
    refine wo_v (v_move rfl) ?_
    refine wo_v (v_shrUN (b := 8) rfl rfl) ?_
    refine wo_v (v_assign rfl) ?_
    refine wo_nil ?_
    refine wk_inBlock ?_
    refine wk_region ?_
    refine wo_v (v_addI rfl rfl) ?_
    refine wo_v (v_move rfl) ?_
    refine wo_nil ?_
    have h8 : n / 256 ^ i / 2 ^ 8 = n / 256 ^ (i + 1) := by rw [Nat.div_div_eq_div_mul, show 256 ^ (i + 1) = 256 ^ i * 2 ^ 8 from Nat.pow_succ ..]
    refine (next (i + 1) hik (by omega)).use ⟨by rw [← h8]; rfl, rfl, rfl, rfl, trivial⟩ ?_
    rw [number_step hik]
    exact ent_tail
  · refine wk_exit rfl ?_
    refine wk_seq ?_
    refine wk_region ?_
    refine wo_v (v_move rfl) ?_
    refine wo_v (v_assign rfl) ?_
    refine wo_nil ?_
    refine wk_ret Tryz.func120 rfl rfl (res_tmp rfl res_nil) fun W h => ?_
    have hik : i = k := by omega
    subst hik
    rw [Nat.sub_self, List.replicate_zero, List.append_nil] at h
    refine ⟨⟨some ⟨b1, 0, none⟩, i, i⟩, rfl, rfl, ?_⟩
    refine (roSl_of_blk (size := 1) (by simp) (Nat.le_refl _) ?_ (by simp)).sat (up_freezeB _ _ h)
    rw [List.drop_zero]; exact List.take_of_length_le (by simp)


theorem s_wire_Writer_Raw {w limit : Nat} {bs cs : List UInt8} {x : SV} (hl : bs.length + cs.length ≤ limit) (hm : limit ≤ 1048576) : FnSpec Tryz.prog 103 #[.pointer (some ⟨w, 0, none⟩), x.v] [WrH w bs limit, pe (bsl x cs)]
    (fun _ : Unit => .tuple #[]) (fun _ => True) (fun _ R => WrH w (bs ++ cs) limit :: R) := by
  refine fn_spec Tryz.func103 rfl rfl rfl rfl fun G R => ?_
  refine wk_nf fun ⟨y, T⟩ hy => ?_
  dsimp only [List.append_eq, List.cons_append, List.nil_append] at hy ⊢
  refine wk_ro (x := x) (cells := u8s cs) (size := 1) (by repeat constructor) fun hx => ?_
  have hxn : cs.length = x.n := by have := hx.1; simpa using this
  refine wk_seq ?_
  refine wk_seq ?_
  refine wk_region ?_
  refine wo_v (v_move rfl) ?_
  refine wo_v (v_eqSome tyU_182 rfl rfl) ?_
  refine wo_nil ?_
  refine wk_condF rfl ?_
  refine wk_skip ?_
  refine wk_seq ?_
  refine wk_draw (n := 23) (pend := 8388607) ⟨23, fun _ => True⟩ mixed (by kernel_rfl) rfl (fun _ _ => trivial) rfl ?_
  refine wd_a 0 rfl (v_move rfl) ?_
  refine wd_a 1 rfl (v_move rfl) ?_
  refine wd_a 2 rfl (v_nilCheck rfl) ?_
  refine wd_a 3 rfl (v_fieldAddr tyF_201_2 rfl) ?_
  refine wd_a 4 rfl (v_load tyS_4 rfl rfl) ?_
  refine wd_a 5 rfl (v_move rfl) ?_
  refine wd_ag 6 rfl rfl rfl (v_move rfl) ?_
  refine wd_ag 7 rfl rfl rfl (v_len tyU_45 rfl) ?_
  refine wd_ag 8 rfl rfl rfl (v_move rfl) ?_
  refine wd_ag 9 rfl rfl rfl (v_nilCheck rfl) ?_
  refine wd_ag 10 rfl rfl rfl (v_fieldAddr tyF_201_1 rfl) ?_
  refine wd_ag 11 rfl rfl rfl (v_load tyS_3 rfl rfl) ?_
  refine wd_ag 12 rfl rfl rfl (v_move rfl) ?_
  refine wd_ag 13 rfl rfl rfl (v_nilCheck rfl) ?_
  refine wd_ag 14 rfl rfl rfl (v_fieldAddr tyF_201_0 rfl) ?_
  refine wd_ag 15 rfl rfl rfl (v_load tyS_45 rfl rfl) ?_
  refine wd_ag 16 rfl rfl rfl (v_len tyU_45 rfl) ?_
  refine wd_ag 17 rfl rfl rfl (v_subI rfl rfl) ?_
  refine wd_ag 18 rfl rfl rfl (v_gtr rfl rfl) ?_
  refine wd_a 19 rfl (v_pickF rfl rfl) ?_
  refine wd_a 20 rfl (v_nilCheck rfl) ?_
  refine wd_a 21 rfl (v_fieldAddr tyF_201_2 rfl) ?_
  refine wd_l0 22 rfl (w_storeN1 tyN_4 rfl rfl rfl (by repeat constructor) (by repeat constructor) ?_)
  refine ⟨fun _ _ _ => trivial, ?_⟩
  refine wd_done ?_
  refine wk_seq ?_
  refine wk_region ?_
  refine wo_v (v_move rfl) ?_
  refine wo_v (v_nilCheck rfl) ?_
  refine wo_v (v_fieldAddr tyF_201_2 rfl) ?_
  refine wo_v (v_load tyS_4 rfl rfl) ?_
  refine wo_v (v_not rfl) ?_
  refine wo_nil ?_
  refine wk_if rfl (fun hq => ?_) (fun hq => ?_)
  · refine wk_region ?_
    refine wo_v (v_move rfl) ?_
    refine wo_v (v_move rfl) ?_
    refine wo_v (v_nilCheck rfl) ?_
    refine wo_v (v_fieldAddr tyF_201_0 rfl) ?_
    refine wo_v (v_load tyS_45 rfl rfl) ?_
    refine wo_v (v_move rfl) ?_
    refine wo_w (w_append tyU_45 tyU_45 (.inl ⟨_, rfl⟩) tyB_5 tyN_5 tyZ_5 rfl (by decide) rfl rfl (src_ro) (allOne_u8s cs) (by repeat constructor) (by (try dsimp only); omega) (by (try dsimp only); omega) hx.1 fun b1 hb1 => ?_)
    refine wo_v (v_nilCheck rfl) ?_
    refine wo_v (v_fieldAddr tyF_201_0 rfl) ?_
    refine wo_w0 (w_storeN1 tyN_45 rfl rfl rfl (by repeat constructor) (by repeat constructor) ?_)
    refine wo_nil ?_
    refine wk_end Tryz.func103 rfl rfl res_nil fun W h => ?_
    rw [decide_eq_false hq, ← u8s_append] at h
    refine ⟨(), rfl, trivial, Ent.sat (by refine ent_nf (b1, T) (by rw [List.length_append, hb1, hy, hxn]) ?_; exact ent_tail) h⟩
  · exact absurd hq (by omega)

end Go.Proofs.YtealmijbkebipaaGreatDoor
