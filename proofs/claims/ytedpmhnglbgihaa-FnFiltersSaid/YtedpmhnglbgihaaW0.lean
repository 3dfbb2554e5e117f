/-
  The types of the program, and where the tables begin.
-/
import Derived.Test.YtedpmhnglbgihaaEvW
import Derived.Test.YtedpmhnglbgihaaProg
import Derived.KernelRfl
namespace Go.Proofs.Ytedpmhnglbgihaa
open Go.Ev

def T : Types := assoc [(1, ⟨.func, none, 1, 8, [.av (.val .nilFunc)]⟩),
  (2, ⟨.scalar, some (.int .i64), 1, 8, [.av (.int .i64 0)]⟩),
  (3, ⟨.scalar, some (.int .i64), 1, 8, [.av (.int .i64 0)]⟩),
  (4, ⟨.scalar, some .bool, 1, 1, [.av (.bool false)]⟩),
  (5, ⟨.scalar, some (.int .u8), 1, 1, [.av (.int .u8 0)]⟩),
  (6, ⟨.scalar, some (.int .u8), 1, 1, [.av (.int .u8 0)]⟩),
  (7, ⟨.struct [(0, 2), (1, 3), (2, 4), (3, 6)], some (.pair (.int .i64) (.pair (.int .i64) (.pair .bool (.int .u8)))), 4, 24, [.av (.int .i64 0), .av (.int .i64 0), .av (.bool false), .av (.int .u8 0)]⟩),
  (8, ⟨.struct [(0, 2), (1, 3), (2, 4), (3, 6)], some (.pair (.int .i64) (.pair (.int .i64) (.pair .bool (.int .u8)))), 4, 24, [.av (.int .i64 0), .av (.int .i64 0), .av (.bool false), .av (.int .u8 0)]⟩),
  (9, ⟨.scalar, some .str, 1, 16, [.av (.str "".toUTF8)]⟩),
  (10, ⟨.scalar, some .str, 1, 16, [.av (.str "".toUTF8)]⟩),
  (11, ⟨.scalar, some .str, 1, 16, [.av (.str "".toUTF8)]⟩),
  (12, ⟨.scalar, some (.int .u64), 1, 8, [.av (.int .u64 0)]⟩),
  (13, ⟨.struct [(0, 9), (1, 12)], some (.pair .str (.int .u64)), 2, 24, [.av (.str "".toUTF8), .av (.int .u64 0)]⟩),
  (14, ⟨.struct [(0, 9), (1, 12)], some (.pair .str (.int .u64)), 2, 24, [.av (.str "".toUTF8), .av (.int .u64 0)]⟩),
  (15, ⟨.ptr, none, 1, 8, [.av (.val (.pointer none))]⟩),
  (16, ⟨.ptr, none, 1, 8, [.av (.val (.pointer none))]⟩),
  (17, ⟨.ptr, none, 1, 8, [.av (.val (.pointer none))]⟩),
  (18, ⟨.struct [(0, 17)], none, 1, 8, [.av (.val (.pointer none))]⟩),
  (19, ⟨.struct [(0, 17)], none, 1, 8, [.av (.val (.pointer none))]⟩),
  (21, ⟨.scalar, some (.int .i32), 1, 4, [.av (.int .i32 0)]⟩),
  (22, ⟨.slice 5, some (.slice (.int .u8)), 1, 24, [.sl 5 (.int .u8)]⟩),
  (23, ⟨.func, none, 1, 8, [.av (.val .nilFunc)]⟩),
  (24, ⟨.func, none, 1, 8, [.av (.val .nilFunc)]⟩),
  (25, ⟨.slice 34, some (.slice (.flt .f32)), 1, 24, [.sl 34 (.flt .f32)]⟩),
  (26, ⟨.func, none, 1, 8, [.av (.val .nilFunc)]⟩),
  (28, ⟨.func, none, 1, 8, [.av (.val .nilFunc)]⟩),
  (29, ⟨.func, none, 1, 8, [.av (.val .nilFunc)]⟩),
  (30, ⟨.func, none, 1, 8, [.av (.val .nilFunc)]⟩),
  (31, ⟨.func, none, 1, 8, [.av (.val .nilFunc)]⟩),
  (32, ⟨.scalar, some (.flt .f64), 1, 8, [.av (.flt .f64 0)]⟩),
  (33, ⟨.func, none, 1, 8, [.av (.val .nilFunc)]⟩),
  (34, ⟨.scalar, some (.flt .f32), 1, 4, [.av (.flt .f32 0)]⟩),
  (35, ⟨.func, none, 1, 8, [.av (.val .nilFunc)]⟩),
  (36, ⟨.func, none, 1, 8, [.av (.val .nilFunc)]⟩),
  (37, ⟨.func, none, 1, 8, [.av (.val .nilFunc)]⟩),
  (38, ⟨.func, none, 1, 8, [.av (.val .nilFunc)]⟩),
  (39, ⟨.ptr, none, 1, 8, [.av (.val (.pointer none))]⟩),
  (40, ⟨.func, none, 1, 8, [.av (.val .nilFunc)]⟩),
  (41, ⟨.func, none, 1, 8, [.av (.val .nilFunc)]⟩),
  (42, ⟨.func, none, 1, 8, [.av (.val .nilFunc)]⟩),
  (43, ⟨.func, none, 1, 8, [.av (.val .nilFunc)]⟩),
  (44, ⟨.func, none, 1, 8, [.av (.val .nilFunc)]⟩),
  (45, ⟨.func, none, 1, 8, [.av (.val .nilFunc)]⟩),
  (46, ⟨.func, none, 1, 8, [.av (.val .nilFunc)]⟩),
  (47, ⟨.func, none, 1, 8, [.av (.val .nilFunc)]⟩),
  (48, ⟨.func, none, 1, 8, [.av (.val .nilFunc)]⟩),
  (49, ⟨.func, none, 1, 8, [.av (.val .nilFunc)]⟩),
  (50, ⟨.func, none, 1, 8, [.av (.val .nilFunc)]⟩),
  (51, ⟨.func, none, 1, 8, [.av (.val .nilFunc)]⟩),
  (52, ⟨.slice 2, some (.slice (.int .i64)), 1, 24, [.sl 2 (.int .i64)]⟩),
  (53, ⟨.func, none, 1, 8, [.av (.val .nilFunc)]⟩),
  (54, ⟨.scalar, some (.int .u64), 1, 8, [.av (.int .u64 0)]⟩),
  (55, ⟨.struct [(0, 22), (1, 3), (2, 54)], some (.pair (.slice (.int .u8)) (.pair (.int .i64) (.int .u64))), 3, 40, [.sl 5 (.int .u8), .av (.int .i64 0), .av (.int .u64 0)]⟩),
  (56, ⟨.struct [(0, 22), (1, 3), (2, 54)], some (.pair (.slice (.int .u8)) (.pair (.int .i64) (.int .u64))), 3, 40, [.sl 5 (.int .u8), .av (.int .i64 0), .av (.int .u64 0)]⟩),
  (57, ⟨.func, none, 1, 8, [.av (.val .nilFunc)]⟩),
  (58, ⟨.func, none, 1, 8, [.av (.val .nilFunc)]⟩),
  (59, ⟨.func, none, 1, 8, [.av (.val .nilFunc)]⟩),
  (60, ⟨.func, none, 1, 8, [.av (.val .nilFunc)]⟩),
  (61, ⟨.func, none, 1, 8, [.av (.val .nilFunc)]⟩),
  (62, ⟨.func, none, 1, 8, [.av (.val .nilFunc)]⟩),
  (63, ⟨.scalar, some (.int .u64), 1, 8, [.av (.int .u64 0)]⟩),
  (64, ⟨.func, none, 1, 8, [.av (.val .nilFunc)]⟩),
  (65, ⟨.func, none, 1, 8, [.av (.val .nilFunc)]⟩),
  (66, ⟨.func, none, 1, 8, [.av (.val .nilFunc)]⟩),
  (67, ⟨.struct [(0, 17), (1, 17), (2, 17), (3, 9)], none, 4, 40, [.av (.val (.pointer none)), .av (.val (.pointer none)), .av (.val (.pointer none)), .av (.str "".toUTF8)]⟩),
  (68, ⟨.struct [(0, 17), (1, 17), (2, 17), (3, 9)], none, 4, 40, [.av (.val (.pointer none)), .av (.val (.pointer none)), .av (.val (.pointer none)), .av (.str "".toUTF8)]⟩),
  (72, ⟨.func, none, 1, 8, [.av (.val .nilFunc)]⟩),
  (73, ⟨.scalar, some (.int .u32), 1, 4, [.av (.int .u32 0)]⟩),
  (74, ⟨.scalar, some (.int .u8), 1, 1, [.av (.int .u8 0)]⟩),
  (75, ⟨.scalar, some (.int .u8), 1, 1, [.av (.int .u8 0)]⟩),
  (76, ⟨.func, none, 1, 8, [.av (.val .nilFunc)]⟩),
  (77, ⟨.ptr, none, 1, 8, [.av (.val (.pointer none))]⟩),
  (78, ⟨.scalar, some (.int .i32), 1, 4, [.av (.int .i32 0)]⟩),
  (79, ⟨.scalar, some (.int .i32), 1, 4, [.av (.int .i32 0)]⟩),
  (80, ⟨.struct [(0, 12), (1, 12), (2, 73), (3, 74), (4, 5), (5, 5), (6, 75), (7, 76), (8, 77), (9, 78), (10, 79)], none, 11, 48, [.av (.int .u64 0), .av (.int .u64 0), .av (.int .u32 0), .av (.int .u8 0), .av (.int .u8 0), .av (.int .u8 0), .av (.int .u8 0), .av (.val .nilFunc), .av (.val (.pointer none)), .av (.int .i32 0), .av (.int .i32 0)]⟩),
  (81, ⟨.struct [(0, 12), (1, 12), (2, 73), (3, 74), (4, 5), (5, 5), (6, 75), (7, 76), (8, 77), (9, 78), (10, 79)], none, 11, 48, [.av (.int .u64 0), .av (.int .u64 0), .av (.int .u32 0), .av (.int .u8 0), .av (.int .u8 0), .av (.int .u8 0), .av (.int .u8 0), .av (.val .nilFunc), .av (.val (.pointer none)), .av (.int .i32 0), .av (.int .i32 0)]⟩)]

noncomputable abbrev P : Program := Try.prog

theorem T_ok : TOk P T := TOk.of_all (by kernel_rfl)
theorem P_mixed : P.follows .mixedOrders = true := by kernel_rfl

theorem ext_46 : SumOk P 46 (.ext S_f64bits f64bits_val) := ext_ok (fn := Try.f46) (e := Extern.MathFloatBits.float64bits) (by kernel_rfl) (by kernel_rfl) (by kernel_rfl) (by kernel_rfl) (by kernel_rfl) f64bits_spec
theorem ext_45 : SumOk P 45 (.ext S_f64frombits f64frombits_val) := ext_ok (fn := Try.f45) (e := Extern.MathFloatBits.float64frombits) (by kernel_rfl) (by kernel_rfl) (by kernel_rfl) (by kernel_rfl) (by kernel_rfl) f64frombits_spec
theorem ext_50 : SumOk P 50 (.ext (S_fround .zero) fround_val) := ext_ok (fn := Try.f50) (e := (Extern.MathFloor.toIntegral "math.archTrunc" .zero)) (by kernel_rfl) (by kernel_rfl) (by kernel_rfl) (by kernel_rfl) (by kernel_rfl) (fround_spec "math.archTrunc" .zero)
theorem ext_48 : SumOk P 48 (.ext S_sqrt sqrt_val) := ext_ok' (fn := Try.f48) (e := Extern.MathSqrt.sqrt) (by kernel_rfl) (by kernel_rfl) (by kernel_rfl) (by kernel_rfl) (by kernel_rfl) sqrt_spec

def F_0 (_φ : Nat) : FuncId → Option Sum := ins 48 (.ext S_sqrt sqrt_val) (ins 50 (.ext (S_fround .zero) fround_val) (ins 45 (.ext S_f64frombits f64frombits_val) (ins 46 (.ext S_f64bits f64bits_val) (noF))))
theorem F_0_ok (φ : Nat) : FOk P (F_0 φ) := ins_ok ext_48 (ins_ok ext_50 (ins_ok ext_45 (ins_ok ext_46 (noF_ok))))

end Go.Proofs.Ytedpmhnglbgihaa
