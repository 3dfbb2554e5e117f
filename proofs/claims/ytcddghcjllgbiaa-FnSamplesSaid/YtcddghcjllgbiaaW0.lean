/-
  The types of the program, and where the tables begin.
-/
import Derived.Test.YtcddghcjllgbiaaEvW
import Derived.Test.YtcddghcjllgbiaaProg
import Derived.KernelRfl
namespace Go.Proofs.Ytcddghcjllgbiaa
open Go.Ev

def T : Types := assoc [(1, ⟨.func, none, 1, 8, [.av (.val .nilFunc)]⟩),
  (2, ⟨.scalar, some (.int .i64), 1, 8, [.av (.int .i64 0)]⟩),
  (3, ⟨.scalar, some (.int .i64), 1, 8, [.av (.int .i64 0)]⟩),
  (4, ⟨.scalar, some .bool, 1, 1, [.av (.bool false)]⟩),
  (5, ⟨.scalar, some (.int .u8), 1, 1, [.av (.int .u8 0)]⟩),
  (6, ⟨.scalar, some (.int .u8), 1, 1, [.av (.int .u8 0)]⟩),
  (7, ⟨.struct [(0, 2), (1, 3), (2, 4), (3, 6)], some (.pair (.int .i64) (.pair (.int .i64) (.pair .bool (.int .u8)))), 4, 24, [.av (.int .i64 0), .av (.int .i64 0), .av (.bool false), .av (.int .u8 0)]⟩),
  (8, ⟨.struct [(0, 2), (1, 3), (2, 4), (3, 6)], some (.pair (.int .i64) (.pair (.int .i64) (.pair .bool (.int .u8)))), 4, 24, [.av (.int .i64 0), .av (.int .i64 0), .av (.bool false), .av (.int .u8 0)]⟩),
  (9, ⟨.scalar, some .str, 1, 16, [.av (.str "".toUTF8)]⟩),
  (10, ⟨.scalar, some .str, 1, 16, [.av (.str "".toUTF8)]⟩),
  (11, ⟨.scalar, some .str, 1, 16, [.av (.str "".toUTF8)]⟩),
  (12, ⟨.scalar, some (.int .u64), 1, 8, [.av (.int .u64 0)]⟩),
  (13, ⟨.struct [(0, 9), (1, 12)], some (.pair .str (.int .u64)), 2, 24, [.av (.str "".toUTF8), .av (.int .u64 0)]⟩),
  (14, ⟨.struct [(0, 9), (1, 12)], some (.pair .str (.int .u64)), 2, 24, [.av (.str "".toUTF8), .av (.int .u64 0)]⟩),
  (15, ⟨.ptr, none, 1, 8, [.av (.val (.pointer none))]⟩),
  (16, ⟨.ptr, none, 1, 8, [.av (.val (.pointer none))]⟩),
  (17, ⟨.ptr, none, 1, 8, [.av (.val (.pointer none))]⟩),
  (18, ⟨.struct [(0, 17)], none, 1, 8, [.av (.val (.pointer none))]⟩),
  (19, ⟨.struct [(0, 17)], none, 1, 8, [.av (.val (.pointer none))]⟩),
  (21, ⟨.scalar, some (.int .i32), 1, 4, [.av (.int .i32 0)]⟩),
  (22, ⟨.slice 5, some (.slice (.int .u8)), 1, 24, [.sl 5 (.int .u8)]⟩),
  (23, ⟨.func, none, 1, 8, [.av (.val .nilFunc)]⟩),
  (24, ⟨.func, none, 1, 8, [.av (.val .nilFunc)]⟩),
  (25, ⟨.slice 27, some (.slice (.flt .f32)), 1, 24, [.sl 27 (.flt .f32)]⟩),
  (26, ⟨.func, none, 1, 8, [.av (.val .nilFunc)]⟩),
  (27, ⟨.scalar, some (.flt .f32), 1, 4, [.av (.flt .f32 0)]⟩),
  (29, ⟨.func, none, 1, 8, [.av (.val .nilFunc)]⟩),
  (31, ⟨.func, none, 1, 8, [.av (.val .nilFunc)]⟩),
  (32, ⟨.func, none, 1, 8, [.av (.val .nilFunc)]⟩),
  (33, ⟨.func, none, 1, 8, [.av (.val .nilFunc)]⟩),
  (34, ⟨.slice 25, some (.slice (.slice (.flt .f32))), 1, 24, [.sl 25 (.slice (.flt .f32))]⟩),
  (35, ⟨.struct [(0, 2), (1, 25), (2, 34)], some (.pair (.int .i64) (.pair (.slice (.flt .f32)) (.slice (.slice (.flt .f32))))), 3, 56, [.av (.int .i64 0), .sl 27 (.flt .f32), .sl 25 (.slice (.flt .f32))]⟩),
  (36, ⟨.struct [(0, 2), (1, 25), (2, 34)], some (.pair (.int .i64) (.pair (.slice (.flt .f32)) (.slice (.slice (.flt .f32))))), 3, 56, [.av (.int .i64 0), .sl 27 (.flt .f32), .sl 25 (.slice (.flt .f32))]⟩),
  (38, ⟨.func, none, 1, 8, [.av (.val .nilFunc)]⟩),
  (39, ⟨.func, none, 1, 8, [.av (.val .nilFunc)]⟩),
  (40, ⟨.func, none, 1, 8, [.av (.val .nilFunc)]⟩),
  (41, ⟨.ptr, none, 1, 8, [.av (.val (.pointer none))]⟩),
  (42, ⟨.func, none, 1, 8, [.av (.val .nilFunc)]⟩),
  (43, ⟨.func, none, 1, 8, [.av (.val .nilFunc)]⟩),
  (44, ⟨.func, none, 1, 8, [.av (.val .nilFunc)]⟩),
  (45, ⟨.func, none, 1, 8, [.av (.val .nilFunc)]⟩),
  (46, ⟨.func, none, 1, 8, [.av (.val .nilFunc)]⟩),
  (47, ⟨.func, none, 1, 8, [.av (.val .nilFunc)]⟩),
  (48, ⟨.func, none, 1, 8, [.av (.val .nilFunc)]⟩),
  (49, ⟨.func, none, 1, 8, [.av (.val .nilFunc)]⟩),
  (50, ⟨.func, none, 1, 8, [.av (.val .nilFunc)]⟩),
  (51, ⟨.func, none, 1, 8, [.av (.val .nilFunc)]⟩),
  (52, ⟨.func, none, 1, 8, [.av (.val .nilFunc)]⟩),
  (53, ⟨.func, none, 1, 8, [.av (.val .nilFunc)]⟩),
  (54, ⟨.func, none, 1, 8, [.av (.val .nilFunc)]⟩),
  (55, ⟨.scalar, some (.flt .f64), 1, 8, [.av (.flt .f64 0)]⟩),
  (56, ⟨.func, none, 1, 8, [.av (.val .nilFunc)]⟩),
  (57, ⟨.func, none, 1, 8, [.av (.val .nilFunc)]⟩),
  (58, ⟨.func, none, 1, 8, [.av (.val .nilFunc)]⟩),
  (59, ⟨.func, none, 1, 8, [.av (.val .nilFunc)]⟩),
  (60, ⟨.scalar, some (.int .u64), 1, 8, [.av (.int .u64 0)]⟩),
  (61, ⟨.struct [(0, 22), (1, 3), (2, 60)], some (.pair (.slice (.int .u8)) (.pair (.int .i64) (.int .u64))), 3, 40, [.sl 5 (.int .u8), .av (.int .i64 0), .av (.int .u64 0)]⟩),
  (62, ⟨.struct [(0, 22), (1, 3), (2, 60)], some (.pair (.slice (.int .u8)) (.pair (.int .i64) (.int .u64))), 3, 40, [.sl 5 (.int .u8), .av (.int .i64 0), .av (.int .u64 0)]⟩),
  (63, ⟨.func, none, 1, 8, [.av (.val .nilFunc)]⟩),
  (64, ⟨.func, none, 1, 8, [.av (.val .nilFunc)]⟩),
  (65, ⟨.func, none, 1, 8, [.av (.val .nilFunc)]⟩),
  (66, ⟨.func, none, 1, 8, [.av (.val .nilFunc)]⟩),
  (67, ⟨.scalar, some (.int .u64), 1, 8, [.av (.int .u64 0)]⟩),
  (68, ⟨.func, none, 1, 8, [.av (.val .nilFunc)]⟩),
  (69, ⟨.func, none, 1, 8, [.av (.val .nilFunc)]⟩),
  (71, ⟨.func, none, 1, 8, [.av (.val .nilFunc)]⟩),
  (72, ⟨.func, none, 1, 8, [.av (.val .nilFunc)]⟩),
  (73, ⟨.func, none, 1, 8, [.av (.val .nilFunc)]⟩),
  (74, ⟨.func, none, 1, 8, [.av (.val .nilFunc)]⟩),
  (75, ⟨.func, none, 1, 8, [.av (.val .nilFunc)]⟩),
  (76, ⟨.struct [(0, 17), (1, 17), (2, 17), (3, 9)], none, 4, 40, [.av (.val (.pointer none)), .av (.val (.pointer none)), .av (.val (.pointer none)), .av (.str "".toUTF8)]⟩),
  (77, ⟨.struct [(0, 17), (1, 17), (2, 17), (3, 9)], none, 4, 40, [.av (.val (.pointer none)), .av (.val (.pointer none)), .av (.val (.pointer none)), .av (.str "".toUTF8)]⟩),
  (81, ⟨.func, none, 1, 8, [.av (.val .nilFunc)]⟩),
  (82, ⟨.scalar, some (.int .u32), 1, 4, [.av (.int .u32 0)]⟩),
  (83, ⟨.scalar, some (.int .u8), 1, 1, [.av (.int .u8 0)]⟩),
  (84, ⟨.scalar, some (.int .u8), 1, 1, [.av (.int .u8 0)]⟩),
  (85, ⟨.func, none, 1, 8, [.av (.val .nilFunc)]⟩),
  (86, ⟨.ptr, none, 1, 8, [.av (.val (.pointer none))]⟩),
  (87, ⟨.scalar, some (.int .i32), 1, 4, [.av (.int .i32 0)]⟩),
  (88, ⟨.scalar, some (.int .i32), 1, 4, [.av (.int .i32 0)]⟩),
  (89, ⟨.struct [(0, 12), (1, 12), (2, 82), (3, 83), (4, 5), (5, 5), (6, 84), (7, 85), (8, 86), (9, 87), (10, 88)], none, 11, 48, [.av (.int .u64 0), .av (.int .u64 0), .av (.int .u32 0), .av (.int .u8 0), .av (.int .u8 0), .av (.int .u8 0), .av (.int .u8 0), .av (.val .nilFunc), .av (.val (.pointer none)), .av (.int .i32 0), .av (.int .i32 0)]⟩),
  (90, ⟨.struct [(0, 12), (1, 12), (2, 82), (3, 83), (4, 5), (5, 5), (6, 84), (7, 85), (8, 86), (9, 87), (10, 88)], none, 11, 48, [.av (.int .u64 0), .av (.int .u64 0), .av (.int .u32 0), .av (.int .u8 0), .av (.int .u8 0), .av (.int .u8 0), .av (.int .u8 0), .av (.val .nilFunc), .av (.val (.pointer none)), .av (.int .i32 0), .av (.int .i32 0)]⟩),
  (91, ⟨.func, none, 1, 8, [.av (.val .nilFunc)]⟩)]

noncomputable abbrev P : Program := Try.prog

theorem T_ok : TOk P T := TOk.of_all (by kernel_rfl)
theorem P_mixed : P.follows .mixedOrders = true := by kernel_rfl

theorem ext_56 : SumOk P 56 (.ext S_f64bits f64bits_val) := ext_ok (fn := Try.f56) (e := Extern.MathFloatBits.float64bits) (by kernel_rfl) (by kernel_rfl) (by kernel_rfl) (by kernel_rfl) (by kernel_rfl) f64bits_spec
theorem ext_55 : SumOk P 55 (.ext S_f64frombits f64frombits_val) := ext_ok (fn := Try.f55) (e := Extern.MathFloatBits.float64frombits) (by kernel_rfl) (by kernel_rfl) (by kernel_rfl) (by kernel_rfl) (by kernel_rfl) f64frombits_spec
theorem ext_43 : SumOk P 43 (.ext (S_fround .down) fround_val) := ext_ok (fn := Try.f43) (e := (Extern.MathFloor.toIntegral "math.archFloor" .down)) (by kernel_rfl) (by kernel_rfl) (by kernel_rfl) (by kernel_rfl) (by kernel_rfl) (fround_spec "math.archFloor" .down)
theorem ext_57 : SumOk P 57 (.ext (S_fround .zero) fround_val) := ext_ok (fn := Try.f57) (e := (Extern.MathFloor.toIntegral "math.archTrunc" .zero)) (by kernel_rfl) (by kernel_rfl) (by kernel_rfl) (by kernel_rfl) (by kernel_rfl) (fround_spec "math.archTrunc" .zero)
theorem ext_51 : SumOk P 51 (.ext S_sqrt sqrt_val) := ext_ok' (fn := Try.f51) (e := Extern.MathSqrt.sqrt) (by kernel_rfl) (by kernel_rfl) (by kernel_rfl) (by kernel_rfl) (by kernel_rfl) sqrt_spec

def F_0 (_φ : Nat) : FuncId → Option Sum := ins 51 (.ext S_sqrt sqrt_val) (ins 57 (.ext (S_fround .zero) fround_val) (ins 43 (.ext (S_fround .down) fround_val) (ins 55 (.ext S_f64frombits f64frombits_val) (ins 56 (.ext S_f64bits f64bits_val) (noF)))))
theorem F_0_ok (φ : Nat) : FOk P (F_0 φ) := ins_ok ext_51 (ins_ok ext_57 (ins_ok ext_43 (ins_ok ext_55 (ins_ok ext_56 (noF_ok)))))

end Go.Proofs.Ytcddghcjllgbiaa
