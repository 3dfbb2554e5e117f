/-
  All functions together.
-/
import Derived.Test.YtcddghcjllgbiaaXP1
import Derived.Test.YtcddghcjllgbiaaXP2
import Derived.Test.YtcddghcjllgbiaaXP3
set_option linter.all false
set_option maxRecDepth 100000
set_option maxHeartbeats 4000000
namespace Go.Proofs.Ytcddghcjllgbiaa
open Go.Ev
noncomputable section

theorem A_laws_r8Long_ok (φ : Nat) : SumOk P 4 (A_laws_r8Long φ) := laws_r8Long_ok T_ok φ (F_0_ok φ) P_mixed

theorem F_1_ok (φ : Nat) : FOk P (F_1 φ) := ins_ok (A_laws_r8Long_ok φ) (F_0_ok φ)


theorem A_laws_r8At_ok (φ : Nat) : SumOk P 5 (A_laws_r8At φ) := laws_r8At_ok T_ok φ (F_1_ok φ) P_mixed

theorem F_2_ok (φ : Nat) : FOk P (F_2 φ) := ins_ok (A_laws_r8At_ok φ) (F_1_ok φ)


theorem A_spec_l00From_ok (φ : Nat) : SumOk P 15 (A_spec_l00From φ) := spec_l00From_ok T_ok φ (F_2_ok φ) P_mixed

theorem F_3_ok (φ : Nat) : FOk P (F_3 φ) := ins_ok (A_spec_l00From_ok φ) (F_2_ok φ)


theorem A_spec_l00Src_next_ok (φ : Nat) : SumOk P 36 (A_spec_l00Src_next φ) := spec_l00Src_next_ok T_ok φ (F_3_ok φ) P_mixed

theorem F_4_ok (φ : Nat) : FOk P (F_4 φ) := ins_ok (A_spec_l00Src_next_ok φ) (F_3_ok φ)


theorem A_spec_l00Src_pick_ok (φ : Nat) : SumOk P 16 (A_spec_l00Src_pick φ) := spec_l00Src_pick_ok T_ok φ (F_4_ok φ) P_mixed

theorem F_5_ok (φ : Nat) : FOk P (F_5 φ) := ins_ok (A_spec_l00Src_pick_ok φ) (F_4_ok φ)


theorem A_spec_R8List_ok (φ : Nat) : SumOk P 6 (A_spec_R8List φ) := spec_R8List_ok T_ok φ (F_5_ok φ) P_mixed

theorem F_6_ok (φ : Nat) : FOk P (F_6 φ) := ins_ok (A_spec_R8List_ok φ) (F_5_ok φ)


theorem A_impl_length_float32_ok (φ : Nat) : SumOk P 26 (A_impl_length_float32 φ) := impl_length_float32_ok T_ok φ (F_6_ok φ) P_mixed

theorem F_7_ok (φ : Nat) : FOk P (F_7 φ) := ins_ok (A_impl_length_float32_ok φ) (F_6_ok φ)


theorem A_impl_within_ok (φ : Nat) : SumOk P 25 (A_impl_within φ) := impl_within_ok T_ok φ (F_7_ok φ) P_mixed

theorem F_8_ok (φ : Nat) : FOk P (F_8 φ) := ins_ok (A_impl_within_ok φ) (F_7_ok φ)


theorem A_impl_isTicks_ok (φ : Nat) : SumOk P 17 (A_impl_isTicks φ) := impl_isTicks_ok T_ok φ (F_8_ok φ) P_mixed

theorem F_9_ok (φ : Nat) : FOk P (F_9 φ) := ins_ok (A_impl_isTicks_ok φ) (F_8_ok φ)


theorem A_math_Floor_ok (φ : Nat) : SumOk P 32 (A_math_Floor φ) := math_Floor_ok T_ok φ (F_9_ok φ) P_mixed

theorem F_10_ok (φ : Nat) : FOk P (F_10 φ) := ins_ok (A_math_Floor_ok φ) (F_9_ok φ)


theorem A_impl_sample_ok (φ : Nat) : SumOk P 18 (A_impl_sample φ) := impl_sample_ok T_ok φ (F_10_ok φ) P_mixed

theorem F_11_ok (φ : Nat) : FOk P (F_11 φ) := ins_ok (A_impl_sample_ok φ) (F_10_ok φ)


theorem A_impl_SampleBetween_ok (φ : Nat) : SumOk P 7 (A_impl_SampleBetween φ) := impl_SampleBetween_ok T_ok φ (F_11_ok φ) P_mixed

theorem F_12_ok (φ : Nat) : FOk P (F_12 φ) := ins_ok (A_impl_SampleBetween_ok φ) (F_11_ok φ)


theorem A_impl_isFinite_ok (φ : Nat) : SumOk P 37 (A_impl_isFinite φ) := impl_isFinite_ok T_ok φ (F_12_ok φ) P_mixed

theorem F_13_ok (φ : Nat) : FOk P (F_13 φ) := ins_ok (A_impl_isFinite_ok φ) (F_12_ok φ)


theorem A_impl_IsFinite_ok (φ : Nat) : SumOk P 19 (A_impl_IsFinite φ) := impl_IsFinite_ok T_ok φ (F_13_ok φ) P_mixed

theorem F_14_ok (φ : Nat) : FOk P (F_14 φ) := ins_ok (A_impl_IsFinite_ok φ) (F_13_ok φ)


theorem A_impl_areFinite_ok (φ : Nat) : SumOk P 27 (A_impl_areFinite φ) := impl_areFinite_ok T_ok φ (F_14_ok φ) P_mixed

theorem F_15_ok (φ : Nat) : FOk P (F_15 φ) := ins_ok (A_impl_areFinite_ok φ) (F_14_ok φ)


theorem A_impl_arePositive_1_ok (φ : Nat) : SumOk P 39 (A_impl_arePositive_1 φ) := impl_arePositive_1_ok T_ok φ (F_15_ok φ) P_mixed

theorem F_16_ok (φ : Nat) : FOk P (F_16 φ) := ins_ok (A_impl_arePositive_1_ok φ) (F_15_ok φ)


theorem A_slices_IndexFunc_float32_float32_ok (φ : Nat) : SumOk P 46 (A_slices_IndexFunc_float32_float32 φ) := slices_IndexFunc_float32_float32_ok T_ok φ (F_16_ok φ) P_mixed

theorem F_17_ok (φ : Nat) : FOk P (F_17 φ) := ins_ok (A_slices_IndexFunc_float32_float32_ok φ) (F_16_ok φ)


theorem A_slices_ContainsFunc_float32_float32_ok (φ : Nat) : SumOk P 38 (A_slices_ContainsFunc_float32_float32 φ) := slices_ContainsFunc_float32_float32_ok T_ok φ (F_17_ok φ) P_mixed

theorem F_18_ok (φ : Nat) : FOk P (F_18 φ) := ins_ok (A_slices_ContainsFunc_float32_float32_ok φ) (F_17_ok φ)


theorem A_impl_arePositive_ok (φ : Nat) : SumOk P 20 (A_impl_arePositive φ) := impl_arePositive_ok T_ok φ (F_18_ok φ) P_mixed

theorem F_19_ok (φ : Nat) : FOk P (F_19 φ) := ins_ok (A_impl_arePositive_ok φ) (F_18_ok φ)


theorem A_math_Sqrt_ok (φ : Nat) : SumOk P 47 (A_math_Sqrt φ) := math_Sqrt_ok T_ok φ (F_19_ok φ) P_mixed

theorem F_20_ok (φ : Nat) : FOk P (F_20 φ) := ins_ok (A_math_Sqrt_ok φ) (F_19_ok φ)


theorem A_impl_RootNumber_ok (φ : Nat) : SumOk P 42 (A_impl_RootNumber φ) := impl_RootNumber_ok T_ok φ (F_20_ok φ) P_mixed

theorem F_21_ok (φ : Nat) : FOk P (F_21 φ) := ins_ok (A_impl_RootNumber_ok φ) (F_20_ok φ)


theorem A_impl_curve_ok (φ : Nat) : SumOk P 33 (A_impl_curve φ) := impl_curve_ok T_ok φ (F_21_ok φ) P_mixed

theorem F_22_ok (φ : Nat) : FOk P (F_22 φ) := ins_ok (A_impl_curve_ok φ) (F_21_ok φ)


theorem A_impl_corrected_1_ok (φ : Nat) : SumOk P 40 (A_impl_corrected_1 φ) := impl_corrected_1_ok T_ok φ (F_22_ok φ) P_mixed

theorem F_23_ok (φ : Nat) : FOk P (F_23 φ) := ins_ok (A_impl_corrected_1_ok φ) (F_22_ok φ)


theorem A_impl_sampled_ok (φ : Nat) : SumOk P 23 (A_impl_sampled φ) := impl_sampled_ok T_ok φ (F_23_ok φ) P_mixed

theorem F_24_ok (φ : Nat) : FOk P (F_24 φ) := ins_ok (A_impl_sampled_ok φ) (F_23_ok φ)


theorem A_impl_corrected_ok (φ : Nat) : SumOk P 21 (A_impl_corrected φ) := impl_corrected_ok T_ok φ (F_24_ok φ) P_mixed

theorem F_25_ok (φ : Nat) : FOk P (F_25 φ) := ins_ok (A_impl_corrected_ok φ) (F_24_ok φ)


theorem A_impl_CorrectTrace_ok (φ : Nat) : SumOk P 8 (A_impl_CorrectTrace φ) := impl_CorrectTrace_ok T_ok φ (F_25_ok φ) P_mixed

theorem F_26_ok (φ : Nat) : FOk P (F_26 φ) := ins_ok (A_impl_CorrectTrace_ok φ) (F_25_ok φ)


theorem A_impl_bent_1_ok (φ : Nat) : SumOk P 41 (A_impl_bent_1 φ) := impl_bent_1_ok T_ok φ (F_26_ok φ) P_mixed

theorem F_27_ok (φ : Nat) : FOk P (F_27 φ) := ins_ok (A_impl_bent_1_ok φ) (F_26_ok φ)


theorem A_impl_sampled_v2_ok (φ : Nat) : SumOk P 23 (A_impl_sampled_v2 φ) := And.intro (impl_sampled_v2_ok T_ok φ (F_27_ok φ) P_mixed) (A_impl_sampled_ok φ)

theorem F_28_ok (φ : Nat) : FOk P (F_28 φ) := ins_ok (A_impl_sampled_v2_ok φ) (F_27_ok φ)


theorem A_impl_bent_ok (φ : Nat) : SumOk P 22 (A_impl_bent φ) := impl_bent_ok T_ok φ (F_28_ok φ) P_mixed

theorem F_29_ok (φ : Nat) : FOk P (F_29 φ) := ins_ok (A_impl_bent_ok φ) (F_28_ok φ)


theorem A_impl_BendTrace_ok (φ : Nat) : SumOk P 9 (A_impl_BendTrace φ) := impl_BendTrace_ok T_ok φ (F_29_ok φ) P_mixed

theorem F_30_ok (φ : Nat) : FOk P (F_30 φ) := ins_ok (A_impl_BendTrace_ok φ) (F_29_ok φ)


theorem A_impl_MoveTrace_1_ok (φ : Nat) : SumOk P 24 (A_impl_MoveTrace_1 φ) := impl_MoveTrace_1_ok T_ok φ (F_30_ok φ) P_mixed

theorem F_31_ok (φ : Nat) : FOk P (F_31 φ) := ins_ok (A_impl_MoveTrace_1_ok φ) (F_30_ok φ)


theorem A_impl_sampled_v3_ok (φ : Nat) : SumOk P 23 (A_impl_sampled_v3 φ) := And.intro (impl_sampled_v3_ok T_ok φ (F_31_ok φ) P_mixed) (A_impl_sampled_v2_ok φ)

theorem F_32_ok (φ : Nat) : FOk P (F_32 φ) := ins_ok (A_impl_sampled_v3_ok φ) (F_31_ok φ)


theorem A_impl_MoveTrace_ok (φ : Nat) : SumOk P 10 (A_impl_MoveTrace φ) := impl_MoveTrace_ok T_ok φ (F_32_ok φ) P_mixed

theorem F_33_ok (φ : Nat) : FOk P (F_33 φ) := ins_ok (A_impl_MoveTrace_ok φ) (F_32_ok φ)


theorem A_laws_r8Equal_ok (φ : Nat) : SumOk P 11 (A_laws_r8Equal φ) := laws_r8Equal_ok T_ok φ (F_33_ok φ) P_mixed

theorem F_34_ok (φ : Nat) : FOk P (F_34 φ) := ins_ok (A_laws_r8Equal_ok φ) (F_33_ok φ)


theorem A_slices_Clone_float32_float32_ok (φ : Nat) : SumOk P 28 (A_slices_Clone_float32_float32 φ) := slices_Clone_float32_float32_ok T_ok φ (F_34_ok φ) P_mixed

theorem F_35_ok (φ : Nat) : FOk P (F_35 φ) := ins_ok (A_slices_Clone_float32_float32_ok φ) (F_34_ok φ)


theorem A_impl_FlatGather_ok (φ : Nat) : SumOk P 12 (A_impl_FlatGather φ) := impl_FlatGather_ok T_ok φ (F_35_ok φ) P_mixed

theorem F_36_ok (φ : Nat) : FOk P (F_36 φ) := ins_ok (A_impl_FlatGather_ok φ) (F_35_ok φ)


theorem A_impl_ValidGather_1_ok (φ : Nat) : SumOk P 35 (A_impl_ValidGather_1 φ) := impl_ValidGather_1_ok T_ok φ (F_36_ok φ) P_mixed

theorem F_37_ok (φ : Nat) : FOk P (F_37 φ) := ins_ok (A_impl_ValidGather_1_ok φ) (F_36_ok φ)


theorem A_slices_IndexFunc_float32_float32_v2_ok (φ : Nat) : SumOk P 45 (A_slices_IndexFunc_float32_float32_v2 φ) := slices_IndexFunc_float32_float32_v2_ok T_ok φ (F_37_ok φ) P_mixed

theorem F_38_ok (φ : Nat) : FOk P (F_38 φ) := ins_ok (A_slices_IndexFunc_float32_float32_v2_ok φ) (F_37_ok φ)


theorem A_slices_ContainsFunc_float32_float32_v2_ok (φ : Nat) : SumOk P 34 (A_slices_ContainsFunc_float32_float32_v2 φ) := slices_ContainsFunc_float32_float32_v2_ok T_ok φ (F_38_ok φ) P_mixed

theorem F_39_ok (φ : Nat) : FOk P (F_39 φ) := ins_ok (A_slices_ContainsFunc_float32_float32_v2_ok φ) (F_38_ok φ)


theorem A_impl_ValidGather_ok (φ : Nat) : SumOk P 14 (A_impl_ValidGather φ) := impl_ValidGather_ok T_ok φ (F_39_ok φ) P_mixed

theorem F_40_ok (φ : Nat) : FOk P (F_40 φ) := ins_ok (A_impl_ValidGather_ok φ) (F_39_ok φ)


theorem A_impl_isNonNegative_ok (φ : Nat) : SumOk P 29 (A_impl_isNonNegative φ) := impl_isNonNegative_ok T_ok φ (F_40_ok φ) P_mixed

theorem F_41_ok (φ : Nat) : FOk P (F_41 φ) := ins_ok (A_impl_isNonNegative_ok φ) (F_40_ok φ)


theorem A_impl_AddEvent_1_ok (φ : Nat) : SumOk P 31 (A_impl_AddEvent_1 φ) := impl_AddEvent_1_ok T_ok φ (F_41_ok φ) P_mixed

theorem F_42_ok (φ : Nat) : FOk P (F_42 φ) := ins_ok (A_impl_AddEvent_1_ok φ) (F_41_ok φ)


theorem A_impl_Gather_each_ok (φ : Nat) : SumOk P 30 (A_impl_Gather_each φ) := impl_Gather_each_ok T_ok φ (F_42_ok φ) P_mixed

theorem F_43_ok (φ : Nat) : FOk P (F_43 φ) := ins_ok (A_impl_Gather_each_ok φ) (F_42_ok φ)


theorem A_impl_AddEvent_ok (φ : Nat) : SumOk P 13 (A_impl_AddEvent φ) := impl_AddEvent_ok T_ok φ (F_43_ok φ) P_mixed

theorem F_44_ok (φ : Nat) : FOk P (F_44 φ) := ins_ok (A_impl_AddEvent_ok φ) (F_43_ok φ)


theorem A_laws_FnSamples_ok (φ : Nat) : SumOk P 3 (A_laws_FnSamples φ) := laws_FnSamples_ok T_ok φ (F_44_ok φ) P_mixed

theorem F_45_ok (φ : Nat) : FOk P (F_45 φ) := ins_ok (A_laws_FnSamples_ok φ) (F_44_ok φ)


end
end Go.Proofs.Ytcddghcjllgbiaa
