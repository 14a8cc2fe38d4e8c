/- The second half of CodeSlots, by how many codes there are and which is changed: printed by gen4.py. -/
import Derived.Test.YtdmpifnbdifhbaaDrT22v
namespace Go.Lift.T22
open Go.Proofs
theorem s4_1_0 (gs : List Glue) (mn more : Int) (b1 b2 b3 : Bool) (c0 : Code') : Seg4 gs [c0] mn more b1 b2 b3 0 := by unfold Seg4; kernel_rfl
theorem s4_3_1 (gs : List Glue) (mn more : Int) (b1 b2 b3 : Bool) (c0 c1 c2 : Code') : Seg4 gs [c0, c1, c2] mn more b1 b2 b3 1 := by unfold Seg4; kernel_rfl
theorem s4_4_2 (gs : List Glue) (mn more : Int) (b1 b2 b3 : Bool) (c0 c1 c2 c3 : Code') : Seg4 gs [c0, c1, c2, c3] mn more b1 b2 b3 2 := by unfold Seg4; kernel_rfl
theorem s4_5_2 (gs : List Glue) (mn more : Int) (b1 b2 b3 : Bool) (c0 c1 c2 c3 c4 : Code') : Seg4 gs [c0, c1, c2, c3, c4] mn more b1 b2 b3 2 := by unfold Seg4; kernel_rfl
theorem s4_6_1 (gs : List Glue) (mn more : Int) (b1 b2 b3 : Bool) (c0 c1 c2 c3 c4 c5 : Code') : Seg4 gs [c0, c1, c2, c3, c4, c5] mn more b1 b2 b3 1 := by unfold Seg4; kernel_rfl
theorem s4_6_5 (gs : List Glue) (mn more : Int) (b1 b2 b3 : Bool) (c0 c1 c2 c3 c4 c5 : Code') : Seg4 gs [c0, c1, c2, c3, c4, c5] mn more b1 b2 b3 5 := by unfold Seg4; kernel_rfl
theorem s4_7_3 (gs : List Glue) (mn more : Int) (b1 b2 b3 : Bool) (c0 c1 c2 c3 c4 c5 c6 : Code') : Seg4 gs [c0, c1, c2, c3, c4, c5, c6] mn more b1 b2 b3 3 := by unfold Seg4; kernel_rfl
theorem s4_8_0 (gs : List Glue) (mn more : Int) (b1 b2 b3 : Bool) (c0 c1 c2 c3 c4 c5 c6 c7 : Code') : Seg4 gs [c0, c1, c2, c3, c4, c5, c6, c7] mn more b1 b2 b3 0 := by unfold Seg4; kernel_rfl
theorem s4_8_4 (gs : List Glue) (mn more : Int) (b1 b2 b3 : Bool) (c0 c1 c2 c3 c4 c5 c6 c7 : Code') : Seg4 gs [c0, c1, c2, c3, c4, c5, c6, c7] mn more b1 b2 b3 4 := by unfold Seg4; kernel_rfl
theorem s4_9_0 (gs : List Glue) (mn more : Int) (b1 b2 b3 : Bool) (c0 c1 c2 c3 c4 c5 c6 c7 c8 : Code') : Seg4 gs [c0, c1, c2, c3, c4, c5, c6, c7, c8] mn more b1 b2 b3 0 := by unfold Seg4; kernel_rfl
theorem s4_9_4 (gs : List Glue) (mn more : Int) (b1 b2 b3 : Bool) (c0 c1 c2 c3 c4 c5 c6 c7 c8 : Code') : Seg4 gs [c0, c1, c2, c3, c4, c5, c6, c7, c8] mn more b1 b2 b3 4 := by unfold Seg4; kernel_rfl
theorem s4_9_8 (gs : List Glue) (mn more : Int) (b1 b2 b3 : Bool) (c0 c1 c2 c3 c4 c5 c6 c7 c8 : Code') : Seg4 gs [c0, c1, c2, c3, c4, c5, c6, c7, c8] mn more b1 b2 b3 8 := by unfold Seg4; kernel_rfl
theorem s4_10_3 (gs : List Glue) (mn more : Int) (b1 b2 b3 : Bool) (c0 c1 c2 c3 c4 c5 c6 c7 c8 c9 : Code') : Seg4 gs [c0, c1, c2, c3, c4, c5, c6, c7, c8, c9] mn more b1 b2 b3 3 := by unfold Seg4; kernel_rfl
theorem s4_10_7 (gs : List Glue) (mn more : Int) (b1 b2 b3 : Bool) (c0 c1 c2 c3 c4 c5 c6 c7 c8 c9 : Code') : Seg4 gs [c0, c1, c2, c3, c4, c5, c6, c7, c8, c9] mn more b1 b2 b3 7 := by unfold Seg4; kernel_rfl
theorem s4_11_1 (gs : List Glue) (mn more : Int) (b1 b2 b3 : Bool) (c0 c1 c2 c3 c4 c5 c6 c7 c8 c9 c10 : Code') : Seg4 gs [c0, c1, c2, c3, c4, c5, c6, c7, c8, c9, c10] mn more b1 b2 b3 1 := by unfold Seg4; kernel_rfl
theorem s4_11_5 (gs : List Glue) (mn more : Int) (b1 b2 b3 : Bool) (c0 c1 c2 c3 c4 c5 c6 c7 c8 c9 c10 : Code') : Seg4 gs [c0, c1, c2, c3, c4, c5, c6, c7, c8, c9, c10] mn more b1 b2 b3 5 := by unfold Seg4; kernel_rfl
theorem s4_11_9 (gs : List Glue) (mn more : Int) (b1 b2 b3 : Bool) (c0 c1 c2 c3 c4 c5 c6 c7 c8 c9 c10 : Code') : Seg4 gs [c0, c1, c2, c3, c4, c5, c6, c7, c8, c9, c10] mn more b1 b2 b3 9 := by unfold Seg4; kernel_rfl
theorem s4_12_2 (gs : List Glue) (mn more : Int) (b1 b2 b3 : Bool) (c0 c1 c2 c3 c4 c5 c6 c7 c8 c9 c10 c11 : Code') : Seg4 gs [c0, c1, c2, c3, c4, c5, c6, c7, c8, c9, c10, c11] mn more b1 b2 b3 2 := by unfold Seg4; kernel_rfl
theorem s4_12_6 (gs : List Glue) (mn more : Int) (b1 b2 b3 : Bool) (c0 c1 c2 c3 c4 c5 c6 c7 c8 c9 c10 c11 : Code') : Seg4 gs [c0, c1, c2, c3, c4, c5, c6, c7, c8, c9, c10, c11] mn more b1 b2 b3 6 := by unfold Seg4; kernel_rfl
theorem s4_12_10 (gs : List Glue) (mn more : Int) (b1 b2 b3 : Bool) (c0 c1 c2 c3 c4 c5 c6 c7 c8 c9 c10 c11 : Code') : Seg4 gs [c0, c1, c2, c3, c4, c5, c6, c7, c8, c9, c10, c11] mn more b1 b2 b3 10 := by unfold Seg4; kernel_rfl
theorem s4_13_2 (gs : List Glue) (mn more : Int) (b1 b2 b3 : Bool) (c0 c1 c2 c3 c4 c5 c6 c7 c8 c9 c10 c11 c12 : Code') : Seg4 gs [c0, c1, c2, c3, c4, c5, c6, c7, c8, c9, c10, c11, c12] mn more b1 b2 b3 2 := by unfold Seg4; kernel_rfl
theorem s4_13_6 (gs : List Glue) (mn more : Int) (b1 b2 b3 : Bool) (c0 c1 c2 c3 c4 c5 c6 c7 c8 c9 c10 c11 c12 : Code') : Seg4 gs [c0, c1, c2, c3, c4, c5, c6, c7, c8, c9, c10, c11, c12] mn more b1 b2 b3 6 := by unfold Seg4; kernel_rfl
theorem s4_13_10 (gs : List Glue) (mn more : Int) (b1 b2 b3 : Bool) (c0 c1 c2 c3 c4 c5 c6 c7 c8 c9 c10 c11 c12 : Code') : Seg4 gs [c0, c1, c2, c3, c4, c5, c6, c7, c8, c9, c10, c11, c12] mn more b1 b2 b3 10 := by unfold Seg4; kernel_rfl
theorem s4_14_1 (gs : List Glue) (mn more : Int) (b1 b2 b3 : Bool) (c0 c1 c2 c3 c4 c5 c6 c7 c8 c9 c10 c11 c12 c13 : Code') : Seg4 gs [c0, c1, c2, c3, c4, c5, c6, c7, c8, c9, c10, c11, c12, c13] mn more b1 b2 b3 1 := by unfold Seg4; kernel_rfl
theorem s4_14_5 (gs : List Glue) (mn more : Int) (b1 b2 b3 : Bool) (c0 c1 c2 c3 c4 c5 c6 c7 c8 c9 c10 c11 c12 c13 : Code') : Seg4 gs [c0, c1, c2, c3, c4, c5, c6, c7, c8, c9, c10, c11, c12, c13] mn more b1 b2 b3 5 := by unfold Seg4; kernel_rfl
theorem s4_14_9 (gs : List Glue) (mn more : Int) (b1 b2 b3 : Bool) (c0 c1 c2 c3 c4 c5 c6 c7 c8 c9 c10 c11 c12 c13 : Code') : Seg4 gs [c0, c1, c2, c3, c4, c5, c6, c7, c8, c9, c10, c11, c12, c13] mn more b1 b2 b3 9 := by unfold Seg4; kernel_rfl
theorem s4_14_13 (gs : List Glue) (mn more : Int) (b1 b2 b3 : Bool) (c0 c1 c2 c3 c4 c5 c6 c7 c8 c9 c10 c11 c12 c13 : Code') : Seg4 gs [c0, c1, c2, c3, c4, c5, c6, c7, c8, c9, c10, c11, c12, c13] mn more b1 b2 b3 13 := by unfold Seg4; kernel_rfl
theorem s4_15_3 (gs : List Glue) (mn more : Int) (b1 b2 b3 : Bool) (c0 c1 c2 c3 c4 c5 c6 c7 c8 c9 c10 c11 c12 c13 c14 : Code') : Seg4 gs [c0, c1, c2, c3, c4, c5, c6, c7, c8, c9, c10, c11, c12, c13, c14] mn more b1 b2 b3 3 := by unfold Seg4; kernel_rfl
theorem s4_15_7 (gs : List Glue) (mn more : Int) (b1 b2 b3 : Bool) (c0 c1 c2 c3 c4 c5 c6 c7 c8 c9 c10 c11 c12 c13 c14 : Code') : Seg4 gs [c0, c1, c2, c3, c4, c5, c6, c7, c8, c9, c10, c11, c12, c13, c14] mn more b1 b2 b3 7 := by unfold Seg4; kernel_rfl
theorem s4_15_11 (gs : List Glue) (mn more : Int) (b1 b2 b3 : Bool) (c0 c1 c2 c3 c4 c5 c6 c7 c8 c9 c10 c11 c12 c13 c14 : Code') : Seg4 gs [c0, c1, c2, c3, c4, c5, c6, c7, c8, c9, c10, c11, c12, c13, c14] mn more b1 b2 b3 11 := by unfold Seg4; kernel_rfl
theorem s4_16_0 (gs : List Glue) (mn more : Int) (b1 b2 b3 : Bool) (c0 c1 c2 c3 c4 c5 c6 c7 c8 c9 c10 c11 c12 c13 c14 c15 : Code') : Seg4 gs [c0, c1, c2, c3, c4, c5, c6, c7, c8, c9, c10, c11, c12, c13, c14, c15] mn more b1 b2 b3 0 := by unfold Seg4; kernel_rfl
theorem s4_16_4 (gs : List Glue) (mn more : Int) (b1 b2 b3 : Bool) (c0 c1 c2 c3 c4 c5 c6 c7 c8 c9 c10 c11 c12 c13 c14 c15 : Code') : Seg4 gs [c0, c1, c2, c3, c4, c5, c6, c7, c8, c9, c10, c11, c12, c13, c14, c15] mn more b1 b2 b3 4 := by unfold Seg4; kernel_rfl
theorem s4_16_8 (gs : List Glue) (mn more : Int) (b1 b2 b3 : Bool) (c0 c1 c2 c3 c4 c5 c6 c7 c8 c9 c10 c11 c12 c13 c14 c15 : Code') : Seg4 gs [c0, c1, c2, c3, c4, c5, c6, c7, c8, c9, c10, c11, c12, c13, c14, c15] mn more b1 b2 b3 8 := by unfold Seg4; kernel_rfl
theorem s4_16_12 (gs : List Glue) (mn more : Int) (b1 b2 b3 : Bool) (c0 c1 c2 c3 c4 c5 c6 c7 c8 c9 c10 c11 c12 c13 c14 c15 : Code') : Seg4 gs [c0, c1, c2, c3, c4, c5, c6, c7, c8, c9, c10, c11, c12, c13, c14, c15] mn more b1 b2 b3 12 := by unfold Seg4; kernel_rfl
end Go.Lift.T22
/- The second half of CodeSlots, by how many codes there are and which is changed: printed by gen4.py. -/
namespace Go.Lift.T22
open Go.Proofs
theorem s4_2_0 (gs : List Glue) (mn more : Int) (b1 b2 b3 : Bool) (c0 c1 : Code') : Seg4 gs [c0, c1] mn more b1 b2 b3 0 := by unfold Seg4; kernel_rfl
theorem s4_3_2 (gs : List Glue) (mn more : Int) (b1 b2 b3 : Bool) (c0 c1 c2 : Code') : Seg4 gs [c0, c1, c2] mn more b1 b2 b3 2 := by unfold Seg4; kernel_rfl
theorem s4_4_3 (gs : List Glue) (mn more : Int) (b1 b2 b3 : Bool) (c0 c1 c2 c3 : Code') : Seg4 gs [c0, c1, c2, c3] mn more b1 b2 b3 3 := by unfold Seg4; kernel_rfl
theorem s4_5_3 (gs : List Glue) (mn more : Int) (b1 b2 b3 : Bool) (c0 c1 c2 c3 c4 : Code') : Seg4 gs [c0, c1, c2, c3, c4] mn more b1 b2 b3 3 := by unfold Seg4; kernel_rfl
theorem s4_6_2 (gs : List Glue) (mn more : Int) (b1 b2 b3 : Bool) (c0 c1 c2 c3 c4 c5 : Code') : Seg4 gs [c0, c1, c2, c3, c4, c5] mn more b1 b2 b3 2 := by unfold Seg4; kernel_rfl
theorem s4_7_0 (gs : List Glue) (mn more : Int) (b1 b2 b3 : Bool) (c0 c1 c2 c3 c4 c5 c6 : Code') : Seg4 gs [c0, c1, c2, c3, c4, c5, c6] mn more b1 b2 b3 0 := by unfold Seg4; kernel_rfl
theorem s4_7_4 (gs : List Glue) (mn more : Int) (b1 b2 b3 : Bool) (c0 c1 c2 c3 c4 c5 c6 : Code') : Seg4 gs [c0, c1, c2, c3, c4, c5, c6] mn more b1 b2 b3 4 := by unfold Seg4; kernel_rfl
theorem s4_8_1 (gs : List Glue) (mn more : Int) (b1 b2 b3 : Bool) (c0 c1 c2 c3 c4 c5 c6 c7 : Code') : Seg4 gs [c0, c1, c2, c3, c4, c5, c6, c7] mn more b1 b2 b3 1 := by unfold Seg4; kernel_rfl
theorem s4_8_5 (gs : List Glue) (mn more : Int) (b1 b2 b3 : Bool) (c0 c1 c2 c3 c4 c5 c6 c7 : Code') : Seg4 gs [c0, c1, c2, c3, c4, c5, c6, c7] mn more b1 b2 b3 5 := by unfold Seg4; kernel_rfl
theorem s4_9_1 (gs : List Glue) (mn more : Int) (b1 b2 b3 : Bool) (c0 c1 c2 c3 c4 c5 c6 c7 c8 : Code') : Seg4 gs [c0, c1, c2, c3, c4, c5, c6, c7, c8] mn more b1 b2 b3 1 := by unfold Seg4; kernel_rfl
theorem s4_9_5 (gs : List Glue) (mn more : Int) (b1 b2 b3 : Bool) (c0 c1 c2 c3 c4 c5 c6 c7 c8 : Code') : Seg4 gs [c0, c1, c2, c3, c4, c5, c6, c7, c8] mn more b1 b2 b3 5 := by unfold Seg4; kernel_rfl
theorem s4_10_0 (gs : List Glue) (mn more : Int) (b1 b2 b3 : Bool) (c0 c1 c2 c3 c4 c5 c6 c7 c8 c9 : Code') : Seg4 gs [c0, c1, c2, c3, c4, c5, c6, c7, c8, c9] mn more b1 b2 b3 0 := by unfold Seg4; kernel_rfl
theorem s4_10_4 (gs : List Glue) (mn more : Int) (b1 b2 b3 : Bool) (c0 c1 c2 c3 c4 c5 c6 c7 c8 c9 : Code') : Seg4 gs [c0, c1, c2, c3, c4, c5, c6, c7, c8, c9] mn more b1 b2 b3 4 := by unfold Seg4; kernel_rfl
theorem s4_10_8 (gs : List Glue) (mn more : Int) (b1 b2 b3 : Bool) (c0 c1 c2 c3 c4 c5 c6 c7 c8 c9 : Code') : Seg4 gs [c0, c1, c2, c3, c4, c5, c6, c7, c8, c9] mn more b1 b2 b3 8 := by unfold Seg4; kernel_rfl
theorem s4_11_2 (gs : List Glue) (mn more : Int) (b1 b2 b3 : Bool) (c0 c1 c2 c3 c4 c5 c6 c7 c8 c9 c10 : Code') : Seg4 gs [c0, c1, c2, c3, c4, c5, c6, c7, c8, c9, c10] mn more b1 b2 b3 2 := by unfold Seg4; kernel_rfl
theorem s4_11_6 (gs : List Glue) (mn more : Int) (b1 b2 b3 : Bool) (c0 c1 c2 c3 c4 c5 c6 c7 c8 c9 c10 : Code') : Seg4 gs [c0, c1, c2, c3, c4, c5, c6, c7, c8, c9, c10] mn more b1 b2 b3 6 := by unfold Seg4; kernel_rfl
theorem s4_11_10 (gs : List Glue) (mn more : Int) (b1 b2 b3 : Bool) (c0 c1 c2 c3 c4 c5 c6 c7 c8 c9 c10 : Code') : Seg4 gs [c0, c1, c2, c3, c4, c5, c6, c7, c8, c9, c10] mn more b1 b2 b3 10 := by unfold Seg4; kernel_rfl
theorem s4_12_3 (gs : List Glue) (mn more : Int) (b1 b2 b3 : Bool) (c0 c1 c2 c3 c4 c5 c6 c7 c8 c9 c10 c11 : Code') : Seg4 gs [c0, c1, c2, c3, c4, c5, c6, c7, c8, c9, c10, c11] mn more b1 b2 b3 3 := by unfold Seg4; kernel_rfl
theorem s4_12_7 (gs : List Glue) (mn more : Int) (b1 b2 b3 : Bool) (c0 c1 c2 c3 c4 c5 c6 c7 c8 c9 c10 c11 : Code') : Seg4 gs [c0, c1, c2, c3, c4, c5, c6, c7, c8, c9, c10, c11] mn more b1 b2 b3 7 := by unfold Seg4; kernel_rfl
theorem s4_12_11 (gs : List Glue) (mn more : Int) (b1 b2 b3 : Bool) (c0 c1 c2 c3 c4 c5 c6 c7 c8 c9 c10 c11 : Code') : Seg4 gs [c0, c1, c2, c3, c4, c5, c6, c7, c8, c9, c10, c11] mn more b1 b2 b3 11 := by unfold Seg4; kernel_rfl
theorem s4_13_3 (gs : List Glue) (mn more : Int) (b1 b2 b3 : Bool) (c0 c1 c2 c3 c4 c5 c6 c7 c8 c9 c10 c11 c12 : Code') : Seg4 gs [c0, c1, c2, c3, c4, c5, c6, c7, c8, c9, c10, c11, c12] mn more b1 b2 b3 3 := by unfold Seg4; kernel_rfl
theorem s4_13_7 (gs : List Glue) (mn more : Int) (b1 b2 b3 : Bool) (c0 c1 c2 c3 c4 c5 c6 c7 c8 c9 c10 c11 c12 : Code') : Seg4 gs [c0, c1, c2, c3, c4, c5, c6, c7, c8, c9, c10, c11, c12] mn more b1 b2 b3 7 := by unfold Seg4; kernel_rfl
theorem s4_13_11 (gs : List Glue) (mn more : Int) (b1 b2 b3 : Bool) (c0 c1 c2 c3 c4 c5 c6 c7 c8 c9 c10 c11 c12 : Code') : Seg4 gs [c0, c1, c2, c3, c4, c5, c6, c7, c8, c9, c10, c11, c12] mn more b1 b2 b3 11 := by unfold Seg4; kernel_rfl
theorem s4_14_2 (gs : List Glue) (mn more : Int) (b1 b2 b3 : Bool) (c0 c1 c2 c3 c4 c5 c6 c7 c8 c9 c10 c11 c12 c13 : Code') : Seg4 gs [c0, c1, c2, c3, c4, c5, c6, c7, c8, c9, c10, c11, c12, c13] mn more b1 b2 b3 2 := by unfold Seg4; kernel_rfl
theorem s4_14_6 (gs : List Glue) (mn more : Int) (b1 b2 b3 : Bool) (c0 c1 c2 c3 c4 c5 c6 c7 c8 c9 c10 c11 c12 c13 : Code') : Seg4 gs [c0, c1, c2, c3, c4, c5, c6, c7, c8, c9, c10, c11, c12, c13] mn more b1 b2 b3 6 := by unfold Seg4; kernel_rfl
theorem s4_14_10 (gs : List Glue) (mn more : Int) (b1 b2 b3 : Bool) (c0 c1 c2 c3 c4 c5 c6 c7 c8 c9 c10 c11 c12 c13 : Code') : Seg4 gs [c0, c1, c2, c3, c4, c5, c6, c7, c8, c9, c10, c11, c12, c13] mn more b1 b2 b3 10 := by unfold Seg4; kernel_rfl
theorem s4_15_0 (gs : List Glue) (mn more : Int) (b1 b2 b3 : Bool) (c0 c1 c2 c3 c4 c5 c6 c7 c8 c9 c10 c11 c12 c13 c14 : Code') : Seg4 gs [c0, c1, c2, c3, c4, c5, c6, c7, c8, c9, c10, c11, c12, c13, c14] mn more b1 b2 b3 0 := by unfold Seg4; kernel_rfl
theorem s4_15_4 (gs : List Glue) (mn more : Int) (b1 b2 b3 : Bool) (c0 c1 c2 c3 c4 c5 c6 c7 c8 c9 c10 c11 c12 c13 c14 : Code') : Seg4 gs [c0, c1, c2, c3, c4, c5, c6, c7, c8, c9, c10, c11, c12, c13, c14] mn more b1 b2 b3 4 := by unfold Seg4; kernel_rfl
theorem s4_15_8 (gs : List Glue) (mn more : Int) (b1 b2 b3 : Bool) (c0 c1 c2 c3 c4 c5 c6 c7 c8 c9 c10 c11 c12 c13 c14 : Code') : Seg4 gs [c0, c1, c2, c3, c4, c5, c6, c7, c8, c9, c10, c11, c12, c13, c14] mn more b1 b2 b3 8 := by unfold Seg4; kernel_rfl
theorem s4_15_12 (gs : List Glue) (mn more : Int) (b1 b2 b3 : Bool) (c0 c1 c2 c3 c4 c5 c6 c7 c8 c9 c10 c11 c12 c13 c14 : Code') : Seg4 gs [c0, c1, c2, c3, c4, c5, c6, c7, c8, c9, c10, c11, c12, c13, c14] mn more b1 b2 b3 12 := by unfold Seg4; kernel_rfl
theorem s4_16_1 (gs : List Glue) (mn more : Int) (b1 b2 b3 : Bool) (c0 c1 c2 c3 c4 c5 c6 c7 c8 c9 c10 c11 c12 c13 c14 c15 : Code') : Seg4 gs [c0, c1, c2, c3, c4, c5, c6, c7, c8, c9, c10, c11, c12, c13, c14, c15] mn more b1 b2 b3 1 := by unfold Seg4; kernel_rfl
theorem s4_16_5 (gs : List Glue) (mn more : Int) (b1 b2 b3 : Bool) (c0 c1 c2 c3 c4 c5 c6 c7 c8 c9 c10 c11 c12 c13 c14 c15 : Code') : Seg4 gs [c0, c1, c2, c3, c4, c5, c6, c7, c8, c9, c10, c11, c12, c13, c14, c15] mn more b1 b2 b3 5 := by unfold Seg4; kernel_rfl
theorem s4_16_9 (gs : List Glue) (mn more : Int) (b1 b2 b3 : Bool) (c0 c1 c2 c3 c4 c5 c6 c7 c8 c9 c10 c11 c12 c13 c14 c15 : Code') : Seg4 gs [c0, c1, c2, c3, c4, c5, c6, c7, c8, c9, c10, c11, c12, c13, c14, c15] mn more b1 b2 b3 9 := by unfold Seg4; kernel_rfl
theorem s4_16_13 (gs : List Glue) (mn more : Int) (b1 b2 b3 : Bool) (c0 c1 c2 c3 c4 c5 c6 c7 c8 c9 c10 c11 c12 c13 c14 c15 : Code') : Seg4 gs [c0, c1, c2, c3, c4, c5, c6, c7, c8, c9, c10, c11, c12, c13, c14, c15] mn more b1 b2 b3 13 := by unfold Seg4; kernel_rfl
end Go.Lift.T22
/- The second half of CodeSlots, by how many codes there are and which is changed: printed by gen4.py. -/
namespace Go.Lift.T22
open Go.Proofs
theorem s4_2_1 (gs : List Glue) (mn more : Int) (b1 b2 b3 : Bool) (c0 c1 : Code') : Seg4 gs [c0, c1] mn more b1 b2 b3 1 := by unfold Seg4; kernel_rfl
theorem s4_4_0 (gs : List Glue) (mn more : Int) (b1 b2 b3 : Bool) (c0 c1 c2 c3 : Code') : Seg4 gs [c0, c1, c2, c3] mn more b1 b2 b3 0 := by unfold Seg4; kernel_rfl
theorem s4_5_0 (gs : List Glue) (mn more : Int) (b1 b2 b3 : Bool) (c0 c1 c2 c3 c4 : Code') : Seg4 gs [c0, c1, c2, c3, c4] mn more b1 b2 b3 0 := by unfold Seg4; kernel_rfl
theorem s4_5_4 (gs : List Glue) (mn more : Int) (b1 b2 b3 : Bool) (c0 c1 c2 c3 c4 : Code') : Seg4 gs [c0, c1, c2, c3, c4] mn more b1 b2 b3 4 := by unfold Seg4; kernel_rfl
theorem s4_6_3 (gs : List Glue) (mn more : Int) (b1 b2 b3 : Bool) (c0 c1 c2 c3 c4 c5 : Code') : Seg4 gs [c0, c1, c2, c3, c4, c5] mn more b1 b2 b3 3 := by unfold Seg4; kernel_rfl
theorem s4_7_1 (gs : List Glue) (mn more : Int) (b1 b2 b3 : Bool) (c0 c1 c2 c3 c4 c5 c6 : Code') : Seg4 gs [c0, c1, c2, c3, c4, c5, c6] mn more b1 b2 b3 1 := by unfold Seg4; kernel_rfl
theorem s4_7_5 (gs : List Glue) (mn more : Int) (b1 b2 b3 : Bool) (c0 c1 c2 c3 c4 c5 c6 : Code') : Seg4 gs [c0, c1, c2, c3, c4, c5, c6] mn more b1 b2 b3 5 := by unfold Seg4; kernel_rfl
theorem s4_8_2 (gs : List Glue) (mn more : Int) (b1 b2 b3 : Bool) (c0 c1 c2 c3 c4 c5 c6 c7 : Code') : Seg4 gs [c0, c1, c2, c3, c4, c5, c6, c7] mn more b1 b2 b3 2 := by unfold Seg4; kernel_rfl
theorem s4_8_6 (gs : List Glue) (mn more : Int) (b1 b2 b3 : Bool) (c0 c1 c2 c3 c4 c5 c6 c7 : Code') : Seg4 gs [c0, c1, c2, c3, c4, c5, c6, c7] mn more b1 b2 b3 6 := by unfold Seg4; kernel_rfl
theorem s4_9_2 (gs : List Glue) (mn more : Int) (b1 b2 b3 : Bool) (c0 c1 c2 c3 c4 c5 c6 c7 c8 : Code') : Seg4 gs [c0, c1, c2, c3, c4, c5, c6, c7, c8] mn more b1 b2 b3 2 := by unfold Seg4; kernel_rfl
theorem s4_9_6 (gs : List Glue) (mn more : Int) (b1 b2 b3 : Bool) (c0 c1 c2 c3 c4 c5 c6 c7 c8 : Code') : Seg4 gs [c0, c1, c2, c3, c4, c5, c6, c7, c8] mn more b1 b2 b3 6 := by unfold Seg4; kernel_rfl
theorem s4_10_1 (gs : List Glue) (mn more : Int) (b1 b2 b3 : Bool) (c0 c1 c2 c3 c4 c5 c6 c7 c8 c9 : Code') : Seg4 gs [c0, c1, c2, c3, c4, c5, c6, c7, c8, c9] mn more b1 b2 b3 1 := by unfold Seg4; kernel_rfl
theorem s4_10_5 (gs : List Glue) (mn more : Int) (b1 b2 b3 : Bool) (c0 c1 c2 c3 c4 c5 c6 c7 c8 c9 : Code') : Seg4 gs [c0, c1, c2, c3, c4, c5, c6, c7, c8, c9] mn more b1 b2 b3 5 := by unfold Seg4; kernel_rfl
theorem s4_10_9 (gs : List Glue) (mn more : Int) (b1 b2 b3 : Bool) (c0 c1 c2 c3 c4 c5 c6 c7 c8 c9 : Code') : Seg4 gs [c0, c1, c2, c3, c4, c5, c6, c7, c8, c9] mn more b1 b2 b3 9 := by unfold Seg4; kernel_rfl
theorem s4_11_3 (gs : List Glue) (mn more : Int) (b1 b2 b3 : Bool) (c0 c1 c2 c3 c4 c5 c6 c7 c8 c9 c10 : Code') : Seg4 gs [c0, c1, c2, c3, c4, c5, c6, c7, c8, c9, c10] mn more b1 b2 b3 3 := by unfold Seg4; kernel_rfl
theorem s4_11_7 (gs : List Glue) (mn more : Int) (b1 b2 b3 : Bool) (c0 c1 c2 c3 c4 c5 c6 c7 c8 c9 c10 : Code') : Seg4 gs [c0, c1, c2, c3, c4, c5, c6, c7, c8, c9, c10] mn more b1 b2 b3 7 := by unfold Seg4; kernel_rfl
theorem s4_12_0 (gs : List Glue) (mn more : Int) (b1 b2 b3 : Bool) (c0 c1 c2 c3 c4 c5 c6 c7 c8 c9 c10 c11 : Code') : Seg4 gs [c0, c1, c2, c3, c4, c5, c6, c7, c8, c9, c10, c11] mn more b1 b2 b3 0 := by unfold Seg4; kernel_rfl
theorem s4_12_4 (gs : List Glue) (mn more : Int) (b1 b2 b3 : Bool) (c0 c1 c2 c3 c4 c5 c6 c7 c8 c9 c10 c11 : Code') : Seg4 gs [c0, c1, c2, c3, c4, c5, c6, c7, c8, c9, c10, c11] mn more b1 b2 b3 4 := by unfold Seg4; kernel_rfl
theorem s4_12_8 (gs : List Glue) (mn more : Int) (b1 b2 b3 : Bool) (c0 c1 c2 c3 c4 c5 c6 c7 c8 c9 c10 c11 : Code') : Seg4 gs [c0, c1, c2, c3, c4, c5, c6, c7, c8, c9, c10, c11] mn more b1 b2 b3 8 := by unfold Seg4; kernel_rfl
theorem s4_13_0 (gs : List Glue) (mn more : Int) (b1 b2 b3 : Bool) (c0 c1 c2 c3 c4 c5 c6 c7 c8 c9 c10 c11 c12 : Code') : Seg4 gs [c0, c1, c2, c3, c4, c5, c6, c7, c8, c9, c10, c11, c12] mn more b1 b2 b3 0 := by unfold Seg4; kernel_rfl
theorem s4_13_4 (gs : List Glue) (mn more : Int) (b1 b2 b3 : Bool) (c0 c1 c2 c3 c4 c5 c6 c7 c8 c9 c10 c11 c12 : Code') : Seg4 gs [c0, c1, c2, c3, c4, c5, c6, c7, c8, c9, c10, c11, c12] mn more b1 b2 b3 4 := by unfold Seg4; kernel_rfl
theorem s4_13_8 (gs : List Glue) (mn more : Int) (b1 b2 b3 : Bool) (c0 c1 c2 c3 c4 c5 c6 c7 c8 c9 c10 c11 c12 : Code') : Seg4 gs [c0, c1, c2, c3, c4, c5, c6, c7, c8, c9, c10, c11, c12] mn more b1 b2 b3 8 := by unfold Seg4; kernel_rfl
theorem s4_13_12 (gs : List Glue) (mn more : Int) (b1 b2 b3 : Bool) (c0 c1 c2 c3 c4 c5 c6 c7 c8 c9 c10 c11 c12 : Code') : Seg4 gs [c0, c1, c2, c3, c4, c5, c6, c7, c8, c9, c10, c11, c12] mn more b1 b2 b3 12 := by unfold Seg4; kernel_rfl
theorem s4_14_3 (gs : List Glue) (mn more : Int) (b1 b2 b3 : Bool) (c0 c1 c2 c3 c4 c5 c6 c7 c8 c9 c10 c11 c12 c13 : Code') : Seg4 gs [c0, c1, c2, c3, c4, c5, c6, c7, c8, c9, c10, c11, c12, c13] mn more b1 b2 b3 3 := by unfold Seg4; kernel_rfl
theorem s4_14_7 (gs : List Glue) (mn more : Int) (b1 b2 b3 : Bool) (c0 c1 c2 c3 c4 c5 c6 c7 c8 c9 c10 c11 c12 c13 : Code') : Seg4 gs [c0, c1, c2, c3, c4, c5, c6, c7, c8, c9, c10, c11, c12, c13] mn more b1 b2 b3 7 := by unfold Seg4; kernel_rfl
theorem s4_14_11 (gs : List Glue) (mn more : Int) (b1 b2 b3 : Bool) (c0 c1 c2 c3 c4 c5 c6 c7 c8 c9 c10 c11 c12 c13 : Code') : Seg4 gs [c0, c1, c2, c3, c4, c5, c6, c7, c8, c9, c10, c11, c12, c13] mn more b1 b2 b3 11 := by unfold Seg4; kernel_rfl
theorem s4_15_1 (gs : List Glue) (mn more : Int) (b1 b2 b3 : Bool) (c0 c1 c2 c3 c4 c5 c6 c7 c8 c9 c10 c11 c12 c13 c14 : Code') : Seg4 gs [c0, c1, c2, c3, c4, c5, c6, c7, c8, c9, c10, c11, c12, c13, c14] mn more b1 b2 b3 1 := by unfold Seg4; kernel_rfl
theorem s4_15_5 (gs : List Glue) (mn more : Int) (b1 b2 b3 : Bool) (c0 c1 c2 c3 c4 c5 c6 c7 c8 c9 c10 c11 c12 c13 c14 : Code') : Seg4 gs [c0, c1, c2, c3, c4, c5, c6, c7, c8, c9, c10, c11, c12, c13, c14] mn more b1 b2 b3 5 := by unfold Seg4; kernel_rfl
theorem s4_15_9 (gs : List Glue) (mn more : Int) (b1 b2 b3 : Bool) (c0 c1 c2 c3 c4 c5 c6 c7 c8 c9 c10 c11 c12 c13 c14 : Code') : Seg4 gs [c0, c1, c2, c3, c4, c5, c6, c7, c8, c9, c10, c11, c12, c13, c14] mn more b1 b2 b3 9 := by unfold Seg4; kernel_rfl
theorem s4_15_13 (gs : List Glue) (mn more : Int) (b1 b2 b3 : Bool) (c0 c1 c2 c3 c4 c5 c6 c7 c8 c9 c10 c11 c12 c13 c14 : Code') : Seg4 gs [c0, c1, c2, c3, c4, c5, c6, c7, c8, c9, c10, c11, c12, c13, c14] mn more b1 b2 b3 13 := by unfold Seg4; kernel_rfl
theorem s4_16_2 (gs : List Glue) (mn more : Int) (b1 b2 b3 : Bool) (c0 c1 c2 c3 c4 c5 c6 c7 c8 c9 c10 c11 c12 c13 c14 c15 : Code') : Seg4 gs [c0, c1, c2, c3, c4, c5, c6, c7, c8, c9, c10, c11, c12, c13, c14, c15] mn more b1 b2 b3 2 := by unfold Seg4; kernel_rfl
theorem s4_16_6 (gs : List Glue) (mn more : Int) (b1 b2 b3 : Bool) (c0 c1 c2 c3 c4 c5 c6 c7 c8 c9 c10 c11 c12 c13 c14 c15 : Code') : Seg4 gs [c0, c1, c2, c3, c4, c5, c6, c7, c8, c9, c10, c11, c12, c13, c14, c15] mn more b1 b2 b3 6 := by unfold Seg4; kernel_rfl
theorem s4_16_10 (gs : List Glue) (mn more : Int) (b1 b2 b3 : Bool) (c0 c1 c2 c3 c4 c5 c6 c7 c8 c9 c10 c11 c12 c13 c14 c15 : Code') : Seg4 gs [c0, c1, c2, c3, c4, c5, c6, c7, c8, c9, c10, c11, c12, c13, c14, c15] mn more b1 b2 b3 10 := by unfold Seg4; kernel_rfl
theorem s4_16_14 (gs : List Glue) (mn more : Int) (b1 b2 b3 : Bool) (c0 c1 c2 c3 c4 c5 c6 c7 c8 c9 c10 c11 c12 c13 c14 c15 : Code') : Seg4 gs [c0, c1, c2, c3, c4, c5, c6, c7, c8, c9, c10, c11, c12, c13, c14, c15] mn more b1 b2 b3 14 := by unfold Seg4; kernel_rfl
end Go.Lift.T22
/- The second half of CodeSlots, by how many codes there are and which is changed: printed by gen4.py. -/
namespace Go.Lift.T22
open Go.Proofs
theorem s4_3_0 (gs : List Glue) (mn more : Int) (b1 b2 b3 : Bool) (c0 c1 c2 : Code') : Seg4 gs [c0, c1, c2] mn more b1 b2 b3 0 := by unfold Seg4; kernel_rfl
theorem s4_4_1 (gs : List Glue) (mn more : Int) (b1 b2 b3 : Bool) (c0 c1 c2 c3 : Code') : Seg4 gs [c0, c1, c2, c3] mn more b1 b2 b3 1 := by unfold Seg4; kernel_rfl
theorem s4_5_1 (gs : List Glue) (mn more : Int) (b1 b2 b3 : Bool) (c0 c1 c2 c3 c4 : Code') : Seg4 gs [c0, c1, c2, c3, c4] mn more b1 b2 b3 1 := by unfold Seg4; kernel_rfl
theorem s4_6_0 (gs : List Glue) (mn more : Int) (b1 b2 b3 : Bool) (c0 c1 c2 c3 c4 c5 : Code') : Seg4 gs [c0, c1, c2, c3, c4, c5] mn more b1 b2 b3 0 := by unfold Seg4; kernel_rfl
theorem s4_6_4 (gs : List Glue) (mn more : Int) (b1 b2 b3 : Bool) (c0 c1 c2 c3 c4 c5 : Code') : Seg4 gs [c0, c1, c2, c3, c4, c5] mn more b1 b2 b3 4 := by unfold Seg4; kernel_rfl
theorem s4_7_2 (gs : List Glue) (mn more : Int) (b1 b2 b3 : Bool) (c0 c1 c2 c3 c4 c5 c6 : Code') : Seg4 gs [c0, c1, c2, c3, c4, c5, c6] mn more b1 b2 b3 2 := by unfold Seg4; kernel_rfl
theorem s4_7_6 (gs : List Glue) (mn more : Int) (b1 b2 b3 : Bool) (c0 c1 c2 c3 c4 c5 c6 : Code') : Seg4 gs [c0, c1, c2, c3, c4, c5, c6] mn more b1 b2 b3 6 := by unfold Seg4; kernel_rfl
theorem s4_8_3 (gs : List Glue) (mn more : Int) (b1 b2 b3 : Bool) (c0 c1 c2 c3 c4 c5 c6 c7 : Code') : Seg4 gs [c0, c1, c2, c3, c4, c5, c6, c7] mn more b1 b2 b3 3 := by unfold Seg4; kernel_rfl
theorem s4_8_7 (gs : List Glue) (mn more : Int) (b1 b2 b3 : Bool) (c0 c1 c2 c3 c4 c5 c6 c7 : Code') : Seg4 gs [c0, c1, c2, c3, c4, c5, c6, c7] mn more b1 b2 b3 7 := by unfold Seg4; kernel_rfl
theorem s4_9_3 (gs : List Glue) (mn more : Int) (b1 b2 b3 : Bool) (c0 c1 c2 c3 c4 c5 c6 c7 c8 : Code') : Seg4 gs [c0, c1, c2, c3, c4, c5, c6, c7, c8] mn more b1 b2 b3 3 := by unfold Seg4; kernel_rfl
theorem s4_9_7 (gs : List Glue) (mn more : Int) (b1 b2 b3 : Bool) (c0 c1 c2 c3 c4 c5 c6 c7 c8 : Code') : Seg4 gs [c0, c1, c2, c3, c4, c5, c6, c7, c8] mn more b1 b2 b3 7 := by unfold Seg4; kernel_rfl
theorem s4_10_2 (gs : List Glue) (mn more : Int) (b1 b2 b3 : Bool) (c0 c1 c2 c3 c4 c5 c6 c7 c8 c9 : Code') : Seg4 gs [c0, c1, c2, c3, c4, c5, c6, c7, c8, c9] mn more b1 b2 b3 2 := by unfold Seg4; kernel_rfl
theorem s4_10_6 (gs : List Glue) (mn more : Int) (b1 b2 b3 : Bool) (c0 c1 c2 c3 c4 c5 c6 c7 c8 c9 : Code') : Seg4 gs [c0, c1, c2, c3, c4, c5, c6, c7, c8, c9] mn more b1 b2 b3 6 := by unfold Seg4; kernel_rfl
theorem s4_11_0 (gs : List Glue) (mn more : Int) (b1 b2 b3 : Bool) (c0 c1 c2 c3 c4 c5 c6 c7 c8 c9 c10 : Code') : Seg4 gs [c0, c1, c2, c3, c4, c5, c6, c7, c8, c9, c10] mn more b1 b2 b3 0 := by unfold Seg4; kernel_rfl
theorem s4_11_4 (gs : List Glue) (mn more : Int) (b1 b2 b3 : Bool) (c0 c1 c2 c3 c4 c5 c6 c7 c8 c9 c10 : Code') : Seg4 gs [c0, c1, c2, c3, c4, c5, c6, c7, c8, c9, c10] mn more b1 b2 b3 4 := by unfold Seg4; kernel_rfl
theorem s4_11_8 (gs : List Glue) (mn more : Int) (b1 b2 b3 : Bool) (c0 c1 c2 c3 c4 c5 c6 c7 c8 c9 c10 : Code') : Seg4 gs [c0, c1, c2, c3, c4, c5, c6, c7, c8, c9, c10] mn more b1 b2 b3 8 := by unfold Seg4; kernel_rfl
theorem s4_12_1 (gs : List Glue) (mn more : Int) (b1 b2 b3 : Bool) (c0 c1 c2 c3 c4 c5 c6 c7 c8 c9 c10 c11 : Code') : Seg4 gs [c0, c1, c2, c3, c4, c5, c6, c7, c8, c9, c10, c11] mn more b1 b2 b3 1 := by unfold Seg4; kernel_rfl
theorem s4_12_5 (gs : List Glue) (mn more : Int) (b1 b2 b3 : Bool) (c0 c1 c2 c3 c4 c5 c6 c7 c8 c9 c10 c11 : Code') : Seg4 gs [c0, c1, c2, c3, c4, c5, c6, c7, c8, c9, c10, c11] mn more b1 b2 b3 5 := by unfold Seg4; kernel_rfl
theorem s4_12_9 (gs : List Glue) (mn more : Int) (b1 b2 b3 : Bool) (c0 c1 c2 c3 c4 c5 c6 c7 c8 c9 c10 c11 : Code') : Seg4 gs [c0, c1, c2, c3, c4, c5, c6, c7, c8, c9, c10, c11] mn more b1 b2 b3 9 := by unfold Seg4; kernel_rfl
theorem s4_13_1 (gs : List Glue) (mn more : Int) (b1 b2 b3 : Bool) (c0 c1 c2 c3 c4 c5 c6 c7 c8 c9 c10 c11 c12 : Code') : Seg4 gs [c0, c1, c2, c3, c4, c5, c6, c7, c8, c9, c10, c11, c12] mn more b1 b2 b3 1 := by unfold Seg4; kernel_rfl
theorem s4_13_5 (gs : List Glue) (mn more : Int) (b1 b2 b3 : Bool) (c0 c1 c2 c3 c4 c5 c6 c7 c8 c9 c10 c11 c12 : Code') : Seg4 gs [c0, c1, c2, c3, c4, c5, c6, c7, c8, c9, c10, c11, c12] mn more b1 b2 b3 5 := by unfold Seg4; kernel_rfl
theorem s4_13_9 (gs : List Glue) (mn more : Int) (b1 b2 b3 : Bool) (c0 c1 c2 c3 c4 c5 c6 c7 c8 c9 c10 c11 c12 : Code') : Seg4 gs [c0, c1, c2, c3, c4, c5, c6, c7, c8, c9, c10, c11, c12] mn more b1 b2 b3 9 := by unfold Seg4; kernel_rfl
theorem s4_14_0 (gs : List Glue) (mn more : Int) (b1 b2 b3 : Bool) (c0 c1 c2 c3 c4 c5 c6 c7 c8 c9 c10 c11 c12 c13 : Code') : Seg4 gs [c0, c1, c2, c3, c4, c5, c6, c7, c8, c9, c10, c11, c12, c13] mn more b1 b2 b3 0 := by unfold Seg4; kernel_rfl
theorem s4_14_4 (gs : List Glue) (mn more : Int) (b1 b2 b3 : Bool) (c0 c1 c2 c3 c4 c5 c6 c7 c8 c9 c10 c11 c12 c13 : Code') : Seg4 gs [c0, c1, c2, c3, c4, c5, c6, c7, c8, c9, c10, c11, c12, c13] mn more b1 b2 b3 4 := by unfold Seg4; kernel_rfl
theorem s4_14_8 (gs : List Glue) (mn more : Int) (b1 b2 b3 : Bool) (c0 c1 c2 c3 c4 c5 c6 c7 c8 c9 c10 c11 c12 c13 : Code') : Seg4 gs [c0, c1, c2, c3, c4, c5, c6, c7, c8, c9, c10, c11, c12, c13] mn more b1 b2 b3 8 := by unfold Seg4; kernel_rfl
theorem s4_14_12 (gs : List Glue) (mn more : Int) (b1 b2 b3 : Bool) (c0 c1 c2 c3 c4 c5 c6 c7 c8 c9 c10 c11 c12 c13 : Code') : Seg4 gs [c0, c1, c2, c3, c4, c5, c6, c7, c8, c9, c10, c11, c12, c13] mn more b1 b2 b3 12 := by unfold Seg4; kernel_rfl
theorem s4_15_2 (gs : List Glue) (mn more : Int) (b1 b2 b3 : Bool) (c0 c1 c2 c3 c4 c5 c6 c7 c8 c9 c10 c11 c12 c13 c14 : Code') : Seg4 gs [c0, c1, c2, c3, c4, c5, c6, c7, c8, c9, c10, c11, c12, c13, c14] mn more b1 b2 b3 2 := by unfold Seg4; kernel_rfl
theorem s4_15_6 (gs : List Glue) (mn more : Int) (b1 b2 b3 : Bool) (c0 c1 c2 c3 c4 c5 c6 c7 c8 c9 c10 c11 c12 c13 c14 : Code') : Seg4 gs [c0, c1, c2, c3, c4, c5, c6, c7, c8, c9, c10, c11, c12, c13, c14] mn more b1 b2 b3 6 := by unfold Seg4; kernel_rfl
theorem s4_15_10 (gs : List Glue) (mn more : Int) (b1 b2 b3 : Bool) (c0 c1 c2 c3 c4 c5 c6 c7 c8 c9 c10 c11 c12 c13 c14 : Code') : Seg4 gs [c0, c1, c2, c3, c4, c5, c6, c7, c8, c9, c10, c11, c12, c13, c14] mn more b1 b2 b3 10 := by unfold Seg4; kernel_rfl
theorem s4_15_14 (gs : List Glue) (mn more : Int) (b1 b2 b3 : Bool) (c0 c1 c2 c3 c4 c5 c6 c7 c8 c9 c10 c11 c12 c13 c14 : Code') : Seg4 gs [c0, c1, c2, c3, c4, c5, c6, c7, c8, c9, c10, c11, c12, c13, c14] mn more b1 b2 b3 14 := by unfold Seg4; kernel_rfl
theorem s4_16_3 (gs : List Glue) (mn more : Int) (b1 b2 b3 : Bool) (c0 c1 c2 c3 c4 c5 c6 c7 c8 c9 c10 c11 c12 c13 c14 c15 : Code') : Seg4 gs [c0, c1, c2, c3, c4, c5, c6, c7, c8, c9, c10, c11, c12, c13, c14, c15] mn more b1 b2 b3 3 := by unfold Seg4; kernel_rfl
theorem s4_16_7 (gs : List Glue) (mn more : Int) (b1 b2 b3 : Bool) (c0 c1 c2 c3 c4 c5 c6 c7 c8 c9 c10 c11 c12 c13 c14 c15 : Code') : Seg4 gs [c0, c1, c2, c3, c4, c5, c6, c7, c8, c9, c10, c11, c12, c13, c14, c15] mn more b1 b2 b3 7 := by unfold Seg4; kernel_rfl
theorem s4_16_11 (gs : List Glue) (mn more : Int) (b1 b2 b3 : Bool) (c0 c1 c2 c3 c4 c5 c6 c7 c8 c9 c10 c11 c12 c13 c14 c15 : Code') : Seg4 gs [c0, c1, c2, c3, c4, c5, c6, c7, c8, c9, c10, c11, c12, c13, c14, c15] mn more b1 b2 b3 11 := by unfold Seg4; kernel_rfl
theorem s4_16_15 (gs : List Glue) (mn more : Int) (b1 b2 b3 : Bool) (c0 c1 c2 c3 c4 c5 c6 c7 c8 c9 c10 c11 c12 c13 c14 c15 : Code') : Seg4 gs [c0, c1, c2, c3, c4, c5, c6, c7, c8, c9, c10, c11, c12, c13, c14, c15] mn more b1 b2 b3 15 := by unfold Seg4; kernel_rfl
end Go.Lift.T22
/- The second half of CodeSlots: gathered; printed by gen4.py. -/
namespace Go.Lift.T22
open Go.Proofs
theorem s4_1 (gs : List Glue) (mn more : Int) (b1 b2 b3 : Bool) (c0 : Code') : ∀ n, n < 1 → Seg4 gs [c0] mn more b1 b2 b3 n
  | 0, _ => s4_1_0 gs mn more b1 b2 b3 c0
  | n + 1, h => absurd h (by omega)
theorem s4_2 (gs : List Glue) (mn more : Int) (b1 b2 b3 : Bool) (c0 c1 : Code') : ∀ n, n < 2 → Seg4 gs [c0, c1] mn more b1 b2 b3 n
  | 0, _ => s4_2_0 gs mn more b1 b2 b3 c0 c1
  | 1, _ => s4_2_1 gs mn more b1 b2 b3 c0 c1
  | n + 2, h => absurd h (by omega)
theorem s4_3 (gs : List Glue) (mn more : Int) (b1 b2 b3 : Bool) (c0 c1 c2 : Code') : ∀ n, n < 3 → Seg4 gs [c0, c1, c2] mn more b1 b2 b3 n
  | 0, _ => s4_3_0 gs mn more b1 b2 b3 c0 c1 c2
  | 1, _ => s4_3_1 gs mn more b1 b2 b3 c0 c1 c2
  | 2, _ => s4_3_2 gs mn more b1 b2 b3 c0 c1 c2
  | n + 3, h => absurd h (by omega)
theorem s4_4 (gs : List Glue) (mn more : Int) (b1 b2 b3 : Bool) (c0 c1 c2 c3 : Code') : ∀ n, n < 4 → Seg4 gs [c0, c1, c2, c3] mn more b1 b2 b3 n
  | 0, _ => s4_4_0 gs mn more b1 b2 b3 c0 c1 c2 c3
  | 1, _ => s4_4_1 gs mn more b1 b2 b3 c0 c1 c2 c3
  | 2, _ => s4_4_2 gs mn more b1 b2 b3 c0 c1 c2 c3
  | 3, _ => s4_4_3 gs mn more b1 b2 b3 c0 c1 c2 c3
  | n + 4, h => absurd h (by omega)
theorem s4_5 (gs : List Glue) (mn more : Int) (b1 b2 b3 : Bool) (c0 c1 c2 c3 c4 : Code') : ∀ n, n < 5 → Seg4 gs [c0, c1, c2, c3, c4] mn more b1 b2 b3 n
  | 0, _ => s4_5_0 gs mn more b1 b2 b3 c0 c1 c2 c3 c4
  | 1, _ => s4_5_1 gs mn more b1 b2 b3 c0 c1 c2 c3 c4
  | 2, _ => s4_5_2 gs mn more b1 b2 b3 c0 c1 c2 c3 c4
  | 3, _ => s4_5_3 gs mn more b1 b2 b3 c0 c1 c2 c3 c4
  | 4, _ => s4_5_4 gs mn more b1 b2 b3 c0 c1 c2 c3 c4
  | n + 5, h => absurd h (by omega)
theorem s4_6 (gs : List Glue) (mn more : Int) (b1 b2 b3 : Bool) (c0 c1 c2 c3 c4 c5 : Code') : ∀ n, n < 6 → Seg4 gs [c0, c1, c2, c3, c4, c5] mn more b1 b2 b3 n
  | 0, _ => s4_6_0 gs mn more b1 b2 b3 c0 c1 c2 c3 c4 c5
  | 1, _ => s4_6_1 gs mn more b1 b2 b3 c0 c1 c2 c3 c4 c5
  | 2, _ => s4_6_2 gs mn more b1 b2 b3 c0 c1 c2 c3 c4 c5
  | 3, _ => s4_6_3 gs mn more b1 b2 b3 c0 c1 c2 c3 c4 c5
  | 4, _ => s4_6_4 gs mn more b1 b2 b3 c0 c1 c2 c3 c4 c5
  | 5, _ => s4_6_5 gs mn more b1 b2 b3 c0 c1 c2 c3 c4 c5
  | n + 6, h => absurd h (by omega)
theorem s4_7 (gs : List Glue) (mn more : Int) (b1 b2 b3 : Bool) (c0 c1 c2 c3 c4 c5 c6 : Code') : ∀ n, n < 7 → Seg4 gs [c0, c1, c2, c3, c4, c5, c6] mn more b1 b2 b3 n
  | 0, _ => s4_7_0 gs mn more b1 b2 b3 c0 c1 c2 c3 c4 c5 c6
  | 1, _ => s4_7_1 gs mn more b1 b2 b3 c0 c1 c2 c3 c4 c5 c6
  | 2, _ => s4_7_2 gs mn more b1 b2 b3 c0 c1 c2 c3 c4 c5 c6
  | 3, _ => s4_7_3 gs mn more b1 b2 b3 c0 c1 c2 c3 c4 c5 c6
  | 4, _ => s4_7_4 gs mn more b1 b2 b3 c0 c1 c2 c3 c4 c5 c6
  | 5, _ => s4_7_5 gs mn more b1 b2 b3 c0 c1 c2 c3 c4 c5 c6
  | 6, _ => s4_7_6 gs mn more b1 b2 b3 c0 c1 c2 c3 c4 c5 c6
  | n + 7, h => absurd h (by omega)
theorem s4_8 (gs : List Glue) (mn more : Int) (b1 b2 b3 : Bool) (c0 c1 c2 c3 c4 c5 c6 c7 : Code') : ∀ n, n < 8 → Seg4 gs [c0, c1, c2, c3, c4, c5, c6, c7] mn more b1 b2 b3 n
  | 0, _ => s4_8_0 gs mn more b1 b2 b3 c0 c1 c2 c3 c4 c5 c6 c7
  | 1, _ => s4_8_1 gs mn more b1 b2 b3 c0 c1 c2 c3 c4 c5 c6 c7
  | 2, _ => s4_8_2 gs mn more b1 b2 b3 c0 c1 c2 c3 c4 c5 c6 c7
  | 3, _ => s4_8_3 gs mn more b1 b2 b3 c0 c1 c2 c3 c4 c5 c6 c7
  | 4, _ => s4_8_4 gs mn more b1 b2 b3 c0 c1 c2 c3 c4 c5 c6 c7
  | 5, _ => s4_8_5 gs mn more b1 b2 b3 c0 c1 c2 c3 c4 c5 c6 c7
  | 6, _ => s4_8_6 gs mn more b1 b2 b3 c0 c1 c2 c3 c4 c5 c6 c7
  | 7, _ => s4_8_7 gs mn more b1 b2 b3 c0 c1 c2 c3 c4 c5 c6 c7
  | n + 8, h => absurd h (by omega)
theorem s4_9 (gs : List Glue) (mn more : Int) (b1 b2 b3 : Bool) (c0 c1 c2 c3 c4 c5 c6 c7 c8 : Code') : ∀ n, n < 9 → Seg4 gs [c0, c1, c2, c3, c4, c5, c6, c7, c8] mn more b1 b2 b3 n
  | 0, _ => s4_9_0 gs mn more b1 b2 b3 c0 c1 c2 c3 c4 c5 c6 c7 c8
  | 1, _ => s4_9_1 gs mn more b1 b2 b3 c0 c1 c2 c3 c4 c5 c6 c7 c8
  | 2, _ => s4_9_2 gs mn more b1 b2 b3 c0 c1 c2 c3 c4 c5 c6 c7 c8
  | 3, _ => s4_9_3 gs mn more b1 b2 b3 c0 c1 c2 c3 c4 c5 c6 c7 c8
  | 4, _ => s4_9_4 gs mn more b1 b2 b3 c0 c1 c2 c3 c4 c5 c6 c7 c8
  | 5, _ => s4_9_5 gs mn more b1 b2 b3 c0 c1 c2 c3 c4 c5 c6 c7 c8
  | 6, _ => s4_9_6 gs mn more b1 b2 b3 c0 c1 c2 c3 c4 c5 c6 c7 c8
  | 7, _ => s4_9_7 gs mn more b1 b2 b3 c0 c1 c2 c3 c4 c5 c6 c7 c8
  | 8, _ => s4_9_8 gs mn more b1 b2 b3 c0 c1 c2 c3 c4 c5 c6 c7 c8
  | n + 9, h => absurd h (by omega)
theorem s4_10 (gs : List Glue) (mn more : Int) (b1 b2 b3 : Bool) (c0 c1 c2 c3 c4 c5 c6 c7 c8 c9 : Code') : ∀ n, n < 10 → Seg4 gs [c0, c1, c2, c3, c4, c5, c6, c7, c8, c9] mn more b1 b2 b3 n
  | 0, _ => s4_10_0 gs mn more b1 b2 b3 c0 c1 c2 c3 c4 c5 c6 c7 c8 c9
  | 1, _ => s4_10_1 gs mn more b1 b2 b3 c0 c1 c2 c3 c4 c5 c6 c7 c8 c9
  | 2, _ => s4_10_2 gs mn more b1 b2 b3 c0 c1 c2 c3 c4 c5 c6 c7 c8 c9
  | 3, _ => s4_10_3 gs mn more b1 b2 b3 c0 c1 c2 c3 c4 c5 c6 c7 c8 c9
  | 4, _ => s4_10_4 gs mn more b1 b2 b3 c0 c1 c2 c3 c4 c5 c6 c7 c8 c9
  | 5, _ => s4_10_5 gs mn more b1 b2 b3 c0 c1 c2 c3 c4 c5 c6 c7 c8 c9
  | 6, _ => s4_10_6 gs mn more b1 b2 b3 c0 c1 c2 c3 c4 c5 c6 c7 c8 c9
  | 7, _ => s4_10_7 gs mn more b1 b2 b3 c0 c1 c2 c3 c4 c5 c6 c7 c8 c9
  | 8, _ => s4_10_8 gs mn more b1 b2 b3 c0 c1 c2 c3 c4 c5 c6 c7 c8 c9
  | 9, _ => s4_10_9 gs mn more b1 b2 b3 c0 c1 c2 c3 c4 c5 c6 c7 c8 c9
  | n + 10, h => absurd h (by omega)
theorem s4_11 (gs : List Glue) (mn more : Int) (b1 b2 b3 : Bool) (c0 c1 c2 c3 c4 c5 c6 c7 c8 c9 c10 : Code') : ∀ n, n < 11 → Seg4 gs [c0, c1, c2, c3, c4, c5, c6, c7, c8, c9, c10] mn more b1 b2 b3 n
  | 0, _ => s4_11_0 gs mn more b1 b2 b3 c0 c1 c2 c3 c4 c5 c6 c7 c8 c9 c10
  | 1, _ => s4_11_1 gs mn more b1 b2 b3 c0 c1 c2 c3 c4 c5 c6 c7 c8 c9 c10
  | 2, _ => s4_11_2 gs mn more b1 b2 b3 c0 c1 c2 c3 c4 c5 c6 c7 c8 c9 c10
  | 3, _ => s4_11_3 gs mn more b1 b2 b3 c0 c1 c2 c3 c4 c5 c6 c7 c8 c9 c10
  | 4, _ => s4_11_4 gs mn more b1 b2 b3 c0 c1 c2 c3 c4 c5 c6 c7 c8 c9 c10
  | 5, _ => s4_11_5 gs mn more b1 b2 b3 c0 c1 c2 c3 c4 c5 c6 c7 c8 c9 c10
  | 6, _ => s4_11_6 gs mn more b1 b2 b3 c0 c1 c2 c3 c4 c5 c6 c7 c8 c9 c10
  | 7, _ => s4_11_7 gs mn more b1 b2 b3 c0 c1 c2 c3 c4 c5 c6 c7 c8 c9 c10
  | 8, _ => s4_11_8 gs mn more b1 b2 b3 c0 c1 c2 c3 c4 c5 c6 c7 c8 c9 c10
  | 9, _ => s4_11_9 gs mn more b1 b2 b3 c0 c1 c2 c3 c4 c5 c6 c7 c8 c9 c10
  | 10, _ => s4_11_10 gs mn more b1 b2 b3 c0 c1 c2 c3 c4 c5 c6 c7 c8 c9 c10
  | n + 11, h => absurd h (by omega)
theorem s4_12 (gs : List Glue) (mn more : Int) (b1 b2 b3 : Bool) (c0 c1 c2 c3 c4 c5 c6 c7 c8 c9 c10 c11 : Code') : ∀ n, n < 12 → Seg4 gs [c0, c1, c2, c3, c4, c5, c6, c7, c8, c9, c10, c11] mn more b1 b2 b3 n
  | 0, _ => s4_12_0 gs mn more b1 b2 b3 c0 c1 c2 c3 c4 c5 c6 c7 c8 c9 c10 c11
  | 1, _ => s4_12_1 gs mn more b1 b2 b3 c0 c1 c2 c3 c4 c5 c6 c7 c8 c9 c10 c11
  | 2, _ => s4_12_2 gs mn more b1 b2 b3 c0 c1 c2 c3 c4 c5 c6 c7 c8 c9 c10 c11
  | 3, _ => s4_12_3 gs mn more b1 b2 b3 c0 c1 c2 c3 c4 c5 c6 c7 c8 c9 c10 c11
  | 4, _ => s4_12_4 gs mn more b1 b2 b3 c0 c1 c2 c3 c4 c5 c6 c7 c8 c9 c10 c11
  | 5, _ => s4_12_5 gs mn more b1 b2 b3 c0 c1 c2 c3 c4 c5 c6 c7 c8 c9 c10 c11
  | 6, _ => s4_12_6 gs mn more b1 b2 b3 c0 c1 c2 c3 c4 c5 c6 c7 c8 c9 c10 c11
  | 7, _ => s4_12_7 gs mn more b1 b2 b3 c0 c1 c2 c3 c4 c5 c6 c7 c8 c9 c10 c11
  | 8, _ => s4_12_8 gs mn more b1 b2 b3 c0 c1 c2 c3 c4 c5 c6 c7 c8 c9 c10 c11
  | 9, _ => s4_12_9 gs mn more b1 b2 b3 c0 c1 c2 c3 c4 c5 c6 c7 c8 c9 c10 c11
  | 10, _ => s4_12_10 gs mn more b1 b2 b3 c0 c1 c2 c3 c4 c5 c6 c7 c8 c9 c10 c11
  | 11, _ => s4_12_11 gs mn more b1 b2 b3 c0 c1 c2 c3 c4 c5 c6 c7 c8 c9 c10 c11
  | n + 12, h => absurd h (by omega)
theorem s4_13 (gs : List Glue) (mn more : Int) (b1 b2 b3 : Bool) (c0 c1 c2 c3 c4 c5 c6 c7 c8 c9 c10 c11 c12 : Code') : ∀ n, n < 13 → Seg4 gs [c0, c1, c2, c3, c4, c5, c6, c7, c8, c9, c10, c11, c12] mn more b1 b2 b3 n
  | 0, _ => s4_13_0 gs mn more b1 b2 b3 c0 c1 c2 c3 c4 c5 c6 c7 c8 c9 c10 c11 c12
  | 1, _ => s4_13_1 gs mn more b1 b2 b3 c0 c1 c2 c3 c4 c5 c6 c7 c8 c9 c10 c11 c12
  | 2, _ => s4_13_2 gs mn more b1 b2 b3 c0 c1 c2 c3 c4 c5 c6 c7 c8 c9 c10 c11 c12
  | 3, _ => s4_13_3 gs mn more b1 b2 b3 c0 c1 c2 c3 c4 c5 c6 c7 c8 c9 c10 c11 c12
  | 4, _ => s4_13_4 gs mn more b1 b2 b3 c0 c1 c2 c3 c4 c5 c6 c7 c8 c9 c10 c11 c12
  | 5, _ => s4_13_5 gs mn more b1 b2 b3 c0 c1 c2 c3 c4 c5 c6 c7 c8 c9 c10 c11 c12
  | 6, _ => s4_13_6 gs mn more b1 b2 b3 c0 c1 c2 c3 c4 c5 c6 c7 c8 c9 c10 c11 c12
  | 7, _ => s4_13_7 gs mn more b1 b2 b3 c0 c1 c2 c3 c4 c5 c6 c7 c8 c9 c10 c11 c12
  | 8, _ => s4_13_8 gs mn more b1 b2 b3 c0 c1 c2 c3 c4 c5 c6 c7 c8 c9 c10 c11 c12
  | 9, _ => s4_13_9 gs mn more b1 b2 b3 c0 c1 c2 c3 c4 c5 c6 c7 c8 c9 c10 c11 c12
  | 10, _ => s4_13_10 gs mn more b1 b2 b3 c0 c1 c2 c3 c4 c5 c6 c7 c8 c9 c10 c11 c12
  | 11, _ => s4_13_11 gs mn more b1 b2 b3 c0 c1 c2 c3 c4 c5 c6 c7 c8 c9 c10 c11 c12
  | 12, _ => s4_13_12 gs mn more b1 b2 b3 c0 c1 c2 c3 c4 c5 c6 c7 c8 c9 c10 c11 c12
  | n + 13, h => absurd h (by omega)
theorem s4_14 (gs : List Glue) (mn more : Int) (b1 b2 b3 : Bool) (c0 c1 c2 c3 c4 c5 c6 c7 c8 c9 c10 c11 c12 c13 : Code') : ∀ n, n < 14 → Seg4 gs [c0, c1, c2, c3, c4, c5, c6, c7, c8, c9, c10, c11, c12, c13] mn more b1 b2 b3 n
  | 0, _ => s4_14_0 gs mn more b1 b2 b3 c0 c1 c2 c3 c4 c5 c6 c7 c8 c9 c10 c11 c12 c13
  | 1, _ => s4_14_1 gs mn more b1 b2 b3 c0 c1 c2 c3 c4 c5 c6 c7 c8 c9 c10 c11 c12 c13
  | 2, _ => s4_14_2 gs mn more b1 b2 b3 c0 c1 c2 c3 c4 c5 c6 c7 c8 c9 c10 c11 c12 c13
  | 3, _ => s4_14_3 gs mn more b1 b2 b3 c0 c1 c2 c3 c4 c5 c6 c7 c8 c9 c10 c11 c12 c13
  | 4, _ => s4_14_4 gs mn more b1 b2 b3 c0 c1 c2 c3 c4 c5 c6 c7 c8 c9 c10 c11 c12 c13
  | 5, _ => s4_14_5 gs mn more b1 b2 b3 c0 c1 c2 c3 c4 c5 c6 c7 c8 c9 c10 c11 c12 c13
  | 6, _ => s4_14_6 gs mn more b1 b2 b3 c0 c1 c2 c3 c4 c5 c6 c7 c8 c9 c10 c11 c12 c13
  | 7, _ => s4_14_7 gs mn more b1 b2 b3 c0 c1 c2 c3 c4 c5 c6 c7 c8 c9 c10 c11 c12 c13
  | 8, _ => s4_14_8 gs mn more b1 b2 b3 c0 c1 c2 c3 c4 c5 c6 c7 c8 c9 c10 c11 c12 c13
  | 9, _ => s4_14_9 gs mn more b1 b2 b3 c0 c1 c2 c3 c4 c5 c6 c7 c8 c9 c10 c11 c12 c13
  | 10, _ => s4_14_10 gs mn more b1 b2 b3 c0 c1 c2 c3 c4 c5 c6 c7 c8 c9 c10 c11 c12 c13
  | 11, _ => s4_14_11 gs mn more b1 b2 b3 c0 c1 c2 c3 c4 c5 c6 c7 c8 c9 c10 c11 c12 c13
  | 12, _ => s4_14_12 gs mn more b1 b2 b3 c0 c1 c2 c3 c4 c5 c6 c7 c8 c9 c10 c11 c12 c13
  | 13, _ => s4_14_13 gs mn more b1 b2 b3 c0 c1 c2 c3 c4 c5 c6 c7 c8 c9 c10 c11 c12 c13
  | n + 14, h => absurd h (by omega)
theorem s4_15 (gs : List Glue) (mn more : Int) (b1 b2 b3 : Bool) (c0 c1 c2 c3 c4 c5 c6 c7 c8 c9 c10 c11 c12 c13 c14 : Code') : ∀ n, n < 15 → Seg4 gs [c0, c1, c2, c3, c4, c5, c6, c7, c8, c9, c10, c11, c12, c13, c14] mn more b1 b2 b3 n
  | 0, _ => s4_15_0 gs mn more b1 b2 b3 c0 c1 c2 c3 c4 c5 c6 c7 c8 c9 c10 c11 c12 c13 c14
  | 1, _ => s4_15_1 gs mn more b1 b2 b3 c0 c1 c2 c3 c4 c5 c6 c7 c8 c9 c10 c11 c12 c13 c14
  | 2, _ => s4_15_2 gs mn more b1 b2 b3 c0 c1 c2 c3 c4 c5 c6 c7 c8 c9 c10 c11 c12 c13 c14
  | 3, _ => s4_15_3 gs mn more b1 b2 b3 c0 c1 c2 c3 c4 c5 c6 c7 c8 c9 c10 c11 c12 c13 c14
  | 4, _ => s4_15_4 gs mn more b1 b2 b3 c0 c1 c2 c3 c4 c5 c6 c7 c8 c9 c10 c11 c12 c13 c14
  | 5, _ => s4_15_5 gs mn more b1 b2 b3 c0 c1 c2 c3 c4 c5 c6 c7 c8 c9 c10 c11 c12 c13 c14
  | 6, _ => s4_15_6 gs mn more b1 b2 b3 c0 c1 c2 c3 c4 c5 c6 c7 c8 c9 c10 c11 c12 c13 c14
  | 7, _ => s4_15_7 gs mn more b1 b2 b3 c0 c1 c2 c3 c4 c5 c6 c7 c8 c9 c10 c11 c12 c13 c14
  | 8, _ => s4_15_8 gs mn more b1 b2 b3 c0 c1 c2 c3 c4 c5 c6 c7 c8 c9 c10 c11 c12 c13 c14
  | 9, _ => s4_15_9 gs mn more b1 b2 b3 c0 c1 c2 c3 c4 c5 c6 c7 c8 c9 c10 c11 c12 c13 c14
  | 10, _ => s4_15_10 gs mn more b1 b2 b3 c0 c1 c2 c3 c4 c5 c6 c7 c8 c9 c10 c11 c12 c13 c14
  | 11, _ => s4_15_11 gs mn more b1 b2 b3 c0 c1 c2 c3 c4 c5 c6 c7 c8 c9 c10 c11 c12 c13 c14
  | 12, _ => s4_15_12 gs mn more b1 b2 b3 c0 c1 c2 c3 c4 c5 c6 c7 c8 c9 c10 c11 c12 c13 c14
  | 13, _ => s4_15_13 gs mn more b1 b2 b3 c0 c1 c2 c3 c4 c5 c6 c7 c8 c9 c10 c11 c12 c13 c14
  | 14, _ => s4_15_14 gs mn more b1 b2 b3 c0 c1 c2 c3 c4 c5 c6 c7 c8 c9 c10 c11 c12 c13 c14
  | n + 15, h => absurd h (by omega)
theorem s4_16 (gs : List Glue) (mn more : Int) (b1 b2 b3 : Bool) (c0 c1 c2 c3 c4 c5 c6 c7 c8 c9 c10 c11 c12 c13 c14 c15 : Code') : ∀ n, n < 16 → Seg4 gs [c0, c1, c2, c3, c4, c5, c6, c7, c8, c9, c10, c11, c12, c13, c14, c15] mn more b1 b2 b3 n
  | 0, _ => s4_16_0 gs mn more b1 b2 b3 c0 c1 c2 c3 c4 c5 c6 c7 c8 c9 c10 c11 c12 c13 c14 c15
  | 1, _ => s4_16_1 gs mn more b1 b2 b3 c0 c1 c2 c3 c4 c5 c6 c7 c8 c9 c10 c11 c12 c13 c14 c15
  | 2, _ => s4_16_2 gs mn more b1 b2 b3 c0 c1 c2 c3 c4 c5 c6 c7 c8 c9 c10 c11 c12 c13 c14 c15
  | 3, _ => s4_16_3 gs mn more b1 b2 b3 c0 c1 c2 c3 c4 c5 c6 c7 c8 c9 c10 c11 c12 c13 c14 c15
  | 4, _ => s4_16_4 gs mn more b1 b2 b3 c0 c1 c2 c3 c4 c5 c6 c7 c8 c9 c10 c11 c12 c13 c14 c15
  | 5, _ => s4_16_5 gs mn more b1 b2 b3 c0 c1 c2 c3 c4 c5 c6 c7 c8 c9 c10 c11 c12 c13 c14 c15
  | 6, _ => s4_16_6 gs mn more b1 b2 b3 c0 c1 c2 c3 c4 c5 c6 c7 c8 c9 c10 c11 c12 c13 c14 c15
  | 7, _ => s4_16_7 gs mn more b1 b2 b3 c0 c1 c2 c3 c4 c5 c6 c7 c8 c9 c10 c11 c12 c13 c14 c15
  | 8, _ => s4_16_8 gs mn more b1 b2 b3 c0 c1 c2 c3 c4 c5 c6 c7 c8 c9 c10 c11 c12 c13 c14 c15
  | 9, _ => s4_16_9 gs mn more b1 b2 b3 c0 c1 c2 c3 c4 c5 c6 c7 c8 c9 c10 c11 c12 c13 c14 c15
  | 10, _ => s4_16_10 gs mn more b1 b2 b3 c0 c1 c2 c3 c4 c5 c6 c7 c8 c9 c10 c11 c12 c13 c14 c15
  | 11, _ => s4_16_11 gs mn more b1 b2 b3 c0 c1 c2 c3 c4 c5 c6 c7 c8 c9 c10 c11 c12 c13 c14 c15
  | 12, _ => s4_16_12 gs mn more b1 b2 b3 c0 c1 c2 c3 c4 c5 c6 c7 c8 c9 c10 c11 c12 c13 c14 c15
  | 13, _ => s4_16_13 gs mn more b1 b2 b3 c0 c1 c2 c3 c4 c5 c6 c7 c8 c9 c10 c11 c12 c13 c14 c15
  | 14, _ => s4_16_14 gs mn more b1 b2 b3 c0 c1 c2 c3 c4 c5 c6 c7 c8 c9 c10 c11 c12 c13 c14 c15
  | 15, _ => s4_16_15 gs mn more b1 b2 b3 c0 c1 c2 c3 c4 c5 c6 c7 c8 c9 c10 c11 c12 c13 c14 c15
  | n + 16, h => absurd h (by omega)
theorem seg4 (gs : List Glue) (mn more : Int) (b1 b2 b3 : Bool) (n : Nat) : ∀ cs : List Code', n < cs.length → cs.length ≤ 16 → Seg4 gs cs mn more b1 b2 b3 n
  | [], h, _ => absurd h (Nat.not_lt_zero _)
  | [c0], h, _ => s4_1 gs mn more b1 b2 b3 c0 n (by simpa using h)
  | [c0, c1], h, _ => s4_2 gs mn more b1 b2 b3 c0 c1 n (by simpa using h)
  | [c0, c1, c2], h, _ => s4_3 gs mn more b1 b2 b3 c0 c1 c2 n (by simpa using h)
  | [c0, c1, c2, c3], h, _ => s4_4 gs mn more b1 b2 b3 c0 c1 c2 c3 n (by simpa using h)
  | [c0, c1, c2, c3, c4], h, _ => s4_5 gs mn more b1 b2 b3 c0 c1 c2 c3 c4 n (by simpa using h)
  | [c0, c1, c2, c3, c4, c5], h, _ => s4_6 gs mn more b1 b2 b3 c0 c1 c2 c3 c4 c5 n (by simpa using h)
  | [c0, c1, c2, c3, c4, c5, c6], h, _ => s4_7 gs mn more b1 b2 b3 c0 c1 c2 c3 c4 c5 c6 n (by simpa using h)
  | [c0, c1, c2, c3, c4, c5, c6, c7], h, _ => s4_8 gs mn more b1 b2 b3 c0 c1 c2 c3 c4 c5 c6 c7 n (by simpa using h)
  | [c0, c1, c2, c3, c4, c5, c6, c7, c8], h, _ => s4_9 gs mn more b1 b2 b3 c0 c1 c2 c3 c4 c5 c6 c7 c8 n (by simpa using h)
  | [c0, c1, c2, c3, c4, c5, c6, c7, c8, c9], h, _ => s4_10 gs mn more b1 b2 b3 c0 c1 c2 c3 c4 c5 c6 c7 c8 c9 n (by simpa using h)
  | [c0, c1, c2, c3, c4, c5, c6, c7, c8, c9, c10], h, _ => s4_11 gs mn more b1 b2 b3 c0 c1 c2 c3 c4 c5 c6 c7 c8 c9 c10 n (by simpa using h)
  | [c0, c1, c2, c3, c4, c5, c6, c7, c8, c9, c10, c11], h, _ => s4_12 gs mn more b1 b2 b3 c0 c1 c2 c3 c4 c5 c6 c7 c8 c9 c10 c11 n (by simpa using h)
  | [c0, c1, c2, c3, c4, c5, c6, c7, c8, c9, c10, c11, c12], h, _ => s4_13 gs mn more b1 b2 b3 c0 c1 c2 c3 c4 c5 c6 c7 c8 c9 c10 c11 c12 n (by simpa using h)
  | [c0, c1, c2, c3, c4, c5, c6, c7, c8, c9, c10, c11, c12, c13], h, _ => s4_14 gs mn more b1 b2 b3 c0 c1 c2 c3 c4 c5 c6 c7 c8 c9 c10 c11 c12 c13 n (by simpa using h)
  | [c0, c1, c2, c3, c4, c5, c6, c7, c8, c9, c10, c11, c12, c13, c14], h, _ => s4_15 gs mn more b1 b2 b3 c0 c1 c2 c3 c4 c5 c6 c7 c8 c9 c10 c11 c12 c13 c14 n (by simpa using h)
  | [c0, c1, c2, c3, c4, c5, c6, c7, c8, c9, c10, c11, c12, c13, c14, c15], h, _ => s4_16 gs mn more b1 b2 b3 c0 c1 c2 c3 c4 c5 c6 c7 c8 c9 c10 c11 c12 c13 c14 c15 n (by simpa using h)
  | c0 :: c1 :: c2 :: c3 :: c4 :: c5 :: c6 :: c7 :: c8 :: c9 :: c10 :: c11 :: c12 :: c13 :: c14 :: c15 :: c16 :: rest, _, h => absurd h (by simp only [List.length_cons]; omega)
end Go.Lift.T22
