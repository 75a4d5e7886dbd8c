/-
  The table of this seat's small functions, for the reckoner. No condition.
-/
import Derived.Test.YtdfdkoajphcjbaaCode
import Derived.Test.YtdfdkoajphcjbaaVF
namespace Go.Proofs.Ytdfdkoajphcjbaa
open Go.V
def tab : Tab := [
  (3, 40, c_sclaw20_StackRuns, [(.tmp 6)]),
  (4, 87, c_sclaw20_StackMore, [(.tmp 6)]),
  (5, 64, c_sclaw20_StackCalls, [(.tmp 6)]),
  (6, 78, c_sclaw20_StackPlaces, [(.tmp 6)]),
  (7, 39, c_sclaw20_StackEcho, [(.tmp 2)]),
  (8, 74, c_sclaw20_StackOps, [(.tmp 6)]),
  (9, 82, c_sclaw20_awake, [(.tmp 0)]),
  (10, 15, c_scref20_Few, [(.tmp 4)]),
  (11, 113, c_scref20_Right, [(.tmp 2)]),
  (12, 103, c_stack_Run, [(.cell 6 true 3)]),
  (13, 56, c_scref20_Run, [(.cell 6 true 3)]),
  (14, 114, c_stack_Right, [(.tmp 2)]),
  (15, 62, c_word_Apply, [(.tmp 6), (.tmp 7)]),
  (16, 33, c_word_Bytes, [(.tmp 2)]),
  (17, 7, c_sclaw20_code, [(.cell 2 true 2)]),
  (18, 121, c_stack_Depths, [(.tmp 4), (.tmp 5)]),
  (19, 20, c_stack_Size, [(.tmp 2)]),
  (20, 22, c_scref20_Size, [(.tmp 2)]),
  (21, 119, c_scref20_Fits, [(.tmp 6)]),
  (22, 168, c_scref20_Depths, [(.tmp 4), (.tmp 5)]),
  (23, 28, c_stack_pile_uint32_pop, [(.tmp 2)]),
  (24, 26, c_stack_machine_enter, []),
  (25, 14, c_stack_pile_stack_frame_push, []),
  (26, 8, c_stack_pile_stack_frame_size, [(.tmp 2)]),
  (27, 28, c_stack_pile_stack_frame_pop, [(.cell 2 true 2)]),
  (28, 171, c_stack_machine_do, [(.tmp 4)]),
  (29, 246, c_scref20_M_step, []),
  (30, 109, c_stack_right, [(.tmp 6)]),
  (31, 18, c_word_divide, [(.tmp 6), (.tmp 7)]),
  (32, 19, c_word_shift, [(.tmp 6)]),
  (33, 23, c_word_compare, [(.tmp 6)]),
  (34, 14, c_stack_pile_int_push, []),
  (35, 8, c_stack_pile_int_size, [(.tmp 2)]),
  (36, 28, c_stack_pile_int_pop, [(.tmp 2)]),
  (37, 89, c_stack_behind, [(.tmp 8), (.tmp 9)]),
  (38, 24, c_stack_next, [(.tmp 4)]),
  (39, 70, c_scref20_Takes, [(.tmp 6), (.tmp 7), (.tmp 8)]),
  (40, 24, c_scref20_Next, [(.tmp 4)]),
  (41, 30, c_stack_pile_uint32_take, [(.tmp 4)]),
  (42, 14, c_stack_pile_uint32_push, []),
  (43, 5, c_stack_not, [(.tmp 2)]),
  (44, 32, c_stack_machine_get, [(.tmp 2)]),
  (45, 17, c_scref20_M_jump, []),
  (46, 29, c_scref20_M_push, []),
  (47, 52, c_scref20_M_pop, [(.tmp 2)]),
  (48, 80, c_scref01_Apply, [(.tmp 6), (.tmp 7)]),
  (49, 54, c_scref20_M_call, []),
  (50, 55, c_scref20_M_ret, []),
  (51, 4, c_stack_count, [(.tmp 2)]),
  (52, 50, c_scref01_both, [(.tmp 6)]),
  (53, 27, c_scref01_shift, [(.tmp 6)]),
  (54, 4, c_scref01_flag, [(.tmp 2)]),
  (55, 18, c_scref01_Bits, [(.tmp 2)]),
  (56, 23, c_scref01_Of, [(.tmp 2)])]
theorem tab_ok : TabOK Try.prog tab := by
  intro p hp
  simp only [tab, List.mem_cons, List.not_mem_nil, or_false] at hp
  rcases hp with rfl | rfl | rfl | rfl | rfl | rfl | rfl | rfl | rfl | rfl | rfl | rfl | rfl | rfl | rfl | rfl | rfl | rfl | rfl | rfl | rfl | rfl | rfl | rfl | rfl | rfl | rfl | rfl | rfl | rfl | rfl | rfl | rfl | rfl | rfl | rfl | rfl | rfl | rfl | rfl | rfl | rfl | rfl | rfl | rfl | rfl | rfl | rfl | rfl | rfl | rfl | rfl | rfl | rfl
  · exact f_sclaw20_StackRuns
  · exact f_sclaw20_StackMore
  · exact f_sclaw20_StackCalls
  · exact f_sclaw20_StackPlaces
  · exact f_sclaw20_StackEcho
  · exact f_sclaw20_StackOps
  · exact f_sclaw20_awake
  · exact f_scref20_Few
  · exact f_scref20_Right
  · exact f_stack_Run
  · exact f_scref20_Run
  · exact f_stack_Right
  · exact f_word_Apply
  · exact f_word_Bytes
  · exact f_sclaw20_code
  · exact f_stack_Depths
  · exact f_stack_Size
  · exact f_scref20_Size
  · exact f_scref20_Fits
  · exact f_scref20_Depths
  · exact f_stack_pile_uint32_pop
  · exact f_stack_machine_enter
  · exact f_stack_pile_stack_frame_push
  · exact f_stack_pile_stack_frame_size
  · exact f_stack_pile_stack_frame_pop
  · exact f_stack_machine_do
  · exact f_scref20_M_step
  · exact f_stack_right
  · exact f_word_divide
  · exact f_word_shift
  · exact f_word_compare
  · exact f_stack_pile_int_push
  · exact f_stack_pile_int_size
  · exact f_stack_pile_int_pop
  · exact f_stack_behind
  · exact f_stack_next
  · exact f_scref20_Takes
  · exact f_scref20_Next
  · exact f_stack_pile_uint32_take
  · exact f_stack_pile_uint32_push
  · exact f_stack_not
  · exact f_stack_machine_get
  · exact f_scref20_M_jump
  · exact f_scref20_M_push
  · exact f_scref20_M_pop
  · exact f_scref01_Apply
  · exact f_scref20_M_call
  · exact f_scref20_M_ret
  · exact f_stack_count
  · exact f_scref01_both
  · exact f_scref01_shift
  · exact f_scref01_flag
  · exact f_scref01_Bits
  · exact f_scref01_Of
end Go.Proofs.Ytdfdkoajphcjbaa
