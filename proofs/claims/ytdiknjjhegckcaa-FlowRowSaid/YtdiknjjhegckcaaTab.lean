/-
  The table of this seat's small functions, for the reckoner. No condition.
-/
import Derived.Test.YtdiknjjhegckcaaCode
import Derived.Test.YtdiknjjhegckcaaVF
namespace Go.Proofs.Ytdiknjjhegckcaa
open Go.V
def tab : Tab := [
  (3, 40, c_sclaw26_FlowReach, [(.tmp 2)]),
  (4, 13, c_sclaw26_FlowAbove, [(.tmp 2)]),
  (5, 21, c_sclaw26_FlowMust, [(.tmp 6)]),
  (6, 83, c_sclaw26_FlowCut, [(.tmp 6)]),
  (7, 148, c_sclaw26_FlowRow, [(.tmp 6)]),
  (8, 122, c_sclaw26_FlowMore, [(.tmp 6)]),
  (9, 73, c_sclaw26_FlowRows, [(.tmp 4)]),
  (10, 37, c_sclaw26_FlowNext, [(.tmp 2)]),
  (11, 56, c_sclaw26_awake, [(.tmp 0)]),
  (12, 36, c_scref26_Small, [(.tmp 6)]),
  (13, 11, c_flow_Reach, [(.tmp 2)]),
  (14, 5, c_scref26_Reach, [(.tmp 2)]),
  (15, 26, c_scref26_List, [(.tmp 4)]),
  (16, 37, c_flow_Order, [(.tmp 2)]),
  (17, 94, c_scref26_Order, [(.tmp 2)]),
  (18, 103, c_flow_Above, [(.tmp 2)]),
  (19, 96, c_scref26_Above, [(.tmp 2)]),
  (20, 51, c_flow_Must, [(.tmp 6)]),
  (21, 45, c_scref26_Must, [(.tmp 6)]),
  (22, 40, c_flow_Next, [(.tmp 2)]),
  (23, 43, c_scref26_Next, [(.tmp 2)]),
  (24, 69, c_flow_walk, []),
  (25, 2, c_flow_Reach_1, []),
  (26, 72, c_scref26_Without, [(.tmp 4)]),
  (27, 7, c_flow_Order_1, []),
  (28, 52, c_flow_aheadOf, [(.tmp 4)]),
  (29, 30, c_flow_meet, [(.tmp 8)]),
  (30, 2, c_flow_Must_1, []),
  (31, 28, c_flow_walk_1, [])]
theorem tab_ok : TabOK Try.prog tab := by
  intro p hp
  simp only [tab, List.mem_cons, List.not_mem_nil, or_false] at hp
  rcases hp with rfl | rfl | rfl | rfl | rfl | rfl | rfl | rfl | rfl | rfl | rfl | rfl | rfl | rfl | rfl | rfl | rfl | rfl | rfl | rfl | rfl | rfl | rfl | rfl | rfl | rfl | rfl | rfl | rfl
  · exact f_sclaw26_FlowReach
  · exact f_sclaw26_FlowAbove
  · exact f_sclaw26_FlowMust
  · exact f_sclaw26_FlowCut
  · exact f_sclaw26_FlowRow
  · exact f_sclaw26_FlowMore
  · exact f_sclaw26_FlowRows
  · exact f_sclaw26_FlowNext
  · exact f_sclaw26_awake
  · exact f_scref26_Small
  · exact f_flow_Reach
  · exact f_scref26_Reach
  · exact f_scref26_List
  · exact f_flow_Order
  · exact f_scref26_Order
  · exact f_flow_Above
  · exact f_scref26_Above
  · exact f_flow_Must
  · exact f_scref26_Must
  · exact f_flow_Next
  · exact f_scref26_Next
  · exact f_flow_walk
  · exact f_flow_Reach_1
  · exact f_scref26_Without
  · exact f_flow_Order_1
  · exact f_flow_aheadOf
  · exact f_flow_meet
  · exact f_flow_Must_1
  · exact f_flow_walk_1
theorem hmix : Try.prog.follows .mixedOrders = true := by kernel_rfl
end Go.Proofs.Ytdiknjjhegckcaa
