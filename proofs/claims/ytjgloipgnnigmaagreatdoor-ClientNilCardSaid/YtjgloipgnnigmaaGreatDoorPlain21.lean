/- parishlaw21.plain: a message as the reference has it: the same cells. -/
import Derived.Test.YtjgloipgnnigmaaGreatDoorRow34
namespace Go.Proofs.YtjgloipgnnigmaaGreatDoor
open Go.RowKit Go.Shelf

theorem info_rmsg : (Tryz.prog.info? 85).map (·.size) = some 34 := by kernel_rfl
set_option maxHeartbeats 1000000 in
theorem plain_any (m : MsgV) (w : World) : Calls Tryz.prog 28 #[m.v] w fun e w' => e = .returned m.v ∧ Below w.heap.size w w' := by
  unfold MsgV.v
  obtain ⟨W, eW, HB, hsz, hrow⟩ := boxed w m.vs 43
  obtain ⟨c0, c1, c2, c3, c4, c5, c6, c7, c8, c9, c10, c11, c12, c13, c14, c15, c16, c17, c18, c19, c20, c21, c22, c23, c24, c25, c26, c27, c28, c29, c30, c31, c32, c33⟩ := msg_cs hrow
  have hlt : w.heap.size < W.heap.size := by omega
  clear hrow hsz
  go_enter Tryz.func28, Tryz.ntmps28
  go_wp2_with (refine wpList_store_row rfl 85 _ _ rfl W.heap.size m.vs rfl rfl 85 _ (heap_alloc_new W _) info_rmsg rfl (msg_one m) ?_)
  have hr := setRow_heap _ _ _ m.vs _ _ (heap_alloc_new W (.cells #[.int .i64 0, .int .u32 0, .int .i64 0, .int .i64 0, .bool false, .int .u32 0, .int .i64 0, .int .i64 0, .int .i64 0, .int .i64 0, .slice none 0 0, .slice none 0 0, .int .i64 0, .int .i64 0, .int .i64 0, .int .u64 0, .bool false, .int .i64 0, .int .i64 0, .slice none 0 0, .slice none 0 0, .int .i64 0, .int .i64 0, .int .i64 0, .int .u64 0, .bool false, .int .i64 0, .string ByteArray.empty, .int .u64 0, .int .i64 0, .int .u64 0, .string ByteArray.empty, .int .i64 0, .slice none 0 0] 85))
  exact bodyPost_ret (v := .agg m.vs) (results_cell_row rfl _ _ W.heap.size _ m.vs _ _ rfl hr Tryz.underlying85 rfl info_rmsg) rfl ⟨rfl, below_setRow (HB.alloc HB.size _) HB.size _⟩
end Go.Proofs.YtjgloipgnnigmaaGreatDoor
