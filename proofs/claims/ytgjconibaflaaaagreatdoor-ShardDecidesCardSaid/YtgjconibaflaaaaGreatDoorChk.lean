/- The entries of the table are the program's own functions. -/
import Derived.Test.YtgjconibaflaaaaGreatDoorCode
import Derived.Test.YtgjconibaflaaaaGreatDoorAbInsert3
import Derived.Test.YtgjconibaflaaaaGreatDoorProg
import Derived.KernelRfl
namespace Go.Ab
open Go Go.Proofs
noncomputable def fnAt (n : Nat) : Func := (Tryz.prog.funcs[n]?).getD default
theorem mixed : Tryz.prog.follows .mixedOrders = true := by kernel_rfl
theorem chk.cantonlaw13_ShardDecides : chkF Tryz.prog N.cantonlaw13_ShardDecides C.cantonlaw13_ShardDecides = true := by kernel_rfl
theorem chk.cantonlaw13_head : chkF Tryz.prog N.cantonlaw13_head C.cantonlaw13_head = true := by kernel_rfl
theorem chk.cantonlaw13_root : chkF Tryz.prog N.cantonlaw13_root C.cantonlaw13_root = true := by kernel_rfl
theorem chk.shard_Shard_Do : chkF Tryz.prog N.shard_Shard_Do C.shard_Shard_Do = true := by kernel_rfl
theorem chk.shard_Shard_Store : chkF Tryz.prog N.shard_Shard_Store C.shard_Shard_Store = true := by kernel_rfl
theorem chk.cantonlaw13_create : chkF Tryz.prog N.cantonlaw13_create C.cantonlaw13_create = true := by kernel_rfl
theorem chk.shard_Shard_Ranges : chkF Tryz.prog N.shard_Shard_Ranges C.shard_Shard_Ranges = true := by kernel_rfl
theorem chk.shard_Shard_Holds : chkF Tryz.prog N.shard_Shard_Holds C.shard_Shard_Holds = true := by kernel_rfl
theorem chk.shard_New : chkF Tryz.prog N.shard_New C.shard_New = true := by kernel_rfl
theorem chk.shard_Shard_run : chkF Tryz.prog N.shard_Shard_run C.shard_Shard_run = true := by kernel_rfl
theorem chk.shard_Shard_prepare : chkF Tryz.prog N.shard_Shard_prepare C.shard_Shard_prepare = true := by kernel_rfl
theorem chk.shard_Shard_finish : chkF Tryz.prog N.shard_Shard_finish C.shard_Shard_finish = true := by kernel_rfl
theorem chk.shard_Shard_decide : chkF Tryz.prog N.shard_Shard_decide C.shard_Shard_decide = true := by kernel_rfl
theorem chk.shard_Shard_freeze : chkF Tryz.prog N.shard_Shard_freeze C.shard_Shard_freeze = true := by kernel_rfl
theorem chk.command_Right : chkF Tryz.prog N.command_Right C.command_Right = true := by kernel_rfl
theorem chk.shard_failed : chkF Tryz.prog N.shard_failed C.shard_failed = true := by kernel_rfl
theorem chk.shard_Shard_once : chkF Tryz.prog N.shard_Shard_once C.shard_Shard_once = true := by kernel_rfl
theorem chk.multi_Of : chkF Tryz.prog N.multi_Of C.multi_Of = true := by kernel_rfl
theorem chk.part_Right : chkF Tryz.prog N.part_Right C.part_Right = true := by kernel_rfl
theorem chk.owned_Right : chkF Tryz.prog N.owned_Right C.owned_Right = true := by kernel_rfl
theorem chk.locks_Dirs : chkF Tryz.prog N.locks_Dirs C.locks_Dirs = true := by kernel_rfl
theorem chk.slices_ContainsFunc_string : chkF Tryz.prog N.slices_ContainsFunc_string C.slices_ContainsFunc_string = true := by kernel_rfl
theorem chk.shard_Shard_run_c1 : chkF Tryz.prog N.shard_Shard_run_c1 C.shard_Shard_run_c1 = true := by kernel_rfl
theorem chk.locks_Held : chkF Tryz.prog N.locks_Held C.locks_Held = true := by kernel_rfl
theorem chk.shard_Shard_where : chkF Tryz.prog N.shard_Shard_where C.shard_Shard_where = true := by kernel_rfl
theorem chk.shard_Shard_all : chkF Tryz.prog N.shard_Shard_all C.shard_Shard_all = true := by kernel_rfl
theorem chk.locks_Take : chkF Tryz.prog N.locks_Take C.locks_Take = true := by kernel_rfl
theorem chk.multi_All : chkF Tryz.prog N.multi_All C.multi_All = true := by kernel_rfl
theorem chk.locks_Free : chkF Tryz.prog N.locks_Free C.locks_Free = true := by kernel_rfl
theorem chk.shard_Shard_find : chkF Tryz.prog N.shard_Shard_find C.shard_Shard_find = true := by kernel_rfl
theorem chk.owned_Freeze : chkF Tryz.prog N.owned_Freeze C.owned_Freeze = true := by kernel_rfl
theorem chk.owned_Of : chkF Tryz.prog N.owned_Of C.owned_Of = true := by kernel_rfl
theorem chk.shard_Shard_held : chkF Tryz.prog N.shard_Shard_held C.shard_Shard_held = true := by kernel_rfl
theorem chk.owned_Cut : chkF Tryz.prog N.owned_Cut C.owned_Cut = true := by kernel_rfl
theorem chk.strings_Compare : chkF Tryz.prog N.strings_Compare C.strings_Compare = true := by kernel_rfl
theorem chk.part_May : chkF Tryz.prog N.part_May C.part_May = true := by kernel_rfl
theorem chk.path_In : chkF Tryz.prog N.path_In C.path_In = true := by kernel_rfl
theorem chk.command_number : chkF Tryz.prog N.command_number C.command_number = true := by kernel_rfl
theorem chk.command_empty : chkF Tryz.prog N.command_empty C.command_empty = true := by kernel_rfl
theorem chk.multi_May : chkF Tryz.prog N.multi_May C.multi_May = true := by kernel_rfl
theorem chk.part_Of : chkF Tryz.prog N.part_Of C.part_Of = true := by kernel_rfl
theorem chk.slices_ContainsFunc_Node : chkF Tryz.prog N.slices_ContainsFunc_Node C.slices_ContainsFunc_Node = true := by kernel_rfl
theorem chk.part_Right_c1 : chkF Tryz.prog N.part_Right_c1 C.part_Right_c1 = true := by kernel_rfl
theorem chk.part_fields : chkF Tryz.prog N.part_fields C.part_fields = true := by kernel_rfl
theorem chk.slices_ContainsFunc_Turn : chkF Tryz.prog N.slices_ContainsFunc_Turn C.slices_ContainsFunc_Turn = true := by kernel_rfl
theorem chk.path_Right : chkF Tryz.prog N.path_Right C.path_Right = true := by kernel_rfl
theorem chk.part_within : chkF Tryz.prog N.part_within C.part_within = true := by kernel_rfl
theorem chk.part_rising_Node : chkF Tryz.prog N.part_rising_Node C.part_rising_Node = true := by kernel_rfl
theorem chk.part_Right_c3 : chkF Tryz.prog N.part_Right_c3 C.part_Right_c3 = true := by kernel_rfl
theorem chk.part_rising_Turn : chkF Tryz.prog N.part_rising_Turn C.part_rising_Turn = true := by kernel_rfl
theorem chk.slices_Sort_string : chkF Tryz.prog N.slices_Sort_string C.slices_Sort_string = true := by kernel_rfl
theorem chk.slices_Compact_string : chkF Tryz.prog N.slices_Compact_string C.slices_Compact_string = true := by kernel_rfl
theorem chk.slices_IndexFunc_string : chkF Tryz.prog N.slices_IndexFunc_string C.slices_IndexFunc_string = true := by kernel_rfl
theorem chk.slices_IndexFunc_Hold : chkF Tryz.prog N.slices_IndexFunc_Hold C.slices_IndexFunc_Hold = true := by kernel_rfl
theorem chk.locks_Held_c1 : chkF Tryz.prog N.locks_Held_c1 C.locks_Held_c1 = true := by kernel_rfl
theorem chk.shard_Shard_where_c1 : chkF Tryz.prog N.shard_Shard_where_c1 C.shard_Shard_where_c1 = true := by kernel_rfl
theorem chk.shard_Shard_where_c1_c1 : chkF Tryz.prog N.shard_Shard_where_c1_c1 C.shard_Shard_where_c1_c1 = true := by kernel_rfl
theorem chk.owned_State : chkF Tryz.prog N.owned_State C.owned_State = true := by kernel_rfl
theorem chk.shard_Shard_tell : chkF Tryz.prog N.shard_Shard_tell C.shard_Shard_tell = true := by kernel_rfl
theorem chk.locks_Take_c1 : chkF Tryz.prog N.locks_Take_c1 C.locks_Take_c1 = true := by kernel_rfl
theorem chk.slices_ContainsFunc_Hold : chkF Tryz.prog N.slices_ContainsFunc_Hold C.slices_ContainsFunc_Hold = true := by kernel_rfl
theorem chk.locks_Right : chkF Tryz.prog N.locks_Right C.locks_Right = true := by kernel_rfl
theorem chk.locks_number : chkF Tryz.prog N.locks_number C.locks_number = true := by kernel_rfl
theorem chk.slices_BinarySearchFunc_Hold : chkF Tryz.prog N.slices_BinarySearchFunc_Hold C.slices_BinarySearchFunc_Hold = true := by kernel_rfl
theorem chk.locks_Take_c3 : chkF Tryz.prog N.locks_Take_c3 C.locks_Take_c3 = true := by kernel_rfl
theorem chk.part_Do : chkF Tryz.prog N.part_Do C.part_Do = true := by kernel_rfl
theorem chk.slices_DeleteFunc_Hold : chkF Tryz.prog N.slices_DeleteFunc_Hold C.slices_DeleteFunc_Hold = true := by kernel_rfl
theorem chk.locks_Free_c1 : chkF Tryz.prog N.locks_Free_c1 C.locks_Free_c1 = true := by kernel_rfl
theorem chk.slices_IndexFunc_Range : chkF Tryz.prog N.slices_IndexFunc_Range C.slices_IndexFunc_Range = true := by kernel_rfl
theorem chk.shard_Shard_find_c1 : chkF Tryz.prog N.shard_Shard_find_c1 C.shard_Shard_find_c1 = true := by kernel_rfl
theorem chk.owned_put : chkF Tryz.prog N.owned_put C.owned_put = true := by kernel_rfl
theorem chk.owned_Cut_c1 : chkF Tryz.prog N.owned_Cut_c1 C.owned_Cut_c1 = true := by kernel_rfl
theorem chk.owned_parted_Node : chkF Tryz.prog N.owned_parted_Node C.owned_parted_Node = true := by kernel_rfl
theorem chk.owned_Cut_c2 : chkF Tryz.prog N.owned_Cut_c2 C.owned_Cut_c2 = true := by kernel_rfl
theorem chk.path_Parent : chkF Tryz.prog N.path_Parent C.path_Parent = true := by kernel_rfl
theorem chk.owned_parted_Turn : chkF Tryz.prog N.owned_parted_Turn C.owned_parted_Turn = true := by kernel_rfl
theorem chk.owned_find : chkF Tryz.prog N.owned_find C.owned_find = true := by kernel_rfl
theorem chk.slices_BinarySearchFunc_Range : chkF Tryz.prog N.slices_BinarySearchFunc_Range C.slices_BinarySearchFunc_Range = true := by kernel_rfl
theorem chk.math_bits_Len : chkF Tryz.prog N.math_bits_Len C.math_bits_Len = true := by kernel_rfl
theorem chk.ibytealg_CompareString : chkF Tryz.prog N.ibytealg_CompareString C.ibytealg_CompareString = true := by kernel_rfl
theorem chk.watch_Right : chkF Tryz.prog N.watch_Right C.watch_Right = true := by kernel_rfl
theorem chk.part_up : chkF Tryz.prog N.part_up C.part_up = true := by kernel_rfl
theorem chk.strings_CutPrefix : chkF Tryz.prog N.strings_CutPrefix C.strings_CutPrefix = true := by kernel_rfl
theorem chk.strings_TrimSuffix : chkF Tryz.prog N.strings_TrimSuffix C.strings_TrimSuffix = true := by kernel_rfl
theorem chk.slices_ContainsFunc_Op : chkF Tryz.prog N.slices_ContainsFunc_Op C.slices_ContainsFunc_Op = true := by kernel_rfl
theorem chk.multi_May_c1 : chkF Tryz.prog N.multi_May_c1 C.multi_May_c1 = true := by kernel_rfl
theorem chk.nodes_May : chkF Tryz.prog N.nodes_May C.nodes_May = true := by kernel_rfl
theorem chk.part_Of_c1 : chkF Tryz.prog N.part_Of_c1 C.part_Of_c1 = true := by kernel_rfl
theorem chk.part_Of_c2 : chkF Tryz.prog N.part_Of_c2 C.part_Of_c2 = true := by kernel_rfl
theorem chk.slices_IndexFunc_Node : chkF Tryz.prog N.slices_IndexFunc_Node C.slices_IndexFunc_Node = true := by kernel_rfl
theorem chk.slices_IndexFunc_Turn : chkF Tryz.prog N.slices_IndexFunc_Turn C.slices_IndexFunc_Turn = true := by kernel_rfl
theorem chk.path_Split : chkF Tryz.prog N.path_Split C.path_Split = true := by kernel_rfl
theorem chk.slices_pdqsortOrdered_string : chkF Tryz.prog N.slices_pdqsortOrdered_string C.slices_pdqsortOrdered_string = true := by kernel_rfl
theorem chk.shard_Shard_happen : chkF Tryz.prog N.shard_Shard_happen C.shard_Shard_happen = true := by kernel_rfl
theorem chk.part_work_guard : chkF Tryz.prog N.part_work_guard C.part_work_guard = true := by kernel_rfl
theorem chk.part_work_put : chkF Tryz.prog N.part_work_put C.part_work_put = true := by kernel_rfl
theorem chk.path_cut : chkF Tryz.prog N.path_cut C.path_cut = true := by kernel_rfl
theorem chk.owned_find_c1 : chkF Tryz.prog N.owned_find_c1 C.owned_find_c1 = true := by kernel_rfl
theorem chk.math_bits_Len64 : chkF Tryz.prog N.math_bits_Len64 C.math_bits_Len64 = true := by kernel_rfl
theorem chk.watch_all_Watch : chkF Tryz.prog N.watch_all_Watch C.watch_all_Watch = true := by kernel_rfl
theorem chk.watch_all_Session : chkF Tryz.prog N.watch_all_Session C.watch_all_Session = true := by kernel_rfl
theorem chk.slices_IndexFunc_Watch : chkF Tryz.prog N.slices_IndexFunc_Watch C.slices_IndexFunc_Watch = true := by kernel_rfl
theorem chk.istringslite_CutPrefix : chkF Tryz.prog N.istringslite_CutPrefix C.istringslite_CutPrefix = true := by kernel_rfl
theorem chk.istringslite_TrimSuffix : chkF Tryz.prog N.istringslite_TrimSuffix C.istringslite_TrimSuffix = true := by kernel_rfl
theorem chk.slices_IndexFunc_Op : chkF Tryz.prog N.slices_IndexFunc_Op C.slices_IndexFunc_Op = true := by kernel_rfl
theorem chk.nodes_within : chkF Tryz.prog N.nodes_within C.nodes_within = true := by kernel_rfl
theorem chk.nodes_named : chkF Tryz.prog N.nodes_named C.nodes_named = true := by kernel_rfl
theorem chk.strings_IndexByte : chkF Tryz.prog N.strings_IndexByte C.strings_IndexByte = true := by kernel_rfl
theorem chk.path_part : chkF Tryz.prog N.path_part C.path_part = true := by kernel_rfl
theorem chk.slices_insertionSortOrdered_string : chkF Tryz.prog N.slices_insertionSortOrdered_string C.slices_insertionSortOrdered_string = true := by kernel_rfl
theorem chk.cmp_Less_string : chkF Tryz.prog N.cmp_Less_string C.cmp_Less_string = true := by kernel_rfl
theorem chk.watch_Tell : chkF Tryz.prog N.watch_Tell C.watch_Tell = true := by kernel_rfl
theorem chk.part_work_node : chkF Tryz.prog N.part_work_node C.part_work_node = true := by kernel_rfl
theorem chk.part_work_where : chkF Tryz.prog N.part_work_where C.part_work_where = true := by kernel_rfl
theorem chk.strings_LastIndexByte : chkF Tryz.prog N.strings_LastIndexByte C.strings_LastIndexByte = true := by kernel_rfl
theorem chk.slices_ContainsFunc_Watch : chkF Tryz.prog N.slices_ContainsFunc_Watch C.slices_ContainsFunc_Watch = true := by kernel_rfl
theorem chk.slices_ContainsFunc_Session : chkF Tryz.prog N.slices_ContainsFunc_Session C.slices_ContainsFunc_Session = true := by kernel_rfl
theorem chk.istringslite_HasPrefix : chkF Tryz.prog N.istringslite_HasPrefix C.istringslite_HasPrefix = true := by kernel_rfl
theorem chk.istringslite_HasSuffix : chkF Tryz.prog N.istringslite_HasSuffix C.istringslite_HasSuffix = true := by kernel_rfl
theorem chk.istringslite_IndexByte : chkF Tryz.prog N.istringslite_IndexByte C.istringslite_IndexByte = true := by kernel_rfl
theorem chk.strings_ContainsFunc : chkF Tryz.prog N.strings_ContainsFunc C.strings_ContainsFunc = true := by kernel_rfl
theorem chk.path_part_c1 : chkF Tryz.prog N.path_part_c1 C.path_part_c1 = true := by kernel_rfl
theorem chk.strings_ContainsRune : chkF Tryz.prog N.strings_ContainsRune C.strings_ContainsRune = true := by kernel_rfl
theorem chk.cmp_isNaN_string : chkF Tryz.prog N.cmp_isNaN_string C.cmp_isNaN_string = true := by kernel_rfl
theorem chk.slices_DeleteFunc_Watch : chkF Tryz.prog N.slices_DeleteFunc_Watch C.slices_DeleteFunc_Watch = true := by kernel_rfl
theorem chk.slices_BinarySearchFunc_Node : chkF Tryz.prog N.slices_BinarySearchFunc_Node C.slices_BinarySearchFunc_Node = true := by kernel_rfl
theorem chk.part_work_where_c1 : chkF Tryz.prog N.part_work_where_c1 C.part_work_where_c1 = true := by kernel_rfl
theorem chk.ibytealg_LastIndexByteString : chkF Tryz.prog N.ibytealg_LastIndexByteString C.ibytealg_LastIndexByteString = true := by kernel_rfl
theorem chk.slices_IndexFunc_Session : chkF Tryz.prog N.slices_IndexFunc_Session C.slices_IndexFunc_Session = true := by kernel_rfl
theorem chk.strings_IndexFunc : chkF Tryz.prog N.strings_IndexFunc C.strings_IndexFunc = true := by kernel_rfl
theorem chk.strings_IndexRune : chkF Tryz.prog N.strings_IndexRune C.strings_IndexRune = true := by kernel_rfl
theorem chk.strings_indexFunc : chkF Tryz.prog N.strings_indexFunc C.strings_indexFunc = true := by kernel_rfl
theorem chk.slices_Clone_Node : PrimOk Tryz.prog N.slices_Clone_Node (cloneP 5) := clone_ok (bytes := 56) mixed (by kernel_rfl)
theorem chk.slices_Clone_Turn : PrimOk Tryz.prog N.slices_Clone_Turn (cloneP 2) := clone_ok (bytes := 24) mixed (by kernel_rfl)
theorem chk.slices_Clone_Range : PrimOk Tryz.prog N.slices_Clone_Range (cloneP 3) := clone_ok (bytes := 32) mixed (by kernel_rfl)
theorem chk.slices_Clone_Hold : PrimOk Tryz.prog N.slices_Clone_Hold (cloneP 3) := clone_ok (bytes := 32) mixed (by kernel_rfl)
theorem ovl.slices_Insert_Hold : OvlOk Tryz.prog 152 3 := ⟨fnAt 152, 50, 4, 81, by kernel_rfl, by kernel_rfl, by kernel_rfl, by kernel_rfl, by kernel_rfl, by kernel_rfl, by kernel_rfl⟩
theorem chk.slices_Insert_Hold : PrimOk Tryz.prog N.slices_Insert_Hold (insertP 3) := insert_ok (bytes := 32) (fo := 152) mixed (by kernel_rfl) ovl.slices_Insert_Hold
theorem ovl.slices_Insert_Range : OvlOk Tryz.prog 166 3 := ⟨fnAt 166, 48, 4, 54, by kernel_rfl, by kernel_rfl, by kernel_rfl, by kernel_rfl, by kernel_rfl, by kernel_rfl, by kernel_rfl⟩
theorem chk.slices_Insert_Range : PrimOk Tryz.prog N.slices_Insert_Range (insertP 3) := insert_ok (bytes := 32) (fo := 166) mixed (by kernel_rfl) ovl.slices_Insert_Range
theorem chk.slices_Clone_Session : PrimOk Tryz.prog N.slices_Clone_Session (cloneP 3) := clone_ok (bytes := 40) mixed (by kernel_rfl)
theorem chk.slices_Clone_Watch : PrimOk Tryz.prog N.slices_Clone_Watch (cloneP 4) := clone_ok (bytes := 40) mixed (by kernel_rfl)
theorem chk.ibytealg_abigen_runtime_cmpstring : PrimOk Tryz.prog N.ibytealg_abigen_runtime_cmpstring cmpstringP := cmpstring_ok (fn := fnAt 178) (by kernel_rfl) (by kernel_rfl) (by kernel_rfl) (by kernel_rfl) (by kernel_rfl)
theorem ovl.slices_Insert_Node : OvlOk Tryz.prog 277 5 := ⟨fnAt 277, 29, 4, 56, by kernel_rfl, by kernel_rfl, by kernel_rfl, by kernel_rfl, by kernel_rfl, by kernel_rfl, by kernel_rfl⟩
theorem chk.slices_Insert_Node : PrimOk Tryz.prog N.slices_Insert_Node (insertP 5) := insert_ok (bytes := 56) (fo := 277) mixed (by kernel_rfl) ovl.slices_Insert_Node
theorem chk.ibytealg_IndexByteString : PrimOk Tryz.prog N.ibytealg_IndexByteString indexByteP := indexByte_ok (fn := fnAt 286) (by kernel_rfl) (by kernel_rfl) (by kernel_rfl) (by kernel_rfl) (by kernel_rfl)
def EntryOk (p : Nat × Entry) : Prop := match p.2 with | .code a => chkF Tryz.prog p.1 a = true | .prim q => PrimOk Tryz.prog p.1 q
theorem tab_ok : ∀ p ∈ tab, EntryOk p := by
  intro p hp
  unfold tab at hp
  rcases List.mem_cons.1 hp with rfl | hp
  · exact chk.cantonlaw13_ShardDecides
  rcases List.mem_cons.1 hp with rfl | hp
  · exact chk.cantonlaw13_head
  rcases List.mem_cons.1 hp with rfl | hp
  · exact chk.cantonlaw13_root
  rcases List.mem_cons.1 hp with rfl | hp
  · exact chk.shard_Shard_Do
  rcases List.mem_cons.1 hp with rfl | hp
  · exact chk.shard_Shard_Store
  rcases List.mem_cons.1 hp with rfl | hp
  · exact chk.cantonlaw13_create
  rcases List.mem_cons.1 hp with rfl | hp
  · exact chk.shard_Shard_Ranges
  rcases List.mem_cons.1 hp with rfl | hp
  · exact chk.shard_Shard_Holds
  rcases List.mem_cons.1 hp with rfl | hp
  · exact chk.shard_New
  rcases List.mem_cons.1 hp with rfl | hp
  · exact chk.shard_Shard_run
  rcases List.mem_cons.1 hp with rfl | hp
  · exact chk.shard_Shard_prepare
  rcases List.mem_cons.1 hp with rfl | hp
  · exact chk.shard_Shard_finish
  rcases List.mem_cons.1 hp with rfl | hp
  · exact chk.shard_Shard_decide
  rcases List.mem_cons.1 hp with rfl | hp
  · exact chk.shard_Shard_freeze
  rcases List.mem_cons.1 hp with rfl | hp
  · exact chk.command_Right
  rcases List.mem_cons.1 hp with rfl | hp
  · exact chk.shard_failed
  rcases List.mem_cons.1 hp with rfl | hp
  · exact chk.shard_Shard_once
  rcases List.mem_cons.1 hp with rfl | hp
  · exact chk.multi_Of
  rcases List.mem_cons.1 hp with rfl | hp
  · exact chk.part_Right
  rcases List.mem_cons.1 hp with rfl | hp
  · exact chk.owned_Right
  rcases List.mem_cons.1 hp with rfl | hp
  · exact chk.locks_Dirs
  rcases List.mem_cons.1 hp with rfl | hp
  · exact chk.slices_ContainsFunc_string
  rcases List.mem_cons.1 hp with rfl | hp
  · exact chk.shard_Shard_run_c1
  rcases List.mem_cons.1 hp with rfl | hp
  · exact chk.locks_Held
  rcases List.mem_cons.1 hp with rfl | hp
  · exact chk.shard_Shard_where
  rcases List.mem_cons.1 hp with rfl | hp
  · exact chk.shard_Shard_all
  rcases List.mem_cons.1 hp with rfl | hp
  · exact chk.locks_Take
  rcases List.mem_cons.1 hp with rfl | hp
  · exact chk.multi_All
  rcases List.mem_cons.1 hp with rfl | hp
  · exact chk.locks_Free
  rcases List.mem_cons.1 hp with rfl | hp
  · exact chk.shard_Shard_find
  rcases List.mem_cons.1 hp with rfl | hp
  · exact chk.owned_Freeze
  rcases List.mem_cons.1 hp with rfl | hp
  · exact chk.owned_Of
  rcases List.mem_cons.1 hp with rfl | hp
  · exact chk.shard_Shard_held
  rcases List.mem_cons.1 hp with rfl | hp
  · exact chk.owned_Cut
  rcases List.mem_cons.1 hp with rfl | hp
  · exact chk.strings_Compare
  rcases List.mem_cons.1 hp with rfl | hp
  · exact chk.part_May
  rcases List.mem_cons.1 hp with rfl | hp
  · exact chk.path_In
  rcases List.mem_cons.1 hp with rfl | hp
  · exact chk.command_number
  rcases List.mem_cons.1 hp with rfl | hp
  · exact chk.command_empty
  rcases List.mem_cons.1 hp with rfl | hp
  · exact chk.multi_May
  rcases List.mem_cons.1 hp with rfl | hp
  · exact chk.part_Of
  rcases List.mem_cons.1 hp with rfl | hp
  · exact chk.slices_ContainsFunc_Node
  rcases List.mem_cons.1 hp with rfl | hp
  · exact chk.part_Right_c1
  rcases List.mem_cons.1 hp with rfl | hp
  · exact chk.part_fields
  rcases List.mem_cons.1 hp with rfl | hp
  · exact chk.slices_ContainsFunc_Turn
  rcases List.mem_cons.1 hp with rfl | hp
  · exact chk.path_Right
  rcases List.mem_cons.1 hp with rfl | hp
  · exact chk.part_within
  rcases List.mem_cons.1 hp with rfl | hp
  · exact chk.part_rising_Node
  rcases List.mem_cons.1 hp with rfl | hp
  · exact chk.part_Right_c3
  rcases List.mem_cons.1 hp with rfl | hp
  · exact chk.part_rising_Turn
  rcases List.mem_cons.1 hp with rfl | hp
  · exact chk.slices_Sort_string
  rcases List.mem_cons.1 hp with rfl | hp
  · exact chk.slices_Compact_string
  rcases List.mem_cons.1 hp with rfl | hp
  · exact chk.slices_IndexFunc_string
  rcases List.mem_cons.1 hp with rfl | hp
  · exact chk.slices_IndexFunc_Hold
  rcases List.mem_cons.1 hp with rfl | hp
  · exact chk.locks_Held_c1
  rcases List.mem_cons.1 hp with rfl | hp
  · exact chk.shard_Shard_where_c1
  rcases List.mem_cons.1 hp with rfl | hp
  · exact chk.shard_Shard_where_c1_c1
  rcases List.mem_cons.1 hp with rfl | hp
  · exact chk.owned_State
  rcases List.mem_cons.1 hp with rfl | hp
  · exact chk.shard_Shard_tell
  rcases List.mem_cons.1 hp with rfl | hp
  · exact chk.locks_Take_c1
  rcases List.mem_cons.1 hp with rfl | hp
  · exact chk.slices_ContainsFunc_Hold
  rcases List.mem_cons.1 hp with rfl | hp
  · exact chk.locks_Right
  rcases List.mem_cons.1 hp with rfl | hp
  · exact chk.locks_number
  rcases List.mem_cons.1 hp with rfl | hp
  · exact chk.slices_BinarySearchFunc_Hold
  rcases List.mem_cons.1 hp with rfl | hp
  · exact chk.locks_Take_c3
  rcases List.mem_cons.1 hp with rfl | hp
  · exact chk.part_Do
  rcases List.mem_cons.1 hp with rfl | hp
  · exact chk.slices_DeleteFunc_Hold
  rcases List.mem_cons.1 hp with rfl | hp
  · exact chk.locks_Free_c1
  rcases List.mem_cons.1 hp with rfl | hp
  · exact chk.slices_IndexFunc_Range
  rcases List.mem_cons.1 hp with rfl | hp
  · exact chk.shard_Shard_find_c1
  rcases List.mem_cons.1 hp with rfl | hp
  · exact chk.owned_put
  rcases List.mem_cons.1 hp with rfl | hp
  · exact chk.owned_Cut_c1
  rcases List.mem_cons.1 hp with rfl | hp
  · exact chk.owned_parted_Node
  rcases List.mem_cons.1 hp with rfl | hp
  · exact chk.owned_Cut_c2
  rcases List.mem_cons.1 hp with rfl | hp
  · exact chk.path_Parent
  rcases List.mem_cons.1 hp with rfl | hp
  · exact chk.owned_parted_Turn
  rcases List.mem_cons.1 hp with rfl | hp
  · exact chk.owned_find
  rcases List.mem_cons.1 hp with rfl | hp
  · exact chk.slices_BinarySearchFunc_Range
  rcases List.mem_cons.1 hp with rfl | hp
  · exact chk.math_bits_Len
  rcases List.mem_cons.1 hp with rfl | hp
  · exact chk.ibytealg_CompareString
  rcases List.mem_cons.1 hp with rfl | hp
  · exact chk.watch_Right
  rcases List.mem_cons.1 hp with rfl | hp
  · exact chk.part_up
  rcases List.mem_cons.1 hp with rfl | hp
  · exact chk.strings_CutPrefix
  rcases List.mem_cons.1 hp with rfl | hp
  · exact chk.strings_TrimSuffix
  rcases List.mem_cons.1 hp with rfl | hp
  · exact chk.slices_ContainsFunc_Op
  rcases List.mem_cons.1 hp with rfl | hp
  · exact chk.multi_May_c1
  rcases List.mem_cons.1 hp with rfl | hp
  · exact chk.nodes_May
  rcases List.mem_cons.1 hp with rfl | hp
  · exact chk.part_Of_c1
  rcases List.mem_cons.1 hp with rfl | hp
  · exact chk.part_Of_c2
  rcases List.mem_cons.1 hp with rfl | hp
  · exact chk.slices_IndexFunc_Node
  rcases List.mem_cons.1 hp with rfl | hp
  · exact chk.slices_IndexFunc_Turn
  rcases List.mem_cons.1 hp with rfl | hp
  · exact chk.path_Split
  rcases List.mem_cons.1 hp with rfl | hp
  · exact chk.slices_pdqsortOrdered_string
  rcases List.mem_cons.1 hp with rfl | hp
  · exact chk.shard_Shard_happen
  rcases List.mem_cons.1 hp with rfl | hp
  · exact chk.part_work_guard
  rcases List.mem_cons.1 hp with rfl | hp
  · exact chk.part_work_put
  rcases List.mem_cons.1 hp with rfl | hp
  · exact chk.path_cut
  rcases List.mem_cons.1 hp with rfl | hp
  · exact chk.owned_find_c1
  rcases List.mem_cons.1 hp with rfl | hp
  · exact chk.math_bits_Len64
  rcases List.mem_cons.1 hp with rfl | hp
  · exact chk.watch_all_Watch
  rcases List.mem_cons.1 hp with rfl | hp
  · exact chk.watch_all_Session
  rcases List.mem_cons.1 hp with rfl | hp
  · exact chk.slices_IndexFunc_Watch
  rcases List.mem_cons.1 hp with rfl | hp
  · exact chk.istringslite_CutPrefix
  rcases List.mem_cons.1 hp with rfl | hp
  · exact chk.istringslite_TrimSuffix
  rcases List.mem_cons.1 hp with rfl | hp
  · exact chk.slices_IndexFunc_Op
  rcases List.mem_cons.1 hp with rfl | hp
  · exact chk.nodes_within
  rcases List.mem_cons.1 hp with rfl | hp
  · exact chk.nodes_named
  rcases List.mem_cons.1 hp with rfl | hp
  · exact chk.strings_IndexByte
  rcases List.mem_cons.1 hp with rfl | hp
  · exact chk.path_part
  rcases List.mem_cons.1 hp with rfl | hp
  · exact chk.slices_insertionSortOrdered_string
  rcases List.mem_cons.1 hp with rfl | hp
  · exact chk.cmp_Less_string
  rcases List.mem_cons.1 hp with rfl | hp
  · exact chk.watch_Tell
  rcases List.mem_cons.1 hp with rfl | hp
  · exact chk.part_work_node
  rcases List.mem_cons.1 hp with rfl | hp
  · exact chk.part_work_where
  rcases List.mem_cons.1 hp with rfl | hp
  · exact chk.strings_LastIndexByte
  rcases List.mem_cons.1 hp with rfl | hp
  · exact chk.slices_ContainsFunc_Watch
  rcases List.mem_cons.1 hp with rfl | hp
  · exact chk.slices_ContainsFunc_Session
  rcases List.mem_cons.1 hp with rfl | hp
  · exact chk.istringslite_HasPrefix
  rcases List.mem_cons.1 hp with rfl | hp
  · exact chk.istringslite_HasSuffix
  rcases List.mem_cons.1 hp with rfl | hp
  · exact chk.istringslite_IndexByte
  rcases List.mem_cons.1 hp with rfl | hp
  · exact chk.strings_ContainsFunc
  rcases List.mem_cons.1 hp with rfl | hp
  · exact chk.path_part_c1
  rcases List.mem_cons.1 hp with rfl | hp
  · exact chk.strings_ContainsRune
  rcases List.mem_cons.1 hp with rfl | hp
  · exact chk.cmp_isNaN_string
  rcases List.mem_cons.1 hp with rfl | hp
  · exact chk.slices_DeleteFunc_Watch
  rcases List.mem_cons.1 hp with rfl | hp
  · exact chk.slices_BinarySearchFunc_Node
  rcases List.mem_cons.1 hp with rfl | hp
  · exact chk.part_work_where_c1
  rcases List.mem_cons.1 hp with rfl | hp
  · exact chk.ibytealg_LastIndexByteString
  rcases List.mem_cons.1 hp with rfl | hp
  · exact chk.slices_IndexFunc_Session
  rcases List.mem_cons.1 hp with rfl | hp
  · exact chk.strings_IndexFunc
  rcases List.mem_cons.1 hp with rfl | hp
  · exact chk.strings_IndexRune
  rcases List.mem_cons.1 hp with rfl | hp
  · exact chk.strings_indexFunc
  rcases List.mem_cons.1 hp with rfl | hp
  · exact chk.slices_Clone_Node
  rcases List.mem_cons.1 hp with rfl | hp
  · exact chk.slices_Clone_Turn
  rcases List.mem_cons.1 hp with rfl | hp
  · exact chk.slices_Clone_Range
  rcases List.mem_cons.1 hp with rfl | hp
  · exact chk.slices_Clone_Hold
  rcases List.mem_cons.1 hp with rfl | hp
  · exact chk.slices_Insert_Hold
  rcases List.mem_cons.1 hp with rfl | hp
  · exact chk.slices_Insert_Range
  rcases List.mem_cons.1 hp with rfl | hp
  · exact chk.slices_Clone_Session
  rcases List.mem_cons.1 hp with rfl | hp
  · exact chk.slices_Clone_Watch
  rcases List.mem_cons.1 hp with rfl | hp
  · exact chk.ibytealg_abigen_runtime_cmpstring
  rcases List.mem_cons.1 hp with rfl | hp
  · exact chk.slices_Insert_Node
  rcases List.mem_cons.1 hp with rfl | hp
  · exact chk.ibytealg_IndexByteString
  cases hp
theorem table_ok : TableOk Tryz.prog T := fun f e h => tab_ok (f, e) (lk_mem h)
theorem T_sound : Sound Tryz.prog (XC T) := XC_sound mixed table_ok
end Go.Ab
