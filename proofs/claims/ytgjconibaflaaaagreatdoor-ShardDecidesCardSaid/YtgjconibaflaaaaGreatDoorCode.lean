/- The table of the functions. -/
import Derived.Test.YtgjconibaflaaaaGreatDoorCode0
import Derived.KernelRfl
namespace Go.Ab
open Go
def tab : List (Nat × Entry) := [(N.cantonlaw13_ShardDecides, .code C.cantonlaw13_ShardDecides),
  (N.cantonlaw13_head, .code C.cantonlaw13_head),
  (N.cantonlaw13_root, .code C.cantonlaw13_root),
  (N.shard_Shard_Do, .code C.shard_Shard_Do),
  (N.shard_Shard_Store, .code C.shard_Shard_Store),
  (N.cantonlaw13_create, .code C.cantonlaw13_create),
  (N.shard_Shard_Ranges, .code C.shard_Shard_Ranges),
  (N.shard_Shard_Holds, .code C.shard_Shard_Holds),
  (N.shard_New, .code C.shard_New),
  (N.shard_Shard_run, .code C.shard_Shard_run),
  (N.shard_Shard_prepare, .code C.shard_Shard_prepare),
  (N.shard_Shard_finish, .code C.shard_Shard_finish),
  (N.shard_Shard_decide, .code C.shard_Shard_decide),
  (N.shard_Shard_freeze, .code C.shard_Shard_freeze),
  (N.command_Right, .code C.command_Right),
  (N.shard_failed, .code C.shard_failed),
  (N.shard_Shard_once, .code C.shard_Shard_once),
  (N.multi_Of, .code C.multi_Of),
  (N.part_Right, .code C.part_Right),
  (N.owned_Right, .code C.owned_Right),
  (N.locks_Dirs, .code C.locks_Dirs),
  (N.slices_ContainsFunc_string, .code C.slices_ContainsFunc_string),
  (N.shard_Shard_run_c1, .code C.shard_Shard_run_c1),
  (N.locks_Held, .code C.locks_Held),
  (N.shard_Shard_where, .code C.shard_Shard_where),
  (N.shard_Shard_all, .code C.shard_Shard_all),
  (N.locks_Take, .code C.locks_Take),
  (N.multi_All, .code C.multi_All),
  (N.locks_Free, .code C.locks_Free),
  (N.shard_Shard_find, .code C.shard_Shard_find),
  (N.owned_Freeze, .code C.owned_Freeze),
  (N.owned_Of, .code C.owned_Of),
  (N.shard_Shard_held, .code C.shard_Shard_held),
  (N.owned_Cut, .code C.owned_Cut),
  (N.strings_Compare, .code C.strings_Compare),
  (N.part_May, .code C.part_May),
  (N.path_In, .code C.path_In),
  (N.command_number, .code C.command_number),
  (N.command_empty, .code C.command_empty),
  (N.multi_May, .code C.multi_May),
  (N.part_Of, .code C.part_Of),
  (N.slices_ContainsFunc_Node, .code C.slices_ContainsFunc_Node),
  (N.part_Right_c1, .code C.part_Right_c1),
  (N.part_fields, .code C.part_fields),
  (N.slices_ContainsFunc_Turn, .code C.slices_ContainsFunc_Turn),
  (N.path_Right, .code C.path_Right),
  (N.part_within, .code C.part_within),
  (N.part_rising_Node, .code C.part_rising_Node),
  (N.part_Right_c3, .code C.part_Right_c3),
  (N.part_rising_Turn, .code C.part_rising_Turn),
  (N.slices_Sort_string, .code C.slices_Sort_string),
  (N.slices_Compact_string, .code C.slices_Compact_string),
  (N.slices_IndexFunc_string, .code C.slices_IndexFunc_string),
  (N.slices_IndexFunc_Hold, .code C.slices_IndexFunc_Hold),
  (N.locks_Held_c1, .code C.locks_Held_c1),
  (N.shard_Shard_where_c1, .code C.shard_Shard_where_c1),
  (N.shard_Shard_where_c1_c1, .code C.shard_Shard_where_c1_c1),
  (N.owned_State, .code C.owned_State),
  (N.shard_Shard_tell, .code C.shard_Shard_tell),
  (N.locks_Take_c1, .code C.locks_Take_c1),
  (N.slices_ContainsFunc_Hold, .code C.slices_ContainsFunc_Hold),
  (N.locks_Right, .code C.locks_Right),
  (N.locks_number, .code C.locks_number),
  (N.slices_BinarySearchFunc_Hold, .code C.slices_BinarySearchFunc_Hold),
  (N.locks_Take_c3, .code C.locks_Take_c3),
  (N.part_Do, .code C.part_Do),
  (N.slices_DeleteFunc_Hold, .code C.slices_DeleteFunc_Hold),
  (N.locks_Free_c1, .code C.locks_Free_c1),
  (N.slices_IndexFunc_Range, .code C.slices_IndexFunc_Range),
  (N.shard_Shard_find_c1, .code C.shard_Shard_find_c1),
  (N.owned_put, .code C.owned_put),
  (N.owned_Cut_c1, .code C.owned_Cut_c1),
  (N.owned_parted_Node, .code C.owned_parted_Node),
  (N.owned_Cut_c2, .code C.owned_Cut_c2),
  (N.path_Parent, .code C.path_Parent),
  (N.owned_parted_Turn, .code C.owned_parted_Turn),
  (N.owned_find, .code C.owned_find),
  (N.slices_BinarySearchFunc_Range, .code C.slices_BinarySearchFunc_Range),
  (N.math_bits_Len, .code C.math_bits_Len),
  (N.ibytealg_CompareString, .code C.ibytealg_CompareString),
  (N.watch_Right, .code C.watch_Right),
  (N.part_up, .code C.part_up),
  (N.strings_CutPrefix, .code C.strings_CutPrefix),
  (N.strings_TrimSuffix, .code C.strings_TrimSuffix),
  (N.slices_ContainsFunc_Op, .code C.slices_ContainsFunc_Op),
  (N.multi_May_c1, .code C.multi_May_c1),
  (N.nodes_May, .code C.nodes_May),
  (N.part_Of_c1, .code C.part_Of_c1),
  (N.part_Of_c2, .code C.part_Of_c2),
  (N.slices_IndexFunc_Node, .code C.slices_IndexFunc_Node),
  (N.slices_IndexFunc_Turn, .code C.slices_IndexFunc_Turn),
  (N.path_Split, .code C.path_Split),
  (N.slices_pdqsortOrdered_string, .code C.slices_pdqsortOrdered_string),
  (N.shard_Shard_happen, .code C.shard_Shard_happen),
  (N.part_work_guard, .code C.part_work_guard),
  (N.part_work_put, .code C.part_work_put),
  (N.path_cut, .code C.path_cut),
  (N.owned_find_c1, .code C.owned_find_c1),
  (N.math_bits_Len64, .code C.math_bits_Len64),
  (N.watch_all_Watch, .code C.watch_all_Watch),
  (N.watch_all_Session, .code C.watch_all_Session),
  (N.slices_IndexFunc_Watch, .code C.slices_IndexFunc_Watch),
  (N.istringslite_CutPrefix, .code C.istringslite_CutPrefix),
  (N.istringslite_TrimSuffix, .code C.istringslite_TrimSuffix),
  (N.slices_IndexFunc_Op, .code C.slices_IndexFunc_Op),
  (N.nodes_within, .code C.nodes_within),
  (N.nodes_named, .code C.nodes_named),
  (N.strings_IndexByte, .code C.strings_IndexByte),
  (N.path_part, .code C.path_part),
  (N.slices_insertionSortOrdered_string, .code C.slices_insertionSortOrdered_string),
  (N.cmp_Less_string, .code C.cmp_Less_string),
  (N.watch_Tell, .code C.watch_Tell),
  (N.part_work_node, .code C.part_work_node),
  (N.part_work_where, .code C.part_work_where),
  (N.strings_LastIndexByte, .code C.strings_LastIndexByte),
  (N.slices_ContainsFunc_Watch, .code C.slices_ContainsFunc_Watch),
  (N.slices_ContainsFunc_Session, .code C.slices_ContainsFunc_Session),
  (N.istringslite_HasPrefix, .code C.istringslite_HasPrefix),
  (N.istringslite_HasSuffix, .code C.istringslite_HasSuffix),
  (N.istringslite_IndexByte, .code C.istringslite_IndexByte),
  (N.strings_ContainsFunc, .code C.strings_ContainsFunc),
  (N.path_part_c1, .code C.path_part_c1),
  (N.strings_ContainsRune, .code C.strings_ContainsRune),
  (N.cmp_isNaN_string, .code C.cmp_isNaN_string),
  (N.slices_DeleteFunc_Watch, .code C.slices_DeleteFunc_Watch),
  (N.slices_BinarySearchFunc_Node, .code C.slices_BinarySearchFunc_Node),
  (N.part_work_where_c1, .code C.part_work_where_c1),
  (N.ibytealg_LastIndexByteString, .code C.ibytealg_LastIndexByteString),
  (N.slices_IndexFunc_Session, .code C.slices_IndexFunc_Session),
  (N.strings_IndexFunc, .code C.strings_IndexFunc),
  (N.strings_IndexRune, .code C.strings_IndexRune),
  (N.strings_indexFunc, .code C.strings_indexFunc),
  (N.slices_Clone_Node, .prim (cloneP 5)),
  (N.slices_Clone_Turn, .prim (cloneP 2)),
  (N.slices_Clone_Range, .prim (cloneP 3)),
  (N.slices_Clone_Hold, .prim (cloneP 3)),
  (N.slices_Insert_Hold, .prim (insertP 3)),
  (N.slices_Insert_Range, .prim (insertP 3)),
  (N.slices_Clone_Session, .prim (cloneP 3)),
  (N.slices_Clone_Watch, .prim (cloneP 4)),
  (N.ibytealg_abigen_runtime_cmpstring, .prim cmpstringP),
  (N.slices_Insert_Node, .prim (insertP 5)),
  (N.ibytealg_IndexByteString, .prim indexByteP)]
def T : FuncId → Option Entry := lk tab
theorem T.cantonlaw13_ShardDecides : T N.cantonlaw13_ShardDecides = some (.code C.cantonlaw13_ShardDecides) := by kernel_rfl
theorem T.cantonlaw13_head : T N.cantonlaw13_head = some (.code C.cantonlaw13_head) := by kernel_rfl
theorem T.cantonlaw13_root : T N.cantonlaw13_root = some (.code C.cantonlaw13_root) := by kernel_rfl
theorem T.shard_Shard_Do : T N.shard_Shard_Do = some (.code C.shard_Shard_Do) := by kernel_rfl
theorem T.shard_Shard_Store : T N.shard_Shard_Store = some (.code C.shard_Shard_Store) := by kernel_rfl
theorem T.cantonlaw13_create : T N.cantonlaw13_create = some (.code C.cantonlaw13_create) := by kernel_rfl
theorem T.shard_Shard_Ranges : T N.shard_Shard_Ranges = some (.code C.shard_Shard_Ranges) := by kernel_rfl
theorem T.shard_Shard_Holds : T N.shard_Shard_Holds = some (.code C.shard_Shard_Holds) := by kernel_rfl
theorem T.shard_New : T N.shard_New = some (.code C.shard_New) := by kernel_rfl
theorem T.shard_Shard_run : T N.shard_Shard_run = some (.code C.shard_Shard_run) := by kernel_rfl
theorem T.shard_Shard_prepare : T N.shard_Shard_prepare = some (.code C.shard_Shard_prepare) := by kernel_rfl
theorem T.shard_Shard_finish : T N.shard_Shard_finish = some (.code C.shard_Shard_finish) := by kernel_rfl
theorem T.shard_Shard_decide : T N.shard_Shard_decide = some (.code C.shard_Shard_decide) := by kernel_rfl
theorem T.shard_Shard_freeze : T N.shard_Shard_freeze = some (.code C.shard_Shard_freeze) := by kernel_rfl
theorem T.command_Right : T N.command_Right = some (.code C.command_Right) := by kernel_rfl
theorem T.shard_failed : T N.shard_failed = some (.code C.shard_failed) := by kernel_rfl
theorem T.shard_Shard_once : T N.shard_Shard_once = some (.code C.shard_Shard_once) := by kernel_rfl
theorem T.multi_Of : T N.multi_Of = some (.code C.multi_Of) := by kernel_rfl
theorem T.part_Right : T N.part_Right = some (.code C.part_Right) := by kernel_rfl
theorem T.owned_Right : T N.owned_Right = some (.code C.owned_Right) := by kernel_rfl
theorem T.locks_Dirs : T N.locks_Dirs = some (.code C.locks_Dirs) := by kernel_rfl
theorem T.slices_ContainsFunc_string : T N.slices_ContainsFunc_string = some (.code C.slices_ContainsFunc_string) := by kernel_rfl
theorem T.shard_Shard_run_c1 : T N.shard_Shard_run_c1 = some (.code C.shard_Shard_run_c1) := by kernel_rfl
theorem T.locks_Held : T N.locks_Held = some (.code C.locks_Held) := by kernel_rfl
theorem T.shard_Shard_where : T N.shard_Shard_where = some (.code C.shard_Shard_where) := by kernel_rfl
theorem T.shard_Shard_all : T N.shard_Shard_all = some (.code C.shard_Shard_all) := by kernel_rfl
theorem T.locks_Take : T N.locks_Take = some (.code C.locks_Take) := by kernel_rfl
theorem T.multi_All : T N.multi_All = some (.code C.multi_All) := by kernel_rfl
theorem T.locks_Free : T N.locks_Free = some (.code C.locks_Free) := by kernel_rfl
theorem T.shard_Shard_find : T N.shard_Shard_find = some (.code C.shard_Shard_find) := by kernel_rfl
theorem T.owned_Freeze : T N.owned_Freeze = some (.code C.owned_Freeze) := by kernel_rfl
theorem T.owned_Of : T N.owned_Of = some (.code C.owned_Of) := by kernel_rfl
theorem T.shard_Shard_held : T N.shard_Shard_held = some (.code C.shard_Shard_held) := by kernel_rfl
theorem T.owned_Cut : T N.owned_Cut = some (.code C.owned_Cut) := by kernel_rfl
theorem T.strings_Compare : T N.strings_Compare = some (.code C.strings_Compare) := by kernel_rfl
theorem T.part_May : T N.part_May = some (.code C.part_May) := by kernel_rfl
theorem T.path_In : T N.path_In = some (.code C.path_In) := by kernel_rfl
theorem T.command_number : T N.command_number = some (.code C.command_number) := by kernel_rfl
theorem T.command_empty : T N.command_empty = some (.code C.command_empty) := by kernel_rfl
theorem T.multi_May : T N.multi_May = some (.code C.multi_May) := by kernel_rfl
theorem T.part_Of : T N.part_Of = some (.code C.part_Of) := by kernel_rfl
theorem T.slices_ContainsFunc_Node : T N.slices_ContainsFunc_Node = some (.code C.slices_ContainsFunc_Node) := by kernel_rfl
theorem T.part_Right_c1 : T N.part_Right_c1 = some (.code C.part_Right_c1) := by kernel_rfl
theorem T.part_fields : T N.part_fields = some (.code C.part_fields) := by kernel_rfl
theorem T.slices_ContainsFunc_Turn : T N.slices_ContainsFunc_Turn = some (.code C.slices_ContainsFunc_Turn) := by kernel_rfl
theorem T.path_Right : T N.path_Right = some (.code C.path_Right) := by kernel_rfl
theorem T.part_within : T N.part_within = some (.code C.part_within) := by kernel_rfl
theorem T.part_rising_Node : T N.part_rising_Node = some (.code C.part_rising_Node) := by kernel_rfl
theorem T.part_Right_c3 : T N.part_Right_c3 = some (.code C.part_Right_c3) := by kernel_rfl
theorem T.part_rising_Turn : T N.part_rising_Turn = some (.code C.part_rising_Turn) := by kernel_rfl
theorem T.slices_Sort_string : T N.slices_Sort_string = some (.code C.slices_Sort_string) := by kernel_rfl
theorem T.slices_Compact_string : T N.slices_Compact_string = some (.code C.slices_Compact_string) := by kernel_rfl
theorem T.slices_IndexFunc_string : T N.slices_IndexFunc_string = some (.code C.slices_IndexFunc_string) := by kernel_rfl
theorem T.slices_IndexFunc_Hold : T N.slices_IndexFunc_Hold = some (.code C.slices_IndexFunc_Hold) := by kernel_rfl
theorem T.locks_Held_c1 : T N.locks_Held_c1 = some (.code C.locks_Held_c1) := by kernel_rfl
theorem T.shard_Shard_where_c1 : T N.shard_Shard_where_c1 = some (.code C.shard_Shard_where_c1) := by kernel_rfl
theorem T.shard_Shard_where_c1_c1 : T N.shard_Shard_where_c1_c1 = some (.code C.shard_Shard_where_c1_c1) := by kernel_rfl
theorem T.owned_State : T N.owned_State = some (.code C.owned_State) := by kernel_rfl
theorem T.shard_Shard_tell : T N.shard_Shard_tell = some (.code C.shard_Shard_tell) := by kernel_rfl
theorem T.locks_Take_c1 : T N.locks_Take_c1 = some (.code C.locks_Take_c1) := by kernel_rfl
theorem T.slices_ContainsFunc_Hold : T N.slices_ContainsFunc_Hold = some (.code C.slices_ContainsFunc_Hold) := by kernel_rfl
theorem T.locks_Right : T N.locks_Right = some (.code C.locks_Right) := by kernel_rfl
theorem T.locks_number : T N.locks_number = some (.code C.locks_number) := by kernel_rfl
theorem T.slices_BinarySearchFunc_Hold : T N.slices_BinarySearchFunc_Hold = some (.code C.slices_BinarySearchFunc_Hold) := by kernel_rfl
theorem T.locks_Take_c3 : T N.locks_Take_c3 = some (.code C.locks_Take_c3) := by kernel_rfl
theorem T.part_Do : T N.part_Do = some (.code C.part_Do) := by kernel_rfl
theorem T.slices_DeleteFunc_Hold : T N.slices_DeleteFunc_Hold = some (.code C.slices_DeleteFunc_Hold) := by kernel_rfl
theorem T.locks_Free_c1 : T N.locks_Free_c1 = some (.code C.locks_Free_c1) := by kernel_rfl
theorem T.slices_IndexFunc_Range : T N.slices_IndexFunc_Range = some (.code C.slices_IndexFunc_Range) := by kernel_rfl
theorem T.shard_Shard_find_c1 : T N.shard_Shard_find_c1 = some (.code C.shard_Shard_find_c1) := by kernel_rfl
theorem T.owned_put : T N.owned_put = some (.code C.owned_put) := by kernel_rfl
theorem T.owned_Cut_c1 : T N.owned_Cut_c1 = some (.code C.owned_Cut_c1) := by kernel_rfl
theorem T.owned_parted_Node : T N.owned_parted_Node = some (.code C.owned_parted_Node) := by kernel_rfl
theorem T.owned_Cut_c2 : T N.owned_Cut_c2 = some (.code C.owned_Cut_c2) := by kernel_rfl
theorem T.path_Parent : T N.path_Parent = some (.code C.path_Parent) := by kernel_rfl
theorem T.owned_parted_Turn : T N.owned_parted_Turn = some (.code C.owned_parted_Turn) := by kernel_rfl
theorem T.owned_find : T N.owned_find = some (.code C.owned_find) := by kernel_rfl
theorem T.slices_BinarySearchFunc_Range : T N.slices_BinarySearchFunc_Range = some (.code C.slices_BinarySearchFunc_Range) := by kernel_rfl
theorem T.math_bits_Len : T N.math_bits_Len = some (.code C.math_bits_Len) := by kernel_rfl
theorem T.ibytealg_CompareString : T N.ibytealg_CompareString = some (.code C.ibytealg_CompareString) := by kernel_rfl
theorem T.watch_Right : T N.watch_Right = some (.code C.watch_Right) := by kernel_rfl
theorem T.part_up : T N.part_up = some (.code C.part_up) := by kernel_rfl
theorem T.strings_CutPrefix : T N.strings_CutPrefix = some (.code C.strings_CutPrefix) := by kernel_rfl
theorem T.strings_TrimSuffix : T N.strings_TrimSuffix = some (.code C.strings_TrimSuffix) := by kernel_rfl
theorem T.slices_ContainsFunc_Op : T N.slices_ContainsFunc_Op = some (.code C.slices_ContainsFunc_Op) := by kernel_rfl
theorem T.multi_May_c1 : T N.multi_May_c1 = some (.code C.multi_May_c1) := by kernel_rfl
theorem T.nodes_May : T N.nodes_May = some (.code C.nodes_May) := by kernel_rfl
theorem T.part_Of_c1 : T N.part_Of_c1 = some (.code C.part_Of_c1) := by kernel_rfl
theorem T.part_Of_c2 : T N.part_Of_c2 = some (.code C.part_Of_c2) := by kernel_rfl
theorem T.slices_IndexFunc_Node : T N.slices_IndexFunc_Node = some (.code C.slices_IndexFunc_Node) := by kernel_rfl
theorem T.slices_IndexFunc_Turn : T N.slices_IndexFunc_Turn = some (.code C.slices_IndexFunc_Turn) := by kernel_rfl
theorem T.path_Split : T N.path_Split = some (.code C.path_Split) := by kernel_rfl
theorem T.slices_pdqsortOrdered_string : T N.slices_pdqsortOrdered_string = some (.code C.slices_pdqsortOrdered_string) := by kernel_rfl
theorem T.shard_Shard_happen : T N.shard_Shard_happen = some (.code C.shard_Shard_happen) := by kernel_rfl
theorem T.part_work_guard : T N.part_work_guard = some (.code C.part_work_guard) := by kernel_rfl
theorem T.part_work_put : T N.part_work_put = some (.code C.part_work_put) := by kernel_rfl
theorem T.path_cut : T N.path_cut = some (.code C.path_cut) := by kernel_rfl
theorem T.owned_find_c1 : T N.owned_find_c1 = some (.code C.owned_find_c1) := by kernel_rfl
theorem T.math_bits_Len64 : T N.math_bits_Len64 = some (.code C.math_bits_Len64) := by kernel_rfl
theorem T.watch_all_Watch : T N.watch_all_Watch = some (.code C.watch_all_Watch) := by kernel_rfl
theorem T.watch_all_Session : T N.watch_all_Session = some (.code C.watch_all_Session) := by kernel_rfl
theorem T.slices_IndexFunc_Watch : T N.slices_IndexFunc_Watch = some (.code C.slices_IndexFunc_Watch) := by kernel_rfl
theorem T.istringslite_CutPrefix : T N.istringslite_CutPrefix = some (.code C.istringslite_CutPrefix) := by kernel_rfl
theorem T.istringslite_TrimSuffix : T N.istringslite_TrimSuffix = some (.code C.istringslite_TrimSuffix) := by kernel_rfl
theorem T.slices_IndexFunc_Op : T N.slices_IndexFunc_Op = some (.code C.slices_IndexFunc_Op) := by kernel_rfl
theorem T.nodes_within : T N.nodes_within = some (.code C.nodes_within) := by kernel_rfl
theorem T.nodes_named : T N.nodes_named = some (.code C.nodes_named) := by kernel_rfl
theorem T.strings_IndexByte : T N.strings_IndexByte = some (.code C.strings_IndexByte) := by kernel_rfl
theorem T.path_part : T N.path_part = some (.code C.path_part) := by kernel_rfl
theorem T.slices_insertionSortOrdered_string : T N.slices_insertionSortOrdered_string = some (.code C.slices_insertionSortOrdered_string) := by kernel_rfl
theorem T.cmp_Less_string : T N.cmp_Less_string = some (.code C.cmp_Less_string) := by kernel_rfl
theorem T.watch_Tell : T N.watch_Tell = some (.code C.watch_Tell) := by kernel_rfl
theorem T.part_work_node : T N.part_work_node = some (.code C.part_work_node) := by kernel_rfl
theorem T.part_work_where : T N.part_work_where = some (.code C.part_work_where) := by kernel_rfl
theorem T.strings_LastIndexByte : T N.strings_LastIndexByte = some (.code C.strings_LastIndexByte) := by kernel_rfl
theorem T.slices_ContainsFunc_Watch : T N.slices_ContainsFunc_Watch = some (.code C.slices_ContainsFunc_Watch) := by kernel_rfl
theorem T.slices_ContainsFunc_Session : T N.slices_ContainsFunc_Session = some (.code C.slices_ContainsFunc_Session) := by kernel_rfl
theorem T.istringslite_HasPrefix : T N.istringslite_HasPrefix = some (.code C.istringslite_HasPrefix) := by kernel_rfl
theorem T.istringslite_HasSuffix : T N.istringslite_HasSuffix = some (.code C.istringslite_HasSuffix) := by kernel_rfl
theorem T.istringslite_IndexByte : T N.istringslite_IndexByte = some (.code C.istringslite_IndexByte) := by kernel_rfl
theorem T.strings_ContainsFunc : T N.strings_ContainsFunc = some (.code C.strings_ContainsFunc) := by kernel_rfl
theorem T.path_part_c1 : T N.path_part_c1 = some (.code C.path_part_c1) := by kernel_rfl
theorem T.strings_ContainsRune : T N.strings_ContainsRune = some (.code C.strings_ContainsRune) := by kernel_rfl
theorem T.cmp_isNaN_string : T N.cmp_isNaN_string = some (.code C.cmp_isNaN_string) := by kernel_rfl
theorem T.slices_DeleteFunc_Watch : T N.slices_DeleteFunc_Watch = some (.code C.slices_DeleteFunc_Watch) := by kernel_rfl
theorem T.slices_BinarySearchFunc_Node : T N.slices_BinarySearchFunc_Node = some (.code C.slices_BinarySearchFunc_Node) := by kernel_rfl
theorem T.part_work_where_c1 : T N.part_work_where_c1 = some (.code C.part_work_where_c1) := by kernel_rfl
theorem T.ibytealg_LastIndexByteString : T N.ibytealg_LastIndexByteString = some (.code C.ibytealg_LastIndexByteString) := by kernel_rfl
theorem T.slices_IndexFunc_Session : T N.slices_IndexFunc_Session = some (.code C.slices_IndexFunc_Session) := by kernel_rfl
theorem T.strings_IndexFunc : T N.strings_IndexFunc = some (.code C.strings_IndexFunc) := by kernel_rfl
theorem T.strings_IndexRune : T N.strings_IndexRune = some (.code C.strings_IndexRune) := by kernel_rfl
theorem T.strings_indexFunc : T N.strings_indexFunc = some (.code C.strings_indexFunc) := by kernel_rfl
theorem T.slices_Clone_Node : T N.slices_Clone_Node = some (.prim (cloneP 5)) := by kernel_rfl
theorem T.slices_Clone_Turn : T N.slices_Clone_Turn = some (.prim (cloneP 2)) := by kernel_rfl
theorem T.slices_Clone_Range : T N.slices_Clone_Range = some (.prim (cloneP 3)) := by kernel_rfl
theorem T.slices_Clone_Hold : T N.slices_Clone_Hold = some (.prim (cloneP 3)) := by kernel_rfl
theorem T.slices_Insert_Hold : T N.slices_Insert_Hold = some (.prim (insertP 3)) := by kernel_rfl
theorem T.slices_Insert_Range : T N.slices_Insert_Range = some (.prim (insertP 3)) := by kernel_rfl
theorem T.slices_Clone_Session : T N.slices_Clone_Session = some (.prim (cloneP 3)) := by kernel_rfl
theorem T.slices_Clone_Watch : T N.slices_Clone_Watch = some (.prim (cloneP 4)) := by kernel_rfl
theorem T.ibytealg_abigen_runtime_cmpstring : T N.ibytealg_abigen_runtime_cmpstring = some (.prim cmpstringP) := by kernel_rfl
theorem T.slices_Insert_Node : T N.slices_Insert_Node = some (.prim (insertP 5)) := by kernel_rfl
theorem T.ibytealg_IndexByteString : T N.ibytealg_IndexByteString = some (.prim indexByteP) := by kernel_rfl
end Go.Ab
