/- The codes of the functions, as the abstract machine runs them. -/
import Derived.Test.YtgjconibaflaaaaGreatDoorAbPrimDefs
namespace Go.Ab
open Go
abbrev N.cantonlaw13_ShardDecides : Nat := 3
abbrev N.cantonlaw13_head : Nat := 4
abbrev N.cantonlaw13_root : Nat := 5
abbrev N.shard_Shard_Do : Nat := 6
abbrev N.shard_Shard_Store : Nat := 7
abbrev N.cantonlaw13_create : Nat := 8
abbrev N.shard_Shard_Ranges : Nat := 9
abbrev N.shard_Shard_Holds : Nat := 10
abbrev N.shard_New : Nat := 11
abbrev N.shard_Shard_run : Nat := 12
abbrev N.shard_Shard_prepare : Nat := 13
abbrev N.shard_Shard_finish : Nat := 14
abbrev N.shard_Shard_decide : Nat := 15
abbrev N.shard_Shard_freeze : Nat := 16
abbrev N.shard_Shard_install : Nat := 17
abbrev N.shard_Shard_drop : Nat := 18
abbrev N.shard_Shard_watch : Nat := 19
abbrev N.shard_Shard_unwatch : Nat := 20
abbrev N.shard_Shard_take : Nat := 21
abbrev N.command_Right : Nat := 22
abbrev N.shard_failed : Nat := 23
abbrev N.shard_Shard_once : Nat := 24
abbrev N.slices_Clone_Node : Nat := 25
abbrev N.slices_Clone_Turn : Nat := 26
abbrev N.multi_Of : Nat := 27
abbrev N.slices_Clone_Range : Nat := 28
abbrev N.slices_Clone_Hold : Nat := 29
abbrev N.part_Right : Nat := 30
abbrev N.owned_Right : Nat := 31
abbrev N.locks_Dirs : Nat := 32
abbrev N.slices_ContainsFunc_string : Nat := 33
abbrev N.shard_Shard_run_c1 : Nat := 34
abbrev N.locks_Held : Nat := 35
abbrev N.shard_Shard_where : Nat := 36
abbrev N.shard_Shard_all : Nat := 37
abbrev N.locks_Take : Nat := 38
abbrev N.multi_All : Nat := 39
abbrev N.locks_Free : Nat := 40
abbrev N.shard_Shard_find : Nat := 41
abbrev N.owned_Freeze : Nat := 42
abbrev N.owned_Of : Nat := 43
abbrev N.shard_Shard_held : Nat := 44
abbrev N.owned_Cut : Nat := 45
abbrev N.strings_Compare : Nat := 51
abbrev N.part_May : Nat := 59
abbrev N.path_In : Nat := 60
abbrev N.command_number : Nat := 61
abbrev N.command_empty : Nat := 62
abbrev N.multi_May : Nat := 63
abbrev N.part_Of : Nat := 64
abbrev N.slices_ContainsFunc_Node : Nat := 65
abbrev N.part_Right_c1 : Nat := 66
abbrev N.part_fields : Nat := 67
abbrev N.slices_ContainsFunc_Turn : Nat := 68
abbrev N.part_Right_c2 : Nat := 69
abbrev N.path_Right : Nat := 70
abbrev N.part_within : Nat := 71
abbrev N.part_rising_Node : Nat := 72
abbrev N.part_Right_c3 : Nat := 73
abbrev N.part_rising_Turn : Nat := 74
abbrev N.part_Right_c4 : Nat := 75
abbrev N.slices_Sort_string : Nat := 76
abbrev N.slices_Compact_string : Nat := 77
abbrev N.slices_IndexFunc_string : Nat := 78
abbrev N.slices_IndexFunc_Hold : Nat := 79
abbrev N.locks_Held_c1 : Nat := 80
abbrev N.shard_Shard_where_c1 : Nat := 81
abbrev N.shard_Shard_where_c1_c1 : Nat := 82
abbrev N.owned_State : Nat := 83
abbrev N.shard_Shard_tell : Nat := 84
abbrev N.locks_Take_c1 : Nat := 85
abbrev N.slices_ContainsFunc_Hold : Nat := 86
abbrev N.locks_Take_c2 : Nat := 87
abbrev N.locks_Right : Nat := 88
abbrev N.locks_number : Nat := 89
abbrev N.slices_Contains_string : Nat := 90
abbrev N.check_Newer : Nat := 91
abbrev N.slices_Sorted_int64 : Nat := 92
abbrev N.maps_Keys_map_int64int_int64_int_ : Nat := 93
abbrev N.slices_BinarySearchFunc_Hold : Nat := 94
abbrev N.locks_Take_c3 : Nat := 95
abbrev N.slices_Insert_Hold : Nat := 96
abbrev N.part_Do : Nat := 97
abbrev N.slices_DeleteFunc_Hold : Nat := 98
abbrev N.locks_Free_c1 : Nat := 99
abbrev N.slices_IndexFunc_Range : Nat := 100
abbrev N.shard_Shard_find_c1 : Nat := 101
abbrev N.owned_put : Nat := 102
abbrev N.shard_Shard_held_c1 : Nat := 103
abbrev N.owned_Cut_c1 : Nat := 104
abbrev N.owned_parted_Node : Nat := 105
abbrev N.owned_Cut_c2 : Nat := 106
abbrev N.path_Parent : Nat := 107
abbrev N.owned_parted_Turn : Nat := 108
abbrev N.owned_Cut_c3 : Nat := 109
abbrev N.owned_find : Nat := 110
abbrev N.slices_BinarySearchFunc_Range : Nat := 111
abbrev N.slices_Insert_Range : Nat := 113
abbrev N.math_bits_Len : Nat := 116
abbrev N.ibytealg_CompareString : Nat := 117
abbrev N.watch_Right : Nat := 119
abbrev N.watch_watch : Nat := 120
abbrev N.slices_Clone_Session : Nat := 125
abbrev N.slices_Clone_Watch : Nat := 126
abbrev N.part_up : Nat := 131
abbrev N.strings_CutPrefix : Nat := 132
abbrev N.strings_TrimSuffix : Nat := 133
abbrev N.slices_ContainsFunc_Op : Nat := 134
abbrev N.multi_May_c1 : Nat := 135
abbrev N.nodes_May : Nat := 136
abbrev N.part_Of_c1 : Nat := 137
abbrev N.part_Of_c2 : Nat := 138
abbrev N.part_Of_c3 : Nat := 139
abbrev N.part_Of_c4 : Nat := 140
abbrev N.slices_IndexFunc_Node : Nat := 141
abbrev N.slices_IndexFunc_Turn : Nat := 142
abbrev N.path_Split : Nat := 143
abbrev N.slices_pdqsortOrdered_string : Nat := 144
abbrev N.shard_Shard_happen : Nat := 145
abbrev N.path_Join : Nat := 146
abbrev N.part_work_guard : Nat := 154
abbrev N.part_work_put : Nat := 155
abbrev N.part_work_remove : Nat := 156
abbrev N.part_work_empty : Nat := 157
abbrev N.part_work_alter : Nat := 158
abbrev N.part_work_look : Nat := 159
abbrev N.part_work_read : Nat := 160
abbrev N.part_work_has : Nat := 161
abbrev N.part_work_names : Nat := 162
abbrev N.part_work_clear : Nat := 163
abbrev N.path_cut : Nat := 164
abbrev N.owned_find_c1 : Nat := 165
abbrev N.math_bits_Len32 : Nat := 176
abbrev N.math_bits_Len64 : Nat := 177
abbrev N.ibytealg_abigen_runtime_cmpstring : Nat := 178
abbrev N.watch_all_Watch : Nat := 187
abbrev N.watch_all_Session : Nat := 188
abbrev N.watch_session : Nat := 189
abbrev N.slices_IndexFunc_Watch : Nat := 191
abbrev N.istringslite_CutPrefix : Nat := 197
abbrev N.istringslite_TrimSuffix : Nat := 198
abbrev N.slices_IndexFunc_Op : Nat := 199
abbrev N.nodes_within : Nat := 200
abbrev N.nodes_named : Nat := 201
abbrev N.strings_IndexByte : Nat := 202
abbrev N.path_part : Nat := 203
abbrev N.slices_insertionSortOrdered_string : Nat := 204
abbrev N.slices_heapSortOrdered_string : Nat := 205
abbrev N.slices_breakPatternsOrdered_string : Nat := 206
abbrev N.slices_choosePivotOrdered_string : Nat := 207
abbrev N.slices_reverseRangeOrdered_string : Nat := 208
abbrev N.slices_partialInsertionSortOrdered_string : Nat := 209
abbrev N.cmp_Less_string : Nat := 210
abbrev N.slices_partitionEqualOrdered_string : Nat := 211
abbrev N.slices_partitionOrdered_string : Nat := 212
abbrev N.watch_Tell : Nat := 213
abbrev N.part_work_node : Nat := 217
abbrev N.part_work_fail : Nat := 218
abbrev N.part_work_turn : Nat := 219
abbrev N.part_work_put_c1 : Nat := 220
abbrev N.path_Numbered : Nat := 221
abbrev N.path_Last : Nat := 222
abbrev N.part_work_where : Nat := 223
abbrev N.part_work_put_c2 : Nat := 224
abbrev N.slices_Insert_Node : Nat := 225
abbrev N.strings_LastIndexByte : Nat := 231
abbrev N.slices_ContainsFunc_Watch : Nat := 241
abbrev N.watch_all_Watch_c1 : Nat := 242
abbrev N.slices_ContainsFunc_Session : Nat := 243
abbrev N.watch_all_Session_c1 : Nat := 244
abbrev N.istringslite_HasPrefix : Nat := 247
abbrev N.istringslite_HasSuffix : Nat := 248
abbrev N.istringslite_IndexByte : Nat := 249
abbrev N.strings_ContainsFunc : Nat := 250
abbrev N.path_part_c1 : Nat := 251
abbrev N.strings_ContainsRune : Nat := 252
abbrev N.cmp_isNaN_string : Nat := 256
abbrev N.slices_DeleteFunc_Watch : Nat := 257
abbrev N.watch_Tell_c1 : Nat := 258
abbrev N.slices_BinarySearchFunc_Node : Nat := 275
abbrev N.part_work_where_c1 : Nat := 276
abbrev N.ibytealg_LastIndexByteString : Nat := 280
abbrev N.slices_IndexFunc_Session : Nat := 284
abbrev N.ibytealg_IndexByteString : Nat := 286
abbrev N.strings_IndexFunc : Nat := 287
abbrev N.strings_IndexRune : Nat := 288
abbrev N.strings_indexFunc : Nat := 297
abbrev N.unicode_utf8_ValidRune : Nat := 298
abbrev N.ibytealg_Cutover : Nat := 299
abbrev N.ibytealg_IndexString : Nat := 300
def B.cantonlaw13_ShardDecides : AC :=
  .seq (.region [⟨some 6, .mv (.c (.f (.bool false))), none⟩] none [0, 1, 2])
  (.seq (.region [⟨some 13, .call N.cantonlaw13_head [], none⟩,
    ⟨some 7, .mv (.t 13), none⟩] none [0, 1, 2, 7])
  (.seq (.region [⟨some 14, .call N.cantonlaw13_root [], none⟩,
    ⟨some 8, .mv (.t 14), none⟩] none [0, 1, 2, 7, 8])
  (.seq (.seq (.region [⟨some 15, .mv (.t 8), none⟩,
    ⟨some 16, .bin .eql .ptr (.t 15) (.c (.f .nilp)), none⟩,
    ⟨some 17, .mv (.t 16), none⟩,
    ⟨some 18, .mv (.t 1), some (17, false)⟩,
    ⟨some 19, .len .sl (.t 18), some (17, false)⟩,
    ⟨some 20, .bin .gtr .val (.t 19) (.c (.f (.int .i64 60))), some (17, false)⟩,
    ⟨some 21, .pick (.t 17) (.c (.f (.bool true))) (.t 20), none⟩,
    ⟨some 22, .mv (.t 21), none⟩,
    ⟨some 23, .mv (.t 0), some (22, false)⟩,
    ⟨some 24, .bin .lss .val (.t 23) (.c (.f (.int .i64 0))), some (22, false)⟩,
    ⟨some 25, .pick (.t 22) (.c (.f (.bool true))) (.t 24), none⟩,
    ⟨some 26, .mv (.t 25), none⟩,
    ⟨some 27, .mv (.t 0), some (26, false)⟩,
    ⟨some 28, .bin .gtr .val (.t 27) (.c (.f (.int .i64 281474976710656))), some (26, false)⟩,
    ⟨some 29, .pick (.t 26) (.c (.f (.bool true))) (.t 28), none⟩] none [0, 1, 2, 7, 8, 29])
  (.cond (.t 29) (.seq (.region [⟨some 30, .mv (.t 8), none⟩,
      ⟨some 31, .bin .neq .ptr (.t 30) (.c (.f .nilp)), none⟩,
      ⟨some 32, .mv (.t 31), none⟩,
      ⟨some 33, .mv (.t 7), some (32, true)⟩,
      ⟨some 34, .pick (.t 32) (.t 33) (.c (.f (.bool false))), none⟩,
      ⟨some 6, .mv (.t 34), none⟩] none [6])
    (.ret))
  (.skip)))
  (.seq (.seq (.region [⟨some 9, .mv (.c (.f (.int .i64 0))), none⟩] none [0, 1, 2, 7, 8, 9])
  (.block 0 (.loop [0, 1, 2, 7, 8, 9] [] (.seq (.seq (.region [⟨some 35, .mv (.t 9), none⟩,
        ⟨some 36, .mv (.t 1), none⟩,
        ⟨some 37, .len .sl (.t 36), none⟩,
        ⟨some 38, .bin .lss .val (.t 35) (.t 37), none⟩] none [0, 1, 2, 7, 8, 9, 38])
      (.cond (.t 38) (.skip)
      (.exit 0)))
      (.seq (.block 1 (.seq (.region [⟨some 10, .mv (.c (.f (.int .i64 0))), none⟩] none [0, 1, 2, 7, 8, 9, 10])
        (.seq (.seq (.region [⟨some 41, .mv (.t 9), none⟩,
          ⟨some 42, .mv (.t 2), none⟩,
          ⟨some 43, .len .sl (.t 42), none⟩,
          ⟨some 44, .bin .lss .val (.t 41) (.t 43), none⟩] none [0, 1, 2, 7, 8, 9, 10, 44])
        (.cond (.t 44) (.region [⟨some 45, .mv (.t 2), none⟩,
            ⟨some 46, .mv (.t 9), none⟩,
            ⟨some 47, .iaddr 1 none (.t 45) (.t 46), none⟩,
            ⟨some 48, .load none (.t 47), none⟩,
            ⟨some 49, .conv (.toInt .i64) (.t 48), none⟩,
            ⟨some 10, .mv (.t 49), none⟩] none [0, 1, 2, 7, 8, 9, 10])
        (.skip)))
        (.seq (.region [⟨some 50, .mv (.t 8), none⟩,
          ⟨some 51, .mv (.t 0), none⟩,
          ⟨some 52, .mv (.t 1), none⟩,
          ⟨some 53, .mv (.t 9), none⟩,
          ⟨some 54, .iaddr 1 none (.t 52) (.t 53), none⟩,
          ⟨some 55, .load none (.t 54), none⟩,
          ⟨some 56, .mv (.t 10), none⟩,
          ⟨some 57, .build [.f (.int .i64 0), .f (.int .i64 0), .f (.int .i64 0), .f (.int .i64 0), .f (.bool false), .sl0 8, .f (.str .empty), .f (.int .i64 0), .f (.int .i64 0), .sl0 5, .sl0 2, .sl0 1, .f (.int .i64 0), .f (.int .i64 0), .f (.str .empty), .f (.bool false)] [(0, 1, (.c (.f (.int .i64 4)))), (2, 1, (.t 51)), (4, 1, (.t 55)), (7, 1, (.t 56))], none⟩,
          ⟨some 58, .call N.shard_Shard_Do [(.t 50), (.t 57)], none⟩,
          ⟨some 11, .new 10 [.f (.int .i64 0), .f (.int .i64 0), .f (.bool false), .f (.int .i64 0), .sl0 5, .sl0 5, .sl0 2, .sl0 4, .sl0 4, .sl0 1], none⟩,
          ⟨none, .store 10 (.t 11) (.t 58), none⟩] none [0, 1, 2, 7, 8, 9, 11])
        (.seq (.region [⟨some 12, .mv (.c (.f (.int .i64 0))), none⟩] none [0, 1, 2, 7, 8, 9, 11, 12])
        (.seq (.seq (.region [⟨some 59, .mv (.t 2), none⟩,
          ⟨some 60, .len .sl (.t 59), none⟩,
          ⟨some 61, .bin .gtr .val (.t 60) (.c (.f (.int .i64 0))), none⟩] none [0, 1, 2, 7, 8, 9, 11, 12, 61])
        (.cond (.t 61) (.region [⟨some 62, .mv (.t 2), none⟩,
            ⟨some 63, .iaddr 1 none (.t 62) (.c (.f (.int .i64 0))), none⟩,
            ⟨some 64, .load none (.t 63), none⟩,
            ⟨some 65, .conv (.toInt .i64) (.t 64), none⟩,
            ⟨some 12, .mv (.t 65), none⟩] none [0, 1, 2, 7, 8, 9, 11, 12])
        (.skip)))
        (.seq (.region [⟨some 66, .faddr (.t 11) 0, none⟩,
          ⟨some 67, .load none (.t 66), none⟩,
          ⟨some 68, .bin .neq .val (.t 67) (.c (.f (.int .i64 0))), none⟩,
          ⟨some 69, .mv (.t 68), none⟩,
          ⟨some 70, .faddr (.t 11) 2, some (69, false)⟩,
          ⟨some 71, .load none (.t 70), some (69, false)⟩,
          ⟨some 72, .mv (.t 1), some (69, false)⟩,
          ⟨some 73, .iaddr 1 none (.t 72) (.c (.f (.int .i64 0))), some (69, false)⟩,
          ⟨some 74, .load none (.t 73), some (69, false)⟩,
          ⟨some 75, .bin .neq .bool (.t 71) (.t 74), some (69, false)⟩,
          ⟨some 76, .pick (.t 69) (.c (.f (.bool true))) (.t 75), none⟩,
          ⟨some 77, .mv (.t 76), none⟩,
          ⟨some 78, .faddr (.t 11) 3, some (77, false)⟩,
          ⟨some 79, .load none (.t 78), some (77, false)⟩,
          ⟨some 80, .mv (.t 12), some (77, false)⟩,
          ⟨some 81, .bin .neq .val (.t 79) (.t 80), some (77, false)⟩,
          ⟨some 82, .pick (.t 77) (.c (.f (.bool true))) (.t 81), none⟩] (some []) [0, 1, 2, 7, 8, 9, 82])
        (.cond (.t 82) (.seq (.region [⟨some 6, .mv (.c (.f (.bool false))), none⟩] none [6])
          (.ret))
        (.skip)))))))))
      (.region [⟨some 39, .mv (.t 9), none⟩,
        ⟨some 40, .bin .add .val (.t 39) (.c (.f (.int .i64 1))), none⟩,
        ⟨some 9, .mv (.t 40), none⟩] none [0, 1, 2, 7, 8, 9]))))))
  (.seq (.region [⟨some 83, .mv (.t 7), none⟩,
    ⟨some 84, .mv (.t 83), none⟩,
    ⟨some 85, .mv (.t 8), some (84, true)⟩,
    ⟨some 86, .call N.shard_Shard_Store [(.t 85)], some (84, true)⟩,
    ⟨some 87, .field 0 none (.t 86), some (84, true)⟩,
    ⟨some 88, .len .sl (.t 87), some (84, true)⟩,
    ⟨some 89, .bin .eql .val (.t 88) (.c (.f (.int .i64 1))), some (84, true)⟩,
    ⟨some 90, .pick (.t 84) (.t 89) (.c (.f (.bool false))), none⟩,
    ⟨some 6, .mv (.t 90), none⟩] none [6])
  (.ret))))))
def B.cantonlaw13_head : AC :=
  .seq (.region [⟨some 0, .mv (.c (.f (.bool false))), none⟩] none [])
  (.seq (.region [⟨some 9, .call N.cantonlaw13_root [], none⟩,
    ⟨some 1, .mv (.t 9), none⟩] none [1])
  (.seq (.seq (.region [⟨some 10, .mv (.t 1), none⟩,
    ⟨some 11, .bin .eql .ptr (.t 10) (.c (.f .nilp)), none⟩] none [1, 11])
  (.cond (.t 11) (.seq (.region [⟨some 0, .mv (.c (.f (.bool false))), none⟩] none [0])
    (.ret))
  (.skip)))
  (.seq (.region [⟨some 12, .mv (.t 1), none⟩,
    ⟨some 13, .call N.cantonlaw13_create [(.c (.f (.str ⟨#[47, 97]⟩)))], none⟩,
    ⟨some 14, .build [.f (.int .i64 0), .f (.int .i64 0), .f (.int .i64 0), .f (.int .i64 0), .f (.bool false), .sl0 8, .f (.str .empty), .f (.int .i64 0), .f (.int .i64 0), .sl0 5, .sl0 2, .sl0 1, .f (.int .i64 0), .f (.int .i64 0), .f (.str .empty), .f (.bool false)] [(0, 1, (.c (.f (.int .i64 1)))), (1, 1, (.c (.f (.int .i64 1)))), (5, 1, (.t 13))], none⟩,
    ⟨some 15, .call N.shard_Shard_Do [(.t 12), (.t 14)], none⟩,
    ⟨some 2, .new 10 [.f (.int .i64 0), .f (.int .i64 0), .f (.bool false), .f (.int .i64 0), .sl0 5, .sl0 5, .sl0 2, .sl0 4, .sl0 4, .sl0 1], none⟩,
    ⟨none, .store 10 (.t 2) (.t 15), none⟩] none [1, 2])
  (.seq (.region [⟨some 16, .mv (.t 1), none⟩,
    ⟨some 17, .call N.cantonlaw13_create [(.c (.f (.str ⟨#[47, 97]⟩)))], none⟩,
    ⟨some 18, .build [.f (.int .i64 0), .f (.int .i64 0), .f (.int .i64 0), .f (.int .i64 0), .f (.bool false), .sl0 8, .f (.str .empty), .f (.int .i64 0), .f (.int .i64 0), .sl0 5, .sl0 2, .sl0 1, .f (.int .i64 0), .f (.int .i64 0), .f (.str .empty), .f (.bool false)] [(0, 1, (.c (.f (.int .i64 1)))), (1, 1, (.c (.f (.int .i64 1)))), (5, 1, (.t 17))], none⟩,
    ⟨some 19, .call N.shard_Shard_Do [(.t 16), (.t 18)], none⟩,
    ⟨some 3, .new 10 [.f (.int .i64 0), .f (.int .i64 0), .f (.bool false), .f (.int .i64 0), .sl0 5, .sl0 5, .sl0 2, .sl0 4, .sl0 4, .sl0 1], none⟩,
    ⟨none, .store 10 (.t 3) (.t 19), none⟩] none [1, 2, 3])
  (.seq (.region [⟨some 20, .mv (.t 1), none⟩,
    ⟨some 21, .call N.cantonlaw13_create [(.c (.f (.str ⟨#[47, 97, 47, 98]⟩)))], none⟩,
    ⟨some 22, .build [.f (.int .i64 0), .f (.int .i64 0), .f (.int .i64 0), .f (.int .i64 0), .f (.bool false), .sl0 8, .f (.str .empty), .f (.int .i64 0), .f (.int .i64 0), .sl0 5, .sl0 2, .sl0 1, .f (.int .i64 0), .f (.int .i64 0), .f (.str .empty), .f (.bool false)] [(0, 1, (.c (.f (.int .i64 2)))), (2, 1, (.c (.f (.int .i64 5)))), (3, 1, (.c (.f (.int .i64 1)))), (5, 1, (.t 21))], none⟩,
    ⟨some 23, .call N.shard_Shard_Do [(.t 20), (.t 22)], none⟩,
    ⟨some 4, .new 10 [.f (.int .i64 0), .f (.int .i64 0), .f (.bool false), .f (.int .i64 0), .sl0 5, .sl0 5, .sl0 2, .sl0 4, .sl0 4, .sl0 1], none⟩,
    ⟨none, .store 10 (.t 4) (.t 23), none⟩] none [1, 2, 3, 4])
  (.seq (.region [⟨some 24, .mv (.t 1), none⟩,
    ⟨some 25, .call N.cantonlaw13_create [(.c (.f (.str ⟨#[47, 97, 47, 99]⟩)))], none⟩,
    ⟨some 26, .build [.f (.int .i64 0), .f (.int .i64 0), .f (.int .i64 0), .f (.int .i64 0), .f (.bool false), .sl0 8, .f (.str .empty), .f (.int .i64 0), .f (.int .i64 0), .sl0 5, .sl0 2, .sl0 1, .f (.int .i64 0), .f (.int .i64 0), .f (.str .empty), .f (.bool false)] [(0, 1, (.c (.f (.int .i64 1)))), (1, 1, (.c (.f (.int .i64 2)))), (5, 1, (.t 25))], none⟩,
    ⟨some 27, .call N.shard_Shard_Do [(.t 24), (.t 26)], none⟩,
    ⟨some 5, .new 10 [.f (.int .i64 0), .f (.int .i64 0), .f (.bool false), .f (.int .i64 0), .sl0 5, .sl0 5, .sl0 2, .sl0 4, .sl0 4, .sl0 1], none⟩,
    ⟨none, .store 10 (.t 5) (.t 27), none⟩] none [1, 2, 3, 4, 5])
  (.seq (.region [⟨some 28, .mv (.t 1), none⟩,
    ⟨some 29, .build [.f (.int .i64 0), .f (.int .i64 0), .f (.int .i64 0), .f (.int .i64 0), .f (.bool false), .sl0 8, .f (.str .empty), .f (.int .i64 0), .f (.int .i64 0), .sl0 5, .sl0 2, .sl0 1, .f (.int .i64 0), .f (.int .i64 0), .f (.str .empty), .f (.bool false)] [(0, 1, (.c (.f (.int .i64 3)))), (2, 1, (.c (.f (.int .i64 5)))), (4, 1, (.c (.f (.bool true))))], none⟩,
    ⟨some 30, .call N.shard_Shard_Do [(.t 28), (.t 29)], none⟩,
    ⟨some 6, .new 10 [.f (.int .i64 0), .f (.int .i64 0), .f (.bool false), .f (.int .i64 0), .sl0 5, .sl0 5, .sl0 2, .sl0 4, .sl0 4, .sl0 1], none⟩,
    ⟨none, .store 10 (.t 6) (.t 30), none⟩] none [1, 2, 3, 4, 5, 6])
  (.seq (.region [⟨some 31, .mv (.t 1), none⟩,
    ⟨some 32, .build [.f (.int .i64 0), .f (.int .i64 0), .f (.int .i64 0), .f (.int .i64 0), .f (.bool false), .sl0 8, .f (.str .empty), .f (.int .i64 0), .f (.int .i64 0), .sl0 5, .sl0 2, .sl0 1, .f (.int .i64 0), .f (.int .i64 0), .f (.str .empty), .f (.bool false)] [(0, 1, (.c (.f (.int .i64 5)))), (6, 1, (.c (.f (.str ⟨#[47, 97]⟩)))), (7, 1, (.c (.f (.int .i64 1))))], none⟩,
    ⟨some 33, .call N.shard_Shard_Do [(.t 31), (.t 32)], none⟩,
    ⟨some 7, .new 10 [.f (.int .i64 0), .f (.int .i64 0), .f (.bool false), .f (.int .i64 0), .sl0 5, .sl0 5, .sl0 2, .sl0 4, .sl0 4, .sl0 1], none⟩,
    ⟨none, .store 10 (.t 7) (.t 33), none⟩] none [1, 2, 3, 4, 5, 6, 7])
  (.seq (.region [⟨some 34, .mv (.t 1), none⟩,
    ⟨some 35, .call N.cantonlaw13_create [(.c (.f (.str ⟨#[47, 97, 47, 100]⟩)))], none⟩,
    ⟨some 36, .build [.f (.int .i64 0), .f (.int .i64 0), .f (.int .i64 0), .f (.int .i64 0), .f (.bool false), .sl0 8, .f (.str .empty), .f (.int .i64 0), .f (.int .i64 0), .sl0 5, .sl0 2, .sl0 1, .f (.int .i64 0), .f (.int .i64 0), .f (.str .empty), .f (.bool false)] [(0, 1, (.c (.f (.int .i64 1)))), (1, 1, (.c (.f (.int .i64 3)))), (5, 1, (.t 35))], none⟩,
    ⟨some 37, .call N.shard_Shard_Do [(.t 34), (.t 36)], none⟩,
    ⟨some 8, .new 10 [.f (.int .i64 0), .f (.int .i64 0), .f (.bool false), .f (.int .i64 0), .sl0 5, .sl0 5, .sl0 2, .sl0 4, .sl0 4, .sl0 1], none⟩,
    ⟨none, .store 10 (.t 8) (.t 37), none⟩] none [1, 2, 3, 4, 5, 6, 7, 8])
  (.seq (.region [⟨some 38, .faddr (.t 2) 0, none⟩,
    ⟨some 39, .load none (.t 38), none⟩,
    ⟨some 40, .bin .eql .val (.t 39) (.c (.f (.int .i64 0))), none⟩,
    ⟨some 41, .mv (.t 40), none⟩,
    ⟨some 42, .faddr (.t 3) 0, some (41, true)⟩,
    ⟨some 43, .load none (.t 42), some (41, true)⟩,
    ⟨some 44, .bin .eql .val (.t 43) (.c (.f (.int .i64 0))), some (41, true)⟩,
    ⟨some 45, .pick (.t 41) (.t 44) (.c (.f (.bool false))), none⟩,
    ⟨some 46, .mv (.t 45), none⟩,
    ⟨some 47, .faddr (.t 3) 4, some (46, true)⟩,
    ⟨some 48, .load none (.t 47), some (46, true)⟩,
    ⟨some 49, .len .sl (.t 48), some (46, true)⟩,
    ⟨some 50, .bin .eql .val (.t 49) (.c (.f (.int .i64 2))), some (46, true)⟩,
    ⟨some 51, .pick (.t 46) (.t 50) (.c (.f (.bool false))), none⟩,
    ⟨some 52, .mv (.t 51), none⟩,
    ⟨some 53, .faddr (.t 4) 2, some (52, true)⟩,
    ⟨some 54, .load none (.t 53), some (52, true)⟩,
    ⟨some 55, .pick (.t 52) (.t 54) (.c (.f (.bool false))), none⟩,
    ⟨some 56, .mv (.t 55), none⟩,
    ⟨some 57, .faddr (.t 5) 0, some (56, true)⟩,
    ⟨some 58, .load none (.t 57), some (56, true)⟩,
    ⟨some 59, .bin .eql .val (.t 58) (.c (.f (.int .i64 131))), some (56, true)⟩,
    ⟨some 60, .pick (.t 56) (.t 59) (.c (.f (.bool false))), none⟩,
    ⟨some 61, .mv (.t 60), none⟩,
    ⟨some 62, .faddr (.t 6) 0, some (61, true)⟩,
    ⟨some 63, .load none (.t 62), some (61, true)⟩,
    ⟨some 64, .bin .eql .val (.t 63) (.c (.f (.int .i64 0))), some (61, true)⟩,
    ⟨some 65, .pick (.t 61) (.t 64) (.c (.f (.bool false))), none⟩,
    ⟨some 66, .mv (.t 65), none⟩,
    ⟨some 67, .mv (.t 1), some (66, true)⟩,
    ⟨some 68, .call N.shard_Shard_Store [(.t 67)], some (66, true)⟩,
    ⟨some 69, .field 0 none (.t 68), some (66, true)⟩,
    ⟨some 70, .len .sl (.t 69), some (66, true)⟩,
    ⟨some 71, .bin .eql .val (.t 70) (.c (.f (.int .i64 3))), some (66, true)⟩,
    ⟨some 72, .pick (.t 66) (.t 71) (.c (.f (.bool false))), none⟩,
    ⟨some 73, .mv (.t 72), none⟩,
    ⟨some 74, .faddr (.t 7) 3, some (73, true)⟩,
    ⟨some 75, .load none (.t 74), some (73, true)⟩,
    ⟨some 76, .bin .eql .val (.t 75) (.c (.f (.int .i64 1))), some (73, true)⟩,
    ⟨some 77, .pick (.t 73) (.t 76) (.c (.f (.bool false))), none⟩,
    ⟨some 78, .mv (.t 77), none⟩,
    ⟨some 79, .faddr (.t 7) 5, some (78, true)⟩,
    ⟨some 80, .faddr (.t 79) 0, some (78, true)⟩,
    ⟨some 81, .load none (.t 80), some (78, true)⟩,
    ⟨some 82, .len .sl (.t 81), some (78, true)⟩,
    ⟨some 83, .bin .eql .val (.t 82) (.c (.f (.int .i64 1))), some (78, true)⟩,
    ⟨some 84, .pick (.t 78) (.t 83) (.c (.f (.bool false))), none⟩,
    ⟨some 85, .mv (.t 84), none⟩,
    ⟨some 86, .faddr (.t 8) 0, some (85, true)⟩,
    ⟨some 87, .load none (.t 86), some (85, true)⟩,
    ⟨some 88, .bin .eql .val (.t 87) (.c (.f (.int .i64 131))), some (85, true)⟩,
    ⟨some 89, .pick (.t 85) (.t 88) (.c (.f (.bool false))), none⟩,
    ⟨some 90, .mv (.t 89), none⟩,
    ⟨some 91, .mv (.t 1), some (90, true)⟩,
    ⟨some 92, .call N.shard_Shard_Ranges [(.t 91)], some (90, true)⟩,
    ⟨some 93, .len .sl (.t 92), some (90, true)⟩,
    ⟨some 94, .bin .eql .val (.t 93) (.c (.f (.int .i64 2))), some (90, true)⟩,
    ⟨some 95, .pick (.t 90) (.t 94) (.c (.f (.bool false))), none⟩,
    ⟨some 96, .mv (.t 95), none⟩,
    ⟨some 97, .mv (.t 1), some (96, true)⟩,
    ⟨some 98, .call N.shard_Shard_Holds [(.t 97)], some (96, true)⟩,
    ⟨some 99, .len .sl (.t 98), some (96, true)⟩,
    ⟨some 100, .bin .eql .val (.t 99) (.c (.f (.int .i64 0))), some (96, true)⟩,
    ⟨some 101, .pick (.t 96) (.t 100) (.c (.f (.bool false))), none⟩,
    ⟨some 102, .mv (.t 101), none⟩,
    ⟨some 103, .build [.sl0 5, .sl0 2] [], some (102, true)⟩,
    ⟨some 104, .build [.f (.str .empty), .f (.int .i64 0), .f (.int .i64 0)] [], some (102, true)⟩,
    ⟨some 105, .bslice 3 [(.t 104)], some (102, true)⟩,
    ⟨some 106, .call N.shard_New [(.t 103), (.t 105)], some (102, true)⟩,
    ⟨some 107, .bin .eql .ptr (.t 106) (.c (.f .nilp)), some (102, true)⟩,
    ⟨some 108, .pick (.t 102) (.t 107) (.c (.f (.bool false))), none⟩,
    ⟨some 0, .mv (.t 108), none⟩] none [0])
  (.ret)))))))))))
def B.cantonlaw13_root : AC :=
  .seq (.region [⟨some 0, .mv (.c (.f .nilp)), none⟩] none [])
  (.seq (.region [⟨some 1, .build [.f (.str .empty), .f (.str .empty), .f (.int .i64 0), .f (.int .i64 0), .f (.int .i64 0)] [(0, 1, (.c (.f (.str ⟨#[47]⟩))))], none⟩,
    ⟨some 2, .bslice 5 [(.t 1)], none⟩,
    ⟨some 3, .build [.sl0 5, .sl0 2] [(0, 1, (.t 2))], none⟩,
    ⟨some 4, .build [.f (.str .empty), .f (.int .i64 0), .f (.int .i64 0)] [(0, 1, (.c (.f (.str ⟨#[47]⟩)))), (1, 1, (.c (.f (.int .i64 1)))), (2, 1, (.c (.f (.int .i64 1))))], none⟩,
    ⟨some 5, .bslice 3 [(.t 4)], none⟩,
    ⟨some 6, .call N.shard_New [(.t 3), (.t 5)], none⟩,
    ⟨some 0, .mv (.t 6), none⟩] none [0])
  (.ret))
def B.shard_Shard_Do : AC :=
  .seq (.region [⟨some 3, .box (.t 1), none⟩,
    ⟨some 4, .new 10 [.f (.int .i64 0), .f (.int .i64 0), .f (.bool false), .f (.int .i64 0), .sl0 5, .sl0 5, .sl0 2, .sl0 4, .sl0 4, .sl0 1], none⟩] none [0, 3, 4])
  (.seq (.region [⟨some 6, .build [.f .nilf, .f .nilf, .f .nilf, .f .nilf, .f .nilf, .f .nilf, .f .nilf, .f .nilf, .f .nilf, .f .nilf, .f .nilf] [(1, 1, (.c (.fn (.func N.shard_Shard_run) [] []))), (2, 1, (.c (.fn (.func N.shard_Shard_prepare) [] []))), (3, 1, (.c (.fn (.func N.shard_Shard_finish) [] []))), (4, 1, (.c (.fn (.func N.shard_Shard_decide) [] []))), (5, 1, (.c (.fn (.func N.shard_Shard_freeze) [] []))), (6, 1, (.c (.fn (.func N.shard_Shard_install) [] []))), (7, 1, (.c (.fn (.func N.shard_Shard_drop) [] []))), (8, 1, (.c (.fn (.func N.shard_Shard_watch) [] []))), (9, 1, (.c (.fn (.func N.shard_Shard_unwatch) [] []))), (10, 1, (.c (.fn (.func N.shard_Shard_take) [] [])))], none⟩,
    ⟨some 5, .new 11 [.f .nilf, .f .nilf, .f .nilf, .f .nilf, .f .nilf, .f .nilf, .f .nilf, .f .nilf, .f .nilf, .f .nilf, .f .nilf], none⟩,
    ⟨none, .store 11 (.t 5) (.t 6), none⟩] none [0, 3, 4, 5])
  (.seq (.block 0 (.seq (.seq (.region [⟨some 8, .load (some 16) (.t 3), none⟩,
      ⟨some 9, .call N.command_Right [(.t 8)], none⟩,
      ⟨some 10, .not (.t 9), none⟩,
      ⟨some 7, .mv (.t 10), none⟩] none [0, 3, 4, 5, 7])
    (.cond (.t 7) (.skip)
    (.region [⟨some 11, .faddr (.t 3) 0, none⟩,
        ⟨some 12, .load none (.t 11), none⟩,
        ⟨some 13, .bin .gtr .val (.t 12) (.c (.f (.int .i64 10))), none⟩,
        ⟨some 7, .mv (.t 13), none⟩] none [0, 3, 4, 5, 7])))
    (.cond (.t 7) (.seq (.region [⟨some 14, .call N.shard_failed [(.c (.f (.int .i64 1)))], none⟩,
        ⟨none, .store 10 (.t 4) (.t 14), none⟩] none [4])
      (.ret))
    (.seq (.seq (.region [⟨some 16, .faddr (.t 3) 0, none⟩,
        ⟨some 17, .load none (.t 16), none⟩,
        ⟨some 18, .bin .eql .val (.t 17) (.c (.f (.int .i64 1))), none⟩,
        ⟨some 15, .mv (.t 18), none⟩] none [0, 3, 4, 5, 15])
      (.cond (.t 15) (.skip)
      (.region [⟨some 19, .faddr (.t 3) 0, none⟩,
          ⟨some 20, .load none (.t 19), none⟩,
          ⟨some 21, .bin .geq .val (.t 20) (.c (.f (.int .i64 8))), none⟩,
          ⟨some 15, .mv (.t 21), none⟩] none [0, 3, 4, 5, 15])))
      (.cond (.t 15) (.seq (.region [⟨some 22, .mv (.t 0), none⟩,
          ⟨some 23, .load (some 16) (.t 3), none⟩,
          ⟨some 24, .faddr (.t 3) 0, none⟩,
          ⟨some 25, .load none (.t 24), none⟩,
          ⟨some 26, .iaddr 1 (some 11) (.t 5) (.t 25), none⟩,
          ⟨some 27, .load none (.t 26), none⟩,
          ⟨some 28, .call N.shard_Shard_once [(.t 22), (.t 23), (.t 27)], none⟩,
          ⟨none, .store 10 (.t 4) (.t 28), none⟩] (some []) [4])
        (.ret))
      (.seq (.region [⟨some 30, .faddr (.t 3) 0, none⟩,
          ⟨some 31, .load none (.t 30), none⟩,
          ⟨some 32, .bin .geq .val (.t 31) (.c (.f (.int .i64 5))), none⟩,
          ⟨some 33, .mv (.t 32), none⟩,
          ⟨some 34, .faddr (.t 3) 6, some (33, true)⟩,
          ⟨some 35, .load none (.t 34), some (33, true)⟩,
          ⟨some 36, .bin .eql .val (.t 35) (.c (.f (.str ⟨#[]⟩))), some (33, true)⟩,
          ⟨some 37, .pick (.t 33) (.t 36) (.c (.f (.bool false))), none⟩,
          ⟨some 29, .mv (.t 37), none⟩] none [0, 3, 4, 5, 29])
        (.cond (.t 29) (.seq (.region [⟨some 38, .call N.shard_failed [(.c (.f (.int .i64 1)))], none⟩,
            ⟨none, .store 10 (.t 4) (.t 38), none⟩] none [4])
          (.ret))
        (.skip))))))))
  (.seq (.region [⟨some 39, .faddr (.t 3) 0, none⟩,
    ⟨some 40, .load none (.t 39), none⟩,
    ⟨some 41, .iaddr 1 (some 11) (.t 5) (.t 40), none⟩,
    ⟨some 42, .load none (.t 41), none⟩,
    ⟨some 43, .mv (.t 0), none⟩,
    ⟨some 44, .load (some 16) (.t 3), none⟩,
    ⟨some 45, .callv (.t 42) [(.t 43), (.t 44)], none⟩,
    ⟨none, .store 10 (.t 4) (.t 45), none⟩] (some []) [4])
  (.ret))))
def B.shard_Shard_Store : AC :=
  .seq (.region [⟨some 2, .new 2 [.sl0 5, .sl0 2], none⟩] none [0, 2])
  (.seq (.region [⟨some 3, .mv (.t 0), none⟩,
    ⟨some 4, .nilchk (.t 3), none⟩,
    ⟨some 5, .faddr (.t 4) 0, none⟩,
    ⟨some 6, .faddr (.t 5) 0, none⟩,
    ⟨some 7, .load none (.t 6), none⟩,
    ⟨some 8, .call N.slices_Clone_Node [(.t 7)], none⟩,
    ⟨some 9, .mv (.t 0), none⟩,
    ⟨some 10, .nilchk (.t 9), none⟩,
    ⟨some 11, .faddr (.t 10) 0, none⟩,
    ⟨some 12, .faddr (.t 11) 1, none⟩,
    ⟨some 13, .load none (.t 12), none⟩,
    ⟨some 14, .call N.slices_Clone_Turn [(.t 13)], none⟩,
    ⟨some 15, .build [.sl0 5, .sl0 2] [(0, 1, (.t 8)), (1, 1, (.t 14))], none⟩,
    ⟨none, .store 2 (.t 2) (.t 15), none⟩] (some [(5, 10)]) [2])
  (.ret))
def B.cantonlaw13_create : AC :=
  .seq (.region [⟨some 2, .mv (.c (.sl0 8)), none⟩] none [0])
  (.seq (.region [⟨some 3, .mv (.t 0), none⟩,
    ⟨some 4, .build [.f (.int .i64 0), .f (.str .empty), .f (.str .empty), .f (.int .i64 0), .f (.int .i64 0), .f (.bool false)] [(0, 1, (.c (.f (.int .i64 1)))), (1, 1, (.t 3))], none⟩,
    ⟨some 5, .bslice 6 [(.t 4)], none⟩,
    ⟨some 6, .call N.multi_Of [(.t 5)], none⟩,
    ⟨some 2, .mv (.t 6), none⟩] none [2])
  (.ret))
def B.shard_Shard_Ranges : AC :=
  .seq (.region [⟨some 2, .mv (.c (.sl0 3)), none⟩] none [0])
  (.seq (.region [⟨some 3, .mv (.t 0), none⟩,
    ⟨some 4, .nilchk (.t 3), none⟩,
    ⟨some 5, .faddr (.t 4) 2, none⟩,
    ⟨some 6, .load none (.t 5), none⟩,
    ⟨some 7, .call N.slices_Clone_Range [(.t 6)], none⟩,
    ⟨some 2, .mv (.t 7), none⟩] none [2])
  (.ret))
def B.shard_Shard_Holds : AC :=
  .seq (.region [⟨some 2, .mv (.c (.sl0 3)), none⟩] none [0])
  (.seq (.region [⟨some 3, .mv (.t 0), none⟩,
    ⟨some 4, .nilchk (.t 3), none⟩,
    ⟨some 5, .faddr (.t 4) 3, none⟩,
    ⟨some 6, .load none (.t 5), none⟩,
    ⟨some 7, .call N.slices_Clone_Hold [(.t 6)], none⟩,
    ⟨some 2, .mv (.t 7), none⟩] none [2])
  (.ret))
def B.shard_New : AC :=
  .seq (.region [⟨some 2, .box (.t 0), none⟩,
    ⟨some 4, .mv (.c (.f .nilp)), none⟩] none [1, 2])
  (.seq (.seq (.region [⟨some 5, .load (some 2) (.t 2), none⟩,
    ⟨some 6, .call N.part_Right [(.t 5)], none⟩,
    ⟨some 7, .not (.t 6), none⟩,
    ⟨some 8, .mv (.t 7), none⟩,
    ⟨some 9, .mv (.t 1), some (8, false)⟩,
    ⟨some 10, .call N.owned_Right [(.t 9)], some (8, false)⟩,
    ⟨some 11, .not (.t 10), some (8, false)⟩,
    ⟨some 12, .pick (.t 8) (.c (.f (.bool true))) (.t 11), none⟩] none [1, 2, 12])
  (.cond (.t 12) (.seq (.region [⟨some 4, .mv (.c (.f .nilp)), none⟩] none [4])
    (.ret))
  (.skip)))
  (.seq (.region [⟨some 13, .load (some 2) (.t 2), none⟩,
    ⟨some 14, .mv (.t 1), none⟩,
    ⟨some 15, .mkmap, none⟩,
    ⟨some 16, .mkmap, none⟩,
    ⟨some 17, .mkmap, none⟩,
    ⟨some 18, .build [.sl0 5, .sl0 2, .sl0 3, .sl0 3, .sl0 4, .sl0 3, .f .nilm, .f .nilm, .f .nilm] [(0, 2, (.t 13)), (2, 1, (.t 14)), (6, 1, (.t 15)), (7, 1, (.t 16)), (8, 1, (.t 17))], none⟩,
    ⟨some 19, .box (.t 18), none⟩,
    ⟨some 4, .mv (.t 19), none⟩] none [4])
  (.ret)))
def B.shard_Shard_run : AC :=
  .seq (.region [⟨some 2, .box (.t 0), none⟩,
    ⟨some 3, .box (.t 1), none⟩,
    ⟨some 4, .new 10 [.f (.int .i64 0), .f (.int .i64 0), .f (.bool false), .f (.int .i64 0), .sl0 5, .sl0 5, .sl0 2, .sl0 4, .sl0 4, .sl0 1], none⟩] none [2, 3, 4])
  (.seq (.region [⟨some 8, .faddr (.t 3) 5, none⟩,
    ⟨some 9, .load none (.t 8), none⟩,
    ⟨some 10, .call N.locks_Dirs [(.t 9)], none⟩,
    ⟨some 5, .mv (.t 10), none⟩] none [2, 3, 4, 5])
  (.seq (.region [⟨some 11, .mv (.t 5), none⟩,
    ⟨some 12, .mkfn (.func N.shard_Shard_run_c1) [] [(.t 2)], none⟩,
    ⟨some 13, .call N.slices_ContainsFunc_string [(.t 11), (.t 12)], none⟩,
    ⟨some 6, .mv (.t 13), none⟩] none [2, 3, 4, 5, 6])
  (.seq (.region [⟨some 14, .load none (.t 2), none⟩,
    ⟨some 15, .mv (.t 5), none⟩,
    ⟨some 16, .call N.shard_Shard_where [(.t 14), (.t 15)], none⟩,
    ⟨some 7, .mv (.t 16), none⟩] none [2, 3, 4, 6, 7])
  (.seq (.seq (.region [⟨some 17, .mv (.t 7), none⟩,
    ⟨some 18, .bin .eql .val (.t 17) (.c (.f (.int .i64 0))), none⟩,
    ⟨some 19, .mv (.t 18), none⟩,
    ⟨some 20, .mv (.t 6), some (19, true)⟩,
    ⟨some 21, .pick (.t 19) (.t 20) (.c (.f (.bool false))), none⟩] none [2, 3, 4, 7, 21])
  (.cond (.t 21) (.region [⟨some 7, .mv (.c (.f (.int .i64 131))), none⟩] none [2, 3, 4, 7])
  (.skip)))
  (.seq (.seq (.region [⟨some 22, .mv (.t 7), none⟩,
    ⟨some 23, .bin .neq .val (.t 22) (.c (.f (.int .i64 0))), none⟩] none [2, 3, 4, 7, 23])
  (.cond (.t 23) (.seq (.region [⟨some 24, .mv (.t 7), none⟩,
      ⟨some 25, .call N.shard_failed [(.t 24)], none⟩,
      ⟨none, .store 10 (.t 4) (.t 25), none⟩] none [4])
    (.ret))
  (.skip)))
  (.seq (.region [⟨some 26, .load none (.t 2), none⟩,
    ⟨some 27, .faddr (.t 3) 5, none⟩,
    ⟨some 28, .load none (.t 27), none⟩,
    ⟨some 29, .call N.shard_Shard_all [(.t 26), (.t 28)], none⟩,
    ⟨none, .store 10 (.t 4) (.t 29), none⟩] none [4])
  (.ret)))))))
def B.shard_Shard_prepare : AC :=
  .seq (.region [⟨some 3, .box (.t 1), none⟩,
    ⟨some 4, .new 10 [.f (.int .i64 0), .f (.int .i64 0), .f (.bool false), .f (.int .i64 0), .sl0 5, .sl0 5, .sl0 2, .sl0 4, .sl0 4, .sl0 1], none⟩] none [0, 3, 4])
  (.seq (.seq (.region [⟨some 17, .mv (.t 0), none⟩,
    ⟨some 18, .nilchk (.t 17), none⟩,
    ⟨some 19, .faddr (.t 18) 7, none⟩,
    ⟨some 20, .load none (.t 19), none⟩,
    ⟨some 21, .faddr (.t 3) 2, none⟩,
    ⟨some 22, .load none (.t 21), none⟩,
    ⟨some 23, .lookup false (.agg [.f (.bool false), .sl0 8, .f (.int .i64 0), .f (.int .i64 0), .f (.bool false), .f (.int .i64 0), .sl0 5, .sl0 5, .sl0 2, .sl0 4, .sl0 4, .sl0 1]) (.t 20) (.t 22) true, none⟩,
    ⟨some 16, .mv (.t 23), none⟩,
    ⟨some 24, .extr (.t 16) 0, none⟩,
    ⟨some 25, .extr (.t 16) 1, none⟩,
    ⟨some 5, .new 12 [.f (.bool false), .sl0 8, .f (.int .i64 0), .f (.int .i64 0), .f (.bool false), .f (.int .i64 0), .sl0 5, .sl0 5, .sl0 2, .sl0 4, .sl0 4, .sl0 1], none⟩,
    ⟨none, .store 12 (.t 5) (.t 24), none⟩,
    ⟨some 6, .mv (.t 25), none⟩] (some []) [0, 3, 4, 5, 6])
  (.seq (.region [⟨some 26, .mv (.t 6), none⟩] none [0, 3, 4, 5, 26])
  (.cond (.t 26) (.seq (.seq (.region [⟨some 27, .faddr (.t 5) 0, none⟩,
      ⟨some 28, .load none (.t 27), none⟩] none [4, 5, 28])
    (.cond (.t 28) (.seq (.region [⟨some 29, .call N.shard_failed [(.c (.f (.int .i64 133)))], none⟩,
        ⟨none, .store 10 (.t 4) (.t 29), none⟩] none [4])
      (.ret))
    (.skip)))
    (.seq (.region [⟨some 30, .faddr (.t 5) 2, none⟩,
      ⟨some 31, .load (some 10) (.t 30), none⟩,
      ⟨none, .store 10 (.t 4) (.t 31), none⟩] none [4])
    (.ret)))
  (.skip))))
  (.seq (.region [⟨some 32, .faddr (.t 3) 5, none⟩,
    ⟨some 33, .load none (.t 32), none⟩,
    ⟨some 34, .call N.locks_Dirs [(.t 33)], none⟩,
    ⟨some 7, .mv (.t 34), none⟩] none [0, 3, 4, 7])
  (.seq (.region [⟨some 35, .mv (.t 0), none⟩,
    ⟨some 36, .mv (.t 7), none⟩,
    ⟨some 37, .call N.shard_Shard_where [(.t 35), (.t 36)], none⟩,
    ⟨some 8, .mv (.t 37), none⟩] none [0, 3, 4, 7, 8])
  (.seq (.seq (.region [⟨some 38, .mv (.t 8), none⟩,
    ⟨some 39, .bin .eql .val (.t 38) (.c (.f (.int .i64 0))), none⟩,
    ⟨some 40, .mv (.t 39), none⟩,
    ⟨some 41, .mv (.t 0), some (40, true)⟩,
    ⟨some 42, .nilchk (.t 41), some (40, true)⟩,
    ⟨some 43, .faddr (.t 42) 7, some (40, true)⟩,
    ⟨some 44, .load none (.t 43), some (40, true)⟩,
    ⟨some 45, .len .mp (.t 44), some (40, true)⟩,
    ⟨some 46, .bin .eql .val (.t 45) (.c (.f (.int .i64 128))), some (40, true)⟩,
    ⟨some 47, .pick (.t 40) (.t 46) (.c (.f (.bool false))), none⟩] none [0, 3, 4, 7, 8, 47])
  (.cond (.t 47) (.region [⟨some 8, .mv (.c (.f (.int .i64 2))), none⟩] none [0, 3, 4, 7, 8])
  (.skip)))
  (.seq (.seq (.region [⟨some 48, .mv (.t 8), none⟩,
    ⟨some 49, .bin .neq .val (.t 48) (.c (.f (.int .i64 0))), none⟩] none [0, 3, 4, 7, 8, 49])
  (.cond (.t 49) (.seq (.region [⟨some 50, .mv (.t 8), none⟩,
      ⟨some 51, .call N.shard_failed [(.t 50)], none⟩,
      ⟨none, .store 10 (.t 4) (.t 51), none⟩] none [4])
    (.ret))
  (.skip)))
  (.seq (.region [⟨some 53, .mv (.t 0), none⟩,
    ⟨some 54, .nilchk (.t 53), none⟩,
    ⟨some 55, .faddr (.t 54) 3, none⟩,
    ⟨some 56, .load none (.t 55), none⟩,
    ⟨some 57, .faddr (.t 3) 2, none⟩,
    ⟨some 58, .load none (.t 57), none⟩,
    ⟨some 59, .faddr (.t 3) 3, none⟩,
    ⟨some 60, .load none (.t 59), none⟩,
    ⟨some 61, .mv (.t 7), none⟩,
    ⟨some 62, .call N.locks_Take [(.t 56), (.t 58), (.t 60), (.t 61)], none⟩,
    ⟨some 52, .mv (.t 62), none⟩,
    ⟨some 63, .extr (.t 52) 0, none⟩,
    ⟨some 64, .extr (.t 52) 1, none⟩,
    ⟨some 65, .extr (.t 52) 2, none⟩,
    ⟨some 9, .mv (.t 63), none⟩,
    ⟨some 10, .mv (.t 64), none⟩,
    ⟨some 11, .mv (.t 65), none⟩] (some []) [0, 3, 4, 9, 10, 11])
  (.seq (.seq (.region [⟨some 66, .mv (.t 11), none⟩,
    ⟨some 67, .not (.t 66), none⟩] none [0, 3, 4, 9, 10, 67])
  (.cond (.t 67) (.seq (.region [⟨some 68, .mv (.t 10), none⟩,
      ⟨some 69, .build [.f (.int .i64 0), .f (.int .i64 0), .f (.bool false), .f (.int .i64 0), .sl0 5, .sl0 5, .sl0 2, .sl0 4, .sl0 4, .sl0 1] [(0, 1, (.c (.f (.int .i64 131)))), (9, 1, (.t 68))], none⟩,
      ⟨none, .store 10 (.t 4) (.t 69), none⟩] none [4])
    (.ret))
  (.skip)))
  (.seq (.region [⟨some 71, .mv (.t 0), none⟩,
    ⟨some 72, .nilchk (.t 71), none⟩,
    ⟨some 73, .faddr (.t 72) 0, none⟩,
    ⟨some 74, .load (some 2) (.t 73), none⟩,
    ⟨some 75, .faddr (.t 3) 5, none⟩,
    ⟨some 76, .load none (.t 75), none⟩,
    ⟨some 77, .call N.multi_All [(.t 74), (.t 76)], none⟩,
    ⟨some 70, .mv (.t 77), none⟩,
    ⟨some 78, .extr (.t 70) 0, none⟩,
    ⟨some 79, .extr (.t 70) 1, none⟩,
    ⟨some 80, .extr (.t 70) 2, none⟩,
    ⟨some 81, .extr (.t 70) 3, none⟩,
    ⟨some 12, .new 2 [.sl0 5, .sl0 2], none⟩,
    ⟨none, .store 2 (.t 12) (.t 78), none⟩,
    ⟨some 13, .mv (.t 79), none⟩,
    ⟨some 8, .mv (.t 80), none⟩,
    ⟨some 14, .mv (.t 81), none⟩] (some []) [0, 3, 4, 8, 9, 13, 14])
  (.seq (.region [⟨some 82, .mv (.t 8), none⟩,
    ⟨some 83, .mv (.t 14), none⟩,
    ⟨some 84, .mv (.t 13), none⟩,
    ⟨some 85, .mv (.t 8), none⟩,
    ⟨some 86, .bin .eql .val (.t 85) (.c (.f (.int .i64 0))), none⟩,
    ⟨some 87, .build [.f (.int .i64 0), .f (.int .i64 0), .f (.bool false), .f (.int .i64 0), .sl0 5, .sl0 5, .sl0 2, .sl0 4, .sl0 4, .sl0 1] [(0, 1, (.t 82)), (1, 1, (.t 83)), (4, 1, (.t 84)), (2, 1, (.t 86))], none⟩,
    ⟨some 15, .new 10 [.f (.int .i64 0), .f (.int .i64 0), .f (.bool false), .f (.int .i64 0), .sl0 5, .sl0 5, .sl0 2, .sl0 4, .sl0 4, .sl0 1], none⟩,
    ⟨none, .store 10 (.t 15) (.t 87), none⟩] none [0, 3, 4, 9, 15])
  (.seq (.region [⟨some 88, .mv (.t 0), none⟩,
    ⟨some 89, .mv (.t 9), none⟩,
    ⟨some 90, .nilchk (.t 88), none⟩,
    ⟨some 91, .faddr (.t 90) 3, none⟩,
    ⟨none, .store 1 (.t 91) (.t 89), none⟩] none [0, 3, 4, 15])
  (.seq (.region [⟨some 92, .mv (.t 0), none⟩,
    ⟨some 93, .nilchk (.t 92), none⟩,
    ⟨some 94, .faddr (.t 93) 7, none⟩,
    ⟨some 95, .load none (.t 94), none⟩,
    ⟨some 96, .faddr (.t 3) 2, none⟩,
    ⟨some 97, .load none (.t 96), none⟩,
    ⟨some 98, .faddr (.t 3) 5, none⟩,
    ⟨some 99, .load none (.t 98), none⟩,
    ⟨some 100, .load (some 10) (.t 15), none⟩,
    ⟨some 101, .build [.f (.bool false), .sl0 8, .f (.int .i64 0), .f (.int .i64 0), .f (.bool false), .f (.int .i64 0), .sl0 5, .sl0 5, .sl0 2, .sl0 4, .sl0 4, .sl0 1] [(1, 1, (.t 99)), (2, 10, (.t 100))], none⟩,
    ⟨none, .mapset false (.t 95) (.t 97) (.t 101), none⟩] (some []) [4, 15])
  (.seq (.region [⟨some 102, .load (some 10) (.t 15), none⟩,
    ⟨none, .store 10 (.t 4) (.t 102), none⟩] none [4])
  (.ret)))))))))))))
def B.shard_Shard_finish : AC :=
  .seq (.region [⟨some 3, .box (.t 1), none⟩,
    ⟨some 4, .new 10 [.f (.int .i64 0), .f (.int .i64 0), .f (.bool false), .f (.int .i64 0), .sl0 5, .sl0 5, .sl0 2, .sl0 4, .sl0 4, .sl0 1], none⟩] none [0, 3, 4])
  (.seq (.region [⟨some 8, .mv (.t 0), none⟩,
    ⟨some 9, .nilchk (.t 8), none⟩,
    ⟨some 10, .faddr (.t 9) 7, none⟩,
    ⟨some 11, .load none (.t 10), none⟩,
    ⟨some 12, .faddr (.t 3) 2, none⟩,
    ⟨some 13, .load none (.t 12), none⟩,
    ⟨some 14, .lookup false (.agg [.f (.bool false), .sl0 8, .f (.int .i64 0), .f (.int .i64 0), .f (.bool false), .f (.int .i64 0), .sl0 5, .sl0 5, .sl0 2, .sl0 4, .sl0 4, .sl0 1]) (.t 11) (.t 13) true, none⟩,
    ⟨some 7, .mv (.t 14), none⟩,
    ⟨some 15, .extr (.t 7) 0, none⟩,
    ⟨some 16, .extr (.t 7) 1, none⟩,
    ⟨some 5, .new 12 [.f (.bool false), .sl0 8, .f (.int .i64 0), .f (.int .i64 0), .f (.bool false), .f (.int .i64 0), .sl0 5, .sl0 5, .sl0 2, .sl0 4, .sl0 4, .sl0 1], none⟩,
    ⟨none, .store 12 (.t 5) (.t 15), none⟩,
    ⟨some 6, .mv (.t 16), none⟩] (some []) [0, 3, 4, 5, 6])
  (.seq (.block 0 (.seq (.region [⟨some 18, .mv (.t 6), none⟩,
      ⟨some 19, .not (.t 18), none⟩,
      ⟨some 20, .mv (.t 19), none⟩,
      ⟨some 21, .faddr (.t 3) 4, some (20, true)⟩,
      ⟨some 22, .load none (.t 21), some (20, true)⟩,
      ⟨some 23, .pick (.t 20) (.t 22) (.c (.f (.bool false))), none⟩,
      ⟨some 17, .mv (.t 23), none⟩] none [0, 3, 4, 5, 6, 17])
    (.cond (.t 17) (.seq (.region [⟨some 24, .call N.shard_failed [(.c (.f (.int .i64 62)))], none⟩,
        ⟨none, .store 10 (.t 4) (.t 24), none⟩] none [4])
      (.ret))
    (.seq (.region [⟨some 26, .mv (.t 6), none⟩,
        ⟨some 27, .not (.t 26), none⟩,
        ⟨some 28, .mv (.t 27), none⟩,
        ⟨some 29, .mv (.t 0), some (28, true)⟩,
        ⟨some 30, .nilchk (.t 29), some (28, true)⟩,
        ⟨some 31, .faddr (.t 30) 7, some (28, true)⟩,
        ⟨some 32, .load none (.t 31), some (28, true)⟩,
        ⟨some 33, .len .mp (.t 32), some (28, true)⟩,
        ⟨some 34, .bin .eql .val (.t 33) (.c (.f (.int .i64 128))), some (28, true)⟩,
        ⟨some 35, .pick (.t 28) (.t 34) (.c (.f (.bool false))), none⟩,
        ⟨some 25, .mv (.t 35), none⟩] none [0, 3, 4, 5, 25])
      (.cond (.t 25) (.seq (.region [⟨some 36, .call N.shard_failed [(.c (.f (.int .i64 2)))], none⟩,
          ⟨none, .store 10 (.t 4) (.t 36), none⟩] none [4])
        (.ret))
      (.seq (.region [⟨some 38, .faddr (.t 5) 0, none⟩,
          ⟨some 39, .load none (.t 38), none⟩,
          ⟨some 37, .mv (.t 39), none⟩] none [0, 3, 4, 5, 37])
        (.cond (.t 37) (.seq (.region [⟨some 40, .build [.f (.int .i64 0), .f (.int .i64 0), .f (.bool false), .f (.int .i64 0), .sl0 5, .sl0 5, .sl0 2, .sl0 4, .sl0 4, .sl0 1] [], none⟩,
            ⟨none, .store 10 (.t 4) (.t 40), none⟩] none [4])
          (.ret))
        (.skip))))))))
  (.seq (.region [⟨some 41, .mv (.t 0), none⟩,
    ⟨some 42, .nilchk (.t 41), none⟩,
    ⟨some 43, .faddr (.t 42) 7, none⟩,
    ⟨some 44, .load none (.t 43), none⟩,
    ⟨some 45, .faddr (.t 3) 2, none⟩,
    ⟨some 46, .load none (.t 45), none⟩,
    ⟨some 47, .build [.f (.bool false), .sl0 8, .f (.int .i64 0), .f (.int .i64 0), .f (.bool false), .f (.int .i64 0), .sl0 5, .sl0 5, .sl0 2, .sl0 4, .sl0 4, .sl0 1] [(0, 1, (.c (.f (.bool true))))], none⟩,
    ⟨none, .mapset false (.t 44) (.t 46) (.t 47), none⟩] (some []) [0, 3, 4, 5])
  (.seq (.region [⟨some 48, .mv (.t 0), none⟩,
    ⟨some 49, .mv (.t 0), none⟩,
    ⟨some 50, .nilchk (.t 49), none⟩,
    ⟨some 51, .faddr (.t 50) 3, none⟩,
    ⟨some 52, .load none (.t 51), none⟩,
    ⟨some 53, .faddr (.t 3) 2, none⟩,
    ⟨some 54, .load none (.t 53), none⟩,
    ⟨some 55, .call N.locks_Free [(.t 52), (.t 54)], none⟩,
    ⟨some 56, .nilchk (.t 48), none⟩,
    ⟨some 57, .faddr (.t 56) 3, none⟩,
    ⟨none, .store 1 (.t 57) (.t 55), none⟩] (some []) [0, 3, 4, 5])
  (.seq (.seq (.region [⟨some 58, .faddr (.t 3) 4, none⟩,
    ⟨some 59, .load none (.t 58), none⟩,
    ⟨some 60, .mv (.t 59), none⟩,
    ⟨some 61, .faddr (.t 5) 2, some (60, true)⟩,
    ⟨some 62, .faddr (.t 61) 2, some (60, true)⟩,
    ⟨some 63, .load none (.t 62), some (60, true)⟩,
    ⟨some 64, .pick (.t 60) (.t 63) (.c (.f (.bool false))), none⟩] none [0, 4, 5, 64])
  (.cond (.t 64) (.region [⟨some 65, .mv (.t 0), none⟩,
      ⟨some 66, .faddr (.t 5) 1, none⟩,
      ⟨some 67, .load none (.t 66), none⟩,
      ⟨some 68, .call N.shard_Shard_all [(.t 65), (.t 67)], none⟩] none [4])
  (.skip)))
  (.seq (.region [⟨some 69, .build [.f (.int .i64 0), .f (.int .i64 0), .f (.bool false), .f (.int .i64 0), .sl0 5, .sl0 5, .sl0 2, .sl0 4, .sl0 4, .sl0 1] [], none⟩,
    ⟨none, .store 10 (.t 4) (.t 69), none⟩] none [4])
  (.ret)))))))
def B.shard_Shard_decide : AC :=
  .seq (.region [⟨some 3, .box (.t 1), none⟩,
    ⟨some 4, .new 10 [.f (.int .i64 0), .f (.int .i64 0), .f (.bool false), .f (.int .i64 0), .sl0 5, .sl0 5, .sl0 2, .sl0 4, .sl0 4, .sl0 1], none⟩] none [0, 3, 4])
  (.seq (.seq (.region [⟨some 8, .mv (.t 0), none⟩,
    ⟨some 9, .nilchk (.t 8), none⟩,
    ⟨some 10, .faddr (.t 9) 8, none⟩,
    ⟨some 11, .load none (.t 10), none⟩,
    ⟨some 12, .faddr (.t 3) 2, none⟩,
    ⟨some 13, .load none (.t 12), none⟩,
    ⟨some 14, .lookup false (.agg [.f (.int .i64 0), .f (.int .i64 0), .f (.bool false), .f (.int .i64 0), .sl0 5, .sl0 5, .sl0 2, .sl0 4, .sl0 4, .sl0 1]) (.t 11) (.t 13) true, none⟩,
    ⟨some 7, .mv (.t 14), none⟩,
    ⟨some 15, .extr (.t 7) 0, none⟩,
    ⟨some 16, .extr (.t 7) 1, none⟩,
    ⟨some 5, .new 10 [.f (.int .i64 0), .f (.int .i64 0), .f (.bool false), .f (.int .i64 0), .sl0 5, .sl0 5, .sl0 2, .sl0 4, .sl0 4, .sl0 1], none⟩,
    ⟨none, .store 10 (.t 5) (.t 15), none⟩,
    ⟨some 6, .mv (.t 16), none⟩] (some []) [0, 3, 4, 6])
  (.seq (.region [⟨some 17, .mv (.t 6), none⟩,
    ⟨some 18, .not (.t 17), none⟩] none [0, 3, 4, 18])
  (.cond (.t 18) (.seq (.seq (.region [⟨some 19, .mv (.t 0), none⟩,
      ⟨some 20, .nilchk (.t 19), none⟩,
      ⟨some 21, .faddr (.t 20) 8, none⟩,
      ⟨some 22, .load none (.t 21), none⟩,
      ⟨some 23, .len .mp (.t 22), none⟩,
      ⟨some 24, .bin .eql .val (.t 23) (.c (.f (.int .i64 128))), none⟩] none [0, 3, 4, 24])
    (.cond (.t 24) (.seq (.region [⟨some 25, .call N.shard_failed [(.c (.f (.int .i64 2)))], none⟩,
        ⟨none, .store 10 (.t 4) (.t 25), none⟩] none [4])
      (.ret))
    (.skip)))
    (.region [⟨some 26, .mv (.t 0), none⟩,
      ⟨some 27, .nilchk (.t 26), none⟩,
      ⟨some 28, .faddr (.t 27) 8, none⟩,
      ⟨some 29, .load none (.t 28), none⟩,
      ⟨some 30, .faddr (.t 3) 2, none⟩,
      ⟨some 31, .load none (.t 30), none⟩,
      ⟨some 32, .faddr (.t 3) 4, none⟩,
      ⟨some 33, .load none (.t 32), none⟩,
      ⟨some 34, .faddr (.t 3) 7, none⟩,
      ⟨some 35, .load none (.t 34), none⟩,
      ⟨some 36, .build [.f (.int .i64 0), .f (.int .i64 0), .f (.bool false), .f (.int .i64 0), .sl0 5, .sl0 5, .sl0 2, .sl0 4, .sl0 4, .sl0 1] [(2, 1, (.t 33)), (3, 1, (.t 35))], none⟩,
      ⟨none, .mapset false (.t 29) (.t 31) (.t 36), none⟩] (some []) [0, 3, 4]))
  (.skip))))
  (.seq (.region [⟨some 37, .mv (.t 0), none⟩,
    ⟨some 38, .nilchk (.t 37), none⟩,
    ⟨some 39, .faddr (.t 38) 8, none⟩,
    ⟨some 40, .load none (.t 39), none⟩,
    ⟨some 41, .faddr (.t 3) 2, none⟩,
    ⟨some 42, .load none (.t 41), none⟩,
    ⟨some 43, .lookup false (.agg [.f (.int .i64 0), .f (.int .i64 0), .f (.bool false), .f (.int .i64 0), .sl0 5, .sl0 5, .sl0 2, .sl0 4, .sl0 4, .sl0 1]) (.t 40) (.t 42) false, none⟩,
    ⟨none, .store 10 (.t 4) (.t 43), none⟩] (some []) [4])
  (.ret)))
def B.shard_Shard_freeze : AC :=
  .seq (.region [⟨some 3, .box (.t 1), none⟩,
    ⟨some 4, .new 10 [.f (.int .i64 0), .f (.int .i64 0), .f (.bool false), .f (.int .i64 0), .sl0 5, .sl0 5, .sl0 2, .sl0 4, .sl0 4, .sl0 1], none⟩] none [0, 3, 4])
  (.seq (.seq (.region [⟨some 14, .mv (.t 0), none⟩,
    ⟨some 15, .faddr (.t 3) 6, none⟩,
    ⟨some 16, .load none (.t 15), none⟩,
    ⟨some 17, .call N.shard_Shard_find [(.t 14), (.t 16)], none⟩,
    ⟨some 13, .mv (.t 17), none⟩,
    ⟨some 18, .extr (.t 13) 0, none⟩,
    ⟨some 19, .extr (.t 13) 1, none⟩,
    ⟨some 5, .new 3 [.f (.str .empty), .f (.int .i64 0), .f (.int .i64 0)], none⟩,
    ⟨none, .store 3 (.t 5) (.t 18), none⟩,
    ⟨some 6, .mv (.t 19), none⟩] none [0, 3, 4, 5])
  (.seq (.region [⟨some 20, .faddr (.t 5) 2, none⟩,
    ⟨some 21, .load none (.t 20), none⟩,
    ⟨some 22, .bin .neq .val (.t 21) (.c (.f (.int .i64 2))), none⟩,
    ⟨some 23, .mv (.t 22), none⟩,
    ⟨some 24, .faddr (.t 5) 1, some (23, false)⟩,
    ⟨some 25, .load none (.t 24), some (23, false)⟩,
    ⟨some 26, .faddr (.t 3) 7, some (23, false)⟩,
    ⟨some 27, .load none (.t 26), some (23, false)⟩,
    ⟨some 28, .bin .neq .val (.t 25) (.t 27), some (23, false)⟩,
    ⟨some 29, .pick (.t 23) (.c (.f (.bool true))) (.t 28), none⟩] none [0, 3, 4, 29])
  (.cond (.t 29) (.seq (.region [⟨some 31, .mv (.t 0), none⟩,
      ⟨some 32, .nilchk (.t 31), none⟩,
      ⟨some 33, .faddr (.t 32) 2, none⟩,
      ⟨some 34, .load none (.t 33), none⟩,
      ⟨some 35, .faddr (.t 3) 6, none⟩,
      ⟨some 36, .load none (.t 35), none⟩,
      ⟨some 37, .call N.owned_Freeze [(.t 34), (.t 36)], none⟩,
      ⟨some 30, .mv (.t 37), none⟩,
      ⟨some 38, .extr (.t 30) 0, none⟩,
      ⟨some 39, .extr (.t 30) 1, none⟩,
      ⟨some 7, .mv (.t 38), none⟩,
      ⟨some 8, .mv (.t 39), none⟩] (some []) [0, 3, 4, 7, 8])
    (.seq (.seq (.region [⟨some 40, .mv (.t 8), none⟩,
      ⟨some 41, .not (.t 40), none⟩] none [0, 3, 4, 7, 41])
    (.cond (.t 41) (.seq (.region [⟨some 42, .call N.shard_failed [(.c (.f (.int .i64 132)))], none⟩,
        ⟨none, .store 10 (.t 4) (.t 42), none⟩] none [4])
      (.ret))
    (.skip)))
    (.seq (.seq (.region [⟨some 43, .mv (.t 7), none⟩,
      ⟨some 44, .mv (.t 7), none⟩,
      ⟨some 45, .faddr (.t 3) 6, none⟩,
      ⟨some 46, .load none (.t 45), none⟩,
      ⟨some 47, .call N.owned_Of [(.t 44), (.t 46)], none⟩,
      ⟨some 48, .iaddr 3 none (.t 43) (.t 47), none⟩,
      ⟨some 49, .faddr (.t 48) 1, none⟩,
      ⟨some 50, .load none (.t 49), none⟩,
      ⟨some 51, .faddr (.t 3) 7, none⟩,
      ⟨some 52, .load none (.t 51), none⟩,
      ⟨some 53, .bin .neq .val (.t 50) (.t 52), none⟩] (some [(4, 9)]) [0, 3, 4, 7, 53])
    (.cond (.t 53) (.seq (.region [⟨some 54, .call N.shard_failed [(.c (.f (.int .i64 133)))], none⟩,
        ⟨none, .store 10 (.t 4) (.t 54), none⟩] none [4])
      (.ret))
    (.skip)))
    (.seq (.seq (.region [⟨some 55, .mv (.t 0), none⟩,
      ⟨some 56, .mv (.t 7), none⟩,
      ⟨some 57, .faddr (.t 3) 6, none⟩,
      ⟨some 58, .load none (.t 57), none⟩,
      ⟨some 59, .call N.shard_Shard_held [(.t 55), (.t 56), (.t 58)], none⟩] none [0, 3, 4, 7, 59])
    (.cond (.t 59) (.seq (.region [⟨some 60, .call N.shard_failed [(.c (.f (.int .i64 131)))], none⟩,
        ⟨none, .store 10 (.t 4) (.t 60), none⟩] none [4])
      (.ret))
    (.skip)))
    (.region [⟨some 61, .mv (.t 0), none⟩,
      ⟨some 62, .mv (.t 7), none⟩,
      ⟨some 63, .nilchk (.t 61), none⟩,
      ⟨some 64, .faddr (.t 63) 2, none⟩,
      ⟨none, .store 1 (.t 64) (.t 62), none⟩] none [0, 3, 4])))))
  (.skip))))
  (.seq (.region [⟨some 66, .mv (.t 0), none⟩,
    ⟨some 67, .faddr (.t 3) 6, none⟩,
    ⟨some 68, .load none (.t 67), none⟩,
    ⟨some 69, .call N.shard_Shard_find [(.t 66), (.t 68)], none⟩,
    ⟨some 65, .mv (.t 69), none⟩,
    ⟨some 70, .extr (.t 65) 0, none⟩,
    ⟨some 71, .extr (.t 65) 1, none⟩,
    ⟨some 9, .new 3 [.f (.str .empty), .f (.int .i64 0), .f (.int .i64 0)], none⟩,
    ⟨none, .store 3 (.t 9) (.t 70), none⟩,
    ⟨some 10, .mv (.t 71), none⟩] none [0, 3, 4, 9])
  (.seq (.region [⟨some 73, .mv (.t 0), none⟩,
    ⟨some 74, .nilchk (.t 73), none⟩,
    ⟨some 75, .faddr (.t 74) 0, none⟩,
    ⟨some 76, .load (some 2) (.t 75), none⟩,
    ⟨some 77, .mv (.t 0), none⟩,
    ⟨some 78, .nilchk (.t 77), none⟩,
    ⟨some 79, .faddr (.t 78) 2, none⟩,
    ⟨some 80, .load none (.t 79), none⟩,
    ⟨some 81, .faddr (.t 3) 6, none⟩,
    ⟨some 82, .load none (.t 81), none⟩,
    ⟨some 83, .call N.owned_Cut [(.t 76), (.t 80), (.t 82)], none⟩,
    ⟨some 72, .mv (.t 83), none⟩,
    ⟨some 84, .extr (.t 72) 0, none⟩,
    ⟨some 85, .extr (.t 72) 1, none⟩,
    ⟨some 11, .new 2 [.sl0 5, .sl0 2], none⟩,
    ⟨some 12, .new 2 [.sl0 5, .sl0 2], none⟩,
    ⟨none, .store 2 (.t 11) (.t 84), none⟩,
    ⟨none, .store 2 (.t 12) (.t 85), none⟩] (some []) [4, 9, 11])
  (.seq (.region [⟨some 86, .faddr (.t 9) 1, none⟩,
    ⟨some 87, .load none (.t 86), none⟩,
    ⟨some 88, .load (some 2) (.t 11), none⟩,
    ⟨some 89, .build [.f (.int .i64 0), .f (.int .i64 0), .f (.bool false), .f (.int .i64 0), .sl0 5, .sl0 5, .sl0 2, .sl0 4, .sl0 4, .sl0 1] [(3, 1, (.t 87)), (5, 2, (.t 88))], none⟩,
    ⟨none, .store 10 (.t 4) (.t 89), none⟩] none [4])
  (.ret)))))
def B.command_Right : AC :=
  .seq (.region [⟨some 1, .box (.t 0), none⟩,
    ⟨some 2, .mv (.c (.f (.bool false))), none⟩] none [1])
  (.seq (.region [⟨some 3, .mv (.c (.f (.int .i64 0))), none⟩] none [1, 3])
  (.seq (.seq (.region [⟨some 9, .faddr (.t 1) 5, none⟩,
    ⟨some 10, .load none (.t 9), none⟩,
    ⟨some 11, .len .sl (.t 10), none⟩,
    ⟨some 12, .mv (.c (.f (.int .i64 0))), none⟩] none [1, 3, 10, 11, 12])
  (.block 0 (.loop [1, 3, 10, 11, 12] [] (.seq (.region [⟨some 13, .bin .lss .val (.t 12) (.t 11), none⟩] none [1, 3, 10, 11, 12, 13])
      (.seq (.cond (.t 13) (.skip)
      (.exit 0))
      (.seq (.block 1 (.seq (.region [⟨some 14, .iaddr 8 none (.t 10) (.t 12), none⟩,
          ⟨some 15, .load (some 8) (.t 14), none⟩,
          ⟨some 5, .new 8 [.f (.int .i64 0), .f (.int .i64 0), .f (.str .empty), .f (.str .empty), .f (.str .empty), .f (.int .i64 0), .f (.int .i64 0), .f (.bool false)], none⟩,
          ⟨none, .store 8 (.t 5) (.t 15), none⟩] none [1, 3, 5, 10, 11, 12])
        (.seq (.seq (.region [⟨some 16, .faddr (.t 5) 0, none⟩,
          ⟨some 17, .load none (.t 16), none⟩,
          ⟨some 18, .mv (.t 3), none⟩,
          ⟨some 19, .bin .lss .val (.t 17) (.t 18), none⟩,
          ⟨some 20, .mv (.t 19), none⟩,
          ⟨some 21, .faddr (.t 5) 0, some (20, false)⟩,
          ⟨some 22, .load none (.t 21), some (20, false)⟩,
          ⟨some 23, .bin .geq .val (.t 22) (.c (.f (.int .i64 8))), some (20, false)⟩,
          ⟨some 24, .pick (.t 20) (.c (.f (.bool true))) (.t 23), none⟩,
          ⟨some 25, .mv (.t 24), none⟩,
          ⟨some 26, .faddr (.t 5) 1, some (25, false)⟩,
          ⟨some 27, .load (some 7) (.t 26), some (25, false)⟩,
          ⟨some 28, .call N.part_May [(.t 27)], some (25, false)⟩,
          ⟨some 29, .not (.t 28), some (25, false)⟩,
          ⟨some 30, .pick (.t 25) (.c (.f (.bool true))) (.t 29), none⟩,
          ⟨some 31, .mv (.t 30), none⟩,
          ⟨some 32, .faddr (.t 5) 1, some (31, false)⟩,
          ⟨some 33, .faddr (.t 32) 4, some (31, false)⟩,
          ⟨some 34, .load none (.t 33), some (31, false)⟩,
          ⟨some 35, .bin .geq .val (.t 34) (.c (.f (.int .i64 281474976710656))), some (31, false)⟩,
          ⟨some 36, .pick (.t 31) (.c (.f (.bool true))) (.t 35), none⟩] none [1, 5, 10, 11, 12, 36])
        (.cond (.t 36) (.seq (.region [⟨some 2, .mv (.c (.f (.bool false))), none⟩] none [2])
          (.ret))
        (.skip)))
        (.region [⟨some 37, .faddr (.t 5) 0, none⟩,
          ⟨some 38, .load none (.t 37), none⟩,
          ⟨some 3, .mv (.t 38), none⟩] none [1, 3, 10, 11, 12]))))
      (.region [⟨some 39, .bin .add .val (.t 12) (.c (.f (.int .i64 1))), none⟩,
        ⟨some 12, .mv (.t 39), none⟩] none [1, 3, 10, 11, 12])))))))
  (.seq (.seq (.region [⟨some 40, .faddr (.t 1) 11, none⟩,
    ⟨some 41, .load none (.t 40), none⟩,
    ⟨some 42, .len .sl (.t 41), none⟩,
    ⟨some 43, .mv (.c (.f (.int .i64 0))), none⟩] none [1, 41, 42, 43])
  (.block 2 (.loop [1, 41, 42, 43] [] (.seq (.region [⟨some 44, .bin .lss .val (.t 43) (.t 42), none⟩] none [1, 41, 42, 43, 44])
      (.seq (.cond (.t 44) (.skip)
      (.exit 2))
      (.seq (.block 3 (.seq (.region [⟨some 45, .mv (.t 43), none⟩,
          ⟨some 46, .iaddr 1 none (.t 41) (.t 43), none⟩,
          ⟨some 47, .load none (.t 46), none⟩,
          ⟨some 6, .mv (.t 45), none⟩,
          ⟨some 7, .mv (.t 47), none⟩] none [1, 6, 7, 41, 42, 43])
        (.seq (.region [⟨some 48, .mv (.t 7), none⟩,
          ⟨some 49, .faddr (.t 1) 6, none⟩,
          ⟨some 50, .load none (.t 49), none⟩,
          ⟨some 51, .call N.path_In [(.t 48), (.t 50)], none⟩,
          ⟨some 52, .not (.t 51), none⟩,
          ⟨some 53, .mv (.t 52), none⟩,
          ⟨some 54, .mv (.t 7), some (53, false)⟩,
          ⟨some 55, .faddr (.t 1) 6, some (53, false)⟩,
          ⟨some 56, .load none (.t 55), some (53, false)⟩,
          ⟨some 57, .bin .eql .val (.t 54) (.t 56), some (53, false)⟩,
          ⟨some 58, .pick (.t 53) (.c (.f (.bool true))) (.t 57), none⟩,
          ⟨some 59, .mv (.t 58), none⟩,
          ⟨some 60, .mv (.t 6), some (59, false)⟩,
          ⟨some 61, .bin .gtr .val (.t 60) (.c (.f (.int .i64 0))), some (59, false)⟩,
          ⟨some 62, .mv (.t 61), some (59, false)⟩,
          ⟨some 63, .faddr (.t 1) 11, some (62, true)⟩,
          ⟨some 64, .load none (.t 63), some (62, true)⟩,
          ⟨some 65, .mv (.t 6), some (62, true)⟩,
          ⟨some 66, .bin .sub .val (.t 65) (.c (.f (.int .i64 1))), some (62, true)⟩,
          ⟨some 67, .iaddr 1 none (.t 64) (.t 66), some (62, true)⟩,
          ⟨some 68, .load none (.t 67), some (62, true)⟩,
          ⟨some 69, .mv (.t 7), some (62, true)⟩,
          ⟨some 70, .bin .geq .val (.t 68) (.t 69), some (62, true)⟩,
          ⟨some 71, .pick (.t 62) (.t 70) (.c (.f (.bool false))), some (59, false)⟩,
          ⟨some 72, .pick (.t 59) (.c (.f (.bool true))) (.t 71), none⟩] none [1, 41, 42, 43, 72])
        (.cond (.t 72) (.seq (.region [⟨some 2, .mv (.c (.f (.bool false))), none⟩] none [2])
          (.ret))
        (.skip)))))
      (.region [⟨some 73, .bin .add .val (.t 43) (.c (.f (.int .i64 1))), none⟩,
        ⟨some 43, .mv (.t 73), none⟩] none [1, 41, 42, 43])))))))
  (.seq (.region [⟨some 74, .faddr (.t 1) 0, none⟩,
    ⟨some 75, .load none (.t 74), none⟩,
    ⟨some 76, .bin .geq .val (.t 75) (.c (.f (.int .i64 1))), none⟩,
    ⟨some 77, .mv (.t 76), none⟩,
    ⟨some 78, .faddr (.t 1) 0, some (77, true)⟩,
    ⟨some 79, .load none (.t 78), some (77, true)⟩,
    ⟨some 80, .bin .leq .val (.t 79) (.c (.f (.int .i64 13))), some (77, true)⟩,
    ⟨some 81, .pick (.t 77) (.t 80) (.c (.f (.bool false))), none⟩,
    ⟨some 82, .mv (.t 81), none⟩,
    ⟨some 83, .faddr (.t 1) 8, some (82, true)⟩,
    ⟨some 84, .load none (.t 83), some (82, true)⟩,
    ⟨some 85, .bin .geq .val (.t 84) (.c (.f (.int .i64 0))), some (82, true)⟩,
    ⟨some 86, .pick (.t 82) (.t 85) (.c (.f (.bool false))), none⟩,
    ⟨some 87, .mv (.t 86), none⟩,
    ⟨some 88, .faddr (.t 1) 8, some (87, true)⟩,
    ⟨some 89, .load none (.t 88), some (87, true)⟩,
    ⟨some 90, .bin .lss .val (.t 89) (.c (.f (.int .i64 4))), some (87, true)⟩,
    ⟨some 91, .pick (.t 87) (.t 90) (.c (.f (.bool false))), none⟩,
    ⟨some 92, .mv (.t 91), none⟩,
    ⟨some 93, .faddr (.t 1) 5, some (92, true)⟩,
    ⟨some 94, .load none (.t 93), some (92, true)⟩,
    ⟨some 95, .len .sl (.t 94), some (92, true)⟩,
    ⟨some 96, .bin .leq .val (.t 95) (.c (.f (.int .i64 16))), some (92, true)⟩,
    ⟨some 97, .pick (.t 92) (.t 96) (.c (.f (.bool false))), none⟩,
    ⟨some 8, .mv (.t 97), none⟩] none [1, 8])
  (.seq (.region [⟨some 98, .mv (.t 8), none⟩,
    ⟨some 99, .mv (.t 98), none⟩,
    ⟨some 100, .faddr (.t 1) 1, some (99, true)⟩,
    ⟨some 101, .load none (.t 100), some (99, true)⟩,
    ⟨some 102, .faddr (.t 1) 2, some (99, true)⟩,
    ⟨some 103, .load none (.t 102), some (99, true)⟩,
    ⟨some 104, .faddr (.t 1) 3, some (99, true)⟩,
    ⟨some 105, .load none (.t 104), some (99, true)⟩,
    ⟨some 106, .faddr (.t 1) 7, some (99, true)⟩,
    ⟨some 107, .load none (.t 106), some (99, true)⟩,
    ⟨some 108, .faddr (.t 1) 12, some (99, true)⟩,
    ⟨some 109, .faddr (.t 108) 0, some (99, true)⟩,
    ⟨some 110, .load none (.t 109), some (99, true)⟩,
    ⟨some 111, .faddr (.t 1) 12, some (99, true)⟩,
    ⟨some 112, .faddr (.t 111) 1, some (99, true)⟩,
    ⟨some 113, .load none (.t 112), some (99, true)⟩,
    ⟨some 114, .bslice 1 [(.t 101), (.t 103), (.t 105), (.t 107), (.t 110), (.t 113)], some (99, true)⟩,
    ⟨some 115, .call N.command_number [(.t 114)], some (99, true)⟩,
    ⟨some 116, .pick (.t 99) (.t 115) (.c (.f (.bool false))), none⟩,
    ⟨some 117, .mv (.t 116), none⟩,
    ⟨some 118, .faddr (.t 1) 6, some (117, true)⟩,
    ⟨some 119, .load none (.t 118), some (117, true)⟩,
    ⟨some 120, .call N.command_empty [(.t 119)], some (117, true)⟩,
    ⟨some 121, .pick (.t 117) (.t 120) (.c (.f (.bool false))), none⟩,
    ⟨some 122, .mv (.t 121), none⟩,
    ⟨some 123, .faddr (.t 1) 12, some (122, true)⟩,
    ⟨some 124, .faddr (.t 123) 2, some (122, true)⟩,
    ⟨some 125, .load none (.t 124), some (122, true)⟩,
    ⟨some 126, .call N.command_empty [(.t 125)], some (122, true)⟩,
    ⟨some 127, .pick (.t 122) (.t 126) (.c (.f (.bool false))), none⟩,
    ⟨some 8, .mv (.t 127), none⟩] none [1, 8])
  (.seq (.region [⟨some 128, .mv (.t 8), none⟩,
    ⟨some 129, .mv (.t 128), none⟩,
    ⟨some 130, .faddr (.t 1) 11, some (129, true)⟩,
    ⟨some 131, .load none (.t 130), some (129, true)⟩,
    ⟨some 132, .len .sl (.t 131), some (129, true)⟩,
    ⟨some 133, .bin .leq .val (.t 132) (.c (.f (.int .i64 32))), some (129, true)⟩,
    ⟨some 134, .pick (.t 129) (.t 133) (.c (.f (.bool false))), none⟩,
    ⟨some 135, .mv (.t 134), none⟩,
    ⟨some 136, .faddr (.t 1) 9, some (135, true)⟩,
    ⟨some 137, .load (some 2) (.t 136), some (135, true)⟩,
    ⟨some 138, .call N.part_Right [(.t 137)], some (135, true)⟩,
    ⟨some 139, .pick (.t 135) (.t 138) (.c (.f (.bool false))), none⟩,
    ⟨some 140, .mv (.t 139), none⟩,
    ⟨some 141, .faddr (.t 1) 9, some (140, true)⟩,
    ⟨some 142, .faddr (.t 141) 0, some (140, true)⟩,
    ⟨some 143, .load none (.t 142), some (140, true)⟩,
    ⟨some 144, .len .sl (.t 143), some (140, true)⟩,
    ⟨some 145, .bin .leq .val (.t 144) (.c (.f (.int .i64 512))), some (140, true)⟩,
    ⟨some 146, .pick (.t 140) (.t 145) (.c (.f (.bool false))), none⟩,
    ⟨some 147, .mv (.t 146), none⟩,
    ⟨some 148, .faddr (.t 1) 9, some (147, true)⟩,
    ⟨some 149, .faddr (.t 148) 1, some (147, true)⟩,
    ⟨some 150, .load none (.t 149), some (147, true)⟩,
    ⟨some 151, .len .sl (.t 150), some (147, true)⟩,
    ⟨some 152, .bin .leq .val (.t 151) (.c (.f (.int .i64 512))), some (147, true)⟩,
    ⟨some 153, .pick (.t 147) (.t 152) (.c (.f (.bool false))), none⟩,
    ⟨some 2, .mv (.t 153), none⟩] none [2])
  (.ret)))))))
def B.shard_failed : AC :=
  .seq (.region [⟨some 2, .new 10 [.f (.int .i64 0), .f (.int .i64 0), .f (.bool false), .f (.int .i64 0), .sl0 5, .sl0 5, .sl0 2, .sl0 4, .sl0 4, .sl0 1], none⟩] none [0, 2])
  (.seq (.region [⟨some 3, .mv (.t 0), none⟩,
    ⟨some 4, .build [.f (.int .i64 0), .f (.int .i64 0), .f (.bool false), .f (.int .i64 0), .sl0 5, .sl0 5, .sl0 2, .sl0 4, .sl0 4, .sl0 1] [(0, 1, (.t 3))], none⟩,
    ⟨none, .store 10 (.t 2) (.t 4), none⟩] none [2])
  (.ret))
def B.shard_Shard_once : AC :=
  .seq (.region [⟨some 4, .box (.t 1), none⟩,
    ⟨some 6, .new 10 [.f (.int .i64 0), .f (.int .i64 0), .f (.bool false), .f (.int .i64 0), .sl0 5, .sl0 5, .sl0 2, .sl0 4, .sl0 4, .sl0 1], none⟩] none [0, 2, 4, 6])
  (.seq (.seq (.region [⟨some 11, .mv (.t 0), none⟩,
    ⟨some 12, .nilchk (.t 11), none⟩,
    ⟨some 13, .faddr (.t 12) 6, none⟩,
    ⟨some 14, .load none (.t 13), none⟩,
    ⟨some 15, .faddr (.t 4) 1, none⟩,
    ⟨some 16, .load none (.t 15), none⟩,
    ⟨some 17, .lookup false (.agg [.f (.int .i64 0), .f (.int .i64 0), .f (.bool false), .f (.int .i64 0), .sl0 5, .sl0 5, .sl0 2, .sl0 4, .sl0 4, .sl0 1]) (.t 14) (.t 16) true, none⟩,
    ⟨some 10, .mv (.t 17), none⟩,
    ⟨some 18, .extr (.t 10) 0, none⟩,
    ⟨some 19, .extr (.t 10) 1, none⟩,
    ⟨some 7, .new 10 [.f (.int .i64 0), .f (.int .i64 0), .f (.bool false), .f (.int .i64 0), .sl0 5, .sl0 5, .sl0 2, .sl0 4, .sl0 4, .sl0 1], none⟩,
    ⟨none, .store 10 (.t 7) (.t 18), none⟩,
    ⟨some 8, .mv (.t 19), none⟩] (some []) [0, 2, 4, 6, 7, 8])
  (.seq (.region [⟨some 20, .mv (.t 8), none⟩] none [0, 2, 4, 6, 7, 20])
  (.cond (.t 20) (.seq (.region [⟨some 21, .load (some 10) (.t 7), none⟩,
      ⟨none, .store 10 (.t 6) (.t 21), none⟩] none [6])
    (.ret))
  (.skip))))
  (.seq (.seq (.region [⟨some 22, .faddr (.t 4) 1, none⟩,
    ⟨some 23, .load none (.t 22), none⟩,
    ⟨some 24, .bin .neq .val (.t 23) (.c (.f (.int .i64 0))), none⟩,
    ⟨some 25, .mv (.t 24), none⟩,
    ⟨some 26, .mv (.t 0), some (25, true)⟩,
    ⟨some 27, .nilchk (.t 26), some (25, true)⟩,
    ⟨some 28, .faddr (.t 27) 6, some (25, true)⟩,
    ⟨some 29, .load none (.t 28), some (25, true)⟩,
    ⟨some 30, .len .mp (.t 29), some (25, true)⟩,
    ⟨some 31, .bin .eql .val (.t 30) (.c (.f (.int .i64 512))), some (25, true)⟩,
    ⟨some 32, .pick (.t 25) (.t 31) (.c (.f (.bool false))), none⟩] none [0, 2, 4, 6, 32])
  (.cond (.t 32) (.seq (.region [⟨some 33, .call N.shard_failed [(.c (.f (.int .i64 2)))], none⟩,
      ⟨none, .store 10 (.t 6) (.t 33), none⟩] none [6])
    (.ret))
  (.skip)))
  (.seq (.region [⟨some 34, .mv (.t 2), none⟩,
    ⟨some 35, .mv (.t 0), none⟩,
    ⟨some 36, .load (some 16) (.t 4), none⟩,
    ⟨some 37, .callv (.t 34) [(.t 35), (.t 36)], none⟩,
    ⟨some 9, .new 10 [.f (.int .i64 0), .f (.int .i64 0), .f (.bool false), .f (.int .i64 0), .sl0 5, .sl0 5, .sl0 2, .sl0 4, .sl0 4, .sl0 1], none⟩,
    ⟨none, .store 10 (.t 9) (.t 37), none⟩] none [0, 4, 6, 9])
  (.seq (.seq (.region [⟨some 38, .faddr (.t 4) 1, none⟩,
    ⟨some 39, .load none (.t 38), none⟩,
    ⟨some 40, .bin .neq .val (.t 39) (.c (.f (.int .i64 0))), none⟩,
    ⟨some 41, .mv (.t 40), none⟩,
    ⟨some 42, .faddr (.t 9) 0, some (41, true)⟩,
    ⟨some 43, .load none (.t 42), some (41, true)⟩,
    ⟨some 44, .bin .neq .val (.t 43) (.c (.f (.int .i64 131))), some (41, true)⟩,
    ⟨some 45, .pick (.t 41) (.t 44) (.c (.f (.bool false))), none⟩,
    ⟨some 46, .mv (.t 45), none⟩,
    ⟨some 47, .faddr (.t 9) 0, some (46, true)⟩,
    ⟨some 48, .load none (.t 47), some (46, true)⟩,
    ⟨some 49, .bin .neq .val (.t 48) (.c (.f (.int .i64 132))), some (46, true)⟩,
    ⟨some 50, .pick (.t 46) (.t 49) (.c (.f (.bool false))), none⟩] none [0, 4, 6, 9, 50])
  (.cond (.t 50) (.region [⟨some 51, .mv (.t 0), none⟩,
      ⟨some 52, .nilchk (.t 51), none⟩,
      ⟨some 53, .faddr (.t 52) 6, none⟩,
      ⟨some 54, .load none (.t 53), none⟩,
      ⟨some 55, .faddr (.t 4) 1, none⟩,
      ⟨some 56, .load none (.t 55), none⟩,
      ⟨some 57, .load (some 10) (.t 9), none⟩,
      ⟨none, .mapset false (.t 54) (.t 56) (.t 57), none⟩] (some []) [6, 9])
  (.skip)))
  (.seq (.region [⟨some 58, .load (some 10) (.t 9), none⟩,
    ⟨none, .store 10 (.t 6) (.t 58), none⟩] none [6])
  (.ret))))))
def B.multi_Of : AC :=
  .seq (.region [⟨some 2, .mv (.c (.sl0 8)), none⟩] none [0])
  (.seq (.seq (.region [⟨some 8, .mv (.t 0), none⟩,
    ⟨some 9, .call N.multi_May [(.t 8)], none⟩,
    ⟨some 10, .not (.t 9), none⟩] none [0, 10])
  (.cond (.t 10) (.seq (.region [⟨some 2, .mv (.c (.sl0 8)), none⟩] none [2])
    (.ret))
  (.skip)))
  (.seq (.region [⟨some 3, .mv (.c (.sl0 8)), none⟩] none [0, 3])
  (.seq (.seq (.region [⟨some 11, .mv (.t 0), none⟩,
    ⟨some 12, .len .sl (.t 11), none⟩,
    ⟨some 13, .mv (.c (.f (.int .i64 0))), none⟩] none [3, 11, 12, 13])
  (.block 0 (.loop [3, 11, 12, 13] [3] (.seq (.region [⟨some 14, .bin .lss .val (.t 13) (.t 12), none⟩] none [3, 11, 12, 13, 14])
      (.seq (.cond (.t 14) (.skip)
      (.exit 0))
      (.seq (.block 1 (.seq (.region [⟨some 15, .mv (.t 13), none⟩,
          ⟨some 16, .iaddr 6 none (.t 11) (.t 13), none⟩,
          ⟨some 17, .load (some 6) (.t 16), none⟩,
          ⟨some 5, .new 6 [.f (.int .i64 0), .f (.str .empty), .f (.str .empty), .f (.int .i64 0), .f (.int .i64 0), .f (.bool false)], none⟩,
          ⟨some 4, .mv (.t 15), none⟩,
          ⟨none, .store 6 (.t 5) (.t 17), none⟩] none [3, 4, 5, 11, 12, 13])
        (.seq (.region [⟨some 18, .load (some 6) (.t 5), none⟩,
          ⟨some 19, .call N.part_Of [(.t 18)], none⟩,
          ⟨some 20, .len .sl (.t 19), none⟩,
          ⟨some 21, .mv (.c (.f (.int .i64 0))), none⟩] none [3, 4, 11, 12, 13, 19, 20, 21])
        (.block 2 (.loop [3, 4, 11, 12, 13, 19, 20, 21] [3] (.seq (.region [⟨some 22, .bin .lss .val (.t 21) (.t 20), none⟩] none [3, 4, 11, 12, 13, 19, 20, 21, 22])
            (.seq (.cond (.t 22) (.skip)
            (.exit 2))
            (.seq (.block 3 (.seq (.region [⟨some 23, .iaddr 7 none (.t 19) (.t 21), none⟩,
                ⟨some 24, .load (some 7) (.t 23), none⟩,
                ⟨some 7, .new 7 [.f (.int .i64 0), .f (.str .empty), .f (.str .empty), .f (.str .empty), .f (.int .i64 0), .f (.int .i64 0), .f (.bool false)], none⟩,
                ⟨none, .store 7 (.t 7) (.t 24), none⟩] none [3, 4, 7, 11, 12, 13, 19, 20, 21])
              (.region [⟨some 25, .mv (.t 3), none⟩,
                ⟨some 26, .mv (.t 4), none⟩,
                ⟨some 27, .load (some 7) (.t 7), none⟩,
                ⟨some 28, .build [.f (.int .i64 0), .f (.int .i64 0), .f (.str .empty), .f (.str .empty), .f (.str .empty), .f (.int .i64 0), .f (.int .i64 0), .f (.bool false)] [(0, 1, (.t 26)), (1, 7, (.t 27))], none⟩,
                ⟨some 29, .bslice 8 [(.t 28)], none⟩,
                ⟨some 30, .append 8 88 (.t 25) (.t 29), none⟩,
                ⟨some 3, .mv (.t 30), none⟩] none [3, 4, 11, 12, 13, 19, 20, 21])))
            (.region [⟨some 31, .bin .add .val (.t 21) (.c (.f (.int .i64 1))), none⟩,
              ⟨some 21, .mv (.t 31), none⟩] none [3, 4, 11, 12, 13, 19, 20, 21])))))))))
      (.region [⟨some 32, .bin .add .val (.t 13) (.c (.f (.int .i64 1))), none⟩,
        ⟨some 13, .mv (.t 32), none⟩] none [3, 11, 12, 13])))))))
  (.seq (.region [⟨some 33, .mv (.t 3), none⟩,
    ⟨some 2, .mv (.t 33), none⟩] none [2])
  (.ret)))))
def B.part_Right : AC :=
  .seq (.region [⟨some 1, .box (.t 0), none⟩,
    ⟨some 2, .mv (.c (.f (.bool false))), none⟩] none [1])
  (.seq (.region [⟨some 5, .faddr (.t 1) 0, none⟩,
    ⟨some 6, .load none (.t 5), none⟩,
    ⟨some 7, .call N.slices_ContainsFunc_Node [(.t 6), (.c (.fn (.func N.part_Right_c1) [] []))], none⟩,
    ⟨some 3, .mv (.t 7), none⟩] none [1, 3])
  (.seq (.region [⟨some 8, .faddr (.t 1) 1, none⟩,
    ⟨some 9, .load none (.t 8), none⟩,
    ⟨some 10, .call N.slices_ContainsFunc_Turn [(.t 9), (.c (.fn (.func N.part_Right_c2) [] []))], none⟩,
    ⟨some 4, .mv (.t 10), none⟩] none [1, 3, 4])
  (.seq (.region [⟨some 11, .mv (.t 3), none⟩,
    ⟨some 12, .not (.t 11), none⟩,
    ⟨some 13, .mv (.t 12), none⟩,
    ⟨some 14, .mv (.t 4), some (13, true)⟩,
    ⟨some 15, .not (.t 14), some (13, true)⟩,
    ⟨some 16, .pick (.t 13) (.t 15) (.c (.f (.bool false))), none⟩,
    ⟨some 17, .mv (.t 16), none⟩,
    ⟨some 18, .faddr (.t 1) 0, some (17, true)⟩,
    ⟨some 19, .load none (.t 18), some (17, true)⟩,
    ⟨some 20, .call N.part_rising_Node [(.t 19), (.c (.fn (.func N.part_Right_c3) [] []))], some (17, true)⟩,
    ⟨some 21, .pick (.t 17) (.t 20) (.c (.f (.bool false))), none⟩,
    ⟨some 22, .mv (.t 21), none⟩,
    ⟨some 23, .faddr (.t 1) 1, some (22, true)⟩,
    ⟨some 24, .load none (.t 23), some (22, true)⟩,
    ⟨some 25, .call N.part_rising_Turn [(.t 24), (.c (.fn (.func N.part_Right_c4) [] []))], some (22, true)⟩,
    ⟨some 26, .pick (.t 22) (.t 25) (.c (.f (.bool false))), none⟩,
    ⟨some 2, .mv (.t 26), none⟩] none [2])
  (.ret))))
def B.owned_Right : AC :=
  .seq (.region [⟨some 2, .mv (.c (.f (.bool false))), none⟩] none [0])
  (.seq (.seq (.region [⟨some 5, .mv (.t 0), none⟩,
    ⟨some 6, .len .sl (.t 5), none⟩,
    ⟨some 7, .mv (.c (.f (.int .i64 0))), none⟩] none [0, 5, 6, 7])
  (.block 0 (.loop [0, 5, 6, 7] [] (.seq (.region [⟨some 8, .bin .lss .val (.t 7) (.t 6), none⟩] none [0, 5, 6, 7, 8])
      (.seq (.cond (.t 8) (.skip)
      (.exit 0))
      (.seq (.block 1 (.seq (.region [⟨some 9, .mv (.t 7), none⟩,
          ⟨some 10, .iaddr 3 none (.t 5) (.t 7), none⟩,
          ⟨some 11, .load (some 3) (.t 10), none⟩,
          ⟨some 4, .new 3 [.f (.str .empty), .f (.int .i64 0), .f (.int .i64 0)], none⟩,
          ⟨some 3, .mv (.t 9), none⟩,
          ⟨none, .store 3 (.t 4) (.t 11), none⟩] none [0, 3, 4, 5, 6, 7])
        (.seq (.region [⟨some 12, .faddr (.t 4) 0, none⟩,
          ⟨some 13, .load none (.t 12), none⟩,
          ⟨some 14, .call N.path_Right [(.t 13)], none⟩,
          ⟨some 15, .not (.t 14), none⟩,
          ⟨some 16, .mv (.t 15), none⟩,
          ⟨some 17, .faddr (.t 4) 1, some (16, false)⟩,
          ⟨some 18, .load none (.t 17), some (16, false)⟩,
          ⟨some 19, .bin .lss .val (.t 18) (.c (.f (.int .i64 0))), some (16, false)⟩,
          ⟨some 20, .pick (.t 16) (.c (.f (.bool true))) (.t 19), none⟩,
          ⟨some 21, .mv (.t 20), none⟩,
          ⟨some 22, .faddr (.t 4) 1, some (21, false)⟩,
          ⟨some 23, .load none (.t 22), some (21, false)⟩,
          ⟨some 24, .bin .gtr .val (.t 23) (.c (.f (.int .i64 281474976710656))), some (21, false)⟩,
          ⟨some 25, .pick (.t 21) (.c (.f (.bool true))) (.t 24), none⟩,
          ⟨some 26, .mv (.t 25), none⟩,
          ⟨some 27, .faddr (.t 4) 2, some (26, false)⟩,
          ⟨some 28, .load none (.t 27), some (26, false)⟩,
          ⟨some 29, .bin .lss .val (.t 28) (.c (.f (.int .i64 1))), some (26, false)⟩,
          ⟨some 30, .pick (.t 26) (.c (.f (.bool true))) (.t 29), none⟩,
          ⟨some 31, .mv (.t 30), none⟩,
          ⟨some 32, .faddr (.t 4) 2, some (31, false)⟩,
          ⟨some 33, .load none (.t 32), some (31, false)⟩,
          ⟨some 34, .bin .gtr .val (.t 33) (.c (.f (.int .i64 3))), some (31, false)⟩,
          ⟨some 35, .pick (.t 31) (.c (.f (.bool true))) (.t 34), none⟩,
          ⟨some 36, .mv (.t 35), none⟩,
          ⟨some 37, .mv (.t 3), some (36, false)⟩,
          ⟨some 38, .bin .gtr .val (.t 37) (.c (.f (.int .i64 0))), some (36, false)⟩,
          ⟨some 39, .mv (.t 38), some (36, false)⟩,
          ⟨some 40, .mv (.t 0), some (39, true)⟩,
          ⟨some 41, .mv (.t 3), some (39, true)⟩,
          ⟨some 42, .bin .sub .val (.t 41) (.c (.f (.int .i64 1))), some (39, true)⟩,
          ⟨some 43, .iaddr 3 none (.t 40) (.t 42), some (39, true)⟩,
          ⟨some 44, .faddr (.t 43) 0, some (39, true)⟩,
          ⟨some 45, .load none (.t 44), some (39, true)⟩,
          ⟨some 46, .faddr (.t 4) 0, some (39, true)⟩,
          ⟨some 47, .load none (.t 46), some (39, true)⟩,
          ⟨some 48, .bin .geq .val (.t 45) (.t 47), some (39, true)⟩,
          ⟨some 49, .pick (.t 39) (.t 48) (.c (.f (.bool false))), some (36, false)⟩,
          ⟨some 50, .pick (.t 36) (.c (.f (.bool true))) (.t 49), none⟩] (some []) [0, 5, 6, 7, 50])
        (.cond (.t 50) (.seq (.region [⟨some 2, .mv (.c (.f (.bool false))), none⟩] none [2])
          (.ret))
        (.skip)))))
      (.region [⟨some 51, .bin .add .val (.t 7) (.c (.f (.int .i64 1))), none⟩,
        ⟨some 7, .mv (.t 51), none⟩] none [0, 5, 6, 7])))))))
  (.seq (.region [⟨some 52, .mv (.t 0), none⟩,
    ⟨some 53, .len .sl (.t 52), none⟩,
    ⟨some 54, .bin .leq .val (.t 53) (.c (.f (.int .i64 32))), none⟩,
    ⟨some 2, .mv (.t 54), none⟩] none [2])
  (.ret)))
def B.locks_Dirs : AC :=
  .seq (.region [⟨some 2, .mv (.c (.sl0 1)), none⟩] none [0])
  (.seq (.region [⟨some 3, .mv (.c (.sl0 1)), none⟩] none [0, 3])
  (.seq (.seq (.region [⟨some 6, .mv (.t 0), none⟩,
    ⟨some 7, .len .sl (.t 6), none⟩,
    ⟨some 8, .mv (.c (.f (.int .i64 0))), none⟩] none [3, 6, 7, 8])
  (.block 0 (.loop [3, 6, 7, 8] [3] (.seq (.region [⟨some 9, .bin .lss .val (.t 8) (.t 7), none⟩] none [3, 6, 7, 8, 9])
      (.seq (.cond (.t 9) (.skip)
      (.exit 0))
      (.seq (.block 1 (.seq (.region [⟨some 10, .iaddr 8 none (.t 6) (.t 8), none⟩,
          ⟨some 11, .load (some 8) (.t 10), none⟩,
          ⟨some 5, .new 8 [.f (.int .i64 0), .f (.int .i64 0), .f (.str .empty), .f (.str .empty), .f (.str .empty), .f (.int .i64 0), .f (.int .i64 0), .f (.bool false)], none⟩,
          ⟨none, .store 8 (.t 5) (.t 11), none⟩] none [3, 5, 6, 7, 8])
        (.region [⟨some 12, .mv (.t 3), none⟩,
          ⟨some 13, .faddr (.t 5) 1, none⟩,
          ⟨some 14, .faddr (.t 13) 1, none⟩,
          ⟨some 15, .load none (.t 14), none⟩,
          ⟨some 16, .bslice 1 [(.t 15)], none⟩,
          ⟨some 17, .append 1 16 (.t 12) (.t 16), none⟩,
          ⟨some 3, .mv (.t 17), none⟩] none [3, 6, 7, 8])))
      (.region [⟨some 18, .bin .add .val (.t 8) (.c (.f (.int .i64 1))), none⟩,
        ⟨some 8, .mv (.t 18), none⟩] none [3, 6, 7, 8])))))))
  (.seq (.region [⟨some 19, .mv (.t 3), none⟩,
    ⟨some 20, .call N.slices_Sort_string [(.t 19)], none⟩] none [3])
  (.seq (.region [⟨some 21, .mv (.t 3), none⟩,
    ⟨some 22, .call N.slices_Compact_string [(.t 21)], none⟩,
    ⟨some 2, .mv (.t 22), none⟩] none [2])
  (.ret)))))
def G.slices_ContainsFunc_21 (p0 : Nat) : AC :=
  .seq (.region [⟨some 4, .mv (.c (.f (.bool false))), none⟩] none [0, 1])
  (.seq (.region [⟨some 5, .mv (.t 0), none⟩,
    ⟨some 6, .mv (.t 1), none⟩,
    ⟨some 7, .call p0 [(.t 5), (.t 6)], none⟩,
    ⟨some 8, .bin .geq .val (.t 7) (.c (.f (.int .i64 0))), none⟩,
    ⟨some 4, .mv (.t 8), none⟩] none [4])
  (.ret))
def B.slices_ContainsFunc_string : AC := G.slices_ContainsFunc_21 N.slices_IndexFunc_string
def B.slices_ContainsFunc_Node : AC := G.slices_ContainsFunc_21 N.slices_IndexFunc_Node
def B.slices_ContainsFunc_Turn : AC := G.slices_ContainsFunc_21 N.slices_IndexFunc_Turn
def B.slices_ContainsFunc_Hold : AC := G.slices_ContainsFunc_21 N.slices_IndexFunc_Hold
def B.slices_ContainsFunc_Op : AC := G.slices_ContainsFunc_21 N.slices_IndexFunc_Op
def B.slices_ContainsFunc_Watch : AC := G.slices_ContainsFunc_21 N.slices_IndexFunc_Watch
def B.slices_ContainsFunc_Session : AC := G.slices_ContainsFunc_21 N.slices_IndexFunc_Session
def B.shard_Shard_run_c1 : AC :=
  .seq (.region [⟨some 3, .mv (.c (.f (.bool false))), none⟩] none [0, 1])
  (.seq (.region [⟨some 7, .load none (.t 1), none⟩,
    ⟨some 8, .nilchk (.t 7), none⟩,
    ⟨some 9, .faddr (.t 8) 3, none⟩,
    ⟨some 10, .load none (.t 9), none⟩,
    ⟨some 11, .mv (.t 0), none⟩,
    ⟨some 12, .call N.locks_Held [(.t 10), (.t 11)], none⟩,
    ⟨some 6, .mv (.t 12), none⟩,
    ⟨some 13, .extr (.t 6) 0, none⟩,
    ⟨some 14, .extr (.t 6) 1, none⟩,
    ⟨some 4, .mv (.t 13), none⟩,
    ⟨some 5, .mv (.t 14), none⟩] none [5])
  (.seq (.region [⟨some 15, .mv (.t 5), none⟩,
    ⟨some 3, .mv (.t 15), none⟩] none [3])
  (.ret)))
def B.locks_Held : AC :=
  .seq (.region [⟨some 3, .box (.t 1), none⟩,
    ⟨some 4, .mv (.c (.f (.int .i64 0))), none⟩,
    ⟨some 5, .mv (.c (.f (.bool false))), none⟩] none [0, 3])
  (.seq (.region [⟨some 7, .mv (.t 0), none⟩,
    ⟨some 8, .mkfn (.func N.locks_Held_c1) [] [(.t 3)], none⟩,
    ⟨some 9, .call N.slices_IndexFunc_Hold [(.t 7), (.t 8)], none⟩,
    ⟨some 6, .mv (.t 9), none⟩] none [0, 6])
  (.seq (.seq (.region [⟨some 10, .mv (.t 6), none⟩,
    ⟨some 11, .bin .lss .val (.t 10) (.c (.f (.int .i64 0))), none⟩] none [0, 6, 11])
  (.cond (.t 11) (.seq (.region [⟨some 4, .mv (.c (.f (.int .i64 0))), none⟩,
      ⟨some 5, .mv (.c (.f (.bool false))), none⟩] none [4, 5])
    (.ret))
  (.skip)))
  (.seq (.region [⟨some 12, .mv (.t 0), none⟩,
    ⟨some 13, .mv (.t 6), none⟩,
    ⟨some 14, .iaddr 3 none (.t 12) (.t 13), none⟩,
    ⟨some 15, .faddr (.t 14) 1, none⟩,
    ⟨some 16, .load none (.t 15), none⟩,
    ⟨some 4, .mv (.t 16), none⟩,
    ⟨some 5, .mv (.c (.f (.bool true))), none⟩] none [4, 5])
  (.ret))))
def B.shard_Shard_where : AC :=
  .seq (.region [⟨some 2, .box (.t 0), none⟩,
    ⟨some 3, .box (.t 1), none⟩,
    ⟨some 4, .mv (.c (.f (.int .i64 0))), none⟩] none [2, 3])
  (.seq (.region [⟨some 6, .mkfn (.func N.shard_Shard_where_c1) [] [(.t 3), (.t 2)], none⟩,
    ⟨some 5, .mv (.t 6), none⟩] none [5])
  (.seq (.block 0 (.seq (.region [⟨some 8, .mv (.t 5), none⟩,
      ⟨some 9, .callv (.t 8) [(.c (.f (.int .i64 3)))], none⟩,
      ⟨some 7, .mv (.t 9), none⟩] none [5, 7])
    (.cond (.t 7) (.seq (.region [⟨some 4, .mv (.c (.f (.int .i64 132))), none⟩] none [4])
      (.ret))
    (.seq (.region [⟨some 11, .mv (.t 5), none⟩,
        ⟨some 12, .callv (.t 11) [(.c (.f (.int .i64 2)))], none⟩,
        ⟨some 10, .mv (.t 12), none⟩] none [10])
      (.cond (.t 10) (.seq (.region [⟨some 4, .mv (.c (.f (.int .i64 131))), none⟩] none [4])
        (.ret))
      (.skip))))))
  (.seq (.region [⟨some 4, .mv (.c (.f (.int .i64 0))), none⟩] none [4])
  (.ret))))
def B.shard_Shard_all : AC :=
  .seq (.region [⟨some 4, .new 10 [.f (.int .i64 0), .f (.int .i64 0), .f (.bool false), .f (.int .i64 0), .sl0 5, .sl0 5, .sl0 2, .sl0 4, .sl0 4, .sl0 1], none⟩] none [0, 1, 4])
  (.seq (.region [⟨some 10, .mv (.t 0), none⟩,
    ⟨some 11, .nilchk (.t 10), none⟩,
    ⟨some 12, .faddr (.t 11) 0, none⟩,
    ⟨some 13, .load (some 2) (.t 12), none⟩,
    ⟨some 14, .mv (.t 1), none⟩,
    ⟨some 15, .call N.multi_All [(.t 13), (.t 14)], none⟩,
    ⟨some 9, .mv (.t 15), none⟩,
    ⟨some 16, .extr (.t 9) 0, none⟩,
    ⟨some 17, .extr (.t 9) 1, none⟩,
    ⟨some 18, .extr (.t 9) 2, none⟩,
    ⟨some 19, .extr (.t 9) 3, none⟩,
    ⟨some 5, .new 2 [.sl0 5, .sl0 2], none⟩,
    ⟨none, .store 2 (.t 5) (.t 16), none⟩,
    ⟨some 6, .mv (.t 17), none⟩,
    ⟨some 7, .mv (.t 18), none⟩,
    ⟨some 8, .mv (.t 19), none⟩] none [0, 1, 4, 5, 6, 7, 8])
  (.seq (.seq (.region [⟨some 20, .mv (.t 7), none⟩,
    ⟨some 21, .bin .neq .val (.t 20) (.c (.f (.int .i64 0))), none⟩] none [0, 1, 4, 5, 6, 7, 8, 21])
  (.cond (.t 21) (.seq (.region [⟨some 22, .mv (.t 7), none⟩,
      ⟨some 23, .mv (.t 8), none⟩,
      ⟨some 24, .build [.f (.int .i64 0), .f (.int .i64 0), .f (.bool false), .f (.int .i64 0), .sl0 5, .sl0 5, .sl0 2, .sl0 4, .sl0 4, .sl0 1] [(0, 1, (.t 22)), (1, 1, (.t 23))], none⟩,
      ⟨none, .store 10 (.t 4) (.t 24), none⟩] none [4])
    (.ret))
  (.skip)))
  (.seq (.region [⟨some 25, .mv (.t 0), none⟩,
    ⟨some 26, .load (some 2) (.t 5), none⟩,
    ⟨some 27, .nilchk (.t 25), none⟩,
    ⟨some 28, .faddr (.t 27) 0, none⟩,
    ⟨none, .store 2 (.t 28) (.t 26), none⟩] none [0, 1, 4, 6])
  (.seq (.region [⟨some 29, .mv (.t 0), none⟩,
    ⟨some 30, .mv (.t 1), none⟩,
    ⟨some 31, .mv (.t 6), none⟩,
    ⟨some 32, .call N.shard_Shard_tell [(.t 29), (.t 30), (.t 31)], none⟩] none [4, 6])
  (.seq (.region [⟨some 33, .mv (.t 6), none⟩,
    ⟨some 34, .build [.f (.int .i64 0), .f (.int .i64 0), .f (.bool false), .f (.int .i64 0), .sl0 5, .sl0 5, .sl0 2, .sl0 4, .sl0 4, .sl0 1] [(4, 1, (.t 33))], none⟩,
    ⟨none, .store 10 (.t 4) (.t 34), none⟩] none [4])
  (.ret))))))
def B.locks_Take : AC :=
  .seq (.region [⟨some 5, .box (.t 1), none⟩,
    ⟨some 6, .box (.t 2), none⟩,
    ⟨some 8, .mv (.c (.sl0 3)), none⟩,
    ⟨some 9, .mv (.c (.sl0 1)), none⟩,
    ⟨some 10, .mv (.c (.f (.bool false))), none⟩] none [0, 3, 5, 6])
  (.seq (.region [⟨some 22, .mv (.t 3), none⟩,
    ⟨some 23, .call N.slices_ContainsFunc_string [(.t 22), (.c (.fn (.func N.locks_Take_c1) [] []))], none⟩,
    ⟨some 11, .mv (.t 23), none⟩] none [0, 3, 5, 6, 11])
  (.seq (.region [⟨some 24, .mv (.t 0), none⟩,
    ⟨some 25, .mkfn (.func N.locks_Take_c2) [] [(.t 5), (.t 6)], none⟩,
    ⟨some 26, .call N.slices_ContainsFunc_Hold [(.t 24), (.t 25)], none⟩,
    ⟨some 12, .mv (.t 26), none⟩] none [0, 3, 5, 6, 11, 12])
  (.seq (.seq (.region [⟨some 27, .mv (.t 0), none⟩,
    ⟨some 28, .call N.locks_Right [(.t 27)], none⟩,
    ⟨some 29, .not (.t 28), none⟩,
    ⟨some 30, .mv (.t 29), none⟩,
    ⟨some 31, .load none (.t 5), some (30, false)⟩,
    ⟨some 32, .call N.locks_number [(.t 31)], some (30, false)⟩,
    ⟨some 33, .not (.t 32), some (30, false)⟩,
    ⟨some 34, .pick (.t 30) (.c (.f (.bool true))) (.t 33), none⟩,
    ⟨some 35, .mv (.t 34), none⟩,
    ⟨some 36, .load none (.t 6), some (35, false)⟩,
    ⟨some 37, .call N.locks_number [(.t 36)], some (35, false)⟩,
    ⟨some 38, .not (.t 37), some (35, false)⟩,
    ⟨some 39, .pick (.t 35) (.c (.f (.bool true))) (.t 38), none⟩,
    ⟨some 40, .mv (.t 39), none⟩,
    ⟨some 41, .mv (.t 11), some (40, false)⟩,
    ⟨some 42, .pick (.t 40) (.c (.f (.bool true))) (.t 41), none⟩,
    ⟨some 43, .mv (.t 42), none⟩,
    ⟨some 44, .mv (.t 12), some (43, false)⟩,
    ⟨some 45, .pick (.t 43) (.c (.f (.bool true))) (.t 44), none⟩] none [0, 3, 5, 6, 45])
  (.cond (.t 45) (.seq (.region [⟨some 8, .mv (.c (.sl0 3)), none⟩,
      ⟨some 9, .mv (.c (.sl0 1)), none⟩,
      ⟨some 10, .mv (.c (.f (.bool false))), none⟩] none [8, 9, 10])
    (.ret))
  (.skip)))
  (.seq (.region [⟨some 46, .mkmap, none⟩,
    ⟨some 13, .mv (.t 46), none⟩] none [0, 3, 5, 6, 13])
  (.seq (.region [⟨some 14, .mv (.c (.f (.bool true))), none⟩] none [0, 3, 5, 6, 13, 14])
  (.seq (.seq (.region [⟨some 47, .mv (.t 0), none⟩,
    ⟨some 48, .len .sl (.t 47), none⟩,
    ⟨some 49, .mv (.c (.f (.int .i64 0))), none⟩] none [0, 3, 5, 6, 13, 14, 47, 48, 49])
  (.block 0 (.loop [0, 3, 5, 6, 13, 14, 47, 48, 49] [] (.seq (.region [⟨some 50, .bin .lss .val (.t 49) (.t 48), none⟩] none [0, 3, 5, 6, 13, 14, 47, 48, 49, 50])
      (.seq (.cond (.t 50) (.skip)
      (.exit 0))
      (.seq (.block 1 (.seq (.region [⟨some 51, .iaddr 3 none (.t 47) (.t 49), none⟩,
          ⟨some 52, .load (some 3) (.t 51), none⟩,
          ⟨some 16, .new 3 [.f (.str .empty), .f (.int .i64 0), .f (.int .i64 0)], none⟩,
          ⟨none, .store 3 (.t 16) (.t 52), none⟩] none [0, 3, 5, 6, 13, 14, 16, 47, 48, 49])
        (.seq (.region [⟨some 53, .faddr (.t 16) 1, none⟩,
          ⟨some 54, .load none (.t 53), none⟩,
          ⟨some 55, .load none (.t 5), none⟩,
          ⟨some 56, .bin .neq .val (.t 54) (.t 55), none⟩,
          ⟨some 57, .mv (.t 56), none⟩,
          ⟨some 58, .mv (.t 3), some (57, true)⟩,
          ⟨some 59, .faddr (.t 16) 0, some (57, true)⟩,
          ⟨some 60, .load none (.t 59), some (57, true)⟩,
          ⟨some 61, .call N.slices_Contains_string [(.t 58), (.t 60)], some (57, true)⟩,
          ⟨some 62, .pick (.t 57) (.t 61) (.c (.f (.bool false))), none⟩] none [0, 3, 5, 6, 13, 14, 16, 47, 48, 49, 62])
        (.cond (.t 62) (.seq (.region [⟨some 14, .mv (.c (.f (.bool false))), none⟩] none [0, 3, 5, 6, 13, 14, 16, 47, 48, 49])
          (.seq (.region [⟨some 63, .faddr (.t 16) 2, none⟩,
            ⟨some 64, .load none (.t 63), none⟩,
            ⟨some 65, .faddr (.t 16) 1, none⟩,
            ⟨some 66, .load none (.t 65), none⟩,
            ⟨some 67, .load none (.t 6), none⟩,
            ⟨some 68, .load none (.t 5), none⟩,
            ⟨some 69, .call N.check_Newer [(.t 64), (.t 66), (.t 67), (.t 68)], none⟩] none [0, 3, 5, 6, 13, 14, 16, 47, 48, 49, 69])
          (.cond (.t 69) (.region [⟨some 70, .mv (.t 13), none⟩,
              ⟨some 71, .faddr (.t 16) 1, none⟩,
              ⟨some 72, .load none (.t 71), none⟩,
              ⟨some 73, .lookup false (.f (.int .i64 0)) (.t 70) (.t 72) false, none⟩,
              ⟨some 74, .bin .add .val (.t 73) (.c (.f (.int .i64 1))), none⟩,
              ⟨none, .mapset false (.t 70) (.t 72) (.t 74), none⟩] none [0, 3, 5, 6, 13, 14, 47, 48, 49])
          (.skip))))
        (.skip)))))
      (.region [⟨some 75, .bin .add .val (.t 49) (.c (.f (.int .i64 1))), none⟩,
        ⟨some 49, .mv (.t 75), none⟩] none [0, 3, 5, 6, 13, 14, 47, 48, 49])))))))
  (.seq (.seq (.region [⟨some 76, .mv (.t 14), none⟩,
    ⟨some 77, .not (.t 76), none⟩] none [0, 3, 5, 6, 13, 77])
  (.cond (.t 77) (.seq (.region [⟨some 78, .mv (.t 0), none⟩,
      ⟨some 79, .mv (.t 13), none⟩,
      ⟨some 80, .call N.maps_Keys_map_int64int_int64_int_ [(.t 79)], none⟩,
      ⟨some 81, .call N.slices_Sorted_int64 [(.t 80)], none⟩,
      ⟨some 8, .mv (.t 78), none⟩,
      ⟨some 9, .mv (.t 81), none⟩,
      ⟨some 10, .mv (.c (.f (.bool false))), none⟩] none [8, 9, 10])
    (.ret))
  (.skip)))
  (.seq (.region [⟨some 82, .mv (.t 0), none⟩,
    ⟨some 83, .call N.slices_Clone_Hold [(.t 82)], none⟩,
    ⟨some 17, .mv (.t 83), none⟩] none [3, 5, 6, 17])
  (.seq (.seq (.region [⟨some 84, .mv (.t 3), none⟩,
    ⟨some 85, .len .sl (.t 84), none⟩,
    ⟨some 86, .mv (.c (.f (.int .i64 0))), none⟩] none [5, 6, 17, 84, 85, 86])
  (.block 2 (.loop [5, 6, 17, 84, 85, 86] [] (.seq (.region [⟨some 87, .bin .lss .val (.t 86) (.t 85), none⟩] none [5, 6, 17, 84, 85, 86, 87])
      (.seq (.cond (.t 87) (.skip)
      (.exit 2))
      (.seq (.block 3 (.seq (.region [⟨some 88, .iaddr 1 none (.t 84) (.t 86), none⟩,
          ⟨some 89, .load none (.t 88), none⟩,
          ⟨some 19, .mv (.t 89), none⟩] none [5, 6, 17, 19, 84, 85, 86])
        (.seq (.region [⟨some 91, .mv (.t 17), none⟩,
          ⟨some 92, .mv (.t 19), none⟩,
          ⟨some 93, .call N.slices_BinarySearchFunc_Hold [(.t 91), (.t 92), (.c (.fn (.func N.locks_Take_c3) [] []))], none⟩,
          ⟨some 90, .mv (.t 93), none⟩,
          ⟨some 94, .extr (.t 90) 0, none⟩,
          ⟨some 95, .extr (.t 90) 1, none⟩,
          ⟨some 20, .mv (.t 94), none⟩,
          ⟨some 21, .mv (.t 95), none⟩] none [5, 6, 17, 19, 20, 21, 84, 85, 86])
        (.seq (.region [⟨some 96, .mv (.t 21), none⟩,
          ⟨some 97, .not (.t 96), none⟩] none [5, 6, 17, 19, 20, 84, 85, 86, 97])
        (.cond (.t 97) (.region [⟨some 98, .mv (.t 17), none⟩,
            ⟨some 99, .mv (.t 20), none⟩,
            ⟨some 100, .mv (.t 19), none⟩,
            ⟨some 101, .load none (.t 5), none⟩,
            ⟨some 102, .load none (.t 6), none⟩,
            ⟨some 103, .build [.f (.str .empty), .f (.int .i64 0), .f (.int .i64 0)] [(0, 1, (.t 100)), (1, 1, (.t 101)), (2, 1, (.t 102))], none⟩,
            ⟨some 104, .bslice 3 [(.t 103)], none⟩,
            ⟨some 105, .call N.slices_Insert_Hold [(.t 98), (.t 99), (.t 104)], none⟩,
            ⟨some 17, .mv (.t 105), none⟩] none [5, 6, 17, 84, 85, 86])
        (.skip))))))
      (.region [⟨some 106, .bin .add .val (.t 86) (.c (.f (.int .i64 1))), none⟩,
        ⟨some 86, .mv (.t 106), none⟩] none [5, 6, 17, 84, 85, 86])))))))
  (.seq (.region [⟨some 107, .mv (.t 17), none⟩,
    ⟨some 8, .mv (.t 107), none⟩,
    ⟨some 9, .mv (.c (.sl0 1)), none⟩,
    ⟨some 10, .mv (.c (.f (.bool true))), none⟩] none [8, 9, 10])
  (.ret)))))))))))
def B.multi_All : AC :=
  .seq (.region [⟨some 2, .box (.t 0), none⟩,
    ⟨some 4, .new 2 [.sl0 5, .sl0 2], none⟩,
    ⟨some 5, .mv (.c (.sl0 5)), none⟩,
    ⟨some 6, .mv (.c (.f (.int .i64 0))), none⟩,
    ⟨some 7, .mv (.c (.f (.int .i64 0))), none⟩] none [1, 2, 4])
  (.seq (.region [⟨some 14, .load (some 2) (.t 2), none⟩,
    ⟨some 8, .new 2 [.sl0 5, .sl0 2], none⟩,
    ⟨none, .store 2 (.t 8) (.t 14), none⟩] none [1, 2, 4, 8])
  (.seq (.region [⟨some 9, .mv (.c (.sl0 5)), none⟩] none [1, 2, 4, 8, 9])
  (.seq (.seq (.region [⟨some 15, .mv (.t 1), none⟩,
    ⟨some 16, .len .sl (.t 15), none⟩,
    ⟨some 17, .mv (.c (.f (.int .i64 0))), none⟩] none [2, 4, 8, 9, 15, 16, 17])
  (.block 0 (.loop [2, 4, 8, 9, 15, 16, 17] [9] (.seq (.region [⟨some 18, .bin .lss .val (.t 17) (.t 16), none⟩] none [2, 4, 8, 9, 15, 16, 17, 18])
      (.seq (.cond (.t 18) (.skip)
      (.exit 0))
      (.seq (.block 1 (.seq (.region [⟨some 19, .mv (.t 17), none⟩,
          ⟨some 20, .iaddr 8 none (.t 15) (.t 17), none⟩,
          ⟨some 21, .load (some 8) (.t 20), none⟩,
          ⟨some 11, .new 8 [.f (.int .i64 0), .f (.int .i64 0), .f (.str .empty), .f (.str .empty), .f (.str .empty), .f (.int .i64 0), .f (.int .i64 0), .f (.bool false)], none⟩,
          ⟨some 10, .mv (.t 19), none⟩,
          ⟨none, .store 8 (.t 11) (.t 21), none⟩] none [2, 4, 8, 9, 10, 11, 15, 16, 17])
        (.seq (.region [⟨some 23, .load (some 2) (.t 8), none⟩,
          ⟨some 24, .faddr (.t 11) 1, none⟩,
          ⟨some 25, .load (some 7) (.t 24), none⟩,
          ⟨some 26, .call N.part_Do [(.t 23), (.t 25)], none⟩,
          ⟨some 22, .mv (.t 26), none⟩,
          ⟨some 27, .extr (.t 22) 0, none⟩,
          ⟨some 28, .extr (.t 22) 1, none⟩,
          ⟨some 12, .new 2 [.sl0 5, .sl0 2], none⟩,
          ⟨some 13, .new 5 [.f (.int .i64 0), .f (.str .empty), .f (.str .empty), .f (.int .i64 0), .sl0 1], none⟩,
          ⟨none, .store 2 (.t 12) (.t 27), none⟩,
          ⟨none, .store 5 (.t 13) (.t 28), none⟩] none [2, 4, 8, 9, 10, 12, 13, 15, 16, 17])
        (.seq (.seq (.region [⟨some 29, .faddr (.t 13) 0, none⟩,
          ⟨some 30, .load none (.t 29), none⟩,
          ⟨some 31, .bin .neq .val (.t 30) (.c (.f (.int .i64 0))), none⟩] none [2, 4, 8, 9, 10, 12, 13, 15, 16, 17, 31])
        (.cond (.t 31) (.seq (.region [⟨some 32, .load (some 2) (.t 2), none⟩,
            ⟨some 33, .faddr (.t 13) 0, none⟩,
            ⟨some 34, .load none (.t 33), none⟩,
            ⟨some 35, .mv (.t 10), none⟩,
            ⟨none, .store 2 (.t 4) (.t 32), none⟩,
            ⟨some 5, .mv (.c (.sl0 5)), none⟩,
            ⟨some 6, .mv (.t 34), none⟩,
            ⟨some 7, .mv (.t 35), none⟩] (some [(2, 4)]) [4, 5, 6, 7])
          (.ret))
        (.skip)))
        (.seq (.region [⟨some 36, .load (some 2) (.t 12), none⟩,
          ⟨none, .store 2 (.t 8) (.t 36), none⟩] none [2, 4, 8, 9, 13, 15, 16, 17])
        (.region [⟨some 37, .mv (.t 9), none⟩,
          ⟨some 38, .load (some 5) (.t 13), none⟩,
          ⟨some 39, .bslice 5 [(.t 38)], none⟩,
          ⟨some 40, .append 5 72 (.t 37) (.t 39), none⟩,
          ⟨some 9, .mv (.t 40), none⟩] none [2, 4, 8, 9, 15, 16, 17]))))))
      (.region [⟨some 41, .bin .add .val (.t 17) (.c (.f (.int .i64 1))), none⟩,
        ⟨some 17, .mv (.t 41), none⟩] none [2, 4, 8, 9, 15, 16, 17])))))))
  (.seq (.region [⟨some 42, .load (some 2) (.t 8), none⟩,
    ⟨some 43, .mv (.t 9), none⟩,
    ⟨none, .store 2 (.t 4) (.t 42), none⟩,
    ⟨some 5, .mv (.t 43), none⟩,
    ⟨some 6, .mv (.c (.f (.int .i64 0))), none⟩,
    ⟨some 7, .mv (.c (.f (.int .i64 0))), none⟩] none [4, 5, 6, 7])
  (.ret)))))
def B.locks_Free : AC :=
  .seq (.region [⟨some 3, .box (.t 1), none⟩,
    ⟨some 4, .mv (.c (.sl0 3)), none⟩] none [0, 3])
  (.seq (.region [⟨some 5, .mv (.t 0), none⟩,
    ⟨some 6, .call N.slices_Clone_Hold [(.t 5)], none⟩,
    ⟨some 7, .mkfn (.func N.locks_Free_c1) [] [(.t 3)], none⟩,
    ⟨some 8, .call N.slices_DeleteFunc_Hold [(.t 6), (.t 7)], none⟩,
    ⟨some 4, .mv (.t 8), none⟩] none [4])
  (.ret))
def B.shard_Shard_find : AC :=
  .seq (.region [⟨some 3, .box (.t 1), none⟩,
    ⟨some 4, .new 3 [.f (.str .empty), .f (.int .i64 0), .f (.int .i64 0)], none⟩,
    ⟨some 5, .mv (.c (.f (.bool false))), none⟩] none [0, 3, 4])
  (.seq (.region [⟨some 7, .mv (.t 0), none⟩,
    ⟨some 8, .nilchk (.t 7), none⟩,
    ⟨some 9, .faddr (.t 8) 2, none⟩,
    ⟨some 10, .load none (.t 9), none⟩,
    ⟨some 11, .mkfn (.func N.shard_Shard_find_c1) [] [(.t 3)], none⟩,
    ⟨some 12, .call N.slices_IndexFunc_Range [(.t 10), (.t 11)], none⟩,
    ⟨some 6, .mv (.t 12), none⟩] none [0, 4, 6])
  (.seq (.seq (.region [⟨some 13, .mv (.t 6), none⟩,
    ⟨some 14, .bin .lss .val (.t 13) (.c (.f (.int .i64 0))), none⟩] none [0, 4, 6, 14])
  (.cond (.t 14) (.seq (.region [⟨some 15, .build [.f (.str .empty), .f (.int .i64 0), .f (.int .i64 0)] [], none⟩,
      ⟨none, .store 3 (.t 4) (.t 15), none⟩,
      ⟨some 5, .mv (.c (.f (.bool false))), none⟩] none [4, 5])
    (.ret))
  (.skip)))
  (.seq (.region [⟨some 16, .mv (.t 0), none⟩,
    ⟨some 17, .nilchk (.t 16), none⟩,
    ⟨some 18, .faddr (.t 17) 2, none⟩,
    ⟨some 19, .load none (.t 18), none⟩,
    ⟨some 20, .mv (.t 6), none⟩,
    ⟨some 21, .iaddr 3 none (.t 19) (.t 20), none⟩,
    ⟨some 22, .load (some 3) (.t 21), none⟩,
    ⟨none, .store 3 (.t 4) (.t 22), none⟩,
    ⟨some 5, .mv (.c (.f (.bool true))), none⟩] none [4, 5])
  (.ret))))
def B.owned_Freeze : AC :=
  .seq (.region [⟨some 4, .mv (.c (.sl0 3)), none⟩,
    ⟨some 5, .mv (.c (.f (.bool false))), none⟩] none [0, 1])
  (.seq (.region [⟨some 7, .mv (.t 0), none⟩,
    ⟨some 8, .mv (.t 1), none⟩,
    ⟨some 9, .call N.owned_Of [(.t 7), (.t 8)], none⟩,
    ⟨some 6, .mv (.t 9), none⟩] none [0, 1, 6])
  (.seq (.seq (.region [⟨some 10, .mv (.t 6), none⟩,
    ⟨some 11, .bin .lss .val (.t 10) (.c (.f (.int .i64 0))), none⟩,
    ⟨some 12, .mv (.t 11), none⟩,
    ⟨some 13, .mv (.t 0), some (12, false)⟩,
    ⟨some 14, .mv (.t 6), some (12, false)⟩,
    ⟨some 15, .iaddr 3 none (.t 13) (.t 14), some (12, false)⟩,
    ⟨some 16, .faddr (.t 15) 2, some (12, false)⟩,
    ⟨some 17, .load none (.t 16), some (12, false)⟩,
    ⟨some 18, .bin .neq .val (.t 17) (.c (.f (.int .i64 1))), some (12, false)⟩,
    ⟨some 19, .pick (.t 12) (.c (.f (.bool true))) (.t 18), none⟩] none [0, 1, 6, 19])
  (.cond (.t 19) (.seq (.region [⟨some 4, .mv (.c (.sl0 3)), none⟩,
      ⟨some 5, .mv (.c (.f (.bool false))), none⟩] none [4, 5])
    (.ret))
  (.skip)))
  (.seq (.region [⟨some 20, .mv (.t 0), none⟩,
    ⟨some 21, .mv (.t 1), none⟩,
    ⟨some 22, .mv (.t 0), none⟩,
    ⟨some 23, .mv (.t 6), none⟩,
    ⟨some 24, .iaddr 3 none (.t 22) (.t 23), none⟩,
    ⟨some 25, .faddr (.t 24) 1, none⟩,
    ⟨some 26, .load none (.t 25), none⟩,
    ⟨some 27, .build [.f (.str .empty), .f (.int .i64 0), .f (.int .i64 0)] [(0, 1, (.t 21)), (1, 1, (.t 26)), (2, 1, (.c (.f (.int .i64 2))))], none⟩,
    ⟨some 28, .call N.owned_put [(.t 20), (.t 27)], none⟩,
    ⟨some 29, .extr (.t 28) 0, none⟩,
    ⟨some 30, .extr (.t 28) 1, none⟩,
    ⟨some 4, .mv (.t 29), none⟩,
    ⟨some 5, .mv (.t 30), none⟩] none [4, 5])
  (.ret))))
def B.owned_Of : AC :=
  .seq (.region [⟨some 4, .mv (.c (.f (.int .i64 0))), none⟩] none [0, 1])
  (.seq (.region [⟨some 5, .mv (.c (.f (.int .i64 (-1)))), none⟩] none [0, 1, 5])
  (.seq (.seq (.region [⟨some 8, .mv (.t 0), none⟩,
    ⟨some 9, .len .sl (.t 8), none⟩,
    ⟨some 10, .mv (.c (.f (.int .i64 0))), none⟩] none [0, 1, 5, 8, 9, 10])
  (.block 0 (.loop [0, 1, 5, 8, 9, 10] [] (.seq (.region [⟨some 11, .bin .lss .val (.t 10) (.t 9), none⟩] none [0, 1, 5, 8, 9, 10, 11])
      (.seq (.cond (.t 11) (.skip)
      (.exit 0))
      (.seq (.block 1 (.seq (.region [⟨some 12, .mv (.t 10), none⟩,
          ⟨some 13, .iaddr 3 none (.t 8) (.t 10), none⟩,
          ⟨some 14, .load (some 3) (.t 13), none⟩,
          ⟨some 7, .new 3 [.f (.str .empty), .f (.int .i64 0), .f (.int .i64 0)], none⟩,
          ⟨some 6, .mv (.t 12), none⟩,
          ⟨none, .store 3 (.t 7) (.t 14), none⟩] none [0, 1, 5, 6, 7, 8, 9, 10])
        (.seq (.region [⟨some 15, .mv (.t 1), none⟩,
          ⟨some 16, .faddr (.t 7) 0, none⟩,
          ⟨some 17, .load none (.t 16), none⟩,
          ⟨some 18, .call N.path_In [(.t 15), (.t 17)], none⟩,
          ⟨some 19, .mv (.t 18), none⟩,
          ⟨some 20, .mv (.t 5), some (19, true)⟩,
          ⟨some 21, .bin .lss .val (.t 20) (.c (.f (.int .i64 0))), some (19, true)⟩,
          ⟨some 22, .mv (.t 21), some (19, true)⟩,
          ⟨some 23, .faddr (.t 7) 0, some (22, false)⟩,
          ⟨some 24, .load none (.t 23), some (22, false)⟩,
          ⟨some 25, .len .str (.t 24), some (22, false)⟩,
          ⟨some 26, .mv (.t 0), some (22, false)⟩,
          ⟨some 27, .mv (.t 5), some (22, false)⟩,
          ⟨some 28, .iaddr 3 none (.t 26) (.t 27), some (22, false)⟩,
          ⟨some 29, .faddr (.t 28) 0, some (22, false)⟩,
          ⟨some 30, .load none (.t 29), some (22, false)⟩,
          ⟨some 31, .len .str (.t 30), some (22, false)⟩,
          ⟨some 32, .bin .gtr .val (.t 25) (.t 31), some (22, false)⟩,
          ⟨some 33, .pick (.t 22) (.c (.f (.bool true))) (.t 32), some (19, true)⟩,
          ⟨some 34, .pick (.t 19) (.t 33) (.c (.f (.bool false))), none⟩] (some []) [0, 1, 5, 6, 8, 9, 10, 34])
        (.cond (.t 34) (.region [⟨some 35, .mv (.t 6), none⟩,
            ⟨some 5, .mv (.t 35), none⟩] none [0, 1, 5, 8, 9, 10])
        (.skip)))))
      (.region [⟨some 36, .bin .add .val (.t 10) (.c (.f (.int .i64 1))), none⟩,
        ⟨some 10, .mv (.t 36), none⟩] none [0, 1, 5, 8, 9, 10])))))))
  (.seq (.seq (.region [⟨some 37, .mv (.t 0), none⟩,
    ⟨some 38, .call N.owned_Right [(.t 37)], none⟩,
    ⟨some 39, .not (.t 38), none⟩] none [5, 39])
  (.cond (.t 39) (.seq (.region [⟨some 4, .mv (.c (.f (.int .i64 (-1)))), none⟩] none [4])
    (.ret))
  (.skip)))
  (.seq (.region [⟨some 40, .mv (.t 5), none⟩,
    ⟨some 4, .mv (.t 40), none⟩] none [4])
  (.ret)))))
def B.shard_Shard_held : AC :=
  .seq (.region [⟨some 4, .box (.t 1), none⟩,
    ⟨some 5, .box (.t 2), none⟩,
    ⟨some 6, .mv (.c (.f (.bool false))), none⟩] none [0, 4, 5])
  (.seq (.region [⟨some 7, .mv (.t 0), none⟩,
    ⟨some 8, .nilchk (.t 7), none⟩,
    ⟨some 9, .faddr (.t 8) 3, none⟩,
    ⟨some 10, .load none (.t 9), none⟩,
    ⟨some 11, .mkfn (.func N.shard_Shard_held_c1) [] [(.t 4), (.t 5)], none⟩,
    ⟨some 12, .call N.slices_ContainsFunc_Hold [(.t 10), (.t 11)], none⟩,
    ⟨some 6, .mv (.t 12), none⟩] none [6])
  (.ret))
def B.owned_Cut : AC :=
  .seq (.region [⟨some 3, .box (.t 0), none⟩,
    ⟨some 4, .box (.t 1), none⟩,
    ⟨some 5, .box (.t 2), none⟩,
    ⟨some 6, .new 2 [.sl0 5, .sl0 2], none⟩,
    ⟨some 7, .new 2 [.sl0 5, .sl0 2], none⟩] none [3, 4, 5, 6, 7])
  (.seq (.region [⟨some 8, .new 2 [.sl0 5, .sl0 2], none⟩,
    ⟨some 9, .new 2 [.sl0 5, .sl0 2], none⟩] none [3, 4, 5, 6, 7, 8, 9])
  (.seq (.seq (.region [⟨some 11, .load (some 2) (.t 3), none⟩,
    ⟨some 12, .call N.part_Right [(.t 11)], none⟩,
    ⟨some 13, .not (.t 12), none⟩,
    ⟨some 14, .mv (.t 13), none⟩,
    ⟨some 15, .load none (.t 4), some (14, false)⟩,
    ⟨some 16, .call N.owned_Right [(.t 15)], some (14, false)⟩,
    ⟨some 17, .not (.t 16), some (14, false)⟩,
    ⟨some 18, .pick (.t 14) (.c (.f (.bool true))) (.t 17), none⟩] none [3, 4, 5, 6, 7, 8, 9, 18])
  (.cond (.t 18) (.seq (.region [⟨some 19, .load (some 2) (.t 8), none⟩,
      ⟨some 20, .load (some 2) (.t 9), none⟩,
      ⟨none, .store 2 (.t 6) (.t 19), none⟩,
      ⟨none, .store 2 (.t 7) (.t 20), none⟩] (some [(1, 2)]) [6, 7])
    (.ret))
  (.skip)))
  (.seq (.region [⟨some 21, .mkfn (.func N.owned_Cut_c1) [] [(.t 4), (.t 5)], none⟩,
    ⟨some 10, .new 1 [.f .nilf], none⟩,
    ⟨none, .store 1 (.t 10) (.t 21), none⟩] none [3, 6, 7, 8, 9, 10])
  (.seq (.region [⟨some 23, .faddr (.t 3) 0, none⟩,
    ⟨some 24, .load none (.t 23), none⟩,
    ⟨some 25, .mkfn (.func N.owned_Cut_c2) [] [(.t 10)], none⟩,
    ⟨some 26, .call N.owned_parted_Node [(.t 24), (.t 25)], none⟩,
    ⟨some 22, .mv (.t 26), none⟩,
    ⟨some 27, .extr (.t 22) 0, none⟩,
    ⟨some 28, .extr (.t 22) 1, none⟩,
    ⟨some 29, .faddr (.t 8) 0, none⟩,
    ⟨none, .store 1 (.t 29) (.t 27), none⟩,
    ⟨some 30, .faddr (.t 9) 0, none⟩,
    ⟨none, .store 1 (.t 30) (.t 28), none⟩] none [3, 6, 7, 8, 9, 10])
  (.seq (.region [⟨some 32, .faddr (.t 3) 1, none⟩,
    ⟨some 33, .load none (.t 32), none⟩,
    ⟨some 34, .mkfn (.func N.owned_Cut_c3) [] [(.t 10)], none⟩,
    ⟨some 35, .call N.owned_parted_Turn [(.t 33), (.t 34)], none⟩,
    ⟨some 31, .mv (.t 35), none⟩,
    ⟨some 36, .extr (.t 31) 0, none⟩,
    ⟨some 37, .extr (.t 31) 1, none⟩,
    ⟨some 38, .faddr (.t 8) 1, none⟩,
    ⟨none, .store 1 (.t 38) (.t 36), none⟩,
    ⟨some 39, .faddr (.t 9) 1, none⟩,
    ⟨none, .store 1 (.t 39) (.t 37), none⟩] none [6, 7, 8, 9])
  (.seq (.region [⟨some 40, .load (some 2) (.t 8), none⟩,
    ⟨some 41, .load (some 2) (.t 9), none⟩,
    ⟨none, .store 2 (.t 6) (.t 40), none⟩,
    ⟨none, .store 2 (.t 7) (.t 41), none⟩] (some [(1, 2)]) [6, 7])
  (.ret)))))))
def B.strings_Compare : AC :=
  .seq (.region [⟨some 4, .mv (.c (.f (.int .i64 0))), none⟩] none [0, 1])
  (.seq (.region [⟨some 5, .mv (.t 0), none⟩,
    ⟨some 6, .mv (.t 1), none⟩,
    ⟨some 7, .call N.ibytealg_CompareString [(.t 5), (.t 6)], none⟩,
    ⟨some 4, .mv (.t 7), none⟩] none [4])
  (.ret))
def B.part_May : AC :=
  .seq (.region [⟨some 1, .box (.t 0), none⟩,
    ⟨some 2, .mv (.c (.f (.bool false))), none⟩] none [1])
  (.seq (.region [⟨some 4, .faddr (.t 1) 2, none⟩,
    ⟨some 5, .load none (.t 4), none⟩,
    ⟨some 6, .call N.part_up [(.t 5)], none⟩,
    ⟨some 3, .mv (.t 6), none⟩] none [1, 3])
  (.seq (.seq (.region [⟨some 7, .faddr (.t 1) 0, none⟩,
    ⟨some 8, .load none (.t 7), none⟩,
    ⟨some 9, .bin .eql .val (.t 8) (.c (.f (.int .i64 4))), none⟩,
    ⟨some 10, .mv (.t 9), none⟩,
    ⟨some 11, .faddr (.t 1) 0, some (10, false)⟩,
    ⟨some 12, .load none (.t 11), some (10, false)⟩,
    ⟨some 13, .bin .eql .val (.t 12) (.c (.f (.int .i64 9))), some (10, false)⟩,
    ⟨some 14, .pick (.t 10) (.c (.f (.bool true))) (.t 13), none⟩,
    ⟨some 15, .mv (.t 14), none⟩,
    ⟨some 16, .faddr (.t 1) 0, some (15, false)⟩,
    ⟨some 17, .load none (.t 16), some (15, false)⟩,
    ⟨some 18, .bin .eql .val (.t 17) (.c (.f (.int .i64 10))), some (15, false)⟩,
    ⟨some 19, .pick (.t 15) (.c (.f (.bool true))) (.t 18), none⟩] none [1, 3, 19])
  (.cond (.t 19) (.region [⟨some 20, .faddr (.t 1) 2, none⟩,
      ⟨some 21, .load none (.t 20), none⟩,
      ⟨some 3, .mv (.t 21), none⟩] none [1, 3])
  (.skip)))
  (.seq (.region [⟨some 22, .faddr (.t 1) 2, none⟩,
    ⟨some 23, .load none (.t 22), none⟩,
    ⟨some 24, .faddr (.t 1) 3, none⟩,
    ⟨some 25, .load none (.t 24), none⟩,
    ⟨some 26, .faddr (.t 1) 4, none⟩,
    ⟨some 27, .load none (.t 26), none⟩,
    ⟨some 28, .faddr (.t 1) 5, none⟩,
    ⟨some 29, .load none (.t 28), none⟩,
    ⟨some 30, .call N.part_fields [(.t 23), (.t 25), (.t 27), (.c (.f (.int .i64 (-1)))), (.t 29)], none⟩,
    ⟨some 31, .mv (.t 30), none⟩,
    ⟨some 32, .faddr (.t 1) 1, some (31, true)⟩,
    ⟨some 33, .load none (.t 32), some (31, true)⟩,
    ⟨some 34, .mv (.t 3), some (31, true)⟩,
    ⟨some 35, .bin .eql .val (.t 33) (.t 34), some (31, true)⟩,
    ⟨some 36, .pick (.t 31) (.t 35) (.c (.f (.bool false))), none⟩,
    ⟨some 37, .mv (.t 36), none⟩,
    ⟨some 38, .faddr (.t 1) 0, some (37, true)⟩,
    ⟨some 39, .load none (.t 38), some (37, true)⟩,
    ⟨some 40, .bin .geq .val (.t 39) (.c (.f (.int .i64 1))), some (37, true)⟩,
    ⟨some 41, .pick (.t 37) (.t 40) (.c (.f (.bool false))), none⟩,
    ⟨some 42, .mv (.t 41), none⟩,
    ⟨some 43, .faddr (.t 1) 0, some (42, true)⟩,
    ⟨some 44, .load none (.t 43), some (42, true)⟩,
    ⟨some 45, .bin .leq .val (.t 44) (.c (.f (.int .i64 10))), some (42, true)⟩,
    ⟨some 46, .pick (.t 42) (.t 45) (.c (.f (.bool false))), none⟩,
    ⟨some 47, .mv (.t 46), none⟩,
    ⟨some 48, .faddr (.t 1) 0, some (47, true)⟩,
    ⟨some 49, .load none (.t 48), some (47, true)⟩,
    ⟨some 50, .bin .neq .val (.t 49) (.c (.f (.int .i64 2))), some (47, true)⟩,
    ⟨some 51, .mv (.t 50), some (47, true)⟩,
    ⟨some 52, .faddr (.t 1) 2, some (51, false)⟩,
    ⟨some 53, .load none (.t 52), some (51, false)⟩,
    ⟨some 54, .bin .neq .val (.t 53) (.c (.f (.str ⟨#[47]⟩))), some (51, false)⟩,
    ⟨some 55, .pick (.t 51) (.c (.f (.bool true))) (.t 54), some (47, true)⟩,
    ⟨some 56, .pick (.t 47) (.t 55) (.c (.f (.bool false))), none⟩,
    ⟨some 2, .mv (.t 56), none⟩] none [2])
  (.ret))))
def B.path_In : AC :=
  .seq (.region [⟨some 4, .mv (.c (.f (.bool false))), none⟩] none [0, 1])
  (.seq (.seq (.region [⟨some 7, .mv (.t 0), none⟩,
    ⟨some 8, .call N.path_Right [(.t 7)], none⟩,
    ⟨some 9, .not (.t 8), none⟩,
    ⟨some 10, .mv (.t 9), none⟩,
    ⟨some 11, .mv (.t 1), some (10, false)⟩,
    ⟨some 12, .call N.path_Right [(.t 11)], some (10, false)⟩,
    ⟨some 13, .not (.t 12), some (10, false)⟩,
    ⟨some 14, .pick (.t 10) (.c (.f (.bool true))) (.t 13), none⟩] none [0, 1, 14])
  (.cond (.t 14) (.seq (.region [⟨some 4, .mv (.c (.f (.bool false))), none⟩] none [4])
    (.ret))
  (.skip)))
  (.seq (.region [⟨some 16, .mv (.t 0), none⟩,
    ⟨some 17, .mv (.t 1), none⟩,
    ⟨some 18, .call N.strings_TrimSuffix [(.t 17), (.c (.f (.str ⟨#[47]⟩)))], none⟩,
    ⟨some 19, .call N.strings_CutPrefix [(.t 16), (.t 18)], none⟩,
    ⟨some 15, .mv (.t 19), none⟩,
    ⟨some 20, .extr (.t 15) 0, none⟩,
    ⟨some 21, .extr (.t 15) 1, none⟩,
    ⟨some 5, .mv (.t 20), none⟩,
    ⟨some 6, .mv (.t 21), none⟩] none [5, 6])
  (.seq (.region [⟨some 22, .mv (.t 6), none⟩,
    ⟨some 23, .mv (.t 22), none⟩,
    ⟨some 24, .mv (.t 5), some (23, true)⟩,
    ⟨some 25, .bin .eql .val (.t 24) (.c (.f (.str ⟨#[]⟩))), some (23, true)⟩,
    ⟨some 26, .mv (.t 25), some (23, true)⟩,
    ⟨some 27, .mv (.t 5), some (26, false)⟩,
    ⟨some 28, .index 1 none none (.t 27) (.c (.f (.int .i64 0))), some (26, false)⟩,
    ⟨some 29, .bin .eql .val (.t 28) (.c (.f (.int .u8 47))), some (26, false)⟩,
    ⟨some 30, .pick (.t 26) (.c (.f (.bool true))) (.t 29), some (23, true)⟩,
    ⟨some 31, .pick (.t 23) (.t 30) (.c (.f (.bool false))), none⟩,
    ⟨some 4, .mv (.t 31), none⟩] none [4])
  (.ret))))
def B.command_number : AC :=
  .seq (.region [⟨some 2, .mv (.c (.f (.bool false))), none⟩] none [0])
  (.seq (.seq (.region [⟨some 5, .mv (.t 0), none⟩,
    ⟨some 6, .len .sl (.t 5), none⟩,
    ⟨some 7, .mv (.c (.f (.int .i64 0))), none⟩] none [5, 6, 7])
  (.block 0 (.loop [5, 6, 7] [] (.seq (.region [⟨some 8, .bin .lss .val (.t 7) (.t 6), none⟩] none [5, 6, 7, 8])
      (.seq (.cond (.t 8) (.skip)
      (.exit 0))
      (.seq (.block 1 (.seq (.region [⟨some 9, .iaddr 1 none (.t 5) (.t 7), none⟩,
          ⟨some 10, .load none (.t 9), none⟩,
          ⟨some 4, .mv (.t 10), none⟩] none [4, 5, 6, 7])
        (.seq (.region [⟨some 11, .mv (.t 4), none⟩,
          ⟨some 12, .bin .lss .val (.t 11) (.c (.f (.int .i64 0))), none⟩,
          ⟨some 13, .mv (.t 12), none⟩,
          ⟨some 14, .mv (.t 4), some (13, false)⟩,
          ⟨some 15, .bin .gtr .val (.t 14) (.c (.f (.int .i64 281474976710656))), some (13, false)⟩,
          ⟨some 16, .pick (.t 13) (.c (.f (.bool true))) (.t 15), none⟩] none [5, 6, 7, 16])
        (.cond (.t 16) (.seq (.region [⟨some 2, .mv (.c (.f (.bool false))), none⟩] none [2])
          (.ret))
        (.skip)))))
      (.region [⟨some 17, .bin .add .val (.t 7) (.c (.f (.int .i64 1))), none⟩,
        ⟨some 7, .mv (.t 17), none⟩] none [5, 6, 7])))))))
  (.seq (.region [⟨some 2, .mv (.c (.f (.bool true))), none⟩] none [2])
  (.ret)))
def B.command_empty : AC :=
  .seq (.region [⟨some 2, .mv (.c (.f (.bool false))), none⟩] none [0])
  (.seq (.region [⟨some 3, .mv (.t 0), none⟩,
    ⟨some 4, .bin .eql .val (.t 3) (.c (.f (.str ⟨#[]⟩))), none⟩,
    ⟨some 5, .mv (.t 4), none⟩,
    ⟨some 6, .mv (.t 0), some (5, false)⟩,
    ⟨some 7, .call N.path_Right [(.t 6)], some (5, false)⟩,
    ⟨some 8, .pick (.t 5) (.c (.f (.bool true))) (.t 7), none⟩,
    ⟨some 2, .mv (.t 8), none⟩] none [2])
  (.ret))
def B.multi_May : AC :=
  .seq (.region [⟨some 2, .mv (.c (.f (.bool false))), none⟩] none [0])
  (.seq (.region [⟨some 4, .mv (.t 0), none⟩,
    ⟨some 5, .call N.slices_ContainsFunc_Op [(.t 4), (.c (.fn (.func N.multi_May_c1) [] []))], none⟩,
    ⟨some 3, .mv (.t 5), none⟩] none [0, 3])
  (.seq (.region [⟨some 6, .mv (.t 0), none⟩,
    ⟨some 7, .len .sl (.t 6), none⟩,
    ⟨some 8, .bin .gtr .val (.t 7) (.c (.f (.int .i64 0))), none⟩,
    ⟨some 9, .mv (.t 8), none⟩,
    ⟨some 10, .mv (.t 0), some (9, true)⟩,
    ⟨some 11, .len .sl (.t 10), some (9, true)⟩,
    ⟨some 12, .bin .leq .val (.t 11) (.c (.f (.int .i64 8))), some (9, true)⟩,
    ⟨some 13, .pick (.t 9) (.t 12) (.c (.f (.bool false))), none⟩,
    ⟨some 14, .mv (.t 13), none⟩,
    ⟨some 15, .mv (.t 3), some (14, true)⟩,
    ⟨some 16, .not (.t 15), some (14, true)⟩,
    ⟨some 17, .pick (.t 14) (.t 16) (.c (.f (.bool false))), none⟩,
    ⟨some 2, .mv (.t 17), none⟩] none [2])
  (.ret)))
def B.part_Of : AC :=
  .seq (.region [⟨some 1, .box (.t 0), none⟩,
    ⟨some 2, .mv (.c (.sl0 7)), none⟩] none [1])
  (.seq (.seq (.region [⟨some 11, .load (some 6) (.t 1), none⟩,
    ⟨some 12, .call N.nodes_May [(.t 11)], none⟩,
    ⟨some 13, .not (.t 12), none⟩] none [1, 13])
  (.cond (.t 13) (.seq (.region [⟨some 2, .mv (.c (.sl0 7)), none⟩] none [2])
    (.ret))
  (.skip)))
  (.seq (.region [⟨some 3, .new 1 [.sl0 7], none⟩] none [1, 3])
  (.seq (.region [⟨some 14, .mkfn (.func N.part_Of_c1) [] [(.t 3)], none⟩,
    ⟨some 4, .mv (.t 14), none⟩] none [1, 3, 4])
  (.seq (.region [⟨some 15, .faddr (.t 1) 1, none⟩,
    ⟨some 16, .load none (.t 15), none⟩,
    ⟨some 17, .call N.part_up [(.t 16)], none⟩,
    ⟨some 5, .new 1 [.f (.str .empty)], none⟩,
    ⟨none, .store 1 (.t 5) (.t 17), none⟩] none [1, 3, 4, 5])
  (.seq (.region [⟨some 18, .mkfn (.func N.part_Of_c2) [] [(.t 5), (.t 1)], none⟩,
    ⟨some 6, .new 1 [.f .nilf], none⟩,
    ⟨none, .store 1 (.t 6) (.t 18), none⟩] none [1, 3, 4, 5, 6])
  (.seq (.region [⟨some 19, .mkfn (.func N.part_Of_c3) [] [(.t 1)], none⟩,
    ⟨some 7, .mv (.t 19), none⟩] none [1, 3, 4, 5, 6, 7])
  (.seq (.region [⟨some 20, .mkfn (.func N.part_Of_c4) [] [(.t 6), (.t 1)], none⟩,
    ⟨some 8, .mv (.t 20), none⟩] none [1, 3, 4, 5, 6, 7, 8])
  (.seq (.seq (.region [⟨some 21, .faddr (.t 1) 0, none⟩,
    ⟨some 22, .load none (.t 21), none⟩] none [1, 3, 4, 5, 6, 7, 8, 22])
  (.block 0 (.seq (.region [⟨some 24, .bin .eql .val (.t 22) (.c (.f (.int .i64 1))), none⟩,
      ⟨some 23, .mv (.t 24), none⟩] none [1, 3, 4, 5, 6, 7, 8, 22, 23])
    (.cond (.t 23) (.seq (.region [⟨some 25, .load none (.t 6), none⟩,
        ⟨some 26, .callv (.t 25) [(.c (.f (.int .i64 2)))], none⟩,
        ⟨some 9, .new 7 [.f (.int .i64 0), .f (.str .empty), .f (.str .empty), .f (.str .empty), .f (.int .i64 0), .f (.int .i64 0), .f (.bool false)], none⟩,
        ⟨none, .store 7 (.t 9) (.t 26), none⟩] none [1, 3, 4, 5, 9])
      (.seq (.region [⟨some 27, .faddr (.t 1) 2, none⟩,
        ⟨some 28, .load none (.t 27), none⟩,
        ⟨some 29, .faddr (.t 1) 4, none⟩,
        ⟨some 30, .load none (.t 29), none⟩,
        ⟨some 31, .faddr (.t 1) 5, none⟩,
        ⟨some 32, .load none (.t 31), none⟩,
        ⟨some 33, .faddr (.t 9) 3, none⟩,
        ⟨none, .store 1 (.t 33) (.t 28), none⟩,
        ⟨some 34, .faddr (.t 9) 5, none⟩,
        ⟨none, .store 1 (.t 34) (.t 30), none⟩,
        ⟨some 35, .faddr (.t 9) 6, none⟩,
        ⟨none, .store 1 (.t 35) (.t 32), none⟩] (some [(3, 7), (5, 7), (5, 9)]) [3, 4, 5, 9])
      (.region [⟨some 36, .mv (.t 4), none⟩,
        ⟨some 37, .load none (.t 5), none⟩,
        ⟨some 38, .call N.part_up [(.t 37)], none⟩,
        ⟨some 39, .load none (.t 5), none⟩,
        ⟨some 40, .build [.f (.int .i64 0), .f (.str .empty), .f (.str .empty), .f (.str .empty), .f (.int .i64 0), .f (.int .i64 0), .f (.bool false)] [(0, 1, (.c (.f (.int .i64 1)))), (1, 1, (.t 38)), (2, 1, (.t 39))], none⟩,
        ⟨some 41, .load (some 7) (.t 9), none⟩,
        ⟨some 42, .bslice 7 [(.t 40), (.t 41)], none⟩,
        ⟨some 43, .callv (.t 36) [(.t 42)], none⟩] (some [(2, 3), (2, 5)]) [3])))
    (.seq (.region [⟨some 45, .bin .eql .val (.t 22) (.c (.f (.int .i64 2))), none⟩,
        ⟨some 44, .mv (.t 45), none⟩] none [1, 3, 4, 6, 7, 8, 22, 44])
      (.cond (.t 44) (.region [⟨some 46, .mv (.t 4), none⟩,
          ⟨some 47, .mv (.t 8), none⟩,
          ⟨some 48, .callv (.t 47) [(.c (.f (.int .i64 3)))], none⟩,
          ⟨some 49, .mv (.t 7), none⟩,
          ⟨some 50, .callv (.t 49) [(.c (.f (.int .i64 4)))], none⟩,
          ⟨some 51, .bslice 7 [(.t 48), (.t 50)], none⟩,
          ⟨some 52, .callv (.t 46) [(.t 51)], none⟩] none [3])
      (.seq (.region [⟨some 54, .bin .eql .val (.t 22) (.c (.f (.int .i64 3))), none⟩,
          ⟨some 53, .mv (.t 54), none⟩] none [1, 3, 4, 6, 7, 8, 22, 53])
        (.cond (.t 53) (.seq (.region [⟨some 55, .mv (.t 8), none⟩,
            ⟨some 56, .callv (.t 55) [(.c (.f (.int .i64 5)))], none⟩,
            ⟨some 10, .new 7 [.f (.int .i64 0), .f (.str .empty), .f (.str .empty), .f (.str .empty), .f (.int .i64 0), .f (.int .i64 0), .f (.bool false)], none⟩,
            ⟨none, .store 7 (.t 10) (.t 56), none⟩] none [1, 3, 4, 10])
          (.seq (.region [⟨some 57, .faddr (.t 1) 2, none⟩,
            ⟨some 58, .load none (.t 57), none⟩,
            ⟨some 59, .faddr (.t 10) 3, none⟩,
            ⟨none, .store 1 (.t 59) (.t 58), none⟩] none [3, 4, 10])
          (.region [⟨some 60, .mv (.t 4), none⟩,
            ⟨some 61, .load (some 7) (.t 10), none⟩,
            ⟨some 62, .bslice 7 [(.t 61)], none⟩,
            ⟨some 63, .callv (.t 60) [(.t 62)], none⟩] none [3])))
        (.seq (.region [⟨some 65, .bin .eql .val (.t 22) (.c (.f (.int .i64 4))), none⟩,
            ⟨some 64, .mv (.t 65), none⟩] none [3, 4, 6, 7, 8, 22, 64])
          (.cond (.t 64) (.region [⟨some 66, .mv (.t 4), none⟩,
              ⟨some 67, .mv (.t 8), none⟩,
              ⟨some 68, .callv (.t 67) [(.c (.f (.int .i64 6)))], none⟩,
              ⟨some 69, .bslice 7 [(.t 68)], none⟩,
              ⟨some 70, .callv (.t 66) [(.t 69)], none⟩] none [3])
          (.seq (.region [⟨some 72, .bin .eql .val (.t 22) (.c (.f (.int .i64 5))), none⟩,
              ⟨some 71, .mv (.t 72), none⟩] none [3, 4, 6, 7, 22, 71])
            (.cond (.t 71) (.region [⟨some 73, .mv (.t 4), none⟩,
                ⟨some 74, .load none (.t 6), none⟩,
                ⟨some 75, .callv (.t 74) [(.c (.f (.int .i64 7)))], none⟩,
                ⟨some 76, .bslice 7 [(.t 75)], none⟩,
                ⟨some 77, .callv (.t 73) [(.t 76)], none⟩] none [3])
            (.seq (.region [⟨some 79, .bin .eql .val (.t 22) (.c (.f (.int .i64 6))), none⟩,
                ⟨some 78, .mv (.t 79), none⟩] none [3, 4, 6, 7, 22, 78])
              (.cond (.t 78) (.region [⟨some 80, .mv (.t 4), none⟩,
                  ⟨some 81, .load none (.t 6), none⟩,
                  ⟨some 82, .callv (.t 81) [(.c (.f (.int .i64 8)))], none⟩,
                  ⟨some 83, .mv (.t 7), none⟩,
                  ⟨some 84, .callv (.t 83) [(.c (.f (.int .i64 9)))], none⟩,
                  ⟨some 85, .bslice 7 [(.t 82), (.t 84)], none⟩,
                  ⟨some 86, .callv (.t 80) [(.t 85)], none⟩] none [3])
              (.seq (.region [⟨some 88, .bin .eql .val (.t 22) (.c (.f (.int .i64 7))), none⟩,
                  ⟨some 87, .mv (.t 88), none⟩] none [3, 4, 6, 7, 87])
                (.cond (.t 87) (.region [⟨some 89, .mv (.t 4), none⟩,
                    ⟨some 90, .load none (.t 6), none⟩,
                    ⟨some 91, .callv (.t 90) [(.c (.f (.int .i64 8)))], none⟩,
                    ⟨some 92, .mv (.t 7), none⟩,
                    ⟨some 93, .callv (.t 92) [(.c (.f (.int .i64 10)))], none⟩,
                    ⟨some 94, .bslice 7 [(.t 91), (.t 93)], none⟩,
                    ⟨some 95, .callv (.t 89) [(.t 94)], none⟩] none [3])
                (.skip)))))))))))))))))
  (.seq (.region [⟨some 96, .load none (.t 3), none⟩,
    ⟨some 2, .mv (.t 96), none⟩] none [2])
  (.ret))))))))))
def B.part_Right_c1 : AC :=
  .seq (.region [⟨some 1, .box (.t 0), none⟩,
    ⟨some 2, .mv (.c (.f (.bool false))), none⟩] none [1])
  (.seq (.region [⟨some 3, .faddr (.t 1) 3, none⟩,
    ⟨some 4, .load none (.t 3), none⟩,
    ⟨some 5, .bin .neq .val (.t 4) (.c (.f (.int .i64 0))), none⟩,
    ⟨some 6, .mv (.t 5), none⟩,
    ⟨some 7, .faddr (.t 1) 0, some (6, false)⟩,
    ⟨some 8, .load none (.t 7), some (6, false)⟩,
    ⟨some 9, .faddr (.t 1) 1, some (6, false)⟩,
    ⟨some 10, .load none (.t 9), some (6, false)⟩,
    ⟨some 11, .faddr (.t 1) 2, some (6, false)⟩,
    ⟨some 12, .load none (.t 11), some (6, false)⟩,
    ⟨some 13, .faddr (.t 1) 4, some (6, false)⟩,
    ⟨some 14, .load none (.t 13), some (6, false)⟩,
    ⟨some 15, .call N.part_fields [(.t 8), (.t 10), (.t 12), (.c (.f (.int .i64 0))), (.t 14)], some (6, false)⟩,
    ⟨some 16, .not (.t 15), some (6, false)⟩,
    ⟨some 17, .pick (.t 6) (.c (.f (.bool true))) (.t 16), none⟩,
    ⟨some 2, .mv (.t 17), none⟩] none [2])
  (.ret))
def B.part_fields : AC :=
  .seq (.region [⟨some 10, .mv (.c (.f (.bool false))), none⟩] none [0, 1, 2, 3, 4])
  (.seq (.region [⟨some 11, .mv (.t 0), none⟩,
    ⟨some 12, .call N.path_Right [(.t 11)], none⟩,
    ⟨some 13, .mv (.t 12), none⟩,
    ⟨some 14, .mv (.t 1), some (13, true)⟩,
    ⟨some 15, .len .str (.t 14), some (13, true)⟩,
    ⟨some 16, .bin .leq .val (.t 15) (.c (.f (.int .i64 256))), some (13, true)⟩,
    ⟨some 17, .pick (.t 13) (.t 16) (.c (.f (.bool false))), none⟩,
    ⟨some 18, .mv (.t 17), none⟩,
    ⟨some 19, .mv (.t 2), some (18, true)⟩,
    ⟨some 20, .mv (.t 3), some (18, true)⟩,
    ⟨some 21, .call N.part_within [(.t 19), (.t 20), (.c (.f (.int .i64 281474976710656)))], some (18, true)⟩,
    ⟨some 22, .pick (.t 18) (.t 21) (.c (.f (.bool false))), none⟩,
    ⟨some 23, .mv (.t 22), none⟩,
    ⟨some 24, .mv (.t 4), some (23, true)⟩,
    ⟨some 25, .call N.part_within [(.t 24), (.c (.f (.int .i64 0))), (.c (.f (.int .i64 1099511627776)))], some (23, true)⟩,
    ⟨some 26, .pick (.t 23) (.t 25) (.c (.f (.bool false))), none⟩,
    ⟨some 10, .mv (.t 26), none⟩] none [10])
  (.ret))
def B.path_Right : AC :=
  .seq (.region [⟨some 2, .mv (.c (.f (.bool false))), none⟩] none [0])
  (.seq (.region [⟨some 6, .mv (.t 0), none⟩,
    ⟨some 7, .call N.path_Split [(.t 6)], none⟩,
    ⟨some 5, .mv (.t 7), none⟩,
    ⟨some 8, .extr (.t 5) 0, none⟩,
    ⟨some 9, .extr (.t 5) 1, none⟩,
    ⟨some 3, .mv (.t 8), none⟩,
    ⟨some 4, .mv (.t 9), none⟩] none [4])
  (.seq (.region [⟨some 10, .mv (.t 4), none⟩,
    ⟨some 2, .mv (.t 10), none⟩] none [2])
  (.ret)))
def B.part_within : AC :=
  .seq (.region [⟨some 6, .mv (.c (.f (.bool false))), none⟩] none [0, 1, 2])
  (.seq (.region [⟨some 7, .mv (.t 0), none⟩,
    ⟨some 8, .mv (.t 1), none⟩,
    ⟨some 9, .bin .geq .val (.t 7) (.t 8), none⟩,
    ⟨some 10, .mv (.t 9), none⟩,
    ⟨some 11, .mv (.t 0), some (10, true)⟩,
    ⟨some 12, .mv (.t 2), some (10, true)⟩,
    ⟨some 13, .bin .leq .val (.t 11) (.t 12), some (10, true)⟩,
    ⟨some 14, .pick (.t 10) (.t 13) (.c (.f (.bool false))), none⟩,
    ⟨some 6, .mv (.t 14), none⟩] none [6])
  (.ret))
def G.part_rising_52 (p0 : Nat) : AC :=
  .seq (.region [⟨some 4, .mv (.c (.f (.bool false))), none⟩] none [0, 1])
  (.seq (.seq (.region [⟨some 6, .mv (.t 0), none⟩,
    ⟨some 7, .len .sl (.t 6), none⟩,
    ⟨some 8, .mv (.c (.f (.int .i64 0))), none⟩] none [0, 1, 7, 8])
  (.block 0 (.loop [0, 1, 7, 8] [] (.seq (.region [⟨some 9, .bin .lss .val (.t 8) (.t 7), none⟩] none [0, 1, 7, 8, 9])
      (.seq (.cond (.t 9) (.skip)
      (.exit 0))
      (.seq (.block 1 (.seq (.region [⟨some 10, .mv (.t 8), none⟩,
          ⟨some 5, .mv (.t 10), none⟩] none [0, 1, 5, 7, 8])
        (.seq (.region [⟨some 11, .mv (.t 5), none⟩,
          ⟨some 12, .bin .gtr .val (.t 11) (.c (.f (.int .i64 0))), none⟩,
          ⟨some 13, .mv (.t 12), none⟩,
          ⟨some 14, .mv (.t 1), some (13, true)⟩,
          ⟨some 15, .mv (.t 0), some (13, true)⟩,
          ⟨some 16, .mv (.t 5), some (13, true)⟩,
          ⟨some 17, .bin .sub .val (.t 16) (.c (.f (.int .i64 1))), some (13, true)⟩,
          ⟨some 18, .iaddr p0 none (.t 15) (.t 17), some (13, true)⟩,
          ⟨some 19, .load (some p0) (.t 18), some (13, true)⟩,
          ⟨some 20, .callv (.t 14) [(.t 19)], some (13, true)⟩,
          ⟨some 21, .mv (.t 1), some (13, true)⟩,
          ⟨some 22, .mv (.t 0), some (13, true)⟩,
          ⟨some 23, .mv (.t 5), some (13, true)⟩,
          ⟨some 24, .iaddr p0 none (.t 22) (.t 23), some (13, true)⟩,
          ⟨some 25, .load (some p0) (.t 24), some (13, true)⟩,
          ⟨some 26, .callv (.t 21) [(.t 25)], some (13, true)⟩,
          ⟨some 27, .bin .geq .val (.t 20) (.t 26), some (13, true)⟩,
          ⟨some 28, .pick (.t 13) (.t 27) (.c (.f (.bool false))), none⟩] (some [(9, 13), (9, 14)]) [0, 1, 7, 8, 28])
        (.cond (.t 28) (.seq (.region [⟨some 4, .mv (.c (.f (.bool false))), none⟩] none [4])
          (.ret))
        (.skip)))))
      (.region [⟨some 29, .bin .add .val (.t 8) (.c (.f (.int .i64 1))), none⟩,
        ⟨some 8, .mv (.t 29), none⟩] none [0, 1, 7, 8])))))))
  (.seq (.region [⟨some 4, .mv (.c (.f (.bool true))), none⟩] none [4])
  (.ret)))
def B.part_rising_Node : AC := G.part_rising_52 5
def B.part_rising_Turn : AC := G.part_rising_52 2
def B.part_Right_c3 : AC :=
  .seq (.region [⟨some 1, .box (.t 0), none⟩,
    ⟨some 2, .mv (.c (.f (.str ⟨#[]⟩))), none⟩] none [1])
  (.seq (.region [⟨some 3, .faddr (.t 1) 0, none⟩,
    ⟨some 4, .load none (.t 3), none⟩,
    ⟨some 2, .mv (.t 4), none⟩] none [2])
  (.ret))
def B.slices_Sort_string : AC :=
  .seq (.region [⟨some 3, .mv (.t 0), none⟩,
    ⟨some 4, .len .sl (.t 3), none⟩,
    ⟨some 2, .mv (.t 4), none⟩] none [0, 2])
  (.region [⟨some 5, .mv (.t 0), none⟩,
    ⟨some 6, .mv (.t 2), none⟩,
    ⟨some 7, .mv (.t 2), none⟩,
    ⟨some 8, .conv (.toInt .u64) (.t 7), none⟩,
    ⟨some 9, .call N.math_bits_Len [(.t 8)], none⟩,
    ⟨some 10, .call N.slices_pdqsortOrdered_string [(.t 5), (.c (.f (.int .i64 0))), (.t 6), (.t 9)], none⟩] none [])
def B.slices_Compact_string : AC :=
  .seq (.region [⟨some 2, .mv (.c (.sl0 1)), none⟩] none [0])
  (.seq (.seq (.region [⟨some 6, .mv (.t 0), none⟩,
    ⟨some 7, .len .sl (.t 6), none⟩,
    ⟨some 8, .bin .lss .val (.t 7) (.c (.f (.int .i64 2))), none⟩] none [0, 8])
  (.cond (.t 8) (.seq (.region [⟨some 9, .mv (.t 0), none⟩,
      ⟨some 2, .mv (.t 9), none⟩] none [2])
    (.ret))
  (.skip)))
  (.seq (.seq (.region [⟨some 3, .mv (.c (.f (.int .i64 1))), none⟩] none [0, 3])
  (.block 0 (.loop [0, 3] [] (.seq (.seq (.region [⟨some 10, .mv (.t 3), none⟩,
        ⟨some 11, .mv (.t 0), none⟩,
        ⟨some 12, .len .sl (.t 11), none⟩,
        ⟨some 13, .bin .lss .val (.t 10) (.t 12), none⟩] none [0, 3, 13])
      (.cond (.t 13) (.skip)
      (.exit 0)))
      (.seq (.block 1 (.seq (.region [⟨some 16, .mv (.t 0), none⟩,
          ⟨some 17, .mv (.t 3), none⟩,
          ⟨some 18, .iaddr 1 none (.t 16) (.t 17), none⟩,
          ⟨some 19, .load none (.t 18), none⟩,
          ⟨some 20, .mv (.t 0), none⟩,
          ⟨some 21, .mv (.t 3), none⟩,
          ⟨some 22, .bin .sub .val (.t 21) (.c (.f (.int .i64 1))), none⟩,
          ⟨some 23, .iaddr 1 none (.t 20) (.t 22), none⟩,
          ⟨some 24, .load none (.t 23), none⟩,
          ⟨some 25, .bin .eql .val (.t 19) (.t 24), none⟩] (some []) [0, 3, 25])
        (.cond (.t 25) (.seq (.region [⟨some 26, .mv (.t 0), none⟩,
            ⟨some 27, .mv (.t 3), none⟩,
            ⟨some 28, .slice 1 (.t 26) (some (.t 27)) none none, none⟩,
            ⟨some 4, .mv (.t 28), none⟩] none [0, 3, 4])
          (.seq (.seq (.region [⟨some 5, .mv (.c (.f (.int .i64 1))), none⟩] none [0, 3, 4, 5])
          (.block 2 (.loop [0, 3, 4, 5] [] (.seq (.seq (.region [⟨some 29, .mv (.t 5), none⟩,
                ⟨some 30, .mv (.t 4), none⟩,
                ⟨some 31, .len .sl (.t 30), none⟩,
                ⟨some 32, .bin .lss .val (.t 29) (.t 31), none⟩] none [0, 3, 4, 5, 32])
              (.cond (.t 32) (.skip)
              (.exit 2)))
              (.seq (.block 3 (.seq (.region [⟨some 35, .mv (.t 4), none⟩,
                  ⟨some 36, .mv (.t 5), none⟩,
                  ⟨some 37, .iaddr 1 none (.t 35) (.t 36), none⟩,
                  ⟨some 38, .load none (.t 37), none⟩,
                  ⟨some 39, .mv (.t 4), none⟩,
                  ⟨some 40, .mv (.t 5), none⟩,
                  ⟨some 41, .bin .sub .val (.t 40) (.c (.f (.int .i64 1))), none⟩,
                  ⟨some 42, .iaddr 1 none (.t 39) (.t 41), none⟩,
                  ⟨some 43, .load none (.t 42), none⟩,
                  ⟨some 44, .bin .neq .val (.t 38) (.t 43), none⟩] (some []) [0, 3, 4, 5, 44])
                (.cond (.t 44) (.seq (.region [⟨some 45, .mv (.t 0), none⟩,
                    ⟨some 46, .mv (.t 3), none⟩,
                    ⟨some 47, .mv (.t 4), none⟩,
                    ⟨some 48, .mv (.t 5), none⟩,
                    ⟨some 49, .iaddr 1 none (.t 47) (.t 48), none⟩,
                    ⟨some 50, .load none (.t 49), none⟩,
                    ⟨some 51, .iaddr 1 none (.t 45) (.t 46), none⟩,
                    ⟨none, .store 1 (.t 51) (.t 50), none⟩] none [0, 3, 4, 5])
                  (.region [⟨some 52, .mv (.t 3), none⟩,
                    ⟨some 53, .bin .add .val (.t 52) (.c (.f (.int .i64 1))), none⟩,
                    ⟨some 3, .mv (.t 53), none⟩] none [0, 3, 4, 5]))
                (.skip))))
              (.region [⟨some 33, .mv (.t 5), none⟩,
                ⟨some 34, .bin .add .val (.t 33) (.c (.f (.int .i64 1))), none⟩,
                ⟨some 5, .mv (.t 34), none⟩] none [0, 3, 4, 5]))))))
          (.seq (.region [⟨some 54, .mv (.t 0), none⟩,
            ⟨some 55, .mv (.t 3), none⟩,
            ⟨some 56, .slice 1 (.t 54) (some (.t 55)) none none, none⟩,
            ⟨none, .clear [.str .empty] (.t 56), none⟩] none [0, 3])
          (.seq (.region [⟨some 57, .mv (.t 0), none⟩,
            ⟨some 58, .mv (.t 3), none⟩,
            ⟨some 59, .slice 1 (.t 57) none (some (.t 58)) none, none⟩,
            ⟨some 2, .mv (.t 59), none⟩] none [2])
          (.ret)))))
        (.skip))))
      (.region [⟨some 14, .mv (.t 3), none⟩,
        ⟨some 15, .bin .add .val (.t 14) (.c (.f (.int .i64 1))), none⟩,
        ⟨some 3, .mv (.t 15), none⟩] none [0, 3]))))))
  (.seq (.region [⟨some 60, .mv (.t 0), none⟩,
    ⟨some 2, .mv (.t 60), none⟩] none [2])
  (.ret))))
def B.slices_IndexFunc_string : AC :=
  .seq (.region [⟨some 4, .mv (.c (.f (.int .i64 0))), none⟩] none [0, 1])
  (.seq (.seq (.region [⟨some 6, .mv (.t 0), none⟩,
    ⟨some 7, .len .sl (.t 6), none⟩,
    ⟨some 8, .mv (.c (.f (.int .i64 0))), none⟩] none [0, 1, 7, 8])
  (.block 0 (.loop [0, 1, 7, 8] [] (.seq (.region [⟨some 9, .bin .lss .val (.t 8) (.t 7), none⟩] none [0, 1, 7, 8, 9])
      (.seq (.cond (.t 9) (.skip)
      (.exit 0))
      (.seq (.block 1 (.seq (.region [⟨some 10, .mv (.t 8), none⟩,
          ⟨some 5, .mv (.t 10), none⟩] none [0, 1, 5, 7, 8])
        (.seq (.region [⟨some 11, .mv (.t 1), none⟩,
          ⟨some 12, .mv (.t 0), none⟩,
          ⟨some 13, .mv (.t 5), none⟩,
          ⟨some 14, .iaddr 1 none (.t 12) (.t 13), none⟩,
          ⟨some 15, .load none (.t 14), none⟩,
          ⟨some 16, .callv (.t 11) [(.t 15)], none⟩] none [0, 1, 5, 7, 8, 16])
        (.cond (.t 16) (.seq (.region [⟨some 17, .mv (.t 5), none⟩,
            ⟨some 4, .mv (.t 17), none⟩] none [4])
          (.ret))
        (.skip)))))
      (.region [⟨some 18, .bin .add .val (.t 8) (.c (.f (.int .i64 1))), none⟩,
        ⟨some 8, .mv (.t 18), none⟩] none [0, 1, 7, 8])))))))
  (.seq (.region [⟨some 4, .mv (.c (.f (.int .i64 (-1)))), none⟩] none [4])
  (.ret)))
def G.slices_IndexFunc_59 (p0 : Nat) : AC :=
  .seq (.region [⟨some 4, .mv (.c (.f (.int .i64 0))), none⟩] none [0, 1])
  (.seq (.seq (.region [⟨some 6, .mv (.t 0), none⟩,
    ⟨some 7, .len .sl (.t 6), none⟩,
    ⟨some 8, .mv (.c (.f (.int .i64 0))), none⟩] none [0, 1, 7, 8])
  (.block 0 (.loop [0, 1, 7, 8] [] (.seq (.region [⟨some 9, .bin .lss .val (.t 8) (.t 7), none⟩] none [0, 1, 7, 8, 9])
      (.seq (.cond (.t 9) (.skip)
      (.exit 0))
      (.seq (.block 1 (.seq (.region [⟨some 10, .mv (.t 8), none⟩,
          ⟨some 5, .mv (.t 10), none⟩] none [0, 1, 5, 7, 8])
        (.seq (.region [⟨some 11, .mv (.t 1), none⟩,
          ⟨some 12, .mv (.t 0), none⟩,
          ⟨some 13, .mv (.t 5), none⟩,
          ⟨some 14, .iaddr p0 none (.t 12) (.t 13), none⟩,
          ⟨some 15, .load (some p0) (.t 14), none⟩,
          ⟨some 16, .callv (.t 11) [(.t 15)], none⟩] none [0, 1, 5, 7, 8, 16])
        (.cond (.t 16) (.seq (.region [⟨some 17, .mv (.t 5), none⟩,
            ⟨some 4, .mv (.t 17), none⟩] none [4])
          (.ret))
        (.skip)))))
      (.region [⟨some 18, .bin .add .val (.t 8) (.c (.f (.int .i64 1))), none⟩,
        ⟨some 8, .mv (.t 18), none⟩] none [0, 1, 7, 8])))))))
  (.seq (.region [⟨some 4, .mv (.c (.f (.int .i64 (-1)))), none⟩] none [4])
  (.ret)))
def B.slices_IndexFunc_Hold : AC := G.slices_IndexFunc_59 3
def B.slices_IndexFunc_Range : AC := G.slices_IndexFunc_59 3
def B.slices_IndexFunc_Node : AC := G.slices_IndexFunc_59 5
def B.slices_IndexFunc_Turn : AC := G.slices_IndexFunc_59 2
def B.slices_IndexFunc_Watch : AC := G.slices_IndexFunc_59 4
def B.slices_IndexFunc_Op : AC := G.slices_IndexFunc_59 6
def B.slices_IndexFunc_Session : AC := G.slices_IndexFunc_59 3
def B.locks_Held_c1 : AC :=
  .seq (.region [⟨some 2, .box (.t 0), none⟩,
    ⟨some 3, .mv (.c (.f (.bool false))), none⟩] none [1, 2])
  (.seq (.region [⟨some 4, .faddr (.t 2) 0, none⟩,
    ⟨some 5, .load none (.t 4), none⟩,
    ⟨some 6, .load none (.t 1), none⟩,
    ⟨some 7, .bin .eql .val (.t 5) (.t 6), none⟩,
    ⟨some 3, .mv (.t 7), none⟩] none [3])
  (.ret))
def B.shard_Shard_where_c1 : AC :=
  .seq (.region [⟨some 3, .box (.t 0), none⟩,
    ⟨some 4, .mv (.c (.f (.bool false))), none⟩] none [1, 2, 3])
  (.seq (.region [⟨some 5, .load none (.t 1), none⟩,
    ⟨some 6, .mkfn (.func N.shard_Shard_where_c1_c1) [] [(.t 2), (.t 3)], none⟩,
    ⟨some 7, .call N.slices_ContainsFunc_string [(.t 5), (.t 6)], none⟩,
    ⟨some 4, .mv (.t 7), none⟩] none [4])
  (.ret))
def B.shard_Shard_where_c1_c1 : AC :=
  .seq (.region [⟨some 4, .mv (.c (.f (.bool false))), none⟩] none [0, 1, 2])
  (.seq (.region [⟨some 5, .load none (.t 1), none⟩,
    ⟨some 6, .nilchk (.t 5), none⟩,
    ⟨some 7, .faddr (.t 6) 2, none⟩,
    ⟨some 8, .load none (.t 7), none⟩,
    ⟨some 9, .mv (.t 0), none⟩,
    ⟨some 10, .call N.owned_State [(.t 8), (.t 9)], none⟩,
    ⟨some 11, .load none (.t 2), none⟩,
    ⟨some 12, .bin .eql .val (.t 10) (.t 11), none⟩,
    ⟨some 4, .mv (.t 12), none⟩] (some [(5, 6)]) [4])
  (.ret))
def B.owned_State : AC :=
  .seq (.region [⟨some 4, .mv (.c (.f (.int .i64 0))), none⟩] none [0, 1])
  (.seq (.seq (.region [⟨some 6, .mv (.t 0), none⟩,
    ⟨some 7, .mv (.t 1), none⟩,
    ⟨some 8, .call N.owned_Of [(.t 6), (.t 7)], none⟩,
    ⟨some 5, .mv (.t 8), none⟩] none [0, 5])
  (.seq (.region [⟨some 9, .mv (.t 5), none⟩,
    ⟨some 10, .bin .geq .val (.t 9) (.c (.f (.int .i64 0))), none⟩] none [0, 5, 10])
  (.cond (.t 10) (.seq (.region [⟨some 11, .mv (.t 0), none⟩,
      ⟨some 12, .mv (.t 5), none⟩,
      ⟨some 13, .iaddr 3 none (.t 11) (.t 12), none⟩,
      ⟨some 14, .faddr (.t 13) 2, none⟩,
      ⟨some 15, .load none (.t 14), none⟩,
      ⟨some 4, .mv (.t 15), none⟩] none [4])
    (.ret))
  (.skip))))
  (.seq (.region [⟨some 4, .mv (.c (.f (.int .i64 3))), none⟩] none [4])
  (.ret)))
def B.shard_Shard_tell : AC :=
  .seq (.region [⟨some 12, .mv (.t 1), none⟩,
    ⟨some 13, .len .sl (.t 12), none⟩,
    ⟨some 14, .mv (.c (.f (.int .i64 0))), none⟩] none [0, 2, 12, 13, 14])
  (.block 0 (.loop [0, 2, 12, 13, 14] [] (.seq (.region [⟨some 15, .bin .lss .val (.t 14) (.t 13), none⟩] none [0, 2, 12, 13, 14, 15])
      (.seq (.cond (.t 15) (.skip)
      (.exit 0))
      (.seq (.block 1 (.seq (.region [⟨some 16, .mv (.t 14), none⟩,
          ⟨some 17, .iaddr 8 none (.t 12) (.t 14), none⟩,
          ⟨some 18, .load (some 8) (.t 17), none⟩,
          ⟨some 7, .new 8 [.f (.int .i64 0), .f (.int .i64 0), .f (.str .empty), .f (.str .empty), .f (.str .empty), .f (.int .i64 0), .f (.int .i64 0), .f (.bool false)], none⟩,
          ⟨some 6, .mv (.t 16), none⟩,
          ⟨none, .store 8 (.t 7) (.t 18), none⟩] none [0, 2, 6, 7, 12, 13, 14])
        (.seq (.region [⟨some 19, .faddr (.t 7) 1, none⟩,
          ⟨some 20, .faddr (.t 19) 0, none⟩,
          ⟨some 21, .load none (.t 20), none⟩] none [0, 2, 6, 7, 12, 13, 14, 21])
        (.block 2 (.seq (.region [⟨some 23, .bin .eql .val (.t 21) (.c (.f (.int .i64 2))), none⟩,
            ⟨some 22, .mv (.t 23), none⟩] none [0, 2, 6, 7, 12, 13, 14, 21, 22])
          (.cond (.t 22) (.region [⟨some 24, .mv (.t 0), none⟩,
              ⟨some 25, .mv (.t 2), none⟩,
              ⟨some 26, .mv (.t 6), none⟩,
              ⟨some 27, .iaddr 5 none (.t 25) (.t 26), none⟩,
              ⟨some 28, .faddr (.t 27) 1, none⟩,
              ⟨some 29, .load none (.t 28), none⟩,
              ⟨some 30, .call N.shard_Shard_happen [(.t 24), (.c (.f (.int .i64 1))), (.t 29)], none⟩] none [0, 2, 12, 13, 14])
          (.seq (.region [⟨some 32, .bin .eql .val (.t 21) (.c (.f (.int .i64 3))), none⟩,
              ⟨some 31, .mv (.t 32), none⟩] none [0, 2, 6, 7, 12, 13, 14, 21, 31])
            (.cond (.t 31) (.region [⟨some 33, .mv (.t 0), none⟩,
                ⟨some 34, .faddr (.t 7) 1, none⟩,
                ⟨some 35, .faddr (.t 34) 2, none⟩,
                ⟨some 36, .load none (.t 35), none⟩,
                ⟨some 37, .call N.shard_Shard_happen [(.t 33), (.c (.f (.int .i64 2))), (.t 36)], none⟩] none [0, 2, 12, 13, 14])
            (.seq (.region [⟨some 39, .bin .eql .val (.t 21) (.c (.f (.int .i64 5))), none⟩,
                ⟨some 38, .mv (.t 39), none⟩] none [0, 2, 6, 7, 12, 13, 14, 21, 38])
              (.cond (.t 38) (.region [⟨some 40, .mv (.t 0), none⟩,
                  ⟨some 41, .faddr (.t 7) 1, none⟩,
                  ⟨some 42, .faddr (.t 41) 2, none⟩,
                  ⟨some 43, .load none (.t 42), none⟩,
                  ⟨some 44, .call N.shard_Shard_happen [(.t 40), (.c (.f (.int .i64 3))), (.t 43)], none⟩] none [0, 2, 12, 13, 14])
              (.seq (.region [⟨some 46, .bin .eql .val (.t 21) (.c (.f (.int .i64 10))), none⟩,
                  ⟨some 45, .mv (.t 46), none⟩] none [0, 2, 6, 7, 12, 13, 14, 45])
                (.cond (.t 45) (.seq (.region [⟨some 47, .mv (.t 2), none⟩,
                    ⟨some 48, .mv (.t 6), none⟩,
                    ⟨some 49, .iaddr 5 none (.t 47) (.t 48), none⟩,
                    ⟨some 50, .faddr (.t 49) 4, none⟩,
                    ⟨some 51, .load none (.t 50), none⟩,
                    ⟨some 52, .len .sl (.t 51), none⟩,
                    ⟨some 53, .mv (.c (.f (.int .i64 0))), none⟩] none [0, 2, 7, 12, 13, 14, 51, 52, 53])
                  (.block 3 (.loop [0, 2, 7, 12, 13, 14, 51, 52, 53] [] (.seq (.region [⟨some 54, .bin .lss .val (.t 53) (.t 52), none⟩] none [0, 2, 7, 12, 13, 14, 51, 52, 53, 54])
                      (.seq (.cond (.t 54) (.skip)
                      (.exit 3))
                      (.seq (.block 4 (.seq (.region [⟨some 55, .iaddr 1 none (.t 51) (.t 53), none⟩,
                          ⟨some 56, .load none (.t 55), none⟩,
                          ⟨some 9, .mv (.t 56), none⟩] none [0, 2, 7, 9, 12, 13, 14, 51, 52, 53])
                        (.seq (.region [⟨some 58, .faddr (.t 7) 1, none⟩,
                          ⟨some 59, .faddr (.t 58) 2, none⟩,
                          ⟨some 60, .load none (.t 59), none⟩,
                          ⟨some 61, .mv (.t 9), none⟩,
                          ⟨some 62, .call N.path_Join [(.t 60), (.t 61)], none⟩,
                          ⟨some 57, .mv (.t 62), none⟩,
                          ⟨some 63, .extr (.t 57) 0, none⟩,
                          ⟨some 64, .extr (.t 57) 1, none⟩,
                          ⟨some 10, .mv (.t 63), none⟩,
                          ⟨some 11, .mv (.t 64), none⟩] none [0, 2, 7, 10, 12, 13, 14, 51, 52, 53])
                        (.region [⟨some 65, .mv (.t 0), none⟩,
                          ⟨some 66, .mv (.t 10), none⟩,
                          ⟨some 67, .call N.shard_Shard_happen [(.t 65), (.c (.f (.int .i64 2))), (.t 66)], none⟩] none [0, 2, 7, 12, 13, 14, 51, 52, 53]))))
                      (.region [⟨some 68, .bin .add .val (.t 53) (.c (.f (.int .i64 1))), none⟩,
                        ⟨some 53, .mv (.t 68), none⟩] none [0, 2, 7, 12, 13, 14, 51, 52, 53])))))))
                (.skip)))))))))))))
      (.region [⟨some 69, .bin .add .val (.t 14) (.c (.f (.int .i64 1))), none⟩,
        ⟨some 14, .mv (.t 69), none⟩] none [0, 2, 12, 13, 14]))))))
def B.locks_Take_c1 : AC :=
  .seq (.region [⟨some 2, .mv (.c (.f (.bool false))), none⟩] none [0])
  (.seq (.region [⟨some 3, .mv (.t 0), none⟩,
    ⟨some 4, .call N.path_Right [(.t 3)], none⟩,
    ⟨some 5, .not (.t 4), none⟩,
    ⟨some 2, .mv (.t 5), none⟩] none [2])
  (.ret))
def B.locks_Right : AC :=
  .seq (.region [⟨some 2, .mv (.c (.f (.bool false))), none⟩] none [0])
  (.seq (.region [⟨some 8, .mkmap, none⟩,
    ⟨some 3, .mv (.t 8), none⟩] none [0, 3])
  (.seq (.seq (.region [⟨some 9, .mv (.t 0), none⟩,
    ⟨some 10, .len .sl (.t 9), none⟩,
    ⟨some 11, .mv (.c (.f (.int .i64 0))), none⟩] none [0, 3, 9, 10, 11])
  (.block 0 (.loop [0, 3, 9, 10, 11] [] (.seq (.region [⟨some 12, .bin .lss .val (.t 11) (.t 10), none⟩] none [0, 3, 9, 10, 11, 12])
      (.seq (.cond (.t 12) (.skip)
      (.exit 0))
      (.seq (.block 1 (.seq (.region [⟨some 13, .mv (.t 11), none⟩,
          ⟨some 14, .iaddr 3 none (.t 9) (.t 11), none⟩,
          ⟨some 15, .load (some 3) (.t 14), none⟩,
          ⟨some 5, .new 3 [.f (.str .empty), .f (.int .i64 0), .f (.int .i64 0)], none⟩,
          ⟨some 4, .mv (.t 13), none⟩,
          ⟨none, .store 3 (.t 5) (.t 15), none⟩] none [0, 3, 4, 5, 9, 10, 11])
        (.seq (.region [⟨some 17, .mv (.t 3), none⟩,
          ⟨some 18, .faddr (.t 5) 1, none⟩,
          ⟨some 19, .load none (.t 18), none⟩,
          ⟨some 20, .lookup false (.f (.int .i64 0)) (.t 17) (.t 19) true, none⟩,
          ⟨some 16, .mv (.t 20), none⟩,
          ⟨some 21, .extr (.t 16) 0, none⟩,
          ⟨some 22, .extr (.t 16) 1, none⟩,
          ⟨some 6, .mv (.t 21), none⟩,
          ⟨some 7, .mv (.t 22), none⟩] none [0, 3, 4, 5, 6, 7, 9, 10, 11])
        (.seq (.seq (.region [⟨some 23, .faddr (.t 5) 0, none⟩,
          ⟨some 24, .load none (.t 23), none⟩,
          ⟨some 25, .call N.path_Right [(.t 24)], none⟩,
          ⟨some 26, .not (.t 25), none⟩,
          ⟨some 27, .mv (.t 26), none⟩,
          ⟨some 28, .faddr (.t 5) 1, some (27, false)⟩,
          ⟨some 29, .load none (.t 28), some (27, false)⟩,
          ⟨some 30, .call N.locks_number [(.t 29)], some (27, false)⟩,
          ⟨some 31, .not (.t 30), some (27, false)⟩,
          ⟨some 32, .pick (.t 27) (.c (.f (.bool true))) (.t 31), none⟩,
          ⟨some 33, .mv (.t 32), none⟩,
          ⟨some 34, .faddr (.t 5) 2, some (33, false)⟩,
          ⟨some 35, .load none (.t 34), some (33, false)⟩,
          ⟨some 36, .call N.locks_number [(.t 35)], some (33, false)⟩,
          ⟨some 37, .not (.t 36), some (33, false)⟩,
          ⟨some 38, .pick (.t 33) (.c (.f (.bool true))) (.t 37), none⟩,
          ⟨some 39, .mv (.t 38), none⟩,
          ⟨some 40, .mv (.t 7), some (39, false)⟩,
          ⟨some 41, .mv (.t 40), some (39, false)⟩,
          ⟨some 42, .mv (.t 6), some (41, true)⟩,
          ⟨some 43, .faddr (.t 5) 2, some (41, true)⟩,
          ⟨some 44, .load none (.t 43), some (41, true)⟩,
          ⟨some 45, .bin .neq .val (.t 42) (.t 44), some (41, true)⟩,
          ⟨some 46, .pick (.t 41) (.t 45) (.c (.f (.bool false))), some (39, false)⟩,
          ⟨some 47, .pick (.t 39) (.c (.f (.bool true))) (.t 46), none⟩,
          ⟨some 48, .mv (.t 47), none⟩,
          ⟨some 49, .mv (.t 4), some (48, false)⟩,
          ⟨some 50, .bin .gtr .val (.t 49) (.c (.f (.int .i64 0))), some (48, false)⟩,
          ⟨some 51, .mv (.t 50), some (48, false)⟩,
          ⟨some 52, .mv (.t 0), some (51, true)⟩,
          ⟨some 53, .mv (.t 4), some (51, true)⟩,
          ⟨some 54, .bin .sub .val (.t 53) (.c (.f (.int .i64 1))), some (51, true)⟩,
          ⟨some 55, .iaddr 3 none (.t 52) (.t 54), some (51, true)⟩,
          ⟨some 56, .faddr (.t 55) 0, some (51, true)⟩,
          ⟨some 57, .load none (.t 56), some (51, true)⟩,
          ⟨some 58, .faddr (.t 5) 0, some (51, true)⟩,
          ⟨some 59, .load none (.t 58), some (51, true)⟩,
          ⟨some 60, .bin .geq .val (.t 57) (.t 59), some (51, true)⟩,
          ⟨some 61, .pick (.t 51) (.t 60) (.c (.f (.bool false))), some (48, false)⟩,
          ⟨some 62, .pick (.t 48) (.c (.f (.bool true))) (.t 61), none⟩] (some []) [0, 3, 5, 9, 10, 11, 62])
        (.cond (.t 62) (.seq (.region [⟨some 2, .mv (.c (.f (.bool false))), none⟩] none [2])
          (.ret))
        (.skip)))
        (.region [⟨some 63, .mv (.t 3), none⟩,
          ⟨some 64, .faddr (.t 5) 1, none⟩,
          ⟨some 65, .load none (.t 64), none⟩,
          ⟨some 66, .faddr (.t 5) 2, none⟩,
          ⟨some 67, .load none (.t 66), none⟩,
          ⟨none, .mapset false (.t 63) (.t 65) (.t 67), none⟩] none [0, 3, 9, 10, 11])))))
      (.region [⟨some 68, .bin .add .val (.t 11) (.c (.f (.int .i64 1))), none⟩,
        ⟨some 11, .mv (.t 68), none⟩] none [0, 3, 9, 10, 11])))))))
  (.seq (.region [⟨some 2, .mv (.c (.f (.bool true))), none⟩] none [2])
  (.ret))))
def B.locks_number : AC :=
  .seq (.region [⟨some 2, .mv (.c (.f (.bool false))), none⟩] none [0])
  (.seq (.region [⟨some 3, .mv (.t 0), none⟩,
    ⟨some 4, .bin .geq .val (.t 3) (.c (.f (.int .i64 0))), none⟩,
    ⟨some 5, .mv (.t 4), none⟩,
    ⟨some 6, .mv (.t 0), some (5, true)⟩,
    ⟨some 7, .bin .leq .val (.t 6) (.c (.f (.int .i64 281474976710656))), some (5, true)⟩,
    ⟨some 8, .pick (.t 5) (.t 7) (.c (.f (.bool false))), none⟩,
    ⟨some 2, .mv (.t 8), none⟩] none [2])
  (.ret))
def G.slices_BinarySearchFunc_75 (p0 : Nat) : AC :=
  .seq (.region [⟨some 6, .mv (.c (.f (.int .i64 0))), none⟩,
    ⟨some 7, .mv (.c (.f (.bool false))), none⟩] none [0, 1, 2])
  (.seq (.region [⟨some 12, .mv (.t 0), none⟩,
    ⟨some 13, .len .sl (.t 12), none⟩,
    ⟨some 8, .mv (.t 13), none⟩] none [0, 1, 2, 8])
  (.seq (.region [⟨some 14, .mv (.t 8), none⟩,
    ⟨some 9, .mv (.c (.f (.int .i64 0))), none⟩,
    ⟨some 10, .mv (.t 14), none⟩] none [0, 1, 2, 8, 9, 10])
  (.seq (.block 0 (.loop [0, 1, 2, 8, 9, 10] [] (.seq (.seq (.region [⟨some 15, .mv (.t 9), none⟩,
        ⟨some 16, .mv (.t 10), none⟩,
        ⟨some 17, .bin .lss .val (.t 15) (.t 16), none⟩] none [0, 1, 2, 8, 9, 10, 17])
      (.cond (.t 17) (.skip)
      (.exit 0)))
      (.block 1 (.seq (.region [⟨some 18, .mv (.t 9), none⟩,
          ⟨some 19, .mv (.t 10), none⟩,
          ⟨some 20, .bin .add .val (.t 18) (.t 19), none⟩,
          ⟨some 21, .conv (.toInt .u64) (.t 20), none⟩,
          ⟨some 22, .bin .shr .val (.t 21) (.c (.f (.int .u64 1))), none⟩,
          ⟨some 23, .conv (.toInt .i64) (.t 22), none⟩,
          ⟨some 11, .mv (.t 23), none⟩] none [0, 1, 2, 8, 9, 10, 11])
        (.seq (.region [⟨some 24, .mv (.t 2), none⟩,
          ⟨some 25, .mv (.t 0), none⟩,
          ⟨some 26, .mv (.t 11), none⟩,
          ⟨some 27, .iaddr p0 none (.t 25) (.t 26), none⟩,
          ⟨some 28, .load (some p0) (.t 27), none⟩,
          ⟨some 29, .mv (.t 1), none⟩,
          ⟨some 30, .callv (.t 24) [(.t 28), (.t 29)], none⟩,
          ⟨some 31, .bin .lss .val (.t 30) (.c (.f (.int .i64 0))), none⟩] none [0, 1, 2, 8, 9, 10, 11, 31])
        (.cond (.t 31) (.region [⟨some 32, .mv (.t 11), none⟩,
            ⟨some 33, .bin .add .val (.t 32) (.c (.f (.int .i64 1))), none⟩,
            ⟨some 9, .mv (.t 33), none⟩] none [0, 1, 2, 8, 9, 10])
        (.region [⟨some 34, .mv (.t 11), none⟩,
            ⟨some 10, .mv (.t 34), none⟩] none [0, 1, 2, 8, 9, 10]))))))))
  (.seq (.region [⟨some 35, .mv (.t 9), none⟩,
    ⟨some 36, .mv (.t 9), none⟩,
    ⟨some 37, .mv (.t 8), none⟩,
    ⟨some 38, .bin .lss .val (.t 36) (.t 37), none⟩,
    ⟨some 39, .mv (.t 38), none⟩,
    ⟨some 40, .mv (.t 2), some (39, true)⟩,
    ⟨some 41, .mv (.t 0), some (39, true)⟩,
    ⟨some 42, .mv (.t 9), some (39, true)⟩,
    ⟨some 43, .iaddr p0 none (.t 41) (.t 42), some (39, true)⟩,
    ⟨some 44, .load (some p0) (.t 43), some (39, true)⟩,
    ⟨some 45, .mv (.t 1), some (39, true)⟩,
    ⟨some 46, .callv (.t 40) [(.t 44), (.t 45)], some (39, true)⟩,
    ⟨some 47, .bin .eql .val (.t 46) (.c (.f (.int .i64 0))), some (39, true)⟩,
    ⟨some 48, .pick (.t 39) (.t 47) (.c (.f (.bool false))), none⟩,
    ⟨some 6, .mv (.t 35), none⟩,
    ⟨some 7, .mv (.t 48), none⟩] none [6, 7])
  (.ret)))))
def B.slices_BinarySearchFunc_Hold : AC := G.slices_BinarySearchFunc_75 3
def B.slices_BinarySearchFunc_Range : AC := G.slices_BinarySearchFunc_75 3
def B.slices_BinarySearchFunc_Node : AC := G.slices_BinarySearchFunc_75 5
def B.locks_Take_c3 : AC :=
  .seq (.region [⟨some 2, .box (.t 0), none⟩,
    ⟨some 4, .mv (.c (.f (.int .i64 0))), none⟩] none [1, 2])
  (.seq (.region [⟨some 5, .faddr (.t 2) 0, none⟩,
    ⟨some 6, .load none (.t 5), none⟩,
    ⟨some 7, .mv (.t 1), none⟩,
    ⟨some 8, .call N.strings_Compare [(.t 6), (.t 7)], none⟩,
    ⟨some 4, .mv (.t 8), none⟩] none [4])
  (.ret))
def B.part_Do : AC :=
  .seq (.region [⟨some 2, .box (.t 0), none⟩,
    ⟨some 3, .box (.t 1), none⟩,
    ⟨some 4, .new 2 [.sl0 5, .sl0 2], none⟩,
    ⟨some 5, .new 5 [.f (.int .i64 0), .f (.str .empty), .f (.str .empty), .f (.int .i64 0), .sl0 1], none⟩] none [2, 3, 4, 5])
  (.seq (.region [⟨some 8, .build [.f .nilf, .f .nilf, .f .nilf, .f .nilf, .f .nilf, .f .nilf, .f .nilf, .f .nilf, .f .nilf, .f .nilf, .f .nilf] [(1, 1, (.c (.fn (.func N.part_work_guard) [] []))), (2, 1, (.c (.fn (.func N.part_work_put) [] []))), (3, 1, (.c (.fn (.func N.part_work_remove) [] []))), (4, 1, (.c (.fn (.func N.part_work_empty) [] []))), (5, 1, (.c (.fn (.func N.part_work_alter) [] []))), (6, 1, (.c (.fn (.func N.part_work_look) [] []))), (7, 1, (.c (.fn (.func N.part_work_read) [] []))), (8, 1, (.c (.fn (.func N.part_work_has) [] []))), (9, 1, (.c (.fn (.func N.part_work_names) [] []))), (10, 1, (.c (.fn (.func N.part_work_clear) [] [])))], none⟩,
    ⟨some 6, .new 11 [.f .nilf, .f .nilf, .f .nilf, .f .nilf, .f .nilf, .f .nilf, .f .nilf, .f .nilf, .f .nilf, .f .nilf, .f .nilf], none⟩,
    ⟨none, .store 11 (.t 6) (.t 8), none⟩] none [2, 3, 4, 5, 6])
  (.seq (.seq (.region [⟨some 9, .load (some 2) (.t 2), none⟩,
    ⟨some 10, .call N.part_Right [(.t 9)], none⟩,
    ⟨some 11, .not (.t 10), none⟩,
    ⟨some 12, .mv (.t 11), none⟩,
    ⟨some 13, .load (some 7) (.t 3), some (12, false)⟩,
    ⟨some 14, .call N.part_May [(.t 13)], some (12, false)⟩,
    ⟨some 15, .not (.t 14), some (12, false)⟩,
    ⟨some 16, .pick (.t 12) (.c (.f (.bool true))) (.t 15), none⟩] none [2, 3, 4, 5, 6, 16])
  (.cond (.t 16) (.seq (.region [⟨some 17, .build [.sl0 5, .sl0 2] [], none⟩,
      ⟨some 18, .build [.f (.int .i64 0), .f (.str .empty), .f (.str .empty), .f (.int .i64 0), .sl0 1] [(0, 1, (.c (.f (.int .i64 1))))], none⟩,
      ⟨none, .store 2 (.t 4) (.t 17), none⟩,
      ⟨none, .store 5 (.t 5) (.t 18), none⟩] none [4, 5])
    (.ret))
  (.skip)))
  (.seq (.region [⟨some 19, .faddr (.t 2) 0, none⟩,
    ⟨some 20, .load none (.t 19), none⟩,
    ⟨some 21, .call N.slices_Clone_Node [(.t 20)], none⟩,
    ⟨some 22, .faddr (.t 2) 1, none⟩,
    ⟨some 23, .load none (.t 22), none⟩,
    ⟨some 24, .call N.slices_Clone_Turn [(.t 23)], none⟩,
    ⟨some 25, .build [.sl0 5, .sl0 2] [(0, 1, (.t 21)), (1, 1, (.t 24))], none⟩,
    ⟨some 26, .build [.sl0 5, .sl0 2, .f (.int .i64 0), .f (.str .empty), .f (.str .empty), .f (.int .i64 0), .sl0 1] [(0, 2, (.t 25))], none⟩,
    ⟨some 27, .box (.t 26), none⟩,
    ⟨some 7, .mv (.t 27), none⟩] (some [(2, 4)]) [2, 3, 4, 5, 6, 7])
  (.seq (.seq (.region [⟨some 28, .faddr (.t 3) 0, none⟩,
    ⟨some 29, .load none (.t 28), none⟩,
    ⟨some 30, .iaddr 1 (some 11) (.t 6) (.t 29), none⟩,
    ⟨some 31, .load none (.t 30), none⟩,
    ⟨some 32, .mv (.t 7), none⟩,
    ⟨some 33, .load (some 7) (.t 3), none⟩,
    ⟨some 34, .callv (.t 31) [(.t 32), (.t 33)], none⟩] (some []) [2, 4, 5, 7])
  (.seq (.region [⟨some 35, .mv (.t 7), none⟩,
    ⟨some 36, .nilchk (.t 35), none⟩,
    ⟨some 37, .faddr (.t 36) 2, none⟩,
    ⟨some 38, .faddr (.t 37) 0, none⟩,
    ⟨some 39, .load none (.t 38), none⟩,
    ⟨some 40, .bin .neq .val (.t 39) (.c (.f (.int .i64 0))), none⟩] none [2, 4, 5, 7, 40])
  (.cond (.t 40) (.seq (.region [⟨some 41, .load (some 2) (.t 2), none⟩,
      ⟨some 42, .mv (.t 7), none⟩,
      ⟨some 43, .nilchk (.t 42), none⟩,
      ⟨some 44, .faddr (.t 43) 2, none⟩,
      ⟨some 45, .load (some 5) (.t 44), none⟩,
      ⟨none, .store 2 (.t 4) (.t 41), none⟩,
      ⟨none, .store 5 (.t 5) (.t 45), none⟩] (some [(4, 5)]) [4, 5])
    (.ret))
  (.skip))))
  (.seq (.region [⟨some 46, .mv (.t 7), none⟩,
    ⟨some 47, .nilchk (.t 46), none⟩,
    ⟨some 48, .faddr (.t 47) 0, none⟩,
    ⟨some 49, .load (some 2) (.t 48), none⟩,
    ⟨some 50, .mv (.t 7), none⟩,
    ⟨some 51, .nilchk (.t 50), none⟩,
    ⟨some 52, .faddr (.t 51) 2, none⟩,
    ⟨some 53, .load (some 5) (.t 52), none⟩,
    ⟨none, .store 2 (.t 4) (.t 49), none⟩,
    ⟨none, .store 5 (.t 5) (.t 53), none⟩] (some [(7, 8)]) [4, 5])
  (.ret))))))
def B.slices_DeleteFunc_Hold : AC :=
  .seq (.region [⟨some 4, .mv (.c (.sl0 3)), none⟩] none [0, 1])
  (.seq (.region [⟨some 8, .mv (.t 0), none⟩,
    ⟨some 9, .mv (.t 1), none⟩,
    ⟨some 10, .call N.slices_IndexFunc_Hold [(.t 8), (.t 9)], none⟩,
    ⟨some 5, .mv (.t 10), none⟩] none [0, 1, 5])
  (.seq (.seq (.region [⟨some 11, .mv (.t 5), none⟩,
    ⟨some 12, .bin .eql .val (.t 11) (.c (.f (.int .i64 (-1)))), none⟩] none [0, 1, 5, 12])
  (.cond (.t 12) (.seq (.region [⟨some 13, .mv (.t 0), none⟩,
      ⟨some 4, .mv (.t 13), none⟩] none [4])
    (.ret))
  (.skip)))
  (.seq (.seq (.region [⟨some 14, .mv (.t 5), none⟩,
    ⟨some 15, .bin .add .val (.t 14) (.c (.f (.int .i64 1))), none⟩,
    ⟨some 6, .mv (.t 15), none⟩] none [0, 1, 5, 6])
  (.block 0 (.loop [0, 1, 5, 6] [] (.seq (.seq (.region [⟨some 16, .mv (.t 6), none⟩,
        ⟨some 17, .mv (.t 0), none⟩,
        ⟨some 18, .len .sl (.t 17), none⟩,
        ⟨some 19, .bin .lss .val (.t 16) (.t 18), none⟩] none [0, 1, 5, 6, 19])
      (.cond (.t 19) (.skip)
      (.exit 0)))
      (.seq (.block 1 (.seq (.region [⟨some 22, .mv (.t 0), none⟩,
          ⟨some 23, .mv (.t 6), none⟩,
          ⟨some 24, .iaddr 3 none (.t 22) (.t 23), none⟩,
          ⟨some 25, .load (some 3) (.t 24), none⟩,
          ⟨some 7, .new 3 [.f (.str .empty), .f (.int .i64 0), .f (.int .i64 0)], none⟩,
          ⟨none, .store 3 (.t 7) (.t 25), none⟩] none [0, 1, 5, 6, 7])
        (.seq (.region [⟨some 26, .mv (.t 1), none⟩,
          ⟨some 27, .load (some 3) (.t 7), none⟩,
          ⟨some 28, .callv (.t 26) [(.t 27)], none⟩,
          ⟨some 29, .not (.t 28), none⟩] none [0, 1, 5, 6, 7, 29])
        (.cond (.t 29) (.seq (.region [⟨some 30, .mv (.t 0), none⟩,
            ⟨some 31, .mv (.t 5), none⟩,
            ⟨some 32, .load (some 3) (.t 7), none⟩,
            ⟨some 33, .iaddr 3 none (.t 30) (.t 31), none⟩,
            ⟨none, .store 3 (.t 33) (.t 32), none⟩] none [0, 1, 5, 6])
          (.region [⟨some 34, .mv (.t 5), none⟩,
            ⟨some 35, .bin .add .val (.t 34) (.c (.f (.int .i64 1))), none⟩,
            ⟨some 5, .mv (.t 35), none⟩] none [0, 1, 5, 6]))
        (.skip)))))
      (.region [⟨some 20, .mv (.t 6), none⟩,
        ⟨some 21, .bin .add .val (.t 20) (.c (.f (.int .i64 1))), none⟩,
        ⟨some 6, .mv (.t 21), none⟩] none [0, 1, 5, 6]))))))
  (.seq (.region [⟨some 36, .mv (.t 0), none⟩,
    ⟨some 37, .mv (.t 5), none⟩,
    ⟨some 38, .slice 3 (.t 36) (some (.t 37)) none none, none⟩,
    ⟨none, .clear [.str .empty, .int .i64 0, .int .i64 0] (.t 38), none⟩] none [0, 5])
  (.seq (.region [⟨some 39, .mv (.t 0), none⟩,
    ⟨some 40, .mv (.t 5), none⟩,
    ⟨some 41, .slice 3 (.t 39) none (some (.t 40)) none, none⟩,
    ⟨some 4, .mv (.t 41), none⟩] none [4])
  (.ret))))))
def B.locks_Free_c1 : AC :=
  .seq (.region [⟨some 2, .box (.t 0), none⟩,
    ⟨some 3, .mv (.c (.f (.bool false))), none⟩] none [1, 2])
  (.seq (.region [⟨some 4, .faddr (.t 2) 1, none⟩,
    ⟨some 5, .load none (.t 4), none⟩,
    ⟨some 6, .load none (.t 1), none⟩,
    ⟨some 7, .bin .eql .val (.t 5) (.t 6), none⟩,
    ⟨some 3, .mv (.t 7), none⟩] none [3])
  (.ret))
def B.shard_Shard_find_c1 : AC :=
  .seq (.region [⟨some 2, .box (.t 0), none⟩,
    ⟨some 3, .mv (.c (.f (.bool false))), none⟩] none [1, 2])
  (.seq (.region [⟨some 4, .faddr (.t 2) 0, none⟩,
    ⟨some 5, .load none (.t 4), none⟩,
    ⟨some 6, .load none (.t 1), none⟩,
    ⟨some 7, .bin .eql .val (.t 5) (.t 6), none⟩,
    ⟨some 3, .mv (.t 7), none⟩] none [3])
  (.ret))
def B.owned_put : AC :=
  .seq (.region [⟨some 3, .box (.t 1), none⟩,
    ⟨some 4, .mv (.c (.sl0 3)), none⟩,
    ⟨some 5, .mv (.c (.f (.bool false))), none⟩] none [0, 3])
  (.seq (.region [⟨some 9, .mv (.t 0), none⟩,
    ⟨some 10, .faddr (.t 3) 0, none⟩,
    ⟨some 11, .load none (.t 10), none⟩,
    ⟨some 12, .call N.owned_find [(.t 9), (.t 11)], none⟩,
    ⟨some 8, .mv (.t 12), none⟩,
    ⟨some 13, .extr (.t 8) 0, none⟩,
    ⟨some 14, .extr (.t 8) 1, none⟩,
    ⟨some 6, .mv (.t 13), none⟩,
    ⟨some 7, .mv (.t 14), none⟩] none [0, 3, 6, 7])
  (.seq (.seq (.region [⟨some 15, .mv (.t 7), none⟩,
    ⟨some 16, .not (.t 15), none⟩,
    ⟨some 17, .mv (.t 16), none⟩,
    ⟨some 18, .mv (.t 0), some (17, true)⟩,
    ⟨some 19, .len .sl (.t 18), some (17, true)⟩,
    ⟨some 20, .bin .eql .val (.t 19) (.c (.f (.int .i64 32))), some (17, true)⟩,
    ⟨some 21, .pick (.t 17) (.t 20) (.c (.f (.bool false))), none⟩] none [0, 3, 6, 7, 21])
  (.cond (.t 21) (.seq (.region [⟨some 4, .mv (.c (.sl0 3)), none⟩,
      ⟨some 5, .mv (.c (.f (.bool false))), none⟩] none [4, 5])
    (.ret))
  (.skip)))
  (.seq (.region [⟨some 22, .mv (.t 0), none⟩,
    ⟨some 23, .call N.slices_Clone_Range [(.t 22)], none⟩,
    ⟨some 0, .mv (.t 23), none⟩] none [0, 3, 6, 7])
  (.seq (.seq (.region [⟨some 24, .mv (.t 7), none⟩,
    ⟨some 25, .not (.t 24), none⟩] none [0, 3, 6, 25])
  (.cond (.t 25) (.region [⟨some 26, .mv (.t 0), none⟩,
      ⟨some 27, .mv (.t 6), none⟩,
      ⟨some 28, .load (some 3) (.t 3), none⟩,
      ⟨some 29, .bslice 3 [(.t 28)], none⟩,
      ⟨some 30, .call N.slices_Insert_Range [(.t 26), (.t 27), (.t 29)], none⟩,
      ⟨some 0, .mv (.t 30), none⟩] none [0, 3, 6])
  (.skip)))
  (.seq (.region [⟨some 31, .mv (.t 0), none⟩,
    ⟨some 32, .mv (.t 6), none⟩,
    ⟨some 33, .load (some 3) (.t 3), none⟩,
    ⟨some 34, .iaddr 3 none (.t 31) (.t 32), none⟩,
    ⟨none, .store 3 (.t 34) (.t 33), none⟩] none [0])
  (.seq (.region [⟨some 35, .mv (.t 0), none⟩,
    ⟨some 4, .mv (.t 35), none⟩,
    ⟨some 5, .mv (.c (.f (.bool true))), none⟩] none [4, 5])
  (.ret)))))))
def B.owned_Cut_c1 : AC :=
  .seq (.region [⟨some 4, .mv (.c (.f (.bool false))), none⟩] none [0, 1, 2])
  (.seq (.region [⟨some 6, .load none (.t 1), none⟩,
    ⟨some 7, .mv (.t 0), none⟩,
    ⟨some 8, .call N.owned_Of [(.t 6), (.t 7)], none⟩,
    ⟨some 5, .mv (.t 8), none⟩] none [1, 2, 5])
  (.seq (.region [⟨some 9, .mv (.t 5), none⟩,
    ⟨some 10, .bin .geq .val (.t 9) (.c (.f (.int .i64 0))), none⟩,
    ⟨some 11, .mv (.t 10), none⟩,
    ⟨some 12, .load none (.t 1), some (11, true)⟩,
    ⟨some 13, .mv (.t 5), some (11, true)⟩,
    ⟨some 14, .iaddr 3 none (.t 12) (.t 13), some (11, true)⟩,
    ⟨some 15, .faddr (.t 14) 0, some (11, true)⟩,
    ⟨some 16, .load none (.t 15), some (11, true)⟩,
    ⟨some 17, .load none (.t 2), some (11, true)⟩,
    ⟨some 18, .bin .eql .val (.t 16) (.t 17), some (11, true)⟩,
    ⟨some 19, .pick (.t 11) (.t 18) (.c (.f (.bool false))), none⟩,
    ⟨some 4, .mv (.t 19), none⟩] (some []) [4])
  (.ret)))
def B.owned_parted_Node : AC :=
  .seq (.region [⟨some 4, .mv (.c (.sl0 5)), none⟩,
    ⟨some 5, .mv (.c (.sl0 5)), none⟩] none [0, 1])
  (.seq (.region [⟨some 6, .mv (.c (.sl0 5)), none⟩,
    ⟨some 7, .mv (.c (.sl0 5)), none⟩] none [0, 1, 6, 7])
  (.seq (.seq (.region [⟨some 10, .mv (.t 0), none⟩,
    ⟨some 11, .len .sl (.t 10), none⟩,
    ⟨some 12, .mv (.c (.f (.int .i64 0))), none⟩] none [1, 6, 7, 10, 11, 12])
  (.block 0 (.loop [1, 6, 7, 10, 11, 12] [6, 7] (.seq (.region [⟨some 13, .bin .lss .val (.t 12) (.t 11), none⟩] none [1, 6, 7, 10, 11, 12, 13])
      (.seq (.cond (.t 13) (.skip)
      (.exit 0))
      (.seq (.block 1 (.seq (.region [⟨some 14, .iaddr 5 none (.t 10) (.t 12), none⟩,
          ⟨some 15, .load (some 5) (.t 14), none⟩,
          ⟨some 9, .new 5 [.f (.str .empty), .f (.str .empty), .f (.int .i64 0), .f (.int .i64 0), .f (.int .i64 0)], none⟩,
          ⟨none, .store 5 (.t 9) (.t 15), none⟩] none [1, 6, 7, 9, 10, 11, 12])
        (.seq (.region [⟨some 16, .mv (.t 1), none⟩,
          ⟨some 17, .load (some 5) (.t 9), none⟩,
          ⟨some 18, .callv (.t 16) [(.t 17)], none⟩] none [1, 6, 7, 9, 10, 11, 12, 18])
        (.cond (.t 18) (.region [⟨some 19, .mv (.t 6), none⟩,
            ⟨some 20, .load (some 5) (.t 9), none⟩,
            ⟨some 21, .bslice 5 [(.t 20)], none⟩,
            ⟨some 22, .append 5 56 (.t 19) (.t 21), none⟩,
            ⟨some 6, .mv (.t 22), none⟩] none [1, 6, 7, 10, 11, 12])
        (.region [⟨some 23, .mv (.t 7), none⟩,
            ⟨some 24, .load (some 5) (.t 9), none⟩,
            ⟨some 25, .bslice 5 [(.t 24)], none⟩,
            ⟨some 26, .append 5 56 (.t 23) (.t 25), none⟩,
            ⟨some 7, .mv (.t 26), none⟩] none [1, 6, 7, 10, 11, 12])))))
      (.region [⟨some 27, .bin .add .val (.t 12) (.c (.f (.int .i64 1))), none⟩,
        ⟨some 12, .mv (.t 27), none⟩] none [1, 6, 7, 10, 11, 12])))))))
  (.seq (.region [⟨some 28, .mv (.t 6), none⟩,
    ⟨some 29, .mv (.t 7), none⟩,
    ⟨some 4, .mv (.t 28), none⟩,
    ⟨some 5, .mv (.t 29), none⟩] none [4, 5])
  (.ret))))
def B.owned_Cut_c2 : AC :=
  .seq (.region [⟨some 2, .box (.t 0), none⟩,
    ⟨some 3, .mv (.c (.f (.bool false))), none⟩] none [1, 2])
  (.seq (.region [⟨some 7, .faddr (.t 2) 0, none⟩,
    ⟨some 8, .load none (.t 7), none⟩,
    ⟨some 9, .call N.path_Parent [(.t 8)], none⟩,
    ⟨some 6, .mv (.t 9), none⟩,
    ⟨some 10, .extr (.t 6) 0, none⟩,
    ⟨some 11, .extr (.t 6) 1, none⟩,
    ⟨some 4, .mv (.t 10), none⟩,
    ⟨some 5, .mv (.t 11), none⟩] none [1, 4, 5])
  (.seq (.seq (.region [⟨some 12, .mv (.t 5), none⟩,
    ⟨some 13, .not (.t 12), none⟩] none [1, 4, 13])
  (.cond (.t 13) (.region [⟨some 4, .mv (.c (.f (.str ⟨#[47]⟩))), none⟩] none [1, 4])
  (.skip)))
  (.seq (.region [⟨some 14, .load none (.t 1), none⟩,
    ⟨some 15, .mv (.t 4), none⟩,
    ⟨some 16, .callv (.t 14) [(.t 15)], none⟩,
    ⟨some 3, .mv (.t 16), none⟩] none [3])
  (.ret))))
def B.path_Parent : AC :=
  .seq (.region [⟨some 2, .mv (.c (.f (.str ⟨#[]⟩))), none⟩,
    ⟨some 3, .mv (.c (.f (.bool false))), none⟩] none [0])
  (.seq (.region [⟨some 8, .mv (.t 0), none⟩,
    ⟨some 9, .call N.path_cut [(.t 8)], none⟩,
    ⟨some 7, .mv (.t 9), none⟩,
    ⟨some 10, .extr (.t 7) 0, none⟩,
    ⟨some 11, .extr (.t 7) 1, none⟩,
    ⟨some 12, .extr (.t 7) 2, none⟩,
    ⟨some 4, .mv (.t 10), none⟩,
    ⟨some 5, .mv (.t 11), none⟩,
    ⟨some 6, .mv (.t 12), none⟩] none [4, 6])
  (.seq (.region [⟨some 13, .mv (.t 4), none⟩,
    ⟨some 14, .mv (.t 6), none⟩,
    ⟨some 2, .mv (.t 13), none⟩,
    ⟨some 3, .mv (.t 14), none⟩] none [2, 3])
  (.ret)))
def B.owned_parted_Turn : AC :=
  .seq (.region [⟨some 4, .mv (.c (.sl0 2)), none⟩,
    ⟨some 5, .mv (.c (.sl0 2)), none⟩] none [0, 1])
  (.seq (.region [⟨some 6, .mv (.c (.sl0 2)), none⟩,
    ⟨some 7, .mv (.c (.sl0 2)), none⟩] none [0, 1, 6, 7])
  (.seq (.seq (.region [⟨some 10, .mv (.t 0), none⟩,
    ⟨some 11, .len .sl (.t 10), none⟩,
    ⟨some 12, .mv (.c (.f (.int .i64 0))), none⟩] none [1, 6, 7, 10, 11, 12])
  (.block 0 (.loop [1, 6, 7, 10, 11, 12] [6, 7] (.seq (.region [⟨some 13, .bin .lss .val (.t 12) (.t 11), none⟩] none [1, 6, 7, 10, 11, 12, 13])
      (.seq (.cond (.t 13) (.skip)
      (.exit 0))
      (.seq (.block 1 (.seq (.region [⟨some 14, .iaddr 2 none (.t 10) (.t 12), none⟩,
          ⟨some 15, .load (some 2) (.t 14), none⟩,
          ⟨some 9, .new 2 [.f (.str .empty), .f (.int .i64 0)], none⟩,
          ⟨none, .store 2 (.t 9) (.t 15), none⟩] none [1, 6, 7, 9, 10, 11, 12])
        (.seq (.region [⟨some 16, .mv (.t 1), none⟩,
          ⟨some 17, .load (some 2) (.t 9), none⟩,
          ⟨some 18, .callv (.t 16) [(.t 17)], none⟩] none [1, 6, 7, 9, 10, 11, 12, 18])
        (.cond (.t 18) (.region [⟨some 19, .mv (.t 6), none⟩,
            ⟨some 20, .load (some 2) (.t 9), none⟩,
            ⟨some 21, .bslice 2 [(.t 20)], none⟩,
            ⟨some 22, .append 2 24 (.t 19) (.t 21), none⟩,
            ⟨some 6, .mv (.t 22), none⟩] none [1, 6, 7, 10, 11, 12])
        (.region [⟨some 23, .mv (.t 7), none⟩,
            ⟨some 24, .load (some 2) (.t 9), none⟩,
            ⟨some 25, .bslice 2 [(.t 24)], none⟩,
            ⟨some 26, .append 2 24 (.t 23) (.t 25), none⟩,
            ⟨some 7, .mv (.t 26), none⟩] none [1, 6, 7, 10, 11, 12])))))
      (.region [⟨some 27, .bin .add .val (.t 12) (.c (.f (.int .i64 1))), none⟩,
        ⟨some 12, .mv (.t 27), none⟩] none [1, 6, 7, 10, 11, 12])))))))
  (.seq (.region [⟨some 28, .mv (.t 6), none⟩,
    ⟨some 29, .mv (.t 7), none⟩,
    ⟨some 4, .mv (.t 28), none⟩,
    ⟨some 5, .mv (.t 29), none⟩] none [4, 5])
  (.ret))))
def B.owned_find : AC :=
  .seq (.region [⟨some 4, .mv (.c (.f (.int .i64 0))), none⟩,
    ⟨some 5, .mv (.c (.f (.bool false))), none⟩] none [0, 1])
  (.seq (.region [⟨some 6, .mv (.t 0), none⟩,
    ⟨some 7, .mv (.t 1), none⟩,
    ⟨some 8, .call N.slices_BinarySearchFunc_Range [(.t 6), (.t 7), (.c (.fn (.func N.owned_find_c1) [] []))], none⟩,
    ⟨some 9, .extr (.t 8) 0, none⟩,
    ⟨some 10, .extr (.t 8) 1, none⟩,
    ⟨some 4, .mv (.t 9), none⟩,
    ⟨some 5, .mv (.t 10), none⟩] none [4, 5])
  (.ret))
def B.math_bits_Len : AC :=
  .seq (.region [⟨some 2, .mv (.c (.f (.int .i64 0))), none⟩] none [0])
  (.seq (.cond (.c (.f (.bool false))) (.seq (.region [⟨some 3, .mv (.t 0), none⟩,
      ⟨some 4, .conv (.toInt .u32) (.t 3), none⟩,
      ⟨some 5, .call N.math_bits_Len32 [(.t 4)], none⟩,
      ⟨some 2, .mv (.t 5), none⟩] none [2])
    (.ret))
  (.skip))
  (.seq (.region [⟨some 6, .mv (.t 0), none⟩,
    ⟨some 7, .call N.math_bits_Len64 [(.t 6)], none⟩,
    ⟨some 2, .mv (.t 7), none⟩] none [2])
  (.ret)))
def B.ibytealg_CompareString : AC :=
  .seq (.region [⟨some 4, .mv (.c (.f (.int .i64 0))), none⟩] none [0, 1])
  (.seq (.region [⟨some 5, .mv (.t 0), none⟩,
    ⟨some 6, .mv (.t 1), none⟩,
    ⟨some 7, .call N.ibytealg_abigen_runtime_cmpstring [(.t 5), (.t 6)], none⟩,
    ⟨some 4, .mv (.t 7), none⟩] none [4])
  (.ret))
def B.watch_Right : AC :=
  .seq (.region [⟨some 1, .box (.t 0), none⟩,
    ⟨some 2, .mv (.c (.f (.bool false))), none⟩] none [1])
  (.seq (.region [⟨some 8, .mkmap, none⟩,
    ⟨some 3, .mv (.t 8), none⟩] none [1, 3])
  (.seq (.seq (.region [⟨some 9, .faddr (.t 1) 0, none⟩,
    ⟨some 10, .load none (.t 9), none⟩,
    ⟨some 11, .len .sl (.t 10), none⟩,
    ⟨some 12, .mv (.c (.f (.int .i64 0))), none⟩] none [1, 3, 10, 11, 12])
  (.block 0 (.loop [1, 3, 10, 11, 12] [] (.seq (.region [⟨some 13, .bin .lss .val (.t 12) (.t 11), none⟩] none [1, 3, 10, 11, 12, 13])
      (.seq (.cond (.t 13) (.skip)
      (.exit 0))
      (.seq (.block 1 (.seq (.region [⟨some 14, .iaddr 4 none (.t 10) (.t 12), none⟩,
          ⟨some 15, .load (some 4) (.t 14), none⟩,
          ⟨some 5, .new 4 [.f (.int .i64 0), .f (.int .i64 0), .f (.str .empty), .f (.bool false)], none⟩,
          ⟨none, .store 4 (.t 5) (.t 15), none⟩] none [1, 3, 5, 10, 11, 12])
        (.region [⟨some 16, .mv (.t 3), none⟩,
          ⟨some 17, .faddr (.t 5) 0, none⟩,
          ⟨some 18, .load none (.t 17), none⟩,
          ⟨some 19, .faddr (.t 5) 1, none⟩,
          ⟨some 20, .load none (.t 19), none⟩,
          ⟨some 21, .build [.f (.int .i64 0), .f (.int .i64 0)] [(0, 1, (.t 18)), (1, 1, (.t 20))], none⟩,
          ⟨some 22, .prim (.look (.agg [.ti, .ti]) (.f (.int .i64 0)) false) [(.t 16), (.t 21)], none⟩,
          ⟨some 23, .bin .add .val (.t 22) (.c (.f (.int .i64 1))), none⟩,
          ⟨some 24, .prim (.entry (.agg [.ti, .ti]) (.f (.int .i64 0))) [(.t 16), (.t 21)], none⟩,
          ⟨some 25, .extr (.t 24) 1, none⟩,
          ⟨none, .prim .put [(.t 16), (.t 25), (.t 23)], none⟩] (some [(6, 8)]) [1, 3, 10, 11, 12])))
      (.region [⟨some 26, .bin .add .val (.t 12) (.c (.f (.int .i64 1))), none⟩,
        ⟨some 12, .mv (.t 26), none⟩] none [1, 3, 10, 11, 12])))))))
  (.seq (.region [⟨some 6, .mv (.c (.f (.bool true))), none⟩] none [1, 3, 6])
  (.seq (.seq (.region [⟨some 7, .mv (.c (.f (.int .i64 1))), none⟩] none [1, 3, 6, 7])
  (.block 2 (.loop [1, 3, 6, 7] [] (.seq (.seq (.region [⟨some 27, .mv (.t 7), none⟩,
        ⟨some 28, .faddr (.t 1) 1, none⟩,
        ⟨some 29, .load none (.t 28), none⟩,
        ⟨some 30, .len .sl (.t 29), none⟩,
        ⟨some 31, .bin .lss .val (.t 27) (.t 30), none⟩] none [1, 3, 6, 7, 31])
      (.cond (.t 31) (.skip)
      (.exit 2)))
      (.seq (.block 3 (.region [⟨some 34, .mv (.t 6), none⟩,
          ⟨some 35, .mv (.t 34), none⟩,
          ⟨some 36, .faddr (.t 1) 1, some (35, true)⟩,
          ⟨some 37, .load none (.t 36), some (35, true)⟩,
          ⟨some 38, .mv (.t 7), some (35, true)⟩,
          ⟨some 39, .bin .sub .val (.t 38) (.c (.f (.int .i64 1))), some (35, true)⟩,
          ⟨some 40, .iaddr 3 none (.t 37) (.t 39), some (35, true)⟩,
          ⟨some 41, .faddr (.t 40) 0, some (35, true)⟩,
          ⟨some 42, .load none (.t 41), some (35, true)⟩,
          ⟨some 43, .faddr (.t 1) 1, some (35, true)⟩,
          ⟨some 44, .load none (.t 43), some (35, true)⟩,
          ⟨some 45, .mv (.t 7), some (35, true)⟩,
          ⟨some 46, .iaddr 3 none (.t 44) (.t 45), some (35, true)⟩,
          ⟨some 47, .faddr (.t 46) 0, some (35, true)⟩,
          ⟨some 48, .load none (.t 47), some (35, true)⟩,
          ⟨some 49, .bin .lss .val (.t 42) (.t 48), some (35, true)⟩,
          ⟨some 50, .pick (.t 35) (.t 49) (.c (.f (.bool false))), none⟩,
          ⟨some 6, .mv (.t 50), none⟩] (some []) [1, 3, 6, 7]))
      (.region [⟨some 32, .mv (.t 7), none⟩,
        ⟨some 33, .bin .add .val (.t 32) (.c (.f (.int .i64 1))), none⟩,
        ⟨some 7, .mv (.t 33), none⟩] none [1, 3, 6, 7]))))))
  (.seq (.region [⟨some 51, .faddr (.t 1) 0, none⟩,
    ⟨some 52, .load none (.t 51), none⟩,
    ⟨some 53, .len .sl (.t 52), none⟩,
    ⟨some 54, .bin .leq .val (.t 53) (.c (.f (.int .i64 64))), none⟩,
    ⟨some 55, .mv (.t 54), none⟩,
    ⟨some 56, .mv (.t 3), some (55, true)⟩,
    ⟨some 57, .len .mp (.t 56), some (55, true)⟩,
    ⟨some 58, .faddr (.t 1) 0, some (55, true)⟩,
    ⟨some 59, .load none (.t 58), some (55, true)⟩,
    ⟨some 60, .len .sl (.t 59), some (55, true)⟩,
    ⟨some 61, .bin .eql .val (.t 57) (.t 60), some (55, true)⟩,
    ⟨some 62, .pick (.t 55) (.t 61) (.c (.f (.bool false))), none⟩,
    ⟨some 63, .mv (.t 62), none⟩,
    ⟨some 64, .faddr (.t 1) 0, some (63, true)⟩,
    ⟨some 65, .load none (.t 64), some (63, true)⟩,
    ⟨some 66, .call N.watch_all_Watch [(.t 65), (.c (.fn (.func N.watch_watch) [] []))], some (63, true)⟩,
    ⟨some 67, .pick (.t 63) (.t 66) (.c (.f (.bool false))), none⟩,
    ⟨some 68, .mv (.t 67), none⟩,
    ⟨some 69, .faddr (.t 1) 1, some (68, true)⟩,
    ⟨some 70, .load none (.t 69), some (68, true)⟩,
    ⟨some 71, .call N.watch_all_Session [(.t 70), (.c (.fn (.func N.watch_session) [] []))], some (68, true)⟩,
    ⟨some 72, .pick (.t 68) (.t 71) (.c (.f (.bool false))), none⟩,
    ⟨some 73, .mv (.t 72), none⟩,
    ⟨some 74, .mv (.t 6), some (73, true)⟩,
    ⟨some 75, .pick (.t 73) (.t 74) (.c (.f (.bool false))), none⟩,
    ⟨some 2, .mv (.t 75), none⟩] none [2])
  (.ret))))))
def B.part_up : AC :=
  .seq (.region [⟨some 2, .mv (.c (.f (.str ⟨#[]⟩))), none⟩] none [0])
  (.seq (.seq (.region [⟨some 6, .mv (.t 0), none⟩,
    ⟨some 7, .call N.path_Parent [(.t 6)], none⟩,
    ⟨some 5, .mv (.t 7), none⟩,
    ⟨some 8, .extr (.t 5) 0, none⟩,
    ⟨some 9, .extr (.t 5) 1, none⟩,
    ⟨some 3, .mv (.t 8), none⟩,
    ⟨some 4, .mv (.t 9), none⟩] none [3, 4])
  (.seq (.region [⟨some 10, .mv (.t 4), none⟩] none [3, 10])
  (.cond (.t 10) (.seq (.region [⟨some 11, .mv (.t 3), none⟩,
      ⟨some 2, .mv (.t 11), none⟩] none [2])
    (.ret))
  (.skip))))
  (.seq (.region [⟨some 2, .mv (.c (.f (.str ⟨#[47]⟩))), none⟩] none [2])
  (.ret)))
def B.strings_CutPrefix : AC :=
  .seq (.region [⟨some 4, .mv (.c (.f (.str ⟨#[]⟩))), none⟩,
    ⟨some 5, .mv (.c (.f (.bool false))), none⟩] none [0, 1])
  (.seq (.region [⟨some 6, .mv (.t 0), none⟩,
    ⟨some 7, .mv (.t 1), none⟩,
    ⟨some 8, .call N.istringslite_CutPrefix [(.t 6), (.t 7)], none⟩,
    ⟨some 9, .extr (.t 8) 0, none⟩,
    ⟨some 10, .extr (.t 8) 1, none⟩,
    ⟨some 4, .mv (.t 9), none⟩,
    ⟨some 5, .mv (.t 10), none⟩] none [4, 5])
  (.ret))
def B.strings_TrimSuffix : AC :=
  .seq (.region [⟨some 4, .mv (.c (.f (.str ⟨#[]⟩))), none⟩] none [0, 1])
  (.seq (.region [⟨some 5, .mv (.t 0), none⟩,
    ⟨some 6, .mv (.t 1), none⟩,
    ⟨some 7, .call N.istringslite_TrimSuffix [(.t 5), (.t 6)], none⟩,
    ⟨some 4, .mv (.t 7), none⟩] none [4])
  (.ret))
def B.multi_May_c1 : AC :=
  .seq (.region [⟨some 1, .box (.t 0), none⟩,
    ⟨some 2, .mv (.c (.f (.bool false))), none⟩] none [1])
  (.seq (.region [⟨some 3, .load (some 6) (.t 1), none⟩,
    ⟨some 4, .call N.nodes_May [(.t 3)], none⟩,
    ⟨some 5, .not (.t 4), none⟩,
    ⟨some 2, .mv (.t 5), none⟩] none [2])
  (.ret))
def B.nodes_May : AC :=
  .seq (.region [⟨some 1, .box (.t 0), none⟩,
    ⟨some 2, .mv (.c (.f (.bool false))), none⟩] none [1])
  (.seq (.seq (.region [⟨some 5, .faddr (.t 1) 0, none⟩,
    ⟨some 6, .load none (.t 5), none⟩,
    ⟨some 7, .bin .lss .val (.t 6) (.c (.f (.int .i64 1))), none⟩,
    ⟨some 8, .mv (.t 7), none⟩,
    ⟨some 9, .faddr (.t 1) 0, some (8, false)⟩,
    ⟨some 10, .load none (.t 9), some (8, false)⟩,
    ⟨some 11, .bin .gtr .val (.t 10) (.c (.f (.int .i64 7))), some (8, false)⟩,
    ⟨some 12, .pick (.t 8) (.c (.f (.bool true))) (.t 11), none⟩,
    ⟨some 13, .mv (.t 12), none⟩,
    ⟨some 14, .faddr (.t 1) 1, some (13, false)⟩,
    ⟨some 15, .load none (.t 14), some (13, false)⟩,
    ⟨some 16, .call N.path_Right [(.t 15)], some (13, false)⟩,
    ⟨some 17, .not (.t 16), some (13, false)⟩,
    ⟨some 18, .pick (.t 13) (.c (.f (.bool true))) (.t 17), none⟩,
    ⟨some 19, .mv (.t 18), none⟩,
    ⟨some 20, .faddr (.t 1) 2, some (19, false)⟩,
    ⟨some 21, .load none (.t 20), some (19, false)⟩,
    ⟨some 22, .len .str (.t 21), some (19, false)⟩,
    ⟨some 23, .bin .gtr .val (.t 22) (.c (.f (.int .i64 256))), some (19, false)⟩,
    ⟨some 24, .pick (.t 19) (.c (.f (.bool true))) (.t 23), none⟩,
    ⟨some 25, .mv (.t 24), none⟩,
    ⟨some 26, .faddr (.t 1) 4, some (25, false)⟩,
    ⟨some 27, .load none (.t 26), some (25, false)⟩,
    ⟨some 28, .call N.nodes_within [(.t 27), (.c (.f (.int .i64 1099511627776)))], some (25, false)⟩,
    ⟨some 29, .not (.t 28), some (25, false)⟩,
    ⟨some 30, .pick (.t 25) (.c (.f (.bool true))) (.t 29), none⟩] none [1, 30])
  (.cond (.t 30) (.seq (.region [⟨some 2, .mv (.c (.f (.bool false))), none⟩] none [2])
    (.ret))
  (.skip)))
  (.seq (.region [⟨some 3, .mv (.c (.f (.int .i64 0))), none⟩] none [1, 3])
  (.seq (.seq (.region [⟨some 31, .faddr (.t 1) 2, none⟩,
    ⟨some 32, .load none (.t 31), none⟩,
    ⟨some 33, .bin .neq .val (.t 32) (.c (.f (.str ⟨#[]⟩))), none⟩] none [1, 3, 33])
  (.cond (.t 33) (.region [⟨some 34, .mv (.t 3), none⟩,
      ⟨some 35, .bin .or .val (.t 34) (.c (.f (.int .i64 1))), none⟩,
      ⟨some 3, .mv (.t 35), none⟩] none [1, 3])
  (.skip)))
  (.seq (.seq (.region [⟨some 36, .faddr (.t 1) 3, none⟩,
    ⟨some 37, .load none (.t 36), none⟩,
    ⟨some 38, .bin .neq .val (.t 37) (.c (.f (.int .i64 0))), none⟩] none [1, 3, 38])
  (.cond (.t 38) (.region [⟨some 39, .mv (.t 3), none⟩,
      ⟨some 40, .bin .or .val (.t 39) (.c (.f (.int .i64 2))), none⟩,
      ⟨some 3, .mv (.t 40), none⟩] none [1, 3])
  (.skip)))
  (.seq (.seq (.region [⟨some 41, .faddr (.t 1) 4, none⟩,
    ⟨some 42, .load none (.t 41), none⟩,
    ⟨some 43, .bin .neq .val (.t 42) (.c (.f (.int .i64 0))), none⟩] none [1, 3, 43])
  (.cond (.t 43) (.region [⟨some 44, .mv (.t 3), none⟩,
      ⟨some 45, .bin .or .val (.t 44) (.c (.f (.int .i64 4))), none⟩,
      ⟨some 3, .mv (.t 45), none⟩] none [1, 3])
  (.skip)))
  (.seq (.seq (.region [⟨some 46, .faddr (.t 1) 5, none⟩,
    ⟨some 47, .load none (.t 46), none⟩] none [1, 3, 47])
  (.cond (.t 47) (.region [⟨some 48, .mv (.t 3), none⟩,
      ⟨some 49, .bin .or .val (.t 48) (.c (.f (.int .i64 8))), none⟩,
      ⟨some 3, .mv (.t 49), none⟩] none [1, 3])
  (.skip)))
  (.seq (.seq (.region [⟨some 50, .faddr (.t 1) 1, none⟩,
    ⟨some 51, .load none (.t 50), none⟩,
    ⟨some 52, .bin .eql .val (.t 51) (.c (.f (.str ⟨#[47]⟩))), none⟩] none [1, 3, 52])
  (.cond (.t 52) (.region [⟨some 53, .mv (.t 3), none⟩,
      ⟨some 54, .bin .or .val (.t 53) (.c (.f (.int .i64 16))), none⟩,
      ⟨some 3, .mv (.t 54), none⟩] none [1, 3])
  (.skip)))
  (.seq (.region [⟨some 55, .faddr (.t 1) 3, none⟩,
    ⟨some 56, .load none (.t 55), none⟩,
    ⟨some 57, .bin .geq .val (.t 56) (.c (.f (.int .i64 (-1)))), none⟩,
    ⟨some 58, .mv (.t 57), none⟩,
    ⟨some 59, .faddr (.t 1) 3, some (58, true)⟩,
    ⟨some 60, .load none (.t 59), some (58, true)⟩,
    ⟨some 61, .bin .leq .val (.t 60) (.c (.f (.int .i64 281474976710656))), some (58, true)⟩,
    ⟨some 62, .pick (.t 58) (.t 61) (.c (.f (.bool false))), none⟩,
    ⟨some 4, .mv (.t 62), none⟩] none [1, 3, 4])
  (.seq (.region [⟨some 63, .mv (.t 4), none⟩,
    ⟨some 64, .mv (.t 63), none⟩,
    ⟨some 65, .mv (.t 3), some (64, true)⟩,
    ⟨some 66, .call N.nodes_named [], some (64, true)⟩,
    ⟨some 67, .faddr (.t 1) 0, some (64, true)⟩,
    ⟨some 68, .load none (.t 67), some (64, true)⟩,
    ⟨some 69, .index 1 (some 8) none (.t 66) (.t 68), some (64, true)⟩,
    ⟨some 70, .bin .andNot .val (.t 65) (.t 69), some (64, true)⟩,
    ⟨some 71, .bin .eql .val (.t 70) (.c (.f (.int .i64 0))), some (64, true)⟩,
    ⟨some 72, .pick (.t 64) (.t 71) (.c (.f (.bool false))), none⟩,
    ⟨some 73, .mv (.t 72), none⟩,
    ⟨some 74, .faddr (.t 1) 0, some (73, true)⟩,
    ⟨some 75, .load none (.t 74), some (73, true)⟩,
    ⟨some 76, .bin .neq .val (.t 75) (.c (.f (.int .i64 7))), some (73, true)⟩,
    ⟨some 77, .mv (.t 76), some (73, true)⟩,
    ⟨some 78, .faddr (.t 1) 4, some (77, false)⟩,
    ⟨some 79, .load none (.t 78), some (77, false)⟩,
    ⟨some 80, .bin .gtr .val (.t 79) (.c (.f (.int .i64 0))), some (77, false)⟩,
    ⟨some 81, .pick (.t 77) (.c (.f (.bool true))) (.t 80), some (73, true)⟩,
    ⟨some 82, .pick (.t 73) (.t 81) (.c (.f (.bool false))), none⟩,
    ⟨some 2, .mv (.t 82), none⟩] (some [(3, 5)]) [2])
  (.ret))))))))))
def B.part_Of_c1 : AC :=
  .region [⟨some 3, .load none (.t 1), none⟩,
    ⟨some 4, .mv (.t 0), none⟩,
    ⟨some 5, .append 7 80 (.t 3) (.t 4), none⟩,
    ⟨none, .store 1 (.t 1) (.t 5), none⟩] none []
def B.part_Of_c2 : AC :=
  .seq (.region [⟨some 4, .new 7 [.f (.int .i64 0), .f (.str .empty), .f (.str .empty), .f (.str .empty), .f (.int .i64 0), .f (.int .i64 0), .f (.bool false)], none⟩] none [0, 1, 2, 4])
  (.seq (.region [⟨some 5, .mv (.t 0), none⟩,
    ⟨some 6, .load none (.t 1), none⟩,
    ⟨some 7, .faddr (.t 2) 1, none⟩,
    ⟨some 8, .load none (.t 7), none⟩,
    ⟨some 9, .build [.f (.int .i64 0), .f (.str .empty), .f (.str .empty), .f (.str .empty), .f (.int .i64 0), .f (.int .i64 0), .f (.bool false)] [(0, 1, (.t 5)), (1, 1, (.t 6)), (2, 1, (.t 8))], none⟩,
    ⟨none, .store 7 (.t 4) (.t 9), none⟩] none [4])
  (.ret))
def B.path_Split : AC :=
  .seq (.region [⟨some 2, .mv (.c (.sl0 1)), none⟩,
    ⟨some 3, .mv (.c (.f (.bool false))), none⟩] none [0])
  (.scope [(0, .seq (.skip)
    (.seq (.region [⟨some 2, .mv (.c (.sl0 1)), none⟩,
      ⟨some 3, .mv (.c (.f (.bool false))), none⟩] none [2, 3])
    (.ret)))] (.seq (.region [⟨some 4, .mv (.c (.sl0 1)), none⟩] none [0, 4])
    (.seq (.seq (.region [⟨some 8, .mv (.t 0), none⟩,
      ⟨some 9, .bin .eql .val (.t 8) (.c (.f (.str ⟨#[47]⟩))), none⟩] none [0, 4, 9])
    (.cond (.t 9) (.seq (.region [⟨some 2, .mv (.c (.sl0 1)), none⟩,
        ⟨some 3, .mv (.c (.f (.bool true))), none⟩] none [2, 3])
      (.ret))
    (.skip)))
    (.seq (.block 0 (.loop [0, 4] [4] (.seq (.seq (.region [⟨some 10, .mv (.t 0), none⟩,
          ⟨some 11, .bin .neq .val (.t 10) (.c (.f (.str ⟨#[]⟩))), none⟩] none [0, 4, 11])
        (.cond (.t 11) (.skip)
        (.exit 0)))
        (.block 1 (.seq (.region [⟨some 13, .mv (.t 0), none⟩,
            ⟨some 14, .call N.strings_CutPrefix [(.t 13), (.c (.f (.str ⟨#[47]⟩)))], none⟩,
            ⟨some 12, .mv (.t 14), none⟩,
            ⟨some 15, .extr (.t 12) 0, none⟩,
            ⟨some 16, .extr (.t 12) 1, none⟩,
            ⟨some 5, .mv (.t 15), none⟩,
            ⟨some 6, .mv (.t 16), none⟩] none [4, 5, 6])
          (.seq (.seq (.region [⟨some 17, .mv (.t 6), none⟩,
            ⟨some 18, .not (.t 17), none⟩,
            ⟨some 19, .mv (.t 18), none⟩,
            ⟨some 20, .mv (.t 4), some (19, false)⟩,
            ⟨some 21, .len .sl (.t 20), some (19, false)⟩,
            ⟨some 22, .bin .eql .val (.t 21) (.c (.f (.int .i64 6))), some (19, false)⟩,
            ⟨some 23, .pick (.t 19) (.c (.f (.bool true))) (.t 22), none⟩] none [4, 5, 23])
          (.cond (.t 23) (.goto 0)
          (.skip)))
          (.seq (.region [⟨some 24, .mv (.t 5), none⟩,
            ⟨some 25, .call N.strings_IndexByte [(.t 24), (.c (.f (.int .u8 47)))], none⟩,
            ⟨some 7, .mv (.t 25), none⟩] none [4, 5, 7])
          (.seq (.seq (.region [⟨some 26, .mv (.t 7), none⟩,
            ⟨some 27, .bin .lss .val (.t 26) (.c (.f (.int .i64 0))), none⟩] none [4, 5, 7, 27])
          (.cond (.t 27) (.region [⟨some 28, .mv (.t 5), none⟩,
              ⟨some 29, .len .str (.t 28), none⟩,
              ⟨some 7, .mv (.t 29), none⟩] none [4, 5, 7])
          (.skip)))
          (.seq (.seq (.region [⟨some 30, .mv (.t 5), none⟩,
            ⟨some 31, .mv (.t 7), none⟩,
            ⟨some 32, .slice 0 (.t 30) none (some (.t 31)) none, none⟩,
            ⟨some 33, .call N.path_part [(.t 32)], none⟩,
            ⟨some 34, .not (.t 33), none⟩] none [4, 5, 7, 34])
          (.cond (.t 34) (.goto 0)
          (.skip)))
          (.seq (.region [⟨some 35, .mv (.t 4), none⟩,
            ⟨some 36, .mv (.t 5), none⟩,
            ⟨some 37, .mv (.t 7), none⟩,
            ⟨some 38, .slice 0 (.t 36) none (some (.t 37)) none, none⟩,
            ⟨some 39, .bslice 1 [(.t 38)], none⟩,
            ⟨some 40, .append 1 16 (.t 35) (.t 39), none⟩,
            ⟨some 4, .mv (.t 40), none⟩] none [4, 5, 7])
          (.region [⟨some 41, .mv (.t 5), none⟩,
            ⟨some 42, .mv (.t 7), none⟩,
            ⟨some 43, .slice 0 (.t 41) (some (.t 42)) none none, none⟩,
            ⟨some 0, .mv (.t 43), none⟩] none [0, 4])))))))))))
    (.seq (.seq (.region [⟨some 44, .mv (.t 4), none⟩,
      ⟨some 45, .len .sl (.t 44), none⟩,
      ⟨some 46, .bin .gtr .val (.t 45) (.c (.f (.int .i64 0))), none⟩] none [4, 46])
    (.cond (.t 46) (.seq (.region [⟨some 47, .mv (.t 4), none⟩,
        ⟨some 2, .mv (.t 47), none⟩,
        ⟨some 3, .mv (.c (.f (.bool true))), none⟩] none [2, 3])
      (.ret))
    (.skip)))
    (.seq (.skip)
    (.seq (.region [⟨some 2, .mv (.c (.sl0 1)), none⟩,
      ⟨some 3, .mv (.c (.f (.bool false))), none⟩] none [2, 3])
    (.ret))))))))
def B.slices_pdqsortOrdered_string : AC :=
  .seq (.region [⟨some 8, .mv (.c (.f (.bool true))), none⟩] none [0, 1, 2, 3, 8])
  (.seq (.region [⟨some 9, .mv (.c (.f (.bool true))), none⟩] none [0, 1, 2, 3, 8, 9])
  (.block 0 (.loop [0, 1, 2, 3, 8, 9] [] (.block 1 (.seq (.region [⟨some 19, .mv (.t 2), none⟩,
          ⟨some 20, .mv (.t 1), none⟩,
          ⟨some 21, .bin .sub .val (.t 19) (.t 20), none⟩,
          ⟨some 10, .mv (.t 21), none⟩] none [0, 1, 2, 3, 8, 9, 10])
        (.seq (.seq (.region [⟨some 22, .mv (.t 10), none⟩,
          ⟨some 23, .bin .leq .val (.t 22) (.c (.f (.int .i64 12))), none⟩] none [0, 1, 2, 3, 8, 9, 10, 23])
        (.cond (.t 23) (.seq (.region [⟨some 24, .mv (.t 0), none⟩,
            ⟨some 25, .mv (.t 1), none⟩,
            ⟨some 26, .mv (.t 2), none⟩,
            ⟨some 27, .call N.slices_insertionSortOrdered_string [(.t 24), (.t 25), (.t 26)], none⟩] none [])
          (.ret))
        (.skip)))
        (.seq (.seq (.region [⟨some 28, .mv (.t 3), none⟩,
          ⟨some 29, .bin .eql .val (.t 28) (.c (.f (.int .i64 0))), none⟩] none [0, 1, 2, 3, 8, 9, 10, 29])
        (.cond (.t 29) (.seq (.region [⟨some 30, .mv (.t 0), none⟩,
            ⟨some 31, .mv (.t 1), none⟩,
            ⟨some 32, .mv (.t 2), none⟩,
            ⟨some 33, .call N.slices_heapSortOrdered_string [(.t 30), (.t 31), (.t 32)], none⟩] none [])
          (.ret))
        (.skip)))
        (.seq (.seq (.region [⟨some 34, .mv (.t 8), none⟩,
          ⟨some 35, .not (.t 34), none⟩] none [0, 1, 2, 3, 8, 9, 10, 35])
        (.cond (.t 35) (.seq (.region [⟨some 36, .mv (.t 0), none⟩,
            ⟨some 37, .mv (.t 1), none⟩,
            ⟨some 38, .mv (.t 2), none⟩,
            ⟨some 39, .call N.slices_breakPatternsOrdered_string [(.t 36), (.t 37), (.t 38)], none⟩] none [0, 1, 2, 3, 8, 9, 10])
          (.region [⟨some 40, .mv (.t 3), none⟩,
            ⟨some 41, .bin .sub .val (.t 40) (.c (.f (.int .i64 1))), none⟩,
            ⟨some 3, .mv (.t 41), none⟩] none [0, 1, 2, 3, 8, 9, 10]))
        (.skip)))
        (.seq (.region [⟨some 43, .mv (.t 0), none⟩,
          ⟨some 44, .mv (.t 1), none⟩,
          ⟨some 45, .mv (.t 2), none⟩,
          ⟨some 46, .call N.slices_choosePivotOrdered_string [(.t 43), (.t 44), (.t 45)], none⟩,
          ⟨some 42, .mv (.t 46), none⟩,
          ⟨some 47, .extr (.t 42) 0, none⟩,
          ⟨some 48, .extr (.t 42) 1, none⟩,
          ⟨some 11, .mv (.t 47), none⟩,
          ⟨some 12, .mv (.t 48), none⟩] none [0, 1, 2, 3, 8, 9, 10, 11, 12])
        (.seq (.seq (.region [⟨some 49, .mv (.t 12), none⟩,
          ⟨some 50, .bin .eql .val (.t 49) (.c (.f (.int .i64 2))), none⟩] none [0, 1, 2, 3, 8, 9, 10, 11, 12, 50])
        (.cond (.t 50) (.seq (.region [⟨some 51, .mv (.t 0), none⟩,
            ⟨some 52, .mv (.t 1), none⟩,
            ⟨some 53, .mv (.t 2), none⟩,
            ⟨some 54, .call N.slices_reverseRangeOrdered_string [(.t 51), (.t 52), (.t 53)], none⟩] none [0, 1, 2, 3, 8, 9, 10, 11])
          (.seq (.region [⟨some 55, .mv (.t 2), none⟩,
            ⟨some 56, .bin .sub .val (.t 55) (.c (.f (.int .i64 1))), none⟩,
            ⟨some 57, .mv (.t 11), none⟩,
            ⟨some 58, .mv (.t 1), none⟩,
            ⟨some 59, .bin .sub .val (.t 57) (.t 58), none⟩,
            ⟨some 60, .bin .sub .val (.t 56) (.t 59), none⟩,
            ⟨some 11, .mv (.t 60), none⟩] none [0, 1, 2, 3, 8, 9, 10, 11])
          (.region [⟨some 12, .mv (.c (.f (.int .i64 1))), none⟩] none [0, 1, 2, 3, 8, 9, 10, 11, 12])))
        (.skip)))
        (.seq (.seq (.region [⟨some 61, .mv (.t 8), none⟩,
          ⟨some 62, .mv (.t 61), none⟩,
          ⟨some 63, .mv (.t 9), some (62, true)⟩,
          ⟨some 64, .pick (.t 62) (.t 63) (.c (.f (.bool false))), none⟩,
          ⟨some 65, .mv (.t 64), none⟩,
          ⟨some 66, .mv (.t 12), some (65, true)⟩,
          ⟨some 67, .bin .eql .val (.t 66) (.c (.f (.int .i64 1))), some (65, true)⟩,
          ⟨some 68, .pick (.t 65) (.t 67) (.c (.f (.bool false))), none⟩] none [0, 1, 2, 3, 8, 9, 10, 11, 68])
        (.cond (.t 68) (.seq (.region [⟨some 69, .mv (.t 0), none⟩,
            ⟨some 70, .mv (.t 1), none⟩,
            ⟨some 71, .mv (.t 2), none⟩,
            ⟨some 72, .call N.slices_partialInsertionSortOrdered_string [(.t 69), (.t 70), (.t 71)], none⟩] none [0, 1, 2, 3, 8, 9, 10, 11, 72])
          (.cond (.t 72) (.ret)
          (.skip)))
        (.skip)))
        (.seq (.seq (.region [⟨some 73, .mv (.t 1), none⟩,
          ⟨some 74, .bin .gtr .val (.t 73) (.c (.f (.int .i64 0))), none⟩,
          ⟨some 75, .mv (.t 74), none⟩,
          ⟨some 76, .mv (.t 0), some (75, true)⟩,
          ⟨some 77, .mv (.t 1), some (75, true)⟩,
          ⟨some 78, .bin .sub .val (.t 77) (.c (.f (.int .i64 1))), some (75, true)⟩,
          ⟨some 79, .iaddr 1 none (.t 76) (.t 78), some (75, true)⟩,
          ⟨some 80, .load none (.t 79), some (75, true)⟩,
          ⟨some 81, .mv (.t 0), some (75, true)⟩,
          ⟨some 82, .mv (.t 11), some (75, true)⟩,
          ⟨some 83, .iaddr 1 none (.t 81) (.t 82), some (75, true)⟩,
          ⟨some 84, .load none (.t 83), some (75, true)⟩,
          ⟨some 85, .call N.cmp_Less_string [(.t 80), (.t 84)], some (75, true)⟩,
          ⟨some 86, .not (.t 85), some (75, true)⟩,
          ⟨some 87, .pick (.t 75) (.t 86) (.c (.f (.bool false))), none⟩] (some []) [0, 1, 2, 3, 8, 9, 10, 11, 87])
        (.cond (.t 87) (.seq (.region [⟨some 88, .mv (.t 0), none⟩,
            ⟨some 89, .mv (.t 1), none⟩,
            ⟨some 90, .mv (.t 2), none⟩,
            ⟨some 91, .mv (.t 11), none⟩,
            ⟨some 92, .call N.slices_partitionEqualOrdered_string [(.t 88), (.t 89), (.t 90), (.t 91)], none⟩,
            ⟨some 13, .mv (.t 92), none⟩] none [0, 2, 3, 8, 9, 13])
          (.seq (.region [⟨some 93, .mv (.t 13), none⟩,
            ⟨some 1, .mv (.t 93), none⟩] none [0, 1, 2, 3, 8, 9])
          (.exit 1)))
        (.skip)))
        (.seq (.region [⟨some 95, .mv (.t 0), none⟩,
          ⟨some 96, .mv (.t 1), none⟩,
          ⟨some 97, .mv (.t 2), none⟩,
          ⟨some 98, .mv (.t 11), none⟩,
          ⟨some 99, .call N.slices_partitionOrdered_string [(.t 95), (.t 96), (.t 97), (.t 98)], none⟩,
          ⟨some 94, .mv (.t 99), none⟩,
          ⟨some 100, .extr (.t 94) 0, none⟩,
          ⟨some 101, .extr (.t 94) 1, none⟩,
          ⟨some 14, .mv (.t 100), none⟩,
          ⟨some 15, .mv (.t 101), none⟩] none [0, 1, 2, 3, 10, 14, 15])
        (.seq (.region [⟨some 102, .mv (.t 15), none⟩,
          ⟨some 9, .mv (.t 102), none⟩] none [0, 1, 2, 3, 9, 10, 14])
        (.seq (.region [⟨some 103, .mv (.t 14), none⟩,
          ⟨some 104, .mv (.t 1), none⟩,
          ⟨some 105, .bin .sub .val (.t 103) (.t 104), none⟩,
          ⟨some 106, .mv (.t 2), none⟩,
          ⟨some 107, .mv (.t 14), none⟩,
          ⟨some 108, .bin .sub .val (.t 106) (.t 107), none⟩,
          ⟨some 16, .mv (.t 105), none⟩,
          ⟨some 17, .mv (.t 108), none⟩] none [0, 1, 2, 3, 9, 10, 14, 16, 17])
        (.seq (.region [⟨some 109, .mv (.t 10), none⟩,
          ⟨some 110, .bin .quo .val (.t 109) (.c (.f (.int .i64 8))), none⟩,
          ⟨some 18, .mv (.t 110), none⟩] none [0, 1, 2, 3, 9, 14, 16, 17, 18])
        (.seq (.region [⟨some 111, .mv (.t 16), none⟩,
          ⟨some 112, .mv (.t 17), none⟩,
          ⟨some 113, .bin .lss .val (.t 111) (.t 112), none⟩] none [0, 1, 2, 3, 9, 14, 16, 17, 18, 113])
        (.cond (.t 113) (.seq (.region [⟨some 114, .mv (.t 16), none⟩,
            ⟨some 115, .mv (.t 18), none⟩,
            ⟨some 116, .bin .geq .val (.t 114) (.t 115), none⟩,
            ⟨some 8, .mv (.t 116), none⟩] none [0, 1, 2, 3, 8, 9, 14])
          (.seq (.region [⟨some 117, .mv (.t 0), none⟩,
            ⟨some 118, .mv (.t 1), none⟩,
            ⟨some 119, .mv (.t 14), none⟩,
            ⟨some 120, .mv (.t 3), none⟩,
            ⟨some 121, .call N.slices_pdqsortOrdered_string [(.t 117), (.t 118), (.t 119), (.t 120)], none⟩] none [0, 2, 3, 8, 9, 14])
          (.region [⟨some 122, .mv (.t 14), none⟩,
            ⟨some 123, .bin .add .val (.t 122) (.c (.f (.int .i64 1))), none⟩,
            ⟨some 1, .mv (.t 123), none⟩] none [0, 1, 2, 3, 8, 9])))
        (.seq (.region [⟨some 124, .mv (.t 17), none⟩,
            ⟨some 125, .mv (.t 18), none⟩,
            ⟨some 126, .bin .geq .val (.t 124) (.t 125), none⟩,
            ⟨some 8, .mv (.t 126), none⟩] none [0, 1, 2, 3, 8, 9, 14])
          (.seq (.region [⟨some 127, .mv (.t 0), none⟩,
            ⟨some 128, .mv (.t 14), none⟩,
            ⟨some 129, .bin .add .val (.t 128) (.c (.f (.int .i64 1))), none⟩,
            ⟨some 130, .mv (.t 2), none⟩,
            ⟨some 131, .mv (.t 3), none⟩,
            ⟨some 132, .call N.slices_pdqsortOrdered_string [(.t 127), (.t 129), (.t 130), (.t 131)], none⟩] none [0, 1, 3, 8, 9, 14])
          (.region [⟨some 133, .mv (.t 14), none⟩,
            ⟨some 2, .mv (.t 133), none⟩] none [0, 1, 2, 3, 8, 9])))))))))))))))))))))
def B.shard_Shard_happen : AC :=
  .seq (.region [⟨some 9, .mv (.t 0), none⟩,
    ⟨some 10, .nilchk (.t 9), none⟩,
    ⟨some 11, .faddr (.t 10) 4, none⟩,
    ⟨some 12, .load (some 2) (.t 11), none⟩,
    ⟨some 13, .mv (.t 1), none⟩,
    ⟨some 14, .mv (.t 2), none⟩,
    ⟨some 15, .call N.watch_Tell [(.t 12), (.t 13), (.t 14)], none⟩,
    ⟨some 8, .mv (.t 15), none⟩,
    ⟨some 16, .extr (.t 8) 0, none⟩,
    ⟨some 17, .extr (.t 8) 1, none⟩,
    ⟨some 6, .new 2 [.sl0 4, .sl0 3], none⟩,
    ⟨none, .store 2 (.t 6) (.t 16), none⟩,
    ⟨some 7, .mv (.t 17), none⟩] none [0, 6, 7])
  (.seq (.region [⟨some 18, .mv (.t 7), none⟩,
    ⟨some 19, .bin .eql .val (.t 18) (.c (.f (.int .i64 0))), none⟩] none [0, 6, 19])
  (.cond (.t 19) (.region [⟨some 20, .mv (.t 0), none⟩,
      ⟨some 21, .load (some 2) (.t 6), none⟩,
      ⟨some 22, .nilchk (.t 20), none⟩,
      ⟨some 23, .faddr (.t 22) 4, none⟩,
      ⟨none, .store 2 (.t 23) (.t 21), none⟩] none [])
  (.skip)))
def B.part_work_guard : AC :=
  .seq (.region [⟨some 3, .box (.t 1), none⟩] none [0, 3])
  (.seq (.region [⟨some 5, .mv (.t 0), none⟩,
    ⟨some 6, .load (some 7) (.t 3), none⟩,
    ⟨some 7, .call N.part_work_node [(.t 5), (.t 6)], none⟩,
    ⟨some 4, .mv (.t 7), none⟩] none [0, 4])
  (.seq (.region [⟨some 8, .mv (.t 4), none⟩,
    ⟨some 9, .bin .neq .ptr (.t 8) (.c (.f .nilp)), none⟩,
    ⟨some 10, .mv (.t 9), none⟩,
    ⟨some 11, .mv (.t 4), some (10, true)⟩,
    ⟨some 12, .nilchk (.t 11), some (10, true)⟩,
    ⟨some 13, .faddr (.t 12) 4, some (10, true)⟩,
    ⟨some 14, .load none (.t 13), some (10, true)⟩,
    ⟨some 15, .bin .neq .val (.t 14) (.c (.f (.int .i64 0))), some (10, true)⟩,
    ⟨some 16, .pick (.t 10) (.t 15) (.c (.f (.bool false))), none⟩] none [0, 16])
  (.cond (.t 16) (.region [⟨some 17, .mv (.t 0), none⟩,
      ⟨some 18, .call N.part_work_fail [(.t 17), (.c (.f (.int .i64 65)))], none⟩] none [])
  (.skip))))
def B.part_work_put : AC :=
  .seq (.region [⟨some 3, .box (.t 1), none⟩] none [0, 3])
  (.seq (.region [⟨some 12, .faddr (.t 3) 2, none⟩,
    ⟨some 13, .load none (.t 12), none⟩,
    ⟨some 4, .mv (.t 13), none⟩] none [0, 3, 4])
  (.seq (.region [⟨some 15, .faddr (.t 3) 2, none⟩,
    ⟨some 16, .load none (.t 15), none⟩,
    ⟨some 17, .call N.path_Parent [(.t 16)], none⟩,
    ⟨some 14, .mv (.t 17), none⟩,
    ⟨some 18, .extr (.t 14) 0, none⟩,
    ⟨some 19, .extr (.t 14) 1, none⟩,
    ⟨some 5, .mv (.t 18), none⟩,
    ⟨some 6, .mv (.t 19), none⟩] none [0, 3, 4, 5])
  (.seq (.seq (.region [⟨some 20, .faddr (.t 3) 6, none⟩,
    ⟨some 21, .load none (.t 20), none⟩] none [0, 3, 4, 5, 21])
  (.cond (.t 21) (.seq (.region [⟨some 22, .mv (.t 0), none⟩,
      ⟨some 23, .mv (.t 5), none⟩,
      ⟨some 24, .call N.part_work_turn [(.t 22), (.t 23), (.c (.fn (.func N.part_work_put_c1) [] []))], none⟩,
      ⟨some 7, .mv (.t 24), none⟩] none [0, 3, 5, 7])
    (.seq (.region [⟨some 26, .faddr (.t 3) 2, none⟩,
      ⟨some 27, .load none (.t 26), none⟩,
      ⟨some 28, .call N.path_Last [(.t 27)], none⟩,
      ⟨some 29, .mv (.t 7), none⟩,
      ⟨some 30, .call N.path_Numbered [(.t 28), (.t 29)], none⟩,
      ⟨some 25, .mv (.t 30), none⟩,
      ⟨some 31, .extr (.t 25) 0, none⟩,
      ⟨some 32, .extr (.t 25) 1, none⟩,
      ⟨some 8, .mv (.t 31), none⟩,
      ⟨some 9, .mv (.t 32), none⟩] none [0, 3, 5, 8, 9])
    (.seq (.region [⟨some 34, .mv (.t 5), none⟩,
      ⟨some 35, .mv (.t 8), none⟩,
      ⟨some 36, .call N.path_Join [(.t 34), (.t 35)], none⟩,
      ⟨some 33, .mv (.t 36), none⟩,
      ⟨some 37, .extr (.t 33) 0, none⟩,
      ⟨some 38, .extr (.t 33) 1, none⟩,
      ⟨some 4, .mv (.t 37), none⟩] none [0, 3, 4, 5, 9])
    (.seq (.region [⟨some 39, .mv (.t 9), none⟩,
      ⟨some 40, .not (.t 39), none⟩] none [0, 3, 4, 5, 40])
    (.cond (.t 40) (.seq (.region [⟨some 41, .mv (.t 0), none⟩,
        ⟨some 42, .call N.part_work_fail [(.t 41), (.c (.f (.int .i64 66)))], none⟩] none [])
      (.ret))
    (.skip))))))
  (.skip)))
  (.seq (.region [⟨some 44, .mv (.t 0), none⟩,
    ⟨some 45, .mv (.t 4), none⟩,
    ⟨some 46, .call N.part_work_where [(.t 44), (.t 45)], none⟩,
    ⟨some 43, .mv (.t 46), none⟩,
    ⟨some 47, .extr (.t 43) 0, none⟩,
    ⟨some 48, .extr (.t 43) 1, none⟩,
    ⟨some 10, .mv (.t 47), none⟩,
    ⟨some 11, .mv (.t 48), none⟩] none [0, 3, 4, 5, 10, 11])
  (.seq (.seq (.region [⟨some 49, .mv (.t 11), none⟩] none [0, 3, 4, 5, 10, 49])
  (.cond (.t 49) (.seq (.region [⟨some 50, .mv (.t 0), none⟩,
      ⟨some 51, .call N.part_work_fail [(.t 50), (.c (.f (.int .i64 61)))], none⟩] none [])
    (.ret))
  (.skip)))
  (.seq (.seq (.region [⟨some 52, .faddr (.t 3) 6, none⟩,
    ⟨some 53, .load none (.t 52), none⟩] none [0, 3, 4, 5, 10, 53])
  (.cond (.t 53) (.region [⟨some 54, .mv (.t 0), none⟩,
      ⟨some 55, .mv (.t 5), none⟩,
      ⟨some 56, .call N.part_work_turn [(.t 54), (.t 55), (.c (.fn (.func N.part_work_put_c2) [] []))], none⟩] none [0, 3, 4, 10])
  (.skip)))
  (.seq (.region [⟨some 57, .mv (.t 0), none⟩,
    ⟨some 58, .mv (.t 0), none⟩,
    ⟨some 59, .nilchk (.t 58), none⟩,
    ⟨some 60, .faddr (.t 59) 0, none⟩,
    ⟨some 61, .faddr (.t 60) 0, none⟩,
    ⟨some 62, .load none (.t 61), none⟩,
    ⟨some 63, .mv (.t 10), none⟩,
    ⟨some 64, .mv (.t 4), none⟩,
    ⟨some 65, .faddr (.t 3) 3, none⟩,
    ⟨some 66, .load none (.t 65), none⟩,
    ⟨some 67, .faddr (.t 3) 5, none⟩,
    ⟨some 68, .load none (.t 67), none⟩,
    ⟨some 69, .build [.f (.str .empty), .f (.str .empty), .f (.int .i64 0), .f (.int .i64 0), .f (.int .i64 0)] [(0, 1, (.t 64)), (1, 1, (.t 66)), (4, 1, (.t 68))], none⟩,
    ⟨some 70, .bslice 5 [(.t 69)], none⟩,
    ⟨some 71, .call N.slices_Insert_Node [(.t 62), (.t 63), (.t 70)], none⟩,
    ⟨some 72, .nilchk (.t 57), none⟩,
    ⟨some 73, .faddr (.t 72) 0, none⟩,
    ⟨some 74, .faddr (.t 73) 0, none⟩,
    ⟨none, .store 1 (.t 74) (.t 71), none⟩] (some []) [0, 4])
  (.region [⟨some 75, .mv (.t 0), none⟩,
    ⟨some 76, .mv (.t 4), none⟩,
    ⟨some 77, .nilchk (.t 75), none⟩,
    ⟨some 78, .faddr (.t 77) 2, none⟩,
    ⟨some 79, .faddr (.t 78) 1, none⟩,
    ⟨none, .store 1 (.t 79) (.t 76), none⟩] none []))))))))
def B.path_cut : AC :=
  .seq (.region [⟨some 2, .mv (.c (.f (.str ⟨#[]⟩))), none⟩,
    ⟨some 3, .mv (.c (.f (.str ⟨#[]⟩))), none⟩,
    ⟨some 4, .mv (.c (.f (.bool false))), none⟩] none [0])
  (.seq (.seq (.region [⟨some 6, .mv (.t 0), none⟩,
    ⟨some 7, .call N.path_Right [(.t 6)], none⟩,
    ⟨some 8, .not (.t 7), none⟩,
    ⟨some 9, .mv (.t 8), none⟩,
    ⟨some 10, .mv (.t 0), some (9, false)⟩,
    ⟨some 11, .bin .eql .val (.t 10) (.c (.f (.str ⟨#[47]⟩))), some (9, false)⟩,
    ⟨some 12, .pick (.t 9) (.c (.f (.bool true))) (.t 11), none⟩] none [0, 12])
  (.cond (.t 12) (.seq (.region [⟨some 2, .mv (.c (.f (.str ⟨#[]⟩))), none⟩,
      ⟨some 3, .mv (.c (.f (.str ⟨#[]⟩))), none⟩,
      ⟨some 4, .mv (.c (.f (.bool false))), none⟩] none [2, 3, 4])
    (.ret))
  (.skip)))
  (.seq (.region [⟨some 13, .mv (.t 0), none⟩,
    ⟨some 14, .call N.strings_LastIndexByte [(.t 13), (.c (.f (.int .u8 47)))], none⟩,
    ⟨some 5, .mv (.t 14), none⟩] none [0, 5])
  (.seq (.region [⟨some 15, .mv (.t 0), none⟩,
    ⟨some 16, .mv (.t 5), none⟩,
    ⟨some 17, .max [(.t 16), (.c (.f (.int .i64 1)))], none⟩,
    ⟨some 18, .slice 0 (.t 15) none (some (.t 17)) none, none⟩,
    ⟨some 19, .mv (.t 0), none⟩,
    ⟨some 20, .mv (.t 5), none⟩,
    ⟨some 21, .bin .add .val (.t 20) (.c (.f (.int .i64 1))), none⟩,
    ⟨some 22, .slice 0 (.t 19) (some (.t 21)) none none, none⟩,
    ⟨some 2, .mv (.t 18), none⟩,
    ⟨some 3, .mv (.t 22), none⟩,
    ⟨some 4, .mv (.c (.f (.bool true))), none⟩] (some []) [2, 3, 4])
  (.ret))))
def B.owned_find_c1 : AC :=
  .seq (.region [⟨some 2, .box (.t 0), none⟩,
    ⟨some 4, .mv (.c (.f (.int .i64 0))), none⟩] none [1, 2])
  (.seq (.region [⟨some 5, .faddr (.t 2) 0, none⟩,
    ⟨some 6, .load none (.t 5), none⟩,
    ⟨some 7, .mv (.t 1), none⟩,
    ⟨some 8, .call N.strings_Compare [(.t 6), (.t 7)], none⟩,
    ⟨some 4, .mv (.t 8), none⟩] none [4])
  (.ret))
def B.math_bits_Len64 : AC :=
  .seq (.region [⟨some 2, .mv (.c (.f (.int .i64 0))), none⟩] none [0, 2])
  (.seq (.seq (.region [⟨some 3, .mv (.t 0), none⟩,
    ⟨some 4, .bin .geq .val (.t 3) (.c (.f (.int .u64 4294967296))), none⟩] none [0, 2, 4])
  (.cond (.t 4) (.seq (.region [⟨some 5, .mv (.t 0), none⟩,
      ⟨some 6, .bin .shr .val (.t 5) (.c (.f (.int .u64 32))), none⟩,
      ⟨some 0, .mv (.t 6), none⟩] none [0])
    (.region [⟨some 2, .mv (.c (.f (.int .i64 32))), none⟩] none [0, 2]))
  (.skip)))
  (.seq (.seq (.region [⟨some 7, .mv (.t 0), none⟩,
    ⟨some 8, .bin .geq .val (.t 7) (.c (.f (.int .u64 65536))), none⟩] none [0, 2, 8])
  (.cond (.t 8) (.seq (.region [⟨some 9, .mv (.t 0), none⟩,
      ⟨some 10, .bin .shr .val (.t 9) (.c (.f (.int .u64 16))), none⟩,
      ⟨some 0, .mv (.t 10), none⟩] none [0, 2])
    (.region [⟨some 11, .mv (.t 2), none⟩,
      ⟨some 12, .bin .add .val (.t 11) (.c (.f (.int .i64 16))), none⟩,
      ⟨some 2, .mv (.t 12), none⟩] none [0, 2]))
  (.skip)))
  (.seq (.seq (.region [⟨some 13, .mv (.t 0), none⟩,
    ⟨some 14, .bin .geq .val (.t 13) (.c (.f (.int .u64 256))), none⟩] none [0, 2, 14])
  (.cond (.t 14) (.seq (.region [⟨some 15, .mv (.t 0), none⟩,
      ⟨some 16, .bin .shr .val (.t 15) (.c (.f (.int .u64 8))), none⟩,
      ⟨some 0, .mv (.t 16), none⟩] none [0, 2])
    (.region [⟨some 17, .mv (.t 2), none⟩,
      ⟨some 18, .bin .add .val (.t 17) (.c (.f (.int .i64 8))), none⟩,
      ⟨some 2, .mv (.t 18), none⟩] none [0, 2]))
  (.skip)))
  (.seq (.region [⟨some 19, .mv (.t 2), none⟩,
    ⟨some 20, .mv (.t 0), none⟩,
    ⟨some 21, .conv (.toInt .u8) (.t 20), none⟩,
    ⟨some 22, .index 1 none none (.c (.f (.str ⟨#[0, 1, 2, 2, 3, 3, 3, 3, 4, 4, 4, 4, 4, 4, 4, 4, 5, 5, 5, 5, 5, 5, 5, 5, 5, 5, 5, 5, 5, 5, 5, 5, 6, 6, 6, 6, 6, 6, 6, 6, 6, 6, 6, 6, 6, 6, 6, 6, 6, 6, 6, 6, 6, 6, 6, 6, 6, 6, 6, 6, 6, 6, 6, 6, 7, 7, 7, 7, 7, 7, 7, 7, 7, 7, 7, 7, 7, 7, 7, 7, 7, 7, 7, 7, 7, 7, 7, 7, 7, 7, 7, 7, 7, 7, 7, 7, 7, 7, 7, 7, 7, 7, 7, 7, 7, 7, 7, 7, 7, 7, 7, 7, 7, 7, 7, 7, 7, 7, 7, 7, 7, 7, 7, 7, 7, 7, 7, 7, 8, 8, 8, 8, 8, 8, 8, 8, 8, 8, 8, 8, 8, 8, 8, 8, 8, 8, 8, 8, 8, 8, 8, 8, 8, 8, 8, 8, 8, 8, 8, 8, 8, 8, 8, 8, 8, 8, 8, 8, 8, 8, 8, 8, 8, 8, 8, 8, 8, 8, 8, 8, 8, 8, 8, 8, 8, 8, 8, 8, 8, 8, 8, 8, 8, 8, 8, 8, 8, 8, 8, 8, 8, 8, 8, 8, 8, 8, 8, 8, 8, 8, 8, 8, 8, 8, 8, 8, 8, 8, 8, 8, 8, 8, 8, 8, 8, 8, 8, 8, 8, 8, 8, 8, 8, 8, 8, 8, 8, 8, 8, 8, 8, 8, 8, 8, 8, 8, 8, 8, 8, 8, 8, 8, 8, 8, 8, 8]⟩))) (.t 21), none⟩,
    ⟨some 23, .conv (.toInt .i64) (.t 22), none⟩,
    ⟨some 24, .bin .add .val (.t 19) (.t 23), none⟩,
    ⟨some 2, .mv (.t 24), none⟩] none [2])
  (.ret)))))
def G.watch_all_109 (p0 p1 : Nat) : AC :=
  .seq (.region [⟨some 3, .box (.t 1), none⟩,
    ⟨some 4, .mv (.c (.f (.bool false))), none⟩] none [0, 3])
  (.seq (.region [⟨some 5, .mv (.t 0), none⟩,
    ⟨some 6, .mkfn (.func p0) [] [(.t 3)], none⟩,
    ⟨some 7, .call p1 [(.t 5), (.t 6)], none⟩,
    ⟨some 8, .not (.t 7), none⟩,
    ⟨some 4, .mv (.t 8), none⟩] none [4])
  (.ret))
def B.watch_all_Watch : AC := G.watch_all_109 N.watch_all_Watch_c1 N.slices_ContainsFunc_Watch
def B.watch_all_Session : AC := G.watch_all_109 N.watch_all_Session_c1 N.slices_ContainsFunc_Session
def B.istringslite_CutPrefix : AC :=
  .seq (.region [⟨some 4, .mv (.c (.f (.str ⟨#[]⟩))), none⟩,
    ⟨some 5, .mv (.c (.f (.bool false))), none⟩] none [0, 1])
  (.seq (.seq (.region [⟨some 6, .mv (.t 0), none⟩,
    ⟨some 7, .mv (.t 1), none⟩,
    ⟨some 8, .call N.istringslite_HasPrefix [(.t 6), (.t 7)], none⟩,
    ⟨some 9, .not (.t 8), none⟩] none [0, 1, 9])
  (.cond (.t 9) (.seq (.region [⟨some 10, .mv (.t 0), none⟩,
      ⟨some 4, .mv (.t 10), none⟩,
      ⟨some 5, .mv (.c (.f (.bool false))), none⟩] none [4, 5])
    (.ret))
  (.skip)))
  (.seq (.region [⟨some 11, .mv (.t 0), none⟩,
    ⟨some 12, .mv (.t 1), none⟩,
    ⟨some 13, .len .str (.t 12), none⟩,
    ⟨some 14, .slice 0 (.t 11) (some (.t 13)) none none, none⟩,
    ⟨some 4, .mv (.t 14), none⟩,
    ⟨some 5, .mv (.c (.f (.bool true))), none⟩] none [4, 5])
  (.ret)))
def B.istringslite_TrimSuffix : AC :=
  .seq (.region [⟨some 4, .mv (.c (.f (.str ⟨#[]⟩))), none⟩] none [0, 1])
  (.seq (.seq (.region [⟨some 5, .mv (.t 0), none⟩,
    ⟨some 6, .mv (.t 1), none⟩,
    ⟨some 7, .call N.istringslite_HasSuffix [(.t 5), (.t 6)], none⟩] none [0, 1, 7])
  (.cond (.t 7) (.seq (.region [⟨some 8, .mv (.t 0), none⟩,
      ⟨some 9, .mv (.t 0), none⟩,
      ⟨some 10, .len .str (.t 9), none⟩,
      ⟨some 11, .mv (.t 1), none⟩,
      ⟨some 12, .len .str (.t 11), none⟩,
      ⟨some 13, .bin .sub .val (.t 10) (.t 12), none⟩,
      ⟨some 14, .slice 0 (.t 8) none (some (.t 13)) none, none⟩,
      ⟨some 4, .mv (.t 14), none⟩] none [4])
    (.ret))
  (.skip)))
  (.seq (.region [⟨some 15, .mv (.t 0), none⟩,
    ⟨some 4, .mv (.t 15), none⟩] none [4])
  (.ret)))
def B.nodes_within : AC :=
  .seq (.region [⟨some 4, .mv (.c (.f (.bool false))), none⟩] none [0, 1])
  (.seq (.region [⟨some 5, .mv (.t 0), none⟩,
    ⟨some 6, .bin .geq .val (.t 5) (.c (.f (.int .i64 0))), none⟩,
    ⟨some 7, .mv (.t 6), none⟩,
    ⟨some 8, .mv (.t 0), some (7, true)⟩,
    ⟨some 9, .mv (.t 1), some (7, true)⟩,
    ⟨some 10, .bin .leq .val (.t 8) (.t 9), some (7, true)⟩,
    ⟨some 11, .pick (.t 7) (.t 10) (.c (.f (.bool false))), none⟩,
    ⟨some 4, .mv (.t 11), none⟩] none [4])
  (.ret))
def B.nodes_named : AC :=
  .seq (.region [⟨some 0, .new 8 [.f (.int .i64 0), .f (.int .i64 0), .f (.int .i64 0), .f (.int .i64 0), .f (.int .i64 0), .f (.int .i64 0), .f (.int .i64 0), .f (.int .i64 0)], none⟩] none [0])
  (.seq (.region [⟨some 1, .build [.f (.int .i64 0), .f (.int .i64 0), .f (.int .i64 0), .f (.int .i64 0), .f (.int .i64 0), .f (.int .i64 0), .f (.int .i64 0), .f (.int .i64 0)] [(1, 1, (.c (.f (.int .i64 13)))), (2, 1, (.c (.f (.int .i64 2)))), (3, 1, (.c (.f (.int .i64 19)))), (4, 1, (.c (.f (.int .i64 18)))), (5, 1, (.c (.f (.int .i64 16)))), (6, 1, (.c (.f (.int .i64 16)))), (7, 1, (.c (.f (.int .i64 20))))], none⟩,
    ⟨none, .store 8 (.t 0) (.t 1), none⟩] none [0])
  (.ret))
def B.strings_IndexByte : AC :=
  .seq (.region [⟨some 4, .mv (.c (.f (.int .i64 0))), none⟩] none [0, 1])
  (.seq (.region [⟨some 5, .mv (.t 0), none⟩,
    ⟨some 6, .mv (.t 1), none⟩,
    ⟨some 7, .call N.istringslite_IndexByte [(.t 5), (.t 6)], none⟩,
    ⟨some 4, .mv (.t 7), none⟩] none [4])
  (.ret))
def B.path_part : AC :=
  .seq (.region [⟨some 2, .mv (.c (.f (.bool false))), none⟩] none [0])
  (.seq (.region [⟨some 4, .mv (.t 0), none⟩,
    ⟨some 5, .call N.strings_ContainsFunc [(.t 4), (.c (.fn (.func N.path_part_c1) [] []))], none⟩,
    ⟨some 3, .mv (.t 5), none⟩] none [0, 3])
  (.seq (.region [⟨some 6, .mv (.t 0), none⟩,
    ⟨some 7, .bin .neq .val (.t 6) (.c (.f (.str ⟨#[]⟩))), none⟩,
    ⟨some 8, .mv (.t 7), none⟩,
    ⟨some 9, .mv (.t 0), some (8, true)⟩,
    ⟨some 10, .len .str (.t 9), some (8, true)⟩,
    ⟨some 11, .bin .leq .val (.t 10) (.c (.f (.int .i64 12))), some (8, true)⟩,
    ⟨some 12, .pick (.t 8) (.t 11) (.c (.f (.bool false))), none⟩,
    ⟨some 13, .mv (.t 12), none⟩,
    ⟨some 14, .mv (.t 3), some (13, true)⟩,
    ⟨some 15, .not (.t 14), some (13, true)⟩,
    ⟨some 16, .pick (.t 13) (.t 15) (.c (.f (.bool false))), none⟩,
    ⟨some 2, .mv (.t 16), none⟩] none [2])
  (.ret)))
def B.slices_insertionSortOrdered_string : AC :=
  .seq (.region [⟨some 8, .mv (.t 1), none⟩,
    ⟨some 9, .bin .add .val (.t 8) (.c (.f (.int .i64 1))), none⟩,
    ⟨some 6, .mv (.t 9), none⟩] none [0, 1, 2, 6])
  (.block 0 (.loop [0, 1, 2, 6] [] (.seq (.seq (.region [⟨some 10, .mv (.t 6), none⟩,
        ⟨some 11, .mv (.t 2), none⟩,
        ⟨some 12, .bin .lss .val (.t 10) (.t 11), none⟩] none [0, 1, 2, 6, 12])
      (.cond (.t 12) (.skip)
      (.exit 0)))
      (.seq (.block 1 (.seq (.region [⟨some 15, .mv (.t 6), none⟩,
          ⟨some 7, .mv (.t 15), none⟩] none [0, 1, 2, 6, 7])
        (.block 2 (.loop [0, 1, 2, 6, 7] [] (.seq (.seq (.region [⟨some 16, .mv (.t 7), none⟩,
              ⟨some 17, .mv (.t 1), none⟩,
              ⟨some 18, .bin .gtr .val (.t 16) (.t 17), none⟩,
              ⟨some 19, .mv (.t 18), none⟩,
              ⟨some 20, .mv (.t 0), some (19, true)⟩,
              ⟨some 21, .mv (.t 7), some (19, true)⟩,
              ⟨some 22, .iaddr 1 none (.t 20) (.t 21), some (19, true)⟩,
              ⟨some 23, .load none (.t 22), some (19, true)⟩,
              ⟨some 24, .mv (.t 0), some (19, true)⟩,
              ⟨some 25, .mv (.t 7), some (19, true)⟩,
              ⟨some 26, .bin .sub .val (.t 25) (.c (.f (.int .i64 1))), some (19, true)⟩,
              ⟨some 27, .iaddr 1 none (.t 24) (.t 26), some (19, true)⟩,
              ⟨some 28, .load none (.t 27), some (19, true)⟩,
              ⟨some 29, .call N.cmp_Less_string [(.t 23), (.t 28)], some (19, true)⟩,
              ⟨some 30, .pick (.t 19) (.t 29) (.c (.f (.bool false))), none⟩] (some []) [0, 1, 2, 6, 7, 30])
            (.cond (.t 30) (.skip)
            (.exit 2)))
            (.seq (.block 3 (.region [⟨some 33, .mv (.t 0), none⟩,
                ⟨some 34, .mv (.t 7), none⟩,
                ⟨some 35, .mv (.t 0), none⟩,
                ⟨some 36, .mv (.t 7), none⟩,
                ⟨some 37, .bin .sub .val (.t 36) (.c (.f (.int .i64 1))), none⟩,
                ⟨some 38, .mv (.t 0), none⟩,
                ⟨some 39, .mv (.t 7), none⟩,
                ⟨some 40, .bin .sub .val (.t 39) (.c (.f (.int .i64 1))), none⟩,
                ⟨some 41, .iaddr 1 none (.t 38) (.t 40), none⟩,
                ⟨some 42, .load none (.t 41), none⟩,
                ⟨some 43, .mv (.t 0), none⟩,
                ⟨some 44, .mv (.t 7), none⟩,
                ⟨some 45, .iaddr 1 none (.t 43) (.t 44), none⟩,
                ⟨some 46, .load none (.t 45), none⟩,
                ⟨some 47, .iaddr 1 none (.t 33) (.t 34), none⟩,
                ⟨none, .store 1 (.t 47) (.t 42), none⟩,
                ⟨some 48, .iaddr 1 none (.t 35) (.t 37), none⟩,
                ⟨none, .store 1 (.t 48) (.t 46), none⟩] (some []) [0, 1, 2, 6, 7]))
            (.region [⟨some 31, .mv (.t 7), none⟩,
              ⟨some 32, .bin .sub .val (.t 31) (.c (.f (.int .i64 1))), none⟩,
              ⟨some 7, .mv (.t 32), none⟩] none [0, 1, 2, 6, 7])))))))
      (.region [⟨some 13, .mv (.t 6), none⟩,
        ⟨some 14, .bin .add .val (.t 13) (.c (.f (.int .i64 1))), none⟩,
        ⟨some 6, .mv (.t 14), none⟩] none [0, 1, 2, 6])))))
def B.cmp_Less_string : AC :=
  .seq (.region [⟨some 4, .mv (.c (.f (.bool false))), none⟩] none [0, 1])
  (.seq (.region [⟨some 5, .mv (.t 0), none⟩,
    ⟨some 6, .call N.cmp_isNaN_string [(.t 5)], none⟩,
    ⟨some 7, .mv (.t 6), none⟩,
    ⟨some 8, .mv (.t 1), some (7, true)⟩,
    ⟨some 9, .call N.cmp_isNaN_string [(.t 8)], some (7, true)⟩,
    ⟨some 10, .not (.t 9), some (7, true)⟩,
    ⟨some 11, .pick (.t 7) (.t 10) (.c (.f (.bool false))), none⟩,
    ⟨some 12, .mv (.t 11), none⟩,
    ⟨some 13, .mv (.t 0), some (12, false)⟩,
    ⟨some 14, .mv (.t 1), some (12, false)⟩,
    ⟨some 15, .bin .lss .val (.t 13) (.t 14), some (12, false)⟩,
    ⟨some 16, .pick (.t 12) (.c (.f (.bool true))) (.t 15), none⟩,
    ⟨some 4, .mv (.t 16), none⟩] none [4])
  (.ret))
def B.watch_Tell : AC :=
  .seq (.region [⟨some 3, .box (.t 0), none⟩,
    ⟨some 4, .box (.t 1), none⟩,
    ⟨some 5, .box (.t 2), none⟩,
    ⟨some 6, .new 2 [.sl0 4, .sl0 3], none⟩,
    ⟨some 7, .mv (.c (.f (.int .i64 0))), none⟩] none [3, 4, 5, 6])
  (.seq (.seq (.region [⟨some 8, .load (some 2) (.t 3), none⟩,
    ⟨some 9, .call N.watch_Right [(.t 8)], none⟩,
    ⟨some 10, .not (.t 9), none⟩,
    ⟨some 11, .mv (.t 10), none⟩,
    ⟨some 12, .load none (.t 4), some (11, false)⟩,
    ⟨some 13, .bin .lss .val (.t 12) (.c (.f (.int .i64 1))), some (11, false)⟩,
    ⟨some 14, .pick (.t 11) (.c (.f (.bool true))) (.t 13), none⟩,
    ⟨some 15, .mv (.t 14), none⟩,
    ⟨some 16, .load none (.t 4), some (15, false)⟩,
    ⟨some 17, .bin .gtr .val (.t 16) (.c (.f (.int .i64 3))), some (15, false)⟩,
    ⟨some 18, .pick (.t 15) (.c (.f (.bool true))) (.t 17), none⟩,
    ⟨some 19, .mv (.t 18), none⟩,
    ⟨some 20, .load none (.t 5), some (19, false)⟩,
    ⟨some 21, .call N.path_Right [(.t 20)], some (19, false)⟩,
    ⟨some 22, .not (.t 21), some (19, false)⟩,
    ⟨some 23, .pick (.t 19) (.c (.f (.bool true))) (.t 22), none⟩] none [3, 4, 5, 6, 23])
  (.cond (.t 23) (.seq (.region [⟨some 24, .build [.sl0 4, .sl0 3] [], none⟩,
      ⟨none, .store 2 (.t 6) (.t 24), none⟩,
      ⟨some 7, .mv (.c (.f (.int .i64 1))), none⟩] none [6, 7])
    (.ret))
  (.skip)))
  (.seq (.region [⟨some 25, .faddr (.t 3) 1, none⟩,
    ⟨some 26, .load none (.t 25), none⟩,
    ⟨some 27, .call N.slices_Clone_Session [(.t 26)], none⟩,
    ⟨some 28, .faddr (.t 3) 1, none⟩,
    ⟨none, .store 1 (.t 28) (.t 27), none⟩] none [3, 4, 5, 6])
  (.seq (.region [⟨some 29, .faddr (.t 3) 0, none⟩,
    ⟨some 30, .load none (.t 29), none⟩,
    ⟨some 31, .call N.slices_Clone_Watch [(.t 30)], none⟩,
    ⟨some 32, .mkfn (.func N.watch_Tell_c1) [] [(.t 5), (.t 3), (.t 4)], none⟩,
    ⟨some 33, .call N.slices_DeleteFunc_Watch [(.t 31), (.t 32)], none⟩,
    ⟨some 34, .faddr (.t 3) 0, none⟩,
    ⟨none, .store 1 (.t 34) (.t 33), none⟩] none [3, 6])
  (.seq (.region [⟨some 35, .load (some 2) (.t 3), none⟩,
    ⟨none, .store 2 (.t 6) (.t 35), none⟩,
    ⟨some 7, .mv (.c (.f (.int .i64 0))), none⟩] none [6, 7])
  (.ret)))))
def B.part_work_node : AC :=
  .seq (.region [⟨some 3, .box (.t 1), none⟩,
    ⟨some 4, .mv (.c (.f .nilp)), none⟩] none [0, 3])
  (.seq (.region [⟨some 9, .mv (.t 0), none⟩,
    ⟨some 10, .faddr (.t 3) 2, none⟩,
    ⟨some 11, .load none (.t 10), none⟩,
    ⟨some 12, .call N.part_work_where [(.t 9), (.t 11)], none⟩,
    ⟨some 8, .mv (.t 12), none⟩,
    ⟨some 13, .extr (.t 8) 0, none⟩,
    ⟨some 14, .extr (.t 8) 1, none⟩,
    ⟨some 5, .mv (.t 13), none⟩,
    ⟨some 6, .mv (.t 14), none⟩] none [0, 3, 5, 6])
  (.seq (.region [⟨some 15, .faddr (.t 3) 0, none⟩,
    ⟨some 16, .load none (.t 15), none⟩,
    ⟨some 17, .bin .eql .val (.t 16) (.c (.f (.int .i64 3))), none⟩,
    ⟨some 18, .mv (.t 17), none⟩,
    ⟨some 19, .faddr (.t 3) 0, some (18, false)⟩,
    ⟨some 20, .load none (.t 19), some (18, false)⟩,
    ⟨some 21, .bin .eql .val (.t 20) (.c (.f (.int .i64 5))), some (18, false)⟩,
    ⟨some 22, .pick (.t 18) (.c (.f (.bool true))) (.t 21), none⟩,
    ⟨some 23, .mv (.t 22), none⟩,
    ⟨some 24, .faddr (.t 3) 0, some (23, false)⟩,
    ⟨some 25, .load none (.t 24), some (23, false)⟩,
    ⟨some 26, .bin .eql .val (.t 25) (.c (.f (.int .i64 6))), some (23, false)⟩,
    ⟨some 27, .pick (.t 23) (.c (.f (.bool true))) (.t 26), none⟩,
    ⟨some 7, .mv (.t 27), none⟩] none [0, 3, 5, 6, 7])
  (.seq (.block 0 (.seq (.region [⟨some 36, .mv (.t 6), none⟩,
      ⟨some 37, .not (.t 36), none⟩,
      ⟨some 35, .mv (.t 37), none⟩] none [0, 3, 5, 7, 35])
    (.cond (.t 35) (.region [⟨some 38, .mv (.t 0), none⟩,
        ⟨some 39, .call N.part_work_fail [(.t 38), (.c (.f (.int .i64 62)))], none⟩] none [])
    (.seq (.region [⟨some 41, .mv (.t 7), none⟩,
        ⟨some 42, .mv (.t 41), none⟩,
        ⟨some 43, .faddr (.t 3) 4, some (42, true)⟩,
        ⟨some 44, .load none (.t 43), some (42, true)⟩,
        ⟨some 45, .bin .geq .val (.t 44) (.c (.f (.int .i64 0))), some (42, true)⟩,
        ⟨some 46, .pick (.t 42) (.t 45) (.c (.f (.bool false))), none⟩,
        ⟨some 47, .mv (.t 46), none⟩,
        ⟨some 48, .faddr (.t 3) 4, some (47, true)⟩,
        ⟨some 49, .load none (.t 48), some (47, true)⟩,
        ⟨some 50, .mv (.t 0), some (47, true)⟩,
        ⟨some 51, .nilchk (.t 50), some (47, true)⟩,
        ⟨some 52, .faddr (.t 51) 0, some (47, true)⟩,
        ⟨some 53, .faddr (.t 52) 0, some (47, true)⟩,
        ⟨some 54, .load none (.t 53), some (47, true)⟩,
        ⟨some 55, .mv (.t 5), some (47, true)⟩,
        ⟨some 56, .iaddr 5 none (.t 54) (.t 55), some (47, true)⟩,
        ⟨some 57, .faddr (.t 56) 2, some (47, true)⟩,
        ⟨some 58, .load none (.t 57), some (47, true)⟩,
        ⟨some 59, .bin .neq .val (.t 49) (.t 58), some (47, true)⟩,
        ⟨some 60, .pick (.t 47) (.t 59) (.c (.f (.bool false))), none⟩,
        ⟨some 40, .mv (.t 60), none⟩] (some []) [0, 5, 40])
      (.cond (.t 40) (.region [⟨some 61, .mv (.t 0), none⟩,
          ⟨some 62, .call N.part_work_fail [(.t 61), (.c (.f (.int .i64 63)))], none⟩] none [])
      (.seq (.region [⟨some 28, .mv (.t 0), none⟩,
          ⟨some 29, .nilchk (.t 28), none⟩,
          ⟨some 30, .faddr (.t 29) 0, none⟩,
          ⟨some 31, .faddr (.t 30) 0, none⟩,
          ⟨some 32, .load none (.t 31), none⟩,
          ⟨some 33, .mv (.t 5), none⟩,
          ⟨some 34, .iaddr 5 none (.t 32) (.t 33), none⟩,
          ⟨some 4, .mv (.t 34), none⟩] none [4])
        (.ret)))))))
  (.seq (.region [⟨some 4, .mv (.c (.f .nilp)), none⟩] none [4])
  (.ret)))))
def B.part_work_where : AC :=
  .seq (.region [⟨some 4, .mv (.c (.f (.int .i64 0))), none⟩,
    ⟨some 5, .mv (.c (.f (.bool false))), none⟩] none [0, 1])
  (.seq (.region [⟨some 6, .mv (.t 0), none⟩,
    ⟨some 7, .nilchk (.t 6), none⟩,
    ⟨some 8, .faddr (.t 7) 0, none⟩,
    ⟨some 9, .faddr (.t 8) 0, none⟩,
    ⟨some 10, .load none (.t 9), none⟩,
    ⟨some 11, .mv (.t 1), none⟩,
    ⟨some 12, .call N.slices_BinarySearchFunc_Node [(.t 10), (.t 11), (.c (.fn (.func N.part_work_where_c1) [] []))], none⟩,
    ⟨some 13, .extr (.t 12) 0, none⟩,
    ⟨some 14, .extr (.t 12) 1, none⟩,
    ⟨some 4, .mv (.t 13), none⟩,
    ⟨some 5, .mv (.t 14), none⟩] none [4, 5])
  (.ret))
def B.strings_LastIndexByte : AC :=
  .seq (.region [⟨some 4, .mv (.c (.f (.int .i64 0))), none⟩] none [0, 1])
  (.seq (.region [⟨some 5, .mv (.t 0), none⟩,
    ⟨some 6, .mv (.t 1), none⟩,
    ⟨some 7, .call N.ibytealg_LastIndexByteString [(.t 5), (.t 6)], none⟩,
    ⟨some 4, .mv (.t 7), none⟩] none [4])
  (.ret))
def B.istringslite_HasPrefix : AC :=
  .seq (.region [⟨some 4, .mv (.c (.f (.bool false))), none⟩] none [0, 1])
  (.seq (.region [⟨some 5, .mv (.t 0), none⟩,
    ⟨some 6, .len .str (.t 5), none⟩,
    ⟨some 7, .mv (.t 1), none⟩,
    ⟨some 8, .len .str (.t 7), none⟩,
    ⟨some 9, .bin .geq .val (.t 6) (.t 8), none⟩,
    ⟨some 10, .mv (.t 9), none⟩,
    ⟨some 11, .mv (.t 0), some (10, true)⟩,
    ⟨some 12, .mv (.t 1), some (10, true)⟩,
    ⟨some 13, .len .str (.t 12), some (10, true)⟩,
    ⟨some 14, .slice 0 (.t 11) none (some (.t 13)) none, some (10, true)⟩,
    ⟨some 15, .mv (.t 1), some (10, true)⟩,
    ⟨some 16, .bin .eql .val (.t 14) (.t 15), some (10, true)⟩,
    ⟨some 17, .pick (.t 10) (.t 16) (.c (.f (.bool false))), none⟩,
    ⟨some 4, .mv (.t 17), none⟩] none [4])
  (.ret))
def B.istringslite_HasSuffix : AC :=
  .seq (.region [⟨some 4, .mv (.c (.f (.bool false))), none⟩] none [0, 1])
  (.seq (.region [⟨some 5, .mv (.t 0), none⟩,
    ⟨some 6, .len .str (.t 5), none⟩,
    ⟨some 7, .mv (.t 1), none⟩,
    ⟨some 8, .len .str (.t 7), none⟩,
    ⟨some 9, .bin .geq .val (.t 6) (.t 8), none⟩,
    ⟨some 10, .mv (.t 9), none⟩,
    ⟨some 11, .mv (.t 0), some (10, true)⟩,
    ⟨some 12, .mv (.t 0), some (10, true)⟩,
    ⟨some 13, .len .str (.t 12), some (10, true)⟩,
    ⟨some 14, .mv (.t 1), some (10, true)⟩,
    ⟨some 15, .len .str (.t 14), some (10, true)⟩,
    ⟨some 16, .bin .sub .val (.t 13) (.t 15), some (10, true)⟩,
    ⟨some 17, .slice 0 (.t 11) (some (.t 16)) none none, some (10, true)⟩,
    ⟨some 18, .mv (.t 1), some (10, true)⟩,
    ⟨some 19, .bin .eql .val (.t 17) (.t 18), some (10, true)⟩,
    ⟨some 20, .pick (.t 10) (.t 19) (.c (.f (.bool false))), none⟩,
    ⟨some 4, .mv (.t 20), none⟩] none [4])
  (.ret))
def B.istringslite_IndexByte : AC :=
  .seq (.region [⟨some 4, .mv (.c (.f (.int .i64 0))), none⟩] none [0, 1])
  (.seq (.region [⟨some 5, .mv (.t 0), none⟩,
    ⟨some 6, .mv (.t 1), none⟩,
    ⟨some 7, .call N.ibytealg_IndexByteString [(.t 5), (.t 6)], none⟩,
    ⟨some 4, .mv (.t 7), none⟩] none [4])
  (.ret))
def B.strings_ContainsFunc : AC :=
  .seq (.region [⟨some 4, .mv (.c (.f (.bool false))), none⟩] none [0, 1])
  (.seq (.region [⟨some 5, .mv (.t 0), none⟩,
    ⟨some 6, .mv (.t 1), none⟩,
    ⟨some 7, .call N.strings_IndexFunc [(.t 5), (.t 6)], none⟩,
    ⟨some 8, .bin .geq .val (.t 7) (.c (.f (.int .i64 0))), none⟩,
    ⟨some 4, .mv (.t 8), none⟩] none [4])
  (.ret))
def B.path_part_c1 : AC :=
  .seq (.region [⟨some 2, .mv (.c (.f (.bool false))), none⟩] none [0])
  (.seq (.region [⟨some 3, .mv (.t 0), none⟩,
    ⟨some 4, .call N.strings_ContainsRune [(.c (.f (.str ⟨#[97, 98, 99, 100, 101, 102, 103, 104, 105, 106, 107, 108, 109, 110, 111, 112, 113, 114, 115, 116, 117, 118, 119, 120, 121, 122, 48, 49, 50, 51, 52, 53, 54, 55, 56, 57, 45]⟩))), (.t 3)], none⟩,
    ⟨some 5, .not (.t 4), none⟩,
    ⟨some 2, .mv (.t 5), none⟩] none [2])
  (.ret))
def B.strings_ContainsRune : AC :=
  .seq (.region [⟨some 4, .mv (.c (.f (.bool false))), none⟩] none [0, 1])
  (.seq (.region [⟨some 5, .mv (.t 0), none⟩,
    ⟨some 6, .mv (.t 1), none⟩,
    ⟨some 7, .call N.strings_IndexRune [(.t 5), (.t 6)], none⟩,
    ⟨some 8, .bin .geq .val (.t 7) (.c (.f (.int .i64 0))), none⟩,
    ⟨some 4, .mv (.t 8), none⟩] none [4])
  (.ret))
def B.cmp_isNaN_string : AC :=
  .seq (.region [⟨some 2, .mv (.c (.f (.bool false))), none⟩] none [0])
  (.seq (.region [⟨some 3, .mv (.t 0), none⟩,
    ⟨some 4, .mv (.t 0), none⟩,
    ⟨some 5, .bin .neq .val (.t 3) (.t 4), none⟩,
    ⟨some 2, .mv (.t 5), none⟩] none [2])
  (.ret))
def B.slices_DeleteFunc_Watch : AC :=
  .seq (.region [⟨some 4, .mv (.c (.sl0 4)), none⟩] none [0, 1])
  (.seq (.region [⟨some 8, .mv (.t 0), none⟩,
    ⟨some 9, .mv (.t 1), none⟩,
    ⟨some 10, .call N.slices_IndexFunc_Watch [(.t 8), (.t 9)], none⟩,
    ⟨some 5, .mv (.t 10), none⟩] none [0, 1, 5])
  (.seq (.seq (.region [⟨some 11, .mv (.t 5), none⟩,
    ⟨some 12, .bin .eql .val (.t 11) (.c (.f (.int .i64 (-1)))), none⟩] none [0, 1, 5, 12])
  (.cond (.t 12) (.seq (.region [⟨some 13, .mv (.t 0), none⟩,
      ⟨some 4, .mv (.t 13), none⟩] none [4])
    (.ret))
  (.skip)))
  (.seq (.seq (.region [⟨some 14, .mv (.t 5), none⟩,
    ⟨some 15, .bin .add .val (.t 14) (.c (.f (.int .i64 1))), none⟩,
    ⟨some 6, .mv (.t 15), none⟩] none [0, 1, 5, 6])
  (.block 0 (.loop [0, 1, 5, 6] [] (.seq (.seq (.region [⟨some 16, .mv (.t 6), none⟩,
        ⟨some 17, .mv (.t 0), none⟩,
        ⟨some 18, .len .sl (.t 17), none⟩,
        ⟨some 19, .bin .lss .val (.t 16) (.t 18), none⟩] none [0, 1, 5, 6, 19])
      (.cond (.t 19) (.skip)
      (.exit 0)))
      (.seq (.block 1 (.seq (.region [⟨some 22, .mv (.t 0), none⟩,
          ⟨some 23, .mv (.t 6), none⟩,
          ⟨some 24, .iaddr 4 none (.t 22) (.t 23), none⟩,
          ⟨some 25, .load (some 4) (.t 24), none⟩,
          ⟨some 7, .new 4 [.f (.int .i64 0), .f (.int .i64 0), .f (.str .empty), .f (.bool false)], none⟩,
          ⟨none, .store 4 (.t 7) (.t 25), none⟩] none [0, 1, 5, 6, 7])
        (.seq (.region [⟨some 26, .mv (.t 1), none⟩,
          ⟨some 27, .load (some 4) (.t 7), none⟩,
          ⟨some 28, .callv (.t 26) [(.t 27)], none⟩,
          ⟨some 29, .not (.t 28), none⟩] none [0, 1, 5, 6, 7, 29])
        (.cond (.t 29) (.seq (.region [⟨some 30, .mv (.t 0), none⟩,
            ⟨some 31, .mv (.t 5), none⟩,
            ⟨some 32, .load (some 4) (.t 7), none⟩,
            ⟨some 33, .iaddr 4 none (.t 30) (.t 31), none⟩,
            ⟨none, .store 4 (.t 33) (.t 32), none⟩] none [0, 1, 5, 6])
          (.region [⟨some 34, .mv (.t 5), none⟩,
            ⟨some 35, .bin .add .val (.t 34) (.c (.f (.int .i64 1))), none⟩,
            ⟨some 5, .mv (.t 35), none⟩] none [0, 1, 5, 6]))
        (.skip)))))
      (.region [⟨some 20, .mv (.t 6), none⟩,
        ⟨some 21, .bin .add .val (.t 20) (.c (.f (.int .i64 1))), none⟩,
        ⟨some 6, .mv (.t 21), none⟩] none [0, 1, 5, 6]))))))
  (.seq (.region [⟨some 36, .mv (.t 0), none⟩,
    ⟨some 37, .mv (.t 5), none⟩,
    ⟨some 38, .slice 4 (.t 36) (some (.t 37)) none none, none⟩,
    ⟨none, .clear [.int .i64 0, .int .i64 0, .str .empty, .bool false] (.t 38), none⟩] none [0, 5])
  (.seq (.region [⟨some 39, .mv (.t 0), none⟩,
    ⟨some 40, .mv (.t 5), none⟩,
    ⟨some 41, .slice 4 (.t 39) none (some (.t 40)) none, none⟩,
    ⟨some 4, .mv (.t 41), none⟩] none [4])
  (.ret))))))
def B.part_work_where_c1 : AC :=
  .seq (.region [⟨some 2, .box (.t 0), none⟩,
    ⟨some 4, .mv (.c (.f (.int .i64 0))), none⟩] none [1, 2])
  (.seq (.region [⟨some 5, .faddr (.t 2) 0, none⟩,
    ⟨some 6, .load none (.t 5), none⟩,
    ⟨some 7, .mv (.t 1), none⟩,
    ⟨some 8, .call N.strings_Compare [(.t 6), (.t 7)], none⟩,
    ⟨some 4, .mv (.t 8), none⟩] none [4])
  (.ret))
def B.ibytealg_LastIndexByteString : AC :=
  .seq (.region [⟨some 4, .mv (.c (.f (.int .i64 0))), none⟩] none [0, 1])
  (.seq (.seq (.region [⟨some 6, .mv (.t 0), none⟩,
    ⟨some 7, .len .str (.t 6), none⟩,
    ⟨some 8, .bin .sub .val (.t 7) (.c (.f (.int .i64 1))), none⟩,
    ⟨some 5, .mv (.t 8), none⟩] none [0, 1, 5])
  (.block 0 (.loop [0, 1, 5] [] (.seq (.seq (.region [⟨some 9, .mv (.t 5), none⟩,
        ⟨some 10, .bin .geq .val (.t 9) (.c (.f (.int .i64 0))), none⟩] none [0, 1, 5, 10])
      (.cond (.t 10) (.skip)
      (.exit 0)))
      (.seq (.block 1 (.seq (.region [⟨some 13, .mv (.t 0), none⟩,
          ⟨some 14, .mv (.t 5), none⟩,
          ⟨some 15, .index 1 none none (.t 13) (.t 14), none⟩,
          ⟨some 16, .mv (.t 1), none⟩,
          ⟨some 17, .bin .eql .val (.t 15) (.t 16), none⟩] none [0, 1, 5, 17])
        (.cond (.t 17) (.seq (.region [⟨some 18, .mv (.t 5), none⟩,
            ⟨some 4, .mv (.t 18), none⟩] none [4])
          (.ret))
        (.skip))))
      (.region [⟨some 11, .mv (.t 5), none⟩,
        ⟨some 12, .bin .sub .val (.t 11) (.c (.f (.int .i64 1))), none⟩,
        ⟨some 5, .mv (.t 12), none⟩] none [0, 1, 5]))))))
  (.seq (.region [⟨some 4, .mv (.c (.f (.int .i64 (-1)))), none⟩] none [4])
  (.ret)))
def B.strings_IndexFunc : AC :=
  .seq (.region [⟨some 4, .mv (.c (.f (.int .i64 0))), none⟩] none [0, 1])
  (.seq (.region [⟨some 5, .mv (.t 0), none⟩,
    ⟨some 6, .mv (.t 1), none⟩,
    ⟨some 7, .call N.strings_indexFunc [(.t 5), (.t 6), (.c (.f (.bool true)))], none⟩,
    ⟨some 4, .mv (.t 7), none⟩] none [4])
  (.ret))
def B.strings_IndexRune : AC :=
  .seq (.region [⟨some 4, .mv (.c (.f (.int .i64 0))), none⟩] none [0, 1])
  (.block 0 (.seq (.region [⟨some 161, .mv (.t 1), none⟩,
      ⟨some 162, .bin .leq .val (.c (.f (.int .i32 0))) (.t 161), none⟩,
      ⟨some 163, .mv (.t 162), none⟩,
      ⟨some 164, .mv (.t 1), some (163, true)⟩,
      ⟨some 165, .bin .lss .val (.t 164) (.c (.f (.int .i32 128))), some (163, true)⟩,
      ⟨some 166, .pick (.t 163) (.t 165) (.c (.f (.bool false))), none⟩,
      ⟨some 160, .mv (.t 166), none⟩] none [0, 1, 160])
    (.cond (.t 160) (.seq (.region [⟨some 167, .mv (.t 0), none⟩,
        ⟨some 168, .mv (.t 1), none⟩,
        ⟨some 169, .conv (.toInt .u8) (.t 168), none⟩,
        ⟨some 170, .call N.strings_IndexByte [(.t 167), (.t 169)], none⟩,
        ⟨some 4, .mv (.t 170), none⟩] none [4])
      (.ret))
    (.seq (.region [⟨some 172, .mv (.t 1), none⟩,
        ⟨some 173, .bin .eql .val (.t 172) (.c (.f (.int .i32 65533))), none⟩,
        ⟨some 171, .mv (.t 173), none⟩] none [0, 1, 171])
      (.cond (.t 171) (.seq (.seq (.region [⟨some 174, .mv (.t 0), none⟩,
          ⟨some 175, .prim .range [(.t 174)], none⟩] none [175])
        (.block 9 (.loop [175] [] (.seq (.region [⟨some 176, .prim .next [(.t 175)], none⟩,
              ⟨some 177, .extr (.t 176) 0, none⟩] none [175, 176, 177])
            (.seq (.cond (.t 177) (.skip)
            (.exit 9))
            (.block 10 (.seq (.region [⟨some 178, .extr (.t 176) 1, none⟩,
                ⟨some 179, .extr (.t 176) 2, none⟩,
                ⟨some 5, .mv (.t 178), none⟩,
                ⟨some 6, .mv (.t 179), none⟩] none [5, 6, 175])
              (.seq (.region [⟨some 180, .mv (.t 6), none⟩,
                ⟨some 181, .bin .eql .val (.t 180) (.c (.f (.int .i32 65533))), none⟩] none [5, 175, 181])
              (.cond (.t 181) (.seq (.region [⟨some 182, .mv (.t 5), none⟩,
                  ⟨some 4, .mv (.t 182), none⟩] none [4])
                (.ret))
              (.skip))))))))))
        (.seq (.region [⟨some 4, .mv (.c (.f (.int .i64 (-1)))), none⟩] none [4])
        (.ret)))
      (.seq (.region [⟨some 184, .mv (.t 1), none⟩,
          ⟨some 185, .call N.unicode_utf8_ValidRune [(.t 184)], none⟩,
          ⟨some 186, .not (.t 185), none⟩,
          ⟨some 183, .mv (.t 186), none⟩] none [0, 1, 183])
        (.cond (.t 183) (.seq (.region [⟨some 4, .mv (.c (.f (.int .i64 (-1)))), none⟩] none [4])
          (.ret))
        (.scope [(1, .seq (.skip)
            (.seq (.cond (.c (.f (.bool true))) (.seq (.region [⟨some 99, .mv (.t 0), none⟩,
                ⟨some 100, .mv (.t 9), none⟩,
                ⟨some 101, .mv (.t 8), none⟩,
                ⟨some 102, .bin .sub .val (.t 100) (.t 101), none⟩,
                ⟨some 103, .slice 0 (.t 99) (some (.t 102)) none none, none⟩,
                ⟨some 104, .mv (.t 1), none⟩,
                ⟨some 105, .conv .strOfInt (.t 104), none⟩,
                ⟨some 106, .call N.ibytealg_IndexString [(.t 103), (.t 105)], none⟩,
                ⟨some 13, .mv (.t 106), none⟩] none [8, 9, 13])
              (.seq (.region [⟨some 107, .mv (.t 13), none⟩,
                ⟨some 108, .bin .geq .val (.t 107) (.c (.f (.int .i64 0))), none⟩] none [8, 9, 13, 108])
              (.cond (.t 108) (.seq (.region [⟨some 109, .mv (.t 9), none⟩,
                  ⟨some 110, .mv (.t 13), none⟩,
                  ⟨some 111, .bin .add .val (.t 109) (.t 110), none⟩,
                  ⟨some 112, .mv (.t 8), none⟩,
                  ⟨some 113, .bin .sub .val (.t 111) (.t 112), none⟩,
                  ⟨some 4, .mv (.t 113), none⟩] none [4])
                (.ret))
              (.skip))))
            (.scope [] (.seq (.region [⟨some 114, .mv (.t 7), none⟩,
                  ⟨some 115, .mv (.t 8), none⟩,
                  ⟨some 116, .index 1 none none (.t 114) (.t 115), none⟩,
                  ⟨some 14, .mv (.t 116), none⟩] none [0, 7, 8, 9, 14])
                (.seq (.region [⟨some 117, .mv (.t 7), none⟩,
                  ⟨some 118, .mv (.t 8), none⟩,
                  ⟨some 119, .bin .sub .val (.t 118) (.c (.f (.int .i64 1))), none⟩,
                  ⟨some 120, .index 1 none none (.t 117) (.t 119), none⟩,
                  ⟨some 15, .mv (.t 120), none⟩] none [0, 7, 8, 9, 14, 15])
                (.seq (.skip)
                (.block 5 (.loop [0, 7, 8, 9, 14, 15] [] (.seq (.seq (.region [⟨some 121, .mv (.t 9), none⟩,
                      ⟨some 122, .mv (.t 0), none⟩,
                      ⟨some 123, .len .str (.t 122), none⟩,
                      ⟨some 124, .bin .lss .val (.t 121) (.t 123), none⟩] none [0, 7, 8, 9, 14, 15, 124])
                    (.cond (.t 124) (.skip)
                    (.exit 5)))
                    (.seq (.block 6 (.seq (.region [⟨some 127, .mv (.t 0), none⟩,
                        ⟨some 128, .mv (.t 9), none⟩,
                        ⟨some 129, .index 1 none none (.t 127) (.t 128), none⟩,
                        ⟨some 130, .mv (.t 14), none⟩,
                        ⟨some 131, .bin .eql .val (.t 129) (.t 130), none⟩,
                        ⟨some 132, .mv (.t 131), none⟩,
                        ⟨some 133, .mv (.t 0), some (132, true)⟩,
                        ⟨some 134, .mv (.t 9), some (132, true)⟩,
                        ⟨some 135, .bin .sub .val (.t 134) (.c (.f (.int .i64 1))), some (132, true)⟩,
                        ⟨some 136, .index 1 none none (.t 133) (.t 135), some (132, true)⟩,
                        ⟨some 137, .mv (.t 15), some (132, true)⟩,
                        ⟨some 138, .bin .eql .val (.t 136) (.t 137), some (132, true)⟩,
                        ⟨some 139, .pick (.t 132) (.t 138) (.c (.f (.bool false))), none⟩] none [0, 7, 8, 9, 14, 15, 139])
                      (.cond (.t 139) (.seq (.seq (.region [⟨some 16, .mv (.c (.f (.int .i64 2))), none⟩] none [0, 7, 8, 9, 14, 15, 16])
                        (.block 7 (.loop [0, 7, 8, 9, 14, 15, 16] [] (.seq (.seq (.region [⟨some 140, .mv (.t 16), none⟩,
                              ⟨some 141, .mv (.t 7), none⟩,
                              ⟨some 142, .len .str (.t 141), none⟩,
                              ⟨some 143, .bin .lss .val (.t 140) (.t 142), none⟩] none [0, 7, 8, 9, 14, 15, 16, 143])
                            (.cond (.t 143) (.skip)
                            (.exit 7)))
                            (.seq (.block 8 (.seq (.region [⟨some 146, .mv (.t 0), none⟩,
                                ⟨some 147, .mv (.t 9), none⟩,
                                ⟨some 148, .mv (.t 16), none⟩,
                                ⟨some 149, .bin .sub .val (.t 147) (.t 148), none⟩,
                                ⟨some 150, .index 1 none none (.t 146) (.t 149), none⟩,
                                ⟨some 151, .mv (.t 7), none⟩,
                                ⟨some 152, .mv (.t 8), none⟩,
                                ⟨some 153, .mv (.t 16), none⟩,
                                ⟨some 154, .bin .sub .val (.t 152) (.t 153), none⟩,
                                ⟨some 155, .index 1 none none (.t 151) (.t 154), none⟩,
                                ⟨some 156, .bin .neq .val (.t 150) (.t 155), none⟩] (some []) [0, 7, 8, 9, 14, 15, 16, 156])
                              (.cond (.t 156) (.exit 6)
                              (.skip))))
                            (.region [⟨some 144, .mv (.t 16), none⟩,
                              ⟨some 145, .bin .add .val (.t 144) (.c (.f (.int .i64 1))), none⟩,
                              ⟨some 16, .mv (.t 145), none⟩] none [0, 7, 8, 9, 14, 15, 16]))))))
                        (.seq (.region [⟨some 157, .mv (.t 9), none⟩,
                          ⟨some 158, .mv (.t 8), none⟩,
                          ⟨some 159, .bin .sub .val (.t 157) (.t 158), none⟩,
                          ⟨some 4, .mv (.t 159), none⟩] none [4])
                        (.ret)))
                      (.skip))))
                    (.region [⟨some 125, .mv (.t 9), none⟩,
                      ⟨some 126, .bin .add .val (.t 125) (.c (.f (.int .i64 1))), none⟩,
                      ⟨some 9, .mv (.t 126), none⟩] none [0, 7, 8, 9, 14, 15]))))))))))
            (.seq (.region [⟨some 4, .mv (.c (.f (.int .i64 (-1)))), none⟩] none [4])
            (.ret))))] (.seq (.region [⟨some 17, .mv (.t 1), none⟩,
              ⟨some 18, .conv .strOfInt (.t 17), none⟩,
              ⟨some 7, .mv (.t 18), none⟩] none [0, 1, 7])
            (.seq (.region [⟨some 19, .mv (.t 7), none⟩,
              ⟨some 20, .len .str (.t 19), none⟩,
              ⟨some 21, .bin .sub .val (.t 20) (.c (.f (.int .i64 1))), none⟩,
              ⟨some 8, .mv (.t 21), none⟩] none [0, 1, 7, 8])
            (.seq (.region [⟨some 22, .mv (.t 8), none⟩,
              ⟨some 9, .mv (.t 22), none⟩] none [0, 1, 7, 8, 9])
            (.seq (.region [⟨some 10, .mv (.c (.f (.int .i64 0))), none⟩] none [0, 1, 7, 8, 9, 10])
            (.seq (.block 1 (.loop [0, 1, 7, 8, 9, 10] [] (.seq (.seq (.region [⟨some 23, .mv (.t 9), none⟩,
                  ⟨some 24, .mv (.t 0), none⟩,
                  ⟨some 25, .len .str (.t 24), none⟩,
                  ⟨some 26, .bin .lss .val (.t 23) (.t 25), none⟩] none [0, 1, 7, 8, 9, 10, 26])
                (.cond (.t 26) (.skip)
                (.exit 1)))
                (.block 2 (.scope [(0, .seq (.skip)
                    (.seq (.region [⟨some 68, .mv (.t 10), none⟩,
                      ⟨some 69, .bin .add .val (.t 68) (.c (.f (.int .i64 1))), none⟩,
                      ⟨some 10, .mv (.t 69), none⟩] none [0, 1, 7, 8, 9, 10])
                    (.seq (.region [⟨some 70, .mv (.t 9), none⟩,
                      ⟨some 71, .bin .add .val (.t 70) (.c (.f (.int .i64 1))), none⟩,
                      ⟨some 9, .mv (.t 71), none⟩] none [0, 1, 7, 8, 9, 10])
                    (.seq (.region [⟨some 72, .mv (.c (.f (.bool true))), none⟩,
                      ⟨some 73, .mv (.t 10), some (72, true)⟩,
                      ⟨some 74, .mv (.t 9), some (72, true)⟩,
                      ⟨some 75, .call N.ibytealg_Cutover [(.t 74)], some (72, true)⟩,
                      ⟨some 76, .bin .gtr .val (.t 73) (.t 75), some (72, true)⟩,
                      ⟨some 77, .pick (.t 72) (.t 76) (.c (.f (.bool false))), none⟩,
                      ⟨some 78, .mv (.t 77), none⟩,
                      ⟨some 79, .mv (.t 9), some (78, true)⟩,
                      ⟨some 80, .mv (.t 0), some (78, true)⟩,
                      ⟨some 81, .len .str (.t 80), some (78, true)⟩,
                      ⟨some 82, .bin .lss .val (.t 79) (.t 81), some (78, true)⟩,
                      ⟨some 83, .pick (.t 78) (.t 82) (.c (.f (.bool false))), none⟩,
                      ⟨some 84, .mv (.t 83), none⟩,
                      ⟨some 85, .mv (.c (.f (.bool false))), some (84, false)⟩,
                      ⟨some 86, .mv (.t 10), some (85, true)⟩,
                      ⟨some 87, .mv (.t 9), some (85, true)⟩,
                      ⟨some 88, .bin .shr .val (.t 87) (.c (.f (.int .u64 4))), some (85, true)⟩,
                      ⟨some 89, .bin .add .val (.c (.f (.int .i64 4))) (.t 88), some (85, true)⟩,
                      ⟨some 90, .bin .geq .val (.t 86) (.t 89), some (85, true)⟩,
                      ⟨some 91, .pick (.t 85) (.t 90) (.c (.f (.bool false))), some (84, false)⟩,
                      ⟨some 92, .mv (.t 91), some (84, false)⟩,
                      ⟨some 93, .mv (.t 9), some (92, true)⟩,
                      ⟨some 94, .mv (.t 0), some (92, true)⟩,
                      ⟨some 95, .len .str (.t 94), some (92, true)⟩,
                      ⟨some 96, .bin .lss .val (.t 93) (.t 95), some (92, true)⟩,
                      ⟨some 97, .pick (.t 92) (.t 96) (.c (.f (.bool false))), some (84, false)⟩,
                      ⟨some 98, .pick (.t 84) (.c (.f (.bool true))) (.t 97), none⟩] none [0, 1, 7, 8, 9, 10, 98])
                    (.cond (.t 98) (.goto 1)
                    (.skip))))))] (.seq (.seq (.region [⟨some 27, .mv (.t 0), none⟩,
                      ⟨some 28, .mv (.t 9), none⟩,
                      ⟨some 29, .index 1 none none (.t 27) (.t 28), none⟩,
                      ⟨some 30, .mv (.t 7), none⟩,
                      ⟨some 31, .mv (.t 8), none⟩,
                      ⟨some 32, .index 1 none none (.t 30) (.t 31), none⟩,
                      ⟨some 33, .bin .neq .val (.t 29) (.t 32), none⟩] (some []) [0, 1, 7, 8, 9, 10, 33])
                    (.cond (.t 33) (.seq (.region [⟨some 34, .mv (.t 0), none⟩,
                        ⟨some 35, .mv (.t 9), none⟩,
                        ⟨some 36, .bin .add .val (.t 35) (.c (.f (.int .i64 1))), none⟩,
                        ⟨some 37, .slice 0 (.t 34) (some (.t 36)) none none, none⟩,
                        ⟨some 38, .mv (.t 7), none⟩,
                        ⟨some 39, .mv (.t 8), none⟩,
                        ⟨some 40, .index 1 none none (.t 38) (.t 39), none⟩,
                        ⟨some 41, .call N.strings_IndexByte [(.t 37), (.t 40)], none⟩,
                        ⟨some 11, .mv (.t 41), none⟩] (some []) [0, 1, 7, 8, 9, 10, 11])
                      (.seq (.seq (.region [⟨some 42, .mv (.t 11), none⟩,
                        ⟨some 43, .bin .lss .val (.t 42) (.c (.f (.int .i64 0))), none⟩] none [0, 1, 7, 8, 9, 10, 11, 43])
                      (.cond (.t 43) (.seq (.region [⟨some 4, .mv (.c (.f (.int .i64 (-1)))), none⟩] none [4])
                        (.ret))
                      (.skip)))
                      (.region [⟨some 44, .mv (.t 9), none⟩,
                        ⟨some 45, .mv (.t 11), none⟩,
                        ⟨some 46, .bin .add .val (.t 45) (.c (.f (.int .i64 1))), none⟩,
                        ⟨some 47, .bin .add .val (.t 44) (.t 46), none⟩,
                        ⟨some 9, .mv (.t 47), none⟩] none [0, 1, 7, 8, 9, 10])))
                    (.skip)))
                    (.seq (.seq (.region [⟨some 12, .mv (.c (.f (.int .i64 1))), none⟩] none [0, 1, 7, 8, 9, 10, 12])
                    (.block 3 (.loop [0, 1, 7, 8, 9, 10, 12] [] (.seq (.seq (.region [⟨some 48, .mv (.t 12), none⟩,
                          ⟨some 49, .mv (.t 7), none⟩,
                          ⟨some 50, .len .str (.t 49), none⟩,
                          ⟨some 51, .bin .lss .val (.t 48) (.t 50), none⟩] none [0, 1, 7, 8, 9, 10, 12, 51])
                        (.cond (.t 51) (.skip)
                        (.exit 3)))
                        (.seq (.block 4 (.seq (.region [⟨some 54, .mv (.t 0), none⟩,
                            ⟨some 55, .mv (.t 9), none⟩,
                            ⟨some 56, .mv (.t 12), none⟩,
                            ⟨some 57, .bin .sub .val (.t 55) (.t 56), none⟩,
                            ⟨some 58, .index 1 none none (.t 54) (.t 57), none⟩,
                            ⟨some 59, .mv (.t 7), none⟩,
                            ⟨some 60, .mv (.t 8), none⟩,
                            ⟨some 61, .mv (.t 12), none⟩,
                            ⟨some 62, .bin .sub .val (.t 60) (.t 61), none⟩,
                            ⟨some 63, .index 1 none none (.t 59) (.t 62), none⟩,
                            ⟨some 64, .bin .neq .val (.t 58) (.t 63), none⟩] (some []) [0, 1, 7, 8, 9, 10, 12, 64])
                          (.cond (.t 64) (.goto 0)
                          (.skip))))
                        (.region [⟨some 52, .mv (.t 12), none⟩,
                          ⟨some 53, .bin .add .val (.t 52) (.c (.f (.int .i64 1))), none⟩,
                          ⟨some 12, .mv (.t 53), none⟩] none [0, 1, 7, 8, 9, 10, 12]))))))
                    (.seq (.seq (.region [⟨some 65, .mv (.t 9), none⟩,
                      ⟨some 66, .mv (.t 8), none⟩,
                      ⟨some 67, .bin .sub .val (.t 65) (.t 66), none⟩,
                      ⟨some 4, .mv (.t 67), none⟩] none [4])
                    (.ret))
                    (.seq (.skip)
                    (.seq (.region [⟨some 68, .mv (.t 10), none⟩,
                      ⟨some 69, .bin .add .val (.t 68) (.c (.f (.int .i64 1))), none⟩,
                      ⟨some 10, .mv (.t 69), none⟩] none [0, 1, 7, 8, 9, 10])
                    (.seq (.region [⟨some 70, .mv (.t 9), none⟩,
                      ⟨some 71, .bin .add .val (.t 70) (.c (.f (.int .i64 1))), none⟩,
                      ⟨some 9, .mv (.t 71), none⟩] none [0, 1, 7, 8, 9, 10])
                    (.seq (.region [⟨some 72, .mv (.c (.f (.bool true))), none⟩,
                      ⟨some 73, .mv (.t 10), some (72, true)⟩,
                      ⟨some 74, .mv (.t 9), some (72, true)⟩,
                      ⟨some 75, .call N.ibytealg_Cutover [(.t 74)], some (72, true)⟩,
                      ⟨some 76, .bin .gtr .val (.t 73) (.t 75), some (72, true)⟩,
                      ⟨some 77, .pick (.t 72) (.t 76) (.c (.f (.bool false))), none⟩,
                      ⟨some 78, .mv (.t 77), none⟩,
                      ⟨some 79, .mv (.t 9), some (78, true)⟩,
                      ⟨some 80, .mv (.t 0), some (78, true)⟩,
                      ⟨some 81, .len .str (.t 80), some (78, true)⟩,
                      ⟨some 82, .bin .lss .val (.t 79) (.t 81), some (78, true)⟩,
                      ⟨some 83, .pick (.t 78) (.t 82) (.c (.f (.bool false))), none⟩,
                      ⟨some 84, .mv (.t 83), none⟩,
                      ⟨some 85, .mv (.c (.f (.bool false))), some (84, false)⟩,
                      ⟨some 86, .mv (.t 10), some (85, true)⟩,
                      ⟨some 87, .mv (.t 9), some (85, true)⟩,
                      ⟨some 88, .bin .shr .val (.t 87) (.c (.f (.int .u64 4))), some (85, true)⟩,
                      ⟨some 89, .bin .add .val (.c (.f (.int .i64 4))) (.t 88), some (85, true)⟩,
                      ⟨some 90, .bin .geq .val (.t 86) (.t 89), some (85, true)⟩,
                      ⟨some 91, .pick (.t 85) (.t 90) (.c (.f (.bool false))), some (84, false)⟩,
                      ⟨some 92, .mv (.t 91), some (84, false)⟩,
                      ⟨some 93, .mv (.t 9), some (92, true)⟩,
                      ⟨some 94, .mv (.t 0), some (92, true)⟩,
                      ⟨some 95, .len .str (.t 94), some (92, true)⟩,
                      ⟨some 96, .bin .lss .val (.t 93) (.t 95), some (92, true)⟩,
                      ⟨some 97, .pick (.t 92) (.t 96) (.c (.f (.bool false))), some (84, false)⟩,
                      ⟨some 98, .pick (.t 84) (.c (.f (.bool true))) (.t 97), none⟩] none [0, 1, 7, 8, 9, 10, 98])
                    (.cond (.t 98) (.goto 1)
                    (.skip))))))))))))))
            (.seq (.seq (.region [⟨some 4, .mv (.c (.f (.int .i64 (-1)))), none⟩] none [4])
            (.ret))
            (.seq (.skip)
            (.seq (.cond (.c (.f (.bool true))) (.seq (.region [⟨some 99, .mv (.t 0), none⟩,
                ⟨some 100, .mv (.t 9), none⟩,
                ⟨some 101, .mv (.t 8), none⟩,
                ⟨some 102, .bin .sub .val (.t 100) (.t 101), none⟩,
                ⟨some 103, .slice 0 (.t 99) (some (.t 102)) none none, none⟩,
                ⟨some 104, .mv (.t 1), none⟩,
                ⟨some 105, .conv .strOfInt (.t 104), none⟩,
                ⟨some 106, .call N.ibytealg_IndexString [(.t 103), (.t 105)], none⟩,
                ⟨some 13, .mv (.t 106), none⟩] none [8, 9, 13])
              (.seq (.region [⟨some 107, .mv (.t 13), none⟩,
                ⟨some 108, .bin .geq .val (.t 107) (.c (.f (.int .i64 0))), none⟩] none [8, 9, 13, 108])
              (.cond (.t 108) (.seq (.region [⟨some 109, .mv (.t 9), none⟩,
                  ⟨some 110, .mv (.t 13), none⟩,
                  ⟨some 111, .bin .add .val (.t 109) (.t 110), none⟩,
                  ⟨some 112, .mv (.t 8), none⟩,
                  ⟨some 113, .bin .sub .val (.t 111) (.t 112), none⟩,
                  ⟨some 4, .mv (.t 113), none⟩] none [4])
                (.ret))
              (.skip))))
            (.scope [] (.seq (.region [⟨some 114, .mv (.t 7), none⟩,
                  ⟨some 115, .mv (.t 8), none⟩,
                  ⟨some 116, .index 1 none none (.t 114) (.t 115), none⟩,
                  ⟨some 14, .mv (.t 116), none⟩] none [0, 7, 8, 9, 14])
                (.seq (.region [⟨some 117, .mv (.t 7), none⟩,
                  ⟨some 118, .mv (.t 8), none⟩,
                  ⟨some 119, .bin .sub .val (.t 118) (.c (.f (.int .i64 1))), none⟩,
                  ⟨some 120, .index 1 none none (.t 117) (.t 119), none⟩,
                  ⟨some 15, .mv (.t 120), none⟩] none [0, 7, 8, 9, 14, 15])
                (.seq (.skip)
                (.block 5 (.loop [0, 7, 8, 9, 14, 15] [] (.seq (.seq (.region [⟨some 121, .mv (.t 9), none⟩,
                      ⟨some 122, .mv (.t 0), none⟩,
                      ⟨some 123, .len .str (.t 122), none⟩,
                      ⟨some 124, .bin .lss .val (.t 121) (.t 123), none⟩] none [0, 7, 8, 9, 14, 15, 124])
                    (.cond (.t 124) (.skip)
                    (.exit 5)))
                    (.seq (.block 6 (.seq (.region [⟨some 127, .mv (.t 0), none⟩,
                        ⟨some 128, .mv (.t 9), none⟩,
                        ⟨some 129, .index 1 none none (.t 127) (.t 128), none⟩,
                        ⟨some 130, .mv (.t 14), none⟩,
                        ⟨some 131, .bin .eql .val (.t 129) (.t 130), none⟩,
                        ⟨some 132, .mv (.t 131), none⟩,
                        ⟨some 133, .mv (.t 0), some (132, true)⟩,
                        ⟨some 134, .mv (.t 9), some (132, true)⟩,
                        ⟨some 135, .bin .sub .val (.t 134) (.c (.f (.int .i64 1))), some (132, true)⟩,
                        ⟨some 136, .index 1 none none (.t 133) (.t 135), some (132, true)⟩,
                        ⟨some 137, .mv (.t 15), some (132, true)⟩,
                        ⟨some 138, .bin .eql .val (.t 136) (.t 137), some (132, true)⟩,
                        ⟨some 139, .pick (.t 132) (.t 138) (.c (.f (.bool false))), none⟩] none [0, 7, 8, 9, 14, 15, 139])
                      (.cond (.t 139) (.seq (.seq (.region [⟨some 16, .mv (.c (.f (.int .i64 2))), none⟩] none [0, 7, 8, 9, 14, 15, 16])
                        (.block 7 (.loop [0, 7, 8, 9, 14, 15, 16] [] (.seq (.seq (.region [⟨some 140, .mv (.t 16), none⟩,
                              ⟨some 141, .mv (.t 7), none⟩,
                              ⟨some 142, .len .str (.t 141), none⟩,
                              ⟨some 143, .bin .lss .val (.t 140) (.t 142), none⟩] none [0, 7, 8, 9, 14, 15, 16, 143])
                            (.cond (.t 143) (.skip)
                            (.exit 7)))
                            (.seq (.block 8 (.seq (.region [⟨some 146, .mv (.t 0), none⟩,
                                ⟨some 147, .mv (.t 9), none⟩,
                                ⟨some 148, .mv (.t 16), none⟩,
                                ⟨some 149, .bin .sub .val (.t 147) (.t 148), none⟩,
                                ⟨some 150, .index 1 none none (.t 146) (.t 149), none⟩,
                                ⟨some 151, .mv (.t 7), none⟩,
                                ⟨some 152, .mv (.t 8), none⟩,
                                ⟨some 153, .mv (.t 16), none⟩,
                                ⟨some 154, .bin .sub .val (.t 152) (.t 153), none⟩,
                                ⟨some 155, .index 1 none none (.t 151) (.t 154), none⟩,
                                ⟨some 156, .bin .neq .val (.t 150) (.t 155), none⟩] (some []) [0, 7, 8, 9, 14, 15, 16, 156])
                              (.cond (.t 156) (.exit 6)
                              (.skip))))
                            (.region [⟨some 144, .mv (.t 16), none⟩,
                              ⟨some 145, .bin .add .val (.t 144) (.c (.f (.int .i64 1))), none⟩,
                              ⟨some 16, .mv (.t 145), none⟩] none [0, 7, 8, 9, 14, 15, 16]))))))
                        (.seq (.region [⟨some 157, .mv (.t 9), none⟩,
                          ⟨some 158, .mv (.t 8), none⟩,
                          ⟨some 159, .bin .sub .val (.t 157) (.t 158), none⟩,
                          ⟨some 4, .mv (.t 159), none⟩] none [4])
                        (.ret)))
                      (.skip))))
                    (.region [⟨some 125, .mv (.t 9), none⟩,
                      ⟨some 126, .bin .add .val (.t 125) (.c (.f (.int .i64 1))), none⟩,
                      ⟨some 9, .mv (.t 126), none⟩] none [0, 7, 8, 9, 14, 15]))))))))))
            (.seq (.region [⟨some 4, .mv (.c (.f (.int .i64 (-1)))), none⟩] none [4])
            (.ret))))))))))))))))))
def B.strings_indexFunc : AC :=
  .seq (.region [⟨some 6, .mv (.c (.f (.int .i64 0))), none⟩] none [0, 1, 2])
  (.seq (.seq (.region [⟨some 9, .mv (.t 0), none⟩,
    ⟨some 10, .prim .range [(.t 9)], none⟩] none [1, 2, 10])
  (.block 0 (.loop [1, 2, 10] [] (.seq (.region [⟨some 11, .prim .next [(.t 10)], none⟩,
        ⟨some 12, .extr (.t 11) 0, none⟩] none [1, 2, 10, 11, 12])
      (.seq (.cond (.t 12) (.skip)
      (.exit 0))
      (.block 1 (.seq (.region [⟨some 13, .extr (.t 11) 1, none⟩,
          ⟨some 14, .extr (.t 11) 2, none⟩,
          ⟨some 7, .mv (.t 13), none⟩,
          ⟨some 8, .mv (.t 14), none⟩] none [1, 2, 7, 8, 10])
        (.seq (.region [⟨some 15, .mv (.t 1), none⟩,
          ⟨some 16, .mv (.t 8), none⟩,
          ⟨some 17, .callv (.t 15) [(.t 16)], none⟩,
          ⟨some 18, .mv (.t 2), none⟩,
          ⟨some 19, .bin .eql .bool (.t 17) (.t 18), none⟩] none [1, 2, 7, 10, 19])
        (.cond (.t 19) (.seq (.region [⟨some 20, .mv (.t 7), none⟩,
            ⟨some 6, .mv (.t 20), none⟩] none [6])
          (.ret))
        (.skip))))))))))
  (.seq (.region [⟨some 6, .mv (.c (.f (.int .i64 (-1)))), none⟩] none [6])
  (.ret)))
def C.cantonlaw13_ShardDecides : AFun := ⟨3, [.tmp 6], true, B.cantonlaw13_ShardDecides⟩
def C.cantonlaw13_head : AFun := ⟨0, [.tmp 0], true, B.cantonlaw13_head⟩
def C.cantonlaw13_root : AFun := ⟨0, [.tmp 0], true, B.cantonlaw13_root⟩
def C.shard_Shard_Do : AFun := ⟨2, [.cell 4 (some 10)], true, B.shard_Shard_Do⟩
def C.shard_Shard_Store : AFun := ⟨1, [.cell 2 (some 2)], true, B.shard_Shard_Store⟩
def C.cantonlaw13_create : AFun := ⟨1, [.tmp 2], true, B.cantonlaw13_create⟩
def C.shard_Shard_Ranges : AFun := ⟨1, [.tmp 2], true, B.shard_Shard_Ranges⟩
def C.shard_Shard_Holds : AFun := ⟨1, [.tmp 2], true, B.shard_Shard_Holds⟩
def C.shard_New : AFun := ⟨2, [.tmp 4], true, B.shard_New⟩
def C.shard_Shard_run : AFun := ⟨2, [.cell 4 (some 10)], true, B.shard_Shard_run⟩
def C.shard_Shard_prepare : AFun := ⟨2, [.cell 4 (some 10)], true, B.shard_Shard_prepare⟩
def C.shard_Shard_finish : AFun := ⟨2, [.cell 4 (some 10)], true, B.shard_Shard_finish⟩
def C.shard_Shard_decide : AFun := ⟨2, [.cell 4 (some 10)], true, B.shard_Shard_decide⟩
def C.shard_Shard_freeze : AFun := ⟨2, [.cell 4 (some 10)], true, B.shard_Shard_freeze⟩
def C.command_Right : AFun := ⟨1, [.tmp 2], true, B.command_Right⟩
def C.shard_failed : AFun := ⟨1, [.cell 2 (some 10)], true, B.shard_failed⟩
def C.shard_Shard_once : AFun := ⟨3, [.cell 6 (some 10)], true, B.shard_Shard_once⟩
def C.multi_Of : AFun := ⟨1, [.tmp 2], true, B.multi_Of⟩
def C.part_Right : AFun := ⟨1, [.tmp 2], true, B.part_Right⟩
def C.owned_Right : AFun := ⟨1, [.tmp 2], true, B.owned_Right⟩
def C.locks_Dirs : AFun := ⟨1, [.tmp 2], true, B.locks_Dirs⟩
def C.slices_ContainsFunc_string : AFun := ⟨2, [.tmp 4], true, B.slices_ContainsFunc_string⟩
def C.shard_Shard_run_c1 : AFun := ⟨2, [.tmp 3], true, B.shard_Shard_run_c1⟩
def C.locks_Held : AFun := ⟨2, [.tmp 4, .tmp 5], true, B.locks_Held⟩
def C.shard_Shard_where : AFun := ⟨2, [.tmp 4], true, B.shard_Shard_where⟩
def C.shard_Shard_all : AFun := ⟨2, [.cell 4 (some 10)], true, B.shard_Shard_all⟩
def C.locks_Take : AFun := ⟨4, [.tmp 8, .tmp 9, .tmp 10], true, B.locks_Take⟩
def C.multi_All : AFun := ⟨2, [.cell 4 (some 2), .tmp 5, .tmp 6, .tmp 7], true, B.multi_All⟩
def C.locks_Free : AFun := ⟨2, [.tmp 4], true, B.locks_Free⟩
def C.shard_Shard_find : AFun := ⟨2, [.cell 4 (some 3), .tmp 5], true, B.shard_Shard_find⟩
def C.owned_Freeze : AFun := ⟨2, [.tmp 4, .tmp 5], false, B.owned_Freeze⟩
def C.owned_Of : AFun := ⟨2, [.tmp 4], true, B.owned_Of⟩
def C.shard_Shard_held : AFun := ⟨3, [.tmp 6], true, B.shard_Shard_held⟩
def C.owned_Cut : AFun := ⟨3, [.cell 6 (some 2), .cell 7 (some 2)], false, B.owned_Cut⟩
def C.strings_Compare : AFun := ⟨2, [.tmp 4], true, B.strings_Compare⟩
def C.part_May : AFun := ⟨1, [.tmp 2], true, B.part_May⟩
def C.path_In : AFun := ⟨2, [.tmp 4], true, B.path_In⟩
def C.command_number : AFun := ⟨1, [.tmp 2], true, B.command_number⟩
def C.command_empty : AFun := ⟨1, [.tmp 2], true, B.command_empty⟩
def C.multi_May : AFun := ⟨1, [.tmp 2], true, B.multi_May⟩
def C.part_Of : AFun := ⟨1, [.tmp 2], true, B.part_Of⟩
def C.slices_ContainsFunc_Node : AFun := ⟨2, [.tmp 4], true, B.slices_ContainsFunc_Node⟩
def C.part_Right_c1 : AFun := ⟨1, [.tmp 2], true, B.part_Right_c1⟩
def C.part_fields : AFun := ⟨5, [.tmp 10], true, B.part_fields⟩
def C.slices_ContainsFunc_Turn : AFun := ⟨2, [.tmp 4], true, B.slices_ContainsFunc_Turn⟩
def C.path_Right : AFun := ⟨1, [.tmp 2], true, B.path_Right⟩
def C.part_within : AFun := ⟨3, [.tmp 6], true, B.part_within⟩
def C.part_rising_Node : AFun := ⟨2, [.tmp 4], true, B.part_rising_Node⟩
def C.part_Right_c3 : AFun := ⟨1, [.tmp 2], true, B.part_Right_c3⟩
def C.part_rising_Turn : AFun := ⟨2, [.tmp 4], true, B.part_rising_Turn⟩
def C.slices_Sort_string : AFun := ⟨1, [], true, B.slices_Sort_string⟩
def C.slices_Compact_string : AFun := ⟨1, [.tmp 2], false, B.slices_Compact_string⟩
def C.slices_IndexFunc_string : AFun := ⟨2, [.tmp 4], true, B.slices_IndexFunc_string⟩
def C.slices_IndexFunc_Hold : AFun := ⟨2, [.tmp 4], true, B.slices_IndexFunc_Hold⟩
def C.locks_Held_c1 : AFun := ⟨2, [.tmp 3], true, B.locks_Held_c1⟩
def C.shard_Shard_where_c1 : AFun := ⟨3, [.tmp 4], true, B.shard_Shard_where_c1⟩
def C.shard_Shard_where_c1_c1 : AFun := ⟨3, [.tmp 4], true, B.shard_Shard_where_c1_c1⟩
def C.owned_State : AFun := ⟨2, [.tmp 4], true, B.owned_State⟩
def C.shard_Shard_tell : AFun := ⟨3, [], true, B.shard_Shard_tell⟩
def C.locks_Take_c1 : AFun := ⟨1, [.tmp 2], true, B.locks_Take_c1⟩
def C.slices_ContainsFunc_Hold : AFun := ⟨2, [.tmp 4], true, B.slices_ContainsFunc_Hold⟩
def C.locks_Right : AFun := ⟨1, [.tmp 2], true, B.locks_Right⟩
def C.locks_number : AFun := ⟨1, [.tmp 2], true, B.locks_number⟩
def C.slices_BinarySearchFunc_Hold : AFun := ⟨3, [.tmp 6, .tmp 7], true, B.slices_BinarySearchFunc_Hold⟩
def C.locks_Take_c3 : AFun := ⟨2, [.tmp 4], true, B.locks_Take_c3⟩
def C.part_Do : AFun := ⟨2, [.cell 4 (some 2), .cell 5 (some 5)], true, B.part_Do⟩
def C.slices_DeleteFunc_Hold : AFun := ⟨2, [.tmp 4], false, B.slices_DeleteFunc_Hold⟩
def C.locks_Free_c1 : AFun := ⟨2, [.tmp 3], true, B.locks_Free_c1⟩
def C.slices_IndexFunc_Range : AFun := ⟨2, [.tmp 4], true, B.slices_IndexFunc_Range⟩
def C.shard_Shard_find_c1 : AFun := ⟨2, [.tmp 3], true, B.shard_Shard_find_c1⟩
def C.owned_put : AFun := ⟨2, [.tmp 4, .tmp 5], false, B.owned_put⟩
def C.owned_Cut_c1 : AFun := ⟨3, [.tmp 4], false, B.owned_Cut_c1⟩
def C.owned_parted_Node : AFun := ⟨2, [.tmp 4, .tmp 5], false, B.owned_parted_Node⟩
def C.owned_Cut_c2 : AFun := ⟨2, [.tmp 3], false, B.owned_Cut_c2⟩
def C.path_Parent : AFun := ⟨1, [.tmp 2, .tmp 3], true, B.path_Parent⟩
def C.owned_parted_Turn : AFun := ⟨2, [.tmp 4, .tmp 5], false, B.owned_parted_Turn⟩
def C.owned_find : AFun := ⟨2, [.tmp 4, .tmp 5], true, B.owned_find⟩
def C.slices_BinarySearchFunc_Range : AFun := ⟨3, [.tmp 6, .tmp 7], true, B.slices_BinarySearchFunc_Range⟩
def C.math_bits_Len : AFun := ⟨1, [.tmp 2], true, B.math_bits_Len⟩
def C.ibytealg_CompareString : AFun := ⟨2, [.tmp 4], true, B.ibytealg_CompareString⟩
def C.watch_Right : AFun := ⟨1, [.tmp 2], true, B.watch_Right⟩
def C.part_up : AFun := ⟨1, [.tmp 2], true, B.part_up⟩
def C.strings_CutPrefix : AFun := ⟨2, [.tmp 4, .tmp 5], true, B.strings_CutPrefix⟩
def C.strings_TrimSuffix : AFun := ⟨2, [.tmp 4], true, B.strings_TrimSuffix⟩
def C.slices_ContainsFunc_Op : AFun := ⟨2, [.tmp 4], true, B.slices_ContainsFunc_Op⟩
def C.multi_May_c1 : AFun := ⟨1, [.tmp 2], true, B.multi_May_c1⟩
def C.nodes_May : AFun := ⟨1, [.tmp 2], true, B.nodes_May⟩
def C.part_Of_c1 : AFun := ⟨2, [], true, B.part_Of_c1⟩
def C.part_Of_c2 : AFun := ⟨3, [.cell 4 (some 7)], true, B.part_Of_c2⟩
def C.slices_IndexFunc_Node : AFun := ⟨2, [.tmp 4], true, B.slices_IndexFunc_Node⟩
def C.slices_IndexFunc_Turn : AFun := ⟨2, [.tmp 4], true, B.slices_IndexFunc_Turn⟩
def C.path_Split : AFun := ⟨1, [.tmp 2, .tmp 3], true, B.path_Split⟩
def C.slices_pdqsortOrdered_string : AFun := ⟨4, [], true, B.slices_pdqsortOrdered_string⟩
def C.shard_Shard_happen : AFun := ⟨3, [], true, B.shard_Shard_happen⟩
def C.part_work_guard : AFun := ⟨2, [], true, B.part_work_guard⟩
def C.part_work_put : AFun := ⟨2, [], true, B.part_work_put⟩
def C.path_cut : AFun := ⟨1, [.tmp 2, .tmp 3, .tmp 4], true, B.path_cut⟩
def C.owned_find_c1 : AFun := ⟨2, [.tmp 4], true, B.owned_find_c1⟩
def C.math_bits_Len64 : AFun := ⟨1, [.tmp 2], true, B.math_bits_Len64⟩
def C.watch_all_Watch : AFun := ⟨2, [.tmp 4], true, B.watch_all_Watch⟩
def C.watch_all_Session : AFun := ⟨2, [.tmp 4], true, B.watch_all_Session⟩
def C.slices_IndexFunc_Watch : AFun := ⟨2, [.tmp 4], true, B.slices_IndexFunc_Watch⟩
def C.istringslite_CutPrefix : AFun := ⟨2, [.tmp 4, .tmp 5], true, B.istringslite_CutPrefix⟩
def C.istringslite_TrimSuffix : AFun := ⟨2, [.tmp 4], true, B.istringslite_TrimSuffix⟩
def C.slices_IndexFunc_Op : AFun := ⟨2, [.tmp 4], true, B.slices_IndexFunc_Op⟩
def C.nodes_within : AFun := ⟨2, [.tmp 4], true, B.nodes_within⟩
def C.nodes_named : AFun := ⟨0, [.cell 0 (some 8)], true, B.nodes_named⟩
def C.strings_IndexByte : AFun := ⟨2, [.tmp 4], true, B.strings_IndexByte⟩
def C.path_part : AFun := ⟨1, [.tmp 2], true, B.path_part⟩
def C.slices_insertionSortOrdered_string : AFun := ⟨3, [], true, B.slices_insertionSortOrdered_string⟩
def C.cmp_Less_string : AFun := ⟨2, [.tmp 4], true, B.cmp_Less_string⟩
def C.watch_Tell : AFun := ⟨3, [.cell 6 (some 2), .tmp 7], true, B.watch_Tell⟩
def C.part_work_node : AFun := ⟨2, [.tmp 4], true, B.part_work_node⟩
def C.part_work_where : AFun := ⟨2, [.tmp 4, .tmp 5], true, B.part_work_where⟩
def C.strings_LastIndexByte : AFun := ⟨2, [.tmp 4], true, B.strings_LastIndexByte⟩
def C.slices_ContainsFunc_Watch : AFun := ⟨2, [.tmp 4], true, B.slices_ContainsFunc_Watch⟩
def C.slices_ContainsFunc_Session : AFun := ⟨2, [.tmp 4], true, B.slices_ContainsFunc_Session⟩
def C.istringslite_HasPrefix : AFun := ⟨2, [.tmp 4], true, B.istringslite_HasPrefix⟩
def C.istringslite_HasSuffix : AFun := ⟨2, [.tmp 4], true, B.istringslite_HasSuffix⟩
def C.istringslite_IndexByte : AFun := ⟨2, [.tmp 4], true, B.istringslite_IndexByte⟩
def C.strings_ContainsFunc : AFun := ⟨2, [.tmp 4], true, B.strings_ContainsFunc⟩
def C.path_part_c1 : AFun := ⟨1, [.tmp 2], true, B.path_part_c1⟩
def C.strings_ContainsRune : AFun := ⟨2, [.tmp 4], true, B.strings_ContainsRune⟩
def C.cmp_isNaN_string : AFun := ⟨1, [.tmp 2], true, B.cmp_isNaN_string⟩
def C.slices_DeleteFunc_Watch : AFun := ⟨2, [.tmp 4], false, B.slices_DeleteFunc_Watch⟩
def C.slices_BinarySearchFunc_Node : AFun := ⟨3, [.tmp 6, .tmp 7], true, B.slices_BinarySearchFunc_Node⟩
def C.part_work_where_c1 : AFun := ⟨2, [.tmp 4], true, B.part_work_where_c1⟩
def C.ibytealg_LastIndexByteString : AFun := ⟨2, [.tmp 4], true, B.ibytealg_LastIndexByteString⟩
def C.slices_IndexFunc_Session : AFun := ⟨2, [.tmp 4], true, B.slices_IndexFunc_Session⟩
def C.strings_IndexFunc : AFun := ⟨2, [.tmp 4], true, B.strings_IndexFunc⟩
def C.strings_IndexRune : AFun := ⟨2, [.tmp 4], true, B.strings_IndexRune⟩
def C.strings_indexFunc : AFun := ⟨3, [.tmp 6], true, B.strings_indexFunc⟩
end Go.Ab
