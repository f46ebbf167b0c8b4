/- Plain forms of Go functions, printed by a program of this repo; checked against the given program by the kernel. No condition. -/
import Derived.Test.YtjbomlnpngnjfaaGreatL0
import Derived.Test.YtjbomlnpngnjfaaGreatProg
import Derived.KernelRfl
namespace Go.Proofs.YtjbomlnpngnjfaaGreat.Pv
open Go
abbrev fn_laws_szChunk : FuncId := 115
abbrev fn_laws_szChunkS : FuncId := 112
abbrev fn_laws_szHead : FuncId := 203
abbrev fn_laws_szHeadS : FuncId := 165
abbrev fn_laws_szLastS : FuncId := 166
abbrev fn_laws_szEntry : FuncId := 114
abbrev fn_laws_szEntryS : FuncId := 167
abbrev fn_laws_szPgState : FuncId := 108
abbrev fn_laws_szPgStateS : FuncId := 67
abbrev fn_laws_szStore : FuncId := 15
abbrev fn_laws_szInt64S : FuncId := 34
abbrev fn_laws_szInterval : FuncId := 168
abbrev fn_laws_szIntervalS : FuncId := 109
abbrev fn_laws_szNotice : FuncId := 169
abbrev fn_laws_szNoticeS : FuncId := 110
abbrev fn_laws_szFill : FuncId := 170
abbrev fn_laws_szFillS : FuncId := 111
abbrev fn_laws_szWay : FuncId := 204
abbrev fn_laws_szWayS : FuncId := 171
abbrev fn_laws_szAckS : FuncId := 172
abbrev fn_laws_szGot : FuncId := 224
abbrev fn_laws_szGotS : FuncId := 221
abbrev fn_laws_szWait : FuncId := 205
abbrev fn_laws_szWaitS : FuncId := 173
abbrev fn_laws_szLine : FuncId := 113
abbrev fn_laws_szLead : FuncId := 68
abbrev fn_laws_szLeadS : FuncId := 16
abbrev fn_laws_szOp : FuncId := 116
abbrev fn_laws_szMsg : FuncId := 69
abbrev fn_laws_szMsgS : FuncId := 17
abbrev fn_laws_szServer : FuncId := 5
abbrev fn_spec_l25SameState : FuncId := 70
abbrev fn_spec_l30SameStates : FuncId := 18
abbrev fn_spec_l00Same : FuncId := 40
abbrev fn_spec_l27SameIvs : FuncId := 71
abbrev fn_spec_l27SameNotices : FuncId := 72
abbrev fn_spec_l25SameWait : FuncId := 117
abbrev fn_spec_SameLine : FuncId := 73
abbrev fn_spec_SameLead : FuncId := 19
abbrev fn_spec_l17Same : FuncId := 118
abbrev fn_spec_MsgSame : FuncId := 74
abbrev fn_spec_l30SameMsgs : FuncId := 20
abbrev fn_spec_SameServer : FuncId := 6
abbrev fn_laws_toPg : FuncId := 120
abbrev fn_laws_toVer : FuncId := 127
abbrev fn_laws_toChunk : FuncId := 129
abbrev fn_laws_toChunkS : FuncId := 125
abbrev fn_laws_toHead : FuncId := 206
abbrev fn_laws_toHeadS : FuncId := 174
abbrev fn_laws_toLast : FuncId := 207
abbrev fn_laws_toLastS : FuncId := 175
abbrev fn_laws_toReq : FuncId := 131
abbrev fn_laws_toEntry : FuncId := 128
abbrev fn_laws_toEntryS : FuncId := 176
abbrev fn_laws_toPgState : FuncId := 119
abbrev fn_laws_toPgStateS : FuncId := 75
abbrev fn_laws_toStore : FuncId := 21
abbrev fn_laws_toInt64S : FuncId := 45
abbrev fn_laws_toCode : FuncId := 121
abbrev fn_laws_toInterval : FuncId := 177
abbrev fn_laws_toIntervalS : FuncId := 122
abbrev fn_laws_toNotice : FuncId := 178
abbrev fn_laws_toNoticeS : FuncId := 123
abbrev fn_laws_toFill : FuncId := 179
abbrev fn_laws_toFillS : FuncId := 124
abbrev fn_laws_toWay : FuncId := 208
abbrev fn_laws_toWayS : FuncId := 180
abbrev fn_laws_toAck : FuncId := 209
abbrev fn_laws_toAckS : FuncId := 181
abbrev fn_laws_toGot : FuncId := 225
abbrev fn_laws_toGotS : FuncId := 222
abbrev fn_laws_toWait : FuncId := 210
abbrev fn_laws_toWaitS : FuncId := 182
abbrev fn_laws_toLine : FuncId := 126
abbrev fn_laws_toLead : FuncId := 76
abbrev fn_laws_toLeadS : FuncId := 22
abbrev fn_laws_toOp : FuncId := 130
abbrev fn_laws_toMsg : FuncId := 77
abbrev fn_laws_toMsgS : FuncId := 23
abbrev fn_laws_toServer : FuncId := 7
abbrev fn_Eq_impl_Chunk : FuncId := 85
abbrev fn_Eq_impl_Head : FuncId := 133
abbrev fn_Eq_impl_Last : FuncId := 134
abbrev fn_Eq_impl_Entry : FuncId := 135
abbrev fn_impl_sameState : FuncId := 83
abbrev fn_EqF_impl_PgState : FuncId := 132
abbrev fn_impl_sameStates : FuncId := 78
abbrev fn_impl_SameStore : FuncId := 24
abbrev fn_EqF_impl_Lead : FuncId := 25
abbrev fn_Eq_int64 : FuncId := 54
abbrev fn_EqF_impl_Interval : FuncId := 79
abbrev fn_impl_sameInterval : FuncId := 80
abbrev fn_EqF_impl_Notice : FuncId := 81
abbrev fn_impl_sameNotice : FuncId := 82
abbrev fn_Eq_impl_Fill : FuncId := 84
abbrev fn_Eq_impl_Way : FuncId := 136
abbrev fn_Eq_impl_Ack : FuncId := 137
abbrev fn_EqF_impl_Wait : FuncId := 138
abbrev fn_Eq_impl_Got : FuncId := 183
abbrev fn_impl_sameWait : FuncId := 139
abbrev fn_impl_SameLine : FuncId := 86
abbrev fn_impl_SameLead : FuncId := 26
abbrev fn_EqF_impl_Msg : FuncId := 27
abbrev fn_impl_MsgSame : FuncId := 28
abbrev fn_impl_SameServer : FuncId := 8
abbrev fn_laws_eqPg : FuncId := 141
abbrev fn_laws_eqVer : FuncId := 148
abbrev fn_laws_eqChunk : FuncId := 150
abbrev fn_laws_eqChunkS : FuncId := 146
abbrev fn_laws_eqHead : FuncId := 211
abbrev fn_laws_eqHeadS : FuncId := 184
abbrev fn_laws_eqLast : FuncId := 212
abbrev fn_laws_eqLastS : FuncId := 185
abbrev fn_laws_eqReq : FuncId := 152
abbrev fn_laws_eqEntry : FuncId := 149
abbrev fn_laws_eqEntryS : FuncId := 186
abbrev fn_laws_eqPgState : FuncId := 140
abbrev fn_laws_eqPgStateS : FuncId := 87
abbrev fn_laws_eqStore : FuncId := 29
abbrev fn_laws_eqInt64S : FuncId := 61
abbrev fn_laws_eqCode : FuncId := 142
abbrev fn_laws_eqInterval : FuncId := 187
abbrev fn_laws_eqIntervalS : FuncId := 143
abbrev fn_laws_eqNotice : FuncId := 188
abbrev fn_laws_eqNoticeS : FuncId := 144
abbrev fn_laws_eqFill : FuncId := 189
abbrev fn_laws_eqFillS : FuncId := 145
abbrev fn_laws_eqWay : FuncId := 213
abbrev fn_laws_eqWayS : FuncId := 190
abbrev fn_laws_eqAck : FuncId := 214
abbrev fn_laws_eqAckS : FuncId := 191
abbrev fn_laws_eqGot : FuncId := 226
abbrev fn_laws_eqGotS : FuncId := 223
abbrev fn_laws_eqWait : FuncId := 215
abbrev fn_laws_eqWaitS : FuncId := 192
abbrev fn_laws_eqLine : FuncId := 147
abbrev fn_laws_eqLead : FuncId := 88
abbrev fn_laws_eqLeadS : FuncId := 30
abbrev fn_laws_eqOp : FuncId := 151
abbrev fn_laws_eqMsg : FuncId := 89
abbrev fn_laws_eqMsgS : FuncId := 31
abbrev fn_laws_eqServer : FuncId := 9
abbrev fn_laws_FnExactSameServer : FuncId := 3
abbrev ty_int64 : TypeId := 2
abbrev ty_impl_PgState : TypeId := 83
abbrev ty_impl_Lead : TypeId := 91
abbrev ty_impl_Entry : TypeId := 102
abbrev ty_impl_Chunk : TypeId := 104
abbrev ty_impl_Msg : TypeId := 108
abbrev ty_laws_PgState : TypeId := 166
abbrev ty_laws_Lead : TypeId := 174
abbrev ty_laws_Entry : TypeId := 178
abbrev ty_laws_Chunk : TypeId := 180
abbrev ty_laws_Msg : TypeId := 183
abbrev ty_impl_Head : TypeId := 189
abbrev ty_impl_Fill : TypeId := 191
abbrev ty_impl_Interval : TypeId := 197
abbrev ty_impl_Notice : TypeId := 201
abbrev ty_impl_Last : TypeId := 251
abbrev ty_impl_Way : TypeId := 253
abbrev ty_impl_Ack : TypeId := 255
abbrev ty_impl_Wait : TypeId := 259
abbrev ty_laws_Interval : TypeId := 304
abbrev ty_laws_Notice : TypeId := 307
abbrev ty_laws_Head : TypeId := 310
abbrev ty_laws_Fill : TypeId := 312
abbrev ty_impl_Got : TypeId := 317
abbrev ty_laws_Way : TypeId := 345
abbrev ty_laws_Wait : TypeId := 349
abbrev ty_laws_Last : TypeId := 353
abbrev ty_laws_Ack : TypeId := 357
abbrev ty_laws_Got : TypeId := 373
def pf_laws_szChunk : PF := ⟨[.val, .val], [0, 1, 2], (.seq (.reg [⟨some 2, .box (.t 0) 6, none, 0⟩,
  ⟨some 4, .mov (.k (.int .i64 0)), none, 0⟩]) (.seq (.reg [⟨some 5, .mov (.t 1), none, 0⟩,
  ⟨some 6, .flda 0 (.t 2), none, 0⟩,
  ⟨some 7, .load 1 false (.t 6), none, 0⟩,
  ⟨some 8, .len false (.t 7), none, 0⟩,
  ⟨some 9, .bin .sub 0 (.t 5) (.t 8), none, 0⟩,
  ⟨some 1, .mov (.t 9), none, 0⟩]) (.seq (.seq (.reg [⟨some 10, .mov (.t 1), none, 0⟩,
  ⟨some 11, .bin .lss 0 (.t 10) (.k (.int .i64 0)), none, 0⟩]) (.cond (.t 11) (.seq (.reg [⟨some 4, .mov (.k (.int .i64 (-1))), none, 0⟩]) .ret) .skip)) (.seq (.reg [⟨some 12, .mov (.t 1), none, 0⟩,
  ⟨some 13, .flda 5 (.t 2), none, 0⟩,
  ⟨some 14, .load 1 false (.t 13), none, 0⟩,
  ⟨some 15, .len false (.t 14), none, 0⟩,
  ⟨some 16, .bin .sub 0 (.t 12) (.t 15), none, 0⟩,
  ⟨some 1, .mov (.t 16), none, 0⟩]) (.seq (.seq (.reg [⟨some 17, .mov (.t 1), none, 0⟩,
  ⟨some 18, .bin .lss 0 (.t 17) (.k (.int .i64 0)), none, 0⟩]) (.cond (.t 18) (.seq (.reg [⟨some 4, .mov (.k (.int .i64 (-1))), none, 0⟩]) .ret) .skip)) (.seq (.reg [⟨some 19, .mov (.t 1), none, 0⟩,
  ⟨some 4, .mov (.t 19), none, 0⟩]) .ret)))))),
  [(4, none)]⟩
def pf_laws_szChunkS : PF := szSF ty_laws_Chunk 6 fn_laws_szChunk
def pf_laws_szHead : PF := ⟨[.val, .val], [0, 1], (.seq (.reg [⟨some 2, .box (.t 0) 5, none, 0⟩,
  ⟨some 4, .mov (.k (.int .i64 0)), none, 0⟩]) (.seq (.reg [⟨some 5, .mov (.t 1), none, 0⟩,
  ⟨some 6, .flda 0 (.t 2), none, 0⟩,
  ⟨some 7, .load 1 false (.t 6), none, 0⟩,
  ⟨some 8, .len false (.t 7), none, 0⟩,
  ⟨some 9, .bin .sub 0 (.t 5) (.t 8), none, 0⟩,
  ⟨some 1, .mov (.t 9), none, 0⟩]) (.seq (.seq (.reg [⟨some 10, .mov (.t 1), none, 0⟩,
  ⟨some 11, .bin .lss 0 (.t 10) (.k (.int .i64 0)), none, 0⟩]) (.cond (.t 11) (.seq (.reg [⟨some 4, .mov (.k (.int .i64 (-1))), none, 0⟩]) .ret) .skip)) (.seq (.reg [⟨some 12, .mov (.t 1), none, 0⟩,
  ⟨some 4, .mov (.t 12), none, 0⟩]) .ret)))),
  [(4, none)]⟩
def pf_laws_szHeadS : PF := szSF ty_laws_Head 5 fn_laws_szHead
def pf_laws_szLastS : PF := szS0F
def pf_laws_szEntry : PF := ⟨[.val, .val], [0, 1], (.seq (.reg [⟨some 2, .box (.t 0) 10, none, 0⟩,
  ⟨some 4, .mov (.k (.int .i64 0)), none, 0⟩]) (.seq (.reg [⟨some 5, .mov (.t 1), none, 0⟩,
  ⟨some 6, .flda 4 (.t 2), none, 0⟩,
  ⟨some 7, .load 1 false (.t 6), none, 0⟩,
  ⟨some 8, .len false (.t 7), none, 0⟩,
  ⟨some 9, .bin .sub 0 (.t 5) (.t 8), none, 0⟩,
  ⟨some 1, .mov (.t 9), none, 0⟩]) (.seq (.seq (.reg [⟨some 10, .mov (.t 1), none, 0⟩,
  ⟨some 11, .bin .lss 0 (.t 10) (.k (.int .i64 0)), none, 0⟩]) (.cond (.t 11) (.seq (.reg [⟨some 4, .mov (.k (.int .i64 (-1))), none, 0⟩]) .ret) .skip)) (.seq (.reg [⟨some 12, .mov (.t 1), none, 0⟩,
  ⟨some 4, .mov (.t 12), none, 0⟩]) .ret)))),
  [(4, none)]⟩
def pf_laws_szEntryS : PF := szSF ty_laws_Entry 10 fn_laws_szEntry
def pf_laws_szPgState : PF := ⟨[.val, .val], [0, 1, 2], (.seq (.reg [⟨some 2, .box (.t 0) 12, none, 0⟩,
  ⟨some 4, .mov (.k (.int .i64 0)), none, 0⟩]) (.seq (.reg [⟨some 5, .flda 6 (.t 2), none, 0⟩,
  ⟨some 6, .load 1 false (.t 5), none, 0⟩,
  ⟨some 7, .mov (.t 1), none, 0⟩,
  ⟨some 8, .call fn_laws_szHeadS [.t 6, .t 7], none, 0⟩,
  ⟨some 1, .mov (.t 8), none, 0⟩]) (.seq (.seq (.reg [⟨some 9, .mov (.t 1), none, 0⟩,
  ⟨some 10, .bin .lss 0 (.t 9) (.k (.int .i64 0)), none, 0⟩]) (.cond (.t 10) (.seq (.reg [⟨some 4, .mov (.k (.int .i64 (-1))), none, 0⟩]) .ret) .skip)) (.seq (.reg [⟨some 11, .flda 7 (.t 2), none, 0⟩,
  ⟨some 12, .load 1 false (.t 11), none, 0⟩,
  ⟨some 13, .mov (.t 1), none, 0⟩,
  ⟨some 14, .call fn_laws_szLastS [.t 12, .t 13], none, 0⟩,
  ⟨some 1, .mov (.t 14), none, 0⟩]) (.seq (.seq (.reg [⟨some 15, .mov (.t 1), none, 0⟩,
  ⟨some 16, .bin .lss 0 (.t 15) (.k (.int .i64 0)), none, 0⟩]) (.cond (.t 16) (.seq (.reg [⟨some 4, .mov (.k (.int .i64 (-1))), none, 0⟩]) .ret) .skip)) (.seq (.reg [⟨some 17, .flda 8 (.t 2), none, 0⟩,
  ⟨some 18, .load 1 false (.t 17), none, 0⟩,
  ⟨some 19, .mov (.t 1), none, 0⟩,
  ⟨some 20, .call fn_laws_szEntryS [.t 18, .t 19], none, 0⟩,
  ⟨some 1, .mov (.t 20), none, 0⟩]) (.seq (.seq (.reg [⟨some 21, .mov (.t 1), none, 0⟩,
  ⟨some 22, .bin .lss 0 (.t 21) (.k (.int .i64 0)), none, 0⟩]) (.cond (.t 22) (.seq (.reg [⟨some 4, .mov (.k (.int .i64 (-1))), none, 0⟩]) .ret) .skip)) (.seq (.reg [⟨some 23, .flda 11 (.t 2), none, 0⟩,
  ⟨some 24, .load 1 false (.t 23), none, 0⟩,
  ⟨some 25, .mov (.t 1), none, 0⟩,
  ⟨some 26, .call fn_laws_szChunkS [.t 24, .t 25], none, 0⟩,
  ⟨some 1, .mov (.t 26), none, 0⟩]) (.seq (.seq (.reg [⟨some 27, .mov (.t 1), none, 0⟩,
  ⟨some 28, .bin .lss 0 (.t 27) (.k (.int .i64 0)), none, 0⟩]) (.cond (.t 28) (.seq (.reg [⟨some 4, .mov (.k (.int .i64 (-1))), none, 0⟩]) .ret) .skip)) (.seq (.reg [⟨some 29, .mov (.t 1), none, 0⟩,
  ⟨some 4, .mov (.t 29), none, 0⟩]) .ret)))))))))),
  [(4, none)]⟩
def pf_laws_szPgStateS : PF := szSF ty_laws_PgState 12 fn_laws_szPgState
def pf_laws_szStore : PF := ⟨[.val, .val], [0, 1, 2], (.seq (.reg [⟨some 2, .box (.t 0) 2, none, 0⟩,
  ⟨some 4, .mov (.k (.int .i64 0)), none, 0⟩]) (.seq (.reg [⟨some 5, .flda 0 (.t 2), none, 0⟩,
  ⟨some 6, .load 1 false (.t 5), none, 0⟩,
  ⟨some 7, .mov (.t 1), none, 0⟩,
  ⟨some 8, .call fn_laws_szPgStateS [.t 6, .t 7], none, 0⟩,
  ⟨some 1, .mov (.t 8), none, 0⟩]) (.seq (.seq (.reg [⟨some 9, .mov (.t 1), none, 0⟩,
  ⟨some 10, .bin .lss 0 (.t 9) (.k (.int .i64 0)), none, 0⟩]) (.cond (.t 10) (.seq (.reg [⟨some 4, .mov (.k (.int .i64 (-1))), none, 0⟩]) .ret) .skip)) (.seq (.reg [⟨some 11, .flda 1 (.t 2), none, 0⟩,
  ⟨some 12, .load 1 false (.t 11), none, 0⟩,
  ⟨some 13, .mov (.t 1), none, 0⟩,
  ⟨some 14, .call fn_laws_szPgStateS [.t 12, .t 13], none, 0⟩,
  ⟨some 1, .mov (.t 14), none, 0⟩]) (.seq (.seq (.reg [⟨some 15, .mov (.t 1), none, 0⟩,
  ⟨some 16, .bin .lss 0 (.t 15) (.k (.int .i64 0)), none, 0⟩]) (.cond (.t 16) (.seq (.reg [⟨some 4, .mov (.k (.int .i64 (-1))), none, 0⟩]) .ret) .skip)) (.seq (.reg [⟨some 17, .mov (.t 1), none, 0⟩,
  ⟨some 4, .mov (.t 17), none, 0⟩]) .ret)))))),
  [(4, none)]⟩
def pf_laws_szInt64S : PF := szS0F
def pf_laws_szInterval : PF := ⟨[.val, .val], [0, 1], (.seq (.reg [⟨some 2, .box (.t 0) 4, none, 0⟩,
  ⟨some 4, .mov (.k (.int .i64 0)), none, 0⟩]) (.seq (.reg [⟨some 5, .flda 2 (.t 2), none, 0⟩,
  ⟨some 6, .load 1 false (.t 5), none, 0⟩,
  ⟨some 7, .mov (.t 1), none, 0⟩,
  ⟨some 8, .call fn_laws_szInt64S [.t 6, .t 7], none, 0⟩,
  ⟨some 1, .mov (.t 8), none, 0⟩]) (.seq (.seq (.reg [⟨some 9, .mov (.t 1), none, 0⟩,
  ⟨some 10, .bin .lss 0 (.t 9) (.k (.int .i64 0)), none, 0⟩]) (.cond (.t 10) (.seq (.reg [⟨some 4, .mov (.k (.int .i64 (-1))), none, 0⟩]) .ret) .skip)) (.seq (.reg [⟨some 11, .mov (.t 1), none, 0⟩,
  ⟨some 4, .mov (.t 11), none, 0⟩]) .ret)))),
  [(4, none)]⟩
def pf_laws_szIntervalS : PF := szSF ty_laws_Interval 4 fn_laws_szInterval
def pf_laws_szNotice : PF := ⟨[.val, .val], [0, 1], (.seq (.reg [⟨some 2, .box (.t 0) 13, none, 0⟩,
  ⟨some 4, .mov (.k (.int .i64 0)), none, 0⟩]) (.seq (.reg [⟨some 5, .flda 1 (.t 2), none, 0⟩,
  ⟨some 6, .load 12 true (.t 5), none, 0⟩,
  ⟨some 7, .mov (.t 1), none, 0⟩,
  ⟨some 8, .call fn_laws_szPgState [.t 6, .t 7], none, 0⟩,
  ⟨some 1, .mov (.t 8), none, 0⟩]) (.seq (.seq (.reg [⟨some 9, .mov (.t 1), none, 0⟩,
  ⟨some 10, .bin .lss 0 (.t 9) (.k (.int .i64 0)), none, 0⟩]) (.cond (.t 10) (.seq (.reg [⟨some 4, .mov (.k (.int .i64 (-1))), none, 0⟩]) .ret) .skip)) (.seq (.reg [⟨some 11, .mov (.t 1), none, 0⟩,
  ⟨some 4, .mov (.t 11), none, 0⟩]) .ret)))),
  [(4, none)]⟩
def pf_laws_szNoticeS : PF := szSF ty_laws_Notice 13 fn_laws_szNotice
def pf_laws_szFill : PF := ⟨[.val, .val], [0, 1], (.seq (.reg [⟨some 2, .box (.t 0) 7, none, 0⟩,
  ⟨some 4, .mov (.k (.int .i64 0)), none, 0⟩]) (.seq (.reg [⟨some 5, .flda 2 (.t 2), none, 0⟩,
  ⟨some 6, .load 5 true (.t 5), none, 0⟩,
  ⟨some 7, .mov (.t 1), none, 0⟩,
  ⟨some 8, .call fn_laws_szHead [.t 6, .t 7], none, 0⟩,
  ⟨some 1, .mov (.t 8), none, 0⟩]) (.seq (.seq (.reg [⟨some 9, .mov (.t 1), none, 0⟩,
  ⟨some 10, .bin .lss 0 (.t 9) (.k (.int .i64 0)), none, 0⟩]) (.cond (.t 10) (.seq (.reg [⟨some 4, .mov (.k (.int .i64 (-1))), none, 0⟩]) .ret) .skip)) (.seq (.reg [⟨some 11, .mov (.t 1), none, 0⟩,
  ⟨some 4, .mov (.t 11), none, 0⟩]) .ret)))),
  [(4, none)]⟩
def pf_laws_szFillS : PF := szSF ty_laws_Fill 7 fn_laws_szFill
def pf_laws_szWay : PF := ⟨[.val, .val], [0, 1, 2], (.seq (.reg [⟨some 2, .box (.t 0) 11, none, 0⟩,
  ⟨some 4, .mov (.k (.int .i64 0)), none, 0⟩]) (.seq (.reg [⟨some 5, .flda 0 (.t 2), none, 0⟩,
  ⟨some 6, .load 10 true (.t 5), none, 0⟩,
  ⟨some 7, .mov (.t 1), none, 0⟩,
  ⟨some 8, .call fn_laws_szEntry [.t 6, .t 7], none, 0⟩,
  ⟨some 1, .mov (.t 8), none, 0⟩]) (.seq (.seq (.reg [⟨some 9, .mov (.t 1), none, 0⟩,
  ⟨some 10, .bin .lss 0 (.t 9) (.k (.int .i64 0)), none, 0⟩]) (.cond (.t 10) (.seq (.reg [⟨some 4, .mov (.k (.int .i64 (-1))), none, 0⟩]) .ret) .skip)) (.seq (.reg [⟨some 11, .mov (.t 1), none, 0⟩,
  ⟨some 12, .flda 10 (.t 2), none, 0⟩,
  ⟨some 13, .load 1 false (.t 12), none, 0⟩,
  ⟨some 14, .len false (.t 13), none, 0⟩,
  ⟨some 15, .bin .sub 0 (.t 11) (.t 14), none, 0⟩,
  ⟨some 1, .mov (.t 15), none, 0⟩]) (.seq (.seq (.reg [⟨some 16, .mov (.t 1), none, 0⟩,
  ⟨some 17, .bin .lss 0 (.t 16) (.k (.int .i64 0)), none, 0⟩]) (.cond (.t 17) (.seq (.reg [⟨some 4, .mov (.k (.int .i64 (-1))), none, 0⟩]) .ret) .skip)) (.seq (.reg [⟨some 18, .mov (.t 1), none, 0⟩,
  ⟨some 4, .mov (.t 18), none, 0⟩]) .ret)))))),
  [(4, none)]⟩
def pf_laws_szWayS : PF := szSF ty_laws_Way 11 fn_laws_szWay
def pf_laws_szAckS : PF := szS0F
def pf_laws_szGot : PF := ⟨[.val, .val], [0, 1, 2], (.seq (.reg [⟨some 2, .box (.t 0) 17, none, 0⟩,
  ⟨some 4, .mov (.k (.int .i64 0)), none, 0⟩]) (.seq (.reg [⟨some 5, .flda 1 (.t 2), none, 0⟩,
  ⟨some 6, .load 10 true (.t 5), none, 0⟩,
  ⟨some 7, .mov (.t 1), none, 0⟩,
  ⟨some 8, .call fn_laws_szEntry [.t 6, .t 7], none, 0⟩,
  ⟨some 1, .mov (.t 8), none, 0⟩]) (.seq (.seq (.reg [⟨some 9, .mov (.t 1), none, 0⟩,
  ⟨some 10, .bin .lss 0 (.t 9) (.k (.int .i64 0)), none, 0⟩]) (.cond (.t 10) (.seq (.reg [⟨some 4, .mov (.k (.int .i64 (-1))), none, 0⟩]) .ret) .skip)) (.seq (.reg [⟨some 11, .flda 11 (.t 2), none, 0⟩,
  ⟨some 12, .load 6 true (.t 11), none, 0⟩,
  ⟨some 13, .mov (.t 1), none, 0⟩,
  ⟨some 14, .call fn_laws_szChunk [.t 12, .t 13], none, 0⟩,
  ⟨some 1, .mov (.t 14), none, 0⟩]) (.seq (.seq (.reg [⟨some 15, .mov (.t 1), none, 0⟩,
  ⟨some 16, .bin .lss 0 (.t 15) (.k (.int .i64 0)), none, 0⟩]) (.cond (.t 16) (.seq (.reg [⟨some 4, .mov (.k (.int .i64 (-1))), none, 0⟩]) .ret) .skip)) (.seq (.reg [⟨some 17, .mov (.t 1), none, 0⟩,
  ⟨some 4, .mov (.t 17), none, 0⟩]) .ret)))))),
  [(4, none)]⟩
def pf_laws_szGotS : PF := szSF ty_laws_Got 17 fn_laws_szGot
def pf_laws_szWait : PF := ⟨[.val, .val], [0, 1, 2], (.seq (.reg [⟨some 2, .box (.t 0) 6, none, 0⟩,
  ⟨some 4, .mov (.k (.int .i64 0)), none, 0⟩]) (.seq (.reg [⟨some 5, .mov (.t 1), none, 0⟩,
  ⟨some 6, .flda 2 (.t 2), none, 0⟩,
  ⟨some 7, .load 1 false (.t 6), none, 0⟩,
  ⟨some 8, .len false (.t 7), none, 0⟩,
  ⟨some 9, .bin .sub 0 (.t 5) (.t 8), none, 0⟩,
  ⟨some 1, .mov (.t 9), none, 0⟩]) (.seq (.seq (.reg [⟨some 10, .mov (.t 1), none, 0⟩,
  ⟨some 11, .bin .lss 0 (.t 10) (.k (.int .i64 0)), none, 0⟩]) (.cond (.t 11) (.seq (.reg [⟨some 4, .mov (.k (.int .i64 (-1))), none, 0⟩]) .ret) .skip)) (.seq (.reg [⟨some 12, .flda 5 (.t 2), none, 0⟩,
  ⟨some 13, .load 1 false (.t 12), none, 0⟩,
  ⟨some 14, .mov (.t 1), none, 0⟩,
  ⟨some 15, .call fn_laws_szGotS [.t 13, .t 14], none, 0⟩,
  ⟨some 1, .mov (.t 15), none, 0⟩]) (.seq (.seq (.reg [⟨some 16, .mov (.t 1), none, 0⟩,
  ⟨some 17, .bin .lss 0 (.t 16) (.k (.int .i64 0)), none, 0⟩]) (.cond (.t 17) (.seq (.reg [⟨some 4, .mov (.k (.int .i64 (-1))), none, 0⟩]) .ret) .skip)) (.seq (.reg [⟨some 18, .mov (.t 1), none, 0⟩,
  ⟨some 4, .mov (.t 18), none, 0⟩]) .ret)))))),
  [(4, none)]⟩
def pf_laws_szWaitS : PF := szSF ty_laws_Wait 6 fn_laws_szWait
def pf_laws_szLine : PF := ⟨[.val, .val], [0, 1, 2], (.seq (.reg [⟨some 2, .box (.t 0) 19, none, 0⟩,
  ⟨some 4, .mov (.k (.int .i64 0)), none, 0⟩]) (.seq (.reg [⟨some 5, .flda 3 (.t 2), none, 0⟩,
  ⟨some 6, .load 1 false (.t 5), none, 0⟩,
  ⟨some 7, .mov (.t 1), none, 0⟩,
  ⟨some 8, .call fn_laws_szInt64S [.t 6, .t 7], none, 0⟩,
  ⟨some 1, .mov (.t 8), none, 0⟩]) (.seq (.seq (.reg [⟨some 9, .mov (.t 1), none, 0⟩,
  ⟨some 10, .bin .lss 0 (.t 9) (.k (.int .i64 0)), none, 0⟩]) (.cond (.t 10) (.seq (.reg [⟨some 4, .mov (.k (.int .i64 (-1))), none, 0⟩]) .ret) .skip)) (.seq (.reg [⟨some 11, .flda 4 (.t 2), none, 0⟩,
  ⟨some 12, .load 12 true (.t 11), none, 0⟩,
  ⟨some 13, .mov (.t 1), none, 0⟩,
  ⟨some 14, .call fn_laws_szPgState [.t 12, .t 13], none, 0⟩,
  ⟨some 1, .mov (.t 14), none, 0⟩]) (.seq (.seq (.reg [⟨some 15, .mov (.t 1), none, 0⟩,
  ⟨some 16, .bin .lss 0 (.t 15) (.k (.int .i64 0)), none, 0⟩]) (.cond (.t 16) (.seq (.reg [⟨some 4, .mov (.k (.int .i64 (-1))), none, 0⟩]) .ret) .skip)) (.seq (.reg [⟨some 17, .flda 16 (.t 2), none, 0⟩,
  ⟨some 18, .load 1 false (.t 17), none, 0⟩,
  ⟨some 19, .mov (.t 1), none, 0⟩,
  ⟨some 20, .call fn_laws_szWayS [.t 18, .t 19], none, 0⟩,
  ⟨some 1, .mov (.t 20), none, 0⟩]) (.seq (.seq (.reg [⟨some 21, .mov (.t 1), none, 0⟩,
  ⟨some 22, .bin .lss 0 (.t 21) (.k (.int .i64 0)), none, 0⟩]) (.cond (.t 22) (.seq (.reg [⟨some 4, .mov (.k (.int .i64 (-1))), none, 0⟩]) .ret) .skip)) (.seq (.reg [⟨some 23, .flda 17 (.t 2), none, 0⟩,
  ⟨some 24, .load 1 false (.t 23), none, 0⟩,
  ⟨some 25, .mov (.t 1), none, 0⟩,
  ⟨some 26, .call fn_laws_szAckS [.t 24, .t 25], none, 0⟩,
  ⟨some 1, .mov (.t 26), none, 0⟩]) (.seq (.seq (.reg [⟨some 27, .mov (.t 1), none, 0⟩,
  ⟨some 28, .bin .lss 0 (.t 27) (.k (.int .i64 0)), none, 0⟩]) (.cond (.t 28) (.seq (.reg [⟨some 4, .mov (.k (.int .i64 (-1))), none, 0⟩]) .ret) .skip)) (.seq (.reg [⟨some 29, .flda 18 (.t 2), none, 0⟩,
  ⟨some 30, .load 1 false (.t 29), none, 0⟩,
  ⟨some 31, .mov (.t 1), none, 0⟩,
  ⟨some 32, .call fn_laws_szWaitS [.t 30, .t 31], none, 0⟩,
  ⟨some 1, .mov (.t 32), none, 0⟩]) (.seq (.seq (.reg [⟨some 33, .mov (.t 1), none, 0⟩,
  ⟨some 34, .bin .lss 0 (.t 33) (.k (.int .i64 0)), none, 0⟩]) (.cond (.t 34) (.seq (.reg [⟨some 4, .mov (.k (.int .i64 (-1))), none, 0⟩]) .ret) .skip)) (.seq (.reg [⟨some 35, .mov (.t 1), none, 0⟩,
  ⟨some 4, .mov (.t 35), none, 0⟩]) .ret)))))))))))),
  [(4, none)]⟩
def pf_laws_szLead : PF := ⟨[.val, .val], [0, 1, 2], (.seq (.reg [⟨some 2, .box (.t 0) 43, none, 0⟩,
  ⟨some 4, .mov (.k (.int .i64 0)), none, 0⟩]) (.seq (.reg [⟨some 5, .flda 6 (.t 2), none, 0⟩,
  ⟨some 6, .load 1 false (.t 5), none, 0⟩,
  ⟨some 7, .mov (.t 1), none, 0⟩,
  ⟨some 8, .call fn_laws_szInt64S [.t 6, .t 7], none, 0⟩,
  ⟨some 1, .mov (.t 8), none, 0⟩]) (.seq (.seq (.reg [⟨some 9, .mov (.t 1), none, 0⟩,
  ⟨some 10, .bin .lss 0 (.t 9) (.k (.int .i64 0)), none, 0⟩]) (.cond (.t 10) (.seq (.reg [⟨some 4, .mov (.k (.int .i64 (-1))), none, 0⟩]) .ret) .skip)) (.seq (.reg [⟨some 11, .flda 7 (.t 2), none, 0⟩,
  ⟨some 12, .load 1 false (.t 11), none, 0⟩,
  ⟨some 13, .mov (.t 1), none, 0⟩,
  ⟨some 14, .call fn_laws_szIntervalS [.t 12, .t 13], none, 0⟩,
  ⟨some 1, .mov (.t 14), none, 0⟩]) (.seq (.seq (.reg [⟨some 15, .mov (.t 1), none, 0⟩,
  ⟨some 16, .bin .lss 0 (.t 15) (.k (.int .i64 0)), none, 0⟩]) (.cond (.t 16) (.seq (.reg [⟨some 4, .mov (.k (.int .i64 (-1))), none, 0⟩]) .ret) .skip)) (.seq (.reg [⟨some 17, .flda 8 (.t 2), none, 0⟩,
  ⟨some 18, .load 1 false (.t 17), none, 0⟩,
  ⟨some 19, .mov (.t 1), none, 0⟩,
  ⟨some 20, .call fn_laws_szNoticeS [.t 18, .t 19], none, 0⟩,
  ⟨some 1, .mov (.t 20), none, 0⟩]) (.seq (.seq (.reg [⟨some 21, .mov (.t 1), none, 0⟩,
  ⟨some 22, .bin .lss 0 (.t 21) (.k (.int .i64 0)), none, 0⟩]) (.cond (.t 22) (.seq (.reg [⟨some 4, .mov (.k (.int .i64 (-1))), none, 0⟩]) .ret) .skip)) (.seq (.reg [⟨some 23, .flda 9 (.t 2), none, 0⟩,
  ⟨some 24, .load 12 true (.t 23), none, 0⟩,
  ⟨some 25, .mov (.t 1), none, 0⟩,
  ⟨some 26, .call fn_laws_szPgState [.t 24, .t 25], none, 0⟩,
  ⟨some 1, .mov (.t 26), none, 0⟩]) (.seq (.seq (.reg [⟨some 27, .mov (.t 1), none, 0⟩,
  ⟨some 28, .bin .lss 0 (.t 27) (.k (.int .i64 0)), none, 0⟩]) (.cond (.t 28) (.seq (.reg [⟨some 4, .mov (.k (.int .i64 (-1))), none, 0⟩]) .ret) .skip)) (.seq (.reg [⟨some 29, .flda 21 (.t 2), none, 0⟩,
  ⟨some 30, .load 1 false (.t 29), none, 0⟩,
  ⟨some 31, .mov (.t 1), none, 0⟩,
  ⟨some 32, .call fn_laws_szFillS [.t 30, .t 31], none, 0⟩,
  ⟨some 1, .mov (.t 32), none, 0⟩]) (.seq (.seq (.reg [⟨some 33, .mov (.t 1), none, 0⟩,
  ⟨some 34, .bin .lss 0 (.t 33) (.k (.int .i64 0)), none, 0⟩]) (.cond (.t 34) (.seq (.reg [⟨some 4, .mov (.k (.int .i64 (-1))), none, 0⟩]) .ret) .skip)) (.seq (.reg [⟨some 35, .flda 22 (.t 2), none, 0⟩,
  ⟨some 36, .load 1 false (.t 35), none, 0⟩,
  ⟨some 37, .mov (.t 1), none, 0⟩,
  ⟨some 38, .call fn_laws_szChunkS [.t 36, .t 37], none, 0⟩,
  ⟨some 1, .mov (.t 38), none, 0⟩]) (.seq (.seq (.reg [⟨some 39, .mov (.t 1), none, 0⟩,
  ⟨some 40, .bin .lss 0 (.t 39) (.k (.int .i64 0)), none, 0⟩]) (.cond (.t 40) (.seq (.reg [⟨some 4, .mov (.k (.int .i64 (-1))), none, 0⟩]) .ret) .skip)) (.seq (.reg [⟨some 41, .flda 23 (.t 2), none, 0⟩,
  ⟨some 42, .load 1 false (.t 41), none, 0⟩,
  ⟨some 43, .mov (.t 1), none, 0⟩,
  ⟨some 44, .call fn_laws_szInt64S [.t 42, .t 43], none, 0⟩,
  ⟨some 1, .mov (.t 44), none, 0⟩]) (.seq (.seq (.reg [⟨some 45, .mov (.t 1), none, 0⟩,
  ⟨some 46, .bin .lss 0 (.t 45) (.k (.int .i64 0)), none, 0⟩]) (.cond (.t 46) (.seq (.reg [⟨some 4, .mov (.k (.int .i64 (-1))), none, 0⟩]) .ret) .skip)) (.seq (.reg [⟨some 47, .flda 24 (.t 2), none, 0⟩,
  ⟨some 48, .load 19 true (.t 47), none, 0⟩,
  ⟨some 49, .mov (.t 1), none, 0⟩,
  ⟨some 50, .call fn_laws_szLine [.t 48, .t 49], none, 0⟩,
  ⟨some 1, .mov (.t 50), none, 0⟩]) (.seq (.seq (.reg [⟨some 51, .mov (.t 1), none, 0⟩,
  ⟨some 52, .bin .lss 0 (.t 51) (.k (.int .i64 0)), none, 0⟩]) (.cond (.t 52) (.seq (.reg [⟨some 4, .mov (.k (.int .i64 (-1))), none, 0⟩]) .ret) .skip)) (.seq (.reg [⟨some 53, .mov (.t 1), none, 0⟩,
  ⟨some 4, .mov (.t 53), none, 0⟩]) .ret)))))))))))))))))),
  [(4, none)]⟩
def pf_laws_szLeadS : PF := szSF ty_laws_Lead 43 fn_laws_szLead
def pf_laws_szOp : PF := ⟨[.val, .val], [0, 1], (.seq (.reg [⟨some 2, .box (.t 0) 3, none, 0⟩,
  ⟨some 4, .mov (.k (.int .i64 0)), none, 0⟩]) (.seq (.reg [⟨some 5, .mov (.t 1), none, 0⟩,
  ⟨some 6, .flda 2 (.t 2), none, 0⟩,
  ⟨some 7, .load 1 false (.t 6), none, 0⟩,
  ⟨some 8, .len false (.t 7), none, 0⟩,
  ⟨some 9, .bin .sub 0 (.t 5) (.t 8), none, 0⟩,
  ⟨some 1, .mov (.t 9), none, 0⟩]) (.seq (.seq (.reg [⟨some 10, .mov (.t 1), none, 0⟩,
  ⟨some 11, .bin .lss 0 (.t 10) (.k (.int .i64 0)), none, 0⟩]) (.cond (.t 11) (.seq (.reg [⟨some 4, .mov (.k (.int .i64 (-1))), none, 0⟩]) .ret) .skip)) (.seq (.reg [⟨some 12, .mov (.t 1), none, 0⟩,
  ⟨some 4, .mov (.t 12), none, 0⟩]) .ret)))),
  [(4, none)]⟩
def pf_laws_szMsg : PF := ⟨[.val, .val], [0, 1, 2], (.seq (.reg [⟨some 2, .box (.t 0) 46, none, 0⟩,
  ⟨some 4, .mov (.k (.int .i64 0)), none, 0⟩]) (.seq (.reg [⟨some 5, .mov (.t 1), none, 0⟩,
  ⟨some 6, .flda 6 (.t 2), none, 0⟩,
  ⟨some 7, .load 1 false (.t 6), none, 0⟩,
  ⟨some 8, .len false (.t 7), none, 0⟩,
  ⟨some 9, .bin .sub 0 (.t 5) (.t 8), none, 0⟩,
  ⟨some 1, .mov (.t 9), none, 0⟩]) (.seq (.seq (.reg [⟨some 10, .mov (.t 1), none, 0⟩,
  ⟨some 11, .bin .lss 0 (.t 10) (.k (.int .i64 0)), none, 0⟩]) (.cond (.t 11) (.seq (.reg [⟨some 4, .mov (.k (.int .i64 (-1))), none, 0⟩]) .ret) .skip)) (.seq (.reg [⟨some 12, .flda 11 (.t 2), none, 0⟩,
  ⟨some 13, .load 12 true (.t 12), none, 0⟩,
  ⟨some 14, .mov (.t 1), none, 0⟩,
  ⟨some 15, .call fn_laws_szPgState [.t 13, .t 14], none, 0⟩,
  ⟨some 1, .mov (.t 15), none, 0⟩]) (.seq (.seq (.reg [⟨some 16, .mov (.t 1), none, 0⟩,
  ⟨some 17, .bin .lss 0 (.t 16) (.k (.int .i64 0)), none, 0⟩]) (.cond (.t 17) (.seq (.reg [⟨some 4, .mov (.k (.int .i64 (-1))), none, 0⟩]) .ret) .skip)) (.seq (.reg [⟨some 18, .flda 23 (.t 2), none, 0⟩,
  ⟨some 19, .load 10 true (.t 18), none, 0⟩,
  ⟨some 20, .mov (.t 1), none, 0⟩,
  ⟨some 21, .call fn_laws_szEntry [.t 19, .t 20], none, 0⟩,
  ⟨some 1, .mov (.t 21), none, 0⟩]) (.seq (.seq (.reg [⟨some 22, .mov (.t 1), none, 0⟩,
  ⟨some 23, .bin .lss 0 (.t 22) (.k (.int .i64 0)), none, 0⟩]) (.cond (.t 23) (.seq (.reg [⟨some 4, .mov (.k (.int .i64 (-1))), none, 0⟩]) .ret) .skip)) (.seq (.reg [⟨some 24, .flda 33 (.t 2), none, 0⟩,
  ⟨some 25, .load 6 true (.t 24), none, 0⟩,
  ⟨some 26, .mov (.t 1), none, 0⟩,
  ⟨some 27, .call fn_laws_szChunk [.t 25, .t 26], none, 0⟩,
  ⟨some 1, .mov (.t 27), none, 0⟩]) (.seq (.seq (.reg [⟨some 28, .mov (.t 1), none, 0⟩,
  ⟨some 29, .bin .lss 0 (.t 28) (.k (.int .i64 0)), none, 0⟩]) (.cond (.t 29) (.seq (.reg [⟨some 4, .mov (.k (.int .i64 (-1))), none, 0⟩]) .ret) .skip)) (.seq (.reg [⟨some 30, .flda 39 (.t 2), none, 0⟩,
  ⟨some 31, .load 3 true (.t 30), none, 0⟩,
  ⟨some 32, .mov (.t 1), none, 0⟩,
  ⟨some 33, .call fn_laws_szOp [.t 31, .t 32], none, 0⟩,
  ⟨some 1, .mov (.t 33), none, 0⟩]) (.seq (.seq (.reg [⟨some 34, .mov (.t 1), none, 0⟩,
  ⟨some 35, .bin .lss 0 (.t 34) (.k (.int .i64 0)), none, 0⟩]) (.cond (.t 35) (.seq (.reg [⟨some 4, .mov (.k (.int .i64 (-1))), none, 0⟩]) .ret) .skip)) (.seq (.reg [⟨some 36, .mov (.t 1), none, 0⟩,
  ⟨some 37, .flda 45 (.t 2), none, 0⟩,
  ⟨some 38, .load 1 false (.t 37), none, 0⟩,
  ⟨some 39, .len false (.t 38), none, 0⟩,
  ⟨some 40, .bin .sub 0 (.t 36) (.t 39), none, 0⟩,
  ⟨some 1, .mov (.t 40), none, 0⟩]) (.seq (.seq (.reg [⟨some 41, .mov (.t 1), none, 0⟩,
  ⟨some 42, .bin .lss 0 (.t 41) (.k (.int .i64 0)), none, 0⟩]) (.cond (.t 42) (.seq (.reg [⟨some 4, .mov (.k (.int .i64 (-1))), none, 0⟩]) .ret) .skip)) (.seq (.reg [⟨some 43, .mov (.t 1), none, 0⟩,
  ⟨some 4, .mov (.t 43), none, 0⟩]) .ret)))))))))))))),
  [(4, none)]⟩
def pf_laws_szMsgS : PF := szSF ty_laws_Msg 46 fn_laws_szMsg
def pf_laws_szServer : PF := ⟨[.val, .val], [0, 1, 2], (.seq (.reg [⟨some 2, .box (.t 0) 7, none, 0⟩,
  ⟨some 4, .mov (.k (.int .i64 0)), none, 0⟩]) (.seq (.reg [⟨some 5, .flda 3 (.t 2), none, 0⟩,
  ⟨some 6, .load 2 true (.t 5), none, 0⟩,
  ⟨some 7, .mov (.t 1), none, 0⟩,
  ⟨some 8, .call fn_laws_szStore [.t 6, .t 7], none, 0⟩,
  ⟨some 1, .mov (.t 8), none, 0⟩]) (.seq (.seq (.reg [⟨some 9, .mov (.t 1), none, 0⟩,
  ⟨some 10, .bin .lss 0 (.t 9) (.k (.int .i64 0)), none, 0⟩]) (.cond (.t 10) (.seq (.reg [⟨some 4, .mov (.k (.int .i64 (-1))), none, 0⟩]) .ret) .skip)) (.seq (.reg [⟨some 11, .flda 5 (.t 2), none, 0⟩,
  ⟨some 12, .load 1 false (.t 11), none, 0⟩,
  ⟨some 13, .mov (.t 1), none, 0⟩,
  ⟨some 14, .call fn_laws_szLeadS [.t 12, .t 13], none, 0⟩,
  ⟨some 1, .mov (.t 14), none, 0⟩]) (.seq (.seq (.reg [⟨some 15, .mov (.t 1), none, 0⟩,
  ⟨some 16, .bin .lss 0 (.t 15) (.k (.int .i64 0)), none, 0⟩]) (.cond (.t 16) (.seq (.reg [⟨some 4, .mov (.k (.int .i64 (-1))), none, 0⟩]) .ret) .skip)) (.seq (.reg [⟨some 17, .flda 6 (.t 2), none, 0⟩,
  ⟨some 18, .load 1 false (.t 17), none, 0⟩,
  ⟨some 19, .mov (.t 1), none, 0⟩,
  ⟨some 20, .call fn_laws_szMsgS [.t 18, .t 19], none, 0⟩,
  ⟨some 1, .mov (.t 20), none, 0⟩]) (.seq (.seq (.reg [⟨some 21, .mov (.t 1), none, 0⟩,
  ⟨some 22, .bin .lss 0 (.t 21) (.k (.int .i64 0)), none, 0⟩]) (.cond (.t 22) (.seq (.reg [⟨some 4, .mov (.k (.int .i64 (-1))), none, 0⟩]) .ret) .skip)) (.seq (.reg [⟨some 23, .mov (.t 1), none, 0⟩,
  ⟨some 4, .mov (.t 23), none, 0⟩]) .ret)))))))),
  [(4, none)]⟩
def pf_spec_l25SameState_lb0 : PC := (.seq (.seq (.reg [⟨some 78, .mov (.t 5), none, 0⟩,
  ⟨some 79, .flda 6 (.t 2), none, 0⟩,
  ⟨some 80, .load 1 false (.t 79), none, 0⟩,
  ⟨some 81, .len true (.t 80), none, 0⟩,
  ⟨some 82, .bin .lss 0 (.t 78) (.t 81), none, 0⟩]) (.cond (.t 82) .skip (.exit 0))) (.seq (.block 1 (.seq (.any [(0, []), (1, []), (2, [0, 1]), (3, []), (4, []), (5, [0, 1, 2, 3, 4]), (6, [0, 1, 2, 3, 4]), (7, [0, 1, 2, 3, 4, 5, 6]), (8, [0, 1, 2, 3, 4]), (9, [0, 1, 2, 3, 4]), (10, [])] [⟨some 85, .flda 6 (.t 2), none, 0⟩,
  ⟨some 86, .load 1 false (.t 85), none, 0⟩,
  ⟨some 87, .mov (.t 5), none, 0⟩,
  ⟨some 88, .idxa ty_impl_Head (.t 86) (.t 87), none, 0⟩,
  ⟨some 89, .load 5 true (.t 88), none, 0⟩,
  ⟨some 90, .flda 6 (.t 3), none, 0⟩,
  ⟨some 91, .load 1 false (.t 90), none, 0⟩,
  ⟨some 92, .mov (.t 5), none, 0⟩,
  ⟨some 93, .idxa ty_impl_Head (.t 91) (.t 92), none, 0⟩,
  ⟨some 94, .load 5 true (.t 93), none, 0⟩,
  ⟨some 95, .eqs true [2, 0, 0, 0, 0] (.t 89) (.t 94), none, 0⟩]) (.cond (.t 95) (.seq (.reg [⟨some 4, .mov (.k (.bool false)), none, 0⟩]) .ret) .skip))) (.reg [⟨some 83, .mov (.t 5), none, 0⟩,
  ⟨some 84, .bin .add 0 (.t 83) (.k (.int .i64 1)), none, 0⟩,
  ⟨some 5, .mov (.t 84), none, 0⟩])))
def pf_spec_l25SameState_l0 : PC := .loop [] pf_spec_l25SameState_lb0
def pf_spec_l25SameState_lb1 : PC := (.seq (.seq (.reg [⟨some 96, .mov (.t 6), none, 0⟩,
  ⟨some 97, .flda 7 (.t 2), none, 0⟩,
  ⟨some 98, .load 1 false (.t 97), none, 0⟩,
  ⟨some 99, .len true (.t 98), none, 0⟩,
  ⟨some 100, .bin .lss 0 (.t 96) (.t 99), none, 0⟩]) (.cond (.t 100) .skip (.exit 2))) (.seq (.block 3 (.seq (.any [(0, []), (1, []), (2, [0, 1]), (3, []), (4, []), (5, [0, 1, 2, 3, 4]), (6, [0, 1, 2, 3, 4]), (7, [0, 1, 2, 3, 4, 5, 6]), (8, [0, 1, 2, 3, 4]), (9, [0, 1, 2, 3, 4]), (10, [])] [⟨some 103, .flda 7 (.t 2), none, 0⟩,
  ⟨some 104, .load 1 false (.t 103), none, 0⟩,
  ⟨some 105, .mov (.t 6), none, 0⟩,
  ⟨some 106, .idxa ty_impl_Last (.t 104) (.t 105), none, 0⟩,
  ⟨some 107, .load 4 true (.t 106), none, 0⟩,
  ⟨some 108, .flda 7 (.t 3), none, 0⟩,
  ⟨some 109, .load 1 false (.t 108), none, 0⟩,
  ⟨some 110, .mov (.t 6), none, 0⟩,
  ⟨some 111, .idxa ty_impl_Last (.t 109) (.t 110), none, 0⟩,
  ⟨some 112, .load 4 true (.t 111), none, 0⟩,
  ⟨some 113, .eqs true [0, 0, 0, 0] (.t 107) (.t 112), none, 0⟩]) (.cond (.t 113) (.seq (.reg [⟨some 4, .mov (.k (.bool false)), none, 0⟩]) .ret) .skip))) (.reg [⟨some 101, .mov (.t 6), none, 0⟩,
  ⟨some 102, .bin .add 0 (.t 101) (.k (.int .i64 1)), none, 0⟩,
  ⟨some 6, .mov (.t 102), none, 0⟩])))
def pf_spec_l25SameState_l1 : PC := .loop [] pf_spec_l25SameState_lb1
def pf_spec_l25SameState_lb2 : PC := (.seq (.seq (.reg [⟨some 114, .mov (.t 7), none, 0⟩,
  ⟨some 115, .flda 8 (.t 2), none, 0⟩,
  ⟨some 116, .load 1 false (.t 115), none, 0⟩,
  ⟨some 117, .len true (.t 116), none, 0⟩,
  ⟨some 118, .bin .lss 0 (.t 114) (.t 117), none, 0⟩]) (.cond (.t 118) .skip (.exit 4))) (.seq (.block 5 (.seq (.any [(0, []), (1, []), (2, [0, 1]), (3, []), (4, []), (5, [0, 1, 2, 3, 4]), (6, [0, 1, 2, 3, 4]), (7, [0, 1, 2, 3, 4, 5, 6]), (8, [0, 1, 2, 3, 4]), (9, [0, 1, 2, 3, 4]), (10, [])] [⟨some 121, .flda 8 (.t 2), none, 0⟩,
  ⟨some 122, .load 1 false (.t 121), none, 0⟩,
  ⟨some 123, .mov (.t 7), none, 0⟩,
  ⟨some 124, .idxa ty_impl_Entry (.t 122) (.t 123), none, 0⟩,
  ⟨some 125, .load 10 true (.t 124), none, 0⟩,
  ⟨some 126, .flda 8 (.t 3), none, 0⟩,
  ⟨some 127, .load 1 false (.t 126), none, 0⟩,
  ⟨some 128, .mov (.t 7), none, 0⟩,
  ⟨some 129, .idxa ty_impl_Entry (.t 127) (.t 128), none, 0⟩,
  ⟨some 130, .load 10 true (.t 129), none, 0⟩,
  ⟨some 131, .eqs true [0, 0, 0, 0, 2, 1, 0, 0, 0, 0] (.t 125) (.t 130), none, 0⟩]) (.cond (.t 131) (.seq (.reg [⟨some 4, .mov (.k (.bool false)), none, 0⟩]) .ret) .skip))) (.reg [⟨some 119, .mov (.t 7), none, 0⟩,
  ⟨some 120, .bin .add 0 (.t 119) (.k (.int .i64 1)), none, 0⟩,
  ⟨some 7, .mov (.t 120), none, 0⟩])))
def pf_spec_l25SameState_l2 : PC := .loop [] pf_spec_l25SameState_lb2
def pf_spec_l25SameState_lb3 : PC := (.seq (.seq (.reg [⟨some 132, .mov (.t 8), none, 0⟩,
  ⟨some 133, .flda 11 (.t 2), none, 0⟩,
  ⟨some 134, .load 1 false (.t 133), none, 0⟩,
  ⟨some 135, .len true (.t 134), none, 0⟩,
  ⟨some 136, .bin .lss 0 (.t 132) (.t 135), none, 0⟩]) (.cond (.t 136) .skip (.exit 6))) (.seq (.block 7 (.seq (.any [(0, []), (1, []), (2, [0, 1]), (3, []), (4, []), (5, [0, 1, 2, 3, 4]), (6, [0, 1, 2, 3, 4]), (7, [0, 1, 2, 3, 4, 5, 6]), (8, [0, 1, 2, 3, 4]), (9, [0, 1, 2, 3, 4]), (10, [])] [⟨some 139, .flda 11 (.t 2), none, 0⟩,
  ⟨some 140, .load 1 false (.t 139), none, 0⟩,
  ⟨some 141, .mov (.t 8), none, 0⟩,
  ⟨some 142, .idxa ty_impl_Chunk (.t 140) (.t 141), none, 0⟩,
  ⟨some 143, .load 6 true (.t 142), none, 0⟩,
  ⟨some 144, .flda 11 (.t 3), none, 0⟩,
  ⟨some 145, .load 1 false (.t 144), none, 0⟩,
  ⟨some 146, .mov (.t 8), none, 0⟩,
  ⟨some 147, .idxa ty_impl_Chunk (.t 145) (.t 146), none, 0⟩,
  ⟨some 148, .load 6 true (.t 147), none, 0⟩,
  ⟨some 149, .eqs true [2, 0, 0, 0, 0, 2] (.t 143) (.t 148), none, 0⟩]) (.cond (.t 149) (.seq (.reg [⟨some 4, .mov (.k (.bool false)), none, 0⟩]) .ret) .skip))) (.reg [⟨some 137, .mov (.t 8), none, 0⟩,
  ⟨some 138, .bin .add 0 (.t 137) (.k (.int .i64 1)), none, 0⟩,
  ⟨some 8, .mov (.t 138), none, 0⟩])))
def pf_spec_l25SameState_l3 : PC := .loop [] pf_spec_l25SameState_lb3
def pf_spec_l25SameState : PF := ⟨[.val, .val], [0, 1, 2, 3, 5, 6, 7, 8, 14, 21, 28, 35, 42, 51, 60, 69], (.seq (.reg [⟨some 2, .box (.t 0) 12, none, 0⟩,
  ⟨some 3, .box (.t 1) 12, none, 0⟩,
  ⟨some 4, .mov (.k (.bool false)), none, 0⟩]) (.seq (.seq (.reg [⟨some 9, .flda 0 (.t 2), none, 0⟩,
  ⟨some 10, .load 2 true (.t 9), none, 0⟩,
  ⟨some 11, .flda 0 (.t 3), none, 0⟩,
  ⟨some 12, .load 2 true (.t 11), none, 0⟩,
  ⟨some 13, .eqs true [0, 0] (.t 10) (.t 12), none, 0⟩,
  ⟨some 14, .mov (.t 13), none, 0⟩,
  ⟨some 15, .flda 2 (.t 2), some (14, false), 0⟩,
  ⟨some 16, .load 1 false (.t 15), some (14, false), 0⟩,
  ⟨some 17, .flda 2 (.t 3), some (14, false), 0⟩,
  ⟨some 18, .load 1 false (.t 17), some (14, false), 0⟩,
  ⟨some 19, .bin .neq 0 (.t 16) (.t 18), some (14, false), 0⟩,
  ⟨some 20, .pick (.t 14) (.k (.bool true)) (.t 19), none, 0⟩,
  ⟨some 21, .mov (.t 20), none, 0⟩,
  ⟨some 22, .flda 3 (.t 2), some (21, false), 0⟩,
  ⟨some 23, .load 1 false (.t 22), some (21, false), 0⟩,
  ⟨some 24, .flda 3 (.t 3), some (21, false), 0⟩,
  ⟨some 25, .load 1 false (.t 24), some (21, false), 0⟩,
  ⟨some 26, .bin .neq 0 (.t 23) (.t 25), some (21, false), 0⟩,
  ⟨some 27, .pick (.t 21) (.k (.bool true)) (.t 26), none, 0⟩,
  ⟨some 28, .mov (.t 27), none, 0⟩,
  ⟨some 29, .flda 4 (.t 2), some (28, false), 0⟩,
  ⟨some 30, .load 2 true (.t 29), some (28, false), 0⟩,
  ⟨some 31, .flda 4 (.t 3), some (28, false), 0⟩,
  ⟨some 32, .load 2 true (.t 31), some (28, false), 0⟩,
  ⟨some 33, .eqs true [0, 0] (.t 30) (.t 32), some (28, false), 0⟩,
  ⟨some 34, .pick (.t 28) (.k (.bool true)) (.t 33), none, 0⟩,
  ⟨some 35, .mov (.t 34), none, 0⟩,
  ⟨some 36, .flda 9 (.t 2), some (35, false), 0⟩,
  ⟨some 37, .load 2 true (.t 36), some (35, false), 0⟩,
  ⟨some 38, .flda 9 (.t 3), some (35, false), 0⟩,
  ⟨some 39, .load 2 true (.t 38), some (35, false), 0⟩,
  ⟨some 40, .eqs true [0, 0] (.t 37) (.t 39), some (35, false), 0⟩,
  ⟨some 41, .pick (.t 35) (.k (.bool true)) (.t 40), none, 0⟩,
  ⟨some 42, .mov (.t 41), none, 0⟩,
  ⟨some 43, .flda 6 (.t 2), some (42, false), 0⟩,
  ⟨some 44, .load 1 false (.t 43), some (42, false), 0⟩,
  ⟨some 45, .len true (.t 44), some (42, false), 0⟩,
  ⟨some 46, .flda 6 (.t 3), some (42, false), 0⟩,
  ⟨some 47, .load 1 false (.t 46), some (42, false), 0⟩,
  ⟨some 48, .len true (.t 47), some (42, false), 0⟩,
  ⟨some 49, .bin .neq 0 (.t 45) (.t 48), some (42, false), 0⟩,
  ⟨some 50, .pick (.t 42) (.k (.bool true)) (.t 49), none, 0⟩,
  ⟨some 51, .mov (.t 50), none, 0⟩,
  ⟨some 52, .flda 7 (.t 2), some (51, false), 0⟩,
  ⟨some 53, .load 1 false (.t 52), some (51, false), 0⟩,
  ⟨some 54, .len true (.t 53), some (51, false), 0⟩,
  ⟨some 55, .flda 7 (.t 3), some (51, false), 0⟩,
  ⟨some 56, .load 1 false (.t 55), some (51, false), 0⟩,
  ⟨some 57, .len true (.t 56), some (51, false), 0⟩,
  ⟨some 58, .bin .neq 0 (.t 54) (.t 57), some (51, false), 0⟩,
  ⟨some 59, .pick (.t 51) (.k (.bool true)) (.t 58), none, 0⟩,
  ⟨some 60, .mov (.t 59), none, 0⟩,
  ⟨some 61, .flda 8 (.t 2), some (60, false), 0⟩,
  ⟨some 62, .load 1 false (.t 61), some (60, false), 0⟩,
  ⟨some 63, .len true (.t 62), some (60, false), 0⟩,
  ⟨some 64, .flda 8 (.t 3), some (60, false), 0⟩,
  ⟨some 65, .load 1 false (.t 64), some (60, false), 0⟩,
  ⟨some 66, .len true (.t 65), some (60, false), 0⟩,
  ⟨some 67, .bin .neq 0 (.t 63) (.t 66), some (60, false), 0⟩,
  ⟨some 68, .pick (.t 60) (.k (.bool true)) (.t 67), none, 0⟩,
  ⟨some 69, .mov (.t 68), none, 0⟩,
  ⟨some 70, .flda 11 (.t 2), some (69, false), 0⟩,
  ⟨some 71, .load 1 false (.t 70), some (69, false), 0⟩,
  ⟨some 72, .len true (.t 71), some (69, false), 0⟩,
  ⟨some 73, .flda 11 (.t 3), some (69, false), 0⟩,
  ⟨some 74, .load 1 false (.t 73), some (69, false), 0⟩,
  ⟨some 75, .len true (.t 74), some (69, false), 0⟩,
  ⟨some 76, .bin .neq 0 (.t 72) (.t 75), some (69, false), 0⟩,
  ⟨some 77, .pick (.t 69) (.k (.bool true)) (.t 76), none, 0⟩]) (.cond (.t 77) (.seq (.reg [⟨some 4, .mov (.k (.bool false)), none, 0⟩]) .ret) .skip)) (.seq (.seq (.reg [⟨some 5, .mov (.k (.int .i64 0)), none, 0⟩]) (.block 0 pf_spec_l25SameState_l0)) (.seq (.seq (.reg [⟨some 6, .mov (.k (.int .i64 0)), none, 0⟩]) (.block 2 pf_spec_l25SameState_l1)) (.seq (.seq (.reg [⟨some 7, .mov (.k (.int .i64 0)), none, 0⟩]) (.block 4 pf_spec_l25SameState_l2)) (.seq (.seq (.reg [⟨some 8, .mov (.k (.int .i64 0)), none, 0⟩]) (.block 6 pf_spec_l25SameState_l3)) (.seq (.reg [⟨some 4, .mov (.k (.bool true)), none, 0⟩]) .ret))))))),
  [(4, none)]⟩
def pf_spec_l30SameStates : PF := eqSH (eqSL ty_impl_PgState 12 fn_spec_l25SameState)
def pf_spec_l00Same : PF := eqSH (eqS0L ty_int64 0)
def pf_spec_l27SameIvs_lb0 : PC := (.seq (.seq (.reg [⟨some 11, .mov (.t 5), none, 0⟩,
  ⟨some 12, .mov (.t 0), none, 0⟩,
  ⟨some 13, .len true (.t 12), none, 0⟩,
  ⟨some 14, .bin .lss 0 (.t 11) (.t 13), none, 0⟩]) (.cond (.t 14) .skip (.exit 0))) (.seq (.block 1 (.seq (.any [(0, []), (1, [0]), (2, []), (3, []), (4, []), (5, [0, 1, 2, 3, 4]), (6, [0, 1, 2, 3, 4, 5]), (7, [0, 1, 2, 3, 4]), (8, [0, 1, 2, 3, 4]), (9, [0, 1, 2, 3, 4]), (10, []), (11, []), (12, []), (13, [12]), (14, []), (15, []), (16, []), (17, [12, 13, 14, 15, 16]), (18, [12, 13, 14, 15, 16, 17]), (19, [12, 13, 14, 15, 16]), (20, [12, 13, 14, 15, 16]), (21, [12, 13, 14, 15, 16]), (22, []), (23, []), (24, []), (25, []), (26, [25]), (27, []), (28, []), (29, []), (30, [25, 26, 27, 28, 29]), (31, [25, 26, 27, 28, 29, 30]), (32, [25, 26, 27, 28, 29]), (33, [25, 26, 27, 28, 29]), (34, [25, 26, 27, 28, 29]), (35, []), (36, []), (37, []), (38, []), (39, [38]), (40, []), (41, []), (42, []), (43, [38, 39, 40, 41, 42]), (44, [38, 39, 40, 41, 42, 43]), (45, [38, 39, 40, 41, 42]), (46, [38, 39, 40, 41, 42]), (47, [38, 39, 40, 41, 42]), (48, []), (49, []), (50, [])] [⟨some 17, .mov (.t 0), none, 0⟩,
  ⟨some 18, .mov (.t 5), none, 0⟩,
  ⟨some 19, .idxa ty_impl_Interval (.t 17) (.t 18), none, 0⟩,
  ⟨some 20, .flda 0 (.t 19), none, 0⟩,
  ⟨some 21, .load 1 false (.t 20), none, 0⟩,
  ⟨some 22, .mov (.t 1), none, 0⟩,
  ⟨some 23, .mov (.t 5), none, 0⟩,
  ⟨some 24, .idxa ty_impl_Interval (.t 22) (.t 23), none, 0⟩,
  ⟨some 25, .flda 0 (.t 24), none, 0⟩,
  ⟨some 26, .load 1 false (.t 25), none, 0⟩,
  ⟨some 27, .bin .neq 0 (.t 21) (.t 26), none, 0⟩,
  ⟨some 28, .mov (.t 27), none, 0⟩,
  ⟨some 29, .mov (.t 0), some (28, false), 0⟩,
  ⟨some 30, .mov (.t 5), some (28, false), 0⟩,
  ⟨some 31, .idxa ty_impl_Interval (.t 29) (.t 30), some (28, false), 0⟩,
  ⟨some 32, .flda 1 (.t 31), some (28, false), 0⟩,
  ⟨some 33, .load 1 false (.t 32), some (28, false), 0⟩,
  ⟨some 34, .mov (.t 1), some (28, false), 0⟩,
  ⟨some 35, .mov (.t 5), some (28, false), 0⟩,
  ⟨some 36, .idxa ty_impl_Interval (.t 34) (.t 35), some (28, false), 0⟩,
  ⟨some 37, .flda 1 (.t 36), some (28, false), 0⟩,
  ⟨some 38, .load 1 false (.t 37), some (28, false), 0⟩,
  ⟨some 39, .bin .neq 0 (.t 33) (.t 38), some (28, false), 0⟩,
  ⟨some 40, .pick (.t 28) (.k (.bool true)) (.t 39), none, 0⟩,
  ⟨some 41, .mov (.t 40), none, 0⟩,
  ⟨some 42, .mov (.t 0), some (41, false), 0⟩,
  ⟨some 43, .mov (.t 5), some (41, false), 0⟩,
  ⟨some 44, .idxa ty_impl_Interval (.t 42) (.t 43), some (41, false), 0⟩,
  ⟨some 45, .flda 3 (.t 44), some (41, false), 0⟩,
  ⟨some 46, .load 1 false (.t 45), some (41, false), 0⟩,
  ⟨some 47, .mov (.t 1), some (41, false), 0⟩,
  ⟨some 48, .mov (.t 5), some (41, false), 0⟩,
  ⟨some 49, .idxa ty_impl_Interval (.t 47) (.t 48), some (41, false), 0⟩,
  ⟨some 50, .flda 3 (.t 49), some (41, false), 0⟩,
  ⟨some 51, .load 1 false (.t 50), some (41, false), 0⟩,
  ⟨some 52, .bin .neq 1 (.t 46) (.t 51), some (41, false), 0⟩,
  ⟨some 53, .pick (.t 41) (.k (.bool true)) (.t 52), none, 0⟩,
  ⟨some 54, .mov (.t 53), none, 0⟩,
  ⟨some 55, .mov (.t 0), some (54, false), 0⟩,
  ⟨some 56, .mov (.t 5), some (54, false), 0⟩,
  ⟨some 57, .idxa ty_impl_Interval (.t 55) (.t 56), some (54, false), 0⟩,
  ⟨some 58, .flda 2 (.t 57), some (54, false), 0⟩,
  ⟨some 59, .load 1 false (.t 58), some (54, false), 0⟩,
  ⟨some 60, .mov (.t 1), some (54, false), 0⟩,
  ⟨some 61, .mov (.t 5), some (54, false), 0⟩,
  ⟨some 62, .idxa ty_impl_Interval (.t 60) (.t 61), some (54, false), 0⟩,
  ⟨some 63, .flda 2 (.t 62), some (54, false), 0⟩,
  ⟨some 64, .load 1 false (.t 63), some (54, false), 0⟩,
  ⟨some 65, .call fn_spec_l00Same [.t 59, .t 64], some (54, false), 0⟩,
  ⟨some 66, .un .not (.t 65), some (54, false), 0⟩,
  ⟨some 67, .pick (.t 54) (.k (.bool true)) (.t 66), none, 0⟩]) (.cond (.t 67) (.seq (.reg [⟨some 4, .mov (.k (.bool false)), none, 0⟩]) .ret) .skip))) (.reg [⟨some 15, .mov (.t 5), none, 0⟩,
  ⟨some 16, .bin .add 0 (.t 15) (.k (.int .i64 1)), none, 0⟩,
  ⟨some 5, .mov (.t 16), none, 0⟩])))
def pf_spec_l27SameIvs_l0 : PC := .loop [] pf_spec_l27SameIvs_lb0
def pf_spec_l27SameIvs : PF := ⟨[.val, .val], [0, 1, 5, 28, 41, 54], (.seq (.reg [⟨some 4, .mov (.k (.bool false)), none, 0⟩]) (.seq (.seq (.reg [⟨some 6, .mov (.t 0), none, 0⟩,
  ⟨some 7, .len true (.t 6), none, 0⟩,
  ⟨some 8, .mov (.t 1), none, 0⟩,
  ⟨some 9, .len true (.t 8), none, 0⟩,
  ⟨some 10, .bin .neq 0 (.t 7) (.t 9), none, 0⟩]) (.cond (.t 10) (.seq (.reg [⟨some 4, .mov (.k (.bool false)), none, 0⟩]) .ret) .skip)) (.seq (.seq (.reg [⟨some 5, .mov (.k (.int .i64 0)), none, 0⟩]) (.block 0 pf_spec_l27SameIvs_l0)) (.seq (.reg [⟨some 4, .mov (.k (.bool true)), none, 0⟩]) .ret)))),
  [(4, none)]⟩
def pf_spec_l27SameNotices_lb0 : PC := (.seq (.seq (.reg [⟨some 11, .mov (.t 5), none, 0⟩,
  ⟨some 12, .mov (.t 0), none, 0⟩,
  ⟨some 13, .len true (.t 12), none, 0⟩,
  ⟨some 14, .bin .lss 0 (.t 11) (.t 13), none, 0⟩]) (.cond (.t 14) .skip (.exit 0))) (.seq (.block 1 (.seq (.any [(0, []), (1, [0]), (2, []), (3, []), (4, []), (5, [0, 1, 2, 3, 4]), (6, [0, 1, 2, 3, 4, 5]), (7, [0, 1, 2, 3, 4]), (8, [0, 1, 2, 3, 4]), (9, [0, 1, 2, 3, 4]), (10, []), (11, []), (12, []), (13, [12]), (14, []), (15, []), (16, []), (17, [12, 13, 14, 15, 16]), (18, [12, 13, 14, 15, 16, 17]), (19, [12, 13, 14, 15, 16]), (20, [12, 13, 14, 15, 16]), (21, [12, 13, 14, 15, 16]), (22, []), (23, []), (24, [])] [⟨some 17, .mov (.t 0), none, 0⟩,
  ⟨some 18, .mov (.t 5), none, 0⟩,
  ⟨some 19, .idxa ty_impl_Notice (.t 17) (.t 18), none, 0⟩,
  ⟨some 20, .flda 0 (.t 19), none, 0⟩,
  ⟨some 21, .load 1 false (.t 20), none, 0⟩,
  ⟨some 22, .mov (.t 1), none, 0⟩,
  ⟨some 23, .mov (.t 5), none, 0⟩,
  ⟨some 24, .idxa ty_impl_Notice (.t 22) (.t 23), none, 0⟩,
  ⟨some 25, .flda 0 (.t 24), none, 0⟩,
  ⟨some 26, .load 1 false (.t 25), none, 0⟩,
  ⟨some 27, .bin .neq 0 (.t 21) (.t 26), none, 0⟩,
  ⟨some 28, .mov (.t 27), none, 0⟩,
  ⟨some 29, .mov (.t 0), some (28, false), 0⟩,
  ⟨some 30, .mov (.t 5), some (28, false), 0⟩,
  ⟨some 31, .idxa ty_impl_Notice (.t 29) (.t 30), some (28, false), 0⟩,
  ⟨some 32, .flda 1 (.t 31), some (28, false), 0⟩,
  ⟨some 33, .load 12 true (.t 32), some (28, false), 0⟩,
  ⟨some 34, .mov (.t 1), some (28, false), 0⟩,
  ⟨some 35, .mov (.t 5), some (28, false), 0⟩,
  ⟨some 36, .idxa ty_impl_Notice (.t 34) (.t 35), some (28, false), 0⟩,
  ⟨some 37, .flda 1 (.t 36), some (28, false), 0⟩,
  ⟨some 38, .load 12 true (.t 37), some (28, false), 0⟩,
  ⟨some 39, .call fn_spec_l25SameState [.t 33, .t 38], some (28, false), 0⟩,
  ⟨some 40, .un .not (.t 39), some (28, false), 0⟩,
  ⟨some 41, .pick (.t 28) (.k (.bool true)) (.t 40), none, 0⟩]) (.cond (.t 41) (.seq (.reg [⟨some 4, .mov (.k (.bool false)), none, 0⟩]) .ret) .skip))) (.reg [⟨some 15, .mov (.t 5), none, 0⟩,
  ⟨some 16, .bin .add 0 (.t 15) (.k (.int .i64 1)), none, 0⟩,
  ⟨some 5, .mov (.t 16), none, 0⟩])))
def pf_spec_l27SameNotices_l0 : PC := .loop [] pf_spec_l27SameNotices_lb0
def pf_spec_l27SameNotices : PF := ⟨[.val, .val], [0, 1, 5, 28], (.seq (.reg [⟨some 4, .mov (.k (.bool false)), none, 0⟩]) (.seq (.seq (.reg [⟨some 6, .mov (.t 0), none, 0⟩,
  ⟨some 7, .len true (.t 6), none, 0⟩,
  ⟨some 8, .mov (.t 1), none, 0⟩,
  ⟨some 9, .len true (.t 8), none, 0⟩,
  ⟨some 10, .bin .neq 0 (.t 7) (.t 9), none, 0⟩]) (.cond (.t 10) (.seq (.reg [⟨some 4, .mov (.k (.bool false)), none, 0⟩]) .ret) .skip)) (.seq (.seq (.reg [⟨some 5, .mov (.k (.int .i64 0)), none, 0⟩]) (.block 0 pf_spec_l27SameNotices_l0)) (.seq (.reg [⟨some 4, .mov (.k (.bool true)), none, 0⟩]) .ret)))),
  [(4, none)]⟩
def pf_spec_l25SameWait_lb0 : PC := (.seq (.seq (.reg [⟨some 34, .mov (.t 5), none, 0⟩,
  ⟨some 35, .flda 5 (.t 2), none, 0⟩,
  ⟨some 36, .load 1 false (.t 35), none, 0⟩,
  ⟨some 37, .len true (.t 36), none, 0⟩,
  ⟨some 38, .bin .lss 0 (.t 34) (.t 37), none, 0⟩]) (.cond (.t 38) .skip (.exit 0))) (.seq (.block 1 (.seq (.any [(0, []), (1, []), (2, [0, 1]), (3, []), (4, []), (5, [0, 1, 2, 3, 4]), (6, [0, 1, 2, 3, 4]), (7, [0, 1, 2, 3, 4, 5, 6]), (8, [0, 1, 2, 3, 4]), (9, [0, 1, 2, 3, 4]), (10, [])] [⟨some 41, .flda 5 (.t 2), none, 0⟩,
  ⟨some 42, .load 1 false (.t 41), none, 0⟩,
  ⟨some 43, .mov (.t 5), none, 0⟩,
  ⟨some 44, .idxa ty_impl_Got (.t 42) (.t 43), none, 0⟩,
  ⟨some 45, .load 17 true (.t 44), none, 0⟩,
  ⟨some 46, .flda 5 (.t 3), none, 0⟩,
  ⟨some 47, .load 1 false (.t 46), none, 0⟩,
  ⟨some 48, .mov (.t 5), none, 0⟩,
  ⟨some 49, .idxa ty_impl_Got (.t 47) (.t 48), none, 0⟩,
  ⟨some 50, .load 17 true (.t 49), none, 0⟩,
  ⟨some 51, .eqs true [0, 0, 0, 0, 0, 2, 1, 0, 0, 0, 0, 2, 0, 0, 0, 0, 2] (.t 45) (.t 50), none, 0⟩]) (.cond (.t 51) (.seq (.reg [⟨some 4, .mov (.k (.bool false)), none, 0⟩]) .ret) .skip))) (.reg [⟨some 39, .mov (.t 5), none, 0⟩,
  ⟨some 40, .bin .add 0 (.t 39) (.k (.int .i64 1)), none, 0⟩,
  ⟨some 5, .mov (.t 40), none, 0⟩])))
def pf_spec_l25SameWait_l0 : PC := .loop [] pf_spec_l25SameWait_lb0
def pf_spec_l25SameWait : PF := ⟨[.val, .val], [0, 1, 2, 3, 5, 11, 18, 25], (.seq (.reg [⟨some 2, .box (.t 0) 6, none, 0⟩,
  ⟨some 3, .box (.t 1) 6, none, 0⟩,
  ⟨some 4, .mov (.k (.bool false)), none, 0⟩]) (.seq (.seq (.reg [⟨some 6, .flda 0 (.t 2), none, 0⟩,
  ⟨some 7, .load 2 true (.t 6), none, 0⟩,
  ⟨some 8, .flda 0 (.t 3), none, 0⟩,
  ⟨some 9, .load 2 true (.t 8), none, 0⟩,
  ⟨some 10, .eqs true [0, 0] (.t 7) (.t 9), none, 0⟩,
  ⟨some 11, .mov (.t 10), none, 0⟩,
  ⟨some 12, .flda 2 (.t 2), some (11, false), 0⟩,
  ⟨some 13, .load 1 false (.t 12), some (11, false), 0⟩,
  ⟨some 14, .flda 2 (.t 3), some (11, false), 0⟩,
  ⟨some 15, .load 1 false (.t 14), some (11, false), 0⟩,
  ⟨some 16, .bin .neq 0 (.t 13) (.t 15), some (11, false), 0⟩,
  ⟨some 17, .pick (.t 11) (.k (.bool true)) (.t 16), none, 0⟩,
  ⟨some 18, .mov (.t 17), none, 0⟩,
  ⟨some 19, .flda 3 (.t 2), some (18, false), 0⟩,
  ⟨some 20, .load 2 true (.t 19), some (18, false), 0⟩,
  ⟨some 21, .flda 3 (.t 3), some (18, false), 0⟩,
  ⟨some 22, .load 2 true (.t 21), some (18, false), 0⟩,
  ⟨some 23, .eqs true [0, 0] (.t 20) (.t 22), some (18, false), 0⟩,
  ⟨some 24, .pick (.t 18) (.k (.bool true)) (.t 23), none, 0⟩,
  ⟨some 25, .mov (.t 24), none, 0⟩,
  ⟨some 26, .flda 5 (.t 2), some (25, false), 0⟩,
  ⟨some 27, .load 1 false (.t 26), some (25, false), 0⟩,
  ⟨some 28, .len true (.t 27), some (25, false), 0⟩,
  ⟨some 29, .flda 5 (.t 3), some (25, false), 0⟩,
  ⟨some 30, .load 1 false (.t 29), some (25, false), 0⟩,
  ⟨some 31, .len true (.t 30), some (25, false), 0⟩,
  ⟨some 32, .bin .neq 0 (.t 28) (.t 31), some (25, false), 0⟩,
  ⟨some 33, .pick (.t 25) (.k (.bool true)) (.t 32), none, 0⟩]) (.cond (.t 33) (.seq (.reg [⟨some 4, .mov (.k (.bool false)), none, 0⟩]) .ret) .skip)) (.seq (.seq (.reg [⟨some 5, .mov (.k (.int .i64 0)), none, 0⟩]) (.block 0 pf_spec_l25SameWait_l0)) (.seq (.reg [⟨some 4, .mov (.k (.bool true)), none, 0⟩]) .ret)))),
  [(4, none)]⟩
def pf_spec_SameLine_lb0 : PC := (.seq (.seq (.reg [⟨some 63, .mov (.t 5), none, 0⟩,
  ⟨some 64, .flda 16 (.t 2), none, 0⟩,
  ⟨some 65, .load 1 false (.t 64), none, 0⟩,
  ⟨some 66, .len true (.t 65), none, 0⟩,
  ⟨some 67, .bin .lss 0 (.t 63) (.t 66), none, 0⟩]) (.cond (.t 67) .skip (.exit 0))) (.seq (.block 1 (.seq (.any [(0, []), (1, []), (2, [0, 1]), (3, []), (4, []), (5, [0, 1, 2, 3, 4]), (6, [0, 1, 2, 3, 4]), (7, [0, 1, 2, 3, 4, 5, 6]), (8, [0, 1, 2, 3, 4]), (9, [0, 1, 2, 3, 4]), (10, [])] [⟨some 70, .flda 16 (.t 2), none, 0⟩,
  ⟨some 71, .load 1 false (.t 70), none, 0⟩,
  ⟨some 72, .mov (.t 5), none, 0⟩,
  ⟨some 73, .idxa ty_impl_Way (.t 71) (.t 72), none, 0⟩,
  ⟨some 74, .load 11 true (.t 73), none, 0⟩,
  ⟨some 75, .flda 16 (.t 3), none, 0⟩,
  ⟨some 76, .load 1 false (.t 75), none, 0⟩,
  ⟨some 77, .mov (.t 5), none, 0⟩,
  ⟨some 78, .idxa ty_impl_Way (.t 76) (.t 77), none, 0⟩,
  ⟨some 79, .load 11 true (.t 78), none, 0⟩,
  ⟨some 80, .eqs true [0, 0, 0, 0, 2, 1, 0, 0, 0, 0, 2] (.t 74) (.t 79), none, 0⟩]) (.cond (.t 80) (.seq (.reg [⟨some 4, .mov (.k (.bool false)), none, 0⟩]) .ret) .skip))) (.reg [⟨some 68, .mov (.t 5), none, 0⟩,
  ⟨some 69, .bin .add 0 (.t 68) (.k (.int .i64 1)), none, 0⟩,
  ⟨some 5, .mov (.t 69), none, 0⟩])))
def pf_spec_SameLine_l0 : PC := .loop [] pf_spec_SameLine_lb0
def pf_spec_SameLine_lb1 : PC := (.seq (.seq (.reg [⟨some 81, .mov (.t 6), none, 0⟩,
  ⟨some 82, .flda 17 (.t 2), none, 0⟩,
  ⟨some 83, .load 1 false (.t 82), none, 0⟩,
  ⟨some 84, .len true (.t 83), none, 0⟩,
  ⟨some 85, .bin .lss 0 (.t 81) (.t 84), none, 0⟩]) (.cond (.t 85) .skip (.exit 2))) (.seq (.block 3 (.seq (.any [(0, []), (1, []), (2, [0, 1]), (3, []), (4, []), (5, [0, 1, 2, 3, 4]), (6, [0, 1, 2, 3, 4]), (7, [0, 1, 2, 3, 4, 5, 6]), (8, [0, 1, 2, 3, 4]), (9, [0, 1, 2, 3, 4]), (10, [])] [⟨some 88, .flda 17 (.t 2), none, 0⟩,
  ⟨some 89, .load 1 false (.t 88), none, 0⟩,
  ⟨some 90, .mov (.t 6), none, 0⟩,
  ⟨some 91, .idxa ty_impl_Ack (.t 89) (.t 90), none, 0⟩,
  ⟨some 92, .load 3 true (.t 91), none, 0⟩,
  ⟨some 93, .flda 17 (.t 3), none, 0⟩,
  ⟨some 94, .load 1 false (.t 93), none, 0⟩,
  ⟨some 95, .mov (.t 6), none, 0⟩,
  ⟨some 96, .idxa ty_impl_Ack (.t 94) (.t 95), none, 0⟩,
  ⟨some 97, .load 3 true (.t 96), none, 0⟩,
  ⟨some 98, .eqs true [0, 0, 0] (.t 92) (.t 97), none, 0⟩]) (.cond (.t 98) (.seq (.reg [⟨some 4, .mov (.k (.bool false)), none, 0⟩]) .ret) .skip))) (.reg [⟨some 86, .mov (.t 6), none, 0⟩,
  ⟨some 87, .bin .add 0 (.t 86) (.k (.int .i64 1)), none, 0⟩,
  ⟨some 6, .mov (.t 87), none, 0⟩])))
def pf_spec_SameLine_l1 : PC := .loop [] pf_spec_SameLine_lb1
def pf_spec_SameLine_lb2 : PC := (.seq (.seq (.reg [⟨some 99, .mov (.t 7), none, 0⟩,
  ⟨some 100, .flda 18 (.t 2), none, 0⟩,
  ⟨some 101, .load 1 false (.t 100), none, 0⟩,
  ⟨some 102, .len true (.t 101), none, 0⟩,
  ⟨some 103, .bin .lss 0 (.t 99) (.t 102), none, 0⟩]) (.cond (.t 103) .skip (.exit 4))) (.seq (.block 5 (.seq (.any [(0, []), (1, []), (2, [0, 1]), (3, []), (4, []), (5, [0, 1, 2, 3, 4]), (6, [0, 1, 2, 3, 4]), (7, [0, 1, 2, 3, 4, 5, 6]), (8, [0, 1, 2, 3, 4]), (9, [0, 1, 2, 3, 4]), (10, []), (11, [])] [⟨some 106, .flda 18 (.t 2), none, 0⟩,
  ⟨some 107, .load 1 false (.t 106), none, 0⟩,
  ⟨some 108, .mov (.t 7), none, 0⟩,
  ⟨some 109, .idxa ty_impl_Wait (.t 107) (.t 108), none, 0⟩,
  ⟨some 110, .load 6 true (.t 109), none, 0⟩,
  ⟨some 111, .flda 18 (.t 3), none, 0⟩,
  ⟨some 112, .load 1 false (.t 111), none, 0⟩,
  ⟨some 113, .mov (.t 7), none, 0⟩,
  ⟨some 114, .idxa ty_impl_Wait (.t 112) (.t 113), none, 0⟩,
  ⟨some 115, .load 6 true (.t 114), none, 0⟩,
  ⟨some 116, .call fn_spec_l25SameWait [.t 110, .t 115], none, 0⟩,
  ⟨some 117, .un .not (.t 116), none, 0⟩]) (.cond (.t 117) (.seq (.reg [⟨some 4, .mov (.k (.bool false)), none, 0⟩]) .ret) .skip))) (.reg [⟨some 104, .mov (.t 7), none, 0⟩,
  ⟨some 105, .bin .add 0 (.t 104) (.k (.int .i64 1)), none, 0⟩,
  ⟨some 7, .mov (.t 105), none, 0⟩])))
def pf_spec_SameLine_l2 : PC := .loop [] pf_spec_SameLine_lb2
def pf_spec_SameLine : PF := ⟨[.val, .val], [0, 1, 2, 3, 5, 6, 7, 13, 20, 28, 36, 45, 54], (.seq (.reg [⟨some 2, .box (.t 0) 19, none, 0⟩,
  ⟨some 3, .box (.t 1) 19, none, 0⟩,
  ⟨some 4, .mov (.k (.bool false)), none, 0⟩]) (.seq (.seq (.reg [⟨some 8, .flda 0 (.t 2), none, 0⟩,
  ⟨some 9, .load 1 false (.t 8), none, 0⟩,
  ⟨some 10, .flda 0 (.t 3), none, 0⟩,
  ⟨some 11, .load 1 false (.t 10), none, 0⟩,
  ⟨some 12, .bin .neq 0 (.t 9) (.t 11), none, 0⟩,
  ⟨some 13, .mov (.t 12), none, 0⟩,
  ⟨some 14, .flda 1 (.t 2), some (13, false), 0⟩,
  ⟨some 15, .load 2 true (.t 14), some (13, false), 0⟩,
  ⟨some 16, .flda 1 (.t 3), some (13, false), 0⟩,
  ⟨some 17, .load 2 true (.t 16), some (13, false), 0⟩,
  ⟨some 18, .eqs true [0, 0] (.t 15) (.t 17), some (13, false), 0⟩,
  ⟨some 19, .pick (.t 13) (.k (.bool true)) (.t 18), none, 0⟩,
  ⟨some 20, .mov (.t 19), none, 0⟩,
  ⟨some 21, .flda 3 (.t 2), some (20, false), 0⟩,
  ⟨some 22, .load 1 false (.t 21), some (20, false), 0⟩,
  ⟨some 23, .flda 3 (.t 3), some (20, false), 0⟩,
  ⟨some 24, .load 1 false (.t 23), some (20, false), 0⟩,
  ⟨some 25, .call fn_spec_l00Same [.t 22, .t 24], some (20, false), 0⟩,
  ⟨some 26, .un .not (.t 25), some (20, false), 0⟩,
  ⟨some 27, .pick (.t 20) (.k (.bool true)) (.t 26), none, 0⟩,
  ⟨some 28, .mov (.t 27), none, 0⟩,
  ⟨some 29, .flda 4 (.t 2), some (28, false), 0⟩,
  ⟨some 30, .load 12 true (.t 29), some (28, false), 0⟩,
  ⟨some 31, .flda 4 (.t 3), some (28, false), 0⟩,
  ⟨some 32, .load 12 true (.t 31), some (28, false), 0⟩,
  ⟨some 33, .call fn_spec_l25SameState [.t 30, .t 32], some (28, false), 0⟩,
  ⟨some 34, .un .not (.t 33), some (28, false), 0⟩,
  ⟨some 35, .pick (.t 28) (.k (.bool true)) (.t 34), none, 0⟩,
  ⟨some 36, .mov (.t 35), none, 0⟩,
  ⟨some 37, .flda 16 (.t 2), some (36, false), 0⟩,
  ⟨some 38, .load 1 false (.t 37), some (36, false), 0⟩,
  ⟨some 39, .len true (.t 38), some (36, false), 0⟩,
  ⟨some 40, .flda 16 (.t 3), some (36, false), 0⟩,
  ⟨some 41, .load 1 false (.t 40), some (36, false), 0⟩,
  ⟨some 42, .len true (.t 41), some (36, false), 0⟩,
  ⟨some 43, .bin .neq 0 (.t 39) (.t 42), some (36, false), 0⟩,
  ⟨some 44, .pick (.t 36) (.k (.bool true)) (.t 43), none, 0⟩,
  ⟨some 45, .mov (.t 44), none, 0⟩,
  ⟨some 46, .flda 17 (.t 2), some (45, false), 0⟩,
  ⟨some 47, .load 1 false (.t 46), some (45, false), 0⟩,
  ⟨some 48, .len true (.t 47), some (45, false), 0⟩,
  ⟨some 49, .flda 17 (.t 3), some (45, false), 0⟩,
  ⟨some 50, .load 1 false (.t 49), some (45, false), 0⟩,
  ⟨some 51, .len true (.t 50), some (45, false), 0⟩,
  ⟨some 52, .bin .neq 0 (.t 48) (.t 51), some (45, false), 0⟩,
  ⟨some 53, .pick (.t 45) (.k (.bool true)) (.t 52), none, 0⟩,
  ⟨some 54, .mov (.t 53), none, 0⟩,
  ⟨some 55, .flda 18 (.t 2), some (54, false), 0⟩,
  ⟨some 56, .load 1 false (.t 55), some (54, false), 0⟩,
  ⟨some 57, .len true (.t 56), some (54, false), 0⟩,
  ⟨some 58, .flda 18 (.t 3), some (54, false), 0⟩,
  ⟨some 59, .load 1 false (.t 58), some (54, false), 0⟩,
  ⟨some 60, .len true (.t 59), some (54, false), 0⟩,
  ⟨some 61, .bin .neq 0 (.t 57) (.t 60), some (54, false), 0⟩,
  ⟨some 62, .pick (.t 54) (.k (.bool true)) (.t 61), none, 0⟩]) (.cond (.t 62) (.seq (.reg [⟨some 4, .mov (.k (.bool false)), none, 0⟩]) .ret) .skip)) (.seq (.seq (.reg [⟨some 5, .mov (.k (.int .i64 0)), none, 0⟩]) (.block 0 pf_spec_SameLine_l0)) (.seq (.seq (.reg [⟨some 6, .mov (.k (.int .i64 0)), none, 0⟩]) (.block 2 pf_spec_SameLine_l1)) (.seq (.seq (.reg [⟨some 7, .mov (.k (.int .i64 0)), none, 0⟩]) (.block 4 pf_spec_SameLine_l2)) (.seq (.reg [⟨some 4, .mov (.k (.bool true)), none, 0⟩]) .ret)))))),
  [(4, none)]⟩
def pf_spec_SameLead_lb0 : PC := (.seq (.seq (.reg [⟨some 99, .mov (.t 5), none, 0⟩,
  ⟨some 100, .flda 21 (.t 2), none, 0⟩,
  ⟨some 101, .load 1 false (.t 100), none, 0⟩,
  ⟨some 102, .len true (.t 101), none, 0⟩,
  ⟨some 103, .bin .lss 0 (.t 99) (.t 102), none, 0⟩]) (.cond (.t 103) .skip (.exit 0))) (.seq (.block 1 (.seq (.any [(0, []), (1, []), (2, [0, 1]), (3, []), (4, []), (5, [0, 1, 2, 3, 4]), (6, [0, 1, 2, 3, 4]), (7, [0, 1, 2, 3, 4, 5, 6]), (8, [0, 1, 2, 3, 4]), (9, [0, 1, 2, 3, 4]), (10, [])] [⟨some 106, .flda 21 (.t 2), none, 0⟩,
  ⟨some 107, .load 1 false (.t 106), none, 0⟩,
  ⟨some 108, .mov (.t 5), none, 0⟩,
  ⟨some 109, .idxa ty_impl_Fill (.t 107) (.t 108), none, 0⟩,
  ⟨some 110, .load 7 true (.t 109), none, 0⟩,
  ⟨some 111, .flda 21 (.t 3), none, 0⟩,
  ⟨some 112, .load 1 false (.t 111), none, 0⟩,
  ⟨some 113, .mov (.t 5), none, 0⟩,
  ⟨some 114, .idxa ty_impl_Fill (.t 112) (.t 113), none, 0⟩,
  ⟨some 115, .load 7 true (.t 114), none, 0⟩,
  ⟨some 116, .eqs true [0, 0, 2, 0, 0, 0, 0] (.t 110) (.t 115), none, 0⟩]) (.cond (.t 116) (.seq (.reg [⟨some 4, .mov (.k (.bool false)), none, 0⟩]) .ret) .skip))) (.reg [⟨some 104, .mov (.t 5), none, 0⟩,
  ⟨some 105, .bin .add 0 (.t 104) (.k (.int .i64 1)), none, 0⟩,
  ⟨some 5, .mov (.t 105), none, 0⟩])))
def pf_spec_SameLead_l0 : PC := .loop [] pf_spec_SameLead_lb0
def pf_spec_SameLead_lb1 : PC := (.seq (.seq (.reg [⟨some 117, .mov (.t 6), none, 0⟩,
  ⟨some 118, .flda 22 (.t 2), none, 0⟩,
  ⟨some 119, .load 1 false (.t 118), none, 0⟩,
  ⟨some 120, .len true (.t 119), none, 0⟩,
  ⟨some 121, .bin .lss 0 (.t 117) (.t 120), none, 0⟩]) (.cond (.t 121) .skip (.exit 2))) (.seq (.block 3 (.seq (.any [(0, []), (1, []), (2, [0, 1]), (3, []), (4, []), (5, [0, 1, 2, 3, 4]), (6, [0, 1, 2, 3, 4]), (7, [0, 1, 2, 3, 4, 5, 6]), (8, [0, 1, 2, 3, 4]), (9, [0, 1, 2, 3, 4]), (10, [])] [⟨some 124, .flda 22 (.t 2), none, 0⟩,
  ⟨some 125, .load 1 false (.t 124), none, 0⟩,
  ⟨some 126, .mov (.t 6), none, 0⟩,
  ⟨some 127, .idxa ty_impl_Chunk (.t 125) (.t 126), none, 0⟩,
  ⟨some 128, .load 6 true (.t 127), none, 0⟩,
  ⟨some 129, .flda 22 (.t 3), none, 0⟩,
  ⟨some 130, .load 1 false (.t 129), none, 0⟩,
  ⟨some 131, .mov (.t 6), none, 0⟩,
  ⟨some 132, .idxa ty_impl_Chunk (.t 130) (.t 131), none, 0⟩,
  ⟨some 133, .load 6 true (.t 132), none, 0⟩,
  ⟨some 134, .eqs true [2, 0, 0, 0, 0, 2] (.t 128) (.t 133), none, 0⟩]) (.cond (.t 134) (.seq (.reg [⟨some 4, .mov (.k (.bool false)), none, 0⟩]) .ret) .skip))) (.reg [⟨some 122, .mov (.t 6), none, 0⟩,
  ⟨some 123, .bin .add 0 (.t 122) (.k (.int .i64 1)), none, 0⟩,
  ⟨some 6, .mov (.t 123), none, 0⟩])))
def pf_spec_SameLead_l1 : PC := .loop [] pf_spec_SameLead_lb1
def pf_spec_SameLead : PF := ⟨[.val, .val], [0, 1, 2, 3, 5, 6, 12, 19, 26, 33, 41, 49, 57, 65, 74, 83, 91], (.seq (.reg [⟨some 2, .box (.t 0) 43, none, 0⟩,
  ⟨some 3, .box (.t 1) 43, none, 0⟩,
  ⟨some 4, .mov (.k (.bool false)), none, 0⟩]) (.seq (.seq (.reg [⟨some 7, .flda 0 (.t 2), none, 0⟩,
  ⟨some 8, .load 2 true (.t 7), none, 0⟩,
  ⟨some 9, .flda 0 (.t 3), none, 0⟩,
  ⟨some 10, .load 2 true (.t 9), none, 0⟩,
  ⟨some 11, .eqs true [0, 0] (.t 8) (.t 10), none, 0⟩,
  ⟨some 12, .mov (.t 11), none, 0⟩,
  ⟨some 13, .flda 2 (.t 2), some (12, false), 0⟩,
  ⟨some 14, .load 1 false (.t 13), some (12, false), 0⟩,
  ⟨some 15, .flda 2 (.t 3), some (12, false), 0⟩,
  ⟨some 16, .load 1 false (.t 15), some (12, false), 0⟩,
  ⟨some 17, .bin .neq 0 (.t 14) (.t 16), some (12, false), 0⟩,
  ⟨some 18, .pick (.t 12) (.k (.bool true)) (.t 17), none, 0⟩,
  ⟨some 19, .mov (.t 18), none, 0⟩,
  ⟨some 20, .flda 3 (.t 2), some (19, false), 0⟩,
  ⟨some 21, .load 1 false (.t 20), some (19, false), 0⟩,
  ⟨some 22, .flda 3 (.t 3), some (19, false), 0⟩,
  ⟨some 23, .load 1 false (.t 22), some (19, false), 0⟩,
  ⟨some 24, .bin .neq 0 (.t 21) (.t 23), some (19, false), 0⟩,
  ⟨some 25, .pick (.t 19) (.k (.bool true)) (.t 24), none, 0⟩,
  ⟨some 26, .mov (.t 25), none, 0⟩,
  ⟨some 27, .flda 4 (.t 2), some (26, false), 0⟩,
  ⟨some 28, .load 2 true (.t 27), some (26, false), 0⟩,
  ⟨some 29, .flda 4 (.t 3), some (26, false), 0⟩,
  ⟨some 30, .load 2 true (.t 29), some (26, false), 0⟩,
  ⟨some 31, .eqs true [0, 0] (.t 28) (.t 30), some (26, false), 0⟩,
  ⟨some 32, .pick (.t 26) (.k (.bool true)) (.t 31), none, 0⟩,
  ⟨some 33, .mov (.t 32), none, 0⟩,
  ⟨some 34, .flda 6 (.t 2), some (33, false), 0⟩,
  ⟨some 35, .load 1 false (.t 34), some (33, false), 0⟩,
  ⟨some 36, .flda 6 (.t 3), some (33, false), 0⟩,
  ⟨some 37, .load 1 false (.t 36), some (33, false), 0⟩,
  ⟨some 38, .call fn_spec_l00Same [.t 35, .t 37], some (33, false), 0⟩,
  ⟨some 39, .un .not (.t 38), some (33, false), 0⟩,
  ⟨some 40, .pick (.t 33) (.k (.bool true)) (.t 39), none, 0⟩,
  ⟨some 41, .mov (.t 40), none, 0⟩,
  ⟨some 42, .flda 7 (.t 2), some (41, false), 0⟩,
  ⟨some 43, .load 1 false (.t 42), some (41, false), 0⟩,
  ⟨some 44, .flda 7 (.t 3), some (41, false), 0⟩,
  ⟨some 45, .load 1 false (.t 44), some (41, false), 0⟩,
  ⟨some 46, .call fn_spec_l27SameIvs [.t 43, .t 45], some (41, false), 0⟩,
  ⟨some 47, .un .not (.t 46), some (41, false), 0⟩,
  ⟨some 48, .pick (.t 41) (.k (.bool true)) (.t 47), none, 0⟩,
  ⟨some 49, .mov (.t 48), none, 0⟩,
  ⟨some 50, .flda 8 (.t 2), some (49, false), 0⟩,
  ⟨some 51, .load 1 false (.t 50), some (49, false), 0⟩,
  ⟨some 52, .flda 8 (.t 3), some (49, false), 0⟩,
  ⟨some 53, .load 1 false (.t 52), some (49, false), 0⟩,
  ⟨some 54, .call fn_spec_l27SameNotices [.t 51, .t 53], some (49, false), 0⟩,
  ⟨some 55, .un .not (.t 54), some (49, false), 0⟩,
  ⟨some 56, .pick (.t 49) (.k (.bool true)) (.t 55), none, 0⟩,
  ⟨some 57, .mov (.t 56), none, 0⟩,
  ⟨some 58, .flda 9 (.t 2), some (57, false), 0⟩,
  ⟨some 59, .load 12 true (.t 58), some (57, false), 0⟩,
  ⟨some 60, .flda 9 (.t 3), some (57, false), 0⟩,
  ⟨some 61, .load 12 true (.t 60), some (57, false), 0⟩,
  ⟨some 62, .call fn_spec_l25SameState [.t 59, .t 61], some (57, false), 0⟩,
  ⟨some 63, .un .not (.t 62), some (57, false), 0⟩,
  ⟨some 64, .pick (.t 57) (.k (.bool true)) (.t 63), none, 0⟩,
  ⟨some 65, .mov (.t 64), none, 0⟩,
  ⟨some 66, .flda 21 (.t 2), some (65, false), 0⟩,
  ⟨some 67, .load 1 false (.t 66), some (65, false), 0⟩,
  ⟨some 68, .len true (.t 67), some (65, false), 0⟩,
  ⟨some 69, .flda 21 (.t 3), some (65, false), 0⟩,
  ⟨some 70, .load 1 false (.t 69), some (65, false), 0⟩,
  ⟨some 71, .len true (.t 70), some (65, false), 0⟩,
  ⟨some 72, .bin .neq 0 (.t 68) (.t 71), some (65, false), 0⟩,
  ⟨some 73, .pick (.t 65) (.k (.bool true)) (.t 72), none, 0⟩,
  ⟨some 74, .mov (.t 73), none, 0⟩,
  ⟨some 75, .flda 22 (.t 2), some (74, false), 0⟩,
  ⟨some 76, .load 1 false (.t 75), some (74, false), 0⟩,
  ⟨some 77, .len true (.t 76), some (74, false), 0⟩,
  ⟨some 78, .flda 22 (.t 3), some (74, false), 0⟩,
  ⟨some 79, .load 1 false (.t 78), some (74, false), 0⟩,
  ⟨some 80, .len true (.t 79), some (74, false), 0⟩,
  ⟨some 81, .bin .neq 0 (.t 77) (.t 80), some (74, false), 0⟩,
  ⟨some 82, .pick (.t 74) (.k (.bool true)) (.t 81), none, 0⟩,
  ⟨some 83, .mov (.t 82), none, 0⟩,
  ⟨some 84, .flda 23 (.t 2), some (83, false), 0⟩,
  ⟨some 85, .load 1 false (.t 84), some (83, false), 0⟩,
  ⟨some 86, .flda 23 (.t 3), some (83, false), 0⟩,
  ⟨some 87, .load 1 false (.t 86), some (83, false), 0⟩,
  ⟨some 88, .call fn_spec_l00Same [.t 85, .t 87], some (83, false), 0⟩,
  ⟨some 89, .un .not (.t 88), some (83, false), 0⟩,
  ⟨some 90, .pick (.t 83) (.k (.bool true)) (.t 89), none, 0⟩,
  ⟨some 91, .mov (.t 90), none, 0⟩,
  ⟨some 92, .flda 24 (.t 2), some (91, false), 0⟩,
  ⟨some 93, .load 19 true (.t 92), some (91, false), 0⟩,
  ⟨some 94, .flda 24 (.t 3), some (91, false), 0⟩,
  ⟨some 95, .load 19 true (.t 94), some (91, false), 0⟩,
  ⟨some 96, .call fn_spec_SameLine [.t 93, .t 95], some (91, false), 0⟩,
  ⟨some 97, .un .not (.t 96), some (91, false), 0⟩,
  ⟨some 98, .pick (.t 91) (.k (.bool true)) (.t 97), none, 0⟩]) (.cond (.t 98) (.seq (.reg [⟨some 4, .mov (.k (.bool false)), none, 0⟩]) .ret) .skip)) (.seq (.seq (.reg [⟨some 5, .mov (.k (.int .i64 0)), none, 0⟩]) (.block 0 pf_spec_SameLead_l0)) (.seq (.seq (.reg [⟨some 6, .mov (.k (.int .i64 0)), none, 0⟩]) (.block 2 pf_spec_SameLead_l1)) (.seq (.reg [⟨some 4, .mov (.k (.bool true)), none, 0⟩]) .ret))))),
  [(4, none)]⟩
def pf_spec_l17Same_lb0 : PC := (.seq (.seq (.reg [⟨some 78, .mov (.t 5), none, 0⟩,
  ⟨some 79, .flda 6 (.t 2), none, 0⟩,
  ⟨some 80, .load 1 false (.t 79), none, 0⟩,
  ⟨some 81, .len true (.t 80), none, 0⟩,
  ⟨some 82, .bin .lss 0 (.t 78) (.t 81), none, 0⟩]) (.cond (.t 82) .skip (.exit 0))) (.seq (.block 1 (.seq (.any [(0, []), (1, []), (2, [0, 1]), (3, []), (4, []), (5, [0, 1, 2, 3, 4]), (6, [0, 1, 2, 3, 4]), (7, [0, 1, 2, 3, 4, 5, 6]), (8, [0, 1, 2, 3, 4]), (9, [0, 1, 2, 3, 4]), (10, [])] [⟨some 85, .flda 6 (.t 2), none, 0⟩,
  ⟨some 86, .load 1 false (.t 85), none, 0⟩,
  ⟨some 87, .mov (.t 5), none, 0⟩,
  ⟨some 88, .idxa ty_impl_Head (.t 86) (.t 87), none, 0⟩,
  ⟨some 89, .load 5 true (.t 88), none, 0⟩,
  ⟨some 90, .flda 6 (.t 3), none, 0⟩,
  ⟨some 91, .load 1 false (.t 90), none, 0⟩,
  ⟨some 92, .mov (.t 5), none, 0⟩,
  ⟨some 93, .idxa ty_impl_Head (.t 91) (.t 92), none, 0⟩,
  ⟨some 94, .load 5 true (.t 93), none, 0⟩,
  ⟨some 95, .eqs true [2, 0, 0, 0, 0] (.t 89) (.t 94), none, 0⟩]) (.cond (.t 95) (.seq (.reg [⟨some 4, .mov (.k (.bool false)), none, 0⟩]) .ret) .skip))) (.reg [⟨some 83, .mov (.t 5), none, 0⟩,
  ⟨some 84, .bin .add 0 (.t 83) (.k (.int .i64 1)), none, 0⟩,
  ⟨some 5, .mov (.t 84), none, 0⟩])))
def pf_spec_l17Same_l0 : PC := .loop [] pf_spec_l17Same_lb0
def pf_spec_l17Same_lb1 : PC := (.seq (.seq (.reg [⟨some 96, .mov (.t 6), none, 0⟩,
  ⟨some 97, .flda 7 (.t 2), none, 0⟩,
  ⟨some 98, .load 1 false (.t 97), none, 0⟩,
  ⟨some 99, .len true (.t 98), none, 0⟩,
  ⟨some 100, .bin .lss 0 (.t 96) (.t 99), none, 0⟩]) (.cond (.t 100) .skip (.exit 2))) (.seq (.block 3 (.seq (.any [(0, []), (1, []), (2, [0, 1]), (3, []), (4, []), (5, [0, 1, 2, 3, 4]), (6, [0, 1, 2, 3, 4]), (7, [0, 1, 2, 3, 4, 5, 6]), (8, [0, 1, 2, 3, 4]), (9, [0, 1, 2, 3, 4]), (10, [])] [⟨some 103, .flda 7 (.t 2), none, 0⟩,
  ⟨some 104, .load 1 false (.t 103), none, 0⟩,
  ⟨some 105, .mov (.t 6), none, 0⟩,
  ⟨some 106, .idxa ty_impl_Last (.t 104) (.t 105), none, 0⟩,
  ⟨some 107, .load 4 true (.t 106), none, 0⟩,
  ⟨some 108, .flda 7 (.t 3), none, 0⟩,
  ⟨some 109, .load 1 false (.t 108), none, 0⟩,
  ⟨some 110, .mov (.t 6), none, 0⟩,
  ⟨some 111, .idxa ty_impl_Last (.t 109) (.t 110), none, 0⟩,
  ⟨some 112, .load 4 true (.t 111), none, 0⟩,
  ⟨some 113, .eqs true [0, 0, 0, 0] (.t 107) (.t 112), none, 0⟩]) (.cond (.t 113) (.seq (.reg [⟨some 4, .mov (.k (.bool false)), none, 0⟩]) .ret) .skip))) (.reg [⟨some 101, .mov (.t 6), none, 0⟩,
  ⟨some 102, .bin .add 0 (.t 101) (.k (.int .i64 1)), none, 0⟩,
  ⟨some 6, .mov (.t 102), none, 0⟩])))
def pf_spec_l17Same_l1 : PC := .loop [] pf_spec_l17Same_lb1
def pf_spec_l17Same_lb2 : PC := (.seq (.seq (.reg [⟨some 114, .mov (.t 7), none, 0⟩,
  ⟨some 115, .flda 8 (.t 2), none, 0⟩,
  ⟨some 116, .load 1 false (.t 115), none, 0⟩,
  ⟨some 117, .len true (.t 116), none, 0⟩,
  ⟨some 118, .bin .lss 0 (.t 114) (.t 117), none, 0⟩]) (.cond (.t 118) .skip (.exit 4))) (.seq (.block 5 (.seq (.any [(0, []), (1, []), (2, [0, 1]), (3, []), (4, []), (5, [0, 1, 2, 3, 4]), (6, [0, 1, 2, 3, 4]), (7, [0, 1, 2, 3, 4, 5, 6]), (8, [0, 1, 2, 3, 4]), (9, [0, 1, 2, 3, 4]), (10, [])] [⟨some 121, .flda 8 (.t 2), none, 0⟩,
  ⟨some 122, .load 1 false (.t 121), none, 0⟩,
  ⟨some 123, .mov (.t 7), none, 0⟩,
  ⟨some 124, .idxa ty_impl_Entry (.t 122) (.t 123), none, 0⟩,
  ⟨some 125, .load 10 true (.t 124), none, 0⟩,
  ⟨some 126, .flda 8 (.t 3), none, 0⟩,
  ⟨some 127, .load 1 false (.t 126), none, 0⟩,
  ⟨some 128, .mov (.t 7), none, 0⟩,
  ⟨some 129, .idxa ty_impl_Entry (.t 127) (.t 128), none, 0⟩,
  ⟨some 130, .load 10 true (.t 129), none, 0⟩,
  ⟨some 131, .eqs true [0, 0, 0, 0, 2, 1, 0, 0, 0, 0] (.t 125) (.t 130), none, 0⟩]) (.cond (.t 131) (.seq (.reg [⟨some 4, .mov (.k (.bool false)), none, 0⟩]) .ret) .skip))) (.reg [⟨some 119, .mov (.t 7), none, 0⟩,
  ⟨some 120, .bin .add 0 (.t 119) (.k (.int .i64 1)), none, 0⟩,
  ⟨some 7, .mov (.t 120), none, 0⟩])))
def pf_spec_l17Same_l2 : PC := .loop [] pf_spec_l17Same_lb2
def pf_spec_l17Same_lb3 : PC := (.seq (.seq (.reg [⟨some 132, .mov (.t 8), none, 0⟩,
  ⟨some 133, .flda 11 (.t 2), none, 0⟩,
  ⟨some 134, .load 1 false (.t 133), none, 0⟩,
  ⟨some 135, .len true (.t 134), none, 0⟩,
  ⟨some 136, .bin .lss 0 (.t 132) (.t 135), none, 0⟩]) (.cond (.t 136) .skip (.exit 6))) (.seq (.block 7 (.seq (.any [(0, []), (1, []), (2, [0, 1]), (3, []), (4, []), (5, [0, 1, 2, 3, 4]), (6, [0, 1, 2, 3, 4]), (7, [0, 1, 2, 3, 4, 5, 6]), (8, [0, 1, 2, 3, 4]), (9, [0, 1, 2, 3, 4]), (10, [])] [⟨some 139, .flda 11 (.t 2), none, 0⟩,
  ⟨some 140, .load 1 false (.t 139), none, 0⟩,
  ⟨some 141, .mov (.t 8), none, 0⟩,
  ⟨some 142, .idxa ty_impl_Chunk (.t 140) (.t 141), none, 0⟩,
  ⟨some 143, .load 6 true (.t 142), none, 0⟩,
  ⟨some 144, .flda 11 (.t 3), none, 0⟩,
  ⟨some 145, .load 1 false (.t 144), none, 0⟩,
  ⟨some 146, .mov (.t 8), none, 0⟩,
  ⟨some 147, .idxa ty_impl_Chunk (.t 145) (.t 146), none, 0⟩,
  ⟨some 148, .load 6 true (.t 147), none, 0⟩,
  ⟨some 149, .eqs true [2, 0, 0, 0, 0, 2] (.t 143) (.t 148), none, 0⟩]) (.cond (.t 149) (.seq (.reg [⟨some 4, .mov (.k (.bool false)), none, 0⟩]) .ret) .skip))) (.reg [⟨some 137, .mov (.t 8), none, 0⟩,
  ⟨some 138, .bin .add 0 (.t 137) (.k (.int .i64 1)), none, 0⟩,
  ⟨some 8, .mov (.t 138), none, 0⟩])))
def pf_spec_l17Same_l3 : PC := .loop [] pf_spec_l17Same_lb3
def pf_spec_l17Same : PF := ⟨[.val, .val], [0, 1, 2, 3, 5, 6, 7, 8, 14, 21, 28, 35, 42, 51, 60, 69], (.seq (.reg [⟨some 2, .box (.t 0) 12, none, 0⟩,
  ⟨some 3, .box (.t 1) 12, none, 0⟩,
  ⟨some 4, .mov (.k (.bool false)), none, 0⟩]) (.seq (.seq (.reg [⟨some 9, .flda 0 (.t 2), none, 0⟩,
  ⟨some 10, .load 2 true (.t 9), none, 0⟩,
  ⟨some 11, .flda 0 (.t 3), none, 0⟩,
  ⟨some 12, .load 2 true (.t 11), none, 0⟩,
  ⟨some 13, .eqs true [0, 0] (.t 10) (.t 12), none, 0⟩,
  ⟨some 14, .mov (.t 13), none, 0⟩,
  ⟨some 15, .flda 2 (.t 2), some (14, false), 0⟩,
  ⟨some 16, .load 1 false (.t 15), some (14, false), 0⟩,
  ⟨some 17, .flda 2 (.t 3), some (14, false), 0⟩,
  ⟨some 18, .load 1 false (.t 17), some (14, false), 0⟩,
  ⟨some 19, .bin .neq 0 (.t 16) (.t 18), some (14, false), 0⟩,
  ⟨some 20, .pick (.t 14) (.k (.bool true)) (.t 19), none, 0⟩,
  ⟨some 21, .mov (.t 20), none, 0⟩,
  ⟨some 22, .flda 3 (.t 2), some (21, false), 0⟩,
  ⟨some 23, .load 1 false (.t 22), some (21, false), 0⟩,
  ⟨some 24, .flda 3 (.t 3), some (21, false), 0⟩,
  ⟨some 25, .load 1 false (.t 24), some (21, false), 0⟩,
  ⟨some 26, .bin .neq 0 (.t 23) (.t 25), some (21, false), 0⟩,
  ⟨some 27, .pick (.t 21) (.k (.bool true)) (.t 26), none, 0⟩,
  ⟨some 28, .mov (.t 27), none, 0⟩,
  ⟨some 29, .flda 4 (.t 2), some (28, false), 0⟩,
  ⟨some 30, .load 2 true (.t 29), some (28, false), 0⟩,
  ⟨some 31, .flda 4 (.t 3), some (28, false), 0⟩,
  ⟨some 32, .load 2 true (.t 31), some (28, false), 0⟩,
  ⟨some 33, .eqs true [0, 0] (.t 30) (.t 32), some (28, false), 0⟩,
  ⟨some 34, .pick (.t 28) (.k (.bool true)) (.t 33), none, 0⟩,
  ⟨some 35, .mov (.t 34), none, 0⟩,
  ⟨some 36, .flda 9 (.t 2), some (35, false), 0⟩,
  ⟨some 37, .load 2 true (.t 36), some (35, false), 0⟩,
  ⟨some 38, .flda 9 (.t 3), some (35, false), 0⟩,
  ⟨some 39, .load 2 true (.t 38), some (35, false), 0⟩,
  ⟨some 40, .eqs true [0, 0] (.t 37) (.t 39), some (35, false), 0⟩,
  ⟨some 41, .pick (.t 35) (.k (.bool true)) (.t 40), none, 0⟩,
  ⟨some 42, .mov (.t 41), none, 0⟩,
  ⟨some 43, .flda 6 (.t 2), some (42, false), 0⟩,
  ⟨some 44, .load 1 false (.t 43), some (42, false), 0⟩,
  ⟨some 45, .len true (.t 44), some (42, false), 0⟩,
  ⟨some 46, .flda 6 (.t 3), some (42, false), 0⟩,
  ⟨some 47, .load 1 false (.t 46), some (42, false), 0⟩,
  ⟨some 48, .len true (.t 47), some (42, false), 0⟩,
  ⟨some 49, .bin .neq 0 (.t 45) (.t 48), some (42, false), 0⟩,
  ⟨some 50, .pick (.t 42) (.k (.bool true)) (.t 49), none, 0⟩,
  ⟨some 51, .mov (.t 50), none, 0⟩,
  ⟨some 52, .flda 7 (.t 2), some (51, false), 0⟩,
  ⟨some 53, .load 1 false (.t 52), some (51, false), 0⟩,
  ⟨some 54, .len true (.t 53), some (51, false), 0⟩,
  ⟨some 55, .flda 7 (.t 3), some (51, false), 0⟩,
  ⟨some 56, .load 1 false (.t 55), some (51, false), 0⟩,
  ⟨some 57, .len true (.t 56), some (51, false), 0⟩,
  ⟨some 58, .bin .neq 0 (.t 54) (.t 57), some (51, false), 0⟩,
  ⟨some 59, .pick (.t 51) (.k (.bool true)) (.t 58), none, 0⟩,
  ⟨some 60, .mov (.t 59), none, 0⟩,
  ⟨some 61, .flda 8 (.t 2), some (60, false), 0⟩,
  ⟨some 62, .load 1 false (.t 61), some (60, false), 0⟩,
  ⟨some 63, .len true (.t 62), some (60, false), 0⟩,
  ⟨some 64, .flda 8 (.t 3), some (60, false), 0⟩,
  ⟨some 65, .load 1 false (.t 64), some (60, false), 0⟩,
  ⟨some 66, .len true (.t 65), some (60, false), 0⟩,
  ⟨some 67, .bin .neq 0 (.t 63) (.t 66), some (60, false), 0⟩,
  ⟨some 68, .pick (.t 60) (.k (.bool true)) (.t 67), none, 0⟩,
  ⟨some 69, .mov (.t 68), none, 0⟩,
  ⟨some 70, .flda 11 (.t 2), some (69, false), 0⟩,
  ⟨some 71, .load 1 false (.t 70), some (69, false), 0⟩,
  ⟨some 72, .len true (.t 71), some (69, false), 0⟩,
  ⟨some 73, .flda 11 (.t 3), some (69, false), 0⟩,
  ⟨some 74, .load 1 false (.t 73), some (69, false), 0⟩,
  ⟨some 75, .len true (.t 74), some (69, false), 0⟩,
  ⟨some 76, .bin .neq 0 (.t 72) (.t 75), some (69, false), 0⟩,
  ⟨some 77, .pick (.t 69) (.k (.bool true)) (.t 76), none, 0⟩]) (.cond (.t 77) (.seq (.reg [⟨some 4, .mov (.k (.bool false)), none, 0⟩]) .ret) .skip)) (.seq (.seq (.reg [⟨some 5, .mov (.k (.int .i64 0)), none, 0⟩]) (.block 0 pf_spec_l17Same_l0)) (.seq (.seq (.reg [⟨some 6, .mov (.k (.int .i64 0)), none, 0⟩]) (.block 2 pf_spec_l17Same_l1)) (.seq (.seq (.reg [⟨some 7, .mov (.k (.int .i64 0)), none, 0⟩]) (.block 4 pf_spec_l17Same_l2)) (.seq (.seq (.reg [⟨some 8, .mov (.k (.int .i64 0)), none, 0⟩]) (.block 6 pf_spec_l17Same_l3)) (.seq (.reg [⟨some 4, .mov (.k (.bool true)), none, 0⟩]) .ret))))))),
  [(4, none)]⟩
def pf_spec_MsgSame : PF := ⟨[.val, .val], [0, 1, 2, 3, 10, 17, 24, 31, 38, 45, 52, 64, 71, 78, 85, 92, 99], (.seq (.reg [⟨some 2, .box (.t 0) 46, none, 0⟩,
  ⟨some 3, .box (.t 1) 46, none, 0⟩,
  ⟨some 4, .mov (.k (.bool false)), none, 0⟩]) (.seq (.seq (.reg [⟨some 5, .flda 0 (.t 2), none, 0⟩,
  ⟨some 6, .load 1 false (.t 5), none, 0⟩,
  ⟨some 7, .flda 0 (.t 3), none, 0⟩,
  ⟨some 8, .load 1 false (.t 7), none, 0⟩,
  ⟨some 9, .bin .neq 0 (.t 6) (.t 8), none, 0⟩,
  ⟨some 10, .mov (.t 9), none, 0⟩,
  ⟨some 11, .flda 1 (.t 2), some (10, false), 0⟩,
  ⟨some 12, .load 1 false (.t 11), some (10, false), 0⟩,
  ⟨some 13, .flda 1 (.t 3), some (10, false), 0⟩,
  ⟨some 14, .load 1 false (.t 13), some (10, false), 0⟩,
  ⟨some 15, .bin .neq 0 (.t 12) (.t 14), some (10, false), 0⟩,
  ⟨some 16, .pick (.t 10) (.k (.bool true)) (.t 15), none, 0⟩,
  ⟨some 17, .mov (.t 16), none, 0⟩,
  ⟨some 18, .flda 2 (.t 2), some (17, false), 0⟩,
  ⟨some 19, .load 1 false (.t 18), some (17, false), 0⟩,
  ⟨some 20, .flda 2 (.t 3), some (17, false), 0⟩,
  ⟨some 21, .load 1 false (.t 20), some (17, false), 0⟩,
  ⟨some 22, .bin .neq 0 (.t 19) (.t 21), some (17, false), 0⟩,
  ⟨some 23, .pick (.t 17) (.k (.bool true)) (.t 22), none, 0⟩,
  ⟨some 24, .mov (.t 23), none, 0⟩,
  ⟨some 25, .flda 3 (.t 2), some (24, false), 0⟩,
  ⟨some 26, .load 2 true (.t 25), some (24, false), 0⟩,
  ⟨some 27, .flda 3 (.t 3), some (24, false), 0⟩,
  ⟨some 28, .load 2 true (.t 27), some (24, false), 0⟩,
  ⟨some 29, .eqs true [0, 0] (.t 26) (.t 28), some (24, false), 0⟩,
  ⟨some 30, .pick (.t 24) (.k (.bool true)) (.t 29), none, 0⟩,
  ⟨some 31, .mov (.t 30), none, 0⟩,
  ⟨some 32, .flda 5 (.t 2), some (31, false), 0⟩,
  ⟨some 33, .load 1 false (.t 32), some (31, false), 0⟩,
  ⟨some 34, .flda 5 (.t 3), some (31, false), 0⟩,
  ⟨some 35, .load 1 false (.t 34), some (31, false), 0⟩,
  ⟨some 36, .bin .neq 0 (.t 33) (.t 35), some (31, false), 0⟩,
  ⟨some 37, .pick (.t 31) (.k (.bool true)) (.t 36), none, 0⟩,
  ⟨some 38, .mov (.t 37), none, 0⟩,
  ⟨some 39, .flda 6 (.t 2), some (38, false), 0⟩,
  ⟨some 40, .load 1 false (.t 39), some (38, false), 0⟩,
  ⟨some 41, .flda 6 (.t 3), some (38, false), 0⟩,
  ⟨some 42, .load 1 false (.t 41), some (38, false), 0⟩,
  ⟨some 43, .bin .neq 0 (.t 40) (.t 42), some (38, false), 0⟩,
  ⟨some 44, .pick (.t 38) (.k (.bool true)) (.t 43), none, 0⟩,
  ⟨some 45, .mov (.t 44), none, 0⟩,
  ⟨some 46, .flda 7 (.t 2), some (45, false), 0⟩,
  ⟨some 47, .load 2 true (.t 46), some (45, false), 0⟩,
  ⟨some 48, .flda 7 (.t 3), some (45, false), 0⟩,
  ⟨some 49, .load 2 true (.t 48), some (45, false), 0⟩,
  ⟨some 50, .eqs true [0, 0] (.t 47) (.t 49), some (45, false), 0⟩,
  ⟨some 51, .pick (.t 45) (.k (.bool true)) (.t 50), none, 0⟩,
  ⟨some 52, .mov (.t 51), none, 0⟩,
  ⟨some 53, .flda 9 (.t 2), some (52, false), 0⟩,
  ⟨some 54, .load 2 true (.t 53), some (52, false), 0⟩,
  ⟨some 55, .flda 9 (.t 3), some (52, false), 0⟩,
  ⟨some 56, .load 2 true (.t 55), some (52, false), 0⟩,
  ⟨some 57, .eqs true [0, 0] (.t 54) (.t 56), some (52, false), 0⟩,
  ⟨some 58, .pick (.t 52) (.k (.bool true)) (.t 57), none, 0⟩]) (.cond (.t 58) (.seq (.reg [⟨some 4, .mov (.k (.bool false)), none, 0⟩]) .ret) .skip)) (.seq (.reg [⟨some 59, .flda 23 (.t 2), none, 0⟩,
  ⟨some 60, .load 10 true (.t 59), none, 0⟩,
  ⟨some 61, .flda 23 (.t 3), none, 0⟩,
  ⟨some 62, .load 10 true (.t 61), none, 0⟩,
  ⟨some 63, .eqs false [0, 0, 0, 0, 2, 1, 0, 0, 0, 0] (.t 60) (.t 62), none, 0⟩,
  ⟨some 64, .mov (.t 63), none, 0⟩,
  ⟨some 65, .flda 33 (.t 2), some (64, true), 0⟩,
  ⟨some 66, .load 6 true (.t 65), some (64, true), 0⟩,
  ⟨some 67, .flda 33 (.t 3), some (64, true), 0⟩,
  ⟨some 68, .load 6 true (.t 67), some (64, true), 0⟩,
  ⟨some 69, .eqs false [2, 0, 0, 0, 0, 2] (.t 66) (.t 68), some (64, true), 0⟩,
  ⟨some 70, .pick (.t 64) (.t 69) (.k (.bool false)), none, 0⟩,
  ⟨some 71, .mov (.t 70), none, 0⟩,
  ⟨some 72, .flda 39 (.t 2), some (71, true), 0⟩,
  ⟨some 73, .load 3 true (.t 72), some (71, true), 0⟩,
  ⟨some 74, .flda 39 (.t 3), some (71, true), 0⟩,
  ⟨some 75, .load 3 true (.t 74), some (71, true), 0⟩,
  ⟨some 76, .eqs false [0, 0, 2] (.t 73) (.t 75), some (71, true), 0⟩,
  ⟨some 77, .pick (.t 71) (.t 76) (.k (.bool false)), none, 0⟩,
  ⟨some 78, .mov (.t 77), none, 0⟩,
  ⟨some 79, .flda 42 (.t 2), some (78, true), 0⟩,
  ⟨some 80, .load 2 true (.t 79), some (78, true), 0⟩,
  ⟨some 81, .flda 42 (.t 3), some (78, true), 0⟩,
  ⟨some 82, .load 2 true (.t 81), some (78, true), 0⟩,
  ⟨some 83, .eqs false [0, 0] (.t 80) (.t 82), some (78, true), 0⟩,
  ⟨some 84, .pick (.t 78) (.t 83) (.k (.bool false)), none, 0⟩,
  ⟨some 85, .mov (.t 84), none, 0⟩,
  ⟨some 86, .flda 44 (.t 2), some (85, true), 0⟩,
  ⟨some 87, .load 1 false (.t 86), some (85, true), 0⟩,
  ⟨some 88, .flda 44 (.t 3), some (85, true), 0⟩,
  ⟨some 89, .load 1 false (.t 88), some (85, true), 0⟩,
  ⟨some 90, .bin .eql 0 (.t 87) (.t 89), some (85, true), 0⟩,
  ⟨some 91, .pick (.t 85) (.t 90) (.k (.bool false)), none, 0⟩,
  ⟨some 92, .mov (.t 91), none, 0⟩,
  ⟨some 93, .flda 45 (.t 2), some (92, true), 0⟩,
  ⟨some 94, .load 1 false (.t 93), some (92, true), 0⟩,
  ⟨some 95, .flda 45 (.t 3), some (92, true), 0⟩,
  ⟨some 96, .load 1 false (.t 95), some (92, true), 0⟩,
  ⟨some 97, .bin .eql 0 (.t 94) (.t 96), some (92, true), 0⟩,
  ⟨some 98, .pick (.t 92) (.t 97) (.k (.bool false)), none, 0⟩,
  ⟨some 99, .mov (.t 98), none, 0⟩,
  ⟨some 100, .flda 11 (.t 2), some (99, true), 0⟩,
  ⟨some 101, .load 12 true (.t 100), some (99, true), 0⟩,
  ⟨some 102, .flda 11 (.t 3), some (99, true), 0⟩,
  ⟨some 103, .load 12 true (.t 102), some (99, true), 0⟩,
  ⟨some 104, .call fn_spec_l17Same [.t 101, .t 103], some (99, true), 0⟩,
  ⟨some 105, .pick (.t 99) (.t 104) (.k (.bool false)), none, 0⟩,
  ⟨some 4, .mov (.t 105), none, 0⟩]) .ret))),
  [(4, none)]⟩
def pf_spec_l30SameMsgs : PF := eqSH (eqSL ty_impl_Msg 46 fn_spec_MsgSame)
def pf_spec_SameServer_lb0 : PC := (.seq (.seq (.reg [⟨some 54, .mov (.t 5), none, 0⟩,
  ⟨some 55, .flda 5 (.t 2), none, 0⟩,
  ⟨some 56, .load 1 false (.t 55), none, 0⟩,
  ⟨some 57, .len true (.t 56), none, 0⟩,
  ⟨some 58, .bin .lss 0 (.t 54) (.t 57), none, 0⟩]) (.cond (.t 58) .skip (.exit 0))) (.seq (.block 1 (.seq (.any [(0, []), (1, []), (2, [0, 1]), (3, []), (4, []), (5, [0, 1, 2, 3, 4]), (6, [0, 1, 2, 3, 4]), (7, [0, 1, 2, 3, 4, 5, 6]), (8, [0, 1, 2, 3, 4]), (9, [0, 1, 2, 3, 4]), (10, []), (11, [])] [⟨some 61, .flda 5 (.t 2), none, 0⟩,
  ⟨some 62, .load 1 false (.t 61), none, 0⟩,
  ⟨some 63, .mov (.t 5), none, 0⟩,
  ⟨some 64, .idxa ty_impl_Lead (.t 62) (.t 63), none, 0⟩,
  ⟨some 65, .load 43 true (.t 64), none, 0⟩,
  ⟨some 66, .flda 5 (.t 3), none, 0⟩,
  ⟨some 67, .load 1 false (.t 66), none, 0⟩,
  ⟨some 68, .mov (.t 5), none, 0⟩,
  ⟨some 69, .idxa ty_impl_Lead (.t 67) (.t 68), none, 0⟩,
  ⟨some 70, .load 43 true (.t 69), none, 0⟩,
  ⟨some 71, .call fn_spec_SameLead [.t 65, .t 70], none, 0⟩,
  ⟨some 72, .un .not (.t 71), none, 0⟩]) (.cond (.t 72) (.seq (.reg [⟨some 4, .mov (.k (.bool false)), none, 0⟩]) .ret) .skip))) (.reg [⟨some 59, .mov (.t 5), none, 0⟩,
  ⟨some 60, .bin .add 0 (.t 59) (.k (.int .i64 1)), none, 0⟩,
  ⟨some 5, .mov (.t 60), none, 0⟩])))
def pf_spec_SameServer_l0 : PC := .loop [] pf_spec_SameServer_lb0
def pf_spec_SameServer : PF := ⟨[.val, .val], [0, 1, 2, 3, 5, 11, 18, 25, 35, 45], (.seq (.reg [⟨some 2, .box (.t 0) 7, none, 0⟩,
  ⟨some 3, .box (.t 1) 7, none, 0⟩,
  ⟨some 4, .mov (.k (.bool false)), none, 0⟩]) (.seq (.seq (.reg [⟨some 6, .flda 0 (.t 2), none, 0⟩,
  ⟨some 7, .load 1 false (.t 6), none, 0⟩,
  ⟨some 8, .flda 0 (.t 3), none, 0⟩,
  ⟨some 9, .load 1 false (.t 8), none, 0⟩,
  ⟨some 10, .bin .neq 0 (.t 7) (.t 9), none, 0⟩,
  ⟨some 11, .mov (.t 10), none, 0⟩,
  ⟨some 12, .flda 1 (.t 2), some (11, false), 0⟩,
  ⟨some 13, .load 1 false (.t 12), some (11, false), 0⟩,
  ⟨some 14, .flda 1 (.t 3), some (11, false), 0⟩,
  ⟨some 15, .load 1 false (.t 14), some (11, false), 0⟩,
  ⟨some 16, .bin .neq 0 (.t 13) (.t 15), some (11, false), 0⟩,
  ⟨some 17, .pick (.t 11) (.k (.bool true)) (.t 16), none, 0⟩,
  ⟨some 18, .mov (.t 17), none, 0⟩,
  ⟨some 19, .flda 2 (.t 2), some (18, false), 0⟩,
  ⟨some 20, .load 1 false (.t 19), some (18, false), 0⟩,
  ⟨some 21, .flda 2 (.t 3), some (18, false), 0⟩,
  ⟨some 22, .load 1 false (.t 21), some (18, false), 0⟩,
  ⟨some 23, .bin .neq 1 (.t 20) (.t 22), some (18, false), 0⟩,
  ⟨some 24, .pick (.t 18) (.k (.bool true)) (.t 23), none, 0⟩,
  ⟨some 25, .mov (.t 24), none, 0⟩,
  ⟨some 26, .flda 3 (.t 2), some (25, false), 0⟩,
  ⟨some 27, .flda 0 (.t 26), some (25, false), 0⟩,
  ⟨some 28, .load 1 false (.t 27), some (25, false), 0⟩,
  ⟨some 29, .flda 3 (.t 3), some (25, false), 0⟩,
  ⟨some 30, .flda 0 (.t 29), some (25, false), 0⟩,
  ⟨some 31, .load 1 false (.t 30), some (25, false), 0⟩,
  ⟨some 32, .call fn_spec_l30SameStates [.t 28, .t 31], some (25, false), 0⟩,
  ⟨some 33, .un .not (.t 32), some (25, false), 0⟩,
  ⟨some 34, .pick (.t 25) (.k (.bool true)) (.t 33), none, 0⟩,
  ⟨some 35, .mov (.t 34), none, 0⟩,
  ⟨some 36, .flda 3 (.t 2), some (35, false), 0⟩,
  ⟨some 37, .flda 1 (.t 36), some (35, false), 0⟩,
  ⟨some 38, .load 1 false (.t 37), some (35, false), 0⟩,
  ⟨some 39, .flda 3 (.t 3), some (35, false), 0⟩,
  ⟨some 40, .flda 1 (.t 39), some (35, false), 0⟩,
  ⟨some 41, .load 1 false (.t 40), some (35, false), 0⟩,
  ⟨some 42, .call fn_spec_l30SameStates [.t 38, .t 41], some (35, false), 0⟩,
  ⟨some 43, .un .not (.t 42), some (35, false), 0⟩,
  ⟨some 44, .pick (.t 35) (.k (.bool true)) (.t 43), none, 0⟩,
  ⟨some 45, .mov (.t 44), none, 0⟩,
  ⟨some 46, .flda 5 (.t 2), some (45, false), 0⟩,
  ⟨some 47, .load 1 false (.t 46), some (45, false), 0⟩,
  ⟨some 48, .len true (.t 47), some (45, false), 0⟩,
  ⟨some 49, .flda 5 (.t 3), some (45, false), 0⟩,
  ⟨some 50, .load 1 false (.t 49), some (45, false), 0⟩,
  ⟨some 51, .len true (.t 50), some (45, false), 0⟩,
  ⟨some 52, .bin .neq 0 (.t 48) (.t 51), some (45, false), 0⟩,
  ⟨some 53, .pick (.t 45) (.k (.bool true)) (.t 52), none, 0⟩]) (.cond (.t 53) (.seq (.reg [⟨some 4, .mov (.k (.bool false)), none, 0⟩]) .ret) .skip)) (.seq (.seq (.reg [⟨some 5, .mov (.k (.int .i64 0)), none, 0⟩]) (.block 0 pf_spec_SameServer_l0)) (.seq (.reg [⟨some 73, .flda 6 (.t 2), none, 0⟩,
  ⟨some 74, .load 1 false (.t 73), none, 0⟩,
  ⟨some 75, .flda 6 (.t 3), none, 0⟩,
  ⟨some 76, .load 1 false (.t 75), none, 0⟩,
  ⟨some 77, .call fn_spec_l30SameMsgs [.t 74, .t 76], none, 0⟩,
  ⟨some 4, .mov (.t 77), none, 0⟩]) .ret)))),
  [(4, none)]⟩
def pf_laws_toPg : PF := ⟨[.val], [0, 1, 3], (.seq (.reg [⟨some 1, .box (.t 0) 2, none, 0⟩,
  ⟨some 2, .alloc [.int .i64 0, .int .i64 0], none, 0⟩]) (.seq (.reg [⟨some 3, .alloc [.int .i64 0, .int .i64 0], none, 0⟩]) (.seq (.reg [⟨some 4, .flda 0 (.t 1), none, 0⟩,
  ⟨some 5, .load 1 false (.t 4), none, 0⟩,
  ⟨some 6, .flda 0 (.t 3), none, 0⟩,
  ⟨none, .store 1 (.t 6) (.t 5), none, 0⟩]) (.seq (.reg [⟨some 7, .flda 1 (.t 1), none, 0⟩,
  ⟨some 8, .load 1 false (.t 7), none, 0⟩,
  ⟨some 9, .flda 1 (.t 3), none, 0⟩,
  ⟨none, .store 1 (.t 9) (.t 8), none, 0⟩]) (.seq (.reg [⟨some 10, .load 2 true (.t 3), none, 0⟩,
  ⟨none, .store 2 (.t 2) (.t 10), none, 0⟩]) .ret))))),
  [(2, some (2, true))]⟩
def pf_laws_toVer : PF := ⟨[.val], [0, 1, 3], (.seq (.reg [⟨some 1, .box (.t 0) 2, none, 0⟩,
  ⟨some 2, .alloc [.int .i64 0, .int .i64 0], none, 0⟩]) (.seq (.reg [⟨some 3, .alloc [.int .i64 0, .int .i64 0], none, 0⟩]) (.seq (.reg [⟨some 4, .flda 0 (.t 1), none, 0⟩,
  ⟨some 5, .load 1 false (.t 4), none, 0⟩,
  ⟨some 6, .flda 0 (.t 3), none, 0⟩,
  ⟨none, .store 1 (.t 6) (.t 5), none, 0⟩]) (.seq (.reg [⟨some 7, .flda 1 (.t 1), none, 0⟩,
  ⟨some 8, .load 1 false (.t 7), none, 0⟩,
  ⟨some 9, .flda 1 (.t 3), none, 0⟩,
  ⟨none, .store 1 (.t 9) (.t 8), none, 0⟩]) (.seq (.reg [⟨some 10, .load 2 true (.t 3), none, 0⟩,
  ⟨none, .store 2 (.t 2) (.t 10), none, 0⟩]) .ret))))),
  [(2, some (2, true))]⟩
def pf_laws_toChunk : PF := ⟨[.val], [0, 1, 3], (.seq (.reg [⟨some 1, .box (.t 0) 6, none, 0⟩,
  ⟨some 2, .alloc [.str ⟨#[]⟩, .int .i64 0, .int .i64 0, .int .i64 0, .int .i64 0, .str ⟨#[]⟩], none, 0⟩]) (.seq (.reg [⟨some 3, .alloc [.str ⟨#[]⟩, .int .i64 0, .int .i64 0, .int .i64 0, .int .i64 0, .str ⟨#[]⟩], none, 0⟩]) (.seq (.reg [⟨some 4, .flda 0 (.t 1), none, 0⟩,
  ⟨some 5, .load 1 false (.t 4), none, 0⟩,
  ⟨some 6, .flda 0 (.t 3), none, 0⟩,
  ⟨none, .store 1 (.t 6) (.t 5), none, 0⟩]) (.seq (.reg [⟨some 7, .flda 1 (.t 1), none, 0⟩,
  ⟨some 8, .load 2 true (.t 7), none, 0⟩,
  ⟨some 9, .call fn_laws_toVer [.t 8], none, 0⟩,
  ⟨some 10, .flda 1 (.t 3), none, 0⟩,
  ⟨none, .store 2 (.t 10) (.t 9), none, 0⟩]) (.seq (.reg [⟨some 11, .flda 3 (.t 1), none, 0⟩,
  ⟨some 12, .load 1 false (.t 11), none, 0⟩,
  ⟨some 13, .flda 3 (.t 3), none, 0⟩,
  ⟨none, .store 1 (.t 13) (.t 12), none, 0⟩]) (.seq (.reg [⟨some 14, .flda 4 (.t 1), none, 0⟩,
  ⟨some 15, .load 1 false (.t 14), none, 0⟩,
  ⟨some 16, .flda 4 (.t 3), none, 0⟩,
  ⟨none, .store 1 (.t 16) (.t 15), none, 0⟩]) (.seq (.reg [⟨some 17, .flda 5 (.t 1), none, 0⟩,
  ⟨some 18, .load 1 false (.t 17), none, 0⟩,
  ⟨some 19, .flda 5 (.t 3), none, 0⟩,
  ⟨none, .store 1 (.t 19) (.t 18), none, 0⟩]) (.seq (.reg [⟨some 20, .load 6 true (.t 3), none, 0⟩,
  ⟨none, .store 6 (.t 2) (.t 20), none, 0⟩]) .ret)))))))),
  [(2, some (6, true))]⟩
def pf_laws_toChunkS : PF := toSF ty_laws_Chunk ty_impl_Chunk 6 fn_laws_toChunk [.str ⟨#[]⟩, .int .i64 0, .int .i64 0, .int .i64 0, .int .i64 0, .str ⟨#[]⟩] 64
def pf_laws_toHead : PF := ⟨[.val], [0, 1, 3], (.seq (.reg [⟨some 1, .box (.t 0) 5, none, 0⟩,
  ⟨some 2, .alloc [.str ⟨#[]⟩, .int .i64 0, .int .i64 0, .int .i64 0, .int .i64 0], none, 0⟩]) (.seq (.reg [⟨some 3, .alloc [.str ⟨#[]⟩, .int .i64 0, .int .i64 0, .int .i64 0, .int .i64 0], none, 0⟩]) (.seq (.reg [⟨some 4, .flda 0 (.t 1), none, 0⟩,
  ⟨some 5, .load 1 false (.t 4), none, 0⟩,
  ⟨some 6, .flda 0 (.t 3), none, 0⟩,
  ⟨none, .store 1 (.t 6) (.t 5), none, 0⟩]) (.seq (.reg [⟨some 7, .flda 1 (.t 1), none, 0⟩,
  ⟨some 8, .load 2 true (.t 7), none, 0⟩,
  ⟨some 9, .call fn_laws_toVer [.t 8], none, 0⟩,
  ⟨some 10, .flda 1 (.t 3), none, 0⟩,
  ⟨none, .store 2 (.t 10) (.t 9), none, 0⟩]) (.seq (.reg [⟨some 11, .flda 3 (.t 1), none, 0⟩,
  ⟨some 12, .load 1 false (.t 11), none, 0⟩,
  ⟨some 13, .flda 3 (.t 3), none, 0⟩,
  ⟨none, .store 1 (.t 13) (.t 12), none, 0⟩]) (.seq (.reg [⟨some 14, .flda 4 (.t 1), none, 0⟩,
  ⟨some 15, .load 1 false (.t 14), none, 0⟩,
  ⟨some 16, .flda 4 (.t 3), none, 0⟩,
  ⟨none, .store 1 (.t 16) (.t 15), none, 0⟩]) (.seq (.reg [⟨some 17, .load 5 true (.t 3), none, 0⟩,
  ⟨none, .store 5 (.t 2) (.t 17), none, 0⟩]) .ret))))))),
  [(2, some (5, true))]⟩
def pf_laws_toHeadS : PF := toSF ty_laws_Head ty_impl_Head 5 fn_laws_toHead [.str ⟨#[]⟩, .int .i64 0, .int .i64 0, .int .i64 0, .int .i64 0] 48
def pf_laws_toLast : PF := ⟨[.val], [0, 1, 3], (.seq (.reg [⟨some 1, .box (.t 0) 4, none, 0⟩,
  ⟨some 2, .alloc [.int .i64 0, .int .i64 0, .int .i64 0, .int .i64 0], none, 0⟩]) (.seq (.reg [⟨some 3, .alloc [.int .i64 0, .int .i64 0, .int .i64 0, .int .i64 0], none, 0⟩]) (.seq (.reg [⟨some 4, .flda 0 (.t 1), none, 0⟩,
  ⟨some 5, .load 1 false (.t 4), none, 0⟩,
  ⟨some 6, .flda 0 (.t 3), none, 0⟩,
  ⟨none, .store 1 (.t 6) (.t 5), none, 0⟩]) (.seq (.reg [⟨some 7, .flda 1 (.t 1), none, 0⟩,
  ⟨some 8, .load 1 false (.t 7), none, 0⟩,
  ⟨some 9, .flda 1 (.t 3), none, 0⟩,
  ⟨none, .store 1 (.t 9) (.t 8), none, 0⟩]) (.seq (.reg [⟨some 10, .flda 2 (.t 1), none, 0⟩,
  ⟨some 11, .load 2 true (.t 10), none, 0⟩,
  ⟨some 12, .call fn_laws_toVer [.t 11], none, 0⟩,
  ⟨some 13, .flda 2 (.t 3), none, 0⟩,
  ⟨none, .store 2 (.t 13) (.t 12), none, 0⟩]) (.seq (.reg [⟨some 14, .load 4 true (.t 3), none, 0⟩,
  ⟨none, .store 4 (.t 2) (.t 14), none, 0⟩]) .ret)))))),
  [(2, some (4, true))]⟩
def pf_laws_toLastS : PF := toSF ty_laws_Last ty_impl_Last 4 fn_laws_toLast [.int .i64 0, .int .i64 0, .int .i64 0, .int .i64 0] 32
def pf_laws_toReq : PF := ⟨[.val], [0, 1, 3], (.seq (.reg [⟨some 1, .box (.t 0) 2, none, 0⟩,
  ⟨some 2, .alloc [.int .i64 0, .int .i64 0], none, 0⟩]) (.seq (.reg [⟨some 3, .alloc [.int .i64 0, .int .i64 0], none, 0⟩]) (.seq (.reg [⟨some 4, .flda 0 (.t 1), none, 0⟩,
  ⟨some 5, .load 1 false (.t 4), none, 0⟩,
  ⟨some 6, .flda 0 (.t 3), none, 0⟩,
  ⟨none, .store 1 (.t 6) (.t 5), none, 0⟩]) (.seq (.reg [⟨some 7, .flda 1 (.t 1), none, 0⟩,
  ⟨some 8, .load 1 false (.t 7), none, 0⟩,
  ⟨some 9, .flda 1 (.t 3), none, 0⟩,
  ⟨none, .store 1 (.t 9) (.t 8), none, 0⟩]) (.seq (.reg [⟨some 10, .load 2 true (.t 3), none, 0⟩,
  ⟨none, .store 2 (.t 2) (.t 10), none, 0⟩]) .ret))))),
  [(2, some (2, true))]⟩
def pf_laws_toEntry : PF := ⟨[.val], [0, 1, 3], (.seq (.reg [⟨some 1, .box (.t 0) 10, none, 0⟩,
  ⟨some 2, .alloc [.int .i64 0, .int .i64 0, .int .i64 0, .int .i64 0, .str ⟨#[]⟩, .bool false, .int .i64 0, .int .i64 0, .int .i64 0, .int .i64 0], none, 0⟩]) (.seq (.reg [⟨some 3, .alloc [.int .i64 0, .int .i64 0, .int .i64 0, .int .i64 0, .str ⟨#[]⟩, .bool false, .int .i64 0, .int .i64 0, .int .i64 0, .int .i64 0], none, 0⟩]) (.seq (.reg [⟨some 4, .flda 0 (.t 1), none, 0⟩,
  ⟨some 5, .load 2 true (.t 4), none, 0⟩,
  ⟨some 6, .call fn_laws_toVer [.t 5], none, 0⟩,
  ⟨some 7, .flda 0 (.t 3), none, 0⟩,
  ⟨none, .store 2 (.t 7) (.t 6), none, 0⟩]) (.seq (.reg [⟨some 8, .flda 2 (.t 1), none, 0⟩,
  ⟨some 9, .load 2 true (.t 8), none, 0⟩,
  ⟨some 10, .call fn_laws_toVer [.t 9], none, 0⟩,
  ⟨some 11, .flda 2 (.t 3), none, 0⟩,
  ⟨none, .store 2 (.t 11) (.t 10), none, 0⟩]) (.seq (.reg [⟨some 12, .flda 4 (.t 1), none, 0⟩,
  ⟨some 13, .load 1 false (.t 12), none, 0⟩,
  ⟨some 14, .flda 4 (.t 3), none, 0⟩,
  ⟨none, .store 1 (.t 14) (.t 13), none, 0⟩]) (.seq (.reg [⟨some 15, .flda 5 (.t 1), none, 0⟩,
  ⟨some 16, .load 1 false (.t 15), none, 0⟩,
  ⟨some 17, .flda 5 (.t 3), none, 0⟩,
  ⟨none, .store 1 (.t 17) (.t 16), none, 0⟩]) (.seq (.reg [⟨some 18, .flda 6 (.t 1), none, 0⟩,
  ⟨some 19, .load 1 false (.t 18), none, 0⟩,
  ⟨some 20, .flda 6 (.t 3), none, 0⟩,
  ⟨none, .store 1 (.t 20) (.t 19), none, 0⟩]) (.seq (.reg [⟨some 21, .flda 7 (.t 1), none, 0⟩,
  ⟨some 22, .load 1 false (.t 21), none, 0⟩,
  ⟨some 23, .flda 7 (.t 3), none, 0⟩,
  ⟨none, .store 1 (.t 23) (.t 22), none, 0⟩]) (.seq (.reg [⟨some 24, .flda 8 (.t 1), none, 0⟩,
  ⟨some 25, .load 2 true (.t 24), none, 0⟩,
  ⟨some 26, .call fn_laws_toReq [.t 25], none, 0⟩,
  ⟨some 27, .flda 8 (.t 3), none, 0⟩,
  ⟨none, .store 2 (.t 27) (.t 26), none, 0⟩]) (.seq (.reg [⟨some 28, .load 10 true (.t 3), none, 0⟩,
  ⟨none, .store 10 (.t 2) (.t 28), none, 0⟩]) .ret)))))))))),
  [(2, some (10, true))]⟩
def pf_laws_toEntryS : PF := toSF ty_laws_Entry ty_impl_Entry 10 fn_laws_toEntry [.int .i64 0, .int .i64 0, .int .i64 0, .int .i64 0, .str ⟨#[]⟩, .bool false, .int .i64 0, .int .i64 0, .int .i64 0, .int .i64 0] 88
def pf_laws_toPgState : PF := ⟨[.val], [0, 1, 3], (.seq (.reg [⟨some 1, .box (.t 0) 12, none, 0⟩,
  ⟨some 2, .alloc [.int .i64 0, .int .i64 0, .int .i64 0, .int .i64 0, .int .i64 0, .int .i64 0, .sl 2 ty_impl_Head [], .sl 2 ty_impl_Last [], .sl 2 ty_impl_Entry [], .int .i64 0, .int .i64 0, .sl 2 ty_impl_Chunk []], none, 0⟩]) (.seq (.reg [⟨some 3, .alloc [.int .i64 0, .int .i64 0, .int .i64 0, .int .i64 0, .int .i64 0, .int .i64 0, .sl 2 ty_impl_Head [], .sl 2 ty_impl_Last [], .sl 2 ty_impl_Entry [], .int .i64 0, .int .i64 0, .sl 2 ty_impl_Chunk []], none, 0⟩]) (.seq (.reg [⟨some 4, .flda 0 (.t 1), none, 0⟩,
  ⟨some 5, .load 2 true (.t 4), none, 0⟩,
  ⟨some 6, .call fn_laws_toPg [.t 5], none, 0⟩,
  ⟨some 7, .flda 0 (.t 3), none, 0⟩,
  ⟨none, .store 2 (.t 7) (.t 6), none, 0⟩]) (.seq (.reg [⟨some 8, .flda 2 (.t 1), none, 0⟩,
  ⟨some 9, .load 1 false (.t 8), none, 0⟩,
  ⟨some 10, .flda 2 (.t 3), none, 0⟩,
  ⟨none, .store 1 (.t 10) (.t 9), none, 0⟩]) (.seq (.reg [⟨some 11, .flda 3 (.t 1), none, 0⟩,
  ⟨some 12, .load 1 false (.t 11), none, 0⟩,
  ⟨some 13, .flda 3 (.t 3), none, 0⟩,
  ⟨none, .store 1 (.t 13) (.t 12), none, 0⟩]) (.seq (.reg [⟨some 14, .flda 4 (.t 1), none, 0⟩,
  ⟨some 15, .load 2 true (.t 14), none, 0⟩,
  ⟨some 16, .call fn_laws_toVer [.t 15], none, 0⟩,
  ⟨some 17, .flda 4 (.t 3), none, 0⟩,
  ⟨none, .store 2 (.t 17) (.t 16), none, 0⟩]) (.seq (.reg [⟨some 18, .flda 6 (.t 1), none, 0⟩,
  ⟨some 19, .load 1 false (.t 18), none, 0⟩,
  ⟨some 20, .call fn_laws_toHeadS [.t 19], none, 0⟩,
  ⟨some 21, .flda 6 (.t 3), none, 0⟩,
  ⟨none, .store 1 (.t 21) (.t 20), none, 0⟩]) (.seq (.reg [⟨some 22, .flda 7 (.t 1), none, 0⟩,
  ⟨some 23, .load 1 false (.t 22), none, 0⟩,
  ⟨some 24, .call fn_laws_toLastS [.t 23], none, 0⟩,
  ⟨some 25, .flda 7 (.t 3), none, 0⟩,
  ⟨none, .store 1 (.t 25) (.t 24), none, 0⟩]) (.seq (.reg [⟨some 26, .flda 8 (.t 1), none, 0⟩,
  ⟨some 27, .load 1 false (.t 26), none, 0⟩,
  ⟨some 28, .call fn_laws_toEntryS [.t 27], none, 0⟩,
  ⟨some 29, .flda 8 (.t 3), none, 0⟩,
  ⟨none, .store 1 (.t 29) (.t 28), none, 0⟩]) (.seq (.reg [⟨some 30, .flda 9 (.t 1), none, 0⟩,
  ⟨some 31, .load 2 true (.t 30), none, 0⟩,
  ⟨some 32, .call fn_laws_toVer [.t 31], none, 0⟩,
  ⟨some 33, .flda 9 (.t 3), none, 0⟩,
  ⟨none, .store 2 (.t 33) (.t 32), none, 0⟩]) (.seq (.reg [⟨some 34, .flda 11 (.t 1), none, 0⟩,
  ⟨some 35, .load 1 false (.t 34), none, 0⟩,
  ⟨some 36, .call fn_laws_toChunkS [.t 35], none, 0⟩,
  ⟨some 37, .flda 11 (.t 3), none, 0⟩,
  ⟨none, .store 1 (.t 37) (.t 36), none, 0⟩]) (.seq (.reg [⟨some 38, .ldt 12 (.t 3), none, 0⟩,
  ⟨none, .store 12 (.t 2) (.t 38), none, 0⟩]) .ret)))))))))))),
  [(2, some (12, true))]⟩
def pf_laws_toPgStateS : PF := toSF ty_laws_PgState ty_impl_PgState 12 fn_laws_toPgState [.int .i64 0, .int .i64 0, .int .i64 0, .int .i64 0, .int .i64 0, .int .i64 0, .sl 2 ty_impl_Head [], .sl 2 ty_impl_Last [], .sl 2 ty_impl_Entry [], .int .i64 0, .int .i64 0, .sl 2 ty_impl_Chunk []] 160
def pf_laws_toStore : PF := ⟨[.val], [0, 1, 3], (.seq (.reg [⟨some 1, .box (.t 0) 2, none, 0⟩,
  ⟨some 2, .alloc [.sl 2 ty_impl_PgState [], .sl 2 ty_impl_PgState []], none, 0⟩]) (.seq (.reg [⟨some 3, .alloc [.sl 2 ty_impl_PgState [], .sl 2 ty_impl_PgState []], none, 0⟩]) (.seq (.reg [⟨some 4, .flda 0 (.t 1), none, 0⟩,
  ⟨some 5, .load 1 false (.t 4), none, 0⟩,
  ⟨some 6, .call fn_laws_toPgStateS [.t 5], none, 0⟩,
  ⟨some 7, .flda 0 (.t 3), none, 0⟩,
  ⟨none, .store 1 (.t 7) (.t 6), none, 0⟩]) (.seq (.reg [⟨some 8, .flda 1 (.t 1), none, 0⟩,
  ⟨some 9, .load 1 false (.t 8), none, 0⟩,
  ⟨some 10, .call fn_laws_toPgStateS [.t 9], none, 0⟩,
  ⟨some 11, .flda 1 (.t 3), none, 0⟩,
  ⟨none, .store 1 (.t 11) (.t 10), none, 0⟩]) (.seq (.reg [⟨some 12, .ldt 2 (.t 3), none, 0⟩,
  ⟨none, .store 2 (.t 2) (.t 12), none, 0⟩]) .ret))))),
  [(2, some (2, true))]⟩
def pf_laws_toInt64S : PF := toS0F ty_int64 ty_int64 (.int .i64 0) 8
def pf_laws_toCode : PF := ⟨[.val], [0, 1, 3], (.seq (.reg [⟨some 1, .box (.t 0) 2, none, 0⟩,
  ⟨some 2, .alloc [.int .i64 0, .int .i64 0], none, 0⟩]) (.seq (.reg [⟨some 3, .alloc [.int .i64 0, .int .i64 0], none, 0⟩]) (.seq (.reg [⟨some 4, .flda 0 (.t 1), none, 0⟩,
  ⟨some 5, .load 1 false (.t 4), none, 0⟩,
  ⟨some 6, .flda 0 (.t 3), none, 0⟩,
  ⟨none, .store 1 (.t 6) (.t 5), none, 0⟩]) (.seq (.reg [⟨some 7, .flda 1 (.t 1), none, 0⟩,
  ⟨some 8, .load 1 false (.t 7), none, 0⟩,
  ⟨some 9, .flda 1 (.t 3), none, 0⟩,
  ⟨none, .store 1 (.t 9) (.t 8), none, 0⟩]) (.seq (.reg [⟨some 10, .load 2 true (.t 3), none, 0⟩,
  ⟨none, .store 2 (.t 2) (.t 10), none, 0⟩]) .ret))))),
  [(2, some (2, true))]⟩
def pf_laws_toInterval : PF := ⟨[.val], [0, 1, 3], (.seq (.reg [⟨some 1, .box (.t 0) 4, none, 0⟩,
  ⟨some 2, .alloc [.int .i64 0, .int .i64 0, .sl 2 ty_int64 [], .bool false], none, 0⟩]) (.seq (.reg [⟨some 3, .alloc [.int .i64 0, .int .i64 0, .sl 2 ty_int64 [], .bool false], none, 0⟩]) (.seq (.reg [⟨some 4, .flda 0 (.t 1), none, 0⟩,
  ⟨some 5, .load 1 false (.t 4), none, 0⟩,
  ⟨some 6, .flda 0 (.t 3), none, 0⟩,
  ⟨none, .store 1 (.t 6) (.t 5), none, 0⟩]) (.seq (.reg [⟨some 7, .flda 1 (.t 1), none, 0⟩,
  ⟨some 8, .load 1 false (.t 7), none, 0⟩,
  ⟨some 9, .flda 1 (.t 3), none, 0⟩,
  ⟨none, .store 1 (.t 9) (.t 8), none, 0⟩]) (.seq (.reg [⟨some 10, .flda 2 (.t 1), none, 0⟩,
  ⟨some 11, .load 1 false (.t 10), none, 0⟩,
  ⟨some 12, .call fn_laws_toInt64S [.t 11], none, 0⟩,
  ⟨some 13, .flda 2 (.t 3), none, 0⟩,
  ⟨none, .store 1 (.t 13) (.t 12), none, 0⟩]) (.seq (.reg [⟨some 14, .flda 3 (.t 1), none, 0⟩,
  ⟨some 15, .load 1 false (.t 14), none, 0⟩,
  ⟨some 16, .flda 3 (.t 3), none, 0⟩,
  ⟨none, .store 1 (.t 16) (.t 15), none, 0⟩]) (.seq (.reg [⟨some 17, .ldt 4 (.t 3), none, 0⟩,
  ⟨none, .store 4 (.t 2) (.t 17), none, 0⟩]) .ret))))))),
  [(2, some (4, true))]⟩
def pf_laws_toIntervalS : PF := toSF ty_laws_Interval ty_impl_Interval 4 fn_laws_toInterval [.int .i64 0, .int .i64 0, .sl 2 ty_int64 [], .bool false] 48
def pf_laws_toNotice : PF := ⟨[.val], [0, 1, 3], (.seq (.reg [⟨some 1, .box (.t 0) 13, none, 0⟩,
  ⟨some 2, .alloc [.int .i64 0, .int .i64 0, .int .i64 0, .int .i64 0, .int .i64 0, .int .i64 0, .int .i64 0, .sl 2 ty_impl_Head [], .sl 2 ty_impl_Last [], .sl 2 ty_impl_Entry [], .int .i64 0, .int .i64 0, .sl 2 ty_impl_Chunk []], none, 0⟩]) (.seq (.reg [⟨some 3, .alloc [.int .i64 0, .int .i64 0, .int .i64 0, .int .i64 0, .int .i64 0, .int .i64 0, .int .i64 0, .sl 2 ty_impl_Head [], .sl 2 ty_impl_Last [], .sl 2 ty_impl_Entry [], .int .i64 0, .int .i64 0, .sl 2 ty_impl_Chunk []], none, 0⟩]) (.seq (.reg [⟨some 4, .flda 0 (.t 1), none, 0⟩,
  ⟨some 5, .load 1 false (.t 4), none, 0⟩,
  ⟨some 6, .flda 0 (.t 3), none, 0⟩,
  ⟨none, .store 1 (.t 6) (.t 5), none, 0⟩]) (.seq (.reg [⟨some 7, .flda 1 (.t 1), none, 0⟩,
  ⟨some 8, .load 12 true (.t 7), none, 0⟩,
  ⟨some 9, .call fn_laws_toPgState [.t 8], none, 0⟩,
  ⟨some 10, .flda 1 (.t 3), none, 0⟩,
  ⟨none, .store 12 (.t 10) (.t 9), none, 0⟩]) (.seq (.reg [⟨some 11, .ldt 13 (.t 3), none, 0⟩,
  ⟨none, .store 13 (.t 2) (.t 11), none, 0⟩]) .ret))))),
  [(2, some (13, true))]⟩
def pf_laws_toNoticeS : PF := toSF ty_laws_Notice ty_impl_Notice 13 fn_laws_toNotice [.int .i64 0, .int .i64 0, .int .i64 0, .int .i64 0, .int .i64 0, .int .i64 0, .int .i64 0, .sl 2 ty_impl_Head [], .sl 2 ty_impl_Last [], .sl 2 ty_impl_Entry [], .int .i64 0, .int .i64 0, .sl 2 ty_impl_Chunk []] 168
def pf_laws_toFill : PF := ⟨[.val], [0, 1, 3], (.seq (.reg [⟨some 1, .box (.t 0) 7, none, 0⟩,
  ⟨some 2, .alloc [.int .i64 0, .int .i64 0, .str ⟨#[]⟩, .int .i64 0, .int .i64 0, .int .i64 0, .int .i64 0], none, 0⟩]) (.seq (.reg [⟨some 3, .alloc [.int .i64 0, .int .i64 0, .str ⟨#[]⟩, .int .i64 0, .int .i64 0, .int .i64 0, .int .i64 0], none, 0⟩]) (.seq (.reg [⟨some 4, .flda 0 (.t 1), none, 0⟩,
  ⟨some 5, .load 1 false (.t 4), none, 0⟩,
  ⟨some 6, .flda 0 (.t 3), none, 0⟩,
  ⟨none, .store 1 (.t 6) (.t 5), none, 0⟩]) (.seq (.reg [⟨some 7, .flda 1 (.t 1), none, 0⟩,
  ⟨some 8, .load 1 false (.t 7), none, 0⟩,
  ⟨some 9, .flda 1 (.t 3), none, 0⟩,
  ⟨none, .store 1 (.t 9) (.t 8), none, 0⟩]) (.seq (.reg [⟨some 10, .flda 2 (.t 1), none, 0⟩,
  ⟨some 11, .load 5 true (.t 10), none, 0⟩,
  ⟨some 12, .call fn_laws_toHead [.t 11], none, 0⟩,
  ⟨some 13, .flda 2 (.t 3), none, 0⟩,
  ⟨none, .store 5 (.t 13) (.t 12), none, 0⟩]) (.seq (.reg [⟨some 14, .load 7 true (.t 3), none, 0⟩,
  ⟨none, .store 7 (.t 2) (.t 14), none, 0⟩]) .ret)))))),
  [(2, some (7, true))]⟩
def pf_laws_toFillS : PF := toSF ty_laws_Fill ty_impl_Fill 7 fn_laws_toFill [.int .i64 0, .int .i64 0, .str ⟨#[]⟩, .int .i64 0, .int .i64 0, .int .i64 0, .int .i64 0] 64
def pf_laws_toWay : PF := ⟨[.val], [0, 1, 3], (.seq (.reg [⟨some 1, .box (.t 0) 11, none, 0⟩,
  ⟨some 2, .alloc [.int .i64 0, .int .i64 0, .int .i64 0, .int .i64 0, .str ⟨#[]⟩, .bool false, .int .i64 0, .int .i64 0, .int .i64 0, .int .i64 0, .str ⟨#[]⟩], none, 0⟩]) (.seq (.reg [⟨some 3, .alloc [.int .i64 0, .int .i64 0, .int .i64 0, .int .i64 0, .str ⟨#[]⟩, .bool false, .int .i64 0, .int .i64 0, .int .i64 0, .int .i64 0, .str ⟨#[]⟩], none, 0⟩]) (.seq (.reg [⟨some 4, .flda 0 (.t 1), none, 0⟩,
  ⟨some 5, .load 10 true (.t 4), none, 0⟩,
  ⟨some 6, .call fn_laws_toEntry [.t 5], none, 0⟩,
  ⟨some 7, .flda 0 (.t 3), none, 0⟩,
  ⟨none, .store 10 (.t 7) (.t 6), none, 0⟩]) (.seq (.reg [⟨some 8, .flda 10 (.t 1), none, 0⟩,
  ⟨some 9, .load 1 false (.t 8), none, 0⟩,
  ⟨some 10, .flda 10 (.t 3), none, 0⟩,
  ⟨none, .store 1 (.t 10) (.t 9), none, 0⟩]) (.seq (.reg [⟨some 11, .load 11 true (.t 3), none, 0⟩,
  ⟨none, .store 11 (.t 2) (.t 11), none, 0⟩]) .ret))))),
  [(2, some (11, true))]⟩
def pf_laws_toWayS : PF := toSF ty_laws_Way ty_impl_Way 11 fn_laws_toWay [.int .i64 0, .int .i64 0, .int .i64 0, .int .i64 0, .str ⟨#[]⟩, .bool false, .int .i64 0, .int .i64 0, .int .i64 0, .int .i64 0, .str ⟨#[]⟩] 104
def pf_laws_toAck : PF := ⟨[.val], [0, 1, 3], (.seq (.reg [⟨some 1, .box (.t 0) 3, none, 0⟩,
  ⟨some 2, .alloc [.int .i64 0, .int .i64 0, .int .i64 0], none, 0⟩]) (.seq (.reg [⟨some 3, .alloc [.int .i64 0, .int .i64 0, .int .i64 0], none, 0⟩]) (.seq (.reg [⟨some 4, .flda 0 (.t 1), none, 0⟩,
  ⟨some 5, .load 1 false (.t 4), none, 0⟩,
  ⟨some 6, .flda 0 (.t 3), none, 0⟩,
  ⟨none, .store 1 (.t 6) (.t 5), none, 0⟩]) (.seq (.reg [⟨some 7, .flda 1 (.t 1), none, 0⟩,
  ⟨some 8, .load 2 true (.t 7), none, 0⟩,
  ⟨some 9, .call fn_laws_toVer [.t 8], none, 0⟩,
  ⟨some 10, .flda 1 (.t 3), none, 0⟩,
  ⟨none, .store 2 (.t 10) (.t 9), none, 0⟩]) (.seq (.reg [⟨some 11, .load 3 true (.t 3), none, 0⟩,
  ⟨none, .store 3 (.t 2) (.t 11), none, 0⟩]) .ret))))),
  [(2, some (3, true))]⟩
def pf_laws_toAckS : PF := toSF ty_laws_Ack ty_impl_Ack 3 fn_laws_toAck [.int .i64 0, .int .i64 0, .int .i64 0] 24
def pf_laws_toGot : PF := ⟨[.val], [0, 1, 3], (.seq (.reg [⟨some 1, .box (.t 0) 17, none, 0⟩,
  ⟨some 2, .alloc [.int .i64 0, .int .i64 0, .int .i64 0, .int .i64 0, .int .i64 0, .str ⟨#[]⟩, .bool false, .int .i64 0, .int .i64 0, .int .i64 0, .int .i64 0, .str ⟨#[]⟩, .int .i64 0, .int .i64 0, .int .i64 0, .int .i64 0, .str ⟨#[]⟩], none, 0⟩]) (.seq (.reg [⟨some 3, .alloc [.int .i64 0, .int .i64 0, .int .i64 0, .int .i64 0, .int .i64 0, .str ⟨#[]⟩, .bool false, .int .i64 0, .int .i64 0, .int .i64 0, .int .i64 0, .str ⟨#[]⟩, .int .i64 0, .int .i64 0, .int .i64 0, .int .i64 0, .str ⟨#[]⟩], none, 0⟩]) (.seq (.reg [⟨some 4, .flda 0 (.t 1), none, 0⟩,
  ⟨some 5, .load 1 false (.t 4), none, 0⟩,
  ⟨some 6, .flda 0 (.t 3), none, 0⟩,
  ⟨none, .store 1 (.t 6) (.t 5), none, 0⟩]) (.seq (.reg [⟨some 7, .flda 1 (.t 1), none, 0⟩,
  ⟨some 8, .load 10 true (.t 7), none, 0⟩,
  ⟨some 9, .call fn_laws_toEntry [.t 8], none, 0⟩,
  ⟨some 10, .flda 1 (.t 3), none, 0⟩,
  ⟨none, .store 10 (.t 10) (.t 9), none, 0⟩]) (.seq (.reg [⟨some 11, .flda 11 (.t 1), none, 0⟩,
  ⟨some 12, .load 6 true (.t 11), none, 0⟩,
  ⟨some 13, .call fn_laws_toChunk [.t 12], none, 0⟩,
  ⟨some 14, .flda 11 (.t 3), none, 0⟩,
  ⟨none, .store 6 (.t 14) (.t 13), none, 0⟩]) (.seq (.reg [⟨some 15, .load 17 true (.t 3), none, 0⟩,
  ⟨none, .store 17 (.t 2) (.t 15), none, 0⟩]) .ret)))))),
  [(2, some (17, true))]⟩
def pf_laws_toGotS : PF := toSF ty_laws_Got ty_impl_Got 17 fn_laws_toGot [.int .i64 0, .int .i64 0, .int .i64 0, .int .i64 0, .int .i64 0, .str ⟨#[]⟩, .bool false, .int .i64 0, .int .i64 0, .int .i64 0, .int .i64 0, .str ⟨#[]⟩, .int .i64 0, .int .i64 0, .int .i64 0, .int .i64 0, .str ⟨#[]⟩] 160
def pf_laws_toWait : PF := ⟨[.val], [0, 1, 3], (.seq (.reg [⟨some 1, .box (.t 0) 6, none, 0⟩,
  ⟨some 2, .alloc [.int .i64 0, .int .i64 0, .str ⟨#[]⟩, .int .i64 0, .int .i64 0, .sl 2 ty_impl_Got []], none, 0⟩]) (.seq (.reg [⟨some 3, .alloc [.int .i64 0, .int .i64 0, .str ⟨#[]⟩, .int .i64 0, .int .i64 0, .sl 2 ty_impl_Got []], none, 0⟩]) (.seq (.reg [⟨some 4, .flda 0 (.t 1), none, 0⟩,
  ⟨some 5, .load 2 true (.t 4), none, 0⟩,
  ⟨some 6, .call fn_laws_toReq [.t 5], none, 0⟩,
  ⟨some 7, .flda 0 (.t 3), none, 0⟩,
  ⟨none, .store 2 (.t 7) (.t 6), none, 0⟩]) (.seq (.reg [⟨some 8, .flda 2 (.t 1), none, 0⟩,
  ⟨some 9, .load 1 false (.t 8), none, 0⟩,
  ⟨some 10, .flda 2 (.t 3), none, 0⟩,
  ⟨none, .store 1 (.t 10) (.t 9), none, 0⟩]) (.seq (.reg [⟨some 11, .flda 3 (.t 1), none, 0⟩,
  ⟨some 12, .load 2 true (.t 11), none, 0⟩,
  ⟨some 13, .call fn_laws_toVer [.t 12], none, 0⟩,
  ⟨some 14, .flda 3 (.t 3), none, 0⟩,
  ⟨none, .store 2 (.t 14) (.t 13), none, 0⟩]) (.seq (.reg [⟨some 15, .flda 5 (.t 1), none, 0⟩,
  ⟨some 16, .load 1 false (.t 15), none, 0⟩,
  ⟨some 17, .call fn_laws_toGotS [.t 16], none, 0⟩,
  ⟨some 18, .flda 5 (.t 3), none, 0⟩,
  ⟨none, .store 1 (.t 18) (.t 17), none, 0⟩]) (.seq (.reg [⟨some 19, .ldt 6 (.t 3), none, 0⟩,
  ⟨none, .store 6 (.t 2) (.t 19), none, 0⟩]) .ret))))))),
  [(2, some (6, true))]⟩
def pf_laws_toWaitS : PF := toSF ty_laws_Wait ty_impl_Wait 6 fn_laws_toWait [.int .i64 0, .int .i64 0, .str ⟨#[]⟩, .int .i64 0, .int .i64 0, .sl 2 ty_impl_Got []] 72
def pf_laws_toLine : PF := ⟨[.val], [0, 1, 3], (.seq (.reg [⟨some 1, .box (.t 0) 19, none, 0⟩,
  ⟨some 2, .alloc [.int .i64 0, .int .i64 0, .int .i64 0, .sl 2 ty_int64 [], .int .i64 0, .int .i64 0, .int .i64 0, .int .i64 0, .int .i64 0, .int .i64 0, .sl 2 ty_impl_Head [], .sl 2 ty_impl_Last [], .sl 2 ty_impl_Entry [], .int .i64 0, .int .i64 0, .sl 2 ty_impl_Chunk [], .sl 2 ty_impl_Way [], .sl 2 ty_impl_Ack [], .sl 2 ty_impl_Wait []], none, 0⟩]) (.seq (.reg [⟨some 3, .alloc [.int .i64 0, .int .i64 0, .int .i64 0, .sl 2 ty_int64 [], .int .i64 0, .int .i64 0, .int .i64 0, .int .i64 0, .int .i64 0, .int .i64 0, .sl 2 ty_impl_Head [], .sl 2 ty_impl_Last [], .sl 2 ty_impl_Entry [], .int .i64 0, .int .i64 0, .sl 2 ty_impl_Chunk [], .sl 2 ty_impl_Way [], .sl 2 ty_impl_Ack [], .sl 2 ty_impl_Wait []], none, 0⟩]) (.seq (.reg [⟨some 4, .flda 0 (.t 1), none, 0⟩,
  ⟨some 5, .load 1 false (.t 4), none, 0⟩,
  ⟨some 6, .flda 0 (.t 3), none, 0⟩,
  ⟨none, .store 1 (.t 6) (.t 5), none, 0⟩]) (.seq (.reg [⟨some 7, .flda 1 (.t 1), none, 0⟩,
  ⟨some 8, .load 2 true (.t 7), none, 0⟩,
  ⟨some 9, .call fn_laws_toCode [.t 8], none, 0⟩,
  ⟨some 10, .flda 1 (.t 3), none, 0⟩,
  ⟨none, .store 2 (.t 10) (.t 9), none, 0⟩]) (.seq (.reg [⟨some 11, .flda 3 (.t 1), none, 0⟩,
  ⟨some 12, .load 1 false (.t 11), none, 0⟩,
  ⟨some 13, .call fn_laws_toInt64S [.t 12], none, 0⟩,
  ⟨some 14, .flda 3 (.t 3), none, 0⟩,
  ⟨none, .store 1 (.t 14) (.t 13), none, 0⟩]) (.seq (.reg [⟨some 15, .flda 4 (.t 1), none, 0⟩,
  ⟨some 16, .load 12 true (.t 15), none, 0⟩,
  ⟨some 17, .call fn_laws_toPgState [.t 16], none, 0⟩,
  ⟨some 18, .flda 4 (.t 3), none, 0⟩,
  ⟨none, .store 12 (.t 18) (.t 17), none, 0⟩]) (.seq (.reg [⟨some 19, .flda 16 (.t 1), none, 0⟩,
  ⟨some 20, .load 1 false (.t 19), none, 0⟩,
  ⟨some 21, .call fn_laws_toWayS [.t 20], none, 0⟩,
  ⟨some 22, .flda 16 (.t 3), none, 0⟩,
  ⟨none, .store 1 (.t 22) (.t 21), none, 0⟩]) (.seq (.reg [⟨some 23, .flda 17 (.t 1), none, 0⟩,
  ⟨some 24, .load 1 false (.t 23), none, 0⟩,
  ⟨some 25, .call fn_laws_toAckS [.t 24], none, 0⟩,
  ⟨some 26, .flda 17 (.t 3), none, 0⟩,
  ⟨none, .store 1 (.t 26) (.t 25), none, 0⟩]) (.seq (.reg [⟨some 27, .flda 18 (.t 1), none, 0⟩,
  ⟨some 28, .load 1 false (.t 27), none, 0⟩,
  ⟨some 29, .call fn_laws_toWaitS [.t 28], none, 0⟩,
  ⟨some 30, .flda 18 (.t 3), none, 0⟩,
  ⟨none, .store 1 (.t 30) (.t 29), none, 0⟩]) (.seq (.reg [⟨some 31, .ldt 19 (.t 3), none, 0⟩,
  ⟨none, .store 19 (.t 2) (.t 31), none, 0⟩]) .ret)))))))))),
  [(2, some (19, true))]⟩
def pf_laws_toLead : PF := ⟨[.val], [0, 1, 3], (.seq (.reg [⟨some 1, .box (.t 0) 43, none, 0⟩,
  ⟨some 2, .alloc [.int .i64 0, .int .i64 0, .int .i64 0, .int .i64 0, .int .i64 0, .int .i64 0, .sl 2 ty_int64 [], .sl 2 ty_impl_Interval [], .sl 2 ty_impl_Notice [], .int .i64 0, .int .i64 0, .int .i64 0, .int .i64 0, .int .i64 0, .int .i64 0, .sl 2 ty_impl_Head [], .sl 2 ty_impl_Last [], .sl 2 ty_impl_Entry [], .int .i64 0, .int .i64 0, .sl 2 ty_impl_Chunk [], .sl 2 ty_impl_Fill [], .sl 2 ty_impl_Chunk [], .sl 2 ty_int64 [], .int .i64 0, .int .i64 0, .int .i64 0, .sl 2 ty_int64 [], .int .i64 0, .int .i64 0, .int .i64 0, .int .i64 0, .int .i64 0, .int .i64 0, .sl 2 ty_impl_Head [], .sl 2 ty_impl_Last [], .sl 2 ty_impl_Entry [], .int .i64 0, .int .i64 0, .sl 2 ty_impl_Chunk [], .sl 2 ty_impl_Way [], .sl 2 ty_impl_Ack [], .sl 2 ty_impl_Wait []], none, 0⟩]) (.seq (.reg [⟨some 3, .alloc [.int .i64 0, .int .i64 0, .int .i64 0, .int .i64 0, .int .i64 0, .int .i64 0, .sl 2 ty_int64 [], .sl 2 ty_impl_Interval [], .sl 2 ty_impl_Notice [], .int .i64 0, .int .i64 0, .int .i64 0, .int .i64 0, .int .i64 0, .int .i64 0, .sl 2 ty_impl_Head [], .sl 2 ty_impl_Last [], .sl 2 ty_impl_Entry [], .int .i64 0, .int .i64 0, .sl 2 ty_impl_Chunk [], .sl 2 ty_impl_Fill [], .sl 2 ty_impl_Chunk [], .sl 2 ty_int64 [], .int .i64 0, .int .i64 0, .int .i64 0, .sl 2 ty_int64 [], .int .i64 0, .int .i64 0, .int .i64 0, .int .i64 0, .int .i64 0, .int .i64 0, .sl 2 ty_impl_Head [], .sl 2 ty_impl_Last [], .sl 2 ty_impl_Entry [], .int .i64 0, .int .i64 0, .sl 2 ty_impl_Chunk [], .sl 2 ty_impl_Way [], .sl 2 ty_impl_Ack [], .sl 2 ty_impl_Wait []], none, 0⟩]) (.seq (.reg [⟨some 4, .flda 0 (.t 1), none, 0⟩,
  ⟨some 5, .load 2 true (.t 4), none, 0⟩,
  ⟨some 6, .call fn_laws_toPg [.t 5], none, 0⟩,
  ⟨some 7, .flda 0 (.t 3), none, 0⟩,
  ⟨none, .store 2 (.t 7) (.t 6), none, 0⟩]) (.seq (.reg [⟨some 8, .flda 2 (.t 1), none, 0⟩,
  ⟨some 9, .load 1 false (.t 8), none, 0⟩,
  ⟨some 10, .flda 2 (.t 3), none, 0⟩,
  ⟨none, .store 1 (.t 10) (.t 9), none, 0⟩]) (.seq (.reg [⟨some 11, .flda 3 (.t 1), none, 0⟩,
  ⟨some 12, .load 1 false (.t 11), none, 0⟩,
  ⟨some 13, .flda 3 (.t 3), none, 0⟩,
  ⟨none, .store 1 (.t 13) (.t 12), none, 0⟩]) (.seq (.reg [⟨some 14, .flda 4 (.t 1), none, 0⟩,
  ⟨some 15, .load 2 true (.t 14), none, 0⟩,
  ⟨some 16, .call fn_laws_toCode [.t 15], none, 0⟩,
  ⟨some 17, .flda 4 (.t 3), none, 0⟩,
  ⟨none, .store 2 (.t 17) (.t 16), none, 0⟩]) (.seq (.reg [⟨some 18, .flda 6 (.t 1), none, 0⟩,
  ⟨some 19, .load 1 false (.t 18), none, 0⟩,
  ⟨some 20, .call fn_laws_toInt64S [.t 19], none, 0⟩,
  ⟨some 21, .flda 6 (.t 3), none, 0⟩,
  ⟨none, .store 1 (.t 21) (.t 20), none, 0⟩]) (.seq (.reg [⟨some 22, .flda 7 (.t 1), none, 0⟩,
  ⟨some 23, .load 1 false (.t 22), none, 0⟩,
  ⟨some 24, .call fn_laws_toIntervalS [.t 23], none, 0⟩,
  ⟨some 25, .flda 7 (.t 3), none, 0⟩,
  ⟨none, .store 1 (.t 25) (.t 24), none, 0⟩]) (.seq (.reg [⟨some 26, .flda 8 (.t 1), none, 0⟩,
  ⟨some 27, .load 1 false (.t 26), none, 0⟩,
  ⟨some 28, .call fn_laws_toNoticeS [.t 27], none, 0⟩,
  ⟨some 29, .flda 8 (.t 3), none, 0⟩,
  ⟨none, .store 1 (.t 29) (.t 28), none, 0⟩]) (.seq (.reg [⟨some 30, .flda 9 (.t 1), none, 0⟩,
  ⟨some 31, .load 12 true (.t 30), none, 0⟩,
  ⟨some 32, .call fn_laws_toPgState [.t 31], none, 0⟩,
  ⟨some 33, .flda 9 (.t 3), none, 0⟩,
  ⟨none, .store 12 (.t 33) (.t 32), none, 0⟩]) (.seq (.reg [⟨some 34, .flda 21 (.t 1), none, 0⟩,
  ⟨some 35, .load 1 false (.t 34), none, 0⟩,
  ⟨some 36, .call fn_laws_toFillS [.t 35], none, 0⟩,
  ⟨some 37, .flda 21 (.t 3), none, 0⟩,
  ⟨none, .store 1 (.t 37) (.t 36), none, 0⟩]) (.seq (.reg [⟨some 38, .flda 22 (.t 1), none, 0⟩,
  ⟨some 39, .load 1 false (.t 38), none, 0⟩,
  ⟨some 40, .call fn_laws_toChunkS [.t 39], none, 0⟩,
  ⟨some 41, .flda 22 (.t 3), none, 0⟩,
  ⟨none, .store 1 (.t 41) (.t 40), none, 0⟩]) (.seq (.reg [⟨some 42, .flda 23 (.t 1), none, 0⟩,
  ⟨some 43, .load 1 false (.t 42), none, 0⟩,
  ⟨some 44, .call fn_laws_toInt64S [.t 43], none, 0⟩,
  ⟨some 45, .flda 23 (.t 3), none, 0⟩,
  ⟨none, .store 1 (.t 45) (.t 44), none, 0⟩]) (.seq (.reg [⟨some 46, .flda 24 (.t 1), none, 0⟩,
  ⟨some 47, .load 19 true (.t 46), none, 0⟩,
  ⟨some 48, .call fn_laws_toLine [.t 47], none, 0⟩,
  ⟨some 49, .flda 24 (.t 3), none, 0⟩,
  ⟨none, .store 19 (.t 49) (.t 48), none, 0⟩]) (.seq (.reg [⟨some 50, .ldt 43 (.t 3), none, 0⟩,
  ⟨none, .store 43 (.t 2) (.t 50), none, 0⟩]) .ret))))))))))))))),
  [(2, some (43, true))]⟩
def pf_laws_toLeadS : PF := toSF ty_laws_Lead ty_impl_Lead 43 fn_laws_toLead [.int .i64 0, .int .i64 0, .int .i64 0, .int .i64 0, .int .i64 0, .int .i64 0, .sl 2 ty_int64 [], .sl 2 ty_impl_Interval [], .sl 2 ty_impl_Notice [], .int .i64 0, .int .i64 0, .int .i64 0, .int .i64 0, .int .i64 0, .int .i64 0, .sl 2 ty_impl_Head [], .sl 2 ty_impl_Last [], .sl 2 ty_impl_Entry [], .int .i64 0, .int .i64 0, .sl 2 ty_impl_Chunk [], .sl 2 ty_impl_Fill [], .sl 2 ty_impl_Chunk [], .sl 2 ty_int64 [], .int .i64 0, .int .i64 0, .int .i64 0, .sl 2 ty_int64 [], .int .i64 0, .int .i64 0, .int .i64 0, .int .i64 0, .int .i64 0, .int .i64 0, .sl 2 ty_impl_Head [], .sl 2 ty_impl_Last [], .sl 2 ty_impl_Entry [], .int .i64 0, .int .i64 0, .sl 2 ty_impl_Chunk [], .sl 2 ty_impl_Way [], .sl 2 ty_impl_Ack [], .sl 2 ty_impl_Wait []] 632
def pf_laws_toOp : PF := ⟨[.val], [0, 1, 3], (.seq (.reg [⟨some 1, .box (.t 0) 3, none, 0⟩,
  ⟨some 2, .alloc [.int .i64 0, .int .i64 0, .str ⟨#[]⟩], none, 0⟩]) (.seq (.reg [⟨some 3, .alloc [.int .i64 0, .int .i64 0, .str ⟨#[]⟩], none, 0⟩]) (.seq (.reg [⟨some 4, .flda 0 (.t 1), none, 0⟩,
  ⟨some 5, .load 1 false (.t 4), none, 0⟩,
  ⟨some 6, .flda 0 (.t 3), none, 0⟩,
  ⟨none, .store 1 (.t 6) (.t 5), none, 0⟩]) (.seq (.reg [⟨some 7, .flda 1 (.t 1), none, 0⟩,
  ⟨some 8, .load 1 false (.t 7), none, 0⟩,
  ⟨some 9, .flda 1 (.t 3), none, 0⟩,
  ⟨none, .store 1 (.t 9) (.t 8), none, 0⟩]) (.seq (.reg [⟨some 10, .flda 2 (.t 1), none, 0⟩,
  ⟨some 11, .load 1 false (.t 10), none, 0⟩,
  ⟨some 12, .flda 2 (.t 3), none, 0⟩,
  ⟨none, .store 1 (.t 12) (.t 11), none, 0⟩]) (.seq (.reg [⟨some 13, .load 3 true (.t 3), none, 0⟩,
  ⟨none, .store 3 (.t 2) (.t 13), none, 0⟩]) .ret)))))),
  [(2, some (3, true))]⟩
def pf_laws_toMsg : PF := ⟨[.val], [0, 1, 3], (.seq (.reg [⟨some 1, .box (.t 0) 46, none, 0⟩,
  ⟨some 2, .alloc [.int .i64 0, .int .i64 0, .int .i64 0, .int .i64 0, .int .i64 0, .int .i64 0, .str ⟨#[]⟩, .int .i64 0, .int .i64 0, .int .i64 0, .int .i64 0, .int .i64 0, .int .i64 0, .int .i64 0, .int .i64 0, .int .i64 0, .int .i64 0, .sl 2 ty_impl_Head [], .sl 2 ty_impl_Last [], .sl 2 ty_impl_Entry [], .int .i64 0, .int .i64 0, .sl 2 ty_impl_Chunk [], .int .i64 0, .int .i64 0, .int .i64 0, .int .i64 0, .str ⟨#[]⟩, .bool false, .int .i64 0, .int .i64 0, .int .i64 0, .int .i64 0, .str ⟨#[]⟩, .int .i64 0, .int .i64 0, .int .i64 0, .int .i64 0, .str ⟨#[]⟩, .int .i64 0, .int .i64 0, .str ⟨#[]⟩, .int .i64 0, .int .i64 0, .int .i64 0, .str ⟨#[]⟩], none, 0⟩]) (.seq (.reg [⟨some 3, .alloc [.int .i64 0, .int .i64 0, .int .i64 0, .int .i64 0, .int .i64 0, .int .i64 0, .str ⟨#[]⟩, .int .i64 0, .int .i64 0, .int .i64 0, .int .i64 0, .int .i64 0, .int .i64 0, .int .i64 0, .int .i64 0, .int .i64 0, .int .i64 0, .sl 2 ty_impl_Head [], .sl 2 ty_impl_Last [], .sl 2 ty_impl_Entry [], .int .i64 0, .int .i64 0, .sl 2 ty_impl_Chunk [], .int .i64 0, .int .i64 0, .int .i64 0, .int .i64 0, .str ⟨#[]⟩, .bool false, .int .i64 0, .int .i64 0, .int .i64 0, .int .i64 0, .str ⟨#[]⟩, .int .i64 0, .int .i64 0, .int .i64 0, .int .i64 0, .str ⟨#[]⟩, .int .i64 0, .int .i64 0, .str ⟨#[]⟩, .int .i64 0, .int .i64 0, .int .i64 0, .str ⟨#[]⟩], none, 0⟩]) (.seq (.reg [⟨some 4, .flda 0 (.t 1), none, 0⟩,
  ⟨some 5, .load 1 false (.t 4), none, 0⟩,
  ⟨some 6, .flda 0 (.t 3), none, 0⟩,
  ⟨none, .store 1 (.t 6) (.t 5), none, 0⟩]) (.seq (.reg [⟨some 7, .flda 1 (.t 1), none, 0⟩,
  ⟨some 8, .load 1 false (.t 7), none, 0⟩,
  ⟨some 9, .flda 1 (.t 3), none, 0⟩,
  ⟨none, .store 1 (.t 9) (.t 8), none, 0⟩]) (.seq (.reg [⟨some 10, .flda 2 (.t 1), none, 0⟩,
  ⟨some 11, .load 1 false (.t 10), none, 0⟩,
  ⟨some 12, .flda 2 (.t 3), none, 0⟩,
  ⟨none, .store 1 (.t 12) (.t 11), none, 0⟩]) (.seq (.reg [⟨some 13, .flda 3 (.t 1), none, 0⟩,
  ⟨some 14, .load 2 true (.t 13), none, 0⟩,
  ⟨some 15, .call fn_laws_toPg [.t 14], none, 0⟩,
  ⟨some 16, .flda 3 (.t 3), none, 0⟩,
  ⟨none, .store 2 (.t 16) (.t 15), none, 0⟩]) (.seq (.reg [⟨some 17, .flda 5 (.t 1), none, 0⟩,
  ⟨some 18, .load 1 false (.t 17), none, 0⟩,
  ⟨some 19, .flda 5 (.t 3), none, 0⟩,
  ⟨none, .store 1 (.t 19) (.t 18), none, 0⟩]) (.seq (.reg [⟨some 20, .flda 6 (.t 1), none, 0⟩,
  ⟨some 21, .load 1 false (.t 20), none, 0⟩,
  ⟨some 22, .flda 6 (.t 3), none, 0⟩,
  ⟨none, .store 1 (.t 22) (.t 21), none, 0⟩]) (.seq (.reg [⟨some 23, .flda 7 (.t 1), none, 0⟩,
  ⟨some 24, .load 2 true (.t 23), none, 0⟩,
  ⟨some 25, .call fn_laws_toVer [.t 24], none, 0⟩,
  ⟨some 26, .flda 7 (.t 3), none, 0⟩,
  ⟨none, .store 2 (.t 26) (.t 25), none, 0⟩]) (.seq (.reg [⟨some 27, .flda 9 (.t 1), none, 0⟩,
  ⟨some 28, .load 2 true (.t 27), none, 0⟩,
  ⟨some 29, .call fn_laws_toVer [.t 28], none, 0⟩,
  ⟨some 30, .flda 9 (.t 3), none, 0⟩,
  ⟨none, .store 2 (.t 30) (.t 29), none, 0⟩]) (.seq (.reg [⟨some 31, .flda 11 (.t 1), none, 0⟩,
  ⟨some 32, .load 12 true (.t 31), none, 0⟩,
  ⟨some 33, .call fn_laws_toPgState [.t 32], none, 0⟩,
  ⟨some 34, .flda 11 (.t 3), none, 0⟩,
  ⟨none, .store 12 (.t 34) (.t 33), none, 0⟩]) (.seq (.reg [⟨some 35, .flda 23 (.t 1), none, 0⟩,
  ⟨some 36, .load 10 true (.t 35), none, 0⟩,
  ⟨some 37, .call fn_laws_toEntry [.t 36], none, 0⟩,
  ⟨some 38, .flda 23 (.t 3), none, 0⟩,
  ⟨none, .store 10 (.t 38) (.t 37), none, 0⟩]) (.seq (.reg [⟨some 39, .flda 33 (.t 1), none, 0⟩,
  ⟨some 40, .load 6 true (.t 39), none, 0⟩,
  ⟨some 41, .call fn_laws_toChunk [.t 40], none, 0⟩,
  ⟨some 42, .flda 33 (.t 3), none, 0⟩,
  ⟨none, .store 6 (.t 42) (.t 41), none, 0⟩]) (.seq (.reg [⟨some 43, .flda 39 (.t 1), none, 0⟩,
  ⟨some 44, .load 3 true (.t 43), none, 0⟩,
  ⟨some 45, .call fn_laws_toOp [.t 44], none, 0⟩,
  ⟨some 46, .flda 39 (.t 3), none, 0⟩,
  ⟨none, .store 3 (.t 46) (.t 45), none, 0⟩]) (.seq (.reg [⟨some 47, .flda 42 (.t 1), none, 0⟩,
  ⟨some 48, .load 2 true (.t 47), none, 0⟩,
  ⟨some 49, .call fn_laws_toReq [.t 48], none, 0⟩,
  ⟨some 50, .flda 42 (.t 3), none, 0⟩,
  ⟨none, .store 2 (.t 50) (.t 49), none, 0⟩]) (.seq (.reg [⟨some 51, .flda 44 (.t 1), none, 0⟩,
  ⟨some 52, .load 1 false (.t 51), none, 0⟩,
  ⟨some 53, .flda 44 (.t 3), none, 0⟩,
  ⟨none, .store 1 (.t 53) (.t 52), none, 0⟩]) (.seq (.reg [⟨some 54, .flda 45 (.t 1), none, 0⟩,
  ⟨some 55, .load 1 false (.t 54), none, 0⟩,
  ⟨some 56, .flda 45 (.t 3), none, 0⟩,
  ⟨none, .store 1 (.t 56) (.t 55), none, 0⟩]) (.seq (.reg [⟨some 57, .ldt 46 (.t 3), none, 0⟩,
  ⟨none, .store 46 (.t 2) (.t 57), none, 0⟩]) .ret)))))))))))))))))),
  [(2, some (46, true))]⟩
def pf_laws_toMsgS : PF := toSF ty_laws_Msg ty_impl_Msg 46 fn_laws_toMsg [.int .i64 0, .int .i64 0, .int .i64 0, .int .i64 0, .int .i64 0, .int .i64 0, .str ⟨#[]⟩, .int .i64 0, .int .i64 0, .int .i64 0, .int .i64 0, .int .i64 0, .int .i64 0, .int .i64 0, .int .i64 0, .int .i64 0, .int .i64 0, .sl 2 ty_impl_Head [], .sl 2 ty_impl_Last [], .sl 2 ty_impl_Entry [], .int .i64 0, .int .i64 0, .sl 2 ty_impl_Chunk [], .int .i64 0, .int .i64 0, .int .i64 0, .int .i64 0, .str ⟨#[]⟩, .bool false, .int .i64 0, .int .i64 0, .int .i64 0, .int .i64 0, .str ⟨#[]⟩, .int .i64 0, .int .i64 0, .int .i64 0, .int .i64 0, .str ⟨#[]⟩, .int .i64 0, .int .i64 0, .str ⟨#[]⟩, .int .i64 0, .int .i64 0, .int .i64 0, .str ⟨#[]⟩] 480
def pf_laws_toServer : PF := ⟨[.val], [0, 1, 3], (.seq (.reg [⟨some 1, .box (.t 0) 7, none, 0⟩,
  ⟨some 2, .alloc [.int .i64 0, .int .i64 0, .bool false, .sl 2 ty_impl_PgState [], .sl 2 ty_impl_PgState [], .sl 2 ty_impl_Lead [], .sl 2 ty_impl_Msg []], none, 0⟩]) (.seq (.reg [⟨some 3, .alloc [.int .i64 0, .int .i64 0, .bool false, .sl 2 ty_impl_PgState [], .sl 2 ty_impl_PgState [], .sl 2 ty_impl_Lead [], .sl 2 ty_impl_Msg []], none, 0⟩]) (.seq (.reg [⟨some 4, .flda 0 (.t 1), none, 0⟩,
  ⟨some 5, .load 1 false (.t 4), none, 0⟩,
  ⟨some 6, .flda 0 (.t 3), none, 0⟩,
  ⟨none, .store 1 (.t 6) (.t 5), none, 0⟩]) (.seq (.reg [⟨some 7, .flda 1 (.t 1), none, 0⟩,
  ⟨some 8, .load 1 false (.t 7), none, 0⟩,
  ⟨some 9, .flda 1 (.t 3), none, 0⟩,
  ⟨none, .store 1 (.t 9) (.t 8), none, 0⟩]) (.seq (.reg [⟨some 10, .flda 2 (.t 1), none, 0⟩,
  ⟨some 11, .load 1 false (.t 10), none, 0⟩,
  ⟨some 12, .flda 2 (.t 3), none, 0⟩,
  ⟨none, .store 1 (.t 12) (.t 11), none, 0⟩]) (.seq (.reg [⟨some 13, .flda 3 (.t 1), none, 0⟩,
  ⟨some 14, .load 2 true (.t 13), none, 0⟩,
  ⟨some 15, .call fn_laws_toStore [.t 14], none, 0⟩,
  ⟨some 16, .flda 3 (.t 3), none, 0⟩,
  ⟨none, .store 2 (.t 16) (.t 15), none, 0⟩]) (.seq (.reg [⟨some 17, .flda 5 (.t 1), none, 0⟩,
  ⟨some 18, .load 1 false (.t 17), none, 0⟩,
  ⟨some 19, .call fn_laws_toLeadS [.t 18], none, 0⟩,
  ⟨some 20, .flda 5 (.t 3), none, 0⟩,
  ⟨none, .store 1 (.t 20) (.t 19), none, 0⟩]) (.seq (.reg [⟨some 21, .flda 6 (.t 1), none, 0⟩,
  ⟨some 22, .load 1 false (.t 21), none, 0⟩,
  ⟨some 23, .call fn_laws_toMsgS [.t 22], none, 0⟩,
  ⟨some 24, .flda 6 (.t 3), none, 0⟩,
  ⟨none, .store 1 (.t 24) (.t 23), none, 0⟩]) (.seq (.reg [⟨some 25, .ldt 7 (.t 3), none, 0⟩,
  ⟨none, .store 7 (.t 2) (.t 25), none, 0⟩]) .ret))))))))),
  [(2, some (7, true))]⟩
def pf_Eq_impl_Chunk : PF := sEqH (sEqL ty_impl_Chunk 6 [2, 0, 0, 0, 0, 2])
def pf_Eq_impl_Head : PF := sEqH (sEqL ty_impl_Head 5 [2, 0, 0, 0, 0])
def pf_Eq_impl_Last : PF := sEqH (sEqL ty_impl_Last 4 [0, 0, 0, 0])
def pf_Eq_impl_Entry : PF := sEqH (sEqL ty_impl_Entry 10 [0, 0, 0, 0, 2, 1, 0, 0, 0, 0])
def pf_impl_sameState : PF := ⟨[.val, .val], [0, 1, 2, 3, 10, 17, 24, 31, 38, 45, 52, 59], (.seq (.reg [⟨some 2, .box (.t 0) 12, none, 0⟩,
  ⟨some 3, .box (.t 1) 12, none, 0⟩,
  ⟨some 4, .mov (.k (.bool false)), none, 0⟩]) (.seq (.reg [⟨some 5, .flda 0 (.t 2), none, 0⟩,
  ⟨some 6, .load 2 true (.t 5), none, 0⟩,
  ⟨some 7, .flda 0 (.t 3), none, 0⟩,
  ⟨some 8, .load 2 true (.t 7), none, 0⟩,
  ⟨some 9, .eqs false [0, 0] (.t 6) (.t 8), none, 0⟩,
  ⟨some 10, .mov (.t 9), none, 0⟩,
  ⟨some 11, .flda 2 (.t 2), some (10, true), 0⟩,
  ⟨some 12, .load 1 false (.t 11), some (10, true), 0⟩,
  ⟨some 13, .flda 2 (.t 3), some (10, true), 0⟩,
  ⟨some 14, .load 1 false (.t 13), some (10, true), 0⟩,
  ⟨some 15, .bin .eql 0 (.t 12) (.t 14), some (10, true), 0⟩,
  ⟨some 16, .pick (.t 10) (.t 15) (.k (.bool false)), none, 0⟩,
  ⟨some 17, .mov (.t 16), none, 0⟩,
  ⟨some 18, .flda 3 (.t 2), some (17, true), 0⟩,
  ⟨some 19, .load 1 false (.t 18), some (17, true), 0⟩,
  ⟨some 20, .flda 3 (.t 3), some (17, true), 0⟩,
  ⟨some 21, .load 1 false (.t 20), some (17, true), 0⟩,
  ⟨some 22, .bin .eql 0 (.t 19) (.t 21), some (17, true), 0⟩,
  ⟨some 23, .pick (.t 17) (.t 22) (.k (.bool false)), none, 0⟩,
  ⟨some 24, .mov (.t 23), none, 0⟩,
  ⟨some 25, .flda 4 (.t 2), some (24, true), 0⟩,
  ⟨some 26, .load 2 true (.t 25), some (24, true), 0⟩,
  ⟨some 27, .flda 4 (.t 3), some (24, true), 0⟩,
  ⟨some 28, .load 2 true (.t 27), some (24, true), 0⟩,
  ⟨some 29, .eqs false [0, 0] (.t 26) (.t 28), some (24, true), 0⟩,
  ⟨some 30, .pick (.t 24) (.t 29) (.k (.bool false)), none, 0⟩,
  ⟨some 31, .mov (.t 30), none, 0⟩,
  ⟨some 32, .flda 9 (.t 2), some (31, true), 0⟩,
  ⟨some 33, .load 2 true (.t 32), some (31, true), 0⟩,
  ⟨some 34, .flda 9 (.t 3), some (31, true), 0⟩,
  ⟨some 35, .load 2 true (.t 34), some (31, true), 0⟩,
  ⟨some 36, .eqs false [0, 0] (.t 33) (.t 35), some (31, true), 0⟩,
  ⟨some 37, .pick (.t 31) (.t 36) (.k (.bool false)), none, 0⟩,
  ⟨some 38, .mov (.t 37), none, 0⟩,
  ⟨some 39, .flda 6 (.t 2), some (38, true), 0⟩,
  ⟨some 40, .load 1 false (.t 39), some (38, true), 0⟩,
  ⟨some 41, .flda 6 (.t 3), some (38, true), 0⟩,
  ⟨some 42, .load 1 false (.t 41), some (38, true), 0⟩,
  ⟨some 43, .call fn_Eq_impl_Head [.t 40, .t 42], some (38, true), 0⟩,
  ⟨some 44, .pick (.t 38) (.t 43) (.k (.bool false)), none, 0⟩,
  ⟨some 45, .mov (.t 44), none, 0⟩,
  ⟨some 46, .flda 7 (.t 2), some (45, true), 0⟩,
  ⟨some 47, .load 1 false (.t 46), some (45, true), 0⟩,
  ⟨some 48, .flda 7 (.t 3), some (45, true), 0⟩,
  ⟨some 49, .load 1 false (.t 48), some (45, true), 0⟩,
  ⟨some 50, .call fn_Eq_impl_Last [.t 47, .t 49], some (45, true), 0⟩,
  ⟨some 51, .pick (.t 45) (.t 50) (.k (.bool false)), none, 0⟩,
  ⟨some 52, .mov (.t 51), none, 0⟩,
  ⟨some 53, .flda 8 (.t 2), some (52, true), 0⟩,
  ⟨some 54, .load 1 false (.t 53), some (52, true), 0⟩,
  ⟨some 55, .flda 8 (.t 3), some (52, true), 0⟩,
  ⟨some 56, .load 1 false (.t 55), some (52, true), 0⟩,
  ⟨some 57, .call fn_Eq_impl_Entry [.t 54, .t 56], some (52, true), 0⟩,
  ⟨some 58, .pick (.t 52) (.t 57) (.k (.bool false)), none, 0⟩,
  ⟨some 59, .mov (.t 58), none, 0⟩,
  ⟨some 60, .flda 11 (.t 2), some (59, true), 0⟩,
  ⟨some 61, .load 1 false (.t 60), some (59, true), 0⟩,
  ⟨some 62, .flda 11 (.t 3), some (59, true), 0⟩,
  ⟨some 63, .load 1 false (.t 62), some (59, true), 0⟩,
  ⟨some 64, .call fn_Eq_impl_Chunk [.t 61, .t 63], some (59, true), 0⟩,
  ⟨some 65, .pick (.t 59) (.t 64) (.k (.bool false)), none, 0⟩,
  ⟨some 4, .mov (.t 65), none, 0⟩]) .ret)),
  [(4, none)]⟩
def pf_EqF_impl_PgState : PF := sEqFH (sEqFL ty_impl_PgState 12 [.int .i64 0, .int .i64 0, .int .i64 0, .int .i64 0, .int .i64 0, .int .i64 0, .sl 2 ty_impl_Head [], .sl 2 ty_impl_Last [], .sl 2 ty_impl_Entry [], .int .i64 0, .int .i64 0, .sl 2 ty_impl_Chunk []])
def pf_impl_sameStates : PF := ⟨[.val, .val], [0, 1], (.seq (.reg [⟨some 4, .mov (.k (.bool false)), none, 0⟩]) (.seq (.reg [⟨some 5, .mov (.t 0), none, 0⟩,
  ⟨some 6, .mov (.t 1), none, 0⟩,
  ⟨some 7, .call fn_EqF_impl_PgState [.t 5, .t 6, .k (.clo fn_impl_sameState [])], none, 0⟩,
  ⟨some 4, .mov (.t 7), none, 0⟩]) .ret)),
  [(4, none)]⟩
def pf_impl_SameStore : PF := ⟨[.val, .val], [0, 1, 2, 3, 10], (.seq (.reg [⟨some 2, .box (.t 0) 2, none, 0⟩,
  ⟨some 3, .box (.t 1) 2, none, 0⟩,
  ⟨some 4, .mov (.k (.bool false)), none, 0⟩]) (.seq (.reg [⟨some 5, .flda 0 (.t 2), none, 0⟩,
  ⟨some 6, .load 1 false (.t 5), none, 0⟩,
  ⟨some 7, .flda 0 (.t 3), none, 0⟩,
  ⟨some 8, .load 1 false (.t 7), none, 0⟩,
  ⟨some 9, .call fn_impl_sameStates [.t 6, .t 8], none, 0⟩,
  ⟨some 10, .mov (.t 9), none, 0⟩,
  ⟨some 11, .flda 1 (.t 2), some (10, true), 0⟩,
  ⟨some 12, .load 1 false (.t 11), some (10, true), 0⟩,
  ⟨some 13, .flda 1 (.t 3), some (10, true), 0⟩,
  ⟨some 14, .load 1 false (.t 13), some (10, true), 0⟩,
  ⟨some 15, .call fn_impl_sameStates [.t 12, .t 14], some (10, true), 0⟩,
  ⟨some 16, .pick (.t 10) (.t 15) (.k (.bool false)), none, 0⟩,
  ⟨some 4, .mov (.t 16), none, 0⟩]) .ret)),
  [(4, none)]⟩
def pf_EqF_impl_Lead : PF := sEqFH (sEqFL ty_impl_Lead 43 [.int .i64 0, .int .i64 0, .int .i64 0, .int .i64 0, .int .i64 0, .int .i64 0, .sl 2 ty_int64 [], .sl 2 ty_impl_Interval [], .sl 2 ty_impl_Notice [], .int .i64 0, .int .i64 0, .int .i64 0, .int .i64 0, .int .i64 0, .int .i64 0, .sl 2 ty_impl_Head [], .sl 2 ty_impl_Last [], .sl 2 ty_impl_Entry [], .int .i64 0, .int .i64 0, .sl 2 ty_impl_Chunk [], .sl 2 ty_impl_Fill [], .sl 2 ty_impl_Chunk [], .sl 2 ty_int64 [], .int .i64 0, .int .i64 0, .int .i64 0, .sl 2 ty_int64 [], .int .i64 0, .int .i64 0, .int .i64 0, .int .i64 0, .int .i64 0, .int .i64 0, .sl 2 ty_impl_Head [], .sl 2 ty_impl_Last [], .sl 2 ty_impl_Entry [], .int .i64 0, .int .i64 0, .sl 2 ty_impl_Chunk [], .sl 2 ty_impl_Way [], .sl 2 ty_impl_Ack [], .sl 2 ty_impl_Wait []])
def pf_Eq_int64 : PF := sEqH (sEq0L ty_int64)
def pf_EqF_impl_Interval : PF := sEqFH (sEqFL ty_impl_Interval 4 [.int .i64 0, .int .i64 0, .sl 2 ty_int64 [], .bool false])
def pf_impl_sameInterval : PF := ⟨[.val, .val], [0, 1, 2, 3, 10, 17, 24], (.seq (.reg [⟨some 2, .box (.t 0) 4, none, 0⟩,
  ⟨some 3, .box (.t 1) 4, none, 0⟩,
  ⟨some 4, .mov (.k (.bool false)), none, 0⟩]) (.seq (.reg [⟨some 5, .flda 0 (.t 2), none, 0⟩,
  ⟨some 6, .load 1 false (.t 5), none, 0⟩,
  ⟨some 7, .flda 0 (.t 3), none, 0⟩,
  ⟨some 8, .load 1 false (.t 7), none, 0⟩,
  ⟨some 9, .bin .eql 0 (.t 6) (.t 8), none, 0⟩,
  ⟨some 10, .mov (.t 9), none, 0⟩,
  ⟨some 11, .flda 1 (.t 2), some (10, true), 0⟩,
  ⟨some 12, .load 1 false (.t 11), some (10, true), 0⟩,
  ⟨some 13, .flda 1 (.t 3), some (10, true), 0⟩,
  ⟨some 14, .load 1 false (.t 13), some (10, true), 0⟩,
  ⟨some 15, .bin .eql 0 (.t 12) (.t 14), some (10, true), 0⟩,
  ⟨some 16, .pick (.t 10) (.t 15) (.k (.bool false)), none, 0⟩,
  ⟨some 17, .mov (.t 16), none, 0⟩,
  ⟨some 18, .flda 3 (.t 2), some (17, true), 0⟩,
  ⟨some 19, .load 1 false (.t 18), some (17, true), 0⟩,
  ⟨some 20, .flda 3 (.t 3), some (17, true), 0⟩,
  ⟨some 21, .load 1 false (.t 20), some (17, true), 0⟩,
  ⟨some 22, .bin .eql 1 (.t 19) (.t 21), some (17, true), 0⟩,
  ⟨some 23, .pick (.t 17) (.t 22) (.k (.bool false)), none, 0⟩,
  ⟨some 24, .mov (.t 23), none, 0⟩,
  ⟨some 25, .flda 2 (.t 2), some (24, true), 0⟩,
  ⟨some 26, .load 1 false (.t 25), some (24, true), 0⟩,
  ⟨some 27, .flda 2 (.t 3), some (24, true), 0⟩,
  ⟨some 28, .load 1 false (.t 27), some (24, true), 0⟩,
  ⟨some 29, .call fn_Eq_int64 [.t 26, .t 28], some (24, true), 0⟩,
  ⟨some 30, .pick (.t 24) (.t 29) (.k (.bool false)), none, 0⟩,
  ⟨some 4, .mov (.t 30), none, 0⟩]) .ret)),
  [(4, none)]⟩
def pf_EqF_impl_Notice : PF := sEqFH (sEqFL ty_impl_Notice 13 [.int .i64 0, .int .i64 0, .int .i64 0, .int .i64 0, .int .i64 0, .int .i64 0, .int .i64 0, .sl 2 ty_impl_Head [], .sl 2 ty_impl_Last [], .sl 2 ty_impl_Entry [], .int .i64 0, .int .i64 0, .sl 2 ty_impl_Chunk []])
def pf_impl_sameNotice : PF := ⟨[.val, .val], [0, 1, 2, 3, 10], (.seq (.reg [⟨some 2, .box (.t 0) 13, none, 0⟩,
  ⟨some 3, .box (.t 1) 13, none, 0⟩,
  ⟨some 4, .mov (.k (.bool false)), none, 0⟩]) (.seq (.reg [⟨some 5, .flda 0 (.t 2), none, 0⟩,
  ⟨some 6, .load 1 false (.t 5), none, 0⟩,
  ⟨some 7, .flda 0 (.t 3), none, 0⟩,
  ⟨some 8, .load 1 false (.t 7), none, 0⟩,
  ⟨some 9, .bin .eql 0 (.t 6) (.t 8), none, 0⟩,
  ⟨some 10, .mov (.t 9), none, 0⟩,
  ⟨some 11, .flda 1 (.t 2), some (10, true), 0⟩,
  ⟨some 12, .load 12 true (.t 11), some (10, true), 0⟩,
  ⟨some 13, .flda 1 (.t 3), some (10, true), 0⟩,
  ⟨some 14, .load 12 true (.t 13), some (10, true), 0⟩,
  ⟨some 15, .call fn_impl_sameState [.t 12, .t 14], some (10, true), 0⟩,
  ⟨some 16, .pick (.t 10) (.t 15) (.k (.bool false)), none, 0⟩,
  ⟨some 4, .mov (.t 16), none, 0⟩]) .ret)),
  [(4, none)]⟩
def pf_Eq_impl_Fill : PF := sEqH (sEqL ty_impl_Fill 7 [0, 0, 2, 0, 0, 0, 0])
def pf_Eq_impl_Way : PF := sEqH (sEqL ty_impl_Way 11 [0, 0, 0, 0, 2, 1, 0, 0, 0, 0, 2])
def pf_Eq_impl_Ack : PF := sEqH (sEqL ty_impl_Ack 3 [0, 0, 0])
def pf_EqF_impl_Wait : PF := sEqFH (sEqFL ty_impl_Wait 6 [.int .i64 0, .int .i64 0, .str ⟨#[]⟩, .int .i64 0, .int .i64 0, .sl 2 ty_impl_Got []])
def pf_Eq_impl_Got : PF := sEqH (sEqL ty_impl_Got 17 [0, 0, 0, 0, 0, 2, 1, 0, 0, 0, 0, 2, 0, 0, 0, 0, 2])
def pf_impl_sameWait : PF := ⟨[.val, .val], [0, 1, 2, 3, 10, 17, 24], (.seq (.reg [⟨some 2, .box (.t 0) 6, none, 0⟩,
  ⟨some 3, .box (.t 1) 6, none, 0⟩,
  ⟨some 4, .mov (.k (.bool false)), none, 0⟩]) (.seq (.reg [⟨some 5, .flda 0 (.t 2), none, 0⟩,
  ⟨some 6, .load 2 true (.t 5), none, 0⟩,
  ⟨some 7, .flda 0 (.t 3), none, 0⟩,
  ⟨some 8, .load 2 true (.t 7), none, 0⟩,
  ⟨some 9, .eqs false [0, 0] (.t 6) (.t 8), none, 0⟩,
  ⟨some 10, .mov (.t 9), none, 0⟩,
  ⟨some 11, .flda 2 (.t 2), some (10, true), 0⟩,
  ⟨some 12, .load 1 false (.t 11), some (10, true), 0⟩,
  ⟨some 13, .flda 2 (.t 3), some (10, true), 0⟩,
  ⟨some 14, .load 1 false (.t 13), some (10, true), 0⟩,
  ⟨some 15, .bin .eql 0 (.t 12) (.t 14), some (10, true), 0⟩,
  ⟨some 16, .pick (.t 10) (.t 15) (.k (.bool false)), none, 0⟩,
  ⟨some 17, .mov (.t 16), none, 0⟩,
  ⟨some 18, .flda 3 (.t 2), some (17, true), 0⟩,
  ⟨some 19, .load 2 true (.t 18), some (17, true), 0⟩,
  ⟨some 20, .flda 3 (.t 3), some (17, true), 0⟩,
  ⟨some 21, .load 2 true (.t 20), some (17, true), 0⟩,
  ⟨some 22, .eqs false [0, 0] (.t 19) (.t 21), some (17, true), 0⟩,
  ⟨some 23, .pick (.t 17) (.t 22) (.k (.bool false)), none, 0⟩,
  ⟨some 24, .mov (.t 23), none, 0⟩,
  ⟨some 25, .flda 5 (.t 2), some (24, true), 0⟩,
  ⟨some 26, .load 1 false (.t 25), some (24, true), 0⟩,
  ⟨some 27, .flda 5 (.t 3), some (24, true), 0⟩,
  ⟨some 28, .load 1 false (.t 27), some (24, true), 0⟩,
  ⟨some 29, .call fn_Eq_impl_Got [.t 26, .t 28], some (24, true), 0⟩,
  ⟨some 30, .pick (.t 24) (.t 29) (.k (.bool false)), none, 0⟩,
  ⟨some 4, .mov (.t 30), none, 0⟩]) .ret)),
  [(4, none)]⟩
def pf_impl_SameLine : PF := ⟨[.val, .val], [0, 1, 2, 3, 10, 17, 24, 31, 38, 45], (.seq (.reg [⟨some 2, .box (.t 0) 19, none, 0⟩,
  ⟨some 3, .box (.t 1) 19, none, 0⟩,
  ⟨some 4, .mov (.k (.bool false)), none, 0⟩]) (.seq (.reg [⟨some 5, .flda 0 (.t 2), none, 0⟩,
  ⟨some 6, .load 1 false (.t 5), none, 0⟩,
  ⟨some 7, .flda 0 (.t 3), none, 0⟩,
  ⟨some 8, .load 1 false (.t 7), none, 0⟩,
  ⟨some 9, .bin .eql 0 (.t 6) (.t 8), none, 0⟩,
  ⟨some 10, .mov (.t 9), none, 0⟩,
  ⟨some 11, .flda 1 (.t 2), some (10, true), 0⟩,
  ⟨some 12, .load 2 true (.t 11), some (10, true), 0⟩,
  ⟨some 13, .flda 1 (.t 3), some (10, true), 0⟩,
  ⟨some 14, .load 2 true (.t 13), some (10, true), 0⟩,
  ⟨some 15, .eqs false [0, 0] (.t 12) (.t 14), some (10, true), 0⟩,
  ⟨some 16, .pick (.t 10) (.t 15) (.k (.bool false)), none, 0⟩,
  ⟨some 17, .mov (.t 16), none, 0⟩,
  ⟨some 18, .flda 3 (.t 2), some (17, true), 0⟩,
  ⟨some 19, .load 1 false (.t 18), some (17, true), 0⟩,
  ⟨some 20, .flda 3 (.t 3), some (17, true), 0⟩,
  ⟨some 21, .load 1 false (.t 20), some (17, true), 0⟩,
  ⟨some 22, .call fn_Eq_int64 [.t 19, .t 21], some (17, true), 0⟩,
  ⟨some 23, .pick (.t 17) (.t 22) (.k (.bool false)), none, 0⟩,
  ⟨some 24, .mov (.t 23), none, 0⟩,
  ⟨some 25, .flda 4 (.t 2), some (24, true), 0⟩,
  ⟨some 26, .load 12 true (.t 25), some (24, true), 0⟩,
  ⟨some 27, .flda 4 (.t 3), some (24, true), 0⟩,
  ⟨some 28, .load 12 true (.t 27), some (24, true), 0⟩,
  ⟨some 29, .call fn_impl_sameState [.t 26, .t 28], some (24, true), 0⟩,
  ⟨some 30, .pick (.t 24) (.t 29) (.k (.bool false)), none, 0⟩,
  ⟨some 31, .mov (.t 30), none, 0⟩,
  ⟨some 32, .flda 16 (.t 2), some (31, true), 0⟩,
  ⟨some 33, .load 1 false (.t 32), some (31, true), 0⟩,
  ⟨some 34, .flda 16 (.t 3), some (31, true), 0⟩,
  ⟨some 35, .load 1 false (.t 34), some (31, true), 0⟩,
  ⟨some 36, .call fn_Eq_impl_Way [.t 33, .t 35], some (31, true), 0⟩,
  ⟨some 37, .pick (.t 31) (.t 36) (.k (.bool false)), none, 0⟩,
  ⟨some 38, .mov (.t 37), none, 0⟩,
  ⟨some 39, .flda 17 (.t 2), some (38, true), 0⟩,
  ⟨some 40, .load 1 false (.t 39), some (38, true), 0⟩,
  ⟨some 41, .flda 17 (.t 3), some (38, true), 0⟩,
  ⟨some 42, .load 1 false (.t 41), some (38, true), 0⟩,
  ⟨some 43, .call fn_Eq_impl_Ack [.t 40, .t 42], some (38, true), 0⟩,
  ⟨some 44, .pick (.t 38) (.t 43) (.k (.bool false)), none, 0⟩,
  ⟨some 45, .mov (.t 44), none, 0⟩,
  ⟨some 46, .flda 18 (.t 2), some (45, true), 0⟩,
  ⟨some 47, .load 1 false (.t 46), some (45, true), 0⟩,
  ⟨some 48, .flda 18 (.t 3), some (45, true), 0⟩,
  ⟨some 49, .load 1 false (.t 48), some (45, true), 0⟩,
  ⟨some 50, .call fn_EqF_impl_Wait [.t 47, .t 49, .k (.clo fn_impl_sameWait [])], some (45, true), 0⟩,
  ⟨some 51, .pick (.t 45) (.t 50) (.k (.bool false)), none, 0⟩,
  ⟨some 4, .mov (.t 51), none, 0⟩]) .ret)),
  [(4, none)]⟩
def pf_impl_SameLead : PF := ⟨[.val, .val], [0, 1, 2, 3, 10, 17, 24, 31, 38, 45, 52, 59, 66, 73, 80], (.seq (.reg [⟨some 2, .box (.t 0) 43, none, 0⟩,
  ⟨some 3, .box (.t 1) 43, none, 0⟩,
  ⟨some 4, .mov (.k (.bool false)), none, 0⟩]) (.seq (.reg [⟨some 5, .flda 0 (.t 2), none, 0⟩,
  ⟨some 6, .load 2 true (.t 5), none, 0⟩,
  ⟨some 7, .flda 0 (.t 3), none, 0⟩,
  ⟨some 8, .load 2 true (.t 7), none, 0⟩,
  ⟨some 9, .eqs false [0, 0] (.t 6) (.t 8), none, 0⟩,
  ⟨some 10, .mov (.t 9), none, 0⟩,
  ⟨some 11, .flda 2 (.t 2), some (10, true), 0⟩,
  ⟨some 12, .load 1 false (.t 11), some (10, true), 0⟩,
  ⟨some 13, .flda 2 (.t 3), some (10, true), 0⟩,
  ⟨some 14, .load 1 false (.t 13), some (10, true), 0⟩,
  ⟨some 15, .bin .eql 0 (.t 12) (.t 14), some (10, true), 0⟩,
  ⟨some 16, .pick (.t 10) (.t 15) (.k (.bool false)), none, 0⟩,
  ⟨some 17, .mov (.t 16), none, 0⟩,
  ⟨some 18, .flda 3 (.t 2), some (17, true), 0⟩,
  ⟨some 19, .load 1 false (.t 18), some (17, true), 0⟩,
  ⟨some 20, .flda 3 (.t 3), some (17, true), 0⟩,
  ⟨some 21, .load 1 false (.t 20), some (17, true), 0⟩,
  ⟨some 22, .bin .eql 0 (.t 19) (.t 21), some (17, true), 0⟩,
  ⟨some 23, .pick (.t 17) (.t 22) (.k (.bool false)), none, 0⟩,
  ⟨some 24, .mov (.t 23), none, 0⟩,
  ⟨some 25, .flda 4 (.t 2), some (24, true), 0⟩,
  ⟨some 26, .load 2 true (.t 25), some (24, true), 0⟩,
  ⟨some 27, .flda 4 (.t 3), some (24, true), 0⟩,
  ⟨some 28, .load 2 true (.t 27), some (24, true), 0⟩,
  ⟨some 29, .eqs false [0, 0] (.t 26) (.t 28), some (24, true), 0⟩,
  ⟨some 30, .pick (.t 24) (.t 29) (.k (.bool false)), none, 0⟩,
  ⟨some 31, .mov (.t 30), none, 0⟩,
  ⟨some 32, .flda 6 (.t 2), some (31, true), 0⟩,
  ⟨some 33, .load 1 false (.t 32), some (31, true), 0⟩,
  ⟨some 34, .flda 6 (.t 3), some (31, true), 0⟩,
  ⟨some 35, .load 1 false (.t 34), some (31, true), 0⟩,
  ⟨some 36, .call fn_Eq_int64 [.t 33, .t 35], some (31, true), 0⟩,
  ⟨some 37, .pick (.t 31) (.t 36) (.k (.bool false)), none, 0⟩,
  ⟨some 38, .mov (.t 37), none, 0⟩,
  ⟨some 39, .flda 7 (.t 2), some (38, true), 0⟩,
  ⟨some 40, .load 1 false (.t 39), some (38, true), 0⟩,
  ⟨some 41, .flda 7 (.t 3), some (38, true), 0⟩,
  ⟨some 42, .load 1 false (.t 41), some (38, true), 0⟩,
  ⟨some 43, .call fn_EqF_impl_Interval [.t 40, .t 42, .k (.clo fn_impl_sameInterval [])], some (38, true), 0⟩,
  ⟨some 44, .pick (.t 38) (.t 43) (.k (.bool false)), none, 0⟩,
  ⟨some 45, .mov (.t 44), none, 0⟩,
  ⟨some 46, .flda 8 (.t 2), some (45, true), 0⟩,
  ⟨some 47, .load 1 false (.t 46), some (45, true), 0⟩,
  ⟨some 48, .flda 8 (.t 3), some (45, true), 0⟩,
  ⟨some 49, .load 1 false (.t 48), some (45, true), 0⟩,
  ⟨some 50, .call fn_EqF_impl_Notice [.t 47, .t 49, .k (.clo fn_impl_sameNotice [])], some (45, true), 0⟩,
  ⟨some 51, .pick (.t 45) (.t 50) (.k (.bool false)), none, 0⟩,
  ⟨some 52, .mov (.t 51), none, 0⟩,
  ⟨some 53, .flda 9 (.t 2), some (52, true), 0⟩,
  ⟨some 54, .load 12 true (.t 53), some (52, true), 0⟩,
  ⟨some 55, .flda 9 (.t 3), some (52, true), 0⟩,
  ⟨some 56, .load 12 true (.t 55), some (52, true), 0⟩,
  ⟨some 57, .call fn_impl_sameState [.t 54, .t 56], some (52, true), 0⟩,
  ⟨some 58, .pick (.t 52) (.t 57) (.k (.bool false)), none, 0⟩,
  ⟨some 59, .mov (.t 58), none, 0⟩,
  ⟨some 60, .flda 21 (.t 2), some (59, true), 0⟩,
  ⟨some 61, .load 1 false (.t 60), some (59, true), 0⟩,
  ⟨some 62, .flda 21 (.t 3), some (59, true), 0⟩,
  ⟨some 63, .load 1 false (.t 62), some (59, true), 0⟩,
  ⟨some 64, .call fn_Eq_impl_Fill [.t 61, .t 63], some (59, true), 0⟩,
  ⟨some 65, .pick (.t 59) (.t 64) (.k (.bool false)), none, 0⟩,
  ⟨some 66, .mov (.t 65), none, 0⟩,
  ⟨some 67, .flda 22 (.t 2), some (66, true), 0⟩,
  ⟨some 68, .load 1 false (.t 67), some (66, true), 0⟩,
  ⟨some 69, .flda 22 (.t 3), some (66, true), 0⟩,
  ⟨some 70, .load 1 false (.t 69), some (66, true), 0⟩,
  ⟨some 71, .call fn_Eq_impl_Chunk [.t 68, .t 70], some (66, true), 0⟩,
  ⟨some 72, .pick (.t 66) (.t 71) (.k (.bool false)), none, 0⟩,
  ⟨some 73, .mov (.t 72), none, 0⟩,
  ⟨some 74, .flda 23 (.t 2), some (73, true), 0⟩,
  ⟨some 75, .load 1 false (.t 74), some (73, true), 0⟩,
  ⟨some 76, .flda 23 (.t 3), some (73, true), 0⟩,
  ⟨some 77, .load 1 false (.t 76), some (73, true), 0⟩,
  ⟨some 78, .call fn_Eq_int64 [.t 75, .t 77], some (73, true), 0⟩,
  ⟨some 79, .pick (.t 73) (.t 78) (.k (.bool false)), none, 0⟩,
  ⟨some 80, .mov (.t 79), none, 0⟩,
  ⟨some 81, .flda 24 (.t 2), some (80, true), 0⟩,
  ⟨some 82, .load 19 true (.t 81), some (80, true), 0⟩,
  ⟨some 83, .flda 24 (.t 3), some (80, true), 0⟩,
  ⟨some 84, .load 19 true (.t 83), some (80, true), 0⟩,
  ⟨some 85, .call fn_impl_SameLine [.t 82, .t 84], some (80, true), 0⟩,
  ⟨some 86, .pick (.t 80) (.t 85) (.k (.bool false)), none, 0⟩,
  ⟨some 4, .mov (.t 86), none, 0⟩]) .ret)),
  [(4, none)]⟩
def pf_EqF_impl_Msg : PF := sEqFH (sEqFL ty_impl_Msg 46 [.int .i64 0, .int .i64 0, .int .i64 0, .int .i64 0, .int .i64 0, .int .i64 0, .str ⟨#[]⟩, .int .i64 0, .int .i64 0, .int .i64 0, .int .i64 0, .int .i64 0, .int .i64 0, .int .i64 0, .int .i64 0, .int .i64 0, .int .i64 0, .sl 2 ty_impl_Head [], .sl 2 ty_impl_Last [], .sl 2 ty_impl_Entry [], .int .i64 0, .int .i64 0, .sl 2 ty_impl_Chunk [], .int .i64 0, .int .i64 0, .int .i64 0, .int .i64 0, .str ⟨#[]⟩, .bool false, .int .i64 0, .int .i64 0, .int .i64 0, .int .i64 0, .str ⟨#[]⟩, .int .i64 0, .int .i64 0, .int .i64 0, .int .i64 0, .str ⟨#[]⟩, .int .i64 0, .int .i64 0, .str ⟨#[]⟩, .int .i64 0, .int .i64 0, .int .i64 0, .str ⟨#[]⟩])
def pf_impl_MsgSame : PF := ⟨[.val, .val], [0, 1, 2, 3, 10, 17, 24, 31, 38, 45, 52, 59, 66, 73, 80, 87, 94, 101], (.seq (.reg [⟨some 2, .box (.t 0) 46, none, 0⟩,
  ⟨some 3, .box (.t 1) 46, none, 0⟩,
  ⟨some 4, .mov (.k (.bool false)), none, 0⟩]) (.seq (.reg [⟨some 5, .flda 0 (.t 2), none, 0⟩,
  ⟨some 6, .load 1 false (.t 5), none, 0⟩,
  ⟨some 7, .flda 0 (.t 3), none, 0⟩,
  ⟨some 8, .load 1 false (.t 7), none, 0⟩,
  ⟨some 9, .bin .eql 0 (.t 6) (.t 8), none, 0⟩,
  ⟨some 10, .mov (.t 9), none, 0⟩,
  ⟨some 11, .flda 1 (.t 2), some (10, true), 0⟩,
  ⟨some 12, .load 1 false (.t 11), some (10, true), 0⟩,
  ⟨some 13, .flda 1 (.t 3), some (10, true), 0⟩,
  ⟨some 14, .load 1 false (.t 13), some (10, true), 0⟩,
  ⟨some 15, .bin .eql 0 (.t 12) (.t 14), some (10, true), 0⟩,
  ⟨some 16, .pick (.t 10) (.t 15) (.k (.bool false)), none, 0⟩,
  ⟨some 17, .mov (.t 16), none, 0⟩,
  ⟨some 18, .flda 2 (.t 2), some (17, true), 0⟩,
  ⟨some 19, .load 1 false (.t 18), some (17, true), 0⟩,
  ⟨some 20, .flda 2 (.t 3), some (17, true), 0⟩,
  ⟨some 21, .load 1 false (.t 20), some (17, true), 0⟩,
  ⟨some 22, .bin .eql 0 (.t 19) (.t 21), some (17, true), 0⟩,
  ⟨some 23, .pick (.t 17) (.t 22) (.k (.bool false)), none, 0⟩,
  ⟨some 24, .mov (.t 23), none, 0⟩,
  ⟨some 25, .flda 3 (.t 2), some (24, true), 0⟩,
  ⟨some 26, .load 2 true (.t 25), some (24, true), 0⟩,
  ⟨some 27, .flda 3 (.t 3), some (24, true), 0⟩,
  ⟨some 28, .load 2 true (.t 27), some (24, true), 0⟩,
  ⟨some 29, .eqs false [0, 0] (.t 26) (.t 28), some (24, true), 0⟩,
  ⟨some 30, .pick (.t 24) (.t 29) (.k (.bool false)), none, 0⟩,
  ⟨some 31, .mov (.t 30), none, 0⟩,
  ⟨some 32, .flda 5 (.t 2), some (31, true), 0⟩,
  ⟨some 33, .load 1 false (.t 32), some (31, true), 0⟩,
  ⟨some 34, .flda 5 (.t 3), some (31, true), 0⟩,
  ⟨some 35, .load 1 false (.t 34), some (31, true), 0⟩,
  ⟨some 36, .bin .eql 0 (.t 33) (.t 35), some (31, true), 0⟩,
  ⟨some 37, .pick (.t 31) (.t 36) (.k (.bool false)), none, 0⟩,
  ⟨some 38, .mov (.t 37), none, 0⟩,
  ⟨some 39, .flda 6 (.t 2), some (38, true), 0⟩,
  ⟨some 40, .load 1 false (.t 39), some (38, true), 0⟩,
  ⟨some 41, .flda 6 (.t 3), some (38, true), 0⟩,
  ⟨some 42, .load 1 false (.t 41), some (38, true), 0⟩,
  ⟨some 43, .bin .eql 0 (.t 40) (.t 42), some (38, true), 0⟩,
  ⟨some 44, .pick (.t 38) (.t 43) (.k (.bool false)), none, 0⟩,
  ⟨some 45, .mov (.t 44), none, 0⟩,
  ⟨some 46, .flda 7 (.t 2), some (45, true), 0⟩,
  ⟨some 47, .load 2 true (.t 46), some (45, true), 0⟩,
  ⟨some 48, .flda 7 (.t 3), some (45, true), 0⟩,
  ⟨some 49, .load 2 true (.t 48), some (45, true), 0⟩,
  ⟨some 50, .eqs false [0, 0] (.t 47) (.t 49), some (45, true), 0⟩,
  ⟨some 51, .pick (.t 45) (.t 50) (.k (.bool false)), none, 0⟩,
  ⟨some 52, .mov (.t 51), none, 0⟩,
  ⟨some 53, .flda 9 (.t 2), some (52, true), 0⟩,
  ⟨some 54, .load 2 true (.t 53), some (52, true), 0⟩,
  ⟨some 55, .flda 9 (.t 3), some (52, true), 0⟩,
  ⟨some 56, .load 2 true (.t 55), some (52, true), 0⟩,
  ⟨some 57, .eqs false [0, 0] (.t 54) (.t 56), some (52, true), 0⟩,
  ⟨some 58, .pick (.t 52) (.t 57) (.k (.bool false)), none, 0⟩,
  ⟨some 59, .mov (.t 58), none, 0⟩,
  ⟨some 60, .flda 11 (.t 2), some (59, true), 0⟩,
  ⟨some 61, .load 12 true (.t 60), some (59, true), 0⟩,
  ⟨some 62, .flda 11 (.t 3), some (59, true), 0⟩,
  ⟨some 63, .load 12 true (.t 62), some (59, true), 0⟩,
  ⟨some 64, .call fn_impl_sameState [.t 61, .t 63], some (59, true), 0⟩,
  ⟨some 65, .pick (.t 59) (.t 64) (.k (.bool false)), none, 0⟩,
  ⟨some 66, .mov (.t 65), none, 0⟩,
  ⟨some 67, .flda 23 (.t 2), some (66, true), 0⟩,
  ⟨some 68, .load 10 true (.t 67), some (66, true), 0⟩,
  ⟨some 69, .flda 23 (.t 3), some (66, true), 0⟩,
  ⟨some 70, .load 10 true (.t 69), some (66, true), 0⟩,
  ⟨some 71, .eqs false [0, 0, 0, 0, 2, 1, 0, 0, 0, 0] (.t 68) (.t 70), some (66, true), 0⟩,
  ⟨some 72, .pick (.t 66) (.t 71) (.k (.bool false)), none, 0⟩,
  ⟨some 73, .mov (.t 72), none, 0⟩,
  ⟨some 74, .flda 33 (.t 2), some (73, true), 0⟩,
  ⟨some 75, .load 6 true (.t 74), some (73, true), 0⟩,
  ⟨some 76, .flda 33 (.t 3), some (73, true), 0⟩,
  ⟨some 77, .load 6 true (.t 76), some (73, true), 0⟩,
  ⟨some 78, .eqs false [2, 0, 0, 0, 0, 2] (.t 75) (.t 77), some (73, true), 0⟩,
  ⟨some 79, .pick (.t 73) (.t 78) (.k (.bool false)), none, 0⟩,
  ⟨some 80, .mov (.t 79), none, 0⟩,
  ⟨some 81, .flda 39 (.t 2), some (80, true), 0⟩,
  ⟨some 82, .load 3 true (.t 81), some (80, true), 0⟩,
  ⟨some 83, .flda 39 (.t 3), some (80, true), 0⟩,
  ⟨some 84, .load 3 true (.t 83), some (80, true), 0⟩,
  ⟨some 85, .eqs false [0, 0, 2] (.t 82) (.t 84), some (80, true), 0⟩,
  ⟨some 86, .pick (.t 80) (.t 85) (.k (.bool false)), none, 0⟩,
  ⟨some 87, .mov (.t 86), none, 0⟩,
  ⟨some 88, .flda 42 (.t 2), some (87, true), 0⟩,
  ⟨some 89, .load 2 true (.t 88), some (87, true), 0⟩,
  ⟨some 90, .flda 42 (.t 3), some (87, true), 0⟩,
  ⟨some 91, .load 2 true (.t 90), some (87, true), 0⟩,
  ⟨some 92, .eqs false [0, 0] (.t 89) (.t 91), some (87, true), 0⟩,
  ⟨some 93, .pick (.t 87) (.t 92) (.k (.bool false)), none, 0⟩,
  ⟨some 94, .mov (.t 93), none, 0⟩,
  ⟨some 95, .flda 44 (.t 2), some (94, true), 0⟩,
  ⟨some 96, .load 1 false (.t 95), some (94, true), 0⟩,
  ⟨some 97, .flda 44 (.t 3), some (94, true), 0⟩,
  ⟨some 98, .load 1 false (.t 97), some (94, true), 0⟩,
  ⟨some 99, .bin .eql 0 (.t 96) (.t 98), some (94, true), 0⟩,
  ⟨some 100, .pick (.t 94) (.t 99) (.k (.bool false)), none, 0⟩,
  ⟨some 101, .mov (.t 100), none, 0⟩,
  ⟨some 102, .flda 45 (.t 2), some (101, true), 0⟩,
  ⟨some 103, .load 1 false (.t 102), some (101, true), 0⟩,
  ⟨some 104, .flda 45 (.t 3), some (101, true), 0⟩,
  ⟨some 105, .load 1 false (.t 104), some (101, true), 0⟩,
  ⟨some 106, .bin .eql 0 (.t 103) (.t 105), some (101, true), 0⟩,
  ⟨some 107, .pick (.t 101) (.t 106) (.k (.bool false)), none, 0⟩,
  ⟨some 4, .mov (.t 107), none, 0⟩]) .ret)),
  [(4, none)]⟩
def pf_impl_SameServer : PF := ⟨[.val, .val], [0, 1, 2, 3, 10, 17, 24, 31, 38], (.seq (.reg [⟨some 2, .box (.t 0) 7, none, 0⟩,
  ⟨some 3, .box (.t 1) 7, none, 0⟩,
  ⟨some 4, .mov (.k (.bool false)), none, 0⟩]) (.seq (.reg [⟨some 5, .flda 0 (.t 2), none, 0⟩,
  ⟨some 6, .load 1 false (.t 5), none, 0⟩,
  ⟨some 7, .flda 0 (.t 3), none, 0⟩,
  ⟨some 8, .load 1 false (.t 7), none, 0⟩,
  ⟨some 9, .bin .eql 0 (.t 6) (.t 8), none, 0⟩,
  ⟨some 10, .mov (.t 9), none, 0⟩,
  ⟨some 11, .flda 1 (.t 2), some (10, true), 0⟩,
  ⟨some 12, .load 1 false (.t 11), some (10, true), 0⟩,
  ⟨some 13, .flda 1 (.t 3), some (10, true), 0⟩,
  ⟨some 14, .load 1 false (.t 13), some (10, true), 0⟩,
  ⟨some 15, .bin .eql 0 (.t 12) (.t 14), some (10, true), 0⟩,
  ⟨some 16, .pick (.t 10) (.t 15) (.k (.bool false)), none, 0⟩,
  ⟨some 17, .mov (.t 16), none, 0⟩,
  ⟨some 18, .flda 2 (.t 2), some (17, true), 0⟩,
  ⟨some 19, .load 1 false (.t 18), some (17, true), 0⟩,
  ⟨some 20, .flda 2 (.t 3), some (17, true), 0⟩,
  ⟨some 21, .load 1 false (.t 20), some (17, true), 0⟩,
  ⟨some 22, .bin .eql 1 (.t 19) (.t 21), some (17, true), 0⟩,
  ⟨some 23, .pick (.t 17) (.t 22) (.k (.bool false)), none, 0⟩,
  ⟨some 24, .mov (.t 23), none, 0⟩,
  ⟨some 25, .flda 3 (.t 2), some (24, true), 0⟩,
  ⟨some 26, .load 2 true (.t 25), some (24, true), 0⟩,
  ⟨some 27, .flda 3 (.t 3), some (24, true), 0⟩,
  ⟨some 28, .load 2 true (.t 27), some (24, true), 0⟩,
  ⟨some 29, .call fn_impl_SameStore [.t 26, .t 28], some (24, true), 0⟩,
  ⟨some 30, .pick (.t 24) (.t 29) (.k (.bool false)), none, 0⟩,
  ⟨some 31, .mov (.t 30), none, 0⟩,
  ⟨some 32, .flda 5 (.t 2), some (31, true), 0⟩,
  ⟨some 33, .load 1 false (.t 32), some (31, true), 0⟩,
  ⟨some 34, .flda 5 (.t 3), some (31, true), 0⟩,
  ⟨some 35, .load 1 false (.t 34), some (31, true), 0⟩,
  ⟨some 36, .call fn_EqF_impl_Lead [.t 33, .t 35, .k (.clo fn_impl_SameLead [])], some (31, true), 0⟩,
  ⟨some 37, .pick (.t 31) (.t 36) (.k (.bool false)), none, 0⟩,
  ⟨some 38, .mov (.t 37), none, 0⟩,
  ⟨some 39, .flda 6 (.t 2), some (38, true), 0⟩,
  ⟨some 40, .load 1 false (.t 39), some (38, true), 0⟩,
  ⟨some 41, .flda 6 (.t 3), some (38, true), 0⟩,
  ⟨some 42, .load 1 false (.t 41), some (38, true), 0⟩,
  ⟨some 43, .call fn_EqF_impl_Msg [.t 40, .t 42, .k (.clo fn_impl_MsgSame [])], some (38, true), 0⟩,
  ⟨some 44, .pick (.t 38) (.t 43) (.k (.bool false)), none, 0⟩,
  ⟨some 4, .mov (.t 44), none, 0⟩]) .ret)),
  [(4, none)]⟩
def pf_laws_eqPg : PF := ⟨[.val, .val], [0, 1, 2, 3], (.seq (.reg [⟨some 2, .box (.t 0) 2, none, 0⟩,
  ⟨some 3, .box (.t 1) 2, none, 0⟩,
  ⟨some 4, .mov (.k (.bool false)), none, 0⟩]) (.seq (.seq (.reg [⟨some 5, .flda 0 (.t 2), none, 0⟩,
  ⟨some 6, .load 1 false (.t 5), none, 0⟩,
  ⟨some 7, .flda 0 (.t 3), none, 0⟩,
  ⟨some 8, .load 1 false (.t 7), none, 0⟩,
  ⟨some 9, .bin .neq 0 (.t 6) (.t 8), none, 0⟩]) (.cond (.t 9) (.seq (.reg [⟨some 4, .mov (.k (.bool false)), none, 0⟩]) .ret) .skip)) (.seq (.seq (.reg [⟨some 10, .flda 1 (.t 2), none, 0⟩,
  ⟨some 11, .load 1 false (.t 10), none, 0⟩,
  ⟨some 12, .flda 1 (.t 3), none, 0⟩,
  ⟨some 13, .load 1 false (.t 12), none, 0⟩,
  ⟨some 14, .bin .neq 0 (.t 11) (.t 13), none, 0⟩]) (.cond (.t 14) (.seq (.reg [⟨some 4, .mov (.k (.bool false)), none, 0⟩]) .ret) .skip)) (.seq (.reg [⟨some 4, .mov (.k (.bool true)), none, 0⟩]) .ret)))),
  [(4, none)]⟩
def pf_laws_eqVer : PF := ⟨[.val, .val], [0, 1, 2, 3], (.seq (.reg [⟨some 2, .box (.t 0) 2, none, 0⟩,
  ⟨some 3, .box (.t 1) 2, none, 0⟩,
  ⟨some 4, .mov (.k (.bool false)), none, 0⟩]) (.seq (.seq (.reg [⟨some 5, .flda 0 (.t 2), none, 0⟩,
  ⟨some 6, .load 1 false (.t 5), none, 0⟩,
  ⟨some 7, .flda 0 (.t 3), none, 0⟩,
  ⟨some 8, .load 1 false (.t 7), none, 0⟩,
  ⟨some 9, .bin .neq 0 (.t 6) (.t 8), none, 0⟩]) (.cond (.t 9) (.seq (.reg [⟨some 4, .mov (.k (.bool false)), none, 0⟩]) .ret) .skip)) (.seq (.seq (.reg [⟨some 10, .flda 1 (.t 2), none, 0⟩,
  ⟨some 11, .load 1 false (.t 10), none, 0⟩,
  ⟨some 12, .flda 1 (.t 3), none, 0⟩,
  ⟨some 13, .load 1 false (.t 12), none, 0⟩,
  ⟨some 14, .bin .neq 0 (.t 11) (.t 13), none, 0⟩]) (.cond (.t 14) (.seq (.reg [⟨some 4, .mov (.k (.bool false)), none, 0⟩]) .ret) .skip)) (.seq (.reg [⟨some 4, .mov (.k (.bool true)), none, 0⟩]) .ret)))),
  [(4, none)]⟩
def pf_laws_eqChunk : PF := ⟨[.val, .val], [0, 1, 2, 3], (.seq (.reg [⟨some 2, .box (.t 0) 6, none, 0⟩,
  ⟨some 3, .box (.t 1) 6, none, 0⟩,
  ⟨some 4, .mov (.k (.bool false)), none, 0⟩]) (.seq (.seq (.reg [⟨some 5, .flda 0 (.t 2), none, 0⟩,
  ⟨some 6, .load 1 false (.t 5), none, 0⟩,
  ⟨some 7, .flda 0 (.t 3), none, 0⟩,
  ⟨some 8, .load 1 false (.t 7), none, 0⟩,
  ⟨some 9, .bin .neq 0 (.t 6) (.t 8), none, 0⟩]) (.cond (.t 9) (.seq (.reg [⟨some 4, .mov (.k (.bool false)), none, 0⟩]) .ret) .skip)) (.seq (.seq (.reg [⟨some 10, .flda 1 (.t 2), none, 0⟩,
  ⟨some 11, .load 2 true (.t 10), none, 0⟩,
  ⟨some 12, .flda 1 (.t 3), none, 0⟩,
  ⟨some 13, .load 2 true (.t 12), none, 0⟩,
  ⟨some 14, .call fn_laws_eqVer [.t 11, .t 13], none, 0⟩,
  ⟨some 15, .un .not (.t 14), none, 0⟩]) (.cond (.t 15) (.seq (.reg [⟨some 4, .mov (.k (.bool false)), none, 0⟩]) .ret) .skip)) (.seq (.seq (.reg [⟨some 16, .flda 3 (.t 2), none, 0⟩,
  ⟨some 17, .load 1 false (.t 16), none, 0⟩,
  ⟨some 18, .flda 3 (.t 3), none, 0⟩,
  ⟨some 19, .load 1 false (.t 18), none, 0⟩,
  ⟨some 20, .bin .neq 0 (.t 17) (.t 19), none, 0⟩]) (.cond (.t 20) (.seq (.reg [⟨some 4, .mov (.k (.bool false)), none, 0⟩]) .ret) .skip)) (.seq (.seq (.reg [⟨some 21, .flda 4 (.t 2), none, 0⟩,
  ⟨some 22, .load 1 false (.t 21), none, 0⟩,
  ⟨some 23, .flda 4 (.t 3), none, 0⟩,
  ⟨some 24, .load 1 false (.t 23), none, 0⟩,
  ⟨some 25, .bin .neq 0 (.t 22) (.t 24), none, 0⟩]) (.cond (.t 25) (.seq (.reg [⟨some 4, .mov (.k (.bool false)), none, 0⟩]) .ret) .skip)) (.seq (.seq (.reg [⟨some 26, .flda 5 (.t 2), none, 0⟩,
  ⟨some 27, .load 1 false (.t 26), none, 0⟩,
  ⟨some 28, .flda 5 (.t 3), none, 0⟩,
  ⟨some 29, .load 1 false (.t 28), none, 0⟩,
  ⟨some 30, .bin .neq 0 (.t 27) (.t 29), none, 0⟩]) (.cond (.t 30) (.seq (.reg [⟨some 4, .mov (.k (.bool false)), none, 0⟩]) .ret) .skip)) (.seq (.reg [⟨some 4, .mov (.k (.bool true)), none, 0⟩]) .ret))))))),
  [(4, none)]⟩
def pf_laws_eqChunkS : PF := eqSH (eqSL ty_impl_Chunk 6 fn_laws_eqChunk)
def pf_laws_eqHead : PF := ⟨[.val, .val], [0, 1, 2, 3], (.seq (.reg [⟨some 2, .box (.t 0) 5, none, 0⟩,
  ⟨some 3, .box (.t 1) 5, none, 0⟩,
  ⟨some 4, .mov (.k (.bool false)), none, 0⟩]) (.seq (.seq (.reg [⟨some 5, .flda 0 (.t 2), none, 0⟩,
  ⟨some 6, .load 1 false (.t 5), none, 0⟩,
  ⟨some 7, .flda 0 (.t 3), none, 0⟩,
  ⟨some 8, .load 1 false (.t 7), none, 0⟩,
  ⟨some 9, .bin .neq 0 (.t 6) (.t 8), none, 0⟩]) (.cond (.t 9) (.seq (.reg [⟨some 4, .mov (.k (.bool false)), none, 0⟩]) .ret) .skip)) (.seq (.seq (.reg [⟨some 10, .flda 1 (.t 2), none, 0⟩,
  ⟨some 11, .load 2 true (.t 10), none, 0⟩,
  ⟨some 12, .flda 1 (.t 3), none, 0⟩,
  ⟨some 13, .load 2 true (.t 12), none, 0⟩,
  ⟨some 14, .call fn_laws_eqVer [.t 11, .t 13], none, 0⟩,
  ⟨some 15, .un .not (.t 14), none, 0⟩]) (.cond (.t 15) (.seq (.reg [⟨some 4, .mov (.k (.bool false)), none, 0⟩]) .ret) .skip)) (.seq (.seq (.reg [⟨some 16, .flda 3 (.t 2), none, 0⟩,
  ⟨some 17, .load 1 false (.t 16), none, 0⟩,
  ⟨some 18, .flda 3 (.t 3), none, 0⟩,
  ⟨some 19, .load 1 false (.t 18), none, 0⟩,
  ⟨some 20, .bin .neq 0 (.t 17) (.t 19), none, 0⟩]) (.cond (.t 20) (.seq (.reg [⟨some 4, .mov (.k (.bool false)), none, 0⟩]) .ret) .skip)) (.seq (.seq (.reg [⟨some 21, .flda 4 (.t 2), none, 0⟩,
  ⟨some 22, .load 1 false (.t 21), none, 0⟩,
  ⟨some 23, .flda 4 (.t 3), none, 0⟩,
  ⟨some 24, .load 1 false (.t 23), none, 0⟩,
  ⟨some 25, .bin .neq 0 (.t 22) (.t 24), none, 0⟩]) (.cond (.t 25) (.seq (.reg [⟨some 4, .mov (.k (.bool false)), none, 0⟩]) .ret) .skip)) (.seq (.reg [⟨some 4, .mov (.k (.bool true)), none, 0⟩]) .ret)))))),
  [(4, none)]⟩
def pf_laws_eqHeadS : PF := eqSH (eqSL ty_impl_Head 5 fn_laws_eqHead)
def pf_laws_eqLast : PF := ⟨[.val, .val], [0, 1, 2, 3], (.seq (.reg [⟨some 2, .box (.t 0) 4, none, 0⟩,
  ⟨some 3, .box (.t 1) 4, none, 0⟩,
  ⟨some 4, .mov (.k (.bool false)), none, 0⟩]) (.seq (.seq (.reg [⟨some 5, .flda 0 (.t 2), none, 0⟩,
  ⟨some 6, .load 1 false (.t 5), none, 0⟩,
  ⟨some 7, .flda 0 (.t 3), none, 0⟩,
  ⟨some 8, .load 1 false (.t 7), none, 0⟩,
  ⟨some 9, .bin .neq 0 (.t 6) (.t 8), none, 0⟩]) (.cond (.t 9) (.seq (.reg [⟨some 4, .mov (.k (.bool false)), none, 0⟩]) .ret) .skip)) (.seq (.seq (.reg [⟨some 10, .flda 1 (.t 2), none, 0⟩,
  ⟨some 11, .load 1 false (.t 10), none, 0⟩,
  ⟨some 12, .flda 1 (.t 3), none, 0⟩,
  ⟨some 13, .load 1 false (.t 12), none, 0⟩,
  ⟨some 14, .bin .neq 0 (.t 11) (.t 13), none, 0⟩]) (.cond (.t 14) (.seq (.reg [⟨some 4, .mov (.k (.bool false)), none, 0⟩]) .ret) .skip)) (.seq (.seq (.reg [⟨some 15, .flda 2 (.t 2), none, 0⟩,
  ⟨some 16, .load 2 true (.t 15), none, 0⟩,
  ⟨some 17, .flda 2 (.t 3), none, 0⟩,
  ⟨some 18, .load 2 true (.t 17), none, 0⟩,
  ⟨some 19, .call fn_laws_eqVer [.t 16, .t 18], none, 0⟩,
  ⟨some 20, .un .not (.t 19), none, 0⟩]) (.cond (.t 20) (.seq (.reg [⟨some 4, .mov (.k (.bool false)), none, 0⟩]) .ret) .skip)) (.seq (.reg [⟨some 4, .mov (.k (.bool true)), none, 0⟩]) .ret))))),
  [(4, none)]⟩
def pf_laws_eqLastS : PF := eqSH (eqSL ty_impl_Last 4 fn_laws_eqLast)
def pf_laws_eqReq : PF := ⟨[.val, .val], [0, 1, 2, 3], (.seq (.reg [⟨some 2, .box (.t 0) 2, none, 0⟩,
  ⟨some 3, .box (.t 1) 2, none, 0⟩,
  ⟨some 4, .mov (.k (.bool false)), none, 0⟩]) (.seq (.seq (.reg [⟨some 5, .flda 0 (.t 2), none, 0⟩,
  ⟨some 6, .load 1 false (.t 5), none, 0⟩,
  ⟨some 7, .flda 0 (.t 3), none, 0⟩,
  ⟨some 8, .load 1 false (.t 7), none, 0⟩,
  ⟨some 9, .bin .neq 0 (.t 6) (.t 8), none, 0⟩]) (.cond (.t 9) (.seq (.reg [⟨some 4, .mov (.k (.bool false)), none, 0⟩]) .ret) .skip)) (.seq (.seq (.reg [⟨some 10, .flda 1 (.t 2), none, 0⟩,
  ⟨some 11, .load 1 false (.t 10), none, 0⟩,
  ⟨some 12, .flda 1 (.t 3), none, 0⟩,
  ⟨some 13, .load 1 false (.t 12), none, 0⟩,
  ⟨some 14, .bin .neq 0 (.t 11) (.t 13), none, 0⟩]) (.cond (.t 14) (.seq (.reg [⟨some 4, .mov (.k (.bool false)), none, 0⟩]) .ret) .skip)) (.seq (.reg [⟨some 4, .mov (.k (.bool true)), none, 0⟩]) .ret)))),
  [(4, none)]⟩
def pf_laws_eqEntry : PF := ⟨[.val, .val], [0, 1, 2, 3], (.seq (.reg [⟨some 2, .box (.t 0) 10, none, 0⟩,
  ⟨some 3, .box (.t 1) 10, none, 0⟩,
  ⟨some 4, .mov (.k (.bool false)), none, 0⟩]) (.seq (.seq (.reg [⟨some 5, .flda 0 (.t 2), none, 0⟩,
  ⟨some 6, .load 2 true (.t 5), none, 0⟩,
  ⟨some 7, .flda 0 (.t 3), none, 0⟩,
  ⟨some 8, .load 2 true (.t 7), none, 0⟩,
  ⟨some 9, .call fn_laws_eqVer [.t 6, .t 8], none, 0⟩,
  ⟨some 10, .un .not (.t 9), none, 0⟩]) (.cond (.t 10) (.seq (.reg [⟨some 4, .mov (.k (.bool false)), none, 0⟩]) .ret) .skip)) (.seq (.seq (.reg [⟨some 11, .flda 2 (.t 2), none, 0⟩,
  ⟨some 12, .load 2 true (.t 11), none, 0⟩,
  ⟨some 13, .flda 2 (.t 3), none, 0⟩,
  ⟨some 14, .load 2 true (.t 13), none, 0⟩,
  ⟨some 15, .call fn_laws_eqVer [.t 12, .t 14], none, 0⟩,
  ⟨some 16, .un .not (.t 15), none, 0⟩]) (.cond (.t 16) (.seq (.reg [⟨some 4, .mov (.k (.bool false)), none, 0⟩]) .ret) .skip)) (.seq (.seq (.reg [⟨some 17, .flda 4 (.t 2), none, 0⟩,
  ⟨some 18, .load 1 false (.t 17), none, 0⟩,
  ⟨some 19, .flda 4 (.t 3), none, 0⟩,
  ⟨some 20, .load 1 false (.t 19), none, 0⟩,
  ⟨some 21, .bin .neq 0 (.t 18) (.t 20), none, 0⟩]) (.cond (.t 21) (.seq (.reg [⟨some 4, .mov (.k (.bool false)), none, 0⟩]) .ret) .skip)) (.seq (.seq (.reg [⟨some 22, .flda 5 (.t 2), none, 0⟩,
  ⟨some 23, .load 1 false (.t 22), none, 0⟩,
  ⟨some 24, .flda 5 (.t 3), none, 0⟩,
  ⟨some 25, .load 1 false (.t 24), none, 0⟩,
  ⟨some 26, .bin .neq 1 (.t 23) (.t 25), none, 0⟩]) (.cond (.t 26) (.seq (.reg [⟨some 4, .mov (.k (.bool false)), none, 0⟩]) .ret) .skip)) (.seq (.seq (.reg [⟨some 27, .flda 6 (.t 2), none, 0⟩,
  ⟨some 28, .load 1 false (.t 27), none, 0⟩,
  ⟨some 29, .flda 6 (.t 3), none, 0⟩,
  ⟨some 30, .load 1 false (.t 29), none, 0⟩,
  ⟨some 31, .bin .neq 0 (.t 28) (.t 30), none, 0⟩]) (.cond (.t 31) (.seq (.reg [⟨some 4, .mov (.k (.bool false)), none, 0⟩]) .ret) .skip)) (.seq (.seq (.reg [⟨some 32, .flda 7 (.t 2), none, 0⟩,
  ⟨some 33, .load 1 false (.t 32), none, 0⟩,
  ⟨some 34, .flda 7 (.t 3), none, 0⟩,
  ⟨some 35, .load 1 false (.t 34), none, 0⟩,
  ⟨some 36, .bin .neq 0 (.t 33) (.t 35), none, 0⟩]) (.cond (.t 36) (.seq (.reg [⟨some 4, .mov (.k (.bool false)), none, 0⟩]) .ret) .skip)) (.seq (.seq (.reg [⟨some 37, .flda 8 (.t 2), none, 0⟩,
  ⟨some 38, .load 2 true (.t 37), none, 0⟩,
  ⟨some 39, .flda 8 (.t 3), none, 0⟩,
  ⟨some 40, .load 2 true (.t 39), none, 0⟩,
  ⟨some 41, .call fn_laws_eqReq [.t 38, .t 40], none, 0⟩,
  ⟨some 42, .un .not (.t 41), none, 0⟩]) (.cond (.t 42) (.seq (.reg [⟨some 4, .mov (.k (.bool false)), none, 0⟩]) .ret) .skip)) (.seq (.reg [⟨some 4, .mov (.k (.bool true)), none, 0⟩]) .ret))))))))),
  [(4, none)]⟩
def pf_laws_eqEntryS : PF := eqSH (eqSL ty_impl_Entry 10 fn_laws_eqEntry)
def pf_laws_eqPgState : PF := ⟨[.val, .val], [0, 1, 2, 3], (.seq (.reg [⟨some 2, .box (.t 0) 12, none, 0⟩,
  ⟨some 3, .box (.t 1) 12, none, 0⟩,
  ⟨some 4, .mov (.k (.bool false)), none, 0⟩]) (.seq (.seq (.reg [⟨some 5, .flda 0 (.t 2), none, 0⟩,
  ⟨some 6, .load 2 true (.t 5), none, 0⟩,
  ⟨some 7, .flda 0 (.t 3), none, 0⟩,
  ⟨some 8, .load 2 true (.t 7), none, 0⟩,
  ⟨some 9, .call fn_laws_eqPg [.t 6, .t 8], none, 0⟩,
  ⟨some 10, .un .not (.t 9), none, 0⟩]) (.cond (.t 10) (.seq (.reg [⟨some 4, .mov (.k (.bool false)), none, 0⟩]) .ret) .skip)) (.seq (.seq (.reg [⟨some 11, .flda 2 (.t 2), none, 0⟩,
  ⟨some 12, .load 1 false (.t 11), none, 0⟩,
  ⟨some 13, .flda 2 (.t 3), none, 0⟩,
  ⟨some 14, .load 1 false (.t 13), none, 0⟩,
  ⟨some 15, .bin .neq 0 (.t 12) (.t 14), none, 0⟩]) (.cond (.t 15) (.seq (.reg [⟨some 4, .mov (.k (.bool false)), none, 0⟩]) .ret) .skip)) (.seq (.seq (.reg [⟨some 16, .flda 3 (.t 2), none, 0⟩,
  ⟨some 17, .load 1 false (.t 16), none, 0⟩,
  ⟨some 18, .flda 3 (.t 3), none, 0⟩,
  ⟨some 19, .load 1 false (.t 18), none, 0⟩,
  ⟨some 20, .bin .neq 0 (.t 17) (.t 19), none, 0⟩]) (.cond (.t 20) (.seq (.reg [⟨some 4, .mov (.k (.bool false)), none, 0⟩]) .ret) .skip)) (.seq (.seq (.reg [⟨some 21, .flda 4 (.t 2), none, 0⟩,
  ⟨some 22, .load 2 true (.t 21), none, 0⟩,
  ⟨some 23, .flda 4 (.t 3), none, 0⟩,
  ⟨some 24, .load 2 true (.t 23), none, 0⟩,
  ⟨some 25, .call fn_laws_eqVer [.t 22, .t 24], none, 0⟩,
  ⟨some 26, .un .not (.t 25), none, 0⟩]) (.cond (.t 26) (.seq (.reg [⟨some 4, .mov (.k (.bool false)), none, 0⟩]) .ret) .skip)) (.seq (.seq (.reg [⟨some 27, .flda 6 (.t 2), none, 0⟩,
  ⟨some 28, .load 1 false (.t 27), none, 0⟩,
  ⟨some 29, .flda 6 (.t 3), none, 0⟩,
  ⟨some 30, .load 1 false (.t 29), none, 0⟩,
  ⟨some 31, .call fn_laws_eqHeadS [.t 28, .t 30], none, 0⟩,
  ⟨some 32, .un .not (.t 31), none, 0⟩]) (.cond (.t 32) (.seq (.reg [⟨some 4, .mov (.k (.bool false)), none, 0⟩]) .ret) .skip)) (.seq (.seq (.reg [⟨some 33, .flda 7 (.t 2), none, 0⟩,
  ⟨some 34, .load 1 false (.t 33), none, 0⟩,
  ⟨some 35, .flda 7 (.t 3), none, 0⟩,
  ⟨some 36, .load 1 false (.t 35), none, 0⟩,
  ⟨some 37, .call fn_laws_eqLastS [.t 34, .t 36], none, 0⟩,
  ⟨some 38, .un .not (.t 37), none, 0⟩]) (.cond (.t 38) (.seq (.reg [⟨some 4, .mov (.k (.bool false)), none, 0⟩]) .ret) .skip)) (.seq (.seq (.reg [⟨some 39, .flda 8 (.t 2), none, 0⟩,
  ⟨some 40, .load 1 false (.t 39), none, 0⟩,
  ⟨some 41, .flda 8 (.t 3), none, 0⟩,
  ⟨some 42, .load 1 false (.t 41), none, 0⟩,
  ⟨some 43, .call fn_laws_eqEntryS [.t 40, .t 42], none, 0⟩,
  ⟨some 44, .un .not (.t 43), none, 0⟩]) (.cond (.t 44) (.seq (.reg [⟨some 4, .mov (.k (.bool false)), none, 0⟩]) .ret) .skip)) (.seq (.seq (.reg [⟨some 45, .flda 9 (.t 2), none, 0⟩,
  ⟨some 46, .load 2 true (.t 45), none, 0⟩,
  ⟨some 47, .flda 9 (.t 3), none, 0⟩,
  ⟨some 48, .load 2 true (.t 47), none, 0⟩,
  ⟨some 49, .call fn_laws_eqVer [.t 46, .t 48], none, 0⟩,
  ⟨some 50, .un .not (.t 49), none, 0⟩]) (.cond (.t 50) (.seq (.reg [⟨some 4, .mov (.k (.bool false)), none, 0⟩]) .ret) .skip)) (.seq (.seq (.reg [⟨some 51, .flda 11 (.t 2), none, 0⟩,
  ⟨some 52, .load 1 false (.t 51), none, 0⟩,
  ⟨some 53, .flda 11 (.t 3), none, 0⟩,
  ⟨some 54, .load 1 false (.t 53), none, 0⟩,
  ⟨some 55, .call fn_laws_eqChunkS [.t 52, .t 54], none, 0⟩,
  ⟨some 56, .un .not (.t 55), none, 0⟩]) (.cond (.t 56) (.seq (.reg [⟨some 4, .mov (.k (.bool false)), none, 0⟩]) .ret) .skip)) (.seq (.reg [⟨some 4, .mov (.k (.bool true)), none, 0⟩]) .ret))))))))))),
  [(4, none)]⟩
def pf_laws_eqPgStateS : PF := eqSH (eqSL ty_impl_PgState 12 fn_laws_eqPgState)
def pf_laws_eqStore : PF := ⟨[.val, .val], [0, 1, 2, 3], (.seq (.reg [⟨some 2, .box (.t 0) 2, none, 0⟩,
  ⟨some 3, .box (.t 1) 2, none, 0⟩,
  ⟨some 4, .mov (.k (.bool false)), none, 0⟩]) (.seq (.seq (.reg [⟨some 5, .flda 0 (.t 2), none, 0⟩,
  ⟨some 6, .load 1 false (.t 5), none, 0⟩,
  ⟨some 7, .flda 0 (.t 3), none, 0⟩,
  ⟨some 8, .load 1 false (.t 7), none, 0⟩,
  ⟨some 9, .call fn_laws_eqPgStateS [.t 6, .t 8], none, 0⟩,
  ⟨some 10, .un .not (.t 9), none, 0⟩]) (.cond (.t 10) (.seq (.reg [⟨some 4, .mov (.k (.bool false)), none, 0⟩]) .ret) .skip)) (.seq (.seq (.reg [⟨some 11, .flda 1 (.t 2), none, 0⟩,
  ⟨some 12, .load 1 false (.t 11), none, 0⟩,
  ⟨some 13, .flda 1 (.t 3), none, 0⟩,
  ⟨some 14, .load 1 false (.t 13), none, 0⟩,
  ⟨some 15, .call fn_laws_eqPgStateS [.t 12, .t 14], none, 0⟩,
  ⟨some 16, .un .not (.t 15), none, 0⟩]) (.cond (.t 16) (.seq (.reg [⟨some 4, .mov (.k (.bool false)), none, 0⟩]) .ret) .skip)) (.seq (.reg [⟨some 4, .mov (.k (.bool true)), none, 0⟩]) .ret)))),
  [(4, none)]⟩
def pf_laws_eqInt64S : PF := eqSH (eqS0L ty_int64 0)
def pf_laws_eqCode : PF := ⟨[.val, .val], [0, 1, 2, 3], (.seq (.reg [⟨some 2, .box (.t 0) 2, none, 0⟩,
  ⟨some 3, .box (.t 1) 2, none, 0⟩,
  ⟨some 4, .mov (.k (.bool false)), none, 0⟩]) (.seq (.seq (.reg [⟨some 5, .flda 0 (.t 2), none, 0⟩,
  ⟨some 6, .load 1 false (.t 5), none, 0⟩,
  ⟨some 7, .flda 0 (.t 3), none, 0⟩,
  ⟨some 8, .load 1 false (.t 7), none, 0⟩,
  ⟨some 9, .bin .neq 0 (.t 6) (.t 8), none, 0⟩]) (.cond (.t 9) (.seq (.reg [⟨some 4, .mov (.k (.bool false)), none, 0⟩]) .ret) .skip)) (.seq (.seq (.reg [⟨some 10, .flda 1 (.t 2), none, 0⟩,
  ⟨some 11, .load 1 false (.t 10), none, 0⟩,
  ⟨some 12, .flda 1 (.t 3), none, 0⟩,
  ⟨some 13, .load 1 false (.t 12), none, 0⟩,
  ⟨some 14, .bin .neq 0 (.t 11) (.t 13), none, 0⟩]) (.cond (.t 14) (.seq (.reg [⟨some 4, .mov (.k (.bool false)), none, 0⟩]) .ret) .skip)) (.seq (.reg [⟨some 4, .mov (.k (.bool true)), none, 0⟩]) .ret)))),
  [(4, none)]⟩
def pf_laws_eqInterval : PF := ⟨[.val, .val], [0, 1, 2, 3], (.seq (.reg [⟨some 2, .box (.t 0) 4, none, 0⟩,
  ⟨some 3, .box (.t 1) 4, none, 0⟩,
  ⟨some 4, .mov (.k (.bool false)), none, 0⟩]) (.seq (.seq (.reg [⟨some 5, .flda 0 (.t 2), none, 0⟩,
  ⟨some 6, .load 1 false (.t 5), none, 0⟩,
  ⟨some 7, .flda 0 (.t 3), none, 0⟩,
  ⟨some 8, .load 1 false (.t 7), none, 0⟩,
  ⟨some 9, .bin .neq 0 (.t 6) (.t 8), none, 0⟩]) (.cond (.t 9) (.seq (.reg [⟨some 4, .mov (.k (.bool false)), none, 0⟩]) .ret) .skip)) (.seq (.seq (.reg [⟨some 10, .flda 1 (.t 2), none, 0⟩,
  ⟨some 11, .load 1 false (.t 10), none, 0⟩,
  ⟨some 12, .flda 1 (.t 3), none, 0⟩,
  ⟨some 13, .load 1 false (.t 12), none, 0⟩,
  ⟨some 14, .bin .neq 0 (.t 11) (.t 13), none, 0⟩]) (.cond (.t 14) (.seq (.reg [⟨some 4, .mov (.k (.bool false)), none, 0⟩]) .ret) .skip)) (.seq (.seq (.reg [⟨some 15, .flda 2 (.t 2), none, 0⟩,
  ⟨some 16, .load 1 false (.t 15), none, 0⟩,
  ⟨some 17, .flda 2 (.t 3), none, 0⟩,
  ⟨some 18, .load 1 false (.t 17), none, 0⟩,
  ⟨some 19, .call fn_laws_eqInt64S [.t 16, .t 18], none, 0⟩,
  ⟨some 20, .un .not (.t 19), none, 0⟩]) (.cond (.t 20) (.seq (.reg [⟨some 4, .mov (.k (.bool false)), none, 0⟩]) .ret) .skip)) (.seq (.seq (.reg [⟨some 21, .flda 3 (.t 2), none, 0⟩,
  ⟨some 22, .load 1 false (.t 21), none, 0⟩,
  ⟨some 23, .flda 3 (.t 3), none, 0⟩,
  ⟨some 24, .load 1 false (.t 23), none, 0⟩,
  ⟨some 25, .bin .neq 1 (.t 22) (.t 24), none, 0⟩]) (.cond (.t 25) (.seq (.reg [⟨some 4, .mov (.k (.bool false)), none, 0⟩]) .ret) .skip)) (.seq (.reg [⟨some 4, .mov (.k (.bool true)), none, 0⟩]) .ret)))))),
  [(4, none)]⟩
def pf_laws_eqIntervalS : PF := eqSH (eqSL ty_impl_Interval 4 fn_laws_eqInterval)
def pf_laws_eqNotice : PF := ⟨[.val, .val], [0, 1, 2, 3], (.seq (.reg [⟨some 2, .box (.t 0) 13, none, 0⟩,
  ⟨some 3, .box (.t 1) 13, none, 0⟩,
  ⟨some 4, .mov (.k (.bool false)), none, 0⟩]) (.seq (.seq (.reg [⟨some 5, .flda 0 (.t 2), none, 0⟩,
  ⟨some 6, .load 1 false (.t 5), none, 0⟩,
  ⟨some 7, .flda 0 (.t 3), none, 0⟩,
  ⟨some 8, .load 1 false (.t 7), none, 0⟩,
  ⟨some 9, .bin .neq 0 (.t 6) (.t 8), none, 0⟩]) (.cond (.t 9) (.seq (.reg [⟨some 4, .mov (.k (.bool false)), none, 0⟩]) .ret) .skip)) (.seq (.seq (.reg [⟨some 10, .flda 1 (.t 2), none, 0⟩,
  ⟨some 11, .load 12 true (.t 10), none, 0⟩,
  ⟨some 12, .flda 1 (.t 3), none, 0⟩,
  ⟨some 13, .load 12 true (.t 12), none, 0⟩,
  ⟨some 14, .call fn_laws_eqPgState [.t 11, .t 13], none, 0⟩,
  ⟨some 15, .un .not (.t 14), none, 0⟩]) (.cond (.t 15) (.seq (.reg [⟨some 4, .mov (.k (.bool false)), none, 0⟩]) .ret) .skip)) (.seq (.reg [⟨some 4, .mov (.k (.bool true)), none, 0⟩]) .ret)))),
  [(4, none)]⟩
def pf_laws_eqNoticeS : PF := eqSH (eqSL ty_impl_Notice 13 fn_laws_eqNotice)
def pf_laws_eqFill : PF := ⟨[.val, .val], [0, 1, 2, 3], (.seq (.reg [⟨some 2, .box (.t 0) 7, none, 0⟩,
  ⟨some 3, .box (.t 1) 7, none, 0⟩,
  ⟨some 4, .mov (.k (.bool false)), none, 0⟩]) (.seq (.seq (.reg [⟨some 5, .flda 0 (.t 2), none, 0⟩,
  ⟨some 6, .load 1 false (.t 5), none, 0⟩,
  ⟨some 7, .flda 0 (.t 3), none, 0⟩,
  ⟨some 8, .load 1 false (.t 7), none, 0⟩,
  ⟨some 9, .bin .neq 0 (.t 6) (.t 8), none, 0⟩]) (.cond (.t 9) (.seq (.reg [⟨some 4, .mov (.k (.bool false)), none, 0⟩]) .ret) .skip)) (.seq (.seq (.reg [⟨some 10, .flda 1 (.t 2), none, 0⟩,
  ⟨some 11, .load 1 false (.t 10), none, 0⟩,
  ⟨some 12, .flda 1 (.t 3), none, 0⟩,
  ⟨some 13, .load 1 false (.t 12), none, 0⟩,
  ⟨some 14, .bin .neq 0 (.t 11) (.t 13), none, 0⟩]) (.cond (.t 14) (.seq (.reg [⟨some 4, .mov (.k (.bool false)), none, 0⟩]) .ret) .skip)) (.seq (.seq (.reg [⟨some 15, .flda 2 (.t 2), none, 0⟩,
  ⟨some 16, .load 5 true (.t 15), none, 0⟩,
  ⟨some 17, .flda 2 (.t 3), none, 0⟩,
  ⟨some 18, .load 5 true (.t 17), none, 0⟩,
  ⟨some 19, .call fn_laws_eqHead [.t 16, .t 18], none, 0⟩,
  ⟨some 20, .un .not (.t 19), none, 0⟩]) (.cond (.t 20) (.seq (.reg [⟨some 4, .mov (.k (.bool false)), none, 0⟩]) .ret) .skip)) (.seq (.reg [⟨some 4, .mov (.k (.bool true)), none, 0⟩]) .ret))))),
  [(4, none)]⟩
def pf_laws_eqFillS : PF := eqSH (eqSL ty_impl_Fill 7 fn_laws_eqFill)
def pf_laws_eqWay : PF := ⟨[.val, .val], [0, 1, 2, 3], (.seq (.reg [⟨some 2, .box (.t 0) 11, none, 0⟩,
  ⟨some 3, .box (.t 1) 11, none, 0⟩,
  ⟨some 4, .mov (.k (.bool false)), none, 0⟩]) (.seq (.seq (.reg [⟨some 5, .flda 0 (.t 2), none, 0⟩,
  ⟨some 6, .load 10 true (.t 5), none, 0⟩,
  ⟨some 7, .flda 0 (.t 3), none, 0⟩,
  ⟨some 8, .load 10 true (.t 7), none, 0⟩,
  ⟨some 9, .call fn_laws_eqEntry [.t 6, .t 8], none, 0⟩,
  ⟨some 10, .un .not (.t 9), none, 0⟩]) (.cond (.t 10) (.seq (.reg [⟨some 4, .mov (.k (.bool false)), none, 0⟩]) .ret) .skip)) (.seq (.seq (.reg [⟨some 11, .flda 10 (.t 2), none, 0⟩,
  ⟨some 12, .load 1 false (.t 11), none, 0⟩,
  ⟨some 13, .flda 10 (.t 3), none, 0⟩,
  ⟨some 14, .load 1 false (.t 13), none, 0⟩,
  ⟨some 15, .bin .neq 0 (.t 12) (.t 14), none, 0⟩]) (.cond (.t 15) (.seq (.reg [⟨some 4, .mov (.k (.bool false)), none, 0⟩]) .ret) .skip)) (.seq (.reg [⟨some 4, .mov (.k (.bool true)), none, 0⟩]) .ret)))),
  [(4, none)]⟩
def pf_laws_eqWayS : PF := eqSH (eqSL ty_impl_Way 11 fn_laws_eqWay)
def pf_laws_eqAck : PF := ⟨[.val, .val], [0, 1, 2, 3], (.seq (.reg [⟨some 2, .box (.t 0) 3, none, 0⟩,
  ⟨some 3, .box (.t 1) 3, none, 0⟩,
  ⟨some 4, .mov (.k (.bool false)), none, 0⟩]) (.seq (.seq (.reg [⟨some 5, .flda 0 (.t 2), none, 0⟩,
  ⟨some 6, .load 1 false (.t 5), none, 0⟩,
  ⟨some 7, .flda 0 (.t 3), none, 0⟩,
  ⟨some 8, .load 1 false (.t 7), none, 0⟩,
  ⟨some 9, .bin .neq 0 (.t 6) (.t 8), none, 0⟩]) (.cond (.t 9) (.seq (.reg [⟨some 4, .mov (.k (.bool false)), none, 0⟩]) .ret) .skip)) (.seq (.seq (.reg [⟨some 10, .flda 1 (.t 2), none, 0⟩,
  ⟨some 11, .load 2 true (.t 10), none, 0⟩,
  ⟨some 12, .flda 1 (.t 3), none, 0⟩,
  ⟨some 13, .load 2 true (.t 12), none, 0⟩,
  ⟨some 14, .call fn_laws_eqVer [.t 11, .t 13], none, 0⟩,
  ⟨some 15, .un .not (.t 14), none, 0⟩]) (.cond (.t 15) (.seq (.reg [⟨some 4, .mov (.k (.bool false)), none, 0⟩]) .ret) .skip)) (.seq (.reg [⟨some 4, .mov (.k (.bool true)), none, 0⟩]) .ret)))),
  [(4, none)]⟩
def pf_laws_eqAckS : PF := eqSH (eqSL ty_impl_Ack 3 fn_laws_eqAck)
def pf_laws_eqGot : PF := ⟨[.val, .val], [0, 1, 2, 3], (.seq (.reg [⟨some 2, .box (.t 0) 17, none, 0⟩,
  ⟨some 3, .box (.t 1) 17, none, 0⟩,
  ⟨some 4, .mov (.k (.bool false)), none, 0⟩]) (.seq (.seq (.reg [⟨some 5, .flda 0 (.t 2), none, 0⟩,
  ⟨some 6, .load 1 false (.t 5), none, 0⟩,
  ⟨some 7, .flda 0 (.t 3), none, 0⟩,
  ⟨some 8, .load 1 false (.t 7), none, 0⟩,
  ⟨some 9, .bin .neq 0 (.t 6) (.t 8), none, 0⟩]) (.cond (.t 9) (.seq (.reg [⟨some 4, .mov (.k (.bool false)), none, 0⟩]) .ret) .skip)) (.seq (.seq (.reg [⟨some 10, .flda 1 (.t 2), none, 0⟩,
  ⟨some 11, .load 10 true (.t 10), none, 0⟩,
  ⟨some 12, .flda 1 (.t 3), none, 0⟩,
  ⟨some 13, .load 10 true (.t 12), none, 0⟩,
  ⟨some 14, .call fn_laws_eqEntry [.t 11, .t 13], none, 0⟩,
  ⟨some 15, .un .not (.t 14), none, 0⟩]) (.cond (.t 15) (.seq (.reg [⟨some 4, .mov (.k (.bool false)), none, 0⟩]) .ret) .skip)) (.seq (.seq (.reg [⟨some 16, .flda 11 (.t 2), none, 0⟩,
  ⟨some 17, .load 6 true (.t 16), none, 0⟩,
  ⟨some 18, .flda 11 (.t 3), none, 0⟩,
  ⟨some 19, .load 6 true (.t 18), none, 0⟩,
  ⟨some 20, .call fn_laws_eqChunk [.t 17, .t 19], none, 0⟩,
  ⟨some 21, .un .not (.t 20), none, 0⟩]) (.cond (.t 21) (.seq (.reg [⟨some 4, .mov (.k (.bool false)), none, 0⟩]) .ret) .skip)) (.seq (.reg [⟨some 4, .mov (.k (.bool true)), none, 0⟩]) .ret))))),
  [(4, none)]⟩
def pf_laws_eqGotS : PF := eqSH (eqSL ty_impl_Got 17 fn_laws_eqGot)
def pf_laws_eqWait : PF := ⟨[.val, .val], [0, 1, 2, 3], (.seq (.reg [⟨some 2, .box (.t 0) 6, none, 0⟩,
  ⟨some 3, .box (.t 1) 6, none, 0⟩,
  ⟨some 4, .mov (.k (.bool false)), none, 0⟩]) (.seq (.seq (.reg [⟨some 5, .flda 0 (.t 2), none, 0⟩,
  ⟨some 6, .load 2 true (.t 5), none, 0⟩,
  ⟨some 7, .flda 0 (.t 3), none, 0⟩,
  ⟨some 8, .load 2 true (.t 7), none, 0⟩,
  ⟨some 9, .call fn_laws_eqReq [.t 6, .t 8], none, 0⟩,
  ⟨some 10, .un .not (.t 9), none, 0⟩]) (.cond (.t 10) (.seq (.reg [⟨some 4, .mov (.k (.bool false)), none, 0⟩]) .ret) .skip)) (.seq (.seq (.reg [⟨some 11, .flda 2 (.t 2), none, 0⟩,
  ⟨some 12, .load 1 false (.t 11), none, 0⟩,
  ⟨some 13, .flda 2 (.t 3), none, 0⟩,
  ⟨some 14, .load 1 false (.t 13), none, 0⟩,
  ⟨some 15, .bin .neq 0 (.t 12) (.t 14), none, 0⟩]) (.cond (.t 15) (.seq (.reg [⟨some 4, .mov (.k (.bool false)), none, 0⟩]) .ret) .skip)) (.seq (.seq (.reg [⟨some 16, .flda 3 (.t 2), none, 0⟩,
  ⟨some 17, .load 2 true (.t 16), none, 0⟩,
  ⟨some 18, .flda 3 (.t 3), none, 0⟩,
  ⟨some 19, .load 2 true (.t 18), none, 0⟩,
  ⟨some 20, .call fn_laws_eqVer [.t 17, .t 19], none, 0⟩,
  ⟨some 21, .un .not (.t 20), none, 0⟩]) (.cond (.t 21) (.seq (.reg [⟨some 4, .mov (.k (.bool false)), none, 0⟩]) .ret) .skip)) (.seq (.seq (.reg [⟨some 22, .flda 5 (.t 2), none, 0⟩,
  ⟨some 23, .load 1 false (.t 22), none, 0⟩,
  ⟨some 24, .flda 5 (.t 3), none, 0⟩,
  ⟨some 25, .load 1 false (.t 24), none, 0⟩,
  ⟨some 26, .call fn_laws_eqGotS [.t 23, .t 25], none, 0⟩,
  ⟨some 27, .un .not (.t 26), none, 0⟩]) (.cond (.t 27) (.seq (.reg [⟨some 4, .mov (.k (.bool false)), none, 0⟩]) .ret) .skip)) (.seq (.reg [⟨some 4, .mov (.k (.bool true)), none, 0⟩]) .ret)))))),
  [(4, none)]⟩
def pf_laws_eqWaitS : PF := eqSH (eqSL ty_impl_Wait 6 fn_laws_eqWait)
def pf_laws_eqLine : PF := ⟨[.val, .val], [0, 1, 2, 3], (.seq (.reg [⟨some 2, .box (.t 0) 19, none, 0⟩,
  ⟨some 3, .box (.t 1) 19, none, 0⟩,
  ⟨some 4, .mov (.k (.bool false)), none, 0⟩]) (.seq (.seq (.reg [⟨some 5, .flda 0 (.t 2), none, 0⟩,
  ⟨some 6, .load 1 false (.t 5), none, 0⟩,
  ⟨some 7, .flda 0 (.t 3), none, 0⟩,
  ⟨some 8, .load 1 false (.t 7), none, 0⟩,
  ⟨some 9, .bin .neq 0 (.t 6) (.t 8), none, 0⟩]) (.cond (.t 9) (.seq (.reg [⟨some 4, .mov (.k (.bool false)), none, 0⟩]) .ret) .skip)) (.seq (.seq (.reg [⟨some 10, .flda 1 (.t 2), none, 0⟩,
  ⟨some 11, .load 2 true (.t 10), none, 0⟩,
  ⟨some 12, .flda 1 (.t 3), none, 0⟩,
  ⟨some 13, .load 2 true (.t 12), none, 0⟩,
  ⟨some 14, .call fn_laws_eqCode [.t 11, .t 13], none, 0⟩,
  ⟨some 15, .un .not (.t 14), none, 0⟩]) (.cond (.t 15) (.seq (.reg [⟨some 4, .mov (.k (.bool false)), none, 0⟩]) .ret) .skip)) (.seq (.seq (.reg [⟨some 16, .flda 3 (.t 2), none, 0⟩,
  ⟨some 17, .load 1 false (.t 16), none, 0⟩,
  ⟨some 18, .flda 3 (.t 3), none, 0⟩,
  ⟨some 19, .load 1 false (.t 18), none, 0⟩,
  ⟨some 20, .call fn_laws_eqInt64S [.t 17, .t 19], none, 0⟩,
  ⟨some 21, .un .not (.t 20), none, 0⟩]) (.cond (.t 21) (.seq (.reg [⟨some 4, .mov (.k (.bool false)), none, 0⟩]) .ret) .skip)) (.seq (.seq (.reg [⟨some 22, .flda 4 (.t 2), none, 0⟩,
  ⟨some 23, .load 12 true (.t 22), none, 0⟩,
  ⟨some 24, .flda 4 (.t 3), none, 0⟩,
  ⟨some 25, .load 12 true (.t 24), none, 0⟩,
  ⟨some 26, .call fn_laws_eqPgState [.t 23, .t 25], none, 0⟩,
  ⟨some 27, .un .not (.t 26), none, 0⟩]) (.cond (.t 27) (.seq (.reg [⟨some 4, .mov (.k (.bool false)), none, 0⟩]) .ret) .skip)) (.seq (.seq (.reg [⟨some 28, .flda 16 (.t 2), none, 0⟩,
  ⟨some 29, .load 1 false (.t 28), none, 0⟩,
  ⟨some 30, .flda 16 (.t 3), none, 0⟩,
  ⟨some 31, .load 1 false (.t 30), none, 0⟩,
  ⟨some 32, .call fn_laws_eqWayS [.t 29, .t 31], none, 0⟩,
  ⟨some 33, .un .not (.t 32), none, 0⟩]) (.cond (.t 33) (.seq (.reg [⟨some 4, .mov (.k (.bool false)), none, 0⟩]) .ret) .skip)) (.seq (.seq (.reg [⟨some 34, .flda 17 (.t 2), none, 0⟩,
  ⟨some 35, .load 1 false (.t 34), none, 0⟩,
  ⟨some 36, .flda 17 (.t 3), none, 0⟩,
  ⟨some 37, .load 1 false (.t 36), none, 0⟩,
  ⟨some 38, .call fn_laws_eqAckS [.t 35, .t 37], none, 0⟩,
  ⟨some 39, .un .not (.t 38), none, 0⟩]) (.cond (.t 39) (.seq (.reg [⟨some 4, .mov (.k (.bool false)), none, 0⟩]) .ret) .skip)) (.seq (.seq (.reg [⟨some 40, .flda 18 (.t 2), none, 0⟩,
  ⟨some 41, .load 1 false (.t 40), none, 0⟩,
  ⟨some 42, .flda 18 (.t 3), none, 0⟩,
  ⟨some 43, .load 1 false (.t 42), none, 0⟩,
  ⟨some 44, .call fn_laws_eqWaitS [.t 41, .t 43], none, 0⟩,
  ⟨some 45, .un .not (.t 44), none, 0⟩]) (.cond (.t 45) (.seq (.reg [⟨some 4, .mov (.k (.bool false)), none, 0⟩]) .ret) .skip)) (.seq (.reg [⟨some 4, .mov (.k (.bool true)), none, 0⟩]) .ret))))))))),
  [(4, none)]⟩
def pf_laws_eqLead : PF := ⟨[.val, .val], [0, 1, 2, 3], (.seq (.reg [⟨some 2, .box (.t 0) 43, none, 0⟩,
  ⟨some 3, .box (.t 1) 43, none, 0⟩,
  ⟨some 4, .mov (.k (.bool false)), none, 0⟩]) (.seq (.seq (.reg [⟨some 5, .flda 0 (.t 2), none, 0⟩,
  ⟨some 6, .load 2 true (.t 5), none, 0⟩,
  ⟨some 7, .flda 0 (.t 3), none, 0⟩,
  ⟨some 8, .load 2 true (.t 7), none, 0⟩,
  ⟨some 9, .call fn_laws_eqPg [.t 6, .t 8], none, 0⟩,
  ⟨some 10, .un .not (.t 9), none, 0⟩]) (.cond (.t 10) (.seq (.reg [⟨some 4, .mov (.k (.bool false)), none, 0⟩]) .ret) .skip)) (.seq (.seq (.reg [⟨some 11, .flda 2 (.t 2), none, 0⟩,
  ⟨some 12, .load 1 false (.t 11), none, 0⟩,
  ⟨some 13, .flda 2 (.t 3), none, 0⟩,
  ⟨some 14, .load 1 false (.t 13), none, 0⟩,
  ⟨some 15, .bin .neq 0 (.t 12) (.t 14), none, 0⟩]) (.cond (.t 15) (.seq (.reg [⟨some 4, .mov (.k (.bool false)), none, 0⟩]) .ret) .skip)) (.seq (.seq (.reg [⟨some 16, .flda 3 (.t 2), none, 0⟩,
  ⟨some 17, .load 1 false (.t 16), none, 0⟩,
  ⟨some 18, .flda 3 (.t 3), none, 0⟩,
  ⟨some 19, .load 1 false (.t 18), none, 0⟩,
  ⟨some 20, .bin .neq 0 (.t 17) (.t 19), none, 0⟩]) (.cond (.t 20) (.seq (.reg [⟨some 4, .mov (.k (.bool false)), none, 0⟩]) .ret) .skip)) (.seq (.seq (.reg [⟨some 21, .flda 4 (.t 2), none, 0⟩,
  ⟨some 22, .load 2 true (.t 21), none, 0⟩,
  ⟨some 23, .flda 4 (.t 3), none, 0⟩,
  ⟨some 24, .load 2 true (.t 23), none, 0⟩,
  ⟨some 25, .call fn_laws_eqCode [.t 22, .t 24], none, 0⟩,
  ⟨some 26, .un .not (.t 25), none, 0⟩]) (.cond (.t 26) (.seq (.reg [⟨some 4, .mov (.k (.bool false)), none, 0⟩]) .ret) .skip)) (.seq (.seq (.reg [⟨some 27, .flda 6 (.t 2), none, 0⟩,
  ⟨some 28, .load 1 false (.t 27), none, 0⟩,
  ⟨some 29, .flda 6 (.t 3), none, 0⟩,
  ⟨some 30, .load 1 false (.t 29), none, 0⟩,
  ⟨some 31, .call fn_laws_eqInt64S [.t 28, .t 30], none, 0⟩,
  ⟨some 32, .un .not (.t 31), none, 0⟩]) (.cond (.t 32) (.seq (.reg [⟨some 4, .mov (.k (.bool false)), none, 0⟩]) .ret) .skip)) (.seq (.seq (.reg [⟨some 33, .flda 7 (.t 2), none, 0⟩,
  ⟨some 34, .load 1 false (.t 33), none, 0⟩,
  ⟨some 35, .flda 7 (.t 3), none, 0⟩,
  ⟨some 36, .load 1 false (.t 35), none, 0⟩,
  ⟨some 37, .call fn_laws_eqIntervalS [.t 34, .t 36], none, 0⟩,
  ⟨some 38, .un .not (.t 37), none, 0⟩]) (.cond (.t 38) (.seq (.reg [⟨some 4, .mov (.k (.bool false)), none, 0⟩]) .ret) .skip)) (.seq (.seq (.reg [⟨some 39, .flda 8 (.t 2), none, 0⟩,
  ⟨some 40, .load 1 false (.t 39), none, 0⟩,
  ⟨some 41, .flda 8 (.t 3), none, 0⟩,
  ⟨some 42, .load 1 false (.t 41), none, 0⟩,
  ⟨some 43, .call fn_laws_eqNoticeS [.t 40, .t 42], none, 0⟩,
  ⟨some 44, .un .not (.t 43), none, 0⟩]) (.cond (.t 44) (.seq (.reg [⟨some 4, .mov (.k (.bool false)), none, 0⟩]) .ret) .skip)) (.seq (.seq (.reg [⟨some 45, .flda 9 (.t 2), none, 0⟩,
  ⟨some 46, .load 12 true (.t 45), none, 0⟩,
  ⟨some 47, .flda 9 (.t 3), none, 0⟩,
  ⟨some 48, .load 12 true (.t 47), none, 0⟩,
  ⟨some 49, .call fn_laws_eqPgState [.t 46, .t 48], none, 0⟩,
  ⟨some 50, .un .not (.t 49), none, 0⟩]) (.cond (.t 50) (.seq (.reg [⟨some 4, .mov (.k (.bool false)), none, 0⟩]) .ret) .skip)) (.seq (.seq (.reg [⟨some 51, .flda 21 (.t 2), none, 0⟩,
  ⟨some 52, .load 1 false (.t 51), none, 0⟩,
  ⟨some 53, .flda 21 (.t 3), none, 0⟩,
  ⟨some 54, .load 1 false (.t 53), none, 0⟩,
  ⟨some 55, .call fn_laws_eqFillS [.t 52, .t 54], none, 0⟩,
  ⟨some 56, .un .not (.t 55), none, 0⟩]) (.cond (.t 56) (.seq (.reg [⟨some 4, .mov (.k (.bool false)), none, 0⟩]) .ret) .skip)) (.seq (.seq (.reg [⟨some 57, .flda 22 (.t 2), none, 0⟩,
  ⟨some 58, .load 1 false (.t 57), none, 0⟩,
  ⟨some 59, .flda 22 (.t 3), none, 0⟩,
  ⟨some 60, .load 1 false (.t 59), none, 0⟩,
  ⟨some 61, .call fn_laws_eqChunkS [.t 58, .t 60], none, 0⟩,
  ⟨some 62, .un .not (.t 61), none, 0⟩]) (.cond (.t 62) (.seq (.reg [⟨some 4, .mov (.k (.bool false)), none, 0⟩]) .ret) .skip)) (.seq (.seq (.reg [⟨some 63, .flda 23 (.t 2), none, 0⟩,
  ⟨some 64, .load 1 false (.t 63), none, 0⟩,
  ⟨some 65, .flda 23 (.t 3), none, 0⟩,
  ⟨some 66, .load 1 false (.t 65), none, 0⟩,
  ⟨some 67, .call fn_laws_eqInt64S [.t 64, .t 66], none, 0⟩,
  ⟨some 68, .un .not (.t 67), none, 0⟩]) (.cond (.t 68) (.seq (.reg [⟨some 4, .mov (.k (.bool false)), none, 0⟩]) .ret) .skip)) (.seq (.seq (.reg [⟨some 69, .flda 24 (.t 2), none, 0⟩,
  ⟨some 70, .load 19 true (.t 69), none, 0⟩,
  ⟨some 71, .flda 24 (.t 3), none, 0⟩,
  ⟨some 72, .load 19 true (.t 71), none, 0⟩,
  ⟨some 73, .call fn_laws_eqLine [.t 70, .t 72], none, 0⟩,
  ⟨some 74, .un .not (.t 73), none, 0⟩]) (.cond (.t 74) (.seq (.reg [⟨some 4, .mov (.k (.bool false)), none, 0⟩]) .ret) .skip)) (.seq (.reg [⟨some 4, .mov (.k (.bool true)), none, 0⟩]) .ret)))))))))))))),
  [(4, none)]⟩
def pf_laws_eqLeadS : PF := eqSH (eqSL ty_impl_Lead 43 fn_laws_eqLead)
def pf_laws_eqOp : PF := ⟨[.val, .val], [0, 1, 2, 3], (.seq (.reg [⟨some 2, .box (.t 0) 3, none, 0⟩,
  ⟨some 3, .box (.t 1) 3, none, 0⟩,
  ⟨some 4, .mov (.k (.bool false)), none, 0⟩]) (.seq (.seq (.reg [⟨some 5, .flda 0 (.t 2), none, 0⟩,
  ⟨some 6, .load 1 false (.t 5), none, 0⟩,
  ⟨some 7, .flda 0 (.t 3), none, 0⟩,
  ⟨some 8, .load 1 false (.t 7), none, 0⟩,
  ⟨some 9, .bin .neq 0 (.t 6) (.t 8), none, 0⟩]) (.cond (.t 9) (.seq (.reg [⟨some 4, .mov (.k (.bool false)), none, 0⟩]) .ret) .skip)) (.seq (.seq (.reg [⟨some 10, .flda 1 (.t 2), none, 0⟩,
  ⟨some 11, .load 1 false (.t 10), none, 0⟩,
  ⟨some 12, .flda 1 (.t 3), none, 0⟩,
  ⟨some 13, .load 1 false (.t 12), none, 0⟩,
  ⟨some 14, .bin .neq 0 (.t 11) (.t 13), none, 0⟩]) (.cond (.t 14) (.seq (.reg [⟨some 4, .mov (.k (.bool false)), none, 0⟩]) .ret) .skip)) (.seq (.seq (.reg [⟨some 15, .flda 2 (.t 2), none, 0⟩,
  ⟨some 16, .load 1 false (.t 15), none, 0⟩,
  ⟨some 17, .flda 2 (.t 3), none, 0⟩,
  ⟨some 18, .load 1 false (.t 17), none, 0⟩,
  ⟨some 19, .bin .neq 0 (.t 16) (.t 18), none, 0⟩]) (.cond (.t 19) (.seq (.reg [⟨some 4, .mov (.k (.bool false)), none, 0⟩]) .ret) .skip)) (.seq (.reg [⟨some 4, .mov (.k (.bool true)), none, 0⟩]) .ret))))),
  [(4, none)]⟩
def pf_laws_eqMsg : PF := ⟨[.val, .val], [0, 1, 2, 3], (.seq (.reg [⟨some 2, .box (.t 0) 46, none, 0⟩,
  ⟨some 3, .box (.t 1) 46, none, 0⟩,
  ⟨some 4, .mov (.k (.bool false)), none, 0⟩]) (.seq (.seq (.reg [⟨some 5, .flda 0 (.t 2), none, 0⟩,
  ⟨some 6, .load 1 false (.t 5), none, 0⟩,
  ⟨some 7, .flda 0 (.t 3), none, 0⟩,
  ⟨some 8, .load 1 false (.t 7), none, 0⟩,
  ⟨some 9, .bin .neq 0 (.t 6) (.t 8), none, 0⟩]) (.cond (.t 9) (.seq (.reg [⟨some 4, .mov (.k (.bool false)), none, 0⟩]) .ret) .skip)) (.seq (.seq (.reg [⟨some 10, .flda 1 (.t 2), none, 0⟩,
  ⟨some 11, .load 1 false (.t 10), none, 0⟩,
  ⟨some 12, .flda 1 (.t 3), none, 0⟩,
  ⟨some 13, .load 1 false (.t 12), none, 0⟩,
  ⟨some 14, .bin .neq 0 (.t 11) (.t 13), none, 0⟩]) (.cond (.t 14) (.seq (.reg [⟨some 4, .mov (.k (.bool false)), none, 0⟩]) .ret) .skip)) (.seq (.seq (.reg [⟨some 15, .flda 2 (.t 2), none, 0⟩,
  ⟨some 16, .load 1 false (.t 15), none, 0⟩,
  ⟨some 17, .flda 2 (.t 3), none, 0⟩,
  ⟨some 18, .load 1 false (.t 17), none, 0⟩,
  ⟨some 19, .bin .neq 0 (.t 16) (.t 18), none, 0⟩]) (.cond (.t 19) (.seq (.reg [⟨some 4, .mov (.k (.bool false)), none, 0⟩]) .ret) .skip)) (.seq (.seq (.reg [⟨some 20, .flda 3 (.t 2), none, 0⟩,
  ⟨some 21, .load 2 true (.t 20), none, 0⟩,
  ⟨some 22, .flda 3 (.t 3), none, 0⟩,
  ⟨some 23, .load 2 true (.t 22), none, 0⟩,
  ⟨some 24, .call fn_laws_eqPg [.t 21, .t 23], none, 0⟩,
  ⟨some 25, .un .not (.t 24), none, 0⟩]) (.cond (.t 25) (.seq (.reg [⟨some 4, .mov (.k (.bool false)), none, 0⟩]) .ret) .skip)) (.seq (.seq (.reg [⟨some 26, .flda 5 (.t 2), none, 0⟩,
  ⟨some 27, .load 1 false (.t 26), none, 0⟩,
  ⟨some 28, .flda 5 (.t 3), none, 0⟩,
  ⟨some 29, .load 1 false (.t 28), none, 0⟩,
  ⟨some 30, .bin .neq 0 (.t 27) (.t 29), none, 0⟩]) (.cond (.t 30) (.seq (.reg [⟨some 4, .mov (.k (.bool false)), none, 0⟩]) .ret) .skip)) (.seq (.seq (.reg [⟨some 31, .flda 6 (.t 2), none, 0⟩,
  ⟨some 32, .load 1 false (.t 31), none, 0⟩,
  ⟨some 33, .flda 6 (.t 3), none, 0⟩,
  ⟨some 34, .load 1 false (.t 33), none, 0⟩,
  ⟨some 35, .bin .neq 0 (.t 32) (.t 34), none, 0⟩]) (.cond (.t 35) (.seq (.reg [⟨some 4, .mov (.k (.bool false)), none, 0⟩]) .ret) .skip)) (.seq (.seq (.reg [⟨some 36, .flda 7 (.t 2), none, 0⟩,
  ⟨some 37, .load 2 true (.t 36), none, 0⟩,
  ⟨some 38, .flda 7 (.t 3), none, 0⟩,
  ⟨some 39, .load 2 true (.t 38), none, 0⟩,
  ⟨some 40, .call fn_laws_eqVer [.t 37, .t 39], none, 0⟩,
  ⟨some 41, .un .not (.t 40), none, 0⟩]) (.cond (.t 41) (.seq (.reg [⟨some 4, .mov (.k (.bool false)), none, 0⟩]) .ret) .skip)) (.seq (.seq (.reg [⟨some 42, .flda 9 (.t 2), none, 0⟩,
  ⟨some 43, .load 2 true (.t 42), none, 0⟩,
  ⟨some 44, .flda 9 (.t 3), none, 0⟩,
  ⟨some 45, .load 2 true (.t 44), none, 0⟩,
  ⟨some 46, .call fn_laws_eqVer [.t 43, .t 45], none, 0⟩,
  ⟨some 47, .un .not (.t 46), none, 0⟩]) (.cond (.t 47) (.seq (.reg [⟨some 4, .mov (.k (.bool false)), none, 0⟩]) .ret) .skip)) (.seq (.seq (.reg [⟨some 48, .flda 11 (.t 2), none, 0⟩,
  ⟨some 49, .load 12 true (.t 48), none, 0⟩,
  ⟨some 50, .flda 11 (.t 3), none, 0⟩,
  ⟨some 51, .load 12 true (.t 50), none, 0⟩,
  ⟨some 52, .call fn_laws_eqPgState [.t 49, .t 51], none, 0⟩,
  ⟨some 53, .un .not (.t 52), none, 0⟩]) (.cond (.t 53) (.seq (.reg [⟨some 4, .mov (.k (.bool false)), none, 0⟩]) .ret) .skip)) (.seq (.seq (.reg [⟨some 54, .flda 23 (.t 2), none, 0⟩,
  ⟨some 55, .load 10 true (.t 54), none, 0⟩,
  ⟨some 56, .flda 23 (.t 3), none, 0⟩,
  ⟨some 57, .load 10 true (.t 56), none, 0⟩,
  ⟨some 58, .call fn_laws_eqEntry [.t 55, .t 57], none, 0⟩,
  ⟨some 59, .un .not (.t 58), none, 0⟩]) (.cond (.t 59) (.seq (.reg [⟨some 4, .mov (.k (.bool false)), none, 0⟩]) .ret) .skip)) (.seq (.seq (.reg [⟨some 60, .flda 33 (.t 2), none, 0⟩,
  ⟨some 61, .load 6 true (.t 60), none, 0⟩,
  ⟨some 62, .flda 33 (.t 3), none, 0⟩,
  ⟨some 63, .load 6 true (.t 62), none, 0⟩,
  ⟨some 64, .call fn_laws_eqChunk [.t 61, .t 63], none, 0⟩,
  ⟨some 65, .un .not (.t 64), none, 0⟩]) (.cond (.t 65) (.seq (.reg [⟨some 4, .mov (.k (.bool false)), none, 0⟩]) .ret) .skip)) (.seq (.seq (.reg [⟨some 66, .flda 39 (.t 2), none, 0⟩,
  ⟨some 67, .load 3 true (.t 66), none, 0⟩,
  ⟨some 68, .flda 39 (.t 3), none, 0⟩,
  ⟨some 69, .load 3 true (.t 68), none, 0⟩,
  ⟨some 70, .call fn_laws_eqOp [.t 67, .t 69], none, 0⟩,
  ⟨some 71, .un .not (.t 70), none, 0⟩]) (.cond (.t 71) (.seq (.reg [⟨some 4, .mov (.k (.bool false)), none, 0⟩]) .ret) .skip)) (.seq (.seq (.reg [⟨some 72, .flda 42 (.t 2), none, 0⟩,
  ⟨some 73, .load 2 true (.t 72), none, 0⟩,
  ⟨some 74, .flda 42 (.t 3), none, 0⟩,
  ⟨some 75, .load 2 true (.t 74), none, 0⟩,
  ⟨some 76, .call fn_laws_eqReq [.t 73, .t 75], none, 0⟩,
  ⟨some 77, .un .not (.t 76), none, 0⟩]) (.cond (.t 77) (.seq (.reg [⟨some 4, .mov (.k (.bool false)), none, 0⟩]) .ret) .skip)) (.seq (.seq (.reg [⟨some 78, .flda 44 (.t 2), none, 0⟩,
  ⟨some 79, .load 1 false (.t 78), none, 0⟩,
  ⟨some 80, .flda 44 (.t 3), none, 0⟩,
  ⟨some 81, .load 1 false (.t 80), none, 0⟩,
  ⟨some 82, .bin .neq 0 (.t 79) (.t 81), none, 0⟩]) (.cond (.t 82) (.seq (.reg [⟨some 4, .mov (.k (.bool false)), none, 0⟩]) .ret) .skip)) (.seq (.seq (.reg [⟨some 83, .flda 45 (.t 2), none, 0⟩,
  ⟨some 84, .load 1 false (.t 83), none, 0⟩,
  ⟨some 85, .flda 45 (.t 3), none, 0⟩,
  ⟨some 86, .load 1 false (.t 85), none, 0⟩,
  ⟨some 87, .bin .neq 0 (.t 84) (.t 86), none, 0⟩]) (.cond (.t 87) (.seq (.reg [⟨some 4, .mov (.k (.bool false)), none, 0⟩]) .ret) .skip)) (.seq (.reg [⟨some 4, .mov (.k (.bool true)), none, 0⟩]) .ret))))))))))))))))),
  [(4, none)]⟩
def pf_laws_eqMsgS : PF := eqSH (eqSL ty_impl_Msg 46 fn_laws_eqMsg)
def pf_laws_eqServer : PF := ⟨[.val, .val], [0, 1, 2, 3], (.seq (.reg [⟨some 2, .box (.t 0) 7, none, 0⟩,
  ⟨some 3, .box (.t 1) 7, none, 0⟩,
  ⟨some 4, .mov (.k (.bool false)), none, 0⟩]) (.seq (.seq (.reg [⟨some 5, .flda 0 (.t 2), none, 0⟩,
  ⟨some 6, .load 1 false (.t 5), none, 0⟩,
  ⟨some 7, .flda 0 (.t 3), none, 0⟩,
  ⟨some 8, .load 1 false (.t 7), none, 0⟩,
  ⟨some 9, .bin .neq 0 (.t 6) (.t 8), none, 0⟩]) (.cond (.t 9) (.seq (.reg [⟨some 4, .mov (.k (.bool false)), none, 0⟩]) .ret) .skip)) (.seq (.seq (.reg [⟨some 10, .flda 1 (.t 2), none, 0⟩,
  ⟨some 11, .load 1 false (.t 10), none, 0⟩,
  ⟨some 12, .flda 1 (.t 3), none, 0⟩,
  ⟨some 13, .load 1 false (.t 12), none, 0⟩,
  ⟨some 14, .bin .neq 0 (.t 11) (.t 13), none, 0⟩]) (.cond (.t 14) (.seq (.reg [⟨some 4, .mov (.k (.bool false)), none, 0⟩]) .ret) .skip)) (.seq (.seq (.reg [⟨some 15, .flda 2 (.t 2), none, 0⟩,
  ⟨some 16, .load 1 false (.t 15), none, 0⟩,
  ⟨some 17, .flda 2 (.t 3), none, 0⟩,
  ⟨some 18, .load 1 false (.t 17), none, 0⟩,
  ⟨some 19, .bin .neq 1 (.t 16) (.t 18), none, 0⟩]) (.cond (.t 19) (.seq (.reg [⟨some 4, .mov (.k (.bool false)), none, 0⟩]) .ret) .skip)) (.seq (.seq (.reg [⟨some 20, .flda 3 (.t 2), none, 0⟩,
  ⟨some 21, .load 2 true (.t 20), none, 0⟩,
  ⟨some 22, .flda 3 (.t 3), none, 0⟩,
  ⟨some 23, .load 2 true (.t 22), none, 0⟩,
  ⟨some 24, .call fn_laws_eqStore [.t 21, .t 23], none, 0⟩,
  ⟨some 25, .un .not (.t 24), none, 0⟩]) (.cond (.t 25) (.seq (.reg [⟨some 4, .mov (.k (.bool false)), none, 0⟩]) .ret) .skip)) (.seq (.seq (.reg [⟨some 26, .flda 5 (.t 2), none, 0⟩,
  ⟨some 27, .load 1 false (.t 26), none, 0⟩,
  ⟨some 28, .flda 5 (.t 3), none, 0⟩,
  ⟨some 29, .load 1 false (.t 28), none, 0⟩,
  ⟨some 30, .call fn_laws_eqLeadS [.t 27, .t 29], none, 0⟩,
  ⟨some 31, .un .not (.t 30), none, 0⟩]) (.cond (.t 31) (.seq (.reg [⟨some 4, .mov (.k (.bool false)), none, 0⟩]) .ret) .skip)) (.seq (.seq (.reg [⟨some 32, .flda 6 (.t 2), none, 0⟩,
  ⟨some 33, .load 1 false (.t 32), none, 0⟩,
  ⟨some 34, .flda 6 (.t 3), none, 0⟩,
  ⟨some 35, .load 1 false (.t 34), none, 0⟩,
  ⟨some 36, .call fn_laws_eqMsgS [.t 33, .t 35], none, 0⟩,
  ⟨some 37, .un .not (.t 36), none, 0⟩]) (.cond (.t 37) (.seq (.reg [⟨some 4, .mov (.k (.bool false)), none, 0⟩]) .ret) .skip)) (.seq (.reg [⟨some 4, .mov (.k (.bool true)), none, 0⟩]) .ret)))))))),
  [(4, none)]⟩
def pf_laws_FnExactSameServer : PF := ⟨[.val, .val], [0, 1, 2, 3, 5, 6, 7, 8, 9], (.seq (.reg [⟨some 2, .box (.t 0) 7, none, 0⟩,
  ⟨some 3, .box (.t 1) 7, none, 0⟩,
  ⟨some 4, .mov (.k (.bool false)), none, 0⟩]) (.seq (.reg [⟨some 5, .mov (.k (.int .i64 1048576)), none, 0⟩]) (.seq (.reg [⟨some 10, .load 7 true (.t 2), none, 0⟩,
  ⟨some 11, .mov (.t 5), none, 0⟩,
  ⟨some 12, .call fn_laws_szServer [.t 10, .t 11], none, 0⟩,
  ⟨some 5, .mov (.t 12), none, 0⟩]) (.seq (.seq (.reg [⟨some 13, .mov (.t 5), none, 0⟩,
  ⟨some 14, .bin .lss 0 (.t 13) (.k (.int .i64 0)), none, 0⟩]) (.cond (.t 14) (.seq (.reg [⟨some 4, .mov (.k (.bool true)), none, 0⟩]) .ret) .skip)) (.seq (.reg [⟨some 15, .load 7 true (.t 3), none, 0⟩,
  ⟨some 16, .mov (.t 5), none, 0⟩,
  ⟨some 17, .call fn_laws_szServer [.t 15, .t 16], none, 0⟩,
  ⟨some 5, .mov (.t 17), none, 0⟩]) (.seq (.seq (.reg [⟨some 18, .mov (.t 5), none, 0⟩,
  ⟨some 19, .bin .lss 0 (.t 18) (.k (.int .i64 0)), none, 0⟩]) (.cond (.t 19) (.seq (.reg [⟨some 4, .mov (.k (.bool true)), none, 0⟩]) .ret) .skip)) (.seq (.any [(0, []), (1, []), (2, [0, 1]), (3, []), (4, []), (5, [])] [⟨some 20, .load 7 true (.t 2), none, 0⟩,
  ⟨some 21, .call fn_laws_toServer [.t 20], none, 0⟩,
  ⟨some 22, .load 7 true (.t 3), none, 0⟩,
  ⟨some 23, .call fn_laws_toServer [.t 22], none, 0⟩,
  ⟨some 24, .call fn_spec_SameServer [.t 21, .t 23], none, 0⟩,
  ⟨some 6, .mov (.t 24), none, 0⟩]) (.seq (.reg [⟨some 25, .load 7 true (.t 2), none, 0⟩,
  ⟨some 26, .call fn_laws_toServer [.t 25], none, 0⟩,
  ⟨some 7, .alloc [.int .i64 0, .int .i64 0, .bool false, .sl 2 ty_impl_PgState [], .sl 2 ty_impl_PgState [], .sl 2 ty_impl_Lead [], .sl 2 ty_impl_Msg []], none, 0⟩,
  ⟨none, .store 7 (.t 7) (.t 26), none, 0⟩]) (.seq (.reg [⟨some 27, .load 7 true (.t 3), none, 0⟩,
  ⟨some 28, .call fn_laws_toServer [.t 27], none, 0⟩,
  ⟨some 8, .alloc [.int .i64 0, .int .i64 0, .bool false, .sl 2 ty_impl_PgState [], .sl 2 ty_impl_PgState [], .sl 2 ty_impl_Lead [], .sl 2 ty_impl_Msg []], none, 0⟩,
  ⟨none, .store 7 (.t 8) (.t 28), none, 0⟩]) (.seq (.reg [⟨some 29, .load 7 true (.t 7), none, 0⟩,
  ⟨some 30, .load 7 true (.t 8), none, 0⟩,
  ⟨some 31, .call fn_impl_SameServer [.t 29, .t 30], none, 0⟩,
  ⟨some 9, .mov (.t 31), none, 0⟩]) (.seq (.seq (.reg [⟨some 32, .mov (.t 9), none, 0⟩,
  ⟨some 33, .mov (.t 6), none, 0⟩,
  ⟨some 34, .bin .neq 1 (.t 32) (.t 33), none, 0⟩]) (.cond (.t 34) (.seq (.reg [⟨some 4, .mov (.k (.bool false)), none, 0⟩]) .ret) .skip)) (.seq (.seq (.any [(0, []), (1, [0]), (2, [0]), (3, []), (4, [])] [⟨some 35, .load 7 true (.t 7), none, 0⟩,
  ⟨some 36, .load 7 true (.t 2), none, 0⟩,
  ⟨some 37, .call fn_laws_toServer [.t 36], none, 0⟩,
  ⟨some 38, .call fn_laws_eqServer [.t 35, .t 37], none, 0⟩,
  ⟨some 39, .un .not (.t 38), none, 0⟩]) (.cond (.t 39) (.seq (.reg [⟨some 4, .mov (.k (.bool false)), none, 0⟩]) .ret) .skip)) (.seq (.seq (.any [(0, []), (1, [0]), (2, [0]), (3, []), (4, [])] [⟨some 40, .load 7 true (.t 8), none, 0⟩,
  ⟨some 41, .load 7 true (.t 3), none, 0⟩,
  ⟨some 42, .call fn_laws_toServer [.t 41], none, 0⟩,
  ⟨some 43, .call fn_laws_eqServer [.t 40, .t 42], none, 0⟩,
  ⟨some 44, .un .not (.t 43), none, 0⟩]) (.cond (.t 44) (.seq (.reg [⟨some 4, .mov (.k (.bool false)), none, 0⟩]) .ret) .skip)) (.seq (.reg [⟨some 4, .mov (.k (.bool true)), none, 0⟩]) .ret)))))))))))))),
  [(4, none)]⟩
def table : List (FuncId × PF) := [(fn_laws_szChunk, pf_laws_szChunk), (fn_laws_szChunkS, pf_laws_szChunkS), (fn_laws_szHead, pf_laws_szHead), (fn_laws_szHeadS, pf_laws_szHeadS), (fn_laws_szLastS, pf_laws_szLastS), (fn_laws_szEntry, pf_laws_szEntry), (fn_laws_szEntryS, pf_laws_szEntryS), (fn_laws_szPgState, pf_laws_szPgState), (fn_laws_szPgStateS, pf_laws_szPgStateS), (fn_laws_szStore, pf_laws_szStore), (fn_laws_szInt64S, pf_laws_szInt64S), (fn_laws_szInterval, pf_laws_szInterval), (fn_laws_szIntervalS, pf_laws_szIntervalS), (fn_laws_szNotice, pf_laws_szNotice), (fn_laws_szNoticeS, pf_laws_szNoticeS), (fn_laws_szFill, pf_laws_szFill), (fn_laws_szFillS, pf_laws_szFillS), (fn_laws_szWay, pf_laws_szWay), (fn_laws_szWayS, pf_laws_szWayS), (fn_laws_szAckS, pf_laws_szAckS), (fn_laws_szGot, pf_laws_szGot), (fn_laws_szGotS, pf_laws_szGotS), (fn_laws_szWait, pf_laws_szWait), (fn_laws_szWaitS, pf_laws_szWaitS), (fn_laws_szLine, pf_laws_szLine), (fn_laws_szLead, pf_laws_szLead), (fn_laws_szLeadS, pf_laws_szLeadS), (fn_laws_szOp, pf_laws_szOp), (fn_laws_szMsg, pf_laws_szMsg), (fn_laws_szMsgS, pf_laws_szMsgS), (fn_laws_szServer, pf_laws_szServer), (fn_spec_l25SameState, pf_spec_l25SameState), (fn_spec_l30SameStates, pf_spec_l30SameStates), (fn_spec_l00Same, pf_spec_l00Same), (fn_spec_l27SameIvs, pf_spec_l27SameIvs), (fn_spec_l27SameNotices, pf_spec_l27SameNotices), (fn_spec_l25SameWait, pf_spec_l25SameWait), (fn_spec_SameLine, pf_spec_SameLine), (fn_spec_SameLead, pf_spec_SameLead), (fn_spec_l17Same, pf_spec_l17Same), (fn_spec_MsgSame, pf_spec_MsgSame), (fn_spec_l30SameMsgs, pf_spec_l30SameMsgs), (fn_spec_SameServer, pf_spec_SameServer), (fn_laws_toPg, pf_laws_toPg), (fn_laws_toVer, pf_laws_toVer), (fn_laws_toChunk, pf_laws_toChunk), (fn_laws_toChunkS, pf_laws_toChunkS), (fn_laws_toHead, pf_laws_toHead), (fn_laws_toHeadS, pf_laws_toHeadS), (fn_laws_toLast, pf_laws_toLast), (fn_laws_toLastS, pf_laws_toLastS), (fn_laws_toReq, pf_laws_toReq), (fn_laws_toEntry, pf_laws_toEntry), (fn_laws_toEntryS, pf_laws_toEntryS), (fn_laws_toPgState, pf_laws_toPgState), (fn_laws_toPgStateS, pf_laws_toPgStateS), (fn_laws_toStore, pf_laws_toStore), (fn_laws_toInt64S, pf_laws_toInt64S), (fn_laws_toCode, pf_laws_toCode), (fn_laws_toInterval, pf_laws_toInterval), (fn_laws_toIntervalS, pf_laws_toIntervalS), (fn_laws_toNotice, pf_laws_toNotice), (fn_laws_toNoticeS, pf_laws_toNoticeS), (fn_laws_toFill, pf_laws_toFill), (fn_laws_toFillS, pf_laws_toFillS), (fn_laws_toWay, pf_laws_toWay), (fn_laws_toWayS, pf_laws_toWayS), (fn_laws_toAck, pf_laws_toAck), (fn_laws_toAckS, pf_laws_toAckS), (fn_laws_toGot, pf_laws_toGot), (fn_laws_toGotS, pf_laws_toGotS), (fn_laws_toWait, pf_laws_toWait), (fn_laws_toWaitS, pf_laws_toWaitS), (fn_laws_toLine, pf_laws_toLine), (fn_laws_toLead, pf_laws_toLead), (fn_laws_toLeadS, pf_laws_toLeadS), (fn_laws_toOp, pf_laws_toOp), (fn_laws_toMsg, pf_laws_toMsg), (fn_laws_toMsgS, pf_laws_toMsgS), (fn_laws_toServer, pf_laws_toServer), (fn_Eq_impl_Chunk, pf_Eq_impl_Chunk), (fn_Eq_impl_Head, pf_Eq_impl_Head), (fn_Eq_impl_Last, pf_Eq_impl_Last), (fn_Eq_impl_Entry, pf_Eq_impl_Entry), (fn_impl_sameState, pf_impl_sameState), (fn_EqF_impl_PgState, pf_EqF_impl_PgState), (fn_impl_sameStates, pf_impl_sameStates), (fn_impl_SameStore, pf_impl_SameStore), (fn_EqF_impl_Lead, pf_EqF_impl_Lead), (fn_Eq_int64, pf_Eq_int64), (fn_EqF_impl_Interval, pf_EqF_impl_Interval), (fn_impl_sameInterval, pf_impl_sameInterval), (fn_EqF_impl_Notice, pf_EqF_impl_Notice), (fn_impl_sameNotice, pf_impl_sameNotice), (fn_Eq_impl_Fill, pf_Eq_impl_Fill), (fn_Eq_impl_Way, pf_Eq_impl_Way), (fn_Eq_impl_Ack, pf_Eq_impl_Ack), (fn_EqF_impl_Wait, pf_EqF_impl_Wait), (fn_Eq_impl_Got, pf_Eq_impl_Got), (fn_impl_sameWait, pf_impl_sameWait), (fn_impl_SameLine, pf_impl_SameLine), (fn_impl_SameLead, pf_impl_SameLead), (fn_EqF_impl_Msg, pf_EqF_impl_Msg), (fn_impl_MsgSame, pf_impl_MsgSame), (fn_impl_SameServer, pf_impl_SameServer), (fn_laws_eqPg, pf_laws_eqPg), (fn_laws_eqVer, pf_laws_eqVer), (fn_laws_eqChunk, pf_laws_eqChunk), (fn_laws_eqChunkS, pf_laws_eqChunkS), (fn_laws_eqHead, pf_laws_eqHead), (fn_laws_eqHeadS, pf_laws_eqHeadS), (fn_laws_eqLast, pf_laws_eqLast), (fn_laws_eqLastS, pf_laws_eqLastS), (fn_laws_eqReq, pf_laws_eqReq), (fn_laws_eqEntry, pf_laws_eqEntry), (fn_laws_eqEntryS, pf_laws_eqEntryS), (fn_laws_eqPgState, pf_laws_eqPgState), (fn_laws_eqPgStateS, pf_laws_eqPgStateS), (fn_laws_eqStore, pf_laws_eqStore), (fn_laws_eqInt64S, pf_laws_eqInt64S), (fn_laws_eqCode, pf_laws_eqCode), (fn_laws_eqInterval, pf_laws_eqInterval), (fn_laws_eqIntervalS, pf_laws_eqIntervalS), (fn_laws_eqNotice, pf_laws_eqNotice), (fn_laws_eqNoticeS, pf_laws_eqNoticeS), (fn_laws_eqFill, pf_laws_eqFill), (fn_laws_eqFillS, pf_laws_eqFillS), (fn_laws_eqWay, pf_laws_eqWay), (fn_laws_eqWayS, pf_laws_eqWayS), (fn_laws_eqAck, pf_laws_eqAck), (fn_laws_eqAckS, pf_laws_eqAckS), (fn_laws_eqGot, pf_laws_eqGot), (fn_laws_eqGotS, pf_laws_eqGotS), (fn_laws_eqWait, pf_laws_eqWait), (fn_laws_eqWaitS, pf_laws_eqWaitS), (fn_laws_eqLine, pf_laws_eqLine), (fn_laws_eqLead, pf_laws_eqLead), (fn_laws_eqLeadS, pf_laws_eqLeadS), (fn_laws_eqOp, pf_laws_eqOp), (fn_laws_eqMsg, pf_laws_eqMsg), (fn_laws_eqMsgS, pf_laws_eqMsgS), (fn_laws_eqServer, pf_laws_eqServer), (fn_laws_FnExactSameServer, pf_laws_FnExactSameServer)]
abbrev CC : Code := codeOf table
theorem prog_laws_szChunk : CC.prog fn_laws_szChunk = some pf_laws_szChunk := by kernel_rfl
@[simp] theorem modes_laws_szChunk : CC.modes fn_laws_szChunk = [.val, .val] := by kernel_rfl
theorem prog_laws_szChunkS : CC.prog fn_laws_szChunkS = some pf_laws_szChunkS := by kernel_rfl
@[simp] theorem modes_laws_szChunkS : CC.modes fn_laws_szChunkS = [.val, .val] := by kernel_rfl
theorem prog_laws_szHead : CC.prog fn_laws_szHead = some pf_laws_szHead := by kernel_rfl
@[simp] theorem modes_laws_szHead : CC.modes fn_laws_szHead = [.val, .val] := by kernel_rfl
theorem prog_laws_szHeadS : CC.prog fn_laws_szHeadS = some pf_laws_szHeadS := by kernel_rfl
@[simp] theorem modes_laws_szHeadS : CC.modes fn_laws_szHeadS = [.val, .val] := by kernel_rfl
theorem prog_laws_szLastS : CC.prog fn_laws_szLastS = some pf_laws_szLastS := by kernel_rfl
@[simp] theorem modes_laws_szLastS : CC.modes fn_laws_szLastS = [.val, .val] := by kernel_rfl
theorem prog_laws_szEntry : CC.prog fn_laws_szEntry = some pf_laws_szEntry := by kernel_rfl
@[simp] theorem modes_laws_szEntry : CC.modes fn_laws_szEntry = [.val, .val] := by kernel_rfl
theorem prog_laws_szEntryS : CC.prog fn_laws_szEntryS = some pf_laws_szEntryS := by kernel_rfl
@[simp] theorem modes_laws_szEntryS : CC.modes fn_laws_szEntryS = [.val, .val] := by kernel_rfl
theorem prog_laws_szPgState : CC.prog fn_laws_szPgState = some pf_laws_szPgState := by kernel_rfl
@[simp] theorem modes_laws_szPgState : CC.modes fn_laws_szPgState = [.val, .val] := by kernel_rfl
theorem prog_laws_szPgStateS : CC.prog fn_laws_szPgStateS = some pf_laws_szPgStateS := by kernel_rfl
@[simp] theorem modes_laws_szPgStateS : CC.modes fn_laws_szPgStateS = [.val, .val] := by kernel_rfl
theorem prog_laws_szStore : CC.prog fn_laws_szStore = some pf_laws_szStore := by kernel_rfl
@[simp] theorem modes_laws_szStore : CC.modes fn_laws_szStore = [.val, .val] := by kernel_rfl
theorem prog_laws_szInt64S : CC.prog fn_laws_szInt64S = some pf_laws_szInt64S := by kernel_rfl
@[simp] theorem modes_laws_szInt64S : CC.modes fn_laws_szInt64S = [.val, .val] := by kernel_rfl
theorem prog_laws_szInterval : CC.prog fn_laws_szInterval = some pf_laws_szInterval := by kernel_rfl
@[simp] theorem modes_laws_szInterval : CC.modes fn_laws_szInterval = [.val, .val] := by kernel_rfl
theorem prog_laws_szIntervalS : CC.prog fn_laws_szIntervalS = some pf_laws_szIntervalS := by kernel_rfl
@[simp] theorem modes_laws_szIntervalS : CC.modes fn_laws_szIntervalS = [.val, .val] := by kernel_rfl
theorem prog_laws_szNotice : CC.prog fn_laws_szNotice = some pf_laws_szNotice := by kernel_rfl
@[simp] theorem modes_laws_szNotice : CC.modes fn_laws_szNotice = [.val, .val] := by kernel_rfl
theorem prog_laws_szNoticeS : CC.prog fn_laws_szNoticeS = some pf_laws_szNoticeS := by kernel_rfl
@[simp] theorem modes_laws_szNoticeS : CC.modes fn_laws_szNoticeS = [.val, .val] := by kernel_rfl
theorem prog_laws_szFill : CC.prog fn_laws_szFill = some pf_laws_szFill := by kernel_rfl
@[simp] theorem modes_laws_szFill : CC.modes fn_laws_szFill = [.val, .val] := by kernel_rfl
theorem prog_laws_szFillS : CC.prog fn_laws_szFillS = some pf_laws_szFillS := by kernel_rfl
@[simp] theorem modes_laws_szFillS : CC.modes fn_laws_szFillS = [.val, .val] := by kernel_rfl
theorem prog_laws_szWay : CC.prog fn_laws_szWay = some pf_laws_szWay := by kernel_rfl
@[simp] theorem modes_laws_szWay : CC.modes fn_laws_szWay = [.val, .val] := by kernel_rfl
theorem prog_laws_szWayS : CC.prog fn_laws_szWayS = some pf_laws_szWayS := by kernel_rfl
@[simp] theorem modes_laws_szWayS : CC.modes fn_laws_szWayS = [.val, .val] := by kernel_rfl
theorem prog_laws_szAckS : CC.prog fn_laws_szAckS = some pf_laws_szAckS := by kernel_rfl
@[simp] theorem modes_laws_szAckS : CC.modes fn_laws_szAckS = [.val, .val] := by kernel_rfl
theorem prog_laws_szGot : CC.prog fn_laws_szGot = some pf_laws_szGot := by kernel_rfl
@[simp] theorem modes_laws_szGot : CC.modes fn_laws_szGot = [.val, .val] := by kernel_rfl
theorem prog_laws_szGotS : CC.prog fn_laws_szGotS = some pf_laws_szGotS := by kernel_rfl
@[simp] theorem modes_laws_szGotS : CC.modes fn_laws_szGotS = [.val, .val] := by kernel_rfl
theorem prog_laws_szWait : CC.prog fn_laws_szWait = some pf_laws_szWait := by kernel_rfl
@[simp] theorem modes_laws_szWait : CC.modes fn_laws_szWait = [.val, .val] := by kernel_rfl
theorem prog_laws_szWaitS : CC.prog fn_laws_szWaitS = some pf_laws_szWaitS := by kernel_rfl
@[simp] theorem modes_laws_szWaitS : CC.modes fn_laws_szWaitS = [.val, .val] := by kernel_rfl
theorem prog_laws_szLine : CC.prog fn_laws_szLine = some pf_laws_szLine := by kernel_rfl
@[simp] theorem modes_laws_szLine : CC.modes fn_laws_szLine = [.val, .val] := by kernel_rfl
theorem prog_laws_szLead : CC.prog fn_laws_szLead = some pf_laws_szLead := by kernel_rfl
@[simp] theorem modes_laws_szLead : CC.modes fn_laws_szLead = [.val, .val] := by kernel_rfl
theorem prog_laws_szLeadS : CC.prog fn_laws_szLeadS = some pf_laws_szLeadS := by kernel_rfl
@[simp] theorem modes_laws_szLeadS : CC.modes fn_laws_szLeadS = [.val, .val] := by kernel_rfl
theorem prog_laws_szOp : CC.prog fn_laws_szOp = some pf_laws_szOp := by kernel_rfl
@[simp] theorem modes_laws_szOp : CC.modes fn_laws_szOp = [.val, .val] := by kernel_rfl
theorem prog_laws_szMsg : CC.prog fn_laws_szMsg = some pf_laws_szMsg := by kernel_rfl
@[simp] theorem modes_laws_szMsg : CC.modes fn_laws_szMsg = [.val, .val] := by kernel_rfl
theorem prog_laws_szMsgS : CC.prog fn_laws_szMsgS = some pf_laws_szMsgS := by kernel_rfl
@[simp] theorem modes_laws_szMsgS : CC.modes fn_laws_szMsgS = [.val, .val] := by kernel_rfl
theorem prog_laws_szServer : CC.prog fn_laws_szServer = some pf_laws_szServer := by kernel_rfl
@[simp] theorem modes_laws_szServer : CC.modes fn_laws_szServer = [.val, .val] := by kernel_rfl
theorem prog_spec_l25SameState : CC.prog fn_spec_l25SameState = some pf_spec_l25SameState := by kernel_rfl
@[simp] theorem modes_spec_l25SameState : CC.modes fn_spec_l25SameState = [.val, .val] := by kernel_rfl
theorem prog_spec_l30SameStates : CC.prog fn_spec_l30SameStates = some pf_spec_l30SameStates := by kernel_rfl
@[simp] theorem modes_spec_l30SameStates : CC.modes fn_spec_l30SameStates = [.val, .val] := by kernel_rfl
theorem prog_spec_l00Same : CC.prog fn_spec_l00Same = some pf_spec_l00Same := by kernel_rfl
@[simp] theorem modes_spec_l00Same : CC.modes fn_spec_l00Same = [.val, .val] := by kernel_rfl
theorem prog_spec_l27SameIvs : CC.prog fn_spec_l27SameIvs = some pf_spec_l27SameIvs := by kernel_rfl
@[simp] theorem modes_spec_l27SameIvs : CC.modes fn_spec_l27SameIvs = [.val, .val] := by kernel_rfl
theorem prog_spec_l27SameNotices : CC.prog fn_spec_l27SameNotices = some pf_spec_l27SameNotices := by kernel_rfl
@[simp] theorem modes_spec_l27SameNotices : CC.modes fn_spec_l27SameNotices = [.val, .val] := by kernel_rfl
theorem prog_spec_l25SameWait : CC.prog fn_spec_l25SameWait = some pf_spec_l25SameWait := by kernel_rfl
@[simp] theorem modes_spec_l25SameWait : CC.modes fn_spec_l25SameWait = [.val, .val] := by kernel_rfl
theorem prog_spec_SameLine : CC.prog fn_spec_SameLine = some pf_spec_SameLine := by kernel_rfl
@[simp] theorem modes_spec_SameLine : CC.modes fn_spec_SameLine = [.val, .val] := by kernel_rfl
theorem prog_spec_SameLead : CC.prog fn_spec_SameLead = some pf_spec_SameLead := by kernel_rfl
@[simp] theorem modes_spec_SameLead : CC.modes fn_spec_SameLead = [.val, .val] := by kernel_rfl
theorem prog_spec_l17Same : CC.prog fn_spec_l17Same = some pf_spec_l17Same := by kernel_rfl
@[simp] theorem modes_spec_l17Same : CC.modes fn_spec_l17Same = [.val, .val] := by kernel_rfl
theorem prog_spec_MsgSame : CC.prog fn_spec_MsgSame = some pf_spec_MsgSame := by kernel_rfl
@[simp] theorem modes_spec_MsgSame : CC.modes fn_spec_MsgSame = [.val, .val] := by kernel_rfl
theorem prog_spec_l30SameMsgs : CC.prog fn_spec_l30SameMsgs = some pf_spec_l30SameMsgs := by kernel_rfl
@[simp] theorem modes_spec_l30SameMsgs : CC.modes fn_spec_l30SameMsgs = [.val, .val] := by kernel_rfl
theorem prog_spec_SameServer : CC.prog fn_spec_SameServer = some pf_spec_SameServer := by kernel_rfl
@[simp] theorem modes_spec_SameServer : CC.modes fn_spec_SameServer = [.val, .val] := by kernel_rfl
theorem prog_laws_toPg : CC.prog fn_laws_toPg = some pf_laws_toPg := by kernel_rfl
@[simp] theorem modes_laws_toPg : CC.modes fn_laws_toPg = [.val] := by kernel_rfl
theorem prog_laws_toVer : CC.prog fn_laws_toVer = some pf_laws_toVer := by kernel_rfl
@[simp] theorem modes_laws_toVer : CC.modes fn_laws_toVer = [.val] := by kernel_rfl
theorem prog_laws_toChunk : CC.prog fn_laws_toChunk = some pf_laws_toChunk := by kernel_rfl
@[simp] theorem modes_laws_toChunk : CC.modes fn_laws_toChunk = [.val] := by kernel_rfl
theorem prog_laws_toChunkS : CC.prog fn_laws_toChunkS = some pf_laws_toChunkS := by kernel_rfl
@[simp] theorem modes_laws_toChunkS : CC.modes fn_laws_toChunkS = [.val] := by kernel_rfl
theorem prog_laws_toHead : CC.prog fn_laws_toHead = some pf_laws_toHead := by kernel_rfl
@[simp] theorem modes_laws_toHead : CC.modes fn_laws_toHead = [.val] := by kernel_rfl
theorem prog_laws_toHeadS : CC.prog fn_laws_toHeadS = some pf_laws_toHeadS := by kernel_rfl
@[simp] theorem modes_laws_toHeadS : CC.modes fn_laws_toHeadS = [.val] := by kernel_rfl
theorem prog_laws_toLast : CC.prog fn_laws_toLast = some pf_laws_toLast := by kernel_rfl
@[simp] theorem modes_laws_toLast : CC.modes fn_laws_toLast = [.val] := by kernel_rfl
theorem prog_laws_toLastS : CC.prog fn_laws_toLastS = some pf_laws_toLastS := by kernel_rfl
@[simp] theorem modes_laws_toLastS : CC.modes fn_laws_toLastS = [.val] := by kernel_rfl
theorem prog_laws_toReq : CC.prog fn_laws_toReq = some pf_laws_toReq := by kernel_rfl
@[simp] theorem modes_laws_toReq : CC.modes fn_laws_toReq = [.val] := by kernel_rfl
theorem prog_laws_toEntry : CC.prog fn_laws_toEntry = some pf_laws_toEntry := by kernel_rfl
@[simp] theorem modes_laws_toEntry : CC.modes fn_laws_toEntry = [.val] := by kernel_rfl
theorem prog_laws_toEntryS : CC.prog fn_laws_toEntryS = some pf_laws_toEntryS := by kernel_rfl
@[simp] theorem modes_laws_toEntryS : CC.modes fn_laws_toEntryS = [.val] := by kernel_rfl
theorem prog_laws_toPgState : CC.prog fn_laws_toPgState = some pf_laws_toPgState := by kernel_rfl
@[simp] theorem modes_laws_toPgState : CC.modes fn_laws_toPgState = [.val] := by kernel_rfl
theorem prog_laws_toPgStateS : CC.prog fn_laws_toPgStateS = some pf_laws_toPgStateS := by kernel_rfl
@[simp] theorem modes_laws_toPgStateS : CC.modes fn_laws_toPgStateS = [.val] := by kernel_rfl
theorem prog_laws_toStore : CC.prog fn_laws_toStore = some pf_laws_toStore := by kernel_rfl
@[simp] theorem modes_laws_toStore : CC.modes fn_laws_toStore = [.val] := by kernel_rfl
theorem prog_laws_toInt64S : CC.prog fn_laws_toInt64S = some pf_laws_toInt64S := by kernel_rfl
@[simp] theorem modes_laws_toInt64S : CC.modes fn_laws_toInt64S = [.val] := by kernel_rfl
theorem prog_laws_toCode : CC.prog fn_laws_toCode = some pf_laws_toCode := by kernel_rfl
@[simp] theorem modes_laws_toCode : CC.modes fn_laws_toCode = [.val] := by kernel_rfl
theorem prog_laws_toInterval : CC.prog fn_laws_toInterval = some pf_laws_toInterval := by kernel_rfl
@[simp] theorem modes_laws_toInterval : CC.modes fn_laws_toInterval = [.val] := by kernel_rfl
theorem prog_laws_toIntervalS : CC.prog fn_laws_toIntervalS = some pf_laws_toIntervalS := by kernel_rfl
@[simp] theorem modes_laws_toIntervalS : CC.modes fn_laws_toIntervalS = [.val] := by kernel_rfl
theorem prog_laws_toNotice : CC.prog fn_laws_toNotice = some pf_laws_toNotice := by kernel_rfl
@[simp] theorem modes_laws_toNotice : CC.modes fn_laws_toNotice = [.val] := by kernel_rfl
theorem prog_laws_toNoticeS : CC.prog fn_laws_toNoticeS = some pf_laws_toNoticeS := by kernel_rfl
@[simp] theorem modes_laws_toNoticeS : CC.modes fn_laws_toNoticeS = [.val] := by kernel_rfl
theorem prog_laws_toFill : CC.prog fn_laws_toFill = some pf_laws_toFill := by kernel_rfl
@[simp] theorem modes_laws_toFill : CC.modes fn_laws_toFill = [.val] := by kernel_rfl
theorem prog_laws_toFillS : CC.prog fn_laws_toFillS = some pf_laws_toFillS := by kernel_rfl
@[simp] theorem modes_laws_toFillS : CC.modes fn_laws_toFillS = [.val] := by kernel_rfl
theorem prog_laws_toWay : CC.prog fn_laws_toWay = some pf_laws_toWay := by kernel_rfl
@[simp] theorem modes_laws_toWay : CC.modes fn_laws_toWay = [.val] := by kernel_rfl
theorem prog_laws_toWayS : CC.prog fn_laws_toWayS = some pf_laws_toWayS := by kernel_rfl
@[simp] theorem modes_laws_toWayS : CC.modes fn_laws_toWayS = [.val] := by kernel_rfl
theorem prog_laws_toAck : CC.prog fn_laws_toAck = some pf_laws_toAck := by kernel_rfl
@[simp] theorem modes_laws_toAck : CC.modes fn_laws_toAck = [.val] := by kernel_rfl
theorem prog_laws_toAckS : CC.prog fn_laws_toAckS = some pf_laws_toAckS := by kernel_rfl
@[simp] theorem modes_laws_toAckS : CC.modes fn_laws_toAckS = [.val] := by kernel_rfl
theorem prog_laws_toGot : CC.prog fn_laws_toGot = some pf_laws_toGot := by kernel_rfl
@[simp] theorem modes_laws_toGot : CC.modes fn_laws_toGot = [.val] := by kernel_rfl
theorem prog_laws_toGotS : CC.prog fn_laws_toGotS = some pf_laws_toGotS := by kernel_rfl
@[simp] theorem modes_laws_toGotS : CC.modes fn_laws_toGotS = [.val] := by kernel_rfl
theorem prog_laws_toWait : CC.prog fn_laws_toWait = some pf_laws_toWait := by kernel_rfl
@[simp] theorem modes_laws_toWait : CC.modes fn_laws_toWait = [.val] := by kernel_rfl
theorem prog_laws_toWaitS : CC.prog fn_laws_toWaitS = some pf_laws_toWaitS := by kernel_rfl
@[simp] theorem modes_laws_toWaitS : CC.modes fn_laws_toWaitS = [.val] := by kernel_rfl
theorem prog_laws_toLine : CC.prog fn_laws_toLine = some pf_laws_toLine := by kernel_rfl
@[simp] theorem modes_laws_toLine : CC.modes fn_laws_toLine = [.val] := by kernel_rfl
theorem prog_laws_toLead : CC.prog fn_laws_toLead = some pf_laws_toLead := by kernel_rfl
@[simp] theorem modes_laws_toLead : CC.modes fn_laws_toLead = [.val] := by kernel_rfl
theorem prog_laws_toLeadS : CC.prog fn_laws_toLeadS = some pf_laws_toLeadS := by kernel_rfl
@[simp] theorem modes_laws_toLeadS : CC.modes fn_laws_toLeadS = [.val] := by kernel_rfl
theorem prog_laws_toOp : CC.prog fn_laws_toOp = some pf_laws_toOp := by kernel_rfl
@[simp] theorem modes_laws_toOp : CC.modes fn_laws_toOp = [.val] := by kernel_rfl
theorem prog_laws_toMsg : CC.prog fn_laws_toMsg = some pf_laws_toMsg := by kernel_rfl
@[simp] theorem modes_laws_toMsg : CC.modes fn_laws_toMsg = [.val] := by kernel_rfl
theorem prog_laws_toMsgS : CC.prog fn_laws_toMsgS = some pf_laws_toMsgS := by kernel_rfl
@[simp] theorem modes_laws_toMsgS : CC.modes fn_laws_toMsgS = [.val] := by kernel_rfl
theorem prog_laws_toServer : CC.prog fn_laws_toServer = some pf_laws_toServer := by kernel_rfl
@[simp] theorem modes_laws_toServer : CC.modes fn_laws_toServer = [.val] := by kernel_rfl
theorem prog_Eq_impl_Chunk : CC.prog fn_Eq_impl_Chunk = some pf_Eq_impl_Chunk := by kernel_rfl
@[simp] theorem modes_Eq_impl_Chunk : CC.modes fn_Eq_impl_Chunk = [.val, .val] := by kernel_rfl
theorem prog_Eq_impl_Head : CC.prog fn_Eq_impl_Head = some pf_Eq_impl_Head := by kernel_rfl
@[simp] theorem modes_Eq_impl_Head : CC.modes fn_Eq_impl_Head = [.val, .val] := by kernel_rfl
theorem prog_Eq_impl_Last : CC.prog fn_Eq_impl_Last = some pf_Eq_impl_Last := by kernel_rfl
@[simp] theorem modes_Eq_impl_Last : CC.modes fn_Eq_impl_Last = [.val, .val] := by kernel_rfl
theorem prog_Eq_impl_Entry : CC.prog fn_Eq_impl_Entry = some pf_Eq_impl_Entry := by kernel_rfl
@[simp] theorem modes_Eq_impl_Entry : CC.modes fn_Eq_impl_Entry = [.val, .val] := by kernel_rfl
theorem prog_impl_sameState : CC.prog fn_impl_sameState = some pf_impl_sameState := by kernel_rfl
@[simp] theorem modes_impl_sameState : CC.modes fn_impl_sameState = [.val, .val] := by kernel_rfl
theorem prog_EqF_impl_PgState : CC.prog fn_EqF_impl_PgState = some pf_EqF_impl_PgState := by kernel_rfl
@[simp] theorem modes_EqF_impl_PgState : CC.modes fn_EqF_impl_PgState = [.val, .val, .val] := by kernel_rfl
theorem prog_impl_sameStates : CC.prog fn_impl_sameStates = some pf_impl_sameStates := by kernel_rfl
@[simp] theorem modes_impl_sameStates : CC.modes fn_impl_sameStates = [.val, .val] := by kernel_rfl
theorem prog_impl_SameStore : CC.prog fn_impl_SameStore = some pf_impl_SameStore := by kernel_rfl
@[simp] theorem modes_impl_SameStore : CC.modes fn_impl_SameStore = [.val, .val] := by kernel_rfl
theorem prog_EqF_impl_Lead : CC.prog fn_EqF_impl_Lead = some pf_EqF_impl_Lead := by kernel_rfl
@[simp] theorem modes_EqF_impl_Lead : CC.modes fn_EqF_impl_Lead = [.val, .val, .val] := by kernel_rfl
theorem prog_Eq_int64 : CC.prog fn_Eq_int64 = some pf_Eq_int64 := by kernel_rfl
@[simp] theorem modes_Eq_int64 : CC.modes fn_Eq_int64 = [.val, .val] := by kernel_rfl
theorem prog_EqF_impl_Interval : CC.prog fn_EqF_impl_Interval = some pf_EqF_impl_Interval := by kernel_rfl
@[simp] theorem modes_EqF_impl_Interval : CC.modes fn_EqF_impl_Interval = [.val, .val, .val] := by kernel_rfl
theorem prog_impl_sameInterval : CC.prog fn_impl_sameInterval = some pf_impl_sameInterval := by kernel_rfl
@[simp] theorem modes_impl_sameInterval : CC.modes fn_impl_sameInterval = [.val, .val] := by kernel_rfl
theorem prog_EqF_impl_Notice : CC.prog fn_EqF_impl_Notice = some pf_EqF_impl_Notice := by kernel_rfl
@[simp] theorem modes_EqF_impl_Notice : CC.modes fn_EqF_impl_Notice = [.val, .val, .val] := by kernel_rfl
theorem prog_impl_sameNotice : CC.prog fn_impl_sameNotice = some pf_impl_sameNotice := by kernel_rfl
@[simp] theorem modes_impl_sameNotice : CC.modes fn_impl_sameNotice = [.val, .val] := by kernel_rfl
theorem prog_Eq_impl_Fill : CC.prog fn_Eq_impl_Fill = some pf_Eq_impl_Fill := by kernel_rfl
@[simp] theorem modes_Eq_impl_Fill : CC.modes fn_Eq_impl_Fill = [.val, .val] := by kernel_rfl
theorem prog_Eq_impl_Way : CC.prog fn_Eq_impl_Way = some pf_Eq_impl_Way := by kernel_rfl
@[simp] theorem modes_Eq_impl_Way : CC.modes fn_Eq_impl_Way = [.val, .val] := by kernel_rfl
theorem prog_Eq_impl_Ack : CC.prog fn_Eq_impl_Ack = some pf_Eq_impl_Ack := by kernel_rfl
@[simp] theorem modes_Eq_impl_Ack : CC.modes fn_Eq_impl_Ack = [.val, .val] := by kernel_rfl
theorem prog_EqF_impl_Wait : CC.prog fn_EqF_impl_Wait = some pf_EqF_impl_Wait := by kernel_rfl
@[simp] theorem modes_EqF_impl_Wait : CC.modes fn_EqF_impl_Wait = [.val, .val, .val] := by kernel_rfl
theorem prog_Eq_impl_Got : CC.prog fn_Eq_impl_Got = some pf_Eq_impl_Got := by kernel_rfl
@[simp] theorem modes_Eq_impl_Got : CC.modes fn_Eq_impl_Got = [.val, .val] := by kernel_rfl
theorem prog_impl_sameWait : CC.prog fn_impl_sameWait = some pf_impl_sameWait := by kernel_rfl
@[simp] theorem modes_impl_sameWait : CC.modes fn_impl_sameWait = [.val, .val] := by kernel_rfl
theorem prog_impl_SameLine : CC.prog fn_impl_SameLine = some pf_impl_SameLine := by kernel_rfl
@[simp] theorem modes_impl_SameLine : CC.modes fn_impl_SameLine = [.val, .val] := by kernel_rfl
theorem prog_impl_SameLead : CC.prog fn_impl_SameLead = some pf_impl_SameLead := by kernel_rfl
@[simp] theorem modes_impl_SameLead : CC.modes fn_impl_SameLead = [.val, .val] := by kernel_rfl
theorem prog_EqF_impl_Msg : CC.prog fn_EqF_impl_Msg = some pf_EqF_impl_Msg := by kernel_rfl
@[simp] theorem modes_EqF_impl_Msg : CC.modes fn_EqF_impl_Msg = [.val, .val, .val] := by kernel_rfl
theorem prog_impl_MsgSame : CC.prog fn_impl_MsgSame = some pf_impl_MsgSame := by kernel_rfl
@[simp] theorem modes_impl_MsgSame : CC.modes fn_impl_MsgSame = [.val, .val] := by kernel_rfl
theorem prog_impl_SameServer : CC.prog fn_impl_SameServer = some pf_impl_SameServer := by kernel_rfl
@[simp] theorem modes_impl_SameServer : CC.modes fn_impl_SameServer = [.val, .val] := by kernel_rfl
theorem prog_laws_eqPg : CC.prog fn_laws_eqPg = some pf_laws_eqPg := by kernel_rfl
@[simp] theorem modes_laws_eqPg : CC.modes fn_laws_eqPg = [.val, .val] := by kernel_rfl
theorem prog_laws_eqVer : CC.prog fn_laws_eqVer = some pf_laws_eqVer := by kernel_rfl
@[simp] theorem modes_laws_eqVer : CC.modes fn_laws_eqVer = [.val, .val] := by kernel_rfl
theorem prog_laws_eqChunk : CC.prog fn_laws_eqChunk = some pf_laws_eqChunk := by kernel_rfl
@[simp] theorem modes_laws_eqChunk : CC.modes fn_laws_eqChunk = [.val, .val] := by kernel_rfl
theorem prog_laws_eqChunkS : CC.prog fn_laws_eqChunkS = some pf_laws_eqChunkS := by kernel_rfl
@[simp] theorem modes_laws_eqChunkS : CC.modes fn_laws_eqChunkS = [.val, .val] := by kernel_rfl
theorem prog_laws_eqHead : CC.prog fn_laws_eqHead = some pf_laws_eqHead := by kernel_rfl
@[simp] theorem modes_laws_eqHead : CC.modes fn_laws_eqHead = [.val, .val] := by kernel_rfl
theorem prog_laws_eqHeadS : CC.prog fn_laws_eqHeadS = some pf_laws_eqHeadS := by kernel_rfl
@[simp] theorem modes_laws_eqHeadS : CC.modes fn_laws_eqHeadS = [.val, .val] := by kernel_rfl
theorem prog_laws_eqLast : CC.prog fn_laws_eqLast = some pf_laws_eqLast := by kernel_rfl
@[simp] theorem modes_laws_eqLast : CC.modes fn_laws_eqLast = [.val, .val] := by kernel_rfl
theorem prog_laws_eqLastS : CC.prog fn_laws_eqLastS = some pf_laws_eqLastS := by kernel_rfl
@[simp] theorem modes_laws_eqLastS : CC.modes fn_laws_eqLastS = [.val, .val] := by kernel_rfl
theorem prog_laws_eqReq : CC.prog fn_laws_eqReq = some pf_laws_eqReq := by kernel_rfl
@[simp] theorem modes_laws_eqReq : CC.modes fn_laws_eqReq = [.val, .val] := by kernel_rfl
theorem prog_laws_eqEntry : CC.prog fn_laws_eqEntry = some pf_laws_eqEntry := by kernel_rfl
@[simp] theorem modes_laws_eqEntry : CC.modes fn_laws_eqEntry = [.val, .val] := by kernel_rfl
theorem prog_laws_eqEntryS : CC.prog fn_laws_eqEntryS = some pf_laws_eqEntryS := by kernel_rfl
@[simp] theorem modes_laws_eqEntryS : CC.modes fn_laws_eqEntryS = [.val, .val] := by kernel_rfl
theorem prog_laws_eqPgState : CC.prog fn_laws_eqPgState = some pf_laws_eqPgState := by kernel_rfl
@[simp] theorem modes_laws_eqPgState : CC.modes fn_laws_eqPgState = [.val, .val] := by kernel_rfl
theorem prog_laws_eqPgStateS : CC.prog fn_laws_eqPgStateS = some pf_laws_eqPgStateS := by kernel_rfl
@[simp] theorem modes_laws_eqPgStateS : CC.modes fn_laws_eqPgStateS = [.val, .val] := by kernel_rfl
theorem prog_laws_eqStore : CC.prog fn_laws_eqStore = some pf_laws_eqStore := by kernel_rfl
@[simp] theorem modes_laws_eqStore : CC.modes fn_laws_eqStore = [.val, .val] := by kernel_rfl
theorem prog_laws_eqInt64S : CC.prog fn_laws_eqInt64S = some pf_laws_eqInt64S := by kernel_rfl
@[simp] theorem modes_laws_eqInt64S : CC.modes fn_laws_eqInt64S = [.val, .val] := by kernel_rfl
theorem prog_laws_eqCode : CC.prog fn_laws_eqCode = some pf_laws_eqCode := by kernel_rfl
@[simp] theorem modes_laws_eqCode : CC.modes fn_laws_eqCode = [.val, .val] := by kernel_rfl
theorem prog_laws_eqInterval : CC.prog fn_laws_eqInterval = some pf_laws_eqInterval := by kernel_rfl
@[simp] theorem modes_laws_eqInterval : CC.modes fn_laws_eqInterval = [.val, .val] := by kernel_rfl
theorem prog_laws_eqIntervalS : CC.prog fn_laws_eqIntervalS = some pf_laws_eqIntervalS := by kernel_rfl
@[simp] theorem modes_laws_eqIntervalS : CC.modes fn_laws_eqIntervalS = [.val, .val] := by kernel_rfl
theorem prog_laws_eqNotice : CC.prog fn_laws_eqNotice = some pf_laws_eqNotice := by kernel_rfl
@[simp] theorem modes_laws_eqNotice : CC.modes fn_laws_eqNotice = [.val, .val] := by kernel_rfl
theorem prog_laws_eqNoticeS : CC.prog fn_laws_eqNoticeS = some pf_laws_eqNoticeS := by kernel_rfl
@[simp] theorem modes_laws_eqNoticeS : CC.modes fn_laws_eqNoticeS = [.val, .val] := by kernel_rfl
theorem prog_laws_eqFill : CC.prog fn_laws_eqFill = some pf_laws_eqFill := by kernel_rfl
@[simp] theorem modes_laws_eqFill : CC.modes fn_laws_eqFill = [.val, .val] := by kernel_rfl
theorem prog_laws_eqFillS : CC.prog fn_laws_eqFillS = some pf_laws_eqFillS := by kernel_rfl
@[simp] theorem modes_laws_eqFillS : CC.modes fn_laws_eqFillS = [.val, .val] := by kernel_rfl
theorem prog_laws_eqWay : CC.prog fn_laws_eqWay = some pf_laws_eqWay := by kernel_rfl
@[simp] theorem modes_laws_eqWay : CC.modes fn_laws_eqWay = [.val, .val] := by kernel_rfl
theorem prog_laws_eqWayS : CC.prog fn_laws_eqWayS = some pf_laws_eqWayS := by kernel_rfl
@[simp] theorem modes_laws_eqWayS : CC.modes fn_laws_eqWayS = [.val, .val] := by kernel_rfl
theorem prog_laws_eqAck : CC.prog fn_laws_eqAck = some pf_laws_eqAck := by kernel_rfl
@[simp] theorem modes_laws_eqAck : CC.modes fn_laws_eqAck = [.val, .val] := by kernel_rfl
theorem prog_laws_eqAckS : CC.prog fn_laws_eqAckS = some pf_laws_eqAckS := by kernel_rfl
@[simp] theorem modes_laws_eqAckS : CC.modes fn_laws_eqAckS = [.val, .val] := by kernel_rfl
theorem prog_laws_eqGot : CC.prog fn_laws_eqGot = some pf_laws_eqGot := by kernel_rfl
@[simp] theorem modes_laws_eqGot : CC.modes fn_laws_eqGot = [.val, .val] := by kernel_rfl
theorem prog_laws_eqGotS : CC.prog fn_laws_eqGotS = some pf_laws_eqGotS := by kernel_rfl
@[simp] theorem modes_laws_eqGotS : CC.modes fn_laws_eqGotS = [.val, .val] := by kernel_rfl
theorem prog_laws_eqWait : CC.prog fn_laws_eqWait = some pf_laws_eqWait := by kernel_rfl
@[simp] theorem modes_laws_eqWait : CC.modes fn_laws_eqWait = [.val, .val] := by kernel_rfl
theorem prog_laws_eqWaitS : CC.prog fn_laws_eqWaitS = some pf_laws_eqWaitS := by kernel_rfl
@[simp] theorem modes_laws_eqWaitS : CC.modes fn_laws_eqWaitS = [.val, .val] := by kernel_rfl
theorem prog_laws_eqLine : CC.prog fn_laws_eqLine = some pf_laws_eqLine := by kernel_rfl
@[simp] theorem modes_laws_eqLine : CC.modes fn_laws_eqLine = [.val, .val] := by kernel_rfl
theorem prog_laws_eqLead : CC.prog fn_laws_eqLead = some pf_laws_eqLead := by kernel_rfl
@[simp] theorem modes_laws_eqLead : CC.modes fn_laws_eqLead = [.val, .val] := by kernel_rfl
theorem prog_laws_eqLeadS : CC.prog fn_laws_eqLeadS = some pf_laws_eqLeadS := by kernel_rfl
@[simp] theorem modes_laws_eqLeadS : CC.modes fn_laws_eqLeadS = [.val, .val] := by kernel_rfl
theorem prog_laws_eqOp : CC.prog fn_laws_eqOp = some pf_laws_eqOp := by kernel_rfl
@[simp] theorem modes_laws_eqOp : CC.modes fn_laws_eqOp = [.val, .val] := by kernel_rfl
theorem prog_laws_eqMsg : CC.prog fn_laws_eqMsg = some pf_laws_eqMsg := by kernel_rfl
@[simp] theorem modes_laws_eqMsg : CC.modes fn_laws_eqMsg = [.val, .val] := by kernel_rfl
theorem prog_laws_eqMsgS : CC.prog fn_laws_eqMsgS = some pf_laws_eqMsgS := by kernel_rfl
@[simp] theorem modes_laws_eqMsgS : CC.modes fn_laws_eqMsgS = [.val, .val] := by kernel_rfl
theorem prog_laws_eqServer : CC.prog fn_laws_eqServer = some pf_laws_eqServer := by kernel_rfl
@[simp] theorem modes_laws_eqServer : CC.modes fn_laws_eqServer = [.val, .val] := by kernel_rfl
theorem prog_laws_FnExactSameServer : CC.prog fn_laws_FnExactSameServer = some pf_laws_FnExactSameServer := by kernel_rfl
@[simp] theorem modes_laws_FnExactSameServer : CC.modes fn_laws_FnExactSameServer = [.val, .val] := by kernel_rfl
theorem fits : Fits Tryz.prog CC := fits_of (by kernel_rfl) (by kernel_rfl)
end Go.Proofs.YtjbomlnpngnjfaaGreat.Pv
