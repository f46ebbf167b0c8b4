/- Plain forms of Go functions, printed by a program of this repo; checked against the given program by the kernel. No condition. -/
import Derived.Test.YtjifplkdfebilaaV42
import Derived.Test.YtjifplkdfebilaaProg
import Derived.KernelRfl
namespace Go.Proofs.Ytjifplkdfebilaa.Pv
open Go

abbrev fn_laws_eqPg : FuncId := 36
abbrev fn_laws_eqPgS : FuncId := 10
abbrev fn_laws_markPgS : FuncId := 11
abbrev fn_laws_heldPgS : FuncId := 12
abbrev fn_laws_szDeviceS : FuncId := 96
abbrev fn_laws_szInt64S : FuncId := 49
abbrev fn_laws_szBucket : FuncId := 150
abbrev fn_laws_szBucketS : FuncId := 97
abbrev fn_laws_szTree : FuncId := 46
abbrev fn_laws_szRuleS : FuncId := 47
abbrev fn_laws_szPoolS : FuncId := 48
abbrev fn_laws_szMap : FuncId := 21
abbrev fn_spec_l00In : FuncId := 88
abbrev fn_spec_l06Devices : FuncId := 189
abbrev fn_spec_l06Buckets : FuncId := 190
abbrev fn_spec_l00Has : FuncId := 207
abbrev fn_spec_l06Once : FuncId := 191
abbrev fn_spec_l06Device : FuncId := 208
abbrev fn_spec_l06Bucket : FuncId := 209
abbrev fn_spec_l06Kind : FuncId := 193
abbrev fn_spec_l06Fits : FuncId := 192
abbrev fn_spec_l06OK : FuncId := 151
abbrev fn_spec_TreeOk : FuncId := 98
abbrev fn_spec_l08OK : FuncId := 152
abbrev fn_spec_RuleOk : FuncId := 99
abbrev fn_spec_l04Code : FuncId := 89
abbrev fn_spec_l09OK : FuncId := 32
abbrev fn_spec_PoolOk : FuncId := 100
abbrev fn_spec_l11Rule : FuncId := 101
abbrev fn_spec_l11Device : FuncId := 153
abbrev fn_spec_l11Nodes : FuncId := 102
abbrev fn_spec_l11Ok : FuncId := 50
abbrev fn_spec_l11Pgs : FuncId := 51
abbrev fn_spec_PgsOf : FuncId := 22
abbrev fn_laws_toDevice : FuncId := 154
abbrev fn_laws_toDeviceS : FuncId := 103
abbrev fn_laws_toInt64S : FuncId := 55
abbrev fn_laws_toBucket : FuncId := 155
abbrev fn_laws_toBucketS : FuncId := 104
abbrev fn_laws_toTree : FuncId := 52
abbrev fn_laws_toRule : FuncId := 105
abbrev fn_laws_toRuleS : FuncId := 53
abbrev fn_laws_toCode : FuncId := 34
abbrev fn_laws_toPool : FuncId := 8
abbrev fn_laws_toPoolS : FuncId := 54
abbrev fn_laws_toMap : FuncId := 23
abbrev fn_impl_between : FuncId := 43
abbrev fn_impl_isNode : FuncId := 194
abbrev fn_impl_Tree_devicesOk : FuncId := 156
abbrev fn_slices_IndexFunc_impl_Device_impl_Device : FuncId := 199
abbrev fn_impl_Tree_device_1 : FuncId := 200
abbrev fn_impl_Tree_device : FuncId := 163
abbrev fn_slices_IndexFunc_impl_Bucket_impl_Bucket : FuncId := 213
abbrev fn_impl_Tree_bucket_1 : FuncId := 214
abbrev fn_impl_Tree_bucket : FuncId := 210
abbrev fn_impl_Tree_kindOf : FuncId := 195
abbrev fn_impl_Tree_itemsOk : FuncId := 157
abbrev fn_impl_TreeOk : FuncId := 106
abbrev fn_impl_ruleOk : FuncId := 158
abbrev fn_impl_Map_rulesOk : FuncId := 107
abbrev fn_impl_CodeOk : FuncId := 44
abbrev fn_impl_Code_size : FuncId := 45
abbrev fn_impl_PoolOk : FuncId := 19
abbrev fn_slices_IndexFunc_impl_Rule_impl_Rule : FuncId := 196
abbrev fn_impl_Map_rule_1 : FuncId := 197
abbrev fn_impl_Map_rule : FuncId := 159
abbrev fn_impl_Map_poolsOk : FuncId := 108
abbrev fn_impl_increasing : FuncId := 160
abbrev fn_slices_IndexFunc_int64_int64 : FuncId := 198
abbrev fn_slices_ContainsFunc_int64_int64 : FuncId := 161
abbrev fn_impl_Tree_areDevices_1 : FuncId := 162
abbrev fn_impl_Tree_areDevices : FuncId := 109
abbrev fn_impl_MapOk : FuncId := 56
abbrev fn_impl_Pool_pgs : FuncId := 35
abbrev fn_impl_Map_pgs : FuncId := 57
abbrev fn_impl_PgsOf : FuncId := 24
abbrev fn_laws_eqDevice : FuncId := 164
abbrev fn_laws_eqDeviceS : FuncId := 110
abbrev fn_laws_eqInt64S : FuncId := 61
abbrev fn_laws_eqBucket : FuncId := 165
abbrev fn_laws_eqBucketS : FuncId := 111
abbrev fn_laws_eqTree : FuncId := 58
abbrev fn_laws_eqRule : FuncId := 112
abbrev fn_laws_eqRuleS : FuncId := 59
abbrev fn_laws_eqCode : FuncId := 166
abbrev fn_laws_eqPool : FuncId := 113
abbrev fn_laws_eqPoolS : FuncId := 60
abbrev fn_laws_eqMap : FuncId := 25
abbrev fn_laws_markDeviceS : FuncId := 114
abbrev fn_laws_markInt64S : FuncId := 65
abbrev fn_laws_markBucketS : FuncId := 115
abbrev fn_laws_markTree : FuncId := 62
abbrev fn_laws_markRuleS : FuncId := 63
abbrev fn_laws_markPoolS : FuncId := 64
abbrev fn_laws_markMap : FuncId := 26
abbrev fn_laws_FnExactPgsOf : FuncId := 5
abbrev ty_int64 : TypeId := 2
abbrev ty_laws_Pool : TypeId := 25
abbrev ty_impl_Pool : TypeId := 31
abbrev ty_impl_Rule : TypeId := 44
abbrev ty_impl_Pg : TypeId := 48
abbrev ty_impl_Bucket : TypeId := 152
abbrev ty_impl_Device : TypeId := 155
abbrev ty_laws_Rule : TypeId := 167
abbrev ty_laws_Bucket : TypeId := 200
abbrev ty_laws_Device : TypeId := 203
/-- loop.example/g00849/laws.eqPg -/
def pf_laws_eqPg : PF := ⟨[.val, .val], [0, 1, 2, 3], (.seq (.reg [⟨some 2, .box (.t 0) 2, none, 0⟩,
  ⟨some 3, .box (.t 1) 2, none, 0⟩,
  ⟨some 4, .mov (.k (.bool false)), none, 0⟩]) (.seq (.seq (.reg [⟨some 5, .flda 0 (.t 2), none, 0⟩,
  ⟨some 6, .load 1 false (.t 5), none, 0⟩,
  ⟨some 7, .flda 0 (.t 3), none, 0⟩,
  ⟨some 8, .load 1 false (.t 7), none, 0⟩,
  ⟨some 9, .bin .neq 0 (.t 6) (.t 8), none, 0⟩]) (.cond (.t 9) (.seq (.reg [⟨some 4, .mov (.k (.bool false)), none, 0⟩]) .ret) .skip)) (.seq (.seq (.reg [⟨some 10, .flda 1 (.t 2), none, 0⟩,
  ⟨some 11, .load 1 false (.t 10), none, 0⟩,
  ⟨some 12, .flda 1 (.t 3), none, 0⟩,
  ⟨some 13, .load 1 false (.t 12), none, 0⟩,
  ⟨some 14, .bin .neq 0 (.t 11) (.t 13), none, 0⟩]) (.cond (.t 14) (.seq (.reg [⟨some 4, .mov (.k (.bool false)), none, 0⟩]) .ret) .skip)) (.seq (.reg [⟨some 4, .mov (.k (.bool true)), none, 0⟩]) .ret)))),
  [(4, none)]⟩
/-- loop.example/g00849/laws.eqPgS -/
def pf_laws_eqPgS_lb0 : PC := (.seq (.seq (.reg [⟨some 11, .mov (.t 5), none, 0⟩,
  ⟨some 12, .mov (.t 0), none, 0⟩,
  ⟨some 13, .len true (.t 12), none, 0⟩,
  ⟨some 14, .bin .lss 0 (.t 11) (.t 13), none, 0⟩]) (.cond (.t 14) .skip (.exit 0))) (.seq (.block 1 (.seq (.any [(0, []), (1, [0]), (2, []), (3, []), (4, [0, 1, 2, 3]), (5, [0, 1, 2, 3, 4]), (6, [0, 1, 2, 3]), (7, [0, 1, 2, 3]), (8, []), (9, [])] [⟨some 17, .mov (.t 0), none, 0⟩,
  ⟨some 18, .mov (.t 5), none, 0⟩,
  ⟨some 19, .idxa ty_impl_Pg (.t 17) (.t 18), none, 0⟩,
  ⟨some 20, .load 2 true (.t 19), none, 0⟩,
  ⟨some 21, .mov (.t 1), none, 0⟩,
  ⟨some 22, .mov (.t 5), none, 0⟩,
  ⟨some 23, .idxa ty_impl_Pg (.t 21) (.t 22), none, 0⟩,
  ⟨some 24, .load 2 true (.t 23), none, 0⟩,
  ⟨some 25, .call fn_laws_eqPg [.t 20, .t 24], none, 0⟩,
  ⟨some 26, .un .not (.t 25), none, 0⟩]) (.cond (.t 26) (.seq (.reg [⟨some 4, .mov (.k (.bool false)), none, 0⟩]) .ret) .skip))) (.reg [⟨some 15, .mov (.t 5), none, 0⟩,
  ⟨some 16, .bin .add 0 (.t 15) (.k (.int .i64 1)), none, 0⟩,
  ⟨some 5, .mov (.t 16), none, 0⟩])))
def pf_laws_eqPgS_l0 : PC := .loop [] pf_laws_eqPgS_lb0
theorem ex_laws_eqPgS_l0 {C : Code} {V : List Nat} (s : St) : EX C V pf_laws_eqPgS_l0 s = EXK C V pf_laws_eqPgS_l0 (EX C V pf_laws_eqPgS_lb0 (forget [] s)) := EX_loop _ _ _
def pf_laws_eqPgS : PF := ⟨[.val, .val], [0, 1, 5], (.seq (.reg [⟨some 4, .mov (.k (.bool false)), none, 0⟩]) (.seq (.seq (.reg [⟨some 6, .mov (.t 0), none, 0⟩,
  ⟨some 7, .len true (.t 6), none, 0⟩,
  ⟨some 8, .mov (.t 1), none, 0⟩,
  ⟨some 9, .len true (.t 8), none, 0⟩,
  ⟨some 10, .bin .neq 0 (.t 7) (.t 9), none, 0⟩]) (.cond (.t 10) (.seq (.reg [⟨some 4, .mov (.k (.bool false)), none, 0⟩]) .ret) .skip)) (.seq (.seq (.reg [⟨some 5, .mov (.k (.int .i64 0)), none, 0⟩]) (.block 0 pf_laws_eqPgS_l0)) (.seq (.reg [⟨some 4, .mov (.k (.bool true)), none, 0⟩]) .ret)))),
  [(4, none)]⟩
/-- loop.example/g00849/laws.markPgS -/
def pf_laws_markPgS_lb0 : PC := (.seq (.seq (.reg [⟨some 6, .mov (.t 5), none, 0⟩,
  ⟨some 7, .mov (.t 0), none, 0⟩,
  ⟨some 8, .len true (.t 7), none, 0⟩,
  ⟨some 9, .bin .lss 0 (.t 6) (.t 8), none, 0⟩]) (.cond (.t 9) .skip (.exit 0))) (.seq (.block 1 (.seq (.reg [⟨some 12, .mov (.t 0), none, 0⟩,
  ⟨some 13, .mov (.t 5), none, 0⟩,
  ⟨some 14, .mov (.t 1), none, 0⟩,
  ⟨some 15, .idxa ty_impl_Pg (.t 12) (.t 13), none, 0⟩,
  ⟨some 16, .flda 0 (.t 15), none, 0⟩,
  ⟨none, .store 1 (.t 16) (.t 14), none, 0⟩]) (.seq (.reg [⟨some 17, .mov (.t 1), none, 0⟩,
  ⟨some 18, .bin .add 0 (.t 17) (.k (.int .i64 1)), none, 0⟩,
  ⟨some 1, .mov (.t 18), none, 0⟩]) (.seq (.reg [⟨some 19, .mov (.t 0), none, 0⟩,
  ⟨some 20, .mov (.t 5), none, 0⟩,
  ⟨some 21, .mov (.t 1), none, 0⟩,
  ⟨some 22, .idxa ty_impl_Pg (.t 19) (.t 20), none, 0⟩,
  ⟨some 23, .flda 1 (.t 22), none, 0⟩,
  ⟨none, .store 1 (.t 23) (.t 21), none, 0⟩]) (.reg [⟨some 24, .mov (.t 1), none, 0⟩,
  ⟨some 25, .bin .add 0 (.t 24) (.k (.int .i64 1)), none, 0⟩,
  ⟨some 1, .mov (.t 25), none, 0⟩]))))) (.reg [⟨some 10, .mov (.t 5), none, 0⟩,
  ⟨some 11, .bin .add 0 (.t 10) (.k (.int .i64 1)), none, 0⟩,
  ⟨some 5, .mov (.t 11), none, 0⟩])))
def pf_laws_markPgS_l0 : PC := .loop [] pf_laws_markPgS_lb0
theorem ex_laws_markPgS_l0 {C : Code} {V : List Nat} (s : St) : EX C V pf_laws_markPgS_l0 s = EXK C V pf_laws_markPgS_l0 (EX C V pf_laws_markPgS_lb0 (forget [] s)) := EX_loop _ _ _
def pf_laws_markPgS : PF := ⟨[.row, .val], [0, 1, 5], (.seq (.reg [⟨some 4, .mov (.k (.int .i64 0)), none, 0⟩]) (.seq (.seq (.reg [⟨some 5, .mov (.k (.int .i64 0)), none, 0⟩]) (.block 0 pf_laws_markPgS_l0)) (.seq (.reg [⟨some 26, .mov (.t 1), none, 0⟩,
  ⟨some 4, .mov (.t 26), none, 0⟩]) .ret))),
  [(4, none)]⟩
/-- loop.example/g00849/laws.heldPgS -/
def pf_laws_heldPgS_lb0 : PC := (.seq (.seq (.reg [⟨some 6, .mov (.t 5), none, 0⟩,
  ⟨some 7, .mov (.t 0), none, 0⟩,
  ⟨some 8, .len true (.t 7), none, 0⟩,
  ⟨some 9, .bin .lss 0 (.t 6) (.t 8), none, 0⟩]) (.cond (.t 9) .skip (.exit 0))) (.seq (.block 1 (.seq (.seq (.reg [⟨some 12, .mov (.t 0), none, 0⟩,
  ⟨some 13, .mov (.t 5), none, 0⟩,
  ⟨some 14, .idxa ty_impl_Pg (.t 12) (.t 13), none, 0⟩,
  ⟨some 15, .flda 0 (.t 14), none, 0⟩,
  ⟨some 16, .load 1 false (.t 15), none, 0⟩,
  ⟨some 17, .mov (.t 1), none, 0⟩,
  ⟨some 18, .bin .neq 0 (.t 16) (.t 17), none, 0⟩]) (.cond (.t 18) (.seq (.reg [⟨some 4, .mov (.k (.int .i64 (-1))), none, 0⟩]) .ret) .skip)) (.seq (.reg [⟨some 19, .mov (.t 1), none, 0⟩,
  ⟨some 20, .bin .add 0 (.t 19) (.k (.int .i64 1)), none, 0⟩,
  ⟨some 1, .mov (.t 20), none, 0⟩]) (.seq (.seq (.reg [⟨some 21, .mov (.t 0), none, 0⟩,
  ⟨some 22, .mov (.t 5), none, 0⟩,
  ⟨some 23, .idxa ty_impl_Pg (.t 21) (.t 22), none, 0⟩,
  ⟨some 24, .flda 1 (.t 23), none, 0⟩,
  ⟨some 25, .load 1 false (.t 24), none, 0⟩,
  ⟨some 26, .mov (.t 1), none, 0⟩,
  ⟨some 27, .bin .neq 0 (.t 25) (.t 26), none, 0⟩]) (.cond (.t 27) (.seq (.reg [⟨some 4, .mov (.k (.int .i64 (-1))), none, 0⟩]) .ret) .skip)) (.reg [⟨some 28, .mov (.t 1), none, 0⟩,
  ⟨some 29, .bin .add 0 (.t 28) (.k (.int .i64 1)), none, 0⟩,
  ⟨some 1, .mov (.t 29), none, 0⟩]))))) (.reg [⟨some 10, .mov (.t 5), none, 0⟩,
  ⟨some 11, .bin .add 0 (.t 10) (.k (.int .i64 1)), none, 0⟩,
  ⟨some 5, .mov (.t 11), none, 0⟩])))
def pf_laws_heldPgS_l0 : PC := .loop [] pf_laws_heldPgS_lb0
theorem ex_laws_heldPgS_l0 {C : Code} {V : List Nat} (s : St) : EX C V pf_laws_heldPgS_l0 s = EXK C V pf_laws_heldPgS_l0 (EX C V pf_laws_heldPgS_lb0 (forget [] s)) := EX_loop _ _ _
def pf_laws_heldPgS : PF := ⟨[.val, .val], [0, 1, 5], (.seq (.reg [⟨some 4, .mov (.k (.int .i64 0)), none, 0⟩]) (.seq (.seq (.reg [⟨some 5, .mov (.k (.int .i64 0)), none, 0⟩]) (.block 0 pf_laws_heldPgS_l0)) (.seq (.reg [⟨some 30, .mov (.t 1), none, 0⟩,
  ⟨some 4, .mov (.t 30), none, 0⟩]) .ret))),
  [(4, none)]⟩
/-- loop.example/g00849/laws.szDeviceS -/
def pf_laws_szDeviceS : PF := ⟨[.val, .val], [0, 1], (.seq (.reg [⟨some 4, .mov (.k (.int .i64 0)), none, 0⟩]) (.seq (.reg [⟨some 5, .mov (.t 1), none, 0⟩,
  ⟨some 6, .mov (.t 0), none, 0⟩,
  ⟨some 7, .len true (.t 6), none, 0⟩,
  ⟨some 8, .bin .sub 0 (.t 5) (.t 7), none, 0⟩,
  ⟨some 1, .mov (.t 8), none, 0⟩]) (.seq (.seq (.reg [⟨some 9, .mov (.t 1), none, 0⟩,
  ⟨some 10, .bin .lss 0 (.t 9) (.k (.int .i64 0)), none, 0⟩]) (.cond (.t 10) (.seq (.reg [⟨some 4, .mov (.k (.int .i64 (-1))), none, 0⟩]) .ret) .skip)) (.seq (.reg [⟨some 11, .mov (.t 1), none, 0⟩,
  ⟨some 4, .mov (.t 11), none, 0⟩]) .ret)))),
  [(4, none)]⟩
/-- loop.example/g00849/laws.szInt64S -/
def pf_laws_szInt64S : PF := ⟨[.val, .val], [0, 1], (.seq (.reg [⟨some 4, .mov (.k (.int .i64 0)), none, 0⟩]) (.seq (.reg [⟨some 5, .mov (.t 1), none, 0⟩,
  ⟨some 6, .mov (.t 0), none, 0⟩,
  ⟨some 7, .len true (.t 6), none, 0⟩,
  ⟨some 8, .bin .sub 0 (.t 5) (.t 7), none, 0⟩,
  ⟨some 1, .mov (.t 8), none, 0⟩]) (.seq (.seq (.reg [⟨some 9, .mov (.t 1), none, 0⟩,
  ⟨some 10, .bin .lss 0 (.t 9) (.k (.int .i64 0)), none, 0⟩]) (.cond (.t 10) (.seq (.reg [⟨some 4, .mov (.k (.int .i64 (-1))), none, 0⟩]) .ret) .skip)) (.seq (.reg [⟨some 11, .mov (.t 1), none, 0⟩,
  ⟨some 4, .mov (.t 11), none, 0⟩]) .ret)))),
  [(4, none)]⟩
/-- loop.example/g00849/laws.szBucket -/
def pf_laws_szBucket : PF := ⟨[.val, .val], [0, 1], (.seq (.reg [⟨some 2, .box (.t 0) 3, none, 0⟩,
  ⟨some 4, .mov (.k (.int .i64 0)), none, 0⟩]) (.seq (.reg [⟨some 5, .flda 2 (.t 2), none, 0⟩,
  ⟨some 6, .load 1 false (.t 5), none, 0⟩,
  ⟨some 7, .mov (.t 1), none, 0⟩,
  ⟨some 8, .call fn_laws_szInt64S [.t 6, .t 7], none, 0⟩,
  ⟨some 1, .mov (.t 8), none, 0⟩]) (.seq (.seq (.reg [⟨some 9, .mov (.t 1), none, 0⟩,
  ⟨some 10, .bin .lss 0 (.t 9) (.k (.int .i64 0)), none, 0⟩]) (.cond (.t 10) (.seq (.reg [⟨some 4, .mov (.k (.int .i64 (-1))), none, 0⟩]) .ret) .skip)) (.seq (.reg [⟨some 11, .mov (.t 1), none, 0⟩,
  ⟨some 4, .mov (.t 11), none, 0⟩]) .ret)))),
  [(4, none)]⟩
/-- loop.example/g00849/laws.szBucketS -/
def pf_laws_szBucketS_lb0 : PC := (.seq (.seq (.reg [⟨some 12, .mov (.t 5), none, 0⟩,
  ⟨some 13, .mov (.t 0), none, 0⟩,
  ⟨some 14, .len true (.t 13), none, 0⟩,
  ⟨some 15, .bin .lss 0 (.t 12) (.t 14), none, 0⟩]) (.cond (.t 15) .skip (.exit 0))) (.seq (.block 1 (.seq (.reg [⟨some 18, .mov (.t 0), none, 0⟩,
  ⟨some 19, .mov (.t 5), none, 0⟩,
  ⟨some 20, .idxa ty_laws_Bucket (.t 18) (.t 19), none, 0⟩,
  ⟨some 21, .load 3 true (.t 20), none, 0⟩,
  ⟨some 22, .mov (.t 1), none, 0⟩,
  ⟨some 23, .call fn_laws_szBucket [.t 21, .t 22], none, 0⟩,
  ⟨some 1, .mov (.t 23), none, 0⟩]) (.seq (.reg [⟨some 24, .mov (.t 1), none, 0⟩,
  ⟨some 25, .bin .lss 0 (.t 24) (.k (.int .i64 0)), none, 0⟩]) (.cond (.t 25) (.seq (.reg [⟨some 4, .mov (.k (.int .i64 (-1))), none, 0⟩]) .ret) .skip)))) (.reg [⟨some 16, .mov (.t 5), none, 0⟩,
  ⟨some 17, .bin .add 0 (.t 16) (.k (.int .i64 1)), none, 0⟩,
  ⟨some 5, .mov (.t 17), none, 0⟩])))
def pf_laws_szBucketS_l0 : PC := .loop [] pf_laws_szBucketS_lb0
theorem ex_laws_szBucketS_l0 {C : Code} {V : List Nat} (s : St) : EX C V pf_laws_szBucketS_l0 s = EXK C V pf_laws_szBucketS_l0 (EX C V pf_laws_szBucketS_lb0 (forget [] s)) := EX_loop _ _ _
def pf_laws_szBucketS : PF := ⟨[.val, .val], [0, 1, 5], (.seq (.reg [⟨some 4, .mov (.k (.int .i64 0)), none, 0⟩]) (.seq (.reg [⟨some 6, .mov (.t 1), none, 0⟩,
  ⟨some 7, .mov (.t 0), none, 0⟩,
  ⟨some 8, .len true (.t 7), none, 0⟩,
  ⟨some 9, .bin .sub 0 (.t 6) (.t 8), none, 0⟩,
  ⟨some 1, .mov (.t 9), none, 0⟩]) (.seq (.seq (.reg [⟨some 10, .mov (.t 1), none, 0⟩,
  ⟨some 11, .bin .lss 0 (.t 10) (.k (.int .i64 0)), none, 0⟩]) (.cond (.t 11) (.seq (.reg [⟨some 4, .mov (.k (.int .i64 (-1))), none, 0⟩]) .ret) .skip)) (.seq (.seq (.reg [⟨some 5, .mov (.k (.int .i64 0)), none, 0⟩]) (.block 0 pf_laws_szBucketS_l0)) (.seq (.reg [⟨some 26, .mov (.t 1), none, 0⟩,
  ⟨some 4, .mov (.t 26), none, 0⟩]) .ret))))),
  [(4, none)]⟩
/-- loop.example/g00849/laws.szTree -/
def pf_laws_szTree : PF := ⟨[.val, .val], [0, 1, 2], (.seq (.reg [⟨some 2, .box (.t 0) 2, none, 0⟩,
  ⟨some 4, .mov (.k (.int .i64 0)), none, 0⟩]) (.seq (.reg [⟨some 5, .flda 0 (.t 2), none, 0⟩,
  ⟨some 6, .load 1 false (.t 5), none, 0⟩,
  ⟨some 7, .mov (.t 1), none, 0⟩,
  ⟨some 8, .call fn_laws_szDeviceS [.t 6, .t 7], none, 0⟩,
  ⟨some 1, .mov (.t 8), none, 0⟩]) (.seq (.seq (.reg [⟨some 9, .mov (.t 1), none, 0⟩,
  ⟨some 10, .bin .lss 0 (.t 9) (.k (.int .i64 0)), none, 0⟩]) (.cond (.t 10) (.seq (.reg [⟨some 4, .mov (.k (.int .i64 (-1))), none, 0⟩]) .ret) .skip)) (.seq (.reg [⟨some 11, .flda 1 (.t 2), none, 0⟩,
  ⟨some 12, .load 1 false (.t 11), none, 0⟩,
  ⟨some 13, .mov (.t 1), none, 0⟩,
  ⟨some 14, .call fn_laws_szBucketS [.t 12, .t 13], none, 0⟩,
  ⟨some 1, .mov (.t 14), none, 0⟩]) (.seq (.seq (.reg [⟨some 15, .mov (.t 1), none, 0⟩,
  ⟨some 16, .bin .lss 0 (.t 15) (.k (.int .i64 0)), none, 0⟩]) (.cond (.t 16) (.seq (.reg [⟨some 4, .mov (.k (.int .i64 (-1))), none, 0⟩]) .ret) .skip)) (.seq (.reg [⟨some 17, .mov (.t 1), none, 0⟩,
  ⟨some 4, .mov (.t 17), none, 0⟩]) .ret)))))),
  [(4, none)]⟩
/-- loop.example/g00849/laws.szRuleS -/
def pf_laws_szRuleS : PF := ⟨[.val, .val], [0, 1], (.seq (.reg [⟨some 4, .mov (.k (.int .i64 0)), none, 0⟩]) (.seq (.reg [⟨some 5, .mov (.t 1), none, 0⟩,
  ⟨some 6, .mov (.t 0), none, 0⟩,
  ⟨some 7, .len true (.t 6), none, 0⟩,
  ⟨some 8, .bin .sub 0 (.t 5) (.t 7), none, 0⟩,
  ⟨some 1, .mov (.t 8), none, 0⟩]) (.seq (.seq (.reg [⟨some 9, .mov (.t 1), none, 0⟩,
  ⟨some 10, .bin .lss 0 (.t 9) (.k (.int .i64 0)), none, 0⟩]) (.cond (.t 10) (.seq (.reg [⟨some 4, .mov (.k (.int .i64 (-1))), none, 0⟩]) .ret) .skip)) (.seq (.reg [⟨some 11, .mov (.t 1), none, 0⟩,
  ⟨some 4, .mov (.t 11), none, 0⟩]) .ret)))),
  [(4, none)]⟩
/-- loop.example/g00849/laws.szPoolS -/
def pf_laws_szPoolS : PF := ⟨[.val, .val], [0, 1], (.seq (.reg [⟨some 4, .mov (.k (.int .i64 0)), none, 0⟩]) (.seq (.reg [⟨some 5, .mov (.t 1), none, 0⟩,
  ⟨some 6, .mov (.t 0), none, 0⟩,
  ⟨some 7, .len true (.t 6), none, 0⟩,
  ⟨some 8, .bin .sub 0 (.t 5) (.t 7), none, 0⟩,
  ⟨some 1, .mov (.t 8), none, 0⟩]) (.seq (.seq (.reg [⟨some 9, .mov (.t 1), none, 0⟩,
  ⟨some 10, .bin .lss 0 (.t 9) (.k (.int .i64 0)), none, 0⟩]) (.cond (.t 10) (.seq (.reg [⟨some 4, .mov (.k (.int .i64 (-1))), none, 0⟩]) .ret) .skip)) (.seq (.reg [⟨some 11, .mov (.t 1), none, 0⟩,
  ⟨some 4, .mov (.t 11), none, 0⟩]) .ret)))),
  [(4, none)]⟩
/-- loop.example/g00849/laws.szMap -/
def pf_laws_szMap : PF := ⟨[.val, .val], [0, 1, 2], (.seq (.reg [⟨some 2, .box (.t 0) 8, none, 0⟩,
  ⟨some 4, .mov (.k (.int .i64 0)), none, 0⟩]) (.seq (.reg [⟨some 5, .flda 2 (.t 2), none, 0⟩,
  ⟨some 6, .load 2 true (.t 5), none, 0⟩,
  ⟨some 7, .mov (.t 1), none, 0⟩,
  ⟨some 8, .call fn_laws_szTree [.t 6, .t 7], none, 0⟩,
  ⟨some 1, .mov (.t 8), none, 0⟩]) (.seq (.seq (.reg [⟨some 9, .mov (.t 1), none, 0⟩,
  ⟨some 10, .bin .lss 0 (.t 9) (.k (.int .i64 0)), none, 0⟩]) (.cond (.t 10) (.seq (.reg [⟨some 4, .mov (.k (.int .i64 (-1))), none, 0⟩]) .ret) .skip)) (.seq (.reg [⟨some 11, .flda 4 (.t 2), none, 0⟩,
  ⟨some 12, .load 1 false (.t 11), none, 0⟩,
  ⟨some 13, .mov (.t 1), none, 0⟩,
  ⟨some 14, .call fn_laws_szRuleS [.t 12, .t 13], none, 0⟩,
  ⟨some 1, .mov (.t 14), none, 0⟩]) (.seq (.seq (.reg [⟨some 15, .mov (.t 1), none, 0⟩,
  ⟨some 16, .bin .lss 0 (.t 15) (.k (.int .i64 0)), none, 0⟩]) (.cond (.t 16) (.seq (.reg [⟨some 4, .mov (.k (.int .i64 (-1))), none, 0⟩]) .ret) .skip)) (.seq (.reg [⟨some 17, .flda 5 (.t 2), none, 0⟩,
  ⟨some 18, .load 1 false (.t 17), none, 0⟩,
  ⟨some 19, .mov (.t 1), none, 0⟩,
  ⟨some 20, .call fn_laws_szPoolS [.t 18, .t 19], none, 0⟩,
  ⟨some 1, .mov (.t 20), none, 0⟩]) (.seq (.seq (.reg [⟨some 21, .mov (.t 1), none, 0⟩,
  ⟨some 22, .bin .lss 0 (.t 21) (.k (.int .i64 0)), none, 0⟩]) (.cond (.t 22) (.seq (.reg [⟨some 4, .mov (.k (.int .i64 (-1))), none, 0⟩]) .ret) .skip)) (.seq (.reg [⟨some 23, .flda 6 (.t 2), none, 0⟩,
  ⟨some 24, .load 1 false (.t 23), none, 0⟩,
  ⟨some 25, .mov (.t 1), none, 0⟩,
  ⟨some 26, .call fn_laws_szInt64S [.t 24, .t 25], none, 0⟩,
  ⟨some 1, .mov (.t 26), none, 0⟩]) (.seq (.seq (.reg [⟨some 27, .mov (.t 1), none, 0⟩,
  ⟨some 28, .bin .lss 0 (.t 27) (.k (.int .i64 0)), none, 0⟩]) (.cond (.t 28) (.seq (.reg [⟨some 4, .mov (.k (.int .i64 (-1))), none, 0⟩]) .ret) .skip)) (.seq (.reg [⟨some 29, .flda 7 (.t 2), none, 0⟩,
  ⟨some 30, .load 1 false (.t 29), none, 0⟩,
  ⟨some 31, .mov (.t 1), none, 0⟩,
  ⟨some 32, .call fn_laws_szInt64S [.t 30, .t 31], none, 0⟩,
  ⟨some 1, .mov (.t 32), none, 0⟩]) (.seq (.seq (.reg [⟨some 33, .mov (.t 1), none, 0⟩,
  ⟨some 34, .bin .lss 0 (.t 33) (.k (.int .i64 0)), none, 0⟩]) (.cond (.t 34) (.seq (.reg [⟨some 4, .mov (.k (.int .i64 (-1))), none, 0⟩]) .ret) .skip)) (.seq (.reg [⟨some 35, .mov (.t 1), none, 0⟩,
  ⟨some 4, .mov (.t 35), none, 0⟩]) .ret)))))))))))),
  [(4, none)]⟩
/-- loop.example/g00849/spec.l00In -/
def pf_spec_l00In : PF := ⟨[.val, .val, .val], [0, 1, 2, 10], (.seq (.reg [⟨some 6, .mov (.k (.bool false)), none, 0⟩]) (.seq (.reg [⟨some 7, .mov (.t 0), none, 0⟩,
  ⟨some 8, .mov (.t 1), none, 0⟩,
  ⟨some 9, .bin .geq 0 (.t 7) (.t 8), none, 0⟩,
  ⟨some 10, .mov (.t 9), none, 0⟩,
  ⟨some 11, .mov (.t 0), some (10, true), 0⟩,
  ⟨some 12, .mov (.t 2), some (10, true), 0⟩,
  ⟨some 13, .bin .leq 0 (.t 11) (.t 12), some (10, true), 0⟩,
  ⟨some 14, .pick (.t 10) (.t 13) (.k (.bool false)), none, 0⟩,
  ⟨some 6, .mov (.t 14), none, 0⟩]) .ret)),
  [(6, none)]⟩
/-- loop.example/g00849/spec.l06Devices -/
def pf_spec_l06Devices_lb0 : PC := (.seq (.seq (.reg [⟨some 9, .mov (.t 3), none, 0⟩,
  ⟨some 10, .flda 0 (.t 1), none, 0⟩,
  ⟨some 11, .load 1 false (.t 10), none, 0⟩,
  ⟨some 12, .len true (.t 11), none, 0⟩,
  ⟨some 13, .bin .lss 0 (.t 9) (.t 12), none, 0⟩]) (.cond (.t 13) .skip (.exit 0))) (.seq (.block 1 (.seq (.reg [⟨some 16, .flda 0 (.t 1), none, 0⟩,
  ⟨some 17, .load 1 false (.t 16), none, 0⟩,
  ⟨some 18, .mov (.t 3), none, 0⟩,
  ⟨some 19, .idxa ty_impl_Device (.t 17) (.t 18), none, 0⟩,
  ⟨some 20, .load 2 true (.t 19), none, 0⟩,
  ⟨some 4, .alloc [.int .i64 0, .int .i64 0], none, 0⟩,
  ⟨none, .store 2 (.t 4) (.t 20), none, 0⟩]) (.seq (.any [(0, []), (1, []), (2, []), (3, []), (4, []), (5, []), (6, []), (7, []), (8, []), (9, []), (10, []), (11, []), (12, []), (13, []), (14, []), (15, []), (16, [14, 15]), (17, [14, 15]), (18, [14, 15, 16, 17]), (19, [14, 15, 16, 17]), (20, [14, 15]), (21, [14, 15]), (22, [14, 15]), (23, []), (24, []), (25, [])] [⟨some 21, .flda 0 (.t 4), none, 0⟩,
  ⟨some 22, .load 1 false (.t 21), none, 0⟩,
  ⟨some 23, .call fn_spec_l00In [.t 22, .k (.int .i64 0), .k (.int .i64 15)], none, 0⟩,
  ⟨some 24, .un .not (.t 23), none, 0⟩,
  ⟨some 25, .mov (.t 24), none, 0⟩,
  ⟨some 26, .flda 1 (.t 4), some (25, false), 0⟩,
  ⟨some 27, .load 1 false (.t 26), some (25, false), 0⟩,
  ⟨some 28, .call fn_spec_l00In [.t 27, .k (.int .i64 0), .k (.int .i64 8)], some (25, false), 0⟩,
  ⟨some 29, .un .not (.t 28), some (25, false), 0⟩,
  ⟨some 30, .pick (.t 25) (.k (.bool true)) (.t 29), none, 0⟩,
  ⟨some 31, .mov (.t 30), none, 0⟩,
  ⟨some 32, .mov (.t 3), some (31, false), 0⟩,
  ⟨some 33, .bin .gtr 0 (.t 32) (.k (.int .i64 0)), some (31, false), 0⟩,
  ⟨some 34, .mov (.t 33), some (31, false), 0⟩,
  ⟨some 35, .flda 0 (.t 4), some (34, true), 0⟩,
  ⟨some 36, .load 1 false (.t 35), some (34, true), 0⟩,
  ⟨some 37, .flda 0 (.t 1), some (34, true), 0⟩,
  ⟨some 38, .load 1 false (.t 37), some (34, true), 0⟩,
  ⟨some 39, .mov (.t 3), some (34, true), 0⟩,
  ⟨some 40, .bin .sub 0 (.t 39) (.k (.int .i64 1)), some (34, true), 0⟩,
  ⟨some 41, .idxa ty_impl_Device (.t 38) (.t 40), some (34, true), 0⟩,
  ⟨some 42, .flda 0 (.t 41), some (34, true), 0⟩,
  ⟨some 43, .load 1 false (.t 42), some (34, true), 0⟩,
  ⟨some 44, .bin .leq 0 (.t 36) (.t 43), some (34, true), 0⟩,
  ⟨some 45, .pick (.t 34) (.t 44) (.k (.bool false)), some (31, false), 0⟩,
  ⟨some 46, .pick (.t 31) (.k (.bool true)) (.t 45), none, 0⟩]) (.cond (.t 46) (.seq (.reg [⟨some 2, .mov (.k (.bool false)), none, 0⟩]) .ret) .skip)))) (.reg [⟨some 14, .mov (.t 3), none, 0⟩,
  ⟨some 15, .bin .add 0 (.t 14) (.k (.int .i64 1)), none, 0⟩,
  ⟨some 3, .mov (.t 15), none, 0⟩])))
def pf_spec_l06Devices_l0 : PC := .loop [4] pf_spec_l06Devices_lb0
theorem ex_spec_l06Devices_l0 {C : Code} {V : List Nat} (s : St) : EX C V pf_spec_l06Devices_l0 s = EXK C V pf_spec_l06Devices_l0 (EX C V pf_spec_l06Devices_lb0 (forget [4] s)) := EX_loop _ _ _
def pf_spec_l06Devices : PF := ⟨[.val], [0, 1, 3, 4, 25, 31, 34], (.seq (.reg [⟨some 1, .box (.t 0) 2, none, 0⟩,
  ⟨some 2, .mov (.k (.bool false)), none, 0⟩]) (.seq (.seq (.reg [⟨some 5, .flda 0 (.t 1), none, 0⟩,
  ⟨some 6, .load 1 false (.t 5), none, 0⟩,
  ⟨some 7, .len true (.t 6), none, 0⟩,
  ⟨some 8, .bin .gtr 0 (.t 7) (.k (.int .i64 16)), none, 0⟩]) (.cond (.t 8) (.seq (.reg [⟨some 2, .mov (.k (.bool false)), none, 0⟩]) .ret) .skip)) (.seq (.seq (.reg [⟨some 3, .mov (.k (.int .i64 0)), none, 0⟩]) (.block 0 pf_spec_l06Devices_l0)) (.seq (.reg [⟨some 2, .mov (.k (.bool true)), none, 0⟩]) .ret)))),
  [(2, none)]⟩
/-- loop.example/g00849/spec.l06Buckets -/
def pf_spec_l06Buckets_lb0 : PC := (.seq (.seq (.reg [⟨some 9, .mov (.t 3), none, 0⟩,
  ⟨some 10, .flda 1 (.t 1), none, 0⟩,
  ⟨some 11, .load 1 false (.t 10), none, 0⟩,
  ⟨some 12, .len true (.t 11), none, 0⟩,
  ⟨some 13, .bin .lss 0 (.t 9) (.t 12), none, 0⟩]) (.cond (.t 13) .skip (.exit 0))) (.seq (.block 1 (.seq (.reg [⟨some 16, .flda 1 (.t 1), none, 0⟩,
  ⟨some 17, .load 1 false (.t 16), none, 0⟩,
  ⟨some 18, .mov (.t 3), none, 0⟩,
  ⟨some 19, .idxa ty_impl_Bucket (.t 17) (.t 18), none, 0⟩,
  ⟨some 20, .load 3 true (.t 19), none, 0⟩,
  ⟨some 4, .alloc [.int .i64 0, .int .i64 0, .sl 2 ty_int64 []], none, 0⟩,
  ⟨none, .store 3 (.t 4) (.t 20), none, 0⟩]) (.seq (.any [(0, []), (1, []), (2, []), (3, []), (4, []), (5, []), (6, []), (7, []), (8, []), (9, []), (10, []), (11, []), (12, []), (13, []), (14, []), (15, []), (16, []), (17, []), (18, []), (19, []), (20, []), (21, []), (22, [20, 21]), (23, [20, 21]), (24, [20, 21, 22, 23]), (25, [20, 21, 22, 23]), (26, [20, 21]), (27, [20, 21]), (28, [20, 21]), (29, []), (30, []), (31, [])] [⟨some 21, .flda 0 (.t 4), none, 0⟩,
  ⟨some 22, .load 1 false (.t 21), none, 0⟩,
  ⟨some 23, .call fn_spec_l00In [.t 22, .k (.int .i64 (-12)), .k (.int .i64 (-1))], none, 0⟩,
  ⟨some 24, .un .not (.t 23), none, 0⟩,
  ⟨some 25, .mov (.t 24), none, 0⟩,
  ⟨some 26, .flda 1 (.t 4), some (25, false), 0⟩,
  ⟨some 27, .load 1 false (.t 26), some (25, false), 0⟩,
  ⟨some 28, .call fn_spec_l00In [.t 27, .k (.int .i64 1), .k (.int .i64 3)], some (25, false), 0⟩,
  ⟨some 29, .un .not (.t 28), some (25, false), 0⟩,
  ⟨some 30, .pick (.t 25) (.k (.bool true)) (.t 29), none, 0⟩,
  ⟨some 31, .mov (.t 30), none, 0⟩,
  ⟨some 32, .flda 2 (.t 4), some (31, false), 0⟩,
  ⟨some 33, .load 1 false (.t 32), some (31, false), 0⟩,
  ⟨some 34, .len true (.t 33), some (31, false), 0⟩,
  ⟨some 35, .bin .gtr 0 (.t 34) (.k (.int .i64 8)), some (31, false), 0⟩,
  ⟨some 36, .pick (.t 31) (.k (.bool true)) (.t 35), none, 0⟩,
  ⟨some 37, .mov (.t 36), none, 0⟩,
  ⟨some 38, .mov (.t 3), some (37, false), 0⟩,
  ⟨some 39, .bin .gtr 0 (.t 38) (.k (.int .i64 0)), some (37, false), 0⟩,
  ⟨some 40, .mov (.t 39), some (37, false), 0⟩,
  ⟨some 41, .flda 0 (.t 4), some (40, true), 0⟩,
  ⟨some 42, .load 1 false (.t 41), some (40, true), 0⟩,
  ⟨some 43, .flda 1 (.t 1), some (40, true), 0⟩,
  ⟨some 44, .load 1 false (.t 43), some (40, true), 0⟩,
  ⟨some 45, .mov (.t 3), some (40, true), 0⟩,
  ⟨some 46, .bin .sub 0 (.t 45) (.k (.int .i64 1)), some (40, true), 0⟩,
  ⟨some 47, .idxa ty_impl_Bucket (.t 44) (.t 46), some (40, true), 0⟩,
  ⟨some 48, .flda 0 (.t 47), some (40, true), 0⟩,
  ⟨some 49, .load 1 false (.t 48), some (40, true), 0⟩,
  ⟨some 50, .bin .geq 0 (.t 42) (.t 49), some (40, true), 0⟩,
  ⟨some 51, .pick (.t 40) (.t 50) (.k (.bool false)), some (37, false), 0⟩,
  ⟨some 52, .pick (.t 37) (.k (.bool true)) (.t 51), none, 0⟩]) (.cond (.t 52) (.seq (.reg [⟨some 2, .mov (.k (.bool false)), none, 0⟩]) .ret) .skip)))) (.reg [⟨some 14, .mov (.t 3), none, 0⟩,
  ⟨some 15, .bin .add 0 (.t 14) (.k (.int .i64 1)), none, 0⟩,
  ⟨some 3, .mov (.t 15), none, 0⟩])))
def pf_spec_l06Buckets_l0 : PC := .loop [4] pf_spec_l06Buckets_lb0
theorem ex_spec_l06Buckets_l0 {C : Code} {V : List Nat} (s : St) : EX C V pf_spec_l06Buckets_l0 s = EXK C V pf_spec_l06Buckets_l0 (EX C V pf_spec_l06Buckets_lb0 (forget [4] s)) := EX_loop _ _ _
def pf_spec_l06Buckets : PF := ⟨[.val], [0, 1, 3, 4, 25, 31, 37, 40], (.seq (.reg [⟨some 1, .box (.t 0) 2, none, 0⟩,
  ⟨some 2, .mov (.k (.bool false)), none, 0⟩]) (.seq (.seq (.reg [⟨some 5, .flda 1 (.t 1), none, 0⟩,
  ⟨some 6, .load 1 false (.t 5), none, 0⟩,
  ⟨some 7, .len true (.t 6), none, 0⟩,
  ⟨some 8, .bin .gtr 0 (.t 7) (.k (.int .i64 12)), none, 0⟩]) (.cond (.t 8) (.seq (.reg [⟨some 2, .mov (.k (.bool false)), none, 0⟩]) .ret) .skip)) (.seq (.seq (.reg [⟨some 3, .mov (.k (.int .i64 0)), none, 0⟩]) (.block 0 pf_spec_l06Buckets_l0)) (.seq (.reg [⟨some 2, .mov (.k (.bool true)), none, 0⟩]) .ret)))),
  [(2, none)]⟩
/-- loop.example/g00849/spec.l00Has -/
def pf_spec_l00Has_lb0 : PC := (.seq (.seq (.reg [⟨some 6, .mov (.t 5), none, 0⟩,
  ⟨some 7, .mov (.t 0), none, 0⟩,
  ⟨some 8, .len true (.t 7), none, 0⟩,
  ⟨some 9, .bin .lss 0 (.t 6) (.t 8), none, 0⟩]) (.cond (.t 9) .skip (.exit 0))) (.seq (.block 1 (.seq (.reg [⟨some 12, .mov (.t 0), none, 0⟩,
  ⟨some 13, .mov (.t 5), none, 0⟩,
  ⟨some 14, .idxa ty_int64 (.t 12) (.t 13), none, 0⟩,
  ⟨some 15, .load 1 false (.t 14), none, 0⟩,
  ⟨some 16, .mov (.t 1), none, 0⟩,
  ⟨some 17, .bin .eql 0 (.t 15) (.t 16), none, 0⟩]) (.cond (.t 17) (.seq (.reg [⟨some 4, .mov (.k (.bool true)), none, 0⟩]) .ret) .skip))) (.reg [⟨some 10, .mov (.t 5), none, 0⟩,
  ⟨some 11, .bin .add 0 (.t 10) (.k (.int .i64 1)), none, 0⟩,
  ⟨some 5, .mov (.t 11), none, 0⟩])))
def pf_spec_l00Has_l0 : PC := .loop [] pf_spec_l00Has_lb0
theorem ex_spec_l00Has_l0 {C : Code} {V : List Nat} (s : St) : EX C V pf_spec_l00Has_l0 s = EXK C V pf_spec_l00Has_l0 (EX C V pf_spec_l00Has_lb0 (forget [] s)) := EX_loop _ _ _
def pf_spec_l00Has : PF := ⟨[.val, .val], [0, 1, 5], (.seq (.reg [⟨some 4, .mov (.k (.bool false)), none, 0⟩]) (.seq (.seq (.reg [⟨some 5, .mov (.k (.int .i64 0)), none, 0⟩]) (.block 0 pf_spec_l00Has_l0)) (.seq (.reg [⟨some 4, .mov (.k (.bool false)), none, 0⟩]) .ret))),
  [(4, none)]⟩
/-- loop.example/g00849/spec.l06Once -/
def pf_spec_l06Once_lb0 : PC := (.seq (.seq (.reg [⟨some 15, .mov (.t 5), none, 0⟩,
  ⟨some 16, .flda 1 (.t 1), none, 0⟩,
  ⟨some 17, .load 1 false (.t 16), none, 0⟩,
  ⟨some 18, .mov (.t 4), none, 0⟩,
  ⟨some 19, .idxa ty_impl_Bucket (.t 17) (.t 18), none, 0⟩,
  ⟨some 20, .flda 2 (.t 19), none, 0⟩,
  ⟨some 21, .load 1 false (.t 20), none, 0⟩,
  ⟨some 22, .len true (.t 21), none, 0⟩,
  ⟨some 23, .bin .lss 0 (.t 15) (.t 22), none, 0⟩]) (.cond (.t 23) .skip (.exit 2))) (.seq (.block 3 (.seq (.reg [⟨some 26, .flda 1 (.t 1), none, 0⟩,
  ⟨some 27, .load 1 false (.t 26), none, 0⟩,
  ⟨some 28, .mov (.t 4), none, 0⟩,
  ⟨some 29, .idxa ty_impl_Bucket (.t 27) (.t 28), none, 0⟩,
  ⟨some 30, .flda 2 (.t 29), none, 0⟩,
  ⟨some 31, .load 1 false (.t 30), none, 0⟩,
  ⟨some 32, .mov (.t 5), none, 0⟩,
  ⟨some 33, .idxa ty_int64 (.t 31) (.t 32), none, 0⟩,
  ⟨some 34, .load 1 false (.t 33), none, 0⟩,
  ⟨some 6, .mov (.t 34), none, 0⟩]) (.seq (.seq (.reg [⟨some 35, .mov (.t 3), none, 0⟩,
  ⟨some 36, .mov (.t 6), none, 0⟩,
  ⟨some 37, .call fn_spec_l00Has [.t 35, .t 36], none, 0⟩]) (.cond (.t 37) (.seq (.reg [⟨some 2, .mov (.k (.bool false)), none, 0⟩]) .ret) .skip)) (.reg [⟨some 38, .mov (.t 3), none, 0⟩,
  ⟨some 39, .mov (.t 6), none, 0⟩,
  ⟨some 40, .lit ty_int64 1 [.t 39], none, 0⟩,
  ⟨some 41, .app ty_int64 8 (.t 38) (.t 40), none, 0⟩,
  ⟨some 3, .mov (.t 41), none, 0⟩])))) (.reg [⟨some 24, .mov (.t 5), none, 0⟩,
  ⟨some 25, .bin .add 0 (.t 24) (.k (.int .i64 1)), none, 0⟩,
  ⟨some 5, .mov (.t 25), none, 0⟩])))
def pf_spec_l06Once_l0 : PC := .loop [] pf_spec_l06Once_lb0
theorem ex_spec_l06Once_l0 {C : Code} {V : List Nat} (s : St) : EX C V pf_spec_l06Once_l0 s = EXK C V pf_spec_l06Once_l0 (EX C V pf_spec_l06Once_lb0 (forget [] s)) := EX_loop _ _ _
def pf_spec_l06Once_lb1 : PC := (.seq (.seq (.reg [⟨some 8, .mov (.t 4), none, 0⟩,
  ⟨some 9, .flda 1 (.t 1), none, 0⟩,
  ⟨some 10, .load 1 false (.t 9), none, 0⟩,
  ⟨some 11, .len true (.t 10), none, 0⟩,
  ⟨some 12, .bin .lss 0 (.t 8) (.t 11), none, 0⟩]) (.cond (.t 12) .skip (.exit 0))) (.seq (.block 1 (.seq (.reg [⟨some 5, .mov (.k (.int .i64 0)), none, 0⟩]) (.block 2 pf_spec_l06Once_l0))) (.reg [⟨some 13, .mov (.t 4), none, 0⟩,
  ⟨some 14, .bin .add 0 (.t 13) (.k (.int .i64 1)), none, 0⟩,
  ⟨some 4, .mov (.t 14), none, 0⟩])))
def pf_spec_l06Once_l1 : PC := .loop [] pf_spec_l06Once_lb1
theorem ex_spec_l06Once_l1 {C : Code} {V : List Nat} (s : St) : EX C V pf_spec_l06Once_l1 s = EXK C V pf_spec_l06Once_l1 (EX C V pf_spec_l06Once_lb1 (forget [] s)) := EX_loop _ _ _
def pf_spec_l06Once : PF := ⟨[.val], [0, 1, 3, 4, 5, 6], (.seq (.reg [⟨some 1, .box (.t 0) 2, none, 0⟩,
  ⟨some 2, .mov (.k (.bool false)), none, 0⟩]) (.seq (.reg [⟨some 7, .lit ty_int64 1 [], none, 0⟩,
  ⟨some 3, .mov (.t 7), none, 0⟩]) (.seq (.seq (.reg [⟨some 4, .mov (.k (.int .i64 0)), none, 0⟩]) (.block 0 pf_spec_l06Once_l1)) (.seq (.reg [⟨some 2, .mov (.k (.bool true)), none, 0⟩]) .ret)))),
  [(2, none)]⟩
/-- loop.example/g00849/spec.l06Device -/
def pf_spec_l06Device_lb0 : PC := (.seq (.seq (.reg [⟨some 6, .mov (.t 5), none, 0⟩,
  ⟨some 7, .flda 0 (.t 2), none, 0⟩,
  ⟨some 8, .load 1 false (.t 7), none, 0⟩,
  ⟨some 9, .len true (.t 8), none, 0⟩,
  ⟨some 10, .bin .lss 0 (.t 6) (.t 9), none, 0⟩]) (.cond (.t 10) .skip (.exit 0))) (.seq (.block 1 (.seq (.reg [⟨some 13, .flda 0 (.t 2), none, 0⟩,
  ⟨some 14, .load 1 false (.t 13), none, 0⟩,
  ⟨some 15, .mov (.t 5), none, 0⟩,
  ⟨some 16, .idxa ty_impl_Device (.t 14) (.t 15), none, 0⟩,
  ⟨some 17, .flda 0 (.t 16), none, 0⟩,
  ⟨some 18, .load 1 false (.t 17), none, 0⟩,
  ⟨some 19, .mov (.t 1), none, 0⟩,
  ⟨some 20, .bin .eql 0 (.t 18) (.t 19), none, 0⟩]) (.cond (.t 20) (.seq (.reg [⟨some 21, .mov (.t 5), none, 0⟩,
  ⟨some 4, .mov (.t 21), none, 0⟩]) .ret) .skip))) (.reg [⟨some 11, .mov (.t 5), none, 0⟩,
  ⟨some 12, .bin .add 0 (.t 11) (.k (.int .i64 1)), none, 0⟩,
  ⟨some 5, .mov (.t 12), none, 0⟩])))
def pf_spec_l06Device_l0 : PC := .loop [] pf_spec_l06Device_lb0
theorem ex_spec_l06Device_l0 {C : Code} {V : List Nat} (s : St) : EX C V pf_spec_l06Device_l0 s = EXK C V pf_spec_l06Device_l0 (EX C V pf_spec_l06Device_lb0 (forget [] s)) := EX_loop _ _ _
def pf_spec_l06Device : PF := ⟨[.val, .val], [0, 1, 2, 5], (.seq (.reg [⟨some 2, .box (.t 0) 2, none, 0⟩,
  ⟨some 4, .mov (.k (.int .i64 0)), none, 0⟩]) (.seq (.seq (.reg [⟨some 5, .mov (.k (.int .i64 0)), none, 0⟩]) (.block 0 pf_spec_l06Device_l0)) (.seq (.reg [⟨some 4, .mov (.k (.int .i64 (-1))), none, 0⟩]) .ret))),
  [(4, none)]⟩
/-- loop.example/g00849/spec.l06Bucket -/
def pf_spec_l06Bucket_lb0 : PC := (.seq (.seq (.reg [⟨some 6, .mov (.t 5), none, 0⟩,
  ⟨some 7, .flda 1 (.t 2), none, 0⟩,
  ⟨some 8, .load 1 false (.t 7), none, 0⟩,
  ⟨some 9, .len true (.t 8), none, 0⟩,
  ⟨some 10, .bin .lss 0 (.t 6) (.t 9), none, 0⟩]) (.cond (.t 10) .skip (.exit 0))) (.seq (.block 1 (.seq (.reg [⟨some 13, .flda 1 (.t 2), none, 0⟩,
  ⟨some 14, .load 1 false (.t 13), none, 0⟩,
  ⟨some 15, .mov (.t 5), none, 0⟩,
  ⟨some 16, .idxa ty_impl_Bucket (.t 14) (.t 15), none, 0⟩,
  ⟨some 17, .flda 0 (.t 16), none, 0⟩,
  ⟨some 18, .load 1 false (.t 17), none, 0⟩,
  ⟨some 19, .mov (.t 1), none, 0⟩,
  ⟨some 20, .bin .eql 0 (.t 18) (.t 19), none, 0⟩]) (.cond (.t 20) (.seq (.reg [⟨some 21, .mov (.t 5), none, 0⟩,
  ⟨some 4, .mov (.t 21), none, 0⟩]) .ret) .skip))) (.reg [⟨some 11, .mov (.t 5), none, 0⟩,
  ⟨some 12, .bin .add 0 (.t 11) (.k (.int .i64 1)), none, 0⟩,
  ⟨some 5, .mov (.t 12), none, 0⟩])))
def pf_spec_l06Bucket_l0 : PC := .loop [] pf_spec_l06Bucket_lb0
theorem ex_spec_l06Bucket_l0 {C : Code} {V : List Nat} (s : St) : EX C V pf_spec_l06Bucket_l0 s = EXK C V pf_spec_l06Bucket_l0 (EX C V pf_spec_l06Bucket_lb0 (forget [] s)) := EX_loop _ _ _
def pf_spec_l06Bucket : PF := ⟨[.val, .val], [0, 1, 2, 5], (.seq (.reg [⟨some 2, .box (.t 0) 2, none, 0⟩,
  ⟨some 4, .mov (.k (.int .i64 0)), none, 0⟩]) (.seq (.seq (.reg [⟨some 5, .mov (.k (.int .i64 0)), none, 0⟩]) (.block 0 pf_spec_l06Bucket_l0)) (.seq (.reg [⟨some 4, .mov (.k (.int .i64 (-1))), none, 0⟩]) .ret))),
  [(4, none)]⟩
/-- loop.example/g00849/spec.l06Kind -/
def pf_spec_l06Kind : PF := ⟨[.val, .val], [0, 1, 2, 5], (.seq (.reg [⟨some 2, .box (.t 0) 2, none, 0⟩,
  ⟨some 4, .mov (.k (.int .i64 0)), none, 0⟩]) (.seq (.seq (.reg [⟨some 6, .load 2 true (.t 2), none, 0⟩,
  ⟨some 7, .mov (.t 1), none, 0⟩,
  ⟨some 8, .call fn_spec_l06Device [.t 6, .t 7], none, 0⟩,
  ⟨some 9, .bin .geq 0 (.t 8) (.k (.int .i64 0)), none, 0⟩]) (.cond (.t 9) (.seq (.reg [⟨some 4, .mov (.k (.int .i64 0)), none, 0⟩]) .ret) .skip)) (.seq (.seq (.reg [⟨some 10, .load 2 true (.t 2), none, 0⟩,
  ⟨some 11, .mov (.t 1), none, 0⟩,
  ⟨some 12, .call fn_spec_l06Bucket [.t 10, .t 11], none, 0⟩,
  ⟨some 5, .mov (.t 12), none, 0⟩]) (.seq (.reg [⟨some 13, .mov (.t 5), none, 0⟩,
  ⟨some 14, .bin .geq 0 (.t 13) (.k (.int .i64 0)), none, 0⟩]) (.cond (.t 14) (.seq (.reg [⟨some 15, .flda 1 (.t 2), none, 0⟩,
  ⟨some 16, .load 1 false (.t 15), none, 0⟩,
  ⟨some 17, .mov (.t 5), none, 0⟩,
  ⟨some 18, .idxa ty_impl_Bucket (.t 16) (.t 17), none, 0⟩,
  ⟨some 19, .flda 1 (.t 18), none, 0⟩,
  ⟨some 20, .load 1 false (.t 19), none, 0⟩,
  ⟨some 4, .mov (.t 20), none, 0⟩]) .ret) .skip))) (.seq (.reg [⟨some 4, .mov (.k (.int .i64 (-1))), none, 0⟩]) .ret)))),
  [(4, none)]⟩
/-- loop.example/g00849/spec.l06Fits -/
def pf_spec_l06Fits_lb0 : PC := (.seq (.seq (.reg [⟨some 7, .mov (.t 5), none, 0⟩,
  ⟨some 8, .flda 2 (.t 3), none, 0⟩,
  ⟨some 9, .load 1 false (.t 8), none, 0⟩,
  ⟨some 10, .len true (.t 9), none, 0⟩,
  ⟨some 11, .bin .lss 0 (.t 7) (.t 10), none, 0⟩]) (.cond (.t 11) .skip (.exit 0))) (.seq (.block 1 (.seq (.any [(0, []), (1, [0]), (2, [0]), (3, [0, 1, 2]), (4, [0]), (5, [0]), (6, []), (7, [])] [⟨some 14, .load 2 true (.t 2), none, 0⟩,
  ⟨some 15, .flda 2 (.t 3), none, 0⟩,
  ⟨some 16, .load 1 false (.t 15), none, 0⟩,
  ⟨some 17, .mov (.t 5), none, 0⟩,
  ⟨some 18, .idxa ty_int64 (.t 16) (.t 17), none, 0⟩,
  ⟨some 19, .load 1 false (.t 18), none, 0⟩,
  ⟨some 20, .call fn_spec_l06Kind [.t 14, .t 19], none, 0⟩,
  ⟨some 6, .mov (.t 20), none, 0⟩]) (.seq (.seq (.reg [⟨some 21, .flda 1 (.t 3), none, 0⟩,
  ⟨some 22, .load 1 false (.t 21), none, 0⟩,
  ⟨some 23, .bin .lss 0 (.t 22) (.k (.int .i64 3)), none, 0⟩,
  ⟨some 24, .mov (.t 23), none, 0⟩,
  ⟨some 25, .mov (.t 6), some (24, true), 0⟩,
  ⟨some 26, .flda 1 (.t 3), some (24, true), 0⟩,
  ⟨some 27, .load 1 false (.t 26), some (24, true), 0⟩,
  ⟨some 28, .bin .sub 0 (.t 27) (.k (.int .i64 1)), some (24, true), 0⟩,
  ⟨some 29, .bin .neq 0 (.t 25) (.t 28), some (24, true), 0⟩,
  ⟨some 30, .pick (.t 24) (.t 29) (.k (.bool false)), none, 0⟩]) (.cond (.t 30) (.seq (.reg [⟨some 4, .mov (.k (.bool false)), none, 0⟩]) .ret) .skip)) (.seq (.any [(0, []), (1, []), (2, []), (3, []), (4, []), (5, [4]), (6, [4, 5]), (7, [4, 5]), (8, [4, 5]), (9, [4, 5]), (10, [4]), (11, []), (12, []), (13, []), (14, []), (15, []), (16, []), (17, []), (18, []), (19, []), (20, [])] [⟨some 31, .flda 1 (.t 3), none, 0⟩,
  ⟨some 32, .load 1 false (.t 31), none, 0⟩,
  ⟨some 33, .bin .eql 0 (.t 32) (.k (.int .i64 3)), none, 0⟩,
  ⟨some 34, .mov (.t 33), none, 0⟩,
  ⟨some 35, .mov (.t 6), some (34, true), 0⟩,
  ⟨some 36, .load 2 true (.t 2), some (34, true), 0⟩,
  ⟨some 37, .flda 2 (.t 3), some (34, true), 0⟩,
  ⟨some 38, .load 1 false (.t 37), some (34, true), 0⟩,
  ⟨some 39, .idxa ty_int64 (.t 38) (.k (.int .i64 0)), some (34, true), 0⟩,
  ⟨some 40, .load 1 false (.t 39), some (34, true), 0⟩,
  ⟨some 41, .call fn_spec_l06Kind [.t 36, .t 40], some (34, true), 0⟩,
  ⟨some 42, .bin .neq 0 (.t 35) (.t 41), some (34, true), 0⟩,
  ⟨some 43, .mov (.t 42), some (34, true), 0⟩,
  ⟨some 44, .mov (.t 6), some (43, false), 0⟩,
  ⟨some 45, .bin .neq 0 (.t 44) (.k (.int .i64 1)), some (43, false), 0⟩,
  ⟨some 46, .mov (.t 45), some (43, false), 0⟩,
  ⟨some 47, .mov (.t 6), some (46, true), 0⟩,
  ⟨some 48, .bin .neq 0 (.t 47) (.k (.int .i64 2)), some (46, true), 0⟩,
  ⟨some 49, .pick (.t 46) (.t 48) (.k (.bool false)), some (43, false), 0⟩,
  ⟨some 50, .pick (.t 43) (.k (.bool true)) (.t 49), some (34, true), 0⟩,
  ⟨some 51, .pick (.t 34) (.t 50) (.k (.bool false)), none, 0⟩]) (.cond (.t 51) (.seq (.reg [⟨some 4, .mov (.k (.bool false)), none, 0⟩]) .ret) .skip))))) (.reg [⟨some 12, .mov (.t 5), none, 0⟩,
  ⟨some 13, .bin .add 0 (.t 12) (.k (.int .i64 1)), none, 0⟩,
  ⟨some 5, .mov (.t 13), none, 0⟩])))
def pf_spec_l06Fits_l0 : PC := .loop [] pf_spec_l06Fits_lb0
theorem ex_spec_l06Fits_l0 {C : Code} {V : List Nat} (s : St) : EX C V pf_spec_l06Fits_l0 s = EXK C V pf_spec_l06Fits_l0 (EX C V pf_spec_l06Fits_lb0 (forget [] s)) := EX_loop _ _ _
def pf_spec_l06Fits : PF := ⟨[.val, .val], [0, 1, 2, 3, 5, 6, 24, 34, 43, 46], (.seq (.reg [⟨some 2, .box (.t 0) 2, none, 0⟩,
  ⟨some 3, .box (.t 1) 3, none, 0⟩,
  ⟨some 4, .mov (.k (.bool false)), none, 0⟩]) (.seq (.seq (.reg [⟨some 5, .mov (.k (.int .i64 0)), none, 0⟩]) (.block 0 pf_spec_l06Fits_l0)) (.seq (.reg [⟨some 4, .mov (.k (.bool true)), none, 0⟩]) .ret))),
  [(4, none)]⟩
/-- loop.example/g00849/spec.l06OK -/
def pf_spec_l06OK_lb0 : PC := (.seq (.seq (.reg [⟨some 17, .mov (.t 3), none, 0⟩,
  ⟨some 18, .flda 1 (.t 1), none, 0⟩,
  ⟨some 19, .load 1 false (.t 18), none, 0⟩,
  ⟨some 20, .len true (.t 19), none, 0⟩,
  ⟨some 21, .bin .lss 0 (.t 17) (.t 20), none, 0⟩]) (.cond (.t 21) .skip (.exit 0))) (.seq (.block 1 (.seq (.any [(0, []), (1, [0]), (2, [0]), (3, [0, 1, 2]), (4, [0]), (5, [0]), (6, []), (7, [])] [⟨some 24, .load 2 true (.t 1), none, 0⟩,
  ⟨some 25, .flda 1 (.t 1), none, 0⟩,
  ⟨some 26, .load 1 false (.t 25), none, 0⟩,
  ⟨some 27, .mov (.t 3), none, 0⟩,
  ⟨some 28, .idxa ty_impl_Bucket (.t 26) (.t 27), none, 0⟩,
  ⟨some 29, .load 3 true (.t 28), none, 0⟩,
  ⟨some 30, .call fn_spec_l06Fits [.t 24, .t 29], none, 0⟩,
  ⟨some 31, .un .not (.t 30), none, 0⟩]) (.cond (.t 31) (.seq (.reg [⟨some 2, .mov (.k (.bool false)), none, 0⟩]) .ret) .skip))) (.reg [⟨some 22, .mov (.t 3), none, 0⟩,
  ⟨some 23, .bin .add 0 (.t 22) (.k (.int .i64 1)), none, 0⟩,
  ⟨some 3, .mov (.t 23), none, 0⟩])))
def pf_spec_l06OK_l0 : PC := .loop [] pf_spec_l06OK_lb0
theorem ex_spec_l06OK_l0 {C : Code} {V : List Nat} (s : St) : EX C V pf_spec_l06OK_l0 s = EXK C V pf_spec_l06OK_l0 (EX C V pf_spec_l06OK_lb0 (forget [] s)) := EX_loop _ _ _
def pf_spec_l06OK : PF := ⟨[.val], [0, 1, 3, 7, 12], (.seq (.reg [⟨some 1, .box (.t 0) 2, none, 0⟩,
  ⟨some 2, .mov (.k (.bool false)), none, 0⟩]) (.seq (.seq (.reg [⟨some 4, .load 2 true (.t 1), none, 0⟩,
  ⟨some 5, .call fn_spec_l06Devices [.t 4], none, 0⟩,
  ⟨some 6, .un .not (.t 5), none, 0⟩,
  ⟨some 7, .mov (.t 6), none, 0⟩,
  ⟨some 8, .load 2 true (.t 1), some (7, false), 0⟩,
  ⟨some 9, .call fn_spec_l06Buckets [.t 8], some (7, false), 0⟩,
  ⟨some 10, .un .not (.t 9), some (7, false), 0⟩,
  ⟨some 11, .pick (.t 7) (.k (.bool true)) (.t 10), none, 0⟩,
  ⟨some 12, .mov (.t 11), none, 0⟩,
  ⟨some 13, .load 2 true (.t 1), some (12, false), 0⟩,
  ⟨some 14, .call fn_spec_l06Once [.t 13], some (12, false), 0⟩,
  ⟨some 15, .un .not (.t 14), some (12, false), 0⟩,
  ⟨some 16, .pick (.t 12) (.k (.bool true)) (.t 15), none, 0⟩]) (.cond (.t 16) (.seq (.reg [⟨some 2, .mov (.k (.bool false)), none, 0⟩]) .ret) .skip)) (.seq (.seq (.reg [⟨some 3, .mov (.k (.int .i64 0)), none, 0⟩]) (.block 0 pf_spec_l06OK_l0)) (.seq (.reg [⟨some 2, .mov (.k (.bool true)), none, 0⟩]) .ret)))),
  [(2, none)]⟩
/-- loop.example/g00849/spec.TreeOk -/
def pf_spec_TreeOk : PF := ⟨[.val], [0], (.seq (.reg [⟨some 1, .box (.t 0) 2, none, 0⟩,
  ⟨some 2, .mov (.k (.bool false)), none, 0⟩]) (.seq (.reg [⟨some 3, .ldt 2 (.t 1), none, 0⟩,
  ⟨some 4, .call fn_spec_l06OK [.t 3], none, 0⟩,
  ⟨some 2, .mov (.t 4), none, 0⟩]) .ret)),
  [(2, none)]⟩
/-- loop.example/g00849/spec.l08OK -/
def pf_spec_l08OK : PF := ⟨[.val, .val], [0, 1, 3, 8, 13, 20], (.seq (.reg [⟨some 2, .box (.t 0) 2, none, 0⟩,
  ⟨some 3, .box (.t 1) 4, none, 0⟩,
  ⟨some 4, .mov (.k (.bool false)), none, 0⟩]) (.seq (.reg [⟨some 5, .flda 0 (.t 3), none, 0⟩,
  ⟨some 6, .load 1 false (.t 5), none, 0⟩,
  ⟨some 7, .call fn_spec_l00In [.t 6, .k (.int .i64 1), .k (.int .i64 4)], none, 0⟩,
  ⟨some 8, .mov (.t 7), none, 0⟩,
  ⟨some 9, .flda 1 (.t 3), some (8, true), 0⟩,
  ⟨some 10, .load 1 false (.t 9), some (8, true), 0⟩,
  ⟨some 11, .bin .lss 0 (.t 10) (.k (.int .i64 0)), some (8, true), 0⟩,
  ⟨some 12, .pick (.t 8) (.t 11) (.k (.bool false)), none, 0⟩,
  ⟨some 13, .mov (.t 12), none, 0⟩,
  ⟨some 14, .ldt 2 (.t 2), some (13, true), 0⟩,
  ⟨some 15, .flda 1 (.t 3), some (13, true), 0⟩,
  ⟨some 16, .load 1 false (.t 15), some (13, true), 0⟩,
  ⟨some 17, .call fn_spec_l06Kind [.t 14, .t 16], some (13, true), 0⟩,
  ⟨some 18, .bin .eql 0 (.t 17) (.k (.int .i64 3)), some (13, true), 0⟩,
  ⟨some 19, .pick (.t 13) (.t 18) (.k (.bool false)), none, 0⟩,
  ⟨some 20, .mov (.t 19), none, 0⟩,
  ⟨some 21, .flda 2 (.t 3), some (20, true), 0⟩,
  ⟨some 22, .load 1 false (.t 21), some (20, true), 0⟩,
  ⟨some 23, .call fn_spec_l00In [.t 22, .k (.int .i64 0), .k (.int .i64 2)], some (20, true), 0⟩,
  ⟨some 24, .pick (.t 20) (.t 23) (.k (.bool false)), none, 0⟩,
  ⟨some 4, .mov (.t 24), none, 0⟩]) .ret)),
  [(4, none)]⟩
/-- loop.example/g00849/spec.RuleOk -/
def pf_spec_RuleOk : PF := ⟨[.val, .val], [0, 1, 2, 7], (.seq (.reg [⟨some 2, .box (.t 0) 2, none, 0⟩,
  ⟨some 3, .box (.t 1) 4, none, 0⟩,
  ⟨some 4, .mov (.k (.bool false)), none, 0⟩]) (.seq (.reg [⟨some 5, .load 2 true (.t 2), none, 0⟩,
  ⟨some 6, .call fn_spec_l06OK [.t 5], none, 0⟩,
  ⟨some 7, .mov (.t 6), none, 0⟩,
  ⟨some 8, .ldt 2 (.t 2), some (7, true), 0⟩,
  ⟨some 9, .load 4 true (.t 3), some (7, true), 0⟩,
  ⟨some 10, .call fn_spec_l08OK [.t 8, .t 9], some (7, true), 0⟩,
  ⟨some 11, .pick (.t 7) (.t 10) (.k (.bool false)), none, 0⟩,
  ⟨some 4, .mov (.t 11), none, 0⟩]) .ret)),
  [(4, none)]⟩
/-- loop.example/g00849/spec.l04Code -/
def pf_spec_l04Code : PF := ⟨[.val], [0, 1, 6], (.seq (.reg [⟨some 1, .box (.t 0) 2, none, 0⟩,
  ⟨some 2, .mov (.k (.bool false)), none, 0⟩]) (.seq (.reg [⟨some 3, .flda 0 (.t 1), none, 0⟩,
  ⟨some 4, .load 1 false (.t 3), none, 0⟩,
  ⟨some 5, .call fn_spec_l00In [.t 4, .k (.int .i64 1), .k (.int .i64 4)], none, 0⟩,
  ⟨some 6, .mov (.t 5), none, 0⟩,
  ⟨some 7, .flda 1 (.t 1), some (6, true), 0⟩,
  ⟨some 8, .load 1 false (.t 7), some (6, true), 0⟩,
  ⟨some 9, .call fn_spec_l00In [.t 8, .k (.int .i64 0), .k (.int .i64 3)], some (6, true), 0⟩,
  ⟨some 10, .pick (.t 6) (.t 9) (.k (.bool false)), none, 0⟩,
  ⟨some 2, .mov (.t 10), none, 0⟩]) .ret)),
  [(2, none)]⟩
/-- loop.example/g00849/spec.l09OK -/
def pf_spec_l09OK : PF := ⟨[.val], [0, 1, 6, 11, 26, 31], (.seq (.reg [⟨some 1, .box (.t 0) 6, none, 0⟩,
  ⟨some 2, .mov (.k (.bool false)), none, 0⟩]) (.seq (.reg [⟨some 3, .flda 0 (.t 1), none, 0⟩,
  ⟨some 4, .load 1 false (.t 3), none, 0⟩,
  ⟨some 5, .call fn_spec_l00In [.t 4, .k (.int .i64 1), .k (.int .i64 4)], none, 0⟩,
  ⟨some 6, .mov (.t 5), none, 0⟩,
  ⟨some 7, .flda 1 (.t 1), some (6, true), 0⟩,
  ⟨some 8, .load 2 true (.t 7), some (6, true), 0⟩,
  ⟨some 9, .call fn_spec_l04Code [.t 8], some (6, true), 0⟩,
  ⟨some 10, .pick (.t 6) (.t 9) (.k (.bool false)), none, 0⟩,
  ⟨some 11, .mov (.t 10), none, 0⟩,
  ⟨some 12, .flda 3 (.t 1), some (11, true), 0⟩,
  ⟨some 13, .load 1 false (.t 12), some (11, true), 0⟩,
  ⟨some 14, .flda 1 (.t 1), some (11, true), 0⟩,
  ⟨some 15, .flda 0 (.t 14), some (11, true), 0⟩,
  ⟨some 16, .load 1 false (.t 15), some (11, true), 0⟩,
  ⟨some 17, .flda 1 (.t 1), some (11, true), 0⟩,
  ⟨some 18, .flda 0 (.t 17), some (11, true), 0⟩,
  ⟨some 19, .load 1 false (.t 18), some (11, true), 0⟩,
  ⟨some 20, .flda 1 (.t 1), some (11, true), 0⟩,
  ⟨some 21, .flda 1 (.t 20), some (11, true), 0⟩,
  ⟨some 22, .load 1 false (.t 21), some (11, true), 0⟩,
  ⟨some 23, .bin .add 0 (.t 19) (.t 22), some (11, true), 0⟩,
  ⟨some 24, .call fn_spec_l00In [.t 13, .t 16, .t 23], some (11, true), 0⟩,
  ⟨some 25, .pick (.t 11) (.t 24) (.k (.bool false)), none, 0⟩,
  ⟨some 26, .mov (.t 25), none, 0⟩,
  ⟨some 27, .flda 4 (.t 1), some (26, true), 0⟩,
  ⟨some 28, .load 1 false (.t 27), some (26, true), 0⟩,
  ⟨some 29, .call fn_spec_l00In [.t 28, .k (.int .i64 1), .k (.int .i64 16)], some (26, true), 0⟩,
  ⟨some 30, .pick (.t 26) (.t 29) (.k (.bool false)), none, 0⟩,
  ⟨some 31, .mov (.t 30), none, 0⟩,
  ⟨some 32, .flda 5 (.t 1), some (31, true), 0⟩,
  ⟨some 33, .load 1 false (.t 32), some (31, true), 0⟩,
  ⟨some 34, .call fn_spec_l00In [.t 33, .k (.int .i64 1), .k (.int .i64 4)], some (31, true), 0⟩,
  ⟨some 35, .pick (.t 31) (.t 34) (.k (.bool false)), none, 0⟩,
  ⟨some 2, .mov (.t 35), none, 0⟩]) .ret)),
  [(2, none)]⟩
/-- loop.example/g00849/spec.PoolOk -/
def pf_spec_PoolOk : PF := ⟨[.val], [0], (.seq (.reg [⟨some 1, .box (.t 0) 6, none, 0⟩,
  ⟨some 2, .mov (.k (.bool false)), none, 0⟩]) (.seq (.reg [⟨some 3, .load 6 true (.t 1), none, 0⟩,
  ⟨some 4, .call fn_spec_l09OK [.t 3], none, 0⟩,
  ⟨some 2, .mov (.t 4), none, 0⟩]) .ret)),
  [(2, none)]⟩
/-- loop.example/g00849/spec.l11Rule -/
def pf_spec_l11Rule_lb0 : PC := (.seq (.seq (.reg [⟨some 6, .mov (.t 5), none, 0⟩,
  ⟨some 7, .flda 4 (.t 2), none, 0⟩,
  ⟨some 8, .load 1 false (.t 7), none, 0⟩,
  ⟨some 9, .len true (.t 8), none, 0⟩,
  ⟨some 10, .bin .lss 0 (.t 6) (.t 9), none, 0⟩]) (.cond (.t 10) .skip (.exit 0))) (.seq (.block 1 (.seq (.reg [⟨some 13, .flda 4 (.t 2), none, 0⟩,
  ⟨some 14, .load 1 false (.t 13), none, 0⟩,
  ⟨some 15, .mov (.t 5), none, 0⟩,
  ⟨some 16, .idxa ty_impl_Rule (.t 14) (.t 15), none, 0⟩,
  ⟨some 17, .flda 0 (.t 16), none, 0⟩,
  ⟨some 18, .load 1 false (.t 17), none, 0⟩,
  ⟨some 19, .mov (.t 1), none, 0⟩,
  ⟨some 20, .bin .eql 0 (.t 18) (.t 19), none, 0⟩]) (.cond (.t 20) (.seq (.reg [⟨some 21, .mov (.t 5), none, 0⟩,
  ⟨some 4, .mov (.t 21), none, 0⟩]) .ret) .skip))) (.reg [⟨some 11, .mov (.t 5), none, 0⟩,
  ⟨some 12, .bin .add 0 (.t 11) (.k (.int .i64 1)), none, 0⟩,
  ⟨some 5, .mov (.t 12), none, 0⟩])))
def pf_spec_l11Rule_l0 : PC := .loop [] pf_spec_l11Rule_lb0
theorem ex_spec_l11Rule_l0 {C : Code} {V : List Nat} (s : St) : EX C V pf_spec_l11Rule_l0 s = EXK C V pf_spec_l11Rule_l0 (EX C V pf_spec_l11Rule_lb0 (forget [] s)) := EX_loop _ _ _
def pf_spec_l11Rule : PF := ⟨[.val, .val], [0, 1, 2, 5], (.seq (.reg [⟨some 2, .box (.t 0) 8, none, 0⟩,
  ⟨some 4, .mov (.k (.int .i64 0)), none, 0⟩]) (.seq (.seq (.reg [⟨some 5, .mov (.k (.int .i64 0)), none, 0⟩]) (.block 0 pf_spec_l11Rule_l0)) (.seq (.reg [⟨some 4, .mov (.k (.int .i64 (-1))), none, 0⟩]) .ret))),
  [(4, none)]⟩
/-- loop.example/g00849/spec.l11Device -/
def pf_spec_l11Device_lb0 : PC := (.seq (.seq (.reg [⟨some 6, .mov (.t 5), none, 0⟩,
  ⟨some 7, .flda 0 (.t 2), none, 0⟩,
  ⟨some 8, .load 1 false (.t 7), none, 0⟩,
  ⟨some 9, .len true (.t 8), none, 0⟩,
  ⟨some 10, .bin .lss 0 (.t 6) (.t 9), none, 0⟩]) (.cond (.t 10) .skip (.exit 0))) (.seq (.block 1 (.seq (.reg [⟨some 13, .flda 0 (.t 2), none, 0⟩,
  ⟨some 14, .load 1 false (.t 13), none, 0⟩,
  ⟨some 15, .mov (.t 5), none, 0⟩,
  ⟨some 16, .idxa ty_impl_Device (.t 14) (.t 15), none, 0⟩,
  ⟨some 17, .flda 0 (.t 16), none, 0⟩,
  ⟨some 18, .load 1 false (.t 17), none, 0⟩,
  ⟨some 19, .mov (.t 1), none, 0⟩,
  ⟨some 20, .bin .eql 0 (.t 18) (.t 19), none, 0⟩]) (.cond (.t 20) (.seq (.reg [⟨some 21, .mov (.t 5), none, 0⟩,
  ⟨some 4, .mov (.t 21), none, 0⟩]) .ret) .skip))) (.reg [⟨some 11, .mov (.t 5), none, 0⟩,
  ⟨some 12, .bin .add 0 (.t 11) (.k (.int .i64 1)), none, 0⟩,
  ⟨some 5, .mov (.t 12), none, 0⟩])))
def pf_spec_l11Device_l0 : PC := .loop [] pf_spec_l11Device_lb0
theorem ex_spec_l11Device_l0 {C : Code} {V : List Nat} (s : St) : EX C V pf_spec_l11Device_l0 s = EXK C V pf_spec_l11Device_l0 (EX C V pf_spec_l11Device_lb0 (forget [] s)) := EX_loop _ _ _
def pf_spec_l11Device : PF := ⟨[.val, .val], [0, 1, 2, 5], (.seq (.reg [⟨some 2, .box (.t 0) 2, none, 0⟩,
  ⟨some 4, .mov (.k (.int .i64 0)), none, 0⟩]) (.seq (.seq (.reg [⟨some 5, .mov (.k (.int .i64 0)), none, 0⟩]) (.block 0 pf_spec_l11Device_l0)) (.seq (.reg [⟨some 4, .mov (.k (.int .i64 (-1))), none, 0⟩]) .ret))),
  [(4, none)]⟩
/-- loop.example/g00849/spec.l11Nodes -/
def pf_spec_l11Nodes_lb0 : PC := (.seq (.seq (.reg [⟨some 6, .mov (.t 5), none, 0⟩,
  ⟨some 7, .mov (.t 1), none, 0⟩,
  ⟨some 8, .len true (.t 7), none, 0⟩,
  ⟨some 9, .bin .lss 0 (.t 6) (.t 8), none, 0⟩]) (.cond (.t 9) .skip (.exit 0))) (.seq (.block 1 (.seq (.any [(0, []), (1, [0]), (2, [0, 1]), (3, [0]), (4, [0]), (5, []), (6, []), (7, []), (8, []), (9, []), (10, []), (11, []), (12, [11]), (13, [11]), (14, []), (15, []), (16, [11, 12, 13, 14, 15]), (17, [11, 12, 13, 14, 15, 16]), (18, [11, 12, 13, 14, 15]), (19, [11, 12, 13, 14, 15]), (20, []), (21, []), (22, [])] [⟨some 12, .load 2 true (.t 2), none, 0⟩,
  ⟨some 13, .mov (.t 1), none, 0⟩,
  ⟨some 14, .mov (.t 5), none, 0⟩,
  ⟨some 15, .idxa ty_int64 (.t 13) (.t 14), none, 0⟩,
  ⟨some 16, .load 1 false (.t 15), none, 0⟩,
  ⟨some 17, .call fn_spec_l11Device [.t 12, .t 16], none, 0⟩,
  ⟨some 18, .bin .lss 0 (.t 17) (.k (.int .i64 0)), none, 0⟩,
  ⟨some 19, .mov (.t 18), none, 0⟩,
  ⟨some 20, .mov (.t 5), some (19, false), 0⟩,
  ⟨some 21, .bin .gtr 0 (.t 20) (.k (.int .i64 0)), some (19, false), 0⟩,
  ⟨some 22, .mov (.t 21), some (19, false), 0⟩,
  ⟨some 23, .mov (.t 1), some (22, true), 0⟩,
  ⟨some 24, .mov (.t 5), some (22, true), 0⟩,
  ⟨some 25, .bin .sub 0 (.t 24) (.k (.int .i64 1)), some (22, true), 0⟩,
  ⟨some 26, .idxa ty_int64 (.t 23) (.t 25), some (22, true), 0⟩,
  ⟨some 27, .load 1 false (.t 26), some (22, true), 0⟩,
  ⟨some 28, .mov (.t 1), some (22, true), 0⟩,
  ⟨some 29, .mov (.t 5), some (22, true), 0⟩,
  ⟨some 30, .idxa ty_int64 (.t 28) (.t 29), some (22, true), 0⟩,
  ⟨some 31, .load 1 false (.t 30), some (22, true), 0⟩,
  ⟨some 32, .bin .geq 0 (.t 27) (.t 31), some (22, true), 0⟩,
  ⟨some 33, .pick (.t 22) (.t 32) (.k (.bool false)), some (19, false), 0⟩,
  ⟨some 34, .pick (.t 19) (.k (.bool true)) (.t 33), none, 0⟩]) (.cond (.t 34) (.seq (.reg [⟨some 4, .mov (.k (.bool false)), none, 0⟩]) .ret) .skip))) (.reg [⟨some 10, .mov (.t 5), none, 0⟩,
  ⟨some 11, .bin .add 0 (.t 10) (.k (.int .i64 1)), none, 0⟩,
  ⟨some 5, .mov (.t 11), none, 0⟩])))
def pf_spec_l11Nodes_l0 : PC := .loop [] pf_spec_l11Nodes_lb0
theorem ex_spec_l11Nodes_l0 {C : Code} {V : List Nat} (s : St) : EX C V pf_spec_l11Nodes_l0 s = EXK C V pf_spec_l11Nodes_l0 (EX C V pf_spec_l11Nodes_lb0 (forget [] s)) := EX_loop _ _ _
def pf_spec_l11Nodes : PF := ⟨[.val, .val], [0, 1, 5, 19, 22], (.seq (.reg [⟨some 2, .box (.t 0) 2, none, 0⟩,
  ⟨some 4, .mov (.k (.bool false)), none, 0⟩]) (.seq (.seq (.reg [⟨some 5, .mov (.k (.int .i64 0)), none, 0⟩]) (.block 0 pf_spec_l11Nodes_l0)) (.seq (.reg [⟨some 4, .mov (.k (.bool true)), none, 0⟩]) .ret))),
  [(4, none)]⟩
/-- loop.example/g00849/spec.l11Ok -/
def pf_spec_l11Ok_lb0 : PC := (.seq (.seq (.reg [⟨some 35, .mov (.t 3), none, 0⟩,
  ⟨some 36, .flda 4 (.t 1), none, 0⟩,
  ⟨some 37, .load 1 false (.t 36), none, 0⟩,
  ⟨some 38, .len true (.t 37), none, 0⟩,
  ⟨some 39, .bin .lss 0 (.t 35) (.t 38), none, 0⟩]) (.cond (.t 39) .skip (.exit 0))) (.seq (.block 1 (.seq (.any [(0, []), (1, []), (2, [0, 1]), (3, [0, 1]), (4, [0, 1, 2, 3]), (5, [0, 1]), (6, [0, 1]), (7, []), (8, []), (9, []), (10, []), (11, []), (12, []), (13, []), (14, []), (15, [13, 14]), (16, [13, 14]), (17, []), (18, []), (19, []), (20, [13, 14, 15, 16, 17, 18, 19]), (21, [13, 14, 15, 16, 17, 18, 19]), (22, [13, 14, 15, 16, 17, 18, 19, 20, 21]), (23, [13, 14, 15, 16, 17, 18, 19]), (24, [13, 14, 15, 16, 17, 18, 19]), (25, [13, 14, 15, 16, 17, 18, 19]), (26, []), (27, []), (28, [])] [⟨some 42, .flda 2 (.t 1), none, 0⟩,
  ⟨some 43, .load 2 true (.t 42), none, 0⟩,
  ⟨some 44, .flda 4 (.t 1), none, 0⟩,
  ⟨some 45, .load 1 false (.t 44), none, 0⟩,
  ⟨some 46, .mov (.t 3), none, 0⟩,
  ⟨some 47, .idxa ty_impl_Rule (.t 45) (.t 46), none, 0⟩,
  ⟨some 48, .load 4 true (.t 47), none, 0⟩,
  ⟨some 49, .call fn_spec_RuleOk [.t 43, .t 48], none, 0⟩,
  ⟨some 50, .un .not (.t 49), none, 0⟩,
  ⟨some 51, .mov (.t 50), none, 0⟩,
  ⟨some 52, .mov (.t 3), some (51, false), 0⟩,
  ⟨some 53, .bin .gtr 0 (.t 52) (.k (.int .i64 0)), some (51, false), 0⟩,
  ⟨some 54, .mov (.t 53), some (51, false), 0⟩,
  ⟨some 55, .flda 4 (.t 1), some (54, true), 0⟩,
  ⟨some 56, .load 1 false (.t 55), some (54, true), 0⟩,
  ⟨some 57, .mov (.t 3), some (54, true), 0⟩,
  ⟨some 58, .bin .sub 0 (.t 57) (.k (.int .i64 1)), some (54, true), 0⟩,
  ⟨some 59, .idxa ty_impl_Rule (.t 56) (.t 58), some (54, true), 0⟩,
  ⟨some 60, .flda 0 (.t 59), some (54, true), 0⟩,
  ⟨some 61, .load 1 false (.t 60), some (54, true), 0⟩,
  ⟨some 62, .flda 4 (.t 1), some (54, true), 0⟩,
  ⟨some 63, .load 1 false (.t 62), some (54, true), 0⟩,
  ⟨some 64, .mov (.t 3), some (54, true), 0⟩,
  ⟨some 65, .idxa ty_impl_Rule (.t 63) (.t 64), some (54, true), 0⟩,
  ⟨some 66, .flda 0 (.t 65), some (54, true), 0⟩,
  ⟨some 67, .load 1 false (.t 66), some (54, true), 0⟩,
  ⟨some 68, .bin .geq 0 (.t 61) (.t 67), some (54, true), 0⟩,
  ⟨some 69, .pick (.t 54) (.t 68) (.k (.bool false)), some (51, false), 0⟩,
  ⟨some 70, .pick (.t 51) (.k (.bool true)) (.t 69), none, 0⟩]) (.cond (.t 70) (.seq (.reg [⟨some 2, .mov (.k (.bool false)), none, 0⟩]) .ret) .skip))) (.reg [⟨some 40, .mov (.t 3), none, 0⟩,
  ⟨some 41, .bin .add 0 (.t 40) (.k (.int .i64 1)), none, 0⟩,
  ⟨some 3, .mov (.t 41), none, 0⟩])))
def pf_spec_l11Ok_l0 : PC := .loop [] pf_spec_l11Ok_lb0
theorem ex_spec_l11Ok_l0 {C : Code} {V : List Nat} (s : St) : EX C V pf_spec_l11Ok_l0 s = EXK C V pf_spec_l11Ok_l0 (EX C V pf_spec_l11Ok_lb0 (forget [] s)) := EX_loop _ _ _
def pf_spec_l11Ok_lb1 : PC := (.seq (.seq (.reg [⟨some 71, .mov (.t 4), none, 0⟩,
  ⟨some 72, .flda 5 (.t 1), none, 0⟩,
  ⟨some 73, .load 1 false (.t 72), none, 0⟩,
  ⟨some 74, .len true (.t 73), none, 0⟩,
  ⟨some 75, .bin .lss 0 (.t 71) (.t 74), none, 0⟩]) (.cond (.t 75) .skip (.exit 2))) (.seq (.block 3 (.seq (.any [(0, []), (1, []), (2, [0, 1]), (3, []), (4, []), (5, []), (6, []), (7, []), (8, []), (9, []), (10, []), (11, []), (12, []), (13, [11, 12]), (14, [11, 12]), (15, []), (16, []), (17, []), (18, [11, 12, 13, 14, 15, 16, 17]), (19, [11, 12, 13, 14, 15, 16, 17]), (20, [11, 12, 13, 14, 15, 16, 17, 18, 19]), (21, [11, 12, 13, 14, 15, 16, 17]), (22, [11, 12, 13, 14, 15, 16, 17]), (23, [11, 12, 13, 14, 15, 16, 17]), (24, []), (25, []), (26, []), (27, []), (28, []), (29, [28]), (30, [28]), (31, [28, 29, 30]), (32, [28]), (33, [28]), (34, [28]), (35, []), (36, []), (37, [])] [⟨some 78, .flda 5 (.t 1), none, 0⟩,
  ⟨some 79, .load 1 false (.t 78), none, 0⟩,
  ⟨some 80, .mov (.t 4), none, 0⟩,
  ⟨some 81, .idxa ty_impl_Pool (.t 79) (.t 80), none, 0⟩,
  ⟨some 82, .load 6 true (.t 81), none, 0⟩,
  ⟨some 83, .call fn_spec_PoolOk [.t 82], none, 0⟩,
  ⟨some 84, .un .not (.t 83), none, 0⟩,
  ⟨some 85, .mov (.t 84), none, 0⟩,
  ⟨some 86, .mov (.t 4), some (85, false), 0⟩,
  ⟨some 87, .bin .gtr 0 (.t 86) (.k (.int .i64 0)), some (85, false), 0⟩,
  ⟨some 88, .mov (.t 87), some (85, false), 0⟩,
  ⟨some 89, .flda 5 (.t 1), some (88, true), 0⟩,
  ⟨some 90, .load 1 false (.t 89), some (88, true), 0⟩,
  ⟨some 91, .mov (.t 4), some (88, true), 0⟩,
  ⟨some 92, .bin .sub 0 (.t 91) (.k (.int .i64 1)), some (88, true), 0⟩,
  ⟨some 93, .idxa ty_impl_Pool (.t 90) (.t 92), some (88, true), 0⟩,
  ⟨some 94, .flda 0 (.t 93), some (88, true), 0⟩,
  ⟨some 95, .load 1 false (.t 94), some (88, true), 0⟩,
  ⟨some 96, .flda 5 (.t 1), some (88, true), 0⟩,
  ⟨some 97, .load 1 false (.t 96), some (88, true), 0⟩,
  ⟨some 98, .mov (.t 4), some (88, true), 0⟩,
  ⟨some 99, .idxa ty_impl_Pool (.t 97) (.t 98), some (88, true), 0⟩,
  ⟨some 100, .flda 0 (.t 99), some (88, true), 0⟩,
  ⟨some 101, .load 1 false (.t 100), some (88, true), 0⟩,
  ⟨some 102, .bin .geq 0 (.t 95) (.t 101), some (88, true), 0⟩,
  ⟨some 103, .pick (.t 88) (.t 102) (.k (.bool false)), some (85, false), 0⟩,
  ⟨some 104, .pick (.t 85) (.k (.bool true)) (.t 103), none, 0⟩,
  ⟨some 105, .mov (.t 104), none, 0⟩,
  ⟨some 106, .load 8 true (.t 1), some (105, false), 0⟩,
  ⟨some 107, .flda 5 (.t 1), some (105, false), 0⟩,
  ⟨some 108, .load 1 false (.t 107), some (105, false), 0⟩,
  ⟨some 109, .mov (.t 4), some (105, false), 0⟩,
  ⟨some 110, .idxa ty_impl_Pool (.t 108) (.t 109), some (105, false), 0⟩,
  ⟨some 111, .flda 5 (.t 110), some (105, false), 0⟩,
  ⟨some 112, .load 1 false (.t 111), some (105, false), 0⟩,
  ⟨some 113, .call fn_spec_l11Rule [.t 106, .t 112], some (105, false), 0⟩,
  ⟨some 114, .bin .lss 0 (.t 113) (.k (.int .i64 0)), some (105, false), 0⟩,
  ⟨some 115, .pick (.t 105) (.k (.bool true)) (.t 114), none, 0⟩]) (.cond (.t 115) (.seq (.reg [⟨some 2, .mov (.k (.bool false)), none, 0⟩]) .ret) .skip))) (.reg [⟨some 76, .mov (.t 4), none, 0⟩,
  ⟨some 77, .bin .add 0 (.t 76) (.k (.int .i64 1)), none, 0⟩,
  ⟨some 4, .mov (.t 77), none, 0⟩])))
def pf_spec_l11Ok_l1 : PC := .loop [] pf_spec_l11Ok_lb1
theorem ex_spec_l11Ok_l1 {C : Code} {V : List Nat} (s : St) : EX C V pf_spec_l11Ok_l1 s = EXK C V pf_spec_l11Ok_l1 (EX C V pf_spec_l11Ok_lb1 (forget [] s)) := EX_loop _ _ _
def pf_spec_l11Ok : PF := ⟨[.val], [0, 1, 3, 4, 9, 17, 23, 29, 51, 54, 85, 88, 105, 121], (.seq (.reg [⟨some 1, .box (.t 0) 8, none, 0⟩,
  ⟨some 2, .mov (.k (.bool false)), none, 0⟩]) (.seq (.seq (.reg [⟨some 5, .flda 0 (.t 1), none, 0⟩,
  ⟨some 6, .load 1 false (.t 5), none, 0⟩,
  ⟨some 7, .call fn_spec_l00In [.t 6, .k (.int .i64 1), .k (.int .i64 60)], none, 0⟩,
  ⟨some 8, .un .not (.t 7), none, 0⟩,
  ⟨some 9, .mov (.t 8), none, 0⟩,
  ⟨some 10, .flda 1 (.t 1), some (9, false), 0⟩,
  ⟨some 11, .load 1 false (.t 10), some (9, false), 0⟩,
  ⟨some 12, .flda 0 (.t 1), some (9, false), 0⟩,
  ⟨some 13, .load 1 false (.t 12), some (9, false), 0⟩,
  ⟨some 14, .call fn_spec_l00In [.t 11, .k (.int .i64 0), .t 13], some (9, false), 0⟩,
  ⟨some 15, .un .not (.t 14), some (9, false), 0⟩,
  ⟨some 16, .pick (.t 9) (.k (.bool true)) (.t 15), none, 0⟩,
  ⟨some 17, .mov (.t 16), none, 0⟩,
  ⟨some 18, .flda 2 (.t 1), some (17, false), 0⟩,
  ⟨some 19, .load 2 true (.t 18), some (17, false), 0⟩,
  ⟨some 20, .call fn_spec_TreeOk [.t 19], some (17, false), 0⟩,
  ⟨some 21, .un .not (.t 20), some (17, false), 0⟩,
  ⟨some 22, .pick (.t 17) (.k (.bool true)) (.t 21), none, 0⟩,
  ⟨some 23, .mov (.t 22), none, 0⟩,
  ⟨some 24, .flda 4 (.t 1), some (23, false), 0⟩,
  ⟨some 25, .load 1 false (.t 24), some (23, false), 0⟩,
  ⟨some 26, .len true (.t 25), some (23, false), 0⟩,
  ⟨some 27, .bin .gtr 0 (.t 26) (.k (.int .i64 4)), some (23, false), 0⟩,
  ⟨some 28, .pick (.t 23) (.k (.bool true)) (.t 27), none, 0⟩,
  ⟨some 29, .mov (.t 28), none, 0⟩,
  ⟨some 30, .flda 5 (.t 1), some (29, false), 0⟩,
  ⟨some 31, .load 1 false (.t 30), some (29, false), 0⟩,
  ⟨some 32, .len true (.t 31), some (29, false), 0⟩,
  ⟨some 33, .bin .gtr 0 (.t 32) (.k (.int .i64 4)), some (29, false), 0⟩,
  ⟨some 34, .pick (.t 29) (.k (.bool true)) (.t 33), none, 0⟩]) (.cond (.t 34) (.seq (.reg [⟨some 2, .mov (.k (.bool false)), none, 0⟩]) .ret) .skip)) (.seq (.seq (.reg [⟨some 3, .mov (.k (.int .i64 0)), none, 0⟩]) (.block 0 pf_spec_l11Ok_l0)) (.seq (.seq (.reg [⟨some 4, .mov (.k (.int .i64 0)), none, 0⟩]) (.block 2 pf_spec_l11Ok_l1)) (.seq (.reg [⟨some 116, .flda 2 (.t 1), none, 0⟩,
  ⟨some 117, .load 2 true (.t 116), none, 0⟩,
  ⟨some 118, .flda 6 (.t 1), none, 0⟩,
  ⟨some 119, .load 1 false (.t 118), none, 0⟩,
  ⟨some 120, .call fn_spec_l11Nodes [.t 117, .t 119], none, 0⟩,
  ⟨some 121, .mov (.t 120), none, 0⟩,
  ⟨some 122, .flda 2 (.t 1), some (121, true), 0⟩,
  ⟨some 123, .load 2 true (.t 122), some (121, true), 0⟩,
  ⟨some 124, .flda 7 (.t 1), some (121, true), 0⟩,
  ⟨some 125, .load 1 false (.t 124), some (121, true), 0⟩,
  ⟨some 126, .call fn_spec_l11Nodes [.t 123, .t 125], some (121, true), 0⟩,
  ⟨some 127, .pick (.t 121) (.t 126) (.k (.bool false)), none, 0⟩,
  ⟨some 2, .mov (.t 127), none, 0⟩]) .ret))))),
  [(2, none)]⟩
/-- loop.example/g00849/spec.l11Pgs -/
def pf_spec_l11Pgs_lb0 : PC := (.seq (.seq (.reg [⟨some 14, .mov (.t 5), none, 0⟩,
  ⟨some 15, .flda 5 (.t 1), none, 0⟩,
  ⟨some 16, .load 1 false (.t 15), none, 0⟩,
  ⟨some 17, .mov (.t 4), none, 0⟩,
  ⟨some 18, .idxa ty_impl_Pool (.t 16) (.t 17), none, 0⟩,
  ⟨some 19, .flda 4 (.t 18), none, 0⟩,
  ⟨some 20, .load 1 false (.t 19), none, 0⟩,
  ⟨some 21, .bin .lss 0 (.t 14) (.t 20), none, 0⟩]) (.cond (.t 21) .skip (.exit 2))) (.seq (.block 3 (.reg [⟨some 24, .mov (.t 3), none, 0⟩,
  ⟨some 25, .flda 5 (.t 1), none, 0⟩,
  ⟨some 26, .load 1 false (.t 25), none, 0⟩,
  ⟨some 27, .mov (.t 4), none, 0⟩,
  ⟨some 28, .idxa ty_impl_Pool (.t 26) (.t 27), none, 0⟩,
  ⟨some 29, .flda 0 (.t 28), none, 0⟩,
  ⟨some 30, .load 1 false (.t 29), none, 0⟩,
  ⟨some 31, .mov (.t 5), none, 0⟩,
  ⟨some 32, .build [.int .i64 0, .int .i64 0] [(0, 1), (1, 1)] [.t 30, .t 31], none, 0⟩,
  ⟨some 33, .lit ty_impl_Pg 2 [.t 32], none, 0⟩,
  ⟨some 34, .app ty_impl_Pg 16 (.t 24) (.t 33), none, 0⟩,
  ⟨some 3, .mov (.t 34), none, 0⟩])) (.reg [⟨some 22, .mov (.t 5), none, 0⟩,
  ⟨some 23, .bin .add 0 (.t 22) (.k (.int .i64 1)), none, 0⟩,
  ⟨some 5, .mov (.t 23), none, 0⟩])))
def pf_spec_l11Pgs_l0 : PC := .loop [] pf_spec_l11Pgs_lb0
theorem ex_spec_l11Pgs_l0 {C : Code} {V : List Nat} (s : St) : EX C V pf_spec_l11Pgs_l0 s = EXK C V pf_spec_l11Pgs_l0 (EX C V pf_spec_l11Pgs_lb0 (forget [] s)) := EX_loop _ _ _
def pf_spec_l11Pgs_lb1 : PC := (.seq (.seq (.reg [⟨some 7, .mov (.t 4), none, 0⟩,
  ⟨some 8, .flda 5 (.t 1), none, 0⟩,
  ⟨some 9, .load 1 false (.t 8), none, 0⟩,
  ⟨some 10, .len true (.t 9), none, 0⟩,
  ⟨some 11, .bin .lss 0 (.t 7) (.t 10), none, 0⟩]) (.cond (.t 11) .skip (.exit 0))) (.seq (.block 1 (.seq (.reg [⟨some 5, .mov (.k (.int .i64 0)), none, 0⟩]) (.block 2 pf_spec_l11Pgs_l0))) (.reg [⟨some 12, .mov (.t 4), none, 0⟩,
  ⟨some 13, .bin .add 0 (.t 12) (.k (.int .i64 1)), none, 0⟩,
  ⟨some 4, .mov (.t 13), none, 0⟩])))
def pf_spec_l11Pgs_l1 : PC := .loop [] pf_spec_l11Pgs_lb1
theorem ex_spec_l11Pgs_l1 {C : Code} {V : List Nat} (s : St) : EX C V pf_spec_l11Pgs_l1 s = EXK C V pf_spec_l11Pgs_l1 (EX C V pf_spec_l11Pgs_lb1 (forget [] s)) := EX_loop _ _ _
def pf_spec_l11Pgs : PF := ⟨[.val], [0, 1, 3, 4, 5], (.seq (.reg [⟨some 1, .box (.t 0) 8, none, 0⟩,
  ⟨some 2, .mov (.k (.sl 2 ty_impl_Pg [])), none, 0⟩]) (.seq (.reg [⟨some 6, .lit ty_impl_Pg 2 [], none, 0⟩,
  ⟨some 3, .mov (.t 6), none, 0⟩]) (.seq (.seq (.reg [⟨some 4, .mov (.k (.int .i64 0)), none, 0⟩]) (.block 0 pf_spec_l11Pgs_l1)) (.seq (.reg [⟨some 35, .mov (.t 3), none, 0⟩,
  ⟨some 2, .mov (.t 35), none, 0⟩]) .ret)))),
  [(2, none)]⟩
/-- loop.example/g00849/spec.PgsOf -/
def pf_spec_PgsOf : PF := ⟨[.val], [0, 1], (.seq (.reg [⟨some 1, .box (.t 0) 8, none, 0⟩,
  ⟨some 2, .mov (.k (.sl 2 ty_impl_Pg [])), none, 0⟩]) (.seq (.seq (.reg [⟨some 3, .load 8 true (.t 1), none, 0⟩,
  ⟨some 4, .call fn_spec_l11Ok [.t 3], none, 0⟩,
  ⟨some 5, .un .not (.t 4), none, 0⟩]) (.cond (.t 5) (.seq (.reg [⟨some 6, .lit ty_impl_Pg 2 [], none, 0⟩,
  ⟨some 2, .mov (.t 6), none, 0⟩]) .ret) .skip)) (.seq (.reg [⟨some 7, .ldt 8 (.t 1), none, 0⟩,
  ⟨some 8, .call fn_spec_l11Pgs [.t 7], none, 0⟩,
  ⟨some 2, .mov (.t 8), none, 0⟩]) .ret))),
  [(2, none)]⟩
/-- loop.example/g00849/laws.toDevice -/
def pf_laws_toDevice : PF := ⟨[.val], [0, 1, 3], (.seq (.reg [⟨some 1, .box (.t 0) 2, none, 0⟩,
  ⟨some 2, .alloc [.int .i64 0, .int .i64 0], none, 0⟩]) (.seq (.reg [⟨some 3, .alloc [.int .i64 0, .int .i64 0], none, 0⟩]) (.seq (.reg [⟨some 4, .flda 0 (.t 1), none, 0⟩,
  ⟨some 5, .load 1 false (.t 4), none, 0⟩,
  ⟨some 6, .flda 0 (.t 3), none, 0⟩,
  ⟨none, .store 1 (.t 6) (.t 5), none, 0⟩]) (.seq (.reg [⟨some 7, .flda 1 (.t 1), none, 0⟩,
  ⟨some 8, .load 1 false (.t 7), none, 0⟩,
  ⟨some 9, .flda 1 (.t 3), none, 0⟩,
  ⟨none, .store 1 (.t 9) (.t 8), none, 0⟩]) (.seq (.reg [⟨some 10, .load 2 true (.t 3), none, 0⟩,
  ⟨none, .store 2 (.t 2) (.t 10), none, 0⟩]) .ret))))),
  [(2, some (2, true))]⟩
/-- loop.example/g00849/laws.toDeviceS -/
def pf_laws_toDeviceS_lb0 : PC := (.seq (.seq (.reg [⟨some 8, .mov (.t 4), none, 0⟩,
  ⟨some 9, .mov (.t 0), none, 0⟩,
  ⟨some 10, .len true (.t 9), none, 0⟩,
  ⟨some 11, .bin .lss 0 (.t 8) (.t 10), none, 0⟩]) (.cond (.t 11) .skip (.exit 0))) (.seq (.block 1 (.reg [⟨some 14, .mov (.t 3), none, 0⟩,
  ⟨some 15, .mov (.t 4), none, 0⟩,
  ⟨some 16, .mov (.t 0), none, 0⟩,
  ⟨some 17, .mov (.t 4), none, 0⟩,
  ⟨some 18, .idxa ty_laws_Device (.t 16) (.t 17), none, 0⟩,
  ⟨some 19, .load 2 true (.t 18), none, 0⟩,
  ⟨some 20, .call fn_laws_toDevice [.t 19], none, 0⟩,
  ⟨some 21, .idxa ty_impl_Device (.t 14) (.t 15), none, 0⟩,
  ⟨none, .store 2 (.t 21) (.t 20), none, 0⟩])) (.reg [⟨some 12, .mov (.t 4), none, 0⟩,
  ⟨some 13, .bin .add 0 (.t 12) (.k (.int .i64 1)), none, 0⟩,
  ⟨some 4, .mov (.t 13), none, 0⟩])))
def pf_laws_toDeviceS_l0 : PC := .loop [] pf_laws_toDeviceS_lb0
theorem ex_laws_toDeviceS_l0 {C : Code} {V : List Nat} (s : St) : EX C V pf_laws_toDeviceS_l0 s = EXK C V pf_laws_toDeviceS_l0 (EX C V pf_laws_toDeviceS_lb0 (forget [] s)) := EX_loop _ _ _
def pf_laws_toDeviceS : PF := ⟨[.val], [0, 3, 4, 6], (.seq (.reg [⟨some 2, .mov (.k (.sl 2 ty_impl_Device [])), none, 0⟩]) (.seq (.reg [⟨some 5, .mov (.t 0), none, 0⟩,
  ⟨some 6, .len true (.t 5), none, 0⟩,
  ⟨some 7, .mks ty_impl_Device (.agg [.int .i64 0, .int .i64 0]) 16 (.t 6), none, 0⟩,
  ⟨some 3, .mov (.t 7), none, 0⟩]) (.seq (.seq (.reg [⟨some 4, .mov (.k (.int .i64 0)), none, 0⟩]) (.block 0 pf_laws_toDeviceS_l0)) (.seq (.reg [⟨some 22, .mov (.t 3), none, 0⟩,
  ⟨some 2, .mov (.t 22), none, 0⟩]) .ret)))),
  [(2, none)]⟩
/-- loop.example/g00849/laws.toInt64S -/
def pf_laws_toInt64S_lb0 : PC := (.seq (.seq (.reg [⟨some 8, .mov (.t 4), none, 0⟩,
  ⟨some 9, .mov (.t 0), none, 0⟩,
  ⟨some 10, .len true (.t 9), none, 0⟩,
  ⟨some 11, .bin .lss 0 (.t 8) (.t 10), none, 0⟩]) (.cond (.t 11) .skip (.exit 0))) (.seq (.block 1 (.reg [⟨some 14, .mov (.t 3), none, 0⟩,
  ⟨some 15, .mov (.t 4), none, 0⟩,
  ⟨some 16, .mov (.t 0), none, 0⟩,
  ⟨some 17, .mov (.t 4), none, 0⟩,
  ⟨some 18, .idxa ty_int64 (.t 16) (.t 17), none, 0⟩,
  ⟨some 19, .load 1 false (.t 18), none, 0⟩,
  ⟨some 20, .idxa ty_int64 (.t 14) (.t 15), none, 0⟩,
  ⟨none, .store 1 (.t 20) (.t 19), none, 0⟩])) (.reg [⟨some 12, .mov (.t 4), none, 0⟩,
  ⟨some 13, .bin .add 0 (.t 12) (.k (.int .i64 1)), none, 0⟩,
  ⟨some 4, .mov (.t 13), none, 0⟩])))
def pf_laws_toInt64S_l0 : PC := .loop [] pf_laws_toInt64S_lb0
theorem ex_laws_toInt64S_l0 {C : Code} {V : List Nat} (s : St) : EX C V pf_laws_toInt64S_l0 s = EXK C V pf_laws_toInt64S_l0 (EX C V pf_laws_toInt64S_lb0 (forget [] s)) := EX_loop _ _ _
def pf_laws_toInt64S : PF := ⟨[.val], [0, 3, 4, 6], (.seq (.reg [⟨some 2, .mov (.k (.sl 2 ty_int64 [])), none, 0⟩]) (.seq (.reg [⟨some 5, .mov (.t 0), none, 0⟩,
  ⟨some 6, .len true (.t 5), none, 0⟩,
  ⟨some 7, .mks ty_int64 (.int .i64 0) 8 (.t 6), none, 0⟩,
  ⟨some 3, .mov (.t 7), none, 0⟩]) (.seq (.seq (.reg [⟨some 4, .mov (.k (.int .i64 0)), none, 0⟩]) (.block 0 pf_laws_toInt64S_l0)) (.seq (.reg [⟨some 21, .mov (.t 3), none, 0⟩,
  ⟨some 2, .mov (.t 21), none, 0⟩]) .ret)))),
  [(2, none)]⟩
/-- loop.example/g00849/laws.toBucket -/
def pf_laws_toBucket : PF := ⟨[.val], [0, 1, 3], (.seq (.reg [⟨some 1, .box (.t 0) 3, none, 0⟩,
  ⟨some 2, .alloc [.int .i64 0, .int .i64 0, .sl 2 ty_int64 []], none, 0⟩]) (.seq (.reg [⟨some 3, .alloc [.int .i64 0, .int .i64 0, .sl 2 ty_int64 []], none, 0⟩]) (.seq (.reg [⟨some 4, .flda 0 (.t 1), none, 0⟩,
  ⟨some 5, .load 1 false (.t 4), none, 0⟩,
  ⟨some 6, .flda 0 (.t 3), none, 0⟩,
  ⟨none, .store 1 (.t 6) (.t 5), none, 0⟩]) (.seq (.reg [⟨some 7, .flda 1 (.t 1), none, 0⟩,
  ⟨some 8, .load 1 false (.t 7), none, 0⟩,
  ⟨some 9, .flda 1 (.t 3), none, 0⟩,
  ⟨none, .store 1 (.t 9) (.t 8), none, 0⟩]) (.seq (.reg [⟨some 10, .flda 2 (.t 1), none, 0⟩,
  ⟨some 11, .load 1 false (.t 10), none, 0⟩,
  ⟨some 12, .call fn_laws_toInt64S [.t 11], none, 0⟩,
  ⟨some 13, .flda 2 (.t 3), none, 0⟩,
  ⟨none, .store 1 (.t 13) (.t 12), none, 0⟩]) (.seq (.reg [⟨some 14, .ldt 3 (.t 3), none, 0⟩,
  ⟨none, .store 3 (.t 2) (.t 14), none, 0⟩]) .ret)))))),
  [(2, some (3, true))]⟩
/-- loop.example/g00849/laws.toBucketS -/
def pf_laws_toBucketS_lb0 : PC := (.seq (.seq (.reg [⟨some 8, .mov (.t 4), none, 0⟩,
  ⟨some 9, .mov (.t 0), none, 0⟩,
  ⟨some 10, .len true (.t 9), none, 0⟩,
  ⟨some 11, .bin .lss 0 (.t 8) (.t 10), none, 0⟩]) (.cond (.t 11) .skip (.exit 0))) (.seq (.block 1 (.reg [⟨some 14, .mov (.t 3), none, 0⟩,
  ⟨some 15, .mov (.t 4), none, 0⟩,
  ⟨some 16, .mov (.t 0), none, 0⟩,
  ⟨some 17, .mov (.t 4), none, 0⟩,
  ⟨some 18, .idxa ty_laws_Bucket (.t 16) (.t 17), none, 0⟩,
  ⟨some 19, .load 3 true (.t 18), none, 0⟩,
  ⟨some 20, .call fn_laws_toBucket [.t 19], none, 0⟩,
  ⟨some 21, .idxa ty_impl_Bucket (.t 14) (.t 15), none, 0⟩,
  ⟨none, .store 3 (.t 21) (.t 20), none, 0⟩])) (.reg [⟨some 12, .mov (.t 4), none, 0⟩,
  ⟨some 13, .bin .add 0 (.t 12) (.k (.int .i64 1)), none, 0⟩,
  ⟨some 4, .mov (.t 13), none, 0⟩])))
def pf_laws_toBucketS_l0 : PC := .loop [] pf_laws_toBucketS_lb0
theorem ex_laws_toBucketS_l0 {C : Code} {V : List Nat} (s : St) : EX C V pf_laws_toBucketS_l0 s = EXK C V pf_laws_toBucketS_l0 (EX C V pf_laws_toBucketS_lb0 (forget [] s)) := EX_loop _ _ _
def pf_laws_toBucketS : PF := ⟨[.val], [0, 3, 4, 6], (.seq (.reg [⟨some 2, .mov (.k (.sl 2 ty_impl_Bucket [])), none, 0⟩]) (.seq (.reg [⟨some 5, .mov (.t 0), none, 0⟩,
  ⟨some 6, .len true (.t 5), none, 0⟩,
  ⟨some 7, .mks ty_impl_Bucket (.agg [.int .i64 0, .int .i64 0, .sl 2 ty_int64 []]) 40 (.t 6), none, 0⟩,
  ⟨some 3, .mov (.t 7), none, 0⟩]) (.seq (.seq (.reg [⟨some 4, .mov (.k (.int .i64 0)), none, 0⟩]) (.block 0 pf_laws_toBucketS_l0)) (.seq (.reg [⟨some 22, .mov (.t 3), none, 0⟩,
  ⟨some 2, .mov (.t 22), none, 0⟩]) .ret)))),
  [(2, none)]⟩
/-- loop.example/g00849/laws.toTree -/
def pf_laws_toTree : PF := ⟨[.val], [0, 1, 3], (.seq (.reg [⟨some 1, .box (.t 0) 2, none, 0⟩,
  ⟨some 2, .alloc [.sl 2 ty_impl_Device [], .sl 2 ty_impl_Bucket []], none, 0⟩]) (.seq (.reg [⟨some 3, .alloc [.sl 2 ty_impl_Device [], .sl 2 ty_impl_Bucket []], none, 0⟩]) (.seq (.reg [⟨some 4, .flda 0 (.t 1), none, 0⟩,
  ⟨some 5, .load 1 false (.t 4), none, 0⟩,
  ⟨some 6, .call fn_laws_toDeviceS [.t 5], none, 0⟩,
  ⟨some 7, .flda 0 (.t 3), none, 0⟩,
  ⟨none, .store 1 (.t 7) (.t 6), none, 0⟩]) (.seq (.reg [⟨some 8, .flda 1 (.t 1), none, 0⟩,
  ⟨some 9, .load 1 false (.t 8), none, 0⟩,
  ⟨some 10, .call fn_laws_toBucketS [.t 9], none, 0⟩,
  ⟨some 11, .flda 1 (.t 3), none, 0⟩,
  ⟨none, .store 1 (.t 11) (.t 10), none, 0⟩]) (.seq (.reg [⟨some 12, .ldt 2 (.t 3), none, 0⟩,
  ⟨none, .store 2 (.t 2) (.t 12), none, 0⟩]) .ret))))),
  [(2, some (2, true))]⟩
/-- loop.example/g00849/laws.toRule -/
def pf_laws_toRule : PF := ⟨[.val], [0, 1, 3], (.seq (.reg [⟨some 1, .box (.t 0) 4, none, 0⟩,
  ⟨some 2, .alloc [.int .i64 0, .int .i64 0, .int .i64 0, .bool false], none, 0⟩]) (.seq (.reg [⟨some 3, .alloc [.int .i64 0, .int .i64 0, .int .i64 0, .bool false], none, 0⟩]) (.seq (.reg [⟨some 4, .flda 0 (.t 1), none, 0⟩,
  ⟨some 5, .load 1 false (.t 4), none, 0⟩,
  ⟨some 6, .flda 0 (.t 3), none, 0⟩,
  ⟨none, .store 1 (.t 6) (.t 5), none, 0⟩]) (.seq (.reg [⟨some 7, .flda 1 (.t 1), none, 0⟩,
  ⟨some 8, .load 1 false (.t 7), none, 0⟩,
  ⟨some 9, .flda 1 (.t 3), none, 0⟩,
  ⟨none, .store 1 (.t 9) (.t 8), none, 0⟩]) (.seq (.reg [⟨some 10, .flda 2 (.t 1), none, 0⟩,
  ⟨some 11, .load 1 false (.t 10), none, 0⟩,
  ⟨some 12, .flda 2 (.t 3), none, 0⟩,
  ⟨none, .store 1 (.t 12) (.t 11), none, 0⟩]) (.seq (.reg [⟨some 13, .flda 3 (.t 1), none, 0⟩,
  ⟨some 14, .load 1 false (.t 13), none, 0⟩,
  ⟨some 15, .flda 3 (.t 3), none, 0⟩,
  ⟨none, .store 1 (.t 15) (.t 14), none, 0⟩]) (.seq (.reg [⟨some 16, .load 4 true (.t 3), none, 0⟩,
  ⟨none, .store 4 (.t 2) (.t 16), none, 0⟩]) .ret))))))),
  [(2, some (4, true))]⟩
/-- loop.example/g00849/laws.toRuleS -/
def pf_laws_toRuleS_lb0 : PC := (.seq (.seq (.reg [⟨some 8, .mov (.t 4), none, 0⟩,
  ⟨some 9, .mov (.t 0), none, 0⟩,
  ⟨some 10, .len true (.t 9), none, 0⟩,
  ⟨some 11, .bin .lss 0 (.t 8) (.t 10), none, 0⟩]) (.cond (.t 11) .skip (.exit 0))) (.seq (.block 1 (.reg [⟨some 14, .mov (.t 3), none, 0⟩,
  ⟨some 15, .mov (.t 4), none, 0⟩,
  ⟨some 16, .mov (.t 0), none, 0⟩,
  ⟨some 17, .mov (.t 4), none, 0⟩,
  ⟨some 18, .idxa ty_laws_Rule (.t 16) (.t 17), none, 0⟩,
  ⟨some 19, .load 4 true (.t 18), none, 0⟩,
  ⟨some 20, .call fn_laws_toRule [.t 19], none, 0⟩,
  ⟨some 21, .idxa ty_impl_Rule (.t 14) (.t 15), none, 0⟩,
  ⟨none, .store 4 (.t 21) (.t 20), none, 0⟩])) (.reg [⟨some 12, .mov (.t 4), none, 0⟩,
  ⟨some 13, .bin .add 0 (.t 12) (.k (.int .i64 1)), none, 0⟩,
  ⟨some 4, .mov (.t 13), none, 0⟩])))
def pf_laws_toRuleS_l0 : PC := .loop [] pf_laws_toRuleS_lb0
theorem ex_laws_toRuleS_l0 {C : Code} {V : List Nat} (s : St) : EX C V pf_laws_toRuleS_l0 s = EXK C V pf_laws_toRuleS_l0 (EX C V pf_laws_toRuleS_lb0 (forget [] s)) := EX_loop _ _ _
def pf_laws_toRuleS : PF := ⟨[.val], [0, 3, 4, 6], (.seq (.reg [⟨some 2, .mov (.k (.sl 2 ty_impl_Rule [])), none, 0⟩]) (.seq (.reg [⟨some 5, .mov (.t 0), none, 0⟩,
  ⟨some 6, .len true (.t 5), none, 0⟩,
  ⟨some 7, .mks ty_impl_Rule (.agg [.int .i64 0, .int .i64 0, .int .i64 0, .bool false]) 32 (.t 6), none, 0⟩,
  ⟨some 3, .mov (.t 7), none, 0⟩]) (.seq (.seq (.reg [⟨some 4, .mov (.k (.int .i64 0)), none, 0⟩]) (.block 0 pf_laws_toRuleS_l0)) (.seq (.reg [⟨some 22, .mov (.t 3), none, 0⟩,
  ⟨some 2, .mov (.t 22), none, 0⟩]) .ret)))),
  [(2, none)]⟩
/-- loop.example/g00849/laws.toCode -/
def pf_laws_toCode : PF := ⟨[.val], [0, 1, 3], (.seq (.reg [⟨some 1, .box (.t 0) 2, none, 0⟩,
  ⟨some 2, .alloc [.int .i64 0, .int .i64 0], none, 0⟩]) (.seq (.reg [⟨some 3, .alloc [.int .i64 0, .int .i64 0], none, 0⟩]) (.seq (.reg [⟨some 4, .flda 0 (.t 1), none, 0⟩,
  ⟨some 5, .load 1 false (.t 4), none, 0⟩,
  ⟨some 6, .flda 0 (.t 3), none, 0⟩,
  ⟨none, .store 1 (.t 6) (.t 5), none, 0⟩]) (.seq (.reg [⟨some 7, .flda 1 (.t 1), none, 0⟩,
  ⟨some 8, .load 1 false (.t 7), none, 0⟩,
  ⟨some 9, .flda 1 (.t 3), none, 0⟩,
  ⟨none, .store 1 (.t 9) (.t 8), none, 0⟩]) (.seq (.reg [⟨some 10, .load 2 true (.t 3), none, 0⟩,
  ⟨none, .store 2 (.t 2) (.t 10), none, 0⟩]) .ret))))),
  [(2, some (2, true))]⟩
/-- loop.example/g00849/laws.toPool -/
def pf_laws_toPool : PF := ⟨[.val], [0, 1, 3], (.seq (.reg [⟨some 1, .box (.t 0) 6, none, 0⟩,
  ⟨some 2, .alloc [.int .i64 0, .int .i64 0, .int .i64 0, .int .i64 0, .int .i64 0, .int .i64 0], none, 0⟩]) (.seq (.reg [⟨some 3, .alloc [.int .i64 0, .int .i64 0, .int .i64 0, .int .i64 0, .int .i64 0, .int .i64 0], none, 0⟩]) (.seq (.reg [⟨some 4, .flda 0 (.t 1), none, 0⟩,
  ⟨some 5, .load 1 false (.t 4), none, 0⟩,
  ⟨some 6, .flda 0 (.t 3), none, 0⟩,
  ⟨none, .store 1 (.t 6) (.t 5), none, 0⟩]) (.seq (.reg [⟨some 7, .flda 1 (.t 1), none, 0⟩,
  ⟨some 8, .load 2 true (.t 7), none, 0⟩,
  ⟨some 9, .call fn_laws_toCode [.t 8], none, 0⟩,
  ⟨some 10, .flda 1 (.t 3), none, 0⟩,
  ⟨none, .store 2 (.t 10) (.t 9), none, 0⟩]) (.seq (.reg [⟨some 11, .flda 3 (.t 1), none, 0⟩,
  ⟨some 12, .load 1 false (.t 11), none, 0⟩,
  ⟨some 13, .flda 3 (.t 3), none, 0⟩,
  ⟨none, .store 1 (.t 13) (.t 12), none, 0⟩]) (.seq (.reg [⟨some 14, .flda 4 (.t 1), none, 0⟩,
  ⟨some 15, .load 1 false (.t 14), none, 0⟩,
  ⟨some 16, .flda 4 (.t 3), none, 0⟩,
  ⟨none, .store 1 (.t 16) (.t 15), none, 0⟩]) (.seq (.reg [⟨some 17, .flda 5 (.t 1), none, 0⟩,
  ⟨some 18, .load 1 false (.t 17), none, 0⟩,
  ⟨some 19, .flda 5 (.t 3), none, 0⟩,
  ⟨none, .store 1 (.t 19) (.t 18), none, 0⟩]) (.seq (.reg [⟨some 20, .load 6 true (.t 3), none, 0⟩,
  ⟨none, .store 6 (.t 2) (.t 20), none, 0⟩]) .ret)))))))),
  [(2, some (6, true))]⟩
/-- loop.example/g00849/laws.toPoolS -/
def pf_laws_toPoolS_lb0 : PC := (.seq (.seq (.reg [⟨some 8, .mov (.t 4), none, 0⟩,
  ⟨some 9, .mov (.t 0), none, 0⟩,
  ⟨some 10, .len true (.t 9), none, 0⟩,
  ⟨some 11, .bin .lss 0 (.t 8) (.t 10), none, 0⟩]) (.cond (.t 11) .skip (.exit 0))) (.seq (.block 1 (.reg [⟨some 14, .mov (.t 3), none, 0⟩,
  ⟨some 15, .mov (.t 4), none, 0⟩,
  ⟨some 16, .mov (.t 0), none, 0⟩,
  ⟨some 17, .mov (.t 4), none, 0⟩,
  ⟨some 18, .idxa ty_laws_Pool (.t 16) (.t 17), none, 0⟩,
  ⟨some 19, .load 6 true (.t 18), none, 0⟩,
  ⟨some 20, .call fn_laws_toPool [.t 19], none, 0⟩,
  ⟨some 21, .idxa ty_impl_Pool (.t 14) (.t 15), none, 0⟩,
  ⟨none, .store 6 (.t 21) (.t 20), none, 0⟩])) (.reg [⟨some 12, .mov (.t 4), none, 0⟩,
  ⟨some 13, .bin .add 0 (.t 12) (.k (.int .i64 1)), none, 0⟩,
  ⟨some 4, .mov (.t 13), none, 0⟩])))
def pf_laws_toPoolS_l0 : PC := .loop [] pf_laws_toPoolS_lb0
theorem ex_laws_toPoolS_l0 {C : Code} {V : List Nat} (s : St) : EX C V pf_laws_toPoolS_l0 s = EXK C V pf_laws_toPoolS_l0 (EX C V pf_laws_toPoolS_lb0 (forget [] s)) := EX_loop _ _ _
def pf_laws_toPoolS : PF := ⟨[.val], [0, 3, 4, 6], (.seq (.reg [⟨some 2, .mov (.k (.sl 2 ty_impl_Pool [])), none, 0⟩]) (.seq (.reg [⟨some 5, .mov (.t 0), none, 0⟩,
  ⟨some 6, .len true (.t 5), none, 0⟩,
  ⟨some 7, .mks ty_impl_Pool (.agg [.int .i64 0, .int .i64 0, .int .i64 0, .int .i64 0, .int .i64 0, .int .i64 0]) 48 (.t 6), none, 0⟩,
  ⟨some 3, .mov (.t 7), none, 0⟩]) (.seq (.seq (.reg [⟨some 4, .mov (.k (.int .i64 0)), none, 0⟩]) (.block 0 pf_laws_toPoolS_l0)) (.seq (.reg [⟨some 22, .mov (.t 3), none, 0⟩,
  ⟨some 2, .mov (.t 22), none, 0⟩]) .ret)))),
  [(2, none)]⟩
/-- loop.example/g00849/laws.toMap -/
def pf_laws_toMap : PF := ⟨[.val], [0, 1, 3], (.seq (.reg [⟨some 1, .box (.t 0) 8, none, 0⟩,
  ⟨some 2, .alloc [.int .i64 0, .int .i64 0, .sl 2 ty_impl_Device [], .sl 2 ty_impl_Bucket [], .sl 2 ty_impl_Rule [], .sl 2 ty_impl_Pool [], .sl 2 ty_int64 [], .sl 2 ty_int64 []], none, 0⟩]) (.seq (.reg [⟨some 3, .alloc [.int .i64 0, .int .i64 0, .sl 2 ty_impl_Device [], .sl 2 ty_impl_Bucket [], .sl 2 ty_impl_Rule [], .sl 2 ty_impl_Pool [], .sl 2 ty_int64 [], .sl 2 ty_int64 []], none, 0⟩]) (.seq (.reg [⟨some 4, .flda 0 (.t 1), none, 0⟩,
  ⟨some 5, .load 1 false (.t 4), none, 0⟩,
  ⟨some 6, .flda 0 (.t 3), none, 0⟩,
  ⟨none, .store 1 (.t 6) (.t 5), none, 0⟩]) (.seq (.reg [⟨some 7, .flda 1 (.t 1), none, 0⟩,
  ⟨some 8, .load 1 false (.t 7), none, 0⟩,
  ⟨some 9, .flda 1 (.t 3), none, 0⟩,
  ⟨none, .store 1 (.t 9) (.t 8), none, 0⟩]) (.seq (.reg [⟨some 10, .flda 2 (.t 1), none, 0⟩,
  ⟨some 11, .load 2 true (.t 10), none, 0⟩,
  ⟨some 12, .call fn_laws_toTree [.t 11], none, 0⟩,
  ⟨some 13, .flda 2 (.t 3), none, 0⟩,
  ⟨none, .store 2 (.t 13) (.t 12), none, 0⟩]) (.seq (.reg [⟨some 14, .flda 4 (.t 1), none, 0⟩,
  ⟨some 15, .load 1 false (.t 14), none, 0⟩,
  ⟨some 16, .call fn_laws_toRuleS [.t 15], none, 0⟩,
  ⟨some 17, .flda 4 (.t 3), none, 0⟩,
  ⟨none, .store 1 (.t 17) (.t 16), none, 0⟩]) (.seq (.reg [⟨some 18, .flda 5 (.t 1), none, 0⟩,
  ⟨some 19, .load 1 false (.t 18), none, 0⟩,
  ⟨some 20, .call fn_laws_toPoolS [.t 19], none, 0⟩,
  ⟨some 21, .flda 5 (.t 3), none, 0⟩,
  ⟨none, .store 1 (.t 21) (.t 20), none, 0⟩]) (.seq (.reg [⟨some 22, .flda 6 (.t 1), none, 0⟩,
  ⟨some 23, .load 1 false (.t 22), none, 0⟩,
  ⟨some 24, .call fn_laws_toInt64S [.t 23], none, 0⟩,
  ⟨some 25, .flda 6 (.t 3), none, 0⟩,
  ⟨none, .store 1 (.t 25) (.t 24), none, 0⟩]) (.seq (.reg [⟨some 26, .flda 7 (.t 1), none, 0⟩,
  ⟨some 27, .load 1 false (.t 26), none, 0⟩,
  ⟨some 28, .call fn_laws_toInt64S [.t 27], none, 0⟩,
  ⟨some 29, .flda 7 (.t 3), none, 0⟩,
  ⟨none, .store 1 (.t 29) (.t 28), none, 0⟩]) (.seq (.reg [⟨some 30, .ldt 8 (.t 3), none, 0⟩,
  ⟨none, .store 8 (.t 2) (.t 30), none, 0⟩]) .ret)))))))))),
  [(2, some (8, true))]⟩
/-- loop.example/g00849/impl.between -/
def pf_impl_between : PF := ⟨[.val, .val, .val], [0, 1, 2, 10], (.seq (.reg [⟨some 6, .mov (.k (.bool false)), none, 0⟩]) (.seq (.reg [⟨some 7, .mov (.t 0), none, 0⟩,
  ⟨some 8, .mov (.t 1), none, 0⟩,
  ⟨some 9, .bin .geq 0 (.t 7) (.t 8), none, 0⟩,
  ⟨some 10, .mov (.t 9), none, 0⟩,
  ⟨some 11, .mov (.t 0), some (10, true), 0⟩,
  ⟨some 12, .mov (.t 2), some (10, true), 0⟩,
  ⟨some 13, .bin .leq 0 (.t 11) (.t 12), some (10, true), 0⟩,
  ⟨some 14, .pick (.t 10) (.t 13) (.k (.bool false)), none, 0⟩,
  ⟨some 6, .mov (.t 14), none, 0⟩]) .ret)),
  [(6, none)]⟩
/-- loop.example/g00849/impl.isNode -/
def pf_impl_isNode : PF := ⟨[.val], [0], (.seq (.reg [⟨some 2, .mov (.k (.bool false)), none, 0⟩]) (.seq (.reg [⟨some 3, .mov (.t 0), none, 0⟩,
  ⟨some 4, .call fn_impl_between [.t 3, .k (.int .i64 0), .k (.int .i64 15)], none, 0⟩,
  ⟨some 2, .mov (.t 4), none, 0⟩]) .ret)),
  [(2, none)]⟩
/-- (loop.example/g00849/impl.Tree).devicesOk -/
def pf_impl_Tree_devicesOk_lb0 : PC := (.seq (.reg [⟨some 9, .bin .lss 0 (.t 8) (.t 7), none, 0⟩]) (.seq (.cond (.t 9) .skip (.exit 0)) (.seq (.block 1 (.seq (.reg [⟨some 10, .mov (.t 8), none, 0⟩,
  ⟨some 11, .idxa ty_impl_Device (.t 6) (.t 8), none, 0⟩,
  ⟨some 12, .load 2 true (.t 11), none, 0⟩,
  ⟨some 4, .alloc [.int .i64 0, .int .i64 0], none, 0⟩,
  ⟨some 3, .mov (.t 10), none, 0⟩,
  ⟨none, .store 2 (.t 4) (.t 12), none, 0⟩]) (.seq (.any [(0, []), (1, []), (2, []), (3, []), (4, []), (5, []), (6, []), (7, []), (8, []), (9, []), (10, [8, 9]), (11, [8, 9]), (12, [8, 9, 10, 11]), (13, [8, 9, 10, 11]), (14, [8, 9]), (15, [8, 9]), (16, [8, 9]), (17, []), (18, []), (19, []), (20, []), (21, []), (22, []), (23, []), (24, []), (25, [])] [⟨some 13, .flda 0 (.t 4), none, 0⟩,
  ⟨some 14, .load 1 false (.t 13), none, 0⟩,
  ⟨some 15, .call fn_impl_isNode [.t 14], none, 0⟩,
  ⟨some 16, .un .not (.t 15), none, 0⟩,
  ⟨some 17, .mov (.t 16), none, 0⟩,
  ⟨some 18, .mov (.t 3), some (17, false), 0⟩,
  ⟨some 19, .bin .gtr 0 (.t 18) (.k (.int .i64 0)), some (17, false), 0⟩,
  ⟨some 20, .mov (.t 19), some (17, false), 0⟩,
  ⟨some 21, .flda 0 (.t 4), some (20, true), 0⟩,
  ⟨some 22, .load 1 false (.t 21), some (20, true), 0⟩,
  ⟨some 23, .flda 0 (.t 1), some (20, true), 0⟩,
  ⟨some 24, .load 1 false (.t 23), some (20, true), 0⟩,
  ⟨some 25, .mov (.t 3), some (20, true), 0⟩,
  ⟨some 26, .bin .sub 0 (.t 25) (.k (.int .i64 1)), some (20, true), 0⟩,
  ⟨some 27, .idxa ty_impl_Device (.t 24) (.t 26), some (20, true), 0⟩,
  ⟨some 28, .flda 0 (.t 27), some (20, true), 0⟩,
  ⟨some 29, .load 1 false (.t 28), some (20, true), 0⟩,
  ⟨some 30, .bin .leq 0 (.t 22) (.t 29), some (20, true), 0⟩,
  ⟨some 31, .pick (.t 20) (.t 30) (.k (.bool false)), some (17, false), 0⟩,
  ⟨some 32, .pick (.t 17) (.k (.bool true)) (.t 31), none, 0⟩,
  ⟨some 33, .mov (.t 32), none, 0⟩,
  ⟨some 34, .flda 1 (.t 4), some (33, false), 0⟩,
  ⟨some 35, .load 1 false (.t 34), some (33, false), 0⟩,
  ⟨some 36, .call fn_impl_between [.t 35, .k (.int .i64 0), .k (.int .i64 8)], some (33, false), 0⟩,
  ⟨some 37, .un .not (.t 36), some (33, false), 0⟩,
  ⟨some 38, .pick (.t 33) (.k (.bool true)) (.t 37), none, 0⟩]) (.cond (.t 38) (.seq (.reg [⟨some 2, .mov (.k (.bool false)), none, 0⟩]) .ret) .skip)))) (.reg [⟨some 39, .bin .add 0 (.t 8) (.k (.int .i64 1)), none, 0⟩,
  ⟨some 8, .mov (.t 39), none, 0⟩]))))
def pf_impl_Tree_devicesOk_l0 : PC := .loop [4] pf_impl_Tree_devicesOk_lb0
theorem ex_impl_Tree_devicesOk_l0 {C : Code} {V : List Nat} (s : St) : EX C V pf_impl_Tree_devicesOk_l0 s = EXK C V pf_impl_Tree_devicesOk_l0 (EX C V pf_impl_Tree_devicesOk_lb0 (forget [4] s)) := EX_loop _ _ _
def pf_impl_Tree_devicesOk : PF := ⟨[.val], [0, 1, 3, 4, 6, 8, 17, 20, 33], (.seq (.reg [⟨some 1, .box (.t 0) 2, none, 0⟩,
  ⟨some 2, .mov (.k (.bool false)), none, 0⟩]) (.seq (.seq (.reg [⟨some 5, .flda 0 (.t 1), none, 0⟩,
  ⟨some 6, .load 1 false (.t 5), none, 0⟩,
  ⟨some 7, .len true (.t 6), none, 0⟩,
  ⟨some 8, .mov (.k (.int .i64 0)), none, 0⟩]) (.block 0 pf_impl_Tree_devicesOk_l0)) (.seq (.reg [⟨some 40, .flda 0 (.t 1), none, 0⟩,
  ⟨some 41, .load 1 false (.t 40), none, 0⟩,
  ⟨some 42, .len true (.t 41), none, 0⟩,
  ⟨some 43, .bin .leq 0 (.t 42) (.k (.int .i64 16)), none, 0⟩,
  ⟨some 2, .mov (.t 43), none, 0⟩]) .ret))),
  [(2, none)]⟩
/-- slices.IndexFunc[[]loop.example/g00849/impl.Device,loop.example/g00849/impl.Device] -/
def pf_slices_IndexFunc_impl_Device_impl_Device_lb0 : PC := (.seq (.reg [⟨some 9, .bin .lss 0 (.t 8) (.t 7), none, 0⟩]) (.seq (.cond (.t 9) .skip (.exit 0)) (.seq (.block 1 (.seq (.reg [⟨some 10, .mov (.t 8), none, 0⟩,
  ⟨some 5, .mov (.t 10), none, 0⟩]) (.seq (.reg [⟨some 11, .mov (.t 1), none, 0⟩,
  ⟨some 12, .mov (.t 0), none, 0⟩,
  ⟨some 13, .mov (.t 5), none, 0⟩,
  ⟨some 14, .idxa ty_impl_Device (.t 12) (.t 13), none, 0⟩,
  ⟨some 15, .load 2 true (.t 14), none, 0⟩,
  ⟨some 16, .callv (.t 11) [.t 15], none, 0⟩]) (.cond (.t 16) (.seq (.reg [⟨some 17, .mov (.t 5), none, 0⟩,
  ⟨some 4, .mov (.t 17), none, 0⟩]) .ret) .skip)))) (.reg [⟨some 18, .bin .add 0 (.t 8) (.k (.int .i64 1)), none, 0⟩,
  ⟨some 8, .mov (.t 18), none, 0⟩]))))
def pf_slices_IndexFunc_impl_Device_impl_Device_l0 : PC := .loop [] pf_slices_IndexFunc_impl_Device_impl_Device_lb0
theorem ex_slices_IndexFunc_impl_Device_impl_Device_l0 {C : Code} {V : List Nat} (s : St) : EX C V pf_slices_IndexFunc_impl_Device_impl_Device_l0 s = EXK C V pf_slices_IndexFunc_impl_Device_impl_Device_l0 (EX C V pf_slices_IndexFunc_impl_Device_impl_Device_lb0 (forget [] s)) := EX_loop _ _ _
def pf_slices_IndexFunc_impl_Device_impl_Device : PF := ⟨[.val, .val], [0, 1, 5, 8], (.seq (.reg [⟨some 4, .mov (.k (.int .i64 0)), none, 0⟩]) (.seq (.seq (.reg [⟨some 6, .mov (.t 0), none, 0⟩,
  ⟨some 7, .len true (.t 6), none, 0⟩,
  ⟨some 8, .mov (.k (.int .i64 0)), none, 0⟩]) (.block 0 pf_slices_IndexFunc_impl_Device_impl_Device_l0)) (.seq (.reg [⟨some 4, .mov (.k (.int .i64 (-1))), none, 0⟩]) .ret))),
  [(4, none)]⟩
/-- (loop.example/g00849/impl.Tree).device$1 -/
def pf_impl_Tree_device_1 : PF := ⟨[.val, .val], [0, 1], (.seq (.reg [⟨some 2, .box (.t 0) 2, none, 0⟩,
  ⟨some 3, .mov (.k (.bool false)), none, 0⟩]) (.seq (.reg [⟨some 4, .flda 0 (.t 2), none, 0⟩,
  ⟨some 5, .load 1 false (.t 4), none, 0⟩,
  ⟨some 6, .load 1 false (.t 1), none, 0⟩,
  ⟨some 7, .bin .eql 0 (.t 5) (.t 6), none, 0⟩,
  ⟨some 3, .mov (.t 7), none, 0⟩]) .ret)),
  [(3, none)]⟩
/-- (loop.example/g00849/impl.Tree).device -/
def pf_impl_Tree_device : PF := ⟨[.val, .val], [0, 1], (.seq (.reg [⟨some 2, .box (.t 0) 2, none, 0⟩,
  ⟨some 3, .box (.t 1) 1, none, 0⟩,
  ⟨some 4, .mov (.k (.int .i64 0)), none, 0⟩]) (.seq (.reg [⟨some 5, .flda 0 (.t 2), none, 0⟩,
  ⟨some 6, .load 1 false (.t 5), none, 0⟩,
  ⟨some 7, .mkf fn_impl_Tree_device_1 [.t 3], none, 0⟩,
  ⟨some 8, .call fn_slices_IndexFunc_impl_Device_impl_Device [.t 6, .t 7], none, 0⟩,
  ⟨some 4, .mov (.t 8), none, 0⟩]) .ret)),
  [(4, none)]⟩
/-- slices.IndexFunc[[]loop.example/g00849/impl.Bucket,loop.example/g00849/impl.Bucket] -/
def pf_slices_IndexFunc_impl_Bucket_impl_Bucket_lb0 : PC := (.seq (.reg [⟨some 9, .bin .lss 0 (.t 8) (.t 7), none, 0⟩]) (.seq (.cond (.t 9) .skip (.exit 0)) (.seq (.block 1 (.seq (.reg [⟨some 10, .mov (.t 8), none, 0⟩,
  ⟨some 5, .mov (.t 10), none, 0⟩]) (.seq (.reg [⟨some 11, .mov (.t 1), none, 0⟩,
  ⟨some 12, .mov (.t 0), none, 0⟩,
  ⟨some 13, .mov (.t 5), none, 0⟩,
  ⟨some 14, .idxa ty_impl_Bucket (.t 12) (.t 13), none, 0⟩,
  ⟨some 15, .load 3 true (.t 14), none, 0⟩,
  ⟨some 16, .callv (.t 11) [.t 15], none, 0⟩]) (.cond (.t 16) (.seq (.reg [⟨some 17, .mov (.t 5), none, 0⟩,
  ⟨some 4, .mov (.t 17), none, 0⟩]) .ret) .skip)))) (.reg [⟨some 18, .bin .add 0 (.t 8) (.k (.int .i64 1)), none, 0⟩,
  ⟨some 8, .mov (.t 18), none, 0⟩]))))
def pf_slices_IndexFunc_impl_Bucket_impl_Bucket_l0 : PC := .loop [] pf_slices_IndexFunc_impl_Bucket_impl_Bucket_lb0
theorem ex_slices_IndexFunc_impl_Bucket_impl_Bucket_l0 {C : Code} {V : List Nat} (s : St) : EX C V pf_slices_IndexFunc_impl_Bucket_impl_Bucket_l0 s = EXK C V pf_slices_IndexFunc_impl_Bucket_impl_Bucket_l0 (EX C V pf_slices_IndexFunc_impl_Bucket_impl_Bucket_lb0 (forget [] s)) := EX_loop _ _ _
def pf_slices_IndexFunc_impl_Bucket_impl_Bucket : PF := ⟨[.val, .val], [0, 1, 5, 8], (.seq (.reg [⟨some 4, .mov (.k (.int .i64 0)), none, 0⟩]) (.seq (.seq (.reg [⟨some 6, .mov (.t 0), none, 0⟩,
  ⟨some 7, .len true (.t 6), none, 0⟩,
  ⟨some 8, .mov (.k (.int .i64 0)), none, 0⟩]) (.block 0 pf_slices_IndexFunc_impl_Bucket_impl_Bucket_l0)) (.seq (.reg [⟨some 4, .mov (.k (.int .i64 (-1))), none, 0⟩]) .ret))),
  [(4, none)]⟩
/-- (loop.example/g00849/impl.Tree).bucket$1 -/
def pf_impl_Tree_bucket_1 : PF := ⟨[.val, .val], [0, 1], (.seq (.reg [⟨some 2, .box (.t 0) 3, none, 0⟩,
  ⟨some 3, .mov (.k (.bool false)), none, 0⟩]) (.seq (.reg [⟨some 4, .flda 0 (.t 2), none, 0⟩,
  ⟨some 5, .load 1 false (.t 4), none, 0⟩,
  ⟨some 6, .load 1 false (.t 1), none, 0⟩,
  ⟨some 7, .bin .eql 0 (.t 5) (.t 6), none, 0⟩,
  ⟨some 3, .mov (.t 7), none, 0⟩]) .ret)),
  [(3, none)]⟩
/-- (loop.example/g00849/impl.Tree).bucket -/
def pf_impl_Tree_bucket : PF := ⟨[.val, .val], [0, 1, 2, 5], (.seq (.reg [⟨some 2, .box (.t 0) 2, none, 0⟩,
  ⟨some 3, .box (.t 1) 1, none, 0⟩,
  ⟨some 4, .mov (.k (.nilp)), none, 0⟩]) (.seq (.reg [⟨some 6, .flda 1 (.t 2), none, 0⟩,
  ⟨some 7, .load 1 false (.t 6), none, 0⟩,
  ⟨some 8, .mkf fn_impl_Tree_bucket_1 [.t 3], none, 0⟩,
  ⟨some 9, .call fn_slices_IndexFunc_impl_Bucket_impl_Bucket [.t 7, .t 8], none, 0⟩,
  ⟨some 5, .mov (.t 9), none, 0⟩]) (.seq (.seq (.reg [⟨some 10, .mov (.t 5), none, 0⟩,
  ⟨some 11, .bin .lss 0 (.t 10) (.k (.int .i64 0)), none, 0⟩]) (.cond (.t 11) (.seq (.reg [⟨some 4, .mov (.k (.nilp)), none, 0⟩]) .ret) .skip)) (.seq (.reg [⟨some 12, .flda 1 (.t 2), none, 0⟩,
  ⟨some 13, .load 1 false (.t 12), none, 0⟩,
  ⟨some 14, .mov (.t 5), none, 0⟩,
  ⟨some 15, .idxa ty_impl_Bucket (.t 13) (.t 14), none, 0⟩,
  ⟨some 4, .mov (.t 15), none, 0⟩]) .ret)))),
  [(4, none)]⟩
/-- (loop.example/g00849/impl.Tree).kindOf -/
def pf_impl_Tree_kindOf : PF := ⟨[.val, .val], [0, 1, 2, 5], (.seq (.reg [⟨some 2, .box (.t 0) 2, none, 0⟩,
  ⟨some 4, .mov (.k (.int .i64 0)), none, 0⟩]) (.seq (.seq (.reg [⟨some 6, .load 2 true (.t 2), none, 0⟩,
  ⟨some 7, .mov (.t 1), none, 0⟩,
  ⟨some 8, .call fn_impl_Tree_device [.t 6, .t 7], none, 0⟩,
  ⟨some 9, .bin .geq 0 (.t 8) (.k (.int .i64 0)), none, 0⟩]) (.cond (.t 9) (.seq (.reg [⟨some 4, .mov (.k (.int .i64 0)), none, 0⟩]) .ret) .skip)) (.seq (.seq (.reg [⟨some 10, .ldt 2 (.t 2), none, 0⟩,
  ⟨some 11, .mov (.t 1), none, 0⟩,
  ⟨some 12, .call fn_impl_Tree_bucket [.t 10, .t 11], none, 0⟩,
  ⟨some 5, .mov (.t 12), none, 0⟩]) (.seq (.reg [⟨some 13, .mov (.t 5), none, 0⟩,
  ⟨some 14, .bin .neq 2 (.t 13) (.k (.nilp)), none, 0⟩]) (.cond (.t 14) (.seq (.reg [⟨some 15, .mov (.t 5), none, 0⟩,
  ⟨some 16, .nilck (.t 15), none, 0⟩,
  ⟨some 17, .flda 1 (.t 16), none, 0⟩,
  ⟨some 18, .load 1 false (.t 17), none, 0⟩,
  ⟨some 4, .mov (.t 18), none, 0⟩]) .ret) .skip))) (.seq (.reg [⟨some 4, .mov (.k (.int .i64 (-1))), none, 0⟩]) .ret)))),
  [(4, none)]⟩
/-- (loop.example/g00849/impl.Tree).itemsOk -/
def pf_impl_Tree_itemsOk_lb0 : PC := (.seq (.reg [⟨some 13, .bin .lss 0 (.t 12) (.t 11), none, 0⟩]) (.seq (.cond (.t 13) .skip (.exit 0)) (.seq (.block 1 (.seq (.reg [⟨some 14, .idxa ty_int64 (.t 10) (.t 12), none, 0⟩,
  ⟨some 15, .load 1 false (.t 14), none, 0⟩,
  ⟨some 7, .mov (.t 15), none, 0⟩]) (.reg [⟨some 16, .mov (.t 5), none, 0⟩,
  ⟨some 17, .load 2 true (.t 2), none, 0⟩,
  ⟨some 18, .mov (.t 7), none, 0⟩,
  ⟨some 19, .call fn_impl_Tree_kindOf [.t 17, .t 18], none, 0⟩,
  ⟨none, .mup 0 (.t 16) (.t 19) (.k (.bool true)), none, 0⟩]))) (.reg [⟨some 20, .bin .add 0 (.t 12) (.k (.int .i64 1)), none, 0⟩,
  ⟨some 12, .mov (.t 20), none, 0⟩]))))
def pf_impl_Tree_itemsOk_l0 : PC := .loop [] pf_impl_Tree_itemsOk_lb0
theorem ex_impl_Tree_itemsOk_l0 {C : Code} {V : List Nat} (s : St) : EX C V pf_impl_Tree_itemsOk_l0 s = EXK C V pf_impl_Tree_itemsOk_l0 (EX C V pf_impl_Tree_itemsOk_lb0 (forget [] s)) := EX_loop _ _ _
def pf_impl_Tree_itemsOk : PF := ⟨[.val, .val], [0, 1, 3, 5, 7, 10, 12, 21, 26, 30, 36], (.seq (.reg [⟨some 2, .box (.t 0) 2, none, 0⟩,
  ⟨some 3, .box (.t 1) 3, none, 0⟩,
  ⟨some 4, .mov (.k (.bool false)), none, 0⟩]) (.seq (.reg [⟨some 8, .mkm, none, 0⟩,
  ⟨some 5, .mov (.t 8), none, 0⟩]) (.seq (.seq (.reg [⟨some 9, .flda 2 (.t 3), none, 0⟩,
  ⟨some 10, .load 1 false (.t 9), none, 0⟩,
  ⟨some 11, .len true (.t 10), none, 0⟩,
  ⟨some 12, .mov (.k (.int .i64 0)), none, 0⟩]) (.block 0 pf_impl_Tree_itemsOk_l0)) (.seq (.block 2 (.seq (.reg [⟨some 22, .flda 2 (.t 3), none, 0⟩,
  ⟨some 23, .load 1 false (.t 22), none, 0⟩,
  ⟨some 24, .len true (.t 23), none, 0⟩,
  ⟨some 25, .bin .eql 0 (.t 24) (.k (.int .i64 0)), none, 0⟩,
  ⟨some 21, .mov (.t 25), none, 0⟩]) (.cond (.t 21) (.seq (.reg [⟨some 4, .mov (.k (.bool true)), none, 0⟩]) .ret) (.seq (.reg [⟨some 27, .mov (.t 5), none, 0⟩,
  ⟨some 28, .lnm (.t 27), none, 0⟩,
  ⟨some 29, .bin .gtr 0 (.t 28) (.k (.int .i64 1)), none, 0⟩,
  ⟨some 26, .mov (.t 29), none, 0⟩]) (.cond (.t 26) (.seq (.reg [⟨some 4, .mov (.k (.bool false)), none, 0⟩]) .ret) (.seq (.reg [⟨some 31, .flda 1 (.t 3), none, 0⟩,
  ⟨some 32, .load 1 false (.t 31), none, 0⟩,
  ⟨some 33, .bin .eql 0 (.t 32) (.k (.int .i64 3)), none, 0⟩,
  ⟨some 30, .mov (.t 33), none, 0⟩]) (.cond (.t 30) (.seq (.reg [⟨some 34, .mov (.t 5), none, 0⟩,
  ⟨some 35, .mlk 0 (.bool false) (.t 34) (.k (.int .i64 1)), none, 0⟩,
  ⟨some 36, .mov (.t 35), none, 0⟩,
  ⟨some 37, .mov (.t 5), some (36, false), 0⟩,
  ⟨some 38, .mlk 0 (.bool false) (.t 37) (.k (.int .i64 2)), some (36, false), 0⟩,
  ⟨some 39, .pick (.t 36) (.k (.bool true)) (.t 38), none, 0⟩,
  ⟨some 4, .mov (.t 39), none, 0⟩]) .ret) .skip))))))) (.seq (.reg [⟨some 40, .mov (.t 5), none, 0⟩,
  ⟨some 41, .flda 1 (.t 3), none, 0⟩,
  ⟨some 42, .load 1 false (.t 41), none, 0⟩,
  ⟨some 43, .bin .sub 0 (.t 42) (.k (.int .i64 1)), none, 0⟩,
  ⟨some 44, .mlk 0 (.bool false) (.t 40) (.t 43), none, 0⟩,
  ⟨some 4, .mov (.t 44), none, 0⟩]) .ret))))),
  [(4, none)]⟩
/-- loop.example/g00849/impl.TreeOk -/
def pf_impl_TreeOk_lb0 : PC := (.seq (.reg [⟨some 68, .bin .lss 0 (.t 67) (.t 66), none, 0⟩]) (.seq (.cond (.t 68) .skip (.exit 2)) (.seq (.block 3 (.seq (.reg [⟨some 69, .idxa ty_int64 (.t 65) (.t 67), none, 0⟩,
  ⟨some 70, .load 1 false (.t 69), none, 0⟩,
  ⟨some 7, .mov (.t 70), none, 0⟩]) (.seq (.seq (.reg [⟨some 71, .mov (.t 3), none, 0⟩,
  ⟨some 72, .mov (.t 7), none, 0⟩,
  ⟨some 73, .mlk 0 (.bool false) (.t 71) (.t 72), none, 0⟩]) (.cond (.t 73) (.seq (.reg [⟨some 2, .mov (.k (.bool false)), none, 0⟩]) .ret) .skip)) (.reg [⟨some 74, .mov (.t 3), none, 0⟩,
  ⟨some 75, .mov (.t 7), none, 0⟩,
  ⟨none, .mup 0 (.t 74) (.t 75) (.k (.bool true)), none, 0⟩])))) (.reg [⟨some 76, .bin .add 0 (.t 67) (.k (.int .i64 1)), none, 0⟩,
  ⟨some 67, .mov (.t 76), none, 0⟩]))))
def pf_impl_TreeOk_l0 : PC := .loop [] pf_impl_TreeOk_lb0
theorem ex_impl_TreeOk_l0 {C : Code} {V : List Nat} (s : St) : EX C V pf_impl_TreeOk_l0 s = EXK C V pf_impl_TreeOk_l0 (EX C V pf_impl_TreeOk_lb0 (forget [] s)) := EX_loop _ _ _
def pf_impl_TreeOk_lb1 : PC := (.seq (.reg [⟨some 22, .bin .lss 0 (.t 21) (.t 20), none, 0⟩]) (.seq (.cond (.t 22) .skip (.exit 0)) (.seq (.block 1 (.seq (.reg [⟨some 23, .mov (.t 21), none, 0⟩,
  ⟨some 24, .idxa ty_impl_Bucket (.t 19) (.t 21), none, 0⟩,
  ⟨some 25, .load 3 true (.t 24), none, 0⟩,
  ⟨some 5, .alloc [.int .i64 0, .int .i64 0, .sl 2 ty_int64 []], none, 0⟩,
  ⟨some 4, .mov (.t 23), none, 0⟩,
  ⟨none, .store 3 (.t 5) (.t 25), none, 0⟩]) (.seq (.seq (.any [(0, []), (1, []), (2, []), (3, []), (4, []), (5, []), (6, []), (7, []), (8, []), (9, []), (10, [8, 9]), (11, [8, 9]), (12, [8, 9, 10, 11]), (13, [8, 9, 10, 11]), (14, [8, 9]), (15, [8, 9]), (16, [8, 9]), (17, []), (18, []), (19, []), (20, []), (21, []), (22, []), (23, []), (24, []), (25, []), (26, []), (27, []), (28, []), (29, []), (30, []), (31, []), (32, []), (33, []), (34, [33]), (35, []), (36, []), (37, [])] [⟨some 26, .flda 0 (.t 5), none, 0⟩,
  ⟨some 27, .load 1 false (.t 26), none, 0⟩,
  ⟨some 28, .call fn_impl_between [.t 27, .k (.int .i64 (-12)), .k (.int .i64 (-1))], none, 0⟩,
  ⟨some 29, .un .not (.t 28), none, 0⟩,
  ⟨some 30, .mov (.t 29), none, 0⟩,
  ⟨some 31, .mov (.t 4), some (30, false), 0⟩,
  ⟨some 32, .bin .gtr 0 (.t 31) (.k (.int .i64 0)), some (30, false), 0⟩,
  ⟨some 33, .mov (.t 32), some (30, false), 0⟩,
  ⟨some 34, .flda 0 (.t 5), some (33, true), 0⟩,
  ⟨some 35, .load 1 false (.t 34), some (33, true), 0⟩,
  ⟨some 36, .flda 1 (.t 1), some (33, true), 0⟩,
  ⟨some 37, .load 1 false (.t 36), some (33, true), 0⟩,
  ⟨some 38, .mov (.t 4), some (33, true), 0⟩,
  ⟨some 39, .bin .sub 0 (.t 38) (.k (.int .i64 1)), some (33, true), 0⟩,
  ⟨some 40, .idxa ty_impl_Bucket (.t 37) (.t 39), some (33, true), 0⟩,
  ⟨some 41, .flda 0 (.t 40), some (33, true), 0⟩,
  ⟨some 42, .load 1 false (.t 41), some (33, true), 0⟩,
  ⟨some 43, .bin .geq 0 (.t 35) (.t 42), some (33, true), 0⟩,
  ⟨some 44, .pick (.t 33) (.t 43) (.k (.bool false)), some (30, false), 0⟩,
  ⟨some 45, .pick (.t 30) (.k (.bool true)) (.t 44), none, 0⟩,
  ⟨some 46, .mov (.t 45), none, 0⟩,
  ⟨some 47, .flda 1 (.t 5), some (46, false), 0⟩,
  ⟨some 48, .load 1 false (.t 47), some (46, false), 0⟩,
  ⟨some 49, .call fn_impl_between [.t 48, .k (.int .i64 1), .k (.int .i64 3)], some (46, false), 0⟩,
  ⟨some 50, .un .not (.t 49), some (46, false), 0⟩,
  ⟨some 51, .pick (.t 46) (.k (.bool true)) (.t 50), none, 0⟩,
  ⟨some 52, .mov (.t 51), none, 0⟩,
  ⟨some 53, .flda 2 (.t 5), some (52, false), 0⟩,
  ⟨some 54, .load 1 false (.t 53), some (52, false), 0⟩,
  ⟨some 55, .len true (.t 54), some (52, false), 0⟩,
  ⟨some 56, .bin .gtr 0 (.t 55) (.k (.int .i64 8)), some (52, false), 0⟩,
  ⟨some 57, .pick (.t 52) (.k (.bool true)) (.t 56), none, 0⟩,
  ⟨some 58, .mov (.t 57), none, 0⟩,
  ⟨some 59, .load 2 true (.t 1), some (58, false), 0⟩,
  ⟨some 60, .load 3 true (.t 5), some (58, false), 0⟩,
  ⟨some 61, .call fn_impl_Tree_itemsOk [.t 59, .t 60], some (58, false), 0⟩,
  ⟨some 62, .un .not (.t 61), some (58, false), 0⟩,
  ⟨some 63, .pick (.t 58) (.k (.bool true)) (.t 62), none, 0⟩]) (.cond (.t 63) (.seq (.reg [⟨some 2, .mov (.k (.bool false)), none, 0⟩]) .ret) .skip)) (.seq (.reg [⟨some 64, .flda 2 (.t 5), none, 0⟩,
  ⟨some 65, .load 1 false (.t 64), none, 0⟩,
  ⟨some 66, .len true (.t 65), none, 0⟩,
  ⟨some 67, .mov (.k (.int .i64 0)), none, 0⟩]) (.block 2 pf_impl_TreeOk_l0))))) (.reg [⟨some 77, .bin .add 0 (.t 21) (.k (.int .i64 1)), none, 0⟩,
  ⟨some 21, .mov (.t 77), none, 0⟩]))))
def pf_impl_TreeOk_l1 : PC := .loop [5] pf_impl_TreeOk_lb1
theorem ex_impl_TreeOk_l1 {C : Code} {V : List Nat} (s : St) : EX C V pf_impl_TreeOk_l1 s = EXK C V pf_impl_TreeOk_l1 (EX C V pf_impl_TreeOk_lb1 (forget [5] s)) := EX_loop _ _ _
def pf_impl_TreeOk : PF := ⟨[.val], [0, 1, 3, 4, 5, 7, 11, 19, 21, 30, 33, 46, 52, 58, 65, 67], (.seq (.reg [⟨some 1, .box (.t 0) 2, none, 0⟩,
  ⟨some 2, .mov (.k (.bool false)), none, 0⟩]) (.seq (.seq (.reg [⟨some 8, .load 2 true (.t 1), none, 0⟩,
  ⟨some 9, .call fn_impl_Tree_devicesOk [.t 8], none, 0⟩,
  ⟨some 10, .un .not (.t 9), none, 0⟩,
  ⟨some 11, .mov (.t 10), none, 0⟩,
  ⟨some 12, .flda 1 (.t 1), some (11, false), 0⟩,
  ⟨some 13, .load 1 false (.t 12), some (11, false), 0⟩,
  ⟨some 14, .len true (.t 13), some (11, false), 0⟩,
  ⟨some 15, .bin .gtr 0 (.t 14) (.k (.int .i64 12)), some (11, false), 0⟩,
  ⟨some 16, .pick (.t 11) (.k (.bool true)) (.t 15), none, 0⟩]) (.cond (.t 16) (.seq (.reg [⟨some 2, .mov (.k (.bool false)), none, 0⟩]) .ret) .skip)) (.seq (.reg [⟨some 17, .mkm, none, 0⟩,
  ⟨some 3, .mov (.t 17), none, 0⟩]) (.seq (.seq (.reg [⟨some 18, .flda 1 (.t 1), none, 0⟩,
  ⟨some 19, .load 1 false (.t 18), none, 0⟩,
  ⟨some 20, .len true (.t 19), none, 0⟩,
  ⟨some 21, .mov (.k (.int .i64 0)), none, 0⟩]) (.block 0 pf_impl_TreeOk_l1)) (.seq (.reg [⟨some 2, .mov (.k (.bool true)), none, 0⟩]) .ret))))),
  [(2, none)]⟩
/-- loop.example/g00849/impl.ruleOk -/
def pf_impl_ruleOk : PF := ⟨[.val, .val], [0, 1, 3, 8, 15], (.seq (.reg [⟨some 2, .box (.t 0) 2, none, 0⟩,
  ⟨some 3, .box (.t 1) 4, none, 0⟩,
  ⟨some 4, .mov (.k (.bool false)), none, 0⟩]) (.seq (.reg [⟨some 5, .flda 0 (.t 3), none, 0⟩,
  ⟨some 6, .load 1 false (.t 5), none, 0⟩,
  ⟨some 7, .call fn_impl_between [.t 6, .k (.int .i64 1), .k (.int .i64 4)], none, 0⟩,
  ⟨some 8, .mov (.t 7), none, 0⟩,
  ⟨some 9, .ldt 2 (.t 2), some (8, true), 0⟩,
  ⟨some 10, .flda 1 (.t 3), some (8, true), 0⟩,
  ⟨some 11, .load 1 false (.t 10), some (8, true), 0⟩,
  ⟨some 12, .call fn_impl_Tree_kindOf [.t 9, .t 11], some (8, true), 0⟩,
  ⟨some 13, .bin .eql 0 (.t 12) (.k (.int .i64 3)), some (8, true), 0⟩,
  ⟨some 14, .pick (.t 8) (.t 13) (.k (.bool false)), none, 0⟩,
  ⟨some 15, .mov (.t 14), none, 0⟩,
  ⟨some 16, .flda 2 (.t 3), some (15, true), 0⟩,
  ⟨some 17, .load 1 false (.t 16), some (15, true), 0⟩,
  ⟨some 18, .call fn_impl_between [.t 17, .k (.int .i64 0), .k (.int .i64 2)], some (15, true), 0⟩,
  ⟨some 19, .pick (.t 15) (.t 18) (.k (.bool false)), none, 0⟩,
  ⟨some 4, .mov (.t 19), none, 0⟩]) .ret)),
  [(4, none)]⟩
/-- (loop.example/g00849/impl.Map).rulesOk -/
def pf_impl_Map_rulesOk_lb0 : PC := (.seq (.reg [⟨some 9, .bin .lss 0 (.t 8) (.t 7), none, 0⟩]) (.seq (.cond (.t 9) .skip (.exit 0)) (.seq (.block 1 (.seq (.reg [⟨some 10, .mov (.t 8), none, 0⟩,
  ⟨some 11, .idxa ty_impl_Rule (.t 6) (.t 8), none, 0⟩,
  ⟨some 12, .load 4 true (.t 11), none, 0⟩,
  ⟨some 4, .alloc [.int .i64 0, .int .i64 0, .int .i64 0, .bool false], none, 0⟩,
  ⟨some 3, .mov (.t 10), none, 0⟩,
  ⟨none, .store 4 (.t 4) (.t 12), none, 0⟩]) (.seq (.any [(0, []), (1, []), (2, [0, 1]), (3, []), (4, []), (5, []), (6, []), (7, []), (8, []), (9, []), (10, []), (11, [9, 10]), (12, [9, 10]), (13, [9, 10, 11, 12]), (14, [9, 10, 11, 12]), (15, [9, 10]), (16, [9, 10]), (17, [9, 10]), (18, []), (19, []), (20, [])] [⟨some 13, .flda 2 (.t 1), none, 0⟩,
  ⟨some 14, .load 2 true (.t 13), none, 0⟩,
  ⟨some 15, .load 4 true (.t 4), none, 0⟩,
  ⟨some 16, .call fn_impl_ruleOk [.t 14, .t 15], none, 0⟩,
  ⟨some 17, .un .not (.t 16), none, 0⟩,
  ⟨some 18, .mov (.t 17), none, 0⟩,
  ⟨some 19, .mov (.t 3), some (18, false), 0⟩,
  ⟨some 20, .bin .gtr 0 (.t 19) (.k (.int .i64 0)), some (18, false), 0⟩,
  ⟨some 21, .mov (.t 20), some (18, false), 0⟩,
  ⟨some 22, .flda 0 (.t 4), some (21, true), 0⟩,
  ⟨some 23, .load 1 false (.t 22), some (21, true), 0⟩,
  ⟨some 24, .flda 4 (.t 1), some (21, true), 0⟩,
  ⟨some 25, .load 1 false (.t 24), some (21, true), 0⟩,
  ⟨some 26, .mov (.t 3), some (21, true), 0⟩,
  ⟨some 27, .bin .sub 0 (.t 26) (.k (.int .i64 1)), some (21, true), 0⟩,
  ⟨some 28, .idxa ty_impl_Rule (.t 25) (.t 27), some (21, true), 0⟩,
  ⟨some 29, .flda 0 (.t 28), some (21, true), 0⟩,
  ⟨some 30, .load 1 false (.t 29), some (21, true), 0⟩,
  ⟨some 31, .bin .leq 0 (.t 23) (.t 30), some (21, true), 0⟩,
  ⟨some 32, .pick (.t 21) (.t 31) (.k (.bool false)), some (18, false), 0⟩,
  ⟨some 33, .pick (.t 18) (.k (.bool true)) (.t 32), none, 0⟩]) (.cond (.t 33) (.seq (.reg [⟨some 2, .mov (.k (.bool false)), none, 0⟩]) .ret) .skip)))) (.reg [⟨some 34, .bin .add 0 (.t 8) (.k (.int .i64 1)), none, 0⟩,
  ⟨some 8, .mov (.t 34), none, 0⟩]))))
def pf_impl_Map_rulesOk_l0 : PC := .loop [4] pf_impl_Map_rulesOk_lb0
theorem ex_impl_Map_rulesOk_l0 {C : Code} {V : List Nat} (s : St) : EX C V pf_impl_Map_rulesOk_l0 s = EXK C V pf_impl_Map_rulesOk_l0 (EX C V pf_impl_Map_rulesOk_lb0 (forget [4] s)) := EX_loop _ _ _
def pf_impl_Map_rulesOk : PF := ⟨[.val], [0, 1, 3, 4, 6, 8, 18, 21], (.seq (.reg [⟨some 1, .box (.t 0) 8, none, 0⟩,
  ⟨some 2, .mov (.k (.bool false)), none, 0⟩]) (.seq (.seq (.reg [⟨some 5, .flda 4 (.t 1), none, 0⟩,
  ⟨some 6, .load 1 false (.t 5), none, 0⟩,
  ⟨some 7, .len true (.t 6), none, 0⟩,
  ⟨some 8, .mov (.k (.int .i64 0)), none, 0⟩]) (.block 0 pf_impl_Map_rulesOk_l0)) (.seq (.reg [⟨some 35, .flda 4 (.t 1), none, 0⟩,
  ⟨some 36, .load 1 false (.t 35), none, 0⟩,
  ⟨some 37, .len true (.t 36), none, 0⟩,
  ⟨some 38, .bin .leq 0 (.t 37) (.k (.int .i64 4)), none, 0⟩,
  ⟨some 2, .mov (.t 38), none, 0⟩]) .ret))),
  [(2, none)]⟩
/-- loop.example/g00849/impl.CodeOk -/
def pf_impl_CodeOk : PF := ⟨[.val], [0, 1, 6], (.seq (.reg [⟨some 1, .box (.t 0) 2, none, 0⟩,
  ⟨some 2, .mov (.k (.bool false)), none, 0⟩]) (.seq (.reg [⟨some 3, .flda 0 (.t 1), none, 0⟩,
  ⟨some 4, .load 1 false (.t 3), none, 0⟩,
  ⟨some 5, .call fn_impl_between [.t 4, .k (.int .i64 1), .k (.int .i64 4)], none, 0⟩,
  ⟨some 6, .mov (.t 5), none, 0⟩,
  ⟨some 7, .flda 1 (.t 1), some (6, true), 0⟩,
  ⟨some 8, .load 1 false (.t 7), some (6, true), 0⟩,
  ⟨some 9, .call fn_impl_between [.t 8, .k (.int .i64 0), .k (.int .i64 3)], some (6, true), 0⟩,
  ⟨some 10, .pick (.t 6) (.t 9) (.k (.bool false)), none, 0⟩,
  ⟨some 2, .mov (.t 10), none, 0⟩]) .ret)),
  [(2, none)]⟩
/-- (loop.example/g00849/impl.Code).size -/
def pf_impl_Code_size : PF := ⟨[.val], [0, 1], (.seq (.reg [⟨some 1, .box (.t 0) 2, none, 0⟩,
  ⟨some 2, .mov (.k (.int .i64 0)), none, 0⟩]) (.seq (.reg [⟨some 3, .flda 0 (.t 1), none, 0⟩,
  ⟨some 4, .load 1 false (.t 3), none, 0⟩,
  ⟨some 5, .flda 1 (.t 1), none, 0⟩,
  ⟨some 6, .load 1 false (.t 5), none, 0⟩,
  ⟨some 7, .bin .add 0 (.t 4) (.t 6), none, 0⟩,
  ⟨some 2, .mov (.t 7), none, 0⟩]) .ret)),
  [(2, none)]⟩
/-- loop.example/g00849/impl.PoolOk -/
def pf_impl_PoolOk : PF := ⟨[.val], [0, 1, 6, 11, 22, 27], (.seq (.reg [⟨some 1, .box (.t 0) 6, none, 0⟩,
  ⟨some 2, .mov (.k (.bool false)), none, 0⟩]) (.seq (.any [(0, []), (1, []), (2, []), (3, []), (4, []), (5, []), (6, []), (7, []), (8, []), (9, []), (10, []), (11, [9, 10]), (12, [9, 10]), (13, [9, 10]), (14, [9, 10, 11, 12, 13]), (15, [9, 10, 11, 12, 13]), (16, [9, 10, 11, 12, 13]), (17, []), (18, []), (19, []), (20, []), (21, []), (22, []), (23, []), (24, []), (25, []), (26, []), (27, []), (28, []), (29, [])] [⟨some 3, .flda 0 (.t 1), none, 0⟩,
  ⟨some 4, .load 1 false (.t 3), none, 0⟩,
  ⟨some 5, .call fn_impl_between [.t 4, .k (.int .i64 1), .k (.int .i64 4)], none, 0⟩,
  ⟨some 6, .mov (.t 5), none, 0⟩,
  ⟨some 7, .flda 1 (.t 1), some (6, true), 0⟩,
  ⟨some 8, .load 2 true (.t 7), some (6, true), 0⟩,
  ⟨some 9, .call fn_impl_CodeOk [.t 8], some (6, true), 0⟩,
  ⟨some 10, .pick (.t 6) (.t 9) (.k (.bool false)), none, 0⟩,
  ⟨some 11, .mov (.t 10), none, 0⟩,
  ⟨some 12, .flda 3 (.t 1), some (11, true), 0⟩,
  ⟨some 13, .load 1 false (.t 12), some (11, true), 0⟩,
  ⟨some 14, .flda 1 (.t 1), some (11, true), 0⟩,
  ⟨some 15, .flda 0 (.t 14), some (11, true), 0⟩,
  ⟨some 16, .load 1 false (.t 15), some (11, true), 0⟩,
  ⟨some 17, .flda 1 (.t 1), some (11, true), 0⟩,
  ⟨some 18, .load 2 true (.t 17), some (11, true), 0⟩,
  ⟨some 19, .call fn_impl_Code_size [.t 18], some (11, true), 0⟩,
  ⟨some 20, .call fn_impl_between [.t 13, .t 16, .t 19], some (11, true), 0⟩,
  ⟨some 21, .pick (.t 11) (.t 20) (.k (.bool false)), none, 0⟩,
  ⟨some 22, .mov (.t 21), none, 0⟩,
  ⟨some 23, .flda 4 (.t 1), some (22, true), 0⟩,
  ⟨some 24, .load 1 false (.t 23), some (22, true), 0⟩,
  ⟨some 25, .call fn_impl_between [.t 24, .k (.int .i64 1), .k (.int .i64 16)], some (22, true), 0⟩,
  ⟨some 26, .pick (.t 22) (.t 25) (.k (.bool false)), none, 0⟩,
  ⟨some 27, .mov (.t 26), none, 0⟩,
  ⟨some 28, .flda 5 (.t 1), some (27, true), 0⟩,
  ⟨some 29, .load 1 false (.t 28), some (27, true), 0⟩,
  ⟨some 30, .call fn_impl_between [.t 29, .k (.int .i64 1), .k (.int .i64 4)], some (27, true), 0⟩,
  ⟨some 31, .pick (.t 27) (.t 30) (.k (.bool false)), none, 0⟩,
  ⟨some 2, .mov (.t 31), none, 0⟩]) .ret)),
  [(2, none)]⟩
/-- slices.IndexFunc[[]loop.example/g00849/impl.Rule,loop.example/g00849/impl.Rule] -/
def pf_slices_IndexFunc_impl_Rule_impl_Rule_lb0 : PC := (.seq (.reg [⟨some 9, .bin .lss 0 (.t 8) (.t 7), none, 0⟩]) (.seq (.cond (.t 9) .skip (.exit 0)) (.seq (.block 1 (.seq (.reg [⟨some 10, .mov (.t 8), none, 0⟩,
  ⟨some 5, .mov (.t 10), none, 0⟩]) (.seq (.reg [⟨some 11, .mov (.t 1), none, 0⟩,
  ⟨some 12, .mov (.t 0), none, 0⟩,
  ⟨some 13, .mov (.t 5), none, 0⟩,
  ⟨some 14, .idxa ty_impl_Rule (.t 12) (.t 13), none, 0⟩,
  ⟨some 15, .load 4 true (.t 14), none, 0⟩,
  ⟨some 16, .callv (.t 11) [.t 15], none, 0⟩]) (.cond (.t 16) (.seq (.reg [⟨some 17, .mov (.t 5), none, 0⟩,
  ⟨some 4, .mov (.t 17), none, 0⟩]) .ret) .skip)))) (.reg [⟨some 18, .bin .add 0 (.t 8) (.k (.int .i64 1)), none, 0⟩,
  ⟨some 8, .mov (.t 18), none, 0⟩]))))
def pf_slices_IndexFunc_impl_Rule_impl_Rule_l0 : PC := .loop [] pf_slices_IndexFunc_impl_Rule_impl_Rule_lb0
theorem ex_slices_IndexFunc_impl_Rule_impl_Rule_l0 {C : Code} {V : List Nat} (s : St) : EX C V pf_slices_IndexFunc_impl_Rule_impl_Rule_l0 s = EXK C V pf_slices_IndexFunc_impl_Rule_impl_Rule_l0 (EX C V pf_slices_IndexFunc_impl_Rule_impl_Rule_lb0 (forget [] s)) := EX_loop _ _ _
def pf_slices_IndexFunc_impl_Rule_impl_Rule : PF := ⟨[.val, .val], [0, 1, 5, 8], (.seq (.reg [⟨some 4, .mov (.k (.int .i64 0)), none, 0⟩]) (.seq (.seq (.reg [⟨some 6, .mov (.t 0), none, 0⟩,
  ⟨some 7, .len true (.t 6), none, 0⟩,
  ⟨some 8, .mov (.k (.int .i64 0)), none, 0⟩]) (.block 0 pf_slices_IndexFunc_impl_Rule_impl_Rule_l0)) (.seq (.reg [⟨some 4, .mov (.k (.int .i64 (-1))), none, 0⟩]) .ret))),
  [(4, none)]⟩
/-- (loop.example/g00849/impl.Map).rule$1 -/
def pf_impl_Map_rule_1 : PF := ⟨[.val, .val], [0, 1], (.seq (.reg [⟨some 2, .box (.t 0) 4, none, 0⟩,
  ⟨some 3, .mov (.k (.bool false)), none, 0⟩]) (.seq (.reg [⟨some 4, .flda 0 (.t 2), none, 0⟩,
  ⟨some 5, .load 1 false (.t 4), none, 0⟩,
  ⟨some 6, .load 1 false (.t 1), none, 0⟩,
  ⟨some 7, .bin .eql 0 (.t 5) (.t 6), none, 0⟩,
  ⟨some 3, .mov (.t 7), none, 0⟩]) .ret)),
  [(3, none)]⟩
/-- (loop.example/g00849/impl.Map).rule -/
def pf_impl_Map_rule : PF := ⟨[.val, .val], [0, 1, 2, 5], (.seq (.reg [⟨some 2, .box (.t 0) 8, none, 0⟩,
  ⟨some 3, .box (.t 1) 1, none, 0⟩,
  ⟨some 4, .mov (.k (.nilp)), none, 0⟩]) (.seq (.reg [⟨some 6, .flda 4 (.t 2), none, 0⟩,
  ⟨some 7, .load 1 false (.t 6), none, 0⟩,
  ⟨some 8, .mkf fn_impl_Map_rule_1 [.t 3], none, 0⟩,
  ⟨some 9, .call fn_slices_IndexFunc_impl_Rule_impl_Rule [.t 7, .t 8], none, 0⟩,
  ⟨some 5, .mov (.t 9), none, 0⟩]) (.seq (.seq (.reg [⟨some 10, .mov (.t 5), none, 0⟩,
  ⟨some 11, .bin .lss 0 (.t 10) (.k (.int .i64 0)), none, 0⟩]) (.cond (.t 11) (.seq (.reg [⟨some 4, .mov (.k (.nilp)), none, 0⟩]) .ret) .skip)) (.seq (.reg [⟨some 12, .flda 4 (.t 2), none, 0⟩,
  ⟨some 13, .load 1 false (.t 12), none, 0⟩,
  ⟨some 14, .mov (.t 5), none, 0⟩,
  ⟨some 15, .idxa ty_impl_Rule (.t 13) (.t 14), none, 0⟩,
  ⟨some 4, .mov (.t 15), none, 0⟩]) .ret)))),
  [(4, none)]⟩
/-- (loop.example/g00849/impl.Map).poolsOk -/
def pf_impl_Map_poolsOk_lb0 : PC := (.seq (.reg [⟨some 9, .bin .lss 0 (.t 8) (.t 7), none, 0⟩]) (.seq (.cond (.t 9) .skip (.exit 0)) (.seq (.block 1 (.seq (.reg [⟨some 10, .mov (.t 8), none, 0⟩,
  ⟨some 11, .idxa ty_impl_Pool (.t 6) (.t 8), none, 0⟩,
  ⟨some 12, .load 6 true (.t 11), none, 0⟩,
  ⟨some 4, .alloc [.int .i64 0, .int .i64 0, .int .i64 0, .int .i64 0, .int .i64 0, .int .i64 0], none, 0⟩,
  ⟨some 3, .mov (.t 10), none, 0⟩,
  ⟨none, .store 6 (.t 4) (.t 12), none, 0⟩]) (.seq (.any [(0, []), (1, []), (2, []), (3, []), (4, []), (5, []), (6, []), (7, []), (8, []), (9, [7, 8]), (10, [7, 8]), (11, [7, 8, 9, 10]), (12, [7, 8, 9, 10]), (13, [7, 8]), (14, [7, 8]), (15, [7, 8]), (16, []), (17, []), (18, []), (19, []), (20, []), (21, [20]), (22, [20]), (23, []), (24, []), (25, [])] [⟨some 13, .load 6 true (.t 4), none, 0⟩,
  ⟨some 14, .call fn_impl_PoolOk [.t 13], none, 0⟩,
  ⟨some 15, .un .not (.t 14), none, 0⟩,
  ⟨some 16, .mov (.t 15), none, 0⟩,
  ⟨some 17, .mov (.t 3), some (16, false), 0⟩,
  ⟨some 18, .bin .gtr 0 (.t 17) (.k (.int .i64 0)), some (16, false), 0⟩,
  ⟨some 19, .mov (.t 18), some (16, false), 0⟩,
  ⟨some 20, .flda 0 (.t 4), some (19, true), 0⟩,
  ⟨some 21, .load 1 false (.t 20), some (19, true), 0⟩,
  ⟨some 22, .flda 5 (.t 1), some (19, true), 0⟩,
  ⟨some 23, .load 1 false (.t 22), some (19, true), 0⟩,
  ⟨some 24, .mov (.t 3), some (19, true), 0⟩,
  ⟨some 25, .bin .sub 0 (.t 24) (.k (.int .i64 1)), some (19, true), 0⟩,
  ⟨some 26, .idxa ty_impl_Pool (.t 23) (.t 25), some (19, true), 0⟩,
  ⟨some 27, .flda 0 (.t 26), some (19, true), 0⟩,
  ⟨some 28, .load 1 false (.t 27), some (19, true), 0⟩,
  ⟨some 29, .bin .leq 0 (.t 21) (.t 28), some (19, true), 0⟩,
  ⟨some 30, .pick (.t 19) (.t 29) (.k (.bool false)), some (16, false), 0⟩,
  ⟨some 31, .pick (.t 16) (.k (.bool true)) (.t 30), none, 0⟩,
  ⟨some 32, .mov (.t 31), none, 0⟩,
  ⟨some 33, .load 8 true (.t 1), some (32, false), 0⟩,
  ⟨some 34, .flda 5 (.t 4), some (32, false), 0⟩,
  ⟨some 35, .load 1 false (.t 34), some (32, false), 0⟩,
  ⟨some 36, .call fn_impl_Map_rule [.t 33, .t 35], some (32, false), 0⟩,
  ⟨some 37, .bin .eql 2 (.t 36) (.k (.nilp)), some (32, false), 0⟩,
  ⟨some 38, .pick (.t 32) (.k (.bool true)) (.t 37), none, 0⟩]) (.cond (.t 38) (.seq (.reg [⟨some 2, .mov (.k (.bool false)), none, 0⟩]) .ret) .skip)))) (.reg [⟨some 39, .bin .add 0 (.t 8) (.k (.int .i64 1)), none, 0⟩,
  ⟨some 8, .mov (.t 39), none, 0⟩]))))
def pf_impl_Map_poolsOk_l0 : PC := .loop [4] pf_impl_Map_poolsOk_lb0
theorem ex_impl_Map_poolsOk_l0 {C : Code} {V : List Nat} (s : St) : EX C V pf_impl_Map_poolsOk_l0 s = EXK C V pf_impl_Map_poolsOk_l0 (EX C V pf_impl_Map_poolsOk_lb0 (forget [4] s)) := EX_loop _ _ _
def pf_impl_Map_poolsOk : PF := ⟨[.val], [0, 1, 3, 4, 6, 8, 16, 19, 32], (.seq (.reg [⟨some 1, .box (.t 0) 8, none, 0⟩,
  ⟨some 2, .mov (.k (.bool false)), none, 0⟩]) (.seq (.seq (.reg [⟨some 5, .flda 5 (.t 1), none, 0⟩,
  ⟨some 6, .load 1 false (.t 5), none, 0⟩,
  ⟨some 7, .len true (.t 6), none, 0⟩,
  ⟨some 8, .mov (.k (.int .i64 0)), none, 0⟩]) (.block 0 pf_impl_Map_poolsOk_l0)) (.seq (.reg [⟨some 40, .flda 5 (.t 1), none, 0⟩,
  ⟨some 41, .load 1 false (.t 40), none, 0⟩,
  ⟨some 42, .len true (.t 41), none, 0⟩,
  ⟨some 43, .bin .leq 0 (.t 42) (.k (.int .i64 4)), none, 0⟩,
  ⟨some 2, .mov (.t 43), none, 0⟩]) .ret))),
  [(2, none)]⟩
/-- loop.example/g00849/impl.increasing -/
def pf_impl_increasing_lb0 : PC := (.seq (.seq (.reg [⟨some 4, .mov (.t 3), none, 0⟩,
  ⟨some 5, .mov (.t 0), none, 0⟩,
  ⟨some 6, .len true (.t 5), none, 0⟩,
  ⟨some 7, .bin .lss 0 (.t 4) (.t 6), none, 0⟩]) (.cond (.t 7) .skip (.exit 0))) (.seq (.block 1 (.seq (.any [(0, []), (1, [0]), (2, []), (3, []), (4, [0, 1, 2, 3]), (5, [0, 1, 2, 3, 4]), (6, [0, 1, 2, 3, 4]), (7, [0, 1, 2, 3]), (8, [0, 1, 2, 3]), (9, [])] [⟨some 10, .mov (.t 0), none, 0⟩,
  ⟨some 11, .mov (.t 3), none, 0⟩,
  ⟨some 12, .idxa ty_int64 (.t 10) (.t 11), none, 0⟩,
  ⟨some 13, .load 1 false (.t 12), none, 0⟩,
  ⟨some 14, .mov (.t 0), none, 0⟩,
  ⟨some 15, .mov (.t 3), none, 0⟩,
  ⟨some 16, .bin .sub 0 (.t 15) (.k (.int .i64 1)), none, 0⟩,
  ⟨some 17, .idxa ty_int64 (.t 14) (.t 16), none, 0⟩,
  ⟨some 18, .load 1 false (.t 17), none, 0⟩,
  ⟨some 19, .bin .leq 0 (.t 13) (.t 18), none, 0⟩]) (.cond (.t 19) (.seq (.reg [⟨some 2, .mov (.k (.bool false)), none, 0⟩]) .ret) .skip))) (.reg [⟨some 8, .mov (.t 3), none, 0⟩,
  ⟨some 9, .bin .add 0 (.t 8) (.k (.int .i64 1)), none, 0⟩,
  ⟨some 3, .mov (.t 9), none, 0⟩])))
def pf_impl_increasing_l0 : PC := .loop [] pf_impl_increasing_lb0
theorem ex_impl_increasing_l0 {C : Code} {V : List Nat} (s : St) : EX C V pf_impl_increasing_l0 s = EXK C V pf_impl_increasing_l0 (EX C V pf_impl_increasing_lb0 (forget [] s)) := EX_loop _ _ _
def pf_impl_increasing : PF := ⟨[.val], [0, 3], (.seq (.reg [⟨some 2, .mov (.k (.bool false)), none, 0⟩]) (.seq (.seq (.reg [⟨some 3, .mov (.k (.int .i64 1)), none, 0⟩]) (.block 0 pf_impl_increasing_l0)) (.seq (.reg [⟨some 2, .mov (.k (.bool true)), none, 0⟩]) .ret))),
  [(2, none)]⟩
/-- slices.IndexFunc[[]int64,int64] -/
def pf_slices_IndexFunc_int64_int64_lb0 : PC := (.seq (.reg [⟨some 9, .bin .lss 0 (.t 8) (.t 7), none, 0⟩]) (.seq (.cond (.t 9) .skip (.exit 0)) (.seq (.block 1 (.seq (.reg [⟨some 10, .mov (.t 8), none, 0⟩,
  ⟨some 5, .mov (.t 10), none, 0⟩]) (.seq (.reg [⟨some 11, .mov (.t 1), none, 0⟩,
  ⟨some 12, .mov (.t 0), none, 0⟩,
  ⟨some 13, .mov (.t 5), none, 0⟩,
  ⟨some 14, .idxa ty_int64 (.t 12) (.t 13), none, 0⟩,
  ⟨some 15, .load 1 false (.t 14), none, 0⟩,
  ⟨some 16, .callv (.t 11) [.t 15], none, 0⟩]) (.cond (.t 16) (.seq (.reg [⟨some 17, .mov (.t 5), none, 0⟩,
  ⟨some 4, .mov (.t 17), none, 0⟩]) .ret) .skip)))) (.reg [⟨some 18, .bin .add 0 (.t 8) (.k (.int .i64 1)), none, 0⟩,
  ⟨some 8, .mov (.t 18), none, 0⟩]))))
def pf_slices_IndexFunc_int64_int64_l0 : PC := .loop [] pf_slices_IndexFunc_int64_int64_lb0
theorem ex_slices_IndexFunc_int64_int64_l0 {C : Code} {V : List Nat} (s : St) : EX C V pf_slices_IndexFunc_int64_int64_l0 s = EXK C V pf_slices_IndexFunc_int64_int64_l0 (EX C V pf_slices_IndexFunc_int64_int64_lb0 (forget [] s)) := EX_loop _ _ _
def pf_slices_IndexFunc_int64_int64 : PF := ⟨[.val, .val], [0, 1, 5, 8], (.seq (.reg [⟨some 4, .mov (.k (.int .i64 0)), none, 0⟩]) (.seq (.seq (.reg [⟨some 6, .mov (.t 0), none, 0⟩,
  ⟨some 7, .len true (.t 6), none, 0⟩,
  ⟨some 8, .mov (.k (.int .i64 0)), none, 0⟩]) (.block 0 pf_slices_IndexFunc_int64_int64_l0)) (.seq (.reg [⟨some 4, .mov (.k (.int .i64 (-1))), none, 0⟩]) .ret))),
  [(4, none)]⟩
/-- slices.ContainsFunc[[]int64,int64] -/
def pf_slices_ContainsFunc_int64_int64 : PF := ⟨[.val, .val], [0, 1], (.seq (.reg [⟨some 4, .mov (.k (.bool false)), none, 0⟩]) (.seq (.reg [⟨some 5, .mov (.t 0), none, 0⟩,
  ⟨some 6, .mov (.t 1), none, 0⟩,
  ⟨some 7, .call fn_slices_IndexFunc_int64_int64 [.t 5, .t 6], none, 0⟩,
  ⟨some 8, .bin .geq 0 (.t 7) (.k (.int .i64 0)), none, 0⟩,
  ⟨some 4, .mov (.t 8), none, 0⟩]) .ret)),
  [(4, none)]⟩
/-- (loop.example/g00849/impl.Tree).areDevices$1 -/
def pf_impl_Tree_areDevices_1 : PF := ⟨[.val, .val], [0, 1], (.seq (.reg [⟨some 3, .mov (.k (.bool false)), none, 0⟩]) (.seq (.reg [⟨some 4, .load 2 true (.t 1), none, 0⟩,
  ⟨some 5, .mov (.t 0), none, 0⟩,
  ⟨some 6, .call fn_impl_Tree_device [.t 4, .t 5], none, 0⟩,
  ⟨some 7, .bin .lss 0 (.t 6) (.k (.int .i64 0)), none, 0⟩,
  ⟨some 3, .mov (.t 7), none, 0⟩]) .ret)),
  [(3, none)]⟩
/-- (loop.example/g00849/impl.Tree).areDevices -/
def pf_impl_Tree_areDevices : PF := ⟨[.val, .val], [0, 1, 7], (.seq (.reg [⟨some 2, .box (.t 0) 2, none, 0⟩,
  ⟨some 4, .mov (.k (.bool false)), none, 0⟩]) (.seq (.reg [⟨some 5, .mov (.t 1), none, 0⟩,
  ⟨some 6, .call fn_impl_increasing [.t 5], none, 0⟩,
  ⟨some 7, .mov (.t 6), none, 0⟩,
  ⟨some 8, .mov (.t 1), some (7, true), 0⟩,
  ⟨some 9, .mkf fn_impl_Tree_areDevices_1 [.t 2], some (7, true), 0⟩,
  ⟨some 10, .call fn_slices_ContainsFunc_int64_int64 [.t 8, .t 9], some (7, true), 0⟩,
  ⟨some 11, .un .not (.t 10), some (7, true), 0⟩,
  ⟨some 12, .pick (.t 7) (.t 11) (.k (.bool false)), none, 0⟩,
  ⟨some 4, .mov (.t 12), none, 0⟩]) .ret)),
  [(4, none)]⟩
/-- loop.example/g00849/impl.MapOk -/
def pf_impl_MapOk : PF := ⟨[.val], [0, 1, 6, 13, 18, 22, 26, 33], (.seq (.reg [⟨some 1, .box (.t 0) 8, none, 0⟩,
  ⟨some 2, .mov (.k (.bool false)), none, 0⟩]) (.seq (.reg [⟨some 3, .flda 0 (.t 1), none, 0⟩,
  ⟨some 4, .load 1 false (.t 3), none, 0⟩,
  ⟨some 5, .call fn_impl_between [.t 4, .k (.int .i64 1), .k (.int .i64 60)], none, 0⟩,
  ⟨some 6, .mov (.t 5), none, 0⟩,
  ⟨some 7, .flda 1 (.t 1), some (6, true), 0⟩,
  ⟨some 8, .load 1 false (.t 7), some (6, true), 0⟩,
  ⟨some 9, .flda 0 (.t 1), some (6, true), 0⟩,
  ⟨some 10, .load 1 false (.t 9), some (6, true), 0⟩,
  ⟨some 11, .call fn_impl_between [.t 8, .k (.int .i64 0), .t 10], some (6, true), 0⟩,
  ⟨some 12, .pick (.t 6) (.t 11) (.k (.bool false)), none, 0⟩,
  ⟨some 13, .mov (.t 12), none, 0⟩,
  ⟨some 14, .flda 2 (.t 1), some (13, true), 0⟩,
  ⟨some 15, .load 2 true (.t 14), some (13, true), 0⟩,
  ⟨some 16, .call fn_impl_TreeOk [.t 15], some (13, true), 0⟩,
  ⟨some 17, .pick (.t 13) (.t 16) (.k (.bool false)), none, 0⟩,
  ⟨some 18, .mov (.t 17), none, 0⟩,
  ⟨some 19, .load 8 true (.t 1), some (18, true), 0⟩,
  ⟨some 20, .call fn_impl_Map_rulesOk [.t 19], some (18, true), 0⟩,
  ⟨some 21, .pick (.t 18) (.t 20) (.k (.bool false)), none, 0⟩,
  ⟨some 22, .mov (.t 21), none, 0⟩,
  ⟨some 23, .load 8 true (.t 1), some (22, true), 0⟩,
  ⟨some 24, .call fn_impl_Map_poolsOk [.t 23], some (22, true), 0⟩,
  ⟨some 25, .pick (.t 22) (.t 24) (.k (.bool false)), none, 0⟩,
  ⟨some 26, .mov (.t 25), none, 0⟩,
  ⟨some 27, .flda 2 (.t 1), some (26, true), 0⟩,
  ⟨some 28, .load 2 true (.t 27), some (26, true), 0⟩,
  ⟨some 29, .flda 6 (.t 1), some (26, true), 0⟩,
  ⟨some 30, .load 1 false (.t 29), some (26, true), 0⟩,
  ⟨some 31, .call fn_impl_Tree_areDevices [.t 28, .t 30], some (26, true), 0⟩,
  ⟨some 32, .pick (.t 26) (.t 31) (.k (.bool false)), none, 0⟩,
  ⟨some 33, .mov (.t 32), none, 0⟩,
  ⟨some 34, .flda 2 (.t 1), some (33, true), 0⟩,
  ⟨some 35, .load 2 true (.t 34), some (33, true), 0⟩,
  ⟨some 36, .flda 7 (.t 1), some (33, true), 0⟩,
  ⟨some 37, .load 1 false (.t 36), some (33, true), 0⟩,
  ⟨some 38, .call fn_impl_Tree_areDevices [.t 35, .t 37], some (33, true), 0⟩,
  ⟨some 39, .pick (.t 33) (.t 38) (.k (.bool false)), none, 0⟩,
  ⟨some 2, .mov (.t 39), none, 0⟩]) .ret)),
  [(2, none)]⟩
/-- (loop.example/g00849/impl.Pool).pgs -/
def pf_impl_Pool_pgs_lb0 : PC := (.seq (.reg [⟨some 8, .bin .lss 0 (.t 7) (.t 6), none, 0⟩]) (.seq (.cond (.t 8) .skip (.exit 0)) (.seq (.block 1 (.seq (.reg [⟨some 9, .mov (.t 7), none, 0⟩,
  ⟨some 4, .mov (.t 9), none, 0⟩]) (.reg [⟨some 10, .mov (.t 3), none, 0⟩,
  ⟨some 11, .flda 0 (.t 1), none, 0⟩,
  ⟨some 12, .load 1 false (.t 11), none, 0⟩,
  ⟨some 13, .mov (.t 4), none, 0⟩,
  ⟨some 14, .build [.int .i64 0, .int .i64 0] [(0, 1), (1, 1)] [.t 12, .t 13], none, 0⟩,
  ⟨some 15, .lit ty_impl_Pg 2 [.t 14], none, 0⟩,
  ⟨some 16, .app ty_impl_Pg 16 (.t 10) (.t 15), none, 0⟩,
  ⟨some 3, .mov (.t 16), none, 0⟩]))) (.reg [⟨some 17, .bin .add 0 (.t 7) (.k (.int .i64 1)), none, 0⟩,
  ⟨some 7, .mov (.t 17), none, 0⟩]))))
def pf_impl_Pool_pgs_l0 : PC := .loop [] pf_impl_Pool_pgs_lb0
theorem ex_impl_Pool_pgs_l0 {C : Code} {V : List Nat} (s : St) : EX C V pf_impl_Pool_pgs_l0 s = EXK C V pf_impl_Pool_pgs_l0 (EX C V pf_impl_Pool_pgs_lb0 (forget [] s)) := EX_loop _ _ _
def pf_impl_Pool_pgs : PF := ⟨[.val], [0, 1, 3, 4, 7], (.seq (.reg [⟨some 1, .box (.t 0) 6, none, 0⟩,
  ⟨some 2, .mov (.k (.sl 2 ty_impl_Pg [])), none, 0⟩]) (.seq (.reg [⟨some 3, .mov (.k (.sl 2 ty_impl_Pg [])), none, 0⟩]) (.seq (.seq (.reg [⟨some 5, .flda 4 (.t 1), none, 0⟩,
  ⟨some 6, .load 1 false (.t 5), none, 0⟩,
  ⟨some 7, .mov (.k (.int .i64 0)), none, 0⟩]) (.block 0 pf_impl_Pool_pgs_l0)) (.seq (.reg [⟨some 18, .mov (.t 3), none, 0⟩,
  ⟨some 2, .mov (.t 18), none, 0⟩]) .ret)))),
  [(2, none)]⟩
/-- (loop.example/g00849/impl.Map).pgs -/
def pf_impl_Map_pgs_lb0 : PC := (.seq (.reg [⟨some 10, .bin .lss 0 (.t 9) (.t 8), none, 0⟩]) (.seq (.cond (.t 10) .skip (.exit 0)) (.seq (.block 1 (.seq (.reg [⟨some 11, .idxa ty_impl_Pool (.t 7) (.t 9), none, 0⟩,
  ⟨some 12, .load 6 true (.t 11), none, 0⟩,
  ⟨some 5, .alloc [.int .i64 0, .int .i64 0, .int .i64 0, .int .i64 0, .int .i64 0, .int .i64 0], none, 0⟩,
  ⟨none, .store 6 (.t 5) (.t 12), none, 0⟩]) (.reg [⟨some 13, .mov (.t 3), none, 0⟩,
  ⟨some 14, .load 6 true (.t 5), none, 0⟩,
  ⟨some 15, .call fn_impl_Pool_pgs [.t 14], none, 0⟩,
  ⟨some 16, .app ty_impl_Pg 16 (.t 13) (.t 15), none, 0⟩,
  ⟨some 3, .mov (.t 16), none, 0⟩]))) (.reg [⟨some 17, .bin .add 0 (.t 9) (.k (.int .i64 1)), none, 0⟩,
  ⟨some 9, .mov (.t 17), none, 0⟩]))))
def pf_impl_Map_pgs_l0 : PC := .loop [5] pf_impl_Map_pgs_lb0
theorem ex_impl_Map_pgs_l0 {C : Code} {V : List Nat} (s : St) : EX C V pf_impl_Map_pgs_l0 s = EXK C V pf_impl_Map_pgs_l0 (EX C V pf_impl_Map_pgs_lb0 (forget [5] s)) := EX_loop _ _ _
def pf_impl_Map_pgs : PF := ⟨[.val], [0, 3, 5, 7, 9], (.seq (.reg [⟨some 1, .box (.t 0) 8, none, 0⟩,
  ⟨some 2, .mov (.k (.sl 2 ty_impl_Pg [])), none, 0⟩]) (.seq (.reg [⟨some 3, .mov (.k (.sl 2 ty_impl_Pg [])), none, 0⟩]) (.seq (.seq (.reg [⟨some 6, .flda 5 (.t 1), none, 0⟩,
  ⟨some 7, .load 1 false (.t 6), none, 0⟩,
  ⟨some 8, .len true (.t 7), none, 0⟩,
  ⟨some 9, .mov (.k (.int .i64 0)), none, 0⟩]) (.block 0 pf_impl_Map_pgs_l0)) (.seq (.reg [⟨some 18, .mov (.t 3), none, 0⟩,
  ⟨some 2, .mov (.t 18), none, 0⟩]) .ret)))),
  [(2, none)]⟩
/-- loop.example/g00849/impl.PgsOf -/
def pf_impl_PgsOf : PF := ⟨[.val], [0, 1], (.seq (.reg [⟨some 1, .box (.t 0) 8, none, 0⟩,
  ⟨some 2, .mov (.k (.sl 2 ty_impl_Pg [])), none, 0⟩]) (.seq (.seq (.reg [⟨some 3, .load 8 true (.t 1), none, 0⟩,
  ⟨some 4, .call fn_impl_MapOk [.t 3], none, 0⟩,
  ⟨some 5, .un .not (.t 4), none, 0⟩]) (.cond (.t 5) (.seq (.reg [⟨some 2, .mov (.k (.sl 2 ty_impl_Pg [])), none, 0⟩]) .ret) .skip)) (.seq (.reg [⟨some 6, .ldt 8 (.t 1), none, 0⟩,
  ⟨some 7, .call fn_impl_Map_pgs [.t 6], none, 0⟩,
  ⟨some 2, .mov (.t 7), none, 0⟩]) .ret))),
  [(2, none)]⟩
/-- loop.example/g00849/laws.eqDevice -/
def pf_laws_eqDevice : PF := ⟨[.val, .val], [0, 1, 2, 3], (.seq (.reg [⟨some 2, .box (.t 0) 2, none, 0⟩,
  ⟨some 3, .box (.t 1) 2, none, 0⟩,
  ⟨some 4, .mov (.k (.bool false)), none, 0⟩]) (.seq (.seq (.reg [⟨some 5, .flda 0 (.t 2), none, 0⟩,
  ⟨some 6, .load 1 false (.t 5), none, 0⟩,
  ⟨some 7, .flda 0 (.t 3), none, 0⟩,
  ⟨some 8, .load 1 false (.t 7), none, 0⟩,
  ⟨some 9, .bin .neq 0 (.t 6) (.t 8), none, 0⟩]) (.cond (.t 9) (.seq (.reg [⟨some 4, .mov (.k (.bool false)), none, 0⟩]) .ret) .skip)) (.seq (.seq (.reg [⟨some 10, .flda 1 (.t 2), none, 0⟩,
  ⟨some 11, .load 1 false (.t 10), none, 0⟩,
  ⟨some 12, .flda 1 (.t 3), none, 0⟩,
  ⟨some 13, .load 1 false (.t 12), none, 0⟩,
  ⟨some 14, .bin .neq 0 (.t 11) (.t 13), none, 0⟩]) (.cond (.t 14) (.seq (.reg [⟨some 4, .mov (.k (.bool false)), none, 0⟩]) .ret) .skip)) (.seq (.reg [⟨some 4, .mov (.k (.bool true)), none, 0⟩]) .ret)))),
  [(4, none)]⟩
/-- loop.example/g00849/laws.eqDeviceS -/
def pf_laws_eqDeviceS_lb0 : PC := (.seq (.seq (.reg [⟨some 11, .mov (.t 5), none, 0⟩,
  ⟨some 12, .mov (.t 0), none, 0⟩,
  ⟨some 13, .len true (.t 12), none, 0⟩,
  ⟨some 14, .bin .lss 0 (.t 11) (.t 13), none, 0⟩]) (.cond (.t 14) .skip (.exit 0))) (.seq (.block 1 (.seq (.any [(0, []), (1, [0]), (2, []), (3, []), (4, [0, 1, 2, 3]), (5, [0, 1, 2, 3, 4]), (6, [0, 1, 2, 3]), (7, [0, 1, 2, 3]), (8, []), (9, [])] [⟨some 17, .mov (.t 0), none, 0⟩,
  ⟨some 18, .mov (.t 5), none, 0⟩,
  ⟨some 19, .idxa ty_impl_Device (.t 17) (.t 18), none, 0⟩,
  ⟨some 20, .load 2 true (.t 19), none, 0⟩,
  ⟨some 21, .mov (.t 1), none, 0⟩,
  ⟨some 22, .mov (.t 5), none, 0⟩,
  ⟨some 23, .idxa ty_impl_Device (.t 21) (.t 22), none, 0⟩,
  ⟨some 24, .load 2 true (.t 23), none, 0⟩,
  ⟨some 25, .call fn_laws_eqDevice [.t 20, .t 24], none, 0⟩,
  ⟨some 26, .un .not (.t 25), none, 0⟩]) (.cond (.t 26) (.seq (.reg [⟨some 4, .mov (.k (.bool false)), none, 0⟩]) .ret) .skip))) (.reg [⟨some 15, .mov (.t 5), none, 0⟩,
  ⟨some 16, .bin .add 0 (.t 15) (.k (.int .i64 1)), none, 0⟩,
  ⟨some 5, .mov (.t 16), none, 0⟩])))
def pf_laws_eqDeviceS_l0 : PC := .loop [] pf_laws_eqDeviceS_lb0
theorem ex_laws_eqDeviceS_l0 {C : Code} {V : List Nat} (s : St) : EX C V pf_laws_eqDeviceS_l0 s = EXK C V pf_laws_eqDeviceS_l0 (EX C V pf_laws_eqDeviceS_lb0 (forget [] s)) := EX_loop _ _ _
def pf_laws_eqDeviceS : PF := ⟨[.val, .val], [0, 1, 5], (.seq (.reg [⟨some 4, .mov (.k (.bool false)), none, 0⟩]) (.seq (.seq (.reg [⟨some 6, .mov (.t 0), none, 0⟩,
  ⟨some 7, .len true (.t 6), none, 0⟩,
  ⟨some 8, .mov (.t 1), none, 0⟩,
  ⟨some 9, .len true (.t 8), none, 0⟩,
  ⟨some 10, .bin .neq 0 (.t 7) (.t 9), none, 0⟩]) (.cond (.t 10) (.seq (.reg [⟨some 4, .mov (.k (.bool false)), none, 0⟩]) .ret) .skip)) (.seq (.seq (.reg [⟨some 5, .mov (.k (.int .i64 0)), none, 0⟩]) (.block 0 pf_laws_eqDeviceS_l0)) (.seq (.reg [⟨some 4, .mov (.k (.bool true)), none, 0⟩]) .ret)))),
  [(4, none)]⟩
/-- loop.example/g00849/laws.eqInt64S -/
def pf_laws_eqInt64S_lb0 : PC := (.seq (.seq (.reg [⟨some 11, .mov (.t 5), none, 0⟩,
  ⟨some 12, .mov (.t 0), none, 0⟩,
  ⟨some 13, .len true (.t 12), none, 0⟩,
  ⟨some 14, .bin .lss 0 (.t 11) (.t 13), none, 0⟩]) (.cond (.t 14) .skip (.exit 0))) (.seq (.block 1 (.seq (.any [(0, []), (1, [0]), (2, []), (3, []), (4, [0, 1, 2, 3]), (5, [0, 1, 2, 3, 4]), (6, [0, 1, 2, 3]), (7, [0, 1, 2, 3]), (8, [])] [⟨some 17, .mov (.t 0), none, 0⟩,
  ⟨some 18, .mov (.t 5), none, 0⟩,
  ⟨some 19, .idxa ty_int64 (.t 17) (.t 18), none, 0⟩,
  ⟨some 20, .load 1 false (.t 19), none, 0⟩,
  ⟨some 21, .mov (.t 1), none, 0⟩,
  ⟨some 22, .mov (.t 5), none, 0⟩,
  ⟨some 23, .idxa ty_int64 (.t 21) (.t 22), none, 0⟩,
  ⟨some 24, .load 1 false (.t 23), none, 0⟩,
  ⟨some 25, .bin .neq 0 (.t 20) (.t 24), none, 0⟩]) (.cond (.t 25) (.seq (.reg [⟨some 4, .mov (.k (.bool false)), none, 0⟩]) .ret) .skip))) (.reg [⟨some 15, .mov (.t 5), none, 0⟩,
  ⟨some 16, .bin .add 0 (.t 15) (.k (.int .i64 1)), none, 0⟩,
  ⟨some 5, .mov (.t 16), none, 0⟩])))
def pf_laws_eqInt64S_l0 : PC := .loop [] pf_laws_eqInt64S_lb0
theorem ex_laws_eqInt64S_l0 {C : Code} {V : List Nat} (s : St) : EX C V pf_laws_eqInt64S_l0 s = EXK C V pf_laws_eqInt64S_l0 (EX C V pf_laws_eqInt64S_lb0 (forget [] s)) := EX_loop _ _ _
def pf_laws_eqInt64S : PF := ⟨[.val, .val], [0, 1, 5], (.seq (.reg [⟨some 4, .mov (.k (.bool false)), none, 0⟩]) (.seq (.seq (.reg [⟨some 6, .mov (.t 0), none, 0⟩,
  ⟨some 7, .len true (.t 6), none, 0⟩,
  ⟨some 8, .mov (.t 1), none, 0⟩,
  ⟨some 9, .len true (.t 8), none, 0⟩,
  ⟨some 10, .bin .neq 0 (.t 7) (.t 9), none, 0⟩]) (.cond (.t 10) (.seq (.reg [⟨some 4, .mov (.k (.bool false)), none, 0⟩]) .ret) .skip)) (.seq (.seq (.reg [⟨some 5, .mov (.k (.int .i64 0)), none, 0⟩]) (.block 0 pf_laws_eqInt64S_l0)) (.seq (.reg [⟨some 4, .mov (.k (.bool true)), none, 0⟩]) .ret)))),
  [(4, none)]⟩
/-- loop.example/g00849/laws.eqBucket -/
def pf_laws_eqBucket : PF := ⟨[.val, .val], [0, 1, 2, 3], (.seq (.reg [⟨some 2, .box (.t 0) 3, none, 0⟩,
  ⟨some 3, .box (.t 1) 3, none, 0⟩,
  ⟨some 4, .mov (.k (.bool false)), none, 0⟩]) (.seq (.seq (.reg [⟨some 5, .flda 0 (.t 2), none, 0⟩,
  ⟨some 6, .load 1 false (.t 5), none, 0⟩,
  ⟨some 7, .flda 0 (.t 3), none, 0⟩,
  ⟨some 8, .load 1 false (.t 7), none, 0⟩,
  ⟨some 9, .bin .neq 0 (.t 6) (.t 8), none, 0⟩]) (.cond (.t 9) (.seq (.reg [⟨some 4, .mov (.k (.bool false)), none, 0⟩]) .ret) .skip)) (.seq (.seq (.reg [⟨some 10, .flda 1 (.t 2), none, 0⟩,
  ⟨some 11, .load 1 false (.t 10), none, 0⟩,
  ⟨some 12, .flda 1 (.t 3), none, 0⟩,
  ⟨some 13, .load 1 false (.t 12), none, 0⟩,
  ⟨some 14, .bin .neq 0 (.t 11) (.t 13), none, 0⟩]) (.cond (.t 14) (.seq (.reg [⟨some 4, .mov (.k (.bool false)), none, 0⟩]) .ret) .skip)) (.seq (.seq (.reg [⟨some 15, .flda 2 (.t 2), none, 0⟩,
  ⟨some 16, .load 1 false (.t 15), none, 0⟩,
  ⟨some 17, .flda 2 (.t 3), none, 0⟩,
  ⟨some 18, .load 1 false (.t 17), none, 0⟩,
  ⟨some 19, .call fn_laws_eqInt64S [.t 16, .t 18], none, 0⟩,
  ⟨some 20, .un .not (.t 19), none, 0⟩]) (.cond (.t 20) (.seq (.reg [⟨some 4, .mov (.k (.bool false)), none, 0⟩]) .ret) .skip)) (.seq (.reg [⟨some 4, .mov (.k (.bool true)), none, 0⟩]) .ret))))),
  [(4, none)]⟩
/-- loop.example/g00849/laws.eqBucketS -/
def pf_laws_eqBucketS_lb0 : PC := (.seq (.seq (.reg [⟨some 11, .mov (.t 5), none, 0⟩,
  ⟨some 12, .mov (.t 0), none, 0⟩,
  ⟨some 13, .len true (.t 12), none, 0⟩,
  ⟨some 14, .bin .lss 0 (.t 11) (.t 13), none, 0⟩]) (.cond (.t 14) .skip (.exit 0))) (.seq (.block 1 (.seq (.any [(0, []), (1, [0]), (2, []), (3, []), (4, [0, 1, 2, 3]), (5, [0, 1, 2, 3, 4]), (6, [0, 1, 2, 3]), (7, [0, 1, 2, 3]), (8, []), (9, [])] [⟨some 17, .mov (.t 0), none, 0⟩,
  ⟨some 18, .mov (.t 5), none, 0⟩,
  ⟨some 19, .idxa ty_impl_Bucket (.t 17) (.t 18), none, 0⟩,
  ⟨some 20, .load 3 true (.t 19), none, 0⟩,
  ⟨some 21, .mov (.t 1), none, 0⟩,
  ⟨some 22, .mov (.t 5), none, 0⟩,
  ⟨some 23, .idxa ty_impl_Bucket (.t 21) (.t 22), none, 0⟩,
  ⟨some 24, .load 3 true (.t 23), none, 0⟩,
  ⟨some 25, .call fn_laws_eqBucket [.t 20, .t 24], none, 0⟩,
  ⟨some 26, .un .not (.t 25), none, 0⟩]) (.cond (.t 26) (.seq (.reg [⟨some 4, .mov (.k (.bool false)), none, 0⟩]) .ret) .skip))) (.reg [⟨some 15, .mov (.t 5), none, 0⟩,
  ⟨some 16, .bin .add 0 (.t 15) (.k (.int .i64 1)), none, 0⟩,
  ⟨some 5, .mov (.t 16), none, 0⟩])))
def pf_laws_eqBucketS_l0 : PC := .loop [] pf_laws_eqBucketS_lb0
theorem ex_laws_eqBucketS_l0 {C : Code} {V : List Nat} (s : St) : EX C V pf_laws_eqBucketS_l0 s = EXK C V pf_laws_eqBucketS_l0 (EX C V pf_laws_eqBucketS_lb0 (forget [] s)) := EX_loop _ _ _
def pf_laws_eqBucketS : PF := ⟨[.val, .val], [0, 1, 5], (.seq (.reg [⟨some 4, .mov (.k (.bool false)), none, 0⟩]) (.seq (.seq (.reg [⟨some 6, .mov (.t 0), none, 0⟩,
  ⟨some 7, .len true (.t 6), none, 0⟩,
  ⟨some 8, .mov (.t 1), none, 0⟩,
  ⟨some 9, .len true (.t 8), none, 0⟩,
  ⟨some 10, .bin .neq 0 (.t 7) (.t 9), none, 0⟩]) (.cond (.t 10) (.seq (.reg [⟨some 4, .mov (.k (.bool false)), none, 0⟩]) .ret) .skip)) (.seq (.seq (.reg [⟨some 5, .mov (.k (.int .i64 0)), none, 0⟩]) (.block 0 pf_laws_eqBucketS_l0)) (.seq (.reg [⟨some 4, .mov (.k (.bool true)), none, 0⟩]) .ret)))),
  [(4, none)]⟩
/-- loop.example/g00849/laws.eqTree -/
def pf_laws_eqTree : PF := ⟨[.val, .val], [0, 1, 2, 3], (.seq (.reg [⟨some 2, .box (.t 0) 2, none, 0⟩,
  ⟨some 3, .box (.t 1) 2, none, 0⟩,
  ⟨some 4, .mov (.k (.bool false)), none, 0⟩]) (.seq (.seq (.reg [⟨some 5, .flda 0 (.t 2), none, 0⟩,
  ⟨some 6, .load 1 false (.t 5), none, 0⟩,
  ⟨some 7, .flda 0 (.t 3), none, 0⟩,
  ⟨some 8, .load 1 false (.t 7), none, 0⟩,
  ⟨some 9, .call fn_laws_eqDeviceS [.t 6, .t 8], none, 0⟩,
  ⟨some 10, .un .not (.t 9), none, 0⟩]) (.cond (.t 10) (.seq (.reg [⟨some 4, .mov (.k (.bool false)), none, 0⟩]) .ret) .skip)) (.seq (.seq (.reg [⟨some 11, .flda 1 (.t 2), none, 0⟩,
  ⟨some 12, .load 1 false (.t 11), none, 0⟩,
  ⟨some 13, .flda 1 (.t 3), none, 0⟩,
  ⟨some 14, .load 1 false (.t 13), none, 0⟩,
  ⟨some 15, .call fn_laws_eqBucketS [.t 12, .t 14], none, 0⟩,
  ⟨some 16, .un .not (.t 15), none, 0⟩]) (.cond (.t 16) (.seq (.reg [⟨some 4, .mov (.k (.bool false)), none, 0⟩]) .ret) .skip)) (.seq (.reg [⟨some 4, .mov (.k (.bool true)), none, 0⟩]) .ret)))),
  [(4, none)]⟩
/-- loop.example/g00849/laws.eqRule -/
def pf_laws_eqRule : PF := ⟨[.val, .val], [0, 1, 2, 3], (.seq (.reg [⟨some 2, .box (.t 0) 4, none, 0⟩,
  ⟨some 3, .box (.t 1) 4, none, 0⟩,
  ⟨some 4, .mov (.k (.bool false)), none, 0⟩]) (.seq (.seq (.reg [⟨some 5, .flda 0 (.t 2), none, 0⟩,
  ⟨some 6, .load 1 false (.t 5), none, 0⟩,
  ⟨some 7, .flda 0 (.t 3), none, 0⟩,
  ⟨some 8, .load 1 false (.t 7), none, 0⟩,
  ⟨some 9, .bin .neq 0 (.t 6) (.t 8), none, 0⟩]) (.cond (.t 9) (.seq (.reg [⟨some 4, .mov (.k (.bool false)), none, 0⟩]) .ret) .skip)) (.seq (.seq (.reg [⟨some 10, .flda 1 (.t 2), none, 0⟩,
  ⟨some 11, .load 1 false (.t 10), none, 0⟩,
  ⟨some 12, .flda 1 (.t 3), none, 0⟩,
  ⟨some 13, .load 1 false (.t 12), none, 0⟩,
  ⟨some 14, .bin .neq 0 (.t 11) (.t 13), none, 0⟩]) (.cond (.t 14) (.seq (.reg [⟨some 4, .mov (.k (.bool false)), none, 0⟩]) .ret) .skip)) (.seq (.seq (.reg [⟨some 15, .flda 2 (.t 2), none, 0⟩,
  ⟨some 16, .load 1 false (.t 15), none, 0⟩,
  ⟨some 17, .flda 2 (.t 3), none, 0⟩,
  ⟨some 18, .load 1 false (.t 17), none, 0⟩,
  ⟨some 19, .bin .neq 0 (.t 16) (.t 18), none, 0⟩]) (.cond (.t 19) (.seq (.reg [⟨some 4, .mov (.k (.bool false)), none, 0⟩]) .ret) .skip)) (.seq (.seq (.reg [⟨some 20, .flda 3 (.t 2), none, 0⟩,
  ⟨some 21, .load 1 false (.t 20), none, 0⟩,
  ⟨some 22, .flda 3 (.t 3), none, 0⟩,
  ⟨some 23, .load 1 false (.t 22), none, 0⟩,
  ⟨some 24, .bin .neq 1 (.t 21) (.t 23), none, 0⟩]) (.cond (.t 24) (.seq (.reg [⟨some 4, .mov (.k (.bool false)), none, 0⟩]) .ret) .skip)) (.seq (.reg [⟨some 4, .mov (.k (.bool true)), none, 0⟩]) .ret)))))),
  [(4, none)]⟩
/-- loop.example/g00849/laws.eqRuleS -/
def pf_laws_eqRuleS_lb0 : PC := (.seq (.seq (.reg [⟨some 11, .mov (.t 5), none, 0⟩,
  ⟨some 12, .mov (.t 0), none, 0⟩,
  ⟨some 13, .len true (.t 12), none, 0⟩,
  ⟨some 14, .bin .lss 0 (.t 11) (.t 13), none, 0⟩]) (.cond (.t 14) .skip (.exit 0))) (.seq (.block 1 (.seq (.any [(0, []), (1, [0]), (2, []), (3, []), (4, [0, 1, 2, 3]), (5, [0, 1, 2, 3, 4]), (6, [0, 1, 2, 3]), (7, [0, 1, 2, 3]), (8, []), (9, [])] [⟨some 17, .mov (.t 0), none, 0⟩,
  ⟨some 18, .mov (.t 5), none, 0⟩,
  ⟨some 19, .idxa ty_impl_Rule (.t 17) (.t 18), none, 0⟩,
  ⟨some 20, .load 4 true (.t 19), none, 0⟩,
  ⟨some 21, .mov (.t 1), none, 0⟩,
  ⟨some 22, .mov (.t 5), none, 0⟩,
  ⟨some 23, .idxa ty_impl_Rule (.t 21) (.t 22), none, 0⟩,
  ⟨some 24, .load 4 true (.t 23), none, 0⟩,
  ⟨some 25, .call fn_laws_eqRule [.t 20, .t 24], none, 0⟩,
  ⟨some 26, .un .not (.t 25), none, 0⟩]) (.cond (.t 26) (.seq (.reg [⟨some 4, .mov (.k (.bool false)), none, 0⟩]) .ret) .skip))) (.reg [⟨some 15, .mov (.t 5), none, 0⟩,
  ⟨some 16, .bin .add 0 (.t 15) (.k (.int .i64 1)), none, 0⟩,
  ⟨some 5, .mov (.t 16), none, 0⟩])))
def pf_laws_eqRuleS_l0 : PC := .loop [] pf_laws_eqRuleS_lb0
theorem ex_laws_eqRuleS_l0 {C : Code} {V : List Nat} (s : St) : EX C V pf_laws_eqRuleS_l0 s = EXK C V pf_laws_eqRuleS_l0 (EX C V pf_laws_eqRuleS_lb0 (forget [] s)) := EX_loop _ _ _
def pf_laws_eqRuleS : PF := ⟨[.val, .val], [0, 1, 5], (.seq (.reg [⟨some 4, .mov (.k (.bool false)), none, 0⟩]) (.seq (.seq (.reg [⟨some 6, .mov (.t 0), none, 0⟩,
  ⟨some 7, .len true (.t 6), none, 0⟩,
  ⟨some 8, .mov (.t 1), none, 0⟩,
  ⟨some 9, .len true (.t 8), none, 0⟩,
  ⟨some 10, .bin .neq 0 (.t 7) (.t 9), none, 0⟩]) (.cond (.t 10) (.seq (.reg [⟨some 4, .mov (.k (.bool false)), none, 0⟩]) .ret) .skip)) (.seq (.seq (.reg [⟨some 5, .mov (.k (.int .i64 0)), none, 0⟩]) (.block 0 pf_laws_eqRuleS_l0)) (.seq (.reg [⟨some 4, .mov (.k (.bool true)), none, 0⟩]) .ret)))),
  [(4, none)]⟩
/-- loop.example/g00849/laws.eqCode -/
def pf_laws_eqCode : PF := ⟨[.val, .val], [0, 1, 2, 3], (.seq (.reg [⟨some 2, .box (.t 0) 2, none, 0⟩,
  ⟨some 3, .box (.t 1) 2, none, 0⟩,
  ⟨some 4, .mov (.k (.bool false)), none, 0⟩]) (.seq (.seq (.reg [⟨some 5, .flda 0 (.t 2), none, 0⟩,
  ⟨some 6, .load 1 false (.t 5), none, 0⟩,
  ⟨some 7, .flda 0 (.t 3), none, 0⟩,
  ⟨some 8, .load 1 false (.t 7), none, 0⟩,
  ⟨some 9, .bin .neq 0 (.t 6) (.t 8), none, 0⟩]) (.cond (.t 9) (.seq (.reg [⟨some 4, .mov (.k (.bool false)), none, 0⟩]) .ret) .skip)) (.seq (.seq (.reg [⟨some 10, .flda 1 (.t 2), none, 0⟩,
  ⟨some 11, .load 1 false (.t 10), none, 0⟩,
  ⟨some 12, .flda 1 (.t 3), none, 0⟩,
  ⟨some 13, .load 1 false (.t 12), none, 0⟩,
  ⟨some 14, .bin .neq 0 (.t 11) (.t 13), none, 0⟩]) (.cond (.t 14) (.seq (.reg [⟨some 4, .mov (.k (.bool false)), none, 0⟩]) .ret) .skip)) (.seq (.reg [⟨some 4, .mov (.k (.bool true)), none, 0⟩]) .ret)))),
  [(4, none)]⟩
/-- loop.example/g00849/laws.eqPool -/
def pf_laws_eqPool : PF := ⟨[.val, .val], [0, 1, 2, 3], (.seq (.reg [⟨some 2, .box (.t 0) 6, none, 0⟩,
  ⟨some 3, .box (.t 1) 6, none, 0⟩,
  ⟨some 4, .mov (.k (.bool false)), none, 0⟩]) (.seq (.seq (.reg [⟨some 5, .flda 0 (.t 2), none, 0⟩,
  ⟨some 6, .load 1 false (.t 5), none, 0⟩,
  ⟨some 7, .flda 0 (.t 3), none, 0⟩,
  ⟨some 8, .load 1 false (.t 7), none, 0⟩,
  ⟨some 9, .bin .neq 0 (.t 6) (.t 8), none, 0⟩]) (.cond (.t 9) (.seq (.reg [⟨some 4, .mov (.k (.bool false)), none, 0⟩]) .ret) .skip)) (.seq (.seq (.reg [⟨some 10, .flda 1 (.t 2), none, 0⟩,
  ⟨some 11, .load 2 true (.t 10), none, 0⟩,
  ⟨some 12, .flda 1 (.t 3), none, 0⟩,
  ⟨some 13, .load 2 true (.t 12), none, 0⟩,
  ⟨some 14, .call fn_laws_eqCode [.t 11, .t 13], none, 0⟩,
  ⟨some 15, .un .not (.t 14), none, 0⟩]) (.cond (.t 15) (.seq (.reg [⟨some 4, .mov (.k (.bool false)), none, 0⟩]) .ret) .skip)) (.seq (.seq (.reg [⟨some 16, .flda 3 (.t 2), none, 0⟩,
  ⟨some 17, .load 1 false (.t 16), none, 0⟩,
  ⟨some 18, .flda 3 (.t 3), none, 0⟩,
  ⟨some 19, .load 1 false (.t 18), none, 0⟩,
  ⟨some 20, .bin .neq 0 (.t 17) (.t 19), none, 0⟩]) (.cond (.t 20) (.seq (.reg [⟨some 4, .mov (.k (.bool false)), none, 0⟩]) .ret) .skip)) (.seq (.seq (.reg [⟨some 21, .flda 4 (.t 2), none, 0⟩,
  ⟨some 22, .load 1 false (.t 21), none, 0⟩,
  ⟨some 23, .flda 4 (.t 3), none, 0⟩,
  ⟨some 24, .load 1 false (.t 23), none, 0⟩,
  ⟨some 25, .bin .neq 0 (.t 22) (.t 24), none, 0⟩]) (.cond (.t 25) (.seq (.reg [⟨some 4, .mov (.k (.bool false)), none, 0⟩]) .ret) .skip)) (.seq (.seq (.reg [⟨some 26, .flda 5 (.t 2), none, 0⟩,
  ⟨some 27, .load 1 false (.t 26), none, 0⟩,
  ⟨some 28, .flda 5 (.t 3), none, 0⟩,
  ⟨some 29, .load 1 false (.t 28), none, 0⟩,
  ⟨some 30, .bin .neq 0 (.t 27) (.t 29), none, 0⟩]) (.cond (.t 30) (.seq (.reg [⟨some 4, .mov (.k (.bool false)), none, 0⟩]) .ret) .skip)) (.seq (.reg [⟨some 4, .mov (.k (.bool true)), none, 0⟩]) .ret))))))),
  [(4, none)]⟩
/-- loop.example/g00849/laws.eqPoolS -/
def pf_laws_eqPoolS_lb0 : PC := (.seq (.seq (.reg [⟨some 11, .mov (.t 5), none, 0⟩,
  ⟨some 12, .mov (.t 0), none, 0⟩,
  ⟨some 13, .len true (.t 12), none, 0⟩,
  ⟨some 14, .bin .lss 0 (.t 11) (.t 13), none, 0⟩]) (.cond (.t 14) .skip (.exit 0))) (.seq (.block 1 (.seq (.any [(0, []), (1, [0]), (2, []), (3, []), (4, [0, 1, 2, 3]), (5, [0, 1, 2, 3, 4]), (6, [0, 1, 2, 3]), (7, [0, 1, 2, 3]), (8, []), (9, [])] [⟨some 17, .mov (.t 0), none, 0⟩,
  ⟨some 18, .mov (.t 5), none, 0⟩,
  ⟨some 19, .idxa ty_impl_Pool (.t 17) (.t 18), none, 0⟩,
  ⟨some 20, .load 6 true (.t 19), none, 0⟩,
  ⟨some 21, .mov (.t 1), none, 0⟩,
  ⟨some 22, .mov (.t 5), none, 0⟩,
  ⟨some 23, .idxa ty_impl_Pool (.t 21) (.t 22), none, 0⟩,
  ⟨some 24, .load 6 true (.t 23), none, 0⟩,
  ⟨some 25, .call fn_laws_eqPool [.t 20, .t 24], none, 0⟩,
  ⟨some 26, .un .not (.t 25), none, 0⟩]) (.cond (.t 26) (.seq (.reg [⟨some 4, .mov (.k (.bool false)), none, 0⟩]) .ret) .skip))) (.reg [⟨some 15, .mov (.t 5), none, 0⟩,
  ⟨some 16, .bin .add 0 (.t 15) (.k (.int .i64 1)), none, 0⟩,
  ⟨some 5, .mov (.t 16), none, 0⟩])))
def pf_laws_eqPoolS_l0 : PC := .loop [] pf_laws_eqPoolS_lb0
theorem ex_laws_eqPoolS_l0 {C : Code} {V : List Nat} (s : St) : EX C V pf_laws_eqPoolS_l0 s = EXK C V pf_laws_eqPoolS_l0 (EX C V pf_laws_eqPoolS_lb0 (forget [] s)) := EX_loop _ _ _
def pf_laws_eqPoolS : PF := ⟨[.val, .val], [0, 1, 5], (.seq (.reg [⟨some 4, .mov (.k (.bool false)), none, 0⟩]) (.seq (.seq (.reg [⟨some 6, .mov (.t 0), none, 0⟩,
  ⟨some 7, .len true (.t 6), none, 0⟩,
  ⟨some 8, .mov (.t 1), none, 0⟩,
  ⟨some 9, .len true (.t 8), none, 0⟩,
  ⟨some 10, .bin .neq 0 (.t 7) (.t 9), none, 0⟩]) (.cond (.t 10) (.seq (.reg [⟨some 4, .mov (.k (.bool false)), none, 0⟩]) .ret) .skip)) (.seq (.seq (.reg [⟨some 5, .mov (.k (.int .i64 0)), none, 0⟩]) (.block 0 pf_laws_eqPoolS_l0)) (.seq (.reg [⟨some 4, .mov (.k (.bool true)), none, 0⟩]) .ret)))),
  [(4, none)]⟩
/-- loop.example/g00849/laws.eqMap -/
def pf_laws_eqMap : PF := ⟨[.val, .val], [0, 1, 2, 3], (.seq (.reg [⟨some 2, .box (.t 0) 8, none, 0⟩,
  ⟨some 3, .box (.t 1) 8, none, 0⟩,
  ⟨some 4, .mov (.k (.bool false)), none, 0⟩]) (.seq (.seq (.reg [⟨some 5, .flda 0 (.t 2), none, 0⟩,
  ⟨some 6, .load 1 false (.t 5), none, 0⟩,
  ⟨some 7, .flda 0 (.t 3), none, 0⟩,
  ⟨some 8, .load 1 false (.t 7), none, 0⟩,
  ⟨some 9, .bin .neq 0 (.t 6) (.t 8), none, 0⟩]) (.cond (.t 9) (.seq (.reg [⟨some 4, .mov (.k (.bool false)), none, 0⟩]) .ret) .skip)) (.seq (.seq (.reg [⟨some 10, .flda 1 (.t 2), none, 0⟩,
  ⟨some 11, .load 1 false (.t 10), none, 0⟩,
  ⟨some 12, .flda 1 (.t 3), none, 0⟩,
  ⟨some 13, .load 1 false (.t 12), none, 0⟩,
  ⟨some 14, .bin .neq 0 (.t 11) (.t 13), none, 0⟩]) (.cond (.t 14) (.seq (.reg [⟨some 4, .mov (.k (.bool false)), none, 0⟩]) .ret) .skip)) (.seq (.seq (.reg [⟨some 15, .flda 2 (.t 2), none, 0⟩,
  ⟨some 16, .load 2 true (.t 15), none, 0⟩,
  ⟨some 17, .flda 2 (.t 3), none, 0⟩,
  ⟨some 18, .load 2 true (.t 17), none, 0⟩,
  ⟨some 19, .call fn_laws_eqTree [.t 16, .t 18], none, 0⟩,
  ⟨some 20, .un .not (.t 19), none, 0⟩]) (.cond (.t 20) (.seq (.reg [⟨some 4, .mov (.k (.bool false)), none, 0⟩]) .ret) .skip)) (.seq (.seq (.reg [⟨some 21, .flda 4 (.t 2), none, 0⟩,
  ⟨some 22, .load 1 false (.t 21), none, 0⟩,
  ⟨some 23, .flda 4 (.t 3), none, 0⟩,
  ⟨some 24, .load 1 false (.t 23), none, 0⟩,
  ⟨some 25, .call fn_laws_eqRuleS [.t 22, .t 24], none, 0⟩,
  ⟨some 26, .un .not (.t 25), none, 0⟩]) (.cond (.t 26) (.seq (.reg [⟨some 4, .mov (.k (.bool false)), none, 0⟩]) .ret) .skip)) (.seq (.seq (.reg [⟨some 27, .flda 5 (.t 2), none, 0⟩,
  ⟨some 28, .load 1 false (.t 27), none, 0⟩,
  ⟨some 29, .flda 5 (.t 3), none, 0⟩,
  ⟨some 30, .load 1 false (.t 29), none, 0⟩,
  ⟨some 31, .call fn_laws_eqPoolS [.t 28, .t 30], none, 0⟩,
  ⟨some 32, .un .not (.t 31), none, 0⟩]) (.cond (.t 32) (.seq (.reg [⟨some 4, .mov (.k (.bool false)), none, 0⟩]) .ret) .skip)) (.seq (.seq (.reg [⟨some 33, .flda 6 (.t 2), none, 0⟩,
  ⟨some 34, .load 1 false (.t 33), none, 0⟩,
  ⟨some 35, .flda 6 (.t 3), none, 0⟩,
  ⟨some 36, .load 1 false (.t 35), none, 0⟩,
  ⟨some 37, .call fn_laws_eqInt64S [.t 34, .t 36], none, 0⟩,
  ⟨some 38, .un .not (.t 37), none, 0⟩]) (.cond (.t 38) (.seq (.reg [⟨some 4, .mov (.k (.bool false)), none, 0⟩]) .ret) .skip)) (.seq (.seq (.reg [⟨some 39, .flda 7 (.t 2), none, 0⟩,
  ⟨some 40, .load 1 false (.t 39), none, 0⟩,
  ⟨some 41, .flda 7 (.t 3), none, 0⟩,
  ⟨some 42, .load 1 false (.t 41), none, 0⟩,
  ⟨some 43, .call fn_laws_eqInt64S [.t 40, .t 42], none, 0⟩,
  ⟨some 44, .un .not (.t 43), none, 0⟩]) (.cond (.t 44) (.seq (.reg [⟨some 4, .mov (.k (.bool false)), none, 0⟩]) .ret) .skip)) (.seq (.reg [⟨some 4, .mov (.k (.bool true)), none, 0⟩]) .ret))))))))),
  [(4, none)]⟩
/-- loop.example/g00849/laws.markDeviceS -/
def pf_laws_markDeviceS_lb0 : PC := (.seq (.seq (.reg [⟨some 6, .mov (.t 5), none, 0⟩,
  ⟨some 7, .mov (.t 0), none, 0⟩,
  ⟨some 8, .len true (.t 7), none, 0⟩,
  ⟨some 9, .bin .lss 0 (.t 6) (.t 8), none, 0⟩]) (.cond (.t 9) .skip (.exit 0))) (.seq (.block 1 (.seq (.reg [⟨some 12, .mov (.t 0), none, 0⟩,
  ⟨some 13, .mov (.t 5), none, 0⟩,
  ⟨some 14, .mov (.t 1), none, 0⟩,
  ⟨some 15, .idxa ty_impl_Device (.t 12) (.t 13), none, 0⟩,
  ⟨some 16, .flda 0 (.t 15), none, 0⟩,
  ⟨none, .store 1 (.t 16) (.t 14), none, 0⟩]) (.seq (.reg [⟨some 17, .mov (.t 1), none, 0⟩,
  ⟨some 18, .bin .add 0 (.t 17) (.k (.int .i64 1)), none, 0⟩,
  ⟨some 1, .mov (.t 18), none, 0⟩]) (.seq (.reg [⟨some 19, .mov (.t 0), none, 0⟩,
  ⟨some 20, .mov (.t 5), none, 0⟩,
  ⟨some 21, .mov (.t 1), none, 0⟩,
  ⟨some 22, .idxa ty_impl_Device (.t 19) (.t 20), none, 0⟩,
  ⟨some 23, .flda 1 (.t 22), none, 0⟩,
  ⟨none, .store 1 (.t 23) (.t 21), none, 0⟩]) (.reg [⟨some 24, .mov (.t 1), none, 0⟩,
  ⟨some 25, .bin .add 0 (.t 24) (.k (.int .i64 1)), none, 0⟩,
  ⟨some 1, .mov (.t 25), none, 0⟩]))))) (.reg [⟨some 10, .mov (.t 5), none, 0⟩,
  ⟨some 11, .bin .add 0 (.t 10) (.k (.int .i64 1)), none, 0⟩,
  ⟨some 5, .mov (.t 11), none, 0⟩])))
def pf_laws_markDeviceS_l0 : PC := .loop [] pf_laws_markDeviceS_lb0
theorem ex_laws_markDeviceS_l0 {C : Code} {V : List Nat} (s : St) : EX C V pf_laws_markDeviceS_l0 s = EXK C V pf_laws_markDeviceS_l0 (EX C V pf_laws_markDeviceS_lb0 (forget [] s)) := EX_loop _ _ _
def pf_laws_markDeviceS : PF := ⟨[.row, .val], [0, 1, 5], (.seq (.reg [⟨some 4, .mov (.k (.int .i64 0)), none, 0⟩]) (.seq (.seq (.reg [⟨some 5, .mov (.k (.int .i64 0)), none, 0⟩]) (.block 0 pf_laws_markDeviceS_l0)) (.seq (.reg [⟨some 26, .mov (.t 1), none, 0⟩,
  ⟨some 4, .mov (.t 26), none, 0⟩]) .ret))),
  [(4, none)]⟩
/-- loop.example/g00849/laws.markInt64S -/
def pf_laws_markInt64S_lb0 : PC := (.seq (.seq (.reg [⟨some 6, .mov (.t 5), none, 0⟩,
  ⟨some 7, .mov (.t 0), none, 0⟩,
  ⟨some 8, .len true (.t 7), none, 0⟩,
  ⟨some 9, .bin .lss 0 (.t 6) (.t 8), none, 0⟩]) (.cond (.t 9) .skip (.exit 0))) (.seq (.block 1 (.seq (.reg [⟨some 12, .mov (.t 0), none, 0⟩,
  ⟨some 13, .mov (.t 5), none, 0⟩,
  ⟨some 14, .mov (.t 1), none, 0⟩,
  ⟨some 15, .idxa ty_int64 (.t 12) (.t 13), none, 0⟩,
  ⟨none, .store 1 (.t 15) (.t 14), none, 0⟩]) (.reg [⟨some 16, .mov (.t 1), none, 0⟩,
  ⟨some 17, .bin .add 0 (.t 16) (.k (.int .i64 1)), none, 0⟩,
  ⟨some 1, .mov (.t 17), none, 0⟩]))) (.reg [⟨some 10, .mov (.t 5), none, 0⟩,
  ⟨some 11, .bin .add 0 (.t 10) (.k (.int .i64 1)), none, 0⟩,
  ⟨some 5, .mov (.t 11), none, 0⟩])))
def pf_laws_markInt64S_l0 : PC := .loop [] pf_laws_markInt64S_lb0
theorem ex_laws_markInt64S_l0 {C : Code} {V : List Nat} (s : St) : EX C V pf_laws_markInt64S_l0 s = EXK C V pf_laws_markInt64S_l0 (EX C V pf_laws_markInt64S_lb0 (forget [] s)) := EX_loop _ _ _
def pf_laws_markInt64S : PF := ⟨[.row, .val], [0, 1, 5], (.seq (.reg [⟨some 4, .mov (.k (.int .i64 0)), none, 0⟩]) (.seq (.seq (.reg [⟨some 5, .mov (.k (.int .i64 0)), none, 0⟩]) (.block 0 pf_laws_markInt64S_l0)) (.seq (.reg [⟨some 18, .mov (.t 1), none, 0⟩,
  ⟨some 4, .mov (.t 18), none, 0⟩]) .ret))),
  [(4, none)]⟩
/-- loop.example/g00849/laws.markBucketS -/
def pf_laws_markBucketS_lb0 : PC := (.seq (.seq (.reg [⟨some 6, .mov (.t 5), none, 0⟩,
  ⟨some 7, .mov (.t 0), none, 0⟩,
  ⟨some 8, .len true (.t 7), none, 0⟩,
  ⟨some 9, .bin .lss 0 (.t 6) (.t 8), none, 0⟩]) (.cond (.t 9) .skip (.exit 0))) (.seq (.block 1 (.seq (.reg [⟨some 12, .mov (.t 0), none, 0⟩,
  ⟨some 13, .mov (.t 5), none, 0⟩,
  ⟨some 14, .mov (.t 1), none, 0⟩,
  ⟨some 15, .idxa ty_impl_Bucket (.t 12) (.t 13), none, 0⟩,
  ⟨some 16, .flda 0 (.t 15), none, 0⟩,
  ⟨none, .store 1 (.t 16) (.t 14), none, 0⟩]) (.seq (.reg [⟨some 17, .mov (.t 1), none, 0⟩,
  ⟨some 18, .bin .add 0 (.t 17) (.k (.int .i64 1)), none, 0⟩,
  ⟨some 1, .mov (.t 18), none, 0⟩]) (.seq (.reg [⟨some 19, .mov (.t 0), none, 0⟩,
  ⟨some 20, .mov (.t 5), none, 0⟩,
  ⟨some 21, .mov (.t 1), none, 0⟩,
  ⟨some 22, .idxa ty_impl_Bucket (.t 19) (.t 20), none, 0⟩,
  ⟨some 23, .flda 1 (.t 22), none, 0⟩,
  ⟨none, .store 1 (.t 23) (.t 21), none, 0⟩]) (.seq (.reg [⟨some 24, .mov (.t 1), none, 0⟩,
  ⟨some 25, .bin .add 0 (.t 24) (.k (.int .i64 1)), none, 0⟩,
  ⟨some 1, .mov (.t 25), none, 0⟩]) (.reg [⟨some 26, .mov (.t 0), none, 0⟩,
  ⟨some 27, .mov (.t 5), none, 0⟩,
  ⟨some 28, .idxa ty_impl_Bucket (.t 26) (.t 27), none, 0⟩,
  ⟨some 29, .flda 2 (.t 28), none, 0⟩,
  ⟨some 30, .load 1 false (.t 29), none, 0⟩,
  ⟨some 31, .mov (.t 1), none, 0⟩,
  ⟨some 32, .call fn_laws_markInt64S [.t 30, .t 31], none, 0⟩,
  ⟨some 1, .mov (.t 32), none, 0⟩])))))) (.reg [⟨some 10, .mov (.t 5), none, 0⟩,
  ⟨some 11, .bin .add 0 (.t 10) (.k (.int .i64 1)), none, 0⟩,
  ⟨some 5, .mov (.t 11), none, 0⟩])))
def pf_laws_markBucketS_l0 : PC := .loop [] pf_laws_markBucketS_lb0
theorem ex_laws_markBucketS_l0 {C : Code} {V : List Nat} (s : St) : EX C V pf_laws_markBucketS_l0 s = EXK C V pf_laws_markBucketS_l0 (EX C V pf_laws_markBucketS_lb0 (forget [] s)) := EX_loop _ _ _
def pf_laws_markBucketS : PF := ⟨[.row, .val], [0, 1, 5], (.seq (.reg [⟨some 4, .mov (.k (.int .i64 0)), none, 0⟩]) (.seq (.seq (.reg [⟨some 5, .mov (.k (.int .i64 0)), none, 0⟩]) (.block 0 pf_laws_markBucketS_l0)) (.seq (.reg [⟨some 33, .mov (.t 1), none, 0⟩,
  ⟨some 4, .mov (.t 33), none, 0⟩]) .ret))),
  [(4, none)]⟩
/-- loop.example/g00849/laws.markTree -/
def pf_laws_markTree : PF := ⟨[.rows [true, true], .val], [0, 1, 2], (.seq (.reg [⟨some 2, .box (.t 0) 2, none, 0⟩,
  ⟨some 4, .mov (.k (.int .i64 0)), none, 0⟩]) (.seq (.reg [⟨some 5, .flda 0 (.t 2), none, 0⟩,
  ⟨some 6, .load 1 false (.t 5), none, 0⟩,
  ⟨some 7, .mov (.t 1), none, 0⟩,
  ⟨some 8, .call fn_laws_markDeviceS [.t 6, .t 7], none, 0⟩,
  ⟨some 1, .mov (.t 8), none, 0⟩]) (.seq (.reg [⟨some 9, .flda 1 (.t 2), none, 0⟩,
  ⟨some 10, .load 1 false (.t 9), none, 0⟩,
  ⟨some 11, .mov (.t 1), none, 0⟩,
  ⟨some 12, .call fn_laws_markBucketS [.t 10, .t 11], none, 0⟩,
  ⟨some 1, .mov (.t 12), none, 0⟩]) (.seq (.reg [⟨some 13, .mov (.t 1), none, 0⟩,
  ⟨some 4, .mov (.t 13), none, 0⟩]) .ret)))),
  [(4, none)]⟩
/-- loop.example/g00849/laws.markRuleS -/
def pf_laws_markRuleS_lb0 : PC := (.seq (.seq (.reg [⟨some 6, .mov (.t 5), none, 0⟩,
  ⟨some 7, .mov (.t 0), none, 0⟩,
  ⟨some 8, .len true (.t 7), none, 0⟩,
  ⟨some 9, .bin .lss 0 (.t 6) (.t 8), none, 0⟩]) (.cond (.t 9) .skip (.exit 0))) (.seq (.block 1 (.seq (.reg [⟨some 12, .mov (.t 0), none, 0⟩,
  ⟨some 13, .mov (.t 5), none, 0⟩,
  ⟨some 14, .mov (.t 1), none, 0⟩,
  ⟨some 15, .idxa ty_impl_Rule (.t 12) (.t 13), none, 0⟩,
  ⟨some 16, .flda 0 (.t 15), none, 0⟩,
  ⟨none, .store 1 (.t 16) (.t 14), none, 0⟩]) (.seq (.reg [⟨some 17, .mov (.t 1), none, 0⟩,
  ⟨some 18, .bin .add 0 (.t 17) (.k (.int .i64 1)), none, 0⟩,
  ⟨some 1, .mov (.t 18), none, 0⟩]) (.seq (.reg [⟨some 19, .mov (.t 0), none, 0⟩,
  ⟨some 20, .mov (.t 5), none, 0⟩,
  ⟨some 21, .mov (.t 1), none, 0⟩,
  ⟨some 22, .idxa ty_impl_Rule (.t 19) (.t 20), none, 0⟩,
  ⟨some 23, .flda 1 (.t 22), none, 0⟩,
  ⟨none, .store 1 (.t 23) (.t 21), none, 0⟩]) (.seq (.reg [⟨some 24, .mov (.t 1), none, 0⟩,
  ⟨some 25, .bin .add 0 (.t 24) (.k (.int .i64 1)), none, 0⟩,
  ⟨some 1, .mov (.t 25), none, 0⟩]) (.seq (.reg [⟨some 26, .mov (.t 0), none, 0⟩,
  ⟨some 27, .mov (.t 5), none, 0⟩,
  ⟨some 28, .mov (.t 1), none, 0⟩,
  ⟨some 29, .idxa ty_impl_Rule (.t 26) (.t 27), none, 0⟩,
  ⟨some 30, .flda 2 (.t 29), none, 0⟩,
  ⟨none, .store 1 (.t 30) (.t 28), none, 0⟩]) (.seq (.reg [⟨some 31, .mov (.t 1), none, 0⟩,
  ⟨some 32, .bin .add 0 (.t 31) (.k (.int .i64 1)), none, 0⟩,
  ⟨some 1, .mov (.t 32), none, 0⟩]) (.seq (.reg [⟨some 33, .mov (.t 0), none, 0⟩,
  ⟨some 34, .mov (.t 5), none, 0⟩,
  ⟨some 35, .mov (.t 1), none, 0⟩,
  ⟨some 36, .bin .rem 0 (.t 35) (.k (.int .i64 3)), none, 0⟩,
  ⟨some 37, .bin .eql 0 (.t 36) (.k (.int .i64 0)), none, 0⟩,
  ⟨some 38, .idxa ty_impl_Rule (.t 33) (.t 34), none, 0⟩,
  ⟨some 39, .flda 3 (.t 38), none, 0⟩,
  ⟨none, .store 1 (.t 39) (.t 37), none, 0⟩]) (.reg [⟨some 40, .mov (.t 1), none, 0⟩,
  ⟨some 41, .bin .add 0 (.t 40) (.k (.int .i64 1)), none, 0⟩,
  ⟨some 1, .mov (.t 41), none, 0⟩]))))))))) (.reg [⟨some 10, .mov (.t 5), none, 0⟩,
  ⟨some 11, .bin .add 0 (.t 10) (.k (.int .i64 1)), none, 0⟩,
  ⟨some 5, .mov (.t 11), none, 0⟩])))
def pf_laws_markRuleS_l0 : PC := .loop [] pf_laws_markRuleS_lb0
theorem ex_laws_markRuleS_l0 {C : Code} {V : List Nat} (s : St) : EX C V pf_laws_markRuleS_l0 s = EXK C V pf_laws_markRuleS_l0 (EX C V pf_laws_markRuleS_lb0 (forget [] s)) := EX_loop _ _ _
def pf_laws_markRuleS : PF := ⟨[.row, .val], [0, 1, 5], (.seq (.reg [⟨some 4, .mov (.k (.int .i64 0)), none, 0⟩]) (.seq (.seq (.reg [⟨some 5, .mov (.k (.int .i64 0)), none, 0⟩]) (.block 0 pf_laws_markRuleS_l0)) (.seq (.reg [⟨some 42, .mov (.t 1), none, 0⟩,
  ⟨some 4, .mov (.t 42), none, 0⟩]) .ret))),
  [(4, none)]⟩
/-- loop.example/g00849/laws.markPoolS -/
def pf_laws_markPoolS_lb0 : PC := (.seq (.seq (.reg [⟨some 6, .mov (.t 5), none, 0⟩,
  ⟨some 7, .mov (.t 0), none, 0⟩,
  ⟨some 8, .len true (.t 7), none, 0⟩,
  ⟨some 9, .bin .lss 0 (.t 6) (.t 8), none, 0⟩]) (.cond (.t 9) .skip (.exit 0))) (.seq (.block 1 (.seq (.reg [⟨some 12, .mov (.t 0), none, 0⟩,
  ⟨some 13, .mov (.t 5), none, 0⟩,
  ⟨some 14, .mov (.t 1), none, 0⟩,
  ⟨some 15, .idxa ty_impl_Pool (.t 12) (.t 13), none, 0⟩,
  ⟨some 16, .flda 0 (.t 15), none, 0⟩,
  ⟨none, .store 1 (.t 16) (.t 14), none, 0⟩]) (.seq (.reg [⟨some 17, .mov (.t 1), none, 0⟩,
  ⟨some 18, .bin .add 0 (.t 17) (.k (.int .i64 1)), none, 0⟩,
  ⟨some 1, .mov (.t 18), none, 0⟩]) (.seq (.reg [⟨some 19, .mov (.t 0), none, 0⟩,
  ⟨some 20, .mov (.t 5), none, 0⟩,
  ⟨some 21, .mov (.t 1), none, 0⟩,
  ⟨some 22, .idxa ty_impl_Pool (.t 19) (.t 20), none, 0⟩,
  ⟨some 23, .flda 1 (.t 22), none, 0⟩,
  ⟨some 24, .flda 0 (.t 23), none, 0⟩,
  ⟨none, .store 1 (.t 24) (.t 21), none, 0⟩]) (.seq (.reg [⟨some 25, .mov (.t 1), none, 0⟩,
  ⟨some 26, .bin .add 0 (.t 25) (.k (.int .i64 1)), none, 0⟩,
  ⟨some 1, .mov (.t 26), none, 0⟩]) (.seq (.reg [⟨some 27, .mov (.t 0), none, 0⟩,
  ⟨some 28, .mov (.t 5), none, 0⟩,
  ⟨some 29, .mov (.t 1), none, 0⟩,
  ⟨some 30, .idxa ty_impl_Pool (.t 27) (.t 28), none, 0⟩,
  ⟨some 31, .flda 1 (.t 30), none, 0⟩,
  ⟨some 32, .flda 1 (.t 31), none, 0⟩,
  ⟨none, .store 1 (.t 32) (.t 29), none, 0⟩]) (.seq (.reg [⟨some 33, .mov (.t 1), none, 0⟩,
  ⟨some 34, .bin .add 0 (.t 33) (.k (.int .i64 1)), none, 0⟩,
  ⟨some 1, .mov (.t 34), none, 0⟩]) (.seq (.reg [⟨some 35, .mov (.t 0), none, 0⟩,
  ⟨some 36, .mov (.t 5), none, 0⟩,
  ⟨some 37, .mov (.t 1), none, 0⟩,
  ⟨some 38, .idxa ty_impl_Pool (.t 35) (.t 36), none, 0⟩,
  ⟨some 39, .flda 3 (.t 38), none, 0⟩,
  ⟨none, .store 1 (.t 39) (.t 37), none, 0⟩]) (.seq (.reg [⟨some 40, .mov (.t 1), none, 0⟩,
  ⟨some 41, .bin .add 0 (.t 40) (.k (.int .i64 1)), none, 0⟩,
  ⟨some 1, .mov (.t 41), none, 0⟩]) (.seq (.reg [⟨some 42, .mov (.t 0), none, 0⟩,
  ⟨some 43, .mov (.t 5), none, 0⟩,
  ⟨some 44, .mov (.t 1), none, 0⟩,
  ⟨some 45, .idxa ty_impl_Pool (.t 42) (.t 43), none, 0⟩,
  ⟨some 46, .flda 4 (.t 45), none, 0⟩,
  ⟨none, .store 1 (.t 46) (.t 44), none, 0⟩]) (.seq (.reg [⟨some 47, .mov (.t 1), none, 0⟩,
  ⟨some 48, .bin .add 0 (.t 47) (.k (.int .i64 1)), none, 0⟩,
  ⟨some 1, .mov (.t 48), none, 0⟩]) (.seq (.reg [⟨some 49, .mov (.t 0), none, 0⟩,
  ⟨some 50, .mov (.t 5), none, 0⟩,
  ⟨some 51, .mov (.t 1), none, 0⟩,
  ⟨some 52, .idxa ty_impl_Pool (.t 49) (.t 50), none, 0⟩,
  ⟨some 53, .flda 5 (.t 52), none, 0⟩,
  ⟨none, .store 1 (.t 53) (.t 51), none, 0⟩]) (.reg [⟨some 54, .mov (.t 1), none, 0⟩,
  ⟨some 55, .bin .add 0 (.t 54) (.k (.int .i64 1)), none, 0⟩,
  ⟨some 1, .mov (.t 55), none, 0⟩]))))))))))))) (.reg [⟨some 10, .mov (.t 5), none, 0⟩,
  ⟨some 11, .bin .add 0 (.t 10) (.k (.int .i64 1)), none, 0⟩,
  ⟨some 5, .mov (.t 11), none, 0⟩])))
def pf_laws_markPoolS_l0 : PC := .loop [] pf_laws_markPoolS_lb0
theorem ex_laws_markPoolS_l0 {C : Code} {V : List Nat} (s : St) : EX C V pf_laws_markPoolS_l0 s = EXK C V pf_laws_markPoolS_l0 (EX C V pf_laws_markPoolS_lb0 (forget [] s)) := EX_loop _ _ _
def pf_laws_markPoolS : PF := ⟨[.row, .val], [0, 1, 5], (.seq (.reg [⟨some 4, .mov (.k (.int .i64 0)), none, 0⟩]) (.seq (.seq (.reg [⟨some 5, .mov (.k (.int .i64 0)), none, 0⟩]) (.block 0 pf_laws_markPoolS_l0)) (.seq (.reg [⟨some 56, .mov (.t 1), none, 0⟩,
  ⟨some 4, .mov (.t 56), none, 0⟩]) .ret))),
  [(4, none)]⟩
/-- loop.example/g00849/laws.markMap -/
def pf_laws_markMap : PF := ⟨[.rows [false, false, true, true, true, true, true, true], .val], [0, 1, 2], (.seq (.reg [⟨some 2, .box (.t 0) 8, none, 0⟩,
  ⟨some 4, .mov (.k (.int .i64 0)), none, 0⟩]) (.seq (.reg [⟨some 5, .flda 2 (.t 2), none, 0⟩,
  ⟨some 6, .load 2 true (.t 5), none, 0⟩,
  ⟨some 7, .mov (.t 1), none, 0⟩,
  ⟨some 8, .call fn_laws_markTree [.t 6, .t 7], none, 0⟩,
  ⟨some 1, .mov (.t 8), none, 0⟩]) (.seq (.reg [⟨some 9, .flda 4 (.t 2), none, 0⟩,
  ⟨some 10, .load 1 false (.t 9), none, 0⟩,
  ⟨some 11, .mov (.t 1), none, 0⟩,
  ⟨some 12, .call fn_laws_markRuleS [.t 10, .t 11], none, 0⟩,
  ⟨some 1, .mov (.t 12), none, 0⟩]) (.seq (.reg [⟨some 13, .flda 5 (.t 2), none, 0⟩,
  ⟨some 14, .load 1 false (.t 13), none, 0⟩,
  ⟨some 15, .mov (.t 1), none, 0⟩,
  ⟨some 16, .call fn_laws_markPoolS [.t 14, .t 15], none, 0⟩,
  ⟨some 1, .mov (.t 16), none, 0⟩]) (.seq (.reg [⟨some 17, .flda 6 (.t 2), none, 0⟩,
  ⟨some 18, .load 1 false (.t 17), none, 0⟩,
  ⟨some 19, .mov (.t 1), none, 0⟩,
  ⟨some 20, .call fn_laws_markInt64S [.t 18, .t 19], none, 0⟩,
  ⟨some 1, .mov (.t 20), none, 0⟩]) (.seq (.reg [⟨some 21, .flda 7 (.t 2), none, 0⟩,
  ⟨some 22, .load 1 false (.t 21), none, 0⟩,
  ⟨some 23, .mov (.t 1), none, 0⟩,
  ⟨some 24, .call fn_laws_markInt64S [.t 22, .t 23], none, 0⟩,
  ⟨some 1, .mov (.t 24), none, 0⟩]) (.seq (.reg [⟨some 25, .mov (.t 1), none, 0⟩,
  ⟨some 4, .mov (.t 25), none, 0⟩]) .ret))))))),
  [(4, none)]⟩
/-- loop.example/g00849/laws.FnExactPgsOf -/
def pf_laws_FnExactPgsOf : PF := ⟨[.val], [0, 1, 3, 4, 5, 6, 7, 8, 9, 10, 37], (.seq (.reg [⟨some 1, .box (.t 0) 8, none, 0⟩,
  ⟨some 2, .mov (.k (.bool false)), none, 0⟩]) (.seq (.reg [⟨some 3, .mov (.k (.int .i64 1048576)), none, 0⟩]) (.seq (.reg [⟨some 11, .load 8 true (.t 1), none, 0⟩,
  ⟨some 12, .mov (.t 3), none, 0⟩,
  ⟨some 13, .call fn_laws_szMap [.t 11, .t 12], none, 0⟩,
  ⟨some 3, .mov (.t 13), none, 0⟩]) (.seq (.seq (.reg [⟨some 14, .mov (.t 3), none, 0⟩,
  ⟨some 15, .bin .lss 0 (.t 14) (.k (.int .i64 0)), none, 0⟩]) (.cond (.t 15) (.seq (.reg [⟨some 2, .mov (.k (.bool true)), none, 0⟩]) .ret) .skip)) (.seq (.reg [⟨some 16, .load 8 true (.t 1), none, 0⟩,
  ⟨some 17, .call fn_laws_toMap [.t 16], none, 0⟩,
  ⟨some 18, .call fn_spec_PgsOf [.t 17], none, 0⟩,
  ⟨some 4, .mov (.t 18), none, 0⟩]) (.seq (.reg [⟨some 19, .load 8 true (.t 1), none, 0⟩,
  ⟨some 20, .call fn_laws_toMap [.t 19], none, 0⟩,
  ⟨some 5, .alloc [.int .i64 0, .int .i64 0, .sl 2 ty_impl_Device [], .sl 2 ty_impl_Bucket [], .sl 2 ty_impl_Rule [], .sl 2 ty_impl_Pool [], .sl 2 ty_int64 [], .sl 2 ty_int64 []], none, 0⟩,
  ⟨none, .store 8 (.t 5) (.t 20), none, 0⟩]) (.seq (.reg [⟨some 21, .load 8 true (.t 5), none, 0⟩,
  ⟨some 22, .call fn_impl_PgsOf [.t 21], none, 0⟩,
  ⟨some 6, .mov (.t 22), none, 0⟩]) (.seq (.seq (.reg [⟨some 23, .mov (.t 6), none, 0⟩,
  ⟨some 24, .mov (.t 4), none, 0⟩,
  ⟨some 25, .call fn_laws_eqPgS [.t 23, .t 24], none, 0⟩,
  ⟨some 26, .un .not (.t 25), none, 0⟩]) (.cond (.t 26) (.seq (.reg [⟨some 2, .mov (.k (.bool false)), none, 0⟩]) .ret) .skip)) (.seq (.seq (.any [(0, []), (1, [0]), (2, [0]), (3, []), (4, [])] [⟨some 27, .load 8 true (.t 5), none, 0⟩,
  ⟨some 28, .load 8 true (.t 1), none, 0⟩,
  ⟨some 29, .call fn_laws_toMap [.t 28], none, 0⟩,
  ⟨some 30, .call fn_laws_eqMap [.t 27, .t 29], none, 0⟩,
  ⟨some 31, .un .not (.t 30), none, 0⟩]) (.cond (.t 31) (.seq (.reg [⟨some 2, .mov (.k (.bool false)), none, 0⟩]) .ret) .skip)) (.seq (.reg [⟨some 7, .mov (.k (.int .i64 1)), none, 0⟩]) (.seq (.reg [⟨some 32, .load 8 true (.t 5), none, 0⟩,
  ⟨some 33, .mov (.t 7), none, 0⟩,
  ⟨some 34, .call fn_laws_markMap [.t 32, .t 33], none, 0⟩,
  ⟨some 7, .mov (.t 34), none, 0⟩]) (.seq (.seq (.reg [⟨some 35, .mov (.t 7), none, 0⟩,
  ⟨some 36, .bin .lss 0 (.t 35) (.k (.int .i64 0)), none, 0⟩,
  ⟨some 37, .mov (.t 36), none, 0⟩,
  ⟨some 38, .mov (.t 6), some (37, false), 0⟩,
  ⟨some 39, .mov (.t 4), some (37, false), 0⟩,
  ⟨some 40, .call fn_laws_eqPgS [.t 38, .t 39], some (37, false), 0⟩,
  ⟨some 41, .un .not (.t 40), some (37, false), 0⟩,
  ⟨some 42, .pick (.t 37) (.k (.bool true)) (.t 41), none, 0⟩]) (.cond (.t 42) (.seq (.reg [⟨some 2, .mov (.k (.bool false)), none, 0⟩]) .ret) .skip)) (.seq (.reg [⟨some 8, .mov (.k (.int .i64 1)), none, 0⟩]) (.seq (.reg [⟨some 43, .mov (.t 6), none, 0⟩,
  ⟨some 44, .mov (.t 8), none, 0⟩,
  ⟨some 45, .call fn_laws_markPgS [.t 43, .t 44], none, 0⟩,
  ⟨some 8, .mov (.t 45), none, 0⟩]) (.seq (.reg [⟨some 9, .mov (.k (.int .i64 1)), none, 0⟩]) (.seq (.reg [⟨some 46, .mov (.t 6), none, 0⟩,
  ⟨some 47, .mov (.t 9), none, 0⟩,
  ⟨some 48, .call fn_laws_heldPgS [.t 46, .t 47], none, 0⟩,
  ⟨some 9, .mov (.t 48), none, 0⟩]) (.seq (.seq (.reg [⟨some 49, .mov (.t 9), none, 0⟩,
  ⟨some 50, .bin .lss 0 (.t 49) (.k (.int .i64 0)), none, 0⟩]) (.cond (.t 50) (.seq (.reg [⟨some 2, .mov (.k (.bool false)), none, 0⟩]) .ret) .skip)) (.seq (.seq (.reg [⟨some 51, .mov (.t 9), none, 0⟩,
  ⟨some 52, .mov (.t 8), none, 0⟩,
  ⟨some 53, .bin .neq 0 (.t 51) (.t 52), none, 0⟩]) (.cond (.t 53) (.seq (.reg [⟨some 2, .mov (.k (.bool false)), none, 0⟩]) .ret) .skip)) (.seq (.reg [⟨some 54, .ldt 8 (.t 1), none, 0⟩,
  ⟨some 55, .call fn_laws_toMap [.t 54], none, 0⟩,
  ⟨some 56, .call fn_impl_PgsOf [.t 55], none, 0⟩,
  ⟨some 10, .mov (.t 56), none, 0⟩]) (.seq (.seq (.reg [⟨some 57, .mov (.t 10), none, 0⟩,
  ⟨some 58, .mov (.t 4), none, 0⟩,
  ⟨some 59, .call fn_laws_eqPgS [.t 57, .t 58], none, 0⟩,
  ⟨some 60, .un .not (.t 59), none, 0⟩]) (.cond (.t 60) (.seq (.reg [⟨some 2, .mov (.k (.bool false)), none, 0⟩]) .ret) .skip)) (.seq (.reg [⟨some 9, .mov (.k (.int .i64 1)), none, 0⟩]) (.seq (.reg [⟨some 61, .mov (.t 6), none, 0⟩,
  ⟨some 62, .mov (.t 9), none, 0⟩,
  ⟨some 63, .call fn_laws_heldPgS [.t 61, .t 62], none, 0⟩,
  ⟨some 9, .mov (.t 63), none, 0⟩]) (.seq (.seq (.reg [⟨some 64, .mov (.t 9), none, 0⟩,
  ⟨some 65, .bin .lss 0 (.t 64) (.k (.int .i64 0)), none, 0⟩]) (.cond (.t 65) (.seq (.reg [⟨some 2, .mov (.k (.bool false)), none, 0⟩]) .ret) .skip)) (.seq (.seq (.reg [⟨some 66, .mov (.t 9), none, 0⟩,
  ⟨some 67, .mov (.t 8), none, 0⟩,
  ⟨some 68, .bin .neq 0 (.t 66) (.t 67), none, 0⟩]) (.cond (.t 68) (.seq (.reg [⟨some 2, .mov (.k (.bool false)), none, 0⟩]) .ret) .skip)) (.seq (.reg [⟨some 2, .mov (.k (.bool true)), none, 0⟩]) .ret))))))))))))))))))))))))),
  [(2, none)]⟩
def table : List (FuncId × PF) := [(fn_laws_eqPg, pf_laws_eqPg), (fn_laws_eqPgS, pf_laws_eqPgS), (fn_laws_markPgS, pf_laws_markPgS), (fn_laws_heldPgS, pf_laws_heldPgS), (fn_laws_szDeviceS, pf_laws_szDeviceS), (fn_laws_szInt64S, pf_laws_szInt64S), (fn_laws_szBucket, pf_laws_szBucket), (fn_laws_szBucketS, pf_laws_szBucketS), (fn_laws_szTree, pf_laws_szTree), (fn_laws_szRuleS, pf_laws_szRuleS), (fn_laws_szPoolS, pf_laws_szPoolS), (fn_laws_szMap, pf_laws_szMap), (fn_spec_l00In, pf_spec_l00In), (fn_spec_l06Devices, pf_spec_l06Devices), (fn_spec_l06Buckets, pf_spec_l06Buckets), (fn_spec_l00Has, pf_spec_l00Has), (fn_spec_l06Once, pf_spec_l06Once), (fn_spec_l06Device, pf_spec_l06Device), (fn_spec_l06Bucket, pf_spec_l06Bucket), (fn_spec_l06Kind, pf_spec_l06Kind), (fn_spec_l06Fits, pf_spec_l06Fits), (fn_spec_l06OK, pf_spec_l06OK), (fn_spec_TreeOk, pf_spec_TreeOk), (fn_spec_l08OK, pf_spec_l08OK), (fn_spec_RuleOk, pf_spec_RuleOk), (fn_spec_l04Code, pf_spec_l04Code), (fn_spec_l09OK, pf_spec_l09OK), (fn_spec_PoolOk, pf_spec_PoolOk), (fn_spec_l11Rule, pf_spec_l11Rule), (fn_spec_l11Device, pf_spec_l11Device), (fn_spec_l11Nodes, pf_spec_l11Nodes), (fn_spec_l11Ok, pf_spec_l11Ok), (fn_spec_l11Pgs, pf_spec_l11Pgs), (fn_spec_PgsOf, pf_spec_PgsOf), (fn_laws_toDevice, pf_laws_toDevice), (fn_laws_toDeviceS, pf_laws_toDeviceS), (fn_laws_toInt64S, pf_laws_toInt64S), (fn_laws_toBucket, pf_laws_toBucket), (fn_laws_toBucketS, pf_laws_toBucketS), (fn_laws_toTree, pf_laws_toTree), (fn_laws_toRule, pf_laws_toRule), (fn_laws_toRuleS, pf_laws_toRuleS), (fn_laws_toCode, pf_laws_toCode), (fn_laws_toPool, pf_laws_toPool), (fn_laws_toPoolS, pf_laws_toPoolS), (fn_laws_toMap, pf_laws_toMap), (fn_impl_between, pf_impl_between), (fn_impl_isNode, pf_impl_isNode), (fn_impl_Tree_devicesOk, pf_impl_Tree_devicesOk), (fn_slices_IndexFunc_impl_Device_impl_Device, pf_slices_IndexFunc_impl_Device_impl_Device), (fn_impl_Tree_device_1, pf_impl_Tree_device_1), (fn_impl_Tree_device, pf_impl_Tree_device), (fn_slices_IndexFunc_impl_Bucket_impl_Bucket, pf_slices_IndexFunc_impl_Bucket_impl_Bucket), (fn_impl_Tree_bucket_1, pf_impl_Tree_bucket_1), (fn_impl_Tree_bucket, pf_impl_Tree_bucket), (fn_impl_Tree_kindOf, pf_impl_Tree_kindOf), (fn_impl_Tree_itemsOk, pf_impl_Tree_itemsOk), (fn_impl_TreeOk, pf_impl_TreeOk), (fn_impl_ruleOk, pf_impl_ruleOk), (fn_impl_Map_rulesOk, pf_impl_Map_rulesOk), (fn_impl_CodeOk, pf_impl_CodeOk), (fn_impl_Code_size, pf_impl_Code_size), (fn_impl_PoolOk, pf_impl_PoolOk), (fn_slices_IndexFunc_impl_Rule_impl_Rule, pf_slices_IndexFunc_impl_Rule_impl_Rule), (fn_impl_Map_rule_1, pf_impl_Map_rule_1), (fn_impl_Map_rule, pf_impl_Map_rule), (fn_impl_Map_poolsOk, pf_impl_Map_poolsOk), (fn_impl_increasing, pf_impl_increasing), (fn_slices_IndexFunc_int64_int64, pf_slices_IndexFunc_int64_int64), (fn_slices_ContainsFunc_int64_int64, pf_slices_ContainsFunc_int64_int64), (fn_impl_Tree_areDevices_1, pf_impl_Tree_areDevices_1), (fn_impl_Tree_areDevices, pf_impl_Tree_areDevices), (fn_impl_MapOk, pf_impl_MapOk), (fn_impl_Pool_pgs, pf_impl_Pool_pgs), (fn_impl_Map_pgs, pf_impl_Map_pgs), (fn_impl_PgsOf, pf_impl_PgsOf), (fn_laws_eqDevice, pf_laws_eqDevice), (fn_laws_eqDeviceS, pf_laws_eqDeviceS), (fn_laws_eqInt64S, pf_laws_eqInt64S), (fn_laws_eqBucket, pf_laws_eqBucket), (fn_laws_eqBucketS, pf_laws_eqBucketS), (fn_laws_eqTree, pf_laws_eqTree), (fn_laws_eqRule, pf_laws_eqRule), (fn_laws_eqRuleS, pf_laws_eqRuleS), (fn_laws_eqCode, pf_laws_eqCode), (fn_laws_eqPool, pf_laws_eqPool), (fn_laws_eqPoolS, pf_laws_eqPoolS), (fn_laws_eqMap, pf_laws_eqMap), (fn_laws_markDeviceS, pf_laws_markDeviceS), (fn_laws_markInt64S, pf_laws_markInt64S), (fn_laws_markBucketS, pf_laws_markBucketS), (fn_laws_markTree, pf_laws_markTree), (fn_laws_markRuleS, pf_laws_markRuleS), (fn_laws_markPoolS, pf_laws_markPoolS), (fn_laws_markMap, pf_laws_markMap), (fn_laws_FnExactPgsOf, pf_laws_FnExactPgsOf)]
abbrev CC : Code := codeOf table
theorem prog_laws_eqPg : CC.prog fn_laws_eqPg = some pf_laws_eqPg := by kernel_rfl
@[simp] theorem modes_laws_eqPg : CC.modes fn_laws_eqPg = [.val, .val] := by kernel_rfl
theorem prog_laws_eqPgS : CC.prog fn_laws_eqPgS = some pf_laws_eqPgS := by kernel_rfl
@[simp] theorem modes_laws_eqPgS : CC.modes fn_laws_eqPgS = [.val, .val] := by kernel_rfl
theorem prog_laws_markPgS : CC.prog fn_laws_markPgS = some pf_laws_markPgS := by kernel_rfl
@[simp] theorem modes_laws_markPgS : CC.modes fn_laws_markPgS = [.row, .val] := by kernel_rfl
theorem prog_laws_heldPgS : CC.prog fn_laws_heldPgS = some pf_laws_heldPgS := by kernel_rfl
@[simp] theorem modes_laws_heldPgS : CC.modes fn_laws_heldPgS = [.val, .val] := by kernel_rfl
theorem prog_laws_szDeviceS : CC.prog fn_laws_szDeviceS = some pf_laws_szDeviceS := by kernel_rfl
@[simp] theorem modes_laws_szDeviceS : CC.modes fn_laws_szDeviceS = [.val, .val] := by kernel_rfl
theorem prog_laws_szInt64S : CC.prog fn_laws_szInt64S = some pf_laws_szInt64S := by kernel_rfl
@[simp] theorem modes_laws_szInt64S : CC.modes fn_laws_szInt64S = [.val, .val] := by kernel_rfl
theorem prog_laws_szBucket : CC.prog fn_laws_szBucket = some pf_laws_szBucket := by kernel_rfl
@[simp] theorem modes_laws_szBucket : CC.modes fn_laws_szBucket = [.val, .val] := by kernel_rfl
theorem prog_laws_szBucketS : CC.prog fn_laws_szBucketS = some pf_laws_szBucketS := by kernel_rfl
@[simp] theorem modes_laws_szBucketS : CC.modes fn_laws_szBucketS = [.val, .val] := by kernel_rfl
theorem prog_laws_szTree : CC.prog fn_laws_szTree = some pf_laws_szTree := by kernel_rfl
@[simp] theorem modes_laws_szTree : CC.modes fn_laws_szTree = [.val, .val] := by kernel_rfl
theorem prog_laws_szRuleS : CC.prog fn_laws_szRuleS = some pf_laws_szRuleS := by kernel_rfl
@[simp] theorem modes_laws_szRuleS : CC.modes fn_laws_szRuleS = [.val, .val] := by kernel_rfl
theorem prog_laws_szPoolS : CC.prog fn_laws_szPoolS = some pf_laws_szPoolS := by kernel_rfl
@[simp] theorem modes_laws_szPoolS : CC.modes fn_laws_szPoolS = [.val, .val] := by kernel_rfl
theorem prog_laws_szMap : CC.prog fn_laws_szMap = some pf_laws_szMap := by kernel_rfl
@[simp] theorem modes_laws_szMap : CC.modes fn_laws_szMap = [.val, .val] := by kernel_rfl
theorem prog_spec_l00In : CC.prog fn_spec_l00In = some pf_spec_l00In := by kernel_rfl
@[simp] theorem modes_spec_l00In : CC.modes fn_spec_l00In = [.val, .val, .val] := by kernel_rfl
theorem prog_spec_l06Devices : CC.prog fn_spec_l06Devices = some pf_spec_l06Devices := by kernel_rfl
@[simp] theorem modes_spec_l06Devices : CC.modes fn_spec_l06Devices = [.val] := by kernel_rfl
theorem prog_spec_l06Buckets : CC.prog fn_spec_l06Buckets = some pf_spec_l06Buckets := by kernel_rfl
@[simp] theorem modes_spec_l06Buckets : CC.modes fn_spec_l06Buckets = [.val] := by kernel_rfl
theorem prog_spec_l00Has : CC.prog fn_spec_l00Has = some pf_spec_l00Has := by kernel_rfl
@[simp] theorem modes_spec_l00Has : CC.modes fn_spec_l00Has = [.val, .val] := by kernel_rfl
theorem prog_spec_l06Once : CC.prog fn_spec_l06Once = some pf_spec_l06Once := by kernel_rfl
@[simp] theorem modes_spec_l06Once : CC.modes fn_spec_l06Once = [.val] := by kernel_rfl
theorem prog_spec_l06Device : CC.prog fn_spec_l06Device = some pf_spec_l06Device := by kernel_rfl
@[simp] theorem modes_spec_l06Device : CC.modes fn_spec_l06Device = [.val, .val] := by kernel_rfl
theorem prog_spec_l06Bucket : CC.prog fn_spec_l06Bucket = some pf_spec_l06Bucket := by kernel_rfl
@[simp] theorem modes_spec_l06Bucket : CC.modes fn_spec_l06Bucket = [.val, .val] := by kernel_rfl
theorem prog_spec_l06Kind : CC.prog fn_spec_l06Kind = some pf_spec_l06Kind := by kernel_rfl
@[simp] theorem modes_spec_l06Kind : CC.modes fn_spec_l06Kind = [.val, .val] := by kernel_rfl
theorem prog_spec_l06Fits : CC.prog fn_spec_l06Fits = some pf_spec_l06Fits := by kernel_rfl
@[simp] theorem modes_spec_l06Fits : CC.modes fn_spec_l06Fits = [.val, .val] := by kernel_rfl
theorem prog_spec_l06OK : CC.prog fn_spec_l06OK = some pf_spec_l06OK := by kernel_rfl
@[simp] theorem modes_spec_l06OK : CC.modes fn_spec_l06OK = [.val] := by kernel_rfl
theorem prog_spec_TreeOk : CC.prog fn_spec_TreeOk = some pf_spec_TreeOk := by kernel_rfl
@[simp] theorem modes_spec_TreeOk : CC.modes fn_spec_TreeOk = [.val] := by kernel_rfl
theorem prog_spec_l08OK : CC.prog fn_spec_l08OK = some pf_spec_l08OK := by kernel_rfl
@[simp] theorem modes_spec_l08OK : CC.modes fn_spec_l08OK = [.val, .val] := by kernel_rfl
theorem prog_spec_RuleOk : CC.prog fn_spec_RuleOk = some pf_spec_RuleOk := by kernel_rfl
@[simp] theorem modes_spec_RuleOk : CC.modes fn_spec_RuleOk = [.val, .val] := by kernel_rfl
theorem prog_spec_l04Code : CC.prog fn_spec_l04Code = some pf_spec_l04Code := by kernel_rfl
@[simp] theorem modes_spec_l04Code : CC.modes fn_spec_l04Code = [.val] := by kernel_rfl
theorem prog_spec_l09OK : CC.prog fn_spec_l09OK = some pf_spec_l09OK := by kernel_rfl
@[simp] theorem modes_spec_l09OK : CC.modes fn_spec_l09OK = [.val] := by kernel_rfl
theorem prog_spec_PoolOk : CC.prog fn_spec_PoolOk = some pf_spec_PoolOk := by kernel_rfl
@[simp] theorem modes_spec_PoolOk : CC.modes fn_spec_PoolOk = [.val] := by kernel_rfl
theorem prog_spec_l11Rule : CC.prog fn_spec_l11Rule = some pf_spec_l11Rule := by kernel_rfl
@[simp] theorem modes_spec_l11Rule : CC.modes fn_spec_l11Rule = [.val, .val] := by kernel_rfl
theorem prog_spec_l11Device : CC.prog fn_spec_l11Device = some pf_spec_l11Device := by kernel_rfl
@[simp] theorem modes_spec_l11Device : CC.modes fn_spec_l11Device = [.val, .val] := by kernel_rfl
theorem prog_spec_l11Nodes : CC.prog fn_spec_l11Nodes = some pf_spec_l11Nodes := by kernel_rfl
@[simp] theorem modes_spec_l11Nodes : CC.modes fn_spec_l11Nodes = [.val, .val] := by kernel_rfl
theorem prog_spec_l11Ok : CC.prog fn_spec_l11Ok = some pf_spec_l11Ok := by kernel_rfl
@[simp] theorem modes_spec_l11Ok : CC.modes fn_spec_l11Ok = [.val] := by kernel_rfl
theorem prog_spec_l11Pgs : CC.prog fn_spec_l11Pgs = some pf_spec_l11Pgs := by kernel_rfl
@[simp] theorem modes_spec_l11Pgs : CC.modes fn_spec_l11Pgs = [.val] := by kernel_rfl
theorem prog_spec_PgsOf : CC.prog fn_spec_PgsOf = some pf_spec_PgsOf := by kernel_rfl
@[simp] theorem modes_spec_PgsOf : CC.modes fn_spec_PgsOf = [.val] := by kernel_rfl
theorem prog_laws_toDevice : CC.prog fn_laws_toDevice = some pf_laws_toDevice := by kernel_rfl
@[simp] theorem modes_laws_toDevice : CC.modes fn_laws_toDevice = [.val] := by kernel_rfl
theorem prog_laws_toDeviceS : CC.prog fn_laws_toDeviceS = some pf_laws_toDeviceS := by kernel_rfl
@[simp] theorem modes_laws_toDeviceS : CC.modes fn_laws_toDeviceS = [.val] := by kernel_rfl
theorem prog_laws_toInt64S : CC.prog fn_laws_toInt64S = some pf_laws_toInt64S := by kernel_rfl
@[simp] theorem modes_laws_toInt64S : CC.modes fn_laws_toInt64S = [.val] := by kernel_rfl
theorem prog_laws_toBucket : CC.prog fn_laws_toBucket = some pf_laws_toBucket := by kernel_rfl
@[simp] theorem modes_laws_toBucket : CC.modes fn_laws_toBucket = [.val] := by kernel_rfl
theorem prog_laws_toBucketS : CC.prog fn_laws_toBucketS = some pf_laws_toBucketS := by kernel_rfl
@[simp] theorem modes_laws_toBucketS : CC.modes fn_laws_toBucketS = [.val] := by kernel_rfl
theorem prog_laws_toTree : CC.prog fn_laws_toTree = some pf_laws_toTree := by kernel_rfl
@[simp] theorem modes_laws_toTree : CC.modes fn_laws_toTree = [.val] := by kernel_rfl
theorem prog_laws_toRule : CC.prog fn_laws_toRule = some pf_laws_toRule := by kernel_rfl
@[simp] theorem modes_laws_toRule : CC.modes fn_laws_toRule = [.val] := by kernel_rfl
theorem prog_laws_toRuleS : CC.prog fn_laws_toRuleS = some pf_laws_toRuleS := by kernel_rfl
@[simp] theorem modes_laws_toRuleS : CC.modes fn_laws_toRuleS = [.val] := by kernel_rfl
theorem prog_laws_toCode : CC.prog fn_laws_toCode = some pf_laws_toCode := by kernel_rfl
@[simp] theorem modes_laws_toCode : CC.modes fn_laws_toCode = [.val] := by kernel_rfl
theorem prog_laws_toPool : CC.prog fn_laws_toPool = some pf_laws_toPool := by kernel_rfl
@[simp] theorem modes_laws_toPool : CC.modes fn_laws_toPool = [.val] := by kernel_rfl
theorem prog_laws_toPoolS : CC.prog fn_laws_toPoolS = some pf_laws_toPoolS := by kernel_rfl
@[simp] theorem modes_laws_toPoolS : CC.modes fn_laws_toPoolS = [.val] := by kernel_rfl
theorem prog_laws_toMap : CC.prog fn_laws_toMap = some pf_laws_toMap := by kernel_rfl
@[simp] theorem modes_laws_toMap : CC.modes fn_laws_toMap = [.val] := by kernel_rfl
theorem prog_impl_between : CC.prog fn_impl_between = some pf_impl_between := by kernel_rfl
@[simp] theorem modes_impl_between : CC.modes fn_impl_between = [.val, .val, .val] := by kernel_rfl
theorem prog_impl_isNode : CC.prog fn_impl_isNode = some pf_impl_isNode := by kernel_rfl
@[simp] theorem modes_impl_isNode : CC.modes fn_impl_isNode = [.val] := by kernel_rfl
theorem prog_impl_Tree_devicesOk : CC.prog fn_impl_Tree_devicesOk = some pf_impl_Tree_devicesOk := by kernel_rfl
@[simp] theorem modes_impl_Tree_devicesOk : CC.modes fn_impl_Tree_devicesOk = [.val] := by kernel_rfl
theorem prog_slices_IndexFunc_impl_Device_impl_Device : CC.prog fn_slices_IndexFunc_impl_Device_impl_Device = some pf_slices_IndexFunc_impl_Device_impl_Device := by kernel_rfl
@[simp] theorem modes_slices_IndexFunc_impl_Device_impl_Device : CC.modes fn_slices_IndexFunc_impl_Device_impl_Device = [.val, .val] := by kernel_rfl
theorem prog_impl_Tree_device_1 : CC.prog fn_impl_Tree_device_1 = some pf_impl_Tree_device_1 := by kernel_rfl
@[simp] theorem modes_impl_Tree_device_1 : CC.modes fn_impl_Tree_device_1 = [.val, .val] := by kernel_rfl
theorem prog_impl_Tree_device : CC.prog fn_impl_Tree_device = some pf_impl_Tree_device := by kernel_rfl
@[simp] theorem modes_impl_Tree_device : CC.modes fn_impl_Tree_device = [.val, .val] := by kernel_rfl
theorem prog_slices_IndexFunc_impl_Bucket_impl_Bucket : CC.prog fn_slices_IndexFunc_impl_Bucket_impl_Bucket = some pf_slices_IndexFunc_impl_Bucket_impl_Bucket := by kernel_rfl
@[simp] theorem modes_slices_IndexFunc_impl_Bucket_impl_Bucket : CC.modes fn_slices_IndexFunc_impl_Bucket_impl_Bucket = [.val, .val] := by kernel_rfl
theorem prog_impl_Tree_bucket_1 : CC.prog fn_impl_Tree_bucket_1 = some pf_impl_Tree_bucket_1 := by kernel_rfl
@[simp] theorem modes_impl_Tree_bucket_1 : CC.modes fn_impl_Tree_bucket_1 = [.val, .val] := by kernel_rfl
theorem prog_impl_Tree_bucket : CC.prog fn_impl_Tree_bucket = some pf_impl_Tree_bucket := by kernel_rfl
@[simp] theorem modes_impl_Tree_bucket : CC.modes fn_impl_Tree_bucket = [.val, .val] := by kernel_rfl
theorem prog_impl_Tree_kindOf : CC.prog fn_impl_Tree_kindOf = some pf_impl_Tree_kindOf := by kernel_rfl
@[simp] theorem modes_impl_Tree_kindOf : CC.modes fn_impl_Tree_kindOf = [.val, .val] := by kernel_rfl
theorem prog_impl_Tree_itemsOk : CC.prog fn_impl_Tree_itemsOk = some pf_impl_Tree_itemsOk := by kernel_rfl
@[simp] theorem modes_impl_Tree_itemsOk : CC.modes fn_impl_Tree_itemsOk = [.val, .val] := by kernel_rfl
theorem prog_impl_TreeOk : CC.prog fn_impl_TreeOk = some pf_impl_TreeOk := by kernel_rfl
@[simp] theorem modes_impl_TreeOk : CC.modes fn_impl_TreeOk = [.val] := by kernel_rfl
theorem prog_impl_ruleOk : CC.prog fn_impl_ruleOk = some pf_impl_ruleOk := by kernel_rfl
@[simp] theorem modes_impl_ruleOk : CC.modes fn_impl_ruleOk = [.val, .val] := by kernel_rfl
theorem prog_impl_Map_rulesOk : CC.prog fn_impl_Map_rulesOk = some pf_impl_Map_rulesOk := by kernel_rfl
@[simp] theorem modes_impl_Map_rulesOk : CC.modes fn_impl_Map_rulesOk = [.val] := by kernel_rfl
theorem prog_impl_CodeOk : CC.prog fn_impl_CodeOk = some pf_impl_CodeOk := by kernel_rfl
@[simp] theorem modes_impl_CodeOk : CC.modes fn_impl_CodeOk = [.val] := by kernel_rfl
theorem prog_impl_Code_size : CC.prog fn_impl_Code_size = some pf_impl_Code_size := by kernel_rfl
@[simp] theorem modes_impl_Code_size : CC.modes fn_impl_Code_size = [.val] := by kernel_rfl
theorem prog_impl_PoolOk : CC.prog fn_impl_PoolOk = some pf_impl_PoolOk := by kernel_rfl
@[simp] theorem modes_impl_PoolOk : CC.modes fn_impl_PoolOk = [.val] := by kernel_rfl
theorem prog_slices_IndexFunc_impl_Rule_impl_Rule : CC.prog fn_slices_IndexFunc_impl_Rule_impl_Rule = some pf_slices_IndexFunc_impl_Rule_impl_Rule := by kernel_rfl
@[simp] theorem modes_slices_IndexFunc_impl_Rule_impl_Rule : CC.modes fn_slices_IndexFunc_impl_Rule_impl_Rule = [.val, .val] := by kernel_rfl
theorem prog_impl_Map_rule_1 : CC.prog fn_impl_Map_rule_1 = some pf_impl_Map_rule_1 := by kernel_rfl
@[simp] theorem modes_impl_Map_rule_1 : CC.modes fn_impl_Map_rule_1 = [.val, .val] := by kernel_rfl
theorem prog_impl_Map_rule : CC.prog fn_impl_Map_rule = some pf_impl_Map_rule := by kernel_rfl
@[simp] theorem modes_impl_Map_rule : CC.modes fn_impl_Map_rule = [.val, .val] := by kernel_rfl
theorem prog_impl_Map_poolsOk : CC.prog fn_impl_Map_poolsOk = some pf_impl_Map_poolsOk := by kernel_rfl
@[simp] theorem modes_impl_Map_poolsOk : CC.modes fn_impl_Map_poolsOk = [.val] := by kernel_rfl
theorem prog_impl_increasing : CC.prog fn_impl_increasing = some pf_impl_increasing := by kernel_rfl
@[simp] theorem modes_impl_increasing : CC.modes fn_impl_increasing = [.val] := by kernel_rfl
theorem prog_slices_IndexFunc_int64_int64 : CC.prog fn_slices_IndexFunc_int64_int64 = some pf_slices_IndexFunc_int64_int64 := by kernel_rfl
@[simp] theorem modes_slices_IndexFunc_int64_int64 : CC.modes fn_slices_IndexFunc_int64_int64 = [.val, .val] := by kernel_rfl
theorem prog_slices_ContainsFunc_int64_int64 : CC.prog fn_slices_ContainsFunc_int64_int64 = some pf_slices_ContainsFunc_int64_int64 := by kernel_rfl
@[simp] theorem modes_slices_ContainsFunc_int64_int64 : CC.modes fn_slices_ContainsFunc_int64_int64 = [.val, .val] := by kernel_rfl
theorem prog_impl_Tree_areDevices_1 : CC.prog fn_impl_Tree_areDevices_1 = some pf_impl_Tree_areDevices_1 := by kernel_rfl
@[simp] theorem modes_impl_Tree_areDevices_1 : CC.modes fn_impl_Tree_areDevices_1 = [.val, .val] := by kernel_rfl
theorem prog_impl_Tree_areDevices : CC.prog fn_impl_Tree_areDevices = some pf_impl_Tree_areDevices := by kernel_rfl
@[simp] theorem modes_impl_Tree_areDevices : CC.modes fn_impl_Tree_areDevices = [.val, .val] := by kernel_rfl
theorem prog_impl_MapOk : CC.prog fn_impl_MapOk = some pf_impl_MapOk := by kernel_rfl
@[simp] theorem modes_impl_MapOk : CC.modes fn_impl_MapOk = [.val] := by kernel_rfl
theorem prog_impl_Pool_pgs : CC.prog fn_impl_Pool_pgs = some pf_impl_Pool_pgs := by kernel_rfl
@[simp] theorem modes_impl_Pool_pgs : CC.modes fn_impl_Pool_pgs = [.val] := by kernel_rfl
theorem prog_impl_Map_pgs : CC.prog fn_impl_Map_pgs = some pf_impl_Map_pgs := by kernel_rfl
@[simp] theorem modes_impl_Map_pgs : CC.modes fn_impl_Map_pgs = [.val] := by kernel_rfl
theorem prog_impl_PgsOf : CC.prog fn_impl_PgsOf = some pf_impl_PgsOf := by kernel_rfl
@[simp] theorem modes_impl_PgsOf : CC.modes fn_impl_PgsOf = [.val] := by kernel_rfl
theorem prog_laws_eqDevice : CC.prog fn_laws_eqDevice = some pf_laws_eqDevice := by kernel_rfl
@[simp] theorem modes_laws_eqDevice : CC.modes fn_laws_eqDevice = [.val, .val] := by kernel_rfl
theorem prog_laws_eqDeviceS : CC.prog fn_laws_eqDeviceS = some pf_laws_eqDeviceS := by kernel_rfl
@[simp] theorem modes_laws_eqDeviceS : CC.modes fn_laws_eqDeviceS = [.val, .val] := by kernel_rfl
theorem prog_laws_eqInt64S : CC.prog fn_laws_eqInt64S = some pf_laws_eqInt64S := by kernel_rfl
@[simp] theorem modes_laws_eqInt64S : CC.modes fn_laws_eqInt64S = [.val, .val] := by kernel_rfl
theorem prog_laws_eqBucket : CC.prog fn_laws_eqBucket = some pf_laws_eqBucket := by kernel_rfl
@[simp] theorem modes_laws_eqBucket : CC.modes fn_laws_eqBucket = [.val, .val] := by kernel_rfl
theorem prog_laws_eqBucketS : CC.prog fn_laws_eqBucketS = some pf_laws_eqBucketS := by kernel_rfl
@[simp] theorem modes_laws_eqBucketS : CC.modes fn_laws_eqBucketS = [.val, .val] := by kernel_rfl
theorem prog_laws_eqTree : CC.prog fn_laws_eqTree = some pf_laws_eqTree := by kernel_rfl
@[simp] theorem modes_laws_eqTree : CC.modes fn_laws_eqTree = [.val, .val] := by kernel_rfl
theorem prog_laws_eqRule : CC.prog fn_laws_eqRule = some pf_laws_eqRule := by kernel_rfl
@[simp] theorem modes_laws_eqRule : CC.modes fn_laws_eqRule = [.val, .val] := by kernel_rfl
theorem prog_laws_eqRuleS : CC.prog fn_laws_eqRuleS = some pf_laws_eqRuleS := by kernel_rfl
@[simp] theorem modes_laws_eqRuleS : CC.modes fn_laws_eqRuleS = [.val, .val] := by kernel_rfl
theorem prog_laws_eqCode : CC.prog fn_laws_eqCode = some pf_laws_eqCode := by kernel_rfl
@[simp] theorem modes_laws_eqCode : CC.modes fn_laws_eqCode = [.val, .val] := by kernel_rfl
theorem prog_laws_eqPool : CC.prog fn_laws_eqPool = some pf_laws_eqPool := by kernel_rfl
@[simp] theorem modes_laws_eqPool : CC.modes fn_laws_eqPool = [.val, .val] := by kernel_rfl
theorem prog_laws_eqPoolS : CC.prog fn_laws_eqPoolS = some pf_laws_eqPoolS := by kernel_rfl
@[simp] theorem modes_laws_eqPoolS : CC.modes fn_laws_eqPoolS = [.val, .val] := by kernel_rfl
theorem prog_laws_eqMap : CC.prog fn_laws_eqMap = some pf_laws_eqMap := by kernel_rfl
@[simp] theorem modes_laws_eqMap : CC.modes fn_laws_eqMap = [.val, .val] := by kernel_rfl
theorem prog_laws_markDeviceS : CC.prog fn_laws_markDeviceS = some pf_laws_markDeviceS := by kernel_rfl
@[simp] theorem modes_laws_markDeviceS : CC.modes fn_laws_markDeviceS = [.row, .val] := by kernel_rfl
theorem prog_laws_markInt64S : CC.prog fn_laws_markInt64S = some pf_laws_markInt64S := by kernel_rfl
@[simp] theorem modes_laws_markInt64S : CC.modes fn_laws_markInt64S = [.row, .val] := by kernel_rfl
theorem prog_laws_markBucketS : CC.prog fn_laws_markBucketS = some pf_laws_markBucketS := by kernel_rfl
@[simp] theorem modes_laws_markBucketS : CC.modes fn_laws_markBucketS = [.row, .val] := by kernel_rfl
theorem prog_laws_markTree : CC.prog fn_laws_markTree = some pf_laws_markTree := by kernel_rfl
@[simp] theorem modes_laws_markTree : CC.modes fn_laws_markTree = [.rows [true, true], .val] := by kernel_rfl
theorem prog_laws_markRuleS : CC.prog fn_laws_markRuleS = some pf_laws_markRuleS := by kernel_rfl
@[simp] theorem modes_laws_markRuleS : CC.modes fn_laws_markRuleS = [.row, .val] := by kernel_rfl
theorem prog_laws_markPoolS : CC.prog fn_laws_markPoolS = some pf_laws_markPoolS := by kernel_rfl
@[simp] theorem modes_laws_markPoolS : CC.modes fn_laws_markPoolS = [.row, .val] := by kernel_rfl
theorem prog_laws_markMap : CC.prog fn_laws_markMap = some pf_laws_markMap := by kernel_rfl
@[simp] theorem modes_laws_markMap : CC.modes fn_laws_markMap = [.rows [false, false, true, true, true, true, true, true], .val] := by kernel_rfl
theorem prog_laws_FnExactPgsOf : CC.prog fn_laws_FnExactPgsOf = some pf_laws_FnExactPgsOf := by kernel_rfl
@[simp] theorem modes_laws_FnExactPgsOf : CC.modes fn_laws_FnExactPgsOf = [.val] := by kernel_rfl
theorem fits : Fits Try.prog CC := fits_of (by kernel_rfl) (by kernel_rfl)
end Go.Proofs.Ytjifplkdfebilaa.Pv
