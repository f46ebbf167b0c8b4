/- Plain forms of Go functions, printed by a program of this repo; checked against the given program by the kernel. No condition. -/
import Derived.Test.YtdbcnnehfbcldaaDoorL0
import Derived.Test.YtdbcnnehfbcldaaDoorLib
import Derived.Test.YtdbcnnehfbcldaaDoorProg
import Derived.KernelRfl
namespace Go.Proofs.YtdbcnnehfbcldaaDoor.Pv
open Go
abbrev fn_laws_szOp : FuncId := 5
abbrev fn_spec_l00In : FuncId := 34
abbrev fn_spec_l04Code : FuncId := 48
abbrev fn_spec_CodeOk : FuncId := 41
abbrev fn_spec_OpOk : FuncId := 23
abbrev fn_spec_l31Op : FuncId := 13
abbrev fn_spec_l33Ops : FuncId := 24
abbrev fn_spec_l06Num : FuncId := 25
abbrev fn_spec_l01Hex : FuncId := 42
abbrev fn_spec_l33Body : FuncId := 26
abbrev fn_spec_l33Op : FuncId := 14
abbrev fn_spec_OpText : FuncId := 6
abbrev fn_laws_toOp : FuncId := 7
abbrev fn_impl_between : FuncId := 28
abbrev fn_impl_CodeOk : FuncId := 27
abbrev fn_impl_OpOk : FuncId := 15
abbrev fn_impl_plainCode : FuncId := 16
abbrev fn_strings_Join : FuncId := 17
abbrev fn_impl_PutHex : FuncId := 45
abbrev fn_impl_bodyText : FuncId := 32
abbrev fn_strconv_FormatInt : FuncId := 46
abbrev fn_impl_decimal : FuncId := 33
abbrev fn_impl_opWords : FuncId := 18
abbrev fn_impl_OpText : FuncId := 8
abbrev fn_laws_FnExactOpText : FuncId := 3
abbrev ty_uint8 : TypeId := 5
abbrev ty_string : TypeId := 9
def pf_laws_szOp : PF := ⟨[.val, .val], [0, 1], (.seq (.reg [⟨some 2, .box (.t 0) 3, none, 0⟩,
  ⟨some 4, .mov (.k (.int .i64 0)), none, 0⟩]) (.seq (.reg [⟨some 5, .mov (.t 1), none, 0⟩,
  ⟨some 6, .flda 2 (.t 2), none, 0⟩,
  ⟨some 7, .load 1 false (.t 6), none, 0⟩,
  ⟨some 8, .len false (.t 7), none, 0⟩,
  ⟨some 9, .bin .sub 0 (.t 5) (.t 8), none, 0⟩,
  ⟨some 1, .mov (.t 9), none, 0⟩]) (.seq (.seq (.reg [⟨some 10, .mov (.t 1), none, 0⟩,
  ⟨some 11, .bin .lss 0 (.t 10) (.k (.int .i64 0)), none, 0⟩]) (.cond (.t 11) (.seq (.reg [⟨some 4, .mov (.k (.int .i64 (-1))), none, 0⟩]) .ret) .skip)) (.seq (.reg [⟨some 12, .mov (.t 1), none, 0⟩,
  ⟨some 4, .mov (.t 12), none, 0⟩]) .ret)))),
  [(4, none)]⟩
def pf_spec_l00In : PF := ⟨[.val, .val, .val], [0, 1, 2, 10], (.seq (.reg [⟨some 6, .mov (.k (.bool false)), none, 0⟩]) (.seq (.reg [⟨some 7, .mov (.t 0), none, 0⟩,
  ⟨some 8, .mov (.t 1), none, 0⟩,
  ⟨some 9, .bin .geq 0 (.t 7) (.t 8), none, 0⟩,
  ⟨some 10, .mov (.t 9), none, 0⟩,
  ⟨some 11, .mov (.t 0), some (10, true), 0⟩,
  ⟨some 12, .mov (.t 2), some (10, true), 0⟩,
  ⟨some 13, .bin .leq 0 (.t 11) (.t 12), some (10, true), 0⟩,
  ⟨some 14, .pick (.t 10) (.t 13) (.k (.bool false)), none, 0⟩,
  ⟨some 6, .mov (.t 14), none, 0⟩]) .ret)),
  [(6, none)]⟩
def pf_spec_l04Code : PF := ⟨[.val], [0, 1, 6], (.seq (.reg [⟨some 1, .box (.t 0) 2, none, 0⟩,
  ⟨some 2, .mov (.k (.bool false)), none, 0⟩]) (.seq (.reg [⟨some 3, .flda 0 (.t 1), none, 0⟩,
  ⟨some 4, .load 1 false (.t 3), none, 0⟩,
  ⟨some 5, .call fn_spec_l00In [.t 4, .k (.int .i64 1), .k (.int .i64 4)], none, 0⟩,
  ⟨some 6, .mov (.t 5), none, 0⟩,
  ⟨some 7, .flda 1 (.t 1), some (6, true), 0⟩,
  ⟨some 8, .load 1 false (.t 7), some (6, true), 0⟩,
  ⟨some 9, .call fn_spec_l00In [.t 8, .k (.int .i64 0), .k (.int .i64 3)], some (6, true), 0⟩,
  ⟨some 10, .pick (.t 6) (.t 9) (.k (.bool false)), none, 0⟩,
  ⟨some 2, .mov (.t 10), none, 0⟩]) .ret)),
  [(2, none)]⟩
def pf_spec_CodeOk : PF := ⟨[.val], [0], (.seq (.reg [⟨some 1, .box (.t 0) 2, none, 0⟩,
  ⟨some 2, .mov (.k (.bool false)), none, 0⟩]) (.seq (.reg [⟨some 3, .load 2 true (.t 1), none, 0⟩,
  ⟨some 4, .call fn_spec_l04Code [.t 3], none, 0⟩,
  ⟨some 2, .mov (.t 4), none, 0⟩]) .ret)),
  [(2, none)]⟩
def pf_spec_OpOk : PF := ⟨[.val, .val], [0, 1, 2, 3, 5, 6, 18, 19, 25, 30, 35, 38, 43, 46, 49, 54, 59, 62, 67, 70], (.seq (.reg [⟨some 2, .box (.t 0) 2, none, 0⟩,
  ⟨some 3, .box (.t 1) 3, none, 0⟩,
  ⟨some 4, .mov (.k (.bool false)), none, 0⟩]) (.seq (.seq (.reg [⟨some 7, .load 2 true (.t 2), none, 0⟩,
  ⟨some 8, .call fn_spec_CodeOk [.t 7], none, 0⟩,
  ⟨some 9, .un .not (.t 8), none, 0⟩]) (.cond (.t 9) (.seq (.reg [⟨some 4, .mov (.k (.bool false)), none, 0⟩]) .ret) .skip)) (.seq (.any [(0, []), (1, []), (2, []), (3, []), (4, [0, 1, 2, 3]), (5, [0, 1, 2, 3]), (6, [0, 1, 2, 3]), (7, []), (8, [])] [⟨some 10, .flda 2 (.t 3), none, 0⟩,
  ⟨some 11, .load 1 false (.t 10), none, 0⟩,
  ⟨some 12, .len false (.t 11), none, 0⟩,
  ⟨some 13, .bin .leq 0 (.t 12) (.k (.int .i64 64)), none, 0⟩,
  ⟨some 14, .flda 1 (.t 3), none, 0⟩,
  ⟨some 15, .load 1 false (.t 14), none, 0⟩,
  ⟨some 16, .call fn_spec_l00In [.t 15, .k (.int .i64 0), .k (.int .i64 64)], none, 0⟩,
  ⟨some 5, .mov (.t 13), none, 0⟩,
  ⟨some 6, .mov (.t 16), none, 0⟩]) (.seq (.seq (.reg [⟨some 17, .flda 0 (.t 3), none, 0⟩,
  ⟨some 18, .load 1 false (.t 17), none, 0⟩]) (.block 0 (.seq (.seq (.reg [⟨some 20, .bin .eql 0 (.t 18) (.k (.int .i64 1)), none, 0⟩,
  ⟨some 19, .mov (.t 20), none, 0⟩]) (.cond (.t 19) .skip (.reg [⟨some 21, .bin .eql 0 (.t 18) (.k (.int .i64 6)), none, 0⟩,
  ⟨some 19, .mov (.t 21), none, 0⟩]))) (.cond (.t 19) (.seq (.reg [⟨some 22, .flda 1 (.t 3), none, 0⟩,
  ⟨some 23, .load 1 false (.t 22), none, 0⟩,
  ⟨some 24, .bin .eql 0 (.t 23) (.k (.int .i64 0)), none, 0⟩,
  ⟨some 25, .mov (.t 24), none, 0⟩,
  ⟨some 26, .flda 2 (.t 3), some (25, true), 0⟩,
  ⟨some 27, .load 1 false (.t 26), some (25, true), 0⟩,
  ⟨some 28, .bin .eql 0 (.t 27) (.k (.str ⟨#[]⟩)), some (25, true), 0⟩,
  ⟨some 29, .pick (.t 25) (.t 28) (.k (.bool false)), none, 0⟩,
  ⟨some 4, .mov (.t 29), none, 0⟩]) .ret) (.seq (.reg [⟨some 31, .bin .eql 0 (.t 18) (.k (.int .i64 2)), none, 0⟩,
  ⟨some 30, .mov (.t 31), none, 0⟩]) (.cond (.t 30) (.seq (.reg [⟨some 32, .flda 1 (.t 3), none, 0⟩,
  ⟨some 33, .load 1 false (.t 32), none, 0⟩,
  ⟨some 34, .bin .eql 0 (.t 33) (.k (.int .i64 0)), none, 0⟩,
  ⟨some 35, .mov (.t 34), none, 0⟩,
  ⟨some 36, .mov (.t 5), some (35, true), 0⟩,
  ⟨some 37, .pick (.t 35) (.t 36) (.k (.bool false)), none, 0⟩,
  ⟨some 4, .mov (.t 37), none, 0⟩]) .ret) (.seq (.reg [⟨some 39, .bin .eql 0 (.t 18) (.k (.int .i64 3)), none, 0⟩,
  ⟨some 38, .mov (.t 39), none, 0⟩]) (.cond (.t 38) (.seq (.reg [⟨some 40, .flda 0 (.t 2), none, 0⟩,
  ⟨some 41, .load 1 false (.t 40), none, 0⟩,
  ⟨some 42, .bin .eql 0 (.t 41) (.k (.int .i64 1)), none, 0⟩,
  ⟨some 43, .mov (.t 42), none, 0⟩,
  ⟨some 44, .mov (.t 6), some (43, true), 0⟩,
  ⟨some 45, .pick (.t 43) (.t 44) (.k (.bool false)), none, 0⟩,
  ⟨some 46, .mov (.t 45), none, 0⟩,
  ⟨some 47, .mov (.t 5), some (46, true), 0⟩,
  ⟨some 48, .pick (.t 46) (.t 47) (.k (.bool false)), none, 0⟩,
  ⟨some 4, .mov (.t 48), none, 0⟩]) .ret) (.seq (.reg [⟨some 50, .bin .eql 0 (.t 18) (.k (.int .i64 4)), none, 0⟩,
  ⟨some 49, .mov (.t 50), none, 0⟩]) (.cond (.t 49) (.seq (.reg [⟨some 51, .flda 0 (.t 2), none, 0⟩,
  ⟨some 52, .load 1 false (.t 51), none, 0⟩,
  ⟨some 53, .bin .eql 0 (.t 52) (.k (.int .i64 1)), none, 0⟩,
  ⟨some 54, .mov (.t 53), none, 0⟩,
  ⟨some 55, .flda 1 (.t 3), some (54, true), 0⟩,
  ⟨some 56, .load 1 false (.t 55), some (54, true), 0⟩,
  ⟨some 57, .bin .eql 0 (.t 56) (.k (.int .i64 0)), some (54, true), 0⟩,
  ⟨some 58, .pick (.t 54) (.t 57) (.k (.bool false)), none, 0⟩,
  ⟨some 59, .mov (.t 58), none, 0⟩,
  ⟨some 60, .mov (.t 5), some (59, true), 0⟩,
  ⟨some 61, .pick (.t 59) (.t 60) (.k (.bool false)), none, 0⟩,
  ⟨some 4, .mov (.t 61), none, 0⟩]) .ret) (.seq (.reg [⟨some 63, .bin .eql 0 (.t 18) (.k (.int .i64 5)), none, 0⟩,
  ⟨some 62, .mov (.t 63), none, 0⟩]) (.cond (.t 62) (.seq (.reg [⟨some 64, .flda 0 (.t 2), none, 0⟩,
  ⟨some 65, .load 1 false (.t 64), none, 0⟩,
  ⟨some 66, .bin .eql 0 (.t 65) (.k (.int .i64 1)), none, 0⟩,
  ⟨some 67, .mov (.t 66), none, 0⟩,
  ⟨some 68, .mov (.t 6), some (67, true), 0⟩,
  ⟨some 69, .pick (.t 67) (.t 68) (.k (.bool false)), none, 0⟩,
  ⟨some 70, .mov (.t 69), none, 0⟩,
  ⟨some 71, .flda 2 (.t 3), some (70, true), 0⟩,
  ⟨some 72, .load 1 false (.t 71), some (70, true), 0⟩,
  ⟨some 73, .bin .eql 0 (.t 72) (.k (.str ⟨#[]⟩)), some (70, true), 0⟩,
  ⟨some 74, .pick (.t 70) (.t 73) (.k (.bool false)), none, 0⟩,
  ⟨some 4, .mov (.t 74), none, 0⟩]) .ret) .skip)))))))))))) (.seq (.reg [⟨some 4, .mov (.k (.bool false)), none, 0⟩]) .ret))))),
  [(4, none)]⟩
def pf_spec_l31Op : PF := ⟨[.val], [0], (.seq (.reg [⟨some 1, .box (.t 0) 3, none, 0⟩,
  ⟨some 2, .mov (.k (.bool false)), none, 0⟩]) (.seq (.reg [⟨some 3, .build [.int .i64 0, .int .i64 0] [(0, 1)] [.k (.int .i64 1)], none, 0⟩,
  ⟨some 4, .load 3 true (.t 1), none, 0⟩,
  ⟨some 5, .call fn_spec_OpOk [.t 3, .t 4], none, 0⟩,
  ⟨some 2, .mov (.t 5), none, 0⟩]) .ret)),
  [(2, none)]⟩
def pf_spec_l33Ops : PF := ⟨[], [], (.seq (.reg [⟨some 0, .mov (.k (.sl 2 ty_string [])), none, 0⟩]) (.seq (.reg [⟨some 1, .lit ty_string 1 [.k (.str ⟨#[114, 101, 97, 100]⟩), .k (.str ⟨#[102, 117, 108, 108]⟩), .k (.str ⟨#[119, 114, 105, 116, 101]⟩), .k (.str ⟨#[97, 112, 112, 101, 110, 100]⟩), .k (.str ⟨#[99, 117, 116]⟩), .k (.str ⟨#[100, 101, 108, 101, 116, 101]⟩)], none, 0⟩,
  ⟨some 0, .mov (.t 1), none, 0⟩]) .ret)),
  [(0, none)]⟩
def pf_spec_l06Num : PF := ⟨[.val], [0], (.seq (.reg [⟨some 2, .mov (.k (.str ⟨#[]⟩)), none, 0⟩]) (.seq (.seq (.reg [⟨some 3, .mov (.t 0), none, 0⟩,
  ⟨some 4, .bin .lss 0 (.t 3) (.k (.int .i64 0)), none, 0⟩]) (.cond (.t 4) (.seq (.reg [⟨some 5, .mov (.t 0), none, 0⟩,
  ⟨some 6, .un .neg (.t 5), none, 0⟩,
  ⟨some 7, .call fn_spec_l06Num [.t 6], none, 0⟩,
  ⟨some 8, .bin .add 0 (.k (.str ⟨#[45]⟩)) (.t 7), none, 0⟩,
  ⟨some 2, .mov (.t 8), none, 0⟩]) .ret) .skip)) (.seq (.seq (.reg [⟨some 9, .mov (.t 0), none, 0⟩,
  ⟨some 10, .bin .lss 0 (.t 9) (.k (.int .i64 10)), none, 0⟩]) (.cond (.t 10) (.seq (.reg [⟨some 11, .mov (.t 0), none, 0⟩,
  ⟨some 12, .bin .add 0 (.k (.int .i64 48)) (.t 11), none, 0⟩,
  ⟨some 13, .conv .u8 (.t 12), none, 0⟩,
  ⟨some 14, .lit ty_uint8 1 [.t 13], none, 0⟩,
  ⟨some 15, .b2s (.t 14), none, 0⟩,
  ⟨some 2, .mov (.t 15), none, 0⟩]) .ret) .skip)) (.seq (.any [(0, []), (1, []), (2, []), (3, [0, 1, 2]), (4, [0, 1, 2]), (5, [0, 1, 2]), (6, [0, 1, 2]), (7, [0, 1, 2]), (8, [0, 1, 2]), (9, []), (10, [])] [⟨some 16, .mov (.t 0), none, 0⟩,
  ⟨some 17, .bin .quo 0 (.t 16) (.k (.int .i64 10)), none, 0⟩,
  ⟨some 18, .call fn_spec_l06Num [.t 17], none, 0⟩,
  ⟨some 19, .mov (.t 0), none, 0⟩,
  ⟨some 20, .bin .rem 0 (.t 19) (.k (.int .i64 10)), none, 0⟩,
  ⟨some 21, .bin .add 0 (.k (.int .i64 48)) (.t 20), none, 0⟩,
  ⟨some 22, .conv .u8 (.t 21), none, 0⟩,
  ⟨some 23, .lit ty_uint8 1 [.t 22], none, 0⟩,
  ⟨some 24, .b2s (.t 23), none, 0⟩,
  ⟨some 25, .bin .add 0 (.t 18) (.t 24), none, 0⟩,
  ⟨some 2, .mov (.t 25), none, 0⟩]) .ret)))),
  [(2, none)]⟩
def pf_spec_l01Hex_lb0 : PC := (.seq (.seq (.reg [⟨some 6, .mov (.t 4), none, 0⟩,
  ⟨some 7, .mov (.t 0), none, 0⟩,
  ⟨some 8, .len false (.t 7), none, 0⟩,
  ⟨some 9, .bin .lss 0 (.t 6) (.t 8), none, 0⟩]) (.cond (.t 9) .skip (.exit 0))) (.seq (.block 1 (.any [(0, []), (1, [0]), (2, [0, 1]), (3, [0]), (4, [0]), (5, [0]), (6, [0, 1, 2, 3, 4, 5]), (7, [0, 1, 2, 3, 4, 5, 6]), (8, [0, 1, 2, 3, 4, 5]), (9, [0, 1, 2, 3, 4, 5]), (10, [0, 1, 2, 3, 4, 5]), (11, [0]), (12, []), (13, [])] [⟨some 12, .mov (.t 3), none, 0⟩,
  ⟨some 13, .mov (.t 0), none, 0⟩,
  ⟨some 14, .mov (.t 4), none, 0⟩,
  ⟨some 15, .idxs (.t 13) (.t 14), none, 0⟩,
  ⟨some 16, .bin .quo 0 (.t 15) (.k (.int .u8 16)), none, 0⟩,
  ⟨some 17, .idxs (.k (.str ⟨#[48, 49, 50, 51, 52, 53, 54, 55, 56, 57, 97, 98, 99, 100, 101, 102]⟩)) (.t 16), none, 0⟩,
  ⟨some 18, .mov (.t 0), none, 0⟩,
  ⟨some 19, .mov (.t 4), none, 0⟩,
  ⟨some 20, .idxs (.t 18) (.t 19), none, 0⟩,
  ⟨some 21, .bin .rem 0 (.t 20) (.k (.int .u8 16)), none, 0⟩,
  ⟨some 22, .idxs (.k (.str ⟨#[48, 49, 50, 51, 52, 53, 54, 55, 56, 57, 97, 98, 99, 100, 101, 102]⟩)) (.t 21), none, 0⟩,
  ⟨some 23, .lit ty_uint8 1 [.t 17, .t 22], none, 0⟩,
  ⟨some 24, .app ty_uint8 1 (.t 12) (.t 23), none, 0⟩,
  ⟨some 3, .mov (.t 24), none, 0⟩])) (.reg [⟨some 10, .mov (.t 4), none, 0⟩,
  ⟨some 11, .bin .add 0 (.t 10) (.k (.int .i64 1)), none, 0⟩,
  ⟨some 4, .mov (.t 11), none, 0⟩])))
def pf_spec_l01Hex_l0 : PC := .loop [] pf_spec_l01Hex_lb0
def pf_spec_l01Hex : PF := ⟨[.val], [0, 3, 4], (.seq (.reg [⟨some 2, .mov (.k (.str ⟨#[]⟩)), none, 0⟩]) (.seq (.reg [⟨some 5, .lit ty_uint8 1 [], none, 0⟩,
  ⟨some 3, .mov (.t 5), none, 0⟩]) (.seq (.seq (.reg [⟨some 4, .mov (.k (.int .i64 0)), none, 0⟩]) (.block 0 pf_spec_l01Hex_l0)) (.seq (.reg [⟨some 25, .mov (.t 3), none, 0⟩,
  ⟨some 26, .b2s (.t 25), none, 0⟩,
  ⟨some 2, .mov (.t 26), none, 0⟩]) .ret)))),
  [(2, none)]⟩
def pf_spec_l33Body : PF := ⟨[.val], [0], (.seq (.reg [⟨some 2, .mov (.k (.str ⟨#[]⟩)), none, 0⟩]) (.seq (.seq (.reg [⟨some 3, .mov (.t 0), none, 0⟩,
  ⟨some 4, .bin .eql 0 (.t 3) (.k (.str ⟨#[]⟩)), none, 0⟩]) (.cond (.t 4) (.seq (.reg [⟨some 2, .mov (.k (.str ⟨#[45]⟩)), none, 0⟩]) .ret) .skip)) (.seq (.reg [⟨some 5, .mov (.t 0), none, 0⟩,
  ⟨some 6, .call fn_spec_l01Hex [.t 5], none, 0⟩,
  ⟨some 2, .mov (.t 6), none, 0⟩]) .ret))),
  [(2, none)]⟩
def pf_spec_l33Op : PF := ⟨[.val], [0, 1, 3, 13, 27, 32], (.seq (.reg [⟨some 1, .box (.t 0) 3, none, 0⟩,
  ⟨some 2, .mov (.k (.str ⟨#[]⟩)), none, 0⟩]) (.seq (.any [(0, []), (1, [0]), (2, [0]), (3, [0]), (4, []), (5, []), (6, [])] [⟨some 4, .call fn_spec_l33Ops [], none, 0⟩,
  ⟨some 5, .flda 0 (.t 1), none, 0⟩,
  ⟨some 6, .load 1 false (.t 5), none, 0⟩,
  ⟨some 7, .bin .sub 0 (.t 6) (.k (.int .i64 1)), none, 0⟩,
  ⟨some 8, .idv ty_string (.t 4) (.t 7), none, 0⟩,
  ⟨some 9, .load 1 false (.t 8), none, 0⟩,
  ⟨some 3, .mov (.t 9), none, 0⟩]) (.seq (.seq (.reg [⟨some 10, .flda 0 (.t 1), none, 0⟩,
  ⟨some 11, .load 1 false (.t 10), none, 0⟩,
  ⟨some 12, .bin .eql 0 (.t 11) (.k (.int .i64 3)), none, 0⟩,
  ⟨some 13, .mov (.t 12), none, 0⟩,
  ⟨some 14, .flda 0 (.t 1), some (13, false), 0⟩,
  ⟨some 15, .load 1 false (.t 14), some (13, false), 0⟩,
  ⟨some 16, .bin .eql 0 (.t 15) (.k (.int .i64 5)), some (13, false), 0⟩,
  ⟨some 17, .pick (.t 13) (.k (.bool true)) (.t 16), none, 0⟩]) (.cond (.t 17) (.reg [⟨some 18, .mov (.t 3), none, 0⟩,
  ⟨some 19, .flda 1 (.t 1), none, 0⟩,
  ⟨some 20, .load 1 false (.t 19), none, 0⟩,
  ⟨some 21, .call fn_spec_l06Num [.t 20], none, 0⟩,
  ⟨some 22, .bin .add 0 (.k (.str ⟨#[32]⟩)) (.t 21), none, 0⟩,
  ⟨some 23, .bin .add 0 (.t 18) (.t 22), none, 0⟩,
  ⟨some 3, .mov (.t 23), none, 0⟩]) .skip)) (.seq (.seq (.reg [⟨some 24, .flda 0 (.t 1), none, 0⟩,
  ⟨some 25, .load 1 false (.t 24), none, 0⟩,
  ⟨some 26, .bin .eql 0 (.t 25) (.k (.int .i64 2)), none, 0⟩,
  ⟨some 27, .mov (.t 26), none, 0⟩,
  ⟨some 28, .flda 0 (.t 1), some (27, false), 0⟩,
  ⟨some 29, .load 1 false (.t 28), some (27, false), 0⟩,
  ⟨some 30, .bin .eql 0 (.t 29) (.k (.int .i64 3)), some (27, false), 0⟩,
  ⟨some 31, .pick (.t 27) (.k (.bool true)) (.t 30), none, 0⟩,
  ⟨some 32, .mov (.t 31), none, 0⟩,
  ⟨some 33, .flda 0 (.t 1), some (32, false), 0⟩,
  ⟨some 34, .load 1 false (.t 33), some (32, false), 0⟩,
  ⟨some 35, .bin .eql 0 (.t 34) (.k (.int .i64 4)), some (32, false), 0⟩,
  ⟨some 36, .pick (.t 32) (.k (.bool true)) (.t 35), none, 0⟩]) (.cond (.t 36) (.reg [⟨some 37, .mov (.t 3), none, 0⟩,
  ⟨some 38, .flda 2 (.t 1), none, 0⟩,
  ⟨some 39, .load 1 false (.t 38), none, 0⟩,
  ⟨some 40, .call fn_spec_l33Body [.t 39], none, 0⟩,
  ⟨some 41, .bin .add 0 (.k (.str ⟨#[32]⟩)) (.t 40), none, 0⟩,
  ⟨some 42, .bin .add 0 (.t 37) (.t 41), none, 0⟩,
  ⟨some 3, .mov (.t 42), none, 0⟩]) .skip)) (.seq (.reg [⟨some 43, .mov (.t 3), none, 0⟩,
  ⟨some 2, .mov (.t 43), none, 0⟩]) .ret))))),
  [(2, none)]⟩
def pf_spec_OpText : PF := ⟨[.val], [0, 1], (.seq (.reg [⟨some 1, .box (.t 0) 3, none, 0⟩,
  ⟨some 2, .mov (.k (.str ⟨#[]⟩)), none, 0⟩]) (.seq (.seq (.reg [⟨some 3, .load 3 true (.t 1), none, 0⟩,
  ⟨some 4, .call fn_spec_l31Op [.t 3], none, 0⟩,
  ⟨some 5, .un .not (.t 4), none, 0⟩]) (.cond (.t 5) (.seq (.reg [⟨some 2, .mov (.k (.str ⟨#[]⟩)), none, 0⟩]) .ret) .skip)) (.seq (.reg [⟨some 6, .load 3 true (.t 1), none, 0⟩,
  ⟨some 7, .call fn_spec_l33Op [.t 6], none, 0⟩,
  ⟨some 2, .mov (.t 7), none, 0⟩]) .ret))),
  [(2, none)]⟩
def pf_laws_toOp : PF := ⟨[.val], [0, 1, 3], (.seq (.reg [⟨some 1, .box (.t 0) 3, none, 0⟩,
  ⟨some 2, .alloc [.int .i64 0, .int .i64 0, .str ⟨#[]⟩], none, 0⟩]) (.seq (.reg [⟨some 3, .alloc [.int .i64 0, .int .i64 0, .str ⟨#[]⟩], none, 0⟩]) (.seq (.reg [⟨some 4, .flda 0 (.t 1), none, 0⟩,
  ⟨some 5, .load 1 false (.t 4), none, 0⟩,
  ⟨some 6, .flda 0 (.t 3), none, 0⟩,
  ⟨none, .store 1 (.t 6) (.t 5), none, 0⟩]) (.seq (.reg [⟨some 7, .flda 1 (.t 1), none, 0⟩,
  ⟨some 8, .load 1 false (.t 7), none, 0⟩,
  ⟨some 9, .flda 1 (.t 3), none, 0⟩,
  ⟨none, .store 1 (.t 9) (.t 8), none, 0⟩]) (.seq (.reg [⟨some 10, .flda 2 (.t 1), none, 0⟩,
  ⟨some 11, .load 1 false (.t 10), none, 0⟩,
  ⟨some 12, .flda 2 (.t 3), none, 0⟩,
  ⟨none, .store 1 (.t 12) (.t 11), none, 0⟩]) (.seq (.reg [⟨some 13, .load 3 true (.t 3), none, 0⟩,
  ⟨none, .store 3 (.t 2) (.t 13), none, 0⟩]) .ret)))))),
  [(2, some (3, true))]⟩
def pf_impl_between : PF := ⟨[.val, .val, .val], [0, 1, 2, 10], (.seq (.reg [⟨some 6, .mov (.k (.bool false)), none, 0⟩]) (.seq (.reg [⟨some 7, .mov (.t 0), none, 0⟩,
  ⟨some 8, .mov (.t 1), none, 0⟩,
  ⟨some 9, .bin .geq 0 (.t 7) (.t 8), none, 0⟩,
  ⟨some 10, .mov (.t 9), none, 0⟩,
  ⟨some 11, .mov (.t 0), some (10, true), 0⟩,
  ⟨some 12, .mov (.t 2), some (10, true), 0⟩,
  ⟨some 13, .bin .leq 0 (.t 11) (.t 12), some (10, true), 0⟩,
  ⟨some 14, .pick (.t 10) (.t 13) (.k (.bool false)), none, 0⟩,
  ⟨some 6, .mov (.t 14), none, 0⟩]) .ret)),
  [(6, none)]⟩
def pf_impl_CodeOk : PF := ⟨[.val], [0, 1, 6], (.seq (.reg [⟨some 1, .box (.t 0) 2, none, 0⟩,
  ⟨some 2, .mov (.k (.bool false)), none, 0⟩]) (.seq (.reg [⟨some 3, .flda 0 (.t 1), none, 0⟩,
  ⟨some 4, .load 1 false (.t 3), none, 0⟩,
  ⟨some 5, .call fn_impl_between [.t 4, .k (.int .i64 1), .k (.int .i64 4)], none, 0⟩,
  ⟨some 6, .mov (.t 5), none, 0⟩,
  ⟨some 7, .flda 1 (.t 1), some (6, true), 0⟩,
  ⟨some 8, .load 1 false (.t 7), some (6, true), 0⟩,
  ⟨some 9, .call fn_impl_between [.t 8, .k (.int .i64 0), .k (.int .i64 3)], some (6, true), 0⟩,
  ⟨some 10, .pick (.t 6) (.t 9) (.k (.bool false)), none, 0⟩,
  ⟨some 2, .mov (.t 10), none, 0⟩]) .ret)),
  [(2, none)]⟩
def pf_impl_OpOk : PF := ⟨[.val, .val], [0, 1, 2, 3, 9, 10, 16, 21, 26, 32, 37, 42, 48, 53, 58, 64, 69, 74], (.seq (.reg [⟨some 2, .box (.t 0) 2, none, 0⟩,
  ⟨some 3, .box (.t 1) 3, none, 0⟩,
  ⟨some 4, .mov (.k (.bool false)), none, 0⟩]) (.seq (.seq (.reg [⟨some 5, .load 2 true (.t 2), none, 0⟩,
  ⟨some 6, .call fn_impl_CodeOk [.t 5], none, 0⟩,
  ⟨some 7, .un .not (.t 6), none, 0⟩]) (.cond (.t 7) (.seq (.reg [⟨some 4, .mov (.k (.bool false)), none, 0⟩]) .ret) .skip)) (.seq (.seq (.reg [⟨some 8, .flda 0 (.t 3), none, 0⟩,
  ⟨some 9, .load 1 false (.t 8), none, 0⟩]) (.block 0 (.seq (.seq (.reg [⟨some 11, .bin .eql 0 (.t 9) (.k (.int .i64 1)), none, 0⟩,
  ⟨some 10, .mov (.t 11), none, 0⟩]) (.cond (.t 10) .skip (.reg [⟨some 12, .bin .eql 0 (.t 9) (.k (.int .i64 6)), none, 0⟩,
  ⟨some 10, .mov (.t 12), none, 0⟩]))) (.cond (.t 10) (.seq (.reg [⟨some 13, .flda 1 (.t 3), none, 0⟩,
  ⟨some 14, .load 1 false (.t 13), none, 0⟩,
  ⟨some 15, .bin .eql 0 (.t 14) (.k (.int .i64 0)), none, 0⟩,
  ⟨some 16, .mov (.t 15), none, 0⟩,
  ⟨some 17, .flda 2 (.t 3), some (16, true), 0⟩,
  ⟨some 18, .load 1 false (.t 17), some (16, true), 0⟩,
  ⟨some 19, .bin .eql 0 (.t 18) (.k (.str ⟨#[]⟩)), some (16, true), 0⟩,
  ⟨some 20, .pick (.t 16) (.t 19) (.k (.bool false)), none, 0⟩,
  ⟨some 4, .mov (.t 20), none, 0⟩]) .ret) (.seq (.reg [⟨some 22, .bin .eql 0 (.t 9) (.k (.int .i64 2)), none, 0⟩,
  ⟨some 21, .mov (.t 22), none, 0⟩]) (.cond (.t 21) (.seq (.reg [⟨some 23, .flda 1 (.t 3), none, 0⟩,
  ⟨some 24, .load 1 false (.t 23), none, 0⟩,
  ⟨some 25, .bin .eql 0 (.t 24) (.k (.int .i64 0)), none, 0⟩,
  ⟨some 26, .mov (.t 25), none, 0⟩,
  ⟨some 27, .flda 2 (.t 3), some (26, true), 0⟩,
  ⟨some 28, .load 1 false (.t 27), some (26, true), 0⟩,
  ⟨some 29, .len false (.t 28), some (26, true), 0⟩,
  ⟨some 30, .bin .leq 0 (.t 29) (.k (.int .i64 64)), some (26, true), 0⟩,
  ⟨some 31, .pick (.t 26) (.t 30) (.k (.bool false)), none, 0⟩,
  ⟨some 4, .mov (.t 31), none, 0⟩]) .ret) (.seq (.reg [⟨some 33, .bin .eql 0 (.t 9) (.k (.int .i64 3)), none, 0⟩,
  ⟨some 32, .mov (.t 33), none, 0⟩]) (.cond (.t 32) (.seq (.reg [⟨some 34, .flda 0 (.t 2), none, 0⟩,
  ⟨some 35, .load 1 false (.t 34), none, 0⟩,
  ⟨some 36, .bin .eql 0 (.t 35) (.k (.int .i64 1)), none, 0⟩,
  ⟨some 37, .mov (.t 36), none, 0⟩,
  ⟨some 38, .flda 1 (.t 3), some (37, true), 0⟩,
  ⟨some 39, .load 1 false (.t 38), some (37, true), 0⟩,
  ⟨some 40, .call fn_impl_between [.t 39, .k (.int .i64 0), .k (.int .i64 64)], some (37, true), 0⟩,
  ⟨some 41, .pick (.t 37) (.t 40) (.k (.bool false)), none, 0⟩,
  ⟨some 42, .mov (.t 41), none, 0⟩,
  ⟨some 43, .flda 2 (.t 3), some (42, true), 0⟩,
  ⟨some 44, .load 1 false (.t 43), some (42, true), 0⟩,
  ⟨some 45, .len false (.t 44), some (42, true), 0⟩,
  ⟨some 46, .bin .leq 0 (.t 45) (.k (.int .i64 64)), some (42, true), 0⟩,
  ⟨some 47, .pick (.t 42) (.t 46) (.k (.bool false)), none, 0⟩,
  ⟨some 4, .mov (.t 47), none, 0⟩]) .ret) (.seq (.reg [⟨some 49, .bin .eql 0 (.t 9) (.k (.int .i64 4)), none, 0⟩,
  ⟨some 48, .mov (.t 49), none, 0⟩]) (.cond (.t 48) (.seq (.reg [⟨some 50, .flda 0 (.t 2), none, 0⟩,
  ⟨some 51, .load 1 false (.t 50), none, 0⟩,
  ⟨some 52, .bin .eql 0 (.t 51) (.k (.int .i64 1)), none, 0⟩,
  ⟨some 53, .mov (.t 52), none, 0⟩,
  ⟨some 54, .flda 1 (.t 3), some (53, true), 0⟩,
  ⟨some 55, .load 1 false (.t 54), some (53, true), 0⟩,
  ⟨some 56, .bin .eql 0 (.t 55) (.k (.int .i64 0)), some (53, true), 0⟩,
  ⟨some 57, .pick (.t 53) (.t 56) (.k (.bool false)), none, 0⟩,
  ⟨some 58, .mov (.t 57), none, 0⟩,
  ⟨some 59, .flda 2 (.t 3), some (58, true), 0⟩,
  ⟨some 60, .load 1 false (.t 59), some (58, true), 0⟩,
  ⟨some 61, .len false (.t 60), some (58, true), 0⟩,
  ⟨some 62, .bin .leq 0 (.t 61) (.k (.int .i64 64)), some (58, true), 0⟩,
  ⟨some 63, .pick (.t 58) (.t 62) (.k (.bool false)), none, 0⟩,
  ⟨some 4, .mov (.t 63), none, 0⟩]) .ret) (.seq (.reg [⟨some 65, .bin .eql 0 (.t 9) (.k (.int .i64 5)), none, 0⟩,
  ⟨some 64, .mov (.t 65), none, 0⟩]) (.cond (.t 64) (.seq (.reg [⟨some 66, .flda 0 (.t 2), none, 0⟩,
  ⟨some 67, .load 1 false (.t 66), none, 0⟩,
  ⟨some 68, .bin .eql 0 (.t 67) (.k (.int .i64 1)), none, 0⟩,
  ⟨some 69, .mov (.t 68), none, 0⟩,
  ⟨some 70, .flda 1 (.t 3), some (69, true), 0⟩,
  ⟨some 71, .load 1 false (.t 70), some (69, true), 0⟩,
  ⟨some 72, .call fn_impl_between [.t 71, .k (.int .i64 0), .k (.int .i64 64)], some (69, true), 0⟩,
  ⟨some 73, .pick (.t 69) (.t 72) (.k (.bool false)), none, 0⟩,
  ⟨some 74, .mov (.t 73), none, 0⟩,
  ⟨some 75, .flda 2 (.t 3), some (74, true), 0⟩,
  ⟨some 76, .load 1 false (.t 75), some (74, true), 0⟩,
  ⟨some 77, .bin .eql 0 (.t 76) (.k (.str ⟨#[]⟩)), some (74, true), 0⟩,
  ⟨some 78, .pick (.t 74) (.t 77) (.k (.bool false)), none, 0⟩,
  ⟨some 4, .mov (.t 78), none, 0⟩]) .ret) .skip)))))))))))) (.seq (.reg [⟨some 4, .mov (.k (.bool false)), none, 0⟩]) .ret)))),
  [(4, none)]⟩
def pf_impl_plainCode : PF := ⟨[], [], (.seq (.reg [⟨some 0, .alloc [.int .i64 0, .int .i64 0], none, 0⟩]) (.seq (.reg [⟨some 1, .build [.int .i64 0, .int .i64 0] [(0, 1)] [.k (.int .i64 1)], none, 0⟩,
  ⟨none, .store 2 (.t 0) (.t 1), none, 0⟩]) .ret)),
  [(0, some (2, true))]⟩
def pf_impl_PutHex_lb0 : PC := (.seq (.reg [⟨some 8, .bin .lss 0 (.t 7) (.t 6), none, 0⟩]) (.seq (.cond (.t 8) .skip (.exit 0)) (.seq (.block 1 (.seq (.reg [⟨some 9, .mov (.t 7), none, 0⟩,
  ⟨some 4, .mov (.t 9), none, 0⟩]) (.any [(0, []), (1, [0]), (2, [0, 1]), (3, [0]), (4, [0]), (5, [0]), (6, [0, 1, 2, 3, 4, 5]), (7, [0, 1, 2, 3, 4, 5, 6]), (8, [0, 1, 2, 3, 4, 5]), (9, [0, 1, 2, 3, 4, 5]), (10, [0, 1, 2, 3, 4, 5]), (11, [0]), (12, []), (13, [])] [⟨some 10, .mov (.t 3), none, 0⟩,
  ⟨some 11, .mov (.t 0), none, 0⟩,
  ⟨some 12, .mov (.t 4), none, 0⟩,
  ⟨some 13, .idxs (.t 11) (.t 12), none, 0⟩,
  ⟨some 14, .bin .quo 0 (.t 13) (.k (.int .u8 16)), none, 0⟩,
  ⟨some 15, .idxs (.k (.str ⟨#[48, 49, 50, 51, 52, 53, 54, 55, 56, 57, 97, 98, 99, 100, 101, 102]⟩)) (.t 14), none, 0⟩,
  ⟨some 16, .mov (.t 0), none, 0⟩,
  ⟨some 17, .mov (.t 4), none, 0⟩,
  ⟨some 18, .idxs (.t 16) (.t 17), none, 0⟩,
  ⟨some 19, .bin .rem 0 (.t 18) (.k (.int .u8 16)), none, 0⟩,
  ⟨some 20, .idxs (.k (.str ⟨#[48, 49, 50, 51, 52, 53, 54, 55, 56, 57, 97, 98, 99, 100, 101, 102]⟩)) (.t 19), none, 0⟩,
  ⟨some 21, .lit ty_uint8 1 [.t 15, .t 20], none, 0⟩,
  ⟨some 22, .app ty_uint8 1 (.t 10) (.t 21), none, 0⟩,
  ⟨some 3, .mov (.t 22), none, 0⟩]))) (.reg [⟨some 23, .bin .add 0 (.t 7) (.k (.int .i64 1)), none, 0⟩,
  ⟨some 7, .mov (.t 23), none, 0⟩]))))
def pf_impl_PutHex_l0 : PC := .loop [] pf_impl_PutHex_lb0
def pf_impl_PutHex : PF := ⟨[.val], [0, 3, 4, 7], (.seq (.reg [⟨some 2, .mov (.k (.str ⟨#[]⟩)), none, 0⟩]) (.seq (.reg [⟨some 3, .mov (.k (.sl 2 ty_uint8 [])), none, 0⟩]) (.seq (.seq (.reg [⟨some 5, .mov (.t 0), none, 0⟩,
  ⟨some 6, .len false (.t 5), none, 0⟩,
  ⟨some 7, .mov (.k (.int .i64 0)), none, 0⟩]) (.block 0 pf_impl_PutHex_l0)) (.seq (.reg [⟨some 24, .mov (.t 3), none, 0⟩,
  ⟨some 25, .b2s (.t 24), none, 0⟩,
  ⟨some 2, .mov (.t 25), none, 0⟩]) .ret)))),
  [(2, none)]⟩
def pf_impl_bodyText : PF := ⟨[.val], [0], (.seq (.reg [⟨some 2, .mov (.k (.str ⟨#[]⟩)), none, 0⟩]) (.seq (.seq (.reg [⟨some 3, .mov (.t 0), none, 0⟩,
  ⟨some 4, .bin .eql 0 (.t 3) (.k (.str ⟨#[]⟩)), none, 0⟩]) (.cond (.t 4) (.seq (.reg [⟨some 2, .mov (.k (.str ⟨#[45]⟩)), none, 0⟩]) .ret) .skip)) (.seq (.reg [⟨some 5, .mov (.t 0), none, 0⟩,
  ⟨some 6, .call fn_impl_PutHex [.t 5], none, 0⟩,
  ⟨some 2, .mov (.t 6), none, 0⟩]) .ret))),
  [(2, none)]⟩
def pf_impl_decimal : PF := ⟨[.val], [0], (.seq (.reg [⟨some 2, .mov (.k (.str ⟨#[]⟩)), none, 0⟩]) (.seq (.reg [⟨some 3, .mov (.t 0), none, 0⟩,
  ⟨some 4, .call fn_strconv_FormatInt [.t 3, .k (.int .i64 10)], none, 0⟩,
  ⟨some 2, .mov (.t 4), none, 0⟩]) .ret)),
  [(2, none)]⟩
def pf_impl_opWords : PF := ⟨[.val], [0, 1, 4, 5, 11, 20, 26, 32], (.seq (.reg [⟨some 1, .box (.t 0) 3, none, 0⟩,
  ⟨some 2, .mov (.k (.sl 2 ty_string [])), none, 0⟩]) (.seq (.seq (.reg [⟨some 3, .flda 0 (.t 1), none, 0⟩,
  ⟨some 4, .load 1 false (.t 3), none, 0⟩]) (.block 0 (.seq (.reg [⟨some 6, .bin .eql 0 (.t 4) (.k (.int .i64 2)), none, 0⟩,
  ⟨some 5, .mov (.t 6), none, 0⟩]) (.cond (.t 5) (.seq (.reg [⟨some 7, .flda 2 (.t 1), none, 0⟩,
  ⟨some 8, .load 1 false (.t 7), none, 0⟩,
  ⟨some 9, .call fn_impl_bodyText [.t 8], none, 0⟩,
  ⟨some 10, .lit ty_string 1 [.k (.str ⟨#[102, 117, 108, 108]⟩), .t 9], none, 0⟩,
  ⟨some 2, .mov (.t 10), none, 0⟩]) .ret) (.seq (.reg [⟨some 12, .bin .eql 0 (.t 4) (.k (.int .i64 3)), none, 0⟩,
  ⟨some 11, .mov (.t 12), none, 0⟩]) (.cond (.t 11) (.seq (.any [(0, []), (1, []), (2, []), (3, [0, 1, 2]), (4, [0, 1, 2]), (5, []), (6, []), (7, [])] [⟨some 13, .flda 1 (.t 1), none, 0⟩,
  ⟨some 14, .load 1 false (.t 13), none, 0⟩,
  ⟨some 15, .call fn_impl_decimal [.t 14], none, 0⟩,
  ⟨some 16, .flda 2 (.t 1), none, 0⟩,
  ⟨some 17, .load 1 false (.t 16), none, 0⟩,
  ⟨some 18, .call fn_impl_bodyText [.t 17], none, 0⟩,
  ⟨some 19, .lit ty_string 1 [.k (.str ⟨#[119, 114, 105, 116, 101]⟩), .t 15, .t 18], none, 0⟩,
  ⟨some 2, .mov (.t 19), none, 0⟩]) .ret) (.seq (.reg [⟨some 21, .bin .eql 0 (.t 4) (.k (.int .i64 4)), none, 0⟩,
  ⟨some 20, .mov (.t 21), none, 0⟩]) (.cond (.t 20) (.seq (.reg [⟨some 22, .flda 2 (.t 1), none, 0⟩,
  ⟨some 23, .load 1 false (.t 22), none, 0⟩,
  ⟨some 24, .call fn_impl_bodyText [.t 23], none, 0⟩,
  ⟨some 25, .lit ty_string 1 [.k (.str ⟨#[97, 112, 112, 101, 110, 100]⟩), .t 24], none, 0⟩,
  ⟨some 2, .mov (.t 25), none, 0⟩]) .ret) (.seq (.reg [⟨some 27, .bin .eql 0 (.t 4) (.k (.int .i64 5)), none, 0⟩,
  ⟨some 26, .mov (.t 27), none, 0⟩]) (.cond (.t 26) (.seq (.reg [⟨some 28, .flda 1 (.t 1), none, 0⟩,
  ⟨some 29, .load 1 false (.t 28), none, 0⟩,
  ⟨some 30, .call fn_impl_decimal [.t 29], none, 0⟩,
  ⟨some 31, .lit ty_string 1 [.k (.str ⟨#[99, 117, 116]⟩), .t 30], none, 0⟩,
  ⟨some 2, .mov (.t 31), none, 0⟩]) .ret) (.seq (.reg [⟨some 33, .bin .eql 0 (.t 4) (.k (.int .i64 6)), none, 0⟩,
  ⟨some 32, .mov (.t 33), none, 0⟩]) (.cond (.t 32) (.seq (.reg [⟨some 34, .lit ty_string 1 [.k (.str ⟨#[100, 101, 108, 101, 116, 101]⟩)], none, 0⟩,
  ⟨some 2, .mov (.t 34), none, 0⟩]) .ret) .skip)))))))))))) (.seq (.reg [⟨some 35, .lit ty_string 1 [.k (.str ⟨#[114, 101, 97, 100]⟩)], none, 0⟩,
  ⟨some 2, .mov (.t 35), none, 0⟩]) .ret))),
  [(2, none)]⟩
def pf_impl_OpText : PF := ⟨[.val], [0, 1], (.seq (.reg [⟨some 1, .box (.t 0) 3, none, 0⟩,
  ⟨some 2, .mov (.k (.str ⟨#[]⟩)), none, 0⟩]) (.seq (.seq (.any [(0, []), (1, [0]), (2, []), (3, [])] [⟨some 3, .call fn_impl_plainCode [], none, 0⟩,
  ⟨some 4, .load 3 true (.t 1), none, 0⟩,
  ⟨some 5, .call fn_impl_OpOk [.t 3, .t 4], none, 0⟩,
  ⟨some 6, .un .not (.t 5), none, 0⟩]) (.cond (.t 6) (.seq (.reg [⟨some 2, .mov (.k (.str ⟨#[]⟩)), none, 0⟩]) .ret) .skip)) (.seq (.reg [⟨some 7, .load 3 true (.t 1), none, 0⟩,
  ⟨some 8, .call fn_impl_opWords [.t 7], none, 0⟩,
  ⟨some 9, .call fn_strings_Join [.t 8, .k (.str ⟨#[32]⟩)], none, 0⟩,
  ⟨some 2, .mov (.t 9), none, 0⟩]) .ret))),
  [(2, none)]⟩
def pf_laws_FnExactOpText : PF := ⟨[.val], [0, 1, 3, 4, 5], (.seq (.reg [⟨some 1, .box (.t 0) 3, none, 0⟩,
  ⟨some 2, .mov (.k (.bool false)), none, 0⟩]) (.seq (.reg [⟨some 3, .mov (.k (.int .i64 1048576)), none, 0⟩]) (.seq (.reg [⟨some 6, .load 3 true (.t 1), none, 0⟩,
  ⟨some 7, .mov (.t 3), none, 0⟩,
  ⟨some 8, .call fn_laws_szOp [.t 6, .t 7], none, 0⟩,
  ⟨some 3, .mov (.t 8), none, 0⟩]) (.seq (.seq (.reg [⟨some 9, .mov (.t 3), none, 0⟩,
  ⟨some 10, .bin .lss 0 (.t 9) (.k (.int .i64 0)), none, 0⟩]) (.cond (.t 10) (.seq (.reg [⟨some 2, .mov (.k (.bool true)), none, 0⟩]) .ret) .skip)) (.seq (.reg [⟨some 11, .load 3 true (.t 1), none, 0⟩,
  ⟨some 12, .call fn_laws_toOp [.t 11], none, 0⟩,
  ⟨some 13, .call fn_spec_OpText [.t 12], none, 0⟩,
  ⟨some 4, .mov (.t 13), none, 0⟩]) (.seq (.reg [⟨some 14, .load 3 true (.t 1), none, 0⟩,
  ⟨some 15, .call fn_laws_toOp [.t 14], none, 0⟩,
  ⟨some 16, .call fn_impl_OpText [.t 15], none, 0⟩,
  ⟨some 5, .mov (.t 16), none, 0⟩]) (.seq (.seq (.reg [⟨some 17, .mov (.t 5), none, 0⟩,
  ⟨some 18, .mov (.t 4), none, 0⟩,
  ⟨some 19, .bin .neq 0 (.t 17) (.t 18), none, 0⟩]) (.cond (.t 19) (.seq (.reg [⟨some 2, .mov (.k (.bool false)), none, 0⟩]) .ret) .skip)) (.seq (.reg [⟨some 2, .mov (.k (.bool true)), none, 0⟩]) .ret)))))))),
  [(2, none)]⟩
def table : List (FuncId × PF) := [(fn_laws_szOp, pf_laws_szOp), (fn_spec_l00In, pf_spec_l00In), (fn_spec_l04Code, pf_spec_l04Code), (fn_spec_CodeOk, pf_spec_CodeOk), (fn_spec_OpOk, pf_spec_OpOk), (fn_spec_l31Op, pf_spec_l31Op), (fn_spec_l33Ops, pf_spec_l33Ops), (fn_spec_l06Num, pf_spec_l06Num), (fn_spec_l01Hex, pf_spec_l01Hex), (fn_spec_l33Body, pf_spec_l33Body), (fn_spec_l33Op, pf_spec_l33Op), (fn_spec_OpText, pf_spec_OpText), (fn_laws_toOp, pf_laws_toOp), (fn_impl_between, pf_impl_between), (fn_impl_CodeOk, pf_impl_CodeOk), (fn_impl_OpOk, pf_impl_OpOk), (fn_impl_plainCode, pf_impl_plainCode), (fn_impl_PutHex, pf_impl_PutHex), (fn_impl_bodyText, pf_impl_bodyText), (fn_impl_decimal, pf_impl_decimal), (fn_impl_opWords, pf_impl_opWords), (fn_impl_OpText, pf_impl_OpText), (fn_laws_FnExactOpText, pf_laws_FnExactOpText)]
def prim_strings_Join : Prim := joinPrim fn_strings_Join
theorem ok_strings_Join : PrimOk Tryd.prog prim_strings_Join := joinPrim_ok ⟨_, Tryd.func17, rfl, by decide⟩ (fun a c sep w => Tryd.strings_Join_none a c sep w) (fun bk o c xs sep w h1 h2 h3 h4 h5 => Tryd.strings_Join bk o c xs sep w h1 h2 h3 h4 h5)
def prim_strconv_FormatInt : Prim := numPrim fn_strconv_FormatInt
theorem ok_strconv_FormatInt : PrimOk Tryd.prog prim_strconv_FormatInt := numPrim_ok ⟨_, Tryd.func46, rfl, by decide⟩ (fun i hi w => Tryd.strconv_FormatInt_10_small i hi w)
abbrev CC : Code := codeOfP table [prim_strings_Join, prim_strconv_FormatInt]
theorem noprog_strings_Join : CC.prog fn_strings_Join = none := by kernel_rfl
@[simp] theorem modes_strings_Join : CC.modes fn_strings_Join = [.val, .val] := by kernel_rfl
theorem run_strings_Join {e : TypeId} {l : List ByteArray} {sep : ByteArray} (h : l.length ≤ 140737488355328 ∧ (joinT l sep).size ≤ 140737488355328) : RUN CC fn_strings_Join [.sl 0 e (l.map PV.str), .str sep] = some ([.str (joinT l sep)], []) := by
  rw [RUN_prim noprog_strings_Join]
  exact joinPrim_sem (f := fn_strings_Join) (e := e) h
theorem noprog_strconv_FormatInt : CC.prog fn_strconv_FormatInt = none := by kernel_rfl
@[simp] theorem modes_strconv_FormatInt : CC.modes fn_strconv_FormatInt = [.val, .val] := by kernel_rfl
theorem run_strconv_FormatInt {n : Int} (h : 0 ≤ n ∧ n < 100) : RUN CC fn_strconv_FormatInt [.int .i64 n, .int .i64 10] = some ([.str ⟨(Lib.decDigits n.toNat).toArray⟩], []) := by
  rw [RUN_prim noprog_strconv_FormatInt]
  exact numPrim_sem (f := fn_strconv_FormatInt) h
theorem prog_laws_szOp : CC.prog fn_laws_szOp = some pf_laws_szOp := by kernel_rfl
@[simp] theorem modes_laws_szOp : CC.modes fn_laws_szOp = [.val, .val] := by kernel_rfl
theorem prog_spec_l00In : CC.prog fn_spec_l00In = some pf_spec_l00In := by kernel_rfl
@[simp] theorem modes_spec_l00In : CC.modes fn_spec_l00In = [.val, .val, .val] := by kernel_rfl
theorem prog_spec_l04Code : CC.prog fn_spec_l04Code = some pf_spec_l04Code := by kernel_rfl
@[simp] theorem modes_spec_l04Code : CC.modes fn_spec_l04Code = [.val] := by kernel_rfl
theorem prog_spec_CodeOk : CC.prog fn_spec_CodeOk = some pf_spec_CodeOk := by kernel_rfl
@[simp] theorem modes_spec_CodeOk : CC.modes fn_spec_CodeOk = [.val] := by kernel_rfl
theorem prog_spec_OpOk : CC.prog fn_spec_OpOk = some pf_spec_OpOk := by kernel_rfl
@[simp] theorem modes_spec_OpOk : CC.modes fn_spec_OpOk = [.val, .val] := by kernel_rfl
theorem prog_spec_l31Op : CC.prog fn_spec_l31Op = some pf_spec_l31Op := by kernel_rfl
@[simp] theorem modes_spec_l31Op : CC.modes fn_spec_l31Op = [.val] := by kernel_rfl
theorem prog_spec_l33Ops : CC.prog fn_spec_l33Ops = some pf_spec_l33Ops := by kernel_rfl
@[simp] theorem modes_spec_l33Ops : CC.modes fn_spec_l33Ops = [] := by kernel_rfl
theorem prog_spec_l06Num : CC.prog fn_spec_l06Num = some pf_spec_l06Num := by kernel_rfl
@[simp] theorem modes_spec_l06Num : CC.modes fn_spec_l06Num = [.val] := by kernel_rfl
theorem prog_spec_l01Hex : CC.prog fn_spec_l01Hex = some pf_spec_l01Hex := by kernel_rfl
@[simp] theorem modes_spec_l01Hex : CC.modes fn_spec_l01Hex = [.val] := by kernel_rfl
theorem prog_spec_l33Body : CC.prog fn_spec_l33Body = some pf_spec_l33Body := by kernel_rfl
@[simp] theorem modes_spec_l33Body : CC.modes fn_spec_l33Body = [.val] := by kernel_rfl
theorem prog_spec_l33Op : CC.prog fn_spec_l33Op = some pf_spec_l33Op := by kernel_rfl
@[simp] theorem modes_spec_l33Op : CC.modes fn_spec_l33Op = [.val] := by kernel_rfl
theorem prog_spec_OpText : CC.prog fn_spec_OpText = some pf_spec_OpText := by kernel_rfl
@[simp] theorem modes_spec_OpText : CC.modes fn_spec_OpText = [.val] := by kernel_rfl
theorem prog_laws_toOp : CC.prog fn_laws_toOp = some pf_laws_toOp := by kernel_rfl
@[simp] theorem modes_laws_toOp : CC.modes fn_laws_toOp = [.val] := by kernel_rfl
theorem prog_impl_between : CC.prog fn_impl_between = some pf_impl_between := by kernel_rfl
@[simp] theorem modes_impl_between : CC.modes fn_impl_between = [.val, .val, .val] := by kernel_rfl
theorem prog_impl_CodeOk : CC.prog fn_impl_CodeOk = some pf_impl_CodeOk := by kernel_rfl
@[simp] theorem modes_impl_CodeOk : CC.modes fn_impl_CodeOk = [.val] := by kernel_rfl
theorem prog_impl_OpOk : CC.prog fn_impl_OpOk = some pf_impl_OpOk := by kernel_rfl
@[simp] theorem modes_impl_OpOk : CC.modes fn_impl_OpOk = [.val, .val] := by kernel_rfl
theorem prog_impl_plainCode : CC.prog fn_impl_plainCode = some pf_impl_plainCode := by kernel_rfl
@[simp] theorem modes_impl_plainCode : CC.modes fn_impl_plainCode = [] := by kernel_rfl
theorem prog_impl_PutHex : CC.prog fn_impl_PutHex = some pf_impl_PutHex := by kernel_rfl
@[simp] theorem modes_impl_PutHex : CC.modes fn_impl_PutHex = [.val] := by kernel_rfl
theorem prog_impl_bodyText : CC.prog fn_impl_bodyText = some pf_impl_bodyText := by kernel_rfl
@[simp] theorem modes_impl_bodyText : CC.modes fn_impl_bodyText = [.val] := by kernel_rfl
theorem prog_impl_decimal : CC.prog fn_impl_decimal = some pf_impl_decimal := by kernel_rfl
@[simp] theorem modes_impl_decimal : CC.modes fn_impl_decimal = [.val] := by kernel_rfl
theorem prog_impl_opWords : CC.prog fn_impl_opWords = some pf_impl_opWords := by kernel_rfl
@[simp] theorem modes_impl_opWords : CC.modes fn_impl_opWords = [.val] := by kernel_rfl
theorem prog_impl_OpText : CC.prog fn_impl_OpText = some pf_impl_OpText := by kernel_rfl
@[simp] theorem modes_impl_OpText : CC.modes fn_impl_OpText = [.val] := by kernel_rfl
theorem prog_laws_FnExactOpText : CC.prog fn_laws_FnExactOpText = some pf_laws_FnExactOpText := by kernel_rfl
@[simp] theorem modes_laws_FnExactOpText : CC.modes fn_laws_FnExactOpText = [.val] := by kernel_rfl
theorem fits : Fits Tryd.prog CC := fits_ofP (by kernel_rfl) (by kernel_rfl) (by
  intro p hp
  simp only [List.mem_cons, List.not_mem_nil, or_false] at hp
  rcases hp with rfl | rfl
  · exact ok_strings_Join
  · exact ok_strconv_FormatInt)
end Go.Proofs.YtdbcnnehfbcldaaDoor.Pv
