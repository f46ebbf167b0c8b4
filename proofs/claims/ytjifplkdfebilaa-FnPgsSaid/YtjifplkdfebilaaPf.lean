/- Plain forms of Go functions, printed by a program of this repo; checked against the given program by the kernel. No condition. -/
import Derived.Test.YtjifplkdfebilaaV41
import Derived.Test.YtjifplkdfebilaaProg
import Derived.KernelRfl
set_option linter.all false
set_option linter.unnecessarySimpa false
set_option linter.unusedSimpArgs false
set_option linter.unusedVariables false
namespace Go.Proofs.Ytjifplkdfebilaa.Pv
open Go

abbrev fn_impl_between : FuncId := 43
abbrev fn_impl_CodeOk : FuncId := 44
abbrev fn_impl_Code_size : FuncId := 45
abbrev fn_impl_PoolOk : FuncId := 19
abbrev fn_impl_Pool_pgs : FuncId := 35
abbrev fn_impl_PgsIn : FuncId := 9
abbrev fn_spec_l00From : FuncId := 37
abbrev fn_P_spec_l00Src_next : FuncId := 94
abbrev fn_P_spec_l00Src_pick : FuncId := 40
abbrev fn_P_spec_l00Src_among : FuncId := 90
abbrev fn_P_spec_l00Src_one : FuncId := 91
abbrev fn_spec_l00Own : FuncId := 92
abbrev fn_spec_l06Draw : FuncId := 38
abbrev fn_spec_A8Tree : FuncId := 13
abbrev fn_spec_l04Draw : FuncId := 93
abbrev fn_spec_l09Draw : FuncId := 39
abbrev fn_spec_A8Pool : FuncId := 14
abbrev fn_spec_l08Rule : FuncId := 41
abbrev fn_spec_A8Rule : FuncId := 15
abbrev fn_spec_A8Name : FuncId := 16
abbrev fn_impl_NameOk : FuncId := 18
abbrev fn_impl_Mix : FuncId := 95
abbrev fn_impl_pgOf : FuncId := 42
abbrev fn_impl_PgOf : FuncId := 17
abbrev fn_impl_Split : FuncId := 20
abbrev fn_laws_FnPgs : FuncId := 4
abbrev ty_int64 : TypeId := 2
abbrev ty_uint8 : TypeId := 5
abbrev ty_impl_Pg : TypeId := 48
abbrev ty_impl_Bucket : TypeId := 152
abbrev ty_impl_Device : TypeId := 155
/-- loop.example/g00849/impl.between -/
def pf_impl_between : PF := ⟨[.val, .val, .val], [0, 1, 2, 10], (.seq (.reg [⟨some 6, .mov (.k (.bool false)), none, 0⟩]) (.seq (.reg [⟨some 7, .mov (.t 0), none, 0⟩,
  ⟨some 8, .mov (.t 1), none, 0⟩,
  ⟨some 9, .bin .geq 0 (.t 7) (.t 8), none, 0⟩,
  ⟨some 10, .mov (.t 9), none, 0⟩,
  ⟨some 11, .mov (.t 0), some (10, true), 0⟩,
  ⟨some 12, .mov (.t 2), some (10, true), 0⟩,
  ⟨some 13, .bin .leq 0 (.t 11) (.t 12), some (10, true), 0⟩,
  ⟨some 14, .pick (.t 10) (.t 13) (.k (.bool false)), none, 0⟩,
  ⟨some 6, .mov (.t 14), none, 0⟩]) .ret)),
  [(6, none)]⟩
/-- loop.example/g00849/impl.CodeOk -/
def pf_impl_CodeOk : PF := ⟨[.val], [0, 1, 6], (.seq (.reg [⟨some 1, .box (.t 0) 2, none, 0⟩,
  ⟨some 2, .mov (.k (.bool false)), none, 0⟩]) (.seq (.reg [⟨some 3, .flda 0 (.t 1), none, 0⟩,
  ⟨some 4, .load 1 false (.t 3), none, 0⟩,
  ⟨some 5, .call fn_impl_between [.t 4, .k (.int .i64 1), .k (.int .i64 4)], none, 0⟩,
  ⟨some 6, .mov (.t 5), none, 0⟩,
  ⟨some 7, .flda 1 (.t 1), some (6, true), 0⟩,
  ⟨some 8, .load 1 false (.t 7), some (6, true), 0⟩,
  ⟨some 9, .call fn_impl_between [.t 8, .k (.int .i64 0), .k (.int .i64 3)], some (6, true), 0⟩,
  ⟨some 10, .pick (.t 6) (.t 9) (.k (.bool false)), none, 0⟩,
  ⟨some 2, .mov (.t 10), none, 0⟩]) .ret)),
  [(2, none)]⟩
/-- (loop.example/g00849/impl.Code).size -/
def pf_impl_Code_size : PF := ⟨[.val], [0, 1], (.seq (.reg [⟨some 1, .box (.t 0) 2, none, 0⟩,
  ⟨some 2, .mov (.k (.int .i64 0)), none, 0⟩]) (.seq (.reg [⟨some 3, .flda 0 (.t 1), none, 0⟩,
  ⟨some 4, .load 1 false (.t 3), none, 0⟩,
  ⟨some 5, .flda 1 (.t 1), none, 0⟩,
  ⟨some 6, .load 1 false (.t 5), none, 0⟩,
  ⟨some 7, .bin .add 0 (.t 4) (.t 6), none, 0⟩,
  ⟨some 2, .mov (.t 7), none, 0⟩]) .ret)),
  [(2, none)]⟩
/-- loop.example/g00849/impl.PoolOk -/
def pf_impl_PoolOk : PF := ⟨[.val], [0, 1, 6, 11, 22, 27], (.seq (.reg [⟨some 1, .box (.t 0) 6, none, 0⟩,
  ⟨some 2, .mov (.k (.bool false)), none, 0⟩]) (.seq (.any [(0, []), (1, []), (2, []), (3, []), (4, []), (5, []), (6, []), (7, []), (8, []), (9, []), (10, []), (11, [9, 10]), (12, [9, 10]), (13, [9, 10]), (14, [9, 10, 11, 12, 13]), (15, [9, 10, 11, 12, 13]), (16, [9, 10, 11, 12, 13]), (17, []), (18, []), (19, []), (20, []), (21, []), (22, []), (23, []), (24, []), (25, []), (26, []), (27, []), (28, []), (29, [])] [⟨some 3, .flda 0 (.t 1), none, 0⟩,
  ⟨some 4, .load 1 false (.t 3), none, 0⟩,
  ⟨some 5, .call fn_impl_between [.t 4, .k (.int .i64 1), .k (.int .i64 4)], none, 0⟩,
  ⟨some 6, .mov (.t 5), none, 0⟩,
  ⟨some 7, .flda 1 (.t 1), some (6, true), 0⟩,
  ⟨some 8, .load 2 true (.t 7), some (6, true), 0⟩,
  ⟨some 9, .call fn_impl_CodeOk [.t 8], some (6, true), 0⟩,
  ⟨some 10, .pick (.t 6) (.t 9) (.k (.bool false)), none, 0⟩,
  ⟨some 11, .mov (.t 10), none, 0⟩,
  ⟨some 12, .flda 3 (.t 1), some (11, true), 0⟩,
  ⟨some 13, .load 1 false (.t 12), some (11, true), 0⟩,
  ⟨some 14, .flda 1 (.t 1), some (11, true), 0⟩,
  ⟨some 15, .flda 0 (.t 14), some (11, true), 0⟩,
  ⟨some 16, .load 1 false (.t 15), some (11, true), 0⟩,
  ⟨some 17, .flda 1 (.t 1), some (11, true), 0⟩,
  ⟨some 18, .load 2 true (.t 17), some (11, true), 0⟩,
  ⟨some 19, .call fn_impl_Code_size [.t 18], some (11, true), 0⟩,
  ⟨some 20, .call fn_impl_between [.t 13, .t 16, .t 19], some (11, true), 0⟩,
  ⟨some 21, .pick (.t 11) (.t 20) (.k (.bool false)), none, 0⟩,
  ⟨some 22, .mov (.t 21), none, 0⟩,
  ⟨some 23, .flda 4 (.t 1), some (22, true), 0⟩,
  ⟨some 24, .load 1 false (.t 23), some (22, true), 0⟩,
  ⟨some 25, .call fn_impl_between [.t 24, .k (.int .i64 1), .k (.int .i64 16)], some (22, true), 0⟩,
  ⟨some 26, .pick (.t 22) (.t 25) (.k (.bool false)), none, 0⟩,
  ⟨some 27, .mov (.t 26), none, 0⟩,
  ⟨some 28, .flda 5 (.t 1), some (27, true), 0⟩,
  ⟨some 29, .load 1 false (.t 28), some (27, true), 0⟩,
  ⟨some 30, .call fn_impl_between [.t 29, .k (.int .i64 1), .k (.int .i64 4)], some (27, true), 0⟩,
  ⟨some 31, .pick (.t 27) (.t 30) (.k (.bool false)), none, 0⟩,
  ⟨some 2, .mov (.t 31), none, 0⟩]) .ret)),
  [(2, none)]⟩
/-- (loop.example/g00849/impl.Pool).pgs -/
def pf_impl_Pool_pgs_lb0 : PC := (.seq (.reg [⟨some 8, .bin .lss 0 (.t 7) (.t 6), none, 0⟩]) (.seq (.cond (.t 8) .skip (.exit 0)) (.seq (.block 1 (.seq (.reg [⟨some 9, .mov (.t 7), none, 0⟩,
  ⟨some 4, .mov (.t 9), none, 0⟩]) (.reg [⟨some 10, .mov (.t 3), none, 0⟩,
  ⟨some 11, .flda 0 (.t 1), none, 0⟩,
  ⟨some 12, .load 1 false (.t 11), none, 0⟩,
  ⟨some 13, .mov (.t 4), none, 0⟩,
  ⟨some 14, .build [.int .i64 0, .int .i64 0] [(0, 1), (1, 1)] [.t 12, .t 13], none, 0⟩,
  ⟨some 15, .lit ty_impl_Pg 2 [.t 14], none, 0⟩,
  ⟨some 16, .app ty_impl_Pg 16 (.t 10) (.t 15), none, 0⟩,
  ⟨some 3, .mov (.t 16), none, 0⟩]))) (.reg [⟨some 17, .bin .add 0 (.t 7) (.k (.int .i64 1)), none, 0⟩,
  ⟨some 7, .mov (.t 17), none, 0⟩]))))
def pf_impl_Pool_pgs_l0 : PC := .loop [] pf_impl_Pool_pgs_lb0
theorem ex_impl_Pool_pgs_l0 {C : Code} {V : List Nat} (s : St) : EX C V pf_impl_Pool_pgs_l0 s = EXK C V pf_impl_Pool_pgs_l0 (EX C V pf_impl_Pool_pgs_lb0 (forget [] s)) := EX_loop _ _ _
def pf_impl_Pool_pgs : PF := ⟨[.val], [0, 1, 3, 4, 7], (.seq (.reg [⟨some 1, .box (.t 0) 6, none, 0⟩,
  ⟨some 2, .mov (.k (.sl 2 ty_impl_Pg [])), none, 0⟩]) (.seq (.reg [⟨some 3, .mov (.k (.sl 2 ty_impl_Pg [])), none, 0⟩]) (.seq (.seq (.reg [⟨some 5, .flda 4 (.t 1), none, 0⟩,
  ⟨some 6, .load 1 false (.t 5), none, 0⟩,
  ⟨some 7, .mov (.k (.int .i64 0)), none, 0⟩]) (.block 0 pf_impl_Pool_pgs_l0)) (.seq (.reg [⟨some 18, .mov (.t 3), none, 0⟩,
  ⟨some 2, .mov (.t 18), none, 0⟩]) .ret)))),
  [(2, none)]⟩
/-- loop.example/g00849/impl.PgsIn -/
def pf_impl_PgsIn : PF := ⟨[.val], [0, 1], (.seq (.reg [⟨some 1, .box (.t 0) 6, none, 0⟩,
  ⟨some 2, .mov (.k (.sl 2 ty_impl_Pg [])), none, 0⟩,
  ⟨some 3, .mov (.k (.bool false)), none, 0⟩]) (.seq (.seq (.reg [⟨some 4, .load 6 true (.t 1), none, 0⟩,
  ⟨some 5, .call fn_impl_PoolOk [.t 4], none, 0⟩,
  ⟨some 6, .un .not (.t 5), none, 0⟩]) (.cond (.t 6) (.seq (.reg [⟨some 2, .mov (.k (.sl 2 ty_impl_Pg [])), none, 0⟩,
  ⟨some 3, .mov (.k (.bool false)), none, 0⟩]) .ret) .skip)) (.seq (.reg [⟨some 7, .load 6 true (.t 1), none, 0⟩,
  ⟨some 8, .call fn_impl_Pool_pgs [.t 7], none, 0⟩,
  ⟨some 2, .mov (.t 8), none, 0⟩,
  ⟨some 3, .mov (.k (.bool true)), none, 0⟩]) .ret))),
  [(2, none), (3, none)]⟩
/-- (*loop.example/g00849/spec.l00Src).next -/
def pf_P_spec_l00Src_next : PF := ⟨[.io 3], [0, 3, 25], (.seq (.reg [⟨some 2, .mov (.k (.int .i64 0)), none, 0⟩]) (.seq (.reg [⟨some 3, .mov (.k (.int .i64 0)), none, 0⟩]) (.seq (.seq (.any [(0, []), (1, []), (2, []), (3, []), (4, [0, 1, 2, 3]), (5, [0, 1, 2, 3]), (6, [0, 1, 2, 3]), (7, [0, 1, 2, 3]), (8, [0, 1, 2, 3]), (9, [])] [⟨some 4, .mov (.t 0), none, 0⟩,
  ⟨some 5, .nilck (.t 4), none, 0⟩,
  ⟨some 6, .flda 1 (.t 5), none, 0⟩,
  ⟨some 7, .load 1 false (.t 6), none, 0⟩,
  ⟨some 8, .mov (.t 0), none, 0⟩,
  ⟨some 9, .nilck (.t 8), none, 0⟩,
  ⟨some 10, .flda 0 (.t 9), none, 0⟩,
  ⟨some 11, .load 1 false (.t 10), none, 0⟩,
  ⟨some 12, .len true (.t 11), none, 0⟩,
  ⟨some 13, .bin .lss 0 (.t 7) (.t 12), none, 0⟩]) (.cond (.t 13) (.any [(0, []), (1, []), (2, []), (3, []), (4, [0, 1, 2, 3]), (5, [0, 1, 2, 3]), (6, [0, 1, 2, 3]), (7, [0, 1, 2, 3]), (8, []), (9, []), (10, []), (11, [])] [⟨some 14, .mov (.t 0), none, 0⟩,
  ⟨some 15, .nilck (.t 14), none, 0⟩,
  ⟨some 16, .flda 0 (.t 15), none, 0⟩,
  ⟨some 17, .load 1 false (.t 16), none, 0⟩,
  ⟨some 18, .mov (.t 0), none, 0⟩,
  ⟨some 19, .nilck (.t 18), none, 0⟩,
  ⟨some 20, .flda 1 (.t 19), none, 0⟩,
  ⟨some 21, .load 1 false (.t 20), none, 0⟩,
  ⟨some 22, .idxa ty_uint8 (.t 17) (.t 21), none, 0⟩,
  ⟨some 23, .load 1 false (.t 22), none, 0⟩,
  ⟨some 24, .conv .i64 (.t 23), none, 0⟩,
  ⟨some 3, .mov (.t 24), none, 0⟩]) .skip)) (.seq (.reg [⟨some 25, .mov (.t 0), none, 0⟩,
  ⟨some 26, .nilck (.t 25), none, 0⟩,
  ⟨some 27, .flda 1 (.t 26), none, 0⟩,
  ⟨some 28, .load 1 false (.t 27), none, 0⟩,
  ⟨some 29, .bin .add 0 (.t 28) (.k (.int .i64 1)), none, 0⟩,
  ⟨some 30, .nilck (.t 25), none, 0⟩,
  ⟨some 31, .flda 1 (.t 30), none, 0⟩,
  ⟨none, .store 1 (.t 31) (.t 29), none, 0⟩]) (.seq (.reg [⟨some 32, .mov (.t 0), none, 0⟩,
  ⟨some 33, .mov (.t 0), none, 0⟩,
  ⟨some 34, .nilck (.t 33), none, 0⟩,
  ⟨some 35, .flda 2 (.t 34), none, 0⟩,
  ⟨some 36, .load 1 false (.t 35), none, 0⟩,
  ⟨some 37, .bin .mul 0 (.t 36) (.k (.int .u64 6364136223846793005)), none, 0⟩,
  ⟨some 38, .mov (.t 3), none, 0⟩,
  ⟨some 39, .conv .u64 (.t 38), none, 0⟩,
  ⟨some 40, .bin .add 0 (.t 37) (.t 39), none, 0⟩,
  ⟨some 41, .bin .add 0 (.t 40) (.k (.int .u64 1442695040888963407)), none, 0⟩,
  ⟨some 42, .nilck (.t 32), none, 0⟩,
  ⟨some 43, .flda 2 (.t 42), none, 0⟩,
  ⟨none, .store 1 (.t 43) (.t 41), none, 0⟩]) (.seq (.seq (.any [(0, []), (1, []), (2, []), (3, []), (4, [0, 1, 2, 3]), (5, [0, 1, 2, 3]), (6, [0, 1, 2, 3]), (7, [0, 1, 2, 3]), (8, [0, 1, 2, 3]), (9, [])] [⟨some 44, .mov (.t 0), none, 0⟩,
  ⟨some 45, .nilck (.t 44), none, 0⟩,
  ⟨some 46, .flda 1 (.t 45), none, 0⟩,
  ⟨some 47, .load 1 false (.t 46), none, 0⟩,
  ⟨some 48, .mov (.t 0), none, 0⟩,
  ⟨some 49, .nilck (.t 48), none, 0⟩,
  ⟨some 50, .flda 0 (.t 49), none, 0⟩,
  ⟨some 51, .load 1 false (.t 50), none, 0⟩,
  ⟨some 52, .len true (.t 51), none, 0⟩,
  ⟨some 53, .bin .leq 0 (.t 47) (.t 52), none, 0⟩]) (.cond (.t 53) (.seq (.reg [⟨some 54, .mov (.t 3), none, 0⟩,
  ⟨some 2, .mov (.t 54), none, 0⟩]) .ret) .skip)) (.seq (.reg [⟨some 55, .mov (.t 0), none, 0⟩,
  ⟨some 56, .nilck (.t 55), none, 0⟩,
  ⟨some 57, .flda 2 (.t 56), none, 0⟩,
  ⟨some 58, .load 1 false (.t 57), none, 0⟩,
  ⟨some 59, .bin .shr 0 (.t 58) (.k (.int .u64 40)), none, 0⟩,
  ⟨some 60, .bin .and 0 (.t 59) (.k (.int .u64 255)), none, 0⟩,
  ⟨some 61, .conv .i64 (.t 60), none, 0⟩,
  ⟨some 2, .mov (.t 61), none, 0⟩]) .ret))))))),
  [(2, none)]⟩
/-- (*loop.example/g00849/spec.l00Src).pick -/
def pf_P_spec_l00Src_pick : PF := ⟨[.io 3, .val], [0, 1, 5], (.seq (.reg [⟨some 4, .mov (.k (.int .i64 0)), none, 0⟩]) (.seq (.seq (.reg [⟨some 6, .mov (.t 1), none, 0⟩,
  ⟨some 7, .bin .leq 0 (.t 6) (.k (.int .i64 1)), none, 0⟩]) (.cond (.t 7) (.seq (.reg [⟨some 4, .mov (.k (.int .i64 0)), none, 0⟩]) .ret) .skip)) (.seq (.reg [⟨some 8, .mov (.t 0), none, 0⟩,
  ⟨some 9, .call fn_P_spec_l00Src_next [.t 8], none, 0⟩,
  ⟨some 5, .mov (.t 9), none, 0⟩]) (.seq (.seq (.reg [⟨some 10, .mov (.t 1), none, 0⟩,
  ⟨some 11, .bin .gtr 0 (.t 10) (.k (.int .i64 200)), none, 0⟩]) (.cond (.t 11) (.reg [⟨some 12, .mov (.t 5), none, 0⟩,
  ⟨some 13, .bin .mul 0 (.t 12) (.k (.int .i64 256)), none, 0⟩,
  ⟨some 14, .mov (.t 0), none, 0⟩,
  ⟨some 15, .call fn_P_spec_l00Src_next [.t 14], none, 0⟩,
  ⟨some 16, .bin .add 0 (.t 13) (.t 15), none, 0⟩,
  ⟨some 5, .mov (.t 16), none, 0⟩]) .skip)) (.seq (.reg [⟨some 17, .mov (.t 5), none, 0⟩,
  ⟨some 18, .mov (.t 1), none, 0⟩,
  ⟨some 19, .bin .rem 0 (.t 17) (.t 18), none, 0⟩,
  ⟨some 4, .mov (.t 19), none, 0⟩]) .ret))))),
  [(4, none)]⟩
/-- (*loop.example/g00849/spec.l00Src).among -/
def pf_P_spec_l00Src_among : PF := ⟨[.io 3, .val], [0, 1], (.seq (.reg [⟨some 4, .mov (.k (.int .i64 0)), none, 0⟩]) (.seq (.reg [⟨some 5, .mov (.t 1), none, 0⟩,
  ⟨some 6, .mov (.t 0), none, 0⟩,
  ⟨some 7, .mov (.t 1), none, 0⟩,
  ⟨some 8, .len true (.t 7), none, 0⟩,
  ⟨some 9, .call fn_P_spec_l00Src_pick [.t 6, .t 8], none, 0⟩,
  ⟨some 10, .idxa ty_int64 (.t 5) (.t 9), none, 0⟩,
  ⟨some 11, .load 1 false (.t 10), none, 0⟩,
  ⟨some 4, .mov (.t 11), none, 0⟩]) .ret)),
  [(4, none)]⟩
/-- (*loop.example/g00849/spec.l00Src).one -/
def pf_P_spec_l00Src_one : PF := ⟨[.io 3, .val], [0, 1], (.seq (.reg [⟨some 4, .mov (.k (.bool false)), none, 0⟩]) (.seq (.reg [⟨some 5, .mov (.t 0), none, 0⟩,
  ⟨some 6, .mov (.t 1), none, 0⟩,
  ⟨some 7, .call fn_P_spec_l00Src_pick [.t 5, .t 6], none, 0⟩,
  ⟨some 8, .bin .eql 0 (.t 7) (.k (.int .i64 0)), none, 0⟩,
  ⟨some 4, .mov (.t 8), none, 0⟩]) .ret)),
  [(4, none)]⟩
/-- loop.example/g00849/spec.l00Own -/
def pf_spec_l00Own : PF := ⟨[.val], [0], (.seq (.reg [⟨some 2, .mov (.k (.sl 2 ty_int64 [])), none, 0⟩]) (.seq (.reg [⟨some 3, .lit ty_int64 1 [], none, 0⟩,
  ⟨some 4, .mov (.t 0), none, 0⟩,
  ⟨some 5, .app ty_int64 8 (.t 3) (.t 4), none, 0⟩,
  ⟨some 2, .mov (.t 5), none, 0⟩]) .ret)),
  [(2, none)]⟩
/-- loop.example/g00849/spec.l06Draw -/
def pf_spec_l06Draw_lb0 : PC := (.seq (.seq (.reg [⟨some 27, .mov (.t 8), none, 0⟩,
  ⟨some 28, .bin .gtr 0 (.t 27) (.k (.int .i64 0)), none, 0⟩,
  ⟨some 29, .mov (.t 28), none, 0⟩,
  ⟨some 30, .flda 0 (.t 3), some (29, true), 0⟩,
  ⟨some 31, .load 1 false (.t 30), some (29, true), 0⟩,
  ⟨some 32, .len true (.t 31), some (29, true), 0⟩,
  ⟨some 33, .bin .lss 0 (.t 32) (.k (.int .i64 16)), some (29, true), 0⟩,
  ⟨some 34, .pick (.t 29) (.t 33) (.k (.bool false)), none, 0⟩]) (.cond (.t 34) .skip (.exit 2))) (.seq (.block 3 (.seq (.reg [⟨some 37, .flda 0 (.t 3), none, 0⟩,
  ⟨some 38, .load 1 false (.t 37), none, 0⟩,
  ⟨some 39, .len true (.t 38), none, 0⟩,
  ⟨some 9, .mov (.t 39), none, 0⟩]) (.seq (.any [(0, []), (1, []), (2, [0, 1]), (3, [0, 1, 2]), (4, [0, 1, 2, 3]), (5, [0, 1, 2, 3]), (6, [0, 1, 2, 3]), (7, [0, 1, 2]), (8, [0, 1]), (9, [0, 1]), (10, []), (11, []), (12, [])] [⟨some 40, .flda 0 (.t 3), none, 0⟩,
  ⟨some 41, .load 1 false (.t 40), none, 0⟩,
  ⟨some 42, .mov (.t 9), none, 0⟩,
  ⟨some 43, .mov (.t 0), none, 0⟩,
  ⟨some 44, .mov (.t 0), none, 0⟩,
  ⟨some 45, .call fn_P_spec_l00Src_pick [.t 44, .k (.int .i64 9)], none, 0⟩,
  ⟨some 46, .lit ty_int64 1 [.k (.int .i64 1), .k (.int .i64 1), .k (.int .i64 2), .k (.int .i64 3), .t 45], none, 0⟩,
  ⟨some 47, .call fn_P_spec_l00Src_among [.t 43, .t 46], none, 0⟩,
  ⟨some 48, .build [.int .i64 0, .int .i64 0] [(0, 1), (1, 1)] [.t 42, .t 47], none, 0⟩,
  ⟨some 49, .lit ty_impl_Device 2 [.t 48], none, 0⟩,
  ⟨some 50, .app ty_impl_Device 16 (.t 41) (.t 49), none, 0⟩,
  ⟨some 51, .flda 0 (.t 3), none, 0⟩,
  ⟨none, .store 1 (.t 51) (.t 50), none, 0⟩]) (.reg [⟨some 52, .flda 2 (.t 7), none, 0⟩,
  ⟨some 53, .load 1 false (.t 52), none, 0⟩,
  ⟨some 54, .mov (.t 9), none, 0⟩,
  ⟨some 55, .lit ty_int64 1 [.t 54], none, 0⟩,
  ⟨some 56, .app ty_int64 8 (.t 53) (.t 55), none, 0⟩,
  ⟨some 57, .flda 2 (.t 7), none, 0⟩,
  ⟨none, .store 1 (.t 57) (.t 56), none, 0⟩])))) (.reg [⟨some 35, .mov (.t 8), none, 0⟩,
  ⟨some 36, .bin .sub 0 (.t 35) (.k (.int .i64 1)), none, 0⟩,
  ⟨some 8, .mov (.t 36), none, 0⟩])))
def pf_spec_l06Draw_l0 : PC := .loop [] pf_spec_l06Draw_lb0
theorem ex_spec_l06Draw_l0 {C : Code} {V : List Nat} (s : St) : EX C V pf_spec_l06Draw_l0 s = EXK C V pf_spec_l06Draw_l0 (EX C V pf_spec_l06Draw_lb0 (forget [] s)) := EX_loop _ _ _
def pf_spec_l06Draw_lb1 : PC := (.seq (.seq (.reg [⟨some 18, .mov (.t 6), none, 0⟩,
  ⟨some 19, .bin .gtr 0 (.t 18) (.k (.int .i64 0)), none, 0⟩]) (.cond (.t 19) .skip (.exit 0))) (.seq (.block 1 (.seq (.reg [⟨some 22, .mov (.t 4), none, 0⟩,
  ⟨some 23, .build [.int .i64 0, .int .i64 0, .sl 2 ty_int64 []] [(0, 1), (1, 1)] [.t 22, .k (.int .i64 1)], none, 0⟩,
  ⟨some 7, .alloc [.int .i64 0, .int .i64 0, .sl 2 ty_int64 []], none, 0⟩,
  ⟨none, .store 3 (.t 7) (.t 23), none, 0⟩]) (.seq (.seq (.reg [⟨some 24, .mov (.t 0), none, 0⟩,
  ⟨some 25, .call fn_P_spec_l00Src_pick [.t 24, .k (.int .i64 3)], none, 0⟩,
  ⟨some 26, .bin .add 0 (.k (.int .i64 1)) (.t 25), none, 0⟩,
  ⟨some 8, .mov (.t 26), none, 0⟩]) (.block 2 pf_spec_l06Draw_l0)) (.seq (.reg [⟨some 58, .flda 1 (.t 3), none, 0⟩,
  ⟨some 59, .load 1 false (.t 58), none, 0⟩,
  ⟨some 60, .ldt 3 (.t 7), none, 0⟩,
  ⟨some 61, .lit ty_impl_Bucket 3 [.t 60], none, 0⟩,
  ⟨some 62, .app ty_impl_Bucket 40 (.t 59) (.t 61), none, 0⟩,
  ⟨some 63, .flda 1 (.t 3), none, 0⟩,
  ⟨none, .store 1 (.t 63) (.t 62), none, 0⟩]) (.seq (.reg [⟨some 64, .mov (.t 5), none, 0⟩,
  ⟨some 65, .mov (.t 4), none, 0⟩,
  ⟨some 66, .lit ty_int64 1 [.t 65], none, 0⟩,
  ⟨some 67, .app ty_int64 8 (.t 64) (.t 66), none, 0⟩,
  ⟨some 5, .mov (.t 67), none, 0⟩]) (.reg [⟨some 68, .mov (.t 4), none, 0⟩,
  ⟨some 69, .bin .sub 0 (.t 68) (.k (.int .i64 1)), none, 0⟩,
  ⟨some 4, .mov (.t 69), none, 0⟩])))))) (.reg [⟨some 20, .mov (.t 6), none, 0⟩,
  ⟨some 21, .bin .sub 0 (.t 20) (.k (.int .i64 1)), none, 0⟩,
  ⟨some 6, .mov (.t 21), none, 0⟩])))
def pf_spec_l06Draw_l1 : PC := .loop [7] pf_spec_l06Draw_lb1
theorem ex_spec_l06Draw_l1 {C : Code} {V : List Nat} (s : St) : EX C V pf_spec_l06Draw_l1 s = EXK C V pf_spec_l06Draw_l1 (EX C V pf_spec_l06Draw_lb1 (forget [7] s)) := EX_loop _ _ _
def pf_spec_l06Draw_lb2 : PC := (.seq (.seq (.reg [⟨some 74, .mov (.t 11), none, 0⟩,
  ⟨some 75, .mov (.t 5), none, 0⟩,
  ⟨some 76, .len true (.t 75), none, 0⟩,
  ⟨some 77, .bin .lss 0 (.t 74) (.t 76), none, 0⟩]) (.cond (.t 77) .skip (.exit 4))) (.seq (.block 5 (.seq (.reg [⟨some 80, .mov (.t 11), none, 0⟩,
  ⟨some 81, .bin .add 0 (.t 80) (.k (.int .i64 2)), none, 0⟩,
  ⟨some 12, .mov (.t 81), none, 0⟩]) (.seq (.seq (.reg [⟨some 82, .mov (.t 12), none, 0⟩,
  ⟨some 83, .mov (.t 5), none, 0⟩,
  ⟨some 84, .len true (.t 83), none, 0⟩,
  ⟨some 85, .bin .gtr 0 (.t 82) (.t 84), none, 0⟩]) (.cond (.t 85) (.reg [⟨some 86, .mov (.t 5), none, 0⟩,
  ⟨some 87, .len true (.t 86), none, 0⟩,
  ⟨some 12, .mov (.t 87), none, 0⟩]) .skip)) (.seq (.any [(0, []), (1, []), (2, [0, 1]), (3, [0, 1, 2]), (4, [0, 1, 2, 3]), (5, [0, 1, 2, 3, 4]), (6, [0, 1, 2]), (7, [0, 1, 2]), (8, [0, 1]), (9, [0, 1]), (10, []), (11, []), (12, [])] [⟨some 88, .flda 1 (.t 3), none, 0⟩,
  ⟨some 89, .load 1 false (.t 88), none, 0⟩,
  ⟨some 90, .mov (.t 4), none, 0⟩,
  ⟨some 91, .mov (.t 5), none, 0⟩,
  ⟨some 92, .mov (.t 11), none, 0⟩,
  ⟨some 93, .mov (.t 12), none, 0⟩,
  ⟨some 94, .slv ty_int64 (.t 91) (.t 92) (.t 93), none, 0⟩,
  ⟨some 95, .call fn_spec_l00Own [.t 94], none, 0⟩,
  ⟨some 96, .build [.int .i64 0, .int .i64 0, .sl 2 ty_int64 []] [(0, 1), (1, 1), (2, 1)] [.t 90, .k (.int .i64 2), .t 95], none, 0⟩,
  ⟨some 97, .lit ty_impl_Bucket 3 [.t 96], none, 0⟩,
  ⟨some 98, .app ty_impl_Bucket 40 (.t 89) (.t 97), none, 0⟩,
  ⟨some 99, .flda 1 (.t 3), none, 0⟩,
  ⟨none, .store 1 (.t 99) (.t 98), none, 0⟩]) (.seq (.reg [⟨some 100, .mov (.t 10), none, 0⟩,
  ⟨some 101, .mov (.t 4), none, 0⟩,
  ⟨some 102, .lit ty_int64 1 [.t 101], none, 0⟩,
  ⟨some 103, .app ty_int64 8 (.t 100) (.t 102), none, 0⟩,
  ⟨some 10, .mov (.t 103), none, 0⟩]) (.reg [⟨some 104, .mov (.t 4), none, 0⟩,
  ⟨some 105, .bin .sub 0 (.t 104) (.k (.int .i64 1)), none, 0⟩,
  ⟨some 4, .mov (.t 105), none, 0⟩])))))) (.reg [⟨some 78, .mov (.t 11), none, 0⟩,
  ⟨some 79, .bin .add 0 (.t 78) (.k (.int .i64 2)), none, 0⟩,
  ⟨some 11, .mov (.t 79), none, 0⟩])))
def pf_spec_l06Draw_l2 : PC := .loop [] pf_spec_l06Draw_lb2
theorem ex_spec_l06Draw_l2 {C : Code} {V : List Nat} (s : St) : EX C V pf_spec_l06Draw_l2 s = EXK C V pf_spec_l06Draw_l2 (EX C V pf_spec_l06Draw_lb2 (forget [] s)) := EX_loop _ _ _
def pf_spec_l06Draw : PF := ⟨[.io 3], [0, 3, 4, 5, 6, 7, 8, 9, 10, 11, 12, 29], (.seq (.reg [⟨some 2, .alloc [.sl 2 ty_impl_Device [], .sl 2 ty_impl_Bucket []], none, 0⟩]) (.seq (.reg [⟨some 13, .build [.sl 2 ty_impl_Device [], .sl 2 ty_impl_Bucket []] [] [], none, 0⟩,
  ⟨some 3, .alloc [.sl 2 ty_impl_Device [], .sl 2 ty_impl_Bucket []], none, 0⟩,
  ⟨none, .store 2 (.t 3) (.t 13), none, 0⟩]) (.seq (.reg [⟨some 4, .mov (.k (.int .i64 (-1))), none, 0⟩]) (.seq (.reg [⟨some 14, .lit ty_int64 1 [], none, 0⟩,
  ⟨some 5, .mov (.t 14), none, 0⟩]) (.seq (.seq (.reg [⟨some 15, .mov (.t 0), none, 0⟩,
  ⟨some 16, .call fn_P_spec_l00Src_pick [.t 15, .k (.int .i64 4)], none, 0⟩,
  ⟨some 17, .bin .add 0 (.k (.int .i64 2)) (.t 16), none, 0⟩,
  ⟨some 6, .mov (.t 17), none, 0⟩]) (.block 0 pf_spec_l06Draw_l1)) (.seq (.reg [⟨some 70, .mov (.t 5), none, 0⟩,
  ⟨some 10, .mov (.t 70), none, 0⟩]) (.seq (.seq (.reg [⟨some 71, .mov (.t 0), none, 0⟩,
  ⟨some 72, .call fn_P_spec_l00Src_one [.t 71, .k (.int .i64 2)], none, 0⟩]) (.cond (.t 72) (.seq (.reg [⟨some 73, .lit ty_int64 1 [], none, 0⟩,
  ⟨some 10, .mov (.t 73), none, 0⟩]) (.seq (.reg [⟨some 11, .mov (.k (.int .i64 0)), none, 0⟩]) (.block 4 pf_spec_l06Draw_l2))) .skip)) (.seq (.any [(0, []), (1, []), (2, [0, 1]), (3, [0, 1, 2]), (4, [0, 1, 2]), (5, [0, 1]), (6, [0, 1]), (7, []), (8, []), (9, [])] [⟨some 106, .flda 1 (.t 3), none, 0⟩,
  ⟨some 107, .load 1 false (.t 106), none, 0⟩,
  ⟨some 108, .mov (.t 4), none, 0⟩,
  ⟨some 109, .mov (.t 10), none, 0⟩,
  ⟨some 110, .call fn_spec_l00Own [.t 109], none, 0⟩,
  ⟨some 111, .build [.int .i64 0, .int .i64 0, .sl 2 ty_int64 []] [(0, 1), (1, 1), (2, 1)] [.t 108, .k (.int .i64 3), .t 110], none, 0⟩,
  ⟨some 112, .lit ty_impl_Bucket 3 [.t 111], none, 0⟩,
  ⟨some 113, .app ty_impl_Bucket 40 (.t 107) (.t 112), none, 0⟩,
  ⟨some 114, .flda 1 (.t 3), none, 0⟩,
  ⟨none, .store 1 (.t 114) (.t 113), none, 0⟩]) (.seq (.reg [⟨some 115, .ldt 2 (.t 3), none, 0⟩,
  ⟨none, .store 2 (.t 2) (.t 115), none, 0⟩]) .ret))))))))),
  [(2, some (2, true))]⟩
/-- loop.example/g00849/spec.A8Tree -/
def pf_spec_A8Tree : PF := ⟨[.val], [0, 3], (.seq (.reg [⟨some 2, .alloc [.sl 2 ty_impl_Device [], .sl 2 ty_impl_Bucket []], none, 0⟩]) (.seq (.reg [⟨some 4, .mov (.t 0), none, 0⟩,
  ⟨some 5, .newb fn_spec_l00From [.sl 2 ty_uint8 [], .int .i64 0, .int .u64 0] (.t 4), none, 0⟩,
  ⟨some 3, .mov (.t 5), none, 0⟩]) (.seq (.reg [⟨some 6, .mov (.t 3), none, 0⟩,
  ⟨some 7, .call fn_spec_l06Draw [.t 6], none, 0⟩,
  ⟨none, .store 2 (.t 2) (.t 7), none, 0⟩]) .ret))),
  [(2, some (2, true))]⟩
/-- loop.example/g00849/spec.l04Draw -/
def pf_spec_l04Draw : PF := ⟨[.io 3], [0], (.seq (.reg [⟨some 2, .alloc [.int .i64 0, .int .i64 0], none, 0⟩]) (.seq (.reg [⟨some 3, .mov (.t 0), none, 0⟩,
  ⟨some 4, .call fn_P_spec_l00Src_pick [.t 3, .k (.int .i64 4)], none, 0⟩,
  ⟨some 5, .bin .add 0 (.k (.int .i64 1)) (.t 4), none, 0⟩,
  ⟨some 6, .mov (.t 0), none, 0⟩,
  ⟨some 7, .call fn_P_spec_l00Src_pick [.t 6, .k (.int .i64 4)], none, 0⟩,
  ⟨some 8, .build [.int .i64 0, .int .i64 0] [(0, 1), (1, 1)] [.t 5, .t 7], none, 0⟩,
  ⟨none, .store 2 (.t 2) (.t 8), none, 0⟩]) .ret)),
  [(2, some (2, true))]⟩
/-- loop.example/g00849/spec.l09Draw -/
def pf_spec_l09Draw : PF := ⟨[.io 3], [0, 3], (.seq (.reg [⟨some 2, .alloc [.int .i64 0, .int .i64 0, .int .i64 0, .int .i64 0, .int .i64 0, .int .i64 0], none, 0⟩]) (.seq (.reg [⟨some 4, .mov (.t 0), none, 0⟩,
  ⟨some 5, .call fn_spec_l04Draw [.t 4], none, 0⟩,
  ⟨some 3, .alloc [.int .i64 0, .int .i64 0], none, 0⟩,
  ⟨none, .store 2 (.t 3) (.t 5), none, 0⟩]) (.seq (.any [(0, []), (1, []), (2, []), (3, [0, 1, 2]), (4, [0, 1, 2, 3]), (5, [0, 1, 2, 3]), (6, [0, 1, 2, 3, 4, 5]), (7, [0, 1, 2, 3, 4, 5, 6]), (8, [0, 1, 2, 3, 4, 5, 6]), (9, [0, 1, 2, 3, 4, 5, 6]), (10, [2, 3, 4, 5]), (11, [2, 3]), (12, [0, 1, 2, 3, 4, 5, 6, 7, 8, 9, 10, 11]), (13, [2, 3, 4, 5, 11]), (14, [2, 3, 4, 5, 11]), (15, [0, 1, 2, 3, 4, 5, 6, 7, 8, 9, 10, 11, 12, 13, 14]), (16, [2, 3, 4, 5, 11, 14]), (17, [2, 3, 4, 5, 11, 14]), (18, []), (19, [])] [⟨some 6, .mov (.t 0), none, 0⟩,
  ⟨some 7, .call fn_P_spec_l00Src_pick [.t 6, .k (.int .i64 4)], none, 0⟩,
  ⟨some 8, .bin .add 0 (.k (.int .i64 1)) (.t 7), none, 0⟩,
  ⟨some 9, .load 2 true (.t 3), none, 0⟩,
  ⟨some 10, .flda 0 (.t 3), none, 0⟩,
  ⟨some 11, .load 1 false (.t 10), none, 0⟩,
  ⟨some 12, .mov (.t 0), none, 0⟩,
  ⟨some 13, .flda 1 (.t 3), none, 0⟩,
  ⟨some 14, .load 1 false (.t 13), none, 0⟩,
  ⟨some 15, .bin .add 0 (.t 14) (.k (.int .i64 1)), none, 0⟩,
  ⟨some 16, .call fn_P_spec_l00Src_pick [.t 12, .t 15], none, 0⟩,
  ⟨some 17, .bin .add 0 (.t 11) (.t 16), none, 0⟩,
  ⟨some 18, .mov (.t 0), none, 0⟩,
  ⟨some 19, .call fn_P_spec_l00Src_pick [.t 18, .k (.int .i64 16)], none, 0⟩,
  ⟨some 20, .bin .add 0 (.k (.int .i64 1)) (.t 19), none, 0⟩,
  ⟨some 21, .mov (.t 0), none, 0⟩,
  ⟨some 22, .call fn_P_spec_l00Src_pick [.t 21, .k (.int .i64 4)], none, 0⟩,
  ⟨some 23, .bin .add 0 (.k (.int .i64 1)) (.t 22), none, 0⟩,
  ⟨some 24, .build [.int .i64 0, .int .i64 0, .int .i64 0, .int .i64 0, .int .i64 0, .int .i64 0] [(0, 1), (1, 2), (3, 1), (4, 1), (5, 1)] [.t 8, .t 9, .t 17, .t 20, .t 23], none, 0⟩,
  ⟨none, .store 6 (.t 2) (.t 24), none, 0⟩]) .ret))),
  [(2, some (6, true))]⟩
/-- loop.example/g00849/spec.A8Pool -/
def pf_spec_A8Pool : PF := ⟨[.val, .val], [0, 1, 5, 6], (.seq (.reg [⟨some 3, .box (.t 1) 4, none, 0⟩,
  ⟨some 4, .alloc [.int .i64 0, .int .i64 0, .int .i64 0, .int .i64 0, .int .i64 0, .int .i64 0], none, 0⟩]) (.seq (.reg [⟨some 7, .mov (.t 0), none, 0⟩,
  ⟨some 8, .newb fn_spec_l00From [.sl 2 ty_uint8 [], .int .i64 0, .int .u64 0] (.t 7), none, 0⟩,
  ⟨some 5, .mov (.t 8), none, 0⟩]) (.seq (.reg [⟨some 9, .mov (.t 5), none, 0⟩,
  ⟨some 10, .call fn_spec_l09Draw [.t 9], none, 0⟩,
  ⟨some 6, .alloc [.int .i64 0, .int .i64 0, .int .i64 0, .int .i64 0, .int .i64 0, .int .i64 0], none, 0⟩,
  ⟨none, .store 6 (.t 6) (.t 10), none, 0⟩]) (.seq (.reg [⟨some 11, .flda 0 (.t 3), none, 0⟩,
  ⟨some 12, .load 1 false (.t 11), none, 0⟩,
  ⟨some 13, .flda 5 (.t 6), none, 0⟩,
  ⟨none, .store 1 (.t 13) (.t 12), none, 0⟩]) (.seq (.reg [⟨some 14, .mov (.t 5), none, 0⟩,
  ⟨some 15, .call fn_P_spec_l00Src_pick [.t 14, .k (.int .i64 2)], none, 0⟩,
  ⟨some 16, .bin .add 0 (.k (.int .i64 1)) (.t 15), none, 0⟩,
  ⟨some 17, .flda 0 (.t 6), none, 0⟩,
  ⟨none, .store 1 (.t 17) (.t 16), none, 0⟩]) (.seq (.reg [⟨some 18, .load 6 true (.t 6), none, 0⟩,
  ⟨none, .store 6 (.t 4) (.t 18), none, 0⟩]) .ret)))))),
  [(4, some (6, true))]⟩
/-- loop.example/g00849/spec.l08Rule -/
def pf_spec_l08Rule : PF := ⟨[.io 3, .val], [0, 1, 3], (.seq (.reg [⟨some 3, .box (.t 1) 2, none, 0⟩,
  ⟨some 4, .alloc [.int .i64 0, .int .i64 0, .int .i64 0, .bool false], none, 0⟩]) (.seq (.any [(0, []), (1, []), (2, []), (3, [0, 1, 2]), (4, [0, 1, 2]), (5, [0, 1, 2, 3, 4]), (6, [0, 1, 2, 3, 4]), (7, [0, 1, 2, 3, 4]), (8, [0, 1, 2, 3, 4]), (9, [0, 1, 2]), (10, [0, 1, 2]), (11, [0, 1, 2]), (12, [0, 1, 2, 3, 4, 5, 6, 7, 8, 9, 10, 11]), (13, [0, 1, 2, 3, 4, 5, 6, 7, 8, 9, 10, 11, 12]), (14, [2, 3, 4, 5, 6, 7, 8, 9, 10, 11]), (15, [0, 1, 2, 3, 4, 5, 6, 7, 8, 9, 10, 11, 12, 13, 14]), (16, [2, 3, 4, 5, 6, 7, 8, 9, 10, 11]), (17, []), (18, [])] [⟨some 5, .mov (.t 0), none, 0⟩,
  ⟨some 6, .call fn_P_spec_l00Src_pick [.t 5, .k (.int .i64 4)], none, 0⟩,
  ⟨some 7, .bin .add 0 (.k (.int .i64 1)) (.t 6), none, 0⟩,
  ⟨some 8, .flda 1 (.t 3), none, 0⟩,
  ⟨some 9, .load 1 false (.t 8), none, 0⟩,
  ⟨some 10, .flda 1 (.t 3), none, 0⟩,
  ⟨some 11, .load 1 false (.t 10), none, 0⟩,
  ⟨some 12, .len true (.t 11), none, 0⟩,
  ⟨some 13, .bin .sub 0 (.t 12) (.k (.int .i64 1)), none, 0⟩,
  ⟨some 14, .idxa ty_impl_Bucket (.t 9) (.t 13), none, 0⟩,
  ⟨some 15, .flda 0 (.t 14), none, 0⟩,
  ⟨some 16, .load 1 false (.t 15), none, 0⟩,
  ⟨some 17, .mov (.t 0), none, 0⟩,
  ⟨some 18, .lit ty_int64 1 [.k (.int .i64 0), .k (.int .i64 1), .k (.int .i64 1), .k (.int .i64 1), .k (.int .i64 2)], none, 0⟩,
  ⟨some 19, .call fn_P_spec_l00Src_among [.t 17, .t 18], none, 0⟩,
  ⟨some 20, .mov (.t 0), none, 0⟩,
  ⟨some 21, .call fn_P_spec_l00Src_one [.t 20, .k (.int .i64 2)], none, 0⟩,
  ⟨some 22, .build [.int .i64 0, .int .i64 0, .int .i64 0, .bool false] [(0, 1), (1, 1), (2, 1), (3, 1)] [.t 7, .t 16, .t 19, .t 21], none, 0⟩,
  ⟨none, .store 4 (.t 4) (.t 22), none, 0⟩]) .ret)),
  [(4, some (4, true))]⟩
/-- loop.example/g00849/spec.A8Rule -/
def pf_spec_A8Rule : PF := ⟨[.val, .val], [0, 1, 5], (.seq (.reg [⟨some 3, .box (.t 1) 2, none, 0⟩,
  ⟨some 4, .alloc [.int .i64 0, .int .i64 0, .int .i64 0, .bool false], none, 0⟩]) (.seq (.reg [⟨some 6, .mov (.t 0), none, 0⟩,
  ⟨some 7, .newb fn_spec_l00From [.sl 2 ty_uint8 [], .int .i64 0, .int .u64 0] (.t 6), none, 0⟩,
  ⟨some 5, .mov (.t 7), none, 0⟩]) (.seq (.reg [⟨some 8, .mov (.t 5), none, 0⟩,
  ⟨some 9, .ldt 2 (.t 3), none, 0⟩,
  ⟨some 10, .call fn_spec_l08Rule [.t 8, .t 9], none, 0⟩,
  ⟨none, .store 4 (.t 4) (.t 10), none, 0⟩]) .ret))),
  [(4, some (4, true))]⟩
/-- loop.example/g00849/spec.A8Name -/
def pf_spec_A8Name_lb0 : PC := (.seq (.seq (.reg [⟨some 11, .mov (.t 5), none, 0⟩,
  ⟨some 12, .bin .gtr 0 (.t 11) (.k (.int .i64 0)), none, 0⟩]) (.cond (.t 12) .skip (.exit 0))) (.seq (.block 1 (.reg [⟨some 15, .mov (.t 4), none, 0⟩,
  ⟨some 16, .mov (.t 3), none, 0⟩,
  ⟨some 17, .call fn_P_spec_l00Src_pick [.t 16, .k (.int .i64 10)], none, 0⟩,
  ⟨some 18, .idxs (.k (.str ⟨#[97, 98, 99, 120, 121, 122, 48, 49, 56, 57]⟩)) (.t 17), none, 0⟩,
  ⟨some 19, .lit ty_uint8 1 [.t 18], none, 0⟩,
  ⟨some 20, .b2s (.t 19), none, 0⟩,
  ⟨some 21, .bin .add 0 (.t 15) (.t 20), none, 0⟩,
  ⟨some 4, .mov (.t 21), none, 0⟩])) (.reg [⟨some 13, .mov (.t 5), none, 0⟩,
  ⟨some 14, .bin .sub 0 (.t 13) (.k (.int .i64 1)), none, 0⟩,
  ⟨some 5, .mov (.t 14), none, 0⟩])))
def pf_spec_A8Name_l0 : PC := .loop [] pf_spec_A8Name_lb0
theorem ex_spec_A8Name_l0 {C : Code} {V : List Nat} (s : St) : EX C V pf_spec_A8Name_l0 s = EXK C V pf_spec_A8Name_l0 (EX C V pf_spec_A8Name_lb0 (forget [] s)) := EX_loop _ _ _
def pf_spec_A8Name : PF := ⟨[.val], [0, 3, 4, 5], (.seq (.reg [⟨some 2, .mov (.k (.str ⟨#[]⟩)), none, 0⟩]) (.seq (.reg [⟨some 6, .mov (.t 0), none, 0⟩,
  ⟨some 7, .newb fn_spec_l00From [.sl 2 ty_uint8 [], .int .i64 0, .int .u64 0] (.t 6), none, 0⟩,
  ⟨some 3, .mov (.t 7), none, 0⟩]) (.seq (.reg [⟨some 4, .mov (.k (.str ⟨#[]⟩)), none, 0⟩]) (.seq (.seq (.reg [⟨some 8, .mov (.t 3), none, 0⟩,
  ⟨some 9, .call fn_P_spec_l00Src_pick [.t 8, .k (.int .i64 8)], none, 0⟩,
  ⟨some 10, .bin .add 0 (.k (.int .i64 1)) (.t 9), none, 0⟩,
  ⟨some 5, .mov (.t 10), none, 0⟩]) (.block 0 pf_spec_A8Name_l0)) (.seq (.reg [⟨some 22, .mov (.t 4), none, 0⟩,
  ⟨some 2, .mov (.t 22), none, 0⟩]) .ret))))),
  [(2, none)]⟩
/-- loop.example/g00849/impl.NameOk -/
def pf_impl_NameOk_lb0 : PC := (.seq (.reg [⟨some 8, .bin .lss 0 (.t 7) (.t 6), none, 0⟩]) (.seq (.cond (.t 8) .skip (.exit 0)) (.seq (.block 1 (.seq (.reg [⟨some 9, .mov (.t 7), none, 0⟩,
  ⟨some 3, .mov (.t 9), none, 0⟩]) (.seq (.reg [⟨some 10, .mov (.t 0), none, 0⟩,
  ⟨some 11, .mov (.t 3), none, 0⟩,
  ⟨some 12, .idxs (.t 10) (.t 11), none, 0⟩,
  ⟨some 4, .mov (.t 12), none, 0⟩]) (.seq (.reg [⟨some 13, .mov (.t 4), none, 0⟩,
  ⟨some 14, .bin .lss 0 (.t 13) (.k (.int .u8 97)), none, 0⟩,
  ⟨some 15, .mov (.t 14), none, 0⟩,
  ⟨some 16, .mov (.t 4), some (15, false), 0⟩,
  ⟨some 17, .bin .gtr 0 (.t 16) (.k (.int .u8 122)), some (15, false), 0⟩,
  ⟨some 18, .pick (.t 15) (.k (.bool true)) (.t 17), none, 0⟩,
  ⟨some 19, .mov (.t 18), none, 0⟩,
  ⟨some 20, .mov (.t 4), some (19, true), 0⟩,
  ⟨some 21, .bin .lss 0 (.t 20) (.k (.int .u8 48)), some (19, true), 0⟩,
  ⟨some 22, .mov (.t 21), some (19, true), 0⟩,
  ⟨some 23, .mov (.t 4), some (22, false), 0⟩,
  ⟨some 24, .bin .gtr 0 (.t 23) (.k (.int .u8 57)), some (22, false), 0⟩,
  ⟨some 25, .pick (.t 22) (.k (.bool true)) (.t 24), some (19, true), 0⟩,
  ⟨some 26, .pick (.t 19) (.t 25) (.k (.bool false)), none, 0⟩]) (.cond (.t 26) (.seq (.reg [⟨some 2, .mov (.k (.bool false)), none, 0⟩]) .ret) .skip))))) (.reg [⟨some 27, .bin .add 0 (.t 7) (.k (.int .i64 1)), none, 0⟩,
  ⟨some 7, .mov (.t 27), none, 0⟩]))))
def pf_impl_NameOk_l0 : PC := .loop [] pf_impl_NameOk_lb0
theorem ex_impl_NameOk_l0 {C : Code} {V : List Nat} (s : St) : EX C V pf_impl_NameOk_l0 s = EXK C V pf_impl_NameOk_l0 (EX C V pf_impl_NameOk_lb0 (forget [] s)) := EX_loop _ _ _
def pf_impl_NameOk : PF := ⟨[.val], [0, 3, 4, 7, 15, 19, 22], (.seq (.reg [⟨some 2, .mov (.k (.bool false)), none, 0⟩]) (.seq (.seq (.reg [⟨some 5, .mov (.t 0), none, 0⟩,
  ⟨some 6, .len false (.t 5), none, 0⟩,
  ⟨some 7, .mov (.k (.int .i64 0)), none, 0⟩]) (.block 0 pf_impl_NameOk_l0)) (.seq (.reg [⟨some 28, .mov (.t 0), none, 0⟩,
  ⟨some 29, .len false (.t 28), none, 0⟩,
  ⟨some 30, .call fn_impl_between [.t 29, .k (.int .i64 1), .k (.int .i64 8)], none, 0⟩,
  ⟨some 2, .mov (.t 30), none, 0⟩]) .ret))),
  [(2, none)]⟩
/-- loop.example/g00849/impl.Mix -/
def pf_impl_Mix_lb0 : PC := (.seq (.reg [⟨some 9, .bin .lss 0 (.t 8) (.t 7), none, 0⟩]) (.seq (.cond (.t 9) .skip (.exit 0)) (.seq (.block 1 (.seq (.reg [⟨some 10, .idxa ty_int64 (.t 6) (.t 8), none, 0⟩,
  ⟨some 11, .load 1 false (.t 10), none, 0⟩,
  ⟨some 5, .mov (.t 11), none, 0⟩]) (.seq (.reg [⟨some 12, .mov (.t 3), none, 0⟩,
  ⟨some 13, .mov (.t 5), none, 0⟩,
  ⟨some 14, .conv .u32 (.t 13), none, 0⟩,
  ⟨some 15, .bin .xor 0 (.t 12) (.t 14), none, 0⟩,
  ⟨some 16, .bin .mul 0 (.t 15) (.k (.int .u32 16777619)), none, 0⟩,
  ⟨some 3, .mov (.t 16), none, 0⟩]) (.seq (.reg [⟨some 17, .mov (.t 3), none, 0⟩,
  ⟨some 18, .mov (.t 3), none, 0⟩,
  ⟨some 19, .bin .shr 0 (.t 18) (.k (.int .u64 15)), none, 0⟩,
  ⟨some 20, .bin .xor 0 (.t 17) (.t 19), none, 0⟩,
  ⟨some 3, .mov (.t 20), none, 0⟩]) (.seq (.reg [⟨some 21, .mov (.t 3), none, 0⟩,
  ⟨some 22, .bin .mul 0 (.t 21) (.k (.int .u32 1540483477)), none, 0⟩,
  ⟨some 3, .mov (.t 22), none, 0⟩]) (.reg [⟨some 23, .mov (.t 3), none, 0⟩,
  ⟨some 24, .mov (.t 3), none, 0⟩,
  ⟨some 25, .bin .shr 0 (.t 24) (.k (.int .u64 13)), none, 0⟩,
  ⟨some 26, .bin .xor 0 (.t 23) (.t 25), none, 0⟩,
  ⟨some 3, .mov (.t 26), none, 0⟩])))))) (.reg [⟨some 27, .bin .add 0 (.t 8) (.k (.int .i64 1)), none, 0⟩,
  ⟨some 8, .mov (.t 27), none, 0⟩]))))
def pf_impl_Mix_l0 : PC := .loop [] pf_impl_Mix_lb0
theorem ex_impl_Mix_l0 {C : Code} {V : List Nat} (s : St) : EX C V pf_impl_Mix_l0 s = EXK C V pf_impl_Mix_l0 (EX C V pf_impl_Mix_lb0 (forget [] s)) := EX_loop _ _ _
def pf_impl_Mix : PF := ⟨[.val], [0, 3, 5, 6, 8], (.seq (.reg [⟨some 2, .mov (.k (.int .i64 0)), none, 0⟩]) (.seq (.reg [⟨some 3, .mov (.k (.int .u32 2166136261)), none, 0⟩]) (.seq (.seq (.reg [⟨some 6, .mov (.t 0), none, 0⟩,
  ⟨some 7, .len true (.t 6), none, 0⟩,
  ⟨some 8, .mov (.k (.int .i64 0)), none, 0⟩]) (.block 0 pf_impl_Mix_l0)) (.seq (.reg [⟨some 28, .mov (.t 3), none, 0⟩,
  ⟨some 29, .conv .i64 (.t 28), none, 0⟩,
  ⟨some 2, .mov (.t 29), none, 0⟩]) .ret)))),
  [(2, none)]⟩
/-- loop.example/g00849/impl.pgOf -/
def pf_impl_pgOf_lb0 : PC := (.seq (.reg [⟨some 10, .bin .lss 0 (.t 9) (.t 8), none, 0⟩]) (.seq (.cond (.t 10) .skip (.exit 0)) (.seq (.block 1 (.seq (.reg [⟨some 11, .mov (.t 9), none, 0⟩,
  ⟨some 6, .mov (.t 11), none, 0⟩]) (.reg [⟨some 12, .mov (.t 5), none, 0⟩,
  ⟨some 13, .mov (.t 1), none, 0⟩,
  ⟨some 14, .mov (.t 6), none, 0⟩,
  ⟨some 15, .idxs (.t 13) (.t 14), none, 0⟩,
  ⟨some 16, .conv .i64 (.t 15), none, 0⟩,
  ⟨some 17, .lit ty_int64 1 [.t 16], none, 0⟩,
  ⟨some 18, .app ty_int64 8 (.t 12) (.t 17), none, 0⟩,
  ⟨some 5, .mov (.t 18), none, 0⟩]))) (.reg [⟨some 19, .bin .add 0 (.t 9) (.k (.int .i64 1)), none, 0⟩,
  ⟨some 9, .mov (.t 19), none, 0⟩]))))
def pf_impl_pgOf_l0 : PC := .loop [] pf_impl_pgOf_lb0
theorem ex_impl_pgOf_l0 {C : Code} {V : List Nat} (s : St) : EX C V pf_impl_pgOf_l0 s = EXK C V pf_impl_pgOf_l0 (EX C V pf_impl_pgOf_lb0 (forget [] s)) := EX_loop _ _ _
def pf_impl_pgOf : PF := ⟨[.val, .val], [0, 1, 2, 5, 6, 9], (.seq (.reg [⟨some 2, .box (.t 0) 6, none, 0⟩,
  ⟨some 4, .alloc [.int .i64 0, .int .i64 0], none, 0⟩]) (.seq (.reg [⟨some 5, .mov (.k (.sl 2 ty_int64 [])), none, 0⟩]) (.seq (.seq (.reg [⟨some 7, .mov (.t 1), none, 0⟩,
  ⟨some 8, .len false (.t 7), none, 0⟩,
  ⟨some 9, .mov (.k (.int .i64 0)), none, 0⟩]) (.block 0 pf_impl_pgOf_l0)) (.seq (.any [(0, []), (1, []), (2, [0, 1]), (3, [0, 1]), (4, [0, 1, 2, 3]), (5, [0, 1, 2, 3]), (6, [0, 1]), (7, []), (8, [])] [⟨some 20, .flda 0 (.t 2), none, 0⟩,
  ⟨some 21, .load 1 false (.t 20), none, 0⟩,
  ⟨some 22, .mov (.t 5), none, 0⟩,
  ⟨some 23, .call fn_impl_Mix [.t 22], none, 0⟩,
  ⟨some 24, .flda 4 (.t 2), none, 0⟩,
  ⟨some 25, .load 1 false (.t 24), none, 0⟩,
  ⟨some 26, .bin .rem 0 (.t 23) (.t 25), none, 0⟩,
  ⟨some 27, .build [.int .i64 0, .int .i64 0] [(0, 1), (1, 1)] [.t 21, .t 26], none, 0⟩,
  ⟨none, .store 2 (.t 4) (.t 27), none, 0⟩]) .ret)))),
  [(4, some (2, true))]⟩
/-- loop.example/g00849/impl.PgOf -/
def pf_impl_PgOf : PF := ⟨[.val, .val], [0, 1, 2, 4, 9], (.seq (.reg [⟨some 2, .box (.t 0) 6, none, 0⟩,
  ⟨some 4, .alloc [.int .i64 0, .int .i64 0], none, 0⟩,
  ⟨some 5, .mov (.k (.bool false)), none, 0⟩]) (.seq (.seq (.reg [⟨some 6, .load 6 true (.t 2), none, 0⟩,
  ⟨some 7, .call fn_impl_PoolOk [.t 6], none, 0⟩,
  ⟨some 8, .un .not (.t 7), none, 0⟩,
  ⟨some 9, .mov (.t 8), none, 0⟩,
  ⟨some 10, .mov (.t 1), some (9, false), 0⟩,
  ⟨some 11, .call fn_impl_NameOk [.t 10], some (9, false), 0⟩,
  ⟨some 12, .un .not (.t 11), some (9, false), 0⟩,
  ⟨some 13, .pick (.t 9) (.k (.bool true)) (.t 12), none, 0⟩]) (.cond (.t 13) (.seq (.reg [⟨some 14, .build [.int .i64 0, .int .i64 0] [] [], none, 0⟩,
  ⟨none, .store 2 (.t 4) (.t 14), none, 0⟩,
  ⟨some 5, .mov (.k (.bool false)), none, 0⟩]) .ret) .skip)) (.seq (.reg [⟨some 15, .load 6 true (.t 2), none, 0⟩,
  ⟨some 16, .mov (.t 1), none, 0⟩,
  ⟨some 17, .call fn_impl_pgOf [.t 15, .t 16], none, 0⟩,
  ⟨none, .store 2 (.t 4) (.t 17), none, 0⟩,
  ⟨some 5, .mov (.k (.bool true)), none, 0⟩]) .ret))),
  [(4, some (2, true)), (5, none)]⟩
/-- loop.example/g00849/impl.Split -/
def pf_impl_Split : PF := ⟨[.val], [0, 1, 2, 4, 9], (.seq (.reg [⟨some 1, .box (.t 0) 6, none, 0⟩,
  ⟨some 2, .alloc [.int .i64 0, .int .i64 0, .int .i64 0, .int .i64 0, .int .i64 0, .int .i64 0], none, 0⟩,
  ⟨some 3, .mov (.k (.int .i64 0)), none, 0⟩]) (.seq (.block 0 (.seq (.reg [⟨some 5, .load 6 true (.t 1), none, 0⟩,
  ⟨some 6, .call fn_impl_PoolOk [.t 5], none, 0⟩,
  ⟨some 7, .un .not (.t 6), none, 0⟩,
  ⟨some 4, .mov (.t 7), none, 0⟩]) (.cond (.t 4) (.seq (.reg [⟨some 8, .build [.int .i64 0, .int .i64 0, .int .i64 0, .int .i64 0, .int .i64 0, .int .i64 0] [] [], none, 0⟩,
  ⟨none, .store 6 (.t 2) (.t 8), none, 0⟩,
  ⟨some 3, .mov (.k (.int .i64 1)), none, 0⟩]) .ret) (.seq (.reg [⟨some 10, .flda 4 (.t 1), none, 0⟩,
  ⟨some 11, .load 1 false (.t 10), none, 0⟩,
  ⟨some 12, .bin .mul 0 (.k (.int .i64 2)) (.t 11), none, 0⟩,
  ⟨some 13, .bin .gtr 0 (.t 12) (.k (.int .i64 16)), none, 0⟩,
  ⟨some 9, .mov (.t 13), none, 0⟩]) (.cond (.t 9) (.seq (.reg [⟨some 14, .build [.int .i64 0, .int .i64 0, .int .i64 0, .int .i64 0, .int .i64 0, .int .i64 0] [] [], none, 0⟩,
  ⟨none, .store 6 (.t 2) (.t 14), none, 0⟩,
  ⟨some 3, .mov (.k (.int .i64 4)), none, 0⟩]) .ret) .skip))))) (.seq (.reg [⟨some 15, .flda 4 (.t 1), none, 0⟩,
  ⟨some 16, .load 1 false (.t 15), none, 0⟩,
  ⟨some 17, .bin .mul 0 (.t 16) (.k (.int .i64 2)), none, 0⟩,
  ⟨some 18, .flda 4 (.t 1), none, 0⟩,
  ⟨none, .store 1 (.t 18) (.t 17), none, 0⟩]) (.seq (.reg [⟨some 19, .load 6 true (.t 1), none, 0⟩,
  ⟨none, .store 6 (.t 2) (.t 19), none, 0⟩,
  ⟨some 3, .mov (.k (.int .i64 0)), none, 0⟩]) .ret)))),
  [(2, some (6, true)), (3, none)]⟩
/-- loop.example/g00849/laws.FnPgs -/
def pf_laws_FnPgs_lb0 : PC := (.seq (.seq (.reg [⟨some 80, .mov (.t 10), none, 0⟩,
  ⟨some 81, .mov (.t 8), none, 0⟩,
  ⟨some 82, .len true (.t 81), none, 0⟩,
  ⟨some 83, .bin .lss 0 (.t 80) (.t 82), none, 0⟩]) (.cond (.t 83) .skip (.exit 0))) (.seq (.block 1 (.seq (.any [(0, []), (1, [0]), (2, []), (3, []), (4, []), (5, [0, 1, 2, 3, 4]), (6, [0, 1, 2, 3, 4]), (7, []), (8, []), (9, []), (10, [9]), (11, []), (12, []), (13, []), (14, [9, 10, 11, 12, 13]), (15, []), (16, [])] [⟨some 86, .mov (.t 8), none, 0⟩,
  ⟨some 87, .mov (.t 10), none, 0⟩,
  ⟨some 88, .idxa ty_impl_Pg (.t 86) (.t 87), none, 0⟩,
  ⟨some 89, .flda 0 (.t 88), none, 0⟩,
  ⟨some 90, .load 1 false (.t 89), none, 0⟩,
  ⟨some 91, .flda 0 (.t 4), none, 0⟩,
  ⟨some 92, .load 1 false (.t 91), none, 0⟩,
  ⟨some 93, .bin .neq 0 (.t 90) (.t 92), none, 0⟩,
  ⟨some 94, .mov (.t 93), none, 0⟩,
  ⟨some 95, .mov (.t 8), some (94, false), 0⟩,
  ⟨some 96, .mov (.t 10), some (94, false), 0⟩,
  ⟨some 97, .idxa ty_impl_Pg (.t 95) (.t 96), some (94, false), 0⟩,
  ⟨some 98, .flda 1 (.t 97), some (94, false), 0⟩,
  ⟨some 99, .load 1 false (.t 98), some (94, false), 0⟩,
  ⟨some 100, .mov (.t 10), some (94, false), 0⟩,
  ⟨some 101, .bin .neq 0 (.t 99) (.t 100), some (94, false), 0⟩,
  ⟨some 102, .pick (.t 94) (.k (.bool true)) (.t 101), none, 0⟩]) (.cond (.t 102) (.seq (.reg [⟨some 2, .mov (.k (.bool false)), none, 0⟩]) .ret) .skip))) (.reg [⟨some 84, .mov (.t 10), none, 0⟩,
  ⟨some 85, .bin .add 0 (.t 84) (.k (.int .i64 1)), none, 0⟩,
  ⟨some 10, .mov (.t 85), none, 0⟩])))
def pf_laws_FnPgs_l0 : PC := .loop [] pf_laws_FnPgs_lb0
theorem ex_laws_FnPgs_l0 {C : Code} {V : List Nat} (s : St) : EX C V pf_laws_FnPgs_l0 s = EXK C V pf_laws_FnPgs_l0 (EX C V pf_laws_FnPgs_lb0 (forget [] s)) := EX_loop _ _ _
def pf_laws_FnPgs : PF := ⟨[.val], [0, 3, 4, 5, 6, 7, 8, 9, 10, 11, 12, 13, 14, 27, 33, 40, 44, 51, 56, 61, 68, 73, 94, 103, 114, 122, 130, 133, 140, 146], (.seq (.reg [⟨some 2, .mov (.k (.bool false)), none, 0⟩]) (.seq (.seq (.reg [⟨some 15, .mov (.t 0), none, 0⟩,
  ⟨some 16, .len true (.t 15), none, 0⟩,
  ⟨some 17, .bin .gtr 0 (.t 16) (.k (.int .i64 1048576)), none, 0⟩]) (.cond (.t 17) (.seq (.reg [⟨some 2, .mov (.k (.bool true)), none, 0⟩]) .ret) .skip)) (.seq (.reg [⟨some 18, .mov (.t 0), none, 0⟩,
  ⟨some 19, .call fn_spec_A8Tree [.t 18], none, 0⟩,
  ⟨some 3, .alloc [.sl 2 ty_impl_Device [], .sl 2 ty_impl_Bucket []], none, 0⟩,
  ⟨none, .store 2 (.t 3) (.t 19), none, 0⟩]) (.seq (.reg [⟨some 20, .mov (.t 0), none, 0⟩,
  ⟨some 21, .mov (.t 0), none, 0⟩,
  ⟨some 22, .ldt 2 (.t 3), none, 0⟩,
  ⟨some 23, .call fn_spec_A8Rule [.t 21, .t 22], none, 0⟩,
  ⟨some 24, .call fn_spec_A8Pool [.t 20, .t 23], none, 0⟩,
  ⟨some 4, .alloc [.int .i64 0, .int .i64 0, .int .i64 0, .int .i64 0, .int .i64 0, .int .i64 0], none, 0⟩,
  ⟨none, .store 6 (.t 4) (.t 24), none, 0⟩]) (.seq (.reg [⟨some 25, .mov (.t 0), none, 0⟩,
  ⟨some 26, .call fn_spec_A8Name [.t 25], none, 0⟩,
  ⟨some 5, .mov (.t 26), none, 0⟩]) (.seq (.reg [⟨some 28, .load 6 true (.t 4), none, 0⟩,
  ⟨some 29, .mov (.t 5), none, 0⟩,
  ⟨some 30, .call fn_impl_PgOf [.t 28, .t 29], none, 2⟩,
  ⟨some 27, .tmv 30 2, none, 2⟩,
  ⟨some 31, .ext (.t 1000027), none, 0⟩,
  ⟨some 32, .ext (.t 2000027), none, 0⟩,
  ⟨some 6, .alloc [.int .i64 0, .int .i64 0], none, 0⟩,
  ⟨none, .store 2 (.t 6) (.t 31), none, 0⟩,
  ⟨some 7, .mov (.t 32), none, 0⟩]) (.seq (.reg [⟨some 34, .load 6 true (.t 4), none, 0⟩,
  ⟨some 35, .call fn_impl_PgsIn [.t 34], none, 2⟩,
  ⟨some 33, .tmv 35 2, none, 2⟩,
  ⟨some 36, .ext (.t 1000033), none, 0⟩,
  ⟨some 37, .ext (.t 2000033), none, 0⟩,
  ⟨some 8, .mov (.t 36), none, 0⟩,
  ⟨some 9, .mov (.t 37), none, 0⟩]) (.seq (.seq (.reg [⟨some 38, .mov (.t 7), none, 0⟩,
  ⟨some 39, .un .not (.t 38), none, 0⟩,
  ⟨some 40, .mov (.t 39), none, 0⟩,
  ⟨some 41, .mov (.t 9), some (40, false), 0⟩,
  ⟨some 42, .un .not (.t 41), some (40, false), 0⟩,
  ⟨some 43, .pick (.t 40) (.k (.bool true)) (.t 42), none, 0⟩,
  ⟨some 44, .mov (.t 43), none, 0⟩,
  ⟨some 45, .mov (.t 8), some (44, false), 0⟩,
  ⟨some 46, .len true (.t 45), some (44, false), 0⟩,
  ⟨some 47, .flda 4 (.t 4), some (44, false), 0⟩,
  ⟨some 48, .load 1 false (.t 47), some (44, false), 0⟩,
  ⟨some 49, .bin .neq 0 (.t 46) (.t 48), some (44, false), 0⟩,
  ⟨some 50, .pick (.t 44) (.k (.bool true)) (.t 49), none, 0⟩,
  ⟨some 51, .mov (.t 50), none, 0⟩,
  ⟨some 52, .mov (.t 5), some (51, false), 0⟩,
  ⟨some 53, .call fn_impl_NameOk [.t 52], some (51, false), 0⟩,
  ⟨some 54, .un .not (.t 53), some (51, false), 0⟩,
  ⟨some 55, .pick (.t 51) (.k (.bool true)) (.t 54), none, 0⟩,
  ⟨some 56, .mov (.t 55), none, 0⟩,
  ⟨some 57, .load 6 true (.t 4), some (56, false), 0⟩,
  ⟨some 58, .call fn_impl_PoolOk [.t 57], some (56, false), 0⟩,
  ⟨some 59, .un .not (.t 58), some (56, false), 0⟩,
  ⟨some 60, .pick (.t 56) (.k (.bool true)) (.t 59), none, 0⟩,
  ⟨some 61, .mov (.t 60), none, 0⟩,
  ⟨some 62, .flda 0 (.t 6), some (61, false), 0⟩,
  ⟨some 63, .load 1 false (.t 62), some (61, false), 0⟩,
  ⟨some 64, .flda 0 (.t 4), some (61, false), 0⟩,
  ⟨some 65, .load 1 false (.t 64), some (61, false), 0⟩,
  ⟨some 66, .bin .neq 0 (.t 63) (.t 65), some (61, false), 0⟩,
  ⟨some 67, .pick (.t 61) (.k (.bool true)) (.t 66), none, 0⟩,
  ⟨some 68, .mov (.t 67), none, 0⟩,
  ⟨some 69, .flda 1 (.t 6), some (68, false), 0⟩,
  ⟨some 70, .load 1 false (.t 69), some (68, false), 0⟩,
  ⟨some 71, .bin .lss 0 (.t 70) (.k (.int .i64 0)), some (68, false), 0⟩,
  ⟨some 72, .pick (.t 68) (.k (.bool true)) (.t 71), none, 0⟩,
  ⟨some 73, .mov (.t 72), none, 0⟩,
  ⟨some 74, .flda 1 (.t 6), some (73, false), 0⟩,
  ⟨some 75, .load 1 false (.t 74), some (73, false), 0⟩,
  ⟨some 76, .flda 4 (.t 4), some (73, false), 0⟩,
  ⟨some 77, .load 1 false (.t 76), some (73, false), 0⟩,
  ⟨some 78, .bin .geq 0 (.t 75) (.t 77), some (73, false), 0⟩,
  ⟨some 79, .pick (.t 73) (.k (.bool true)) (.t 78), none, 0⟩]) (.cond (.t 79) (.seq (.reg [⟨some 2, .mov (.k (.bool false)), none, 0⟩]) .ret) .skip)) (.seq (.seq (.reg [⟨some 10, .mov (.k (.int .i64 0)), none, 0⟩]) (.block 0 pf_laws_FnPgs_l0)) (.seq (.reg [⟨some 104, .load 6 true (.t 4), none, 0⟩,
  ⟨some 105, .call fn_impl_Split [.t 104], none, 2⟩,
  ⟨some 103, .tmv 105 2, none, 2⟩,
  ⟨some 106, .ext (.t 1000103), none, 0⟩,
  ⟨some 107, .ext (.t 2000103), none, 0⟩,
  ⟨some 11, .alloc [.int .i64 0, .int .i64 0, .int .i64 0, .int .i64 0, .int .i64 0, .int .i64 0], none, 0⟩,
  ⟨none, .store 6 (.t 11) (.t 106), none, 0⟩,
  ⟨some 12, .mov (.t 107), none, 0⟩]) (.seq (.seq (.reg [⟨some 108, .flda 4 (.t 4), none, 0⟩,
  ⟨some 109, .load 1 false (.t 108), none, 0⟩,
  ⟨some 110, .bin .mul 0 (.k (.int .i64 2)) (.t 109), none, 0⟩,
  ⟨some 111, .bin .gtr 0 (.t 110) (.k (.int .i64 16)), none, 0⟩]) (.cond (.t 111) (.seq (.reg [⟨some 112, .mov (.t 12), none, 0⟩,
  ⟨some 113, .bin .eql 0 (.t 112) (.k (.int .i64 4)), none, 0⟩,
  ⟨some 2, .mov (.t 113), none, 0⟩]) .ret) .skip)) (.seq (.reg [⟨some 115, .load 6 true (.t 11), none, 0⟩,
  ⟨some 116, .mov (.t 5), none, 0⟩,
  ⟨some 117, .call fn_impl_PgOf [.t 115, .t 116], none, 2⟩,
  ⟨some 114, .tmv 117 2, none, 2⟩,
  ⟨some 118, .ext (.t 1000114), none, 0⟩,
  ⟨some 119, .ext (.t 2000114), none, 0⟩,
  ⟨some 13, .alloc [.int .i64 0, .int .i64 0], none, 0⟩,
  ⟨none, .store 2 (.t 13) (.t 118), none, 0⟩,
  ⟨some 14, .mov (.t 119), none, 0⟩]) (.seq (.reg [⟨some 120, .mov (.t 12), none, 0⟩,
  ⟨some 121, .bin .eql 0 (.t 120) (.k (.int .i64 0)), none, 0⟩,
  ⟨some 122, .mov (.t 121), none, 0⟩,
  ⟨some 123, .flda 4 (.t 11), some (122, true), 0⟩,
  ⟨some 124, .load 1 false (.t 123), some (122, true), 0⟩,
  ⟨some 125, .flda 4 (.t 4), some (122, true), 0⟩,
  ⟨some 126, .load 1 false (.t 125), some (122, true), 0⟩,
  ⟨some 127, .bin .mul 0 (.k (.int .i64 2)) (.t 126), some (122, true), 0⟩,
  ⟨some 128, .bin .eql 0 (.t 124) (.t 127), some (122, true), 0⟩,
  ⟨some 129, .pick (.t 122) (.t 128) (.k (.bool false)), none, 0⟩,
  ⟨some 130, .mov (.t 129), none, 0⟩,
  ⟨some 131, .mov (.t 14), some (130, true), 0⟩,
  ⟨some 132, .pick (.t 130) (.t 131) (.k (.bool false)), none, 0⟩,
  ⟨some 133, .mov (.t 132), none, 0⟩,
  ⟨some 134, .flda 0 (.t 13), some (133, true), 0⟩,
  ⟨some 135, .load 1 false (.t 134), some (133, true), 0⟩,
  ⟨some 136, .flda 0 (.t 4), some (133, true), 0⟩,
  ⟨some 137, .load 1 false (.t 136), some (133, true), 0⟩,
  ⟨some 138, .bin .eql 0 (.t 135) (.t 137), some (133, true), 0⟩,
  ⟨some 139, .pick (.t 133) (.t 138) (.k (.bool false)), none, 0⟩,
  ⟨some 140, .mov (.t 139), none, 0⟩,
  ⟨some 141, .flda 1 (.t 13), some (140, true), 0⟩,
  ⟨some 142, .load 1 false (.t 141), some (140, true), 0⟩,
  ⟨some 143, .flda 1 (.t 6), some (140, true), 0⟩,
  ⟨some 144, .load 1 false (.t 143), some (140, true), 0⟩,
  ⟨some 145, .bin .eql 0 (.t 142) (.t 144), some (140, true), 0⟩,
  ⟨some 146, .mov (.t 145), some (140, true), 0⟩,
  ⟨some 147, .flda 1 (.t 13), some (146, false), 0⟩,
  ⟨some 148, .load 1 false (.t 147), some (146, false), 0⟩,
  ⟨some 149, .flda 1 (.t 6), some (146, false), 0⟩,
  ⟨some 150, .load 1 false (.t 149), some (146, false), 0⟩,
  ⟨some 151, .flda 4 (.t 4), some (146, false), 0⟩,
  ⟨some 152, .load 1 false (.t 151), some (146, false), 0⟩,
  ⟨some 153, .bin .add 0 (.t 150) (.t 152), some (146, false), 0⟩,
  ⟨some 154, .bin .eql 0 (.t 148) (.t 153), some (146, false), 0⟩,
  ⟨some 155, .pick (.t 146) (.k (.bool true)) (.t 154), some (140, true), 0⟩,
  ⟨some 156, .pick (.t 140) (.t 155) (.k (.bool false)), none, 0⟩,
  ⟨some 2, .mov (.t 156), none, 0⟩]) .ret))))))))))))),
  [(2, none)]⟩
def table : List (FuncId × PF) := [(fn_impl_between, pf_impl_between), (fn_impl_CodeOk, pf_impl_CodeOk), (fn_impl_Code_size, pf_impl_Code_size), (fn_impl_PoolOk, pf_impl_PoolOk), (fn_impl_Pool_pgs, pf_impl_Pool_pgs), (fn_impl_PgsIn, pf_impl_PgsIn), (fn_P_spec_l00Src_next, pf_P_spec_l00Src_next), (fn_P_spec_l00Src_pick, pf_P_spec_l00Src_pick), (fn_P_spec_l00Src_among, pf_P_spec_l00Src_among), (fn_P_spec_l00Src_one, pf_P_spec_l00Src_one), (fn_spec_l00Own, pf_spec_l00Own), (fn_spec_l06Draw, pf_spec_l06Draw), (fn_spec_A8Tree, pf_spec_A8Tree), (fn_spec_l04Draw, pf_spec_l04Draw), (fn_spec_l09Draw, pf_spec_l09Draw), (fn_spec_A8Pool, pf_spec_A8Pool), (fn_spec_l08Rule, pf_spec_l08Rule), (fn_spec_A8Rule, pf_spec_A8Rule), (fn_spec_A8Name, pf_spec_A8Name), (fn_impl_NameOk, pf_impl_NameOk), (fn_impl_Mix, pf_impl_Mix), (fn_impl_pgOf, pf_impl_pgOf), (fn_impl_PgOf, pf_impl_PgOf), (fn_impl_Split, pf_impl_Split), (fn_laws_FnPgs, pf_laws_FnPgs)]
abbrev CC : Code := codeOf table
theorem prog_impl_between : CC.prog fn_impl_between = some pf_impl_between := by kernel_rfl
@[simp] theorem modes_impl_between : CC.modes fn_impl_between = [.val, .val, .val] := by kernel_rfl
theorem prog_impl_CodeOk : CC.prog fn_impl_CodeOk = some pf_impl_CodeOk := by kernel_rfl
@[simp] theorem modes_impl_CodeOk : CC.modes fn_impl_CodeOk = [.val] := by kernel_rfl
theorem prog_impl_Code_size : CC.prog fn_impl_Code_size = some pf_impl_Code_size := by kernel_rfl
@[simp] theorem modes_impl_Code_size : CC.modes fn_impl_Code_size = [.val] := by kernel_rfl
theorem prog_impl_PoolOk : CC.prog fn_impl_PoolOk = some pf_impl_PoolOk := by kernel_rfl
@[simp] theorem modes_impl_PoolOk : CC.modes fn_impl_PoolOk = [.val] := by kernel_rfl
theorem prog_impl_Pool_pgs : CC.prog fn_impl_Pool_pgs = some pf_impl_Pool_pgs := by kernel_rfl
@[simp] theorem modes_impl_Pool_pgs : CC.modes fn_impl_Pool_pgs = [.val] := by kernel_rfl
theorem prog_impl_PgsIn : CC.prog fn_impl_PgsIn = some pf_impl_PgsIn := by kernel_rfl
@[simp] theorem modes_impl_PgsIn : CC.modes fn_impl_PgsIn = [.val] := by kernel_rfl
theorem prog_P_spec_l00Src_next : CC.prog fn_P_spec_l00Src_next = some pf_P_spec_l00Src_next := by kernel_rfl
@[simp] theorem modes_P_spec_l00Src_next : CC.modes fn_P_spec_l00Src_next = [.io 3] := by kernel_rfl
theorem prog_P_spec_l00Src_pick : CC.prog fn_P_spec_l00Src_pick = some pf_P_spec_l00Src_pick := by kernel_rfl
@[simp] theorem modes_P_spec_l00Src_pick : CC.modes fn_P_spec_l00Src_pick = [.io 3, .val] := by kernel_rfl
theorem prog_P_spec_l00Src_among : CC.prog fn_P_spec_l00Src_among = some pf_P_spec_l00Src_among := by kernel_rfl
@[simp] theorem modes_P_spec_l00Src_among : CC.modes fn_P_spec_l00Src_among = [.io 3, .val] := by kernel_rfl
theorem prog_P_spec_l00Src_one : CC.prog fn_P_spec_l00Src_one = some pf_P_spec_l00Src_one := by kernel_rfl
@[simp] theorem modes_P_spec_l00Src_one : CC.modes fn_P_spec_l00Src_one = [.io 3, .val] := by kernel_rfl
theorem prog_spec_l00Own : CC.prog fn_spec_l00Own = some pf_spec_l00Own := by kernel_rfl
@[simp] theorem modes_spec_l00Own : CC.modes fn_spec_l00Own = [.val] := by kernel_rfl
theorem prog_spec_l06Draw : CC.prog fn_spec_l06Draw = some pf_spec_l06Draw := by kernel_rfl
@[simp] theorem modes_spec_l06Draw : CC.modes fn_spec_l06Draw = [.io 3] := by kernel_rfl
theorem prog_spec_A8Tree : CC.prog fn_spec_A8Tree = some pf_spec_A8Tree := by kernel_rfl
@[simp] theorem modes_spec_A8Tree : CC.modes fn_spec_A8Tree = [.val] := by kernel_rfl
theorem prog_spec_l04Draw : CC.prog fn_spec_l04Draw = some pf_spec_l04Draw := by kernel_rfl
@[simp] theorem modes_spec_l04Draw : CC.modes fn_spec_l04Draw = [.io 3] := by kernel_rfl
theorem prog_spec_l09Draw : CC.prog fn_spec_l09Draw = some pf_spec_l09Draw := by kernel_rfl
@[simp] theorem modes_spec_l09Draw : CC.modes fn_spec_l09Draw = [.io 3] := by kernel_rfl
theorem prog_spec_A8Pool : CC.prog fn_spec_A8Pool = some pf_spec_A8Pool := by kernel_rfl
@[simp] theorem modes_spec_A8Pool : CC.modes fn_spec_A8Pool = [.val, .val] := by kernel_rfl
theorem prog_spec_l08Rule : CC.prog fn_spec_l08Rule = some pf_spec_l08Rule := by kernel_rfl
@[simp] theorem modes_spec_l08Rule : CC.modes fn_spec_l08Rule = [.io 3, .val] := by kernel_rfl
theorem prog_spec_A8Rule : CC.prog fn_spec_A8Rule = some pf_spec_A8Rule := by kernel_rfl
@[simp] theorem modes_spec_A8Rule : CC.modes fn_spec_A8Rule = [.val, .val] := by kernel_rfl
theorem prog_spec_A8Name : CC.prog fn_spec_A8Name = some pf_spec_A8Name := by kernel_rfl
@[simp] theorem modes_spec_A8Name : CC.modes fn_spec_A8Name = [.val] := by kernel_rfl
theorem prog_impl_NameOk : CC.prog fn_impl_NameOk = some pf_impl_NameOk := by kernel_rfl
@[simp] theorem modes_impl_NameOk : CC.modes fn_impl_NameOk = [.val] := by kernel_rfl
theorem prog_impl_Mix : CC.prog fn_impl_Mix = some pf_impl_Mix := by kernel_rfl
@[simp] theorem modes_impl_Mix : CC.modes fn_impl_Mix = [.val] := by kernel_rfl
theorem prog_impl_pgOf : CC.prog fn_impl_pgOf = some pf_impl_pgOf := by kernel_rfl
@[simp] theorem modes_impl_pgOf : CC.modes fn_impl_pgOf = [.val, .val] := by kernel_rfl
theorem prog_impl_PgOf : CC.prog fn_impl_PgOf = some pf_impl_PgOf := by kernel_rfl
@[simp] theorem modes_impl_PgOf : CC.modes fn_impl_PgOf = [.val, .val] := by kernel_rfl
theorem prog_impl_Split : CC.prog fn_impl_Split = some pf_impl_Split := by kernel_rfl
@[simp] theorem modes_impl_Split : CC.modes fn_impl_Split = [.val] := by kernel_rfl
theorem prog_laws_FnPgs : CC.prog fn_laws_FnPgs = some pf_laws_FnPgs := by kernel_rfl
@[simp] theorem modes_laws_FnPgs : CC.modes fn_laws_FnPgs = [.val] := by kernel_rfl
theorem fits : Fits Try.prog CC := fits_of (by kernel_rfl) (by kernel_rfl)
end Go.Proofs.Ytjifplkdfebilaa.Pv
