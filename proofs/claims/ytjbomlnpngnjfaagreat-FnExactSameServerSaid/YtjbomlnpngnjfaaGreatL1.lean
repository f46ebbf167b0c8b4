/- What the functions of a law compute, in the plain reading. No condition. -/
import Derived.Test.YtjbomlnpngnjfaaGreatPf
set_option linter.all false
set_option linter.unusedSimpArgs false
set_option linter.unusedVariables false
set_option linter.unnecessarySimpa false
/- Mirrors of a law's types and their helpers, printed by mir.py. No condition. -/
namespace Go.Proofs.YtjbomlnpngnjfaaGreat.Pv
open Go
set_option maxRecDepth 10000
set_option linter.unusedSimpArgs false
structure M.Ver where
  epoch : Int
  seq : Int
structure M.Ack where
  node : Int
  ver : M.Ver
structure M.Chunk where
  name : ByteArray
  ver : M.Ver
  pos : Int
  sum : Int
  bytes : ByteArray
structure M.Code where
  k : Int
  m : Int
structure M.Req where
  client : Int
  no : Int
structure M.Entry where
  ver : M.Ver
  prior : M.Ver
  name : ByteArray
  gone : Bool
  size : Int
  sum : Int
  req : M.Req
structure M.Head where
  name : ByteArray
  ver : M.Ver
  size : Int
  sum : Int
structure M.Fill where
  node : Int
  pos : Int
  head : M.Head
structure M.Got where
  node : Int
  entry : M.Entry
  chunk : M.Chunk
structure M.Interval where
  first : Int
  last : Int
  acting : List Int
  may : Bool
structure M.Last where
  client : Int
  no : Int
  ver : M.Ver
structure M.Pg where
  pool : Int
  no : Int
structure M.PgState where
  pg : M.Pg
  seen : Int
  started : Int
  tail : M.Ver
  base : List M.Head
  clients : List M.Last
  log : List M.Entry
  firm : M.Ver
  chunks : List M.Chunk
structure M.Notice where
  from_ : Int
  state : M.PgState
structure M.Way where
  entry : M.Entry
  body : ByteArray
structure M.Wait where
  req : M.Req
  name : ByteArray
  ver : M.Ver
  got : List M.Got
structure M.Line where
  epoch : Int
  code : M.Code
  acting : List Int
  state : M.PgState
  way : List M.Way
  acks : List M.Ack
  waits : List M.Wait
structure M.Lead where
  pg : M.Pg
  epoch : Int
  phase : Int
  code : M.Code
  acting : List Int
  ivs : List M.Interval
  heard : List M.Notice
  pick : M.PgState
  fills : List M.Fill
  have_ : List M.Chunk
  ready : List Int
  line : M.Line
structure M.Op where
  kind : Int
  at_ : Int
  bytes : ByteArray
structure M.Msg where
  kind : Int
  from_ : Int
  to : Int
  pg : M.Pg
  epoch : Int
  name : ByteArray
  ver : M.Ver
  firm : M.Ver
  state : M.PgState
  entry : M.Entry
  chunk : M.Chunk
  op : M.Op
  req : M.Req
  code : Int
  body : ByteArray
structure M.Store where
  live : List M.PgState
  kept : List M.PgState
structure M.Server where
  id : Int
  epoch : Int
  alive : Bool
  store : M.Store
  leads : List M.Lead
  out : List M.Msg
def M.tyAck : Bool → TypeId
  | true => ty_impl_Ack
  | false => ty_laws_Ack
@[simp] theorem M.tyAck_t : M.tyAck true = ty_impl_Ack := rfl
@[simp] theorem M.tyAck_f : M.tyAck false = ty_laws_Ack := rfl
def M.tyChunk : Bool → TypeId
  | true => ty_impl_Chunk
  | false => ty_laws_Chunk
@[simp] theorem M.tyChunk_t : M.tyChunk true = ty_impl_Chunk := rfl
@[simp] theorem M.tyChunk_f : M.tyChunk false = ty_laws_Chunk := rfl
def M.tyEntry : Bool → TypeId
  | true => ty_impl_Entry
  | false => ty_laws_Entry
@[simp] theorem M.tyEntry_t : M.tyEntry true = ty_impl_Entry := rfl
@[simp] theorem M.tyEntry_f : M.tyEntry false = ty_laws_Entry := rfl
def M.tyHead : Bool → TypeId
  | true => ty_impl_Head
  | false => ty_laws_Head
@[simp] theorem M.tyHead_t : M.tyHead true = ty_impl_Head := rfl
@[simp] theorem M.tyHead_f : M.tyHead false = ty_laws_Head := rfl
def M.tyFill : Bool → TypeId
  | true => ty_impl_Fill
  | false => ty_laws_Fill
@[simp] theorem M.tyFill_t : M.tyFill true = ty_impl_Fill := rfl
@[simp] theorem M.tyFill_f : M.tyFill false = ty_laws_Fill := rfl
def M.tyGot : Bool → TypeId
  | true => ty_impl_Got
  | false => ty_laws_Got
@[simp] theorem M.tyGot_t : M.tyGot true = ty_impl_Got := rfl
@[simp] theorem M.tyGot_f : M.tyGot false = ty_laws_Got := rfl
def M.tyInterval : Bool → TypeId
  | true => ty_impl_Interval
  | false => ty_laws_Interval
@[simp] theorem M.tyInterval_t : M.tyInterval true = ty_impl_Interval := rfl
@[simp] theorem M.tyInterval_f : M.tyInterval false = ty_laws_Interval := rfl
def M.tyLast : Bool → TypeId
  | true => ty_impl_Last
  | false => ty_laws_Last
@[simp] theorem M.tyLast_t : M.tyLast true = ty_impl_Last := rfl
@[simp] theorem M.tyLast_f : M.tyLast false = ty_laws_Last := rfl
def M.tyPgState : Bool → TypeId
  | true => ty_impl_PgState
  | false => ty_laws_PgState
@[simp] theorem M.tyPgState_t : M.tyPgState true = ty_impl_PgState := rfl
@[simp] theorem M.tyPgState_f : M.tyPgState false = ty_laws_PgState := rfl
def M.tyNotice : Bool → TypeId
  | true => ty_impl_Notice
  | false => ty_laws_Notice
@[simp] theorem M.tyNotice_t : M.tyNotice true = ty_impl_Notice := rfl
@[simp] theorem M.tyNotice_f : M.tyNotice false = ty_laws_Notice := rfl
def M.tyWay : Bool → TypeId
  | true => ty_impl_Way
  | false => ty_laws_Way
@[simp] theorem M.tyWay_t : M.tyWay true = ty_impl_Way := rfl
@[simp] theorem M.tyWay_f : M.tyWay false = ty_laws_Way := rfl
def M.tyWait : Bool → TypeId
  | true => ty_impl_Wait
  | false => ty_laws_Wait
@[simp] theorem M.tyWait_t : M.tyWait true = ty_impl_Wait := rfl
@[simp] theorem M.tyWait_f : M.tyWait false = ty_laws_Wait := rfl
def M.tyLead : Bool → TypeId
  | true => ty_impl_Lead
  | false => ty_laws_Lead
@[simp] theorem M.tyLead_t : M.tyLead true = ty_impl_Lead := rfl
@[simp] theorem M.tyLead_f : M.tyLead false = ty_laws_Lead := rfl
def M.tyMsg : Bool → TypeId
  | true => ty_impl_Msg
  | false => ty_laws_Msg
@[simp] theorem M.tyMsg_t : M.tyMsg true = ty_impl_Msg := rfl
@[simp] theorem M.tyMsg_f : M.tyMsg false = ty_laws_Msg := rfl
def M.verV (a : M.Ver) : PV := .agg [.int .i64 a.epoch, .int .i64 a.seq]
@[simp] theorem M.demL_verV : ∀ xs : List M.Ver, demL (xs.map (M.verV)) = xs.map (M.verV)
  | [] => rfl
  | a :: xs => by simp [M.demL_verV xs, M.verV]
@[simp] theorem M.own_verV : ∀ xs : List M.Ver, allOwnL (xs.map (M.verV)) = true
  | [] => rfl
  | a :: xs => by simp [M.own_verV xs, M.verV]
@[simp] theorem M.noRef_verV : ∀ xs : List M.Ver, noRefL (xs.map (M.verV)) = true
  | [] => rfl
  | a :: xs => by simp [M.noRef_verV xs, M.verV]
@[simp] theorem M.flat_verV : ∀ xs : List M.Ver, flatL (xs.map (M.verV)) = true
  | [] => rfl
  | a :: xs => by simp [M.flat_verV xs, M.verV, PV.flat]
def M.ackV (a : M.Ack) : PV := .agg [.int .i64 a.node, .int .i64 a.ver.epoch, .int .i64 a.ver.seq]
@[simp] theorem M.demL_ackV : ∀ xs : List M.Ack, demL (xs.map (M.ackV)) = xs.map (M.ackV)
  | [] => rfl
  | a :: xs => by simp [M.demL_ackV xs, M.ackV]
@[simp] theorem M.own_ackV : ∀ xs : List M.Ack, allOwnL (xs.map (M.ackV)) = true
  | [] => rfl
  | a :: xs => by simp [M.own_ackV xs, M.ackV]
@[simp] theorem M.noRef_ackV : ∀ xs : List M.Ack, noRefL (xs.map (M.ackV)) = true
  | [] => rfl
  | a :: xs => by simp [M.noRef_ackV xs, M.ackV]
@[simp] theorem M.flat_ackV : ∀ xs : List M.Ack, flatL (xs.map (M.ackV)) = true
  | [] => rfl
  | a :: xs => by simp [M.flat_ackV xs, M.ackV, PV.flat]
def M.chunkV (a : M.Chunk) : PV := .agg [.str a.name, .int .i64 a.ver.epoch, .int .i64 a.ver.seq, .int .i64 a.pos, .int .i64 a.sum, .str a.bytes]
@[simp] theorem M.demL_chunkV : ∀ xs : List M.Chunk, demL (xs.map (M.chunkV)) = xs.map (M.chunkV)
  | [] => rfl
  | a :: xs => by simp [M.demL_chunkV xs, M.chunkV]
@[simp] theorem M.own_chunkV : ∀ xs : List M.Chunk, allOwnL (xs.map (M.chunkV)) = true
  | [] => rfl
  | a :: xs => by simp [M.own_chunkV xs, M.chunkV]
@[simp] theorem M.noRef_chunkV : ∀ xs : List M.Chunk, noRefL (xs.map (M.chunkV)) = true
  | [] => rfl
  | a :: xs => by simp [M.noRef_chunkV xs, M.chunkV]
@[simp] theorem M.flat_chunkV : ∀ xs : List M.Chunk, flatL (xs.map (M.chunkV)) = true
  | [] => rfl
  | a :: xs => by simp [M.flat_chunkV xs, M.chunkV, PV.flat]
def M.codeV (a : M.Code) : PV := .agg [.int .i64 a.k, .int .i64 a.m]
@[simp] theorem M.demL_codeV : ∀ xs : List M.Code, demL (xs.map (M.codeV)) = xs.map (M.codeV)
  | [] => rfl
  | a :: xs => by simp [M.demL_codeV xs, M.codeV]
@[simp] theorem M.own_codeV : ∀ xs : List M.Code, allOwnL (xs.map (M.codeV)) = true
  | [] => rfl
  | a :: xs => by simp [M.own_codeV xs, M.codeV]
@[simp] theorem M.noRef_codeV : ∀ xs : List M.Code, noRefL (xs.map (M.codeV)) = true
  | [] => rfl
  | a :: xs => by simp [M.noRef_codeV xs, M.codeV]
@[simp] theorem M.flat_codeV : ∀ xs : List M.Code, flatL (xs.map (M.codeV)) = true
  | [] => rfl
  | a :: xs => by simp [M.flat_codeV xs, M.codeV, PV.flat]
def M.reqV (a : M.Req) : PV := .agg [.int .i64 a.client, .int .i64 a.no]
@[simp] theorem M.demL_reqV : ∀ xs : List M.Req, demL (xs.map (M.reqV)) = xs.map (M.reqV)
  | [] => rfl
  | a :: xs => by simp [M.demL_reqV xs, M.reqV]
@[simp] theorem M.own_reqV : ∀ xs : List M.Req, allOwnL (xs.map (M.reqV)) = true
  | [] => rfl
  | a :: xs => by simp [M.own_reqV xs, M.reqV]
@[simp] theorem M.noRef_reqV : ∀ xs : List M.Req, noRefL (xs.map (M.reqV)) = true
  | [] => rfl
  | a :: xs => by simp [M.noRef_reqV xs, M.reqV]
@[simp] theorem M.flat_reqV : ∀ xs : List M.Req, flatL (xs.map (M.reqV)) = true
  | [] => rfl
  | a :: xs => by simp [M.flat_reqV xs, M.reqV, PV.flat]
def M.entryV (a : M.Entry) : PV := .agg [.int .i64 a.ver.epoch, .int .i64 a.ver.seq, .int .i64 a.prior.epoch, .int .i64 a.prior.seq, .str a.name, .bool a.gone, .int .i64 a.size, .int .i64 a.sum, .int .i64 a.req.client, .int .i64 a.req.no]
@[simp] theorem M.demL_entryV : ∀ xs : List M.Entry, demL (xs.map (M.entryV)) = xs.map (M.entryV)
  | [] => rfl
  | a :: xs => by simp [M.demL_entryV xs, M.entryV]
@[simp] theorem M.own_entryV : ∀ xs : List M.Entry, allOwnL (xs.map (M.entryV)) = true
  | [] => rfl
  | a :: xs => by simp [M.own_entryV xs, M.entryV]
@[simp] theorem M.noRef_entryV : ∀ xs : List M.Entry, noRefL (xs.map (M.entryV)) = true
  | [] => rfl
  | a :: xs => by simp [M.noRef_entryV xs, M.entryV]
@[simp] theorem M.flat_entryV : ∀ xs : List M.Entry, flatL (xs.map (M.entryV)) = true
  | [] => rfl
  | a :: xs => by simp [M.flat_entryV xs, M.entryV, PV.flat]
def M.headV (a : M.Head) : PV := .agg [.str a.name, .int .i64 a.ver.epoch, .int .i64 a.ver.seq, .int .i64 a.size, .int .i64 a.sum]
@[simp] theorem M.demL_headV : ∀ xs : List M.Head, demL (xs.map (M.headV)) = xs.map (M.headV)
  | [] => rfl
  | a :: xs => by simp [M.demL_headV xs, M.headV]
@[simp] theorem M.own_headV : ∀ xs : List M.Head, allOwnL (xs.map (M.headV)) = true
  | [] => rfl
  | a :: xs => by simp [M.own_headV xs, M.headV]
@[simp] theorem M.noRef_headV : ∀ xs : List M.Head, noRefL (xs.map (M.headV)) = true
  | [] => rfl
  | a :: xs => by simp [M.noRef_headV xs, M.headV]
@[simp] theorem M.flat_headV : ∀ xs : List M.Head, flatL (xs.map (M.headV)) = true
  | [] => rfl
  | a :: xs => by simp [M.flat_headV xs, M.headV, PV.flat]
def M.fillV (a : M.Fill) : PV := .agg [.int .i64 a.node, .int .i64 a.pos, .str a.head.name, .int .i64 a.head.ver.epoch, .int .i64 a.head.ver.seq, .int .i64 a.head.size, .int .i64 a.head.sum]
@[simp] theorem M.demL_fillV : ∀ xs : List M.Fill, demL (xs.map (M.fillV)) = xs.map (M.fillV)
  | [] => rfl
  | a :: xs => by simp [M.demL_fillV xs, M.fillV]
@[simp] theorem M.own_fillV : ∀ xs : List M.Fill, allOwnL (xs.map (M.fillV)) = true
  | [] => rfl
  | a :: xs => by simp [M.own_fillV xs, M.fillV]
@[simp] theorem M.noRef_fillV : ∀ xs : List M.Fill, noRefL (xs.map (M.fillV)) = true
  | [] => rfl
  | a :: xs => by simp [M.noRef_fillV xs, M.fillV]
@[simp] theorem M.flat_fillV : ∀ xs : List M.Fill, flatL (xs.map (M.fillV)) = true
  | [] => rfl
  | a :: xs => by simp [M.flat_fillV xs, M.fillV, PV.flat]
def M.gotV (a : M.Got) : PV := .agg [.int .i64 a.node, .int .i64 a.entry.ver.epoch, .int .i64 a.entry.ver.seq, .int .i64 a.entry.prior.epoch, .int .i64 a.entry.prior.seq, .str a.entry.name, .bool a.entry.gone, .int .i64 a.entry.size, .int .i64 a.entry.sum, .int .i64 a.entry.req.client, .int .i64 a.entry.req.no, .str a.chunk.name, .int .i64 a.chunk.ver.epoch, .int .i64 a.chunk.ver.seq, .int .i64 a.chunk.pos, .int .i64 a.chunk.sum, .str a.chunk.bytes]
@[simp] theorem M.demL_gotV : ∀ xs : List M.Got, demL (xs.map (M.gotV)) = xs.map (M.gotV)
  | [] => rfl
  | a :: xs => by simp [M.demL_gotV xs, M.gotV]
@[simp] theorem M.own_gotV : ∀ xs : List M.Got, allOwnL (xs.map (M.gotV)) = true
  | [] => rfl
  | a :: xs => by simp [M.own_gotV xs, M.gotV]
@[simp] theorem M.noRef_gotV : ∀ xs : List M.Got, noRefL (xs.map (M.gotV)) = true
  | [] => rfl
  | a :: xs => by simp [M.noRef_gotV xs, M.gotV]
@[simp] theorem M.flat_gotV : ∀ xs : List M.Got, flatL (xs.map (M.gotV)) = true
  | [] => rfl
  | a :: xs => by simp [M.flat_gotV xs, M.gotV, PV.flat]
def M.intervalV (fl : Nat) (q : Bool) (a : M.Interval) : PV := .agg [.int .i64 a.first, .int .i64 a.last, .sl fl ty_int64 (a.acting.map (PV.int .i64)), .bool a.may]
@[simp] theorem M.demL_intervalV {fl : Nat} {q : Bool} : ∀ xs : List M.Interval, demL (xs.map (M.intervalV fl q)) = xs.map (M.intervalV 0 q)
  | [] => rfl
  | a :: xs => by simp [M.demL_intervalV xs, M.intervalV]
@[simp] theorem M.own_intervalV {q : Bool} : ∀ xs : List M.Interval, allOwnL (xs.map (M.intervalV 2 q)) = true
  | [] => rfl
  | a :: xs => by simp [M.own_intervalV xs, M.intervalV]
@[simp] theorem M.noRef_intervalV {fl : Nat} {q : Bool} : ∀ xs : List M.Interval, noRefL (xs.map (M.intervalV fl q)) = true
  | [] => rfl
  | a :: xs => by simp [M.noRef_intervalV xs, M.intervalV]
def M.lastV (a : M.Last) : PV := .agg [.int .i64 a.client, .int .i64 a.no, .int .i64 a.ver.epoch, .int .i64 a.ver.seq]
@[simp] theorem M.demL_lastV : ∀ xs : List M.Last, demL (xs.map (M.lastV)) = xs.map (M.lastV)
  | [] => rfl
  | a :: xs => by simp [M.demL_lastV xs, M.lastV]
@[simp] theorem M.own_lastV : ∀ xs : List M.Last, allOwnL (xs.map (M.lastV)) = true
  | [] => rfl
  | a :: xs => by simp [M.own_lastV xs, M.lastV]
@[simp] theorem M.noRef_lastV : ∀ xs : List M.Last, noRefL (xs.map (M.lastV)) = true
  | [] => rfl
  | a :: xs => by simp [M.noRef_lastV xs, M.lastV]
@[simp] theorem M.flat_lastV : ∀ xs : List M.Last, flatL (xs.map (M.lastV)) = true
  | [] => rfl
  | a :: xs => by simp [M.flat_lastV xs, M.lastV, PV.flat]
def M.pgV (a : M.Pg) : PV := .agg [.int .i64 a.pool, .int .i64 a.no]
@[simp] theorem M.demL_pgV : ∀ xs : List M.Pg, demL (xs.map (M.pgV)) = xs.map (M.pgV)
  | [] => rfl
  | a :: xs => by simp [M.demL_pgV xs, M.pgV]
@[simp] theorem M.own_pgV : ∀ xs : List M.Pg, allOwnL (xs.map (M.pgV)) = true
  | [] => rfl
  | a :: xs => by simp [M.own_pgV xs, M.pgV]
@[simp] theorem M.noRef_pgV : ∀ xs : List M.Pg, noRefL (xs.map (M.pgV)) = true
  | [] => rfl
  | a :: xs => by simp [M.noRef_pgV xs, M.pgV]
@[simp] theorem M.flat_pgV : ∀ xs : List M.Pg, flatL (xs.map (M.pgV)) = true
  | [] => rfl
  | a :: xs => by simp [M.flat_pgV xs, M.pgV, PV.flat]
def M.pgStateV (fl : Nat) (q : Bool) (a : M.PgState) : PV := .agg [.int .i64 a.pg.pool, .int .i64 a.pg.no, .int .i64 a.seen, .int .i64 a.started, .int .i64 a.tail.epoch, .int .i64 a.tail.seq, .sl fl (M.tyHead q) (a.base.map (M.headV)), .sl fl (M.tyLast q) (a.clients.map (M.lastV)), .sl fl (M.tyEntry q) (a.log.map (M.entryV)), .int .i64 a.firm.epoch, .int .i64 a.firm.seq, .sl fl (M.tyChunk q) (a.chunks.map (M.chunkV))]
@[simp] theorem M.demL_pgStateV {fl : Nat} {q : Bool} : ∀ xs : List M.PgState, demL (xs.map (M.pgStateV fl q)) = xs.map (M.pgStateV 0 q)
  | [] => rfl
  | a :: xs => by simp [M.demL_pgStateV xs, M.pgStateV]
@[simp] theorem M.own_pgStateV {q : Bool} : ∀ xs : List M.PgState, allOwnL (xs.map (M.pgStateV 2 q)) = true
  | [] => rfl
  | a :: xs => by simp [M.own_pgStateV xs, M.pgStateV]
@[simp] theorem M.noRef_pgStateV {fl : Nat} {q : Bool} : ∀ xs : List M.PgState, noRefL (xs.map (M.pgStateV fl q)) = true
  | [] => rfl
  | a :: xs => by simp [M.noRef_pgStateV xs, M.pgStateV]
def M.noticeV (fl : Nat) (q : Bool) (a : M.Notice) : PV := .agg [.int .i64 a.from_, .int .i64 a.state.pg.pool, .int .i64 a.state.pg.no, .int .i64 a.state.seen, .int .i64 a.state.started, .int .i64 a.state.tail.epoch, .int .i64 a.state.tail.seq, .sl fl (M.tyHead q) (a.state.base.map (M.headV)), .sl fl (M.tyLast q) (a.state.clients.map (M.lastV)), .sl fl (M.tyEntry q) (a.state.log.map (M.entryV)), .int .i64 a.state.firm.epoch, .int .i64 a.state.firm.seq, .sl fl (M.tyChunk q) (a.state.chunks.map (M.chunkV))]
@[simp] theorem M.demL_noticeV {fl : Nat} {q : Bool} : ∀ xs : List M.Notice, demL (xs.map (M.noticeV fl q)) = xs.map (M.noticeV 0 q)
  | [] => rfl
  | a :: xs => by simp [M.demL_noticeV xs, M.noticeV]
@[simp] theorem M.own_noticeV {q : Bool} : ∀ xs : List M.Notice, allOwnL (xs.map (M.noticeV 2 q)) = true
  | [] => rfl
  | a :: xs => by simp [M.own_noticeV xs, M.noticeV]
@[simp] theorem M.noRef_noticeV {fl : Nat} {q : Bool} : ∀ xs : List M.Notice, noRefL (xs.map (M.noticeV fl q)) = true
  | [] => rfl
  | a :: xs => by simp [M.noRef_noticeV xs, M.noticeV]
def M.wayV (a : M.Way) : PV := .agg [.int .i64 a.entry.ver.epoch, .int .i64 a.entry.ver.seq, .int .i64 a.entry.prior.epoch, .int .i64 a.entry.prior.seq, .str a.entry.name, .bool a.entry.gone, .int .i64 a.entry.size, .int .i64 a.entry.sum, .int .i64 a.entry.req.client, .int .i64 a.entry.req.no, .str a.body]
@[simp] theorem M.demL_wayV : ∀ xs : List M.Way, demL (xs.map (M.wayV)) = xs.map (M.wayV)
  | [] => rfl
  | a :: xs => by simp [M.demL_wayV xs, M.wayV]
@[simp] theorem M.own_wayV : ∀ xs : List M.Way, allOwnL (xs.map (M.wayV)) = true
  | [] => rfl
  | a :: xs => by simp [M.own_wayV xs, M.wayV]
@[simp] theorem M.noRef_wayV : ∀ xs : List M.Way, noRefL (xs.map (M.wayV)) = true
  | [] => rfl
  | a :: xs => by simp [M.noRef_wayV xs, M.wayV]
@[simp] theorem M.flat_wayV : ∀ xs : List M.Way, flatL (xs.map (M.wayV)) = true
  | [] => rfl
  | a :: xs => by simp [M.flat_wayV xs, M.wayV, PV.flat]
def M.waitV (fl : Nat) (q : Bool) (a : M.Wait) : PV := .agg [.int .i64 a.req.client, .int .i64 a.req.no, .str a.name, .int .i64 a.ver.epoch, .int .i64 a.ver.seq, .sl fl (M.tyGot q) (a.got.map (M.gotV))]
@[simp] theorem M.demL_waitV {fl : Nat} {q : Bool} : ∀ xs : List M.Wait, demL (xs.map (M.waitV fl q)) = xs.map (M.waitV 0 q)
  | [] => rfl
  | a :: xs => by simp [M.demL_waitV xs, M.waitV]
@[simp] theorem M.own_waitV {q : Bool} : ∀ xs : List M.Wait, allOwnL (xs.map (M.waitV 2 q)) = true
  | [] => rfl
  | a :: xs => by simp [M.own_waitV xs, M.waitV]
@[simp] theorem M.noRef_waitV {fl : Nat} {q : Bool} : ∀ xs : List M.Wait, noRefL (xs.map (M.waitV fl q)) = true
  | [] => rfl
  | a :: xs => by simp [M.noRef_waitV xs, M.waitV]
def M.lineV (fl : Nat) (q : Bool) (a : M.Line) : PV := .agg [.int .i64 a.epoch, .int .i64 a.code.k, .int .i64 a.code.m, .sl fl ty_int64 (a.acting.map (PV.int .i64)), .int .i64 a.state.pg.pool, .int .i64 a.state.pg.no, .int .i64 a.state.seen, .int .i64 a.state.started, .int .i64 a.state.tail.epoch, .int .i64 a.state.tail.seq, .sl fl (M.tyHead q) (a.state.base.map (M.headV)), .sl fl (M.tyLast q) (a.state.clients.map (M.lastV)), .sl fl (M.tyEntry q) (a.state.log.map (M.entryV)), .int .i64 a.state.firm.epoch, .int .i64 a.state.firm.seq, .sl fl (M.tyChunk q) (a.state.chunks.map (M.chunkV)), .sl fl (M.tyWay q) (a.way.map (M.wayV)), .sl fl (M.tyAck q) (a.acks.map (M.ackV)), .sl fl (M.tyWait q) (a.waits.map (M.waitV fl q))]
@[simp] theorem M.demL_lineV {fl : Nat} {q : Bool} : ∀ xs : List M.Line, demL (xs.map (M.lineV fl q)) = xs.map (M.lineV 0 q)
  | [] => rfl
  | a :: xs => by simp [M.demL_lineV xs, M.lineV]
@[simp] theorem M.own_lineV {q : Bool} : ∀ xs : List M.Line, allOwnL (xs.map (M.lineV 2 q)) = true
  | [] => rfl
  | a :: xs => by simp [M.own_lineV xs, M.lineV]
@[simp] theorem M.noRef_lineV {fl : Nat} {q : Bool} : ∀ xs : List M.Line, noRefL (xs.map (M.lineV fl q)) = true
  | [] => rfl
  | a :: xs => by simp [M.noRef_lineV xs, M.lineV]
def M.leadV (fl : Nat) (q : Bool) (a : M.Lead) : PV := .agg [.int .i64 a.pg.pool, .int .i64 a.pg.no, .int .i64 a.epoch, .int .i64 a.phase, .int .i64 a.code.k, .int .i64 a.code.m, .sl fl ty_int64 (a.acting.map (PV.int .i64)), .sl fl (M.tyInterval q) (a.ivs.map (M.intervalV fl q)), .sl fl (M.tyNotice q) (a.heard.map (M.noticeV fl q)), .int .i64 a.pick.pg.pool, .int .i64 a.pick.pg.no, .int .i64 a.pick.seen, .int .i64 a.pick.started, .int .i64 a.pick.tail.epoch, .int .i64 a.pick.tail.seq, .sl fl (M.tyHead q) (a.pick.base.map (M.headV)), .sl fl (M.tyLast q) (a.pick.clients.map (M.lastV)), .sl fl (M.tyEntry q) (a.pick.log.map (M.entryV)), .int .i64 a.pick.firm.epoch, .int .i64 a.pick.firm.seq, .sl fl (M.tyChunk q) (a.pick.chunks.map (M.chunkV)), .sl fl (M.tyFill q) (a.fills.map (M.fillV)), .sl fl (M.tyChunk q) (a.have_.map (M.chunkV)), .sl fl ty_int64 (a.ready.map (PV.int .i64)), .int .i64 a.line.epoch, .int .i64 a.line.code.k, .int .i64 a.line.code.m, .sl fl ty_int64 (a.line.acting.map (PV.int .i64)), .int .i64 a.line.state.pg.pool, .int .i64 a.line.state.pg.no, .int .i64 a.line.state.seen, .int .i64 a.line.state.started, .int .i64 a.line.state.tail.epoch, .int .i64 a.line.state.tail.seq, .sl fl (M.tyHead q) (a.line.state.base.map (M.headV)), .sl fl (M.tyLast q) (a.line.state.clients.map (M.lastV)), .sl fl (M.tyEntry q) (a.line.state.log.map (M.entryV)), .int .i64 a.line.state.firm.epoch, .int .i64 a.line.state.firm.seq, .sl fl (M.tyChunk q) (a.line.state.chunks.map (M.chunkV)), .sl fl (M.tyWay q) (a.line.way.map (M.wayV)), .sl fl (M.tyAck q) (a.line.acks.map (M.ackV)), .sl fl (M.tyWait q) (a.line.waits.map (M.waitV fl q))]
@[simp] theorem M.demL_leadV {fl : Nat} {q : Bool} : ∀ xs : List M.Lead, demL (xs.map (M.leadV fl q)) = xs.map (M.leadV 0 q)
  | [] => rfl
  | a :: xs => by simp [M.demL_leadV xs, M.leadV]
@[simp] theorem M.own_leadV {q : Bool} : ∀ xs : List M.Lead, allOwnL (xs.map (M.leadV 2 q)) = true
  | [] => rfl
  | a :: xs => by simp [M.own_leadV xs, M.leadV]
@[simp] theorem M.noRef_leadV {fl : Nat} {q : Bool} : ∀ xs : List M.Lead, noRefL (xs.map (M.leadV fl q)) = true
  | [] => rfl
  | a :: xs => by simp [M.noRef_leadV xs, M.leadV]
def M.opV (a : M.Op) : PV := .agg [.int .i64 a.kind, .int .i64 a.at_, .str a.bytes]
@[simp] theorem M.demL_opV : ∀ xs : List M.Op, demL (xs.map (M.opV)) = xs.map (M.opV)
  | [] => rfl
  | a :: xs => by simp [M.demL_opV xs, M.opV]
@[simp] theorem M.own_opV : ∀ xs : List M.Op, allOwnL (xs.map (M.opV)) = true
  | [] => rfl
  | a :: xs => by simp [M.own_opV xs, M.opV]
@[simp] theorem M.noRef_opV : ∀ xs : List M.Op, noRefL (xs.map (M.opV)) = true
  | [] => rfl
  | a :: xs => by simp [M.noRef_opV xs, M.opV]
@[simp] theorem M.flat_opV : ∀ xs : List M.Op, flatL (xs.map (M.opV)) = true
  | [] => rfl
  | a :: xs => by simp [M.flat_opV xs, M.opV, PV.flat]
def M.msgV (fl : Nat) (q : Bool) (a : M.Msg) : PV := .agg [.int .i64 a.kind, .int .i64 a.from_, .int .i64 a.to, .int .i64 a.pg.pool, .int .i64 a.pg.no, .int .i64 a.epoch, .str a.name, .int .i64 a.ver.epoch, .int .i64 a.ver.seq, .int .i64 a.firm.epoch, .int .i64 a.firm.seq, .int .i64 a.state.pg.pool, .int .i64 a.state.pg.no, .int .i64 a.state.seen, .int .i64 a.state.started, .int .i64 a.state.tail.epoch, .int .i64 a.state.tail.seq, .sl fl (M.tyHead q) (a.state.base.map (M.headV)), .sl fl (M.tyLast q) (a.state.clients.map (M.lastV)), .sl fl (M.tyEntry q) (a.state.log.map (M.entryV)), .int .i64 a.state.firm.epoch, .int .i64 a.state.firm.seq, .sl fl (M.tyChunk q) (a.state.chunks.map (M.chunkV)), .int .i64 a.entry.ver.epoch, .int .i64 a.entry.ver.seq, .int .i64 a.entry.prior.epoch, .int .i64 a.entry.prior.seq, .str a.entry.name, .bool a.entry.gone, .int .i64 a.entry.size, .int .i64 a.entry.sum, .int .i64 a.entry.req.client, .int .i64 a.entry.req.no, .str a.chunk.name, .int .i64 a.chunk.ver.epoch, .int .i64 a.chunk.ver.seq, .int .i64 a.chunk.pos, .int .i64 a.chunk.sum, .str a.chunk.bytes, .int .i64 a.op.kind, .int .i64 a.op.at_, .str a.op.bytes, .int .i64 a.req.client, .int .i64 a.req.no, .int .i64 a.code, .str a.body]
@[simp] theorem M.demL_msgV {fl : Nat} {q : Bool} : ∀ xs : List M.Msg, demL (xs.map (M.msgV fl q)) = xs.map (M.msgV 0 q)
  | [] => rfl
  | a :: xs => by simp [M.demL_msgV xs, M.msgV]
@[simp] theorem M.own_msgV {q : Bool} : ∀ xs : List M.Msg, allOwnL (xs.map (M.msgV 2 q)) = true
  | [] => rfl
  | a :: xs => by simp [M.own_msgV xs, M.msgV]
@[simp] theorem M.noRef_msgV {fl : Nat} {q : Bool} : ∀ xs : List M.Msg, noRefL (xs.map (M.msgV fl q)) = true
  | [] => rfl
  | a :: xs => by simp [M.noRef_msgV xs, M.msgV]
def M.storeV (fl : Nat) (q : Bool) (a : M.Store) : PV := .agg [.sl fl (M.tyPgState q) (a.live.map (M.pgStateV fl q)), .sl fl (M.tyPgState q) (a.kept.map (M.pgStateV fl q))]
@[simp] theorem M.demL_storeV {fl : Nat} {q : Bool} : ∀ xs : List M.Store, demL (xs.map (M.storeV fl q)) = xs.map (M.storeV 0 q)
  | [] => rfl
  | a :: xs => by simp [M.demL_storeV xs, M.storeV]
@[simp] theorem M.own_storeV {q : Bool} : ∀ xs : List M.Store, allOwnL (xs.map (M.storeV 2 q)) = true
  | [] => rfl
  | a :: xs => by simp [M.own_storeV xs, M.storeV]
@[simp] theorem M.noRef_storeV {fl : Nat} {q : Bool} : ∀ xs : List M.Store, noRefL (xs.map (M.storeV fl q)) = true
  | [] => rfl
  | a :: xs => by simp [M.noRef_storeV xs, M.storeV]
def M.serverV (fl : Nat) (q : Bool) (a : M.Server) : PV := .agg [.int .i64 a.id, .int .i64 a.epoch, .bool a.alive, .sl fl (M.tyPgState q) (a.store.live.map (M.pgStateV fl q)), .sl fl (M.tyPgState q) (a.store.kept.map (M.pgStateV fl q)), .sl fl (M.tyLead q) (a.leads.map (M.leadV fl q)), .sl fl (M.tyMsg q) (a.out.map (M.msgV fl q))]
@[simp] theorem M.demL_serverV {fl : Nat} {q : Bool} : ∀ xs : List M.Server, demL (xs.map (M.serverV fl q)) = xs.map (M.serverV 0 q)
  | [] => rfl
  | a :: xs => by simp [M.demL_serverV xs, M.serverV]
@[simp] theorem M.own_serverV {q : Bool} : ∀ xs : List M.Server, allOwnL (xs.map (M.serverV 2 q)) = true
  | [] => rfl
  | a :: xs => by simp [M.own_serverV xs, M.serverV]
@[simp] theorem M.noRef_serverV {fl : Nat} {q : Bool} : ∀ xs : List M.Server, noRefL (xs.map (M.serverV fl q)) = true
  | [] => rfl
  | a :: xs => by simp [M.noRef_serverV xs, M.serverV]
def M.needChunk (a : M.Chunk) : Nat := a.name.size + a.bytes.size
def M.needEntry (a : M.Entry) : Nat := a.name.size
def M.needHead (a : M.Head) : Nat := a.name.size
def M.needFill (a : M.Fill) : Nat := M.needHead a.head
def M.needGot (a : M.Got) : Nat := M.needEntry a.entry + M.needChunk a.chunk
def M.needInterval (a : M.Interval) : Nat := (a.acting.length)
def M.needPgState (a : M.PgState) : Nat := (a.base.length + sumN M.needHead a.base) + (a.clients.length) + (a.log.length + sumN M.needEntry a.log) + (a.chunks.length + sumN M.needChunk a.chunks)
def M.needNotice (a : M.Notice) : Nat := M.needPgState a.state
def M.needWay (a : M.Way) : Nat := M.needEntry a.entry + a.body.size
def M.needWait (a : M.Wait) : Nat := a.name.size + (a.got.length + sumN M.needGot a.got)
def M.needLine (a : M.Line) : Nat := (a.acting.length) + M.needPgState a.state + (a.way.length + sumN M.needWay a.way) + (a.acks.length) + (a.waits.length + sumN M.needWait a.waits)
def M.needLead (a : M.Lead) : Nat := (a.acting.length) + (a.ivs.length + sumN M.needInterval a.ivs) + (a.heard.length + sumN M.needNotice a.heard) + M.needPgState a.pick + (a.fills.length + sumN M.needFill a.fills) + (a.have_.length + sumN M.needChunk a.have_) + (a.ready.length) + M.needLine a.line
def M.needOp (a : M.Op) : Nat := a.bytes.size
def M.needMsg (a : M.Msg) : Nat := a.name.size + M.needPgState a.state + M.needEntry a.entry + M.needChunk a.chunk + M.needOp a.op + a.body.size
def M.needStore (a : M.Store) : Nat := (a.live.length + sumN M.needPgState a.live) + (a.kept.length + sumN M.needPgState a.kept)
def M.needServer (a : M.Server) : Nat := M.needStore a.store + (a.leads.length + sumN M.needLead a.leads) + (a.out.length + sumN M.needMsg a.out)
def M.okVer (a : M.Ver) : Prop := In64 a.epoch ∧ In64 a.seq
def M.okAck (a : M.Ack) : Prop := In64 a.node ∧ M.okVer a.ver
def M.okChunk (a : M.Chunk) : Prop := a.name.size ≤ 9223372036854775807 ∧ M.okVer a.ver ∧ In64 a.pos ∧ In64 a.sum ∧ a.bytes.size ≤ 9223372036854775807
def M.okCode (a : M.Code) : Prop := In64 a.k ∧ In64 a.m
def M.okReq (a : M.Req) : Prop := In64 a.client ∧ In64 a.no
def M.okEntry (a : M.Entry) : Prop := M.okVer a.ver ∧ M.okVer a.prior ∧ a.name.size ≤ 9223372036854775807 ∧ In64 a.size ∧ In64 a.sum ∧ M.okReq a.req
def M.okHead (a : M.Head) : Prop := a.name.size ≤ 9223372036854775807 ∧ M.okVer a.ver ∧ In64 a.size ∧ In64 a.sum
def M.okFill (a : M.Fill) : Prop := In64 a.node ∧ In64 a.pos ∧ M.okHead a.head
def M.okGot (a : M.Got) : Prop := In64 a.node ∧ M.okEntry a.entry ∧ M.okChunk a.chunk
def M.okInterval (a : M.Interval) : Prop := In64 a.first ∧ In64 a.last ∧ a.acting.length ≤ 9223372036854775807 ∧ (∀ x ∈ a.acting, In64 x)
def M.okLast (a : M.Last) : Prop := In64 a.client ∧ In64 a.no ∧ M.okVer a.ver
def M.okPg (a : M.Pg) : Prop := In64 a.pool ∧ In64 a.no
def M.okPgState (a : M.PgState) : Prop := M.okPg a.pg ∧ In64 a.seen ∧ In64 a.started ∧ M.okVer a.tail ∧ a.base.length ≤ 9223372036854775807 ∧ (∀ x ∈ a.base, M.okHead x) ∧ a.clients.length ≤ 9223372036854775807 ∧ (∀ x ∈ a.clients, M.okLast x) ∧ a.log.length ≤ 9223372036854775807 ∧ (∀ x ∈ a.log, M.okEntry x) ∧ M.okVer a.firm ∧ a.chunks.length ≤ 9223372036854775807 ∧ (∀ x ∈ a.chunks, M.okChunk x)
def M.okNotice (a : M.Notice) : Prop := In64 a.from_ ∧ M.okPgState a.state
def M.okWay (a : M.Way) : Prop := M.okEntry a.entry ∧ a.body.size ≤ 9223372036854775807
def M.okWait (a : M.Wait) : Prop := M.okReq a.req ∧ a.name.size ≤ 9223372036854775807 ∧ M.okVer a.ver ∧ a.got.length ≤ 9223372036854775807 ∧ (∀ x ∈ a.got, M.okGot x)
def M.okLine (a : M.Line) : Prop := In64 a.epoch ∧ M.okCode a.code ∧ a.acting.length ≤ 9223372036854775807 ∧ (∀ x ∈ a.acting, In64 x) ∧ M.okPgState a.state ∧ a.way.length ≤ 9223372036854775807 ∧ (∀ x ∈ a.way, M.okWay x) ∧ a.acks.length ≤ 9223372036854775807 ∧ (∀ x ∈ a.acks, M.okAck x) ∧ a.waits.length ≤ 9223372036854775807 ∧ (∀ x ∈ a.waits, M.okWait x)
def M.okLead (a : M.Lead) : Prop := M.okPg a.pg ∧ In64 a.epoch ∧ In64 a.phase ∧ M.okCode a.code ∧ a.acting.length ≤ 9223372036854775807 ∧ (∀ x ∈ a.acting, In64 x) ∧ a.ivs.length ≤ 9223372036854775807 ∧ (∀ x ∈ a.ivs, M.okInterval x) ∧ a.heard.length ≤ 9223372036854775807 ∧ (∀ x ∈ a.heard, M.okNotice x) ∧ M.okPgState a.pick ∧ a.fills.length ≤ 9223372036854775807 ∧ (∀ x ∈ a.fills, M.okFill x) ∧ a.have_.length ≤ 9223372036854775807 ∧ (∀ x ∈ a.have_, M.okChunk x) ∧ a.ready.length ≤ 9223372036854775807 ∧ (∀ x ∈ a.ready, In64 x) ∧ M.okLine a.line
def M.okOp (a : M.Op) : Prop := In64 a.kind ∧ In64 a.at_ ∧ a.bytes.size ≤ 9223372036854775807
def M.okMsg (a : M.Msg) : Prop := In64 a.kind ∧ In64 a.from_ ∧ In64 a.to ∧ M.okPg a.pg ∧ In64 a.epoch ∧ a.name.size ≤ 9223372036854775807 ∧ M.okVer a.ver ∧ M.okVer a.firm ∧ M.okPgState a.state ∧ M.okEntry a.entry ∧ M.okChunk a.chunk ∧ M.okOp a.op ∧ M.okReq a.req ∧ In64 a.code ∧ a.body.size ≤ 9223372036854775807
def M.okStore (a : M.Store) : Prop := a.live.length ≤ 9223372036854775807 ∧ (∀ x ∈ a.live, M.okPgState x) ∧ a.kept.length ≤ 9223372036854775807 ∧ (∀ x ∈ a.kept, M.okPgState x)
def M.okServer (a : M.Server) : Prop := In64 a.id ∧ In64 a.epoch ∧ M.okStore a.store ∧ a.leads.length ≤ 9223372036854775807 ∧ (∀ x ∈ a.leads, M.okLead x) ∧ a.out.length ≤ 9223372036854775807 ∧ (∀ x ∈ a.out, M.okMsg x)
theorem run_toVer (a : M.Ver) : RUN CC fn_laws_toVer [M.verV a] = some ([M.verV a], []) := by
  rw [RUN_eq, prog_laws_toVer]
  simp [pf_laws_toVer, M.verV]
theorem run_toAck (a : M.Ack) : RUN CC fn_laws_toAck [M.ackV a] = some ([M.ackV a], []) := by
  have h_Ver := run_toVer a.ver
  unfold M.verV at h_Ver
  try simp only [] at h_Ver
  rw [RUN_eq, prog_laws_toAck]
  simp [pf_laws_toAck, M.ackV, h_Ver]
theorem run_toAckS {xs : List (M.Ack)} (hb : (xs.length) ≤ 1048576) : RUN CC fn_laws_toAckS [.sl 0 ty_laws_Ack (xs.map (M.ackV))] = some ([.sl 2 ty_impl_Ack (xs.map (M.ackV))], []) := by
  have h := run_toS (C := CC) (e1 := ty_laws_Ack) (e2 := ty_impl_Ack) (n := 3) (by_ := 24) (zs := [.int .i64 0, .int .i64 0, .int .i64 0]) (g := fn_laws_toAck) prog_laws_toAckS modes_laws_toAck rfl (xs := xs.map fun a => (M.ackV a).cells) (ys := xs.map fun a => (M.ackV a).cells) (by simp) (by simp; omega) (by simp; omega) (by
    intro i h
    simp only [List.length_map] at h
    simp only [List.getElem_map]
    have h2 := run_toAck xs[i]
    exact ⟨rfl, by simp [calmL, M.ackV], rfl, h2⟩)
  simp only [List.map_map] at h
  exact h
theorem run_toChunk (a : M.Chunk) (hb : M.needChunk a ≤ 1048576) : RUN CC fn_laws_toChunk [M.chunkV a] = some ([M.chunkV a], []) := by
  have h_Ver := run_toVer a.ver
  unfold M.verV at h_Ver
  try simp only [] at h_Ver
  rw [RUN_eq, prog_laws_toChunk]
  simp [pf_laws_toChunk, M.chunkV, h_Ver]
theorem run_toChunkS {xs : List (M.Chunk)} (hb : (xs.length + sumN M.needChunk xs) ≤ 1048576) : RUN CC fn_laws_toChunkS [.sl 0 ty_laws_Chunk (xs.map (M.chunkV))] = some ([.sl 2 ty_impl_Chunk (xs.map (M.chunkV))], []) := by
  have h := run_toS (C := CC) (e1 := ty_laws_Chunk) (e2 := ty_impl_Chunk) (n := 6) (by_ := 64) (zs := [.str ⟨#[]⟩, .int .i64 0, .int .i64 0, .int .i64 0, .int .i64 0, .str ⟨#[]⟩]) (g := fn_laws_toChunk) prog_laws_toChunkS modes_laws_toChunk rfl (xs := xs.map fun a => (M.chunkV a).cells) (ys := xs.map fun a => (M.chunkV a).cells) (by simp) (by simp; omega) (by simp; omega) (by
    intro i h
    simp only [List.length_map] at h
    simp only [List.getElem_map]
    have hs := sumN_le M.needChunk (List.getElem_mem h)
    have h2 := run_toChunk xs[i] (by omega)
    exact ⟨rfl, by simp [calmL, M.chunkV], rfl, h2⟩)
  simp only [List.map_map] at h
  exact h
theorem run_toCode (a : M.Code) : RUN CC fn_laws_toCode [M.codeV a] = some ([M.codeV a], []) := by
  rw [RUN_eq, prog_laws_toCode]
  simp [pf_laws_toCode, M.codeV]
theorem run_toReq (a : M.Req) : RUN CC fn_laws_toReq [M.reqV a] = some ([M.reqV a], []) := by
  rw [RUN_eq, prog_laws_toReq]
  simp [pf_laws_toReq, M.reqV]
theorem run_toEntry (a : M.Entry) (hb : M.needEntry a ≤ 1048576) : RUN CC fn_laws_toEntry [M.entryV a] = some ([M.entryV a], []) := by
  have h_Ver := run_toVer a.ver
  unfold M.verV at h_Ver
  try simp only [] at h_Ver
  have h_Prior := run_toVer a.prior
  unfold M.verV at h_Prior
  try simp only [] at h_Prior
  have h_Req := run_toReq a.req
  unfold M.reqV at h_Req
  try simp only [] at h_Req
  rw [RUN_eq, prog_laws_toEntry]
  simp [pf_laws_toEntry, M.entryV, h_Ver, h_Prior, h_Req]
theorem run_toEntryS {xs : List (M.Entry)} (hb : (xs.length + sumN M.needEntry xs) ≤ 1048576) : RUN CC fn_laws_toEntryS [.sl 0 ty_laws_Entry (xs.map (M.entryV))] = some ([.sl 2 ty_impl_Entry (xs.map (M.entryV))], []) := by
  have h := run_toS (C := CC) (e1 := ty_laws_Entry) (e2 := ty_impl_Entry) (n := 10) (by_ := 88) (zs := [.int .i64 0, .int .i64 0, .int .i64 0, .int .i64 0, .str ⟨#[]⟩, .bool false, .int .i64 0, .int .i64 0, .int .i64 0, .int .i64 0]) (g := fn_laws_toEntry) prog_laws_toEntryS modes_laws_toEntry rfl (xs := xs.map fun a => (M.entryV a).cells) (ys := xs.map fun a => (M.entryV a).cells) (by simp) (by simp; omega) (by simp; omega) (by
    intro i h
    simp only [List.length_map] at h
    simp only [List.getElem_map]
    have hs := sumN_le M.needEntry (List.getElem_mem h)
    have h2 := run_toEntry xs[i] (by omega)
    exact ⟨rfl, by simp [calmL, M.entryV], rfl, h2⟩)
  simp only [List.map_map] at h
  exact h
theorem run_toHead (a : M.Head) (hb : M.needHead a ≤ 1048576) : RUN CC fn_laws_toHead [M.headV a] = some ([M.headV a], []) := by
  have h_Ver := run_toVer a.ver
  unfold M.verV at h_Ver
  try simp only [] at h_Ver
  rw [RUN_eq, prog_laws_toHead]
  simp [pf_laws_toHead, M.headV, h_Ver]
theorem run_toHeadS {xs : List (M.Head)} (hb : (xs.length + sumN M.needHead xs) ≤ 1048576) : RUN CC fn_laws_toHeadS [.sl 0 ty_laws_Head (xs.map (M.headV))] = some ([.sl 2 ty_impl_Head (xs.map (M.headV))], []) := by
  have h := run_toS (C := CC) (e1 := ty_laws_Head) (e2 := ty_impl_Head) (n := 5) (by_ := 48) (zs := [.str ⟨#[]⟩, .int .i64 0, .int .i64 0, .int .i64 0, .int .i64 0]) (g := fn_laws_toHead) prog_laws_toHeadS modes_laws_toHead rfl (xs := xs.map fun a => (M.headV a).cells) (ys := xs.map fun a => (M.headV a).cells) (by simp) (by simp; omega) (by simp; omega) (by
    intro i h
    simp only [List.length_map] at h
    simp only [List.getElem_map]
    have hs := sumN_le M.needHead (List.getElem_mem h)
    have h2 := run_toHead xs[i] (by omega)
    exact ⟨rfl, by simp [calmL, M.headV], rfl, h2⟩)
  simp only [List.map_map] at h
  exact h
theorem run_toFill (a : M.Fill) (hb : M.needFill a ≤ 1048576) : RUN CC fn_laws_toFill [M.fillV a] = some ([M.fillV a], []) := by
  have h_Head := run_toHead a.head (by simp only [M.needFill] at hb; omega)
  unfold M.headV at h_Head
  try simp only [] at h_Head
  rw [RUN_eq, prog_laws_toFill]
  simp [pf_laws_toFill, M.fillV, h_Head]
theorem run_toFillS {xs : List (M.Fill)} (hb : (xs.length + sumN M.needFill xs) ≤ 1048576) : RUN CC fn_laws_toFillS [.sl 0 ty_laws_Fill (xs.map (M.fillV))] = some ([.sl 2 ty_impl_Fill (xs.map (M.fillV))], []) := by
  have h := run_toS (C := CC) (e1 := ty_laws_Fill) (e2 := ty_impl_Fill) (n := 7) (by_ := 64) (zs := [.int .i64 0, .int .i64 0, .str ⟨#[]⟩, .int .i64 0, .int .i64 0, .int .i64 0, .int .i64 0]) (g := fn_laws_toFill) prog_laws_toFillS modes_laws_toFill rfl (xs := xs.map fun a => (M.fillV a).cells) (ys := xs.map fun a => (M.fillV a).cells) (by simp) (by simp; omega) (by simp; omega) (by
    intro i h
    simp only [List.length_map] at h
    simp only [List.getElem_map]
    have hs := sumN_le M.needFill (List.getElem_mem h)
    have h2 := run_toFill xs[i] (by omega)
    exact ⟨rfl, by simp [calmL, M.fillV], rfl, h2⟩)
  simp only [List.map_map] at h
  exact h
theorem run_toGot (a : M.Got) (hb : M.needGot a ≤ 1048576) : RUN CC fn_laws_toGot [M.gotV a] = some ([M.gotV a], []) := by
  have h_Entry := run_toEntry a.entry (by simp only [M.needGot] at hb; omega)
  unfold M.entryV at h_Entry
  try simp only [] at h_Entry
  have h_Chunk := run_toChunk a.chunk (by simp only [M.needGot] at hb; omega)
  unfold M.chunkV at h_Chunk
  try simp only [] at h_Chunk
  rw [RUN_eq, prog_laws_toGot]
  simp [pf_laws_toGot, M.gotV, h_Entry, h_Chunk]
theorem run_toGotS {xs : List (M.Got)} (hb : (xs.length + sumN M.needGot xs) ≤ 1048576) : RUN CC fn_laws_toGotS [.sl 0 ty_laws_Got (xs.map (M.gotV))] = some ([.sl 2 ty_impl_Got (xs.map (M.gotV))], []) := by
  have h := run_toS (C := CC) (e1 := ty_laws_Got) (e2 := ty_impl_Got) (n := 17) (by_ := 160) (zs := [.int .i64 0, .int .i64 0, .int .i64 0, .int .i64 0, .int .i64 0, .str ⟨#[]⟩, .bool false, .int .i64 0, .int .i64 0, .int .i64 0, .int .i64 0, .str ⟨#[]⟩, .int .i64 0, .int .i64 0, .int .i64 0, .int .i64 0, .str ⟨#[]⟩]) (g := fn_laws_toGot) prog_laws_toGotS modes_laws_toGot rfl (xs := xs.map fun a => (M.gotV a).cells) (ys := xs.map fun a => (M.gotV a).cells) (by simp) (by simp; omega) (by simp; omega) (by
    intro i h
    simp only [List.length_map] at h
    simp only [List.getElem_map]
    have hs := sumN_le M.needGot (List.getElem_mem h)
    have h2 := run_toGot xs[i] (by omega)
    exact ⟨rfl, by simp [calmL, M.gotV], rfl, h2⟩)
  simp only [List.map_map] at h
  exact h
theorem run_toInt64S {xs : List (Int)} (hb : (xs.length) ≤ 1048576) : RUN CC fn_laws_toInt64S [.sl 0 ty_int64 (xs.map (PV.int .i64))] = some ([.sl 2 ty_int64 (xs.map (PV.int .i64))], []) :=
  run_toS0 (e1 := ty_int64) (e2 := ty_int64) (by_ := 8) (z := (.int .i64 0)) prog_laws_toInt64S rfl (by simp; omega) (by simp; omega) (by simp [scal])
theorem run_toInterval (a : M.Interval) (hb : M.needInterval a ≤ 1048576) : RUN CC fn_laws_toInterval [M.intervalV 0 false a] = some ([M.intervalV 2 true a], []) := by
  have h_Acting := run_toInt64S (xs := a.acting) (by simp only [M.needInterval] at hb; omega)
  rw [RUN_eq, prog_laws_toInterval]
  simp [pf_laws_toInterval, M.intervalV, h_Acting]
theorem run_toIntervalS {xs : List (M.Interval)} (hb : (xs.length + sumN M.needInterval xs) ≤ 1048576) : RUN CC fn_laws_toIntervalS [.sl 0 ty_laws_Interval (xs.map (M.intervalV 0 false))] = some ([.sl 2 ty_impl_Interval (xs.map (M.intervalV 2 true))], []) := by
  have h := run_toS (C := CC) (e1 := ty_laws_Interval) (e2 := ty_impl_Interval) (n := 4) (by_ := 48) (zs := [.int .i64 0, .int .i64 0, .sl 2 ty_int64 [], .bool false]) (g := fn_laws_toInterval) prog_laws_toIntervalS modes_laws_toInterval rfl (xs := xs.map fun a => (M.intervalV 0 false a).cells) (ys := xs.map fun a => (M.intervalV 2 true a).cells) (by simp) (by simp; omega) (by simp; omega) (by
    intro i h
    simp only [List.length_map] at h
    simp only [List.getElem_map]
    have hs := sumN_le M.needInterval (List.getElem_mem h)
    have h2 := run_toInterval xs[i] (by omega)
    exact ⟨rfl, by simp [calmL, M.intervalV], rfl, h2⟩)
  simp only [List.map_map] at h
  exact h
theorem run_toLast (a : M.Last) : RUN CC fn_laws_toLast [M.lastV a] = some ([M.lastV a], []) := by
  have h_Ver := run_toVer a.ver
  unfold M.verV at h_Ver
  try simp only [] at h_Ver
  rw [RUN_eq, prog_laws_toLast]
  simp [pf_laws_toLast, M.lastV, h_Ver]
theorem run_toLastS {xs : List (M.Last)} (hb : (xs.length) ≤ 1048576) : RUN CC fn_laws_toLastS [.sl 0 ty_laws_Last (xs.map (M.lastV))] = some ([.sl 2 ty_impl_Last (xs.map (M.lastV))], []) := by
  have h := run_toS (C := CC) (e1 := ty_laws_Last) (e2 := ty_impl_Last) (n := 4) (by_ := 32) (zs := [.int .i64 0, .int .i64 0, .int .i64 0, .int .i64 0]) (g := fn_laws_toLast) prog_laws_toLastS modes_laws_toLast rfl (xs := xs.map fun a => (M.lastV a).cells) (ys := xs.map fun a => (M.lastV a).cells) (by simp) (by simp; omega) (by simp; omega) (by
    intro i h
    simp only [List.length_map] at h
    simp only [List.getElem_map]
    have h2 := run_toLast xs[i]
    exact ⟨rfl, by simp [calmL, M.lastV], rfl, h2⟩)
  simp only [List.map_map] at h
  exact h
theorem run_toPg (a : M.Pg) : RUN CC fn_laws_toPg [M.pgV a] = some ([M.pgV a], []) := by
  rw [RUN_eq, prog_laws_toPg]
  simp [pf_laws_toPg, M.pgV]
theorem run_toPgState (a : M.PgState) (hb : M.needPgState a ≤ 1048576) : RUN CC fn_laws_toPgState [M.pgStateV 0 false a] = some ([M.pgStateV 2 true a], []) := by
  have h_Pg := run_toPg a.pg
  unfold M.pgV at h_Pg
  try simp only [] at h_Pg
  have h_Tail := run_toVer a.tail
  unfold M.verV at h_Tail
  try simp only [] at h_Tail
  have h_Base := run_toHeadS (xs := a.base) (by simp only [M.needPgState] at hb; omega)
  have h_Clients := run_toLastS (xs := a.clients) (by simp only [M.needPgState] at hb; omega)
  have h_Log := run_toEntryS (xs := a.log) (by simp only [M.needPgState] at hb; omega)
  have h_Firm := run_toVer a.firm
  unfold M.verV at h_Firm
  try simp only [] at h_Firm
  have h_Chunks := run_toChunkS (xs := a.chunks) (by simp only [M.needPgState] at hb; omega)
  rw [RUN_eq, prog_laws_toPgState]
  simp [pf_laws_toPgState, M.pgStateV, h_Pg, h_Tail, h_Base, h_Clients, h_Log, h_Firm, h_Chunks]
theorem run_toPgStateS {xs : List (M.PgState)} (hb : (xs.length + sumN M.needPgState xs) ≤ 1048576) : RUN CC fn_laws_toPgStateS [.sl 0 ty_laws_PgState (xs.map (M.pgStateV 0 false))] = some ([.sl 2 ty_impl_PgState (xs.map (M.pgStateV 2 true))], []) := by
  have h := run_toS (C := CC) (e1 := ty_laws_PgState) (e2 := ty_impl_PgState) (n := 12) (by_ := 160) (zs := [.int .i64 0, .int .i64 0, .int .i64 0, .int .i64 0, .int .i64 0, .int .i64 0, .sl 2 ty_impl_Head [], .sl 2 ty_impl_Last [], .sl 2 ty_impl_Entry [], .int .i64 0, .int .i64 0, .sl 2 ty_impl_Chunk []]) (g := fn_laws_toPgState) prog_laws_toPgStateS modes_laws_toPgState rfl (xs := xs.map fun a => (M.pgStateV 0 false a).cells) (ys := xs.map fun a => (M.pgStateV 2 true a).cells) (by simp) (by simp; omega) (by simp; omega) (by
    intro i h
    simp only [List.length_map] at h
    simp only [List.getElem_map]
    have hs := sumN_le M.needPgState (List.getElem_mem h)
    have h2 := run_toPgState xs[i] (by omega)
    exact ⟨rfl, by simp [calmL, M.pgStateV], rfl, h2⟩)
  simp only [List.map_map] at h
  exact h
theorem run_toNotice (a : M.Notice) (hb : M.needNotice a ≤ 1048576) : RUN CC fn_laws_toNotice [M.noticeV 0 false a] = some ([M.noticeV 2 true a], []) := by
  have h_State := run_toPgState a.state (by simp only [M.needNotice] at hb; omega)
  unfold M.pgStateV at h_State
  try simp only [M.tyChunk_t, M.tyChunk_f, M.tyEntry_t, M.tyEntry_f, M.tyHead_t, M.tyHead_f, M.tyLast_t, M.tyLast_f] at h_State
  rw [RUN_eq, prog_laws_toNotice]
  simp [pf_laws_toNotice, M.noticeV, h_State]
theorem run_toNoticeS {xs : List (M.Notice)} (hb : (xs.length + sumN M.needNotice xs) ≤ 1048576) : RUN CC fn_laws_toNoticeS [.sl 0 ty_laws_Notice (xs.map (M.noticeV 0 false))] = some ([.sl 2 ty_impl_Notice (xs.map (M.noticeV 2 true))], []) := by
  have h := run_toS (C := CC) (e1 := ty_laws_Notice) (e2 := ty_impl_Notice) (n := 13) (by_ := 168) (zs := [.int .i64 0, .int .i64 0, .int .i64 0, .int .i64 0, .int .i64 0, .int .i64 0, .int .i64 0, .sl 2 ty_impl_Head [], .sl 2 ty_impl_Last [], .sl 2 ty_impl_Entry [], .int .i64 0, .int .i64 0, .sl 2 ty_impl_Chunk []]) (g := fn_laws_toNotice) prog_laws_toNoticeS modes_laws_toNotice rfl (xs := xs.map fun a => (M.noticeV 0 false a).cells) (ys := xs.map fun a => (M.noticeV 2 true a).cells) (by simp) (by simp; omega) (by simp; omega) (by
    intro i h
    simp only [List.length_map] at h
    simp only [List.getElem_map]
    have hs := sumN_le M.needNotice (List.getElem_mem h)
    have h2 := run_toNotice xs[i] (by omega)
    exact ⟨rfl, by simp [calmL, M.noticeV], rfl, h2⟩)
  simp only [List.map_map] at h
  exact h
theorem run_toWay (a : M.Way) (hb : M.needWay a ≤ 1048576) : RUN CC fn_laws_toWay [M.wayV a] = some ([M.wayV a], []) := by
  have h_Entry := run_toEntry a.entry (by simp only [M.needWay] at hb; omega)
  unfold M.entryV at h_Entry
  try simp only [] at h_Entry
  rw [RUN_eq, prog_laws_toWay]
  simp [pf_laws_toWay, M.wayV, h_Entry]
theorem run_toWayS {xs : List (M.Way)} (hb : (xs.length + sumN M.needWay xs) ≤ 1048576) : RUN CC fn_laws_toWayS [.sl 0 ty_laws_Way (xs.map (M.wayV))] = some ([.sl 2 ty_impl_Way (xs.map (M.wayV))], []) := by
  have h := run_toS (C := CC) (e1 := ty_laws_Way) (e2 := ty_impl_Way) (n := 11) (by_ := 104) (zs := [.int .i64 0, .int .i64 0, .int .i64 0, .int .i64 0, .str ⟨#[]⟩, .bool false, .int .i64 0, .int .i64 0, .int .i64 0, .int .i64 0, .str ⟨#[]⟩]) (g := fn_laws_toWay) prog_laws_toWayS modes_laws_toWay rfl (xs := xs.map fun a => (M.wayV a).cells) (ys := xs.map fun a => (M.wayV a).cells) (by simp) (by simp; omega) (by simp; omega) (by
    intro i h
    simp only [List.length_map] at h
    simp only [List.getElem_map]
    have hs := sumN_le M.needWay (List.getElem_mem h)
    have h2 := run_toWay xs[i] (by omega)
    exact ⟨rfl, by simp [calmL, M.wayV], rfl, h2⟩)
  simp only [List.map_map] at h
  exact h
theorem run_toWait (a : M.Wait) (hb : M.needWait a ≤ 1048576) : RUN CC fn_laws_toWait [M.waitV 0 false a] = some ([M.waitV 2 true a], []) := by
  have h_Req := run_toReq a.req
  unfold M.reqV at h_Req
  try simp only [] at h_Req
  have h_Ver := run_toVer a.ver
  unfold M.verV at h_Ver
  try simp only [] at h_Ver
  have h_Got := run_toGotS (xs := a.got) (by simp only [M.needWait] at hb; omega)
  rw [RUN_eq, prog_laws_toWait]
  simp [pf_laws_toWait, M.waitV, h_Req, h_Ver, h_Got]
theorem run_toWaitS {xs : List (M.Wait)} (hb : (xs.length + sumN M.needWait xs) ≤ 1048576) : RUN CC fn_laws_toWaitS [.sl 0 ty_laws_Wait (xs.map (M.waitV 0 false))] = some ([.sl 2 ty_impl_Wait (xs.map (M.waitV 2 true))], []) := by
  have h := run_toS (C := CC) (e1 := ty_laws_Wait) (e2 := ty_impl_Wait) (n := 6) (by_ := 72) (zs := [.int .i64 0, .int .i64 0, .str ⟨#[]⟩, .int .i64 0, .int .i64 0, .sl 2 ty_impl_Got []]) (g := fn_laws_toWait) prog_laws_toWaitS modes_laws_toWait rfl (xs := xs.map fun a => (M.waitV 0 false a).cells) (ys := xs.map fun a => (M.waitV 2 true a).cells) (by simp) (by simp; omega) (by simp; omega) (by
    intro i h
    simp only [List.length_map] at h
    simp only [List.getElem_map]
    have hs := sumN_le M.needWait (List.getElem_mem h)
    have h2 := run_toWait xs[i] (by omega)
    exact ⟨rfl, by simp [calmL, M.waitV], rfl, h2⟩)
  simp only [List.map_map] at h
  exact h
theorem run_toLine (a : M.Line) (hb : M.needLine a ≤ 1048576) : RUN CC fn_laws_toLine [M.lineV 0 false a] = some ([M.lineV 2 true a], []) := by
  have h_Code := run_toCode a.code
  unfold M.codeV at h_Code
  try simp only [] at h_Code
  have h_Acting := run_toInt64S (xs := a.acting) (by simp only [M.needLine] at hb; omega)
  have h_State := run_toPgState a.state (by simp only [M.needLine] at hb; omega)
  unfold M.pgStateV at h_State
  try simp only [M.tyChunk_t, M.tyChunk_f, M.tyEntry_t, M.tyEntry_f, M.tyHead_t, M.tyHead_f, M.tyLast_t, M.tyLast_f] at h_State
  have h_Way := run_toWayS (xs := a.way) (by simp only [M.needLine] at hb; omega)
  have h_Acks := run_toAckS (xs := a.acks) (by simp only [M.needLine] at hb; omega)
  have h_Waits := run_toWaitS (xs := a.waits) (by simp only [M.needLine] at hb; omega)
  rw [RUN_eq, prog_laws_toLine]
  simp [pf_laws_toLine, M.lineV, h_Code, h_Acting, h_State, h_Way, h_Acks, h_Waits]
theorem run_toLead (a : M.Lead) (hb : M.needLead a ≤ 1048576) : RUN CC fn_laws_toLead [M.leadV 0 false a] = some ([M.leadV 2 true a], []) := by
  have h_Pg := run_toPg a.pg
  unfold M.pgV at h_Pg
  try simp only [] at h_Pg
  have h_Code := run_toCode a.code
  unfold M.codeV at h_Code
  try simp only [] at h_Code
  have h_Acting := run_toInt64S (xs := a.acting) (by simp only [M.needLead] at hb; omega)
  have h_Ivs := run_toIntervalS (xs := a.ivs) (by simp only [M.needLead] at hb; omega)
  have h_Heard := run_toNoticeS (xs := a.heard) (by simp only [M.needLead] at hb; omega)
  have h_Pick := run_toPgState a.pick (by simp only [M.needLead] at hb; omega)
  unfold M.pgStateV at h_Pick
  try simp only [M.tyChunk_t, M.tyChunk_f, M.tyEntry_t, M.tyEntry_f, M.tyHead_t, M.tyHead_f, M.tyLast_t, M.tyLast_f] at h_Pick
  have h_Fills := run_toFillS (xs := a.fills) (by simp only [M.needLead] at hb; omega)
  have h_Have := run_toChunkS (xs := a.have_) (by simp only [M.needLead] at hb; omega)
  have h_Ready := run_toInt64S (xs := a.ready) (by simp only [M.needLead] at hb; omega)
  have h_Line := run_toLine a.line (by simp only [M.needLead] at hb; omega)
  unfold M.lineV at h_Line
  try simp only [M.tyAck_t, M.tyAck_f, M.tyChunk_t, M.tyChunk_f, M.tyEntry_t, M.tyEntry_f, M.tyHead_t, M.tyHead_f, M.tyLast_t, M.tyLast_f, M.tyWait_t, M.tyWait_f, M.tyWay_t, M.tyWay_f] at h_Line
  rw [RUN_eq, prog_laws_toLead]
  simp [pf_laws_toLead, M.leadV, h_Pg, h_Code, h_Acting, h_Ivs, h_Heard, h_Pick, h_Fills, h_Have, h_Ready, h_Line]
theorem run_toLeadS {xs : List (M.Lead)} (hb : (xs.length + sumN M.needLead xs) ≤ 1048576) : RUN CC fn_laws_toLeadS [.sl 0 ty_laws_Lead (xs.map (M.leadV 0 false))] = some ([.sl 2 ty_impl_Lead (xs.map (M.leadV 2 true))], []) := by
  have h := run_toS (C := CC) (e1 := ty_laws_Lead) (e2 := ty_impl_Lead) (n := 43) (by_ := 632) (zs := [.int .i64 0, .int .i64 0, .int .i64 0, .int .i64 0, .int .i64 0, .int .i64 0, .sl 2 ty_int64 [], .sl 2 ty_impl_Interval [], .sl 2 ty_impl_Notice [], .int .i64 0, .int .i64 0, .int .i64 0, .int .i64 0, .int .i64 0, .int .i64 0, .sl 2 ty_impl_Head [], .sl 2 ty_impl_Last [], .sl 2 ty_impl_Entry [], .int .i64 0, .int .i64 0, .sl 2 ty_impl_Chunk [], .sl 2 ty_impl_Fill [], .sl 2 ty_impl_Chunk [], .sl 2 ty_int64 [], .int .i64 0, .int .i64 0, .int .i64 0, .sl 2 ty_int64 [], .int .i64 0, .int .i64 0, .int .i64 0, .int .i64 0, .int .i64 0, .int .i64 0, .sl 2 ty_impl_Head [], .sl 2 ty_impl_Last [], .sl 2 ty_impl_Entry [], .int .i64 0, .int .i64 0, .sl 2 ty_impl_Chunk [], .sl 2 ty_impl_Way [], .sl 2 ty_impl_Ack [], .sl 2 ty_impl_Wait []]) (g := fn_laws_toLead) prog_laws_toLeadS modes_laws_toLead rfl (xs := xs.map fun a => (M.leadV 0 false a).cells) (ys := xs.map fun a => (M.leadV 2 true a).cells) (by simp) (by simp; omega) (by simp; omega) (by
    intro i h
    simp only [List.length_map] at h
    simp only [List.getElem_map]
    have hs := sumN_le M.needLead (List.getElem_mem h)
    have h2 := run_toLead xs[i] (by omega)
    exact ⟨rfl, by simp [calmL, M.leadV], rfl, h2⟩)
  simp only [List.map_map] at h
  exact h
theorem run_toOp (a : M.Op) (hb : M.needOp a ≤ 1048576) : RUN CC fn_laws_toOp [M.opV a] = some ([M.opV a], []) := by
  rw [RUN_eq, prog_laws_toOp]
  simp [pf_laws_toOp, M.opV]
theorem run_toMsg (a : M.Msg) (hb : M.needMsg a ≤ 1048576) : RUN CC fn_laws_toMsg [M.msgV 0 false a] = some ([M.msgV 2 true a], []) := by
  have h_Pg := run_toPg a.pg
  unfold M.pgV at h_Pg
  try simp only [] at h_Pg
  have h_Ver := run_toVer a.ver
  unfold M.verV at h_Ver
  try simp only [] at h_Ver
  have h_Firm := run_toVer a.firm
  unfold M.verV at h_Firm
  try simp only [] at h_Firm
  have h_State := run_toPgState a.state (by simp only [M.needMsg] at hb; omega)
  unfold M.pgStateV at h_State
  try simp only [M.tyChunk_t, M.tyChunk_f, M.tyEntry_t, M.tyEntry_f, M.tyHead_t, M.tyHead_f, M.tyLast_t, M.tyLast_f] at h_State
  have h_Entry := run_toEntry a.entry (by simp only [M.needMsg] at hb; omega)
  unfold M.entryV at h_Entry
  try simp only [] at h_Entry
  have h_Chunk := run_toChunk a.chunk (by simp only [M.needMsg] at hb; omega)
  unfold M.chunkV at h_Chunk
  try simp only [] at h_Chunk
  have h_Op := run_toOp a.op (by simp only [M.needMsg] at hb; omega)
  unfold M.opV at h_Op
  try simp only [] at h_Op
  have h_Req := run_toReq a.req
  unfold M.reqV at h_Req
  try simp only [] at h_Req
  rw [RUN_eq, prog_laws_toMsg]
  simp [pf_laws_toMsg, M.msgV, h_Pg, h_Ver, h_Firm, h_State, h_Entry, h_Chunk, h_Op, h_Req]
theorem run_toMsgS {xs : List (M.Msg)} (hb : (xs.length + sumN M.needMsg xs) ≤ 1048576) : RUN CC fn_laws_toMsgS [.sl 0 ty_laws_Msg (xs.map (M.msgV 0 false))] = some ([.sl 2 ty_impl_Msg (xs.map (M.msgV 2 true))], []) := by
  have h := run_toS (C := CC) (e1 := ty_laws_Msg) (e2 := ty_impl_Msg) (n := 46) (by_ := 480) (zs := [.int .i64 0, .int .i64 0, .int .i64 0, .int .i64 0, .int .i64 0, .int .i64 0, .str ⟨#[]⟩, .int .i64 0, .int .i64 0, .int .i64 0, .int .i64 0, .int .i64 0, .int .i64 0, .int .i64 0, .int .i64 0, .int .i64 0, .int .i64 0, .sl 2 ty_impl_Head [], .sl 2 ty_impl_Last [], .sl 2 ty_impl_Entry [], .int .i64 0, .int .i64 0, .sl 2 ty_impl_Chunk [], .int .i64 0, .int .i64 0, .int .i64 0, .int .i64 0, .str ⟨#[]⟩, .bool false, .int .i64 0, .int .i64 0, .int .i64 0, .int .i64 0, .str ⟨#[]⟩, .int .i64 0, .int .i64 0, .int .i64 0, .int .i64 0, .str ⟨#[]⟩, .int .i64 0, .int .i64 0, .str ⟨#[]⟩, .int .i64 0, .int .i64 0, .int .i64 0, .str ⟨#[]⟩]) (g := fn_laws_toMsg) prog_laws_toMsgS modes_laws_toMsg rfl (xs := xs.map fun a => (M.msgV 0 false a).cells) (ys := xs.map fun a => (M.msgV 2 true a).cells) (by simp) (by simp; omega) (by simp; omega) (by
    intro i h
    simp only [List.length_map] at h
    simp only [List.getElem_map]
    have hs := sumN_le M.needMsg (List.getElem_mem h)
    have h2 := run_toMsg xs[i] (by omega)
    exact ⟨rfl, by simp [calmL, M.msgV], rfl, h2⟩)
  simp only [List.map_map] at h
  exact h
theorem run_toStore (a : M.Store) (hb : M.needStore a ≤ 1048576) : RUN CC fn_laws_toStore [M.storeV 0 false a] = some ([M.storeV 2 true a], []) := by
  have h_Live := run_toPgStateS (xs := a.live) (by simp only [M.needStore] at hb; omega)
  have h_Kept := run_toPgStateS (xs := a.kept) (by simp only [M.needStore] at hb; omega)
  rw [RUN_eq, prog_laws_toStore]
  simp [pf_laws_toStore, M.storeV, h_Live, h_Kept]
theorem run_toServer (a : M.Server) (hb : M.needServer a ≤ 1048576) : RUN CC fn_laws_toServer [M.serverV 0 false a] = some ([M.serverV 2 true a], []) := by
  have h_Store := run_toStore a.store (by simp only [M.needServer] at hb; omega)
  unfold M.storeV at h_Store
  try simp only [M.tyPgState_t, M.tyPgState_f] at h_Store
  have h_Leads := run_toLeadS (xs := a.leads) (by simp only [M.needServer] at hb; omega)
  have h_Out := run_toMsgS (xs := a.out) (by simp only [M.needServer] at hb; omega)
  rw [RUN_eq, prog_laws_toServer]
  simp [pf_laws_toServer, M.serverV, h_Store, h_Leads, h_Out]
theorem run_eqVer (a : M.Ver) : RUN CC fn_laws_eqVer [M.verV a, M.verV a] = some ([.bool true], []) := by
  rw [RUN_eq, prog_laws_eqVer]
  simp [pf_laws_eqVer, M.verV]
theorem run_eqAck (a : M.Ack) : RUN CC fn_laws_eqAck [M.ackV a, M.ackV a] = some ([.bool true], []) := by
  have h_Ver := run_eqVer a.ver
  unfold M.verV at h_Ver
  try simp only [] at h_Ver
  rw [RUN_eq, prog_laws_eqAck]
  simp [pf_laws_eqAck, M.ackV, h_Ver]
theorem run_eqAckS {xs : List (M.Ack)} (hb : (xs.length) ≤ 1048576) : RUN CC fn_laws_eqAckS [.sl 0 ty_impl_Ack (xs.map (M.ackV)), .sl 0 ty_impl_Ack (xs.map (M.ackV))] = some ([.bool true], []) := by
  have h := run_eqS (C := CC) (e := ty_impl_Ack) (n := 3) (g := fn_laws_eqAck) prog_laws_eqAckS modes_laws_eqAck (xs := xs.map fun a => (M.ackV a).cells) (by simp; omega) (by
    intro x hx
    obtain ⟨a, ha, rfl⟩ := List.mem_map.1 hx
    have h2 := run_eqAck a
    exact ⟨rfl, by simp [calmL, M.ackV], h2⟩)
  simp only [List.map_map] at h
  exact h
theorem run_eqChunk (a : M.Chunk) (hb : M.needChunk a ≤ 1048576) : RUN CC fn_laws_eqChunk [M.chunkV a, M.chunkV a] = some ([.bool true], []) := by
  have h_Ver := run_eqVer a.ver
  unfold M.verV at h_Ver
  try simp only [] at h_Ver
  rw [RUN_eq, prog_laws_eqChunk]
  simp [pf_laws_eqChunk, M.chunkV, h_Ver]
theorem run_eqChunkS {xs : List (M.Chunk)} (hb : (xs.length + sumN M.needChunk xs) ≤ 1048576) : RUN CC fn_laws_eqChunkS [.sl 0 ty_impl_Chunk (xs.map (M.chunkV)), .sl 0 ty_impl_Chunk (xs.map (M.chunkV))] = some ([.bool true], []) := by
  have h := run_eqS (C := CC) (e := ty_impl_Chunk) (n := 6) (g := fn_laws_eqChunk) prog_laws_eqChunkS modes_laws_eqChunk (xs := xs.map fun a => (M.chunkV a).cells) (by simp; omega) (by
    intro x hx
    obtain ⟨a, ha, rfl⟩ := List.mem_map.1 hx
    have hs := sumN_le M.needChunk ha
    have h2 := run_eqChunk a (by omega)
    exact ⟨rfl, by simp [calmL, M.chunkV], h2⟩)
  simp only [List.map_map] at h
  exact h
theorem run_eqCode (a : M.Code) : RUN CC fn_laws_eqCode [M.codeV a, M.codeV a] = some ([.bool true], []) := by
  rw [RUN_eq, prog_laws_eqCode]
  simp [pf_laws_eqCode, M.codeV]
theorem run_eqReq (a : M.Req) : RUN CC fn_laws_eqReq [M.reqV a, M.reqV a] = some ([.bool true], []) := by
  rw [RUN_eq, prog_laws_eqReq]
  simp [pf_laws_eqReq, M.reqV]
theorem run_eqEntry (a : M.Entry) (hb : M.needEntry a ≤ 1048576) : RUN CC fn_laws_eqEntry [M.entryV a, M.entryV a] = some ([.bool true], []) := by
  have h_Ver := run_eqVer a.ver
  unfold M.verV at h_Ver
  try simp only [] at h_Ver
  have h_Prior := run_eqVer a.prior
  unfold M.verV at h_Prior
  try simp only [] at h_Prior
  have h_Req := run_eqReq a.req
  unfold M.reqV at h_Req
  try simp only [] at h_Req
  rw [RUN_eq, prog_laws_eqEntry]
  simp [pf_laws_eqEntry, M.entryV, h_Ver, h_Prior, h_Req]
theorem run_eqEntryS {xs : List (M.Entry)} (hb : (xs.length + sumN M.needEntry xs) ≤ 1048576) : RUN CC fn_laws_eqEntryS [.sl 0 ty_impl_Entry (xs.map (M.entryV)), .sl 0 ty_impl_Entry (xs.map (M.entryV))] = some ([.bool true], []) := by
  have h := run_eqS (C := CC) (e := ty_impl_Entry) (n := 10) (g := fn_laws_eqEntry) prog_laws_eqEntryS modes_laws_eqEntry (xs := xs.map fun a => (M.entryV a).cells) (by simp; omega) (by
    intro x hx
    obtain ⟨a, ha, rfl⟩ := List.mem_map.1 hx
    have hs := sumN_le M.needEntry ha
    have h2 := run_eqEntry a (by omega)
    exact ⟨rfl, by simp [calmL, M.entryV], h2⟩)
  simp only [List.map_map] at h
  exact h
theorem run_eqHead (a : M.Head) (hb : M.needHead a ≤ 1048576) : RUN CC fn_laws_eqHead [M.headV a, M.headV a] = some ([.bool true], []) := by
  have h_Ver := run_eqVer a.ver
  unfold M.verV at h_Ver
  try simp only [] at h_Ver
  rw [RUN_eq, prog_laws_eqHead]
  simp [pf_laws_eqHead, M.headV, h_Ver]
theorem run_eqHeadS {xs : List (M.Head)} (hb : (xs.length + sumN M.needHead xs) ≤ 1048576) : RUN CC fn_laws_eqHeadS [.sl 0 ty_impl_Head (xs.map (M.headV)), .sl 0 ty_impl_Head (xs.map (M.headV))] = some ([.bool true], []) := by
  have h := run_eqS (C := CC) (e := ty_impl_Head) (n := 5) (g := fn_laws_eqHead) prog_laws_eqHeadS modes_laws_eqHead (xs := xs.map fun a => (M.headV a).cells) (by simp; omega) (by
    intro x hx
    obtain ⟨a, ha, rfl⟩ := List.mem_map.1 hx
    have hs := sumN_le M.needHead ha
    have h2 := run_eqHead a (by omega)
    exact ⟨rfl, by simp [calmL, M.headV], h2⟩)
  simp only [List.map_map] at h
  exact h
theorem run_eqFill (a : M.Fill) (hb : M.needFill a ≤ 1048576) : RUN CC fn_laws_eqFill [M.fillV a, M.fillV a] = some ([.bool true], []) := by
  have h_Head := run_eqHead a.head (by simp only [M.needFill] at hb; omega)
  unfold M.headV at h_Head
  try simp only [] at h_Head
  rw [RUN_eq, prog_laws_eqFill]
  simp [pf_laws_eqFill, M.fillV, h_Head]
theorem run_eqFillS {xs : List (M.Fill)} (hb : (xs.length + sumN M.needFill xs) ≤ 1048576) : RUN CC fn_laws_eqFillS [.sl 0 ty_impl_Fill (xs.map (M.fillV)), .sl 0 ty_impl_Fill (xs.map (M.fillV))] = some ([.bool true], []) := by
  have h := run_eqS (C := CC) (e := ty_impl_Fill) (n := 7) (g := fn_laws_eqFill) prog_laws_eqFillS modes_laws_eqFill (xs := xs.map fun a => (M.fillV a).cells) (by simp; omega) (by
    intro x hx
    obtain ⟨a, ha, rfl⟩ := List.mem_map.1 hx
    have hs := sumN_le M.needFill ha
    have h2 := run_eqFill a (by omega)
    exact ⟨rfl, by simp [calmL, M.fillV], h2⟩)
  simp only [List.map_map] at h
  exact h
theorem run_eqGot (a : M.Got) (hb : M.needGot a ≤ 1048576) : RUN CC fn_laws_eqGot [M.gotV a, M.gotV a] = some ([.bool true], []) := by
  have h_Entry := run_eqEntry a.entry (by simp only [M.needGot] at hb; omega)
  unfold M.entryV at h_Entry
  try simp only [] at h_Entry
  have h_Chunk := run_eqChunk a.chunk (by simp only [M.needGot] at hb; omega)
  unfold M.chunkV at h_Chunk
  try simp only [] at h_Chunk
  rw [RUN_eq, prog_laws_eqGot]
  simp [pf_laws_eqGot, M.gotV, h_Entry, h_Chunk]
theorem run_eqGotS {xs : List (M.Got)} (hb : (xs.length + sumN M.needGot xs) ≤ 1048576) : RUN CC fn_laws_eqGotS [.sl 0 ty_impl_Got (xs.map (M.gotV)), .sl 0 ty_impl_Got (xs.map (M.gotV))] = some ([.bool true], []) := by
  have h := run_eqS (C := CC) (e := ty_impl_Got) (n := 17) (g := fn_laws_eqGot) prog_laws_eqGotS modes_laws_eqGot (xs := xs.map fun a => (M.gotV a).cells) (by simp; omega) (by
    intro x hx
    obtain ⟨a, ha, rfl⟩ := List.mem_map.1 hx
    have hs := sumN_le M.needGot ha
    have h2 := run_eqGot a (by omega)
    exact ⟨rfl, by simp [calmL, M.gotV], h2⟩)
  simp only [List.map_map] at h
  exact h
theorem run_eqInt64S {xs : List (Int)} (hb : (xs.length) ≤ 1048576) : RUN CC fn_laws_eqInt64S [.sl 0 ty_int64 (xs.map (PV.int .i64)), .sl 0 ty_int64 (xs.map (PV.int .i64))] = some ([.bool true], []) :=
  run_eqS0 (e := ty_int64) (t := 0) prog_laws_eqInt64S (by simp; omega) (by simp [scal])
theorem run_eqInterval (a : M.Interval) (hb : M.needInterval a ≤ 1048576) : RUN CC fn_laws_eqInterval [M.intervalV 0 true a, M.intervalV 0 true a] = some ([.bool true], []) := by
  have h_Acting := run_eqInt64S (xs := a.acting) (by simp only [M.needInterval] at hb; omega)
  rw [RUN_eq, prog_laws_eqInterval]
  simp [pf_laws_eqInterval, M.intervalV, h_Acting]
theorem run_eqIntervalS {xs : List (M.Interval)} (hb : (xs.length + sumN M.needInterval xs) ≤ 1048576) : RUN CC fn_laws_eqIntervalS [.sl 0 ty_impl_Interval (xs.map (M.intervalV 0 true)), .sl 0 ty_impl_Interval (xs.map (M.intervalV 0 true))] = some ([.bool true], []) := by
  have h := run_eqS (C := CC) (e := ty_impl_Interval) (n := 4) (g := fn_laws_eqInterval) prog_laws_eqIntervalS modes_laws_eqInterval (xs := xs.map fun a => (M.intervalV 0 true a).cells) (by simp; omega) (by
    intro x hx
    obtain ⟨a, ha, rfl⟩ := List.mem_map.1 hx
    have hs := sumN_le M.needInterval ha
    have h2 := run_eqInterval a (by omega)
    exact ⟨rfl, by simp [calmL, M.intervalV], h2⟩)
  simp only [List.map_map] at h
  exact h
theorem run_eqLast (a : M.Last) : RUN CC fn_laws_eqLast [M.lastV a, M.lastV a] = some ([.bool true], []) := by
  have h_Ver := run_eqVer a.ver
  unfold M.verV at h_Ver
  try simp only [] at h_Ver
  rw [RUN_eq, prog_laws_eqLast]
  simp [pf_laws_eqLast, M.lastV, h_Ver]
theorem run_eqLastS {xs : List (M.Last)} (hb : (xs.length) ≤ 1048576) : RUN CC fn_laws_eqLastS [.sl 0 ty_impl_Last (xs.map (M.lastV)), .sl 0 ty_impl_Last (xs.map (M.lastV))] = some ([.bool true], []) := by
  have h := run_eqS (C := CC) (e := ty_impl_Last) (n := 4) (g := fn_laws_eqLast) prog_laws_eqLastS modes_laws_eqLast (xs := xs.map fun a => (M.lastV a).cells) (by simp; omega) (by
    intro x hx
    obtain ⟨a, ha, rfl⟩ := List.mem_map.1 hx
    have h2 := run_eqLast a
    exact ⟨rfl, by simp [calmL, M.lastV], h2⟩)
  simp only [List.map_map] at h
  exact h
theorem run_eqPg (a : M.Pg) : RUN CC fn_laws_eqPg [M.pgV a, M.pgV a] = some ([.bool true], []) := by
  rw [RUN_eq, prog_laws_eqPg]
  simp [pf_laws_eqPg, M.pgV]
theorem run_eqPgState (a : M.PgState) (hb : M.needPgState a ≤ 1048576) : RUN CC fn_laws_eqPgState [M.pgStateV 0 true a, M.pgStateV 0 true a] = some ([.bool true], []) := by
  have h_Pg := run_eqPg a.pg
  unfold M.pgV at h_Pg
  try simp only [] at h_Pg
  have h_Tail := run_eqVer a.tail
  unfold M.verV at h_Tail
  try simp only [] at h_Tail
  have h_Base := run_eqHeadS (xs := a.base) (by simp only [M.needPgState] at hb; omega)
  have h_Clients := run_eqLastS (xs := a.clients) (by simp only [M.needPgState] at hb; omega)
  have h_Log := run_eqEntryS (xs := a.log) (by simp only [M.needPgState] at hb; omega)
  have h_Firm := run_eqVer a.firm
  unfold M.verV at h_Firm
  try simp only [] at h_Firm
  have h_Chunks := run_eqChunkS (xs := a.chunks) (by simp only [M.needPgState] at hb; omega)
  rw [RUN_eq, prog_laws_eqPgState]
  simp [pf_laws_eqPgState, M.pgStateV, h_Pg, h_Tail, h_Base, h_Clients, h_Log, h_Firm, h_Chunks]
theorem run_eqPgStateS {xs : List (M.PgState)} (hb : (xs.length + sumN M.needPgState xs) ≤ 1048576) : RUN CC fn_laws_eqPgStateS [.sl 0 ty_impl_PgState (xs.map (M.pgStateV 0 true)), .sl 0 ty_impl_PgState (xs.map (M.pgStateV 0 true))] = some ([.bool true], []) := by
  have h := run_eqS (C := CC) (e := ty_impl_PgState) (n := 12) (g := fn_laws_eqPgState) prog_laws_eqPgStateS modes_laws_eqPgState (xs := xs.map fun a => (M.pgStateV 0 true a).cells) (by simp; omega) (by
    intro x hx
    obtain ⟨a, ha, rfl⟩ := List.mem_map.1 hx
    have hs := sumN_le M.needPgState ha
    have h2 := run_eqPgState a (by omega)
    exact ⟨rfl, by simp [calmL, M.pgStateV], h2⟩)
  simp only [List.map_map] at h
  exact h
theorem run_eqNotice (a : M.Notice) (hb : M.needNotice a ≤ 1048576) : RUN CC fn_laws_eqNotice [M.noticeV 0 true a, M.noticeV 0 true a] = some ([.bool true], []) := by
  have h_State := run_eqPgState a.state (by simp only [M.needNotice] at hb; omega)
  unfold M.pgStateV at h_State
  try simp only [M.tyChunk_t, M.tyChunk_f, M.tyEntry_t, M.tyEntry_f, M.tyHead_t, M.tyHead_f, M.tyLast_t, M.tyLast_f] at h_State
  rw [RUN_eq, prog_laws_eqNotice]
  simp [pf_laws_eqNotice, M.noticeV, h_State]
theorem run_eqNoticeS {xs : List (M.Notice)} (hb : (xs.length + sumN M.needNotice xs) ≤ 1048576) : RUN CC fn_laws_eqNoticeS [.sl 0 ty_impl_Notice (xs.map (M.noticeV 0 true)), .sl 0 ty_impl_Notice (xs.map (M.noticeV 0 true))] = some ([.bool true], []) := by
  have h := run_eqS (C := CC) (e := ty_impl_Notice) (n := 13) (g := fn_laws_eqNotice) prog_laws_eqNoticeS modes_laws_eqNotice (xs := xs.map fun a => (M.noticeV 0 true a).cells) (by simp; omega) (by
    intro x hx
    obtain ⟨a, ha, rfl⟩ := List.mem_map.1 hx
    have hs := sumN_le M.needNotice ha
    have h2 := run_eqNotice a (by omega)
    exact ⟨rfl, by simp [calmL, M.noticeV], h2⟩)
  simp only [List.map_map] at h
  exact h
theorem run_eqWay (a : M.Way) (hb : M.needWay a ≤ 1048576) : RUN CC fn_laws_eqWay [M.wayV a, M.wayV a] = some ([.bool true], []) := by
  have h_Entry := run_eqEntry a.entry (by simp only [M.needWay] at hb; omega)
  unfold M.entryV at h_Entry
  try simp only [] at h_Entry
  rw [RUN_eq, prog_laws_eqWay]
  simp [pf_laws_eqWay, M.wayV, h_Entry]
theorem run_eqWayS {xs : List (M.Way)} (hb : (xs.length + sumN M.needWay xs) ≤ 1048576) : RUN CC fn_laws_eqWayS [.sl 0 ty_impl_Way (xs.map (M.wayV)), .sl 0 ty_impl_Way (xs.map (M.wayV))] = some ([.bool true], []) := by
  have h := run_eqS (C := CC) (e := ty_impl_Way) (n := 11) (g := fn_laws_eqWay) prog_laws_eqWayS modes_laws_eqWay (xs := xs.map fun a => (M.wayV a).cells) (by simp; omega) (by
    intro x hx
    obtain ⟨a, ha, rfl⟩ := List.mem_map.1 hx
    have hs := sumN_le M.needWay ha
    have h2 := run_eqWay a (by omega)
    exact ⟨rfl, by simp [calmL, M.wayV], h2⟩)
  simp only [List.map_map] at h
  exact h
theorem run_eqWait (a : M.Wait) (hb : M.needWait a ≤ 1048576) : RUN CC fn_laws_eqWait [M.waitV 0 true a, M.waitV 0 true a] = some ([.bool true], []) := by
  have h_Req := run_eqReq a.req
  unfold M.reqV at h_Req
  try simp only [] at h_Req
  have h_Ver := run_eqVer a.ver
  unfold M.verV at h_Ver
  try simp only [] at h_Ver
  have h_Got := run_eqGotS (xs := a.got) (by simp only [M.needWait] at hb; omega)
  rw [RUN_eq, prog_laws_eqWait]
  simp [pf_laws_eqWait, M.waitV, h_Req, h_Ver, h_Got]
theorem run_eqWaitS {xs : List (M.Wait)} (hb : (xs.length + sumN M.needWait xs) ≤ 1048576) : RUN CC fn_laws_eqWaitS [.sl 0 ty_impl_Wait (xs.map (M.waitV 0 true)), .sl 0 ty_impl_Wait (xs.map (M.waitV 0 true))] = some ([.bool true], []) := by
  have h := run_eqS (C := CC) (e := ty_impl_Wait) (n := 6) (g := fn_laws_eqWait) prog_laws_eqWaitS modes_laws_eqWait (xs := xs.map fun a => (M.waitV 0 true a).cells) (by simp; omega) (by
    intro x hx
    obtain ⟨a, ha, rfl⟩ := List.mem_map.1 hx
    have hs := sumN_le M.needWait ha
    have h2 := run_eqWait a (by omega)
    exact ⟨rfl, by simp [calmL, M.waitV], h2⟩)
  simp only [List.map_map] at h
  exact h
theorem run_eqLine (a : M.Line) (hb : M.needLine a ≤ 1048576) : RUN CC fn_laws_eqLine [M.lineV 0 true a, M.lineV 0 true a] = some ([.bool true], []) := by
  have h_Code := run_eqCode a.code
  unfold M.codeV at h_Code
  try simp only [] at h_Code
  have h_Acting := run_eqInt64S (xs := a.acting) (by simp only [M.needLine] at hb; omega)
  have h_State := run_eqPgState a.state (by simp only [M.needLine] at hb; omega)
  unfold M.pgStateV at h_State
  try simp only [M.tyChunk_t, M.tyChunk_f, M.tyEntry_t, M.tyEntry_f, M.tyHead_t, M.tyHead_f, M.tyLast_t, M.tyLast_f] at h_State
  have h_Way := run_eqWayS (xs := a.way) (by simp only [M.needLine] at hb; omega)
  have h_Acks := run_eqAckS (xs := a.acks) (by simp only [M.needLine] at hb; omega)
  have h_Waits := run_eqWaitS (xs := a.waits) (by simp only [M.needLine] at hb; omega)
  rw [RUN_eq, prog_laws_eqLine]
  simp [pf_laws_eqLine, M.lineV, h_Code, h_Acting, h_State, h_Way, h_Acks, h_Waits]
theorem run_eqLead (a : M.Lead) (hb : M.needLead a ≤ 1048576) : RUN CC fn_laws_eqLead [M.leadV 0 true a, M.leadV 0 true a] = some ([.bool true], []) := by
  have h_Pg := run_eqPg a.pg
  unfold M.pgV at h_Pg
  try simp only [] at h_Pg
  have h_Code := run_eqCode a.code
  unfold M.codeV at h_Code
  try simp only [] at h_Code
  have h_Acting := run_eqInt64S (xs := a.acting) (by simp only [M.needLead] at hb; omega)
  have h_Ivs := run_eqIntervalS (xs := a.ivs) (by simp only [M.needLead] at hb; omega)
  have h_Heard := run_eqNoticeS (xs := a.heard) (by simp only [M.needLead] at hb; omega)
  have h_Pick := run_eqPgState a.pick (by simp only [M.needLead] at hb; omega)
  unfold M.pgStateV at h_Pick
  try simp only [M.tyChunk_t, M.tyChunk_f, M.tyEntry_t, M.tyEntry_f, M.tyHead_t, M.tyHead_f, M.tyLast_t, M.tyLast_f] at h_Pick
  have h_Fills := run_eqFillS (xs := a.fills) (by simp only [M.needLead] at hb; omega)
  have h_Have := run_eqChunkS (xs := a.have_) (by simp only [M.needLead] at hb; omega)
  have h_Ready := run_eqInt64S (xs := a.ready) (by simp only [M.needLead] at hb; omega)
  have h_Line := run_eqLine a.line (by simp only [M.needLead] at hb; omega)
  unfold M.lineV at h_Line
  try simp only [M.tyAck_t, M.tyAck_f, M.tyChunk_t, M.tyChunk_f, M.tyEntry_t, M.tyEntry_f, M.tyHead_t, M.tyHead_f, M.tyLast_t, M.tyLast_f, M.tyWait_t, M.tyWait_f, M.tyWay_t, M.tyWay_f] at h_Line
  rw [RUN_eq, prog_laws_eqLead]
  simp [pf_laws_eqLead, M.leadV, h_Pg, h_Code, h_Acting, h_Ivs, h_Heard, h_Pick, h_Fills, h_Have, h_Ready, h_Line]
theorem run_eqLeadS {xs : List (M.Lead)} (hb : (xs.length + sumN M.needLead xs) ≤ 1048576) : RUN CC fn_laws_eqLeadS [.sl 0 ty_impl_Lead (xs.map (M.leadV 0 true)), .sl 0 ty_impl_Lead (xs.map (M.leadV 0 true))] = some ([.bool true], []) := by
  have h := run_eqS (C := CC) (e := ty_impl_Lead) (n := 43) (g := fn_laws_eqLead) prog_laws_eqLeadS modes_laws_eqLead (xs := xs.map fun a => (M.leadV 0 true a).cells) (by simp; omega) (by
    intro x hx
    obtain ⟨a, ha, rfl⟩ := List.mem_map.1 hx
    have hs := sumN_le M.needLead ha
    have h2 := run_eqLead a (by omega)
    exact ⟨rfl, by simp [calmL, M.leadV], h2⟩)
  simp only [List.map_map] at h
  exact h
theorem run_eqOp (a : M.Op) (hb : M.needOp a ≤ 1048576) : RUN CC fn_laws_eqOp [M.opV a, M.opV a] = some ([.bool true], []) := by
  rw [RUN_eq, prog_laws_eqOp]
  simp [pf_laws_eqOp, M.opV]
theorem run_eqMsg (a : M.Msg) (hb : M.needMsg a ≤ 1048576) : RUN CC fn_laws_eqMsg [M.msgV 0 true a, M.msgV 0 true a] = some ([.bool true], []) := by
  have h_Pg := run_eqPg a.pg
  unfold M.pgV at h_Pg
  try simp only [] at h_Pg
  have h_Ver := run_eqVer a.ver
  unfold M.verV at h_Ver
  try simp only [] at h_Ver
  have h_Firm := run_eqVer a.firm
  unfold M.verV at h_Firm
  try simp only [] at h_Firm
  have h_State := run_eqPgState a.state (by simp only [M.needMsg] at hb; omega)
  unfold M.pgStateV at h_State
  try simp only [M.tyChunk_t, M.tyChunk_f, M.tyEntry_t, M.tyEntry_f, M.tyHead_t, M.tyHead_f, M.tyLast_t, M.tyLast_f] at h_State
  have h_Entry := run_eqEntry a.entry (by simp only [M.needMsg] at hb; omega)
  unfold M.entryV at h_Entry
  try simp only [] at h_Entry
  have h_Chunk := run_eqChunk a.chunk (by simp only [M.needMsg] at hb; omega)
  unfold M.chunkV at h_Chunk
  try simp only [] at h_Chunk
  have h_Op := run_eqOp a.op (by simp only [M.needMsg] at hb; omega)
  unfold M.opV at h_Op
  try simp only [] at h_Op
  have h_Req := run_eqReq a.req
  unfold M.reqV at h_Req
  try simp only [] at h_Req
  rw [RUN_eq, prog_laws_eqMsg]
  simp [pf_laws_eqMsg, M.msgV, h_Pg, h_Ver, h_Firm, h_State, h_Entry, h_Chunk, h_Op, h_Req]
theorem run_eqMsgS {xs : List (M.Msg)} (hb : (xs.length + sumN M.needMsg xs) ≤ 1048576) : RUN CC fn_laws_eqMsgS [.sl 0 ty_impl_Msg (xs.map (M.msgV 0 true)), .sl 0 ty_impl_Msg (xs.map (M.msgV 0 true))] = some ([.bool true], []) := by
  have h := run_eqS (C := CC) (e := ty_impl_Msg) (n := 46) (g := fn_laws_eqMsg) prog_laws_eqMsgS modes_laws_eqMsg (xs := xs.map fun a => (M.msgV 0 true a).cells) (by simp; omega) (by
    intro x hx
    obtain ⟨a, ha, rfl⟩ := List.mem_map.1 hx
    have hs := sumN_le M.needMsg ha
    have h2 := run_eqMsg a (by omega)
    exact ⟨rfl, by simp [calmL, M.msgV], h2⟩)
  simp only [List.map_map] at h
  exact h
theorem run_eqStore (a : M.Store) (hb : M.needStore a ≤ 1048576) : RUN CC fn_laws_eqStore [M.storeV 0 true a, M.storeV 0 true a] = some ([.bool true], []) := by
  have h_Live := run_eqPgStateS (xs := a.live) (by simp only [M.needStore] at hb; omega)
  have h_Kept := run_eqPgStateS (xs := a.kept) (by simp only [M.needStore] at hb; omega)
  rw [RUN_eq, prog_laws_eqStore]
  simp [pf_laws_eqStore, M.storeV, h_Live, h_Kept]
theorem run_eqServer (a : M.Server) (hb : M.needServer a ≤ 1048576) : RUN CC fn_laws_eqServer [M.serverV 0 true a, M.serverV 0 true a] = some ([.bool true], []) := by
  have h_Store := run_eqStore a.store (by simp only [M.needServer] at hb; omega)
  unfold M.storeV at h_Store
  try simp only [M.tyPgState_t, M.tyPgState_f] at h_Store
  have h_Leads := run_eqLeadS (xs := a.leads) (by simp only [M.needServer] at hb; omega)
  have h_Out := run_eqMsgS (xs := a.out) (by simp only [M.needServer] at hb; omega)
  rw [RUN_eq, prog_laws_eqServer]
  simp [pf_laws_eqServer, M.serverV, h_Store, h_Leads, h_Out]
theorem run_szAckS {xs : List (M.Ack)} {left : Int} (h0 : 0 ≤ left) (h1 : left ≤ 4611686018427387904) (hb : xs.length ≤ 9223372036854775807) : RUN CC fn_laws_szAckS [.sl 0 ty_laws_Ack (xs.map (M.ackV)), .int .i64 left] = some ([.int .i64 (szR left (xs.length))], []) := by
  have h := run_szS0 (C := CC) (e := ty_laws_Ack) prog_laws_szAckS (xs := xs.map (M.ackV)) (by simp; omega) h0 h1
  simpa using h
theorem run_szChunk (a : M.Chunk) {left : Int} (h0 : 0 ≤ left) (h1 : left ≤ 4611686018427387904) (hb : M.okChunk a) : RUN CC fn_laws_szChunk [M.chunkV a, .int .i64 left] = some ([.int .i64 (szR left (M.needChunk a))], []) := by
  have hN : M.needChunk a = a.name.size + a.bytes.size := rfl
  have q0 : a.name.size ≤ 9223372036854775807 := by simp only [M.okChunk] at hb; grind
  have q1 : a.bytes.size ≤ 9223372036854775807 := by simp only [M.okChunk] at hb; grind
  rw [hN]
  clear hN hb
  generalize e0 : a.name.size = n0 at *
  generalize e1 : a.bytes.size = n1 at *
  rw [RUN_eq, prog_laws_szChunk]
  by_cases m0 : left < n0
  · have g0 : left - n0 < 0 := by omega
    rw [szR_lt (by omega)]
    simp (disch := omega) [pf_laws_szChunk, M.chunkV, IntWalk.i64_in, e0, g0]
  · have g0 : ¬ left - n0 < 0 := by omega
    by_cases m1 : left - n0 < n1
    · have g1 : left - n0 - n1 < 0 := by omega
      rw [szR_lt (by omega)]
      simp (disch := omega) [pf_laws_szChunk, M.chunkV, IntWalk.i64_in, e0, g0, e1, g1]
    · have g1 : ¬ left - n0 - n1 < 0 := by omega
      rw [szR_ge (by omega), show left - ((n0 + n1 : Nat) : Int) = left - n0 - n1 by omega]
      simp (disch := omega) [pf_laws_szChunk, M.chunkV, IntWalk.i64_in, e0, g0, e1, g1]
theorem run_szChunkS {xs : List (M.Chunk)} {left : Int} (h0 : 0 ≤ left) (h1 : left ≤ 4611686018427387904) (hb : xs.length ≤ 9223372036854775807 ∧ (∀ x ∈ xs, M.okChunk x)) : RUN CC fn_laws_szChunkS [.sl 0 ty_laws_Chunk (xs.map (M.chunkV)), .int .i64 left] = some ([.int .i64 (szR left (xs.length + sumN M.needChunk xs))], []) := by
  have h := run_szS (C := CC) (e := ty_laws_Chunk) (n := 6) (g := fn_laws_szChunk) prog_laws_szChunkS modes_laws_szChunk (fun a => (M.chunkV a).cells) (M.needChunk) (xs := xs) hb.1 h0 h1 (by
    intro a ha
    exact ⟨rfl, by simp [calmL, M.chunkV], fun left h0 h1 => run_szChunk a h0 h1 (hb.2 a ha)⟩)
  exact h
theorem run_szEntry (a : M.Entry) {left : Int} (h0 : 0 ≤ left) (h1 : left ≤ 4611686018427387904) (hb : M.okEntry a) : RUN CC fn_laws_szEntry [M.entryV a, .int .i64 left] = some ([.int .i64 (szR left (M.needEntry a))], []) := by
  have hN : M.needEntry a = a.name.size := rfl
  have q0 : a.name.size ≤ 9223372036854775807 := by simp only [M.okEntry] at hb; grind
  rw [hN]
  clear hN hb
  generalize e0 : a.name.size = n0 at *
  rw [RUN_eq, prog_laws_szEntry]
  by_cases m0 : left < n0
  · have g0 : left - n0 < 0 := by omega
    rw [szR_lt (by omega)]
    simp (disch := omega) [pf_laws_szEntry, M.entryV, IntWalk.i64_in, e0, g0]
  · have g0 : ¬ left - n0 < 0 := by omega
    rw [szR_ge (by omega), show left - ((n0 : Nat) : Int) = left - n0 by omega]
    simp (disch := omega) [pf_laws_szEntry, M.entryV, IntWalk.i64_in, e0, g0]
theorem run_szEntryS {xs : List (M.Entry)} {left : Int} (h0 : 0 ≤ left) (h1 : left ≤ 4611686018427387904) (hb : xs.length ≤ 9223372036854775807 ∧ (∀ x ∈ xs, M.okEntry x)) : RUN CC fn_laws_szEntryS [.sl 0 ty_laws_Entry (xs.map (M.entryV)), .int .i64 left] = some ([.int .i64 (szR left (xs.length + sumN M.needEntry xs))], []) := by
  have h := run_szS (C := CC) (e := ty_laws_Entry) (n := 10) (g := fn_laws_szEntry) prog_laws_szEntryS modes_laws_szEntry (fun a => (M.entryV a).cells) (M.needEntry) (xs := xs) hb.1 h0 h1 (by
    intro a ha
    exact ⟨rfl, by simp [calmL, M.entryV], fun left h0 h1 => run_szEntry a h0 h1 (hb.2 a ha)⟩)
  exact h
theorem run_szHead (a : M.Head) {left : Int} (h0 : 0 ≤ left) (h1 : left ≤ 4611686018427387904) (hb : M.okHead a) : RUN CC fn_laws_szHead [M.headV a, .int .i64 left] = some ([.int .i64 (szR left (M.needHead a))], []) := by
  have hN : M.needHead a = a.name.size := rfl
  have q0 : a.name.size ≤ 9223372036854775807 := by simp only [M.okHead] at hb; grind
  rw [hN]
  clear hN hb
  generalize e0 : a.name.size = n0 at *
  rw [RUN_eq, prog_laws_szHead]
  by_cases m0 : left < n0
  · have g0 : left - n0 < 0 := by omega
    rw [szR_lt (by omega)]
    simp (disch := omega) [pf_laws_szHead, M.headV, IntWalk.i64_in, e0, g0]
  · have g0 : ¬ left - n0 < 0 := by omega
    rw [szR_ge (by omega), show left - ((n0 : Nat) : Int) = left - n0 by omega]
    simp (disch := omega) [pf_laws_szHead, M.headV, IntWalk.i64_in, e0, g0]
theorem run_szHeadS {xs : List (M.Head)} {left : Int} (h0 : 0 ≤ left) (h1 : left ≤ 4611686018427387904) (hb : xs.length ≤ 9223372036854775807 ∧ (∀ x ∈ xs, M.okHead x)) : RUN CC fn_laws_szHeadS [.sl 0 ty_laws_Head (xs.map (M.headV)), .int .i64 left] = some ([.int .i64 (szR left (xs.length + sumN M.needHead xs))], []) := by
  have h := run_szS (C := CC) (e := ty_laws_Head) (n := 5) (g := fn_laws_szHead) prog_laws_szHeadS modes_laws_szHead (fun a => (M.headV a).cells) (M.needHead) (xs := xs) hb.1 h0 h1 (by
    intro a ha
    exact ⟨rfl, by simp [calmL, M.headV], fun left h0 h1 => run_szHead a h0 h1 (hb.2 a ha)⟩)
  exact h
theorem run_szFill (a : M.Fill) {left : Int} (h0 : 0 ≤ left) (h1 : left ≤ 4611686018427387904) (hb : M.okFill a) : RUN CC fn_laws_szFill [M.fillV a, .int .i64 left] = some ([.int .i64 (szR left (M.needFill a))], []) := by
  have hN : M.needFill a = M.needHead a.head := rfl
  have k0 : ∀ left : Int, 0 ≤ left → left ≤ 4611686018427387904 → _ := fun left h0 h1 => run_szHead a.head (left := left) h0 h1 (by simp only [M.okFill] at hb; grind)
  rw [hN]
  clear hN hb
  generalize e0 : M.needHead a.head = n0 at *
  unfold M.headV at k0
  try simp only [] at k0
  rw [RUN_eq, prog_laws_szFill]
  have c0 := k0 (left) (by omega) (by omega)
  by_cases m0 : left < n0
  · rw [szR_lt m0] at c0
    rw [szR_lt (by omega)]
    simp (disch := omega) [pf_laws_szFill, M.fillV, IntWalk.i64_in, c0]
  · rw [szR_ge m0] at c0
    have g0 : ¬ left - n0 < 0 := by omega
    rw [szR_ge (by omega), show left - ((n0 : Nat) : Int) = left - n0 by omega]
    simp (disch := omega) [pf_laws_szFill, M.fillV, IntWalk.i64_in, c0, g0]
theorem run_szFillS {xs : List (M.Fill)} {left : Int} (h0 : 0 ≤ left) (h1 : left ≤ 4611686018427387904) (hb : xs.length ≤ 9223372036854775807 ∧ (∀ x ∈ xs, M.okFill x)) : RUN CC fn_laws_szFillS [.sl 0 ty_laws_Fill (xs.map (M.fillV)), .int .i64 left] = some ([.int .i64 (szR left (xs.length + sumN M.needFill xs))], []) := by
  have h := run_szS (C := CC) (e := ty_laws_Fill) (n := 7) (g := fn_laws_szFill) prog_laws_szFillS modes_laws_szFill (fun a => (M.fillV a).cells) (M.needFill) (xs := xs) hb.1 h0 h1 (by
    intro a ha
    exact ⟨rfl, by simp [calmL, M.fillV], fun left h0 h1 => run_szFill a h0 h1 (hb.2 a ha)⟩)
  exact h
theorem run_szGot (a : M.Got) {left : Int} (h0 : 0 ≤ left) (h1 : left ≤ 4611686018427387904) (hb : M.okGot a) : RUN CC fn_laws_szGot [M.gotV a, .int .i64 left] = some ([.int .i64 (szR left (M.needGot a))], []) := by
  have hN : M.needGot a = M.needEntry a.entry + M.needChunk a.chunk := rfl
  have k0 : ∀ left : Int, 0 ≤ left → left ≤ 4611686018427387904 → _ := fun left h0 h1 => run_szEntry a.entry (left := left) h0 h1 (by simp only [M.okGot] at hb; grind)
  have k1 : ∀ left : Int, 0 ≤ left → left ≤ 4611686018427387904 → _ := fun left h0 h1 => run_szChunk a.chunk (left := left) h0 h1 (by simp only [M.okGot] at hb; grind)
  rw [hN]
  clear hN hb
  generalize e0 : M.needEntry a.entry = n0 at *
  generalize e1 : M.needChunk a.chunk = n1 at *
  unfold M.entryV at k0
  try simp only [] at k0
  unfold M.chunkV at k1
  try simp only [] at k1
  rw [RUN_eq, prog_laws_szGot]
  have c0 := k0 (left) (by omega) (by omega)
  by_cases m0 : left < n0
  · rw [szR_lt m0] at c0
    rw [szR_lt (by omega)]
    simp (disch := omega) [pf_laws_szGot, M.gotV, IntWalk.i64_in, c0]
  · rw [szR_ge m0] at c0
    have g0 : ¬ left - n0 < 0 := by omega
    have c1 := k1 (left - n0) (by omega) (by omega)
    by_cases m1 : left - n0 < n1
    · rw [szR_lt m1] at c1
      rw [szR_lt (by omega)]
      simp (disch := omega) [pf_laws_szGot, M.gotV, IntWalk.i64_in, c0, g0, c1]
    · rw [szR_ge m1] at c1
      have g1 : ¬ left - n0 - n1 < 0 := by omega
      rw [szR_ge (by omega), show left - ((n0 + n1 : Nat) : Int) = left - n0 - n1 by omega]
      simp (disch := omega) [pf_laws_szGot, M.gotV, IntWalk.i64_in, c0, g0, c1, g1]
theorem run_szGotS {xs : List (M.Got)} {left : Int} (h0 : 0 ≤ left) (h1 : left ≤ 4611686018427387904) (hb : xs.length ≤ 9223372036854775807 ∧ (∀ x ∈ xs, M.okGot x)) : RUN CC fn_laws_szGotS [.sl 0 ty_laws_Got (xs.map (M.gotV)), .int .i64 left] = some ([.int .i64 (szR left (xs.length + sumN M.needGot xs))], []) := by
  have h := run_szS (C := CC) (e := ty_laws_Got) (n := 17) (g := fn_laws_szGot) prog_laws_szGotS modes_laws_szGot (fun a => (M.gotV a).cells) (M.needGot) (xs := xs) hb.1 h0 h1 (by
    intro a ha
    exact ⟨rfl, by simp [calmL, M.gotV], fun left h0 h1 => run_szGot a h0 h1 (hb.2 a ha)⟩)
  exact h
theorem run_szInt64S {xs : List (Int)} {left : Int} (h0 : 0 ≤ left) (h1 : left ≤ 4611686018427387904) (hb : xs.length ≤ 9223372036854775807) : RUN CC fn_laws_szInt64S [.sl 0 ty_int64 (xs.map (PV.int .i64)), .int .i64 left] = some ([.int .i64 (szR left (xs.length))], []) := by
  have h := run_szS0 (C := CC) (e := ty_int64) prog_laws_szInt64S (xs := xs.map (PV.int .i64)) (by simp; omega) h0 h1
  simpa using h
theorem run_szInterval (a : M.Interval) {left : Int} (h0 : 0 ≤ left) (h1 : left ≤ 4611686018427387904) (hb : M.okInterval a) : RUN CC fn_laws_szInterval [M.intervalV 0 false a, .int .i64 left] = some ([.int .i64 (szR left (M.needInterval a))], []) := by
  have hN : M.needInterval a = (a.acting.length) := rfl
  have k0 : ∀ left : Int, 0 ≤ left → left ≤ 4611686018427387904 → _ := fun left h0 h1 => run_szInt64S (xs := a.acting) (left := left) h0 h1 (by simp only [M.okInterval] at hb; grind)
  rw [hN]
  clear hN hb
  generalize e0 : (a.acting.length) = n0 at *
  rw [RUN_eq, prog_laws_szInterval]
  have c0 := k0 (left) (by omega) (by omega)
  by_cases m0 : left < n0
  · rw [szR_lt m0] at c0
    rw [szR_lt (by omega)]
    simp (disch := omega) [pf_laws_szInterval, M.intervalV, IntWalk.i64_in, c0]
  · rw [szR_ge m0] at c0
    have g0 : ¬ left - n0 < 0 := by omega
    rw [szR_ge (by omega), show left - ((n0 : Nat) : Int) = left - n0 by omega]
    simp (disch := omega) [pf_laws_szInterval, M.intervalV, IntWalk.i64_in, c0, g0]
theorem run_szIntervalS {xs : List (M.Interval)} {left : Int} (h0 : 0 ≤ left) (h1 : left ≤ 4611686018427387904) (hb : xs.length ≤ 9223372036854775807 ∧ (∀ x ∈ xs, M.okInterval x)) : RUN CC fn_laws_szIntervalS [.sl 0 ty_laws_Interval (xs.map (M.intervalV 0 false)), .int .i64 left] = some ([.int .i64 (szR left (xs.length + sumN M.needInterval xs))], []) := by
  have h := run_szS (C := CC) (e := ty_laws_Interval) (n := 4) (g := fn_laws_szInterval) prog_laws_szIntervalS modes_laws_szInterval (fun a => (M.intervalV 0 false a).cells) (M.needInterval) (xs := xs) hb.1 h0 h1 (by
    intro a ha
    exact ⟨rfl, by simp [calmL, M.intervalV], fun left h0 h1 => run_szInterval a h0 h1 (hb.2 a ha)⟩)
  exact h
theorem run_szLastS {xs : List (M.Last)} {left : Int} (h0 : 0 ≤ left) (h1 : left ≤ 4611686018427387904) (hb : xs.length ≤ 9223372036854775807) : RUN CC fn_laws_szLastS [.sl 0 ty_laws_Last (xs.map (M.lastV)), .int .i64 left] = some ([.int .i64 (szR left (xs.length))], []) := by
  have h := run_szS0 (C := CC) (e := ty_laws_Last) prog_laws_szLastS (xs := xs.map (M.lastV)) (by simp; omega) h0 h1
  simpa using h
theorem run_szPgState (a : M.PgState) {left : Int} (h0 : 0 ≤ left) (h1 : left ≤ 4611686018427387904) (hb : M.okPgState a) : RUN CC fn_laws_szPgState [M.pgStateV 0 false a, .int .i64 left] = some ([.int .i64 (szR left (M.needPgState a))], []) := by
  have hN : M.needPgState a = (a.base.length + sumN M.needHead a.base) + (a.clients.length) + (a.log.length + sumN M.needEntry a.log) + (a.chunks.length + sumN M.needChunk a.chunks) := rfl
  have k0 : ∀ left : Int, 0 ≤ left → left ≤ 4611686018427387904 → _ := fun left h0 h1 => run_szHeadS (xs := a.base) (left := left) h0 h1 (by simp only [M.okPgState] at hb; grind)
  have k1 : ∀ left : Int, 0 ≤ left → left ≤ 4611686018427387904 → _ := fun left h0 h1 => run_szLastS (xs := a.clients) (left := left) h0 h1 (by simp only [M.okPgState] at hb; grind)
  have k2 : ∀ left : Int, 0 ≤ left → left ≤ 4611686018427387904 → _ := fun left h0 h1 => run_szEntryS (xs := a.log) (left := left) h0 h1 (by simp only [M.okPgState] at hb; grind)
  have k3 : ∀ left : Int, 0 ≤ left → left ≤ 4611686018427387904 → _ := fun left h0 h1 => run_szChunkS (xs := a.chunks) (left := left) h0 h1 (by simp only [M.okPgState] at hb; grind)
  rw [hN]
  clear hN hb
  generalize e0 : (a.base.length + sumN M.needHead a.base) = n0 at *
  generalize e1 : (a.clients.length) = n1 at *
  generalize e2 : (a.log.length + sumN M.needEntry a.log) = n2 at *
  generalize e3 : (a.chunks.length + sumN M.needChunk a.chunks) = n3 at *
  rw [RUN_eq, prog_laws_szPgState]
  have c0 := k0 (left) (by omega) (by omega)
  by_cases m0 : left < n0
  · rw [szR_lt m0] at c0
    rw [szR_lt (by omega)]
    simp (disch := omega) [pf_laws_szPgState, M.pgStateV, IntWalk.i64_in, c0]
  · rw [szR_ge m0] at c0
    have g0 : ¬ left - n0 < 0 := by omega
    have c1 := k1 (left - n0) (by omega) (by omega)
    by_cases m1 : left - n0 < n1
    · rw [szR_lt m1] at c1
      rw [szR_lt (by omega)]
      simp (disch := omega) [pf_laws_szPgState, M.pgStateV, IntWalk.i64_in, c0, g0, c1]
    · rw [szR_ge m1] at c1
      have g1 : ¬ left - n0 - n1 < 0 := by omega
      have c2 := k2 (left - n0 - n1) (by omega) (by omega)
      by_cases m2 : left - n0 - n1 < n2
      · rw [szR_lt m2] at c2
        rw [szR_lt (by omega)]
        simp (disch := omega) [pf_laws_szPgState, M.pgStateV, IntWalk.i64_in, c0, g0, c1, g1, c2]
      · rw [szR_ge m2] at c2
        have g2 : ¬ left - n0 - n1 - n2 < 0 := by omega
        have c3 := k3 (left - n0 - n1 - n2) (by omega) (by omega)
        by_cases m3 : left - n0 - n1 - n2 < n3
        · rw [szR_lt m3] at c3
          rw [szR_lt (by omega)]
          simp (disch := omega) [pf_laws_szPgState, M.pgStateV, IntWalk.i64_in, c0, g0, c1, g1, c2, g2, c3]
        · rw [szR_ge m3] at c3
          have g3 : ¬ left - n0 - n1 - n2 - n3 < 0 := by omega
          rw [szR_ge (by omega), show left - ((n0 + n1 + n2 + n3 : Nat) : Int) = left - n0 - n1 - n2 - n3 by omega]
          simp (disch := omega) [pf_laws_szPgState, M.pgStateV, IntWalk.i64_in, c0, g0, c1, g1, c2, g2, c3, g3]
theorem run_szPgStateS {xs : List (M.PgState)} {left : Int} (h0 : 0 ≤ left) (h1 : left ≤ 4611686018427387904) (hb : xs.length ≤ 9223372036854775807 ∧ (∀ x ∈ xs, M.okPgState x)) : RUN CC fn_laws_szPgStateS [.sl 0 ty_laws_PgState (xs.map (M.pgStateV 0 false)), .int .i64 left] = some ([.int .i64 (szR left (xs.length + sumN M.needPgState xs))], []) := by
  have h := run_szS (C := CC) (e := ty_laws_PgState) (n := 12) (g := fn_laws_szPgState) prog_laws_szPgStateS modes_laws_szPgState (fun a => (M.pgStateV 0 false a).cells) (M.needPgState) (xs := xs) hb.1 h0 h1 (by
    intro a ha
    exact ⟨rfl, by simp [calmL, M.pgStateV], fun left h0 h1 => run_szPgState a h0 h1 (hb.2 a ha)⟩)
  exact h
theorem run_szNotice (a : M.Notice) {left : Int} (h0 : 0 ≤ left) (h1 : left ≤ 4611686018427387904) (hb : M.okNotice a) : RUN CC fn_laws_szNotice [M.noticeV 0 false a, .int .i64 left] = some ([.int .i64 (szR left (M.needNotice a))], []) := by
  have hN : M.needNotice a = M.needPgState a.state := rfl
  have k0 : ∀ left : Int, 0 ≤ left → left ≤ 4611686018427387904 → _ := fun left h0 h1 => run_szPgState a.state (left := left) h0 h1 (by simp only [M.okNotice] at hb; grind)
  rw [hN]
  clear hN hb
  generalize e0 : M.needPgState a.state = n0 at *
  unfold M.pgStateV at k0
  try simp only [M.tyChunk_t, M.tyChunk_f, M.tyEntry_t, M.tyEntry_f, M.tyHead_t, M.tyHead_f, M.tyLast_t, M.tyLast_f] at k0
  rw [RUN_eq, prog_laws_szNotice]
  have c0 := k0 (left) (by omega) (by omega)
  by_cases m0 : left < n0
  · rw [szR_lt m0] at c0
    rw [szR_lt (by omega)]
    simp (disch := omega) [pf_laws_szNotice, M.noticeV, IntWalk.i64_in, c0]
  · rw [szR_ge m0] at c0
    have g0 : ¬ left - n0 < 0 := by omega
    rw [szR_ge (by omega), show left - ((n0 : Nat) : Int) = left - n0 by omega]
    simp (disch := omega) [pf_laws_szNotice, M.noticeV, IntWalk.i64_in, c0, g0]
theorem run_szNoticeS {xs : List (M.Notice)} {left : Int} (h0 : 0 ≤ left) (h1 : left ≤ 4611686018427387904) (hb : xs.length ≤ 9223372036854775807 ∧ (∀ x ∈ xs, M.okNotice x)) : RUN CC fn_laws_szNoticeS [.sl 0 ty_laws_Notice (xs.map (M.noticeV 0 false)), .int .i64 left] = some ([.int .i64 (szR left (xs.length + sumN M.needNotice xs))], []) := by
  have h := run_szS (C := CC) (e := ty_laws_Notice) (n := 13) (g := fn_laws_szNotice) prog_laws_szNoticeS modes_laws_szNotice (fun a => (M.noticeV 0 false a).cells) (M.needNotice) (xs := xs) hb.1 h0 h1 (by
    intro a ha
    exact ⟨rfl, by simp [calmL, M.noticeV], fun left h0 h1 => run_szNotice a h0 h1 (hb.2 a ha)⟩)
  exact h
theorem run_szWay (a : M.Way) {left : Int} (h0 : 0 ≤ left) (h1 : left ≤ 4611686018427387904) (hb : M.okWay a) : RUN CC fn_laws_szWay [M.wayV a, .int .i64 left] = some ([.int .i64 (szR left (M.needWay a))], []) := by
  have hN : M.needWay a = M.needEntry a.entry + a.body.size := rfl
  have k0 : ∀ left : Int, 0 ≤ left → left ≤ 4611686018427387904 → _ := fun left h0 h1 => run_szEntry a.entry (left := left) h0 h1 (by simp only [M.okWay] at hb; grind)
  have q1 : a.body.size ≤ 9223372036854775807 := by simp only [M.okWay] at hb; grind
  rw [hN]
  clear hN hb
  generalize e0 : M.needEntry a.entry = n0 at *
  generalize e1 : a.body.size = n1 at *
  unfold M.entryV at k0
  try simp only [] at k0
  rw [RUN_eq, prog_laws_szWay]
  have c0 := k0 (left) (by omega) (by omega)
  by_cases m0 : left < n0
  · rw [szR_lt m0] at c0
    rw [szR_lt (by omega)]
    simp (disch := omega) [pf_laws_szWay, M.wayV, IntWalk.i64_in, c0]
  · rw [szR_ge m0] at c0
    have g0 : ¬ left - n0 < 0 := by omega
    by_cases m1 : left - n0 < n1
    · have g1 : left - n0 - n1 < 0 := by omega
      rw [szR_lt (by omega)]
      simp (disch := omega) [pf_laws_szWay, M.wayV, IntWalk.i64_in, c0, g0, e1, g1]
    · have g1 : ¬ left - n0 - n1 < 0 := by omega
      rw [szR_ge (by omega), show left - ((n0 + n1 : Nat) : Int) = left - n0 - n1 by omega]
      simp (disch := omega) [pf_laws_szWay, M.wayV, IntWalk.i64_in, c0, g0, e1, g1]
theorem run_szWayS {xs : List (M.Way)} {left : Int} (h0 : 0 ≤ left) (h1 : left ≤ 4611686018427387904) (hb : xs.length ≤ 9223372036854775807 ∧ (∀ x ∈ xs, M.okWay x)) : RUN CC fn_laws_szWayS [.sl 0 ty_laws_Way (xs.map (M.wayV)), .int .i64 left] = some ([.int .i64 (szR left (xs.length + sumN M.needWay xs))], []) := by
  have h := run_szS (C := CC) (e := ty_laws_Way) (n := 11) (g := fn_laws_szWay) prog_laws_szWayS modes_laws_szWay (fun a => (M.wayV a).cells) (M.needWay) (xs := xs) hb.1 h0 h1 (by
    intro a ha
    exact ⟨rfl, by simp [calmL, M.wayV], fun left h0 h1 => run_szWay a h0 h1 (hb.2 a ha)⟩)
  exact h
theorem run_szWait (a : M.Wait) {left : Int} (h0 : 0 ≤ left) (h1 : left ≤ 4611686018427387904) (hb : M.okWait a) : RUN CC fn_laws_szWait [M.waitV 0 false a, .int .i64 left] = some ([.int .i64 (szR left (M.needWait a))], []) := by
  have hN : M.needWait a = a.name.size + (a.got.length + sumN M.needGot a.got) := rfl
  have q0 : a.name.size ≤ 9223372036854775807 := by simp only [M.okWait] at hb; grind
  have k1 : ∀ left : Int, 0 ≤ left → left ≤ 4611686018427387904 → _ := fun left h0 h1 => run_szGotS (xs := a.got) (left := left) h0 h1 (by simp only [M.okWait] at hb; grind)
  rw [hN]
  clear hN hb
  generalize e0 : a.name.size = n0 at *
  generalize e1 : (a.got.length + sumN M.needGot a.got) = n1 at *
  rw [RUN_eq, prog_laws_szWait]
  by_cases m0 : left < n0
  · have g0 : left - n0 < 0 := by omega
    rw [szR_lt (by omega)]
    simp (disch := omega) [pf_laws_szWait, M.waitV, IntWalk.i64_in, e0, g0]
  · have g0 : ¬ left - n0 < 0 := by omega
    have c1 := k1 (left - n0) (by omega) (by omega)
    by_cases m1 : left - n0 < n1
    · rw [szR_lt m1] at c1
      rw [szR_lt (by omega)]
      simp (disch := omega) [pf_laws_szWait, M.waitV, IntWalk.i64_in, e0, g0, c1]
    · rw [szR_ge m1] at c1
      have g1 : ¬ left - n0 - n1 < 0 := by omega
      rw [szR_ge (by omega), show left - ((n0 + n1 : Nat) : Int) = left - n0 - n1 by omega]
      simp (disch := omega) [pf_laws_szWait, M.waitV, IntWalk.i64_in, e0, g0, c1, g1]
theorem run_szWaitS {xs : List (M.Wait)} {left : Int} (h0 : 0 ≤ left) (h1 : left ≤ 4611686018427387904) (hb : xs.length ≤ 9223372036854775807 ∧ (∀ x ∈ xs, M.okWait x)) : RUN CC fn_laws_szWaitS [.sl 0 ty_laws_Wait (xs.map (M.waitV 0 false)), .int .i64 left] = some ([.int .i64 (szR left (xs.length + sumN M.needWait xs))], []) := by
  have h := run_szS (C := CC) (e := ty_laws_Wait) (n := 6) (g := fn_laws_szWait) prog_laws_szWaitS modes_laws_szWait (fun a => (M.waitV 0 false a).cells) (M.needWait) (xs := xs) hb.1 h0 h1 (by
    intro a ha
    exact ⟨rfl, by simp [calmL, M.waitV], fun left h0 h1 => run_szWait a h0 h1 (hb.2 a ha)⟩)
  exact h
theorem run_szLine (a : M.Line) {left : Int} (h0 : 0 ≤ left) (h1 : left ≤ 4611686018427387904) (hb : M.okLine a) : RUN CC fn_laws_szLine [M.lineV 0 false a, .int .i64 left] = some ([.int .i64 (szR left (M.needLine a))], []) := by
  have hN : M.needLine a = (a.acting.length) + M.needPgState a.state + (a.way.length + sumN M.needWay a.way) + (a.acks.length) + (a.waits.length + sumN M.needWait a.waits) := rfl
  have k0 : ∀ left : Int, 0 ≤ left → left ≤ 4611686018427387904 → _ := fun left h0 h1 => run_szInt64S (xs := a.acting) (left := left) h0 h1 (by simp only [M.okLine] at hb; grind)
  have k1 : ∀ left : Int, 0 ≤ left → left ≤ 4611686018427387904 → _ := fun left h0 h1 => run_szPgState a.state (left := left) h0 h1 (by simp only [M.okLine] at hb; grind)
  have k2 : ∀ left : Int, 0 ≤ left → left ≤ 4611686018427387904 → _ := fun left h0 h1 => run_szWayS (xs := a.way) (left := left) h0 h1 (by simp only [M.okLine] at hb; grind)
  have k3 : ∀ left : Int, 0 ≤ left → left ≤ 4611686018427387904 → _ := fun left h0 h1 => run_szAckS (xs := a.acks) (left := left) h0 h1 (by simp only [M.okLine] at hb; grind)
  have k4 : ∀ left : Int, 0 ≤ left → left ≤ 4611686018427387904 → _ := fun left h0 h1 => run_szWaitS (xs := a.waits) (left := left) h0 h1 (by simp only [M.okLine] at hb; grind)
  rw [hN]
  clear hN hb
  generalize e0 : (a.acting.length) = n0 at *
  generalize e1 : M.needPgState a.state = n1 at *
  generalize e2 : (a.way.length + sumN M.needWay a.way) = n2 at *
  generalize e3 : (a.acks.length) = n3 at *
  generalize e4 : (a.waits.length + sumN M.needWait a.waits) = n4 at *
  unfold M.pgStateV at k1
  try simp only [M.tyChunk_t, M.tyChunk_f, M.tyEntry_t, M.tyEntry_f, M.tyHead_t, M.tyHead_f, M.tyLast_t, M.tyLast_f] at k1
  rw [RUN_eq, prog_laws_szLine]
  have c0 := k0 (left) (by omega) (by omega)
  by_cases m0 : left < n0
  · rw [szR_lt m0] at c0
    rw [szR_lt (by omega)]
    simp (disch := omega) [pf_laws_szLine, M.lineV, IntWalk.i64_in, c0]
  · rw [szR_ge m0] at c0
    have g0 : ¬ left - n0 < 0 := by omega
    have c1 := k1 (left - n0) (by omega) (by omega)
    by_cases m1 : left - n0 < n1
    · rw [szR_lt m1] at c1
      rw [szR_lt (by omega)]
      simp (disch := omega) [pf_laws_szLine, M.lineV, IntWalk.i64_in, c0, g0, c1]
    · rw [szR_ge m1] at c1
      have g1 : ¬ left - n0 - n1 < 0 := by omega
      have c2 := k2 (left - n0 - n1) (by omega) (by omega)
      by_cases m2 : left - n0 - n1 < n2
      · rw [szR_lt m2] at c2
        rw [szR_lt (by omega)]
        simp (disch := omega) [pf_laws_szLine, M.lineV, IntWalk.i64_in, c0, g0, c1, g1, c2]
      · rw [szR_ge m2] at c2
        have g2 : ¬ left - n0 - n1 - n2 < 0 := by omega
        have c3 := k3 (left - n0 - n1 - n2) (by omega) (by omega)
        by_cases m3 : left - n0 - n1 - n2 < n3
        · rw [szR_lt m3] at c3
          rw [szR_lt (by omega)]
          simp (disch := omega) [pf_laws_szLine, M.lineV, IntWalk.i64_in, c0, g0, c1, g1, c2, g2, c3]
        · rw [szR_ge m3] at c3
          have g3 : ¬ left - n0 - n1 - n2 - n3 < 0 := by omega
          have c4 := k4 (left - n0 - n1 - n2 - n3) (by omega) (by omega)
          by_cases m4 : left - n0 - n1 - n2 - n3 < n4
          · rw [szR_lt m4] at c4
            rw [szR_lt (by omega)]
            simp (disch := omega) [pf_laws_szLine, M.lineV, IntWalk.i64_in, c0, g0, c1, g1, c2, g2, c3, g3, c4]
          · rw [szR_ge m4] at c4
            have g4 : ¬ left - n0 - n1 - n2 - n3 - n4 < 0 := by omega
            rw [szR_ge (by omega), show left - ((n0 + n1 + n2 + n3 + n4 : Nat) : Int) = left - n0 - n1 - n2 - n3 - n4 by omega]
            simp (disch := omega) [pf_laws_szLine, M.lineV, IntWalk.i64_in, c0, g0, c1, g1, c2, g2, c3, g3, c4, g4]
theorem run_szLead (a : M.Lead) {left : Int} (h0 : 0 ≤ left) (h1 : left ≤ 4611686018427387904) (hb : M.okLead a) : RUN CC fn_laws_szLead [M.leadV 0 false a, .int .i64 left] = some ([.int .i64 (szR left (M.needLead a))], []) := by
  have hN : M.needLead a = (a.acting.length) + (a.ivs.length + sumN M.needInterval a.ivs) + (a.heard.length + sumN M.needNotice a.heard) + M.needPgState a.pick + (a.fills.length + sumN M.needFill a.fills) + (a.have_.length + sumN M.needChunk a.have_) + (a.ready.length) + M.needLine a.line := rfl
  have k0 : ∀ left : Int, 0 ≤ left → left ≤ 4611686018427387904 → _ := fun left h0 h1 => run_szInt64S (xs := a.acting) (left := left) h0 h1 (by simp only [M.okLead] at hb; grind)
  have k1 : ∀ left : Int, 0 ≤ left → left ≤ 4611686018427387904 → _ := fun left h0 h1 => run_szIntervalS (xs := a.ivs) (left := left) h0 h1 (by simp only [M.okLead] at hb; grind)
  have k2 : ∀ left : Int, 0 ≤ left → left ≤ 4611686018427387904 → _ := fun left h0 h1 => run_szNoticeS (xs := a.heard) (left := left) h0 h1 (by simp only [M.okLead] at hb; grind)
  have k3 : ∀ left : Int, 0 ≤ left → left ≤ 4611686018427387904 → _ := fun left h0 h1 => run_szPgState a.pick (left := left) h0 h1 (by simp only [M.okLead] at hb; grind)
  have k4 : ∀ left : Int, 0 ≤ left → left ≤ 4611686018427387904 → _ := fun left h0 h1 => run_szFillS (xs := a.fills) (left := left) h0 h1 (by simp only [M.okLead] at hb; grind)
  have k5 : ∀ left : Int, 0 ≤ left → left ≤ 4611686018427387904 → _ := fun left h0 h1 => run_szChunkS (xs := a.have_) (left := left) h0 h1 (by simp only [M.okLead] at hb; grind)
  have k6 : ∀ left : Int, 0 ≤ left → left ≤ 4611686018427387904 → _ := fun left h0 h1 => run_szInt64S (xs := a.ready) (left := left) h0 h1 (by simp only [M.okLead] at hb; grind)
  have k7 : ∀ left : Int, 0 ≤ left → left ≤ 4611686018427387904 → _ := fun left h0 h1 => run_szLine a.line (left := left) h0 h1 (by simp only [M.okLead] at hb; grind)
  rw [hN]
  clear hN hb
  generalize e0 : (a.acting.length) = n0 at *
  generalize e1 : (a.ivs.length + sumN M.needInterval a.ivs) = n1 at *
  generalize e2 : (a.heard.length + sumN M.needNotice a.heard) = n2 at *
  generalize e3 : M.needPgState a.pick = n3 at *
  generalize e4 : (a.fills.length + sumN M.needFill a.fills) = n4 at *
  generalize e5 : (a.have_.length + sumN M.needChunk a.have_) = n5 at *
  generalize e6 : (a.ready.length) = n6 at *
  generalize e7 : M.needLine a.line = n7 at *
  unfold M.pgStateV at k3
  try simp only [M.tyChunk_t, M.tyChunk_f, M.tyEntry_t, M.tyEntry_f, M.tyHead_t, M.tyHead_f, M.tyLast_t, M.tyLast_f] at k3
  unfold M.lineV at k7
  try simp only [M.tyAck_t, M.tyAck_f, M.tyChunk_t, M.tyChunk_f, M.tyEntry_t, M.tyEntry_f, M.tyHead_t, M.tyHead_f, M.tyLast_t, M.tyLast_f, M.tyWait_t, M.tyWait_f, M.tyWay_t, M.tyWay_f] at k7
  rw [RUN_eq, prog_laws_szLead]
  have c0 := k0 (left) (by omega) (by omega)
  by_cases m0 : left < n0
  · rw [szR_lt m0] at c0
    rw [szR_lt (by omega)]
    simp (disch := omega) [pf_laws_szLead, M.leadV, IntWalk.i64_in, c0]
  · rw [szR_ge m0] at c0
    have g0 : ¬ left - n0 < 0 := by omega
    have c1 := k1 (left - n0) (by omega) (by omega)
    by_cases m1 : left - n0 < n1
    · rw [szR_lt m1] at c1
      rw [szR_lt (by omega)]
      simp (disch := omega) [pf_laws_szLead, M.leadV, IntWalk.i64_in, c0, g0, c1]
    · rw [szR_ge m1] at c1
      have g1 : ¬ left - n0 - n1 < 0 := by omega
      have c2 := k2 (left - n0 - n1) (by omega) (by omega)
      by_cases m2 : left - n0 - n1 < n2
      · rw [szR_lt m2] at c2
        rw [szR_lt (by omega)]
        simp (disch := omega) [pf_laws_szLead, M.leadV, IntWalk.i64_in, c0, g0, c1, g1, c2]
      · rw [szR_ge m2] at c2
        have g2 : ¬ left - n0 - n1 - n2 < 0 := by omega
        have c3 := k3 (left - n0 - n1 - n2) (by omega) (by omega)
        by_cases m3 : left - n0 - n1 - n2 < n3
        · rw [szR_lt m3] at c3
          rw [szR_lt (by omega)]
          simp (disch := omega) [pf_laws_szLead, M.leadV, IntWalk.i64_in, c0, g0, c1, g1, c2, g2, c3]
        · rw [szR_ge m3] at c3
          have g3 : ¬ left - n0 - n1 - n2 - n3 < 0 := by omega
          have c4 := k4 (left - n0 - n1 - n2 - n3) (by omega) (by omega)
          by_cases m4 : left - n0 - n1 - n2 - n3 < n4
          · rw [szR_lt m4] at c4
            rw [szR_lt (by omega)]
            simp (disch := omega) [pf_laws_szLead, M.leadV, IntWalk.i64_in, c0, g0, c1, g1, c2, g2, c3, g3, c4]
          · rw [szR_ge m4] at c4
            have g4 : ¬ left - n0 - n1 - n2 - n3 - n4 < 0 := by omega
            have c5 := k5 (left - n0 - n1 - n2 - n3 - n4) (by omega) (by omega)
            by_cases m5 : left - n0 - n1 - n2 - n3 - n4 < n5
            · rw [szR_lt m5] at c5
              rw [szR_lt (by omega)]
              simp (disch := omega) [pf_laws_szLead, M.leadV, IntWalk.i64_in, c0, g0, c1, g1, c2, g2, c3, g3, c4, g4, c5]
            · rw [szR_ge m5] at c5
              have g5 : ¬ left - n0 - n1 - n2 - n3 - n4 - n5 < 0 := by omega
              have c6 := k6 (left - n0 - n1 - n2 - n3 - n4 - n5) (by omega) (by omega)
              by_cases m6 : left - n0 - n1 - n2 - n3 - n4 - n5 < n6
              · rw [szR_lt m6] at c6
                rw [szR_lt (by omega)]
                simp (disch := omega) [pf_laws_szLead, M.leadV, IntWalk.i64_in, c0, g0, c1, g1, c2, g2, c3, g3, c4, g4, c5, g5, c6]
              · rw [szR_ge m6] at c6
                have g6 : ¬ left - n0 - n1 - n2 - n3 - n4 - n5 - n6 < 0 := by omega
                have c7 := k7 (left - n0 - n1 - n2 - n3 - n4 - n5 - n6) (by omega) (by omega)
                by_cases m7 : left - n0 - n1 - n2 - n3 - n4 - n5 - n6 < n7
                · rw [szR_lt m7] at c7
                  rw [szR_lt (by omega)]
                  simp (disch := omega) [pf_laws_szLead, M.leadV, IntWalk.i64_in, c0, g0, c1, g1, c2, g2, c3, g3, c4, g4, c5, g5, c6, g6, c7]
                · rw [szR_ge m7] at c7
                  have g7 : ¬ left - n0 - n1 - n2 - n3 - n4 - n5 - n6 - n7 < 0 := by omega
                  rw [szR_ge (by omega), show left - ((n0 + n1 + n2 + n3 + n4 + n5 + n6 + n7 : Nat) : Int) = left - n0 - n1 - n2 - n3 - n4 - n5 - n6 - n7 by omega]
                  simp (disch := omega) [pf_laws_szLead, M.leadV, IntWalk.i64_in, c0, g0, c1, g1, c2, g2, c3, g3, c4, g4, c5, g5, c6, g6, c7, g7]
theorem run_szLeadS {xs : List (M.Lead)} {left : Int} (h0 : 0 ≤ left) (h1 : left ≤ 4611686018427387904) (hb : xs.length ≤ 9223372036854775807 ∧ (∀ x ∈ xs, M.okLead x)) : RUN CC fn_laws_szLeadS [.sl 0 ty_laws_Lead (xs.map (M.leadV 0 false)), .int .i64 left] = some ([.int .i64 (szR left (xs.length + sumN M.needLead xs))], []) := by
  have h := run_szS (C := CC) (e := ty_laws_Lead) (n := 43) (g := fn_laws_szLead) prog_laws_szLeadS modes_laws_szLead (fun a => (M.leadV 0 false a).cells) (M.needLead) (xs := xs) hb.1 h0 h1 (by
    intro a ha
    exact ⟨rfl, by simp [calmL, M.leadV], fun left h0 h1 => run_szLead a h0 h1 (hb.2 a ha)⟩)
  exact h
theorem run_szOp (a : M.Op) {left : Int} (h0 : 0 ≤ left) (h1 : left ≤ 4611686018427387904) (hb : M.okOp a) : RUN CC fn_laws_szOp [M.opV a, .int .i64 left] = some ([.int .i64 (szR left (M.needOp a))], []) := by
  have hN : M.needOp a = a.bytes.size := rfl
  have q0 : a.bytes.size ≤ 9223372036854775807 := by simp only [M.okOp] at hb; grind
  rw [hN]
  clear hN hb
  generalize e0 : a.bytes.size = n0 at *
  rw [RUN_eq, prog_laws_szOp]
  by_cases m0 : left < n0
  · have g0 : left - n0 < 0 := by omega
    rw [szR_lt (by omega)]
    simp (disch := omega) [pf_laws_szOp, M.opV, IntWalk.i64_in, e0, g0]
  · have g0 : ¬ left - n0 < 0 := by omega
    rw [szR_ge (by omega), show left - ((n0 : Nat) : Int) = left - n0 by omega]
    simp (disch := omega) [pf_laws_szOp, M.opV, IntWalk.i64_in, e0, g0]
theorem run_szMsg (a : M.Msg) {left : Int} (h0 : 0 ≤ left) (h1 : left ≤ 4611686018427387904) (hb : M.okMsg a) : RUN CC fn_laws_szMsg [M.msgV 0 false a, .int .i64 left] = some ([.int .i64 (szR left (M.needMsg a))], []) := by
  have hN : M.needMsg a = a.name.size + M.needPgState a.state + M.needEntry a.entry + M.needChunk a.chunk + M.needOp a.op + a.body.size := rfl
  have q0 : a.name.size ≤ 9223372036854775807 := by simp only [M.okMsg] at hb; grind
  have k1 : ∀ left : Int, 0 ≤ left → left ≤ 4611686018427387904 → _ := fun left h0 h1 => run_szPgState a.state (left := left) h0 h1 (by simp only [M.okMsg] at hb; grind)
  have k2 : ∀ left : Int, 0 ≤ left → left ≤ 4611686018427387904 → _ := fun left h0 h1 => run_szEntry a.entry (left := left) h0 h1 (by simp only [M.okMsg] at hb; grind)
  have k3 : ∀ left : Int, 0 ≤ left → left ≤ 4611686018427387904 → _ := fun left h0 h1 => run_szChunk a.chunk (left := left) h0 h1 (by simp only [M.okMsg] at hb; grind)
  have k4 : ∀ left : Int, 0 ≤ left → left ≤ 4611686018427387904 → _ := fun left h0 h1 => run_szOp a.op (left := left) h0 h1 (by simp only [M.okMsg] at hb; grind)
  have q5 : a.body.size ≤ 9223372036854775807 := by simp only [M.okMsg] at hb; grind
  rw [hN]
  clear hN hb
  generalize e0 : a.name.size = n0 at *
  generalize e1 : M.needPgState a.state = n1 at *
  generalize e2 : M.needEntry a.entry = n2 at *
  generalize e3 : M.needChunk a.chunk = n3 at *
  generalize e4 : M.needOp a.op = n4 at *
  generalize e5 : a.body.size = n5 at *
  unfold M.pgStateV at k1
  try simp only [M.tyChunk_t, M.tyChunk_f, M.tyEntry_t, M.tyEntry_f, M.tyHead_t, M.tyHead_f, M.tyLast_t, M.tyLast_f] at k1
  unfold M.entryV at k2
  try simp only [] at k2
  unfold M.chunkV at k3
  try simp only [] at k3
  unfold M.opV at k4
  try simp only [] at k4
  rw [RUN_eq, prog_laws_szMsg]
  by_cases m0 : left < n0
  · have g0 : left - n0 < 0 := by omega
    rw [szR_lt (by omega)]
    simp (disch := omega) [pf_laws_szMsg, M.msgV, IntWalk.i64_in, e0, g0]
  · have g0 : ¬ left - n0 < 0 := by omega
    have c1 := k1 (left - n0) (by omega) (by omega)
    by_cases m1 : left - n0 < n1
    · rw [szR_lt m1] at c1
      rw [szR_lt (by omega)]
      simp (disch := omega) [pf_laws_szMsg, M.msgV, IntWalk.i64_in, e0, g0, c1]
    · rw [szR_ge m1] at c1
      have g1 : ¬ left - n0 - n1 < 0 := by omega
      have c2 := k2 (left - n0 - n1) (by omega) (by omega)
      by_cases m2 : left - n0 - n1 < n2
      · rw [szR_lt m2] at c2
        rw [szR_lt (by omega)]
        simp (disch := omega) [pf_laws_szMsg, M.msgV, IntWalk.i64_in, e0, g0, c1, g1, c2]
      · rw [szR_ge m2] at c2
        have g2 : ¬ left - n0 - n1 - n2 < 0 := by omega
        have c3 := k3 (left - n0 - n1 - n2) (by omega) (by omega)
        by_cases m3 : left - n0 - n1 - n2 < n3
        · rw [szR_lt m3] at c3
          rw [szR_lt (by omega)]
          simp (disch := omega) [pf_laws_szMsg, M.msgV, IntWalk.i64_in, e0, g0, c1, g1, c2, g2, c3]
        · rw [szR_ge m3] at c3
          have g3 : ¬ left - n0 - n1 - n2 - n3 < 0 := by omega
          have c4 := k4 (left - n0 - n1 - n2 - n3) (by omega) (by omega)
          by_cases m4 : left - n0 - n1 - n2 - n3 < n4
          · rw [szR_lt m4] at c4
            rw [szR_lt (by omega)]
            simp (disch := omega) [pf_laws_szMsg, M.msgV, IntWalk.i64_in, e0, g0, c1, g1, c2, g2, c3, g3, c4]
          · rw [szR_ge m4] at c4
            have g4 : ¬ left - n0 - n1 - n2 - n3 - n4 < 0 := by omega
            by_cases m5 : left - n0 - n1 - n2 - n3 - n4 < n5
            · have g5 : left - n0 - n1 - n2 - n3 - n4 - n5 < 0 := by omega
              rw [szR_lt (by omega)]
              simp (disch := omega) [pf_laws_szMsg, M.msgV, IntWalk.i64_in, e0, g0, c1, g1, c2, g2, c3, g3, c4, g4, e5, g5]
            · have g5 : ¬ left - n0 - n1 - n2 - n3 - n4 - n5 < 0 := by omega
              rw [szR_ge (by omega), show left - ((n0 + n1 + n2 + n3 + n4 + n5 : Nat) : Int) = left - n0 - n1 - n2 - n3 - n4 - n5 by omega]
              simp (disch := omega) [pf_laws_szMsg, M.msgV, IntWalk.i64_in, e0, g0, c1, g1, c2, g2, c3, g3, c4, g4, e5, g5]
theorem run_szMsgS {xs : List (M.Msg)} {left : Int} (h0 : 0 ≤ left) (h1 : left ≤ 4611686018427387904) (hb : xs.length ≤ 9223372036854775807 ∧ (∀ x ∈ xs, M.okMsg x)) : RUN CC fn_laws_szMsgS [.sl 0 ty_laws_Msg (xs.map (M.msgV 0 false)), .int .i64 left] = some ([.int .i64 (szR left (xs.length + sumN M.needMsg xs))], []) := by
  have h := run_szS (C := CC) (e := ty_laws_Msg) (n := 46) (g := fn_laws_szMsg) prog_laws_szMsgS modes_laws_szMsg (fun a => (M.msgV 0 false a).cells) (M.needMsg) (xs := xs) hb.1 h0 h1 (by
    intro a ha
    exact ⟨rfl, by simp [calmL, M.msgV], fun left h0 h1 => run_szMsg a h0 h1 (hb.2 a ha)⟩)
  exact h
theorem run_szStore (a : M.Store) {left : Int} (h0 : 0 ≤ left) (h1 : left ≤ 4611686018427387904) (hb : M.okStore a) : RUN CC fn_laws_szStore [M.storeV 0 false a, .int .i64 left] = some ([.int .i64 (szR left (M.needStore a))], []) := by
  have hN : M.needStore a = (a.live.length + sumN M.needPgState a.live) + (a.kept.length + sumN M.needPgState a.kept) := rfl
  have k0 : ∀ left : Int, 0 ≤ left → left ≤ 4611686018427387904 → _ := fun left h0 h1 => run_szPgStateS (xs := a.live) (left := left) h0 h1 (by simp only [M.okStore] at hb; grind)
  have k1 : ∀ left : Int, 0 ≤ left → left ≤ 4611686018427387904 → _ := fun left h0 h1 => run_szPgStateS (xs := a.kept) (left := left) h0 h1 (by simp only [M.okStore] at hb; grind)
  rw [hN]
  clear hN hb
  generalize e0 : (a.live.length + sumN M.needPgState a.live) = n0 at *
  generalize e1 : (a.kept.length + sumN M.needPgState a.kept) = n1 at *
  rw [RUN_eq, prog_laws_szStore]
  have c0 := k0 (left) (by omega) (by omega)
  by_cases m0 : left < n0
  · rw [szR_lt m0] at c0
    rw [szR_lt (by omega)]
    simp (disch := omega) [pf_laws_szStore, M.storeV, IntWalk.i64_in, c0]
  · rw [szR_ge m0] at c0
    have g0 : ¬ left - n0 < 0 := by omega
    have c1 := k1 (left - n0) (by omega) (by omega)
    by_cases m1 : left - n0 < n1
    · rw [szR_lt m1] at c1
      rw [szR_lt (by omega)]
      simp (disch := omega) [pf_laws_szStore, M.storeV, IntWalk.i64_in, c0, g0, c1]
    · rw [szR_ge m1] at c1
      have g1 : ¬ left - n0 - n1 < 0 := by omega
      rw [szR_ge (by omega), show left - ((n0 + n1 : Nat) : Int) = left - n0 - n1 by omega]
      simp (disch := omega) [pf_laws_szStore, M.storeV, IntWalk.i64_in, c0, g0, c1, g1]
theorem run_szServer (a : M.Server) {left : Int} (h0 : 0 ≤ left) (h1 : left ≤ 4611686018427387904) (hb : M.okServer a) : RUN CC fn_laws_szServer [M.serverV 0 false a, .int .i64 left] = some ([.int .i64 (szR left (M.needServer a))], []) := by
  have hN : M.needServer a = M.needStore a.store + (a.leads.length + sumN M.needLead a.leads) + (a.out.length + sumN M.needMsg a.out) := rfl
  have k0 : ∀ left : Int, 0 ≤ left → left ≤ 4611686018427387904 → _ := fun left h0 h1 => run_szStore a.store (left := left) h0 h1 (by simp only [M.okServer] at hb; grind)
  have k1 : ∀ left : Int, 0 ≤ left → left ≤ 4611686018427387904 → _ := fun left h0 h1 => run_szLeadS (xs := a.leads) (left := left) h0 h1 (by simp only [M.okServer] at hb; grind)
  have k2 : ∀ left : Int, 0 ≤ left → left ≤ 4611686018427387904 → _ := fun left h0 h1 => run_szMsgS (xs := a.out) (left := left) h0 h1 (by simp only [M.okServer] at hb; grind)
  rw [hN]
  clear hN hb
  generalize e0 : M.needStore a.store = n0 at *
  generalize e1 : (a.leads.length + sumN M.needLead a.leads) = n1 at *
  generalize e2 : (a.out.length + sumN M.needMsg a.out) = n2 at *
  unfold M.storeV at k0
  try simp only [M.tyPgState_t, M.tyPgState_f] at k0
  rw [RUN_eq, prog_laws_szServer]
  have c0 := k0 (left) (by omega) (by omega)
  by_cases m0 : left < n0
  · rw [szR_lt m0] at c0
    rw [szR_lt (by omega)]
    simp (disch := omega) [pf_laws_szServer, M.serverV, IntWalk.i64_in, c0]
  · rw [szR_ge m0] at c0
    have g0 : ¬ left - n0 < 0 := by omega
    have c1 := k1 (left - n0) (by omega) (by omega)
    by_cases m1 : left - n0 < n1
    · rw [szR_lt m1] at c1
      rw [szR_lt (by omega)]
      simp (disch := omega) [pf_laws_szServer, M.serverV, IntWalk.i64_in, c0, g0, c1]
    · rw [szR_ge m1] at c1
      have g1 : ¬ left - n0 - n1 < 0 := by omega
      have c2 := k2 (left - n0 - n1) (by omega) (by omega)
      by_cases m2 : left - n0 - n1 < n2
      · rw [szR_lt m2] at c2
        rw [szR_lt (by omega)]
        simp (disch := omega) [pf_laws_szServer, M.serverV, IntWalk.i64_in, c0, g0, c1, g1, c2]
      · rw [szR_ge m2] at c2
        have g2 : ¬ left - n0 - n1 - n2 < 0 := by omega
        rw [szR_ge (by omega), show left - ((n0 + n1 + n2 : Nat) : Int) = left - n0 - n1 - n2 by omega]
        simp (disch := omega) [pf_laws_szServer, M.serverV, IntWalk.i64_in, c0, g0, c1, g1, c2, g2]
def M.mkVer (a : M.Ver) : Nat := 1 + 1
def M.mkAck (a : M.Ack) : Nat := 1 + 1 + 1
def M.mkCode (a : M.Code) : Nat := 1 + 1
def M.mkReq (a : M.Req) : Nat := 1 + 1
def M.mkInterval (a : M.Interval) : Nat := 1 + 1 + sumN M.mkInt64 a.acting + 1
def M.mkLast (a : M.Last) : Nat := 1 + 1 + 1 + 1
def M.mkPg (a : M.Pg) : Nat := 1 + 1
theorem has_int {p : PV} (h : (Ty.int .i64).has p) : ∃ n, p = .int .i64 n ∧ In64 n := by
  cases p <;> simp only [Ty.has] at h
  obtain ⟨rfl, h2, h3⟩ := h
  exact ⟨_, rfl, h2, h3⟩
theorem has_bool {p : PV} (h : Ty.bool.has p) : ∃ b, p = .bool b := by
  cases p <;> simp only [Ty.has] at h
  exact ⟨_, rfl⟩
theorem has_str {p : PV} (h : Ty.str.has p) : ∃ s, p = .str s ∧ s.size ≤ 9223372036854775807 := by
  cases p <;> simp only [Ty.has] at h
  exact ⟨_, rfl, h⟩
theorem has_list {α : Type} {t : Ty} {F : α → PV} {ok : α → Prop} (h : ∀ p, t.has p → ∃ a, p = F a ∧ ok a) : ∀ xs : List PV, (∀ x ∈ xs, t.has x) → ∃ l : List α, xs = l.map F ∧ ∀ a ∈ l, ok a
  | [], _ => ⟨[], rfl, by simp⟩
  | x :: xs, hx => by
    obtain ⟨a, rfl, h1⟩ := h x (hx x (by simp))
    obtain ⟨l, rfl, h2⟩ := has_list h xs fun y hy => hx y (by simp [hy])
    exact ⟨a :: l, rfl, by
      intro b hb
      rcases List.mem_cons.1 hb with rfl | hb
      · exact h1
      · exact h2 b hb⟩
theorem has_sl {α : Type} {e : TypeId} {t : Ty} {F : α → PV} {ok : α → Prop} (h : ∀ p, t.has p → ∃ a, p = F a ∧ ok a) {p : PV} (hp : (Ty.sl e t).has p) : ∃ l : List α, p = .sl 0 e (l.map F) ∧ l.length ≤ 9223372036854775807 ∧ ∀ a ∈ l, ok a := by
  cases p <;> simp only [Ty.has] at hp
  obtain ⟨rfl, rfl, h1, h2⟩ := hp
  obtain ⟨l, rfl, h3⟩ := has_list h _ h2
  exact ⟨l, rfl, by simpa [maxLen] using h1, h3⟩
def M.tpVer : Ty := .st [.int .i64, .int .i64]
theorem M.has_Ver {p : PV} (h : M.tpVer.has p) : ∃ a, p = M.verV a ∧ M.okVer a := by
  cases p <;> simp only [M.tpVer, Ty.has, hasL] at h
  obtain ⟨p0, r0, rfl, h0, p1, r1, rfl, h1, rfl⟩ := h
  obtain ⟨x0, rfl, o0⟩ := has_int h0
  obtain ⟨x1, rfl, o1⟩ := has_int h1
  exact ⟨⟨x0, x1⟩, by simp [M.verV, M.ackV, M.chunkV, M.codeV, M.reqV, M.entryV, M.headV, M.fillV, M.gotV, M.intervalV, M.lastV, M.pgV, M.pgStateV, M.noticeV, M.wayV, M.waitV, M.lineV, M.leadV, M.opV, M.msgV, M.storeV, M.serverV, PV.cells], by simp only [M.okVer]; exact ⟨o0, o1⟩⟩
def M.tpAck : Ty := .st [.int .i64, M.tpVer]
theorem M.has_Ack {p : PV} (h : M.tpAck.has p) : ∃ a, p = M.ackV a ∧ M.okAck a := by
  cases p <;> simp only [M.tpAck, Ty.has, hasL] at h
  obtain ⟨p0, r0, rfl, h0, p1, r1, rfl, h1, rfl⟩ := h
  obtain ⟨x0, rfl, o0⟩ := has_int h0
  obtain ⟨x1, rfl, o1⟩ := M.has_Ver h1
  exact ⟨⟨x0, x1⟩, by simp [M.verV, M.ackV, M.chunkV, M.codeV, M.reqV, M.entryV, M.headV, M.fillV, M.gotV, M.intervalV, M.lastV, M.pgV, M.pgStateV, M.noticeV, M.wayV, M.waitV, M.lineV, M.leadV, M.opV, M.msgV, M.storeV, M.serverV, PV.cells], by simp only [M.okAck]; exact ⟨o0, o1⟩⟩
def M.tpChunk : Ty := .st [.str, M.tpVer, .int .i64, .int .i64, .str]
theorem M.has_Chunk {p : PV} (h : M.tpChunk.has p) : ∃ a, p = M.chunkV a ∧ M.okChunk a := by
  cases p <;> simp only [M.tpChunk, Ty.has, hasL] at h
  obtain ⟨p0, r0, rfl, h0, p1, r1, rfl, h1, p2, r2, rfl, h2, p3, r3, rfl, h3, p4, r4, rfl, h4, rfl⟩ := h
  obtain ⟨x0, rfl, o0⟩ := has_str h0
  obtain ⟨x1, rfl, o1⟩ := M.has_Ver h1
  obtain ⟨x2, rfl, o2⟩ := has_int h2
  obtain ⟨x3, rfl, o3⟩ := has_int h3
  obtain ⟨x4, rfl, o4⟩ := has_str h4
  exact ⟨⟨x0, x1, x2, x3, x4⟩, by simp [M.verV, M.ackV, M.chunkV, M.codeV, M.reqV, M.entryV, M.headV, M.fillV, M.gotV, M.intervalV, M.lastV, M.pgV, M.pgStateV, M.noticeV, M.wayV, M.waitV, M.lineV, M.leadV, M.opV, M.msgV, M.storeV, M.serverV, PV.cells], by simp only [M.okChunk]; exact ⟨o0, o1, o2, o3, o4⟩⟩
def M.tpCode : Ty := .st [.int .i64, .int .i64]
theorem M.has_Code {p : PV} (h : M.tpCode.has p) : ∃ a, p = M.codeV a ∧ M.okCode a := by
  cases p <;> simp only [M.tpCode, Ty.has, hasL] at h
  obtain ⟨p0, r0, rfl, h0, p1, r1, rfl, h1, rfl⟩ := h
  obtain ⟨x0, rfl, o0⟩ := has_int h0
  obtain ⟨x1, rfl, o1⟩ := has_int h1
  exact ⟨⟨x0, x1⟩, by simp [M.verV, M.ackV, M.chunkV, M.codeV, M.reqV, M.entryV, M.headV, M.fillV, M.gotV, M.intervalV, M.lastV, M.pgV, M.pgStateV, M.noticeV, M.wayV, M.waitV, M.lineV, M.leadV, M.opV, M.msgV, M.storeV, M.serverV, PV.cells], by simp only [M.okCode]; exact ⟨o0, o1⟩⟩
def M.tpReq : Ty := .st [.int .i64, .int .i64]
theorem M.has_Req {p : PV} (h : M.tpReq.has p) : ∃ a, p = M.reqV a ∧ M.okReq a := by
  cases p <;> simp only [M.tpReq, Ty.has, hasL] at h
  obtain ⟨p0, r0, rfl, h0, p1, r1, rfl, h1, rfl⟩ := h
  obtain ⟨x0, rfl, o0⟩ := has_int h0
  obtain ⟨x1, rfl, o1⟩ := has_int h1
  exact ⟨⟨x0, x1⟩, by simp [M.verV, M.ackV, M.chunkV, M.codeV, M.reqV, M.entryV, M.headV, M.fillV, M.gotV, M.intervalV, M.lastV, M.pgV, M.pgStateV, M.noticeV, M.wayV, M.waitV, M.lineV, M.leadV, M.opV, M.msgV, M.storeV, M.serverV, PV.cells], by simp only [M.okReq]; exact ⟨o0, o1⟩⟩
def M.tpEntry : Ty := .st [M.tpVer, M.tpVer, .str, .bool, .int .i64, .int .i64, M.tpReq]
theorem M.has_Entry {p : PV} (h : M.tpEntry.has p) : ∃ a, p = M.entryV a ∧ M.okEntry a := by
  cases p <;> simp only [M.tpEntry, Ty.has, hasL] at h
  obtain ⟨p0, r0, rfl, h0, p1, r1, rfl, h1, p2, r2, rfl, h2, p3, r3, rfl, h3, p4, r4, rfl, h4, p5, r5, rfl, h5, p6, r6, rfl, h6, rfl⟩ := h
  obtain ⟨x0, rfl, o0⟩ := M.has_Ver h0
  obtain ⟨x1, rfl, o1⟩ := M.has_Ver h1
  obtain ⟨x2, rfl, o2⟩ := has_str h2
  obtain ⟨x3, rfl⟩ := has_bool h3
  obtain ⟨x4, rfl, o4⟩ := has_int h4
  obtain ⟨x5, rfl, o5⟩ := has_int h5
  obtain ⟨x6, rfl, o6⟩ := M.has_Req h6
  exact ⟨⟨x0, x1, x2, x3, x4, x5, x6⟩, by simp [M.verV, M.ackV, M.chunkV, M.codeV, M.reqV, M.entryV, M.headV, M.fillV, M.gotV, M.intervalV, M.lastV, M.pgV, M.pgStateV, M.noticeV, M.wayV, M.waitV, M.lineV, M.leadV, M.opV, M.msgV, M.storeV, M.serverV, PV.cells], by simp only [M.okEntry]; exact ⟨o0, o1, o2, o4, o5, o6⟩⟩
def M.tpHead : Ty := .st [.str, M.tpVer, .int .i64, .int .i64]
theorem M.has_Head {p : PV} (h : M.tpHead.has p) : ∃ a, p = M.headV a ∧ M.okHead a := by
  cases p <;> simp only [M.tpHead, Ty.has, hasL] at h
  obtain ⟨p0, r0, rfl, h0, p1, r1, rfl, h1, p2, r2, rfl, h2, p3, r3, rfl, h3, rfl⟩ := h
  obtain ⟨x0, rfl, o0⟩ := has_str h0
  obtain ⟨x1, rfl, o1⟩ := M.has_Ver h1
  obtain ⟨x2, rfl, o2⟩ := has_int h2
  obtain ⟨x3, rfl, o3⟩ := has_int h3
  exact ⟨⟨x0, x1, x2, x3⟩, by simp [M.verV, M.ackV, M.chunkV, M.codeV, M.reqV, M.entryV, M.headV, M.fillV, M.gotV, M.intervalV, M.lastV, M.pgV, M.pgStateV, M.noticeV, M.wayV, M.waitV, M.lineV, M.leadV, M.opV, M.msgV, M.storeV, M.serverV, PV.cells], by simp only [M.okHead]; exact ⟨o0, o1, o2, o3⟩⟩
def M.tpFill : Ty := .st [.int .i64, .int .i64, M.tpHead]
theorem M.has_Fill {p : PV} (h : M.tpFill.has p) : ∃ a, p = M.fillV a ∧ M.okFill a := by
  cases p <;> simp only [M.tpFill, Ty.has, hasL] at h
  obtain ⟨p0, r0, rfl, h0, p1, r1, rfl, h1, p2, r2, rfl, h2, rfl⟩ := h
  obtain ⟨x0, rfl, o0⟩ := has_int h0
  obtain ⟨x1, rfl, o1⟩ := has_int h1
  obtain ⟨x2, rfl, o2⟩ := M.has_Head h2
  exact ⟨⟨x0, x1, x2⟩, by simp [M.verV, M.ackV, M.chunkV, M.codeV, M.reqV, M.entryV, M.headV, M.fillV, M.gotV, M.intervalV, M.lastV, M.pgV, M.pgStateV, M.noticeV, M.wayV, M.waitV, M.lineV, M.leadV, M.opV, M.msgV, M.storeV, M.serverV, PV.cells], by simp only [M.okFill]; exact ⟨o0, o1, o2⟩⟩
def M.tpGot : Ty := .st [.int .i64, M.tpEntry, M.tpChunk]
theorem M.has_Got {p : PV} (h : M.tpGot.has p) : ∃ a, p = M.gotV a ∧ M.okGot a := by
  cases p <;> simp only [M.tpGot, Ty.has, hasL] at h
  obtain ⟨p0, r0, rfl, h0, p1, r1, rfl, h1, p2, r2, rfl, h2, rfl⟩ := h
  obtain ⟨x0, rfl, o0⟩ := has_int h0
  obtain ⟨x1, rfl, o1⟩ := M.has_Entry h1
  obtain ⟨x2, rfl, o2⟩ := M.has_Chunk h2
  exact ⟨⟨x0, x1, x2⟩, by simp [M.verV, M.ackV, M.chunkV, M.codeV, M.reqV, M.entryV, M.headV, M.fillV, M.gotV, M.intervalV, M.lastV, M.pgV, M.pgStateV, M.noticeV, M.wayV, M.waitV, M.lineV, M.leadV, M.opV, M.msgV, M.storeV, M.serverV, PV.cells], by simp only [M.okGot]; exact ⟨o0, o1, o2⟩⟩
def M.tpInterval : Ty := .st [.int .i64, .int .i64, .sl ty_int64 (.int .i64), .bool]
theorem M.has_Interval {p : PV} (h : M.tpInterval.has p) : ∃ a, p = M.intervalV 0 false a ∧ M.okInterval a := by
  cases p <;> simp only [M.tpInterval, Ty.has, hasL] at h
  obtain ⟨p0, r0, rfl, h0, p1, r1, rfl, h1, p2, r2, rfl, h2, p3, r3, rfl, h3, rfl⟩ := h
  obtain ⟨x0, rfl, o0⟩ := has_int h0
  obtain ⟨x1, rfl, o1⟩ := has_int h1
  obtain ⟨x2, rfl, o2, q2⟩ := has_sl (F := PV.int .i64) (fun p h => has_int (p := p) h) h2
  obtain ⟨x3, rfl⟩ := has_bool h3
  exact ⟨⟨x0, x1, x2, x3⟩, by simp [M.verV, M.ackV, M.chunkV, M.codeV, M.reqV, M.entryV, M.headV, M.fillV, M.gotV, M.intervalV, M.lastV, M.pgV, M.pgStateV, M.noticeV, M.wayV, M.waitV, M.lineV, M.leadV, M.opV, M.msgV, M.storeV, M.serverV, PV.cells], by simp only [M.okInterval]; exact ⟨o0, o1, o2, q2⟩⟩
def M.tpLast : Ty := .st [.int .i64, .int .i64, M.tpVer]
theorem M.has_Last {p : PV} (h : M.tpLast.has p) : ∃ a, p = M.lastV a ∧ M.okLast a := by
  cases p <;> simp only [M.tpLast, Ty.has, hasL] at h
  obtain ⟨p0, r0, rfl, h0, p1, r1, rfl, h1, p2, r2, rfl, h2, rfl⟩ := h
  obtain ⟨x0, rfl, o0⟩ := has_int h0
  obtain ⟨x1, rfl, o1⟩ := has_int h1
  obtain ⟨x2, rfl, o2⟩ := M.has_Ver h2
  exact ⟨⟨x0, x1, x2⟩, by simp [M.verV, M.ackV, M.chunkV, M.codeV, M.reqV, M.entryV, M.headV, M.fillV, M.gotV, M.intervalV, M.lastV, M.pgV, M.pgStateV, M.noticeV, M.wayV, M.waitV, M.lineV, M.leadV, M.opV, M.msgV, M.storeV, M.serverV, PV.cells], by simp only [M.okLast]; exact ⟨o0, o1, o2⟩⟩
def M.tpPg : Ty := .st [.int .i64, .int .i64]
theorem M.has_Pg {p : PV} (h : M.tpPg.has p) : ∃ a, p = M.pgV a ∧ M.okPg a := by
  cases p <;> simp only [M.tpPg, Ty.has, hasL] at h
  obtain ⟨p0, r0, rfl, h0, p1, r1, rfl, h1, rfl⟩ := h
  obtain ⟨x0, rfl, o0⟩ := has_int h0
  obtain ⟨x1, rfl, o1⟩ := has_int h1
  exact ⟨⟨x0, x1⟩, by simp [M.verV, M.ackV, M.chunkV, M.codeV, M.reqV, M.entryV, M.headV, M.fillV, M.gotV, M.intervalV, M.lastV, M.pgV, M.pgStateV, M.noticeV, M.wayV, M.waitV, M.lineV, M.leadV, M.opV, M.msgV, M.storeV, M.serverV, PV.cells], by simp only [M.okPg]; exact ⟨o0, o1⟩⟩
def M.tpPgState : Ty := .st [M.tpPg, .int .i64, .int .i64, M.tpVer, .sl ty_laws_Head (M.tpHead), .sl ty_laws_Last (M.tpLast), .sl ty_laws_Entry (M.tpEntry), M.tpVer, .sl ty_laws_Chunk (M.tpChunk)]
theorem M.has_PgState {p : PV} (h : M.tpPgState.has p) : ∃ a, p = M.pgStateV 0 false a ∧ M.okPgState a := by
  cases p <;> simp only [M.tpPgState, Ty.has, hasL] at h
  obtain ⟨p0, r0, rfl, h0, p1, r1, rfl, h1, p2, r2, rfl, h2, p3, r3, rfl, h3, p4, r4, rfl, h4, p5, r5, rfl, h5, p6, r6, rfl, h6, p7, r7, rfl, h7, p8, r8, rfl, h8, rfl⟩ := h
  obtain ⟨x0, rfl, o0⟩ := M.has_Pg h0
  obtain ⟨x1, rfl, o1⟩ := has_int h1
  obtain ⟨x2, rfl, o2⟩ := has_int h2
  obtain ⟨x3, rfl, o3⟩ := M.has_Ver h3
  obtain ⟨x4, rfl, o4, q4⟩ := has_sl (F := M.headV) (fun p h => M.has_Head (p := p) h) h4
  obtain ⟨x5, rfl, o5, q5⟩ := has_sl (F := M.lastV) (fun p h => M.has_Last (p := p) h) h5
  obtain ⟨x6, rfl, o6, q6⟩ := has_sl (F := M.entryV) (fun p h => M.has_Entry (p := p) h) h6
  obtain ⟨x7, rfl, o7⟩ := M.has_Ver h7
  obtain ⟨x8, rfl, o8, q8⟩ := has_sl (F := M.chunkV) (fun p h => M.has_Chunk (p := p) h) h8
  exact ⟨⟨x0, x1, x2, x3, x4, x5, x6, x7, x8⟩, by simp [M.verV, M.ackV, M.chunkV, M.codeV, M.reqV, M.entryV, M.headV, M.fillV, M.gotV, M.intervalV, M.lastV, M.pgV, M.pgStateV, M.noticeV, M.wayV, M.waitV, M.lineV, M.leadV, M.opV, M.msgV, M.storeV, M.serverV, PV.cells], by simp only [M.okPgState]; exact ⟨o0, o1, o2, o3, o4, q4, o5, q5, o6, q6, o7, o8, q8⟩⟩
def M.tpNotice : Ty := .st [.int .i64, M.tpPgState]
theorem M.has_Notice {p : PV} (h : M.tpNotice.has p) : ∃ a, p = M.noticeV 0 false a ∧ M.okNotice a := by
  cases p <;> simp only [M.tpNotice, Ty.has, hasL] at h
  obtain ⟨p0, r0, rfl, h0, p1, r1, rfl, h1, rfl⟩ := h
  obtain ⟨x0, rfl, o0⟩ := has_int h0
  obtain ⟨x1, rfl, o1⟩ := M.has_PgState h1
  exact ⟨⟨x0, x1⟩, by simp [M.verV, M.ackV, M.chunkV, M.codeV, M.reqV, M.entryV, M.headV, M.fillV, M.gotV, M.intervalV, M.lastV, M.pgV, M.pgStateV, M.noticeV, M.wayV, M.waitV, M.lineV, M.leadV, M.opV, M.msgV, M.storeV, M.serverV, PV.cells], by simp only [M.okNotice]; exact ⟨o0, o1⟩⟩
def M.tpWay : Ty := .st [M.tpEntry, .str]
theorem M.has_Way {p : PV} (h : M.tpWay.has p) : ∃ a, p = M.wayV a ∧ M.okWay a := by
  cases p <;> simp only [M.tpWay, Ty.has, hasL] at h
  obtain ⟨p0, r0, rfl, h0, p1, r1, rfl, h1, rfl⟩ := h
  obtain ⟨x0, rfl, o0⟩ := M.has_Entry h0
  obtain ⟨x1, rfl, o1⟩ := has_str h1
  exact ⟨⟨x0, x1⟩, by simp [M.verV, M.ackV, M.chunkV, M.codeV, M.reqV, M.entryV, M.headV, M.fillV, M.gotV, M.intervalV, M.lastV, M.pgV, M.pgStateV, M.noticeV, M.wayV, M.waitV, M.lineV, M.leadV, M.opV, M.msgV, M.storeV, M.serverV, PV.cells], by simp only [M.okWay]; exact ⟨o0, o1⟩⟩
def M.tpWait : Ty := .st [M.tpReq, .str, M.tpVer, .sl ty_laws_Got (M.tpGot)]
theorem M.has_Wait {p : PV} (h : M.tpWait.has p) : ∃ a, p = M.waitV 0 false a ∧ M.okWait a := by
  cases p <;> simp only [M.tpWait, Ty.has, hasL] at h
  obtain ⟨p0, r0, rfl, h0, p1, r1, rfl, h1, p2, r2, rfl, h2, p3, r3, rfl, h3, rfl⟩ := h
  obtain ⟨x0, rfl, o0⟩ := M.has_Req h0
  obtain ⟨x1, rfl, o1⟩ := has_str h1
  obtain ⟨x2, rfl, o2⟩ := M.has_Ver h2
  obtain ⟨x3, rfl, o3, q3⟩ := has_sl (F := M.gotV) (fun p h => M.has_Got (p := p) h) h3
  exact ⟨⟨x0, x1, x2, x3⟩, by simp [M.verV, M.ackV, M.chunkV, M.codeV, M.reqV, M.entryV, M.headV, M.fillV, M.gotV, M.intervalV, M.lastV, M.pgV, M.pgStateV, M.noticeV, M.wayV, M.waitV, M.lineV, M.leadV, M.opV, M.msgV, M.storeV, M.serverV, PV.cells], by simp only [M.okWait]; exact ⟨o0, o1, o2, o3, q3⟩⟩
def M.tpLine : Ty := .st [.int .i64, M.tpCode, .sl ty_int64 (.int .i64), M.tpPgState, .sl ty_laws_Way (M.tpWay), .sl ty_laws_Ack (M.tpAck), .sl ty_laws_Wait (M.tpWait)]
theorem M.has_Line {p : PV} (h : M.tpLine.has p) : ∃ a, p = M.lineV 0 false a ∧ M.okLine a := by
  cases p <;> simp only [M.tpLine, Ty.has, hasL] at h
  obtain ⟨p0, r0, rfl, h0, p1, r1, rfl, h1, p2, r2, rfl, h2, p3, r3, rfl, h3, p4, r4, rfl, h4, p5, r5, rfl, h5, p6, r6, rfl, h6, rfl⟩ := h
  obtain ⟨x0, rfl, o0⟩ := has_int h0
  obtain ⟨x1, rfl, o1⟩ := M.has_Code h1
  obtain ⟨x2, rfl, o2, q2⟩ := has_sl (F := PV.int .i64) (fun p h => has_int (p := p) h) h2
  obtain ⟨x3, rfl, o3⟩ := M.has_PgState h3
  obtain ⟨x4, rfl, o4, q4⟩ := has_sl (F := M.wayV) (fun p h => M.has_Way (p := p) h) h4
  obtain ⟨x5, rfl, o5, q5⟩ := has_sl (F := M.ackV) (fun p h => M.has_Ack (p := p) h) h5
  obtain ⟨x6, rfl, o6, q6⟩ := has_sl (F := M.waitV 0 false) (fun p h => M.has_Wait (p := p) h) h6
  exact ⟨⟨x0, x1, x2, x3, x4, x5, x6⟩, by simp [M.verV, M.ackV, M.chunkV, M.codeV, M.reqV, M.entryV, M.headV, M.fillV, M.gotV, M.intervalV, M.lastV, M.pgV, M.pgStateV, M.noticeV, M.wayV, M.waitV, M.lineV, M.leadV, M.opV, M.msgV, M.storeV, M.serverV, PV.cells], by simp only [M.okLine]; exact ⟨o0, o1, o2, q2, o3, o4, q4, o5, q5, o6, q6⟩⟩
def M.tpLead : Ty := .st [M.tpPg, .int .i64, .int .i64, M.tpCode, .sl ty_int64 (.int .i64), .sl ty_laws_Interval (M.tpInterval), .sl ty_laws_Notice (M.tpNotice), M.tpPgState, .sl ty_laws_Fill (M.tpFill), .sl ty_laws_Chunk (M.tpChunk), .sl ty_int64 (.int .i64), M.tpLine]
theorem M.has_Lead {p : PV} (h : M.tpLead.has p) : ∃ a, p = M.leadV 0 false a ∧ M.okLead a := by
  cases p <;> simp only [M.tpLead, Ty.has, hasL] at h
  obtain ⟨p0, r0, rfl, h0, p1, r1, rfl, h1, p2, r2, rfl, h2, p3, r3, rfl, h3, p4, r4, rfl, h4, p5, r5, rfl, h5, p6, r6, rfl, h6, p7, r7, rfl, h7, p8, r8, rfl, h8, p9, r9, rfl, h9, p10, r10, rfl, h10, p11, r11, rfl, h11, rfl⟩ := h
  obtain ⟨x0, rfl, o0⟩ := M.has_Pg h0
  obtain ⟨x1, rfl, o1⟩ := has_int h1
  obtain ⟨x2, rfl, o2⟩ := has_int h2
  obtain ⟨x3, rfl, o3⟩ := M.has_Code h3
  obtain ⟨x4, rfl, o4, q4⟩ := has_sl (F := PV.int .i64) (fun p h => has_int (p := p) h) h4
  obtain ⟨x5, rfl, o5, q5⟩ := has_sl (F := M.intervalV 0 false) (fun p h => M.has_Interval (p := p) h) h5
  obtain ⟨x6, rfl, o6, q6⟩ := has_sl (F := M.noticeV 0 false) (fun p h => M.has_Notice (p := p) h) h6
  obtain ⟨x7, rfl, o7⟩ := M.has_PgState h7
  obtain ⟨x8, rfl, o8, q8⟩ := has_sl (F := M.fillV) (fun p h => M.has_Fill (p := p) h) h8
  obtain ⟨x9, rfl, o9, q9⟩ := has_sl (F := M.chunkV) (fun p h => M.has_Chunk (p := p) h) h9
  obtain ⟨x10, rfl, o10, q10⟩ := has_sl (F := PV.int .i64) (fun p h => has_int (p := p) h) h10
  obtain ⟨x11, rfl, o11⟩ := M.has_Line h11
  exact ⟨⟨x0, x1, x2, x3, x4, x5, x6, x7, x8, x9, x10, x11⟩, by simp [M.verV, M.ackV, M.chunkV, M.codeV, M.reqV, M.entryV, M.headV, M.fillV, M.gotV, M.intervalV, M.lastV, M.pgV, M.pgStateV, M.noticeV, M.wayV, M.waitV, M.lineV, M.leadV, M.opV, M.msgV, M.storeV, M.serverV, PV.cells], by simp only [M.okLead]; exact ⟨o0, o1, o2, o3, o4, q4, o5, q5, o6, q6, o7, o8, q8, o9, q9, o10, q10, o11⟩⟩
def M.tpOp : Ty := .st [.int .i64, .int .i64, .str]
theorem M.has_Op {p : PV} (h : M.tpOp.has p) : ∃ a, p = M.opV a ∧ M.okOp a := by
  cases p <;> simp only [M.tpOp, Ty.has, hasL] at h
  obtain ⟨p0, r0, rfl, h0, p1, r1, rfl, h1, p2, r2, rfl, h2, rfl⟩ := h
  obtain ⟨x0, rfl, o0⟩ := has_int h0
  obtain ⟨x1, rfl, o1⟩ := has_int h1
  obtain ⟨x2, rfl, o2⟩ := has_str h2
  exact ⟨⟨x0, x1, x2⟩, by simp [M.verV, M.ackV, M.chunkV, M.codeV, M.reqV, M.entryV, M.headV, M.fillV, M.gotV, M.intervalV, M.lastV, M.pgV, M.pgStateV, M.noticeV, M.wayV, M.waitV, M.lineV, M.leadV, M.opV, M.msgV, M.storeV, M.serverV, PV.cells], by simp only [M.okOp]; exact ⟨o0, o1, o2⟩⟩
def M.tpMsg : Ty := .st [.int .i64, .int .i64, .int .i64, M.tpPg, .int .i64, .str, M.tpVer, M.tpVer, M.tpPgState, M.tpEntry, M.tpChunk, M.tpOp, M.tpReq, .int .i64, .str]
theorem M.has_Msg {p : PV} (h : M.tpMsg.has p) : ∃ a, p = M.msgV 0 false a ∧ M.okMsg a := by
  cases p <;> simp only [M.tpMsg, Ty.has, hasL] at h
  obtain ⟨p0, r0, rfl, h0, p1, r1, rfl, h1, p2, r2, rfl, h2, p3, r3, rfl, h3, p4, r4, rfl, h4, p5, r5, rfl, h5, p6, r6, rfl, h6, p7, r7, rfl, h7, p8, r8, rfl, h8, p9, r9, rfl, h9, p10, r10, rfl, h10, p11, r11, rfl, h11, p12, r12, rfl, h12, p13, r13, rfl, h13, p14, r14, rfl, h14, rfl⟩ := h
  obtain ⟨x0, rfl, o0⟩ := has_int h0
  obtain ⟨x1, rfl, o1⟩ := has_int h1
  obtain ⟨x2, rfl, o2⟩ := has_int h2
  obtain ⟨x3, rfl, o3⟩ := M.has_Pg h3
  obtain ⟨x4, rfl, o4⟩ := has_int h4
  obtain ⟨x5, rfl, o5⟩ := has_str h5
  obtain ⟨x6, rfl, o6⟩ := M.has_Ver h6
  obtain ⟨x7, rfl, o7⟩ := M.has_Ver h7
  obtain ⟨x8, rfl, o8⟩ := M.has_PgState h8
  obtain ⟨x9, rfl, o9⟩ := M.has_Entry h9
  obtain ⟨x10, rfl, o10⟩ := M.has_Chunk h10
  obtain ⟨x11, rfl, o11⟩ := M.has_Op h11
  obtain ⟨x12, rfl, o12⟩ := M.has_Req h12
  obtain ⟨x13, rfl, o13⟩ := has_int h13
  obtain ⟨x14, rfl, o14⟩ := has_str h14
  exact ⟨⟨x0, x1, x2, x3, x4, x5, x6, x7, x8, x9, x10, x11, x12, x13, x14⟩, by simp [M.verV, M.ackV, M.chunkV, M.codeV, M.reqV, M.entryV, M.headV, M.fillV, M.gotV, M.intervalV, M.lastV, M.pgV, M.pgStateV, M.noticeV, M.wayV, M.waitV, M.lineV, M.leadV, M.opV, M.msgV, M.storeV, M.serverV, PV.cells], by simp only [M.okMsg]; exact ⟨o0, o1, o2, o3, o4, o5, o6, o7, o8, o9, o10, o11, o12, o13, o14⟩⟩
def M.tpStore : Ty := .st [.sl ty_laws_PgState (M.tpPgState), .sl ty_laws_PgState (M.tpPgState)]
theorem M.has_Store {p : PV} (h : M.tpStore.has p) : ∃ a, p = M.storeV 0 false a ∧ M.okStore a := by
  cases p <;> simp only [M.tpStore, Ty.has, hasL] at h
  obtain ⟨p0, r0, rfl, h0, p1, r1, rfl, h1, rfl⟩ := h
  obtain ⟨x0, rfl, o0, q0⟩ := has_sl (F := M.pgStateV 0 false) (fun p h => M.has_PgState (p := p) h) h0
  obtain ⟨x1, rfl, o1, q1⟩ := has_sl (F := M.pgStateV 0 false) (fun p h => M.has_PgState (p := p) h) h1
  exact ⟨⟨x0, x1⟩, by simp [M.verV, M.ackV, M.chunkV, M.codeV, M.reqV, M.entryV, M.headV, M.fillV, M.gotV, M.intervalV, M.lastV, M.pgV, M.pgStateV, M.noticeV, M.wayV, M.waitV, M.lineV, M.leadV, M.opV, M.msgV, M.storeV, M.serverV, PV.cells], by simp only [M.okStore]; exact ⟨o0, q0, o1, q1⟩⟩
def M.tpServer : Ty := .st [.int .i64, .int .i64, .bool, M.tpStore, .sl ty_laws_Lead (M.tpLead), .sl ty_laws_Msg (M.tpMsg)]
theorem M.has_Server {p : PV} (h : M.tpServer.has p) : ∃ a, p = M.serverV 0 false a ∧ M.okServer a := by
  cases p <;> simp only [M.tpServer, Ty.has, hasL] at h
  obtain ⟨p0, r0, rfl, h0, p1, r1, rfl, h1, p2, r2, rfl, h2, p3, r3, rfl, h3, p4, r4, rfl, h4, p5, r5, rfl, h5, rfl⟩ := h
  obtain ⟨x0, rfl, o0⟩ := has_int h0
  obtain ⟨x1, rfl, o1⟩ := has_int h1
  obtain ⟨x2, rfl⟩ := has_bool h2
  obtain ⟨x3, rfl, o3⟩ := M.has_Store h3
  obtain ⟨x4, rfl, o4, q4⟩ := has_sl (F := M.leadV 0 false) (fun p h => M.has_Lead (p := p) h) h4
  obtain ⟨x5, rfl, o5, q5⟩ := has_sl (F := M.msgV 0 false) (fun p h => M.has_Msg (p := p) h) h5
  exact ⟨⟨x0, x1, x2, x3, x4, x5⟩, by simp [M.verV, M.ackV, M.chunkV, M.codeV, M.reqV, M.entryV, M.headV, M.fillV, M.gotV, M.intervalV, M.lastV, M.pgV, M.pgStateV, M.noticeV, M.wayV, M.waitV, M.lineV, M.leadV, M.opV, M.msgV, M.storeV, M.serverV, PV.cells], by simp only [M.okServer]; exact ⟨o0, o1, o3, o4, q4, o5, q5⟩⟩
end Go.Proofs.YtjbomlnpngnjfaaGreat.Pv
/- Structs compared, field by field. No condition. -/
namespace Go.Proofs.YtjbomlnpngnjfaaGreat.Pv
open Go
set_option maxRecDepth 10000
set_option linter.unusedSimpArgs false
theorem nosame {P Q : Prop} (h : P → Q) (h2 : ¬ Q) : (false = true ↔ P) := ⟨fun h3 => (by cases h3), fun h3 => absurd (h h3) h2⟩
theorem bytes_eq (a b : ByteArray) : a.toList = b.toList ↔ a = b := by rw [← bytes_same, beq_iff_eq]
theorem nolist {α : Type} {xs ys : List α} (h : xs.length = ys.length) {p : Nat → α → Bool} (hp : ∀ i x, p i x = true ↔ ys[i]? = some x) (hf : allB p xs = false) : ¬ xs = ys := fun h2 => by have := (list_same h hp).2 h2; rw [hf] at this; cases this
theorem run_Eq_int64 {xs ys : List Int} (ha : xs.length ≤ 1048576) (hb : ys.length ≤ 1048576) : Says (RUN CC fn_Eq_int64 [.sl 0 ty_int64 (xs.map (PV.int .i64)), .sl 0 ty_int64 (ys.map (PV.int .i64))]) (xs = ys) := by
  exact run_sEq0 prog_Eq_int64 (by omega)
theorem eqk_Head (a b : M.Head) : ∃ r, eqK [2, 0, 0, 0, 0] ((M.headV a).cells.map AV.pv) ((M.headV b).cells.map AV.pv) = some r ∧ (r = true ↔ a = b) := by
  obtain ⟨x0, ⟨x10, x11⟩, x2, x3⟩ := a
  obtain ⟨y0, ⟨y10, y11⟩, y2, y3⟩ := b
  refine ⟨_, rfl, ?_⟩
  simp [bytes_eq, and_assoc]
theorem run_Eq_impl_Head {xs ys : List M.Head} (ha : xs.length + sumN M.needHead xs ≤ 1048576) (hb : ys.length + sumN M.needHead ys ≤ 1048576) : Says (RUN CC fn_Eq_impl_Head [.sl 0 ty_impl_Head (xs.map (M.headV)), .sl 0 ty_impl_Head (ys.map (M.headV))]) (xs = ys) := by
  exact run_sEq (n := 5) (ks := [2, 0, 0, 0, 0]) (F := fun a => (M.headV a).cells) prog_Eq_impl_Head (by omega) (fun x => ⟨rfl, by simp [calmL, M.headV]⟩) (fun x y => eqk_Head x y)
theorem eqk_Last (a b : M.Last) : ∃ r, eqK [0, 0, 0, 0] ((M.lastV a).cells.map AV.pv) ((M.lastV b).cells.map AV.pv) = some r ∧ (r = true ↔ a = b) := by
  obtain ⟨x0, x1, ⟨x20, x21⟩⟩ := a
  obtain ⟨y0, y1, ⟨y20, y21⟩⟩ := b
  refine ⟨_, rfl, ?_⟩
  simp [bytes_eq, and_assoc]
theorem run_Eq_impl_Last {xs ys : List M.Last} (ha : xs.length ≤ 1048576) (hb : ys.length ≤ 1048576) : Says (RUN CC fn_Eq_impl_Last [.sl 0 ty_impl_Last (xs.map (M.lastV)), .sl 0 ty_impl_Last (ys.map (M.lastV))]) (xs = ys) := by
  exact run_sEq (n := 4) (ks := [0, 0, 0, 0]) (F := fun a => (M.lastV a).cells) prog_Eq_impl_Last (by omega) (fun x => ⟨rfl, by simp [calmL, M.lastV]⟩) (fun x y => eqk_Last x y)
theorem eqk_Entry (a b : M.Entry) : ∃ r, eqK [0, 0, 0, 0, 2, 1, 0, 0, 0, 0] ((M.entryV a).cells.map AV.pv) ((M.entryV b).cells.map AV.pv) = some r ∧ (r = true ↔ a = b) := by
  obtain ⟨⟨x00, x01⟩, ⟨x10, x11⟩, x2, x3, x4, x5, ⟨x60, x61⟩⟩ := a
  obtain ⟨⟨y00, y01⟩, ⟨y10, y11⟩, y2, y3, y4, y5, ⟨y60, y61⟩⟩ := b
  refine ⟨_, rfl, ?_⟩
  simp [bytes_eq, and_assoc]
theorem run_Eq_impl_Entry {xs ys : List M.Entry} (ha : xs.length + sumN M.needEntry xs ≤ 1048576) (hb : ys.length + sumN M.needEntry ys ≤ 1048576) : Says (RUN CC fn_Eq_impl_Entry [.sl 0 ty_impl_Entry (xs.map (M.entryV)), .sl 0 ty_impl_Entry (ys.map (M.entryV))]) (xs = ys) := by
  exact run_sEq (n := 10) (ks := [0, 0, 0, 0, 2, 1, 0, 0, 0, 0]) (F := fun a => (M.entryV a).cells) prog_Eq_impl_Entry (by omega) (fun x => ⟨rfl, by simp [calmL, M.entryV]⟩) (fun x y => eqk_Entry x y)
theorem eqk_Chunk (a b : M.Chunk) : ∃ r, eqK [2, 0, 0, 0, 0, 2] ((M.chunkV a).cells.map AV.pv) ((M.chunkV b).cells.map AV.pv) = some r ∧ (r = true ↔ a = b) := by
  obtain ⟨x0, ⟨x10, x11⟩, x2, x3, x4⟩ := a
  obtain ⟨y0, ⟨y10, y11⟩, y2, y3, y4⟩ := b
  refine ⟨_, rfl, ?_⟩
  simp [bytes_eq, and_assoc]
theorem run_Eq_impl_Chunk {xs ys : List M.Chunk} (ha : xs.length + sumN M.needChunk xs ≤ 1048576) (hb : ys.length + sumN M.needChunk ys ≤ 1048576) : Says (RUN CC fn_Eq_impl_Chunk [.sl 0 ty_impl_Chunk (xs.map (M.chunkV)), .sl 0 ty_impl_Chunk (ys.map (M.chunkV))]) (xs = ys) := by
  exact run_sEq (n := 6) (ks := [2, 0, 0, 0, 0, 2]) (F := fun a => (M.chunkV a).cells) prog_Eq_impl_Chunk (by omega) (fun x => ⟨rfl, by simp [calmL, M.chunkV]⟩) (fun x y => eqk_Chunk x y)
theorem eqk_Fill (a b : M.Fill) : ∃ r, eqK [0, 0, 2, 0, 0, 0, 0] ((M.fillV a).cells.map AV.pv) ((M.fillV b).cells.map AV.pv) = some r ∧ (r = true ↔ a = b) := by
  obtain ⟨x0, x1, ⟨x20, ⟨x210, x211⟩, x22, x23⟩⟩ := a
  obtain ⟨y0, y1, ⟨y20, ⟨y210, y211⟩, y22, y23⟩⟩ := b
  refine ⟨_, rfl, ?_⟩
  simp [bytes_eq, and_assoc]
theorem run_Eq_impl_Fill {xs ys : List M.Fill} (ha : xs.length + sumN M.needFill xs ≤ 1048576) (hb : ys.length + sumN M.needFill ys ≤ 1048576) : Says (RUN CC fn_Eq_impl_Fill [.sl 0 ty_impl_Fill (xs.map (M.fillV)), .sl 0 ty_impl_Fill (ys.map (M.fillV))]) (xs = ys) := by
  exact run_sEq (n := 7) (ks := [0, 0, 2, 0, 0, 0, 0]) (F := fun a => (M.fillV a).cells) prog_Eq_impl_Fill (by omega) (fun x => ⟨rfl, by simp [calmL, M.fillV]⟩) (fun x y => eqk_Fill x y)
theorem eqk_Way (a b : M.Way) : ∃ r, eqK [0, 0, 0, 0, 2, 1, 0, 0, 0, 0, 2] ((M.wayV a).cells.map AV.pv) ((M.wayV b).cells.map AV.pv) = some r ∧ (r = true ↔ a = b) := by
  obtain ⟨⟨⟨x000, x001⟩, ⟨x010, x011⟩, x02, x03, x04, x05, ⟨x060, x061⟩⟩, x1⟩ := a
  obtain ⟨⟨⟨y000, y001⟩, ⟨y010, y011⟩, y02, y03, y04, y05, ⟨y060, y061⟩⟩, y1⟩ := b
  refine ⟨_, rfl, ?_⟩
  simp [bytes_eq, and_assoc]
theorem run_Eq_impl_Way {xs ys : List M.Way} (ha : xs.length + sumN M.needWay xs ≤ 1048576) (hb : ys.length + sumN M.needWay ys ≤ 1048576) : Says (RUN CC fn_Eq_impl_Way [.sl 0 ty_impl_Way (xs.map (M.wayV)), .sl 0 ty_impl_Way (ys.map (M.wayV))]) (xs = ys) := by
  exact run_sEq (n := 11) (ks := [0, 0, 0, 0, 2, 1, 0, 0, 0, 0, 2]) (F := fun a => (M.wayV a).cells) prog_Eq_impl_Way (by omega) (fun x => ⟨rfl, by simp [calmL, M.wayV]⟩) (fun x y => eqk_Way x y)
theorem eqk_Ack (a b : M.Ack) : ∃ r, eqK [0, 0, 0] ((M.ackV a).cells.map AV.pv) ((M.ackV b).cells.map AV.pv) = some r ∧ (r = true ↔ a = b) := by
  obtain ⟨x0, ⟨x10, x11⟩⟩ := a
  obtain ⟨y0, ⟨y10, y11⟩⟩ := b
  refine ⟨_, rfl, ?_⟩
  simp [bytes_eq, and_assoc]
theorem run_Eq_impl_Ack {xs ys : List M.Ack} (ha : xs.length ≤ 1048576) (hb : ys.length ≤ 1048576) : Says (RUN CC fn_Eq_impl_Ack [.sl 0 ty_impl_Ack (xs.map (M.ackV)), .sl 0 ty_impl_Ack (ys.map (M.ackV))]) (xs = ys) := by
  exact run_sEq (n := 3) (ks := [0, 0, 0]) (F := fun a => (M.ackV a).cells) prog_Eq_impl_Ack (by omega) (fun x => ⟨rfl, by simp [calmL, M.ackV]⟩) (fun x y => eqk_Ack x y)
theorem eqk_Got (a b : M.Got) : ∃ r, eqK [0, 0, 0, 0, 0, 2, 1, 0, 0, 0, 0, 2, 0, 0, 0, 0, 2] ((M.gotV a).cells.map AV.pv) ((M.gotV b).cells.map AV.pv) = some r ∧ (r = true ↔ a = b) := by
  obtain ⟨x0, ⟨⟨x100, x101⟩, ⟨x110, x111⟩, x12, x13, x14, x15, ⟨x160, x161⟩⟩, ⟨x20, ⟨x210, x211⟩, x22, x23, x24⟩⟩ := a
  obtain ⟨y0, ⟨⟨y100, y101⟩, ⟨y110, y111⟩, y12, y13, y14, y15, ⟨y160, y161⟩⟩, ⟨y20, ⟨y210, y211⟩, y22, y23, y24⟩⟩ := b
  refine ⟨_, rfl, ?_⟩
  simp [bytes_eq, and_assoc]
theorem run_Eq_impl_Got {xs ys : List M.Got} (ha : xs.length + sumN M.needGot xs ≤ 1048576) (hb : ys.length + sumN M.needGot ys ≤ 1048576) : Says (RUN CC fn_Eq_impl_Got [.sl 0 ty_impl_Got (xs.map (M.gotV)), .sl 0 ty_impl_Got (ys.map (M.gotV))]) (xs = ys) := by
  exact run_sEq (n := 17) (ks := [0, 0, 0, 0, 0, 2, 1, 0, 0, 0, 0, 2, 0, 0, 0, 0, 2]) (F := fun a => (M.gotV a).cells) prog_Eq_impl_Got (by omega) (fun x => ⟨rfl, by simp [calmL, M.gotV]⟩) (fun x y => eqk_Got x y)
theorem run_spec_l00Same {xs ys : List Int} (ha : xs.length ≤ 1048576) (hb : ys.length ≤ 1048576) : Says (RUN CC fn_spec_l00Same [.sl 0 ty_int64 (xs.map (PV.int .i64)), .sl 0 ty_int64 (ys.map (PV.int .i64))]) (xs = ys) := by
  exact run_same0 prog_spec_l00Same (by omega)
theorem M.ext_Interval {a b : M.Interval} (h0 : a.first = b.first) (h1 : a.last = b.last) (h2 : a.acting = b.acting) (h3 : a.may = b.may) : a = b := by
  cases a; cases b; simp_all
set_option maxHeartbeats 4000000 in
theorem run_impl_sameInterval (a b : M.Interval) (ha : M.needInterval a ≤ 1048576) (hb : M.needInterval b ≤ 1048576) : Says (RUN CC fn_impl_sameInterval [M.intervalV 0 true a, M.intervalV 0 true b]) (a = b) := by
  classical
  by_cases h0 : a.first = b.first
  case neg => exact .of (b := false) (by rw [RUN_eq, prog_impl_sameInterval]; simp (disch := omega) [pf_impl_sameInterval, M.intervalV, h0]) (nosame (Q := a.first = b.first) (fun h => by rw [h]) h0)
  by_cases h1 : a.last = b.last
  case neg => exact .of (b := false) (by rw [RUN_eq, prog_impl_sameInterval]; simp (disch := omega) [pf_impl_sameInterval, M.intervalV, h0, h1]) (nosame (Q := a.last = b.last) (fun h => by rw [h]) h1)
  obtain ⟨r2, q2, s2⟩ : ∃ r, (a.may == b.may) = r ∧ (r = true ↔ a.may = b.may) := ⟨_, rfl, by simp⟩
  cases r2
  case false => exact .of (b := false) (by rw [RUN_eq, prog_impl_sameInterval]; simp (disch := omega) [pf_impl_sameInterval, M.intervalV, h0, h1, q2]) (nosame (Q := a.may = b.may) (fun h => by rw [h]) (fun h => by simpa using s2.2 h))
  obtain ⟨r3, q3, s3⟩ := run_Eq_int64 (xs := a.acting) (ys := b.acting) (by simp only [M.needInterval] at ha; omega) (by simp only [M.needInterval] at hb; omega)
  cases r3
  case false => exact .of (b := false) (by rw [RUN_eq, prog_impl_sameInterval]; simp (disch := omega) [pf_impl_sameInterval, M.intervalV, h0, h1, q2, q3]) (nosame (Q := a.acting = b.acting) (fun h => by rw [h]) (fun h => by simpa using s3.2 h))
  have hab : a = b := (M.ext_Interval h0 h1 (s3.1 rfl) (s2.1 rfl))
  exact .of (b := true) (by rw [RUN_eq, prog_impl_sameInterval]; simp (disch := omega) [pf_impl_sameInterval, M.intervalV, h0, h1, q2, q3]) (by simp [hab])
theorem M.ext_PgState {a b : M.PgState} (h0 : a.pg = b.pg) (h1 : a.seen = b.seen) (h2 : a.started = b.started) (h3 : a.tail = b.tail) (h4 : a.base = b.base) (h5 : a.clients = b.clients) (h6 : a.log = b.log) (h7 : a.firm = b.firm) (h8 : a.chunks = b.chunks) : a = b := by
  cases a; cases b; simp_all
theorem eqk_Pg (a b : M.Pg) : ∃ r, eqK [0, 0] ((M.pgV a).cells.map AV.pv) ((M.pgV b).cells.map AV.pv) = some r ∧ (r = true ↔ a = b) := by
  obtain ⟨x0, x1⟩ := a
  obtain ⟨y0, y1⟩ := b
  refine ⟨_, rfl, ?_⟩
  simp [bytes_eq, and_assoc]
theorem eqk_Ver (a b : M.Ver) : ∃ r, eqK [0, 0] ((M.verV a).cells.map AV.pv) ((M.verV b).cells.map AV.pv) = some r ∧ (r = true ↔ a = b) := by
  obtain ⟨x0, x1⟩ := a
  obtain ⟨y0, y1⟩ := b
  refine ⟨_, rfl, ?_⟩
  simp [bytes_eq, and_assoc]
set_option maxHeartbeats 4000000 in
theorem run_impl_sameState (a b : M.PgState) (ha : M.needPgState a ≤ 1048576) (hb : M.needPgState b ≤ 1048576) : Says (RUN CC fn_impl_sameState [M.pgStateV 0 true a, M.pgStateV 0 true b]) (a = b) := by
  classical
  obtain ⟨r0, q0, s0⟩ := eqk_Pg a.pg b.pg
  simp only [M.pgV, PV.cells, List.map_cons, List.map_nil] at q0
  cases r0
  case false => exact .of (b := false) (by rw [RUN_eq, prog_impl_sameState]; simp (disch := omega) [pf_impl_sameState, M.pgStateV, q0]) (nosame (Q := a.pg = b.pg) (fun h => by rw [h]) (fun h => by simpa using s0.2 h))
  by_cases h1 : a.seen = b.seen
  case neg => exact .of (b := false) (by rw [RUN_eq, prog_impl_sameState]; simp (disch := omega) [pf_impl_sameState, M.pgStateV, q0, h1]) (nosame (Q := a.seen = b.seen) (fun h => by rw [h]) h1)
  by_cases h2 : a.started = b.started
  case neg => exact .of (b := false) (by rw [RUN_eq, prog_impl_sameState]; simp (disch := omega) [pf_impl_sameState, M.pgStateV, q0, h1, h2]) (nosame (Q := a.started = b.started) (fun h => by rw [h]) h2)
  obtain ⟨r3, q3, s3⟩ := eqk_Ver a.tail b.tail
  simp only [M.verV, PV.cells, List.map_cons, List.map_nil] at q3
  cases r3
  case false => exact .of (b := false) (by rw [RUN_eq, prog_impl_sameState]; simp (disch := omega) [pf_impl_sameState, M.pgStateV, q0, h1, h2, q3]) (nosame (Q := a.tail = b.tail) (fun h => by rw [h]) (fun h => by simpa using s3.2 h))
  obtain ⟨r4, q4, s4⟩ := eqk_Ver a.firm b.firm
  simp only [M.verV, PV.cells, List.map_cons, List.map_nil] at q4
  cases r4
  case false => exact .of (b := false) (by rw [RUN_eq, prog_impl_sameState]; simp (disch := omega) [pf_impl_sameState, M.pgStateV, q0, h1, h2, q3, q4]) (nosame (Q := a.firm = b.firm) (fun h => by rw [h]) (fun h => by simpa using s4.2 h))
  obtain ⟨r5, q5, s5⟩ := run_Eq_impl_Head (xs := a.base) (ys := b.base) (by simp only [M.needPgState] at ha; omega) (by simp only [M.needPgState] at hb; omega)
  cases r5
  case false => exact .of (b := false) (by rw [RUN_eq, prog_impl_sameState]; simp (disch := omega) [pf_impl_sameState, M.pgStateV, q0, h1, h2, q3, q4, q5]) (nosame (Q := a.base = b.base) (fun h => by rw [h]) (fun h => by simpa using s5.2 h))
  obtain ⟨r6, q6, s6⟩ := run_Eq_impl_Last (xs := a.clients) (ys := b.clients) (by simp only [M.needPgState] at ha; omega) (by simp only [M.needPgState] at hb; omega)
  cases r6
  case false => exact .of (b := false) (by rw [RUN_eq, prog_impl_sameState]; simp (disch := omega) [pf_impl_sameState, M.pgStateV, q0, h1, h2, q3, q4, q5, q6]) (nosame (Q := a.clients = b.clients) (fun h => by rw [h]) (fun h => by simpa using s6.2 h))
  obtain ⟨r7, q7, s7⟩ := run_Eq_impl_Entry (xs := a.log) (ys := b.log) (by simp only [M.needPgState] at ha; omega) (by simp only [M.needPgState] at hb; omega)
  cases r7
  case false => exact .of (b := false) (by rw [RUN_eq, prog_impl_sameState]; simp (disch := omega) [pf_impl_sameState, M.pgStateV, q0, h1, h2, q3, q4, q5, q6, q7]) (nosame (Q := a.log = b.log) (fun h => by rw [h]) (fun h => by simpa using s7.2 h))
  obtain ⟨r8, q8, s8⟩ := run_Eq_impl_Chunk (xs := a.chunks) (ys := b.chunks) (by simp only [M.needPgState] at ha; omega) (by simp only [M.needPgState] at hb; omega)
  cases r8
  case false => exact .of (b := false) (by rw [RUN_eq, prog_impl_sameState]; simp (disch := omega) [pf_impl_sameState, M.pgStateV, q0, h1, h2, q3, q4, q5, q6, q7, q8]) (nosame (Q := a.chunks = b.chunks) (fun h => by rw [h]) (fun h => by simpa using s8.2 h))
  have hab : a = b := (M.ext_PgState (s0.1 rfl) h1 h2 (s3.1 rfl) (s5.1 rfl) (s6.1 rfl) (s7.1 rfl) (s4.1 rfl) (s8.1 rfl))
  exact .of (b := true) (by rw [RUN_eq, prog_impl_sameState]; simp (disch := omega) [pf_impl_sameState, M.pgStateV, q0, h1, h2, q3, q4, q5, q6, q7, q8]) (by simp [hab])
set_option maxHeartbeats 4000000 in
theorem run_spec_l25SameState (a b : M.PgState) (ha : M.needPgState a ≤ 1048576) (hb : M.needPgState b ≤ 1048576) : Says (RUN CC fn_spec_l25SameState [M.pgStateV 0 true a, M.pgStateV 0 true b]) (a = b) := by
  classical
  obtain ⟨r0, q0, s0⟩ := eqk_Pg a.pg b.pg
  simp only [M.pgV, PV.cells, List.map_cons, List.map_nil] at q0
  cases r0
  case false => exact .of (b := false) (by rw [RUN_eq, prog_spec_l25SameState]; simp (disch := omega) [pf_spec_l25SameState, M.pgStateV, q0]) (nosame (Q := a.pg = b.pg) (fun h => by rw [h]) (fun h => by simpa using s0.2 h))
  by_cases h1 : a.seen = b.seen
  case neg => exact .of (b := false) (by rw [RUN_eq, prog_spec_l25SameState]; simp (disch := omega) [pf_spec_l25SameState, M.pgStateV, q0, h1]) (nosame (Q := a.seen = b.seen) (fun h => by rw [h]) h1)
  by_cases h2 : a.started = b.started
  case neg => exact .of (b := false) (by rw [RUN_eq, prog_spec_l25SameState]; simp (disch := omega) [pf_spec_l25SameState, M.pgStateV, q0, h1, h2]) (nosame (Q := a.started = b.started) (fun h => by rw [h]) h2)
  obtain ⟨r3, q3, s3⟩ := eqk_Ver a.tail b.tail
  simp only [M.verV, PV.cells, List.map_cons, List.map_nil] at q3
  cases r3
  case false => exact .of (b := false) (by rw [RUN_eq, prog_spec_l25SameState]; simp (disch := omega) [pf_spec_l25SameState, M.pgStateV, q0, h1, h2, q3]) (nosame (Q := a.tail = b.tail) (fun h => by rw [h]) (fun h => by simpa using s3.2 h))
  obtain ⟨r4, q4, s4⟩ := eqk_Ver a.firm b.firm
  simp only [M.verV, PV.cells, List.map_cons, List.map_nil] at q4
  cases r4
  case false => exact .of (b := false) (by rw [RUN_eq, prog_spec_l25SameState]; simp (disch := omega) [pf_spec_l25SameState, M.pgStateV, q0, h1, h2, q3, q4]) (nosame (Q := a.firm = b.firm) (fun h => by rw [h]) (fun h => by simpa using s4.2 h))
  by_cases l5 : a.base.length = b.base.length
  case neg =>
    have l5' : ¬ (a.base.length : Int) = b.base.length := by omega
    exact .of (b := false) (by rw [RUN_eq, prog_spec_l25SameState]; simp (disch := omega) [pf_spec_l25SameState, M.pgStateV, q0, h1, h2, q3, q4, l5, l5']) (nosame (Q := a.base.length = b.base.length) (fun h => by rw [h]) (fun h => l5 (by rw [h])))
  by_cases l6 : a.clients.length = b.clients.length
  case neg =>
    have l6' : ¬ (a.clients.length : Int) = b.clients.length := by omega
    exact .of (b := false) (by rw [RUN_eq, prog_spec_l25SameState]; simp (disch := omega) [pf_spec_l25SameState, M.pgStateV, q0, h1, h2, q3, q4, l5, l6, l6']) (nosame (Q := a.clients.length = b.clients.length) (fun h => by rw [h]) (fun h => l6 (by rw [h])))
  by_cases l7 : a.log.length = b.log.length
  case neg =>
    have l7' : ¬ (a.log.length : Int) = b.log.length := by omega
    exact .of (b := false) (by rw [RUN_eq, prog_spec_l25SameState]; simp (disch := omega) [pf_spec_l25SameState, M.pgStateV, q0, h1, h2, q3, q4, l5, l6, l7, l7']) (nosame (Q := a.log.length = b.log.length) (fun h => by rw [h]) (fun h => l7 (by rw [h])))
  by_cases l8 : a.chunks.length = b.chunks.length
  case neg =>
    have l8' : ¬ (a.chunks.length : Int) = b.chunks.length := by omega
    exact .of (b := false) (by rw [RUN_eq, prog_spec_l25SameState]; simp (disch := omega) [pf_spec_l25SameState, M.pgStateV, q0, h1, h2, q3, q4, l5, l6, l7, l8, l8']) (nosame (Q := a.chunks.length = b.chunks.length) (fun h => by rw [h]) (fun h => l8 (by rw [h])))
  generalize hR : RUN CC fn_spec_l25SameState [M.pgStateV 0 true a, M.pgStateV 0 true b] = R
  rw [RUN_eq, prog_spec_l25SameState] at hR
  simp (disch := omega) [pf_spec_l25SameState, M.pgStateV, q0, h1, h2, q3, q4, l5, l6, l7, l8] at hR
  generalize hE0 : EX CC _ pf_spec_l25SameState_l0 _ = E0 at hR
  have hl0 := all_loop hE0 a.base (fun i x => decide (b.base[i]? = some x)) (fun i s => s.t 5 = .pv (.int .i64 i) ∧ s.t 2 = .ptr 2 1 0 ∧ s.m.kb 2 = 1 ∧ s.m.b 2 = some [.pv (.int .i64 a.pg.pool), .pv (.int .i64 a.pg.no), .pv (.int .i64 a.seen), .pv (.int .i64 a.started), .pv (.int .i64 a.tail.epoch), .pv (.int .i64 a.tail.seq), .pv (.sl 0 ty_impl_Head (a.base.map (M.headV))), .pv (.sl 0 ty_impl_Last (a.clients.map (M.lastV))), .pv (.sl 0 ty_impl_Entry (a.log.map (M.entryV))), .pv (.int .i64 a.firm.epoch), .pv (.int .i64 a.firm.seq), .pv (.sl 0 ty_impl_Chunk (a.chunks.map (M.chunkV)))] ∧ s.t 3 = .ptr 3 1 0 ∧ s.m.kb 3 = 1 ∧ s.m.b 3 = some [.pv (.int .i64 b.pg.pool), .pv (.int .i64 b.pg.no), .pv (.int .i64 b.seen), .pv (.int .i64 b.started), .pv (.int .i64 b.tail.epoch), .pv (.int .i64 b.tail.seq), .pv (.sl 0 ty_impl_Head (b.base.map (M.headV))), .pv (.sl 0 ty_impl_Last (b.clients.map (M.lastV))), .pv (.sl 0 ty_impl_Entry (b.log.map (M.entryV))), .pv (.int .i64 b.firm.epoch), .pv (.int .i64 b.firm.seq), .pv (.sl 0 ty_impl_Chunk (b.chunks.map (M.chunkV)))]) (.exit 0) (by simp) (fun i e s => e = .ret ∧ s.t 4 = .pv (.bool false)) (by simp [M.pgStateV, h1, h2])
    (by
      rintro s ⟨k1, k2, k3, k4, k5, k6, k7⟩
      simp [pf_spec_l25SameState_lb0, k1, k2, k3, k4, k5, k6, k7])
    (by
      rintro s i hi ⟨k1, k2, k3, k4, k5, k6, k7⟩
      have hi2 : i < b.base.length := by omega
      have hle : a.base.length ≤ 1048576 := by simp only [M.needPgState] at ha; omega
      generalize hx : a.base[i] = x
      generalize hy : b.base[i] = y
      obtain ⟨r, q, sq⟩ := eqk_Head x y
      simp only [M.headV, PV.cells, List.map_cons, List.map_nil] at q
      cases r with
      | true =>
        obtain rfl : x = y := sq.1 rfl
        simp (disch := omega) [pf_spec_l25SameState_lb0, k1, k2, k3, k4, k5, k6, k7, hi, hi2, idxN, l5, IntWalk.i64_in, M.headV, hx, hy, q]
      | false =>
        have hq : ¬ y = x := fun h => by simpa using sq.2 h.symm
        simp (disch := omega) [pf_spec_l25SameState_lb0, k1, k2, k3, k4, k5, k6, k7, hi, hi2, idxN, l5, IntWalk.i64_in, M.headV, hx, hy, q, hq])
  obtain ⟨e', s0', rfl, hh0⟩ := hl0
  rcases hh0 with ⟨rfl, hf0, _, u02, u03, u04, u05, u06, u07⟩ | ⟨i, hf0, _, rfl, hr0⟩
  case inr => (simp [hr0] at hR; subst hR; exact .of rfl (nosame (Q := a.base = b.base) (fun h => by rw [h]) (nolist l5 (fun i x => by simp) hf0)))
  simp (disch := omega) [q0, h1, h2, q3, q4, l5, l6, l7, l8, u02, u03, u04, u05, u06, u07] at hR
  generalize hE1 : EX CC _ pf_spec_l25SameState_l1 _ = E1 at hR
  have hl1 := all_loop hE1 a.clients (fun i x => decide (b.clients[i]? = some x)) (fun i s => s.t 6 = .pv (.int .i64 i) ∧ s.t 2 = .ptr 2 1 0 ∧ s.m.kb 2 = 1 ∧ s.m.b 2 = some [.pv (.int .i64 a.pg.pool), .pv (.int .i64 a.pg.no), .pv (.int .i64 a.seen), .pv (.int .i64 a.started), .pv (.int .i64 a.tail.epoch), .pv (.int .i64 a.tail.seq), .pv (.sl 0 ty_impl_Head (a.base.map (M.headV))), .pv (.sl 0 ty_impl_Last (a.clients.map (M.lastV))), .pv (.sl 0 ty_impl_Entry (a.log.map (M.entryV))), .pv (.int .i64 a.firm.epoch), .pv (.int .i64 a.firm.seq), .pv (.sl 0 ty_impl_Chunk (a.chunks.map (M.chunkV)))] ∧ s.t 3 = .ptr 3 1 0 ∧ s.m.kb 3 = 1 ∧ s.m.b 3 = some [.pv (.int .i64 b.pg.pool), .pv (.int .i64 b.pg.no), .pv (.int .i64 b.seen), .pv (.int .i64 b.started), .pv (.int .i64 b.tail.epoch), .pv (.int .i64 b.tail.seq), .pv (.sl 0 ty_impl_Head (b.base.map (M.headV))), .pv (.sl 0 ty_impl_Last (b.clients.map (M.lastV))), .pv (.sl 0 ty_impl_Entry (b.log.map (M.entryV))), .pv (.int .i64 b.firm.epoch), .pv (.int .i64 b.firm.seq), .pv (.sl 0 ty_impl_Chunk (b.chunks.map (M.chunkV)))]) (.exit 2) (by simp) (fun i e s => e = .ret ∧ s.t 4 = .pv (.bool false)) (by simp [u02, u03, u04, u05, u06, u07])
    (by
      rintro s ⟨k1, k2, k3, k4, k5, k6, k7⟩
      simp [pf_spec_l25SameState_lb1, k1, k2, k3, k4, k5, k6, k7])
    (by
      rintro s i hi ⟨k1, k2, k3, k4, k5, k6, k7⟩
      have hi2 : i < b.clients.length := by omega
      have hle : a.clients.length ≤ 1048576 := by simp only [M.needPgState] at ha; omega
      generalize hx : a.clients[i] = x
      generalize hy : b.clients[i] = y
      obtain ⟨r, q, sq⟩ := eqk_Last x y
      simp only [M.lastV, PV.cells, List.map_cons, List.map_nil] at q
      cases r with
      | true =>
        obtain rfl : x = y := sq.1 rfl
        simp (disch := omega) [pf_spec_l25SameState_lb1, k1, k2, k3, k4, k5, k6, k7, hi, hi2, idxN, l6, IntWalk.i64_in, M.lastV, hx, hy, q]
      | false =>
        have hq : ¬ y = x := fun h => by simpa using sq.2 h.symm
        simp (disch := omega) [pf_spec_l25SameState_lb1, k1, k2, k3, k4, k5, k6, k7, hi, hi2, idxN, l6, IntWalk.i64_in, M.lastV, hx, hy, q, hq])
  obtain ⟨e', s1', rfl, hh1⟩ := hl1
  rcases hh1 with ⟨rfl, hf1, _, u12, u13, u14, u15, u16, u17⟩ | ⟨i, hf1, _, rfl, hr1⟩
  case inr => (simp [hr1] at hR; subst hR; exact .of rfl (nosame (Q := a.clients = b.clients) (fun h => by rw [h]) (nolist l6 (fun i x => by simp) hf1)))
  simp (disch := omega) [q0, h1, h2, q3, q4, l5, l6, l7, l8, u12, u13, u14, u15, u16, u17] at hR
  generalize hE2 : EX CC _ pf_spec_l25SameState_l2 _ = E2 at hR
  have hl2 := all_loop hE2 a.log (fun i x => decide (b.log[i]? = some x)) (fun i s => s.t 7 = .pv (.int .i64 i) ∧ s.t 2 = .ptr 2 1 0 ∧ s.m.kb 2 = 1 ∧ s.m.b 2 = some [.pv (.int .i64 a.pg.pool), .pv (.int .i64 a.pg.no), .pv (.int .i64 a.seen), .pv (.int .i64 a.started), .pv (.int .i64 a.tail.epoch), .pv (.int .i64 a.tail.seq), .pv (.sl 0 ty_impl_Head (a.base.map (M.headV))), .pv (.sl 0 ty_impl_Last (a.clients.map (M.lastV))), .pv (.sl 0 ty_impl_Entry (a.log.map (M.entryV))), .pv (.int .i64 a.firm.epoch), .pv (.int .i64 a.firm.seq), .pv (.sl 0 ty_impl_Chunk (a.chunks.map (M.chunkV)))] ∧ s.t 3 = .ptr 3 1 0 ∧ s.m.kb 3 = 1 ∧ s.m.b 3 = some [.pv (.int .i64 b.pg.pool), .pv (.int .i64 b.pg.no), .pv (.int .i64 b.seen), .pv (.int .i64 b.started), .pv (.int .i64 b.tail.epoch), .pv (.int .i64 b.tail.seq), .pv (.sl 0 ty_impl_Head (b.base.map (M.headV))), .pv (.sl 0 ty_impl_Last (b.clients.map (M.lastV))), .pv (.sl 0 ty_impl_Entry (b.log.map (M.entryV))), .pv (.int .i64 b.firm.epoch), .pv (.int .i64 b.firm.seq), .pv (.sl 0 ty_impl_Chunk (b.chunks.map (M.chunkV)))]) (.exit 4) (by simp) (fun i e s => e = .ret ∧ s.t 4 = .pv (.bool false)) (by simp [u12, u13, u14, u15, u16, u17])
    (by
      rintro s ⟨k1, k2, k3, k4, k5, k6, k7⟩
      simp [pf_spec_l25SameState_lb2, k1, k2, k3, k4, k5, k6, k7])
    (by
      rintro s i hi ⟨k1, k2, k3, k4, k5, k6, k7⟩
      have hi2 : i < b.log.length := by omega
      have hle : a.log.length ≤ 1048576 := by simp only [M.needPgState] at ha; omega
      generalize hx : a.log[i] = x
      generalize hy : b.log[i] = y
      obtain ⟨r, q, sq⟩ := eqk_Entry x y
      simp only [M.entryV, PV.cells, List.map_cons, List.map_nil] at q
      cases r with
      | true =>
        obtain rfl : x = y := sq.1 rfl
        simp (disch := omega) [pf_spec_l25SameState_lb2, k1, k2, k3, k4, k5, k6, k7, hi, hi2, idxN, l7, IntWalk.i64_in, M.entryV, hx, hy, q]
      | false =>
        have hq : ¬ y = x := fun h => by simpa using sq.2 h.symm
        simp (disch := omega) [pf_spec_l25SameState_lb2, k1, k2, k3, k4, k5, k6, k7, hi, hi2, idxN, l7, IntWalk.i64_in, M.entryV, hx, hy, q, hq])
  obtain ⟨e', s2', rfl, hh2⟩ := hl2
  rcases hh2 with ⟨rfl, hf2, _, u22, u23, u24, u25, u26, u27⟩ | ⟨i, hf2, _, rfl, hr2⟩
  case inr => (simp [hr2] at hR; subst hR; exact .of rfl (nosame (Q := a.log = b.log) (fun h => by rw [h]) (nolist l7 (fun i x => by simp) hf2)))
  simp (disch := omega) [q0, h1, h2, q3, q4, l5, l6, l7, l8, u22, u23, u24, u25, u26, u27] at hR
  generalize hE3 : EX CC _ pf_spec_l25SameState_l3 _ = E3 at hR
  have hl3 := all_loop hE3 a.chunks (fun i x => decide (b.chunks[i]? = some x)) (fun i s => s.t 8 = .pv (.int .i64 i) ∧ s.t 2 = .ptr 2 1 0 ∧ s.m.kb 2 = 1 ∧ s.m.b 2 = some [.pv (.int .i64 a.pg.pool), .pv (.int .i64 a.pg.no), .pv (.int .i64 a.seen), .pv (.int .i64 a.started), .pv (.int .i64 a.tail.epoch), .pv (.int .i64 a.tail.seq), .pv (.sl 0 ty_impl_Head (a.base.map (M.headV))), .pv (.sl 0 ty_impl_Last (a.clients.map (M.lastV))), .pv (.sl 0 ty_impl_Entry (a.log.map (M.entryV))), .pv (.int .i64 a.firm.epoch), .pv (.int .i64 a.firm.seq), .pv (.sl 0 ty_impl_Chunk (a.chunks.map (M.chunkV)))] ∧ s.t 3 = .ptr 3 1 0 ∧ s.m.kb 3 = 1 ∧ s.m.b 3 = some [.pv (.int .i64 b.pg.pool), .pv (.int .i64 b.pg.no), .pv (.int .i64 b.seen), .pv (.int .i64 b.started), .pv (.int .i64 b.tail.epoch), .pv (.int .i64 b.tail.seq), .pv (.sl 0 ty_impl_Head (b.base.map (M.headV))), .pv (.sl 0 ty_impl_Last (b.clients.map (M.lastV))), .pv (.sl 0 ty_impl_Entry (b.log.map (M.entryV))), .pv (.int .i64 b.firm.epoch), .pv (.int .i64 b.firm.seq), .pv (.sl 0 ty_impl_Chunk (b.chunks.map (M.chunkV)))]) (.exit 6) (by simp) (fun i e s => e = .ret ∧ s.t 4 = .pv (.bool false)) (by simp [u22, u23, u24, u25, u26, u27])
    (by
      rintro s ⟨k1, k2, k3, k4, k5, k6, k7⟩
      simp [pf_spec_l25SameState_lb3, k1, k2, k3, k4, k5, k6, k7])
    (by
      rintro s i hi ⟨k1, k2, k3, k4, k5, k6, k7⟩
      have hi2 : i < b.chunks.length := by omega
      have hle : a.chunks.length ≤ 1048576 := by simp only [M.needPgState] at ha; omega
      generalize hx : a.chunks[i] = x
      generalize hy : b.chunks[i] = y
      obtain ⟨r, q, sq⟩ := eqk_Chunk x y
      simp only [M.chunkV, PV.cells, List.map_cons, List.map_nil] at q
      cases r with
      | true =>
        obtain rfl : x = y := sq.1 rfl
        simp (disch := omega) [pf_spec_l25SameState_lb3, k1, k2, k3, k4, k5, k6, k7, hi, hi2, idxN, l8, IntWalk.i64_in, M.chunkV, hx, hy, q]
      | false =>
        have hq : ¬ y = x := fun h => by simpa using sq.2 h.symm
        simp (disch := omega) [pf_spec_l25SameState_lb3, k1, k2, k3, k4, k5, k6, k7, hi, hi2, idxN, l8, IntWalk.i64_in, M.chunkV, hx, hy, q, hq])
  obtain ⟨e', s3', rfl, hh3⟩ := hl3
  rcases hh3 with ⟨rfl, hf3, _, u32, u33, u34, u35, u36, u37⟩ | ⟨i, hf3, _, rfl, hr3⟩
  case inr => (simp [hr3] at hR; subst hR; exact .of rfl (nosame (Q := a.chunks = b.chunks) (fun h => by rw [h]) (nolist l8 (fun i x => by simp) hf3)))
  have hab : a = b := (M.ext_PgState (s0.1 rfl) h1 h2 (s3.1 rfl) ((list_same l5 fun i x => by simp).1 hf0) ((list_same l6 fun i x => by simp).1 hf1) ((list_same l7 fun i x => by simp).1 hf2) (s4.1 rfl) ((list_same l8 fun i x => by simp).1 hf3))
  simp (disch := omega) [q0, h1, h2, q3, q4, l5, l6, l7, l8, u32, u33, u34, u35, u36, u37] at hR
  subst hR
  exact .of rfl (by simp [hab])
set_option maxHeartbeats 4000000 in
theorem run_spec_l17Same (a b : M.PgState) (ha : M.needPgState a ≤ 1048576) (hb : M.needPgState b ≤ 1048576) : Says (RUN CC fn_spec_l17Same [M.pgStateV 0 true a, M.pgStateV 0 true b]) (a = b) := by
  classical
  obtain ⟨r0, q0, s0⟩ := eqk_Pg a.pg b.pg
  simp only [M.pgV, PV.cells, List.map_cons, List.map_nil] at q0
  cases r0
  case false => exact .of (b := false) (by rw [RUN_eq, prog_spec_l17Same]; simp (disch := omega) [pf_spec_l17Same, M.pgStateV, q0]) (nosame (Q := a.pg = b.pg) (fun h => by rw [h]) (fun h => by simpa using s0.2 h))
  by_cases h1 : a.seen = b.seen
  case neg => exact .of (b := false) (by rw [RUN_eq, prog_spec_l17Same]; simp (disch := omega) [pf_spec_l17Same, M.pgStateV, q0, h1]) (nosame (Q := a.seen = b.seen) (fun h => by rw [h]) h1)
  by_cases h2 : a.started = b.started
  case neg => exact .of (b := false) (by rw [RUN_eq, prog_spec_l17Same]; simp (disch := omega) [pf_spec_l17Same, M.pgStateV, q0, h1, h2]) (nosame (Q := a.started = b.started) (fun h => by rw [h]) h2)
  obtain ⟨r3, q3, s3⟩ := eqk_Ver a.tail b.tail
  simp only [M.verV, PV.cells, List.map_cons, List.map_nil] at q3
  cases r3
  case false => exact .of (b := false) (by rw [RUN_eq, prog_spec_l17Same]; simp (disch := omega) [pf_spec_l17Same, M.pgStateV, q0, h1, h2, q3]) (nosame (Q := a.tail = b.tail) (fun h => by rw [h]) (fun h => by simpa using s3.2 h))
  obtain ⟨r4, q4, s4⟩ := eqk_Ver a.firm b.firm
  simp only [M.verV, PV.cells, List.map_cons, List.map_nil] at q4
  cases r4
  case false => exact .of (b := false) (by rw [RUN_eq, prog_spec_l17Same]; simp (disch := omega) [pf_spec_l17Same, M.pgStateV, q0, h1, h2, q3, q4]) (nosame (Q := a.firm = b.firm) (fun h => by rw [h]) (fun h => by simpa using s4.2 h))
  by_cases l5 : a.base.length = b.base.length
  case neg =>
    have l5' : ¬ (a.base.length : Int) = b.base.length := by omega
    exact .of (b := false) (by rw [RUN_eq, prog_spec_l17Same]; simp (disch := omega) [pf_spec_l17Same, M.pgStateV, q0, h1, h2, q3, q4, l5, l5']) (nosame (Q := a.base.length = b.base.length) (fun h => by rw [h]) (fun h => l5 (by rw [h])))
  by_cases l6 : a.clients.length = b.clients.length
  case neg =>
    have l6' : ¬ (a.clients.length : Int) = b.clients.length := by omega
    exact .of (b := false) (by rw [RUN_eq, prog_spec_l17Same]; simp (disch := omega) [pf_spec_l17Same, M.pgStateV, q0, h1, h2, q3, q4, l5, l6, l6']) (nosame (Q := a.clients.length = b.clients.length) (fun h => by rw [h]) (fun h => l6 (by rw [h])))
  by_cases l7 : a.log.length = b.log.length
  case neg =>
    have l7' : ¬ (a.log.length : Int) = b.log.length := by omega
    exact .of (b := false) (by rw [RUN_eq, prog_spec_l17Same]; simp (disch := omega) [pf_spec_l17Same, M.pgStateV, q0, h1, h2, q3, q4, l5, l6, l7, l7']) (nosame (Q := a.log.length = b.log.length) (fun h => by rw [h]) (fun h => l7 (by rw [h])))
  by_cases l8 : a.chunks.length = b.chunks.length
  case neg =>
    have l8' : ¬ (a.chunks.length : Int) = b.chunks.length := by omega
    exact .of (b := false) (by rw [RUN_eq, prog_spec_l17Same]; simp (disch := omega) [pf_spec_l17Same, M.pgStateV, q0, h1, h2, q3, q4, l5, l6, l7, l8, l8']) (nosame (Q := a.chunks.length = b.chunks.length) (fun h => by rw [h]) (fun h => l8 (by rw [h])))
  generalize hR : RUN CC fn_spec_l17Same [M.pgStateV 0 true a, M.pgStateV 0 true b] = R
  rw [RUN_eq, prog_spec_l17Same] at hR
  simp (disch := omega) [pf_spec_l17Same, M.pgStateV, q0, h1, h2, q3, q4, l5, l6, l7, l8] at hR
  generalize hE0 : EX CC _ pf_spec_l17Same_l0 _ = E0 at hR
  have hl0 := all_loop hE0 a.base (fun i x => decide (b.base[i]? = some x)) (fun i s => s.t 5 = .pv (.int .i64 i) ∧ s.t 2 = .ptr 2 1 0 ∧ s.m.kb 2 = 1 ∧ s.m.b 2 = some [.pv (.int .i64 a.pg.pool), .pv (.int .i64 a.pg.no), .pv (.int .i64 a.seen), .pv (.int .i64 a.started), .pv (.int .i64 a.tail.epoch), .pv (.int .i64 a.tail.seq), .pv (.sl 0 ty_impl_Head (a.base.map (M.headV))), .pv (.sl 0 ty_impl_Last (a.clients.map (M.lastV))), .pv (.sl 0 ty_impl_Entry (a.log.map (M.entryV))), .pv (.int .i64 a.firm.epoch), .pv (.int .i64 a.firm.seq), .pv (.sl 0 ty_impl_Chunk (a.chunks.map (M.chunkV)))] ∧ s.t 3 = .ptr 3 1 0 ∧ s.m.kb 3 = 1 ∧ s.m.b 3 = some [.pv (.int .i64 b.pg.pool), .pv (.int .i64 b.pg.no), .pv (.int .i64 b.seen), .pv (.int .i64 b.started), .pv (.int .i64 b.tail.epoch), .pv (.int .i64 b.tail.seq), .pv (.sl 0 ty_impl_Head (b.base.map (M.headV))), .pv (.sl 0 ty_impl_Last (b.clients.map (M.lastV))), .pv (.sl 0 ty_impl_Entry (b.log.map (M.entryV))), .pv (.int .i64 b.firm.epoch), .pv (.int .i64 b.firm.seq), .pv (.sl 0 ty_impl_Chunk (b.chunks.map (M.chunkV)))]) (.exit 0) (by simp) (fun i e s => e = .ret ∧ s.t 4 = .pv (.bool false)) (by simp [M.pgStateV, h1, h2])
    (by
      rintro s ⟨k1, k2, k3, k4, k5, k6, k7⟩
      simp [pf_spec_l17Same_lb0, k1, k2, k3, k4, k5, k6, k7])
    (by
      rintro s i hi ⟨k1, k2, k3, k4, k5, k6, k7⟩
      have hi2 : i < b.base.length := by omega
      have hle : a.base.length ≤ 1048576 := by simp only [M.needPgState] at ha; omega
      generalize hx : a.base[i] = x
      generalize hy : b.base[i] = y
      obtain ⟨r, q, sq⟩ := eqk_Head x y
      simp only [M.headV, PV.cells, List.map_cons, List.map_nil] at q
      cases r with
      | true =>
        obtain rfl : x = y := sq.1 rfl
        simp (disch := omega) [pf_spec_l17Same_lb0, k1, k2, k3, k4, k5, k6, k7, hi, hi2, idxN, l5, IntWalk.i64_in, M.headV, hx, hy, q]
      | false =>
        have hq : ¬ y = x := fun h => by simpa using sq.2 h.symm
        simp (disch := omega) [pf_spec_l17Same_lb0, k1, k2, k3, k4, k5, k6, k7, hi, hi2, idxN, l5, IntWalk.i64_in, M.headV, hx, hy, q, hq])
  obtain ⟨e', s0', rfl, hh0⟩ := hl0
  rcases hh0 with ⟨rfl, hf0, _, u02, u03, u04, u05, u06, u07⟩ | ⟨i, hf0, _, rfl, hr0⟩
  case inr => (simp [hr0] at hR; subst hR; exact .of rfl (nosame (Q := a.base = b.base) (fun h => by rw [h]) (nolist l5 (fun i x => by simp) hf0)))
  simp (disch := omega) [q0, h1, h2, q3, q4, l5, l6, l7, l8, u02, u03, u04, u05, u06, u07] at hR
  generalize hE1 : EX CC _ pf_spec_l17Same_l1 _ = E1 at hR
  have hl1 := all_loop hE1 a.clients (fun i x => decide (b.clients[i]? = some x)) (fun i s => s.t 6 = .pv (.int .i64 i) ∧ s.t 2 = .ptr 2 1 0 ∧ s.m.kb 2 = 1 ∧ s.m.b 2 = some [.pv (.int .i64 a.pg.pool), .pv (.int .i64 a.pg.no), .pv (.int .i64 a.seen), .pv (.int .i64 a.started), .pv (.int .i64 a.tail.epoch), .pv (.int .i64 a.tail.seq), .pv (.sl 0 ty_impl_Head (a.base.map (M.headV))), .pv (.sl 0 ty_impl_Last (a.clients.map (M.lastV))), .pv (.sl 0 ty_impl_Entry (a.log.map (M.entryV))), .pv (.int .i64 a.firm.epoch), .pv (.int .i64 a.firm.seq), .pv (.sl 0 ty_impl_Chunk (a.chunks.map (M.chunkV)))] ∧ s.t 3 = .ptr 3 1 0 ∧ s.m.kb 3 = 1 ∧ s.m.b 3 = some [.pv (.int .i64 b.pg.pool), .pv (.int .i64 b.pg.no), .pv (.int .i64 b.seen), .pv (.int .i64 b.started), .pv (.int .i64 b.tail.epoch), .pv (.int .i64 b.tail.seq), .pv (.sl 0 ty_impl_Head (b.base.map (M.headV))), .pv (.sl 0 ty_impl_Last (b.clients.map (M.lastV))), .pv (.sl 0 ty_impl_Entry (b.log.map (M.entryV))), .pv (.int .i64 b.firm.epoch), .pv (.int .i64 b.firm.seq), .pv (.sl 0 ty_impl_Chunk (b.chunks.map (M.chunkV)))]) (.exit 2) (by simp) (fun i e s => e = .ret ∧ s.t 4 = .pv (.bool false)) (by simp [u02, u03, u04, u05, u06, u07])
    (by
      rintro s ⟨k1, k2, k3, k4, k5, k6, k7⟩
      simp [pf_spec_l17Same_lb1, k1, k2, k3, k4, k5, k6, k7])
    (by
      rintro s i hi ⟨k1, k2, k3, k4, k5, k6, k7⟩
      have hi2 : i < b.clients.length := by omega
      have hle : a.clients.length ≤ 1048576 := by simp only [M.needPgState] at ha; omega
      generalize hx : a.clients[i] = x
      generalize hy : b.clients[i] = y
      obtain ⟨r, q, sq⟩ := eqk_Last x y
      simp only [M.lastV, PV.cells, List.map_cons, List.map_nil] at q
      cases r with
      | true =>
        obtain rfl : x = y := sq.1 rfl
        simp (disch := omega) [pf_spec_l17Same_lb1, k1, k2, k3, k4, k5, k6, k7, hi, hi2, idxN, l6, IntWalk.i64_in, M.lastV, hx, hy, q]
      | false =>
        have hq : ¬ y = x := fun h => by simpa using sq.2 h.symm
        simp (disch := omega) [pf_spec_l17Same_lb1, k1, k2, k3, k4, k5, k6, k7, hi, hi2, idxN, l6, IntWalk.i64_in, M.lastV, hx, hy, q, hq])
  obtain ⟨e', s1', rfl, hh1⟩ := hl1
  rcases hh1 with ⟨rfl, hf1, _, u12, u13, u14, u15, u16, u17⟩ | ⟨i, hf1, _, rfl, hr1⟩
  case inr => (simp [hr1] at hR; subst hR; exact .of rfl (nosame (Q := a.clients = b.clients) (fun h => by rw [h]) (nolist l6 (fun i x => by simp) hf1)))
  simp (disch := omega) [q0, h1, h2, q3, q4, l5, l6, l7, l8, u12, u13, u14, u15, u16, u17] at hR
  generalize hE2 : EX CC _ pf_spec_l17Same_l2 _ = E2 at hR
  have hl2 := all_loop hE2 a.log (fun i x => decide (b.log[i]? = some x)) (fun i s => s.t 7 = .pv (.int .i64 i) ∧ s.t 2 = .ptr 2 1 0 ∧ s.m.kb 2 = 1 ∧ s.m.b 2 = some [.pv (.int .i64 a.pg.pool), .pv (.int .i64 a.pg.no), .pv (.int .i64 a.seen), .pv (.int .i64 a.started), .pv (.int .i64 a.tail.epoch), .pv (.int .i64 a.tail.seq), .pv (.sl 0 ty_impl_Head (a.base.map (M.headV))), .pv (.sl 0 ty_impl_Last (a.clients.map (M.lastV))), .pv (.sl 0 ty_impl_Entry (a.log.map (M.entryV))), .pv (.int .i64 a.firm.epoch), .pv (.int .i64 a.firm.seq), .pv (.sl 0 ty_impl_Chunk (a.chunks.map (M.chunkV)))] ∧ s.t 3 = .ptr 3 1 0 ∧ s.m.kb 3 = 1 ∧ s.m.b 3 = some [.pv (.int .i64 b.pg.pool), .pv (.int .i64 b.pg.no), .pv (.int .i64 b.seen), .pv (.int .i64 b.started), .pv (.int .i64 b.tail.epoch), .pv (.int .i64 b.tail.seq), .pv (.sl 0 ty_impl_Head (b.base.map (M.headV))), .pv (.sl 0 ty_impl_Last (b.clients.map (M.lastV))), .pv (.sl 0 ty_impl_Entry (b.log.map (M.entryV))), .pv (.int .i64 b.firm.epoch), .pv (.int .i64 b.firm.seq), .pv (.sl 0 ty_impl_Chunk (b.chunks.map (M.chunkV)))]) (.exit 4) (by simp) (fun i e s => e = .ret ∧ s.t 4 = .pv (.bool false)) (by simp [u12, u13, u14, u15, u16, u17])
    (by
      rintro s ⟨k1, k2, k3, k4, k5, k6, k7⟩
      simp [pf_spec_l17Same_lb2, k1, k2, k3, k4, k5, k6, k7])
    (by
      rintro s i hi ⟨k1, k2, k3, k4, k5, k6, k7⟩
      have hi2 : i < b.log.length := by omega
      have hle : a.log.length ≤ 1048576 := by simp only [M.needPgState] at ha; omega
      generalize hx : a.log[i] = x
      generalize hy : b.log[i] = y
      obtain ⟨r, q, sq⟩ := eqk_Entry x y
      simp only [M.entryV, PV.cells, List.map_cons, List.map_nil] at q
      cases r with
      | true =>
        obtain rfl : x = y := sq.1 rfl
        simp (disch := omega) [pf_spec_l17Same_lb2, k1, k2, k3, k4, k5, k6, k7, hi, hi2, idxN, l7, IntWalk.i64_in, M.entryV, hx, hy, q]
      | false =>
        have hq : ¬ y = x := fun h => by simpa using sq.2 h.symm
        simp (disch := omega) [pf_spec_l17Same_lb2, k1, k2, k3, k4, k5, k6, k7, hi, hi2, idxN, l7, IntWalk.i64_in, M.entryV, hx, hy, q, hq])
  obtain ⟨e', s2', rfl, hh2⟩ := hl2
  rcases hh2 with ⟨rfl, hf2, _, u22, u23, u24, u25, u26, u27⟩ | ⟨i, hf2, _, rfl, hr2⟩
  case inr => (simp [hr2] at hR; subst hR; exact .of rfl (nosame (Q := a.log = b.log) (fun h => by rw [h]) (nolist l7 (fun i x => by simp) hf2)))
  simp (disch := omega) [q0, h1, h2, q3, q4, l5, l6, l7, l8, u22, u23, u24, u25, u26, u27] at hR
  generalize hE3 : EX CC _ pf_spec_l17Same_l3 _ = E3 at hR
  have hl3 := all_loop hE3 a.chunks (fun i x => decide (b.chunks[i]? = some x)) (fun i s => s.t 8 = .pv (.int .i64 i) ∧ s.t 2 = .ptr 2 1 0 ∧ s.m.kb 2 = 1 ∧ s.m.b 2 = some [.pv (.int .i64 a.pg.pool), .pv (.int .i64 a.pg.no), .pv (.int .i64 a.seen), .pv (.int .i64 a.started), .pv (.int .i64 a.tail.epoch), .pv (.int .i64 a.tail.seq), .pv (.sl 0 ty_impl_Head (a.base.map (M.headV))), .pv (.sl 0 ty_impl_Last (a.clients.map (M.lastV))), .pv (.sl 0 ty_impl_Entry (a.log.map (M.entryV))), .pv (.int .i64 a.firm.epoch), .pv (.int .i64 a.firm.seq), .pv (.sl 0 ty_impl_Chunk (a.chunks.map (M.chunkV)))] ∧ s.t 3 = .ptr 3 1 0 ∧ s.m.kb 3 = 1 ∧ s.m.b 3 = some [.pv (.int .i64 b.pg.pool), .pv (.int .i64 b.pg.no), .pv (.int .i64 b.seen), .pv (.int .i64 b.started), .pv (.int .i64 b.tail.epoch), .pv (.int .i64 b.tail.seq), .pv (.sl 0 ty_impl_Head (b.base.map (M.headV))), .pv (.sl 0 ty_impl_Last (b.clients.map (M.lastV))), .pv (.sl 0 ty_impl_Entry (b.log.map (M.entryV))), .pv (.int .i64 b.firm.epoch), .pv (.int .i64 b.firm.seq), .pv (.sl 0 ty_impl_Chunk (b.chunks.map (M.chunkV)))]) (.exit 6) (by simp) (fun i e s => e = .ret ∧ s.t 4 = .pv (.bool false)) (by simp [u22, u23, u24, u25, u26, u27])
    (by
      rintro s ⟨k1, k2, k3, k4, k5, k6, k7⟩
      simp [pf_spec_l17Same_lb3, k1, k2, k3, k4, k5, k6, k7])
    (by
      rintro s i hi ⟨k1, k2, k3, k4, k5, k6, k7⟩
      have hi2 : i < b.chunks.length := by omega
      have hle : a.chunks.length ≤ 1048576 := by simp only [M.needPgState] at ha; omega
      generalize hx : a.chunks[i] = x
      generalize hy : b.chunks[i] = y
      obtain ⟨r, q, sq⟩ := eqk_Chunk x y
      simp only [M.chunkV, PV.cells, List.map_cons, List.map_nil] at q
      cases r with
      | true =>
        obtain rfl : x = y := sq.1 rfl
        simp (disch := omega) [pf_spec_l17Same_lb3, k1, k2, k3, k4, k5, k6, k7, hi, hi2, idxN, l8, IntWalk.i64_in, M.chunkV, hx, hy, q]
      | false =>
        have hq : ¬ y = x := fun h => by simpa using sq.2 h.symm
        simp (disch := omega) [pf_spec_l17Same_lb3, k1, k2, k3, k4, k5, k6, k7, hi, hi2, idxN, l8, IntWalk.i64_in, M.chunkV, hx, hy, q, hq])
  obtain ⟨e', s3', rfl, hh3⟩ := hl3
  rcases hh3 with ⟨rfl, hf3, _, u32, u33, u34, u35, u36, u37⟩ | ⟨i, hf3, _, rfl, hr3⟩
  case inr => (simp [hr3] at hR; subst hR; exact .of rfl (nosame (Q := a.chunks = b.chunks) (fun h => by rw [h]) (nolist l8 (fun i x => by simp) hf3)))
  have hab : a = b := (M.ext_PgState (s0.1 rfl) h1 h2 (s3.1 rfl) ((list_same l5 fun i x => by simp).1 hf0) ((list_same l6 fun i x => by simp).1 hf1) ((list_same l7 fun i x => by simp).1 hf2) (s4.1 rfl) ((list_same l8 fun i x => by simp).1 hf3))
  simp (disch := omega) [q0, h1, h2, q3, q4, l5, l6, l7, l8, u32, u33, u34, u35, u36, u37] at hR
  subst hR
  exact .of rfl (by simp [hab])
theorem run_EqF_impl_PgState {xs ys : List M.PgState} (ha : xs.length + sumN M.needPgState xs ≤ 1048576) (hb : ys.length + sumN M.needPgState ys ≤ 1048576) : Says (RUN CC fn_EqF_impl_PgState [.sl 0 ty_impl_PgState (xs.map (M.pgStateV 0 true)), .sl 0 ty_impl_PgState (ys.map (M.pgStateV 0 true)), .clo fn_impl_sameState []]) (xs = ys) := by
  exact run_sEqF (n := 12) (F := fun a => (M.pgStateV 0 true a).cells) prog_EqF_impl_PgState modes_impl_sameState rfl (by omega) (by omega) (fun x => ⟨rfl, by simp [calmL, M.pgStateV]⟩) (fun x hx y hy => run_impl_sameState x y (by have := sumN_le M.needPgState hx; omega) (by have := sumN_le M.needPgState hy; omega))
theorem run_impl_sameStates {xs ys : List M.PgState} (ha : xs.length + sumN M.needPgState xs ≤ 1048576) (hb : ys.length + sumN M.needPgState ys ≤ 1048576) : Says (RUN CC fn_impl_sameStates [.sl 0 ty_impl_PgState (xs.map (M.pgStateV 0 true)), .sl 0 ty_impl_PgState (ys.map (M.pgStateV 0 true))]) (xs = ys) := by
  obtain ⟨r, q, s⟩ := run_EqF_impl_PgState ha hb
  exact .of (b := r) (by rw [RUN_eq, prog_impl_sameStates]; simp [pf_impl_sameStates, q]) s
theorem run_spec_l30SameStates {xs ys : List M.PgState} (ha : xs.length + sumN M.needPgState xs ≤ 1048576) (hb : ys.length + sumN M.needPgState ys ≤ 1048576) : Says (RUN CC fn_spec_l30SameStates [.sl 0 ty_impl_PgState (xs.map (M.pgStateV 0 true)), .sl 0 ty_impl_PgState (ys.map (M.pgStateV 0 true))]) (xs = ys) := by
  exact run_sameS (n := 12) (F := fun a => (M.pgStateV 0 true a).cells) prog_spec_l30SameStates modes_spec_l25SameState (by omega) (fun x => ⟨rfl, by simp [calmL, M.pgStateV]⟩) (fun x hx y hy => run_spec_l25SameState x y (by have := sumN_le M.needPgState hx; omega) (by have := sumN_le M.needPgState hy; omega))
end Go.Proofs.YtjbomlnpngnjfaaGreat.Pv
/- Structs compared, field by field, part 2. No condition. -/
namespace Go.Proofs.YtjbomlnpngnjfaaGreat.Pv
open Go
set_option maxRecDepth 10000
set_option linter.unusedSimpArgs false
theorem M.ext_Store {a b : M.Store} (h0 : a.live = b.live) (h1 : a.kept = b.kept) : a = b := by
  cases a; cases b; simp_all
set_option maxHeartbeats 4000000 in
theorem run_impl_SameStore (a b : M.Store) (ha : M.needStore a ≤ 1048576) (hb : M.needStore b ≤ 1048576) : Says (RUN CC fn_impl_SameStore [M.storeV 0 true a, M.storeV 0 true b]) (a = b) := by
  classical
  obtain ⟨r0, q0, s0⟩ := run_impl_sameStates (xs := a.live) (ys := b.live) (by simp only [M.needStore] at ha; omega) (by simp only [M.needStore] at hb; omega)
  cases r0
  case false => exact .of (b := false) (by rw [RUN_eq, prog_impl_SameStore]; simp (disch := omega) [pf_impl_SameStore, M.storeV, q0]) (nosame (Q := a.live = b.live) (fun h => by rw [h]) (fun h => by simpa using s0.2 h))
  obtain ⟨r1, q1, s1⟩ := run_impl_sameStates (xs := a.kept) (ys := b.kept) (by simp only [M.needStore] at ha; omega) (by simp only [M.needStore] at hb; omega)
  cases r1
  case false => exact .of (b := false) (by rw [RUN_eq, prog_impl_SameStore]; simp (disch := omega) [pf_impl_SameStore, M.storeV, q0, q1]) (nosame (Q := a.kept = b.kept) (fun h => by rw [h]) (fun h => by simpa using s1.2 h))
  have hab : a = b := (M.ext_Store (s0.1 rfl) (s1.1 rfl))
  exact .of (b := true) (by rw [RUN_eq, prog_impl_SameStore]; simp (disch := omega) [pf_impl_SameStore, M.storeV, q0, q1]) (by simp [hab])
theorem M.ext_Notice {a b : M.Notice} (h0 : a.from_ = b.from_) (h1 : a.state = b.state) : a = b := by
  cases a; cases b; simp_all
set_option maxHeartbeats 4000000 in
theorem run_impl_sameNotice (a b : M.Notice) (ha : M.needNotice a ≤ 1048576) (hb : M.needNotice b ≤ 1048576) : Says (RUN CC fn_impl_sameNotice [M.noticeV 0 true a, M.noticeV 0 true b]) (a = b) := by
  classical
  by_cases h0 : a.from_ = b.from_
  case neg => exact .of (b := false) (by rw [RUN_eq, prog_impl_sameNotice]; simp (disch := omega) [pf_impl_sameNotice, M.noticeV, h0]) (nosame (Q := a.from_ = b.from_) (fun h => by rw [h]) h0)
  obtain ⟨r1, q1, s1⟩ := run_impl_sameState a.state b.state (by simp only [M.needNotice] at ha; omega) (by simp only [M.needNotice] at hb; omega)
  simp only [M.pgStateV, M.tyChunk_t, M.tyChunk_f, M.tyEntry_t, M.tyEntry_f, M.tyHead_t, M.tyHead_f, M.tyLast_t, M.tyLast_f] at q1
  cases r1
  case false => exact .of (b := false) (by rw [RUN_eq, prog_impl_sameNotice]; simp (disch := omega) [pf_impl_sameNotice, M.noticeV, h0, q1]) (nosame (Q := a.state = b.state) (fun h => by rw [h]) (fun h => by simpa using s1.2 h))
  have hab : a = b := (M.ext_Notice h0 (s1.1 rfl))
  exact .of (b := true) (by rw [RUN_eq, prog_impl_sameNotice]; simp (disch := omega) [pf_impl_sameNotice, M.noticeV, h0, q1]) (by simp [hab])
theorem M.ext_Wait {a b : M.Wait} (h0 : a.req = b.req) (h1 : a.name = b.name) (h2 : a.ver = b.ver) (h3 : a.got = b.got) : a = b := by
  cases a; cases b; simp_all
theorem eqk_Req (a b : M.Req) : ∃ r, eqK [0, 0] ((M.reqV a).cells.map AV.pv) ((M.reqV b).cells.map AV.pv) = some r ∧ (r = true ↔ a = b) := by
  obtain ⟨x0, x1⟩ := a
  obtain ⟨y0, y1⟩ := b
  refine ⟨_, rfl, ?_⟩
  simp [bytes_eq, and_assoc]
set_option maxHeartbeats 4000000 in
theorem run_impl_sameWait (a b : M.Wait) (ha : M.needWait a ≤ 1048576) (hb : M.needWait b ≤ 1048576) : Says (RUN CC fn_impl_sameWait [M.waitV 0 true a, M.waitV 0 true b]) (a = b) := by
  classical
  obtain ⟨r0, q0, s0⟩ := eqk_Req a.req b.req
  simp only [M.reqV, PV.cells, List.map_cons, List.map_nil] at q0
  cases r0
  case false => exact .of (b := false) (by rw [RUN_eq, prog_impl_sameWait]; simp (disch := omega) [pf_impl_sameWait, M.waitV, q0]) (nosame (Q := a.req = b.req) (fun h => by rw [h]) (fun h => by simpa using s0.2 h))
  obtain ⟨r1, q1, s1⟩ : ∃ r, (a.name.toList == b.name.toList) = r ∧ (r = true ↔ a.name = b.name) := ⟨_, rfl, bytes_same _ _⟩
  cases r1
  case false => exact .of (b := false) (by rw [RUN_eq, prog_impl_sameWait]; simp (disch := omega) [pf_impl_sameWait, M.waitV, q0, q1]) (nosame (Q := a.name = b.name) (fun h => by rw [h]) (fun h => by simpa using s1.2 h))
  obtain ⟨r2, q2, s2⟩ := eqk_Ver a.ver b.ver
  simp only [M.verV, PV.cells, List.map_cons, List.map_nil] at q2
  cases r2
  case false => exact .of (b := false) (by rw [RUN_eq, prog_impl_sameWait]; simp (disch := omega) [pf_impl_sameWait, M.waitV, q0, q1, q2]) (nosame (Q := a.ver = b.ver) (fun h => by rw [h]) (fun h => by simpa using s2.2 h))
  obtain ⟨r3, q3, s3⟩ := run_Eq_impl_Got (xs := a.got) (ys := b.got) (by simp only [M.needWait] at ha; omega) (by simp only [M.needWait] at hb; omega)
  cases r3
  case false => exact .of (b := false) (by rw [RUN_eq, prog_impl_sameWait]; simp (disch := omega) [pf_impl_sameWait, M.waitV, q0, q1, q2, q3]) (nosame (Q := a.got = b.got) (fun h => by rw [h]) (fun h => by simpa using s3.2 h))
  have hab : a = b := (M.ext_Wait (s0.1 rfl) (s1.1 rfl) (s2.1 rfl) (s3.1 rfl))
  exact .of (b := true) (by rw [RUN_eq, prog_impl_sameWait]; simp (disch := omega) [pf_impl_sameWait, M.waitV, q0, q1, q2, q3]) (by simp [hab])
set_option maxHeartbeats 4000000 in
theorem run_spec_l25SameWait (a b : M.Wait) (ha : M.needWait a ≤ 1048576) (hb : M.needWait b ≤ 1048576) : Says (RUN CC fn_spec_l25SameWait [M.waitV 0 true a, M.waitV 0 true b]) (a = b) := by
  classical
  obtain ⟨r0, q0, s0⟩ := eqk_Req a.req b.req
  simp only [M.reqV, PV.cells, List.map_cons, List.map_nil] at q0
  cases r0
  case false => exact .of (b := false) (by rw [RUN_eq, prog_spec_l25SameWait]; simp (disch := omega) [pf_spec_l25SameWait, M.waitV, q0]) (nosame (Q := a.req = b.req) (fun h => by rw [h]) (fun h => by simpa using s0.2 h))
  obtain ⟨r1, q1, s1⟩ : ∃ r, (a.name.toList == b.name.toList) = r ∧ (r = true ↔ a.name = b.name) := ⟨_, rfl, bytes_same _ _⟩
  cases r1
  case false => exact .of (b := false) (by rw [RUN_eq, prog_spec_l25SameWait]; simp (disch := omega) [pf_spec_l25SameWait, M.waitV, q0, q1]) (nosame (Q := a.name = b.name) (fun h => by rw [h]) (fun h => by simpa using s1.2 h))
  obtain ⟨r2, q2, s2⟩ := eqk_Ver a.ver b.ver
  simp only [M.verV, PV.cells, List.map_cons, List.map_nil] at q2
  cases r2
  case false => exact .of (b := false) (by rw [RUN_eq, prog_spec_l25SameWait]; simp (disch := omega) [pf_spec_l25SameWait, M.waitV, q0, q1, q2]) (nosame (Q := a.ver = b.ver) (fun h => by rw [h]) (fun h => by simpa using s2.2 h))
  by_cases l3 : a.got.length = b.got.length
  case neg =>
    have l3' : ¬ (a.got.length : Int) = b.got.length := by omega
    exact .of (b := false) (by rw [RUN_eq, prog_spec_l25SameWait]; simp (disch := omega) [pf_spec_l25SameWait, M.waitV, q0, q1, q2, l3, l3']) (nosame (Q := a.got.length = b.got.length) (fun h => by rw [h]) (fun h => l3 (by rw [h])))
  generalize hR : RUN CC fn_spec_l25SameWait [M.waitV 0 true a, M.waitV 0 true b] = R
  rw [RUN_eq, prog_spec_l25SameWait] at hR
  simp (disch := omega) [pf_spec_l25SameWait, M.waitV, q0, q1, q2, l3] at hR
  generalize hE0 : EX CC _ pf_spec_l25SameWait_l0 _ = E0 at hR
  have hl0 := all_loop hE0 a.got (fun i x => decide (b.got[i]? = some x)) (fun i s => s.t 5 = .pv (.int .i64 i) ∧ s.t 2 = .ptr 2 1 0 ∧ s.m.kb 2 = 1 ∧ s.m.b 2 = some [.pv (.int .i64 a.req.client), .pv (.int .i64 a.req.no), .pv (.str a.name), .pv (.int .i64 a.ver.epoch), .pv (.int .i64 a.ver.seq), .pv (.sl 0 ty_impl_Got (a.got.map (M.gotV)))] ∧ s.t 3 = .ptr 3 1 0 ∧ s.m.kb 3 = 1 ∧ s.m.b 3 = some [.pv (.int .i64 b.req.client), .pv (.int .i64 b.req.no), .pv (.str b.name), .pv (.int .i64 b.ver.epoch), .pv (.int .i64 b.ver.seq), .pv (.sl 0 ty_impl_Got (b.got.map (M.gotV)))]) (.exit 0) (by simp) (fun i e s => e = .ret ∧ s.t 4 = .pv (.bool false)) (by simp [M.waitV])
    (by
      rintro s ⟨k1, k2, k3, k4, k5, k6, k7⟩
      simp [pf_spec_l25SameWait_lb0, k1, k2, k3, k4, k5, k6, k7])
    (by
      rintro s i hi ⟨k1, k2, k3, k4, k5, k6, k7⟩
      have hi2 : i < b.got.length := by omega
      have hle : a.got.length ≤ 1048576 := by simp only [M.needWait] at ha; omega
      generalize hx : a.got[i] = x
      generalize hy : b.got[i] = y
      obtain ⟨r, q, sq⟩ := eqk_Got x y
      simp only [M.gotV, PV.cells, List.map_cons, List.map_nil] at q
      cases r with
      | true =>
        obtain rfl : x = y := sq.1 rfl
        simp (disch := omega) [pf_spec_l25SameWait_lb0, k1, k2, k3, k4, k5, k6, k7, hi, hi2, idxN, l3, IntWalk.i64_in, M.gotV, hx, hy, q]
      | false =>
        have hq : ¬ y = x := fun h => by simpa using sq.2 h.symm
        simp (disch := omega) [pf_spec_l25SameWait_lb0, k1, k2, k3, k4, k5, k6, k7, hi, hi2, idxN, l3, IntWalk.i64_in, M.gotV, hx, hy, q, hq])
  obtain ⟨e', s0', rfl, hh0⟩ := hl0
  rcases hh0 with ⟨rfl, hf0, _, u02, u03, u04, u05, u06, u07⟩ | ⟨i, hf0, _, rfl, hr0⟩
  case inr => (simp [hr0] at hR; subst hR; exact .of rfl (nosame (Q := a.got = b.got) (fun h => by rw [h]) (nolist l3 (fun i x => by simp) hf0)))
  have hab : a = b := (M.ext_Wait (s0.1 rfl) (s1.1 rfl) (s2.1 rfl) ((list_same l3 fun i x => by simp).1 hf0))
  simp (disch := omega) [q0, q1, q2, l3, u02, u03, u04, u05, u06, u07] at hR
  subst hR
  exact .of rfl (by simp [hab])
theorem run_EqF_impl_Wait {xs ys : List M.Wait} (ha : xs.length + sumN M.needWait xs ≤ 1048576) (hb : ys.length + sumN M.needWait ys ≤ 1048576) : Says (RUN CC fn_EqF_impl_Wait [.sl 0 ty_impl_Wait (xs.map (M.waitV 0 true)), .sl 0 ty_impl_Wait (ys.map (M.waitV 0 true)), .clo fn_impl_sameWait []]) (xs = ys) := by
  exact run_sEqF (n := 6) (F := fun a => (M.waitV 0 true a).cells) prog_EqF_impl_Wait modes_impl_sameWait rfl (by omega) (by omega) (fun x => ⟨rfl, by simp [calmL, M.waitV]⟩) (fun x hx y hy => run_impl_sameWait x y (by have := sumN_le M.needWait hx; omega) (by have := sumN_le M.needWait hy; omega))
theorem run_EqF_impl_Interval {xs ys : List M.Interval} (ha : xs.length + sumN M.needInterval xs ≤ 1048576) (hb : ys.length + sumN M.needInterval ys ≤ 1048576) : Says (RUN CC fn_EqF_impl_Interval [.sl 0 ty_impl_Interval (xs.map (M.intervalV 0 true)), .sl 0 ty_impl_Interval (ys.map (M.intervalV 0 true)), .clo fn_impl_sameInterval []]) (xs = ys) := by
  exact run_sEqF (n := 4) (F := fun a => (M.intervalV 0 true a).cells) prog_EqF_impl_Interval modes_impl_sameInterval rfl (by omega) (by omega) (fun x => ⟨rfl, by simp [calmL, M.intervalV]⟩) (fun x hx y hy => run_impl_sameInterval x y (by have := sumN_le M.needInterval hx; omega) (by have := sumN_le M.needInterval hy; omega))
theorem run_EqF_impl_Notice {xs ys : List M.Notice} (ha : xs.length + sumN M.needNotice xs ≤ 1048576) (hb : ys.length + sumN M.needNotice ys ≤ 1048576) : Says (RUN CC fn_EqF_impl_Notice [.sl 0 ty_impl_Notice (xs.map (M.noticeV 0 true)), .sl 0 ty_impl_Notice (ys.map (M.noticeV 0 true)), .clo fn_impl_sameNotice []]) (xs = ys) := by
  exact run_sEqF (n := 13) (F := fun a => (M.noticeV 0 true a).cells) prog_EqF_impl_Notice modes_impl_sameNotice rfl (by omega) (by omega) (fun x => ⟨rfl, by simp [calmL, M.noticeV]⟩) (fun x hx y hy => run_impl_sameNotice x y (by have := sumN_le M.needNotice hx; omega) (by have := sumN_le M.needNotice hy; omega))
set_option maxHeartbeats 4000000 in
theorem run_spec_l27SameIvs {xs ys : List M.Interval} (ha : xs.length + sumN M.needInterval xs ≤ 1048576) (hb : ys.length + sumN M.needInterval ys ≤ 1048576) : Says (RUN CC fn_spec_l27SameIvs [.sl 0 ty_impl_Interval (xs.map (M.intervalV 0 true)), .sl 0 ty_impl_Interval (ys.map (M.intervalV 0 true))]) (xs = ys) := by
  classical
  rw [RUN_eq, prog_spec_l27SameIvs]
  by_cases hl : xs.length = ys.length
  case neg =>
    have hn : xs ≠ ys := fun h => hl (by rw [h])
    have hl' : ¬ (xs.length : Int) = ys.length := by omega
    exact .of (b := false) (by simp [pf_spec_l27SameIvs, hl', hl]) (by simp [hn])
  refine .of (b := allB (fun i x => decide (ys[i]? = some x)) xs) ?_ (list_same hl fun i x => by simp)
  simp (disch := omega) [pf_spec_l27SameIvs, hl]
  generalize hE : EX CC _ pf_spec_l27SameIvs_l0 _ = E
  obtain ⟨e', s', rfl, h⟩ := all_loop hE xs (fun i x => decide (ys[i]? = some x)) (fun i s => s.t 0 = .pv (.sl 0 ty_impl_Interval (xs.map (M.intervalV 0 true))) ∧ s.t 1 = .pv (.sl 0 ty_impl_Interval (ys.map (M.intervalV 0 true))) ∧ s.t 5 = .pv (.int .i64 i)) (.exit 0) (by simp) (fun i e s => e = .ret ∧ s.t 4 = .pv (.bool false)) (by simp)
    (by
      rintro s ⟨h0, h1, h5⟩
      simp [pf_spec_l27SameIvs_lb0, h0, h1, h5])
    (by
      rintro s i hi ⟨h0, h1, h5⟩
      have hi2 : i < ys.length := by omega
      have na := sumN_le M.needInterval (List.getElem_mem hi)
      have nb := sumN_le M.needInterval (List.getElem_mem hi2)
      generalize hx : xs[i] = x at na ⊢
      generalize hy : ys[i] = y at nb
      by_cases c0 : x.first = y.first
      case neg =>
        have hq : ¬ y = x := fun h => c0 (by rw [h])
        simp (disch := omega) [pf_spec_l27SameIvs_lb0, h0, h1, h5, hi, hi2, hx, hy, idxN, M.intervalV, hl, IntWalk.i64_in, c0, hq]
      by_cases c1 : x.last = y.last
      case neg =>
        have hq : ¬ y = x := fun h => c1 (by rw [h])
        simp (disch := omega) [pf_spec_l27SameIvs_lb0, h0, h1, h5, hi, hi2, hx, hy, idxN, M.intervalV, hl, IntWalk.i64_in, c0, c1, hq]
      obtain ⟨r2, q2, s2⟩ : ∃ r, (x.may == y.may) = r ∧ (r = true ↔ x.may = y.may) := ⟨_, rfl, by simp⟩
      cases r2
      case false =>
        have hq : ¬ y = x := fun h => absurd (s2.2 (by rw [h])) (by simp)
        simp (disch := omega) [pf_spec_l27SameIvs_lb0, h0, h1, h5, hi, hi2, hx, hy, idxN, M.intervalV, hl, IntWalk.i64_in, c0, c1, q2, hq]
      obtain ⟨r3, q3, s3⟩ := run_spec_l00Same (xs := x.acting) (ys := y.acting) (by simp only [M.needInterval] at na; omega) (by simp only [M.needInterval] at nb; omega)
      cases r3
      case false =>
        have hq : ¬ y = x := fun h => absurd (s3.2 (by rw [h])) (by simp)
        simp (disch := omega) [pf_spec_l27SameIvs_lb0, h0, h1, h5, hi, hi2, hx, hy, idxN, M.intervalV, hl, IntWalk.i64_in, c0, c1, q2, q3, hq]
      have hq : x = y := M.ext_Interval c0 c1 (s3.1 rfl) (s2.1 rfl)
      subst hq
      simp (disch := omega) [pf_spec_l27SameIvs_lb0, h0, h1, h5, hi, hi2, hx, hy, idxN, M.intervalV, hl, IntWalk.i64_in, q2, q3])
  rcases h with ⟨rfl, hf, hK⟩ | ⟨i, hf, _, rfl, h4⟩
  · simp [hf]
  · simp [hf, h4]
set_option maxHeartbeats 4000000 in
theorem run_spec_l27SameNotices {xs ys : List M.Notice} (ha : xs.length + sumN M.needNotice xs ≤ 1048576) (hb : ys.length + sumN M.needNotice ys ≤ 1048576) : Says (RUN CC fn_spec_l27SameNotices [.sl 0 ty_impl_Notice (xs.map (M.noticeV 0 true)), .sl 0 ty_impl_Notice (ys.map (M.noticeV 0 true))]) (xs = ys) := by
  classical
  rw [RUN_eq, prog_spec_l27SameNotices]
  by_cases hl : xs.length = ys.length
  case neg =>
    have hn : xs ≠ ys := fun h => hl (by rw [h])
    have hl' : ¬ (xs.length : Int) = ys.length := by omega
    exact .of (b := false) (by simp [pf_spec_l27SameNotices, hl', hl]) (by simp [hn])
  refine .of (b := allB (fun i x => decide (ys[i]? = some x)) xs) ?_ (list_same hl fun i x => by simp)
  simp (disch := omega) [pf_spec_l27SameNotices, hl]
  generalize hE : EX CC _ pf_spec_l27SameNotices_l0 _ = E
  obtain ⟨e', s', rfl, h⟩ := all_loop hE xs (fun i x => decide (ys[i]? = some x)) (fun i s => s.t 0 = .pv (.sl 0 ty_impl_Notice (xs.map (M.noticeV 0 true))) ∧ s.t 1 = .pv (.sl 0 ty_impl_Notice (ys.map (M.noticeV 0 true))) ∧ s.t 5 = .pv (.int .i64 i)) (.exit 0) (by simp) (fun i e s => e = .ret ∧ s.t 4 = .pv (.bool false)) (by simp)
    (by
      rintro s ⟨h0, h1, h5⟩
      simp [pf_spec_l27SameNotices_lb0, h0, h1, h5])
    (by
      rintro s i hi ⟨h0, h1, h5⟩
      have hi2 : i < ys.length := by omega
      have na := sumN_le M.needNotice (List.getElem_mem hi)
      have nb := sumN_le M.needNotice (List.getElem_mem hi2)
      generalize hx : xs[i] = x at na ⊢
      generalize hy : ys[i] = y at nb
      by_cases c0 : x.from_ = y.from_
      case neg =>
        have hq : ¬ y = x := fun h => c0 (by rw [h])
        simp (disch := omega) [pf_spec_l27SameNotices_lb0, h0, h1, h5, hi, hi2, hx, hy, idxN, M.noticeV, hl, IntWalk.i64_in, c0, hq]
      obtain ⟨r1, q1, s1⟩ := run_spec_l25SameState x.state y.state (by simp only [M.needNotice] at na; omega) (by simp only [M.needNotice] at nb; omega)
      simp only [M.pgStateV, M.tyChunk_t, M.tyChunk_f, M.tyEntry_t, M.tyEntry_f, M.tyHead_t, M.tyHead_f, M.tyLast_t, M.tyLast_f] at q1
      cases r1
      case false =>
        have hq : ¬ y = x := fun h => absurd (s1.2 (by rw [h])) (by simp)
        simp (disch := omega) [pf_spec_l27SameNotices_lb0, h0, h1, h5, hi, hi2, hx, hy, idxN, M.noticeV, hl, IntWalk.i64_in, c0, q1, hq]
      have hq : x = y := M.ext_Notice c0 (s1.1 rfl)
      subst hq
      simp (disch := omega) [pf_spec_l27SameNotices_lb0, h0, h1, h5, hi, hi2, hx, hy, idxN, M.noticeV, hl, IntWalk.i64_in, q1])
  rcases h with ⟨rfl, hf, hK⟩ | ⟨i, hf, _, rfl, h4⟩
  · simp [hf]
  · simp [hf, h4]
end Go.Proofs.YtjbomlnpngnjfaaGreat.Pv
/- Structs compared, field by field, part 3. No condition. -/
namespace Go.Proofs.YtjbomlnpngnjfaaGreat.Pv
open Go
set_option maxRecDepth 10000
set_option linter.unusedSimpArgs false
theorem M.ext_Line {a b : M.Line} (h0 : a.epoch = b.epoch) (h1 : a.code = b.code) (h2 : a.acting = b.acting) (h3 : a.state = b.state) (h4 : a.way = b.way) (h5 : a.acks = b.acks) (h6 : a.waits = b.waits) : a = b := by
  cases a; cases b; simp_all
theorem eqk_Code (a b : M.Code) : ∃ r, eqK [0, 0] ((M.codeV a).cells.map AV.pv) ((M.codeV b).cells.map AV.pv) = some r ∧ (r = true ↔ a = b) := by
  obtain ⟨x0, x1⟩ := a
  obtain ⟨y0, y1⟩ := b
  refine ⟨_, rfl, ?_⟩
  simp [bytes_eq, and_assoc]
set_option maxHeartbeats 4000000 in
theorem run_impl_SameLine (a b : M.Line) (ha : M.needLine a ≤ 1048576) (hb : M.needLine b ≤ 1048576) : Says (RUN CC fn_impl_SameLine [M.lineV 0 true a, M.lineV 0 true b]) (a = b) := by
  classical
  by_cases h0 : a.epoch = b.epoch
  case neg => exact .of (b := false) (by rw [RUN_eq, prog_impl_SameLine]; simp (disch := omega) [pf_impl_SameLine, M.lineV, h0]) (nosame (Q := a.epoch = b.epoch) (fun h => by rw [h]) h0)
  obtain ⟨r1, q1, s1⟩ := eqk_Code a.code b.code
  simp only [M.codeV, PV.cells, List.map_cons, List.map_nil] at q1
  cases r1
  case false => exact .of (b := false) (by rw [RUN_eq, prog_impl_SameLine]; simp (disch := omega) [pf_impl_SameLine, M.lineV, h0, q1]) (nosame (Q := a.code = b.code) (fun h => by rw [h]) (fun h => by simpa using s1.2 h))
  obtain ⟨r2, q2, s2⟩ := run_Eq_int64 (xs := a.acting) (ys := b.acting) (by simp only [M.needLine] at ha; omega) (by simp only [M.needLine] at hb; omega)
  cases r2
  case false => exact .of (b := false) (by rw [RUN_eq, prog_impl_SameLine]; simp (disch := omega) [pf_impl_SameLine, M.lineV, h0, q1, q2]) (nosame (Q := a.acting = b.acting) (fun h => by rw [h]) (fun h => by simpa using s2.2 h))
  obtain ⟨r3, q3, s3⟩ := run_impl_sameState a.state b.state (by simp only [M.needLine] at ha; omega) (by simp only [M.needLine] at hb; omega)
  simp only [M.pgStateV, M.tyChunk_t, M.tyChunk_f, M.tyEntry_t, M.tyEntry_f, M.tyHead_t, M.tyHead_f, M.tyLast_t, M.tyLast_f] at q3
  cases r3
  case false => exact .of (b := false) (by rw [RUN_eq, prog_impl_SameLine]; simp (disch := omega) [pf_impl_SameLine, M.lineV, h0, q1, q2, q3]) (nosame (Q := a.state = b.state) (fun h => by rw [h]) (fun h => by simpa using s3.2 h))
  obtain ⟨r4, q4, s4⟩ := run_Eq_impl_Way (xs := a.way) (ys := b.way) (by simp only [M.needLine] at ha; omega) (by simp only [M.needLine] at hb; omega)
  cases r4
  case false => exact .of (b := false) (by rw [RUN_eq, prog_impl_SameLine]; simp (disch := omega) [pf_impl_SameLine, M.lineV, h0, q1, q2, q3, q4]) (nosame (Q := a.way = b.way) (fun h => by rw [h]) (fun h => by simpa using s4.2 h))
  obtain ⟨r5, q5, s5⟩ := run_Eq_impl_Ack (xs := a.acks) (ys := b.acks) (by simp only [M.needLine] at ha; omega) (by simp only [M.needLine] at hb; omega)
  cases r5
  case false => exact .of (b := false) (by rw [RUN_eq, prog_impl_SameLine]; simp (disch := omega) [pf_impl_SameLine, M.lineV, h0, q1, q2, q3, q4, q5]) (nosame (Q := a.acks = b.acks) (fun h => by rw [h]) (fun h => by simpa using s5.2 h))
  obtain ⟨r6, q6, s6⟩ := run_EqF_impl_Wait (xs := a.waits) (ys := b.waits) (by simp only [M.needLine] at ha; omega) (by simp only [M.needLine] at hb; omega)
  cases r6
  case false => exact .of (b := false) (by rw [RUN_eq, prog_impl_SameLine]; simp (disch := omega) [pf_impl_SameLine, M.lineV, h0, q1, q2, q3, q4, q5, q6]) (nosame (Q := a.waits = b.waits) (fun h => by rw [h]) (fun h => by simpa using s6.2 h))
  have hab : a = b := (M.ext_Line h0 (s1.1 rfl) (s2.1 rfl) (s3.1 rfl) (s4.1 rfl) (s5.1 rfl) (s6.1 rfl))
  exact .of (b := true) (by rw [RUN_eq, prog_impl_SameLine]; simp (disch := omega) [pf_impl_SameLine, M.lineV, h0, q1, q2, q3, q4, q5, q6]) (by simp [hab])
set_option maxHeartbeats 4000000 in
theorem run_spec_SameLine (a b : M.Line) (ha : M.needLine a ≤ 1048576) (hb : M.needLine b ≤ 1048576) : Says (RUN CC fn_spec_SameLine [M.lineV 0 true a, M.lineV 0 true b]) (a = b) := by
  classical
  by_cases h0 : a.epoch = b.epoch
  case neg => exact .of (b := false) (by rw [RUN_eq, prog_spec_SameLine]; simp (disch := omega) [pf_spec_SameLine, M.lineV, h0]) (nosame (Q := a.epoch = b.epoch) (fun h => by rw [h]) h0)
  obtain ⟨r1, q1, s1⟩ := eqk_Code a.code b.code
  simp only [M.codeV, PV.cells, List.map_cons, List.map_nil] at q1
  cases r1
  case false => exact .of (b := false) (by rw [RUN_eq, prog_spec_SameLine]; simp (disch := omega) [pf_spec_SameLine, M.lineV, h0, q1]) (nosame (Q := a.code = b.code) (fun h => by rw [h]) (fun h => by simpa using s1.2 h))
  obtain ⟨r2, q2, s2⟩ := run_spec_l00Same (xs := a.acting) (ys := b.acting) (by simp only [M.needLine] at ha; omega) (by simp only [M.needLine] at hb; omega)
  cases r2
  case false => exact .of (b := false) (by rw [RUN_eq, prog_spec_SameLine]; simp (disch := omega) [pf_spec_SameLine, M.lineV, h0, q1, q2]) (nosame (Q := a.acting = b.acting) (fun h => by rw [h]) (fun h => by simpa using s2.2 h))
  obtain ⟨r3, q3, s3⟩ := run_spec_l25SameState a.state b.state (by simp only [M.needLine] at ha; omega) (by simp only [M.needLine] at hb; omega)
  simp only [M.pgStateV, M.tyChunk_t, M.tyChunk_f, M.tyEntry_t, M.tyEntry_f, M.tyHead_t, M.tyHead_f, M.tyLast_t, M.tyLast_f] at q3
  cases r3
  case false => exact .of (b := false) (by rw [RUN_eq, prog_spec_SameLine]; simp (disch := omega) [pf_spec_SameLine, M.lineV, h0, q1, q2, q3]) (nosame (Q := a.state = b.state) (fun h => by rw [h]) (fun h => by simpa using s3.2 h))
  by_cases l4 : a.way.length = b.way.length
  case neg =>
    have l4' : ¬ (a.way.length : Int) = b.way.length := by omega
    exact .of (b := false) (by rw [RUN_eq, prog_spec_SameLine]; simp (disch := omega) [pf_spec_SameLine, M.lineV, h0, q1, q2, q3, l4, l4']) (nosame (Q := a.way.length = b.way.length) (fun h => by rw [h]) (fun h => l4 (by rw [h])))
  by_cases l5 : a.acks.length = b.acks.length
  case neg =>
    have l5' : ¬ (a.acks.length : Int) = b.acks.length := by omega
    exact .of (b := false) (by rw [RUN_eq, prog_spec_SameLine]; simp (disch := omega) [pf_spec_SameLine, M.lineV, h0, q1, q2, q3, l4, l5, l5']) (nosame (Q := a.acks.length = b.acks.length) (fun h => by rw [h]) (fun h => l5 (by rw [h])))
  by_cases l6 : a.waits.length = b.waits.length
  case neg =>
    have l6' : ¬ (a.waits.length : Int) = b.waits.length := by omega
    exact .of (b := false) (by rw [RUN_eq, prog_spec_SameLine]; simp (disch := omega) [pf_spec_SameLine, M.lineV, h0, q1, q2, q3, l4, l5, l6, l6']) (nosame (Q := a.waits.length = b.waits.length) (fun h => by rw [h]) (fun h => l6 (by rw [h])))
  generalize hR : RUN CC fn_spec_SameLine [M.lineV 0 true a, M.lineV 0 true b] = R
  rw [RUN_eq, prog_spec_SameLine] at hR
  simp (disch := omega) [pf_spec_SameLine, M.lineV, h0, q1, q2, q3, l4, l5, l6] at hR
  generalize hE0 : EX CC _ pf_spec_SameLine_l0 _ = E0 at hR
  have hl0 := all_loop hE0 a.way (fun i x => decide (b.way[i]? = some x)) (fun i s => s.t 5 = .pv (.int .i64 i) ∧ s.t 2 = .ptr 2 1 0 ∧ s.m.kb 2 = 1 ∧ s.m.b 2 = some [.pv (.int .i64 a.epoch), .pv (.int .i64 a.code.k), .pv (.int .i64 a.code.m), .pv (.sl 0 ty_int64 (a.acting.map (PV.int .i64))), .pv (.int .i64 a.state.pg.pool), .pv (.int .i64 a.state.pg.no), .pv (.int .i64 a.state.seen), .pv (.int .i64 a.state.started), .pv (.int .i64 a.state.tail.epoch), .pv (.int .i64 a.state.tail.seq), .pv (.sl 0 ty_impl_Head (a.state.base.map (M.headV))), .pv (.sl 0 ty_impl_Last (a.state.clients.map (M.lastV))), .pv (.sl 0 ty_impl_Entry (a.state.log.map (M.entryV))), .pv (.int .i64 a.state.firm.epoch), .pv (.int .i64 a.state.firm.seq), .pv (.sl 0 ty_impl_Chunk (a.state.chunks.map (M.chunkV))), .pv (.sl 0 ty_impl_Way (a.way.map (M.wayV))), .pv (.sl 0 ty_impl_Ack (a.acks.map (M.ackV))), .pv (.sl 0 ty_impl_Wait (a.waits.map (M.waitV 0 true)))] ∧ s.t 3 = .ptr 3 1 0 ∧ s.m.kb 3 = 1 ∧ s.m.b 3 = some [.pv (.int .i64 b.epoch), .pv (.int .i64 b.code.k), .pv (.int .i64 b.code.m), .pv (.sl 0 ty_int64 (b.acting.map (PV.int .i64))), .pv (.int .i64 b.state.pg.pool), .pv (.int .i64 b.state.pg.no), .pv (.int .i64 b.state.seen), .pv (.int .i64 b.state.started), .pv (.int .i64 b.state.tail.epoch), .pv (.int .i64 b.state.tail.seq), .pv (.sl 0 ty_impl_Head (b.state.base.map (M.headV))), .pv (.sl 0 ty_impl_Last (b.state.clients.map (M.lastV))), .pv (.sl 0 ty_impl_Entry (b.state.log.map (M.entryV))), .pv (.int .i64 b.state.firm.epoch), .pv (.int .i64 b.state.firm.seq), .pv (.sl 0 ty_impl_Chunk (b.state.chunks.map (M.chunkV))), .pv (.sl 0 ty_impl_Way (b.way.map (M.wayV))), .pv (.sl 0 ty_impl_Ack (b.acks.map (M.ackV))), .pv (.sl 0 ty_impl_Wait (b.waits.map (M.waitV 0 true)))]) (.exit 0) (by simp) (fun i e s => e = .ret ∧ s.t 4 = .pv (.bool false)) (by simp [M.lineV, h0])
    (by
      rintro s ⟨k1, k2, k3, k4, k5, k6, k7⟩
      simp [pf_spec_SameLine_lb0, k1, k2, k3, k4, k5, k6, k7])
    (by
      rintro s i hi ⟨k1, k2, k3, k4, k5, k6, k7⟩
      have hi2 : i < b.way.length := by omega
      have hle : a.way.length ≤ 1048576 := by simp only [M.needLine] at ha; omega
      generalize hx : a.way[i] = x
      generalize hy : b.way[i] = y
      obtain ⟨r, q, sq⟩ := eqk_Way x y
      simp only [M.wayV, PV.cells, List.map_cons, List.map_nil] at q
      cases r with
      | true =>
        obtain rfl : x = y := sq.1 rfl
        simp (disch := omega) [pf_spec_SameLine_lb0, k1, k2, k3, k4, k5, k6, k7, hi, hi2, idxN, l4, IntWalk.i64_in, M.wayV, hx, hy, q]
      | false =>
        have hq : ¬ y = x := fun h => by simpa using sq.2 h.symm
        simp (disch := omega) [pf_spec_SameLine_lb0, k1, k2, k3, k4, k5, k6, k7, hi, hi2, idxN, l4, IntWalk.i64_in, M.wayV, hx, hy, q, hq])
  obtain ⟨e', s0', rfl, hh0⟩ := hl0
  rcases hh0 with ⟨rfl, hf0, _, u02, u03, u04, u05, u06, u07⟩ | ⟨i, hf0, _, rfl, hr0⟩
  case inr => (simp [hr0] at hR; subst hR; exact .of rfl (nosame (Q := a.way = b.way) (fun h => by rw [h]) (nolist l4 (fun i x => by simp) hf0)))
  simp (disch := omega) [h0, q1, q2, q3, l4, l5, l6, u02, u03, u04, u05, u06, u07] at hR
  generalize hE1 : EX CC _ pf_spec_SameLine_l1 _ = E1 at hR
  have hl1 := all_loop hE1 a.acks (fun i x => decide (b.acks[i]? = some x)) (fun i s => s.t 6 = .pv (.int .i64 i) ∧ s.t 2 = .ptr 2 1 0 ∧ s.m.kb 2 = 1 ∧ s.m.b 2 = some [.pv (.int .i64 a.epoch), .pv (.int .i64 a.code.k), .pv (.int .i64 a.code.m), .pv (.sl 0 ty_int64 (a.acting.map (PV.int .i64))), .pv (.int .i64 a.state.pg.pool), .pv (.int .i64 a.state.pg.no), .pv (.int .i64 a.state.seen), .pv (.int .i64 a.state.started), .pv (.int .i64 a.state.tail.epoch), .pv (.int .i64 a.state.tail.seq), .pv (.sl 0 ty_impl_Head (a.state.base.map (M.headV))), .pv (.sl 0 ty_impl_Last (a.state.clients.map (M.lastV))), .pv (.sl 0 ty_impl_Entry (a.state.log.map (M.entryV))), .pv (.int .i64 a.state.firm.epoch), .pv (.int .i64 a.state.firm.seq), .pv (.sl 0 ty_impl_Chunk (a.state.chunks.map (M.chunkV))), .pv (.sl 0 ty_impl_Way (a.way.map (M.wayV))), .pv (.sl 0 ty_impl_Ack (a.acks.map (M.ackV))), .pv (.sl 0 ty_impl_Wait (a.waits.map (M.waitV 0 true)))] ∧ s.t 3 = .ptr 3 1 0 ∧ s.m.kb 3 = 1 ∧ s.m.b 3 = some [.pv (.int .i64 b.epoch), .pv (.int .i64 b.code.k), .pv (.int .i64 b.code.m), .pv (.sl 0 ty_int64 (b.acting.map (PV.int .i64))), .pv (.int .i64 b.state.pg.pool), .pv (.int .i64 b.state.pg.no), .pv (.int .i64 b.state.seen), .pv (.int .i64 b.state.started), .pv (.int .i64 b.state.tail.epoch), .pv (.int .i64 b.state.tail.seq), .pv (.sl 0 ty_impl_Head (b.state.base.map (M.headV))), .pv (.sl 0 ty_impl_Last (b.state.clients.map (M.lastV))), .pv (.sl 0 ty_impl_Entry (b.state.log.map (M.entryV))), .pv (.int .i64 b.state.firm.epoch), .pv (.int .i64 b.state.firm.seq), .pv (.sl 0 ty_impl_Chunk (b.state.chunks.map (M.chunkV))), .pv (.sl 0 ty_impl_Way (b.way.map (M.wayV))), .pv (.sl 0 ty_impl_Ack (b.acks.map (M.ackV))), .pv (.sl 0 ty_impl_Wait (b.waits.map (M.waitV 0 true)))]) (.exit 2) (by simp) (fun i e s => e = .ret ∧ s.t 4 = .pv (.bool false)) (by simp [u02, u03, u04, u05, u06, u07])
    (by
      rintro s ⟨k1, k2, k3, k4, k5, k6, k7⟩
      simp [pf_spec_SameLine_lb1, k1, k2, k3, k4, k5, k6, k7])
    (by
      rintro s i hi ⟨k1, k2, k3, k4, k5, k6, k7⟩
      have hi2 : i < b.acks.length := by omega
      have hle : a.acks.length ≤ 1048576 := by simp only [M.needLine] at ha; omega
      generalize hx : a.acks[i] = x
      generalize hy : b.acks[i] = y
      obtain ⟨r, q, sq⟩ := eqk_Ack x y
      simp only [M.ackV, PV.cells, List.map_cons, List.map_nil] at q
      cases r with
      | true =>
        obtain rfl : x = y := sq.1 rfl
        simp (disch := omega) [pf_spec_SameLine_lb1, k1, k2, k3, k4, k5, k6, k7, hi, hi2, idxN, l5, IntWalk.i64_in, M.ackV, hx, hy, q]
      | false =>
        have hq : ¬ y = x := fun h => by simpa using sq.2 h.symm
        simp (disch := omega) [pf_spec_SameLine_lb1, k1, k2, k3, k4, k5, k6, k7, hi, hi2, idxN, l5, IntWalk.i64_in, M.ackV, hx, hy, q, hq])
  obtain ⟨e', s1', rfl, hh1⟩ := hl1
  rcases hh1 with ⟨rfl, hf1, _, u12, u13, u14, u15, u16, u17⟩ | ⟨i, hf1, _, rfl, hr1⟩
  case inr => (simp [hr1] at hR; subst hR; exact .of rfl (nosame (Q := a.acks = b.acks) (fun h => by rw [h]) (nolist l5 (fun i x => by simp) hf1)))
  simp (disch := omega) [h0, q1, q2, q3, l4, l5, l6, u12, u13, u14, u15, u16, u17] at hR
  generalize hE2 : EX CC _ pf_spec_SameLine_l2 _ = E2 at hR
  have hl2 := all_loop hE2 a.waits (fun i x => decide (b.waits[i]? = some x)) (fun i s => s.t 7 = .pv (.int .i64 i) ∧ s.t 2 = .ptr 2 1 0 ∧ s.m.kb 2 = 1 ∧ s.m.b 2 = some [.pv (.int .i64 a.epoch), .pv (.int .i64 a.code.k), .pv (.int .i64 a.code.m), .pv (.sl 0 ty_int64 (a.acting.map (PV.int .i64))), .pv (.int .i64 a.state.pg.pool), .pv (.int .i64 a.state.pg.no), .pv (.int .i64 a.state.seen), .pv (.int .i64 a.state.started), .pv (.int .i64 a.state.tail.epoch), .pv (.int .i64 a.state.tail.seq), .pv (.sl 0 ty_impl_Head (a.state.base.map (M.headV))), .pv (.sl 0 ty_impl_Last (a.state.clients.map (M.lastV))), .pv (.sl 0 ty_impl_Entry (a.state.log.map (M.entryV))), .pv (.int .i64 a.state.firm.epoch), .pv (.int .i64 a.state.firm.seq), .pv (.sl 0 ty_impl_Chunk (a.state.chunks.map (M.chunkV))), .pv (.sl 0 ty_impl_Way (a.way.map (M.wayV))), .pv (.sl 0 ty_impl_Ack (a.acks.map (M.ackV))), .pv (.sl 0 ty_impl_Wait (a.waits.map (M.waitV 0 true)))] ∧ s.t 3 = .ptr 3 1 0 ∧ s.m.kb 3 = 1 ∧ s.m.b 3 = some [.pv (.int .i64 b.epoch), .pv (.int .i64 b.code.k), .pv (.int .i64 b.code.m), .pv (.sl 0 ty_int64 (b.acting.map (PV.int .i64))), .pv (.int .i64 b.state.pg.pool), .pv (.int .i64 b.state.pg.no), .pv (.int .i64 b.state.seen), .pv (.int .i64 b.state.started), .pv (.int .i64 b.state.tail.epoch), .pv (.int .i64 b.state.tail.seq), .pv (.sl 0 ty_impl_Head (b.state.base.map (M.headV))), .pv (.sl 0 ty_impl_Last (b.state.clients.map (M.lastV))), .pv (.sl 0 ty_impl_Entry (b.state.log.map (M.entryV))), .pv (.int .i64 b.state.firm.epoch), .pv (.int .i64 b.state.firm.seq), .pv (.sl 0 ty_impl_Chunk (b.state.chunks.map (M.chunkV))), .pv (.sl 0 ty_impl_Way (b.way.map (M.wayV))), .pv (.sl 0 ty_impl_Ack (b.acks.map (M.ackV))), .pv (.sl 0 ty_impl_Wait (b.waits.map (M.waitV 0 true)))]) (.exit 4) (by simp) (fun i e s => e = .ret ∧ s.t 4 = .pv (.bool false)) (by simp [u12, u13, u14, u15, u16, u17])
    (by
      rintro s ⟨k1, k2, k3, k4, k5, k6, k7⟩
      simp [pf_spec_SameLine_lb2, k1, k2, k3, k4, k5, k6, k7])
    (by
      rintro s i hi ⟨k1, k2, k3, k4, k5, k6, k7⟩
      have hi2 : i < b.waits.length := by omega
      have hle : a.waits.length ≤ 1048576 := by simp only [M.needLine] at ha; omega
      obtain ⟨r, q, sq⟩ := run_spec_l25SameWait a.waits[i] b.waits[i] (by have := sumN_le M.needWait (List.getElem_mem hi); simp only [M.needLine] at ha; omega) (by have := sumN_le M.needWait (List.getElem_mem hi2); simp only [M.needLine] at hb; omega)
      simp only [M.waitV, M.tyGot_t, M.tyGot_f] at q
      generalize hx : a.waits[i] = x at q sq ⊢
      generalize hy : b.waits[i] = y at q sq
      cases r with
      | true =>
        obtain rfl : x = y := sq.1 rfl
        simp (disch := omega) [pf_spec_SameLine_lb2, k1, k2, k3, k4, k5, k6, k7, hi, hi2, idxN, l6, IntWalk.i64_in, M.waitV, hx, hy, q]
      | false =>
        have hq : ¬ y = x := fun h => by simpa using sq.2 h.symm
        simp (disch := omega) [pf_spec_SameLine_lb2, k1, k2, k3, k4, k5, k6, k7, hi, hi2, idxN, l6, IntWalk.i64_in, M.waitV, hx, hy, q, hq])
  obtain ⟨e', s2', rfl, hh2⟩ := hl2
  rcases hh2 with ⟨rfl, hf2, _, u22, u23, u24, u25, u26, u27⟩ | ⟨i, hf2, _, rfl, hr2⟩
  case inr => (simp [hr2] at hR; subst hR; exact .of rfl (nosame (Q := a.waits = b.waits) (fun h => by rw [h]) (nolist l6 (fun i x => by simp) hf2)))
  have hab : a = b := (M.ext_Line h0 (s1.1 rfl) (s2.1 rfl) (s3.1 rfl) ((list_same l4 fun i x => by simp).1 hf0) ((list_same l5 fun i x => by simp).1 hf1) ((list_same l6 fun i x => by simp).1 hf2))
  simp (disch := omega) [h0, q1, q2, q3, l4, l5, l6, u22, u23, u24, u25, u26, u27] at hR
  subst hR
  exact .of rfl (by simp [hab])
theorem M.ext_Lead {a b : M.Lead} (h0 : a.pg = b.pg) (h1 : a.epoch = b.epoch) (h2 : a.phase = b.phase) (h3 : a.code = b.code) (h4 : a.acting = b.acting) (h5 : a.ivs = b.ivs) (h6 : a.heard = b.heard) (h7 : a.pick = b.pick) (h8 : a.fills = b.fills) (h9 : a.have_ = b.have_) (h10 : a.ready = b.ready) (h11 : a.line = b.line) : a = b := by
  cases a; cases b; simp_all
set_option maxHeartbeats 4000000 in
theorem run_impl_SameLead (a b : M.Lead) (ha : M.needLead a ≤ 1048576) (hb : M.needLead b ≤ 1048576) : Says (RUN CC fn_impl_SameLead [M.leadV 0 true a, M.leadV 0 true b]) (a = b) := by
  classical
  obtain ⟨r0, q0, s0⟩ := eqk_Pg a.pg b.pg
  simp only [M.pgV, PV.cells, List.map_cons, List.map_nil] at q0
  cases r0
  case false => exact .of (b := false) (by rw [RUN_eq, prog_impl_SameLead]; simp (disch := omega) [pf_impl_SameLead, M.leadV, q0]) (nosame (Q := a.pg = b.pg) (fun h => by rw [h]) (fun h => by simpa using s0.2 h))
  by_cases h1 : a.epoch = b.epoch
  case neg => exact .of (b := false) (by rw [RUN_eq, prog_impl_SameLead]; simp (disch := omega) [pf_impl_SameLead, M.leadV, q0, h1]) (nosame (Q := a.epoch = b.epoch) (fun h => by rw [h]) h1)
  by_cases h2 : a.phase = b.phase
  case neg => exact .of (b := false) (by rw [RUN_eq, prog_impl_SameLead]; simp (disch := omega) [pf_impl_SameLead, M.leadV, q0, h1, h2]) (nosame (Q := a.phase = b.phase) (fun h => by rw [h]) h2)
  obtain ⟨r3, q3, s3⟩ := eqk_Code a.code b.code
  simp only [M.codeV, PV.cells, List.map_cons, List.map_nil] at q3
  cases r3
  case false => exact .of (b := false) (by rw [RUN_eq, prog_impl_SameLead]; simp (disch := omega) [pf_impl_SameLead, M.leadV, q0, h1, h2, q3]) (nosame (Q := a.code = b.code) (fun h => by rw [h]) (fun h => by simpa using s3.2 h))
  obtain ⟨r4, q4, s4⟩ := run_Eq_int64 (xs := a.acting) (ys := b.acting) (by simp only [M.needLead] at ha; omega) (by simp only [M.needLead] at hb; omega)
  cases r4
  case false => exact .of (b := false) (by rw [RUN_eq, prog_impl_SameLead]; simp (disch := omega) [pf_impl_SameLead, M.leadV, q0, h1, h2, q3, q4]) (nosame (Q := a.acting = b.acting) (fun h => by rw [h]) (fun h => by simpa using s4.2 h))
  obtain ⟨r5, q5, s5⟩ := run_EqF_impl_Interval (xs := a.ivs) (ys := b.ivs) (by simp only [M.needLead] at ha; omega) (by simp only [M.needLead] at hb; omega)
  cases r5
  case false => exact .of (b := false) (by rw [RUN_eq, prog_impl_SameLead]; simp (disch := omega) [pf_impl_SameLead, M.leadV, q0, h1, h2, q3, q4, q5]) (nosame (Q := a.ivs = b.ivs) (fun h => by rw [h]) (fun h => by simpa using s5.2 h))
  obtain ⟨r6, q6, s6⟩ := run_EqF_impl_Notice (xs := a.heard) (ys := b.heard) (by simp only [M.needLead] at ha; omega) (by simp only [M.needLead] at hb; omega)
  cases r6
  case false => exact .of (b := false) (by rw [RUN_eq, prog_impl_SameLead]; simp (disch := omega) [pf_impl_SameLead, M.leadV, q0, h1, h2, q3, q4, q5, q6]) (nosame (Q := a.heard = b.heard) (fun h => by rw [h]) (fun h => by simpa using s6.2 h))
  obtain ⟨r7, q7, s7⟩ := run_impl_sameState a.pick b.pick (by simp only [M.needLead] at ha; omega) (by simp only [M.needLead] at hb; omega)
  simp only [M.pgStateV, M.tyChunk_t, M.tyChunk_f, M.tyEntry_t, M.tyEntry_f, M.tyHead_t, M.tyHead_f, M.tyLast_t, M.tyLast_f] at q7
  cases r7
  case false => exact .of (b := false) (by rw [RUN_eq, prog_impl_SameLead]; simp (disch := omega) [pf_impl_SameLead, M.leadV, q0, h1, h2, q3, q4, q5, q6, q7]) (nosame (Q := a.pick = b.pick) (fun h => by rw [h]) (fun h => by simpa using s7.2 h))
  obtain ⟨r8, q8, s8⟩ := run_Eq_impl_Fill (xs := a.fills) (ys := b.fills) (by simp only [M.needLead] at ha; omega) (by simp only [M.needLead] at hb; omega)
  cases r8
  case false => exact .of (b := false) (by rw [RUN_eq, prog_impl_SameLead]; simp (disch := omega) [pf_impl_SameLead, M.leadV, q0, h1, h2, q3, q4, q5, q6, q7, q8]) (nosame (Q := a.fills = b.fills) (fun h => by rw [h]) (fun h => by simpa using s8.2 h))
  obtain ⟨r9, q9, s9⟩ := run_Eq_impl_Chunk (xs := a.have_) (ys := b.have_) (by simp only [M.needLead] at ha; omega) (by simp only [M.needLead] at hb; omega)
  cases r9
  case false => exact .of (b := false) (by rw [RUN_eq, prog_impl_SameLead]; simp (disch := omega) [pf_impl_SameLead, M.leadV, q0, h1, h2, q3, q4, q5, q6, q7, q8, q9]) (nosame (Q := a.have_ = b.have_) (fun h => by rw [h]) (fun h => by simpa using s9.2 h))
  obtain ⟨r10, q10, s10⟩ := run_Eq_int64 (xs := a.ready) (ys := b.ready) (by simp only [M.needLead] at ha; omega) (by simp only [M.needLead] at hb; omega)
  cases r10
  case false => exact .of (b := false) (by rw [RUN_eq, prog_impl_SameLead]; simp (disch := omega) [pf_impl_SameLead, M.leadV, q0, h1, h2, q3, q4, q5, q6, q7, q8, q9, q10]) (nosame (Q := a.ready = b.ready) (fun h => by rw [h]) (fun h => by simpa using s10.2 h))
  obtain ⟨r11, q11, s11⟩ := run_impl_SameLine a.line b.line (by simp only [M.needLead] at ha; omega) (by simp only [M.needLead] at hb; omega)
  simp only [M.lineV, M.tyAck_t, M.tyAck_f, M.tyChunk_t, M.tyChunk_f, M.tyEntry_t, M.tyEntry_f, M.tyHead_t, M.tyHead_f, M.tyLast_t, M.tyLast_f, M.tyWait_t, M.tyWait_f, M.tyWay_t, M.tyWay_f] at q11
  cases r11
  case false => exact .of (b := false) (by rw [RUN_eq, prog_impl_SameLead]; simp (disch := omega) [pf_impl_SameLead, M.leadV, q0, h1, h2, q3, q4, q5, q6, q7, q8, q9, q10, q11]) (nosame (Q := a.line = b.line) (fun h => by rw [h]) (fun h => by simpa using s11.2 h))
  have hab : a = b := (M.ext_Lead (s0.1 rfl) h1 h2 (s3.1 rfl) (s4.1 rfl) (s5.1 rfl) (s6.1 rfl) (s7.1 rfl) (s8.1 rfl) (s9.1 rfl) (s10.1 rfl) (s11.1 rfl))
  exact .of (b := true) (by rw [RUN_eq, prog_impl_SameLead]; simp (disch := omega) [pf_impl_SameLead, M.leadV, q0, h1, h2, q3, q4, q5, q6, q7, q8, q9, q10, q11]) (by simp [hab])
set_option maxHeartbeats 4000000 in
theorem run_spec_SameLead (a b : M.Lead) (ha : M.needLead a ≤ 1048576) (hb : M.needLead b ≤ 1048576) : Says (RUN CC fn_spec_SameLead [M.leadV 0 true a, M.leadV 0 true b]) (a = b) := by
  classical
  obtain ⟨r0, q0, s0⟩ := eqk_Pg a.pg b.pg
  simp only [M.pgV, PV.cells, List.map_cons, List.map_nil] at q0
  cases r0
  case false => exact .of (b := false) (by rw [RUN_eq, prog_spec_SameLead]; simp (disch := omega) [pf_spec_SameLead, M.leadV, q0]) (nosame (Q := a.pg = b.pg) (fun h => by rw [h]) (fun h => by simpa using s0.2 h))
  by_cases h1 : a.epoch = b.epoch
  case neg => exact .of (b := false) (by rw [RUN_eq, prog_spec_SameLead]; simp (disch := omega) [pf_spec_SameLead, M.leadV, q0, h1]) (nosame (Q := a.epoch = b.epoch) (fun h => by rw [h]) h1)
  by_cases h2 : a.phase = b.phase
  case neg => exact .of (b := false) (by rw [RUN_eq, prog_spec_SameLead]; simp (disch := omega) [pf_spec_SameLead, M.leadV, q0, h1, h2]) (nosame (Q := a.phase = b.phase) (fun h => by rw [h]) h2)
  obtain ⟨r3, q3, s3⟩ := eqk_Code a.code b.code
  simp only [M.codeV, PV.cells, List.map_cons, List.map_nil] at q3
  cases r3
  case false => exact .of (b := false) (by rw [RUN_eq, prog_spec_SameLead]; simp (disch := omega) [pf_spec_SameLead, M.leadV, q0, h1, h2, q3]) (nosame (Q := a.code = b.code) (fun h => by rw [h]) (fun h => by simpa using s3.2 h))
  obtain ⟨r4, q4, s4⟩ := run_spec_l00Same (xs := a.acting) (ys := b.acting) (by simp only [M.needLead] at ha; omega) (by simp only [M.needLead] at hb; omega)
  cases r4
  case false => exact .of (b := false) (by rw [RUN_eq, prog_spec_SameLead]; simp (disch := omega) [pf_spec_SameLead, M.leadV, q0, h1, h2, q3, q4]) (nosame (Q := a.acting = b.acting) (fun h => by rw [h]) (fun h => by simpa using s4.2 h))
  obtain ⟨r5, q5, s5⟩ := run_spec_l27SameIvs (xs := a.ivs) (ys := b.ivs) (by simp only [M.needLead] at ha; omega) (by simp only [M.needLead] at hb; omega)
  cases r5
  case false => exact .of (b := false) (by rw [RUN_eq, prog_spec_SameLead]; simp (disch := omega) [pf_spec_SameLead, M.leadV, q0, h1, h2, q3, q4, q5]) (nosame (Q := a.ivs = b.ivs) (fun h => by rw [h]) (fun h => by simpa using s5.2 h))
  obtain ⟨r6, q6, s6⟩ := run_spec_l27SameNotices (xs := a.heard) (ys := b.heard) (by simp only [M.needLead] at ha; omega) (by simp only [M.needLead] at hb; omega)
  cases r6
  case false => exact .of (b := false) (by rw [RUN_eq, prog_spec_SameLead]; simp (disch := omega) [pf_spec_SameLead, M.leadV, q0, h1, h2, q3, q4, q5, q6]) (nosame (Q := a.heard = b.heard) (fun h => by rw [h]) (fun h => by simpa using s6.2 h))
  obtain ⟨r7, q7, s7⟩ := run_spec_l25SameState a.pick b.pick (by simp only [M.needLead] at ha; omega) (by simp only [M.needLead] at hb; omega)
  simp only [M.pgStateV, M.tyChunk_t, M.tyChunk_f, M.tyEntry_t, M.tyEntry_f, M.tyHead_t, M.tyHead_f, M.tyLast_t, M.tyLast_f] at q7
  cases r7
  case false => exact .of (b := false) (by rw [RUN_eq, prog_spec_SameLead]; simp (disch := omega) [pf_spec_SameLead, M.leadV, q0, h1, h2, q3, q4, q5, q6, q7]) (nosame (Q := a.pick = b.pick) (fun h => by rw [h]) (fun h => by simpa using s7.2 h))
  by_cases l8 : a.fills.length = b.fills.length
  case neg =>
    have l8' : ¬ (a.fills.length : Int) = b.fills.length := by omega
    exact .of (b := false) (by rw [RUN_eq, prog_spec_SameLead]; simp (disch := omega) [pf_spec_SameLead, M.leadV, q0, h1, h2, q3, q4, q5, q6, q7, l8, l8']) (nosame (Q := a.fills.length = b.fills.length) (fun h => by rw [h]) (fun h => l8 (by rw [h])))
  by_cases l9 : a.have_.length = b.have_.length
  case neg =>
    have l9' : ¬ (a.have_.length : Int) = b.have_.length := by omega
    exact .of (b := false) (by rw [RUN_eq, prog_spec_SameLead]; simp (disch := omega) [pf_spec_SameLead, M.leadV, q0, h1, h2, q3, q4, q5, q6, q7, l8, l9, l9']) (nosame (Q := a.have_.length = b.have_.length) (fun h => by rw [h]) (fun h => l9 (by rw [h])))
  obtain ⟨r10, q10, s10⟩ := run_spec_l00Same (xs := a.ready) (ys := b.ready) (by simp only [M.needLead] at ha; omega) (by simp only [M.needLead] at hb; omega)
  cases r10
  case false => exact .of (b := false) (by rw [RUN_eq, prog_spec_SameLead]; simp (disch := omega) [pf_spec_SameLead, M.leadV, q0, h1, h2, q3, q4, q5, q6, q7, l8, l9, q10]) (nosame (Q := a.ready = b.ready) (fun h => by rw [h]) (fun h => by simpa using s10.2 h))
  obtain ⟨r11, q11, s11⟩ := run_spec_SameLine a.line b.line (by simp only [M.needLead] at ha; omega) (by simp only [M.needLead] at hb; omega)
  simp only [M.lineV, M.tyAck_t, M.tyAck_f, M.tyChunk_t, M.tyChunk_f, M.tyEntry_t, M.tyEntry_f, M.tyHead_t, M.tyHead_f, M.tyLast_t, M.tyLast_f, M.tyWait_t, M.tyWait_f, M.tyWay_t, M.tyWay_f] at q11
  cases r11
  case false => exact .of (b := false) (by rw [RUN_eq, prog_spec_SameLead]; simp (disch := omega) [pf_spec_SameLead, M.leadV, q0, h1, h2, q3, q4, q5, q6, q7, l8, l9, q10, q11]) (nosame (Q := a.line = b.line) (fun h => by rw [h]) (fun h => by simpa using s11.2 h))
  generalize hR : RUN CC fn_spec_SameLead [M.leadV 0 true a, M.leadV 0 true b] = R
  rw [RUN_eq, prog_spec_SameLead] at hR
  simp (disch := omega) [pf_spec_SameLead, M.leadV, q0, h1, h2, q3, q4, q5, q6, q7, l8, l9, q10, q11] at hR
  generalize hE0 : EX CC _ pf_spec_SameLead_l0 _ = E0 at hR
  have hl0 := all_loop hE0 a.fills (fun i x => decide (b.fills[i]? = some x)) (fun i s => s.t 5 = .pv (.int .i64 i) ∧ s.t 2 = .ptr 2 1 0 ∧ s.m.kb 2 = 1 ∧ s.m.b 2 = some [.pv (.int .i64 a.pg.pool), .pv (.int .i64 a.pg.no), .pv (.int .i64 a.epoch), .pv (.int .i64 a.phase), .pv (.int .i64 a.code.k), .pv (.int .i64 a.code.m), .pv (.sl 0 ty_int64 (a.acting.map (PV.int .i64))), .pv (.sl 0 ty_impl_Interval (a.ivs.map (M.intervalV 0 true))), .pv (.sl 0 ty_impl_Notice (a.heard.map (M.noticeV 0 true))), .pv (.int .i64 a.pick.pg.pool), .pv (.int .i64 a.pick.pg.no), .pv (.int .i64 a.pick.seen), .pv (.int .i64 a.pick.started), .pv (.int .i64 a.pick.tail.epoch), .pv (.int .i64 a.pick.tail.seq), .pv (.sl 0 ty_impl_Head (a.pick.base.map (M.headV))), .pv (.sl 0 ty_impl_Last (a.pick.clients.map (M.lastV))), .pv (.sl 0 ty_impl_Entry (a.pick.log.map (M.entryV))), .pv (.int .i64 a.pick.firm.epoch), .pv (.int .i64 a.pick.firm.seq), .pv (.sl 0 ty_impl_Chunk (a.pick.chunks.map (M.chunkV))), .pv (.sl 0 ty_impl_Fill (a.fills.map (M.fillV))), .pv (.sl 0 ty_impl_Chunk (a.have_.map (M.chunkV))), .pv (.sl 0 ty_int64 (a.ready.map (PV.int .i64))), .pv (.int .i64 a.line.epoch), .pv (.int .i64 a.line.code.k), .pv (.int .i64 a.line.code.m), .pv (.sl 0 ty_int64 (a.line.acting.map (PV.int .i64))), .pv (.int .i64 a.line.state.pg.pool), .pv (.int .i64 a.line.state.pg.no), .pv (.int .i64 a.line.state.seen), .pv (.int .i64 a.line.state.started), .pv (.int .i64 a.line.state.tail.epoch), .pv (.int .i64 a.line.state.tail.seq), .pv (.sl 0 ty_impl_Head (a.line.state.base.map (M.headV))), .pv (.sl 0 ty_impl_Last (a.line.state.clients.map (M.lastV))), .pv (.sl 0 ty_impl_Entry (a.line.state.log.map (M.entryV))), .pv (.int .i64 a.line.state.firm.epoch), .pv (.int .i64 a.line.state.firm.seq), .pv (.sl 0 ty_impl_Chunk (a.line.state.chunks.map (M.chunkV))), .pv (.sl 0 ty_impl_Way (a.line.way.map (M.wayV))), .pv (.sl 0 ty_impl_Ack (a.line.acks.map (M.ackV))), .pv (.sl 0 ty_impl_Wait (a.line.waits.map (M.waitV 0 true)))] ∧ s.t 3 = .ptr 3 1 0 ∧ s.m.kb 3 = 1 ∧ s.m.b 3 = some [.pv (.int .i64 b.pg.pool), .pv (.int .i64 b.pg.no), .pv (.int .i64 b.epoch), .pv (.int .i64 b.phase), .pv (.int .i64 b.code.k), .pv (.int .i64 b.code.m), .pv (.sl 0 ty_int64 (b.acting.map (PV.int .i64))), .pv (.sl 0 ty_impl_Interval (b.ivs.map (M.intervalV 0 true))), .pv (.sl 0 ty_impl_Notice (b.heard.map (M.noticeV 0 true))), .pv (.int .i64 b.pick.pg.pool), .pv (.int .i64 b.pick.pg.no), .pv (.int .i64 b.pick.seen), .pv (.int .i64 b.pick.started), .pv (.int .i64 b.pick.tail.epoch), .pv (.int .i64 b.pick.tail.seq), .pv (.sl 0 ty_impl_Head (b.pick.base.map (M.headV))), .pv (.sl 0 ty_impl_Last (b.pick.clients.map (M.lastV))), .pv (.sl 0 ty_impl_Entry (b.pick.log.map (M.entryV))), .pv (.int .i64 b.pick.firm.epoch), .pv (.int .i64 b.pick.firm.seq), .pv (.sl 0 ty_impl_Chunk (b.pick.chunks.map (M.chunkV))), .pv (.sl 0 ty_impl_Fill (b.fills.map (M.fillV))), .pv (.sl 0 ty_impl_Chunk (b.have_.map (M.chunkV))), .pv (.sl 0 ty_int64 (b.ready.map (PV.int .i64))), .pv (.int .i64 b.line.epoch), .pv (.int .i64 b.line.code.k), .pv (.int .i64 b.line.code.m), .pv (.sl 0 ty_int64 (b.line.acting.map (PV.int .i64))), .pv (.int .i64 b.line.state.pg.pool), .pv (.int .i64 b.line.state.pg.no), .pv (.int .i64 b.line.state.seen), .pv (.int .i64 b.line.state.started), .pv (.int .i64 b.line.state.tail.epoch), .pv (.int .i64 b.line.state.tail.seq), .pv (.sl 0 ty_impl_Head (b.line.state.base.map (M.headV))), .pv (.sl 0 ty_impl_Last (b.line.state.clients.map (M.lastV))), .pv (.sl 0 ty_impl_Entry (b.line.state.log.map (M.entryV))), .pv (.int .i64 b.line.state.firm.epoch), .pv (.int .i64 b.line.state.firm.seq), .pv (.sl 0 ty_impl_Chunk (b.line.state.chunks.map (M.chunkV))), .pv (.sl 0 ty_impl_Way (b.line.way.map (M.wayV))), .pv (.sl 0 ty_impl_Ack (b.line.acks.map (M.ackV))), .pv (.sl 0 ty_impl_Wait (b.line.waits.map (M.waitV 0 true)))]) (.exit 0) (by simp) (fun i e s => e = .ret ∧ s.t 4 = .pv (.bool false)) (by simp [M.leadV, h1, h2])
    (by
      rintro s ⟨k1, k2, k3, k4, k5, k6, k7⟩
      simp [pf_spec_SameLead_lb0, k1, k2, k3, k4, k5, k6, k7])
    (by
      rintro s i hi ⟨k1, k2, k3, k4, k5, k6, k7⟩
      have hi2 : i < b.fills.length := by omega
      have hle : a.fills.length ≤ 1048576 := by simp only [M.needLead] at ha; omega
      generalize hx : a.fills[i] = x
      generalize hy : b.fills[i] = y
      obtain ⟨r, q, sq⟩ := eqk_Fill x y
      simp only [M.fillV, PV.cells, List.map_cons, List.map_nil] at q
      cases r with
      | true =>
        obtain rfl : x = y := sq.1 rfl
        simp (disch := omega) [pf_spec_SameLead_lb0, k1, k2, k3, k4, k5, k6, k7, hi, hi2, idxN, l8, IntWalk.i64_in, M.fillV, hx, hy, q]
      | false =>
        have hq : ¬ y = x := fun h => by simpa using sq.2 h.symm
        simp (disch := omega) [pf_spec_SameLead_lb0, k1, k2, k3, k4, k5, k6, k7, hi, hi2, idxN, l8, IntWalk.i64_in, M.fillV, hx, hy, q, hq])
  obtain ⟨e', s0', rfl, hh0⟩ := hl0
  rcases hh0 with ⟨rfl, hf0, _, u02, u03, u04, u05, u06, u07⟩ | ⟨i, hf0, _, rfl, hr0⟩
  case inr => (simp [hr0] at hR; subst hR; exact .of rfl (nosame (Q := a.fills = b.fills) (fun h => by rw [h]) (nolist l8 (fun i x => by simp) hf0)))
  simp (disch := omega) [q0, h1, h2, q3, q4, q5, q6, q7, l8, l9, q10, q11, u02, u03, u04, u05, u06, u07] at hR
  generalize hE1 : EX CC _ pf_spec_SameLead_l1 _ = E1 at hR
  have hl1 := all_loop hE1 a.have_ (fun i x => decide (b.have_[i]? = some x)) (fun i s => s.t 6 = .pv (.int .i64 i) ∧ s.t 2 = .ptr 2 1 0 ∧ s.m.kb 2 = 1 ∧ s.m.b 2 = some [.pv (.int .i64 a.pg.pool), .pv (.int .i64 a.pg.no), .pv (.int .i64 a.epoch), .pv (.int .i64 a.phase), .pv (.int .i64 a.code.k), .pv (.int .i64 a.code.m), .pv (.sl 0 ty_int64 (a.acting.map (PV.int .i64))), .pv (.sl 0 ty_impl_Interval (a.ivs.map (M.intervalV 0 true))), .pv (.sl 0 ty_impl_Notice (a.heard.map (M.noticeV 0 true))), .pv (.int .i64 a.pick.pg.pool), .pv (.int .i64 a.pick.pg.no), .pv (.int .i64 a.pick.seen), .pv (.int .i64 a.pick.started), .pv (.int .i64 a.pick.tail.epoch), .pv (.int .i64 a.pick.tail.seq), .pv (.sl 0 ty_impl_Head (a.pick.base.map (M.headV))), .pv (.sl 0 ty_impl_Last (a.pick.clients.map (M.lastV))), .pv (.sl 0 ty_impl_Entry (a.pick.log.map (M.entryV))), .pv (.int .i64 a.pick.firm.epoch), .pv (.int .i64 a.pick.firm.seq), .pv (.sl 0 ty_impl_Chunk (a.pick.chunks.map (M.chunkV))), .pv (.sl 0 ty_impl_Fill (a.fills.map (M.fillV))), .pv (.sl 0 ty_impl_Chunk (a.have_.map (M.chunkV))), .pv (.sl 0 ty_int64 (a.ready.map (PV.int .i64))), .pv (.int .i64 a.line.epoch), .pv (.int .i64 a.line.code.k), .pv (.int .i64 a.line.code.m), .pv (.sl 0 ty_int64 (a.line.acting.map (PV.int .i64))), .pv (.int .i64 a.line.state.pg.pool), .pv (.int .i64 a.line.state.pg.no), .pv (.int .i64 a.line.state.seen), .pv (.int .i64 a.line.state.started), .pv (.int .i64 a.line.state.tail.epoch), .pv (.int .i64 a.line.state.tail.seq), .pv (.sl 0 ty_impl_Head (a.line.state.base.map (M.headV))), .pv (.sl 0 ty_impl_Last (a.line.state.clients.map (M.lastV))), .pv (.sl 0 ty_impl_Entry (a.line.state.log.map (M.entryV))), .pv (.int .i64 a.line.state.firm.epoch), .pv (.int .i64 a.line.state.firm.seq), .pv (.sl 0 ty_impl_Chunk (a.line.state.chunks.map (M.chunkV))), .pv (.sl 0 ty_impl_Way (a.line.way.map (M.wayV))), .pv (.sl 0 ty_impl_Ack (a.line.acks.map (M.ackV))), .pv (.sl 0 ty_impl_Wait (a.line.waits.map (M.waitV 0 true)))] ∧ s.t 3 = .ptr 3 1 0 ∧ s.m.kb 3 = 1 ∧ s.m.b 3 = some [.pv (.int .i64 b.pg.pool), .pv (.int .i64 b.pg.no), .pv (.int .i64 b.epoch), .pv (.int .i64 b.phase), .pv (.int .i64 b.code.k), .pv (.int .i64 b.code.m), .pv (.sl 0 ty_int64 (b.acting.map (PV.int .i64))), .pv (.sl 0 ty_impl_Interval (b.ivs.map (M.intervalV 0 true))), .pv (.sl 0 ty_impl_Notice (b.heard.map (M.noticeV 0 true))), .pv (.int .i64 b.pick.pg.pool), .pv (.int .i64 b.pick.pg.no), .pv (.int .i64 b.pick.seen), .pv (.int .i64 b.pick.started), .pv (.int .i64 b.pick.tail.epoch), .pv (.int .i64 b.pick.tail.seq), .pv (.sl 0 ty_impl_Head (b.pick.base.map (M.headV))), .pv (.sl 0 ty_impl_Last (b.pick.clients.map (M.lastV))), .pv (.sl 0 ty_impl_Entry (b.pick.log.map (M.entryV))), .pv (.int .i64 b.pick.firm.epoch), .pv (.int .i64 b.pick.firm.seq), .pv (.sl 0 ty_impl_Chunk (b.pick.chunks.map (M.chunkV))), .pv (.sl 0 ty_impl_Fill (b.fills.map (M.fillV))), .pv (.sl 0 ty_impl_Chunk (b.have_.map (M.chunkV))), .pv (.sl 0 ty_int64 (b.ready.map (PV.int .i64))), .pv (.int .i64 b.line.epoch), .pv (.int .i64 b.line.code.k), .pv (.int .i64 b.line.code.m), .pv (.sl 0 ty_int64 (b.line.acting.map (PV.int .i64))), .pv (.int .i64 b.line.state.pg.pool), .pv (.int .i64 b.line.state.pg.no), .pv (.int .i64 b.line.state.seen), .pv (.int .i64 b.line.state.started), .pv (.int .i64 b.line.state.tail.epoch), .pv (.int .i64 b.line.state.tail.seq), .pv (.sl 0 ty_impl_Head (b.line.state.base.map (M.headV))), .pv (.sl 0 ty_impl_Last (b.line.state.clients.map (M.lastV))), .pv (.sl 0 ty_impl_Entry (b.line.state.log.map (M.entryV))), .pv (.int .i64 b.line.state.firm.epoch), .pv (.int .i64 b.line.state.firm.seq), .pv (.sl 0 ty_impl_Chunk (b.line.state.chunks.map (M.chunkV))), .pv (.sl 0 ty_impl_Way (b.line.way.map (M.wayV))), .pv (.sl 0 ty_impl_Ack (b.line.acks.map (M.ackV))), .pv (.sl 0 ty_impl_Wait (b.line.waits.map (M.waitV 0 true)))]) (.exit 2) (by simp) (fun i e s => e = .ret ∧ s.t 4 = .pv (.bool false)) (by simp [u02, u03, u04, u05, u06, u07])
    (by
      rintro s ⟨k1, k2, k3, k4, k5, k6, k7⟩
      simp [pf_spec_SameLead_lb1, k1, k2, k3, k4, k5, k6, k7])
    (by
      rintro s i hi ⟨k1, k2, k3, k4, k5, k6, k7⟩
      have hi2 : i < b.have_.length := by omega
      have hle : a.have_.length ≤ 1048576 := by simp only [M.needLead] at ha; omega
      generalize hx : a.have_[i] = x
      generalize hy : b.have_[i] = y
      obtain ⟨r, q, sq⟩ := eqk_Chunk x y
      simp only [M.chunkV, PV.cells, List.map_cons, List.map_nil] at q
      cases r with
      | true =>
        obtain rfl : x = y := sq.1 rfl
        simp (disch := omega) [pf_spec_SameLead_lb1, k1, k2, k3, k4, k5, k6, k7, hi, hi2, idxN, l9, IntWalk.i64_in, M.chunkV, hx, hy, q]
      | false =>
        have hq : ¬ y = x := fun h => by simpa using sq.2 h.symm
        simp (disch := omega) [pf_spec_SameLead_lb1, k1, k2, k3, k4, k5, k6, k7, hi, hi2, idxN, l9, IntWalk.i64_in, M.chunkV, hx, hy, q, hq])
  obtain ⟨e', s1', rfl, hh1⟩ := hl1
  rcases hh1 with ⟨rfl, hf1, _, u12, u13, u14, u15, u16, u17⟩ | ⟨i, hf1, _, rfl, hr1⟩
  case inr => (simp [hr1] at hR; subst hR; exact .of rfl (nosame (Q := a.have_ = b.have_) (fun h => by rw [h]) (nolist l9 (fun i x => by simp) hf1)))
  have hab : a = b := (M.ext_Lead (s0.1 rfl) h1 h2 (s3.1 rfl) (s4.1 rfl) (s5.1 rfl) (s6.1 rfl) (s7.1 rfl) ((list_same l8 fun i x => by simp).1 hf0) ((list_same l9 fun i x => by simp).1 hf1) (s10.1 rfl) (s11.1 rfl))
  simp (disch := omega) [q0, h1, h2, q3, q4, q5, q6, q7, l8, l9, q10, q11, u12, u13, u14, u15, u16, u17] at hR
  subst hR
  exact .of rfl (by simp [hab])
end Go.Proofs.YtjbomlnpngnjfaaGreat.Pv
