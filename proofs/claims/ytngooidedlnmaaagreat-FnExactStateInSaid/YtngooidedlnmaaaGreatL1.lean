/- What the functions of a law compute, in the plain reading. No condition. -/
import Derived.Test.YtngooidedlnmaaaGreatPf
set_option linter.all false
set_option linter.unusedSimpArgs false
set_option linter.unusedVariables false
set_option linter.unnecessarySimpa false
/- Mirrors of a law's types and their helpers, printed by mir.py. No condition. -/
namespace Go.Proofs.YtngooidedlnmaaaGreat.Pv
open Go
set_option maxRecDepth 10000
set_option linter.unusedSimpArgs false
structure M.Ver where
  epoch : Int
  seq : Int
structure M.Chunk where
  name : ByteArray
  ver : M.Ver
  pos : Int
  sum : Int
  bytes : ByteArray
structure M.Req where
  client : Int
  no : Int
structure M.Entry where
  ver : M.Ver
  prior : M.Ver
  name : ByteArray
  gone : Bool
  size : Int
  sum : Int
  req : M.Req
structure M.Head where
  name : ByteArray
  ver : M.Ver
  size : Int
  sum : Int
structure M.Last where
  client : Int
  no : Int
  ver : M.Ver
structure M.Pg where
  pool : Int
  no : Int
structure M.PgState where
  pg : M.Pg
  seen : Int
  started : Int
  tail : M.Ver
  base : List M.Head
  clients : List M.Last
  log : List M.Entry
  firm : M.Ver
  chunks : List M.Chunk
structure M.Store where
  live : List M.PgState
  kept : List M.PgState
def M.tyChunk : Bool → TypeId
  | true => ty_impl_Chunk
  | false => ty_laws_Chunk
@[simp] theorem M.tyChunk_t : M.tyChunk true = ty_impl_Chunk := rfl
@[simp] theorem M.tyChunk_f : M.tyChunk false = ty_laws_Chunk := rfl
def M.tyEntry : Bool → TypeId
  | true => ty_impl_Entry
  | false => ty_laws_Entry
@[simp] theorem M.tyEntry_t : M.tyEntry true = ty_impl_Entry := rfl
@[simp] theorem M.tyEntry_f : M.tyEntry false = ty_laws_Entry := rfl
def M.tyHead : Bool → TypeId
  | true => ty_impl_Head
  | false => ty_laws_Head
@[simp] theorem M.tyHead_t : M.tyHead true = ty_impl_Head := rfl
@[simp] theorem M.tyHead_f : M.tyHead false = ty_laws_Head := rfl
def M.tyLast : Bool → TypeId
  | true => ty_impl_Last
  | false => ty_laws_Last
@[simp] theorem M.tyLast_t : M.tyLast true = ty_impl_Last := rfl
@[simp] theorem M.tyLast_f : M.tyLast false = ty_laws_Last := rfl
def M.tyPgState : Bool → TypeId
  | true => ty_impl_PgState
  | false => ty_laws_PgState
@[simp] theorem M.tyPgState_t : M.tyPgState true = ty_impl_PgState := rfl
@[simp] theorem M.tyPgState_f : M.tyPgState false = ty_laws_PgState := rfl
def M.verV (a : M.Ver) : PV := .agg [.int .i64 a.epoch, .int .i64 a.seq]
@[simp] theorem M.demL_verV : ∀ xs : List M.Ver, demL (xs.map (M.verV)) = xs.map (M.verV)
  | [] => rfl
  | a :: xs => by simp [M.demL_verV xs, M.verV]
@[simp] theorem M.own_verV : ∀ xs : List M.Ver, allOwnL (xs.map (M.verV)) = true
  | [] => rfl
  | a :: xs => by simp [M.own_verV xs, M.verV]
@[simp] theorem M.noRef_verV : ∀ xs : List M.Ver, noRefL (xs.map (M.verV)) = true
  | [] => rfl
  | a :: xs => by simp [M.noRef_verV xs, M.verV]
@[simp] theorem M.flat_verV : ∀ xs : List M.Ver, flatL (xs.map (M.verV)) = true
  | [] => rfl
  | a :: xs => by simp [M.flat_verV xs, M.verV, PV.flat]
def M.chunkV (a : M.Chunk) : PV := .agg [.str a.name, .int .i64 a.ver.epoch, .int .i64 a.ver.seq, .int .i64 a.pos, .int .i64 a.sum, .str a.bytes]
@[simp] theorem M.demL_chunkV : ∀ xs : List M.Chunk, demL (xs.map (M.chunkV)) = xs.map (M.chunkV)
  | [] => rfl
  | a :: xs => by simp [M.demL_chunkV xs, M.chunkV]
@[simp] theorem M.own_chunkV : ∀ xs : List M.Chunk, allOwnL (xs.map (M.chunkV)) = true
  | [] => rfl
  | a :: xs => by simp [M.own_chunkV xs, M.chunkV]
@[simp] theorem M.noRef_chunkV : ∀ xs : List M.Chunk, noRefL (xs.map (M.chunkV)) = true
  | [] => rfl
  | a :: xs => by simp [M.noRef_chunkV xs, M.chunkV]
@[simp] theorem M.flat_chunkV : ∀ xs : List M.Chunk, flatL (xs.map (M.chunkV)) = true
  | [] => rfl
  | a :: xs => by simp [M.flat_chunkV xs, M.chunkV, PV.flat]
def M.reqV (a : M.Req) : PV := .agg [.int .i64 a.client, .int .i64 a.no]
@[simp] theorem M.demL_reqV : ∀ xs : List M.Req, demL (xs.map (M.reqV)) = xs.map (M.reqV)
  | [] => rfl
  | a :: xs => by simp [M.demL_reqV xs, M.reqV]
@[simp] theorem M.own_reqV : ∀ xs : List M.Req, allOwnL (xs.map (M.reqV)) = true
  | [] => rfl
  | a :: xs => by simp [M.own_reqV xs, M.reqV]
@[simp] theorem M.noRef_reqV : ∀ xs : List M.Req, noRefL (xs.map (M.reqV)) = true
  | [] => rfl
  | a :: xs => by simp [M.noRef_reqV xs, M.reqV]
@[simp] theorem M.flat_reqV : ∀ xs : List M.Req, flatL (xs.map (M.reqV)) = true
  | [] => rfl
  | a :: xs => by simp [M.flat_reqV xs, M.reqV, PV.flat]
def M.entryV (a : M.Entry) : PV := .agg [.int .i64 a.ver.epoch, .int .i64 a.ver.seq, .int .i64 a.prior.epoch, .int .i64 a.prior.seq, .str a.name, .bool a.gone, .int .i64 a.size, .int .i64 a.sum, .int .i64 a.req.client, .int .i64 a.req.no]
@[simp] theorem M.demL_entryV : ∀ xs : List M.Entry, demL (xs.map (M.entryV)) = xs.map (M.entryV)
  | [] => rfl
  | a :: xs => by simp [M.demL_entryV xs, M.entryV]
@[simp] theorem M.own_entryV : ∀ xs : List M.Entry, allOwnL (xs.map (M.entryV)) = true
  | [] => rfl
  | a :: xs => by simp [M.own_entryV xs, M.entryV]
@[simp] theorem M.noRef_entryV : ∀ xs : List M.Entry, noRefL (xs.map (M.entryV)) = true
  | [] => rfl
  | a :: xs => by simp [M.noRef_entryV xs, M.entryV]
@[simp] theorem M.flat_entryV : ∀ xs : List M.Entry, flatL (xs.map (M.entryV)) = true
  | [] => rfl
  | a :: xs => by simp [M.flat_entryV xs, M.entryV, PV.flat]
def M.headV (a : M.Head) : PV := .agg [.str a.name, .int .i64 a.ver.epoch, .int .i64 a.ver.seq, .int .i64 a.size, .int .i64 a.sum]
@[simp] theorem M.demL_headV : ∀ xs : List M.Head, demL (xs.map (M.headV)) = xs.map (M.headV)
  | [] => rfl
  | a :: xs => by simp [M.demL_headV xs, M.headV]
@[simp] theorem M.own_headV : ∀ xs : List M.Head, allOwnL (xs.map (M.headV)) = true
  | [] => rfl
  | a :: xs => by simp [M.own_headV xs, M.headV]
@[simp] theorem M.noRef_headV : ∀ xs : List M.Head, noRefL (xs.map (M.headV)) = true
  | [] => rfl
  | a :: xs => by simp [M.noRef_headV xs, M.headV]
@[simp] theorem M.flat_headV : ∀ xs : List M.Head, flatL (xs.map (M.headV)) = true
  | [] => rfl
  | a :: xs => by simp [M.flat_headV xs, M.headV, PV.flat]
def M.lastV (a : M.Last) : PV := .agg [.int .i64 a.client, .int .i64 a.no, .int .i64 a.ver.epoch, .int .i64 a.ver.seq]
@[simp] theorem M.demL_lastV : ∀ xs : List M.Last, demL (xs.map (M.lastV)) = xs.map (M.lastV)
  | [] => rfl
  | a :: xs => by simp [M.demL_lastV xs, M.lastV]
@[simp] theorem M.own_lastV : ∀ xs : List M.Last, allOwnL (xs.map (M.lastV)) = true
  | [] => rfl
  | a :: xs => by simp [M.own_lastV xs, M.lastV]
@[simp] theorem M.noRef_lastV : ∀ xs : List M.Last, noRefL (xs.map (M.lastV)) = true
  | [] => rfl
  | a :: xs => by simp [M.noRef_lastV xs, M.lastV]
@[simp] theorem M.flat_lastV : ∀ xs : List M.Last, flatL (xs.map (M.lastV)) = true
  | [] => rfl
  | a :: xs => by simp [M.flat_lastV xs, M.lastV, PV.flat]
def M.pgV (a : M.Pg) : PV := .agg [.int .i64 a.pool, .int .i64 a.no]
@[simp] theorem M.demL_pgV : ∀ xs : List M.Pg, demL (xs.map (M.pgV)) = xs.map (M.pgV)
  | [] => rfl
  | a :: xs => by simp [M.demL_pgV xs, M.pgV]
@[simp] theorem M.own_pgV : ∀ xs : List M.Pg, allOwnL (xs.map (M.pgV)) = true
  | [] => rfl
  | a :: xs => by simp [M.own_pgV xs, M.pgV]
@[simp] theorem M.noRef_pgV : ∀ xs : List M.Pg, noRefL (xs.map (M.pgV)) = true
  | [] => rfl
  | a :: xs => by simp [M.noRef_pgV xs, M.pgV]
@[simp] theorem M.flat_pgV : ∀ xs : List M.Pg, flatL (xs.map (M.pgV)) = true
  | [] => rfl
  | a :: xs => by simp [M.flat_pgV xs, M.pgV, PV.flat]
def M.pgStateV (fl : Nat) (q : Bool) (a : M.PgState) : PV := .agg [.int .i64 a.pg.pool, .int .i64 a.pg.no, .int .i64 a.seen, .int .i64 a.started, .int .i64 a.tail.epoch, .int .i64 a.tail.seq, .sl fl (M.tyHead q) (a.base.map (M.headV)), .sl fl (M.tyLast q) (a.clients.map (M.lastV)), .sl fl (M.tyEntry q) (a.log.map (M.entryV)), .int .i64 a.firm.epoch, .int .i64 a.firm.seq, .sl fl (M.tyChunk q) (a.chunks.map (M.chunkV))]
@[simp] theorem M.demL_pgStateV {fl : Nat} {q : Bool} : ∀ xs : List M.PgState, demL (xs.map (M.pgStateV fl q)) = xs.map (M.pgStateV 0 q)
  | [] => rfl
  | a :: xs => by simp [M.demL_pgStateV xs, M.pgStateV]
@[simp] theorem M.own_pgStateV {q : Bool} : ∀ xs : List M.PgState, allOwnL (xs.map (M.pgStateV 2 q)) = true
  | [] => rfl
  | a :: xs => by simp [M.own_pgStateV xs, M.pgStateV]
@[simp] theorem M.noRef_pgStateV {fl : Nat} {q : Bool} : ∀ xs : List M.PgState, noRefL (xs.map (M.pgStateV fl q)) = true
  | [] => rfl
  | a :: xs => by simp [M.noRef_pgStateV xs, M.pgStateV]
def M.storeV (fl : Nat) (q : Bool) (a : M.Store) : PV := .agg [.sl fl (M.tyPgState q) (a.live.map (M.pgStateV fl q)), .sl fl (M.tyPgState q) (a.kept.map (M.pgStateV fl q))]
@[simp] theorem M.demL_storeV {fl : Nat} {q : Bool} : ∀ xs : List M.Store, demL (xs.map (M.storeV fl q)) = xs.map (M.storeV 0 q)
  | [] => rfl
  | a :: xs => by simp [M.demL_storeV xs, M.storeV]
@[simp] theorem M.own_storeV {q : Bool} : ∀ xs : List M.Store, allOwnL (xs.map (M.storeV 2 q)) = true
  | [] => rfl
  | a :: xs => by simp [M.own_storeV xs, M.storeV]
@[simp] theorem M.noRef_storeV {fl : Nat} {q : Bool} : ∀ xs : List M.Store, noRefL (xs.map (M.storeV fl q)) = true
  | [] => rfl
  | a :: xs => by simp [M.noRef_storeV xs, M.storeV]
def M.needChunk (a : M.Chunk) : Nat := a.name.size + a.bytes.size
def M.needEntry (a : M.Entry) : Nat := a.name.size
def M.needHead (a : M.Head) : Nat := a.name.size
def M.needPgState (a : M.PgState) : Nat := (a.base.length + sumN M.needHead a.base) + (a.clients.length) + (a.log.length + sumN M.needEntry a.log) + (a.chunks.length + sumN M.needChunk a.chunks)
def M.needStore (a : M.Store) : Nat := (a.live.length + sumN M.needPgState a.live) + (a.kept.length + sumN M.needPgState a.kept)
def M.okVer (a : M.Ver) : Prop := In64 a.epoch ∧ In64 a.seq
def M.okChunk (a : M.Chunk) : Prop := a.name.size ≤ 9223372036854775807 ∧ M.okVer a.ver ∧ In64 a.pos ∧ In64 a.sum ∧ a.bytes.size ≤ 9223372036854775807
def M.okReq (a : M.Req) : Prop := In64 a.client ∧ In64 a.no
def M.okEntry (a : M.Entry) : Prop := M.okVer a.ver ∧ M.okVer a.prior ∧ a.name.size ≤ 9223372036854775807 ∧ In64 a.size ∧ In64 a.sum ∧ M.okReq a.req
def M.okHead (a : M.Head) : Prop := a.name.size ≤ 9223372036854775807 ∧ M.okVer a.ver ∧ In64 a.size ∧ In64 a.sum
def M.okLast (a : M.Last) : Prop := In64 a.client ∧ In64 a.no ∧ M.okVer a.ver
def M.okPg (a : M.Pg) : Prop := In64 a.pool ∧ In64 a.no
def M.okPgState (a : M.PgState) : Prop := M.okPg a.pg ∧ In64 a.seen ∧ In64 a.started ∧ M.okVer a.tail ∧ a.base.length ≤ 9223372036854775807 ∧ (∀ x ∈ a.base, M.okHead x) ∧ a.clients.length ≤ 9223372036854775807 ∧ (∀ x ∈ a.clients, M.okLast x) ∧ a.log.length ≤ 9223372036854775807 ∧ (∀ x ∈ a.log, M.okEntry x) ∧ M.okVer a.firm ∧ a.chunks.length ≤ 9223372036854775807 ∧ (∀ x ∈ a.chunks, M.okChunk x)
def M.okStore (a : M.Store) : Prop := a.live.length ≤ 9223372036854775807 ∧ (∀ x ∈ a.live, M.okPgState x) ∧ a.kept.length ≤ 9223372036854775807 ∧ (∀ x ∈ a.kept, M.okPgState x)
theorem run_toVer (a : M.Ver) : RUN CC fn_laws_toVer [M.verV a] = some ([M.verV a], []) := by
  rw [RUN_eq, prog_laws_toVer]
  simp [pf_laws_toVer, M.verV]
theorem run_toChunk (a : M.Chunk) (hb : M.needChunk a ≤ 1048576) : RUN CC fn_laws_toChunk [M.chunkV a] = some ([M.chunkV a], []) := by
  have h_Ver := run_toVer a.ver
  unfold M.verV at h_Ver
  try simp only [] at h_Ver
  rw [RUN_eq, prog_laws_toChunk]
  simp [pf_laws_toChunk, M.chunkV, h_Ver]
theorem run_toChunkS {xs : List (M.Chunk)} (hb : (xs.length + sumN M.needChunk xs) ≤ 1048576) : RUN CC fn_laws_toChunkS [.sl 0 ty_laws_Chunk (xs.map (M.chunkV))] = some ([.sl 2 ty_impl_Chunk (xs.map (M.chunkV))], []) := by
  have h := run_toS (C := CC) (e1 := ty_laws_Chunk) (e2 := ty_impl_Chunk) (n := 6) (by_ := 64) (zs := [.str ⟨#[]⟩, .int .i64 0, .int .i64 0, .int .i64 0, .int .i64 0, .str ⟨#[]⟩]) (g := fn_laws_toChunk) prog_laws_toChunkS modes_laws_toChunk rfl (xs := xs.map fun a => (M.chunkV a).cells) (ys := xs.map fun a => (M.chunkV a).cells) (by simp) (by simp; omega) (by simp; omega) (by
    intro i h
    simp only [List.length_map] at h
    simp only [List.getElem_map]
    have hs := sumN_le M.needChunk (List.getElem_mem h)
    have h2 := run_toChunk xs[i] (by omega)
    exact ⟨rfl, by simp [calmL, M.chunkV], rfl, h2⟩)
  simp only [List.map_map] at h
  exact h
theorem run_toReq (a : M.Req) : RUN CC fn_laws_toReq [M.reqV a] = some ([M.reqV a], []) := by
  rw [RUN_eq, prog_laws_toReq]
  simp [pf_laws_toReq, M.reqV]
theorem run_toEntry (a : M.Entry) (hb : M.needEntry a ≤ 1048576) : RUN CC fn_laws_toEntry [M.entryV a] = some ([M.entryV a], []) := by
  have h_Ver := run_toVer a.ver
  unfold M.verV at h_Ver
  try simp only [] at h_Ver
  have h_Prior := run_toVer a.prior
  unfold M.verV at h_Prior
  try simp only [] at h_Prior
  have h_Req := run_toReq a.req
  unfold M.reqV at h_Req
  try simp only [] at h_Req
  rw [RUN_eq, prog_laws_toEntry]
  simp [pf_laws_toEntry, M.entryV, h_Ver, h_Prior, h_Req]
theorem run_toEntryS {xs : List (M.Entry)} (hb : (xs.length + sumN M.needEntry xs) ≤ 1048576) : RUN CC fn_laws_toEntryS [.sl 0 ty_laws_Entry (xs.map (M.entryV))] = some ([.sl 2 ty_impl_Entry (xs.map (M.entryV))], []) := by
  have h := run_toS (C := CC) (e1 := ty_laws_Entry) (e2 := ty_impl_Entry) (n := 10) (by_ := 88) (zs := [.int .i64 0, .int .i64 0, .int .i64 0, .int .i64 0, .str ⟨#[]⟩, .bool false, .int .i64 0, .int .i64 0, .int .i64 0, .int .i64 0]) (g := fn_laws_toEntry) prog_laws_toEntryS modes_laws_toEntry rfl (xs := xs.map fun a => (M.entryV a).cells) (ys := xs.map fun a => (M.entryV a).cells) (by simp) (by simp; omega) (by simp; omega) (by
    intro i h
    simp only [List.length_map] at h
    simp only [List.getElem_map]
    have hs := sumN_le M.needEntry (List.getElem_mem h)
    have h2 := run_toEntry xs[i] (by omega)
    exact ⟨rfl, by simp [calmL, M.entryV], rfl, h2⟩)
  simp only [List.map_map] at h
  exact h
theorem run_toHead (a : M.Head) (hb : M.needHead a ≤ 1048576) : RUN CC fn_laws_toHead [M.headV a] = some ([M.headV a], []) := by
  have h_Ver := run_toVer a.ver
  unfold M.verV at h_Ver
  try simp only [] at h_Ver
  rw [RUN_eq, prog_laws_toHead]
  simp [pf_laws_toHead, M.headV, h_Ver]
theorem run_toHeadS {xs : List (M.Head)} (hb : (xs.length + sumN M.needHead xs) ≤ 1048576) : RUN CC fn_laws_toHeadS [.sl 0 ty_laws_Head (xs.map (M.headV))] = some ([.sl 2 ty_impl_Head (xs.map (M.headV))], []) := by
  have h := run_toS (C := CC) (e1 := ty_laws_Head) (e2 := ty_impl_Head) (n := 5) (by_ := 48) (zs := [.str ⟨#[]⟩, .int .i64 0, .int .i64 0, .int .i64 0, .int .i64 0]) (g := fn_laws_toHead) prog_laws_toHeadS modes_laws_toHead rfl (xs := xs.map fun a => (M.headV a).cells) (ys := xs.map fun a => (M.headV a).cells) (by simp) (by simp; omega) (by simp; omega) (by
    intro i h
    simp only [List.length_map] at h
    simp only [List.getElem_map]
    have hs := sumN_le M.needHead (List.getElem_mem h)
    have h2 := run_toHead xs[i] (by omega)
    exact ⟨rfl, by simp [calmL, M.headV], rfl, h2⟩)
  simp only [List.map_map] at h
  exact h
theorem run_toLast (a : M.Last) : RUN CC fn_laws_toLast [M.lastV a] = some ([M.lastV a], []) := by
  have h_Ver := run_toVer a.ver
  unfold M.verV at h_Ver
  try simp only [] at h_Ver
  rw [RUN_eq, prog_laws_toLast]
  simp [pf_laws_toLast, M.lastV, h_Ver]
theorem run_toLastS {xs : List (M.Last)} (hb : (xs.length) ≤ 1048576) : RUN CC fn_laws_toLastS [.sl 0 ty_laws_Last (xs.map (M.lastV))] = some ([.sl 2 ty_impl_Last (xs.map (M.lastV))], []) := by
  have h := run_toS (C := CC) (e1 := ty_laws_Last) (e2 := ty_impl_Last) (n := 4) (by_ := 32) (zs := [.int .i64 0, .int .i64 0, .int .i64 0, .int .i64 0]) (g := fn_laws_toLast) prog_laws_toLastS modes_laws_toLast rfl (xs := xs.map fun a => (M.lastV a).cells) (ys := xs.map fun a => (M.lastV a).cells) (by simp) (by simp; omega) (by simp; omega) (by
    intro i h
    simp only [List.length_map] at h
    simp only [List.getElem_map]
    have h2 := run_toLast xs[i]
    exact ⟨rfl, by simp [calmL, M.lastV], rfl, h2⟩)
  simp only [List.map_map] at h
  exact h
theorem run_toPg (a : M.Pg) : RUN CC fn_laws_toPg [M.pgV a] = some ([M.pgV a], []) := by
  rw [RUN_eq, prog_laws_toPg]
  simp [pf_laws_toPg, M.pgV]
theorem run_toPgState (a : M.PgState) (hb : M.needPgState a ≤ 1048576) : RUN CC fn_laws_toPgState [M.pgStateV 0 false a] = some ([M.pgStateV 2 true a], []) := by
  have h_Pg := run_toPg a.pg
  unfold M.pgV at h_Pg
  try simp only [] at h_Pg
  have h_Tail := run_toVer a.tail
  unfold M.verV at h_Tail
  try simp only [] at h_Tail
  have h_Base := run_toHeadS (xs := a.base) (by simp only [M.needPgState] at hb; omega)
  have h_Clients := run_toLastS (xs := a.clients) (by simp only [M.needPgState] at hb; omega)
  have h_Log := run_toEntryS (xs := a.log) (by simp only [M.needPgState] at hb; omega)
  have h_Firm := run_toVer a.firm
  unfold M.verV at h_Firm
  try simp only [] at h_Firm
  have h_Chunks := run_toChunkS (xs := a.chunks) (by simp only [M.needPgState] at hb; omega)
  rw [RUN_eq, prog_laws_toPgState]
  simp [pf_laws_toPgState, M.pgStateV, h_Pg, h_Tail, h_Base, h_Clients, h_Log, h_Firm, h_Chunks]
theorem run_toPgStateS {xs : List (M.PgState)} (hb : (xs.length + sumN M.needPgState xs) ≤ 1048576) : RUN CC fn_laws_toPgStateS [.sl 0 ty_laws_PgState (xs.map (M.pgStateV 0 false))] = some ([.sl 2 ty_impl_PgState (xs.map (M.pgStateV 2 true))], []) := by
  have h := run_toS (C := CC) (e1 := ty_laws_PgState) (e2 := ty_impl_PgState) (n := 12) (by_ := 160) (zs := [.int .i64 0, .int .i64 0, .int .i64 0, .int .i64 0, .int .i64 0, .int .i64 0, .sl 2 ty_impl_Head [], .sl 2 ty_impl_Last [], .sl 2 ty_impl_Entry [], .int .i64 0, .int .i64 0, .sl 2 ty_impl_Chunk []]) (g := fn_laws_toPgState) prog_laws_toPgStateS modes_laws_toPgState rfl (xs := xs.map fun a => (M.pgStateV 0 false a).cells) (ys := xs.map fun a => (M.pgStateV 2 true a).cells) (by simp) (by simp; omega) (by simp; omega) (by
    intro i h
    simp only [List.length_map] at h
    simp only [List.getElem_map]
    have hs := sumN_le M.needPgState (List.getElem_mem h)
    have h2 := run_toPgState xs[i] (by omega)
    exact ⟨rfl, by simp [calmL, M.pgStateV], rfl, h2⟩)
  simp only [List.map_map] at h
  exact h
theorem run_toStore (a : M.Store) (hb : M.needStore a ≤ 1048576) : RUN CC fn_laws_toStore [M.storeV 0 false a] = some ([M.storeV 2 true a], []) := by
  have h_Live := run_toPgStateS (xs := a.live) (by simp only [M.needStore] at hb; omega)
  have h_Kept := run_toPgStateS (xs := a.kept) (by simp only [M.needStore] at hb; omega)
  rw [RUN_eq, prog_laws_toStore]
  simp [pf_laws_toStore, M.storeV, h_Live, h_Kept]
theorem run_eqVer (a : M.Ver) : RUN CC fn_laws_eqVer [M.verV a, M.verV a] = some ([.bool true], []) := by
  rw [RUN_eq, prog_laws_eqVer]
  simp [pf_laws_eqVer, M.verV]
theorem run_eqChunk (a : M.Chunk) (hb : M.needChunk a ≤ 1048576) : RUN CC fn_laws_eqChunk [M.chunkV a, M.chunkV a] = some ([.bool true], []) := by
  have h_Ver := run_eqVer a.ver
  unfold M.verV at h_Ver
  try simp only [] at h_Ver
  rw [RUN_eq, prog_laws_eqChunk]
  simp [pf_laws_eqChunk, M.chunkV, h_Ver]
theorem run_eqChunkS {xs : List (M.Chunk)} (hb : (xs.length + sumN M.needChunk xs) ≤ 1048576) : RUN CC fn_laws_eqChunkS [.sl 0 ty_impl_Chunk (xs.map (M.chunkV)), .sl 0 ty_impl_Chunk (xs.map (M.chunkV))] = some ([.bool true], []) := by
  have h := run_eqS (C := CC) (e := ty_impl_Chunk) (n := 6) (g := fn_laws_eqChunk) prog_laws_eqChunkS modes_laws_eqChunk (xs := xs.map fun a => (M.chunkV a).cells) (by simp; omega) (by
    intro x hx
    obtain ⟨a, ha, rfl⟩ := List.mem_map.1 hx
    have hs := sumN_le M.needChunk ha
    have h2 := run_eqChunk a (by omega)
    exact ⟨rfl, by simp [calmL, M.chunkV], h2⟩)
  simp only [List.map_map] at h
  exact h
theorem run_eqReq (a : M.Req) : RUN CC fn_laws_eqReq [M.reqV a, M.reqV a] = some ([.bool true], []) := by
  rw [RUN_eq, prog_laws_eqReq]
  simp [pf_laws_eqReq, M.reqV]
theorem run_eqEntry (a : M.Entry) (hb : M.needEntry a ≤ 1048576) : RUN CC fn_laws_eqEntry [M.entryV a, M.entryV a] = some ([.bool true], []) := by
  have h_Ver := run_eqVer a.ver
  unfold M.verV at h_Ver
  try simp only [] at h_Ver
  have h_Prior := run_eqVer a.prior
  unfold M.verV at h_Prior
  try simp only [] at h_Prior
  have h_Req := run_eqReq a.req
  unfold M.reqV at h_Req
  try simp only [] at h_Req
  rw [RUN_eq, prog_laws_eqEntry]
  simp [pf_laws_eqEntry, M.entryV, h_Ver, h_Prior, h_Req]
theorem run_eqEntryS {xs : List (M.Entry)} (hb : (xs.length + sumN M.needEntry xs) ≤ 1048576) : RUN CC fn_laws_eqEntryS [.sl 0 ty_impl_Entry (xs.map (M.entryV)), .sl 0 ty_impl_Entry (xs.map (M.entryV))] = some ([.bool true], []) := by
  have h := run_eqS (C := CC) (e := ty_impl_Entry) (n := 10) (g := fn_laws_eqEntry) prog_laws_eqEntryS modes_laws_eqEntry (xs := xs.map fun a => (M.entryV a).cells) (by simp; omega) (by
    intro x hx
    obtain ⟨a, ha, rfl⟩ := List.mem_map.1 hx
    have hs := sumN_le M.needEntry ha
    have h2 := run_eqEntry a (by omega)
    exact ⟨rfl, by simp [calmL, M.entryV], h2⟩)
  simp only [List.map_map] at h
  exact h
theorem run_eqHead (a : M.Head) (hb : M.needHead a ≤ 1048576) : RUN CC fn_laws_eqHead [M.headV a, M.headV a] = some ([.bool true], []) := by
  have h_Ver := run_eqVer a.ver
  unfold M.verV at h_Ver
  try simp only [] at h_Ver
  rw [RUN_eq, prog_laws_eqHead]
  simp [pf_laws_eqHead, M.headV, h_Ver]
theorem run_eqHeadS {xs : List (M.Head)} (hb : (xs.length + sumN M.needHead xs) ≤ 1048576) : RUN CC fn_laws_eqHeadS [.sl 0 ty_impl_Head (xs.map (M.headV)), .sl 0 ty_impl_Head (xs.map (M.headV))] = some ([.bool true], []) := by
  have h := run_eqS (C := CC) (e := ty_impl_Head) (n := 5) (g := fn_laws_eqHead) prog_laws_eqHeadS modes_laws_eqHead (xs := xs.map fun a => (M.headV a).cells) (by simp; omega) (by
    intro x hx
    obtain ⟨a, ha, rfl⟩ := List.mem_map.1 hx
    have hs := sumN_le M.needHead ha
    have h2 := run_eqHead a (by omega)
    exact ⟨rfl, by simp [calmL, M.headV], h2⟩)
  simp only [List.map_map] at h
  exact h
theorem run_eqLast (a : M.Last) : RUN CC fn_laws_eqLast [M.lastV a, M.lastV a] = some ([.bool true], []) := by
  have h_Ver := run_eqVer a.ver
  unfold M.verV at h_Ver
  try simp only [] at h_Ver
  rw [RUN_eq, prog_laws_eqLast]
  simp [pf_laws_eqLast, M.lastV, h_Ver]
theorem run_eqLastS {xs : List (M.Last)} (hb : (xs.length) ≤ 1048576) : RUN CC fn_laws_eqLastS [.sl 0 ty_impl_Last (xs.map (M.lastV)), .sl 0 ty_impl_Last (xs.map (M.lastV))] = some ([.bool true], []) := by
  have h := run_eqS (C := CC) (e := ty_impl_Last) (n := 4) (g := fn_laws_eqLast) prog_laws_eqLastS modes_laws_eqLast (xs := xs.map fun a => (M.lastV a).cells) (by simp; omega) (by
    intro x hx
    obtain ⟨a, ha, rfl⟩ := List.mem_map.1 hx
    have h2 := run_eqLast a
    exact ⟨rfl, by simp [calmL, M.lastV], h2⟩)
  simp only [List.map_map] at h
  exact h
theorem run_eqPg (a : M.Pg) : RUN CC fn_laws_eqPg [M.pgV a, M.pgV a] = some ([.bool true], []) := by
  rw [RUN_eq, prog_laws_eqPg]
  simp [pf_laws_eqPg, M.pgV]
theorem run_eqPgState (a : M.PgState) (hb : M.needPgState a ≤ 1048576) : RUN CC fn_laws_eqPgState [M.pgStateV 0 true a, M.pgStateV 0 true a] = some ([.bool true], []) := by
  have h_Pg := run_eqPg a.pg
  unfold M.pgV at h_Pg
  try simp only [] at h_Pg
  have h_Tail := run_eqVer a.tail
  unfold M.verV at h_Tail
  try simp only [] at h_Tail
  have h_Base := run_eqHeadS (xs := a.base) (by simp only [M.needPgState] at hb; omega)
  have h_Clients := run_eqLastS (xs := a.clients) (by simp only [M.needPgState] at hb; omega)
  have h_Log := run_eqEntryS (xs := a.log) (by simp only [M.needPgState] at hb; omega)
  have h_Firm := run_eqVer a.firm
  unfold M.verV at h_Firm
  try simp only [] at h_Firm
  have h_Chunks := run_eqChunkS (xs := a.chunks) (by simp only [M.needPgState] at hb; omega)
  rw [RUN_eq, prog_laws_eqPgState]
  simp [pf_laws_eqPgState, M.pgStateV, h_Pg, h_Tail, h_Base, h_Clients, h_Log, h_Firm, h_Chunks]
theorem run_eqPgStateS {xs : List (M.PgState)} (hb : (xs.length + sumN M.needPgState xs) ≤ 1048576) : RUN CC fn_laws_eqPgStateS [.sl 0 ty_impl_PgState (xs.map (M.pgStateV 0 true)), .sl 0 ty_impl_PgState (xs.map (M.pgStateV 0 true))] = some ([.bool true], []) := by
  have h := run_eqS (C := CC) (e := ty_impl_PgState) (n := 12) (g := fn_laws_eqPgState) prog_laws_eqPgStateS modes_laws_eqPgState (xs := xs.map fun a => (M.pgStateV 0 true a).cells) (by simp; omega) (by
    intro x hx
    obtain ⟨a, ha, rfl⟩ := List.mem_map.1 hx
    have hs := sumN_le M.needPgState ha
    have h2 := run_eqPgState a (by omega)
    exact ⟨rfl, by simp [calmL, M.pgStateV], h2⟩)
  simp only [List.map_map] at h
  exact h
theorem run_eqStore (a : M.Store) (hb : M.needStore a ≤ 1048576) : RUN CC fn_laws_eqStore [M.storeV 0 true a, M.storeV 0 true a] = some ([.bool true], []) := by
  have h_Live := run_eqPgStateS (xs := a.live) (by simp only [M.needStore] at hb; omega)
  have h_Kept := run_eqPgStateS (xs := a.kept) (by simp only [M.needStore] at hb; omega)
  rw [RUN_eq, prog_laws_eqStore]
  simp [pf_laws_eqStore, M.storeV, h_Live, h_Kept]
theorem run_szChunk (a : M.Chunk) {left : Int} (h0 : 0 ≤ left) (h1 : left ≤ 4611686018427387904) (hb : M.okChunk a) : RUN CC fn_laws_szChunk [M.chunkV a, .int .i64 left] = some ([.int .i64 (szR left (M.needChunk a))], []) := by
  have hN : M.needChunk a = a.name.size + a.bytes.size := rfl
  have q0 : a.name.size ≤ 9223372036854775807 := by simp only [M.okChunk] at hb; grind
  have q1 : a.bytes.size ≤ 9223372036854775807 := by simp only [M.okChunk] at hb; grind
  rw [hN]
  clear hN hb
  generalize e0 : a.name.size = n0 at *
  generalize e1 : a.bytes.size = n1 at *
  rw [RUN_eq, prog_laws_szChunk]
  by_cases m0 : left < n0
  · have g0 : left - n0 < 0 := by omega
    rw [szR_lt (by omega)]
    simp (disch := omega) [pf_laws_szChunk, M.chunkV, IntWalk.i64_in, e0, g0]
  · have g0 : ¬ left - n0 < 0 := by omega
    by_cases m1 : left - n0 < n1
    · have g1 : left - n0 - n1 < 0 := by omega
      rw [szR_lt (by omega)]
      simp (disch := omega) [pf_laws_szChunk, M.chunkV, IntWalk.i64_in, e0, g0, e1, g1]
    · have g1 : ¬ left - n0 - n1 < 0 := by omega
      rw [szR_ge (by omega), show left - ((n0 + n1 : Nat) : Int) = left - n0 - n1 by omega]
      simp (disch := omega) [pf_laws_szChunk, M.chunkV, IntWalk.i64_in, e0, g0, e1, g1]
theorem run_szChunkS {xs : List (M.Chunk)} {left : Int} (h0 : 0 ≤ left) (h1 : left ≤ 4611686018427387904) (hb : xs.length ≤ 9223372036854775807 ∧ (∀ x ∈ xs, M.okChunk x)) : RUN CC fn_laws_szChunkS [.sl 0 ty_laws_Chunk (xs.map (M.chunkV)), .int .i64 left] = some ([.int .i64 (szR left (xs.length + sumN M.needChunk xs))], []) := by
  have h := run_szS (C := CC) (e := ty_laws_Chunk) (n := 6) (g := fn_laws_szChunk) prog_laws_szChunkS modes_laws_szChunk (fun a => (M.chunkV a).cells) (M.needChunk) (xs := xs) hb.1 h0 h1 (by
    intro a ha
    exact ⟨rfl, by simp [calmL, M.chunkV], fun left h0 h1 => run_szChunk a h0 h1 (hb.2 a ha)⟩)
  exact h
theorem run_szEntry (a : M.Entry) {left : Int} (h0 : 0 ≤ left) (h1 : left ≤ 4611686018427387904) (hb : M.okEntry a) : RUN CC fn_laws_szEntry [M.entryV a, .int .i64 left] = some ([.int .i64 (szR left (M.needEntry a))], []) := by
  have hN : M.needEntry a = a.name.size := rfl
  have q0 : a.name.size ≤ 9223372036854775807 := by simp only [M.okEntry] at hb; grind
  rw [hN]
  clear hN hb
  generalize e0 : a.name.size = n0 at *
  rw [RUN_eq, prog_laws_szEntry]
  by_cases m0 : left < n0
  · have g0 : left - n0 < 0 := by omega
    rw [szR_lt (by omega)]
    simp (disch := omega) [pf_laws_szEntry, M.entryV, IntWalk.i64_in, e0, g0]
  · have g0 : ¬ left - n0 < 0 := by omega
    rw [szR_ge (by omega), show left - ((n0 : Nat) : Int) = left - n0 by omega]
    simp (disch := omega) [pf_laws_szEntry, M.entryV, IntWalk.i64_in, e0, g0]
theorem run_szEntryS {xs : List (M.Entry)} {left : Int} (h0 : 0 ≤ left) (h1 : left ≤ 4611686018427387904) (hb : xs.length ≤ 9223372036854775807 ∧ (∀ x ∈ xs, M.okEntry x)) : RUN CC fn_laws_szEntryS [.sl 0 ty_laws_Entry (xs.map (M.entryV)), .int .i64 left] = some ([.int .i64 (szR left (xs.length + sumN M.needEntry xs))], []) := by
  have h := run_szS (C := CC) (e := ty_laws_Entry) (n := 10) (g := fn_laws_szEntry) prog_laws_szEntryS modes_laws_szEntry (fun a => (M.entryV a).cells) (M.needEntry) (xs := xs) hb.1 h0 h1 (by
    intro a ha
    exact ⟨rfl, by simp [calmL, M.entryV], fun left h0 h1 => run_szEntry a h0 h1 (hb.2 a ha)⟩)
  exact h
theorem run_szHead (a : M.Head) {left : Int} (h0 : 0 ≤ left) (h1 : left ≤ 4611686018427387904) (hb : M.okHead a) : RUN CC fn_laws_szHead [M.headV a, .int .i64 left] = some ([.int .i64 (szR left (M.needHead a))], []) := by
  have hN : M.needHead a = a.name.size := rfl
  have q0 : a.name.size ≤ 9223372036854775807 := by simp only [M.okHead] at hb; grind
  rw [hN]
  clear hN hb
  generalize e0 : a.name.size = n0 at *
  rw [RUN_eq, prog_laws_szHead]
  by_cases m0 : left < n0
  · have g0 : left - n0 < 0 := by omega
    rw [szR_lt (by omega)]
    simp (disch := omega) [pf_laws_szHead, M.headV, IntWalk.i64_in, e0, g0]
  · have g0 : ¬ left - n0 < 0 := by omega
    rw [szR_ge (by omega), show left - ((n0 : Nat) : Int) = left - n0 by omega]
    simp (disch := omega) [pf_laws_szHead, M.headV, IntWalk.i64_in, e0, g0]
theorem run_szHeadS {xs : List (M.Head)} {left : Int} (h0 : 0 ≤ left) (h1 : left ≤ 4611686018427387904) (hb : xs.length ≤ 9223372036854775807 ∧ (∀ x ∈ xs, M.okHead x)) : RUN CC fn_laws_szHeadS [.sl 0 ty_laws_Head (xs.map (M.headV)), .int .i64 left] = some ([.int .i64 (szR left (xs.length + sumN M.needHead xs))], []) := by
  have h := run_szS (C := CC) (e := ty_laws_Head) (n := 5) (g := fn_laws_szHead) prog_laws_szHeadS modes_laws_szHead (fun a => (M.headV a).cells) (M.needHead) (xs := xs) hb.1 h0 h1 (by
    intro a ha
    exact ⟨rfl, by simp [calmL, M.headV], fun left h0 h1 => run_szHead a h0 h1 (hb.2 a ha)⟩)
  exact h
theorem run_szLastS {xs : List (M.Last)} {left : Int} (h0 : 0 ≤ left) (h1 : left ≤ 4611686018427387904) (hb : xs.length ≤ 9223372036854775807) : RUN CC fn_laws_szLastS [.sl 0 ty_laws_Last (xs.map (M.lastV)), .int .i64 left] = some ([.int .i64 (szR left (xs.length))], []) := by
  have h := run_szS0 (C := CC) (e := ty_laws_Last) prog_laws_szLastS (xs := xs.map (M.lastV)) (by simp; omega) h0 h1
  simpa using h
theorem run_szPgState (a : M.PgState) {left : Int} (h0 : 0 ≤ left) (h1 : left ≤ 4611686018427387904) (hb : M.okPgState a) : RUN CC fn_laws_szPgState [M.pgStateV 0 false a, .int .i64 left] = some ([.int .i64 (szR left (M.needPgState a))], []) := by
  have hN : M.needPgState a = (a.base.length + sumN M.needHead a.base) + (a.clients.length) + (a.log.length + sumN M.needEntry a.log) + (a.chunks.length + sumN M.needChunk a.chunks) := rfl
  have k0 : ∀ left : Int, 0 ≤ left → left ≤ 4611686018427387904 → _ := fun left h0 h1 => run_szHeadS (xs := a.base) (left := left) h0 h1 (by simp only [M.okPgState] at hb; grind)
  have k1 : ∀ left : Int, 0 ≤ left → left ≤ 4611686018427387904 → _ := fun left h0 h1 => run_szLastS (xs := a.clients) (left := left) h0 h1 (by simp only [M.okPgState] at hb; grind)
  have k2 : ∀ left : Int, 0 ≤ left → left ≤ 4611686018427387904 → _ := fun left h0 h1 => run_szEntryS (xs := a.log) (left := left) h0 h1 (by simp only [M.okPgState] at hb; grind)
  have k3 : ∀ left : Int, 0 ≤ left → left ≤ 4611686018427387904 → _ := fun left h0 h1 => run_szChunkS (xs := a.chunks) (left := left) h0 h1 (by simp only [M.okPgState] at hb; grind)
  rw [hN]
  clear hN hb
  generalize e0 : (a.base.length + sumN M.needHead a.base) = n0 at *
  generalize e1 : (a.clients.length) = n1 at *
  generalize e2 : (a.log.length + sumN M.needEntry a.log) = n2 at *
  generalize e3 : (a.chunks.length + sumN M.needChunk a.chunks) = n3 at *
  rw [RUN_eq, prog_laws_szPgState]
  have c0 := k0 (left) (by omega) (by omega)
  by_cases m0 : left < n0
  · rw [szR_lt m0] at c0
    rw [szR_lt (by omega)]
    simp (disch := omega) [pf_laws_szPgState, M.pgStateV, IntWalk.i64_in, c0]
  · rw [szR_ge m0] at c0
    have g0 : ¬ left - n0 < 0 := by omega
    have c1 := k1 (left - n0) (by omega) (by omega)
    by_cases m1 : left - n0 < n1
    · rw [szR_lt m1] at c1
      rw [szR_lt (by omega)]
      simp (disch := omega) [pf_laws_szPgState, M.pgStateV, IntWalk.i64_in, c0, g0, c1]
    · rw [szR_ge m1] at c1
      have g1 : ¬ left - n0 - n1 < 0 := by omega
      have c2 := k2 (left - n0 - n1) (by omega) (by omega)
      by_cases m2 : left - n0 - n1 < n2
      · rw [szR_lt m2] at c2
        rw [szR_lt (by omega)]
        simp (disch := omega) [pf_laws_szPgState, M.pgStateV, IntWalk.i64_in, c0, g0, c1, g1, c2]
      · rw [szR_ge m2] at c2
        have g2 : ¬ left - n0 - n1 - n2 < 0 := by omega
        have c3 := k3 (left - n0 - n1 - n2) (by omega) (by omega)
        by_cases m3 : left - n0 - n1 - n2 < n3
        · rw [szR_lt m3] at c3
          rw [szR_lt (by omega)]
          simp (disch := omega) [pf_laws_szPgState, M.pgStateV, IntWalk.i64_in, c0, g0, c1, g1, c2, g2, c3]
        · rw [szR_ge m3] at c3
          have g3 : ¬ left - n0 - n1 - n2 - n3 < 0 := by omega
          rw [szR_ge (by omega), show left - ((n0 + n1 + n2 + n3 : Nat) : Int) = left - n0 - n1 - n2 - n3 by omega]
          simp (disch := omega) [pf_laws_szPgState, M.pgStateV, IntWalk.i64_in, c0, g0, c1, g1, c2, g2, c3, g3]
theorem run_szPgStateS {xs : List (M.PgState)} {left : Int} (h0 : 0 ≤ left) (h1 : left ≤ 4611686018427387904) (hb : xs.length ≤ 9223372036854775807 ∧ (∀ x ∈ xs, M.okPgState x)) : RUN CC fn_laws_szPgStateS [.sl 0 ty_laws_PgState (xs.map (M.pgStateV 0 false)), .int .i64 left] = some ([.int .i64 (szR left (xs.length + sumN M.needPgState xs))], []) := by
  have h := run_szS (C := CC) (e := ty_laws_PgState) (n := 12) (g := fn_laws_szPgState) prog_laws_szPgStateS modes_laws_szPgState (fun a => (M.pgStateV 0 false a).cells) (M.needPgState) (xs := xs) hb.1 h0 h1 (by
    intro a ha
    exact ⟨rfl, by simp [calmL, M.pgStateV], fun left h0 h1 => run_szPgState a h0 h1 (hb.2 a ha)⟩)
  exact h
theorem run_szStore (a : M.Store) {left : Int} (h0 : 0 ≤ left) (h1 : left ≤ 4611686018427387904) (hb : M.okStore a) : RUN CC fn_laws_szStore [M.storeV 0 false a, .int .i64 left] = some ([.int .i64 (szR left (M.needStore a))], []) := by
  have hN : M.needStore a = (a.live.length + sumN M.needPgState a.live) + (a.kept.length + sumN M.needPgState a.kept) := rfl
  have k0 : ∀ left : Int, 0 ≤ left → left ≤ 4611686018427387904 → _ := fun left h0 h1 => run_szPgStateS (xs := a.live) (left := left) h0 h1 (by simp only [M.okStore] at hb; grind)
  have k1 : ∀ left : Int, 0 ≤ left → left ≤ 4611686018427387904 → _ := fun left h0 h1 => run_szPgStateS (xs := a.kept) (left := left) h0 h1 (by simp only [M.okStore] at hb; grind)
  rw [hN]
  clear hN hb
  generalize e0 : (a.live.length + sumN M.needPgState a.live) = n0 at *
  generalize e1 : (a.kept.length + sumN M.needPgState a.kept) = n1 at *
  rw [RUN_eq, prog_laws_szStore]
  have c0 := k0 (left) (by omega) (by omega)
  by_cases m0 : left < n0
  · rw [szR_lt m0] at c0
    rw [szR_lt (by omega)]
    simp (disch := omega) [pf_laws_szStore, M.storeV, IntWalk.i64_in, c0]
  · rw [szR_ge m0] at c0
    have g0 : ¬ left - n0 < 0 := by omega
    have c1 := k1 (left - n0) (by omega) (by omega)
    by_cases m1 : left - n0 < n1
    · rw [szR_lt m1] at c1
      rw [szR_lt (by omega)]
      simp (disch := omega) [pf_laws_szStore, M.storeV, IntWalk.i64_in, c0, g0, c1]
    · rw [szR_ge m1] at c1
      have g1 : ¬ left - n0 - n1 < 0 := by omega
      rw [szR_ge (by omega), show left - ((n0 + n1 : Nat) : Int) = left - n0 - n1 by omega]
      simp (disch := omega) [pf_laws_szStore, M.storeV, IntWalk.i64_in, c0, g0, c1, g1]
theorem size_byte (x : UInt8) : (ByteArray.mk #[x]).size = 1 := rfl
theorem markText_loop {V : List Nat} (hV : V = [0, 3]) : ∀ (n : Nat) (o : ByteArray) (s : St), n + o.size ≤ 4611686018427387904 → s.t 0 = .pv (.int .i64 n) → s.t 3 = .pv (.str o) →
    ∃ s' o', EX CC V pf_laws_markText_l0 s = some (.exit 0, s') ∧ s'.t 3 = .pv (.str o') ∧ o'.size ≤ n + o.size := by
  subst hV
  intro n
  induction n using Nat.strongRecOn with
  | _ n ih =>
    intro o s hb h0 h3
    rw [ex_laws_markText_l0]
    cases n with
    | zero =>
      simp [pf_laws_markText_lb0, h0, h3]
    | succ n =>
      have c1 : (0 : Int) < (n : Int) + 1 := by omega
      have c2 : Int.tmod ((n : Int) + 1) 10 = (((n + 1) % 10 : Nat) : Int) := by
        rw [Int.tmod_eq_emod_of_nonneg (by omega)]; omega
      have c3 : Int.tdiv ((n : Int) + 1) 10 = (((n + 1) / 10 : Nat) : Int) := by
        rw [Int.tdiv_eq_ediv_of_nonneg (by omega)]; omega
      have c4 : ((n + 1) % 10) ≤ 9 := by omega
      generalize hm : (n + 1) % 10 = m at c2 c4
      have c5 : ∀ d : ByteArray, d.size = 1 → (((d ++ o).size : Nat) : Int) ≤ 9223372036854775807 := by
        intro d hd
        rw [ByteArray.size_append]; omega
      have key : ∀ (d : ByteArray) (s1 : St), d.size = 1 → s1.t 0 = .pv (.int .i64 (((n + 1) / 10 : Nat) : Int)) → s1.t 3 = .pv (.str (d ++ o)) → ∃ s' o', EX CC [0, 3] pf_laws_markText_l0 s1 = some (.exit 0, s') ∧ s'.t 3 = .pv (.str o') ∧ o'.size ≤ n + 1 + o.size := by
        intro d s1 hd g0 g3
        obtain ⟨s', o', k1, k2, k3⟩ := ih ((n + 1) / 10) (by omega) (d ++ o) s1 (by rw [ByteArray.size_append]; omega) g0 g3
        refine ⟨s', o', k1, k2, ?_⟩
        rw [ByteArray.size_append] at k3
        omega
      have c7 : ¬ (9223372036854775807 : Int) < 1 + (o.size : Int) := by omega
      have c8 : 1 + o.size ≤ 9223372036854775807 := by omega
      simp (disch := omega) [pf_laws_markText_lb0, h0, h3, c1, c2, c3, c7, c8, bytesOf, size_byte, IntWalk.i64_in]
      generalize hS : ({ t := _, m := _ } : St) = S
      obtain ⟨s', o', k1, k2, k3⟩ := key (⟨#[UInt8.ofNat (IntKind.u8.wrap (48 + (m : Int))).toNat]⟩) S (size_byte _) (by rw [← hS]; simp) (by rw [← hS]; simp)
      exact ⟨s', k1, o', k2, k3⟩
theorem markText_is (k : Int) (h0 : 0 ≤ k) (h1 : k ≤ 4611686018427387904) : ∃ t : ByteArray, RUN CC fn_laws_markText [.int .i64 k] = some ([.str t], []) := by
  obtain ⟨n, rfl⟩ := Int.eq_ofNat_of_zero_le h0
  rw [RUN_eq, prog_laws_markText]
  by_cases c : n = 0
  · subst c
    simp [pf_laws_markText]
  · simp [pf_laws_markText, c]
    generalize hE : EX CC _ pf_laws_markText_l0 _ = E
    obtain ⟨s', o', rfl, h3, hs⟩ : ∃ s' o', E = some (.exit 0, s') ∧ s'.t 3 = .pv (.str o') ∧ o'.size ≤ n + ByteArray.empty.size := by
      rw [← hE]
      refine markText_loop rfl n ByteArray.empty _ (by simp; omega) ?_ ?_
      all_goals simp
      all_goals rfl
    have hs2 : ¬ (9223372036854775807 : Int) < 1 + (o'.size : Int) := by simp at hs; omega
    simp [h3, size_byte, hs2]
open Classical in
noncomputable def markT (k : Int) : ByteArray := if h : ∃ t : ByteArray, RUN CC fn_laws_markText [.int .i64 k] = some ([.str t], []) then Classical.choose h else ByteArray.empty
theorem run_markText {k : Int} (h : 0 ≤ k ∧ k ≤ 4611686018427387904) : RUN CC fn_laws_markText [.int .i64 k] = some ([.str (markT k)], []) := by
  have h2 := markText_is k h.1 h.2
  rw [markT, dif_pos h2]
  exact Classical.choose_spec h2
def M.mkVer (a : M.Ver) : Nat := 1 + 1
def M.mkChunk (a : M.Chunk) : Nat := 1 + 1 + 1 + 1 + 1 + 1
noncomputable def M.mrkChunk (k : Int) (a : M.Chunk) : M.Chunk := { a with name := markT (k), ver := { a.ver with epoch := k + 1, seq := k + 2 }, pos := k + 3, sum := k + 4, bytes := markT (k + 5) }
def M.mkReq (a : M.Req) : Nat := 1 + 1
def M.mkEntry (a : M.Entry) : Nat := 1 + 1 + 1 + 1 + 1 + 1 + 1 + 1 + 1 + 1
noncomputable def M.mrkEntry (k : Int) (a : M.Entry) : M.Entry := { a with ver := { a.ver with epoch := k, seq := k + 1 }, prior := { a.prior with epoch := k + 2, seq := k + 3 }, name := markT (k + 4), gone := ((k + 5).tmod 3 == 0), size := k + 6, sum := k + 7, req := { a.req with client := k + 8, no := k + 9 } }
def M.mkHead (a : M.Head) : Nat := 1 + 1 + 1 + 1 + 1
noncomputable def M.mrkHead (k : Int) (a : M.Head) : M.Head := { a with name := markT (k), ver := { a.ver with epoch := k + 1, seq := k + 2 }, size := k + 3, sum := k + 4 }
def M.mkLast (a : M.Last) : Nat := 1 + 1 + 1 + 1
noncomputable def M.mrkLast (k : Int) (a : M.Last) : M.Last := { a with client := k, no := k + 1, ver := { a.ver with epoch := k + 2, seq := k + 3 } }
def M.mkPg (a : M.Pg) : Nat := 1 + 1
def M.mkPgState (a : M.PgState) : Nat := 1 + 1 + 1 + 1 + 1 + 1 + sumN M.mkHead a.base + sumN M.mkLast a.clients + sumN M.mkEntry a.log + 1 + 1 + sumN M.mkChunk a.chunks
noncomputable def M.mrkPgState (k : Int) (a : M.PgState) : M.PgState := { a with pg := { a.pg with pool := k, no := k + 1 }, seen := k + 2, started := k + 3, tail := { a.tail with epoch := k + 4, seq := k + 5 }, base := mrkL M.mrkHead M.mkHead (k + 6) a.base, clients := mrkL M.mrkLast M.mkLast (k + 6 + ((sumN M.mkHead a.base : Nat) : Int)) a.clients, log := mrkL M.mrkEntry M.mkEntry (k + 6 + ((sumN M.mkHead a.base : Nat) : Int) + ((sumN M.mkLast a.clients : Nat) : Int)) a.log, firm := { a.firm with epoch := k + 6 + ((sumN M.mkHead a.base : Nat) : Int) + ((sumN M.mkLast a.clients : Nat) : Int) + ((sumN M.mkEntry a.log : Nat) : Int), seq := k + 6 + ((sumN M.mkHead a.base : Nat) : Int) + ((sumN M.mkLast a.clients : Nat) : Int) + ((sumN M.mkEntry a.log : Nat) : Int) + 1 }, chunks := mrkL M.mrkChunk M.mkChunk (k + 6 + ((sumN M.mkHead a.base : Nat) : Int) + ((sumN M.mkLast a.clients : Nat) : Int) + ((sumN M.mkEntry a.log : Nat) : Int) + 2) a.chunks }
def M.mkStore (a : M.Store) : Nat := sumN M.mkPgState a.live + sumN M.mkPgState a.kept
theorem run_markChunkS {xs : List (M.Chunk)} {k : Int} (h0 : 0 ≤ k) (hk : k + ((sumN M.mkChunk xs : Nat) : Int) ≤ 4611686018427387904) (hn : (xs.length + sumN M.needChunk xs) ≤ 1048576) : RUN CC fn_laws_markChunkS [.sl 2 ty_impl_Chunk (xs.map (M.chunkV)), .int .i64 k] = some ([.int .i64 (k + ((sumN M.mkChunk xs : Nat) : Int))], [.sl 2 ty_impl_Chunk ((mrkL M.mrkChunk M.mkChunk k xs).map (M.chunkV))]) := by
  rw [RUN_eq, prog_laws_markChunkS]
  simp [pf_laws_markChunkS]
  generalize hE : EX CC _ pf_laws_markChunkS_l0 _ = E
  obtain ⟨s', rfl, e1, e2, e3⟩ : ∃ s', E = some (.exit 0, s') ∧ s'.t 1 = .pv (.int .i64 (k + ((sumN M.mkChunk xs : Nat) : Int))) ∧ s'.m.r 0 = some (.sl 2 ty_impl_Chunk ((mrkL M.mrkChunk M.mkChunk k xs).map (M.chunkV))) ∧ s'.m.kr (.v 0) = 0 := by
    rw [← hE]
    refine mark_loop (F := M.chunkV) (f := M.mrkChunk) (n := M.mkChunk) h0 hk (by omega) ?_ ?_ _ ?_ ?_ ?_ ?_ ?_
    · intro s l hl t0 kr r0 t5
      simp [pf_laws_markChunkS_lb0, t0, kr, r0, t5]
    · intro s l i a k hi ham hl ha h0 hk t0 kr r0 t1 t5
      have hk2 := hk
      simp only [M.mkChunk] at hk2
      simp (disch := omega) [pf_laws_markChunkS_lb0, t0, kr, r0, t1, t5, hi, idxN, ha, setCells, IntWalk.i64_in, M.mrkChunk, M.mkChunk, Int.add_assoc, M.chunkV, run_markText]
    all_goals simp
  simp [e1, e2, e3]
theorem run_markEntryS {xs : List (M.Entry)} {k : Int} (h0 : 0 ≤ k) (hk : k + ((sumN M.mkEntry xs : Nat) : Int) ≤ 4611686018427387904) (hn : (xs.length + sumN M.needEntry xs) ≤ 1048576) : RUN CC fn_laws_markEntryS [.sl 2 ty_impl_Entry (xs.map (M.entryV)), .int .i64 k] = some ([.int .i64 (k + ((sumN M.mkEntry xs : Nat) : Int))], [.sl 2 ty_impl_Entry ((mrkL M.mrkEntry M.mkEntry k xs).map (M.entryV))]) := by
  rw [RUN_eq, prog_laws_markEntryS]
  simp [pf_laws_markEntryS]
  generalize hE : EX CC _ pf_laws_markEntryS_l0 _ = E
  obtain ⟨s', rfl, e1, e2, e3⟩ : ∃ s', E = some (.exit 0, s') ∧ s'.t 1 = .pv (.int .i64 (k + ((sumN M.mkEntry xs : Nat) : Int))) ∧ s'.m.r 0 = some (.sl 2 ty_impl_Entry ((mrkL M.mrkEntry M.mkEntry k xs).map (M.entryV))) ∧ s'.m.kr (.v 0) = 0 := by
    rw [← hE]
    refine mark_loop (F := M.entryV) (f := M.mrkEntry) (n := M.mkEntry) h0 hk (by omega) ?_ ?_ _ ?_ ?_ ?_ ?_ ?_
    · intro s l hl t0 kr r0 t5
      simp [pf_laws_markEntryS_lb0, t0, kr, r0, t5]
    · intro s l i a k hi ham hl ha h0 hk t0 kr r0 t1 t5
      have hk2 := hk
      simp only [M.mkEntry] at hk2
      simp (disch := omega) [pf_laws_markEntryS_lb0, t0, kr, r0, t1, t5, hi, idxN, ha, setCells, IntWalk.i64_in, M.mrkEntry, M.mkEntry, Int.add_assoc, M.entryV, run_markText]
    all_goals simp
  simp [e1, e2, e3]
theorem run_markHeadS {xs : List (M.Head)} {k : Int} (h0 : 0 ≤ k) (hk : k + ((sumN M.mkHead xs : Nat) : Int) ≤ 4611686018427387904) (hn : (xs.length + sumN M.needHead xs) ≤ 1048576) : RUN CC fn_laws_markHeadS [.sl 2 ty_impl_Head (xs.map (M.headV)), .int .i64 k] = some ([.int .i64 (k + ((sumN M.mkHead xs : Nat) : Int))], [.sl 2 ty_impl_Head ((mrkL M.mrkHead M.mkHead k xs).map (M.headV))]) := by
  rw [RUN_eq, prog_laws_markHeadS]
  simp [pf_laws_markHeadS]
  generalize hE : EX CC _ pf_laws_markHeadS_l0 _ = E
  obtain ⟨s', rfl, e1, e2, e3⟩ : ∃ s', E = some (.exit 0, s') ∧ s'.t 1 = .pv (.int .i64 (k + ((sumN M.mkHead xs : Nat) : Int))) ∧ s'.m.r 0 = some (.sl 2 ty_impl_Head ((mrkL M.mrkHead M.mkHead k xs).map (M.headV))) ∧ s'.m.kr (.v 0) = 0 := by
    rw [← hE]
    refine mark_loop (F := M.headV) (f := M.mrkHead) (n := M.mkHead) h0 hk (by omega) ?_ ?_ _ ?_ ?_ ?_ ?_ ?_
    · intro s l hl t0 kr r0 t5
      simp [pf_laws_markHeadS_lb0, t0, kr, r0, t5]
    · intro s l i a k hi ham hl ha h0 hk t0 kr r0 t1 t5
      have hk2 := hk
      simp only [M.mkHead] at hk2
      simp (disch := omega) [pf_laws_markHeadS_lb0, t0, kr, r0, t1, t5, hi, idxN, ha, setCells, IntWalk.i64_in, M.mrkHead, M.mkHead, Int.add_assoc, M.headV, run_markText]
    all_goals simp
  simp [e1, e2, e3]
theorem run_markLastS {xs : List (M.Last)} {k : Int} (h0 : 0 ≤ k) (hk : k + ((sumN M.mkLast xs : Nat) : Int) ≤ 4611686018427387904) (hn : (xs.length) ≤ 1048576) : RUN CC fn_laws_markLastS [.sl 2 ty_impl_Last (xs.map (M.lastV)), .int .i64 k] = some ([.int .i64 (k + ((sumN M.mkLast xs : Nat) : Int))], [.sl 2 ty_impl_Last ((mrkL M.mrkLast M.mkLast k xs).map (M.lastV))]) := by
  rw [RUN_eq, prog_laws_markLastS]
  simp [pf_laws_markLastS]
  generalize hE : EX CC _ pf_laws_markLastS_l0 _ = E
  obtain ⟨s', rfl, e1, e2, e3⟩ : ∃ s', E = some (.exit 0, s') ∧ s'.t 1 = .pv (.int .i64 (k + ((sumN M.mkLast xs : Nat) : Int))) ∧ s'.m.r 0 = some (.sl 2 ty_impl_Last ((mrkL M.mrkLast M.mkLast k xs).map (M.lastV))) ∧ s'.m.kr (.v 0) = 0 := by
    rw [← hE]
    refine mark_loop (F := M.lastV) (f := M.mrkLast) (n := M.mkLast) h0 hk (by omega) ?_ ?_ _ ?_ ?_ ?_ ?_ ?_
    · intro s l hl t0 kr r0 t5
      simp [pf_laws_markLastS_lb0, t0, kr, r0, t5]
    · intro s l i a k hi ham hl ha h0 hk t0 kr r0 t1 t5
      have hk2 := hk
      simp only [M.mkLast] at hk2
      simp (disch := omega) [pf_laws_markLastS_lb0, t0, kr, r0, t1, t5, hi, idxN, ha, setCells, IntWalk.i64_in, M.mrkLast, M.mkLast, Int.add_assoc, M.lastV, run_markText]
    all_goals simp
  simp [e1, e2, e3]
theorem run_markPgState (a : M.PgState) {k : Int} (h0 : 0 ≤ k) (hk : k + ((sumN M.mkHead a.base : Nat) : Int) + ((sumN M.mkLast a.clients : Nat) : Int) + ((sumN M.mkEntry a.log : Nat) : Int) + ((sumN M.mkChunk a.chunks : Nat) : Int) ≤ 4611686018427387904) (hn : M.needPgState a ≤ 1048576) : RUN CC fn_laws_markPgState [M.pgStateV 2 true a, .int .i64 k] = some ([.int .i64 (k + ((sumN M.mkHead a.base : Nat) : Int) + ((sumN M.mkLast a.clients : Nat) : Int) + ((sumN M.mkEntry a.log : Nat) : Int) + ((sumN M.mkChunk a.chunks : Nat) : Int))], [.agg [.nilp, .nilp, .nilp, .nilp, .nilp, .nilp, .sl 2 ty_impl_Head ((mrkL M.mrkHead M.mkHead (k) a.base).map (M.headV)), .sl 2 ty_impl_Last ((mrkL M.mrkLast M.mkLast (k + ((sumN M.mkHead a.base : Nat) : Int)) a.clients).map (M.lastV)), .sl 2 ty_impl_Entry ((mrkL M.mrkEntry M.mkEntry (k + ((sumN M.mkHead a.base : Nat) : Int) + ((sumN M.mkLast a.clients : Nat) : Int)) a.log).map (M.entryV)), .nilp, .nilp, .sl 2 ty_impl_Chunk ((mrkL M.mrkChunk M.mkChunk (k + ((sumN M.mkHead a.base : Nat) : Int) + ((sumN M.mkLast a.clients : Nat) : Int) + ((sumN M.mkEntry a.log : Nat) : Int)) a.chunks).map (M.chunkV))]]) := by
  have hn' := hn
  simp only [M.needPgState] at hn'
  have h_Base := run_markHeadS (xs := a.base) (k := k) (by omega) (by omega) (by omega)
  have h_Clients := run_markLastS (xs := a.clients) (k := k + ((sumN M.mkHead a.base : Nat) : Int)) (by omega) (by omega) (by omega)
  have h_Log := run_markEntryS (xs := a.log) (k := k + ((sumN M.mkHead a.base : Nat) : Int) + ((sumN M.mkLast a.clients : Nat) : Int)) (by omega) (by omega) (by omega)
  have h_Chunks := run_markChunkS (xs := a.chunks) (k := k + ((sumN M.mkHead a.base : Nat) : Int) + ((sumN M.mkLast a.clients : Nat) : Int) + ((sumN M.mkEntry a.log : Nat) : Int)) (by omega) (by omega) (by omega)
  rw [RUN_eq, prog_laws_markPgState]
  simp [pf_laws_markPgState, M.pgStateV, rowCells, rowMem, rowVar, rowBacks, Mem.hideRoot, h_Base, h_Clients, h_Log, h_Chunks]
theorem run_markPgStateS {xs : List (M.PgState)} {k : Int} (h0 : 0 ≤ k) (hk : k + ((sumN M.mkPgState xs : Nat) : Int) ≤ 4611686018427387904) (hn : (xs.length + sumN M.needPgState xs) ≤ 1048576) : RUN CC fn_laws_markPgStateS [.sl 2 ty_impl_PgState (xs.map (M.pgStateV 2 true)), .int .i64 k] = some ([.int .i64 (k + ((sumN M.mkPgState xs : Nat) : Int))], [.sl 2 ty_impl_PgState ((mrkL M.mrkPgState M.mkPgState k xs).map (M.pgStateV 2 true))]) := by
  rw [RUN_eq, prog_laws_markPgStateS]
  simp [pf_laws_markPgStateS]
  generalize hE : EX CC _ pf_laws_markPgStateS_l0 _ = E
  obtain ⟨s', rfl, e1, e2, e3⟩ : ∃ s', E = some (.exit 0, s') ∧ s'.t 1 = .pv (.int .i64 (k + ((sumN M.mkPgState xs : Nat) : Int))) ∧ s'.m.r 0 = some (.sl 2 ty_impl_PgState ((mrkL M.mrkPgState M.mkPgState k xs).map (M.pgStateV 2 true))) ∧ s'.m.kr (.v 0) = 0 := by
    rw [← hE]
    refine mark_loop (F := M.pgStateV 2 true) (f := M.mrkPgState) (n := M.mkPgState) h0 hk (by omega) ?_ ?_ _ ?_ ?_ ?_ ?_ ?_
    · intro s l hl t0 kr r0 t5
      simp [pf_laws_markPgStateS_lb0, t0, kr, r0, t5]
    · intro s l i a k hi ham hl ha h0 hk t0 kr r0 t1 t5
      have hk2 := hk
      simp only [M.mkPgState] at hk2
      have c0 := run_markHeadS (xs := a.base) (k := k + 6) (by omega) (by simp only [M.mkPgState] at hk; omega) (by have hna := sumN_le M.needPgState ham; simp only [M.needPgState] at hna; omega)
      try simp only [Int.add_assoc] at c0
      have c1 := run_markLastS (xs := a.clients) (k := k + 6 + ((sumN M.mkHead a.base : Nat) : Int)) (by omega) (by simp only [M.mkPgState] at hk; omega) (by have hna := sumN_le M.needPgState ham; simp only [M.needPgState] at hna; omega)
      try simp only [Int.add_assoc] at c1
      have c2 := run_markEntryS (xs := a.log) (k := k + 6 + ((sumN M.mkHead a.base : Nat) : Int) + ((sumN M.mkLast a.clients : Nat) : Int)) (by omega) (by simp only [M.mkPgState] at hk; omega) (by have hna := sumN_le M.needPgState ham; simp only [M.needPgState] at hna; omega)
      try simp only [Int.add_assoc] at c2
      have c3 := run_markChunkS (xs := a.chunks) (k := k + 6 + ((sumN M.mkHead a.base : Nat) : Int) + ((sumN M.mkLast a.clients : Nat) : Int) + ((sumN M.mkEntry a.log : Nat) : Int) + 2) (by omega) (by simp only [M.mkPgState] at hk; omega) (by have hna := sumN_le M.needPgState ham; simp only [M.needPgState] at hna; omega)
      try simp only [Int.add_assoc] at c3
      simp (disch := omega) [pf_laws_markPgStateS_lb0, t0, kr, r0, t1, t5, hi, idxN, ha, setCells, IntWalk.i64_in, M.mrkPgState, M.mkPgState, Int.add_assoc, M.pgStateV, c0, c1, c2, c3, run_markText]
    all_goals simp
  simp [e1, e2, e3]
theorem run_markStore (a : M.Store) {k : Int} (h0 : 0 ≤ k) (hk : k + ((sumN M.mkPgState a.live : Nat) : Int) + ((sumN M.mkPgState a.kept : Nat) : Int) ≤ 4611686018427387904) (hn : M.needStore a ≤ 1048576) : RUN CC fn_laws_markStore [M.storeV 2 true a, .int .i64 k] = some ([.int .i64 (k + ((sumN M.mkPgState a.live : Nat) : Int) + ((sumN M.mkPgState a.kept : Nat) : Int))], [.agg [.sl 2 ty_impl_PgState ((mrkL M.mrkPgState M.mkPgState (k) a.live).map (M.pgStateV 2 true)), .sl 2 ty_impl_PgState ((mrkL M.mrkPgState M.mkPgState (k + ((sumN M.mkPgState a.live : Nat) : Int)) a.kept).map (M.pgStateV 2 true))]]) := by
  have hn' := hn
  simp only [M.needStore] at hn'
  have h_Live := run_markPgStateS (xs := a.live) (k := k) (by omega) (by omega) (by omega)
  have h_Kept := run_markPgStateS (xs := a.kept) (k := k + ((sumN M.mkPgState a.live : Nat) : Int)) (by omega) (by omega) (by omega)
  rw [RUN_eq, prog_laws_markStore]
  simp [pf_laws_markStore, M.storeV, rowCells, rowMem, rowVar, rowBacks, Mem.hideRoot, h_Live, h_Kept]
theorem run_heldChunkS {xs : List (M.Chunk)} {k : Int} (h0 : 0 ≤ k) (hk : k + ((sumN M.mkChunk xs : Nat) : Int) ≤ 4611686018427387904) (hn : (xs.length + sumN M.needChunk xs) ≤ 1048576) : RUN CC fn_laws_heldChunkS [.sl 0 ty_impl_Chunk ((mrkL M.mrkChunk M.mkChunk k xs).map (M.chunkV)), .int .i64 k] = some ([.int .i64 (k + ((sumN M.mkChunk xs : Nat) : Int))], []) := by
  rw [RUN_eq, prog_laws_heldChunkS]
  simp [pf_laws_heldChunkS]
  generalize hE : EX CC _ pf_laws_heldChunkS_l0 _ = E
  obtain ⟨s', rfl, e1⟩ : ∃ s', E = some (.exit 0, s') ∧ s'.t 1 = .pv (.int .i64 (k + ((sumN M.mkChunk xs : Nat) : Int))) := by
    rw [← hE]
    refine held_loop (ty := ty_impl_Chunk) (F := M.chunkV) (f := M.mrkChunk) (n := M.mkChunk) h0 hk (by omega) ?_ ?_ _ ?_ ?_ ?_
    · intro s l hl t0 t5
      simp [pf_laws_heldChunkS_lb0, t0, t5]
    · intro s l i a k hi ham hl ha h0 hk t0 t1 t5
      have hk2 := hk
      simp only [M.mkChunk] at hk2
      simp (disch := omega) [pf_laws_heldChunkS_lb0, t0, t1, t5, hi, idxN, ha, IntWalk.i64_in, M.mrkChunk, M.mkChunk, Int.add_assoc, M.chunkV, run_markText]
    all_goals simp
  simp [e1]
theorem run_heldEntryS {xs : List (M.Entry)} {k : Int} (h0 : 0 ≤ k) (hk : k + ((sumN M.mkEntry xs : Nat) : Int) ≤ 4611686018427387904) (hn : (xs.length + sumN M.needEntry xs) ≤ 1048576) : RUN CC fn_laws_heldEntryS [.sl 0 ty_impl_Entry ((mrkL M.mrkEntry M.mkEntry k xs).map (M.entryV)), .int .i64 k] = some ([.int .i64 (k + ((sumN M.mkEntry xs : Nat) : Int))], []) := by
  rw [RUN_eq, prog_laws_heldEntryS]
  simp [pf_laws_heldEntryS]
  generalize hE : EX CC _ pf_laws_heldEntryS_l0 _ = E
  obtain ⟨s', rfl, e1⟩ : ∃ s', E = some (.exit 0, s') ∧ s'.t 1 = .pv (.int .i64 (k + ((sumN M.mkEntry xs : Nat) : Int))) := by
    rw [← hE]
    refine held_loop (ty := ty_impl_Entry) (F := M.entryV) (f := M.mrkEntry) (n := M.mkEntry) h0 hk (by omega) ?_ ?_ _ ?_ ?_ ?_
    · intro s l hl t0 t5
      simp [pf_laws_heldEntryS_lb0, t0, t5]
    · intro s l i a k hi ham hl ha h0 hk t0 t1 t5
      have hk2 := hk
      simp only [M.mkEntry] at hk2
      simp (disch := omega) [pf_laws_heldEntryS_lb0, t0, t1, t5, hi, idxN, ha, IntWalk.i64_in, M.mrkEntry, M.mkEntry, Int.add_assoc, M.entryV, run_markText]
    all_goals simp
  simp [e1]
theorem run_heldHeadS {xs : List (M.Head)} {k : Int} (h0 : 0 ≤ k) (hk : k + ((sumN M.mkHead xs : Nat) : Int) ≤ 4611686018427387904) (hn : (xs.length + sumN M.needHead xs) ≤ 1048576) : RUN CC fn_laws_heldHeadS [.sl 0 ty_impl_Head ((mrkL M.mrkHead M.mkHead k xs).map (M.headV)), .int .i64 k] = some ([.int .i64 (k + ((sumN M.mkHead xs : Nat) : Int))], []) := by
  rw [RUN_eq, prog_laws_heldHeadS]
  simp [pf_laws_heldHeadS]
  generalize hE : EX CC _ pf_laws_heldHeadS_l0 _ = E
  obtain ⟨s', rfl, e1⟩ : ∃ s', E = some (.exit 0, s') ∧ s'.t 1 = .pv (.int .i64 (k + ((sumN M.mkHead xs : Nat) : Int))) := by
    rw [← hE]
    refine held_loop (ty := ty_impl_Head) (F := M.headV) (f := M.mrkHead) (n := M.mkHead) h0 hk (by omega) ?_ ?_ _ ?_ ?_ ?_
    · intro s l hl t0 t5
      simp [pf_laws_heldHeadS_lb0, t0, t5]
    · intro s l i a k hi ham hl ha h0 hk t0 t1 t5
      have hk2 := hk
      simp only [M.mkHead] at hk2
      simp (disch := omega) [pf_laws_heldHeadS_lb0, t0, t1, t5, hi, idxN, ha, IntWalk.i64_in, M.mrkHead, M.mkHead, Int.add_assoc, M.headV, run_markText]
    all_goals simp
  simp [e1]
theorem run_heldLastS {xs : List (M.Last)} {k : Int} (h0 : 0 ≤ k) (hk : k + ((sumN M.mkLast xs : Nat) : Int) ≤ 4611686018427387904) (hn : (xs.length) ≤ 1048576) : RUN CC fn_laws_heldLastS [.sl 0 ty_impl_Last ((mrkL M.mrkLast M.mkLast k xs).map (M.lastV)), .int .i64 k] = some ([.int .i64 (k + ((sumN M.mkLast xs : Nat) : Int))], []) := by
  rw [RUN_eq, prog_laws_heldLastS]
  simp [pf_laws_heldLastS]
  generalize hE : EX CC _ pf_laws_heldLastS_l0 _ = E
  obtain ⟨s', rfl, e1⟩ : ∃ s', E = some (.exit 0, s') ∧ s'.t 1 = .pv (.int .i64 (k + ((sumN M.mkLast xs : Nat) : Int))) := by
    rw [← hE]
    refine held_loop (ty := ty_impl_Last) (F := M.lastV) (f := M.mrkLast) (n := M.mkLast) h0 hk (by omega) ?_ ?_ _ ?_ ?_ ?_
    · intro s l hl t0 t5
      simp [pf_laws_heldLastS_lb0, t0, t5]
    · intro s l i a k hi ham hl ha h0 hk t0 t1 t5
      have hk2 := hk
      simp only [M.mkLast] at hk2
      simp (disch := omega) [pf_laws_heldLastS_lb0, t0, t1, t5, hi, idxN, ha, IntWalk.i64_in, M.mrkLast, M.mkLast, Int.add_assoc, M.lastV, run_markText]
    all_goals simp
  simp [e1]
theorem run_heldPgState (a : M.PgState) {k : Int} (h0 : 0 ≤ k) (hk : k + ((sumN M.mkHead a.base : Nat) : Int) + ((sumN M.mkLast a.clients : Nat) : Int) + ((sumN M.mkEntry a.log : Nat) : Int) + ((sumN M.mkChunk a.chunks : Nat) : Int) ≤ 4611686018427387904) (hn : M.needPgState a ≤ 1048576) : RUN CC fn_laws_heldPgState [.agg [.int .i64 a.pg.pool, .int .i64 a.pg.no, .int .i64 a.seen, .int .i64 a.started, .int .i64 a.tail.epoch, .int .i64 a.tail.seq, .sl 0 ty_impl_Head ((mrkL M.mrkHead M.mkHead (k) a.base).map (M.headV)), .sl 0 ty_impl_Last ((mrkL M.mrkLast M.mkLast (k + ((sumN M.mkHead a.base : Nat) : Int)) a.clients).map (M.lastV)), .sl 0 ty_impl_Entry ((mrkL M.mrkEntry M.mkEntry (k + ((sumN M.mkHead a.base : Nat) : Int) + ((sumN M.mkLast a.clients : Nat) : Int)) a.log).map (M.entryV)), .int .i64 a.firm.epoch, .int .i64 a.firm.seq, .sl 0 ty_impl_Chunk ((mrkL M.mrkChunk M.mkChunk (k + ((sumN M.mkHead a.base : Nat) : Int) + ((sumN M.mkLast a.clients : Nat) : Int) + ((sumN M.mkEntry a.log : Nat) : Int)) a.chunks).map (M.chunkV))], .int .i64 k] = some ([.int .i64 (k + ((sumN M.mkHead a.base : Nat) : Int) + ((sumN M.mkLast a.clients : Nat) : Int) + ((sumN M.mkEntry a.log : Nat) : Int) + ((sumN M.mkChunk a.chunks : Nat) : Int))], []) := by
  have hn' := hn
  simp only [M.needPgState] at hn'
  have h0 := run_heldHeadS (xs := a.base) (k := k) (by omega) (by omega) (by omega)
  have n0 : ¬ k + ((sumN M.mkHead a.base : Nat) : Int) < 0 := by omega
  have h1 := run_heldLastS (xs := a.clients) (k := k + ((sumN M.mkHead a.base : Nat) : Int)) (by omega) (by omega) (by omega)
  have n1 : ¬ k + ((sumN M.mkHead a.base : Nat) : Int) + ((sumN M.mkLast a.clients : Nat) : Int) < 0 := by omega
  have h2 := run_heldEntryS (xs := a.log) (k := k + ((sumN M.mkHead a.base : Nat) : Int) + ((sumN M.mkLast a.clients : Nat) : Int)) (by omega) (by omega) (by omega)
  have n2 : ¬ k + ((sumN M.mkHead a.base : Nat) : Int) + ((sumN M.mkLast a.clients : Nat) : Int) + ((sumN M.mkEntry a.log : Nat) : Int) < 0 := by omega
  have h3 := run_heldChunkS (xs := a.chunks) (k := k + ((sumN M.mkHead a.base : Nat) : Int) + ((sumN M.mkLast a.clients : Nat) : Int) + ((sumN M.mkEntry a.log : Nat) : Int)) (by omega) (by omega) (by omega)
  have n3 : ¬ k + ((sumN M.mkHead a.base : Nat) : Int) + ((sumN M.mkLast a.clients : Nat) : Int) + ((sumN M.mkEntry a.log : Nat) : Int) + ((sumN M.mkChunk a.chunks : Nat) : Int) < 0 := by omega
  rw [RUN_eq, prog_laws_heldPgState]
  simp [pf_laws_heldPgState, h0, n0, h1, n1, h2, n2, h3, n3]
theorem has_int {p : PV} (h : (Ty.int .i64).has p) : ∃ n, p = .int .i64 n ∧ In64 n := by
  cases p <;> simp only [Ty.has] at h
  obtain ⟨rfl, h2, h3⟩ := h
  exact ⟨_, rfl, h2, h3⟩
theorem has_bool {p : PV} (h : Ty.bool.has p) : ∃ b, p = .bool b := by
  cases p <;> simp only [Ty.has] at h
  exact ⟨_, rfl⟩
theorem has_str {p : PV} (h : Ty.str.has p) : ∃ s, p = .str s ∧ s.size ≤ 9223372036854775807 := by
  cases p <;> simp only [Ty.has] at h
  exact ⟨_, rfl, h⟩
theorem has_list {α : Type} {t : Ty} {F : α → PV} {ok : α → Prop} (h : ∀ p, t.has p → ∃ a, p = F a ∧ ok a) : ∀ xs : List PV, (∀ x ∈ xs, t.has x) → ∃ l : List α, xs = l.map F ∧ ∀ a ∈ l, ok a
  | [], _ => ⟨[], rfl, by simp⟩
  | x :: xs, hx => by
    obtain ⟨a, rfl, h1⟩ := h x (hx x (by simp))
    obtain ⟨l, rfl, h2⟩ := has_list h xs fun y hy => hx y (by simp [hy])
    exact ⟨a :: l, rfl, by
      intro b hb
      rcases List.mem_cons.1 hb with rfl | hb
      · exact h1
      · exact h2 b hb⟩
theorem has_sl {α : Type} {e : TypeId} {t : Ty} {F : α → PV} {ok : α → Prop} (h : ∀ p, t.has p → ∃ a, p = F a ∧ ok a) {p : PV} (hp : (Ty.sl e t).has p) : ∃ l : List α, p = .sl 0 e (l.map F) ∧ l.length ≤ 9223372036854775807 ∧ ∀ a ∈ l, ok a := by
  cases p <;> simp only [Ty.has] at hp
  obtain ⟨rfl, rfl, h1, h2⟩ := hp
  obtain ⟨l, rfl, h3⟩ := has_list h _ h2
  exact ⟨l, rfl, by simpa [maxLen] using h1, h3⟩
def M.tpVer : Ty := .st [.int .i64, .int .i64]
theorem M.has_Ver {p : PV} (h : M.tpVer.has p) : ∃ a, p = M.verV a ∧ M.okVer a := by
  cases p <;> simp only [M.tpVer, Ty.has, hasL] at h
  obtain ⟨p0, r0, rfl, h0, p1, r1, rfl, h1, rfl⟩ := h
  obtain ⟨x0, rfl, o0⟩ := has_int h0
  obtain ⟨x1, rfl, o1⟩ := has_int h1
  exact ⟨⟨x0, x1⟩, by simp [M.verV, M.chunkV, M.reqV, M.entryV, M.headV, M.lastV, M.pgV, M.pgStateV, M.storeV, PV.cells], by simp only [M.okVer]; exact ⟨o0, o1⟩⟩
def M.tpChunk : Ty := .st [.str, M.tpVer, .int .i64, .int .i64, .str]
theorem M.has_Chunk {p : PV} (h : M.tpChunk.has p) : ∃ a, p = M.chunkV a ∧ M.okChunk a := by
  cases p <;> simp only [M.tpChunk, Ty.has, hasL] at h
  obtain ⟨p0, r0, rfl, h0, p1, r1, rfl, h1, p2, r2, rfl, h2, p3, r3, rfl, h3, p4, r4, rfl, h4, rfl⟩ := h
  obtain ⟨x0, rfl, o0⟩ := has_str h0
  obtain ⟨x1, rfl, o1⟩ := M.has_Ver h1
  obtain ⟨x2, rfl, o2⟩ := has_int h2
  obtain ⟨x3, rfl, o3⟩ := has_int h3
  obtain ⟨x4, rfl, o4⟩ := has_str h4
  exact ⟨⟨x0, x1, x2, x3, x4⟩, by simp [M.verV, M.chunkV, M.reqV, M.entryV, M.headV, M.lastV, M.pgV, M.pgStateV, M.storeV, PV.cells], by simp only [M.okChunk]; exact ⟨o0, o1, o2, o3, o4⟩⟩
def M.tpReq : Ty := .st [.int .i64, .int .i64]
theorem M.has_Req {p : PV} (h : M.tpReq.has p) : ∃ a, p = M.reqV a ∧ M.okReq a := by
  cases p <;> simp only [M.tpReq, Ty.has, hasL] at h
  obtain ⟨p0, r0, rfl, h0, p1, r1, rfl, h1, rfl⟩ := h
  obtain ⟨x0, rfl, o0⟩ := has_int h0
  obtain ⟨x1, rfl, o1⟩ := has_int h1
  exact ⟨⟨x0, x1⟩, by simp [M.verV, M.chunkV, M.reqV, M.entryV, M.headV, M.lastV, M.pgV, M.pgStateV, M.storeV, PV.cells], by simp only [M.okReq]; exact ⟨o0, o1⟩⟩
def M.tpEntry : Ty := .st [M.tpVer, M.tpVer, .str, .bool, .int .i64, .int .i64, M.tpReq]
theorem M.has_Entry {p : PV} (h : M.tpEntry.has p) : ∃ a, p = M.entryV a ∧ M.okEntry a := by
  cases p <;> simp only [M.tpEntry, Ty.has, hasL] at h
  obtain ⟨p0, r0, rfl, h0, p1, r1, rfl, h1, p2, r2, rfl, h2, p3, r3, rfl, h3, p4, r4, rfl, h4, p5, r5, rfl, h5, p6, r6, rfl, h6, rfl⟩ := h
  obtain ⟨x0, rfl, o0⟩ := M.has_Ver h0
  obtain ⟨x1, rfl, o1⟩ := M.has_Ver h1
  obtain ⟨x2, rfl, o2⟩ := has_str h2
  obtain ⟨x3, rfl⟩ := has_bool h3
  obtain ⟨x4, rfl, o4⟩ := has_int h4
  obtain ⟨x5, rfl, o5⟩ := has_int h5
  obtain ⟨x6, rfl, o6⟩ := M.has_Req h6
  exact ⟨⟨x0, x1, x2, x3, x4, x5, x6⟩, by simp [M.verV, M.chunkV, M.reqV, M.entryV, M.headV, M.lastV, M.pgV, M.pgStateV, M.storeV, PV.cells], by simp only [M.okEntry]; exact ⟨o0, o1, o2, o4, o5, o6⟩⟩
def M.tpHead : Ty := .st [.str, M.tpVer, .int .i64, .int .i64]
theorem M.has_Head {p : PV} (h : M.tpHead.has p) : ∃ a, p = M.headV a ∧ M.okHead a := by
  cases p <;> simp only [M.tpHead, Ty.has, hasL] at h
  obtain ⟨p0, r0, rfl, h0, p1, r1, rfl, h1, p2, r2, rfl, h2, p3, r3, rfl, h3, rfl⟩ := h
  obtain ⟨x0, rfl, o0⟩ := has_str h0
  obtain ⟨x1, rfl, o1⟩ := M.has_Ver h1
  obtain ⟨x2, rfl, o2⟩ := has_int h2
  obtain ⟨x3, rfl, o3⟩ := has_int h3
  exact ⟨⟨x0, x1, x2, x3⟩, by simp [M.verV, M.chunkV, M.reqV, M.entryV, M.headV, M.lastV, M.pgV, M.pgStateV, M.storeV, PV.cells], by simp only [M.okHead]; exact ⟨o0, o1, o2, o3⟩⟩
def M.tpLast : Ty := .st [.int .i64, .int .i64, M.tpVer]
theorem M.has_Last {p : PV} (h : M.tpLast.has p) : ∃ a, p = M.lastV a ∧ M.okLast a := by
  cases p <;> simp only [M.tpLast, Ty.has, hasL] at h
  obtain ⟨p0, r0, rfl, h0, p1, r1, rfl, h1, p2, r2, rfl, h2, rfl⟩ := h
  obtain ⟨x0, rfl, o0⟩ := has_int h0
  obtain ⟨x1, rfl, o1⟩ := has_int h1
  obtain ⟨x2, rfl, o2⟩ := M.has_Ver h2
  exact ⟨⟨x0, x1, x2⟩, by simp [M.verV, M.chunkV, M.reqV, M.entryV, M.headV, M.lastV, M.pgV, M.pgStateV, M.storeV, PV.cells], by simp only [M.okLast]; exact ⟨o0, o1, o2⟩⟩
def M.tpPg : Ty := .st [.int .i64, .int .i64]
theorem M.has_Pg {p : PV} (h : M.tpPg.has p) : ∃ a, p = M.pgV a ∧ M.okPg a := by
  cases p <;> simp only [M.tpPg, Ty.has, hasL] at h
  obtain ⟨p0, r0, rfl, h0, p1, r1, rfl, h1, rfl⟩ := h
  obtain ⟨x0, rfl, o0⟩ := has_int h0
  obtain ⟨x1, rfl, o1⟩ := has_int h1
  exact ⟨⟨x0, x1⟩, by simp [M.verV, M.chunkV, M.reqV, M.entryV, M.headV, M.lastV, M.pgV, M.pgStateV, M.storeV, PV.cells], by simp only [M.okPg]; exact ⟨o0, o1⟩⟩
def M.tpPgState : Ty := .st [M.tpPg, .int .i64, .int .i64, M.tpVer, .sl ty_laws_Head (M.tpHead), .sl ty_laws_Last (M.tpLast), .sl ty_laws_Entry (M.tpEntry), M.tpVer, .sl ty_laws_Chunk (M.tpChunk)]
theorem M.has_PgState {p : PV} (h : M.tpPgState.has p) : ∃ a, p = M.pgStateV 0 false a ∧ M.okPgState a := by
  cases p <;> simp only [M.tpPgState, Ty.has, hasL] at h
  obtain ⟨p0, r0, rfl, h0, p1, r1, rfl, h1, p2, r2, rfl, h2, p3, r3, rfl, h3, p4, r4, rfl, h4, p5, r5, rfl, h5, p6, r6, rfl, h6, p7, r7, rfl, h7, p8, r8, rfl, h8, rfl⟩ := h
  obtain ⟨x0, rfl, o0⟩ := M.has_Pg h0
  obtain ⟨x1, rfl, o1⟩ := has_int h1
  obtain ⟨x2, rfl, o2⟩ := has_int h2
  obtain ⟨x3, rfl, o3⟩ := M.has_Ver h3
  obtain ⟨x4, rfl, o4, q4⟩ := has_sl (F := M.headV) (fun p h => M.has_Head (p := p) h) h4
  obtain ⟨x5, rfl, o5, q5⟩ := has_sl (F := M.lastV) (fun p h => M.has_Last (p := p) h) h5
  obtain ⟨x6, rfl, o6, q6⟩ := has_sl (F := M.entryV) (fun p h => M.has_Entry (p := p) h) h6
  obtain ⟨x7, rfl, o7⟩ := M.has_Ver h7
  obtain ⟨x8, rfl, o8, q8⟩ := has_sl (F := M.chunkV) (fun p h => M.has_Chunk (p := p) h) h8
  exact ⟨⟨x0, x1, x2, x3, x4, x5, x6, x7, x8⟩, by simp [M.verV, M.chunkV, M.reqV, M.entryV, M.headV, M.lastV, M.pgV, M.pgStateV, M.storeV, PV.cells], by simp only [M.okPgState]; exact ⟨o0, o1, o2, o3, o4, q4, o5, q5, o6, q6, o7, o8, q8⟩⟩
def M.tpStore : Ty := .st [.sl ty_laws_PgState (M.tpPgState), .sl ty_laws_PgState (M.tpPgState)]
theorem M.has_Store {p : PV} (h : M.tpStore.has p) : ∃ a, p = M.storeV 0 false a ∧ M.okStore a := by
  cases p <;> simp only [M.tpStore, Ty.has, hasL] at h
  obtain ⟨p0, r0, rfl, h0, p1, r1, rfl, h1, rfl⟩ := h
  obtain ⟨x0, rfl, o0, q0⟩ := has_sl (F := M.pgStateV 0 false) (fun p h => M.has_PgState (p := p) h) h0
  obtain ⟨x1, rfl, o1, q1⟩ := has_sl (F := M.pgStateV 0 false) (fun p h => M.has_PgState (p := p) h) h1
  exact ⟨⟨x0, x1⟩, by simp [M.verV, M.chunkV, M.reqV, M.entryV, M.headV, M.lastV, M.pgV, M.pgStateV, M.storeV, PV.cells], by simp only [M.okStore]; exact ⟨o0, q0, o1, q1⟩⟩
end Go.Proofs.YtngooidedlnmaaaGreat.Pv
/- Versions, requests and the like: whether they are valid, how they are ordered. No condition. -/
namespace Go.Proofs.YtngooidedlnmaaaGreat.Pv
open Go
set_option maxRecDepth 10000
set_option linter.unusedSimpArgs false
def firstI : List Int → Int
  | [] => 0
  | x :: l => if x = 0 then firstI l else x
theorem firstI_zero : ∀ {l : List Int}, (∀ i (h : i < l.length), l[i] = 0) → firstI l = 0
  | [], _ => rfl
  | x :: l, h => by
    have h0 : x = 0 := h 0 (by simp)
    rw [firstI, if_pos h0]
    exact firstI_zero fun i hi => by
      have h1 := h (i + 1) (by simpa using hi)
      rwa [List.getElem_cons_succ] at h1
theorem firstI_at : ∀ {l : List Int} {i : Nat} (hi : i < l.length), l[i] ≠ 0 → (∀ j (h : j < i), l[j] = 0) → firstI l = l[i]
  | [], i, hi, _, _ => by simp at hi
  | x :: l, 0, hi, h, _ => by
    have h0 : x ≠ 0 := h
    simp [firstI, h0]
  | x :: l, i + 1, hi, h, h2 => by
    have h0 : x = 0 := h2 0 (by omega)
    rw [firstI, if_pos h0]
    exact firstI_at (l := l) (i := i) (by simpa using hi) h fun j hj => by
      have h3 := h2 (j + 1) (by omega)
      rwa [List.getElem_cons_succ] at h3
theorem run_cmp_Or {l : List Int} (hn : l.length ≤ 1048576) : RUN CC fn_cmp_Or_int [.sl 0 ty_int (l.map (PV.int .i64))] = some ([.int .i64 (firstI l)], []) := by
  rw [RUN_eq, prog_cmp_Or_int]
  simp [pf_cmp_Or_int]
  generalize hE : EX CC _ pf_cmp_Or_int_l0 _ = E
  obtain ⟨x, s', rfl, h⟩ := list_loop hE l (fun _ x => decide (x = 0)) (fun i s => s.t 8 = .pv (.int .i64 i) ∧ s.t 7 = .pv (.int .i64 l.length) ∧ s.t 6 = .pv (.sl 0 ty_int (l.map (PV.int .i64))) ∧ s.t 3 = .pv (.int .i64 0)) (.exit 0) (by simp) (fun i x s => x = .ret ∧ s.t 2 = .pv (.int .i64 (l.getD i 0))) (by simp)
    (by
      rintro s ⟨h8, h7, h6, h3⟩
      simp [pf_cmp_Or_int_lb0, h8, h7, h6, h3])
    (by
      rintro s i hi ⟨h8, h7, h6, h3⟩
      by_cases hq : l[i] = 0 <;> simp (disch := omega) [pf_cmp_Or_int_lb0, h8, h7, h6, h3, hi, idxN, hq, IntWalk.i64_in])
  rcases h with ⟨rfl, ⟨_, _, _, h3⟩, hf⟩ | ⟨i, hi, hf, hall, _, rfl, h2⟩
  · rw [firstI_zero fun i hi => by simpa using hf i hi]
    simp [h3]
  · rw [firstI_at hi (by simpa using hf) fun j hj => by simpa using hall j hj]
    simp [h2, hi]
def cmpI (a b : Int) : Int := if a < b then -1 else if b < a then 1 else 0
@[simp] theorem run_isNaN (x : Int) : RUN CC fn_cmp_isNaN_int64 [.int .i64 x] = some ([.bool false], []) := by
  rw [RUN_eq, prog_cmp_isNaN_int64]
  simp [pf_cmp_isNaN_int64]
theorem run_cmp_Compare (a b : Int) : RUN CC fn_cmp_Compare_int64 [.int .i64 a, .int .i64 b] = some ([.int .i64 (cmpI a b)], []) := by
  rw [RUN_eq, prog_cmp_Compare_int64]
  by_cases h : a < b
  · simp [pf_cmp_Compare_int64, cmpI, h]
  · by_cases h2 : b < a <;> simp [pf_cmp_Compare_int64, cmpI, h, h2]
def verLt (a b c d : Int) : Prop := a < c ∨ a = c ∧ b < d
instance (a b c d : Int) : Decidable (verLt a b c d) := by unfold verLt; infer_instance
def cmpV (a b c d : Int) : Int := firstI [cmpI a c, cmpI b d]
theorem cmpV_neg (a b c d : Int) : cmpV a b c d < 0 ↔ verLt a b c d := by
  by_cases h1 : a < c <;> by_cases h2 : c < a <;> by_cases h3 : b < d <;> by_cases h4 : d < b <;> simp [cmpV, firstI, cmpI, verLt, h1, h2, h3, h4] <;> omega
theorem run_compareVers (a b c d : Int) : RUN CC fn_impl_compareVers [.agg [.int .i64 a, .int .i64 b], .agg [.int .i64 c, .int .i64 d]] = some ([.int .i64 (cmpV a b c d)], []) := by
  have h := run_cmp_Or (l := [cmpI a c, cmpI b d]) (by simp)
  simp only [List.map_cons, List.map_nil] at h
  rw [RUN_eq, prog_impl_compareVers]
  simp [pf_impl_compareVers, run_cmp_Compare, h, cmpV]
theorem run_iVerLess (a b c d : Int) : RUN CC fn_impl_VerLess [.agg [.int .i64 a, .int .i64 b], .agg [.int .i64 c, .int .i64 d]] = some ([.bool (decide (verLt a b c d))], []) := by
  rw [RUN_eq, prog_impl_VerLess]
  simp [pf_impl_VerLess, run_compareVers, cmpV_neg]
theorem run_sVerLess (a b c d : Int) : RUN CC fn_spec_VerLess [.agg [.int .i64 a, .int .i64 b], .agg [.int .i64 c, .int .i64 d]] = some ([.bool (decide (verLt a b c d))], []) := by
  rw [RUN_eq, prog_spec_VerLess]
  by_cases h : a < c
  · simp [pf_spec_VerLess, verLt, h]
  · by_cases h2 : a = c
    · by_cases h3 : b < d <;> simp [pf_spec_VerLess, verLt, h2, h3]
    · simp [pf_spec_VerLess, verLt, h, h2]
@[simp] theorem run_between' (a b c : Int) : RUN CC fn_impl_between [.int .i64 a, .int .i64 b, .int .i64 c] = some ([.bool (decide (b ≤ a ∧ a ≤ c))], []) := by
  rw [RUN_eq, prog_impl_between]
  by_cases h : b ≤ a <;> by_cases h2 : a ≤ c <;> simp [pf_impl_between, h, h2]
@[simp] theorem run_l00In' (a b c : Int) : RUN CC fn_spec_l00In [.int .i64 a, .int .i64 b, .int .i64 c] = some ([.bool (decide (b ≤ a ∧ a ≤ c))], []) := by
  rw [RUN_eq, prog_spec_l00In]
  by_cases h : b ≤ a <;> by_cases h2 : a ≤ c <;> simp [pf_spec_l00In, h, h2]
def verOk (a b : Int) : Prop := (a = 0 ∧ b = 0) ∨ (1 ≤ a ∧ a ≤ 60) ∧ 1 ≤ b ∧ b ≤ 1000
instance (a b : Int) : Decidable (verOk a b) := by unfold verOk; infer_instance
theorem run_verOk (a b : Int) : RUN CC fn_impl_verOk [.agg [.int .i64 a, .int .i64 b]] = some ([.bool (decide (verOk a b))], []) := by
  rw [RUN_eq, prog_impl_verOk]
  by_cases h1 : a = 0 <;> by_cases h2 : b = 0 <;> by_cases h3 : 1 ≤ a ∧ a ≤ 60 <;> by_cases h4 : 1 ≤ b ∧ b ≤ 1000 <;> first
    | omega
    | simp [pf_impl_verOk, eqK, verOk, h1, h2, h3, h4]
theorem run_l17Zero (a b : Int) : RUN CC fn_spec_l17Zero [.agg [.int .i64 a, .int .i64 b]] = some ([.bool (decide (a = 0 ∧ b = 0))], []) := by
  rw [RUN_eq, prog_spec_l17Zero]
  by_cases h1 : a = 0 <;> by_cases h2 : b = 0 <;> simp [pf_spec_l17Zero, eqK, h1, h2]
theorem run_l17Ver (a b : Int) : RUN CC fn_spec_l17Ver [.agg [.int .i64 a, .int .i64 b]] = some ([.bool (decide (verOk a b))], []) := by
  rw [RUN_eq, prog_spec_l17Ver]
  by_cases h1 : a = 0 ∧ b = 0
  · simp [pf_spec_l17Ver, run_l17Zero, verOk, h1]
  · by_cases h3 : 1 ≤ a ∧ a ≤ 60 <;> by_cases h4 : 1 ≤ b ∧ b ≤ 1000 <;> simp [pf_spec_l17Ver, run_l17Zero, verOk, h1, h3, h4]
theorem run_l17Full (a b : Int) : RUN CC fn_spec_l17Full [.agg [.int .i64 a, .int .i64 b]] = some ([.bool (decide (verOk a b ∧ ¬ (a = 0 ∧ b = 0)))], []) := by
  rw [RUN_eq, prog_spec_l17Full]
  by_cases h2 : a = 0 ∧ b = 0
  · obtain ⟨rfl, rfl⟩ := h2
    have h1 : verOk 0 0 := .inl ⟨rfl, rfl⟩
    simp [pf_spec_l17Full, run_l17Zero, run_l17Ver, h1]
  · by_cases h1 : verOk a b <;> simp [pf_spec_l17Full, run_l17Zero, run_l17Ver, h1, h2]
def reqOk (a b : Int) : Prop := (a = 0 ∧ b = 0) ∨ (100 ≤ a ∧ a ≤ 105) ∧ 1 ≤ b ∧ b ≤ 1000
instance (a b : Int) : Decidable (reqOk a b) := by unfold reqOk; infer_instance
@[simp] theorem run_isClient (a : Int) : RUN CC fn_impl_isClient [.int .i64 a] = some ([.bool (decide (100 ≤ a ∧ a ≤ 105))], []) := by
  rw [RUN_eq, prog_impl_isClient]
  simp [pf_impl_isClient]
@[simp] theorem run_l17Client (a : Int) : RUN CC fn_spec_l17Client [.int .i64 a] = some ([.bool (decide (100 ≤ a ∧ a ≤ 105))], []) := by
  rw [RUN_eq, prog_spec_l17Client]
  simp [pf_spec_l17Client]
@[simp] theorem run_l17Sum (a : Int) : RUN CC fn_spec_l17Sum [.int .i64 a] = some ([.bool (decide (0 ≤ a ∧ a ≤ 4294967295))], []) := by
  rw [RUN_eq, prog_spec_l17Sum]
  simp [pf_spec_l17Sum]
theorem run_reqOk (a b : Int) : RUN CC fn_impl_reqOk [.agg [.int .i64 a, .int .i64 b]] = some ([.bool (decide (reqOk a b))], []) := by
  rw [RUN_eq, prog_impl_reqOk]
  by_cases h1 : a = 0 <;> by_cases h2 : b = 0 <;> by_cases h3 : 100 ≤ a ∧ a ≤ 105 <;> by_cases h4 : 1 ≤ b ∧ b ≤ 1000 <;> first
    | omega
    | simp [pf_impl_reqOk, eqK, reqOk, h1, h2, h3, h4]
theorem run_l17Req (a b : Int) : RUN CC fn_spec_l17Req [.agg [.int .i64 a, .int .i64 b]] = some ([.bool (decide (reqOk a b))], []) := by
  rw [RUN_eq, prog_spec_l17Req]
  by_cases h1 : a = 0 <;> by_cases h2 : b = 0 <;> by_cases h3 : 100 ≤ a ∧ a ≤ 105 <;> by_cases h4 : 1 ≤ b ∧ b ≤ 1000 <;> first
    | omega
    | simp [pf_spec_l17Req, eqK, reqOk, h1, h2, h3, h4]
theorem run_sizeOk (a b : Int) : RUN CC fn_impl_sizeOk [.int .i64 a, .int .i64 b] = some ([.bool (decide ((0 ≤ a ∧ a ≤ 64) ∧ 0 ≤ b ∧ b ≤ 4294967295))], []) := by
  rw [RUN_eq, prog_impl_sizeOk]
  by_cases h1 : 0 ≤ a ∧ a ≤ 64 <;> by_cases h2 : 0 ≤ b ∧ b ≤ 4294967295 <;> simp [pf_impl_sizeOk, h1, h2]
theorem run_pgOk (a b : Int) : RUN CC fn_impl_pgOk [.agg [.int .i64 a, .int .i64 b]] = some ([.bool (decide ((1 ≤ a ∧ a ≤ 4) ∧ 0 ≤ b ∧ b ≤ 15))], []) := by
  rw [RUN_eq, prog_impl_pgOk]
  by_cases h1 : 1 ≤ a ∧ a ≤ 4 <;> by_cases h2 : 0 ≤ b ∧ b ≤ 15 <;> simp [pf_impl_pgOk, h1, h2]
theorem run_l17Pg (a b : Int) : RUN CC fn_spec_l17Pg [.agg [.int .i64 a, .int .i64 b]] = some ([.bool (decide ((1 ≤ a ∧ a ≤ 4) ∧ 0 ≤ b ∧ b ≤ 15))], []) := by
  rw [RUN_eq, prog_spec_l17Pg]
  by_cases h1 : 1 ≤ a ∧ a ≤ 4 <;> by_cases h2 : 0 ≤ b ∧ b ≤ 15 <;> simp [pf_spec_l17Pg, h1, h2]
end Go.Proofs.YtngooidedlnmaaaGreat.Pv
