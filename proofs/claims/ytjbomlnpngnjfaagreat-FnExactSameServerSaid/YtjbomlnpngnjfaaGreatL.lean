/- What the functions of a law compute, in the plain reading. No condition. -/
import Derived.Test.YtjbomlnpngnjfaaGreatL1
set_option linter.all false
set_option linter.unusedSimpArgs false
set_option linter.unusedVariables false
set_option linter.unnecessarySimpa false
/- Structs compared, field by field, part 4. No condition. -/
namespace Go.Proofs.YtjbomlnpngnjfaaGreat.Pv
open Go
set_option maxRecDepth 10000
set_option linter.unusedSimpArgs false
theorem M.ext_Msg {a b : M.Msg} (h0 : a.kind = b.kind) (h1 : a.from_ = b.from_) (h2 : a.to = b.to) (h3 : a.pg = b.pg) (h4 : a.epoch = b.epoch) (h5 : a.name = b.name) (h6 : a.ver = b.ver) (h7 : a.firm = b.firm) (h8 : a.state = b.state) (h9 : a.entry = b.entry) (h10 : a.chunk = b.chunk) (h11 : a.op = b.op) (h12 : a.req = b.req) (h13 : a.code = b.code) (h14 : a.body = b.body) : a = b := by
  cases a; cases b; simp_all
theorem eqk_Op (a b : M.Op) : ∃ r, eqK [0, 0, 2] ((M.opV a).cells.map AV.pv) ((M.opV b).cells.map AV.pv) = some r ∧ (r = true ↔ a = b) := by
  obtain ⟨x0, x1, x2⟩ := a
  obtain ⟨y0, y1, y2⟩ := b
  refine ⟨_, rfl, ?_⟩
  simp [bytes_eq, and_assoc]
set_option maxHeartbeats 4000000 in
theorem run_impl_MsgSame (a b : M.Msg) (ha : M.needMsg a ≤ 1048576) (hb : M.needMsg b ≤ 1048576) : Says (RUN CC fn_impl_MsgSame [M.msgV 0 true a, M.msgV 0 true b]) (a = b) := by
  classical
  by_cases h0 : a.kind = b.kind
  case neg => exact .of (b := false) (by rw [RUN_eq, prog_impl_MsgSame]; simp (disch := omega) [pf_impl_MsgSame, M.msgV, h0]) (nosame (Q := a.kind = b.kind) (fun h => by rw [h]) h0)
  by_cases h1 : a.from_ = b.from_
  case neg => exact .of (b := false) (by rw [RUN_eq, prog_impl_MsgSame]; simp (disch := omega) [pf_impl_MsgSame, M.msgV, h0, h1]) (nosame (Q := a.from_ = b.from_) (fun h => by rw [h]) h1)
  by_cases h2 : a.to = b.to
  case neg => exact .of (b := false) (by rw [RUN_eq, prog_impl_MsgSame]; simp (disch := omega) [pf_impl_MsgSame, M.msgV, h0, h1, h2]) (nosame (Q := a.to = b.to) (fun h => by rw [h]) h2)
  obtain ⟨r3, q3, s3⟩ := eqk_Pg a.pg b.pg
  simp only [M.pgV, PV.cells, List.map_cons, List.map_nil] at q3
  cases r3
  case false => exact .of (b := false) (by rw [RUN_eq, prog_impl_MsgSame]; simp (disch := omega) [pf_impl_MsgSame, M.msgV, h0, h1, h2, q3]) (nosame (Q := a.pg = b.pg) (fun h => by rw [h]) (fun h => by simpa using s3.2 h))
  by_cases h4 : a.epoch = b.epoch
  case neg => exact .of (b := false) (by rw [RUN_eq, prog_impl_MsgSame]; simp (disch := omega) [pf_impl_MsgSame, M.msgV, h0, h1, h2, q3, h4]) (nosame (Q := a.epoch = b.epoch) (fun h => by rw [h]) h4)
  obtain ⟨r5, q5, s5⟩ : ∃ r, (a.name.toList == b.name.toList) = r ∧ (r = true ↔ a.name = b.name) := ⟨_, rfl, bytes_same _ _⟩
  cases r5
  case false => exact .of (b := false) (by rw [RUN_eq, prog_impl_MsgSame]; simp (disch := omega) [pf_impl_MsgSame, M.msgV, h0, h1, h2, q3, h4, q5]) (nosame (Q := a.name = b.name) (fun h => by rw [h]) (fun h => by simpa using s5.2 h))
  obtain ⟨r6, q6, s6⟩ := eqk_Ver a.ver b.ver
  simp only [M.verV, PV.cells, List.map_cons, List.map_nil] at q6
  cases r6
  case false => exact .of (b := false) (by rw [RUN_eq, prog_impl_MsgSame]; simp (disch := omega) [pf_impl_MsgSame, M.msgV, h0, h1, h2, q3, h4, q5, q6]) (nosame (Q := a.ver = b.ver) (fun h => by rw [h]) (fun h => by simpa using s6.2 h))
  obtain ⟨r7, q7, s7⟩ := eqk_Ver a.firm b.firm
  simp only [M.verV, PV.cells, List.map_cons, List.map_nil] at q7
  cases r7
  case false => exact .of (b := false) (by rw [RUN_eq, prog_impl_MsgSame]; simp (disch := omega) [pf_impl_MsgSame, M.msgV, h0, h1, h2, q3, h4, q5, q6, q7]) (nosame (Q := a.firm = b.firm) (fun h => by rw [h]) (fun h => by simpa using s7.2 h))
  obtain ⟨r8, q8, s8⟩ := run_impl_sameState a.state b.state (by simp only [M.needMsg] at ha; omega) (by simp only [M.needMsg] at hb; omega)
  simp only [M.pgStateV, M.tyChunk_t, M.tyChunk_f, M.tyEntry_t, M.tyEntry_f, M.tyHead_t, M.tyHead_f, M.tyLast_t, M.tyLast_f] at q8
  cases r8
  case false => exact .of (b := false) (by rw [RUN_eq, prog_impl_MsgSame]; simp (disch := omega) [pf_impl_MsgSame, M.msgV, h0, h1, h2, q3, h4, q5, q6, q7, q8]) (nosame (Q := a.state = b.state) (fun h => by rw [h]) (fun h => by simpa using s8.2 h))
  obtain ⟨r9, q9, s9⟩ := eqk_Entry a.entry b.entry
  simp only [M.entryV, PV.cells, List.map_cons, List.map_nil] at q9
  cases r9
  case false => exact .of (b := false) (by rw [RUN_eq, prog_impl_MsgSame]; simp (disch := omega) [pf_impl_MsgSame, M.msgV, h0, h1, h2, q3, h4, q5, q6, q7, q8, q9]) (nosame (Q := a.entry = b.entry) (fun h => by rw [h]) (fun h => by simpa using s9.2 h))
  obtain ⟨r10, q10, s10⟩ := eqk_Chunk a.chunk b.chunk
  simp only [M.chunkV, PV.cells, List.map_cons, List.map_nil] at q10
  cases r10
  case false => exact .of (b := false) (by rw [RUN_eq, prog_impl_MsgSame]; simp (disch := omega) [pf_impl_MsgSame, M.msgV, h0, h1, h2, q3, h4, q5, q6, q7, q8, q9, q10]) (nosame (Q := a.chunk = b.chunk) (fun h => by rw [h]) (fun h => by simpa using s10.2 h))
  obtain ⟨r11, q11, s11⟩ := eqk_Op a.op b.op
  simp only [M.opV, PV.cells, List.map_cons, List.map_nil] at q11
  cases r11
  case false => exact .of (b := false) (by rw [RUN_eq, prog_impl_MsgSame]; simp (disch := omega) [pf_impl_MsgSame, M.msgV, h0, h1, h2, q3, h4, q5, q6, q7, q8, q9, q10, q11]) (nosame (Q := a.op = b.op) (fun h => by rw [h]) (fun h => by simpa using s11.2 h))
  obtain ⟨r12, q12, s12⟩ := eqk_Req a.req b.req
  simp only [M.reqV, PV.cells, List.map_cons, List.map_nil] at q12
  cases r12
  case false => exact .of (b := false) (by rw [RUN_eq, prog_impl_MsgSame]; simp (disch := omega) [pf_impl_MsgSame, M.msgV, h0, h1, h2, q3, h4, q5, q6, q7, q8, q9, q10, q11, q12]) (nosame (Q := a.req = b.req) (fun h => by rw [h]) (fun h => by simpa using s12.2 h))
  by_cases h13 : a.code = b.code
  case neg => exact .of (b := false) (by rw [RUN_eq, prog_impl_MsgSame]; simp (disch := omega) [pf_impl_MsgSame, M.msgV, h0, h1, h2, q3, h4, q5, q6, q7, q8, q9, q10, q11, q12, h13]) (nosame (Q := a.code = b.code) (fun h => by rw [h]) h13)
  obtain ⟨r14, q14, s14⟩ : ∃ r, (a.body.toList == b.body.toList) = r ∧ (r = true ↔ a.body = b.body) := ⟨_, rfl, bytes_same _ _⟩
  cases r14
  case false => exact .of (b := false) (by rw [RUN_eq, prog_impl_MsgSame]; simp (disch := omega) [pf_impl_MsgSame, M.msgV, h0, h1, h2, q3, h4, q5, q6, q7, q8, q9, q10, q11, q12, h13, q14]) (nosame (Q := a.body = b.body) (fun h => by rw [h]) (fun h => by simpa using s14.2 h))
  have hab : a = b := (M.ext_Msg h0 h1 h2 (s3.1 rfl) h4 (s5.1 rfl) (s6.1 rfl) (s7.1 rfl) (s8.1 rfl) (s9.1 rfl) (s10.1 rfl) (s11.1 rfl) (s12.1 rfl) h13 (s14.1 rfl))
  exact .of (b := true) (by rw [RUN_eq, prog_impl_MsgSame]; simp (disch := omega) [pf_impl_MsgSame, M.msgV, h0, h1, h2, q3, h4, q5, q6, q7, q8, q9, q10, q11, q12, h13, q14]) (by simp [hab])
set_option maxHeartbeats 4000000 in
theorem run_spec_MsgSame (a b : M.Msg) (ha : M.needMsg a ≤ 1048576) (hb : M.needMsg b ≤ 1048576) : Says (RUN CC fn_spec_MsgSame [M.msgV 0 true a, M.msgV 0 true b]) (a = b) := by
  classical
  by_cases h0 : a.kind = b.kind
  case neg => exact .of (b := false) (by rw [RUN_eq, prog_spec_MsgSame]; simp (disch := omega) [pf_spec_MsgSame, M.msgV, h0]) (nosame (Q := a.kind = b.kind) (fun h => by rw [h]) h0)
  by_cases h1 : a.from_ = b.from_
  case neg => exact .of (b := false) (by rw [RUN_eq, prog_spec_MsgSame]; simp (disch := omega) [pf_spec_MsgSame, M.msgV, h0, h1]) (nosame (Q := a.from_ = b.from_) (fun h => by rw [h]) h1)
  by_cases h2 : a.to = b.to
  case neg => exact .of (b := false) (by rw [RUN_eq, prog_spec_MsgSame]; simp (disch := omega) [pf_spec_MsgSame, M.msgV, h0, h1, h2]) (nosame (Q := a.to = b.to) (fun h => by rw [h]) h2)
  obtain ⟨r3, q3, s3⟩ := eqk_Pg a.pg b.pg
  simp only [M.pgV, PV.cells, List.map_cons, List.map_nil] at q3
  cases r3
  case false => exact .of (b := false) (by rw [RUN_eq, prog_spec_MsgSame]; simp (disch := omega) [pf_spec_MsgSame, M.msgV, h0, h1, h2, q3]) (nosame (Q := a.pg = b.pg) (fun h => by rw [h]) (fun h => by simpa using s3.2 h))
  by_cases h4 : a.epoch = b.epoch
  case neg => exact .of (b := false) (by rw [RUN_eq, prog_spec_MsgSame]; simp (disch := omega) [pf_spec_MsgSame, M.msgV, h0, h1, h2, q3, h4]) (nosame (Q := a.epoch = b.epoch) (fun h => by rw [h]) h4)
  obtain ⟨r5, q5, s5⟩ : ∃ r, (a.name.toList == b.name.toList) = r ∧ (r = true ↔ a.name = b.name) := ⟨_, rfl, bytes_same _ _⟩
  cases r5
  case false => exact .of (b := false) (by rw [RUN_eq, prog_spec_MsgSame]; simp (disch := omega) [pf_spec_MsgSame, M.msgV, h0, h1, h2, q3, h4, q5]) (nosame (Q := a.name = b.name) (fun h => by rw [h]) (fun h => by simpa using s5.2 h))
  obtain ⟨r6, q6, s6⟩ := eqk_Ver a.ver b.ver
  simp only [M.verV, PV.cells, List.map_cons, List.map_nil] at q6
  cases r6
  case false => exact .of (b := false) (by rw [RUN_eq, prog_spec_MsgSame]; simp (disch := omega) [pf_spec_MsgSame, M.msgV, h0, h1, h2, q3, h4, q5, q6]) (nosame (Q := a.ver = b.ver) (fun h => by rw [h]) (fun h => by simpa using s6.2 h))
  obtain ⟨r7, q7, s7⟩ := eqk_Ver a.firm b.firm
  simp only [M.verV, PV.cells, List.map_cons, List.map_nil] at q7
  cases r7
  case false => exact .of (b := false) (by rw [RUN_eq, prog_spec_MsgSame]; simp (disch := omega) [pf_spec_MsgSame, M.msgV, h0, h1, h2, q3, h4, q5, q6, q7]) (nosame (Q := a.firm = b.firm) (fun h => by rw [h]) (fun h => by simpa using s7.2 h))
  obtain ⟨r8, q8, s8⟩ := eqk_Entry a.entry b.entry
  simp only [M.entryV, PV.cells, List.map_cons, List.map_nil] at q8
  cases r8
  case false => exact .of (b := false) (by rw [RUN_eq, prog_spec_MsgSame]; simp (disch := omega) [pf_spec_MsgSame, M.msgV, h0, h1, h2, q3, h4, q5, q6, q7, q8]) (nosame (Q := a.entry = b.entry) (fun h => by rw [h]) (fun h => by simpa using s8.2 h))
  obtain ⟨r9, q9, s9⟩ := eqk_Chunk a.chunk b.chunk
  simp only [M.chunkV, PV.cells, List.map_cons, List.map_nil] at q9
  cases r9
  case false => exact .of (b := false) (by rw [RUN_eq, prog_spec_MsgSame]; simp (disch := omega) [pf_spec_MsgSame, M.msgV, h0, h1, h2, q3, h4, q5, q6, q7, q8, q9]) (nosame (Q := a.chunk = b.chunk) (fun h => by rw [h]) (fun h => by simpa using s9.2 h))
  obtain ⟨r10, q10, s10⟩ := eqk_Op a.op b.op
  simp only [M.opV, PV.cells, List.map_cons, List.map_nil] at q10
  cases r10
  case false => exact .of (b := false) (by rw [RUN_eq, prog_spec_MsgSame]; simp (disch := omega) [pf_spec_MsgSame, M.msgV, h0, h1, h2, q3, h4, q5, q6, q7, q8, q9, q10]) (nosame (Q := a.op = b.op) (fun h => by rw [h]) (fun h => by simpa using s10.2 h))
  obtain ⟨r11, q11, s11⟩ := eqk_Req a.req b.req
  simp only [M.reqV, PV.cells, List.map_cons, List.map_nil] at q11
  cases r11
  case false => exact .of (b := false) (by rw [RUN_eq, prog_spec_MsgSame]; simp (disch := omega) [pf_spec_MsgSame, M.msgV, h0, h1, h2, q3, h4, q5, q6, q7, q8, q9, q10, q11]) (nosame (Q := a.req = b.req) (fun h => by rw [h]) (fun h => by simpa using s11.2 h))
  by_cases h12 : a.code = b.code
  case neg => exact .of (b := false) (by rw [RUN_eq, prog_spec_MsgSame]; simp (disch := omega) [pf_spec_MsgSame, M.msgV, h0, h1, h2, q3, h4, q5, q6, q7, q8, q9, q10, q11, h12]) (nosame (Q := a.code = b.code) (fun h => by rw [h]) h12)
  obtain ⟨r13, q13, s13⟩ : ∃ r, (a.body.toList == b.body.toList) = r ∧ (r = true ↔ a.body = b.body) := ⟨_, rfl, bytes_same _ _⟩
  cases r13
  case false => exact .of (b := false) (by rw [RUN_eq, prog_spec_MsgSame]; simp (disch := omega) [pf_spec_MsgSame, M.msgV, h0, h1, h2, q3, h4, q5, q6, q7, q8, q9, q10, q11, h12, q13]) (nosame (Q := a.body = b.body) (fun h => by rw [h]) (fun h => by simpa using s13.2 h))
  obtain ⟨r14, q14, s14⟩ := run_spec_l17Same a.state b.state (by simp only [M.needMsg] at ha; omega) (by simp only [M.needMsg] at hb; omega)
  simp only [M.pgStateV, M.tyChunk_t, M.tyChunk_f, M.tyEntry_t, M.tyEntry_f, M.tyHead_t, M.tyHead_f, M.tyLast_t, M.tyLast_f] at q14
  cases r14
  case false => exact .of (b := false) (by rw [RUN_eq, prog_spec_MsgSame]; simp (disch := omega) [pf_spec_MsgSame, M.msgV, h0, h1, h2, q3, h4, q5, q6, q7, q8, q9, q10, q11, h12, q13, q14]) (nosame (Q := a.state = b.state) (fun h => by rw [h]) (fun h => by simpa using s14.2 h))
  have hab : a = b := (M.ext_Msg h0 h1 h2 (s3.1 rfl) h4 (s5.1 rfl) (s6.1 rfl) (s7.1 rfl) (s14.1 rfl) (s8.1 rfl) (s9.1 rfl) (s10.1 rfl) (s11.1 rfl) h12 (s13.1 rfl))
  exact .of (b := true) (by rw [RUN_eq, prog_spec_MsgSame]; simp (disch := omega) [pf_spec_MsgSame, M.msgV, h0, h1, h2, q3, h4, q5, q6, q7, q8, q9, q10, q11, h12, q13, q14]) (by simp [hab])
theorem run_EqF_impl_Msg {xs ys : List M.Msg} (ha : xs.length + sumN M.needMsg xs ≤ 1048576) (hb : ys.length + sumN M.needMsg ys ≤ 1048576) : Says (RUN CC fn_EqF_impl_Msg [.sl 0 ty_impl_Msg (xs.map (M.msgV 0 true)), .sl 0 ty_impl_Msg (ys.map (M.msgV 0 true)), .clo fn_impl_MsgSame []]) (xs = ys) := by
  exact run_sEqF (n := 46) (F := fun a => (M.msgV 0 true a).cells) prog_EqF_impl_Msg modes_impl_MsgSame rfl (by omega) (by omega) (fun x => ⟨rfl, by simp [calmL, M.msgV]⟩) (fun x hx y hy => run_impl_MsgSame x y (by have := sumN_le M.needMsg hx; omega) (by have := sumN_le M.needMsg hy; omega))
theorem run_EqF_impl_Lead {xs ys : List M.Lead} (ha : xs.length + sumN M.needLead xs ≤ 1048576) (hb : ys.length + sumN M.needLead ys ≤ 1048576) : Says (RUN CC fn_EqF_impl_Lead [.sl 0 ty_impl_Lead (xs.map (M.leadV 0 true)), .sl 0 ty_impl_Lead (ys.map (M.leadV 0 true)), .clo fn_impl_SameLead []]) (xs = ys) := by
  exact run_sEqF (n := 43) (F := fun a => (M.leadV 0 true a).cells) prog_EqF_impl_Lead modes_impl_SameLead rfl (by omega) (by omega) (fun x => ⟨rfl, by simp [calmL, M.leadV]⟩) (fun x hx y hy => run_impl_SameLead x y (by have := sumN_le M.needLead hx; omega) (by have := sumN_le M.needLead hy; omega))
theorem run_spec_l30SameMsgs {xs ys : List M.Msg} (ha : xs.length + sumN M.needMsg xs ≤ 1048576) (hb : ys.length + sumN M.needMsg ys ≤ 1048576) : Says (RUN CC fn_spec_l30SameMsgs [.sl 0 ty_impl_Msg (xs.map (M.msgV 0 true)), .sl 0 ty_impl_Msg (ys.map (M.msgV 0 true))]) (xs = ys) := by
  exact run_sameS (n := 46) (F := fun a => (M.msgV 0 true a).cells) prog_spec_l30SameMsgs modes_spec_MsgSame (by omega) (fun x => ⟨rfl, by simp [calmL, M.msgV]⟩) (fun x hx y hy => run_spec_MsgSame x y (by have := sumN_le M.needMsg hx; omega) (by have := sumN_le M.needMsg hy; omega))
theorem M.ext_Server {a b : M.Server} (h0 : a.id = b.id) (h1 : a.epoch = b.epoch) (h2 : a.alive = b.alive) (h3 : a.store = b.store) (h4 : a.leads = b.leads) (h5 : a.out = b.out) : a = b := by
  cases a; cases b; simp_all
set_option maxHeartbeats 4000000 in
theorem run_impl_SameServer (a b : M.Server) (ha : M.needServer a ≤ 1048576) (hb : M.needServer b ≤ 1048576) : Says (RUN CC fn_impl_SameServer [M.serverV 0 true a, M.serverV 0 true b]) (a = b) := by
  classical
  by_cases h0 : a.id = b.id
  case neg => exact .of (b := false) (by rw [RUN_eq, prog_impl_SameServer]; simp (disch := omega) [pf_impl_SameServer, M.serverV, h0]) (nosame (Q := a.id = b.id) (fun h => by rw [h]) h0)
  by_cases h1 : a.epoch = b.epoch
  case neg => exact .of (b := false) (by rw [RUN_eq, prog_impl_SameServer]; simp (disch := omega) [pf_impl_SameServer, M.serverV, h0, h1]) (nosame (Q := a.epoch = b.epoch) (fun h => by rw [h]) h1)
  obtain ⟨r2, q2, s2⟩ : ∃ r, (a.alive == b.alive) = r ∧ (r = true ↔ a.alive = b.alive) := ⟨_, rfl, by simp⟩
  cases r2
  case false => exact .of (b := false) (by rw [RUN_eq, prog_impl_SameServer]; simp (disch := omega) [pf_impl_SameServer, M.serverV, h0, h1, q2]) (nosame (Q := a.alive = b.alive) (fun h => by rw [h]) (fun h => by simpa using s2.2 h))
  obtain ⟨r3, q3, s3⟩ := run_impl_SameStore a.store b.store (by simp only [M.needServer] at ha; omega) (by simp only [M.needServer] at hb; omega)
  simp only [M.storeV, M.tyPgState_t, M.tyPgState_f] at q3
  cases r3
  case false => exact .of (b := false) (by rw [RUN_eq, prog_impl_SameServer]; simp (disch := omega) [pf_impl_SameServer, M.serverV, h0, h1, q2, q3]) (nosame (Q := a.store = b.store) (fun h => by rw [h]) (fun h => by simpa using s3.2 h))
  obtain ⟨r4, q4, s4⟩ := run_EqF_impl_Lead (xs := a.leads) (ys := b.leads) (by simp only [M.needServer] at ha; omega) (by simp only [M.needServer] at hb; omega)
  cases r4
  case false => exact .of (b := false) (by rw [RUN_eq, prog_impl_SameServer]; simp (disch := omega) [pf_impl_SameServer, M.serverV, h0, h1, q2, q3, q4]) (nosame (Q := a.leads = b.leads) (fun h => by rw [h]) (fun h => by simpa using s4.2 h))
  obtain ⟨r5, q5, s5⟩ := run_EqF_impl_Msg (xs := a.out) (ys := b.out) (by simp only [M.needServer] at ha; omega) (by simp only [M.needServer] at hb; omega)
  cases r5
  case false => exact .of (b := false) (by rw [RUN_eq, prog_impl_SameServer]; simp (disch := omega) [pf_impl_SameServer, M.serverV, h0, h1, q2, q3, q4, q5]) (nosame (Q := a.out = b.out) (fun h => by rw [h]) (fun h => by simpa using s5.2 h))
  have hab : a = b := (M.ext_Server h0 h1 (s2.1 rfl) (s3.1 rfl) (s4.1 rfl) (s5.1 rfl))
  exact .of (b := true) (by rw [RUN_eq, prog_impl_SameServer]; simp (disch := omega) [pf_impl_SameServer, M.serverV, h0, h1, q2, q3, q4, q5]) (by simp [hab])
set_option maxHeartbeats 4000000 in
theorem run_spec_SameServer (a b : M.Server) (ha : M.needServer a ≤ 1048576) (hb : M.needServer b ≤ 1048576) : Says (RUN CC fn_spec_SameServer [M.serverV 0 true a, M.serverV 0 true b]) (a = b) := by
  classical
  by_cases h0 : a.id = b.id
  case neg => exact .of (b := false) (by rw [RUN_eq, prog_spec_SameServer]; simp (disch := omega) [pf_spec_SameServer, M.serverV, h0]) (nosame (Q := a.id = b.id) (fun h => by rw [h]) h0)
  by_cases h1 : a.epoch = b.epoch
  case neg => exact .of (b := false) (by rw [RUN_eq, prog_spec_SameServer]; simp (disch := omega) [pf_spec_SameServer, M.serverV, h0, h1]) (nosame (Q := a.epoch = b.epoch) (fun h => by rw [h]) h1)
  obtain ⟨r2, q2, s2⟩ : ∃ r, (a.alive == b.alive) = r ∧ (r = true ↔ a.alive = b.alive) := ⟨_, rfl, by simp⟩
  cases r2
  case false => exact .of (b := false) (by rw [RUN_eq, prog_spec_SameServer]; simp (disch := omega) [pf_spec_SameServer, M.serverV, h0, h1, q2]) (nosame (Q := a.alive = b.alive) (fun h => by rw [h]) (fun h => by simpa using s2.2 h))
  obtain ⟨r3, q3, s3⟩ := run_spec_l30SameStates (xs := a.store.live) (ys := b.store.live) (by simp only [M.needServer, M.needStore] at ha; omega) (by simp only [M.needServer, M.needStore] at hb; omega)
  cases r3
  case false => exact .of (b := false) (by rw [RUN_eq, prog_spec_SameServer]; simp (disch := omega) [pf_spec_SameServer, M.serverV, h0, h1, q2, q3]) (nosame (Q := a.store.live = b.store.live) (fun h => by rw [h]) (fun h => by simpa using s3.2 h))
  obtain ⟨r4, q4, s4⟩ := run_spec_l30SameStates (xs := a.store.kept) (ys := b.store.kept) (by simp only [M.needServer, M.needStore] at ha; omega) (by simp only [M.needServer, M.needStore] at hb; omega)
  cases r4
  case false => exact .of (b := false) (by rw [RUN_eq, prog_spec_SameServer]; simp (disch := omega) [pf_spec_SameServer, M.serverV, h0, h1, q2, q3, q4]) (nosame (Q := a.store.kept = b.store.kept) (fun h => by rw [h]) (fun h => by simpa using s4.2 h))
  by_cases l5 : a.leads.length = b.leads.length
  case neg =>
    have l5' : ¬ (a.leads.length : Int) = b.leads.length := by omega
    exact .of (b := false) (by rw [RUN_eq, prog_spec_SameServer]; simp (disch := omega) [pf_spec_SameServer, M.serverV, h0, h1, q2, q3, q4, l5, l5']) (nosame (Q := a.leads.length = b.leads.length) (fun h => by rw [h]) (fun h => l5 (by rw [h])))
  generalize hR : RUN CC fn_spec_SameServer [M.serverV 0 true a, M.serverV 0 true b] = R
  rw [RUN_eq, prog_spec_SameServer] at hR
  simp (disch := omega) [pf_spec_SameServer, M.serverV, h0, h1, q2, q3, q4, l5] at hR
  generalize hE0 : EX CC _ pf_spec_SameServer_l0 _ = E0 at hR
  have hl0 := all_loop hE0 a.leads (fun i x => decide (b.leads[i]? = some x)) (fun i s => s.t 5 = .pv (.int .i64 i) ∧ s.t 2 = .ptr 2 1 0 ∧ s.m.kb 2 = 1 ∧ s.m.b 2 = some [.pv (.int .i64 a.id), .pv (.int .i64 a.epoch), .pv (.bool a.alive), .pv (.sl 0 ty_impl_PgState (a.store.live.map (M.pgStateV 0 true))), .pv (.sl 0 ty_impl_PgState (a.store.kept.map (M.pgStateV 0 true))), .pv (.sl 0 ty_impl_Lead (a.leads.map (M.leadV 0 true))), .pv (.sl 0 ty_impl_Msg (a.out.map (M.msgV 0 true)))] ∧ s.t 3 = .ptr 3 1 0 ∧ s.m.kb 3 = 1 ∧ s.m.b 3 = some [.pv (.int .i64 b.id), .pv (.int .i64 b.epoch), .pv (.bool b.alive), .pv (.sl 0 ty_impl_PgState (b.store.live.map (M.pgStateV 0 true))), .pv (.sl 0 ty_impl_PgState (b.store.kept.map (M.pgStateV 0 true))), .pv (.sl 0 ty_impl_Lead (b.leads.map (M.leadV 0 true))), .pv (.sl 0 ty_impl_Msg (b.out.map (M.msgV 0 true)))]) (.exit 0) (by simp) (fun i e s => e = .ret ∧ s.t 4 = .pv (.bool false)) (by simp [M.serverV, h0, h1])
    (by
      rintro s ⟨k1, k2, k3, k4, k5, k6, k7⟩
      simp [pf_spec_SameServer_lb0, k1, k2, k3, k4, k5, k6, k7])
    (by
      rintro s i hi ⟨k1, k2, k3, k4, k5, k6, k7⟩
      have hi2 : i < b.leads.length := by omega
      have hle : a.leads.length ≤ 1048576 := by simp only [M.needServer] at ha; omega
      obtain ⟨r, q, sq⟩ := run_spec_SameLead a.leads[i] b.leads[i] (by have := sumN_le M.needLead (List.getElem_mem hi); simp only [M.needServer] at ha; omega) (by have := sumN_le M.needLead (List.getElem_mem hi2); simp only [M.needServer] at hb; omega)
      simp only [M.leadV, M.tyAck_t, M.tyAck_f, M.tyChunk_t, M.tyChunk_f, M.tyEntry_t, M.tyEntry_f, M.tyFill_t, M.tyFill_f, M.tyHead_t, M.tyHead_f, M.tyInterval_t, M.tyInterval_f, M.tyLast_t, M.tyLast_f, M.tyNotice_t, M.tyNotice_f, M.tyWait_t, M.tyWait_f, M.tyWay_t, M.tyWay_f] at q
      generalize hx : a.leads[i] = x at q sq ⊢
      generalize hy : b.leads[i] = y at q sq
      cases r with
      | true =>
        obtain rfl : x = y := sq.1 rfl
        simp (disch := omega) [pf_spec_SameServer_lb0, k1, k2, k3, k4, k5, k6, k7, hi, hi2, idxN, l5, IntWalk.i64_in, M.leadV, hx, hy, q]
      | false =>
        have hq : ¬ y = x := fun h => by simpa using sq.2 h.symm
        simp (disch := omega) [pf_spec_SameServer_lb0, k1, k2, k3, k4, k5, k6, k7, hi, hi2, idxN, l5, IntWalk.i64_in, M.leadV, hx, hy, q, hq])
  obtain ⟨e', s0', rfl, hh0⟩ := hl0
  rcases hh0 with ⟨rfl, hf0, _, u02, u03, u04, u05, u06, u07⟩ | ⟨i, hf0, _, rfl, hr0⟩
  case inr => (simp [hr0] at hR; subst hR; exact .of rfl (nosame (Q := a.leads = b.leads) (fun h => by rw [h]) (nolist l5 (fun i x => by simp) hf0)))
  obtain ⟨r7, q7, s7⟩ := run_spec_l30SameMsgs (xs := a.out) (ys := b.out) (by simp only [M.needServer] at ha; omega) (by simp only [M.needServer] at hb; omega)
  cases r7
  case false => (simp (disch := omega) [h0, h1, q2, q3, q4, l5, u02, u03, u04, u05, u06, u07, q7] at hR; subst hR; exact .of rfl (nosame (Q := a.out = b.out) (fun h => by rw [h]) (fun h => by simpa using s7.2 h)))
  have hab : a = b := (M.ext_Server h0 h1 (s2.1 rfl) (M.ext_Store (s3.1 rfl) (s4.1 rfl)) ((list_same l5 fun i x => by simp).1 hf0) (s7.1 rfl))
  simp (disch := omega) [h0, h1, q2, q3, q4, l5, q7, u02, u03, u04, u05, u06, u07] at hR
  subst hR
  exact .of rfl (by simp [hab])
end Go.Proofs.YtjbomlnpngnjfaaGreat.Pv
/- The law FnExactSameServer. No condition. -/
namespace Go.Proofs.YtjbomlnpngnjfaaGreat.Pv
open Go
set_option maxRecDepth 10000
set_option linter.unusedSimpArgs false
set_option maxHeartbeats 4000000 in
theorem run_FnExactSameServer (a b : M.Server) (ha : M.okServer a) (hb : M.okServer b) : RUN CC fn_laws_FnExactSameServer [M.serverV 0 false a, M.serverV 0 false b] = some ([.bool true], []) := by
  have z := run_szServer a (left := 1048576) (by omega) (by omega) ha
  by_cases na : M.needServer a ≤ 1048576
  case neg =>
    rw [szR_lt (by omega)] at z
    simp only [M.serverV, M.tyPgState_f, M.tyLead_f, M.tyMsg_f] at z
    rw [RUN_eq, prog_laws_FnExactSameServer]
    simp [pf_laws_FnExactSameServer, M.serverV, z]
  rw [szR_ge (by omega)] at z
  have g1 : ¬ (1048576 : Int) - (M.needServer a : Nat) < 0 := by omega
  have y := run_szServer b (left := 1048576 - (M.needServer a : Nat)) (by omega) (by omega) hb
  by_cases nb : M.needServer a + M.needServer b ≤ 1048576
  case neg =>
    rw [szR_lt (by omega)] at y
    simp only [M.serverV, M.tyPgState_f, M.tyLead_f, M.tyMsg_f] at z y
    rw [RUN_eq, prog_laws_FnExactSameServer]
    simp [pf_laws_FnExactSameServer, M.serverV, z, g1, y]
  rw [szR_ge (by omega)] at y
  have g2 : ¬ (1048576 : Int) - (M.needServer a : Nat) - (M.needServer b : Nat) < 0 := by omega
  have ta := run_toServer a na
  have tb := run_toServer b (by omega)
  have ea := run_eqServer a na
  have eb := run_eqServer b (by omega)
  obtain ⟨r, w, hw⟩ := run_spec_SameServer a b na (by omega)
  obtain ⟨r', g, hg⟩ := run_impl_SameServer a b na (by omega)
  obtain rfl : r = r' := by
    rw [Bool.eq_iff_iff, hw, hg]
  clear hw hg
  simp only [M.serverV, M.tyPgState_t, M.tyLead_t, M.tyMsg_t, M.tyPgState_f, M.tyLead_f, M.tyMsg_f] at z y ta tb ea eb w g
  rw [RUN_eq, prog_laws_FnExactSameServer]
  cases r <;> simp [pf_laws_FnExactSameServer, M.serverV, z, g1, y, g2, ta, tb, ea, eb, w, g]
end Go.Proofs.YtjbomlnpngnjfaaGreat.Pv
