/- Symbolic data, and what the operations do to it. -/
import Derived.Test.YtlabdffgcciepaaGreatDoorTn6
set_option linter.unusedSimpArgs false
set_option linter.unusedVariables false
set_option linter.unusedSectionVars false
namespace Go.Tn
open Go.RowKit
section ops
variable {P : Program} {B : Base} {S : Ex} {p : Pl} {w : World} {H : Nat → Option LObj} {U : Nat → Bool} {t : Nat} {ty : Ty}
def notR (x : D) (H : Nat → Option LObj) (U : Nat → Bool) : Res := match x with | .bool b => okR (.bool (!b)) H U | _ => .bad
theorem good_not (hh : Heap B S p H U w) {x : D} {v : Value} (hx : Rd S w x p v) : Good P B S p w (Op.unary .not v) (notR x H U) := by
  unfold notR; split
  · simp only [Rd] at hx; subst hx; exact Good.same hh rfl rfl
  · trivial
def negR (x : D) (H : Nat → Option LObj) (U : Nat → Bool) : Res := match x with | .int k n => .ok True (InR k (-n)) (.int k (-n)) H U | _ => .bad
theorem good_neg (hh : Heap B S p H U w) {x : D} {v : Value} (hx : Rd S w x p v) : Good P B S p w (Op.unary .neg v) (negR x H U) := by
  unfold negR; split
  · rename_i k n
    simp only [Rd] at hx; subst hx
    exact ⟨trivial, fun hc => RunOk.same hh (v := .int k (-n)) (by simp [Op.unary, Op.intArith, wrap_of hc]) rfl⟩
  · trivial
def pickR (c a b : D) (H : Nat → Option LObj) (U : Nat → Bool) : Res := match c with | .bool t => okR (if t = true then a else b) H U | _ => .bad
theorem good_pick (hh : Heap B S p H U w) {c a b : D} {vc va vb : Value} (hc : Rd S w c p vc) (ha : Rd S w a p va) (hb : Rd S w b p vb) :
    Good P B S p w (do pure (if ← asBool vc then va else vb)) (pickR c a b H U) := by
  unfold pickR; split
  · rename_i t
    simp only [Rd] at hc; subst hc
    cases t
    · exact Good.same hh (v := vb) (by simp [asBool]) (by simpa using hb)
    · exact Good.same hh (v := va) (by simp [asBool]) (by simpa using ha)
  · trivial
def cur (o : Option LObj) (n : Nat) : Prop := match o with | some (.vec _ _ rows _) => rows.length = n | some (.nv _ ms) => ms.length = n | _ => False
theorem cur_len (hh : Heap B S p H U w) {i n : Nat} (hc : cur (H i) n) {g : G} (hg : p i = some g) : n = g.len := by
  cases ho : H i with
  | none => rw [ho] at hc; exact hc.elim
  | some o =>
    rw [ho] at hc
    obtain ⟨g', hg', hr⟩ := hh.obj i o ho
    rw [hg] at hg'; cases hg'
    cases o with
    | vec e sz rows fz => obtain ⟨_, _, _, h, _⟩ := hr; simp only [cur] at hc; omega
    | blk _ _ => exact hc.elim
    | mp _ _ _ => exact hc.elim
    | yl _ _ => exact hc.elim
    | lrec => exact hc.elim
    | mv _ _ => exact hc.elim
    | nv _ _ => obtain ⟨_, _, _, h, _⟩ := hr; simp only [cur] at hc; omega
def fieldAddrR (ty : Ty) (x : D) (f : Nat) (H : Nat → Option LObj) (U : Nat → Bool) : Res :=
  match x with
  | .loc i off => .ok True (ty.kind = .struct ∧ f < ty.flds.length ∧ (ty.flds.getD f (0, 0, false)).2.1 ≠ 0) (.loc i (off + (ty.flds.getD f (0, 0, false)).1)) H U
  | .box cs => .ok True (ty.kind = .struct ∧ f < ty.flds.length ∧ (ty.flds.getD f (0, 0, false)).2.1 ≠ 0) (.box (cs.drop (ty.flds.getD f (0, 0, false)).1)) H U
  | .vptr i n sz k off => .ok True (cur (H i) n ∧ ty.kind = .struct ∧ f < ty.flds.length ∧ (ty.flds.getD f (0, 0, false)).2.1 ≠ 0) (.vptr i n sz k (off + (ty.flds.getD f (0, 0, false)).1)) H U
  | _ => .bad
theorem run_fieldAddr (hf : TyFact P t ty) {f b off : Nat} (hc : ty.kind = .struct ∧ f < ty.flds.length ∧ (ty.flds.getD f (0, 0, false)).2.1 ≠ 0) :
    (Instr.fieldAt t (.pointer (some ⟨b, off, none⟩)) f).run P w = .ok (.pointer (some ⟨b, off + (ty.flds.getD f (0, 0, false)).1, none⟩)) w := by
  obtain ⟨hk, hl, hz⟩ := hc
  obtain ⟨fs, hu, hfl, hsn, _⟩ := hf.struct hk
  rw [← hfl] at hl hz ⊢
  have hl' : f < fs.size := by simpa using hl
  have hs := run_sizeOf_seen (P := P) (hsn fs[f] (by simp)) w
  have hg : ((fs.toList.map fun f => (f.offset, P.cellsOf f.type, aggOf P f.type)).getD f (0, 0, false)) = (fs[f].offset, P.cellsOf fs[f].type, aggOf P fs[f].type) := by simp [hl']
  rw [hg] at hz ⊢
  simp only at hz ⊢
  simp [Instr.fieldAt, run_und hu, hl', Instr.sureAddr, fieldPlace, hs, hz, addr_add]
theorem good_fieldAddr (hh : Heap B S p H U w) (hf : TyFact P t ty) {x : D} {v : Value} (f : Nat) (hx : Rd S w x p v) : Good P B S p w (Instr.fieldAt t v f) (fieldAddrR ty x f H U) := by
  unfold fieldAddrR; split
  · simp only [Rd] at hx; obtain ⟨g, hg, rfl⟩ := hx
    exact ⟨trivial, fun hc => RunOk.same hh (run_fieldAddr hf hc) (by simp only [Rd]; exact ⟨g, hg, rfl⟩)⟩
  · simp only [Rd] at hx; obtain ⟨b, off, rfl, hx⟩ := hx
    exact ⟨trivial, fun hc => RunOk.same hh (run_fieldAddr hf hc) (by simp only [Rd]; exact ⟨b, _, rfl, rdAt_drop _ hx⟩)⟩
  · rename_i i n sz k off
    simp only [Rd] at hx; obtain ⟨g, hg, hl, ho, hx⟩ := hx
    refine ⟨trivial, fun hc => ?_⟩
    obtain ⟨b, hb, rfl⟩ := hx (cur_len hh hc.1 hg)
    exact RunOk.same hh (run_fieldAddr hf hc.2) (by simp only [Rd]; exact ⟨g, hg, hl, rfl, fun _ => ⟨b, hb, by rw [Nat.add_assoc]⟩⟩)
  · trivial
def indexAddrR (ty : Ty) (x i : D) (H : Nat → Option LObj) (U : Nat → Bool) : Res :=
  match x, i with
  | .sl sz rows, .int _ n => .ok True (ty.kind = .slice ∧ ty.esz = sz ∧ 0 ≤ n ∧ n < rows.length) (.box (rows.getD n.toNat [])) H U
  | .vec j m, .int _ n => .ok True (ty.kind = .slice ∧ cur (H j) m ∧ 0 ≤ n ∧ n < m) (.vptr j m ty.esz n.toNat 0) H U
  | .loc j off, .int _ n => .ok True (ty.kind = .array ∧ 0 ≤ n ∧ n < ty.key) (.loc j (off + n.toNat * ty.esz)) H U
  | .box cs, .int _ n => .ok True (ty.kind = .array ∧ 0 ≤ n ∧ n < ty.key) (.box (cs.drop (n.toNat * ty.esz))) H U
  | _, _ => .bad
theorem rdRows_get : ∀ {rows : List (List D)} {b off sz : Nat} {k : Nat}, RdRows S w rows b off → (∀ r ∈ rows, r.length = sz) → k < rows.length → RdAt S w (rows.getD k []) b (off + k * sz)
  | [], _, _, _, k, _, _, h => by simp at h
  | r :: rs, b, off, sz, 0, h, _, _ => by simpa using h.1
  | r :: rs, b, off, sz, k + 1, h, hl, hk => by
    have := rdRows_get (k := k) h.2 (fun r hr => hl r (by simp [hr])) (by simpa using hk)
    rw [hl r (by simp)] at this
    rw [show off + (k + 1) * sz = off + sz + k * sz from by rw [Nat.add_mul]; omega]
    simpa using this
theorem run_indexSlice (hs : P.underlying t = some (.slice ty.elem)) (he : ty.esz = P.cellsOf ty.elem) (hsn : tseen P ty.elem = true) {k : IntKind} {n : Int} {b off len cap : Nat} (h0 : 0 ≤ n) (h1 : n < len) :
    (Instr.indexAt t (.slice (some ⟨b, off, none⟩) len cap) (.int k n)).run P w = .ok (.pointer (some ⟨b, off + n.toNat * ty.esz, none⟩)) w := by
  simp [Instr.indexAt, asIntOf, run_und hs, h0, h1, run_sizeOf_seen hsn, addr_add, he]
theorem run_indexArr (hs : P.underlying t = some (.array ty.key ty.elem)) (he : ty.esz = P.cellsOf ty.elem) (hsn : tseen P ty.elem = true) {k : IntKind} {n : Int} {b off : Nat} (h0 : 0 ≤ n) (h1 : n < ty.key) :
    (Instr.indexAt t (.pointer (some ⟨b, off, none⟩)) (.int k n)).run P w = .ok (.pointer (some ⟨b, off + n.toNat * ty.esz, none⟩)) w := by
  simp [Instr.indexAt, asIntOf, run_und hs, Instr.sureAddr, h0, h1, run_sizeOf_seen hsn, addr_add, he]
theorem good_indexAddr (hh : Heap B S p H U w) (hf : TyFact P t ty) {x i : D} {v u : Value} (hx : Rd S w x p v) (hi : Rd S w i p u) : Good P B S p w (Instr.indexAt t v u) (indexAddrR ty x i H U) := by
  unfold indexAddrR; split
  · rename_i sz rows k n
    simp only [Rd] at hx hi; subst hi
    obtain ⟨a, cap, rfl, hc, hl, hz, hr⟩ := hx
    refine ⟨trivial, fun hcc => ?_⟩
    obtain ⟨hk, rfl, h0, h1⟩ := hcc
    obtain ⟨hs, he, _, hsn⟩ := hf.slice hk
    rcases hr with rfl | ⟨b, off, rfl, hr⟩
    · simp at h1; omega
    · exact RunOk.same hh (run_indexSlice hs he hsn h0 h1) (by simp only [Rd]; exact ⟨b, _, rfl, rdRows_get hr hz (by omega)⟩)
  · rename_i j m k n
    simp only [Rd] at hx hi; subst hi
    obtain ⟨g, hg, hl, ho, hx⟩ := hx
    refine ⟨trivial, fun hcc => ?_⟩
    obtain ⟨hk, hcu, h0, h1⟩ := hcc
    obtain ⟨hs, he, _, hsn⟩ := hf.slice hk
    have hn := cur_len hh hcu hg
    obtain rfl := hx hn
    cases hob : H j with
    | none => rw [hob] at hcu; exact hcu.elim
    | some o =>
      obtain ⟨g', hg', hr⟩ := hh.obj j o hob
      rw [hg] at hg'; cases hg'
      cases o with
      | blk _ _ => rw [hob] at hcu; exact hcu.elim
      | mp _ _ _ => rw [hob] at hcu; exact hcu.elim
      | yl _ _ => rw [hob] at hcu; exact hcu.elim
      | lrec => rw [hob] at hcu; exact hcu.elim
      | mv _ _ => rw [hob] at hcu; exact hcu.elim
      | nv e ms =>
        obtain ⟨xs, ⟨hown, _⟩, ho1, h3, _⟩ := hr
        rcases hown.2 with ⟨_, e0⟩ | ⟨gb, cap, cu, hv, _⟩
        · omega
        · rw [hv]
          refine RunOk.same hh (run_indexSlice hs he hsn h0 (by omega)) ?_
          simp only [Rd]
          exact ⟨g, hg, hl, rfl, fun _ => ⟨gb, by rw [ho1, hv]; rfl, by simp⟩⟩
      | vec e sz rows fz =>
        obtain ⟨xs, ⟨hown, _⟩, ho1, h3, _⟩ := hr
        rcases hown.2 with ⟨_, e0⟩ | ⟨gb, cap, cu, hv, _⟩
        · omega
        · rw [hv]
          refine RunOk.same hh (run_indexSlice hs he hsn h0 (by omega)) ?_
          simp only [Rd]
          exact ⟨g, hg, hl, rfl, fun _ => ⟨gb, by rw [ho1, hv]; rfl, by simp⟩⟩
  · rename_i j off k n
    simp only [Rd] at hx hi; subst hi
    obtain ⟨g, hg, rfl⟩ := hx
    refine ⟨trivial, fun hcc => ?_⟩
    obtain ⟨hk, h0, h1⟩ := hcc
    obtain ⟨hs, he, _, hsn⟩ := hf.array hk
    exact RunOk.same hh (run_indexArr hs he hsn h0 h1) (by simp only [Rd]; exact ⟨g, hg, rfl⟩)
  · rename_i cs k n
    simp only [Rd] at hx hi; subst hi
    obtain ⟨b, off, rfl, hx⟩ := hx
    refine ⟨trivial, fun hcc => ?_⟩
    obtain ⟨hk, h0, h1⟩ := hcc
    obtain ⟨hs, he, _, hsn⟩ := hf.array hk
    exact RunOk.same hh (run_indexArr hs he hsn h0 h1) (by simp only [Rd]; exact ⟨b, _, rfl, rdAt_drop _ hx⟩)
  · trivial
theorem run_part {tt off : Nat} {cs : List D} {vs : List Value} (hs : tseen P tt = true) (hr : RdL S w cs p vs) (h1 : ∀ v ∈ vs, v.oneCell' = true) (hle : off + P.cellsOf tt ≤ cs.length) (hpos : aggOf P tt = false → P.cellsOf tt = 1) :
    ∃ v, (part tt vs.toArray off).run P w = .ok v w ∧ Rd S w (mkD (aggOf P tt) ((cs.drop off).take (P.cellsOf tt))) p v := by
  have hl := rdL_len hr
  unfold part
  simp only [Sem.run_bind, run_isAgg_seen hs, Result.andThen_ok]
  by_cases ha : aggOf P tt = true
  · refine ⟨.agg ((vs.drop off).take (P.cellsOf tt)).toArray, ?_, ?_⟩
    · simp [ha, run_sizeOf_seen hs]
    · simp only [mkD, ha, if_true, Rd]
      exact ⟨_, rfl, rdL_take (rdL_drop hr _) _, fun v hv => h1 v (mem_take_drop hv)⟩
  · have hp := hpos (by simpa using ha)
    obtain ⟨v, hv, hd⟩ := rdL_get hr off (by omega)
    refine ⟨v, by simp [ha, hv], ?_⟩
    have : ((cs.drop off).take (P.cellsOf tt)).headD .any = cs.getD off .any := by
      rw [hp]
      have : off < cs.length := by omega
      rw [List.drop_eq_getElem_cons this, List.take_succ_cons]
      simp [this]
    simp only [mkD, ha, this]
    exact hd
def fieldR (ty : Ty) (x : D) (f : Nat) (H : Nat → Option LObj) (U : Nat → Bool) : Res :=
  match x with
  | .agg cs => .ok True (ty.kind = .struct ∧ f < ty.flds.length ∧ (ty.flds.getD f (0, 0, false)).1 + (ty.flds.getD f (0, 0, false)).2.1 ≤ cs.length ∧ ((ty.flds.getD f (0, 0, false)).2.2 = false → (ty.flds.getD f (0, 0, false)).2.1 = 1))
      (mkD (ty.flds.getD f (0, 0, false)).2.2 ((cs.drop (ty.flds.getD f (0, 0, false)).1).take (ty.flds.getD f (0, 0, false)).2.1)) H U
  | _ => .bad
theorem good_field (hh : Heap B S p H U w) (hf : TyFact P t ty) {x : D} {v : Value} (f : Nat) (hx : Rd S w x p v) : Good P B S p w (Instr.field t v f) (fieldR ty x f H U) := by
  unfold fieldR; split
  · rename_i cs
    simp only [Rd] at hx
    obtain ⟨vs, rfl, hr, h1⟩ := hx
    refine ⟨trivial, fun hc => ?_⟩
    obtain ⟨hk, hl, hle, hpos⟩ := hc
    obtain ⟨fs, hu, hfl, hsn, _⟩ := hf.struct hk
    rw [← hfl] at hl hle hpos ⊢
    have hl' : f < fs.size := by simpa using hl
    have hg : ((fs.toList.map fun f => (f.offset, P.cellsOf f.type, aggOf P f.type)).getD f (0, 0, false)) = (fs[f].offset, P.cellsOf fs[f].type, aggOf P fs[f].type) := by simp [hl']
    rw [hg] at hle hpos ⊢
    simp only at hle hpos ⊢
    obtain ⟨v, e1, e2⟩ := run_part (hsn fs[f] (by simp)) hr h1 hle hpos
    refine RunOk.same hh (v := v) ?_ e2
    simp [Instr.field, run_und hu, hl', asAgg, e1]
  · trivial
def indexR (ty : Ty) (x i : D) (H : Nat → Option LObj) (U : Nat → Bool) : Res :=
  match x, i with
  | .agg cs, .int _ n => .ok True (ty.kind = .array ∧ 0 ≤ n ∧ n < ty.key ∧ n.toNat * ty.esz + ty.esz ≤ cs.length ∧ (ty.eagg = false → ty.esz = 1)) (mkD ty.eagg ((cs.drop (n.toNat * ty.esz)).take ty.esz)) H U
  | .str s, .int _ n => .ok True (ty.kind = .str ∧ 0 ≤ n ∧ n < s.length) (.int .u8 (s.getD n.toNat 0).toNat) H U
  | _, _ => .bad
theorem good_index (hh : Heap B S p H U w) (hf : TyFact P t ty) {x i : D} {v u : Value} (hx : Rd S w x p v) (hi : Rd S w i p u) : Good P B S p w (Instr.index t v u) (indexR ty x i H U) := by
  unfold indexR; split
  · rename_i cs k n
    simp only [Rd] at hx hi; subst hi
    obtain ⟨vs, rfl, hr, h1⟩ := hx
    refine ⟨trivial, fun hc => ?_⟩
    obtain ⟨hk, h0, hn, hle, hpos⟩ := hc
    obtain ⟨hu, he, hea, hsn⟩ := hf.array hk
    rw [he] at hle hpos ⊢
    rw [hea] at hpos ⊢
    obtain ⟨v, e1, e2⟩ := run_part (off := n.toNat * P.cellsOf ty.elem) hsn hr h1 hle hpos
    refine RunOk.same hh (v := v) ?_ e2
    simp [Instr.index, asIntOf, run_und hu, h0, hn, run_sizeOf_seen hsn, e1]
  · rename_i s k n
    simp only [Rd] at hx hi; subst hi
    obtain ⟨rfl, hb⟩ := hx
    refine ⟨trivial, fun hc => ?_⟩
    obtain ⟨hk, h0, hn⟩ := hc
    have hu := hf.str hk
    have hlt : n.toNat < s.length := by omega
    refine RunOk.same hh (v := .int .u8 (s.getD n.toNat 0).toNat) ?_ rfl
    have : (⟨s.toArray⟩ : ByteArray)[n.toNat]? = some s[n.toNat] := by
      have h2 : n.toNat < (⟨s.toArray⟩ : ByteArray).size := by simpa [ByteArray.size] using hlt
      exact getElem?_pos (⟨s.toArray⟩ : ByteArray) n.toNat h2
    simp [Instr.index, asIntOf, run_und hu, h0, this, hlt]
  · trivial
def extractR (x : D) (k : Nat) (H : Nat → Option LObj) (U : Nat → Bool) : Res := match x with | .tup ds => .ok True (k < ds.length) (ds.getD k .any) H U | _ => .bad
theorem good_extract (hh : Heap B S p H U w) {x : D} {v : Value} (k : Nat) (hx : Rd S w x p v) : Good P B S p w (Instr.extract v k) (extractR x k H U) := by
  unfold extractR; split
  · simp only [Rd] at hx; obtain ⟨vs, rfl, hr⟩ := hx
    refine ⟨trivial, fun hc => ?_⟩
    obtain ⟨u, hu, hd⟩ := rdL_get hr k hc
    exact RunOk.same hh (v := u) (by simp [Instr.extract, hu]) hd
  · trivial
theorem maplen {es : List MapEntry} {ks : List D} (h : RdL S w ks noPl (es.map (·.key))) : es.length = ks.length := by simpa using rdL_len h
theorem ba_size (s : List UInt8) : (⟨s.toArray⟩ : ByteArray).size = s.length := by simp [ByteArray.size]
def lenB (o : Option LObj) (ty : Ty) (H : Nat → Option LObj) (U : Nat → Bool) : Res := match o with | some (.mp ks _ _) => .ok True (ty.kind = .map) (.int .i64 ks.length) H U | _ => .bad
def lenR (ty : Ty) (x : D) (H : Nat → Option LObj) (U : Nat → Bool) : Res :=
  match x with
  | .sl _ rows => .ok (rows.length < 140737488355328) (ty.kind = .slice) (.int .i64 rows.length) H U
  | .str s => .ok (s.length < 140737488355328) (ty.kind = .str) (.int .i64 s.length) H U
  | .nil => .ok True (ty.kind = .slice) (.int .i64 0) H U
  | .emp => .ok True (ty.kind = .slice) (.int .i64 0) H U
  | .vec i n => .ok True (ty.kind = .slice ∧ cur (H i) n) (.int .i64 n) H U
  | .mp ks _ => .ok True (ty.kind = .map) (.int .i64 ks.length) H U
  | .lmap i => lenB (H i) ty H U
  | .val (.map none) => .ok True (ty.kind = .map) (.int .i64 0) H U
  | _ => .bad
theorem good_len (hh : Heap B S p H U w) (hf : TyFact P t ty) {x : D} {v : Value} (hx : Rd S w x p v) (rt : TypeId) : Good P B S p w (Builtin.len_ #[t] rt #[v]) (lenR ty x H U) := by
  unfold lenR; split
  · simp only [Rd] at hx; obtain ⟨a, cap, rfl, _, hl, _⟩ := hx
    exact ⟨hl, fun hc => RunOk.same hh (by simp [Builtin.len_, run_und (hf.slice hc).1, goInt]) rfl⟩
  · simp only [Rd] at hx; obtain ⟨rfl, hl⟩ := hx
    exact ⟨hl, fun hc => RunOk.same hh (by simp only [Builtin.len_]; simp [run_und (hf.str hc), goInt, ba_size]) rfl⟩
  · simp only [Rd] at hx; subst hx
    exact ⟨trivial, fun hc => RunOk.same hh (by simp [Builtin.len_, run_und (hf.slice hc).1, goInt]) rfl⟩
  · simp only [Rd] at hx; obtain ⟨a, rfl⟩ := hx
    exact ⟨trivial, fun hc => RunOk.same hh (by simp [Builtin.len_, run_und (hf.slice hc).1, goInt]) rfl⟩
  · rename_i i n
    simp only [Rd] at hx; obtain ⟨g, hg, hl, _, hx⟩ := hx
    refine ⟨trivial, fun hc => ?_⟩
    have hn := cur_len hh hc.2 hg
    obtain rfl := hx hn
    have hcu := hc.2
    cases hob : H i with
    | none => rw [hob] at hcu; exact hcu.elim
    | some o =>
      obtain ⟨g', hg', hr⟩ := hh.obj i o hob
      rw [hg] at hg'; cases hg'
      cases o with
      | blk _ _ => rw [hob] at hcu; exact hcu.elim
      | mp _ _ _ => rw [hob] at hcu; exact hcu.elim
      | yl _ _ => rw [hob] at hcu; exact hcu.elim
      | lrec => rw [hob] at hcu; exact hcu.elim
      | mv _ _ => rw [hob] at hcu; exact hcu.elim
      | nv e ms =>
        obtain ⟨xs, ⟨hown, _⟩, _, h3, _⟩ := hr
        have : ∃ a cap, g.hdr = .slice a n cap := by
          rcases hown.2 with ⟨e1, e0⟩ | ⟨gb, cap, cu, hv, _⟩
          · exact ⟨none, 0, by rw [e1, show n = 0 from by omega]⟩
          · exact ⟨_, cap, by rw [hv, hn, h3]⟩
        obtain ⟨a, cap, e⟩ := this
        exact RunOk.same hh (by simp [Builtin.len_, run_und (hf.slice hc.1).1, goInt, e]) rfl
      | vec e sz rows fz =>
        obtain ⟨xs, ⟨hown, _⟩, _, h3, _⟩ := hr
        have : ∃ a cap, g.hdr = .slice a n cap := by
          rcases hown.2 with ⟨e1, e0⟩ | ⟨gb, cap, cu, hv, _⟩
          · exact ⟨none, 0, by rw [e1, show n = 0 from by omega]⟩
          · exact ⟨_, cap, by rw [hv, hn, h3]⟩
        obtain ⟨a, cap, e⟩ := this
        exact RunOk.same hh (by simp [Builtin.len_, run_und (hf.slice hc.1).1, goInt, e]) rfl
  · simp only [Rd] at hx; obtain ⟨r, es, c, rfl, hm, _, hk, _⟩ := hx
    exact ⟨trivial, fun hc => RunOk.same hh (by simp [Builtin.len_, run_und (hf.map hc), getObj, Sem.run, hm, goInt, maplen hk]) rfl⟩
  · rename_i i
    unfold lenB; split
    · rename_i ks ds fz ho
      simp only [Rd] at hx; obtain ⟨g, hg, rfl⟩ := hx
      obtain ⟨g', hg', hr⟩ := hh.obj i _ ho
      rw [hg] at hg'; cases hg'
      obtain ⟨es, c, hm, _, _, hk, _⟩ := hr
      exact ⟨trivial, fun hc => RunOk.same hh (by simp [Builtin.len_, run_und (hf.map hc), getObj, Sem.run, hm, goInt, maplen hk]) rfl⟩
    · trivial
  · simp only [Rd] at hx; subst hx
    exact ⟨trivial, fun hc => RunOk.same hh (by simp [Builtin.len_, run_und (hf.map hc), goInt]) rfl⟩
  · trivial
end ops
end Go.Tn
