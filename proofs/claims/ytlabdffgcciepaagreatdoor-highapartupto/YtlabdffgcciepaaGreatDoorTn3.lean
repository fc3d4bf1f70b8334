/- Symbolic data, and what the operations do to it. -/
import Derived.Test.YtlabdffgcciepaaGreatDoorTn2
set_option linter.unusedSimpArgs false
set_option linter.unusedVariables false
set_option linter.unusedSectionVars false
namespace Go.Tn
open Go.RowKit
section
variable {P : Program} {t : Nat} {ty : Ty}
theorem TyFact.sizeOf (h : TyFact P t ty) (w : World) : (sizeOf t).run P w = .ok ty.zero.length w := by
  obtain ⟨⟨i, z, hi, hz, hs, _⟩, _, _⟩ := h
  simp [Go.sizeOf, typeInfo, hi, hs]
theorem TyFact.zeroV (h : TyFact P t ty) (w : World) : ∃ z, (zeroValue t).run P w = .ok z w ∧ z.cells.toList = ty.zero ∧ (if ty.kind.agg then z = .agg ty.zero.toArray else ∃ v, ty.zero = [v] ∧ z = v ∧ v.oneCell' = true) := by
  obtain ⟨⟨i, z, hi, hz, hs, _, hc, hv⟩, _, _⟩ := h
  exact ⟨z, by simp [zeroValue, typeInfo, hi, hz], hc, hv⟩
theorem TyFact.under (h : TyFact P t ty) : ∃ d, P.underlying t = some d ∧ ∀ w, (underlying t).run P w = .ok d w := by
  obtain ⟨_, _, d, hd, _⟩ := h
  exact ⟨d, hd, fun w => by simp [underlying, hd]⟩
theorem TyFact.isAgg (h : TyFact P t ty) (w : World) : (isAgg t).run P w = .ok ty.kind.agg w := by
  obtain ⟨_, _, d, hd, hk⟩ := h
  have hu : (underlying t).run P w = .ok d w := by simp [underlying, hd]
  unfold Go.isAgg
  simp only [Sem.run_bind, hu, Result.andThen_ok]
  revert hk
  cases ty.kind <;> intro hk
  all_goals first
    | exact hk.elim
    | (subst hk; rfl)
    | (obtain ⟨rfl, _⟩ := hk; rfl)
    | (obtain ⟨_, rfl, _⟩ := hk; rfl)
    | (obtain ⟨_, _, _, rfl⟩ := hk; rfl)
    | (obtain ⟨_, rfl⟩ := hk; rfl)
theorem run_sizeOf_seen (h : tseen P t = true) (w : World) : (Go.sizeOf t).run P w = .ok (P.cellsOf t) w := by
  simp only [tseen, Bool.and_eq_true, Option.isSome_iff_exists] at h
  obtain ⟨⟨i, hi⟩, _⟩ := h
  simp [Go.sizeOf, typeInfo, hi, Program.cellsOf]
theorem run_isAgg_seen (h : tseen P t = true) (w : World) : (Go.isAgg t).run P w = .ok (aggOf P t) w := by
  simp only [tseen, Bool.and_eq_true, Option.isSome_iff_exists] at h
  obtain ⟨_, ⟨d, hd⟩⟩ := h
  unfold Go.isAgg aggOf
  simp only [underlying, Sem.run_bind, run_program, Result.andThen_ok, hd, Sem.run_pure]
  cases d <;> rfl
theorem TyFact.slice (h : TyFact P t ty) (hk : ty.kind = .slice) : P.underlying t = some (.slice ty.elem) ∧ ty.esz = P.cellsOf ty.elem ∧ ty.eagg = aggOf P ty.elem ∧ tseen P ty.elem = true := by
  obtain ⟨_, _, d, hd, h⟩ := h; rw [hk] at h; obtain ⟨rfl, h⟩ := h; exact ⟨hd, h⟩
theorem TyFact.map (h : TyFact P t ty) (hk : ty.kind = .map) : P.underlying t = some (.map ty.key ty.elem) := by
  obtain ⟨_, _, d, hd, h⟩ := h; rw [hk] at h; rw [hd, h]
theorem TyFact.array (h : TyFact P t ty) (hk : ty.kind = .array) : P.underlying t = some (.array ty.key ty.elem) ∧ ty.esz = P.cellsOf ty.elem ∧ ty.eagg = aggOf P ty.elem ∧ tseen P ty.elem = true := by
  obtain ⟨_, _, d, hd, h⟩ := h; rw [hk] at h; obtain ⟨rfl, h⟩ := h; exact ⟨hd, h⟩
theorem TyFact.str (h : TyFact P t ty) (hk : ty.kind = .str) : P.underlying t = some .string := by
  obtain ⟨_, _, d, hd, h⟩ := h; rw [hk] at h; rw [hd, h]
theorem TyFact.intk {k : IntKind} (h : TyFact P t ty) (hk : ty.kind = .int k) : P.underlying t = some (.int k) := by
  obtain ⟨_, _, d, hd, h⟩ := h; rw [hk] at h; rw [hd, h]
theorem TyFact.struct (h : TyFact P t ty) (hk : ty.kind = .struct) : ∃ fs, P.underlying t = some (.struct fs) ∧ fs.toList.map (fun f => (f.offset, P.cellsOf f.type, aggOf P f.type)) = ty.flds ∧ (∀ f ∈ fs.toList, tseen P f.type = true) ∧ ty.eagg = cmpOf P t ty.zero := by
  obtain ⟨_, _, d, hd, h⟩ := h; rw [hk] at h; obtain ⟨fs, rfl, hf⟩ := h; exact ⟨fs, hd, hf⟩
end
theorem run_und {P : Program} {t : Nat} {d : TypeDesc} (h : P.underlying t = some d) (w : World) : (underlying t).run P w = .ok d w := by simp [underlying, h]
theorem addr_add (b off n : Nat) : (⟨b, off, none⟩ : Addr).add n = ⟨b, off + n, none⟩ := by
  unfold Addr.add; split
  · subst_vars; rfl
  · rfl
inductive Res where
  | ok (f c : Prop) (d : D) (H : Nat → Option LObj) (U : Nat → Bool)
  | call (f : Nat) (caps args : List D)
  | yield (j : Nat) (args : List D)
  | panic (d : D)
  | bad
def RunOk (P : Program) (B : Base) (S : Ex) (p : Pl) (w : World) (m : Sem Value) (d : D) (H : Nat → Option LObj) (U : Nat → Bool) : Prop :=
  ∃ v w' S' p', m.run P w = .ok v w' ∧ Rd S' w' d p' v ∧ Heap B S' p' H U w' ∧ Keep S S' w w' ∧ PlLe p p'
def Good (P : Program) (B : Base) (S : Ex) (p : Pl) (w : World) (m : Sem Value) : Res → Prop
  | .ok f c d H U => f ∧ (c → RunOk P B S p w m d H U)
  | .bad => True
  | _ => False
section ops
variable {P : Program} {B : Base} {S : Ex} {p : Pl} {w : World} {H : Nat → Option LObj} {U : Nat → Bool} {t : Nat} {ty : Ty}
theorem RunOk.same {m : Sem Value} {d : D} {v : Value} (h : Heap B S p H U w) (hr : m.run P w = .ok v w) (hd : Rd S w d p v) : RunOk P B S p w m d H U :=
  ⟨v, w, S, p, hr, hd, h, Keep.refl _ _, PlLe.refl _⟩
theorem Good.same {m : Sem Value} {d : D} {v : Value} (h : Heap B S p H U w) (hr : m.run P w = .ok v w) (hd : Rd S w d p v) : Good P B S p w m (.ok True True d H U) :=
  ⟨trivial, fun _ => RunOk.same h hr hd⟩
def loadB (o : Option LObj) (off : Nat) (ty : Ty) (H : Nat → Option LObj) (U : Nat → Bool) : Res :=
  match o with
  | some (.blk cs _) => .ok True (off + ty.zero.length ≤ cs.length) (mkD ty.kind.agg ((cs.drop off).take ty.zero.length)) H U
  | _ => .bad
def loadV (o : Option LObj) (n sz k off : Nat) (ty : Ty) (H : Nat → Option LObj) (U : Nat → Bool) : Res :=
  match o with
  | some (.vec _ sz' rows _) => .ok True (sz' = sz ∧ rows.length = n ∧ k < rows.length ∧ off + ty.zero.length ≤ sz) (mkD ty.kind.agg (((rows.getD k []).drop off).take ty.zero.length)) H U
  | some (.nv _ ms) => .ok True ((sz = 1 ∧ off = 0) ∧ ms.length = n ∧ k < ms.length ∧ ty.zero.length = 1 ∧ ty.kind.agg = false) (.vec (ms.getD k (0, 0)).1 (ms.getD k (0, 0)).2) H U
  | _ => .bad
def loadR (ty : Ty) (x : D) (H : Nat → Option LObj) (U : Nat → Bool) : Res :=
  match x with
  | .box cs => .ok True (ty.zero.length ≤ cs.length) (mkD ty.kind.agg (cs.take ty.zero.length)) H U
  | .loc i off => loadB (H i) off ty H U
  | .vptr i n sz k off => loadV (H i) n sz k off ty H U
  | _ => .bad
theorem run_loadVar (hf : TyFact P t ty) {b off : Nat} {vs : List Value} {cs : List D} (hl : vs.length = ty.zero.length) (hc : ∀ j v, vs[j]? = some v → w.cell? ⟨b, off + j, none⟩ = some v)
    (hr : RdL S w cs p vs) (ho : ∀ v ∈ vs, v.oneCell' = true) :
    ∃ v, (Instr.loadAt t (.pointer (some ⟨b, off, none⟩))).run P w = .ok v w ∧ Rd S w (mkD ty.kind.agg cs) p v := by
  have hlc := rdL_len hr
  unfold Instr.loadAt Instr.sureAddr loadVar
  simp only [Sem.run_bind, Sem.run_pure, Result.andThen_ok, hf.isAgg w]
  by_cases ha : ty.kind.agg = true
  · refine ⟨.agg vs.toArray, ?_, ?_⟩
    · have := run_loadCells_list (P := P) (w := w) ⟨b, off, none⟩ vs (fun j v hj => by rw [addr_add]; exact hc j v hj)
      simp [ha, hf.sizeOf w, ← hl, this]
    · simp only [mkD, ha, if_true, Rd]; exact ⟨vs, rfl, hr, ho⟩
  · have h1 : ty.zero.length = 1 := by
      obtain ⟨z, _, _, hz⟩ := hf.zeroV w
      simp only [ha] at hz
      obtain ⟨v, h, _⟩ := hz
      simp [h]
    rw [h1] at hl
    match vs, hl with
    | [v], _ =>
      match cs, hlc with
      | [c], _ =>
        obtain ⟨v', r, e, h1, h2⟩ := hr
        cases e
        refine ⟨v, ?_, ?_⟩
        · have := hc 0 v rfl
          simp only [Nat.add_zero] at this
          simp [ha, this]
        · simpa [mkD, ha] using h1
theorem take_drop_get {α : Type} {l : List α} {i n j : Nat} {v : α} (h : ((l.drop i).take n)[j]? = some v) : l[i + j]? = some v := by
  rw [List.getElem?_take] at h
  split at h
  · rw [List.getElem?_drop] at h; exact h
  · cases h
theorem mem_take_drop {α : Type} {l : List α} {i n : Nat} {v : α} (h : v ∈ (l.drop i).take n) : v ∈ l := List.mem_of_mem_drop (List.mem_of_mem_take h)
theorem flatten_row {rows : List (List D)} {sz k : Nat} (h : ∀ r ∈ rows, r.length = sz) (hk : k < rows.length) : (rows.flatten.drop (k * sz)).take sz = rows.getD k [] := by
  induction rows generalizing k with
  | nil => simp at hk
  | cons r rows ih =>
    have hr := h r (by simp)
    cases k with
    | zero => simp [List.take_left' hr]
    | succ k =>
      have : (k + 1) * sz = r.length + k * sz := by rw [hr, Nat.add_mul, Nat.one_mul, Nat.add_comm]
      rw [List.flatten_cons, this, List.drop_append, List.drop_of_length_le (by omega), List.nil_append, Nat.add_sub_cancel_left]
      simpa using ih (fun r hr => h r (by simp [hr])) (by simpa using hk)
theorem flatten_len {rows : List (List D)} {sz : Nat} (h : ∀ r ∈ rows, r.length = sz) : rows.flatten.length = rows.length * sz := by
  induction rows with
  | nil => simp
  | cons r rows ih =>
    rw [List.flatten_cons, List.length_append, ih (fun r hr => h r (by simp [hr])), h r (by simp), List.length_cons, Nat.add_mul, Nat.one_mul, Nat.add_comm]
theorem owns_cell {n0 e sz : Nat} {v : Value} {n : Nat} {xs : List Value} (h : w.ownsRow n0 e sz v n xs) {b : Nat} (hb : v.ownBlock = some b) : ∀ j u, xs[j]? = some u → w.cell? ⟨b, j, none⟩ = some u := by
  intro j u hj
  obtain ⟨h1, h2⟩ := h
  rcases h2 with ⟨rfl, rfl⟩ | ⟨g, cap, cur, rfl, hg, hh, hn, hm, hs, ht⟩
  · simp at h1; subst h1; simp at hj
  · cases hb
    have := Array.getElem?_toList (xs := cur) (i := j)
    simp only [World.cell?, hh]
    rw [← ht, List.getElem?_take] at hj
    split at hj
    · simpa using hj
    · cases hj
theorem good_load (hh : Heap B S p H U w) (hf : TyFact P t ty) {x : D} {v : Value} (hx : Rd S w x p v) : Good P B S p w (Instr.loadAt t v) (loadR ty x H U) := by
  unfold loadR
  split
  · rename_i cs
    refine ⟨trivial, fun hle => ?_⟩
    simp only [Rd] at hx
    obtain ⟨b, off, rfl, hx⟩ := hx
    obtain ⟨vs, h1, h2, h3⟩ := rdAt_get (rdAt_take ty.zero.length hx)
    obtain ⟨u, hu, hd⟩ := run_loadVar hf (S := S) (p := noPl) (cs := cs.take ty.zero.length) (by rw [rdL_len h1, List.length_take]; omega) (fun j u hj => (h3 j u hj).1) h1 h2
    exact RunOk.same hh hu (Rd.mono (Keep.refl _ _) _ (PlLe.none p) hd)
  · rename_i i off
    unfold loadB
    split
    · rename_i cs fz hi
      refine ⟨trivial, fun hle => ?_⟩
      simp only [Rd] at hx
      obtain ⟨g, hg, rfl⟩ := hx
      obtain ⟨g', hg', ho⟩ := hh.obj i _ hi
      rw [hg] at hg'; cases hg'
      obtain ⟨vs, tt, hb, _, _, hr, _, h1⟩ := ho
      have hr' : RdL S w cs p vs := RdL.mono (Keep.refl _ _) _ (by cases fz <;> first | exact PlLe.refl _ | exact PlLe.none _) hr
      have hl := rdL_len hr'
      obtain ⟨u, hu, hd⟩ := run_loadVar hf (b := g.ptr) (off := off) (vs := (vs.drop off).take ty.zero.length) (by rw [List.length_take, List.length_drop, hl]; omega) (fun j u hj => by
        have := take_drop_get hj
        simp only [World.cell?, hb]; simpa using this) (rdL_take (rdL_drop hr' off) _) (fun u hu => h1 u (mem_take_drop hu))
      exact RunOk.same hh hu hd
    · trivial
  · rename_i i n sz k off
    unfold loadV
    split
    · rename_i e sz' rows fz hi
      refine ⟨trivial, fun hle => ?_⟩
      obtain ⟨rfl, rfl, hk, hle⟩ := hle
      simp only [Rd] at hx
      obtain ⟨g, hg, _, _, hx⟩ := hx
      obtain ⟨g', hg', ho⟩ := hh.obj i _ hi
      rw [hg] at hg'; cases hg'
      obtain ⟨xs, ⟨h1, _⟩, h2, h3, h4, h5, h6, h7, h8⟩ := ho
      obtain ⟨b, hb, rfl⟩ := hx h3.symm
      have hc := owns_cell h1 (h2 ▸ hb)
      have hl := rdL_len h6
      have hfl := flatten_len h5
      have hkl : k * sz' + sz' ≤ rows.length * sz' := by
        have : (k + 1) * sz' ≤ rows.length * sz' := Nat.mul_le_mul_right _ hk
        rw [Nat.add_mul, Nat.one_mul] at this; exact this
      have hsub : RdL S w (((rows.getD k []).drop off).take ty.zero.length) p ((((xs.drop (k * sz')).take sz').drop off).take ty.zero.length) := by
        rw [← flatten_row h5 hk]
        exact rdL_take (rdL_drop (rdL_take (rdL_drop (RdL.mono (Keep.refl _ _) _ (PlLe.none p) h6) _) _) _) _
      obtain ⟨u, hu, hd⟩ := run_loadVar hf (b := b) (off := k * sz' + off) (vs := (((xs.drop (k * sz')).take sz').drop off).take ty.zero.length)
        (by simp only [List.length_take, List.length_drop, hl, hfl]; omega) (fun j u hj => by
          have h9 := take_drop_get hj
          have h10 := take_drop_get h9
          have := hc _ _ h10
          rwa [← Nat.add_assoc] at this) hsub (fun u hu => h7 u (mem_take_drop (mem_take_drop hu)))
      exact RunOk.same hh hu hd
    · rename_i e ms hi
      refine ⟨trivial, fun hle => ?_⟩
      obtain ⟨⟨rfl, rfl⟩, rfl, hk, hz, ha⟩ := hle
      simp only [Rd] at hx
      obtain ⟨g, hg, _, _, hx⟩ := hx
      obtain ⟨g', hg', ho⟩ := hh.obj i _ hi
      rw [hg] at hg'; cases hg'
      obtain ⟨xs, ⟨h1, _⟩, h2, h3, h4, h6, h7, h8⟩ := ho
      obtain ⟨b, hb, rfl⟩ := hx h3.symm
      have hc := owns_cell h1 (h2 ▸ hb)
      obtain ⟨v, hv, hd⟩ := rdL_get h6 k (by simpa [nvD] using hk)
      have hcell := hc k v hv
      refine RunOk.same hh (v := v) ?_ ?_
      · unfold Instr.loadAt Instr.sureAddr loadVar
        simp only [Sem.run_bind, Sem.run_pure, Result.andThen_ok, hf.isAgg w, ha]
        have : (k * 1 + 0) = k := by omega
        rw [this]
        simp [hcell]
      · have e1 : (nvD ms).getD k .any = .vec (ms.getD k (0, 0)).1 (ms.getD k (0, 0)).2 := by
          simp [nvD, List.getD_eq_getElem?_getD, List.getElem?_eq_getElem hk]
        rw [← e1]; exact hd
    · trivial
  · trivial
end ops
end Go.Tn
