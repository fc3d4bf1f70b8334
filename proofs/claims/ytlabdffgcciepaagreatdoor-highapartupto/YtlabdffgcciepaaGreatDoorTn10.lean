/- Symbolic data, and what the operations do to it. -/
import Derived.Test.YtlabdffgcciepaaGreatDoorTn9
set_option linter.unusedSimpArgs false
set_option linter.unusedVariables false
set_option linter.unusedSectionVars false
namespace Go.Tn
open Go.RowKit
def eqK (kty : Ty) : D → D → Option Bool
  | .int j a, .int k b => match kty.kind with | .int _ => if j = k then some (decide (a = b)) else none | _ => none
  | .str a, .str b => match kty.kind with | .str => some (decide (a = b)) | _ => none
  | .agg xs, .agg ys => match kty.kind with
    | .struct => if kty.eagg = true then eqZ kty.zero xs ys else none
    | _ => none
  | _, _ => none
def mfind (kty : Ty) : List D → D → Option (Option Nat)
  | [], _ => some none
  | k :: ks, x => match eqK kty x k with
    | some true => some (some 0)
    | some false => (mfind kty ks x).map (·.map (· + 1))
    | none => none
def mget (o : Option Nat) (ds : List D) (z : D) : D := match o with | some i => ds.getD i .any | none => z
def mks (o : Option Nat) (ks : List D) (k : D) : List D := match o with | some _ => ks | none => ks ++ [k]
def mds (o : Option Nat) (ds : List D) (d : D) : List D := match o with | some i => ds.set i d | none => ds ++ [d]
theorem ba_beq (a b : List UInt8) : ((⟨a.toArray⟩ : ByteArray) == ⟨b.toArray⟩) = decide (a = b) := by
  rw [beq_toListBytes, beq_str]
section ops
variable {P : Program} {B : Base} {S : Ex} {p : Pl} {w : World} {H : Nat → Option LObj} {U : Nat → Bool} {t : Nat} {ty : Ty}
theorem run_checkField {fs : List Field} : ∀ (zs : List Value) (i : Nat) (xs : List D) (us : List Value), cmpAt P i fs zs = true → xs.length = zs.length → RdL S w xs p (us.drop i) → (∀ f ∈ fs, tseen P f.type = true) → ∀ (em : Bool) (n : Nat),
    (forIn fs PUnit.unit (fun f _ => do
      if f.name ≠ "_" then Instr.checkKey em (n + 1) f.type (← part f.type us.toArray f.offset)
      pure (ForInStep.yield PUnit.unit) : Field → PUnit → Sem (ForInStep PUnit))).run P w = .ok PUnit.unit w := by
  induction fs with
  | nil => intros; simp
  | cons f fs ih =>
    intro zs i xs us h hl hx hs em n
    match zs, xs, h, hl with
    | z :: zs, x :: xs, h, hl =>
      simp only [cmpAt, Bool.and_eq_true, bne_iff_ne, ne_eq, beq_iff_eq] at h
      obtain ⟨⟨⟨hn, ho⟩, hk⟩, h⟩ := h
      obtain ⟨v, r, e, hd, hr⟩ := hx
      have hv : us[i]? = some v := by
        have := congrArg (fun l => l[0]?) e
        simpa using this
      have hr' : us.drop (i + 1) = r := by
        have := congrArg (List.drop 1) e
        simpa [List.drop_drop, Nat.add_comm] using this
      have hsf := hs f (by simp)
      have hagg : (Go.isAgg f.type).run P w = .ok false w := by
        rw [run_isAgg_seen hsf]
        unfold aggOf
        split at hk <;> first | (rename_i h1; simp [h1]; done) | (rename_i h1 _; simp [h1]; done) | (cases hk) | skip
        all_goals simp_all
      have hp : (part f.type us.toArray f.offset).run P w = .ok v w := by simp [part, hagg, ho, hv]
      have hck : (Instr.checkKey em (n + 1) f.type v).run P w = .ok () w := by
        unfold Instr.checkKey
        split at hk <;> first | (cases hk; done) | skip
        all_goals (rename_i h1; simp [underlying, h1])
      have := ih zs (i + 1) xs us h (by simpa using hl) (by rw [hr']; exact hr) (fun g hg => hs g (by simp [hg])) em n
      simp only [List.forIn_cons, ne_eq, hn, not_false_eq_true, if_true, Sem.run_bind, hp, hck, Result.andThen_ok, Sem.run_pure]
      simpa using this
theorem eqZ_len : ∀ {zs : List Value} {xs ys : List D} {r : Bool}, eqZ zs xs ys = some r → xs.length = zs.length
  | [], [], [], _, _ => rfl
  | [], [], _ :: _, _, h => by simp [eqZ] at h
  | [], _ :: _, _, _, h => by simp [eqZ] at h
  | z :: zs, [], _, _, h => by simp [eqZ] at h
  | z :: zs, x :: xs, [], _, h => by simp [eqZ] at h
  | z :: zs, x :: xs, y :: ys, r, h => by
    have key : ∀ {r0}, eqZ zs xs ys = some r0 → (x :: xs).length = (z :: zs).length := fun h => by simp [eqZ_len h]
    cases hz : eqZ zs xs ys with
    | some r0 => exact key hz
    | none => unfold eqZ at h; split at h <;> simp_all
theorem run_checkKeyD (hf : TyFact P t ty) {x : D} {v : Value} (he : (eqK ty x x).isSome = true) (hx : Rd S w x p v) (em : Bool) : (Instr.checkKey em 10000 t v).run P w = .ok () w := by
  cases x <;> simp only [eqK, Option.isSome_none, Bool.false_eq_true] at he
  case int k n =>
    simp only [Rd] at hx; subst hx
    split at he <;> first | (cases he; done) | skip
    rename_i hk
    unfold Instr.checkKey
    simp [run_und (hf.intk hk)]
  case str s =>
    simp only [Rd] at hx; obtain ⟨rfl, _⟩ := hx
    split at he <;> first | (cases he; done) | skip
    rename_i hk
    unfold Instr.checkKey
    simp [run_und (hf.str hk)]
  case agg xs =>
    simp only [Rd] at hx; obtain ⟨us, rfl, hr, _⟩ := hx
    split at he <;> first | (cases he; done) | skip
    rename_i hk
    split at he
    · rename_i hc
      obtain ⟨fs, hu, _, hsn, hcm⟩ := hf.struct hk
      rw [hc] at hcm
      have hcm := hcm.symm
      simp only [cmpOf, hu, Bool.and_eq_true] at hcm
      obtain ⟨r, hr0⟩ := Option.isSome_iff_exists.1 he
      have := run_checkField (P := P) ty.zero 0 xs us hcm.2 (eqZ_len hr0) (by simpa using hr) hsn em 9998
      unfold Instr.checkKey
      simp only [Sem.run_bind, run_und hu, Result.andThen_ok]
      rw [← Array.forIn_toList]
      simp at this
      simp [this]
    · cases he
theorem run_eqK (hf : TyFact P t ty) {x y : D} {u v : Value} {b : Bool} (he : eqK ty x y = some b) (hx : Rd S w x p u) (hy : Rd S w y p v) : (Op.equal t u v).run P w = .ok b w := by
  unfold Op.equal Op.maxDepth
  unfold eqK at he
  split at he
  · simp only [Rd] at hx hy; subst hx hy
    split at he <;> first | (cases he; done) | skip
    rename_i hk
    split at he <;> cases he
    rename_i hj
    subst hj
    exact (run_equalIn_int w 9999 t _ _ _ _ (hf.intk hk)).trans (by rw [beq_dec])
  · simp only [Rd] at hx hy; obtain ⟨rfl, _⟩ := hx; obtain ⟨rfl, _⟩ := hy
    split at he <;> cases he
    rename_i hk
    exact (run_equalIn_string w 9999 t _ _ (hf.str hk)).trans (by rw [beq_str])
  · simp only [Rd] at hx hy; obtain ⟨us, rfl, h1, _⟩ := hx; obtain ⟨vs, rfl, h2, _⟩ := hy
    split at he <;> first | (cases he; done) | skip
    rename_i hk
    split at he
    · rename_i hc
      exact (run_equal_agg hf hk hc he h1 h2).1
    · cases he
  · cases he
def spot (es : List MapEntry) (o : Option Nat) : Option (Nat × Value) := o.map fun i => (i, ((es[i]?).map (·.val)).getD undef)
theorem run_findAsking (hf : TyFact P t ty) {x : D} {v : Value} (hx : Rd S w x p v) : ∀ (ks : List D) (es : List MapEntry) (i : Nat) (o : Option Nat), mfind ty ks x = some o → RdL S w ks p (es.map (·.key)) →
    (Instr.findAsking t v es i).run P w = .ok (o.map fun j => (i + j, ((es[j]?).map (·.val)).getD undef)) w
  | [], es, i, o, h, hr => by
    simp only [RdL, List.map_eq_nil_iff] at hr; subst hr
    simp [mfind] at h; subst h
    simp [Instr.findAsking]
  | k :: ks, [], i, o, h, hr => by obtain ⟨_, _, e, _⟩ := hr; cases e
  | k :: ks, e :: es, i, o, h, hr => by
    obtain ⟨u, r, e1, hd, hr⟩ := hr
    simp only [List.map_cons, List.cons.injEq] at e1
    obtain ⟨rfl, rfl⟩ := e1
    simp only [mfind] at h
    split at h
    · rename_i hq
      cases h
      simp [Instr.findAsking, run_eqK hf hq hx hd]
    · rename_i hq
      cases hm : mfind ty ks x with
      | none => simp [hm] at h
      | some o' =>
        simp [hm] at h; subst h
        have ih := run_findAsking hf hx ks es (i + 1) o' hm hr
        simp [Instr.findAsking, run_eqK hf hq hx hd, ih]
        cases o' <;> simp
        omega
    · cases h
theorem findNow_same {kd : TypeDesc} {v : Value} (he : ∀ {x y : D} {u : Value} {b : Bool}, eqK ty x y = some b → Rd S w x p v → Rd S w y p u → Instr.sameNow kd v u = some b ∨ Instr.sameNow kd v u = none) {x : D} (hx : Rd S w x p v) :
    ∀ (ks : List D) (es : List MapEntry) (i : Nat) (o : Option Nat), mfind ty ks x = some o → RdL S w ks p (es.map (·.key)) →
    Instr.findNow kd v es i = some (o.map fun j => (i + j, ((es[j]?).map (·.val)).getD undef)) ∨ Instr.findNow kd v es i = none
  | [], es, i, o, h, hr => by
    simp only [RdL, List.map_eq_nil_iff] at hr; subst hr
    simp [mfind] at h; subst h
    exact .inl rfl
  | k :: ks, [], i, o, h, hr => by obtain ⟨_, _, e, _⟩ := hr; cases e
  | k :: ks, e :: es, i, o, h, hr => by
    obtain ⟨u, r, e1, hd, hr⟩ := hr
    simp only [List.map_cons, List.cons.injEq] at e1
    obtain ⟨rfl, rfl⟩ := e1
    simp only [mfind] at h
    split at h
    · rename_i hq
      cases h
      rcases he hq hx hd with h | h
      · exact .inl (by simp [Instr.findNow, h])
      · exact .inr (by simp [Instr.findNow, h])
    · rename_i hq
      cases hm : mfind ty ks x with
      | none => simp [hm] at h
      | some o' =>
        simp [hm] at h; subst h
        rcases he hq hx hd with h | h
        · rcases findNow_same he hx ks es (i + 1) o' hm hr with ih | ih
          · refine .inl ?_
            simp only [Instr.findNow, h, ih]
            cases o' <;> simp
            omega
          · exact .inr (by simp [Instr.findNow, h, ih])
        · exact .inr (by simp [Instr.findNow, h])
    · cases h
theorem sameNow_eqK {kd : TypeDesc} {x y : D} {u v : Value} {b : Bool} (he : eqK ty x y = some b) (hx : Rd S w x p v) (hy : Rd S w y p u) : Instr.sameNow kd v u = some b ∨ Instr.sameNow kd v u = none := by
  unfold eqK at he
  split at he
  · simp only [Rd] at hx hy; subst hx hy
    split at he <;> first | (cases he; done) | skip
    split at he <;> cases he
    rename_i hj
    subst hj
    cases kd <;> simp [Instr.sameNow, beq_dec]
  · simp only [Rd] at hx hy; obtain ⟨rfl, _⟩ := hx; obtain ⟨rfl, _⟩ := hy
    split at he <;> cases he
    cases kd <;> simp [Instr.sameNow, ba_beq]
  · simp only [Rd] at hx hy; obtain ⟨us, rfl, h1, _⟩ := hx; obtain ⟨vs, rfl, h2, _⟩ := hy
    cases kd <;> simp [Instr.sameNow]
  · cases he
theorem run_findKeyD (hf : TyFact P t ty) {x : D} {v : Value} (hx : Rd S w x p v) {ks : List D} {es : List MapEntry} {o : Option Nat} (hm : mfind ty ks x = some o) (hr : RdL S w ks p (es.map (·.key))) :
    (Instr.findKey t v es).run P w = .ok (o.map fun j => (j, ((es[j]?).map (·.val)).getD undef)) w := by
  obtain ⟨d, hd, hu⟩ := hf.under
  unfold Instr.findKey
  simp only [Sem.run_bind, hu w, Result.andThen_ok]
  have h2 := run_findAsking hf hx ks es 0 o hm hr
  simp only [Nat.zero_add] at h2
  rcases findNow_same (kd := d) (fun he hx hy => sameNow_eqK he hx hy) hx ks es 0 o hm hr with h | h
  · rw [h]; simp
  · rw [h]; exact h2
theorem mfind_lt {x : D} : ∀ {ks : List D} {i : Nat}, mfind ty ks x = some (some i) → i < ks.length
  | [], i, h => by simp [mfind] at h
  | k :: ks, i, h => by
    simp only [mfind] at h
    split at h
    · cases h; simp
    · cases hm : mfind ty ks x with
      | none => simp [hm] at h
      | some o =>
        simp [hm] at h
        cases o with
        | none => simp at h
        | some j => simp at h; subst h; simpa using mfind_lt hm
    · cases h
end ops
end Go.Tn
