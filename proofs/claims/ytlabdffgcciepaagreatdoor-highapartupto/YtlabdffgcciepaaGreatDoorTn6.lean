/- Symbolic data, and what the operations do to it. -/
import Derived.Test.YtlabdffgcciepaaGreatDoorTn5
set_option linter.unusedSimpArgs false
set_option linter.unusedVariables false
set_option linter.unusedSectionVars false
namespace Go.Tn
open Go.RowKit
def InR (k : IntKind) (n : Int) : Prop := match k with
  | .i64 => -9223372036854775808 ≤ n ∧ n ≤ 9223372036854775807
  | .u8 => 0 ≤ n ∧ n ≤ 255
  | .u64 => 0 ≤ n ∧ n ≤ 18446744073709551615
  | .i32 => -2147483648 ≤ n ∧ n ≤ 2147483647
  | .u32 => 0 ≤ n ∧ n ≤ 4294967295
  | _ => False
theorem wrap_of {k : IntKind} {n : Int} (h : InR k n) : k.wrap n = n := by
  cases k <;> simp only [InR] at h <;> first | exact h.elim | (simp only [IntKind.wrap, IntKind.bits, IntKind.signed]; (try simp only [Bool.true_and, Bool.false_and]); first | (split <;> rename_i hc <;> simp at hc <;> omega) | (simp; omega))
def eqZ : List Value → List D → List D → Option Bool
  | [], [], [] => some true
  | .int _ _ :: zs, .int j a :: as, .int k b :: bs => if j = k then (eqZ zs as bs).map fun r => decide (a = b) && r else none
  | .string _ :: zs, .str a :: as, .str b :: bs => (eqZ zs as bs).map fun r => decide (a = b) && r
  | .bool _ :: zs, .bool a :: as, .bool b :: bs => (eqZ zs as bs).map fun r => decide (a = b) && r
  | _, _, _ => none
section ops
variable {P : Program} {B : Base} {S : Ex} {p : Pl} {w : World} {H : Nat → Option LObj} {U : Nat → Bool} {t : Nat} {ty : Ty}
def okR (d : D) (H : Nat → Option LObj) (U : Nat → Bool) : Res := .ok True True d H U
def isK : Operand → Bool | .const _ => true | _ => false
def binR (op : BinOp) (ty : Ty) (x y : D) (H : Nat → Option LObj) (U : Nat → Bool) (cst : Bool) : Res :=
  match op, x, y with
  | .add, .int j a, .int k b => .ok True (j = k ∧ InR j (a + b)) (.int j (a + b)) H U
  | .sub, .int j a, .int k b => .ok True (j = k ∧ InR j (a - b)) (.int j (a - b)) H U
  | .mul, .int j a, .int k b => .ok True (j = k ∧ InR j (a * b)) (.int j (a * b)) H U
  | .quo, .int j a, .int k b => .ok True (j = k ∧ 0 ≤ a ∧ 0 < b ∧ InR j a) (.int j (a / b)) H U
  | .rem, .int j a, .int k b => .ok True (j = k ∧ 0 ≤ a ∧ 0 < b ∧ InR j a) (.int j (a % b)) H U
  | .lss, .int j a, .int k b => .ok True (j = k) (.bool (decide (a < b))) H U
  | .leq, .int j a, .int k b => .ok True (j = k) (.bool (decide (a ≤ b))) H U
  | .gtr, .int j a, .int k b => .ok True (j = k) (.bool (decide (b < a))) H U
  | .geq, .int j a, .int k b => .ok True (j = k) (.bool (decide (b ≤ a))) H U
  | .eql, .int j a, .int k b => .ok True (j = k) (.bool (decide (a = b))) H U
  | .neq, .int j a, .int k b => .ok True (j = k) (.bool (!decide (a = b))) H U
  | .add, .str a, .str b => .ok True (a.length + b.length < 140737488355328) (.str (a ++ b)) H U
  | .eql, .str a, .str b => okR (.bool (decide (a = b))) H U
  | .neq, .str a, .str b => okR (.bool (!decide (a = b))) H U
  | .lss, .str a, .str b => okR (.bool (Op.bytesLess a b)) H U
  | .leq, .str a, .str b => okR (.bool (Op.bytesLess a b || decide (a = b))) H U
  | .gtr, .str a, .str b => okR (.bool (!(Op.bytesLess a b || decide (a = b)))) H U
  | .geq, .str a, .str b => okR (.bool (!Op.bytesLess a b)) H U
  | .eql, .bool a, .bool b => .ok True (ty.kind = .bool) (.bool (decide (a = b))) H U
  | .neq, .bool a, .bool b => .ok True (ty.kind = .bool) (.bool (!decide (a = b))) H U
  | .eql, .agg xs, .agg ys => match eqZ ty.zero xs ys with
    | some r => .ok True (ty.kind = .struct ∧ ty.eagg = true) (.bool r) H U
    | none => .bad
  | .neq, .agg xs, .agg ys => match eqZ ty.zero xs ys with
    | some r => .ok True (ty.kind = .struct ∧ ty.eagg = true) (.bool (!r)) H U
    | none => .bad
  | .shr, .int j a, .int _ b => .ok True (0 ≤ b ∧ b.toNat ≤ j.bits) (.int j (a / 2 ^ b.toNat)) H U
  | .eql, .nil, .nil => .ok True (ty.kind = .slice) (.bool true) H U
  | .eql, .sl _ (_ :: _), .nil => .ok True (ty.kind = .slice) (.bool false) H U
  | .eql, .val (.slice a _ _), .nil => .ok True (ty.kind = .slice) (.bool a.isNone) H U
  | .eql, .val .nilIface, .val .nilIface => .ok True (cst = true ∧ ty.kind = .iface) (.bool true) H U
  | .neq, .val .nilIface, .val .nilIface => .ok True (cst = true ∧ ty.kind = .iface) (.bool false) H U
  | .eql, .ifc _ _, .val .nilIface => .ok True (ty.kind = .iface) (.bool false) H U
  | .neq, .ifc _ _, .val .nilIface => .ok True (ty.kind = .iface) (.bool true) H U
  | _, _, _ => .bad
theorem beq_str (a b : List UInt8) : ((⟨a.toArray⟩ : ByteArray).toList == (⟨b.toArray⟩ : ByteArray).toList) = decide (a = b) := by
  rw [ByteArray.toList_mk, ByteArray.toList_mk]
  rw [Bool.eq_iff_iff]; simp
theorem eqZ_run (d : Nat) : ∀ (fs : List Field) (zs : List Value) (xs ys : List D) (i : Nat) (us vs : List Value) (r : Bool), eqZ zs xs ys = some r → cmpAt P i fs zs = true →
    RdL S w xs p (us.drop i) → RdL S w ys p (vs.drop i) → (∀ f ∈ fs, tseen P f.type = true) → (Op.eqFields (d + 1) us.toArray vs.toArray fs).run P w = .ok r w
  | [], [], xs, ys, i, us, vs, r, he, _, _, _, _ => by
    cases xs <;> cases ys <;> simp [eqZ] at he
    subst he; rfl
  | [], z :: zs, _, _, _, _, _, _, _, h, _, _, _ => by simp [cmpAt] at h
  | f :: fs, [], _, _, _, _, _, _, _, h, _, _, _ => by simp [cmpAt] at h
  | f :: fs, z :: zs, xs, ys, i, us, vs, r, he, h, hx, hy, hs => by
    simp only [cmpAt, Bool.and_eq_true, bne_iff_ne, ne_eq, beq_iff_eq] at h
    obtain ⟨⟨⟨hn, ho⟩, hk⟩, h⟩ := h
    have hsf := hs f (by simp)
    have ih := fun xs ys r he hx hy => eqZ_run d fs zs xs ys (i + 1) us vs r he h hx hy (fun g hg => hs g (by simp [hg]))
    have hcase : (∃ k k' n, P.underlying f.type = some (.int k) ∧ z = .int k' n) ∨ (∃ s, P.underlying f.type = some .string ∧ z = .string s) ∨ (∃ b, P.underlying f.type = some .bool ∧ z = .bool b) := by
      split at hk
      · exact .inl ⟨_, _, _, ‹_›, rfl⟩
      · exact .inr (.inl ⟨_, ‹_›, rfl⟩)
      · exact .inr (.inr ⟨_, ‹_›, rfl⟩)
      · cases hk
    clear hk
    have hagg : (Go.isAgg f.type).run P w = .ok false w := by
      rw [run_isAgg_seen hsf]
      unfold aggOf
      rcases hcase with ⟨_, _, _, h1, _⟩ | ⟨_, h1, _⟩ | ⟨_, h1, _⟩ <;> simp [h1]
    have part_of : ∀ {ls : List Value} {d : D} {ds : List D}, RdL S w (d :: ds) p (ls.drop i) → ∃ v, (part f.type ls.toArray f.offset).run P w = .ok v w ∧ Rd S w d p v ∧ RdL S w ds p (ls.drop (i + 1)) := fun {ls d ds} h => by
      obtain ⟨v, rr, e, h1, h2⟩ := h
      have hv : ls[i]? = some v := by
        have := congrArg (fun l => l[0]?) e
        simpa using this
      refine ⟨v, ?_, h1, ?_⟩
      · simp [part, hagg, ho, hv]
      · have : ls.drop (i + 1) = rr := by
          rw [← List.drop_drop, Nat.add_comm, ] at *
          have := congrArg (List.drop 1) e
          simpa [Nat.add_comm] using this
        rw [this]; exact h2
    rcases hcase with ⟨k0, k', n, hu, rfl⟩ | ⟨s, hu, rfl⟩ | ⟨b0, hu, rfl⟩
    · match xs, ys, he with
      | .int j a :: as, .int k b :: bs, he =>
        simp only [eqZ] at he
        split at he
        · rename_i hjk
          subst hjk
          cases hz : eqZ zs as bs with
          | none => simp [hz] at he
          | some r0 =>
            simp [hz] at he
            obtain ⟨u, p1, d1, t1⟩ := part_of hx
            obtain ⟨v, p2, d2, t2⟩ := part_of hy
            simp only [Rd] at d1 d2
            subst d1 d2
            simp only [Op.eqFields, ne_eq, hn, not_false_eq_true, if_true, Sem.run_bind, p1, p2, Result.andThen_ok]
            rw [run_equalIn_int w d f.type _ _ a b hu]
            simp only [Result.andThen_ok, Sem.run_ite, Sem.run_pure, ih as bs r0 hz t1 t2]
            rw [← he]
            by_cases hab : a = b <;> simp [hab]
        · cases he
    · match xs, ys, he with
      | .str a :: as, .str b :: bs, he =>
        simp only [eqZ] at he
        cases hz : eqZ zs as bs with
        | none => simp [hz] at he
        | some r0 =>
          simp [hz] at he
          obtain ⟨u, p1, d1, t1⟩ := part_of hx
          obtain ⟨v, p2, d2, t2⟩ := part_of hy
          simp only [Rd] at d1 d2
          obtain ⟨rfl, _⟩ := d1
          obtain ⟨rfl, _⟩ := d2
          simp only [Op.eqFields, ne_eq, hn, not_false_eq_true, if_true, Sem.run_bind, p1, p2, Result.andThen_ok]
          rw [run_equalIn_string w d f.type _ _ hu, beq_str]
          simp only [Result.andThen_ok, Sem.run_ite, Sem.run_pure, ih as bs r0 hz t1 t2]
          rw [← he]
          by_cases hab : a = b <;> simp [hab]
    · match xs, ys, he with
      | .bool a :: as, .bool b :: bs, he =>
        simp only [eqZ] at he
        cases hz : eqZ zs as bs with
        | none => simp [hz] at he
        | some r0 =>
          simp [hz] at he
          obtain ⟨u, p1, d1, t1⟩ := part_of hx
          obtain ⟨v, p2, d2, t2⟩ := part_of hy
          simp only [Rd] at d1 d2
          subst d1 d2
          simp only [Op.eqFields, ne_eq, hn, not_false_eq_true, if_true, Sem.run_bind, p1, p2, Result.andThen_ok]
          rw [run_equalIn_bool w d f.type _ _ hu]
          simp only [Result.andThen_ok, Sem.run_ite, Sem.run_pure, ih as bs r0 hz t1 t2]
          rw [← he]
          by_cases hab : a = b <;> simp [hab]
theorem run_equal_agg (hf : TyFact P t ty) (hk : ty.kind = .struct) (hc : ty.eagg = true) {xs ys : List D} {us vs : List Value} {r : Bool} (he : eqZ ty.zero xs ys = some r)
    (hx : RdL S w xs p us) (hy : RdL S w ys p vs) : (Op.equalIn 10000 t (.agg us.toArray) (.agg vs.toArray)).run P w = .ok r w ∧ P.eqGuardType P.depth t = false := by
  obtain ⟨fs, hu, hfl, hsn, hcm⟩ := hf.struct hk
  rw [hc] at hcm
  have hcm := hcm.symm
  simp only [cmpOf, hu, Bool.and_eq_true, Bool.not_eq_true'] at hcm
  obtain ⟨⟨h1, h2⟩, h3⟩ := hcm
  have hfo : P.fieldsOf t = fs := by simp [Program.fieldsOf, hu]
  refine ⟨?_, h2⟩
  rw [run_equalIn_struct w 9999 t us.toArray vs.toArray (by rw [hfo]; exact hu) h1, hfo]
  exact eqZ_run 9998 fs.toList ty.zero xs ys 0 us vs r he h3 (by simpa using hx) (by simpa using hy) hsn
theorem tdiv_of {a b : Int} (h : 0 ≤ a) : a.tdiv b = a / b := Int.tdiv_eq_ediv_of_nonneg h
theorem tmod_of {a b : Int} (h : 0 ≤ a) : a.tmod b = a % b := Int.tmod_eq_emod_of_nonneg h
theorem InR_mono {j : IntKind} {m a : Int} (h0 : 0 ≤ m) (h1 : m ≤ a) (h : InR j a) : InR j m := by
  cases j <;> simp only [InR] at h ⊢ <;> first | exact h.elim | omega
theorem beq_dec (a b : Int) : (a == b) = decide (a = b) := by rw [Bool.eq_iff_iff]; simp
theorem bne_dec (a b : Int) : (a != b) = !decide (a = b) := by rw [Bool.eq_iff_iff]; simp
theorem beq_decB (a b : Bool) : (a == b) = decide (a = b) := by rw [Bool.eq_iff_iff]; simp
theorem ba_append (a b : List UInt8) : (⟨a.toArray⟩ : ByteArray) ++ ⟨b.toArray⟩ = ⟨(a ++ b).toArray⟩ := by
  apply ByteArray.ext; simp
theorem TyFact.boolk (h : TyFact P t ty) (hk : ty.kind = .bool) : P.underlying t = some .bool := by
  obtain ⟨_, _, d, hd, h⟩ := h; rw [hk] at h; rw [hd, h]
theorem run_eql_nil (hf : TyFact P t ty) (hk : ty.kind = .slice) (ox oy : Operand) (a : Option Addr) (n c : Nat) (w : World) :
    (do eqGuard .eql t ox oy (.slice a n c) (.slice none 0 0); binOp .eql t (.slice a n c) (.slice none 0 0) : Sem Value).run P w = .ok (.bool a.isNone) w := by
  obtain ⟨d, hd, hu⟩ := hf.und
  rw [hk] at hu
  obtain ⟨hu, _⟩ := hu
  subst hu
  have hun : (underlying t).run P w = .ok (.slice ty.elem) w := by simp [underlying, hd]
  have he : (Op.equal t (.slice a n c) (.slice none 0 0)).run P w = .ok a.isNone w := by
    unfold Op.equal
    rw [show Op.maxDepth = 9999 + 1 from rfl, Op.equalIn]
    simp only [Sem.run_bind, hun, Result.andThen_ok]
    cases a <;> rfl
  have h1 : (eqGuard .eql t ox oy (.slice a n c) (.slice none 0 0)).run P w = .ok () w := rfl
  simp only [Sem.run_bind, h1, Result.andThen_ok]
  show (do pure (.bool (← Op.equal t (.slice a n c) (.slice none 0 0))) : Sem Value).run P w = _
  simp only [Sem.run_bind, he, Result.andThen_ok]
  rfl
theorem run_eq_nilI (hf : TyFact P t ty) (hk : ty.kind = .iface) {op : BinOp} (hop : op = .eql ∨ op = .neq) (ox oy : Operand) (hc : isK oy = true) (w : World) :
    (do eqGuard op t ox oy .nilIface .nilIface; binOp op t .nilIface .nilIface : Sem Value).run P w = .ok (.bool (match op with | .eql => true | _ => false)) w := by
  obtain ⟨d, hd, hu⟩ := hf.und
  rw [hk] at hu
  obtain ⟨m, rfl⟩ := hu
  have hun : (underlying t).run P w = .ok (.interface m) w := by simp [underlying, hd]
  have he : (Op.equal t .nilIface .nilIface).run P w = .ok true w := by
    unfold Op.equal
    rw [show Op.maxDepth = 9999 + 1 from rfl, Op.equalIn]
    simp only [Sem.run_bind, hun, Result.andThen_ok]
    rfl
  have h1 : (eqGuard op t ox oy .nilIface .nilIface).run P w = .ok () w := by
    cases oy with
    | const c => rcases hop with rfl | rfl <;> cases ox <;> rfl
    | _ => simp [isK] at hc
  simp only [Sem.run_bind, h1, Result.andThen_ok]
  rcases hop with rfl | rfl
  · show (do pure (.bool (← Op.equal t .nilIface .nilIface)) : Sem Value).run P w = _
    simp only [Sem.run_bind, he, Result.andThen_ok]; rfl
  · show (do pure (.bool (!(← Op.equal t .nilIface .nilIface))) : Sem Value).run P w = _
    simp only [Sem.run_bind, he, Result.andThen_ok]; rfl
theorem run_eq_ifcI (hf : TyFact P t ty) (hk : ty.kind = .iface) {op : BinOp} (hop : op = .eql ∨ op = .neq) (ox oy : Operand) (tp : TypeId) (x : Value) (w : World) :
    (do eqGuard op t ox oy (.iface tp x) .nilIface; binOp op t (.iface tp x) .nilIface : Sem Value).run P w = .ok (.bool (match op with | .eql => false | _ => true)) w := by
  obtain ⟨d, hd, hu⟩ := hf.und
  rw [hk] at hu
  obtain ⟨m, rfl⟩ := hu
  have hun : (underlying t).run P w = .ok (.interface m) w := by simp [underlying, hd]
  have he : (Op.equal t (.iface tp x) .nilIface).run P w = .ok false w := by
    unfold Op.equal
    rw [show Op.maxDepth = 9999 + 1 from rfl, Op.equalIn]
    simp only [Sem.run_bind, hun, Result.andThen_ok]
    rfl
  have h1 : (eqGuard op t ox oy (.iface tp x) .nilIface).run P w = .ok () w := by rcases hop with rfl | rfl <;> rfl
  simp only [Sem.run_bind, h1, Result.andThen_ok]
  rcases hop with rfl | rfl
  · show (do pure (.bool (← Op.equal t (.iface tp x) .nilIface)) : Sem Value).run P w = _
    simp only [Sem.run_bind, he, Result.andThen_ok]; rfl
  · show (do pure (.bool (!(← Op.equal t (.iface tp x) .nilIface))) : Sem Value).run P w = _
    simp only [Sem.run_bind, he, Result.andThen_ok]; rfl
theorem good_bin (hh : Heap B S p H U w) (hf : ty.kind = .bool ∨ ty.kind = .struct ∨ ty.kind = .slice ∨ ty.kind = .iface → TyFact P t ty) (op : BinOp) (ox oy : Operand) {x y : D} {u v : Value} (hx : Rd S w x p u) (hy : Rd S w y p v) :
    Good P B S p w (do eqGuard op t ox oy u v; binOp op t u v) (binR op ty x y H U (isK oy)) := by
  unfold binR
  split
  case h_1 j a k b =>
    simp only [Rd] at hx hy; subst hx hy
    refine ⟨trivial, fun hc => ?_⟩
    obtain ⟨rfl, hr⟩ := hc
    exact RunOk.same hh (v := .int j (a + b)) (by simp [eqGuard, binOp, Op.intArith, wrap_of hr]) rfl
  case h_2 j a k b =>
    simp only [Rd] at hx hy; subst hx hy
    refine ⟨trivial, fun hc => ?_⟩
    obtain ⟨rfl, hr⟩ := hc
    exact RunOk.same hh (v := .int j (a - b)) (by simp [eqGuard, binOp, Op.intArith, wrap_of hr]) rfl
  case h_3 j a k b =>
    simp only [Rd] at hx hy; subst hx hy
    refine ⟨trivial, fun hc => ?_⟩
    obtain ⟨rfl, hr⟩ := hc
    exact RunOk.same hh (v := .int j (a * b)) (by simp [eqGuard, binOp, Op.intArith, wrap_of hr]) rfl
  case h_4 j a k b =>
    simp only [Rd] at hx hy; subst hx hy
    refine ⟨trivial, fun hc => ?_⟩
    obtain ⟨rfl, h0, hb, hr⟩ := hc
    have hq : 0 ≤ a / b := Int.ediv_nonneg h0 (by omega)
    have hq2 : a / b ≤ a := Int.ediv_le_self b h0
    exact RunOk.same hh (v := .int j (a / b)) (by simp [eqGuard, binOp, Op.intDiv, Int.ne_of_gt hb, tdiv_of h0, wrap_of (InR_mono hq hq2 hr)]) rfl
  case h_5 j a k b =>
    simp only [Rd] at hx hy; subst hx hy
    refine ⟨trivial, fun hc => ?_⟩
    obtain ⟨rfl, h0, hb, hr⟩ := hc
    exact RunOk.same hh (v := .int j (a % b)) (by simp [eqGuard, binOp, Op.intDiv, Int.ne_of_gt hb, tmod_of h0]) rfl
  case h_6 j a k b =>
    simp only [Rd] at hx hy; subst hx hy
    refine ⟨trivial, fun hc => ?_⟩
    obtain rfl := hc
    exact RunOk.same hh (v := .bool (decide (a < b))) (by simp [eqGuard, binOp, Op.intCmp]) rfl
  case h_7 j a k b =>
    simp only [Rd] at hx hy; subst hx hy
    refine ⟨trivial, fun hc => ?_⟩
    obtain rfl := hc
    exact RunOk.same hh (v := .bool (decide (a ≤ b))) (by simp [eqGuard, binOp, Op.intCmp]) rfl
  case h_8 j a k b =>
    simp only [Rd] at hx hy; subst hx hy
    refine ⟨trivial, fun hc => ?_⟩
    obtain rfl := hc
    exact RunOk.same hh (v := .bool (decide (b < a))) (by simp [eqGuard, binOp, Op.intCmp]) rfl
  case h_9 j a k b =>
    simp only [Rd] at hx hy; subst hx hy
    refine ⟨trivial, fun hc => ?_⟩
    obtain rfl := hc
    exact RunOk.same hh (v := .bool (decide (b ≤ a))) (by simp [eqGuard, binOp, Op.intCmp]) rfl
  case h_10 j a k b =>
    simp only [Rd] at hx hy; subst hx hy
    refine ⟨trivial, fun hc => ?_⟩
    obtain rfl := hc
    exact RunOk.same hh (v := .bool (decide (a = b))) (by simp [eqGuard, binOp, Op.intCmp, beq_dec]) rfl
  case h_11 j a k b =>
    simp only [Rd] at hx hy; subst hx hy
    refine ⟨trivial, fun hc => ?_⟩
    obtain rfl := hc
    exact RunOk.same hh (v := .bool (!decide (a = b))) (by simp [eqGuard, binOp, Op.intCmp, bne_dec]) rfl
  case h_12 a b =>
    simp only [Rd] at hx hy
    obtain ⟨rfl, h1⟩ := hx
    obtain ⟨rfl, h2⟩ := hy
    refine ⟨trivial, fun hc => ?_⟩
    refine RunOk.same hh (v := .string ⟨(a ++ b).toArray⟩) ?_ ⟨rfl, by simpa using hc⟩
    have := run_string_add_sum (P := P) w ⟨a.toArray⟩ ⟨b.toArray⟩ (by simp [ByteArray.size]; omega)
    simp only [eqGuard, binOp]
    simp [this, ba_append]
  case h_13 a b =>
    simp only [Rd] at hx hy
    obtain ⟨rfl, h1⟩ := hx
    obtain ⟨rfl, h2⟩ := hy
    exact Good.same hh (v := .bool (decide (a = b))) (by simp only [eqGuard, binOp, Op.stringOp, beq_str]; simp) rfl
  case h_14 a b =>
    simp only [Rd] at hx hy
    obtain ⟨rfl, h1⟩ := hx
    obtain ⟨rfl, h2⟩ := hy
    exact Good.same hh (v := .bool (!decide (a = b))) (by simp only [eqGuard, binOp, Op.stringOp, beq_str]; simp) rfl
  case h_15 a b =>
    simp only [Rd] at hx hy
    obtain ⟨rfl, h1⟩ := hx
    obtain ⟨rfl, h2⟩ := hy
    exact Good.same hh (v := .bool (Op.bytesLess a b)) (by simp only [eqGuard, binOp, Op.stringOp, beq_str]; simp) rfl
  case h_16 a b =>
    simp only [Rd] at hx hy
    obtain ⟨rfl, h1⟩ := hx
    obtain ⟨rfl, h2⟩ := hy
    exact Good.same hh (v := .bool (Op.bytesLess a b || decide (a = b))) (by simp only [eqGuard, binOp, Op.stringOp, beq_str]; simp) rfl
  case h_17 a b =>
    simp only [Rd] at hx hy
    obtain ⟨rfl, h1⟩ := hx
    obtain ⟨rfl, h2⟩ := hy
    exact Good.same hh (v := .bool (!(Op.bytesLess a b || decide (a = b)))) (by simp only [eqGuard, binOp, Op.stringOp, beq_str]; simp) rfl
  case h_18 a b =>
    simp only [Rd] at hx hy
    obtain ⟨rfl, h1⟩ := hx
    obtain ⟨rfl, h2⟩ := hy
    exact Good.same hh (v := .bool (!Op.bytesLess a b)) (by simp only [eqGuard, binOp, Op.stringOp, beq_str]; simp) rfl
  case h_19 a b =>
    simp only [Rd] at hx hy; subst hx hy
    refine ⟨trivial, fun hc => ?_⟩
    have hb : P.underlying t = some .bool := (hf (.inl hc)).boolk hc
    refine RunOk.same hh (v := .bool (decide (a = b))) ?_ rfl
    have := run_equal_bool (P := P) w t a b hb
    simp [eqGuard, binOp, this, beq_decB]
  case h_20 a b =>
    simp only [Rd] at hx hy; subst hx hy
    refine ⟨trivial, fun hc => ?_⟩
    have hb : P.underlying t = some .bool := (hf (.inl hc)).boolk hc
    refine RunOk.same hh (v := .bool (!decide (a = b))) ?_ rfl
    have := run_equal_bool (P := P) w t a b hb
    simp [eqGuard, binOp, this, beq_decB]
  case h_21 xs ys =>
    split
    · rename_i r he
      simp only [Rd] at hx hy
      obtain ⟨us, rfl, h1, _⟩ := hx
      obtain ⟨vs, rfl, h2, _⟩ := hy
      refine ⟨trivial, fun hc => ?_⟩
      obtain ⟨e1, e2⟩ := run_equal_agg (hf (.inr (.inl hc.1))) hc.1 hc.2 he h1 h2
      refine RunOk.same hh (v := .bool (r)) ?_ rfl
      simp only [Sem.run_bind, run_eqGuard_agg w _ t ox oy us.toArray vs.toArray e2, Result.andThen_ok, run_eql_struct, e1]
    · trivial
  case h_22 xs ys =>
    split
    · rename_i r he
      simp only [Rd] at hx hy
      obtain ⟨us, rfl, h1, _⟩ := hx
      obtain ⟨vs, rfl, h2, _⟩ := hy
      refine ⟨trivial, fun hc => ?_⟩
      obtain ⟨e1, e2⟩ := run_equal_agg (hf (.inr (.inl hc.1))) hc.1 hc.2 he h1 h2
      refine RunOk.same hh (v := .bool (!r)) ?_ rfl
      simp only [Sem.run_bind, run_eqGuard_agg w _ t ox oy us.toArray vs.toArray e2, Result.andThen_ok, run_neq_struct, e1]
    · trivial
  case h_23 j a k b =>
    simp only [Rd] at hx hy; subst hx hy
    refine ⟨trivial, fun hc => RunOk.same hh (v := .int j (a / 2 ^ b.toNat)) ?_ rfl⟩
    have hm : min b.toNat j.bits = b.toNat := Nat.min_eq_left hc.2
    have hn : ¬ b < 0 := by omega
    have hfd : a.fdiv (2 ^ b.toNat) = a / 2 ^ b.toNat := Int.fdiv_eq_ediv_of_nonneg a (Int.le_of_lt (Int.pow_pos (by omega)))
    simp [eqGuard, binOp, Op.shift, hn, hm, hfd]
  case h_24 =>
    simp only [Rd] at hx hy; subst hx hy
    exact ⟨trivial, fun hc => RunOk.same hh (v := .bool true) (run_eql_nil (hf (.inr (.inr (.inl hc)))) hc ox oy none 0 0 w) rfl⟩
  case h_25 =>
    simp only [Rd] at hx hy; subst hy
    obtain ⟨a, cap, rfl, _, _, _, hr⟩ := hx
    rcases hr with hr | ⟨b, off, rfl, _⟩
    · cases hr
    · exact ⟨trivial, fun hc => RunOk.same hh (v := .bool false) (run_eql_nil (hf (.inr (.inr (.inl hc)))) hc ox oy _ _ _ w) rfl⟩
  case h_26 a n c =>
    simp only [Rd] at hx hy; subst hx hy
    exact ⟨trivial, fun hc => RunOk.same hh (v := .bool a.isNone) (run_eql_nil (hf (.inr (.inr (.inl hc)))) hc ox oy a n c w) rfl⟩
  case h_27 =>
    simp only [Rd] at hx hy; subst hx hy
    exact ⟨trivial, fun hc => RunOk.same hh (v := .bool true) (run_eq_nilI (hf (.inr (.inr (.inr hc.2)))) hc.2 (.inl rfl) ox oy hc.1 w) rfl⟩
  case h_28 =>
    simp only [Rd] at hx hy; subst hx hy
    exact ⟨trivial, fun hc => RunOk.same hh (v := .bool false) (run_eq_nilI (hf (.inr (.inr (.inr hc.2)))) hc.2 (.inr rfl) ox oy hc.1 w) rfl⟩
  case h_29 tp d =>
    simp only [Rd] at hx hy; subst hy
    obtain ⟨z, rfl, _⟩ := hx
    exact ⟨trivial, fun hc => RunOk.same hh (v := .bool false) (run_eq_ifcI (hf (.inr (.inr (.inr hc)))) hc (.inl rfl) ox oy tp z w) rfl⟩
  case h_30 tp d =>
    simp only [Rd] at hx hy; subst hy
    obtain ⟨z, rfl, _⟩ := hx
    exact ⟨trivial, fun hc => RunOk.same hh (v := .bool true) (run_eq_ifcI (hf (.inr (.inr (.inr hc)))) hc (.inr rfl) ox oy tp z w) rfl⟩
  all_goals trivial
end ops
end Go.Tn
