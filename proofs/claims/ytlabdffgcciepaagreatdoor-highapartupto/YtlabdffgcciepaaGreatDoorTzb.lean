/- Symbolic data, and what the operations do to it. -/
import Derived.Test.YtlabdffgcciepaaGreatDoorTza
set_option linter.unusedSimpArgs false
set_option linter.unusedVariables false
set_option linter.unusedSectionVars false
namespace Go.Tn
open Go.RowKit
def chkTl (ops : Array Oper) (i : Nat) : Bool :=
  match ops[i]? with
  | none => true
  | some o => (o.after.toList.all fun e => !Region.binds .any e || Nat.blt e.on i) && (List.range i).all fun j => anc ops ops.size i j
def chkVc (ops : Array Oper) (m : Nat) : Bool := (List.range ops.size).all fun i => match Nat.blt i m with | true => chkVI ops i | false => chkTl ops i
theorem chkVc_spec {ops : Array Oper} {m : Nat} (h : chkVc ops m = true) : (∀ i o, ops[i]? = some o → ∀ e ∈ o.after, Region.binds .any e = true → e.on < i) ∧
    (∀ i o, i < m → ops[i]? = some o → ∀ j y, j < i → ops[j]? = some y → chkVP ops i j o y = true) ∧ ∀ i, m ≤ i → i < ops.size → ∀ j, j < i → anc ops ops.size i j = true := by
  have key : ∀ i, i < ops.size → (i < m → chkVI ops i = true) ∧ (m ≤ i → chkTl ops i = true) := fun i hi => by
    have := List.all_eq_true.1 h i (List.mem_range.2 hi)
    by_cases him : i < m
    · rw [show Nat.blt i m = true from by simpa [Nat.blt_eq] using him] at this
      exact ⟨fun _ => this, fun h => by omega⟩
    · rw [show Nat.blt i m = false from by
        cases hb : Nat.blt i m with
        | false => rfl
        | true => exact absurd (by simpa [Nat.blt_eq] using hb) him] at this
      exact ⟨fun h => by omega, fun _ => this⟩
  refine ⟨fun i o ho e he hb => ?_, fun i o him ho j y hj hy => ?_, fun i hmi hi j hj => ?_⟩
  · have hi : i < ops.size := (Array.getElem?_eq_some_iff.1 ho).1
    have dep : (o.after.toList.all fun e => !Region.binds .any e || Nat.blt e.on i) = true := by
      by_cases him : i < m
      · have h := (key i hi).1 him
        simp only [chkVI, ho, Bool.and_eq_true] at h
        exact h.1
      · have h := (key i hi).2 (by omega)
        simp only [chkTl, ho, Bool.and_eq_true] at h
        exact h.1
    have := List.all_eq_true.1 dep e (by simpa using he)
    simp only [hb, Bool.not_true, Bool.or_eq_true, Nat.blt_eq] at this
    exact this.resolve_left (by simp)
  · have hi : i < ops.size := (Array.getElem?_eq_some_iff.1 ho).1
    have h := (key i hi).1 him
    simp only [chkVI, ho, Bool.and_eq_true, List.all_eq_true] at h
    have := h.2 j (List.mem_range.2 hj)
    simp only [hy] at this
    exact this
  · have h := (key i hi).2 hmi
    have ho : ops[i]? = some ops[i] := Array.getElem?_eq_getElem hi
    simp only [chkTl, ho, Bool.and_eq_true, List.all_eq_true] at h
    exact h.2 j (List.mem_range.2 hj)
def dOp (o : Op) : Bool := qOp o || Nat.beq (clO o) 0
def chkDI (ops : Array Oper) (i : Nat) : Bool :=
  match ops[i]? with
  | none => true
  | some o => (dOp o.op || wOp o.op) && ((o.after.toList.all fun e => !Region.binds .any e || Nat.blt e.on i) && (List.range i).all fun j => match ops[j]? with
    | some y => chkZP ops i j o y
    | none => true)
theorem dOp_klass {o : Op} (hr : dOp o = true) : klass o ≤ 1 := by
  simp only [dOp, Bool.or_eq_true, Nat.beq_eq] at hr
  rcases hr with hr | hr
  · exact qOp_klass hr
  · exact cl0_klass hr
section
variable {P : Program} [Fen P] {C : Spec} {ops : Array Oper} {T : Nat → D} {H0 Hw : Hp} {U U0 : Us} {y : Oper} {K : Kt}
theorem act_readD (hr : dOp y.op = true) (ha : Apt H0 Hw) {r : Act4} (h : act P C ops y T H0 U0 = some r) (hc : r.1) :
    ∃ c', act P C ops y T (ovl H0 Hw) U = some (c', r.2.1, ovl H0 Hw, U) ∧ c' := by
  simp only [dOp, Bool.or_eq_true, Nat.beq_eq] at hr
  rcases hr with hr | hr
  · exact act_readZ hr ha h hc
  · exact act_more hr (fun i o h => ovl_old ha h) h hc
theorem opsT_keepD : ∀ {l : List Oper} {T : Nat → D}, (∀ o ∈ l, dOp o.op = true) → opsT P C ops l K T H0 U0 → opsT P C ops l (fun T H U => H = H0 ∧ U = U0 ∧ K T H0 U0) T H0 U0
  | [], _, _, hk => ⟨rfl, rfl, hk⟩
  | o :: l, _, h, hk => by
    simp only [opsT] at hk ⊢
    rw [step_act] at hk ⊢
    obtain ⟨r, h1, h2, h3⟩ := hk
    obtain ⟨e1, e2⟩ := act_read (dOp_klass (h o (by simp))) h1
    refine ⟨r, h1, h2, ?_⟩
    rw [e1, e2] at h3 ⊢
    exact opsT_keepD (fun o ho => h o (by simp [ho])) h3
end
def chkZc (ops : Array Oper) (m : Nat) : Bool := (List.range ops.size).all fun i => match Nat.blt i m with | true => chkDI ops i | false => chkTl ops i
theorem chkZc_spec {ops : Array Oper} {m : Nat} (h : chkZc ops m = true) : (∀ i o, ops[i]? = some o → ∀ e ∈ o.after, Region.binds .any e = true → e.on < i) ∧
    (∀ i o, i < m → ops[i]? = some o → (dOp o.op = true ∨ wOp o.op = true) ∧ ∀ j y, j < i → ops[j]? = some y → chkZP ops i j o y = true) ∧ ∀ i, m ≤ i → i < ops.size → ∀ j, j < i → anc ops ops.size i j = true := by
  have key : ∀ i, i < ops.size → (i < m → chkDI ops i = true) ∧ (m ≤ i → chkTl ops i = true) := fun i hi => by
    have := List.all_eq_true.1 h i (List.mem_range.2 hi)
    by_cases him : i < m
    · rw [show Nat.blt i m = true from by simpa [Nat.blt_eq] using him] at this
      exact ⟨fun _ => this, fun h => by omega⟩
    · rw [show Nat.blt i m = false from by
        cases hb : Nat.blt i m with
        | false => rfl
        | true => exact absurd (by simpa [Nat.blt_eq] using hb) him] at this
      exact ⟨fun h => by omega, fun _ => this⟩
  refine ⟨fun i o ho e he hb => ?_, fun i o him ho => ?_, fun i hmi hi j hj => ?_⟩
  · have hi : i < ops.size := (Array.getElem?_eq_some_iff.1 ho).1
    have dep : (o.after.toList.all fun e => !Region.binds .any e || Nat.blt e.on i) = true := by
      by_cases him : i < m
      · have h := (key i hi).1 him
        simp only [chkDI, ho, Bool.and_eq_true] at h
        exact h.2.1
      · have h := (key i hi).2 (by omega)
        simp only [chkTl, ho, Bool.and_eq_true] at h
        exact h.1
    have := List.all_eq_true.1 dep e (by simpa using he)
    simp only [hb, Bool.not_true, Bool.or_eq_true, Nat.blt_eq] at this
    exact this.resolve_left (by simp)
  · have hi : i < ops.size := (Array.getElem?_eq_some_iff.1 ho).1
    have h := (key i hi).1 him
    simp only [chkDI, ho, Bool.and_eq_true, Bool.or_eq_true, List.all_eq_true] at h
    refine ⟨h.1, fun j y hj hy => ?_⟩
    have := h.2.2 j (List.mem_range.2 hj)
    simp only [hy] at this
    exact this
  · have h := (key i hi).2 hmi
    have ho : ops[i]? = some ops[i] := Array.getElem?_eq_getElem hi
    simp only [chkTl, ho, Bool.and_eq_true, List.all_eq_true] at h
    exact h.2 j (List.mem_range.2 hj)
def rmv : List Nat → Hp → Hp
  | [], H => H
  | k :: r, H => upd (rmv r H) k none
def kee : List Nat → Hp → Hp
  | [], _ => fun _ => none
  | k :: r, H => upd (kee r H) k (H k)
theorem rmv_kee {H : Hp} {i : Nat} : ∀ {K : List Nat}, (rmv K H i = H i ∧ kee K H i = none) ∨ (rmv K H i = none ∧ kee K H i = H i)
  | [] => .inl ⟨rfl, rfl⟩
  | k :: r => by
    simp only [rmv, kee]
    by_cases e : i = k
    · subst e; rw [upd_same, upd_same]; exact .inr ⟨rfl, rfl⟩
    · rw [upd_ne _ _ e, upd_ne _ _ e]; exact rmv_kee
theorem ovl_rmv {H : Hp} {K : List Nat} : ovl (rmv K H) (kee K H) = H := by
  funext i
  rcases rmv_kee (H := H) (i := i) (K := K) with ⟨h1, h2⟩ | ⟨h1, h2⟩
  · simp only [ovl, h2, h1]
  · simp only [ovl, h2, h1]
    cases H i <;> rfl
theorem apt_rmv {H : Hp} {K : List Nat} : Apt (rmv K H) (kee K H) := fun i hi => by
  rcases rmv_kee (H := H) (i := i) (K := K) with ⟨_, h2⟩ | ⟨h1, _⟩
  · exact absurd h2 hi
  · exact h1
def zvK (P : Program) [Fen P] (C : Spec) (ops : Array Oper) (l : List Oper) (Hw : Hp) (k : X → Kt) : X → Kt := fun e T H U => match e with | .normal => opsK P C true ops (fW l) (zoK H k) T Hw U | _ => False
end Go.Tn
