/- Symbolic data, and what the operations do to it. -/
import Derived.Test.YtlabdffgcciepaaGreatDoorTn17
set_option linter.unusedSimpArgs false
set_option linter.unusedVariables false
set_option linter.unusedSectionVars false
namespace Go.Tn
open Go.RowKit
def klass (o : Op) : Nat :=
  match o with
  | .move _ | .assign _ | .pick _ _ _ | .build _ _ | .binOp _ _ _ _ _ | .unOp _ _ _ | .makeFunc _ _ _ | .extract _ _ | .field _ _ _ | .index _ _ _ | .nilCheck _ => 0
  | .slice _ _ _ _ _ => 1
  | .load _ _ | .fieldAddr _ _ _ | .indexAddr _ _ _ | .lookup _ _ _ _ => 1
  | .call ⟨.builtin .len, _, _⟩ => 1
  | .call ⟨.value _, _, _⟩ => 1
  | _ => 2
abbrev Act4 := Prop × D × Hp × Us
def outA (ok : Bool) (q : Prop) (o : Out) (H : Hp) (U : Us) : Act4 :=
  match o with
  | .ret d => (q ∧ ok = true, d, H, U)
  | .own _ sz rows => (q ∧ ok = true, .sl sz rows, H, U)
  | .seq _ => (False, .any, H, U)
  | .pan _ => (False, .any, H, U)
def callA (P : Program) [Fen P] (C : Spec) (f : Nat) (caps args : List D) (H : Hp) (U : Us) : Act4 :=
  outA (isNil (rfs H (args ++ caps)) || gndO (C.c f (cvs H caps) (cvs H args)).2) (news H (args ++ caps) ∧ St P C f ∧ (C.c f (cvs H caps) (cvs H args)).1) (C.c f (cvs H caps) (cvs H args)).2 H U
def callXA (P : Program) [Fen P] (C : Spec) (ps : List Nat) (f : Nat) (caps args : List D) (H : Hp) (U : Us) : Act4 := match ps with | [] => callA P C f caps args H U | _ => (False, .any, H, U)
def actR (P : Program) [Fen P] (C : Spec) (r : Res) (H : Hp) (U : Us) : Option Act4 :=
  match r with
  | .ok _ c d H U => some (c, d, H, U)
  | .call f caps args => some (callXA P C (C.mp f) f caps args H U)
  | _ => none
def actG (g : GV) (q : Prop) (r : Option Act4) (H : Hp) (U : Us) : Option Act4 :=
  match g with
  | .yes => r
  | .no => some (q, .val undef, H, U)
  | .split b want => if b = want then r else some (q, .val undef, H, U)
  | .bad => none
def act (P : Program) [Fen P] (C : Spec) (ops : Array Oper) (o : Oper) (T : Nat → D) (H : Hp) (U : Us) : Option Act4 :=
  actG (gvT ops o T) (skp P o.op T) (actR P C (resO true P o.op o.dst T H U) H U) H U
def nK (K : Kt) : X → Kt
  | .normal => K
  | _ => fun _ _ _ => False
def stepT (P : Program) [Fen P] (C : Spec) (ops : Array Oper) (o : Oper) (K : Kt) : Kt := step P C true ops o (nK K)
def opsT (P : Program) [Fen P] (C : Spec) (ops : Array Oper) : List Oper → Kt → Kt
  | [], K => K
  | o :: os, K => stepT P C ops o (opsT P C ops os K)
section
variable {P : Program} [Fen P] {C : Spec} {ops : Array Oper} {T T' : Nat → D} {H H' : Hp} {U U' : Us} {K : Kt}
theorem bK_act {r : Res} {dst : Option Nat} {K : X → Kt} : bK P C true r dst T H U K ↔ ∃ x, actR P C r H U = some x ∧ x.1 ∧ K .normal (putO T dst x.2.1) x.2.2.1 x.2.2.2 := by
  cases r with
  | ok f c d H1 U1 => simp [bK, okK, actR]
  | call f caps args =>
    simp only [bK, actR]
    cases C.mp f with
    | cons i ps => simp [callX, callMK, callXA]
    | nil =>
      simp only [callX, callK, callXA, callA]
      generalize (isNil (rfs H (args ++ caps)) || gndO (C.c f (cvs H caps) (cvs H args)).2) = ok
      generalize (news H (args ++ caps) ∧ St P C f ∧ (C.c f (cvs H caps) (cvs H args)).1) = q
      cases (C.c f (cvs H caps) (cvs H args)).2 <;> cases ok <;> simp [outK, outA, retK, ownK, panK]
  | yield j args => simp [bK, actR, yieldK]
  | panic d => simp [bK, actR, panR]
  | bad => simp [bK, actR]
theorem step_act' {o : Oper} {K : X → Kt} : step P C true ops o K T H U ↔ ∃ x, act P C ops o T H U = some x ∧ x.1 ∧ K .normal (putO T o.dst x.2.1) x.2.2.1 x.2.2.2 := by
  unfold step act
  generalize gvT ops o T = g
  cases g with
  | yes => simp only [gK, actG]; exact bK_act
  | no => simp [gK, actG]
  | split b want =>
    simp only [gK, actG]
    by_cases h : b = want
    · subst h
      simp only [true_implies, if_true]
      rw [← bK_act]
      cases b <;> simp
    · have h2 : b = !want := by cases b <;> cases want <;> simp_all
      simp [h, h2]
  | bad => simp [gK, actG]
theorem step_act {o : Oper} : stepT P C ops o K T H U ↔ ∃ x, act P C ops o T H U = some x ∧ x.1 ∧ K (putO T o.dst x.2.1) x.2.2.1 x.2.2.2 := step_act'
theorem step_T {o : Oper} {K : X → Kt} : step P C true ops o K T H U ↔ stepT P C ops o (K .normal) T H U := by rw [step_act', step_act]
theorem opsK_T {K : X → Kt} : ∀ (os : List Oper) {T : Nat → D} {H : Hp} {U : Us}, opsK P C true ops os K T H U ↔ opsT P C ops os (K .normal) T H U
  | [], _, _, _ => Iff.rfl
  | o :: os, T, H, U => by
    simp only [opsK, opsT]
    rw [step_T, step_act, step_act]
    constructor
    · rintro ⟨x, h1, h2, h3⟩; exact ⟨x, h1, h2, (opsK_T os).1 h3⟩
    · rintro ⟨x, h1, h2, h3⟩; exact ⟨x, h1, h2, (opsK_T os).2 h3⟩
def reH (H : Hp) (U : Us) : Res → Res
  | .ok f c d _ _ => .ok f c d H U
  | r => r
theorem tk_re {ty : Ty} {r : Res} : reH H U (tk ty r) = tk ty (reH H U r) := by unfold tk; split <;> rfl
theorem res_pure {o : Op} {dst : Option Nat} (hk : klass o = 0) : res P o dst T H' U' = reH H' U' (res P o dst T H U) := by
  cases o <;> simp only [klass] at hk <;> try (exact absurd hk (by decide))
  case move => rfl
  case assign => rfl
  case pick c x y => simp only [res, pickR]; split <;> rfl
  case build => simp only [res, tk_re]; congr 1; unfold buildR; split <;> rfl
  case binOp op t x y _ => simp only [res, tk_re]; congr 1; unfold binR; split <;> first | rfl | (split <;> first | rfl | (split <;> rfl))
  case unOp op t x => cases op <;> first | rfl | (simp only [res, notR]; split <;> rfl) | (simp only [res, negR]; split <;> rfl)
  case makeFunc fn a b => cases fn <;> rfl
  case extract => simp only [res, extractR]; split <;> rfl
  case nilCheck => simp only [res, nilC]; split <;> rfl
  case field => simp only [res, tk_re]; congr 1; unfold fieldR; split <;> rfl
  case index => simp only [res, tk_re]; congr 1; unfold indexR; split <;> rfl
  case call c =>
    obtain ⟨callee, args, tys⟩ := c
    cases callee with
    | builtin b => cases b <;> simp at hk
    | _ => simp at hk
theorem resO_pure {o : Op} {dst : Option Nat} (hk : klass o = 0) : resO true P o dst T H U = res P o dst T H U := by
  cases o <;> first | rfl | (simp [klass] at hk; done)
theorem slice_read {ty : Ty} {x : D} {lo hi mx : Option D} : sliceO (slD x) (tk ty (sliceX ty x lo hi mx H U)) = reH H U (sliceO (slD x) (tk ty (sliceX ty x lo hi mx H U))) := by
  cases x <;> try rfl
  case vsub i n sz lo' hi' =>
    simp only [slD, sliceO, tk_re]; congr 1
    unfold sliceX
    split
    · unfold sliceVs; repeat' split
      all_goals rfl
    · unfold sliceR; simp only [cv, news]; rfl
  all_goals
    simp only [slD, sliceO, tk_re]; congr 1
    unfold sliceX sliceR
    simp only [cv, frzs, frz, news]
    repeat' split
    all_goals first | rfl | skip
theorem res_read {o : Op} {dst : Option Nat} (hk : klass o ≤ 1) : resO true P o dst T H U = reH H U (resO true P o dst T H U) := by
  rcases Nat.lt_or_ge (klass o) 1 with h | h
  · rw [resO_pure (by omega)]; exact res_pure (by omega)
  · have h1 : klass o = 1 := by omega
    cases o <;> simp only [klass] at h1 <;> try (exact absurd h1 (by decide))
    case slice t x lo hi mx => exact slice_read
    all_goals simp only [resO]
    case load t x =>
      simp only [res, tk_re]; congr 1; unfold loadR
      split
      · rfl
      · unfold loadB; split <;> rfl
      · unfold loadV; split <;> rfl
      · rfl
    case fieldAddr => simp only [res, tk_re]; congr 1; unfold fieldAddrR; split <;> rfl
    case indexAddr => simp only [res, tk_re]; congr 1; unfold indexAddrR; split <;> rfl
    case lookup t x i ok =>
      simp only [res, tk_re]; congr 3; unfold lookupR
      have hm : ∀ (ty kty ety : Ty) (ks ds : List D) (k : D), lookM ty kty ety ks ds k ok H U = reH H U (lookM ty kty ety ks ds k ok H U) := fun ty kty ety ks ds k => by unfold lookM; split <;> rfl
      split
      · exact hm _ _ _ _ _ _
      · unfold lookB; split
        · exact hm _ _ _ _ _ _
        · rfl
      · exact hm _ _ _ _ _ _
      · rfl
    case call c =>
      obtain ⟨callee, args, tys⟩ := c
      cases callee with
      | value f => simp only [res, callR]; split <;> rfl
      | builtin b =>
        cases b <;> simp at h1
        simp only [res, builtR]
        split
        · simp only [tk_re]; congr 1; unfold lenX; split <;> first | (unfold lenVs; split <;> rfl; done) | (unfold lenR; split <;> first | rfl | (unfold lenB; split <;> rfl))
        all_goals first | rfl | contradiction
      | invoke _ _ => simp at h1
theorem act_read {o : Oper} (hk : klass o.op ≤ 1) {x : Act4} (h : act P C ops o T H U = some x) : x.2.2.1 = H ∧ x.2.2.2 = U := by
  unfold act at h
  generalize gvT ops o T = g at h
  have key : ∀ {x : Act4}, actR P C (resO true P o.op o.dst T H U) H U = some x → x.2.2.1 = H ∧ x.2.2.2 = U := fun {x} h => by
    rw [res_read hk] at h
    cases hr : resO true P o.op o.dst T H U with
    | ok f c d H1 U1 => rw [hr] at h; simp only [reH, actR, Option.some.injEq] at h; subst h; exact ⟨rfl, rfl⟩
    | call f caps args =>
      rw [hr] at h; simp only [reH, actR, Option.some.injEq] at h; subst h
      unfold callXA
      split
      · unfold callA; cases (C.c f (cvs H caps) (cvs H args)).2 <;> exact ⟨rfl, rfl⟩
      · exact ⟨rfl, rfl⟩
    | _ => rw [hr] at h; cases h
  cases g with
  | yes => exact key h
  | no => simp only [actG, Option.some.injEq] at h; subst h; exact ⟨rfl, rfl⟩
  | split b want =>
    simp only [actG] at h
    split at h
    · exact key h
    · simp only [Option.some.injEq] at h; subst h; exact ⟨rfl, rfl⟩
  | bad => cases h
theorem act_pure {o : Oper} (hk : klass o.op = 0) {x : Act4} (h : act P C ops o T H U = some x) : act P C ops o T H' U' = some (x.1, x.2.1, H', U') := by
  unfold act at h ⊢
  generalize gvT ops o T = g at h ⊢
  have nocall : ∀ f caps args, res P o.op o.dst T H U ≠ .call f caps args := fun f caps args hc => by
    have : ∀ {o : Op}, klass o = 0 → res P o none T H U ≠ .call f caps args := by
      intro o hk
      cases o <;> simp only [klass] at hk <;> try (exact absurd hk (by decide))
      case move => intro h; cases h
      case assign => intro h; cases h
      case pick => simp only [res, pickR]; split <;> intro h <;> cases h
      case build => simp only [res, tk]; split <;> first | (intro h; cases h; done) | (unfold buildR; split <;> intro h <;> cases h)
      case binOp => simp only [res, tk]; split <;> first | (intro h; cases h; done) | (unfold binR; split <;> first | (intro h; cases h; done) | (split <;> first | (intro h; cases h; done) | (split <;> intro h <;> cases h)))
      case unOp op t x => cases op <;> first | (intro h; cases h; done) | (simp only [res, notR]; split <;> intro h <;> cases h; done) | (simp only [res, negR]; split <;> intro h <;> cases h)
      case makeFunc fn a b => cases fn <;> intro h <;> cases h
      case extract => simp only [res, extractR]; split <;> intro h <;> cases h
      case nilCheck => simp only [res, nilC]; split <;> intro h <;> cases h
      case field => simp only [res, tk]; split <;> first | (intro h; cases h; done) | (unfold fieldR; split <;> intro h <;> cases h)
      case index => simp only [res, tk]; split <;> first | (intro h; cases h; done) | (unfold indexR; split <;> intro h <;> cases h)
      case call c =>
        obtain ⟨callee, args, tys⟩ := c
        cases callee with
        | builtin b => cases b <;> simp at hk
        | _ => simp at hk
    refine this hk ?_
    rw [← hc]
    revert hk
    generalize o.op = op
    intro hk
    cases op <;> simp only [klass] at hk <;> try (first | rfl | (exact absurd hk (by decide)))
    case unOp u t x => cases u <;> rfl
    case makeFunc fn a b => cases fn <;> rfl
    case call c =>
      obtain ⟨callee, args, tys⟩ := c
      cases callee with
      | builtin b => cases b <;> simp at hk
      | _ => simp at hk
  have key : ∀ {x : Act4}, actR P C (resO true P o.op o.dst T H U) H U = some x → actR P C (resO true P o.op o.dst T H' U') H' U' = some (x.1, x.2.1, H', U') := fun {x} h => by
    rw [resO_pure hk] at h ⊢
    rw [res_pure (H := H) (U := U) hk]
    cases hr : res P o.op o.dst T H U with
    | ok f c d H1 U1 => rw [hr] at h; simp only [actR, Option.some.injEq] at h; subst h; rfl
    | call f caps args => exact absurd hr (nocall _ _ _)
    | _ => rw [hr] at h; cases h
  cases g with
  | yes => exact key h
  | no => simp only [actG, Option.some.injEq] at h ⊢; subst h; rfl
  | split b want =>
    simp only [actG] at h ⊢
    by_cases hb : b = want
    · rw [if_pos hb] at h ⊢; exact key h
    · rw [if_neg hb] at h ⊢; simp only [Option.some.injEq] at h ⊢; subst h; rfl
  | bad => cases h
end
end Go.Tn
