/- Symbolic data, and what the operations do to it. -/
import Derived.Test.YtlabdffgcciepaaGreatDoorTz
set_option linter.unusedSimpArgs false
set_option linter.unusedVariables false
set_option linter.unusedSectionVars false
namespace Go.Tn
open Go.RowKit
def clB (b : Builtin) : Nat := match b with | .len => 0 | _ => 2
def clC (c : Callee) : Nat := match c with | .value _ => 0 | .builtin b => clB b | _ => 2
def clO (o : Op) : Nat :=
  match o with
  | .move _ => 0 | .assign _ => 0 | .pick _ _ _ => 0 | .build _ _ => 0 | .binOp _ _ _ _ _ => 0 | .unOp _ _ _ => 0 | .makeFunc _ _ _ => 0 | .extract _ _ => 0 | .field _ _ _ => 0 | .index _ _ _ => 0
  | .load _ _ => 0 | .fieldAddr _ _ _ => 0 | .indexAddr _ _ _ => 0 | .nilCheck _ => 0
  | .call c => clC c.callee
  | .alloc _ => 1 | .buildSlice _ _ _ => 1 | .makeMap _ _ => 1 | .box _ _ => 1
  | _ => 2
def Sub (H H' : Hp) : Prop := ∀ i o, H i = some o → H' i = some o
theorem Sub_upd {H : Hp} {i : Nat} {o : LObj} (h : H i = none) : Sub H (upd H i (some o)) = True := by
  refine eq_true fun j o' hj => ?_
  by_cases e : j = i
  · subst e; rw [h] at hj; cases hj
  · rw [upd_ne _ _ e]; exact hj
theorem fold_and {f : D → Prop} {q : Prop} : ∀ {l : List D}, l.foldr (fun c q => f c ∧ q) q ↔ (∀ c ∈ l, f c) ∧ q
  | [] => by simp
  | c :: l => by
    simp only [List.foldr_cons, fold_and (l := l), List.forall_mem_cons]
    exact and_assoc.symm
section
variable {P : Program} [Fen P] {C : Spec} {ops : Array Oper} {T T' : Nat → D} {H H' H0 Hr : Hp} {U U' U0 : Us} {K : Kt} {x y o : Oper} {dst : Option Nat}
theorem cv_more (h : Sub H H') : ∀ (n : Nat) (d : D), new H n d → cv H' n d = cv H n d ∧ rf H' n d = rf H n d ∧ new H' n d := by
  intro n
  induction n with
  | zero => intro d _; exact ⟨by simp [cv], by simp [rf], by simp [new]⟩
  | succ n ih =>
    have hl : ∀ l : List D, (∀ c ∈ l, new H n c) → l.map (cv H' n) = l.map (cv H n) ∧ l.map (rf H' n) = l.map (rf H n) ∧ ∀ c ∈ l, new H' n c := fun l hc =>
      ⟨List.map_congr_left fun c hm => (ih c (hc c hm)).1, List.map_congr_left fun c hm => (ih c (hc c hm)).2.1, fun c hm => (ih c (hc c hm)).2.2⟩
    intro d hn
    cases d
    case loc i off =>
      simp only [new] at hn
      cases ho : H i with
      | none => rw [ho] at hn; exact hn.elim
      | some o =>
        have ho' := h i o ho
        rw [ho] at hn
        simp only [cv, rf, new, ho, ho']
        cases o
        rotate_left
        all_goals try exact ⟨rfl, rfl, trivial⟩
        rename_i cs fz
        simp only [newB, fold_and, and_true] at hn
        obtain ⟨h1, h2, h3⟩ := hl cs hn
        simp only [cvB, rfB, newB, h1, h2, fold_and, and_true]
        exact ⟨trivial, trivial, h3⟩
    case vec i m =>
      simp only [new] at hn
      cases ho : H i with
      | none => rw [ho] at hn; exact hn.elim
      | some o =>
        have ho' := h i o ho
        rw [ho] at hn
        simp only [cv, rf, new, ho, ho']
        cases o
        case vec e sz rows fz => exact ⟨rfl, rfl, hn⟩
        case nv e ms =>
          simp only [newW, fold_and, and_true] at hn
          obtain ⟨h1, h2, h3⟩ := hl (nvD ms) hn.2
          refine ⟨?_, ?_, ?_⟩
          · simp only [cvV]
            refine congrArg _ (List.map_congr_left fun q hq => ?_)
            rw [(ih (.vec q.1 q.2) (hn.2 _ (List.mem_map.2 ⟨q, hq, rfl⟩))).1]
          · simp only [rfW, h2]
          · simp only [newW, fold_and, and_true]; exact ⟨hn.1, h3⟩
        all_goals exact ⟨rfl, rfl, trivial⟩
    case vptr i m sz k off =>
      simp only [new] at hn
      cases ho : H i with
      | none => rw [ho] at hn; exact hn.2.elim
      | some o =>
        have ho' := h i o ho
        rw [ho] at hn
        simp only [cv, rf, new, ho, ho']
        exact ⟨trivial, trivial, hn⟩
    case lmap i =>
      simp only [new] at hn
      cases ho : H i with
      | none => rw [ho] at hn; exact hn.elim
      | some o =>
        have ho' := h i o ho
        rw [ho] at hn
        simp only [cv, rf, new, ho, ho']
        cases o
        case mv ks ms =>
          simp only [newM, fold_and, and_true] at hn
          obtain ⟨h1, h2, h3⟩ := hl (nvD ms) hn.2
          refine ⟨?_, ?_, ?_⟩
          · simp only [cvM]
            refine congrArg _ (List.map_congr_left fun q hq => ?_)
            rw [(ih (.vec q.1 q.2) (hn.2 _ (List.mem_map.2 ⟨q, hq, rfl⟩))).1]
          · simp only [rfM, h2]
          · simp only [newM, fold_and, and_true]; exact ⟨hn.1, h3⟩
        all_goals exact ⟨rfl, rfl, trivial⟩
    case fn f a b =>
      simp only [new, fold_and, and_true] at hn
      obtain ⟨a1, a2, a3⟩ := hl a hn.1
      obtain ⟨b1, b2, b3⟩ := hl b hn.2
      simp only [cv, rf, new, fold_and, and_true, a1, a2, b1, b2]
      exact ⟨trivial, trivial, a3, b3⟩
    case agg cs =>
      simp only [new, fold_and, and_true] at hn
      obtain ⟨a1, a2, a3⟩ := hl cs hn
      simp only [cv, rf, new, fold_and, and_true, a1, a2]
      exact ⟨trivial, trivial, a3⟩
    case tup cs =>
      simp only [new, fold_and, and_true] at hn
      obtain ⟨a1, a2, a3⟩ := hl cs hn
      simp only [cv, rf, new, fold_and, and_true, a1, a2]
      exact ⟨trivial, trivial, a3⟩
    case ifc t d =>
      simp only [new] at hn
      obtain ⟨a1, a2, a3⟩ := ih d hn
      simp only [cv, rf, new, a1, a2]
      exact ⟨trivial, trivial, a3⟩
    all_goals exact ⟨rfl, rfl, trivial⟩
theorem cvs_more (h : Sub H H') {ds : List D} (hn : news H ds) : cvs H' ds = cvs H ds ∧ rfs H' ds = rfs H ds ∧ news H' ds := by
  unfold news at hn ⊢
  simp only [fold_and, and_true] at hn ⊢
  refine ⟨List.map_congr_left fun c hm => (cv_more h 6 c (hn c hm)).1, ?_, fun c hm => (cv_more h 6 c (hn c hm)).2.2⟩
  unfold rfs
  rw [List.map_congr_left fun c hm => (cv_more h 6 c (hn c hm)).2.1]
theorem cvs_app {a b : List D} (h : news H (a ++ b)) : news H a ∧ news H b := by
  unfold news at h ⊢
  simp only [fold_and, and_true, List.mem_append] at h ⊢
  exact ⟨fun c hc => h c (.inl hc), fun c hc => h c (.inr hc)⟩
theorem outA_q {ok : Bool} {q : Prop} {o : Out} {H : Hp} {U : Us} (h : (outA ok q o H U).1) : q := by
  cases o <;> simp only [outA] at h <;> first | exact h.1 | exact h.elim
theorem call_more (hs : Sub H Hr) {f : Nat} {caps args : List D} (hc : (callA P C f caps args H U0).1) : ∃ c', callA P C f caps args Hr U = (c', (callA P C f caps args H U0).2.1, Hr, U) ∧ c' := by
  have hn : news H (args ++ caps) := (outA_q hc).1
  obtain ⟨n1, n2⟩ := cvs_app hn
  obtain ⟨e1, e2, e3⟩ := cvs_more hs hn
  obtain ⟨a1, _, _⟩ := cvs_more hs n1
  obtain ⟨c1, _, _⟩ := cvs_more hs n2
  unfold callA at hc ⊢
  rw [e2, a1, c1]
  have hq := outA_q hc
  generalize C.c f (cvs H caps) (cvs H args) = oo at hc hq ⊢
  obtain ⟨pre, out⟩ := oo
  generalize (isNil (rfs H (args ++ caps)) || gndO out) = ok at hc ⊢
  cases out <;> simp only [outA] at hc ⊢
  · exact ⟨_, rfl, ⟨e3, hc.1.2⟩, hc.2⟩
  · exact ⟨_, rfl, ⟨e3, hc.1.2⟩, hc.2⟩
theorem sub_ovl (h : Sub H0 Hr) : ∃ Hw, Apt H0 Hw ∧ ovl H0 Hw = Hr := by
  refine ⟨fun i => match H0 i with | none => Hr i | some _ => none, fun i hi => ?_, ?_⟩
  · cases e : H0 i with
    | none => rfl
    | some o => simp only [e] at hi; exact absurd rfl hi
  · funext i
    simp only [ovl]
    cases e : H0 i with
    | none => simp only; cases Hr i <;> rfl
    | some o => simp only; exact (h i o e).symm
theorem cl0_cases {o : Op} (h : clO o = 0) : klass o = 0 ∨ rOp o = true ∨ ∃ f as ts, o = .call ⟨.value f, as, ts⟩ := by
  cases o <;> simp only [clO] at h <;> first | (exact .inl rfl) | (exact .inr (.inl rfl)) | (cases h; done) | skip
  rename_i c
  obtain ⟨cl, as, ts⟩ := c
  cases cl with
  | value f => exact .inr (.inr ⟨f, as, ts, rfl⟩)
  | invoke _ _ => simp [clC] at h
  | builtin b => cases b <;> simp [clC, clB] at h; exact .inr (.inl rfl)
theorem cl0_klass {o : Op} (h : clO o = 0) : klass o ≤ 1 := by
  rcases cl0_cases h with h | h | ⟨f, as, ts, rfl⟩
  · omega
  · exact rOp_klass h
  · exact Nat.le_refl _
theorem act_more (hk : clO y.op = 0) (hs : Sub H0 Hr) {r : Act4} (h : act P C ops y T H0 U0 = some r) (hc : r.1) : ∃ c', act P C ops y T Hr U = some (c', r.2.1, Hr, U) ∧ c' := by
  rcases cl0_cases hk with hk | hk | ⟨f, as, ts, hop⟩
  · exact ⟨_, act_pure hk h, hc⟩
  · obtain ⟨Hw, ha, rfl⟩ := sub_ovl hs
    exact act_readZ (by simp only [qOp, hk, Bool.true_or]) ha h hc
  · unfold act at h ⊢
    generalize gvT ops y T = g at h ⊢
    rw [hop] at h ⊢
    have hH : resO true P (.call ⟨.value f, as, ts⟩) y.dst T Hr U = reH Hr U (resO true P (.call ⟨.value f, as, ts⟩) y.dst T H0 U0) := by
      have h1 := res_read (P := P) (T := T) (H := Hr) (U := U) (o := .call ⟨.value f, as, ts⟩) (dst := y.dst) (Nat.le_refl _)
      rw [h1]
      rfl
    have key : ∀ {r : Act4}, actR P C (resO true P (.call ⟨.value f, as, ts⟩) y.dst T H0 U0) H0 U0 = some r → r.1 → ∃ c', actR P C (resO true P (.call ⟨.value f, as, ts⟩) y.dst T Hr U) Hr U = some (c', r.2.1, Hr, U) ∧ c' := fun {r} h hc => by
      rw [hH]
      cases hx : resO true P (.call ⟨.value f, as, ts⟩) y.dst T H0 U0 with
      | ok f c d H1 U1 =>
        rw [hx] at h
        simp only [actR, Option.some.injEq] at h
        subst h
        exact ⟨_, rfl, hc⟩
      | call f a b =>
        rw [hx] at h
        simp only [actR, Option.some.injEq, reH] at h ⊢
        subst h
        cases hm : C.mp f with
        | nil =>
          rw [hm] at hc
          simp only [callXA] at hc ⊢
          obtain ⟨c', e, h'⟩ := call_more (U := U) hs hc
          exact ⟨c', e, h'⟩
        | cons i ps => rw [hm] at hc; exact hc.elim
      | yield j a => rw [hx] at h; cases h
      | panic d => rw [hx] at h; cases h
      | bad => rw [hx] at h; cases h
    cases g with
    | yes => exact key h hc
    | no => simp only [actG, Option.some.injEq] at h ⊢; subst h; exact ⟨_, rfl, hc⟩
    | split b want =>
      simp only [actG] at h ⊢
      by_cases e : b = want
      · rw [if_pos e] at h ⊢; exact key h hc
      · rw [if_neg e] at h ⊢; simp only [Option.some.injEq] at h ⊢; subst h; exact ⟨_, rfl, hc⟩
    | bad => cases h
def isAl : Op → Bool
  | .alloc _ => true
  | .makeMap _ none => true
  | _ => false
theorem al_sub {y : Oper} (hy : isAl y.op = true) {r : Act4} (h : act P C ops y T H U = some r) (hc : r.1) (hf : ∀ i, U i = false → H i = none) : Sub H r.2.2.1 := by
  unfold act at h
  generalize gvT ops y T = g at h
  have key : ∀ {r : Act4}, actR P C (resO true P y.op y.dst T H U) H U = some r → r.1 → Sub H r.2.2.1 := by
    clear h hc
    intro r h hc
    obtain ⟨dst, op, type, pos, after, guard⟩ := y
    simp only at h hy
    cases op <;> simp only [isAl, Bool.false_eq_true] at hy
    case alloc t =>
      simp only [resO, res] at h
      unfold tk at h
      split at h
      · cases h
      · unfold wd at h
        split at h
        · simp only [allocR, newR, actR, Option.some.injEq] at h
          subst h
          rw [Sub_upd (hf _ hc.1)]; trivial
        · cases h
    case makeMap t z =>
      cases z with
      | some _ => simp at hy
      | none =>
        simp only [resO, res] at h
        unfold wd at h
        split at h
        · simp only [makeMapR, newR, actR, Option.some.injEq] at h
          subst h
          rw [Sub_upd (hf _ hc.1)]; trivial
        · cases h
  cases g with
  | yes => exact key h hc
  | no => simp only [actG, Option.some.injEq] at h; subst h; exact fun _ _ h => h
  | split b want =>
    simp only [actG] at h
    by_cases e : b = want
    · rw [if_pos e] at h; exact key h hc
    · rw [if_neg e] at h; simp only [Option.some.injEq] at h; subst h; exact fun _ _ h => h
  | bad => cases h
theorem swapA (hx : clO x.op = 0) (hy : isAl y.op = true) (hap : x.apart ops y = true) {K : Kt} (hf : ∀ i, U i = false → H i = none) (hk : stepT P C ops x (stepT P C ops y K) T H U) : stepT P C ops y (stepT P C ops x K) T H U := by
  obtain ⟨h1, h2, h3⟩ := Oper.apart_spec hap
  rw [step_act] at hk ⊢
  obtain ⟨r1, a1, c1, hk⟩ := hk
  rw [step_act] at hk
  obtain ⟨r2, a2, c2, hk⟩ := hk
  rw [act_put h1] at a2
  obtain ⟨e1, e2⟩ := act_read (cl0_klass hx) a1
  rw [e1, e2] at a2
  have hs := al_sub hy a2 c2 hf
  obtain ⟨c', a3, hc'⟩ := act_more (U := r2.2.2.2) hx hs a1 c1
  refine ⟨r2, a2, c2, ?_⟩
  rw [step_act]
  refine ⟨_, by rw [act_put h3]; exact a3, hc', ?_⟩
  rw [← putO_comm h2]
  exact hk
end
end Go.Tn
