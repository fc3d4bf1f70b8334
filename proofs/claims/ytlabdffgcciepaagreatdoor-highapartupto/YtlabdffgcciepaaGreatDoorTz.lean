/- Symbolic data, and what the operations do to it. -/
import Derived.Test.YtlabdffgcciepaaGreatDoorTn20
set_option linter.unusedSimpArgs false
set_option linter.unusedVariables false
set_option linter.unusedSectionVars false
namespace Go.Tn
open Go.RowKit
def wB (_ : List (Nat × Operand)) : Bool := true
def wT : List Nat → Bool | [a, b] => Nat.beq a b | _ => false
def wC (c : Callee) (ts : List Nat) : Bool := match c with | .builtin .append => wT ts | _ => false
def wOp (o : Op) : Bool :=
  match o with
  | .buildSlice _ _ ps => wB ps.toList
  | .assign _ => true
  | .call c => wC c.callee c.argTypes.toList
  | _ => false
def rOp (o : Op) : Bool :=
  match o with
  | .move _ | .binOp _ _ _ _ _ | .load _ _ | .fieldAddr _ _ _ | .indexAddr _ _ _ => true
  | .call ⟨.builtin .len, _, _⟩ => true
  | _ => false
def ovl (H0 Hw : Hp) : Hp := fun i => match Hw i with | some o => some o | none => H0 i
def Apt (H0 Hw : Hp) : Prop := ∀ i, Hw i ≠ none → H0 i = none
theorem ovl_some {H0 Hw : Hp} {i : Nat} {o : LObj} (h : Hw i = some o) : ovl H0 Hw i = some o := by simp [ovl, h]
theorem ovl_old {H0 Hw : Hp} (ha : Apt H0 Hw) {i : Nat} {o : LObj} (h : H0 i = some o) : ovl H0 Hw i = some o := by
  cases hw : Hw i with
  | none => simp [ovl, hw, h]
  | some o' => have := ha i (by rw [hw]; simp); rw [h] at this; cases this
theorem ovl_upd (H0 Hw : Hp) (i : Nat) (o : LObj) : upd (ovl H0 Hw) i (some o) = ovl H0 (upd Hw i (some o)) := by
  funext j; by_cases e : j = i
  · subst e; rw [upd_same]; simp [ovl, upd_same]
  · rw [upd_ne _ _ e]; simp [ovl, upd_ne _ _ e]
theorem tk_ok {ty : Ty} {r : Res} {f c : Prop} {d : D} {H : Hp} {U : Us} (h : tk ty r = .ok f c d H U) : r = .ok f c d H U ∧ ∀ r', tk ty r' = r' := by
  unfold tk at h ⊢
  cases hk : ty.kind <;> rw [hk] at h <;> first | exact ⟨h, fun _ => rfl⟩ | cases h
section
variable {P : Program} [Fen P] {C : Spec} {ops : Array Oper} {T T' : Nat → D} {H H' H0 Hw : Hp} {U U' U0 : Us} {K : Kt} {x y o : Oper} {dst : Option Nat}
theorem read_res {o : Op} (hr : rOp o = true) (ha : Apt H0 Hw) {f c : Prop} {d : D} {H1 : Hp} {U1 : Us} (h : res P o dst T H0 U0 = .ok f c d H1 U1) (hc : c) :
    ∃ f' c', res P o dst T (ovl H0 Hw) U = .ok f' c' d (ovl H0 Hw) U ∧ c' := by
  have cu : ∀ {i n : Nat}, cur (H0 i) n → cur (ovl H0 Hw i) n := fun {i n} hc => by
    cases h0 : H0 i with
    | none => rw [h0] at hc; exact hc.elim
    | some o => rw [ovl_old ha h0]; rw [h0] at hc; exact hc
  cases o <;> simp only [rOp, Bool.false_eq_true] at hr
  case move x => cases h; exact ⟨_, _, rfl, hc⟩
  case binOp op t x y b =>
    have := res_pure (P := P) (T := T) (H := H0) (U := U0) (H' := ovl H0 Hw) (U' := U) (o := .binOp op t x y b) (dst := dst) rfl
    rw [this, h]; exact ⟨_, _, rfl, hc⟩
  case load t x =>
    simp only [res] at h ⊢
    obtain ⟨h1, h2⟩ := tk_ok h
    rw [h2]
    generalize ev T x = z at h1 ⊢
    cases z <;> simp only [loadR] at h1 ⊢
    case box cs => cases h1; exact ⟨_, _, rfl, hc⟩
    case loc i off =>
      unfold loadB at h1 ⊢
      cases h0 : H0 i with
      | none => rw [h0] at h1; cases h1
      | some o =>
        rw [h0] at h1; rw [ovl_old ha h0]
        cases o <;> first | (cases h1; done) | (cases h1; exact ⟨_, _, rfl, hc⟩)
    case vptr i n sz k off =>
      unfold loadV at h1 ⊢
      cases h0 : H0 i with
      | none => rw [h0] at h1; cases h1
      | some o =>
        rw [h0] at h1; rw [ovl_old ha h0]
        cases o <;> first | (cases h1; done) | (cases h1; exact ⟨_, _, rfl, hc⟩)
    all_goals cases h1
  case fieldAddr t x fl =>
    simp only [res] at h ⊢
    obtain ⟨h1, h2⟩ := tk_ok h
    rw [h2]
    generalize ev T x = z at h1 ⊢
    cases z <;> simp only [fieldAddrR] at h1 ⊢
    case loc i off => cases h1; exact ⟨_, _, rfl, hc⟩
    case box cs => cases h1; exact ⟨_, _, rfl, hc⟩
    case vptr i n sz k off => cases h1; exact ⟨_, _, rfl, cu hc.1, hc.2⟩
    all_goals cases h1
  case indexAddr t x i =>
    simp only [res] at h ⊢
    obtain ⟨h1, h2⟩ := tk_ok h
    rw [h2]
    generalize ev T x = z at h1 ⊢
    generalize ev T i = v at h1 ⊢
    cases v <;> cases z <;> simp only [indexAddrR] at h1 ⊢ <;> first | (cases h1; done) | (cases h1; exact ⟨_, _, rfl, hc⟩) | (cases h1; exact ⟨_, _, rfl, hc.1, cu hc.2.1, hc.2.2⟩)
  case call cl =>
    obtain ⟨callee, args, tys⟩ := cl
    cases callee with
    | value f => simp at hr
    | invoke _ _ => simp at hr
    | builtin b =>
      cases b <;> simp at hr
      simp only [res] at h ⊢
      generalize evs T args.toList = as at h ⊢
      generalize tys.toList = ts at h ⊢
      match as, ts, h with
      | [z], [t], h =>
        simp only [builtR] at h ⊢
        obtain ⟨h1, h2⟩ := tk_ok h
        rw [h2]
        cases z <;> simp only [lenX, lenR] at h1 ⊢
        case vsub i n z lo hi =>
          unfold lenVs at h1 ⊢
          cases h0 : H0 i with
          | none => rw [h0] at h1; cases h1
          | some o =>
            rw [h0] at h1; rw [ovl_old ha h0]
            cases o <;> first | (cases h1; done) | (cases h1; exact ⟨_, _, rfl, hc⟩)
        case lmap i =>
          unfold lenB at h1 ⊢
          cases h0 : H0 i with
          | none => rw [h0] at h1; cases h1
          | some o =>
            rw [h0] at h1; rw [ovl_old ha h0]
            cases o <;> first | (cases h1; done) | (cases h1; exact ⟨_, _, rfl, hc⟩)
        case vec i n => cases h1; exact ⟨_, _, rfl, hc.1, cu hc.2⟩
        case val v => cases v <;> first | (cases h1; done) | skip
                      rename_i m
                      cases m <;> first | (cases h1; done) | (cases h1; exact ⟨_, _, rfl, hc⟩)
        all_goals first | (cases h1; done) | (cases h1; exact ⟨_, _, rfl, hc⟩)
      | [], _, h => simp [builtR] at h
      | _ :: _ :: _, _, h => simp [builtR] at h
      | [_], [], h => simp [builtR] at h
      | [_], _ :: _ :: _, h => simp [builtR] at h
theorem upd_names {i : Nat} {o : LObj} {Hw : Hp} : ∀ j, upd Hw i (some o) j ≠ none → Hw j ≠ none ∨ some i = some j := fun j h => by
  by_cases e : j = i
  · exact .inr (by rw [e])
  · rw [upd_ne _ _ e] at h; exact .inl h
theorem ovl_hand : ∀ (n : Nat) (d : D), new Hw n d → cv (ovl H0 Hw) n d = cv Hw n d ∧ new (ovl H0 Hw) n d ∧ (∀ X, frz (ovl H0 Hw) n d (ovl H0 X) = ovl H0 (frz Hw n d X)) ∧ ∀ X i, frz Hw n d X i ≠ none → X i ≠ none ∨ Hw i ≠ none
  | 0, d, _ => ⟨rfl, trivial, fun _ => rfl, fun _ _ h => .inl h⟩
  | n + 1, d, hn => by
    have ih := ovl_hand n
    have lst : ∀ (cs : List D), (∀ c ∈ cs, new Hw n c) → cs.map (cv (ovl H0 Hw) n) = cs.map (cv Hw n) ∧ (∀ q : Prop, q → cs.foldr (fun c q => new (ovl H0 Hw) n c ∧ q) q) ∧ (∀ X, cs.foldr (frz (ovl H0 Hw) n) (ovl H0 X) = ovl H0 (cs.foldr (frz Hw n) X)) ∧
        ∀ X i, cs.foldr (frz Hw n) X i ≠ none → X i ≠ none ∨ Hw i ≠ none := fun cs => by
      induction cs with
      | nil => exact fun _ => ⟨rfl, fun _ hq => hq, fun _ => rfl, fun _ _ h => .inl h⟩
      | cons c cs ihc =>
        intro hc
        obtain ⟨a1, a2, a3, a4⟩ := ih c (hc c (by simp))
        obtain ⟨b1, b2, b3, b4⟩ := ihc fun c h => hc c (by simp [h])
        refine ⟨by simp only [List.map_cons, a1, b1], fun q hq => ⟨a2, b2 q hq⟩, fun X => by simp only [List.foldr_cons, b3, a3], fun X i h => ?_⟩
        rcases a4 _ i h with h | h
        · exact b4 X i h
        · exact .inr h
    have fold : ∀ {cs : List D} {q : Prop}, cs.foldr (fun c q => new Hw n c ∧ q) q → (∀ c ∈ cs, new Hw n c) ∧ q := fun {cs q} => by
      induction cs with
      | nil => exact fun h => ⟨fun _ h => by simp at h, h⟩
      | cons c cs ihc => exact fun h => ⟨fun x hx => by
          rcases List.mem_cons.1 hx with rfl | hx
          · exact h.1
          · exact (ihc h.2).1 x hx, (ihc h.2).2⟩
    cases d with
    | loc i off =>
      simp only [new] at hn
      unfold newB at hn
      split at hn
      · rename_i cs fz h0
        obtain ⟨h1, h2, h3, h4⟩ := lst cs (fold hn).1
        have h0' : ovl H0 Hw i = some (.blk cs fz) := ovl_some h0
        refine ⟨by simp only [cv, h0, h0', cvB, h1], by simp only [new, h0', newB]; exact h2 _ trivial, fun X => by simp only [frz, h0, h0', fzB, h1, h3, ovl_upd], fun X j hj => ?_⟩
        simp only [frz, h0, fzB] at hj
        by_cases e : j = i
        · subst e; exact .inr (by rw [h0]; simp)
        · rw [upd_ne _ _ e] at hj; exact h4 X j hj
      · rename_i o hno h0
        have h0' : ovl H0 Hw i = some o := ovl_some h0
        have hb : ∀ cs fz, o ≠ .blk cs fz := fun cs fz e => by subst e; exact hno _ _ rfl
        refine ⟨by simp only [cv, h0, h0']; cases o <;> first | rfl | exact absurd rfl (hb _ _), by simp only [new, h0']; cases o <;> first | trivial | exact absurd rfl (hb _ _), fun X => by simp only [frz, h0, h0']; cases o <;> first | rfl | exact absurd rfl (hb _ _), fun X j hj => ?_⟩
        simp only [frz, h0] at hj
        cases o <;> first | exact .inl hj | exact absurd rfl (hb _ _)
      · exact hn.elim
    | vec i m =>
      simp only [new] at hn
      unfold newW at hn
      split at hn
      · rename_i e sz rows fz h0
        have h0' : ovl H0 Hw i = some (.vec e sz rows fz) := ovl_some h0
        refine ⟨by simp only [cv, h0, h0', cvV], by simp only [new, h0', newW]; exact hn, fun X => by simp only [frz, h0, h0', fzW, ovl_upd], fun X j hj => ?_⟩
        simp only [frz, h0, fzW] at hj
        by_cases e : j = i
        · subst e; exact .inr (by rw [h0]; simp)
        · rw [upd_ne _ _ e] at hj; exact .inl hj
      · rename_i e ms h0
        obtain ⟨h1, h2, h3, h4⟩ := lst (nvD ms) (fold hn.2).1
        have h0' : ovl H0 Hw i = some (.nv e ms) := ovl_some h0
        have h1' : (ms.map fun q => [cv (ovl H0 Hw) n (.vec q.1 q.2)]) = ms.map fun q => [cv Hw n (.vec q.1 q.2)] := by
          refine List.map_congr_left fun q hq => ?_
          rw [(ih (.vec q.1 q.2) ((fold hn.2).1 _ (List.mem_map.2 ⟨q, hq, rfl⟩))).1]
        refine ⟨by simp only [cv, h0, h0', cvV, h1'], by simp only [new, h0', newW]; exact ⟨hn.1, h2 _ trivial⟩, fun X => by simp only [frz, h0, h0', fzW, h1', h3, ovl_upd], fun X j hj => ?_⟩
        simp only [frz, h0, fzW] at hj
        by_cases e : j = i
        · subst e; exact .inr (by rw [h0]; simp)
        · rw [upd_ne _ _ e] at hj; exact h4 X j hj
      · rename_i o hno1 hno2 h0
        have h0' : ovl H0 Hw i = some o := ovl_some h0
        have hb : ∀ e sz rows fz, o ≠ .vec e sz rows fz := fun e sz rows fz e' => by subst e'; exact hno1 _ _ _ _ rfl
        have hb2 : ∀ e ms, o ≠ .nv e ms := fun e ms e' => by subst e'; exact hno2 _ _ rfl
        refine ⟨by simp only [cv, h0, h0']; cases o <;> first | rfl | exact absurd rfl (hb2 _ _), by simp only [new, h0']; cases o <;> first | trivial | exact absurd rfl (hb _ _ _ _) | exact absurd rfl (hb2 _ _), fun X => by simp only [frz, h0, h0']; cases o <;> first | rfl | exact absurd rfl (hb _ _ _ _) | exact absurd rfl (hb2 _ _), fun X j hj => ?_⟩
        simp only [frz, h0] at hj
        cases o <;> first | exact .inl hj | exact absurd rfl (hb _ _ _ _) | exact absurd rfl (hb2 _ _)
      · exact hn.elim
    | vptr i m sz k off =>
      simp only [new] at hn
      obtain ⟨hz, hn⟩ := hn
      cases h0 : Hw i with
      | none => rw [h0] at hn; exact hn.elim
      | some o =>
        have h0' : ovl H0 Hw i = some o := ovl_some h0
        refine ⟨by simp only [cv, h0, h0'], by simp only [new, h0']; rw [h0] at hn; exact ⟨hz, hn⟩, fun X => by simp only [frz, h0, h0']; cases o <;> simp only [fzV, ovl_upd], fun X j hj => ?_⟩
        simp only [frz, h0] at hj
        cases o <;> first | exact .inl hj | skip
        simp only [fzV] at hj
        by_cases e : j = i
        · subst e; exact .inr (by rw [h0]; simp)
        · rw [upd_ne _ _ e] at hj; exact .inl hj
    | lmap i =>
      simp only [new] at hn
      cases h0 : Hw i with
      | none => rw [h0] at hn; exact hn.elim
      | some o =>
        have h0' : ovl H0 Hw i = some o := ovl_some h0
        by_cases hmv : ∃ ks ms, o = .mv ks ms
        · obtain ⟨ks, ms, rfl⟩ := hmv
          rw [h0] at hn
          simp only [newM] at hn
          obtain ⟨h1, h2, h3, h4⟩ := lst (nvD ms) (fold hn.2).1
          have h1' : (ms.map fun q => cv (ovl H0 Hw) n (.vec q.1 q.2)) = ms.map fun q => cv Hw n (.vec q.1 q.2) :=
            List.map_congr_left fun q hq => (ih (.vec q.1 q.2) ((fold hn.2).1 _ (List.mem_map.2 ⟨q, hq, rfl⟩))).1
          refine ⟨by simp only [cv, h0, h0', cvM, h1'], by simp only [new, h0', newM]; exact ⟨hn.1, h2 _ trivial⟩, fun X => by simp only [frz, h0, h0', fzM, h1', h3, ovl_upd], fun X j hj => ?_⟩
          simp only [frz, h0, fzM] at hj
          by_cases e : j = i
          · subst e; exact .inr (by rw [h0]; simp)
          · rw [upd_ne _ _ e] at hj; exact h4 X j hj
        refine ⟨by simp only [cv, h0, h0']; cases o <;> first | rfl | exact absurd ⟨_, _, rfl⟩ hmv, by simp only [new, h0']; cases o <;> first | trivial | exact absurd ⟨_, _, rfl⟩ hmv, fun X => by simp only [frz, h0, h0']; cases o <;> first | (simp only [fzM, ovl_upd]; done) | exact absurd ⟨_, _, rfl⟩ hmv, fun X j hj => ?_⟩
        simp only [frz, h0] at hj
        cases o <;> first | exact .inl hj | exact absurd ⟨_, _, rfl⟩ hmv | skip
        simp only [fzM] at hj
        by_cases e : j = i
        · subst e; exact .inr (by rw [h0]; simp)
        · rw [upd_ne _ _ e] at hj; exact .inl hj
    | fn f a b =>
      simp only [new] at hn
      obtain ⟨ha, hb⟩ := fold hn
      obtain ⟨hb, _⟩ := fold hb
      obtain ⟨a1, a2, a3, a4⟩ := lst a ha
      obtain ⟨b1, b2, b3, b4⟩ := lst b hb
      refine ⟨by simp only [cv, a1, b1], by simp only [new]; exact a2 _ (b2 _ trivial), fun X => by simp only [frz, a3, b3], fun X i h => ?_⟩
      simp only [frz] at h
      rcases a4 _ i h with h | h
      · exact b4 X i h
      · exact .inr h
    | agg cs =>
      simp only [new] at hn
      obtain ⟨a1, a2, a3, a4⟩ := lst cs (fold hn).1
      exact ⟨by simp only [cv, a1], by simp only [new]; exact a2 _ trivial, fun X => by simp only [frz, a3], fun X i h => a4 X i h⟩
    | tup cs =>
      simp only [new] at hn
      obtain ⟨a1, a2, a3, a4⟩ := lst cs (fold hn).1
      exact ⟨by simp only [cv, a1], by simp only [new]; exact a2 _ trivial, fun X => by simp only [frz, a3], fun X i h => a4 X i h⟩
    | ifc t d =>
      simp only [new] at hn
      obtain ⟨a1, a2, a3, a4⟩ := ih d hn
      exact ⟨by simp only [cv, a1], a2, fun X => by simp only [frz, a3], fun X i h => a4 X i h⟩
    | _ => exact ⟨rfl, trivial, fun _ => rfl, fun _ _ h => .inl h⟩
theorem ovl_hands : ∀ (ps : List (Nat × D)), news Hw (snds ps) → cvp (ovl H0 Hw) ps = cvp Hw ps ∧ news (ovl H0 Hw) (snds ps) ∧ (∀ X, (snds ps).foldr (frz (ovl H0 Hw) 6) (ovl H0 X) = ovl H0 ((snds ps).foldr (frz Hw 6) X)) ∧
    ∀ X i, (snds ps).foldr (frz Hw 6) X i ≠ none → X i ≠ none ∨ Hw i ≠ none
  | [], _ => ⟨rfl, trivial, fun _ => rfl, fun _ _ h => .inl h⟩
  | (k, d) :: ps, h => by
    have h' : new Hw 6 d ∧ news Hw (snds ps) := h
    obtain ⟨a1, a2, a3, a4⟩ := ovl_hand (H0 := H0) 6 d h'.1
    obtain ⟨b1, b2, b3, b4⟩ := ovl_hands ps h'.2
    refine ⟨by simp only [cvp, a1, b1], ⟨a2, b2⟩, fun X => by simp only [snds, List.foldr_cons, b3, a3], fun X i h => ?_⟩
    rcases a4 _ i h with h | h
    · exact b4 X i h
    · exact .inr h
theorem write_res {o : Op} (hw : wOp o = true) {f c : Prop} {d : D} {H1 : Hp} {U1 : Us} (h : res P o dst T Hw U = .ok f c d H1 U1) (hc : c) :
    (∃ f' c', res P o dst T (ovl H0 Hw) U = .ok f' c' d (ovl H0 H1) U1 ∧ c') ∧ ∀ i, H1 i ≠ none → Hw i ≠ none ∨ dst = some i := by
  have old : ∀ {i : Nat} {o o' : LObj}, Hw i = some o → ∀ j, upd Hw i (some o') j ≠ none → Hw j ≠ none ∨ dst = some j := fun {i o o'} h0 j h => by
    by_cases e : j = i
    · subst e; exact .inl (by rw [h0]; simp)
    · rw [upd_ne _ _ e] at h; exact .inl h
  cases o <;> simp only [wOp, Bool.false_eq_true] at hw
  case assign x => cases h; exact ⟨⟨_, _, rfl, hc⟩, fun i h => .inl h⟩
  case buildSlice t n ps =>
    obtain ⟨l⟩ := ps
    simp only [res] at h ⊢
    generalize evp T l = ps at h ⊢
    obtain ⟨h1, h2⟩ := tk_ok h
    obtain ⟨h3, h4⟩ := tk_ok h1
    rw [h2, h4]
    cases dst with
    | none => cases h3
    | some i =>
      simp only [wd, andC, buildSliceR, newR] at h3 ⊢
      cases h3
      obtain ⟨hn, hc⟩ := hc
      obtain ⟨a1, a2, a3, a4⟩ := ovl_hands (H0 := H0) ps hn
      have hf : frzs (ovl H0 Hw) (snds ps) = ovl H0 (frzs Hw (snds ps)) := a3 Hw
      have hc' := And.intro a2 hc
      rw [hf, a1, ovl_upd]
      refine ⟨⟨_, _, rfl, hc'⟩, fun j hj => ?_⟩
      by_cases e : j = i
      · subst e; exact .inr rfl
      · rw [upd_ne _ _ e] at hj
        rcases a4 Hw j hj with h | h
        · exact .inl h
        · exact .inl h
  case call cl =>
    obtain ⟨callee, args, tys⟩ := cl
    cases callee with
    | value f => simp [wC] at hw
    | invoke _ _ => simp [wC] at hw
    | builtin b =>
      cases b <;> simp [wC] at hw
      simp only [res] at h ⊢
      generalize evs T args.toList = as at h ⊢
      generalize tys.toList = ts at h ⊢ hw
      match as, ts, hw, h with
      | [x, y], [t, t'], hw, h =>
        have ht : t' = t := by simp only [wT, Nat.beq_eq] at hw; exact hw.symm
        subst ht
        simp only [builtR, if_true] at h ⊢
        obtain ⟨h1, h2⟩ := tk_ok h
        obtain ⟨h3, h4⟩ := tk_ok h1
        rw [h2, h4]
        clear h h1 h2 h4
        generalize tyOf P t' = ty at h3 ⊢
        generalize tyOf P ty.elem = ety at h3 ⊢
        have app : ∀ {i : Nat}, appendR i ty ety x y Hw U = .ok f c d H1 U1 → (∃ f' c', appendR i ty ety x y (ovl H0 Hw) U = .ok f' c' d (ovl H0 H1) U1 ∧ c') ∧ ∀ j, H1 j ≠ none → Hw j ≠ none ∨ some i = some j := fun {i} h => by
          have cu : ∀ {i n : Nat}, cur (Hw i) n → cur (ovl H0 Hw i) n := fun {i n} hc => by
            cases h0 : Hw i with
            | none => rw [h0] at hc; exact hc.elim
            | some o => rw [ovl_some h0]; rw [h0] at hc; exact hc
          have sr : ∀ {z : D} {q : Prop × Nat × List (List D)}, src Hw z = some q → src (ovl H0 Hw) z = some q := fun {z q} hs => by
            cases z <;> simp only [src] at hs ⊢ <;> try exact hs
            rename_i k m
            cases h0 : Hw k with
            | none => rw [h0] at hs; cases hs
            | some o => rw [ovl_some h0]; rw [h0] at hs; exact hs
          have bB : ∀ {j m : Nat} {z : D}, appB (Hw j) j m ety ty (src Hw z) Hw U = .ok f c d H1 U1 → (∃ f' c', appB (ovl H0 Hw j) j m ety ty (src (ovl H0 Hw) z) (ovl H0 Hw) U = .ok f' c' d (ovl H0 H1) U1 ∧ c') ∧ ∀ k, H1 k ≠ none → Hw k ≠ none ∨ some i = some k := fun {j m z} h => by
            cases h0 : Hw j with
            | none => rw [h0] at h; simp [appB] at h
            | some o =>
              cases hs : src Hw z with
              | none => rw [h0, hs] at h; cases o <;> simp [appB] at h
              | some q =>
                rw [h0, hs] at h
                rw [ovl_some h0, sr hs]
                obtain ⟨q1, q2, q3⟩ := q
                cases o <;> simp only [appB] at h ⊢ <;> first | (cases h; done) | skip
                cases h
                refine ⟨⟨_, _, by rw [← ovl_upd], hc⟩, fun k hk => ?_⟩
                by_cases e : k = j
                · subst e; exact .inl (by rw [h0]; simp)
                · rw [upd_ne _ _ e] at hk; exact .inl hk
          have bN : ∀ {z : D}, appendR i ty ety .nil z Hw U = .ok f c d H1 U1 → z ≠ .nil → (∃ f' c', appendR i ty ety .nil z (ovl H0 Hw) U = .ok f' c' d (ovl H0 H1) U1 ∧ c') ∧ ∀ k, H1 k ≠ none → Hw k ≠ none ∨ some i = some k := fun {z} h hz => by
            have e : ∀ {H : Hp}, appendR i ty ety .nil z H U = (match src H z with | some (c, sz, new) => newR i (c ∧ ty.kind = .slice ∧ ety.zero.length = sz ∧ 0 < sz ∧ ety.bytes ≤ 128 ∧ new.length < 1099511627776) (.vec i new.length) (.vec ty.elem sz new 0) H U | none => .bad) := fun {H} => by
              cases z <;> first | rfl | (exact absurd rfl hz)
            rw [e] at h ⊢
            cases hs : src Hw z with
            | none => rw [hs] at h; cases h
            | some q =>
              rw [hs] at h; rw [sr hs]
              obtain ⟨q1, q2, q3⟩ := q
              simp only [newR] at h ⊢
              cases h
              exact ⟨⟨_, _, by rw [← ovl_upd], hc⟩, upd_names⟩
          cases x <;> first | (simp [appendR] at h; done) | skip
          case nil =>
            by_cases hy : y = .nil
            · subst hy
              simp only [appendR] at h ⊢
              cases h
              exact ⟨⟨_, _, rfl, hc⟩, fun k hk => .inl hk⟩
            · exact bN h hy
          case vec j m =>
            cases y <;> first | exact bB h | skip
            case nil => cases h; exact ⟨⟨_, _, rfl, hc.1, cu hc.2⟩, fun k hk => .inl hk⟩
            case val v =>
              cases v <;> first | exact bB h | skip
              rename_i a n cp
              cases n
              · cases h; exact ⟨⟨_, _, rfl, hc.1, cu hc.2⟩, fun k hk => .inl hk⟩
              · exact bB h
        have wdd : ∀ {F : Nat → Res} {G : Nat → Res}, (∀ i, F i = .ok f c d H1 U1 → (∃ f' c', G i = .ok f' c' d (ovl H0 H1) U1 ∧ c') ∧ ∀ j, H1 j ≠ none → Hw j ≠ none ∨ some i = some j) → wd dst F = .ok f c d H1 U1 → (∃ f' c', wd dst G = .ok f' c' d (ovl H0 H1) U1 ∧ c') ∧ ∀ j, H1 j ≠ none → Hw j ≠ none ∨ dst = some j := fun {F G} hF h => by
          cases dst with
          | none => cases h
          | some i => exact hF i h
        have hd : (∃ i n sz k i' n' sz' lo hi, x = .vsub i n sz 0 k ∧ y = .vsub i' n' sz' lo hi) ∨ ∀ H, appX dst ty ety x y H U = wd dst fun i => appendR i ty ety x y H U := by
          cases x <;> first | exact .inr (fun _ => rfl) | skip
          rename_i i n sz lo k
          cases lo with
          | succ _ => exact .inr (fun _ => rfl)
          | zero =>
            cases y <;> first | exact .inr (fun _ => rfl) | exact .inl ⟨_, _, _, _, _, _, _, _, _, rfl, rfl⟩
        rcases hd with ⟨i, n, sz, k, i', n', sz', lo, hi, rfl, rfl⟩ | he
        · simp only [appX] at h3 ⊢
          cases h0 : Hw i with
          | none => rw [h0] at h3; simp [appVs] at h3
          | some o =>
            rw [h0] at h3; rw [ovl_some h0]
            cases o <;> simp only [appVs] at h3 ⊢ <;> first | (cases h3; done) | skip
            cases h3
            refine ⟨⟨_, _, by rw [← ovl_upd], hc⟩, old h0⟩
        · rw [he] at h3 ⊢
          exact wdd (fun i hi => app hi) h3
      | [], _, _, h => simp [builtR] at h
      | [_], _, _, h => simp [builtR] at h
      | _ :: _ :: _ :: _, _, _, h => simp [builtR] at h
      | [_, _], [], hw, _ => cases hw
      | [_, _], [_], hw, _ => cases hw
      | [_, _], _ :: _ :: _ :: _, hw, _ => cases hw
theorem tk_call {ty : Ty} {r : Res} {f : Nat} {a b : List D} (h : r ≠ .call f a b) : tk ty r ≠ .call f a b := by
  unfold tk; split
  · intro h; cases h
  · exact h
theorem no_call {o : Op} (ho : rOp o = true ∨ wOp o = true) {f : Nat} {a b : List D} : res P o dst T H U ≠ .call f a b := by
  cases o <;> simp only [rOp, wOp, Bool.false_eq_true, or_self, false_or, or_false] at ho
  case move => intro h; cases h
  case assign => intro h; cases h
  case binOp => simp only [res]; refine tk_call ?_; unfold binR; split <;> first | (intro h; cases h; done) | (split <;> first | (intro h; cases h; done) | (split <;> intro h <;> cases h))
  case load => simp only [res]; refine tk_call ?_; unfold loadR; split <;> first | (intro h; cases h; done) | (unfold loadB; split <;> intro h <;> cases h; done) | (unfold loadV; split <;> intro h <;> cases h; done)
  case fieldAddr => simp only [res]; refine tk_call ?_; unfold fieldAddrR; split <;> intro h <;> cases h
  case indexAddr => simp only [res]; refine tk_call ?_; unfold indexAddrR; split <;> intro h <;> cases h
  case buildSlice t n ps =>
    simp only [res]; refine tk_call (tk_call ?_)
    cases dst with
    | none => intro h; cases h
    | some i => intro h; simp only [wd, andC, buildSliceR, newR] at h; cases h
  case call cl =>
    obtain ⟨callee, args, tys⟩ := cl
    cases callee with
    | value f => simp [wC] at ho
    | invoke _ _ => simp [wC] at ho
    | builtin b =>
      cases b <;> simp [wC] at ho
      · simp only [res]
        generalize evs T args.toList = as
        generalize tys.toList = ts at ho ⊢
        match as, ts, ho with
        | [x, y], [t, t'], ho =>
          have ht : t' = t := by simp only [wT, Nat.beq_eq] at ho; exact ho.symm
          subst ht
          simp only [builtR, if_true]
          refine tk_call (tk_call ?_)
          unfold appX
          split
          · unfold appVs; split <;> intro h <;> cases h
          · cases dst with
            | none => intro h; cases h
            | some i =>
              simp only [wd]
              unfold appendR
              split <;> first | (intro h; cases h; done) | (unfold appB; split <;> intro h <;> cases h; done) | (split <;> intro h <;> cases h; done)
        | [], _, _ => intro h; simp [builtR] at h
        | [_], _, _ => intro h; simp [builtR] at h
        | _ :: _ :: _ :: _, _, _ => intro h; simp [builtR] at h
        | [_, _], [], ho => cases ho
        | [_, _], [_], ho => cases ho
        | [_, _], _ :: _ :: _ :: _, ho => cases ho
      · simp only [res]
        generalize evs T args.toList = as
        generalize tys.toList = ts
        match as, ts with
        | [x], [t] =>
          simp only [builtR]
          refine tk_call ?_
          cases x <;> simp only [lenX, lenR] <;> first | (intro h; cases h; done) | (unfold lenVs; split <;> intro h <;> cases h; done) | (unfold lenB; split <;> intro h <;> cases h; done) | skip
          rename_i v
          cases v <;> first | (intro h; cases h; done) | skip
          rename_i m
          cases m <;> intro h <;> cases h
        | [], _ => intro h; simp [builtR] at h
        | _ :: _ :: _, _ => intro h; simp [builtR] at h
        | [_], [] => intro h; simp [builtR] at h
        | [_], _ :: _ :: _ => intro h; simp [builtR] at h
theorem resO_rw {o : Op} (ho : rOp o = true ∨ wOp o = true) {dst : Option Nat} : resO true P o dst T H U = res P o dst T H U := by
  cases o <;> first | rfl | (simp [rOp, wOp] at ho; done)
def isSl (o : Op) : Bool := match o with | .slice _ _ _ _ _ => true | _ => false
def qOp (o : Op) : Bool := rOp o || isSl o
theorem sliceR_re {ty : Ty} {z : D} {lo hi mx : Option D} : sliceR ty z lo hi mx H' U' = reH H' U' (sliceR ty z lo hi mx H U) := by
  unfold sliceR
  split <;> first | rfl | (split <;> rfl)
theorem slice_res {ty : Ty} {z : D} (hz : slD z = true) {lo hi mx : Option D} (ha : Apt H0 Hw) {f c : Prop} {d : D} {H1 : Hp} {U1 : Us} (h : sliceX ty z lo hi mx H0 U0 = .ok f c d H1 U1) (hc : c) :
    ∃ f' c', sliceX ty z lo hi mx (ovl H0 Hw) U = .ok f' c' d (ovl H0 Hw) U ∧ c' := by
  have data : (∀ H : Hp, sliceX ty z lo hi mx H U = andC True (sliceR ty z lo hi mx H U)) → (∀ H : Hp, sliceX ty z lo hi mx H U0 = andC True (sliceR ty z lo hi mx H U0)) → ∃ f' c', sliceX ty z lo hi mx (ovl H0 Hw) U = .ok f' c' d (ovl H0 Hw) U ∧ c' := fun e e0 => by
    rw [e0] at h
    rw [e, sliceR_re (H := H0) (U := U0)]
    cases hr : sliceR ty z lo hi mx H0 U0 <;> rw [hr] at h <;> simp only [andC] at h <;> cases h
    exact ⟨_, _, rfl, hc⟩
  cases z <;> simp only [slD, Bool.false_eq_true] at hz
  case str s => exact data (fun _ => by simp only [sliceX, news, List.foldr_cons, List.foldr_nil, new, cv, frzs, frz, and_self]) (fun _ => by simp only [sliceX, news, List.foldr_cons, List.foldr_nil, new, cv, frzs, frz, and_self])
  case emp => exact data (fun _ => by simp only [sliceX, news, List.foldr_cons, List.foldr_nil, new, cv, frzs, frz, and_self]) (fun _ => by simp only [sliceX, news, List.foldr_cons, List.foldr_nil, new, cv, frzs, frz, and_self])
  case sl sz rows => exact data (fun _ => by simp only [sliceX, news, List.foldr_cons, List.foldr_nil, new, cv, frzs, frz, and_self]) (fun _ => by simp only [sliceX, news, List.foldr_cons, List.foldr_nil, new, cv, frzs, frz, and_self])
  case vsub i n sz l k =>
    cases l with
    | zero =>
      simp only [sliceX] at h ⊢
      unfold sliceVs at h ⊢
      cases h0 : H0 i with
      | none => rw [h0] at h; simp at h
      | some o =>
        rw [h0] at h; rw [ovl_old ha h0]
        cases o <;> first | (simp at h; done) | skip
        cases mx with
        | none =>
          simp only at h ⊢
          split at h
          · cases h; exact ⟨_, _, rfl, hc⟩
          · cases h
        | some m =>
          cases m <;> first | (simp at h; done) | skip
          simp only at h ⊢
          split at h
          · cases h; exact ⟨_, _, rfl, hc⟩
          · cases h
    | succ l =>
      exfalso
      have : sliceR ty (cv H0 6 (.vsub i n sz (l + 1) k)) lo hi mx (frzs H0 [.vsub i n sz (l + 1) k]) U0 = .bad := by
        simp only [cv]; unfold sliceR; rfl
      simp only [sliceX] at h
      rw [this] at h; cases h
theorem act_readZ (hr : qOp y.op = true) (ha : Apt H0 Hw) {r : Act4} (h : act P C ops y T H0 U0 = some r) (hc : r.1) :
    ∃ c', act P C ops y T (ovl H0 Hw) U = some (c', r.2.1, ovl H0 Hw, U) ∧ c' := by
  unfold act at h ⊢
  generalize gvT ops y T = g at h ⊢
  have rd : (∃ f c d H1 U1, resO true P y.op y.dst T H0 U0 = .ok f c d H1 U1) ∨ (∀ f a b, resO true P y.op y.dst T H0 U0 ≠ .call f a b) := by
    cases hx : resO true P y.op y.dst T H0 U0 with
    | ok f c d H1 U1 => exact .inl ⟨_, _, _, _, _, rfl⟩
    | call f a b =>
      exfalso
      simp only [qOp, Bool.or_eq_true] at hr
      rcases hr with hr | hr
      · rw [resO_rw (.inl hr)] at hx; exact no_call (.inl hr) hx
      · cases hy : y.op <;> rw [hy] at hr <;> simp [isSl] at hr
        rename_i t z lo hi mx
        rw [hy] at hx
        simp only [resO, sliceO] at hx
        split at hx
        · simp only [res] at hx
          exact absurd hx (tk_call (by
            intro h
            unfold sliceX at h
            split at h
            · unfold sliceVs at h; split at h <;> first | (split at h <;> cases h; done) | cases h
            · unfold andC at h; split at h <;> first | (cases h; done) | skip
              unfold sliceR at h; split at h <;> first | (split at h <;> cases h; done) | cases h))
        · cases hx
    | _ => exact .inr fun f a b => by intro h; cases h
  have rr : ∀ {f c : Prop} {d : D} {H1 : Hp} {U1 : Us}, resO true P y.op y.dst T H0 U0 = .ok f c d H1 U1 → c → ∃ f' c', resO true P y.op y.dst T (ovl H0 Hw) U = .ok f' c' d (ovl H0 Hw) U ∧ c' := fun {f c d H1 U1} hx hc => by
    simp only [qOp, Bool.or_eq_true] at hr
    rcases hr with hr | hr
    · rw [resO_rw (.inl hr)] at hx ⊢; exact read_res (U := U) hr ha hx hc
    · cases hy : y.op <;> rw [hy] at hr <;> simp [isSl] at hr
      rename_i t z lo hi mx
      rw [hy] at hx
      simp only [resO, sliceO] at hx ⊢
      cases hz : slD (ev T z) with
      | false => rw [hz] at hx; cases hx
      | true =>
        rw [hz] at hx
        simp only [res] at hx ⊢
        obtain ⟨h1, h2⟩ := tk_ok hx
        rw [h2]
        exact slice_res hz ha h1 hc
  have key : ∀ {r : Act4}, actR P C (resO true P y.op y.dst T H0 U0) H0 U0 = some r → r.1 → ∃ c', actR P C (resO true P y.op y.dst T (ovl H0 Hw) U) (ovl H0 Hw) U = some (c', r.2.1, ovl H0 Hw, U) ∧ c' := fun {r} h hc => by
    cases hx : resO true P y.op y.dst T H0 U0 with
    | ok f c d H1 U1 =>
      rw [hx] at h
      simp only [actR, Option.some.injEq] at h
      subst h
      obtain ⟨f', c', e, h'⟩ := rr hx hc
      rw [e]; exact ⟨_, rfl, h'⟩
    | call f a b =>
      rcases rd with ⟨f', c', d', H1, U1, e⟩ | e
      · rw [hx] at e; cases e
      · exact absurd hx (e _ _ _)
    | yield j a => rw [hx] at h; cases h
    | panic d => rw [hx] at h; cases h
    | bad => rw [hx] at h; cases h
  cases g with
  | yes => exact key h hc
  | no => simp only [actG, Option.some.injEq] at h ⊢; subst h; exact ⟨_, rfl, hc⟩
  | split b want =>
    simp only [actG] at h ⊢
    by_cases e : b = want
    · rw [if_pos e] at h ⊢; exact key h hc
    · rw [if_neg e] at h ⊢; simp only [Option.some.injEq] at h ⊢; subst h; exact ⟨_, rfl, hc⟩
  | bad => cases h
theorem act_writeZ (hw : wOp x.op = true) {r : Act4} (h : act P C ops x T Hw U = some r) (hc : r.1) :
    (∃ c', act P C ops x T (ovl H0 Hw) U = some (c', r.2.1, ovl H0 r.2.2.1, r.2.2.2) ∧ c') ∧ ∀ i, r.2.2.1 i ≠ none → Hw i ≠ none ∨ x.dst = some i := by
  unfold act at h ⊢
  generalize gvT ops x T = g at h ⊢
  rw [resO_rw (.inr hw)] at h ⊢
  have key : ∀ {r : Act4}, actR P C (res P x.op x.dst T Hw U) Hw U = some r → r.1 → (∃ c', actR P C (res P x.op x.dst T (ovl H0 Hw) U) (ovl H0 Hw) U = some (c', r.2.1, ovl H0 r.2.2.1, r.2.2.2) ∧ c') ∧ ∀ i, r.2.2.1 i ≠ none → Hw i ≠ none ∨ x.dst = some i := fun {r} h hc => by
    cases hx : res P x.op x.dst T Hw U with
    | ok f c d H1 U1 =>
      rw [hx] at h
      simp only [actR, Option.some.injEq] at h
      subst h
      obtain ⟨⟨f', c', e, h'⟩, hn⟩ := write_res (H0 := H0) hw hx hc
      rw [e]; exact ⟨⟨_, rfl, h'⟩, hn⟩
    | call f a b => exact absurd hx (no_call (.inr hw))
    | yield j a => rw [hx] at h; cases h
    | panic d => rw [hx] at h; cases h
    | bad => rw [hx] at h; cases h
  cases g with
  | yes => exact key h hc
  | no => simp only [actG, Option.some.injEq] at h ⊢; subst h; exact ⟨⟨_, rfl, hc⟩, fun i h => .inl h⟩
  | split b want =>
    simp only [actG] at h ⊢
    by_cases e : b = want
    · rw [if_pos e] at h ⊢; exact key h hc
    · rw [if_neg e] at h ⊢; simp only [Option.some.injEq] at h ⊢; subst h; exact ⟨⟨_, rfl, hc⟩, fun i h => .inl h⟩
  | bad => cases h
def zK (P : Program) [Fen P] (C : Spec) (ops : Array Oper) (K : Kt) (LW : List Oper) (H0 Hw : Hp) (U : Us) : Kt := fun T _ _ => opsT P C ops LW (fun T2 H2 U2 => K T2 (ovl H0 H2) U2) T Hw U
theorem pull {LW : List Oper} : ∀ {LR : List Oper} {T : Nat → D} {H1 : Hp} {U1 : Us}, (∀ y ∈ LR, x.apart ops y = true) → opsT P C ops LR (zK P C ops K (x :: LW) H0 Hw U) T H1 U1 →
    ∃ r, act P C ops x T Hw U = some r ∧ r.1 ∧ opsT P C ops LR (zK P C ops K LW H0 r.2.2.1 r.2.2.2) (putO T x.dst r.2.1) H1 U1
  | [], T, H1, U1, _, h => by
    simp only [opsT, zK] at h ⊢
    rw [step_act] at h
    exact h
  | y :: LR, T, H1, U1, ha, h => by
    simp only [opsT] at h ⊢
    rw [step_act] at h
    obtain ⟨ry, hy1, hy2, hk⟩ := h
    obtain ⟨r, hr1, hr2, hr3⟩ := pull (fun z hz => ha z (List.mem_cons_of_mem _ hz)) hk
    obtain ⟨h1, h2, h3⟩ := Oper.apart_spec (ha y (by simp))
    rw [act_put h3] at hr1
    refine ⟨r, hr1, hr2, ?_⟩
    rw [step_act]
    refine ⟨ry, by rw [act_put h1]; exact hy1, hy2, ?_⟩
    rw [putO_comm h2]
    exact hr3
def chkZP (ops : Array Oper) (i j : Nat) (o y : Oper) : Bool :=
  match wOp y.op, wOp o.op with
  | false, false => cmB ops y o || anc ops ops.size i j
  | true, true => anc ops ops.size i j
  | false, true => o.apart ops y || anc ops ops.size i j
  | true, false => y.apart ops o
def chkZI (ops : Array Oper) (i : Nat) : Bool :=
  match ops[i]? with
  | none => true
  | some o => (qOp o.op || wOp o.op) && ((o.after.toList.all fun e => !Region.binds .any e || Nat.blt e.on i) && (List.range i).all fun j => match ops[j]? with
    | some y => chkZP ops i j o y
    | none => true)
def chkZ (ops : Array Oper) : Bool := (List.range ops.size).all (chkZI ops)
def fR : List Oper → List Oper
  | [] => []
  | o :: l => match wOp o.op with | true => fR l | false => o :: fR l
def fW : List Oper → List Oper
  | [] => []
  | o :: l => match wOp o.op with | true => o :: fW l | false => fW l
theorem fR_eq : ∀ l, fR l = l.filter (fun o => !wOp o.op)
  | [] => rfl
  | o :: l => by rw [List.filter_cons, ← fR_eq l]; simp only [fR]; cases wOp o.op <;> rfl
theorem fW_eq : ∀ l, fW l = l.filter (fun o => wOp o.op)
  | [] => rfl
  | o :: l => by rw [List.filter_cons, ← fW_eq l]; simp only [fW]; cases wOp o.op <;> rfl
def freeZ (b : Bool) (dst : Option Nat) (H : Hp) : Prop := match b, dst with | true, some i => H i = none | _, _ => True
def frsZ (H : Hp) : List Oper → Prop
  | [] => True
  | o :: l => freeZ (wOp o.op) o.dst H ∧ frsZ H l
theorem frsZ_at {H : Hp} : ∀ {l : List Oper}, frsZ H l → ∀ o ∈ l, wOp o.op = true → ∀ i, o.dst = some i → H i = none
  | [], _, o, ho, _, _, _ => by simp at ho
  | a :: l, ⟨h1, h2⟩, o, ho, hw, i, hi => by
    rcases List.mem_cons.1 ho with rfl | ho
    · rw [hw, hi] at h1; exact h1
    · exact frsZ_at h2 o ho hw i hi
end
section
variable {P : Program} [Fen P] {C : Spec} {B : Base} [LB P B] {N n : Nat} {ro : Option Nat} {ops : Array Oper} {S : Ex} {p : Pl} {T : Nat → D} {H H0 : Hp} {U : Us} {a : Act} {w : World}
theorem rOp_klass {o : Op} (hr : rOp o = true) : klass o ≤ 1 := by
  cases o <;> simp only [rOp, Bool.false_eq_true] at hr <;> first | (simp [klass]; done) | skip
  rename_i cl
  obtain ⟨callee, args, tys⟩ := cl
  cases callee with
  | value f => simp at hr
  | invoke _ _ => simp at hr
  | builtin b => cases b <;> simp at hr; simp [klass]
theorem qOp_klass {o : Op} (hr : qOp o = true) : klass o ≤ 1 := by
  simp only [qOp, Bool.or_eq_true] at hr
  rcases hr with hr | hr
  · exact rOp_klass hr
  · cases o <;> simp [isSl] at hr
    simp [klass]
theorem any_soundZ {K : Kt} (hJ : B.it = true → JStep P B) (hnm : B.it = true → B.nm = true) (hchk : chkZ ops = true) (hN : ∀ o ∈ ops.toList, ∀ i, o.dst = some i → i < N) {Q : Exit → Act → World → Prop} (hy : ∀ ch S' a' w', B.Jp ch S' w' → a'.defers = [] → Q (.panic ch) a' w')
    (hQ : ∀ S' p' T' H' U' a' w', K T' H' U' → R B N S' p' T' H' U' a' w' → Q .normal a' w') (hfr : ∀ o ∈ ops.toList, wOp o.op = true → ∀ i, o.dst = some i → H0 i = none) {U0 : Us} :
    ∀ (fuel : Nat) (listed : Array Bool) (L : List Nat) {S : Ex} {p : Pl} {T : Nat → D} {Hw : Hp} {U : Us} {a : Act} {w : World},
      listed.size = ops.size → L.Pairwise (· < ·) → (∀ i, i ∈ L ↔ listed.getD i true = false) → Closed ops listed → L.length ≤ fuel → Apt H0 Hw →
      opsT P C ops ((L.filterMap fun i => ops[i]?).filter fun o => !wOp o.op) (zK P C ops K ((L.filterMap fun i => ops[i]?).filter fun o => wOp o.op) H0 Hw U) T H0 U0 → R B N S p T (ovl H0 Hw) U a w → wpAnyIn (Fro P ro) n P .any ops Q fuel listed a w := by
  have hck : ∀ i o, ops[i]? = some o → (qOp o.op = true ∨ wOp o.op = true) ∧ (∀ e ∈ o.after, Region.binds .any e = true → e.on < i) ∧ ∀ j y, j < i → ops[j]? = some y → chkZP ops i j o y = true := by
    intro i o ho
    have hi : i < ops.size := (Array.getElem?_eq_some_iff.1 ho).1
    have h := List.all_eq_true.1 hchk i (List.mem_range.2 hi)
    simp only [chkZI, ho, Bool.and_eq_true, Bool.or_eq_true, List.all_eq_true] at h
    refine ⟨h.1, fun e he hb => ?_, fun j y hj hy => ?_⟩
    · have := h.2.1 e (by simpa using he)
      simp only [hb, Bool.not_true, Nat.blt_eq] at this
      first | exact this | simpa using this
    · have := h.2.2 j (List.mem_range.2 hj)
      simp only [hy] at this
      exact this
  have none_ready : ∀ (listed : Array Bool) (L : List Nat), listed.size = ops.size → L.Pairwise (· < ·) → (∀ i, i ∈ L ↔ listed.getD i true = false) → Region.ready .any ops listed = [] → L = [] := by
    intro listed L hs hp hL hr
    cases L with
    | nil => rfl
    | cons i L =>
      exfalso
      have hi := (hL i).1 (by simp)
      have hlt := (listed_in hi).1
      rw [hs] at hlt
      have ho : ops[i]? = some ops[i] := Array.getElem?_eq_getElem hlt
      have : i ∈ Region.ready .any ops listed := by
        refine mem_ready.2 ⟨hi, _, ho, fun e he hb => ?_⟩
        have hlt' := (hck i _ ho).2.1 e he hb
        cases hx : listed.getD e.on false with
        | true => rfl
        | false =>
          have hin := (hL e.on).2 (listed_out (by omega) hx)
          rcases List.mem_cons.1 hin with h | h
          · omega
          · have := (List.pairwise_cons.1 hp).1 _ h
            omega
      rw [hr] at this; simp at this
  intro fuel
  induction fuel with
  | zero =>
    intro listed L S p T Hw U a w hs hp hL hc hf ha hk hR
    have : L = [] := List.length_eq_zero_iff.1 (by omega)
    subst this
    refine ⟨?_, hQ _ _ _ _ _ _ _ hk hR⟩
    cases hr : Region.ready .any ops listed with
    | nil => rfl
    | cons i is =>
      have hi : i ∈ Region.ready .any ops listed := by rw [hr]; simp
      have := (hL i).2 (mem_ready.1 hi).1
      simp at this
  | succ fuel ih =>
    intro listed L S p T Hw U a w hs hp hL hc hf ha hk hR
    refine ⟨fun hr => ?_, fun i hi => ?_⟩
    · have := none_ready listed L hs hp hL hr
      subst this
      exact hQ _ _ _ _ _ _ _ hk hR
    · obtain ⟨hun, o, ho, hall⟩ := mem_ready.1 hi
      have hin := (hL i).2 hun
      have hmem : o ∈ ops.toList := by rw [Array.mem_toList_iff]; exact Array.mem_of_getElem? ho
      obtain ⟨L1, L2, rfl⟩ := List.append_of_mem hin
      have hpw := List.pairwise_append.1 hp
      have unl : ∀ {j}, j ∈ L1 ++ i :: L2 → anc ops ops.size i j = true → False := fun {j} hj h => by
        have h1 := anc_spec hc ops.size i j o ho hall h
        have h2 := (listed_in ((hL j).1 hj)).2
        rw [h1] at h2; cases h2
      have hsize : i < listed.size := (listed_in hun).1
      have next : ∀ {S' p' T' U' a' w'} {Hw' : Hp}, Apt H0 Hw' → opsT P C ops (((L1 ++ L2).filterMap fun i => ops[i]?).filter fun o => !wOp o.op) (zK P C ops K (((L1 ++ L2).filterMap fun i => ops[i]?).filter fun o => wOp o.op) H0 Hw' U') T' H0 U0 →
          R B N S' p' T' (ovl H0 Hw') U' a' w' → wpAnyIn (Fro P ro) n P .any ops Q fuel (listed.setIfInBounds i true) a' w' := by
        intro S' p' T' U' a' w' Hw' ha' hk' hR'
        refine ih (listed.setIfInBounds i true) (L1 ++ L2) (by simpa using hs) ?_ (fun j => ?_) ?_ ?_ ha' hk' hR'
        · exact List.pairwise_append.2 ⟨hpw.1, (List.pairwise_cons.1 hpw.2.1).2, fun a ha b hb => hpw.2.2 a ha b (by simp [hb])⟩
        · by_cases hji : i = j
          · subst hji
            have h1 : (listed.setIfInBounds i true).getD i true = true := by simp [Array.getD_eq_getD_getElem?, hsize]
            rw [h1]
            constructor
            · intro h
              exfalso
              rcases List.mem_append.1 h with h | h
              · have := hpw.2.2 i h i (by simp); omega
              · have := (List.pairwise_cons.1 hpw.2.1).1 i h; omega
            · intro h; cases h
          · rw [getD_set_ne true hji, ← hL j]
            simp only [List.mem_append, List.mem_cons]
            constructor
            · rintro (h | h)
              · exact .inl h
              · exact .inr (.inr h)
            · rintro (h | h | h)
              · exact .inl h
              · exact absurd h.symm hji
              · exact .inr h
        · intro k ok hok hkl e he hb
          by_cases hki : i = k
          · subst hki
            rw [ho] at hok; cases hok
            exact getD_set_true (hall e he hb)
          · rw [getD_set_ne false hki] at hkl
            exact getD_set_true (hc k ok hok hkl e he hb)
        · simp only [List.length_append, List.length_cons] at hf ⊢; omega
      rw [List.filterMap_append, List.filterMap_cons, ho] at hk
      unfold wpOpIn
      rw [ho]
      simp only
      have fin : ∀ {r : Act4} {c' : Prop} {Hw' : Hp}, act P C ops o T (ovl H0 Hw) U = some (c', r.2.1, ovl H0 Hw', r.2.2.2) → c' → Apt H0 Hw' →
          opsT P C ops (((L1 ++ L2).filterMap fun i => ops[i]?).filter fun o => !wOp o.op) (zK P C ops K (((L1 ++ L2).filterMap fun i => ops[i]?).filter fun o => wOp o.op) H0 Hw' r.2.2.2) (putO T o.dst r.2.1) H0 U0 →
          if Region.wanted o (yielded ops a.tmps) = true then o.wpIn (Fro P ro) n P a w (fun a' w' => wpAnyIn (Fro P ro) n P .any ops Q fuel (listed.setIfInBounds i true) a' w') Q else (∀ f, o.about P w a.eval = some f → (Fro P ro).fn f) ∧ wpAnyIn (Fro P ro) n P .any ops Q fuel (listed.setIfInBounds i true) (a.put o.dst undef) w := by
        intro r c' Hw' e hc' ha' hk'
        have hst : stepT P C ops o (fun T' H' U' => T' = putO T o.dst r.2.1 ∧ H' = ovl H0 Hw' ∧ U' = r.2.2.2) T (ovl H0 Hw) U := step_act.2 ⟨_, e, hc', rfl, rfl, rfl⟩
        refine op_sound hJ hR o (hN o hmem) hst (fun S' p' T' H' U' a' w' hk2 hR' => ?_) (fun _ _ _ _ _ _ _ _ _ hk' => hk'.elim) hy
        obtain ⟨rfl, rfl, rfl⟩ : T' = putO T o.dst r.2.1 ∧ H' = ovl H0 Hw' ∧ U' = r.2.2.2 := hk2
        exact next ha' hk' hR'
      cases hw : wOp o.op with
      | false =>
        have hr : qOp o.op = true := (hck i o ho).1.resolve_right (by rw [hw]; simp)
        rw [List.filter_append, List.filter_cons, List.filter_append, List.filter_cons, hw] at hk
        simp only [Bool.not_false, if_true, Bool.false_eq_true, if_false] at hk
        have hk2 := bubble (x := o) (L1 := (L1.filterMap fun i => ops[i]?).filter fun o => !wOp o.op) (L2 := (L2.filterMap fun i => ops[i]?).filter fun o => !wOp o.op) (fun y hy => by
          obtain ⟨hy, hyw⟩ := List.mem_filter.1 hy
          obtain ⟨j, hj, hjy⟩ := List.mem_filterMap.1 hy
          have hlt : j < i := hpw.2.2 j hj i (by simp)
          have h := (hck i o ho).2.2 j y hlt hjy
          simp only [Bool.not_eq_true'] at hyw
          simp only [chkZP, hyw, hw, Bool.or_eq_true] at h
          rcases h with h | h
          · exact h
          · exact (unl (by simp [hj]) h).elim) hk
        simp only [opsT] at hk2
        rw [step_act] at hk2
        obtain ⟨r, h1, h2, h3⟩ := hk2
        obtain ⟨e1, e2⟩ := act_read (qOp_klass hr) h1
        rw [e1, e2] at h3
        obtain ⟨c', e, hc'⟩ := act_readZ (U := U) hr ha h1 h2
        refine fin (r := (c', r.2.1, H0, U)) e hc' ha ?_
        rw [List.filterMap_append, List.filter_append, List.filter_append]
        exact h3
      | true =>
        rw [List.filter_append, List.filter_cons, List.filter_append, List.filter_cons, hw] at hk
        simp only [Bool.not_true, if_true, Bool.false_eq_true, if_false] at hk
        have hW1 : (L1.filterMap fun i => ops[i]?).filter (fun o => wOp o.op) = [] := by
          rw [List.filter_eq_nil_iff]
          intro y hy hyw
          obtain ⟨j, hj, hjy⟩ := List.mem_filterMap.1 hy
          have hlt : j < i := hpw.2.2 j hj i (by simp)
          have h := (hck i o ho).2.2 j y hlt hjy
          simp only [chkZP, hyw, hw] at h
          exact unl (by simp [hj]) h
        rw [hW1, List.nil_append] at hk
        obtain ⟨r, h1, h2, h3⟩ := pull (x := o) (fun y hy => by
          rcases List.mem_append.1 hy with hy | hy
          · obtain ⟨hy, hyw⟩ := List.mem_filter.1 hy
            obtain ⟨j, hj, hjy⟩ := List.mem_filterMap.1 hy
            have hlt : j < i := hpw.2.2 j hj i (by simp)
            have h := (hck i o ho).2.2 j y hlt hjy
            simp only [Bool.not_eq_true'] at hyw
            simp only [chkZP, hyw, hw, Bool.or_eq_true] at h
            rcases h with h | h
            · exact h
            · exact (unl (by simp [hj]) h).elim
          · obtain ⟨hy, hyw⟩ := List.mem_filter.1 hy
            obtain ⟨j, hj, hjy⟩ := List.mem_filterMap.1 hy
            have hlt : i < j := (List.pairwise_cons.1 hpw.2.1).1 j hj
            have h := (hck j y hjy).2.2 i o hlt ho
            simp only [Bool.not_eq_true'] at hyw
            simp only [chkZP, hyw, hw] at h
            exact h) hk
        obtain ⟨⟨c', e, hc'⟩, hn⟩ := act_writeZ (H0 := H0) hw h1 h2
        refine fin (r := r) e hc' (fun j hj => ?_) ?_
        · rcases hn j hj with h | h
          · exact ha j h
          · exact hfr o hmem hw j h
        · rw [List.filterMap_append, List.filter_append, List.filter_append, hW1, List.nil_append]
          exact h3
def zoK (H0 : Hp) (k : X → Kt) : X → Kt := fun e T H U => match e with | .normal => k .normal T (ovl H0 H) U | _ => False
def zwK (P : Program) [Fen P] (C : Spec) (ops : Array Oper) (l : List Oper) (k : X → Kt) : X → Kt := fun e T H U => match e with | .normal => opsK P C true ops (fW l) (zoK H k) T (fun _ => none) U | _ => False
theorem opsT_mono {K K' : Kt} : ∀ {l : List Oper} {T : Nat → D} {H : Hp} {U : Us}, (∀ T H U, K T H U → K' T H U) → opsT P C ops l K T H U → opsT P C ops l K' T H U
  | [], _, _, _, h, hk => h _ _ _ hk
  | o :: l, _, _, _, h, hk => step_mono (fun T H U hk => opsT_mono h hk) hk
theorem opsT_keep {K : Kt} {H0 : Hp} {U0 : Us} : ∀ {l : List Oper} {T : Nat → D}, (∀ o ∈ l, qOp o.op = true) → opsT P C ops l K T H0 U0 → opsT P C ops l (fun T H U => H = H0 ∧ U = U0 ∧ K T H0 U0) T H0 U0
  | [], _, _, hk => ⟨rfl, rfl, hk⟩
  | o :: l, _, h, hk => by
    simp only [opsT] at hk ⊢
    rw [step_act] at hk ⊢
    obtain ⟨r, h1, h2, h3⟩ := hk
    obtain ⟨e1, e2⟩ := act_read (qOp_klass (h o (by simp))) h1
    refine ⟨r, h1, h2, ?_⟩
    rw [e1, e2] at h3 ⊢
    exact opsT_keep (fun o ho => h o (by simp [ho])) h3
theorem region_soundZ {K : X → Kt} (hJ : B.it = true → JStep P B) (hnm : B.it = true → B.nm = true) (hm : P.follows .mixedOrders = true) {id : Nat} {l : List Oper} (hchk : chkZ l.toArray = true) (hN : ∀ o ∈ l, ∀ i, o.dst = some i → i < N)
    (hf : frsZ H l) (hk : opsK P C true l.toArray (fR l) (zwK P C l.toArray l K) T H U) (hR : R B N S p T H U a w) {Q : Exit → Act → World → Prop}
    (hQ : ∀ S' p' T' H' U' a' w', K .normal T' H' U' → R B N S' p' T' H' U' a' w' → Q .normal a' w') (hy : ∀ ch S' a' w', B.Jp ch S' w' → a'.defers = [] → Q (.panic ch) a' w') : (Code.region id l.toArray true).wpIn (Fro P ro) n P Q a w := by
  have hall : ∀ o ∈ l, wOp o.op = false → qOp o.op = true := fun o ho hw => by
    obtain ⟨i, hi, rfl⟩ := List.getElem_of_mem ho
    have := List.all_eq_true.1 hchk i (List.mem_range.2 (by simpa using hi))
    simp only [chkZI, List.getElem?_toArray, List.getElem?_eq_getElem hi, Bool.and_eq_true, Bool.or_eq_true] at this
    exact this.1.resolve_right (by rw [hw]; simp)
  have hl : (List.range l.toArray.size).filterMap (fun i => l.toArray[i]?) = l := by rw [filt_at l l.toArray.size (by simp)]; simp
  refine wpIn_region_any hm (any_soundZ (C := C) (K := K .normal) (H0 := H) (U0 := U) hJ hnm hchk (by simpa using hN) hy hQ (fun o ho hw i hi => frsZ_at hf o (by simpa using ho) hw i hi) l.toArray.size (Array.replicate l.toArray.size false) (List.range l.toArray.size) (by simp) (List.pairwise_lt_range) (fun i => ?_) (fun k o _ hl => ?_) (by simp) (Hw := fun _ => none) (U := U) (fun i h => absurd rfl h) ?_ hR.drawn)
  · rw [rep_getD]
    simp only [List.mem_range, List.size_toArray]
    by_cases hi : i < l.length <;> simp [hi]
  · exfalso
    rw [rep_getD] at hl
    split at hl <;> cases hl
  · rw [hl, ← fR_eq, ← fW_eq]
    have h1 := (opsK_T (fR l)).1 hk
    have h2 := opsT_keep (fun o ho => by
      rw [fR_eq] at ho
      obtain ⟨h1, h2⟩ := List.mem_filter.1 ho
      exact hall o h1 (by simpa using h2)) h1
    refine opsT_mono (fun T' H' U' h => ?_) h2
    obtain ⟨rfl, rfl, h⟩ := h
    exact (opsK_T (fW l)).1 h
end
end Go.Tn
