/- Symbolic data, and what the operations do to it. -/
import Derived.Test.YtlabdffgcciepaaGreatDoorTt
set_option linter.unusedSimpArgs false
set_option linter.unusedVariables false
set_option linter.unusedSectionVars false
namespace Go.Tn
open Go.RowKit
theorem stepR_scope' {P : Program} [Fen P] {b : Frame} {a : Act} {k : List Item} {cs : List Frame} {w : World} {c : Code} : Go.step P (lone (b.atR a (.code (.scope c) :: k)) cs w) = .next (lone (b.atR a (.code c :: .inScope c :: k)) cs w) :=
  step_lone_go (by simp [stepG, stepG.exec, Frame.atR])
theorem stepR_inScope' {P : Program} [Fen P] {b : Frame} {a : Act} {k : List Item} {cs : List Frame} {w : World} {c : Code} : Go.step P (lone (b.atR a (.inScope c :: k)) cs w) = .next (lone (b.atR a k) cs w) :=
  step_lone_go (by simp [stepG, stepG.exec, Frame.atR])
def noG (Q : Exit → Act → World → Prop) : Exit → Act → World → Prop
  | .goto _, _, _ => False
  | e, a, w => Q e a w
theorem wpIn_scope {F : Fence} {n : Nat} {P : Program} [Fen P] {Q : Exit → Act → World → Prop} {a : Act} {w : World} {c : Code} (h : c.wpIn F n P (noG Q) a w) : (Code.scope c).wpIn F n P Q a w := by
  intro b k cs hro hb hr
  have h0 : (lone (b.atR a (.code (.scope c) :: k)) cs w).fenced P F := fenced_calm hb hr rfl
  obtain ⟨e, a₁, w₁, hq, harr⟩ := h b (.inScope c :: k) cs hro hb hr
  cases e with
  | normal => exact ⟨.normal, a₁, w₁, hq, .head h0 stepR_scope' (StepsIn.trans harr (.one (fenced_calm hb hr rfl) stepR_inScope'))⟩
  | exit id' =>
    have hx : exitTo id' (.inScope c :: k) = exitTo id' k := by simp [exitTo]
    exact ⟨.exit id', a₁, w₁, hq, fun k' hk => .head h0 stepR_scope' (harr.1 k' (by rw [hx]; exact hk)),
      fun hr' hk => let ⟨k₁, h1, h2⟩ := harr.2 hr' (by rw [hx]; exact hk); ⟨k₁, h1, .head h0 stepR_scope' h2⟩⟩
  | goto l => exact hq.elim
  | ret => exact ⟨_, a₁, w₁, hq, .of_steps (.one h0 stepR_scope') harr⟩
  | panic ch => exact ⟨_, a₁, w₁, hq, .of_steps (.one h0 stepR_scope') harr⟩
  | outgrown => exact ⟨_, a₁, w₁, hq, .of_steps (.one h0 stepR_scope') harr⟩
section
variable {P : Program} [Fen P] {C : Spec} {ops : Array Oper} {T T' : Nat → D} {H H' H0 Hr : Hp} {U U' U0 : Us} {K : Kt} {x y o : Oper} {dst : Option Nat}
def sbK (n : Nat) (H : Hp) (K : Kt) : Kt := fun T2 H2 U2 => match n with | 1 => Sub H H2 ∧ K T2 H2 U2 | _ => K T2 H2 U2
theorem sbK_K {n : Nat} (h : sbK n H K T' H' U') : K T' H' U' := by
  unfold sbK at h
  split at h
  · exact h.2
  · exact h
def opsW (P : Program) [Fen P] (C : Spec) (ops : Array Oper) : List Oper → Kt → Kt
  | [], K => K
  | o :: l, K => fun T H U => stepT P C ops o (sbK (clO o.op) H (opsW P C ops l K)) T H U
theorem pullW {LW : List Oper} : ∀ {LR : List Oper} {T : Nat → D} {H1 : Hp} {U1 : Us}, (∀ y ∈ LR, x.apart ops y = true) → opsT P C ops LR (fun T _ _ => opsW P C ops (x :: LW) K T Hr U) T H1 U1 →
    ∃ r, act P C ops x T Hr U = some r ∧ r.1 ∧ (clO x.op = 1 → Sub Hr r.2.2.1) ∧ opsT P C ops LR (fun T _ _ => opsW P C ops LW K T r.2.2.1 r.2.2.2) (putO T x.dst r.2.1) H1 U1
  | [], T, H1, U1, _, h => by
    simp only [opsT, opsW] at h ⊢
    rw [step_act] at h
    obtain ⟨r, h1, h2, h3⟩ := h
    refine ⟨r, h1, h2, fun e => ?_, sbK_K h3⟩
    rw [e] at h3
    exact h3.1
  | y :: LR, T, H1, U1, ha, h => by
    simp only [opsT] at h ⊢
    rw [step_act] at h
    obtain ⟨ry, hy1, hy2, hk⟩ := h
    obtain ⟨r, hr1, hr2, hr4, hr3⟩ := pullW (fun z hz => ha z (List.mem_cons_of_mem _ hz)) hk
    obtain ⟨h1, h2, h3⟩ := Oper.apart_spec (ha y (by simp))
    rw [act_put h3] at hr1
    refine ⟨r, hr1, hr2, hr4, ?_⟩
    rw [step_act]
    refine ⟨ry, by rw [act_put h1]; exact hy1, hy2, ?_⟩
    rw [putO_comm h2]
    exact hr3
def isR (o : Oper) : Bool := Nat.beq (clO o.op) 0
def chkVP (ops : Array Oper) (i j : Nat) (o y : Oper) : Bool :=
  match isR y, isR o with
  | true, true => cmB ops y o || anc ops ops.size i j
  | false, false => anc ops ops.size i j
  | true, false => (y.apart ops o && o.apart ops y && Nat.beq (clO o.op) 1) || anc ops ops.size i j
  | false, true => (y.apart ops o && o.apart ops y) && Nat.beq (clO y.op) 1
def chkVI (ops : Array Oper) (i : Nat) : Bool :=
  match ops[i]? with
  | none => true
  | some o => (o.after.toList.all fun e => !Region.binds .any e || Nat.blt e.on i) && (List.range i).all fun j => match ops[j]? with
    | some y => chkVP ops i j o y
    | none => true
def chkV (ops : Array Oper) : Bool := (List.range ops.size).all (chkVI ops)
def fV : List Oper → List Oper
  | [] => []
  | o :: l => match isR o with | true => o :: fV l | false => fV l
def fU : List Oper → List Oper
  | [] => []
  | o :: l => match isR o with | true => fU l | false => o :: fU l
theorem fV_eq : ∀ l, fV l = l.filter isR
  | [] => rfl
  | o :: l => by rw [List.filter_cons, ← fV_eq l]; simp only [fV]; cases isR o <;> rfl
theorem fU_eq : ∀ l, fU l = l.filter (fun o => !isR o)
  | [] => rfl
  | o :: l => by rw [List.filter_cons, ← fU_eq l]; simp only [fU]; cases isR o <;> rfl
end
section
variable {P : Program} [Fen P] {C : Spec} {B : Base} [LB P B] {N n : Nat} {ro : Option Nat} {ops : Array Oper} {S : Ex} {p : Pl} {T : Nat → D} {H H0 : Hp} {U : Us} {a : Act} {w : World}
theorem any_soundV {K : Kt} (hJ : B.it = true → JStep P B) (hnm : B.it = true → B.nm = true) (hchk : chkV ops = true) (hN : ∀ o ∈ ops.toList, ∀ i, o.dst = some i → i < N) {Q : Exit → Act → World → Prop} (hy : ∀ ch S' a' w', B.Jp ch S' w' → a'.defers = [] → Q (.panic ch) a' w')
    (hQ : ∀ S' p' T' H' U' a' w', K T' H' U' → R B N S' p' T' H' U' a' w' → Q .normal a' w') {U0 : Us} :
    ∀ (fuel : Nat) (listed : Array Bool) (L : List Nat) {S : Ex} {p : Pl} {T : Nat → D} {Hr : Hp} {U : Us} {a : Act} {w : World},
      listed.size = ops.size → L.Pairwise (· < ·) → (∀ i, i ∈ L ↔ listed.getD i true = false) → Closed ops listed → L.length ≤ fuel → ((L.filterMap fun i => ops[i]?).filter isR = [] ∨ Sub H0 Hr) →
      opsT P C ops ((L.filterMap fun i => ops[i]?).filter isR) (fun T _ _ => opsW P C ops ((L.filterMap fun i => ops[i]?).filter fun o => !isR o) K T Hr U) T H0 U0 → R B N S p T Hr U a w → wpAnyIn (Fro P ro) n P .any ops Q fuel listed a w := by
  have hck : ∀ i o, ops[i]? = some o → (∀ e ∈ o.after, Region.binds .any e = true → e.on < i) ∧ ∀ j y, j < i → ops[j]? = some y → chkVP ops i j o y = true := by
    intro i o ho
    have hi : i < ops.size := (Array.getElem?_eq_some_iff.1 ho).1
    have h := List.all_eq_true.1 hchk i (List.mem_range.2 hi)
    simp only [chkVI, ho, Bool.and_eq_true, List.all_eq_true] at h
    refine ⟨fun e he hb => ?_, fun j y hj hy => ?_⟩
    · have := h.1 e (by simpa using he)
      simp only [hb, Bool.not_true, Bool.or_eq_true, Nat.blt_eq] at this
      exact this.resolve_left (by simp)
    · have := h.2 j (List.mem_range.2 hj)
      simp only [hy] at this
      exact this
  have none_ready : ∀ (listed : Array Bool) (L : List Nat), listed.size = ops.size → L.Pairwise (· < ·) → (∀ i, i ∈ L ↔ listed.getD i true = false) → Region.ready .any ops listed = [] → L = [] := by
    intro listed L hs hp hL hr
    cases L with
    | nil => rfl
    | cons i L =>
      exfalso
      have hi := (hL i).1 (by simp)
      have hlt := (listed_in hi).1
      rw [hs] at hlt
      have ho : ops[i]? = some ops[i] := Array.getElem?_eq_getElem hlt
      have : i ∈ Region.ready .any ops listed := by
        refine mem_ready.2 ⟨hi, _, ho, fun e he hb => ?_⟩
        have hlt' := (hck i _ ho).1 e he hb
        cases hx : listed.getD e.on false with
        | true => rfl
        | false =>
          have hin := (hL e.on).2 (listed_out (by omega) hx)
          rcases List.mem_cons.1 hin with h | h
          · omega
          · have := (List.pairwise_cons.1 hp).1 _ h
            omega
      rw [hr] at this; simp at this
  intro fuel
  induction fuel with
  | zero =>
    intro listed L S p T Hr U a w hs hp hL hc hf hsub hk hR
    have : L = [] := List.length_eq_zero_iff.1 (by omega)
    subst this
    refine ⟨?_, hQ _ _ _ _ _ _ _ hk hR⟩
    cases hr : Region.ready .any ops listed with
    | nil => rfl
    | cons i is =>
      have hi : i ∈ Region.ready .any ops listed := by rw [hr]; simp
      have := (hL i).2 (mem_ready.1 hi).1
      simp at this
  | succ fuel ih =>
    intro listed L S p T Hr U a w hs hp hL hc hf hsub hk hR
    refine ⟨fun hr => ?_, fun i hi => ?_⟩
    · have := none_ready listed L hs hp hL hr
      subst this
      exact hQ _ _ _ _ _ _ _ hk hR
    · obtain ⟨hun, o, ho, hall⟩ := mem_ready.1 hi
      have hin := (hL i).2 hun
      have hmem : o ∈ ops.toList := by rw [Array.mem_toList_iff]; exact Array.mem_of_getElem? ho
      obtain ⟨L1, L2, rfl⟩ := List.append_of_mem hin
      have hpw := List.pairwise_append.1 hp
      have unl : ∀ {j}, j ∈ L1 ++ i :: L2 → anc ops ops.size i j = true → False := fun {j} hj h => by
        have h1 := anc_spec hc ops.size i j o ho hall h
        have h2 := (listed_in ((hL j).1 hj)).2
        rw [h1] at h2; cases h2
      have hsize : i < listed.size := (listed_in hun).1
      have next : ∀ {S' p' T' U' a' w'} {Hr' : Hp}, (((L1 ++ L2).filterMap fun i => ops[i]?).filter isR = [] ∨ Sub H0 Hr') → opsT P C ops (((L1 ++ L2).filterMap fun i => ops[i]?).filter isR) (fun T _ _ => opsW P C ops (((L1 ++ L2).filterMap fun i => ops[i]?).filter fun o => !isR o) K T Hr' U') T' H0 U0 →
          R B N S' p' T' Hr' U' a' w' → wpAnyIn (Fro P ro) n P .any ops Q fuel (listed.setIfInBounds i true) a' w' := by
        intro S' p' T' U' a' w' Hr' ha' hk' hR'
        refine ih (listed.setIfInBounds i true) (L1 ++ L2) (by simpa using hs) ?_ (fun j => ?_) ?_ ?_ ha' hk' hR'
        · exact List.pairwise_append.2 ⟨hpw.1, (List.pairwise_cons.1 hpw.2.1).2, fun a ha b hb => hpw.2.2 a ha b (by simp [hb])⟩
        · by_cases hji : i = j
          · subst hji
            have h1 : (listed.setIfInBounds i true).getD i true = true := by simp [Array.getD_eq_getD_getElem?, hsize]
            rw [h1]
            constructor
            · intro h
              exfalso
              rcases List.mem_append.1 h with h | h
              · have := hpw.2.2 i h i (by simp); omega
              · have := (List.pairwise_cons.1 hpw.2.1).1 i h; omega
            · intro h; cases h
          · rw [getD_set_ne true hji, ← hL j]
            simp only [List.mem_append, List.mem_cons]
            constructor
            · rintro (h | h)
              · exact .inl h
              · exact .inr (.inr h)
            · rintro (h | h | h)
              · exact .inl h
              · exact absurd h.symm hji
              · exact .inr h
        · intro k ok hok hkl e he hb
          by_cases hki : i = k
          · subst hki
            rw [ho] at hok; cases hok
            exact getD_set_true (hall e he hb)
          · rw [getD_set_ne false hki] at hkl
            exact getD_set_true (hc k ok hok hkl e he hb)
        · simp only [List.length_append, List.length_cons] at hf ⊢; omega
      rw [List.filterMap_append, List.filterMap_cons, ho] at hk hsub
      unfold wpOpIn
      rw [ho]
      simp only
      have fin : ∀ {r : Act4}, act P C ops o T Hr U = some r → r.1 → (((L1 ++ L2).filterMap fun i => ops[i]?).filter isR = [] ∨ Sub H0 r.2.2.1) →
          opsT P C ops (((L1 ++ L2).filterMap fun i => ops[i]?).filter isR) (fun T _ _ => opsW P C ops (((L1 ++ L2).filterMap fun i => ops[i]?).filter fun o => !isR o) K T r.2.2.1 r.2.2.2) (putO T o.dst r.2.1) H0 U0 →
          if Region.wanted o (yielded ops a.tmps) = true then o.wpIn (Fro P ro) n P a w (fun a' w' => wpAnyIn (Fro P ro) n P .any ops Q fuel (listed.setIfInBounds i true) a' w') Q else (∀ f, o.about P w a.eval = some f → (Fro P ro).fn f) ∧ wpAnyIn (Fro P ro) n P .any ops Q fuel (listed.setIfInBounds i true) (a.put o.dst undef) w := by
        intro r e hc' ha' hk'
        have hst : stepT P C ops o (fun T' H' U' => T' = putO T o.dst r.2.1 ∧ H' = r.2.2.1 ∧ U' = r.2.2.2) T Hr U := step_act.2 ⟨_, e, hc', rfl, rfl, rfl⟩
        refine op_sound hJ hR o (hN o hmem) hst (fun S' p' T' H' U' a' w' hk2 hR' => ?_) (fun _ _ _ _ _ _ _ _ _ hk' => hk'.elim) hy
        obtain ⟨rfl, rfl, rfl⟩ : T' = putO T o.dst r.2.1 ∧ H' = r.2.2.1 ∧ U' = r.2.2.2 := hk2
        exact next ha' hk' hR'
      cases hw : isR o with
      | true =>
        have hcl : clO o.op = 0 := by simpa [isR] using hw
        rw [List.filter_append, List.filter_cons, List.filter_append, List.filter_cons, hw] at hk
        rw [List.filter_append, List.filter_cons, hw] at hsub
        simp only [Bool.not_true, if_true, Bool.false_eq_true, if_false] at hk hsub
        have hsub' : Sub H0 Hr := hsub.resolve_left (by simp)
        have hk2 := bubble (x := o) (L1 := (L1.filterMap fun i => ops[i]?).filter isR) (L2 := (L2.filterMap fun i => ops[i]?).filter isR) (fun y hy => by
          obtain ⟨hy, hyw⟩ := List.mem_filter.1 hy
          obtain ⟨j, hj, hjy⟩ := List.mem_filterMap.1 hy
          have hlt : j < i := hpw.2.2 j hj i (by simp)
          have h := (hck i o ho).2 j y hlt hjy
          simp only [chkVP, hyw, hw, Bool.or_eq_true] at h
          rcases h with h | h
          · exact h
          · exact (unl (by simp [hj]) h).elim) hk
        simp only [opsT] at hk2
        rw [step_act] at hk2
        obtain ⟨r, h1, h2, h3⟩ := hk2
        obtain ⟨e1, e2⟩ := act_read (cl0_klass hcl) h1
        rw [e1, e2] at h3
        obtain ⟨c', e, hc'⟩ := act_more (U := U) hcl hsub' h1 h2
        refine fin (r := (c', r.2.1, Hr, U)) e hc' (.inr hsub') ?_
        rw [List.filterMap_append, List.filter_append, List.filter_append]
        exact h3
      | false =>
        rw [List.filter_append, List.filter_cons, List.filter_append, List.filter_cons, hw] at hk
        rw [List.filter_append, List.filter_cons, hw] at hsub
        simp only [Bool.not_false, if_true, Bool.false_eq_true, if_false] at hk hsub
        have hW1 : (L1.filterMap fun i => ops[i]?).filter (fun o => !isR o) = [] := by
          rw [List.filter_eq_nil_iff]
          intro y hy hyw
          obtain ⟨j, hj, hjy⟩ := List.mem_filterMap.1 hy
          have hlt : j < i := hpw.2.2 j hj i (by simp)
          have h := (hck i o ho).2 j y hlt hjy
          simp only [Bool.not_eq_true'] at hyw
          simp only [chkVP, hyw, hw] at h
          exact unl (by simp [hj]) h
        rw [hW1, List.nil_append] at hk
        have hR1 : clO o.op ≠ 1 → ((L1 ++ L2).filterMap fun i => ops[i]?).filter isR = [] := fun hne => by
          rw [List.filter_eq_nil_iff]
          intro y hy hyw
          rw [List.filterMap_append] at hy
          rcases List.mem_append.1 hy with hy | hy
          · obtain ⟨j, hj, hjy⟩ := List.mem_filterMap.1 hy
            have hlt : j < i := hpw.2.2 j hj i (by simp)
            have h := (hck i o ho).2 j y hlt hjy
            simp only [chkVP, hyw, hw, Bool.or_eq_true, Bool.and_eq_true, Nat.beq_eq] at h
            rcases h with h | h
            · exact hne h.2
            · exact unl (by simp [hj]) h
          · obtain ⟨j, hj, hjy⟩ := List.mem_filterMap.1 hy
            have hlt : i < j := (List.pairwise_cons.1 hpw.2.1).1 j hj
            have h := (hck j y hjy).2 i o hlt ho
            simp only [chkVP, hyw, hw, Bool.and_eq_true, Nat.beq_eq] at h
            exact hne h.2
        obtain ⟨r, h1, h2, h4, h3⟩ := pullW (x := o) (fun y hy => by
          rcases List.mem_append.1 hy with hy | hy
          · obtain ⟨hy, hyw⟩ := List.mem_filter.1 hy
            obtain ⟨j, hj, hjy⟩ := List.mem_filterMap.1 hy
            have hlt : j < i := hpw.2.2 j hj i (by simp)
            have h := (hck i o ho).2 j y hlt hjy
            simp only [chkVP, hyw, hw, Bool.or_eq_true, Bool.and_eq_true] at h
            rcases h with h | h
            · exact h.1.2
            · exact (unl (by simp [hj]) h).elim
          · obtain ⟨hy, hyw⟩ := List.mem_filter.1 hy
            obtain ⟨j, hj, hjy⟩ := List.mem_filterMap.1 hy
            have hlt : i < j := (List.pairwise_cons.1 hpw.2.1).1 j hj
            have h := (hck j y hjy).2 i o hlt ho
            simp only [chkVP, hyw, hw, Bool.and_eq_true] at h
            exact h.1.1) hk
        refine fin h1 h2 ?_ ?_
        · by_cases he : clO o.op = 1
          · rcases hsub with h | h
            · left
              rw [List.filterMap_append, List.filter_append]
              exact h
            · exact .inr fun i o' hi => h4 he i o' (h i o' hi)
          · exact .inl (hR1 he)
        · rw [List.filterMap_append, List.filter_append, List.filter_append, hW1, List.nil_append]
          exact h3
theorem region_soundV {K : X → Kt} (hJ : B.it = true → JStep P B) (hnm : B.it = true → B.nm = true) (hm : P.follows .mixedOrders = true) {id : Nat} {l : List Oper} (hchk : chkV l.toArray = true) (hN : ∀ o ∈ l, ∀ i, o.dst = some i → i < N)
    (hk : opsK P C true l.toArray (fV l) (nK (opsW P C l.toArray (fU l) (K .normal))) T H U) (hR : R B N S p T H U a w) {Q : Exit → Act → World → Prop}
    (hQ : ∀ S' p' T' H' U' a' w', K .normal T' H' U' → R B N S' p' T' H' U' a' w' → Q .normal a' w') (hy : ∀ ch S' a' w', B.Jp ch S' w' → a'.defers = [] → Q (.panic ch) a' w') : (Code.region id l.toArray true).wpIn (Fro P ro) n P Q a w := by
  have hl : (List.range l.toArray.size).filterMap (fun i => l.toArray[i]?) = l := by rw [filt_at l l.toArray.size (by simp)]; simp
  refine wpIn_region_any hm (any_soundV (C := C) (K := K .normal) (H0 := H) (U0 := U) hJ hnm hchk (by simpa using hN) hy hQ l.toArray.size (Array.replicate l.toArray.size false) (List.range l.toArray.size) (by simp) (List.pairwise_lt_range) (fun i => ?_) (fun k o _ hl => ?_) (by simp) (U := U) (.inr fun _ _ h => h) ?_ hR.drawn)
  · rw [rep_getD]
    simp only [List.mem_range, List.size_toArray]
    by_cases hi : i < l.length <;> simp [hi]
  · exfalso
    rw [rep_getD] at hl
    split at hl <;> cases hl
  · rw [hl, ← fV_eq, ← fU_eq]
    have h1 := (opsK_T (fV l)).1 hk
    generalize l = l0 at hk h1 ⊢
    have hkeep : ∀ {l : List Oper} {T : Nat → D}, (∀ o ∈ l, isR o = true) → ∀ {K : Kt}, opsT P C l0.toArray l K T H U → opsT P C l0.toArray l (fun T _ _ => K T H U) T H U := by
      intro l
      induction l with
      | nil => intro T _ K h; exact h
      | cons o l ih =>
        intro T hr K h
        simp only [opsT] at h ⊢
        rw [step_act] at h ⊢
        obtain ⟨r, h1, h2, h3⟩ := h
        obtain ⟨e1, e2⟩ := act_read (cl0_klass (by simpa [isR] using hr o (by simp))) h1
        refine ⟨r, h1, h2, ?_⟩
        rw [e1, e2] at h3 ⊢
        exact ih (fun o ho => hr o (by simp [ho])) h3
    have hf : ∀ o ∈ fV l0, isR o = true := fun o ho => by rw [fV_eq] at ho; exact (List.mem_filter.1 ho).2
    exact hkeep hf h1
end
end Go.Tn
