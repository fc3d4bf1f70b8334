/- Symbolic data, and what the operations do to it. -/
import Derived.Test.YtlabdffgcciepaaGreatDoorTn15
set_option linter.unusedSimpArgs false
set_option linter.unusedVariables false
set_option linter.unusedSectionVars false
namespace Go.Tn
open Go.RowKit
def EndM (S : Ex) (w : World) (p : Pl) : MOut → Ending → Prop
  | .ret d, .returned v => Rd S w d p v
  | .pan d, .panicked ch => ∃ v, ch = pch v ∧ gnd d = true ∧ Rd S w d noPl v
  | _, _ => False
def idsO : List (Nat × LObj) → List Nat
  | [] => []
  | (i, _) :: r => i :: idsO r
def fltU (U : Us) : List Nat → List Nat
  | [] => []
  | i :: r => match U i with | true => i :: fltU U r | false => fltU U r
def RdF (S : Ex) (w : World) (p : Pl) : List (Bool × D) → List Value → Prop
  | [], vs => vs = []
  | (b, d) :: ds, vs => ∃ v r, vs = v :: r ∧ Rd S w d (match b with | true => p | false => noPl) v ∧ RdF S w p ds r
def FCM (P : Program) [Fen P] (f : Nat) (all : List (Bool × D)) (o0 o1 : List (Nat × LObj)) (out : MOut) : Prop :=
  Ent P f ∧ ∀ (B : Base) (S : Ex) (p : Pl) (w : World) (vs : List Value), B.it = false → B.d0 = [] → B.nm = false → (∀ ch S w, ¬ B.Jp ch S w) → B.n0 = w.heap.size → B.Kp = (fun S' w' => Keep S S' w w') → Laid P S w → B.L0 = fltU (mkU o1) (idsO o0) →
    (∀ i ∈ B.L0, ∃ g, p i = some g ∧ GLe (B.q i) g) → Heap B S p (mkH o0) (mkU o0) w → RdF S w p all vs →
    CallsF P f vs.toArray w fun e w' => ∃ S' p', EndM S' w' p' out e ∧ Heap B S' p' (mkH o1) (mkU o1) w' ∧ Keep S S' w w' ∧ ∀ i ∈ B.L0, ∃ g, p' i = some g ∧ GLe (B.q i) g
def flg (ps : List Nat) : Nat → List D → List (Bool × D)
  | _, [] => []
  | k, d :: ds => (ps.contains k, d) :: flg ps (k + 1) ds
def cv1 (H : Hp) (b : Bool) (d : D) : D := match b with | true => d | false => cv H 6 d
def cvm (H : Hp) (ps : List Nat) : Nat → List D → List D
  | _, [] => []
  | k, d :: ds => cv1 H (ps.contains k) d :: cvm H ps (k + 1) ds
def con1 (b : Bool) (d : D) (ds : List D) : List D := match b with | true => d :: ds | false => ds
def oths (ps : List Nat) : Nat → List D → List D
  | _, [] => []
  | k, d :: ds => con1 (!ps.contains k) d (oths ps (k + 1) ds)
def raws (ps : List Nat) : Nat → List D → List D
  | _, [] => []
  | k, d :: ds => con1 (ps.contains k) d (raws ps (k + 1) ds)
def objs1 (i : Nat) (x : Option LObj) (r : List (Nat × LObj)) : List (Nat × LObj) := match x with | some o => (i, o) :: r | none => r
def objs (H : Hp) : List Nat → List (Nat × LObj)
  | [] => []
  | i :: r => objs1 i (H i) (objs H r)
def muOk1 (U : Us) (x : Option LObj) : Prop := match x with | some o => plainO o ∧ inLO U o | none => False
def muOk (U : Us) (H : Hp) : List Nat → Prop
  | [] => True
  | i :: r => muOk1 U (H i) ∧ muOk U H r
def mkUs : List Nat → Us
  | [] => fun _ => false
  | i :: r => upd (mkUs r) i true
def frs1 (b c : Bool) : Prop := match b with | true => True | false => c = false
def frs (U V : Us) : List (Nat × LObj) → Prop
  | [] => True
  | (i, _) :: r => frs1 (V i) (U i) ∧ frs U V r
def dropU : List Nat → Hp → Hp
  | [], H => H
  | i :: r, H => upd (dropU r H) i none
def addO : List (Nat × LObj) → Hp → Hp
  | [], H => H
  | (i, o) :: r, H => upd (addO r H) i (some o)
def addU : List (Nat × LObj) → Us → Us
  | [], U => U
  | (i, _) :: r, U => upd (addU r U) i true
def selU {α : Type} (b : Bool) (x y : α) : α := match b with | true => x | false => y
def StM (P : Program) [Fen P] (C : Spec) (f : Nat) : Prop := ∀ ds H pre mu o1 out, C.m f ds H = .yes pre mu o1 out → pre → FCM P f (flg (C.mp f) 0 ds) (objs H mu) o1 out
def outM (out : MOut) (dst : Option Nat) (T : Nat → D) (H : Hp) (U : Us) (K : X → Kt) : Prop :=
  match out with
  | .ret d => K .normal (putO T dst d) H U
  | .pan d => K (.pan d) T H U
def msK (q : Prop) (raw : List D) (ms : MS) (dst : Option Nat) (T : Nat → D) (Hf : Hp) (U : Us) (K : X → Kt) : Prop :=
  match ms with
  | .bad => False
  | .yes pre mu o1 out => ((q ∧ pre) ∧ (muOk (mkUs mu) Hf mu ∧ inOL (mkUs mu) raw) ∧ (frs U (mkUs mu) o1 ∧ plainL o1)) ∧ outM out dst T (addO o1 (dropU mu Hf)) (addU o1 U) K
def callMK (P : Program) [Fen P] (C : Spec) (dr : Bool) (f : Nat) (ps : List Nat) (all : List D) (dst : Option Nat) (T : Nat → D) (H : Hp) (U : Us) (K : X → Kt) : Prop :=
  match dr with
  | true => False
  | false => msK (news H (oths ps 0 all) ∧ StM P C f) (raws ps 0 all) (C.m f (cvm H ps 0 all) (frzs H (oths ps 0 all))) dst T (frzs H (oths ps 0 all)) U K
def callX (P : Program) [Fen P] (C : Spec) (dr : Bool) (ps : List Nat) (f : Nat) (caps args : List D) (dst : Option Nat) (T : Nat → D) (H : Hp) (U : Us) (K : X → Kt) : Prop :=
  match ps with
  | [] => callK P C dr f caps args dst T H U K
  | _ => callMK P C dr f ps (args ++ caps) dst T H U K
section
variable {P : Program} [Fen P] {C : Spec} {m : Nat} {v : Value} {B : Base} [LB P B] {N : Nat} {S S' S1 : Ex} {p p' : Pl} {T : Nat → D} {H : Hp} {U : Us} {a : Act} {w w' : World} {dst : Option Nat} {K : X → Kt} {mu : List Nat} {o1 : List (Nat × LObj)}
theorem mkUs_mem {i : Nat} : ∀ {mu : List Nat}, mkUs mu i = true ↔ i ∈ mu
  | [] => by simp [mkUs]
  | j :: r => by
    simp only [mkUs, List.mem_cons]
    by_cases e : i = j
    · subst e; simp [upd_same]
    · rw [upd_ne _ _ e, mkUs_mem]; simp [e]
theorem objs_spec (hm : muOk U H mu) (i : Nat) : mkH (objs H mu) i = selU (mkUs mu i) (H i) none ∧ mkU (objs H mu) i = mkUs mu i := by
  induction mu with
  | nil => exact ⟨rfl, rfl⟩
  | cons j r ih =>
    obtain ⟨h1, h2⟩ := hm
    obtain ⟨i1, i2⟩ := ih h2
    cases hj : H j with
    | none => rw [hj] at h1; exact h1.elim
    | some o =>
      simp only [objs, hj, objs1, mkH, mkU, mkUs]
      by_cases e : i = j
      · subst e; rw [upd_same, upd_same, upd_same]; exact ⟨hj.symm, rfl⟩
      · rw [upd_ne _ _ e, upd_ne _ _ e, upd_ne _ _ e]; exact ⟨i1, i2⟩
theorem muOk_mem (hm : muOk U H mu) {i : Nat} (hi : i ∈ mu) : ∃ o, H i = some o ∧ plainO o ∧ inLO U o := by
  induction mu with
  | nil => simp at hi
  | cons j r ih =>
    rcases List.mem_cons.1 hi with rfl | hi
    · have h1 := hm.1
      cases hj : H i with
      | none => rw [hj] at h1; exact h1.elim
      | some o => rw [hj] at h1; exact ⟨o, rfl, h1⟩
    · exact ih hm.2 hi
theorem idsO_objs (hm : muOk U H mu) : idsO (objs H mu) = mu := by
  induction mu with
  | nil => rfl
  | cons j r ih =>
    obtain ⟨h1, h2⟩ := hm
    cases hj : H j with
    | none => rw [hj] at h1; exact h1.elim
    | some o => simp only [objs, hj, objs1, idsO]; rw [ih h2]
theorem fltU_mem {V : Us} {i : Nat} : ∀ {l : List Nat}, i ∈ fltU V l ↔ i ∈ l ∧ V i = true
  | [] => by simp [fltU]
  | j :: r => by
    simp only [fltU]
    cases h : V j
    · simp only [fltU_mem (l := r), List.mem_cons]
      exact ⟨fun ⟨h1, h2⟩ => ⟨.inr h1, h2⟩, fun ⟨h1, h2⟩ => ⟨h1.resolve_left (fun e => by rw [e, h] at h2; cases h2), h2⟩⟩
    · simp only [List.mem_cons, fltU_mem (l := r)]
      exact ⟨fun h1 => h1.elim (fun e => ⟨.inl e, e ▸ h⟩) (fun h1 => ⟨.inr h1.1, h1.2⟩), fun ⟨h1, h2⟩ => h1.imp id (fun h1 => ⟨h1, h2⟩)⟩
theorem addO_spec (i : Nat) : ∀ o1 : List (Nat × LObj), addO o1 H i = selU (mkU o1 i) (mkH o1 i) (H i) ∧ addU o1 U i = (mkU o1 i || U i)
  | [] => ⟨rfl, rfl⟩
  | (j, o) :: r => by
    obtain ⟨h1, h2⟩ := addO_spec i r
    simp only [addO, addU, mkH, mkU]
    by_cases e : i = j
    · subst e; rw [upd_same, upd_same, upd_same, upd_same]; exact ⟨rfl, rfl⟩
    · rw [upd_ne _ _ e, upd_ne _ _ e, upd_ne _ _ e, upd_ne _ _ e]; exact ⟨h1, h2⟩
theorem dropU_spec (i : Nat) : ∀ mu : List Nat, dropU mu H i = selU (mkUs mu i) none (H i)
  | [] => rfl
  | j :: r => by
    simp only [dropU, mkUs]
    by_cases e : i = j
    · subst e; rw [upd_same, upd_same]; rfl
    · rw [upd_ne _ _ e, upd_ne _ _ e]; exact dropU_spec i r
theorem frs_mem {V : Us} {i : Nat} : ∀ {l : List (Nat × LObj)}, frs U V l → mkU l i = true → V i = true ∨ U i = false
  | [], _, h => by simp [mkU] at h
  | (j, o) :: r, hf, h => by
    simp only [mkU] at h
    by_cases e : i = j
    · subst e
      have := hf.1
      unfold frs1 at this
      split at this
      · rename_i hb; exact .inl hb
      · exact .inr this
    · rw [upd_ne _ _ e] at h; exact frs_mem hf.2 h
open Classical in
noncomputable def mutB (S : Ex) (w : World) (p : Pl) (H : Hp) (mu L0 : List Nat) : Base where
  n0 := w.heap.size
  mb := fun b => decide (∃ i ∈ mu, ∃ g o, p i = some g ∧ H i = some o ∧ g.own = some b)
  w0 := w
  S0 := S
  it := false
  l := 0
  lr := default
  ys := []
  J := fun _ _ _ _ _ => False
  Jok := fun _ _ _ _ _ _ _ h => h.elim
  Kp := fun S' w' => Keep S S' w w'
  Kpok := fun _ _ _ _ h k => h.trans k
  L0 := L0
  q := fun i => (p i).getD gnil
  d0 := []
  nm := false
  Jp := fun _ _ _ => False
theorem mut_mb {L0 : List Nat} {b : Nat} : (mutB S w p H mu L0).mb b = true ↔ ∃ i ∈ mu, ∃ g o, p i = some g ∧ H i = some o ∧ g.own = some b := by
  classical
  unfold mutB
  simp only [decide_eq_true_eq]
theorem mut_mbF {L0 : List Nat} {b : Nat} (h : ¬ ∃ i ∈ mu, ∃ g o, p i = some g ∧ H i = some o ∧ g.own = some b) : (mutB S w p H mu L0).mb b = false := by
  cases hb : (mutB S w p H mu L0).mb b with
  | false => rfl
  | true => exact absurd (mut_mb.1 hb) h
theorem ObjRel.cutV {g : G} {o : LObj} {V : Us} (h : ObjRel B S p w g o) (hp : plainO o) (hi : inLO V o) : ObjRel B S (cutP p V) w g o := by
  cases o with
  | blk cs fz =>
    obtain ⟨vs, ty, h1, h2, h3, h4, h5⟩ := h
    refine ⟨vs, ty, h1, h2, h3, ?_, h5⟩
    cases fz with
    | true => exact h4
    | false => exact rdL_in cs hi h4
  | vec e sz rows fz => exact h
  | mp ks ds fz => exact h
  | yl _ _ _ => exact hp.elim
  | lrec => exact hp.elim
  | nv e ms =>
    obtain ⟨xs, h1, h2, h3, h4, h5, h6⟩ := h
    exact ⟨xs, h1, h2, h3, h4, rdL_in _ hi h5, h6⟩
  | mv ks ms =>
    obtain ⟨es, c, h1, h2, h3, h4, h5, h6⟩ := h
    exact ⟨es, c, h1, h2, h3, h4, rdL_in _ hi h5, h6⟩
theorem Heap.sub (hh : Heap B S p H U w) (hm : muOk (mkUs mu) H mu) (L0 : List Nat) : Heap (mutB S w p H mu L0) S (cutP p (mkU (objs H mu))) (mkH (objs H mu)) (mkU (objs H mu)) w := by
  have hU : mkU (objs H mu) = mkUs mu := funext fun i => (objs_spec hm i).2
  have hof : ∀ {i : Nat} {o : LObj}, mkH (objs H mu) i = some o → i ∈ mu ∧ H i = some o := fun {i o} h => by
    rw [(objs_spec hm i).1] at h
    cases hi : mkUs mu i with
    | true => rw [hi] at h; exact ⟨mkUs_mem.1 hi, h⟩
    | false => rw [hi] at h; cases h
  have hpl : ∀ {i : Nat} {o : LObj}, mkH (objs H mu) i = some o → plainO o ∧ inLO (mkUs mu) o := fun {i o} h => by
    obtain ⟨h1, h2⟩ := hof h
    obtain ⟨o', h3, h4⟩ := muOk_mem hm h1
    rw [h2] at h3; cases h3; exact h4
  rw [hU]
  have hcut : ∀ {i : Nat} {g : G}, cutP p (mkUs mu) i = some g → i ∈ mu → ∀ g', p i = some g' → g' = g := fun {i g} h hi g' hg' => by
    rw [cutP_in (mkUs_mem.2 hi) hg'] at h; cases h; rfl
  refine ⟨fun i o hi => ?_, fun i j o o' g g' b hi hj hpi hpj hb hb' => ?_, fun i g hg => ?_, hh.ext, fun _ _ _ _ => rfl, Nat.le_refl _, fun _ => SameOut.refl _ _ _, fun i ys d st hi => (hpl hi).1.elim, fun i hi => (hpl hi).1.elim, fun i ys d st g b hi => (hpl hi).1.elim⟩
  · obtain ⟨h1, h2⟩ := hof hi
    obtain ⟨g, hg, hr⟩ := hh.obj i o h2
    exact ⟨g, cutP_in (mkUs_mem.2 h1) hg, (hr.cutV (hpl hi).1 (hpl hi).2).rebase (hpl hi).1 (fun b hb => .inr (mut_mb.2 ⟨i, h1, g, o, hg, h2, hb⟩))⟩
  · obtain ⟨h1, h2⟩ := hof hi
    obtain ⟨h3, h4⟩ := hof hj
    obtain ⟨gi, hgi, _⟩ := hh.obj i o h2
    obtain ⟨gj, hgj, _⟩ := hh.obj j o' h4
    obtain rfl := hcut hpi h1 _ hgi
    obtain rfl := hcut hpj h3 _ hgj
    exact hh.inj i j o o' _ _ b h2 h4 hgi hgj hb hb'
  · unfold cutP at hg
    split at hg
    · assumption
    · cases hg
theorem rdF_of {pc : Pl} {ps : List Nat} (hr : ∀ S1 d v, inO U d → Rd S1 w d p v → Rd S1 w d pc v) : ∀ (k : Nat) (all : List D) (vs : List Value), RdL S w all p vs → inOL U (raws ps k all) →
    (∃ us, RdL S w (oths ps k all) p us ∧ ∀ S1, Keep S S1 w w → (RdL S1 w (cvs H (oths ps k all)) noPl us → RdF S1 w pc (flg ps k (cvm H ps k all)) vs))
  | _, [], vs, h, _ => ⟨[], rfl, fun _ _ _ => h⟩
  | k, d :: ds, vs, h, hi => by
    obtain ⟨v, r, rfl, h1, h2⟩ := h
    simp only [raws] at hi
    cases hb : ps.contains k with
    | true =>
      rw [hb] at hi
      obtain ⟨us, h3, h4⟩ := rdF_of hr (k + 1) ds r h2 hi.2
      refine ⟨us, by simp only [oths, hb, Bool.not_true, con1]; exact h3, fun S1 hk h5 => ?_⟩
      simp only [oths, hb, Bool.not_true, con1] at h5
      simp only [cvm, flg, hb, cv1, RdF]
      exact ⟨v, r, rfl, hr S1 d v hi.1 (Rd.mono hk _ (PlLe.refl _) h1), h4 S1 hk h5⟩
    | false =>
      rw [hb] at hi
      obtain ⟨us, h3, h4⟩ := rdF_of hr (k + 1) ds r h2 hi
      refine ⟨v :: us, by simp only [oths, hb, Bool.not_false, con1]; exact ⟨v, us, rfl, h1, h3⟩, fun S1 hk h5 => ?_⟩
      simp only [oths, hb, Bool.not_false, con1, cvs, List.map_cons] at h5
      obtain ⟨v', us', e, h6, h7⟩ := h5
      cases e
      simp only [cvm, flg, hb, cv1, RdF]
      exact ⟨v, r, rfl, h6, h4 S1 hk h7⟩
theorem Heap.merge (hh : Heap B S1 p H U w) (hm : muOk (mkUs mu) H mu) (hf : frs U (mkUs mu) o1) (hpl : plainL o1) {L0 : List Nat} (hL0 : L0 = fltU (mkU o1) mu)
    (h' : Heap (mutB S1 w p H mu L0) S' p' (mkH o1) (mkU o1) w') (hk : Keep S1 S' w w') (hlk : ∀ i ∈ L0, ∃ g, p' i = some g ∧ GLe ((mutB S1 w p H mu L0).q i) g) :
    ∃ p1, Heap B S' p1 (addO o1 (dropU mu H)) (addU o1 U) w' ∧ PlLe p p1 ∧ PlLe p' p1 := by
  let p1 : Pl := fun i => if mkU o1 i = true then p' i else p i
  have hbel : SameOut w.heap.size (mutB S1 w p H mu L0).mb w w' := h'.bel rfl
  have hold : ∀ b, b < w.heap.size → (mutB S1 w p H mu L0).mb b = false → S' b = S1 b := fun b hb hmb => h'.old rfl b hb hmb
  have e1 : ∀ {i : Nat}, mkU o1 i = true → p1 i = p' i := fun {i} h => by simp only [p1, h, if_true]
  have e2 : ∀ {i : Nat}, mkU o1 i = false → p1 i = p i := fun {i} h => by simp only [p1, h, if_false, Bool.false_eq_true]
  have hp1 : PlLe p p1 := fun i g hg => by
    cases hu : mkU o1 i with
    | false => exact ⟨g, by rw [e2 hu]; exact hg, GLe.refl g⟩
    | true =>
      rcases frs_mem hf hu with h | h
      · obtain ⟨g', hg', hle⟩ := hlk i (by rw [hL0, fltU_mem]; exact ⟨mkUs_mem.1 h, hu⟩)
        have : (mutB S1 w p H mu L0).q i = g := by simp only [mutB, hg, Option.getD_some]
        rw [this] at hle
        exact ⟨g', by rw [e1 hu]; exact hg', hle⟩
      · rw [hh.use i g hg] at h; cases h
  have hp2 : PlLe p' p1 := fun i g hg => ⟨g, by rw [e1 (h'.use i g hg)]; exact hg, GLe.refl g⟩
  have mb_own : ∀ {b : Nat}, (mutB S1 w p H mu L0).mb b = true → B.own b ∧ b < w.heap.size := fun {b} hb => by
    obtain ⟨i, _, g, o, hg, ho, hob⟩ := mut_mb.1 hb
    obtain ⟨g', hg', hr⟩ := hh.obj i o ho
    rw [hg] at hg'; cases hg'; exact hr.lt hob
  have own_up : ∀ {b : Nat}, (mutB S1 w p H mu L0).own b → B.own b := fun {b} h => by
    rcases h with h | h
    · exact .inl (Nat.le_trans hh.size h)
    · exact (mb_own h).1
  have notmb : ∀ {b : Nat}, b < B.n0 → B.mb b = false → (mutB S1 w p H mu L0).mb b = false := fun {b} hb hmb => by
    cases hx : (mutB S1 w p H mu L0).mb b with
    | false => rfl
    | true =>
      rcases (mb_own hx).1 with h | h
      · omega
      · rw [h] at hmb; cases hmb
  have cases_of : ∀ {i : Nat} {o : LObj}, addO o1 (dropU mu H) i = some o → (mkU o1 i = true ∧ mkH o1 i = some o) ∨ (mkU o1 i = false ∧ mkUs mu i = false ∧ H i = some o) := fun {i o} h => by
    rw [(addO_spec (H := dropU mu H) (U := U) i o1).1] at h
    cases hu : mkU o1 i with
    | true => rw [hu] at h; exact .inl ⟨rfl, h⟩
    | false =>
      rw [hu] at h
      simp only [selU] at h
      rw [dropU_spec] at h
      cases hv : mkUs mu i with
      | true => rw [hv] at h; cases h
      | false => rw [hv] at h; exact .inr ⟨rfl, rfl, h⟩
  have plain1 : ∀ {i : Nat} {o : LObj}, mkH o1 i = some o → i ≠ 998 ∧ plainO o := fun {i o} h => by
    clear h' hlk hold hbel hL0 hf hp1 hp2 mb_own own_up notmb cases_of e1 e2
    induction o1 with
    | nil => simp [mkH] at h
    | cons q r ih =>
      obtain ⟨j, x⟩ := q
      simp only [mkH] at h
      rcases upd_some h with ⟨rfl, rfl⟩ | ⟨_, h⟩
      · exact hpl.1
      · exact ih hpl.2 h
  have apart : ∀ {i : Nat} {o : LObj} {g : G} {b : Nat}, mkUs mu i = false → H i = some o → p i = some g → g.own = some b → (mutB S1 w p H mu L0).mb b = false ∧ b < w.heap.size := fun {i o g b} hi ho hg hb => by
    obtain ⟨g', hg', hr⟩ := hh.obj i o ho
    rw [hg] at hg'; cases hg'
    refine ⟨mut_mbF fun ⟨j, hj, gj, oj, hgj, hoj, hbj⟩ => ?_, (hr.lt hb).2⟩
    have := hh.inj i j o oj g gj b ho hoj hg hgj hb hbj
    rw [this, mkUs_mem.2 hj] at hi; cases hi
  have new_own : ∀ {i : Nat} {o : LObj} {g : G} {b : Nat}, mkH o1 i = some o → p' i = some g → g.own = some b → w.heap.size ≤ b ∨ (mutB S1 w p H mu L0).mb b = true := fun {i o g b} ho hg hb => by
    obtain ⟨g', hg', hr⟩ := h'.obj i o ho
    rw [hg] at hg'; cases hg'
    exact (hr.lt hb).1
  refine ⟨p1, ⟨fun i o hi => ?_, fun i j o o' g g' b hi hj hpi hpj hb hb' => ?_, fun i g hg => ?_, h'.ext, fun hit b hb hmb => ?_, Nat.le_trans hh.size hbel.size, fun hit => ?_, fun i ys d st hi => ?_, fun i hi => ?_, fun i ys d st g b hi hpi hb => ?_⟩, hp1, hp2⟩
  · rcases cases_of hi with ⟨hu, ho⟩ | ⟨hu, hv, ho⟩
    · obtain ⟨g, hg, hr⟩ := h'.obj i o ho
      refine ⟨g, by rw [e1 hu]; exact hg, (hr.rebase (plain1 ho).2 (fun b hb => own_up (hr.lt hb).1)).mono (Keep.refl _ _) hp2 (fun _ _ => rfl) (fun _ _ => rfl) (fun ys d st e => by subst e; exact (plain1 ho).2.elim)⟩
    · obtain ⟨g, hg, hr⟩ := hh.obj i o ho
      refine ⟨g, by rw [e2 hu]; exact hg, hr.mono hk hp1 (fun b hb => ?_) (fun b hb => ?_) (fun ys d st e => ?_)⟩
      · obtain ⟨h1, h2⟩ := apart hv ho hg hb
        exact hbel.block b h2 h1
      · obtain ⟨h1, h2⟩ := apart hv ho hg hb
        exact hold b h2 h1
      · subst e
        refine ⟨⟨hbel.os, hbel.tape, hbel.output⟩, hbel.size, h'.ext, fun b hb => ?_⟩
        obtain ⟨h1, h2⟩ := hh.env i ys d st g b ho hg hb
        have h3 : (mutB S1 w p H mu L0).mb b = false := mut_mbF fun ⟨j, hj, gj, oj, hgj, hoj, hbj⟩ => h2 j oj gj hoj hgj hbj
        exact ⟨hbel.block b h1 h3, hold b h1 h3⟩
  · rcases cases_of hi with ⟨hu, ho⟩ | ⟨hu, hv, ho⟩ <;> rcases cases_of hj with ⟨hu', ho'⟩ | ⟨hu', hv', ho'⟩
    · rw [e1 hu] at hpi; rw [e1 hu'] at hpj
      exact h'.inj i j o o' g g' b ho ho' hpi hpj hb hb'
    · rw [e1 hu] at hpi; rw [e2 hu'] at hpj
      obtain ⟨h1, h2⟩ := apart hv' ho' hpj hb'
      rcases new_own ho hpi hb with h | h
      · omega
      · rw [h1] at h; cases h
    · rw [e2 hu] at hpi; rw [e1 hu'] at hpj
      obtain ⟨h1, h2⟩ := apart hv ho hpi hb
      rcases new_own ho' hpj hb' with h | h
      · omega
      · rw [h1] at h; cases h
    · rw [e2 hu] at hpi; rw [e2 hu'] at hpj
      exact hh.inj i j o o' g g' b ho ho' hpi hpj hb hb'
  · rw [(addO_spec (H := H) (U := U) i o1).2]
    cases hu : mkU o1 i with
    | true => rfl
    | false => rw [e2 hu] at hg; rw [hh.use i g hg]; rfl
  · rw [hold b (Nat.lt_of_lt_of_le hb hh.size) (notmb hb hmb)]; exact hh.old hit b hb hmb
  · refine (hh.bel hit).trans ⟨hbel.os, hbel.tape, hbel.output, hbel.size, fun b hb hmb => hbel.block b (Nat.lt_of_lt_of_le hb hh.size) (notmb hb hmb)⟩
  · rcases cases_of hi with ⟨hu, ho⟩ | ⟨hu, hv, ho⟩
    · exact (plain1 ho).2.elim
    · exact hh.yid i ys d st ho
  · rcases cases_of hi with ⟨hu, ho⟩ | ⟨hu, hv, ho⟩
    · exact (plain1 ho).2.elim
    · exact hh.lid i ho
  · rcases cases_of hi with ⟨hu, ho⟩ | ⟨hu, hv, ho⟩
    · exact (plain1 ho).2.elim
    · rw [e2 hu] at hpi
      obtain ⟨h1, h2⟩ := hh.env i ys d st g b ho hpi hb
      refine ⟨Nat.lt_of_lt_of_le h1 hbel.size, fun k o' gk hk' hpk hbk => ?_⟩
      rcases cases_of hk' with ⟨hu', ho'⟩ | ⟨hu', hv', ho'⟩
      · rw [e1 hu'] at hpk
        rcases new_own ho' hpk hbk with h | h
        · omega
        · obtain ⟨j, hj, gj, oj, hgj, hoj, hbj⟩ := mut_mb.1 h
          exact h2 j oj gj hoj hgj hbj
      · rw [e2 hu'] at hpk
        exact h2 k o' gk ho' hpk hbk
theorem callM_sound {dr : Bool} {f : Nat} {all : List D} (h : R B N S p T H U a w) (hN : ∀ i, dst = some i → i < N) {vs : List Value} (ha : RdL S w all p vs)
    (hk : callMK P C dr f (C.mp f) all dst T H U K) {next : Act → World → Prop} {Q : Exit → Act → World → Prop} (hn : ∀ S' p' T' H' U' a' w', K .normal T' H' U' → R B N S' p' T' H' U' a' w' → next a' w')
    (hp : ∀ d v S' p' T' H' U' a' w', K (.pan d) T' H' U' → R B N S' p' T' H' U' a' w' → Rd S' w' d noPl v → Q (.panic (pch v)) a' w') :
    Ent P f ∧ CallsF P f vs.toArray w (After next Q a dst) := by
  cases dr with
  | true => exact hk.elim
  | false =>
    simp only [callMK] at hk
    generalize hms : C.m f (cvm H (C.mp f) 0 all) (frzs H (oths (C.mp f) 0 all)) = ms at hk
    cases ms with
    | bad => exact hk.elim
    | yes pre mu o1 out =>
      obtain ⟨⟨⟨⟨hnew, hst⟩, hpre⟩, ⟨hmu, hraw⟩, hfrs, hpl⟩, hk⟩ := hk
      obtain ⟨hent, hfc⟩ := hst _ _ _ _ _ _ hms hpre
      refine ⟨hent, ?_⟩
      let Hf := frzs H (oths (C.mp f) 0 all)
      have hU : mkU (objs Hf mu) = mkUs mu := funext fun i => (objs_spec hmu i).2
      -- the others are frozen
      have key : ∃ S1, Heap B S1 p Hf U w ∧ Keep S S1 w w ∧ RdF S1 w (cutP p (mkUs mu)) (flg (C.mp f) 0 (cvm H (C.mp f) 0 all)) vs := by
        obtain ⟨us, h1, h3⟩ := rdF_of (H := H) (ps := C.mp f) (pc := cutP p (mkUs mu)) (fun S1 d v hi hd => rd_in d hi hd) 0 all vs ha hraw
        obtain ⟨S1, hh1, hk1, hper⟩ := per_ok h.hp hnew h1
        exact ⟨S1, hh1, hk1, h3 S1 hk1 hper⟩
      obtain ⟨S1, hh1, hk1, hargs⟩ := key
      let L0 := fltU (mkU o1) mu
      have hsub := hh1.sub hmu L0
      rw [hU] at hsub
      refine CallsIn.mono (hfc (mutB S1 w p Hf mu L0) S1 (cutP p (mkUs mu)) w vs rfl rfl rfl (fun _ _ _ h => h) rfl rfl ((LB.lb (P := P) _ _ h.kp).mono hk1) (by rw [idsO_objs hmu]; rfl) (fun i hi => ?_) (by rw [hU]; exact hsub) hargs) fun e w' he => ?_
      · have hi' : i ∈ mu := (fltU_mem.1 hi).1
        obtain ⟨o, ho, _⟩ := muOk_mem hmu hi'
        obtain ⟨g, hg, _⟩ := hh1.obj i o ho
        refine ⟨g, cutP_in (mkUs_mem.2 hi') hg, ?_⟩
        have : (mutB S1 w p Hf mu L0).q i = g := by simp only [mutB, hg, Option.getD_some]
        rw [this]; exact GLe.refl g
      · obtain ⟨S', p', hend, h', hkp, hlk⟩ := he
        obtain ⟨p1, hh', hle, hle'⟩ := hh1.merge hmu hfrs hpl rfl h' hkp hlk
        have hkk : Keep S S' w w' := hk1.trans hkp
        cases out with
        | ret d =>
          cases e with
          | returned v => exact hn _ _ _ _ _ _ _ hk (h.put hkk hle hh' (Rd.mono (Keep.refl _ _) _ hle' hend) hN)
          | panicked ch => exact hend.elim
          | outgrown => exact hend.elim
        | pan d =>
          cases e with
          | returned v => exact hend.elim
          | panicked ch =>
            obtain ⟨v, rfl, hg, hd⟩ := hend
            exact hp d v _ _ _ _ _ _ _ hk (h.put (dst := none) (d := .any) (v := undef) hkk hle hh' (by simp [Rd]) (fun i e => by cases e)) hd
          | outgrown => exact hend.elim
end
end Go.Tn
