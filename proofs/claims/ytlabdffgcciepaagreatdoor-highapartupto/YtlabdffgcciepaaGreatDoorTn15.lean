/- Symbolic data, and what the operations do to it. -/
import Derived.Test.YtlabdffgcciepaaGreatDoorTh
set_option linter.unusedSimpArgs false
set_option linter.unusedVariables false
set_option linter.unusedSectionVars false
namespace Go.Tn
open Go.RowKit
abbrev Kt := (Nat → D) → Hp → Us → Prop
inductive X where
  | normal
  | exit (id : Nat)
  | goto (l : Nat)
  | ret
  | pan (d : D)
inductive MOut where
  | ret (d : D)
  | pan (d : D)
inductive MS where
  | bad
  | yes (pre : Prop) (mu : List Nat) (o1 : List (Nat × LObj)) (out : MOut)
structure Spec where
  c : Nat → List D → List D → Prop × Out
  mp : Nat → List Nat
  m : Nat → List D → Hp → MS
  js : List Nat
def St (P : Program) [Fen P] (C : Spec) (f : Nat) : Prop := ∀ caps args, (C.c f caps args).1 → FC P f caps args (C.c f caps args).2
def retK (dr ok : Bool) (d : D) (dst : Option Nat) (T : Nat → D) (H Hf : Hp) (U : Us) (K : Kt) : Prop :=
  match ok, dr with
  | true, _ => K (putO T dst d) H U
  | false, false => K (putO T dst d) Hf U
  | false, true => False
def newK (ok : Bool) (e sz : Nat) (rows : List (List D)) (i : Nat) (T : Nat → D) (H Hf : Hp) (U : Us) (K : Kt) : Prop :=
  match ok with
  | true => K (upd T i (.vec i rows.length)) (upd H i (some (.vec e sz rows 0))) (upd U i true)
  | false => K (upd T i (.vec i rows.length)) (upd Hf i (some (.vec e sz rows 0))) (upd U i true)
def ownK (dr ok : Bool) (e sz : Nat) (rows : List (List D)) (dst : Option Nat) (T : Nat → D) (H Hf : Hp) (U : Us) (K : Kt) : Prop :=
  match dr, dst with
  | true, dst => ok = true ∧ K (putO T dst (.sl sz rows)) H U
  | false, some i => U i = false ∧ newK ok e sz rows i T H Hf U K
  | false, none => False
def panK (dr : Bool) (d : D) (T : Nat → D) (H : Hp) (U : Us) (K : X → Kt) : Prop :=
  match dr with
  | true => False
  | false => gnd d = true ∧ K (.pan d) T H U
def gndR (rows : List (List D)) : Bool := gndL rows.flatten
def isNil {α : Type} : List α → Bool | [] => true | _ => false
def gndO : Out → Bool | .ret d => gnd d | .own _ _ rows => gndR rows | .seq _ => false | .pan d => gnd d
def outK (dr ok : Bool) (o : Out) (dst : Option Nat) (T : Nat → D) (H Hf : Hp) (U : Us) (K : X → Kt) : Prop :=
  match o with
  | .ret d => retK dr ok d dst T H Hf U (K .normal)
  | .own e sz rows => ownK dr ok e sz rows dst T H Hf U (K .normal)
  | .seq _ => False
  | .pan d => panK dr d T H U K
def callK (P : Program) [Fen P] (C : Spec) (dr : Bool) (f : Nat) (caps args : List D) (dst : Option Nat) (T : Nat → D) (H : Hp) (U : Us) (K : X → Kt) : Prop :=
  (news H (args ++ caps) ∧ St P C f ∧ (C.c f (cvs H caps) (cvs H args)).1) ∧
    outK dr (isNil (rfs H (args ++ caps)) || gndO (C.c f (cvs H caps) (cvs H args)).2) (C.c f (cvs H caps) (cvs H args)).2 dst T H (frzs H (args ++ caps)) U K
section
variable {P : Program} [Fen P] {C : Spec} {m : Nat} {v : Value} {B : Base} [LB P B] {N : Nat} {S S' : Ex} {p : Pl} {T : Nat → D} {H : Hp} {U : Us} {a : Act} {w w' : World} {dst : Option Nat} {K : X → Kt}
theorem ownsRow_weak {n0 n1 e sz : Nat} {v : Value} {n : Nat} {xs : List Value} (h : w.ownsRow n1 e sz v n xs) (hn : n0 ≤ n1) : w.ownsRow n0 e sz v n xs := by
  obtain ⟨h1, h2⟩ := h
  refine ⟨h1, ?_⟩
  rcases h2 with h2 | ⟨g, cap, cur, hv, hg, r⟩
  · exact .inl h2
  · exact .inr ⟨g, cap, cur, hv, by omega, r⟩
theorem Heap.new2 (h : Heap B S p H U w) (hw : Below w.heap.size w w') (hs : ∀ b, b < w.heap.size → S' b = S b) (he : ∀ b, 0 < S' b → b < w'.heap.size)
    {i : Nat} {g : G} {o : LObj} (hU : U i = false) (hg : ∀ b, g.own = some b → w.heap.size ≤ b) (hr : ObjRel B S' noPl w' g o) (hy : ∀ ys d st, o ≠ .yl ys d st) (hz : o ≠ .lrec) :
    Heap B S' (upd p i (some g)) (upd H i (some o)) (upd U i true) w' ∧ Keep S S' w w' ∧ PlLe p (upd p i (some g)) := by
  obtain ⟨hh, hk⟩ := h.grow hw hs he
  have hpi : p i = none := by
    cases hp : p i with
    | none => rfl
    | some g' => rw [h.use i g' hp] at hU; cases hU
  have hpl : PlLe p (upd p i (some g)) := fun j gj hj => ⟨gj, by rw [upd_ne _ _ (fun e => by rw [e, hpi] at hj; cases hj)]; exact hj, rfl, Nat.le_refl _, fun _ => ⟨rfl, rfl⟩⟩
  have low : ∀ {x : Nat} {ox : LObj} {gx : G} {b : Nat}, H x = some ox → p x = some gx → gx.own = some b → b < w.heap.size := fun {x ox gx b} hx hg' hb => by
    obtain ⟨g2, hg2, hr2⟩ := h.obj x ox hx
    rw [hg'] at hg2; cases hg2; exact (hr2.lt hb).2
  refine ⟨⟨fun j oj hj => ?_, fun j k oj ok gj gk b hj hk' hpj hpk ej ek => ?_, fun j gj hj => ?_, hh.ext, hh.old, hh.size, hh.bel, fun j ys d st hj => ?_, fun j hj => ?_, fun j ys d st gj b hj hpj hb => ?_⟩, hk, hpl⟩
  · rcases upd_some hj with ⟨rfl, rfl⟩ | ⟨e, hj'⟩
    · exact ⟨g, upd_same _ _ _, hr.mono (Keep.refl _ _) (PlLe.none _) (fun _ _ => rfl) (fun _ _ => rfl) (fun ys d st e => absurd e (hy ys d st))⟩
    · obtain ⟨gj, hgj, hrj⟩ := hh.obj j oj hj'
      exact ⟨gj, by rw [upd_ne _ _ e]; exact hgj, hrj.mono (Keep.refl _ _) hpl (fun b eb => rfl) (fun _ _ => rfl) (fun _ _ _ _ => ⟨⟨rfl, rfl, rfl⟩, Nat.le_refl _, hh.ext, fun _ _ => ⟨rfl, rfl⟩⟩)⟩
  · rcases upd_some hj with ⟨rfl, rfl⟩ | ⟨e1, hj'⟩ <;> rcases upd_some hk' with ⟨rfl, rfl⟩ | ⟨e2, hk''⟩
    · rfl
    · rw [upd_same] at hpj; cases hpj
      rw [upd_ne _ _ e2] at hpk
      have := low hk'' hpk ek
      have := hg b ej
      omega
    · rw [upd_same] at hpk; cases hpk
      rw [upd_ne _ _ e1] at hpj
      have := low hj' hpj ej
      have := hg b ek
      omega
    · rw [upd_ne _ _ e1] at hpj
      rw [upd_ne _ _ e2] at hpk
      exact h.inj j k oj ok gj gk b hj' hk'' hpj hpk ej ek
  · by_cases e : j = i
    · subst e; exact upd_same _ _ _
    · rw [upd_ne _ _ e] at hj ⊢; exact h.use j gj hj
  · rcases upd_some hj with ⟨rfl, e⟩ | ⟨e, hj'⟩
    · exact absurd e.symm (hy ys d st)
    · exact h.yid j ys d st hj'
  · rcases upd_some hj with ⟨rfl, e⟩ | ⟨e, hj'⟩
    · exact absurd e.symm hz
    · exact h.lid j hj'
  · rcases upd_some hj with ⟨rfl, e⟩ | ⟨e, hj'⟩
    · exact absurd e.symm (hy ys d st)
    · rw [upd_ne _ _ e] at hpj
      obtain ⟨e1, e2⟩ := h.env j ys d st gj b hj' hpj hb
      refine ⟨Nat.lt_of_lt_of_le e1 hw.size, fun k ok gk hk' hpk ek => ?_⟩
      rcases upd_some hk' with ⟨rfl, rfl⟩ | ⟨e3, hk''⟩
      · rw [upd_same] at hpk; cases hpk
        have := hg b ek
        omega
      · rw [upd_ne _ _ e3] at hpk
        exact e2 k ok gk hk'' hpk ek
theorem own_new {n e sz : Nat} {v : Value} {xs : List Value} (h : w.ownsRow n e sz v m xs) : ∀ b, v.ownBlock = some b → n ≤ b ∧ b < w.heap.size := fun b hb => h.lt b hb
theorem fin_ret (h : R B N S p T H U a w) (hN : ∀ i, dst = some i → i < N) (hw : Below w.heap.size w w') (hs : ∀ b, b < w.heap.size → S' b = S b) (he : ∀ b, 0 < S' b → b < w'.heap.size)
    {d : D} {v : Value} (ho : Rd S' w' d noPl v) : R B N S' p (putO T dst d) H U (a.put dst v) w' := by
  obtain ⟨hh, hk⟩ := h.hp.grow hw hs he
  exact h.put hk (PlLe.refl _) hh (Rd.mono (Keep.refl _ _) _ (PlLe.none _) ho) hN
theorem fin_sl (h : R B N S p T H U a w) (hN : ∀ i, dst = some i → i < N) (hw : Below w.heap.size w w') (hs : ∀ b, b < w.heap.size → S' b = S b) (he : ∀ b, 0 < S' b → b < w'.heap.size)
    {e sz : Nat} {rows : List (List D)} {v : Value} (ho : OutRd w.heap.size S' w' (.own e sz rows) v) : ∃ S3, R B N S3 p (putO T dst (.sl sz rows)) H U (a.put dst v) w' := by
  obtain ⟨xs, h1, h2, h3, h4, h5, h6⟩ := ho
  classical
  have hxl := rdL_len h4
  have hfl := flatten_len h3
  let S3 : Ex := fun b => if v.ownBlock = some b then rows.length * sz else S' b
  have hlt := own_new h1
  have hk3 : Keep S' S3 w' w' := ⟨fun b => by simp only [S3]; split <;> first | exact Nat.le_refl _ | (rename_i hb; rw [h6 b hb]; exact Nat.zero_le _), fun _ _ _ _ h => h, fun _ _ _ _ h => h, fun _ _ h => h, fun _ _ _ _ _ _ => rfl⟩
  refine ⟨S3, fin_ret h hN hw (fun b hb => ?_) (fun b hb => ?_) ?_⟩
  · simp only [S3]; rw [if_neg (fun e => by have := (hlt b e).1; omega)]; exact hs b hb
  · simp only [S3] at hb
    split at hb
    · rename_i e; exact (hlt b e).2
    · exact he b hb
  · simp only [Rd]
    rcases h1.2 with ⟨e1, e0⟩ | ⟨gb, cap, cu, e1, hgb, hhb, hnc, _⟩
    · exact ⟨none, 0, by rw [e1, e0], by omega, h2, h3, .inl (List.length_eq_zero_iff.1 e0)⟩
    · refine ⟨_, cap, e1, hnc, h2, h3, .inr ⟨gb, 0, rfl, rdRows_of_flat ?_⟩⟩
      refine rdAt_mk (RdL.mono hk3 _ (PlLe.refl _) h4) h5 (fun j u hj => ⟨by rw [Nat.zero_add]; exact owns_cell h1 (by rw [e1]; rfl) j u hj, ?_⟩)
      have := (List.getElem?_eq_some_iff.1 hj).1
      simp only [S3, e1, Value.ownBlock, if_true]
      omega
theorem fin_own (h : R B N S p T H U a w) {i : Nat} (hN : i < N) (hw : Below w.heap.size w w') (hs : ∀ b, b < w.heap.size → S' b = S b) (he : ∀ b, 0 < S' b → b < w'.heap.size)
    {e sz : Nat} {rows : List (List D)} {v : Value} (hU : U i = false) (ho : OutRd w.heap.size S' w' (.own e sz rows) v) :
    ∃ p3, R B N S' p3 (upd T i (.vec i rows.length)) (upd H i (some (.vec e sz rows 0))) (upd U i true) (a.put (some i) v) w' := by
  obtain ⟨xs, h1, h2, h3, h4, h5, h6⟩ := ho
  obtain ⟨hh, hk, hp⟩ := h.hp.new2 hw hs he (i := i) (g := ⟨0, v.ownBlock, rows.length, v, fun _ => False⟩) (o := .vec e sz rows 0) hU (fun b hb => (own_new h1 b hb).1)
    ⟨xs, ⟨ownsRow_weak h1 (Nat.zero_le _), fun b hb => .inl (Nat.le_trans h.hp.size (own_new h1 b hb).1)⟩, rfl, rfl, h2, h3, h4, h5, fun b hb => by rw [h6 b hb]; exact Nat.zero_le _, Nat.zero_le _⟩ (fun _ _ _ e => by cases e) (fun e => by cases e)
  refine ⟨_, h.put (dst := some i) hk hp hh ?_ (fun j e => by cases e; exact hN)⟩
  simp only [Rd]
  refine ⟨_, upd_same _ _ _, Nat.le_refl _, ?_, fun _ => rfl⟩
  rcases h1.2 with ⟨e, _⟩ | ⟨_, _, _, e, _⟩ <;> rw [e] <;> rfl
theorem outRd_gnd {n0 : Nat} {o : Out} {v : Value} (h : OutRd n0 S w o v) (hg : gndO o = true)
    (hS' : ∀ b, n0 ≤ b → S' b = 0) : OutRd n0 S' w o v := by
  cases o with
  | ret d => exact gnd_rd d hg h
  | own e sz rows =>
    obtain ⟨xs, h1, h2, h3, h4, h5, h6⟩ := h
    exact ⟨xs, h1, h2, h3, gndL_rd _ hg h4, h5, fun b hb => hS' b (own_new h1 b hb).1⟩
  | seq _ => exact h.elim
  | pan _ => exact h.elim
theorem fin_out {dr ok : Bool} {o : Out} {Hf : Hp} {S1 : Ex} (hN : ∀ i, dst = some i → i < N)
    (h : ok = true → ∃ S0 S2, R B N S0 p T H U a w ∧ (∀ b, b < w.heap.size → S2 b = S0 b) ∧ (∀ b, 0 < S2 b → b < w'.heap.size) ∧ OutRd w.heap.size S2 w' o v)
    (hf : ok = false → R B N S1 p T Hf U a w) (hw : Below w.heap.size w w') (hs : ok = false → ∀ b, b < w.heap.size → S' b = S1 b) (he : ∀ b, 0 < S' b → b < w'.heap.size) (ho : OutRd w.heap.size S' w' o v)
    (hk : outK dr ok o dst T H Hf U K) :
    ∃ S' p' T' H' U', K .normal T' H' U' ∧ R B N S' p' T' H' U' (a.put dst v) w' := by
  cases o with
  | ret d =>
    simp only [outK] at hk
    cases ok with
    | true =>
      obtain ⟨S0, S2, h1, h2, h3, h4⟩ := h rfl
      exact ⟨S2, p, _, _, _, by simpa only [retK] using hk, fin_ret h1 hN hw h2 h3 h4⟩
    | false =>
      cases dr with
      | true => exact hk.elim
      | false => exact ⟨S', p, _, _, _, by simpa only [retK] using hk, fin_ret (hf rfl) hN hw (hs rfl) he ho⟩
  | own e sz rows =>
    simp only [outK] at hk
    cases dr with
    | true =>
      obtain ⟨rfl, hk⟩ := hk
      obtain ⟨S0, S2, h1, h2, h3, h4⟩ := h rfl
      obtain ⟨S3, h5⟩ := fin_sl (dst := dst) h1 hN hw h2 h3 h4
      exact ⟨S3, p, _, _, _, hk, h5⟩
    | false =>
      cases dst with
      | none => exact hk.elim
      | some i =>
        obtain ⟨hU, hk⟩ := hk
        cases ok with
        | true =>
          obtain ⟨S0, S2, h1, h2, h3, h4⟩ := h rfl
          obtain ⟨p3, h5⟩ := fin_own h1 (hN i rfl) hw h2 h3 hU h4
          exact ⟨S2, p3, _, _, _, by simpa only [newK] using hk, h5⟩
        | false =>
          obtain ⟨p3, h5⟩ := fin_own (hf rfl) (hN i rfl) hw (hs rfl) he hU ho
          exact ⟨S', p3, _, _, _, by simpa only [newK] using hk, h5⟩
  | seq _ => exact hk.elim
  | pan _ => exact ho.elim
theorem fin_pan (h : R B N S p T H U a w) (hw : Below w.heap.size w w') : R B N (fun b => if b < w.heap.size then S b else 0) p T H U a w' := by
  obtain ⟨hh, hk⟩ := h.hp.grow (S' := fun b => if b < w.heap.size then S b else 0) hw (fun b hb => by simp only [hb, if_true]) (fun b hb => by
    by_cases hlt : b < w.heap.size
    · exact Nat.lt_of_lt_of_le hlt hw.size
    · simp only [hlt, if_false] at hb; omega)
  exact ⟨fun t => Rd.mono hk _ (PlLe.refl _) (h.tmp t), h.size, hh, h.dfs.mono hk, B.Kpok _ _ _ _ h.kp hk, h.lk⟩
def After (next : Act → World → Prop) (Q : Exit → Act → World → Prop) (a : Act) (dst : Option Nat) : Ending → World → Prop
  | .returned v, w' => next (a.put dst v) w'
  | .panicked ch, w' => Q (.panic ch) a w'
  | .outgrown, _ => LetsOut Q
theorem call_sound {dr : Bool} {f : Nat} {caps args : List D} (h : R B N S p T H U a w) (hN : ∀ i, dst = some i → i < N) {cs vs : List Value} (hc : RdL S w caps p cs) (ha : RdL S w args p vs)
    (hk : callK P C dr f caps args dst T H U K) {next : Act → World → Prop} {Q : Exit → Act → World → Prop} (hn : ∀ S' p' T' H' U' a' w', K .normal T' H' U' → R B N S' p' T' H' U' a' w' → next a' w')
    (hp : ∀ d v S' p' T' H' U' a' w', K (.pan d) T' H' U' → R B N S' p' T' H' U' a' w' → Rd S' w' d noPl v → Q (.panic (pch v)) a' w') :
    Ent P f ∧ CallsF P f (vs ++ cs).toArray w (After next Q a dst) := by
  obtain ⟨⟨hnew, hst, hpre⟩, hk⟩ := hk
  obtain ⟨hent, hfc0⟩ := hst _ _ hpre
  refine ⟨hent, ?_⟩
  have hfc : ∀ (S : Ex) (w : World) (cs vs : List Value), Laid P S w → (∀ b, 0 < S b → b < w.heap.size) → RdL S w (cvs H caps) noPl cs → RdL S w (cvs H args) noPl vs →
      CallsF P f (vs ++ cs).toArray w fun e w' => ∃ S', Below w.heap.size w w' ∧ (∀ b, b < w.heap.size → S' b = S b) ∧ (∀ b, 0 < S' b → b < w'.heap.size) ∧
        EndRd w.heap.size S' w' (C.c f (cvs H caps) (cvs H args)).2 e := by
    revert hfc0 hk
    cases (C.c f (cvs H caps) (cvs H args)).2 with
    | ret d => intro _ h; exact h
    | own e sz rows => intro _ h; exact h
    | seq ys => intro h _; exact h.elim
    | pan d => intro _ h; exact h
  have panic : ∀ {w' : World} {S' : Ex} {ch : List PanicEntry}, Below w.heap.size w w' → PanRd S' w' (C.c f (cvs H caps) (cvs H args)).2 ch → Q (.panic ch) a w' := fun {w' S' ch} hw ho => by
    cases hout : (C.c f (cvs H caps) (cvs H args)).2 with
    | pan d =>
      rw [hout] at hk ho
      obtain ⟨v, rfl, hg, hd⟩ := ho
      simp only [outK] at hk
      cases dr with
      | true => exact hk.elim
      | false => exact hp d v _ p T H U a w' hk.2 (fin_pan h hw) (gnd_rd d hg hd)
    | _ => rw [hout] at ho; exact ho.elim
  have hboth := rdL_append ha hc
  cases hr : isNil (rfs H (args ++ caps)) with
  | true =>
    have hnil : rfs H (args ++ caps) = [] := by
      cases hx : rfs H (args ++ caps) with
      | nil => rfl
      | cons _ _ => rw [hx] at hr; cases hr
    have hper := per_none h.hp hnew hboth hnil
    obtain ⟨h1, h2⟩ := rdL_cut ha hc _ hper rfl
    refine CallsIn.mono (hfc S w cs vs (LB.lb _ _ h.kp) h.hp.ext h2 h1) fun e w' he => ?_
    obtain ⟨S', hw, hs, hx, ho⟩ := he
    cases e with
    | outgrown => exact ho.elim
    | panicked ch => exact panic hw ho
    | returned v =>
      rw [hr] at hk
      obtain ⟨S3, p3, T3, H3, U3, k3, r3⟩ := fin_out (dr := dr) (ok := true) (S' := S') (S1 := S) (K := K) (Hf := frzs H (args ++ caps)) hN (fun _ => ⟨S, S', h, hs, hx, ho⟩) (fun e => by cases e) hw (fun e => by cases e) hx ho (by
        rwa [Bool.true_or] at hk)
      exact hn _ _ _ _ _ _ _ k3 r3
  | false =>
    obtain ⟨S1, hh1, hk1, hper⟩ := per_ok h.hp hnew hboth
    obtain ⟨h1, h2⟩ := rdL_cut ha hc _ hper rfl
    refine CallsIn.mono (hfc S1 w cs vs ((LB.lb (P := P) _ _ h.kp).mono hk1) hh1.ext h2 h1) fun e w' he => ?_
    obtain ⟨S', hw, hs, hx, ho⟩ := he
    cases e with
    | outgrown => exact ho.elim
    | panicked ch => exact panic hw ho
    | returned v =>
      rw [hr] at hk
      have hR1 : R B N S1 p T (frzs H (args ++ caps)) U a w := ⟨fun t => Rd.mono hk1 _ (PlLe.refl _) (h.tmp t), h.size, hh1, h.dfs.mono hk1, B.Kpok _ _ _ _ h.kp hk1, h.lk⟩
      obtain ⟨S3, p3, T3, H3, U3, k3, r3⟩ := fin_out (dr := dr) (ok := gndO (C.c f (cvs H caps) (cvs H args)).2) (S' := S') (S1 := S1) (K := K) (Hf := frzs H (args ++ caps)) hN
        (fun hg => ⟨S, fun b => if b < w.heap.size then S b else 0, h, fun b hb => by simp only [hb, if_true], fun b hb => by
          by_cases hlt : b < w.heap.size
          · exact Nat.lt_of_lt_of_le hlt hw.size
          · simp only [hlt, if_false] at hb; omega, outRd_gnd ho hg (fun b hb => by simp only [show ¬ b < w.heap.size from by omega, if_false])⟩)
        (fun _ => hR1) hw (fun _ => hs) hx ho (by
          rwa [Bool.false_or] at hk)
      exact hn _ _ _ _ _ _ _ k3 r3
end
end Go.Tn
