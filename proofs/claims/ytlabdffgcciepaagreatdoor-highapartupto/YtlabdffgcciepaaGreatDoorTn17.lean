/- Symbolic data, and what the operations do to it. -/
import Derived.Test.YtlabdffgcciepaaGreatDoorTn16
set_option linter.unusedSimpArgs false
set_option linter.unusedVariables false
set_option linter.unusedSectionVars false
namespace Go.Tn
open Go.RowKit
inductive GV where
  | yes
  | no
  | split (b want : Bool)
  | bad
def isB : Value → Bool | .bool _ => true | _ => false
def gB (d : D) (want : Bool) : GV :=
  match d with
  | .bool b => .split b want
  | .val v => match isB v with | true => .bad | false => .no
  | _ => .bad
def gN (T : Nat → D) (t : Option Nat) (want : Bool) : GV := match t with | some t => gB (T t) want | none => .no
def gvT (ops : Array Oper) (o : Oper) (T : Nat → D) : GV :=
  match o.guard with
  | none => .yes
  | some (g, want) => gN T ((ops[g]?).bind (·.dst)) want
def gK (g : GV) (yes no : Prop) : Prop :=
  match g with
  | .yes => yes
  | .no => no
  | .split b want => (b = want → yes) ∧ (b = !want → no)
  | .bad => False
def okK (dr : Bool) (f c k : Prop) : Prop := match dr with | true => c ∧ k | false => f → (c ∧ k)
theorem okK_of {dr : Bool} {f c k : Prop} (h : okK dr f c k) (hf : f) : c ∧ k := by
  cases dr with
  | true => exact h
  | false => exact h hf
def enQ (fl : Bool) (q k : Prop) : Prop := match fl with | false => k | true => q ∨ k
def yieldO (fl : Bool) (x : Option LObj) (j : Nat) (q : Prop) (args : List D) (dst : Option Nat) (T : Nat → D) (Hf : Hp) (U : Us) (K : Kt) : Prop :=
  match x with
  | some (.yl ys d false) => q ∧ (∃ r, ys = d ++ args :: r) ∧ ∀ b, enQ fl (b = true ∧ ys = d ++ [args] ++ [[]]) (K (putO T dst (.bool b)) (upd Hf j (some (.yl ys (d ++ [args]) (!b)))) U)
  | _ => False
def yieldK (fl dr : Bool) (j : Nat) (args : List D) (dst : Option Nat) (T : Nat → D) (H : Hp) (U : Us) (K : Kt) : Prop :=
  match dr with
  | true => False
  | false => yieldO fl (H j) j (news H args) (cvs H args) dst T (frzs H args) U K
def panR (dr : Bool) (d : D) (T : Nat → D) (H : Hp) (U : Us) (K : X → Kt) : Prop :=
  match dr with
  | true => False
  | false => news H [d] ∧ gnd (cv H 6 d) = true ∧ K (.pan (cv H 6 d)) T H U
def bK (P : Program) [Fen P] (C : Spec) (dr : Bool) (r : Res) (dst : Option Nat) (T : Nat → D) (H : Hp) (U : Us) (K : X → Kt) : Prop :=
  match r with
  | .ok f c d H U => okK dr f c (K .normal (putO T dst d) H U)
  | .call f caps args => callX P C dr (C.mp f) f caps args dst T H U K
  | .yield j args => yieldK (isJ C.js 3999) dr j args dst T H U (K .normal)
  | .panic d => panR dr d T H U K
  | .bad => False
def isFnV : Value → Bool | .func _ _ _ => true | _ => false
def skpD (P : Program) (d : D) : Prop := match d with | .fn g _ _ => (P.funcs[g]?).isSome = true | .val v => isFnV v = false | _ => False
def skp (P : Program) (o : Op) (T : Nat → D) : Prop :=
  match o with
  | .call ⟨.value x, _, _⟩ => skpD P (ev T x)
  | .call ⟨.invoke _ _, _, _⟩ => False
  | _ => True
def step (P : Program) [Fen P] (C : Spec) (dr : Bool) (ops : Array Oper) (o : Oper) (K : X → Kt) : Kt := fun T H U =>
  gK (gvT ops o T) (bK P C dr (resO dr P o.op o.dst T H U) o.dst T H U K) (skp P o.op T ∧ K .normal (putO T o.dst (.val undef)) H U)
def nxt (k : Kt) (K : X → Kt) : X → Kt
  | .normal => k
  | e => K e
def opsK (P : Program) [Fen P] (C : Spec) (dr : Bool) (ops : Array Oper) : List Oper → (X → Kt) → Kt
  | [], K => K .normal
  | o :: os, K => step P C dr ops o (nxt (opsK P C dr ops os K) K)
abbrev Fro (P : Program) [Fen P] (ro : Option Nat) : Fence := { Fx P with round := ro }
section
variable {P : Program} [Fen P] {C : Spec} {B : Base} [LB P B] {N n : Nat} {ro : Option Nat} {dr : Bool} {ops : Array Oper} {S S' : Ex} {p : Pl} {T : Nat → D} {H : Hp} {U : Us} {a : Act} {w w' : World} {dst : Option Nat} {K : X → Kt}
theorem yielded_bool {g t : Nat} (hg : (ops[g]?).bind (·.dst) = some t) (b : Bool) (hv : a.tmps.getD t undef = .bool b) : yielded ops a.tmps g = some b := by
  unfold yielded
  rw [hg]
  simp only [Option.bind_some]
  have : a.tmps[t]? = some (.bool b) := by
    cases h : a.tmps[t]? with
    | none => rw [Array.getD_eq_getD_getElem?, h] at hv; cases hv
    | some v => rw [Array.getD_eq_getD_getElem?, h] at hv; simp at hv; rw [hv]
  rw [this]
theorem yielded_no {g t : Nat} (hg : (ops[g]?).bind (·.dst) = some t) {v : Value} (hb : isB v = false) (hv : a.tmps.getD t undef = v) : yielded ops a.tmps g = none := by
  unfold yielded
  rw [hg]
  simp only [Option.bind_some]
  cases h : a.tmps[t]? with
  | none => rfl
  | some u =>
    rw [Array.getD_eq_getD_getElem?, h] at hv; simp at hv; subst hv
    cases u <;> first | rfl | cases hb
theorem wanted_of (h : R B N S p T H U a w) (o : Oper) {yes no : Prop} (hk : gK (gvT ops o T) yes no) : (Region.wanted o (yielded ops a.tmps) = true ∧ yes) ∨ (Region.wanted o (yielded ops a.tmps) = false ∧ no) := by
  unfold gvT at hk
  unfold Region.wanted
  cases hg : o.guard with
  | none => rw [hg] at hk; exact .inl ⟨rfl, hk⟩
  | some q =>
    obtain ⟨g, want⟩ := q
    rw [hg] at hk
    simp only at hk ⊢
    unfold gN at hk
    cases ht : (ops[g]?).bind (·.dst) with
    | none =>
      rw [ht] at hk
      refine .inr ⟨?_, hk⟩
      have : yielded ops a.tmps g = none := by unfold yielded; rw [ht]; rfl
      rw [this]; rfl
    | some t =>
      rw [ht] at hk
      simp only at hk
      have hr := h.tmp t
      unfold gB at hk
      split at hk
      · rename_i b hd
        rw [hd] at hr
        simp only [Rd] at hr
        rw [yielded_bool ht b hr]
        cases b <;> cases want <;> simp_all [gK]
      · rename_i v hd
        rw [hd] at hr
        simp only [Rd] at hr
        split at hk
        · exact hk.elim
        · rename_i hb
          rw [yielded_no ht hb hr]
          exact .inr ⟨rfl, hk⟩
      · exact hk.elim
theorem room_x (m : Nat) : (Fx P).room m := fun d hd => by cases hd
theorem callsIn_ro {f : FuncId} {args : Array Value} {Q : Ending → World → Prop} (h : CallsF P f args w Q) : CallsIn (Fro P ro) n P f args w Q := ⟨h.1, fun cs _ => h.2 cs (room_x _)⟩
theorem roundIn_ro {l : Nat} {f : FuncId} {tmps : Array Value} {assign body : Code} {Q : Ending → World → Prop} (h : RoundIn (Fx P) 0 P l f tmps assign body w Q) : RoundIn (Fro P ro) n P l f tmps assign body w Q :=
  ⟨h.1, fun c cs _ => h.2 c cs (room_x _)⟩
theorem Heap.envStep (hh : Heap B S p H U w) {j : Nat} {ys d d' : List (List D)} {st st' : Bool} {g : G} (hj : H j = some (.yl ys d st)) (hg : p j = some g) {E' : Nat → Prop}
    (hit : B.it = true) (hys : ys = B.ys) (hl : g.ptr = B.l) (hown : g.own = none) (hJ : B.J d' st' E' S' w') (hk : Keep S S' w w') (hsz : w.heap.size ≤ w'.heap.size) (hext : ∀ b, 0 < S' b → b < w'.heap.size)
    (hout : ∀ b, b < w.heap.size → ¬ g.env b → w'.heap[b]? = w.heap[b]? ∧ S' b = S b) (hE : ∀ b, E' b → b < w'.heap.size ∧ (g.env b ∨ w.heap.size ≤ b)) :
    Heap B S' (upd p j (some { g with env := E' })) (upd H j (some (.yl ys d' st'))) U w' ∧ PlLe p (upd p j (some { g with env := E' })) := by
  have huniq : ∀ i ys d st, H i = some (.yl ys d st) → i = j := fun i ys' d' st' hi => (hh.yid i _ _ _ hi).trans (hh.yid j _ _ _ hj).symm
  have hpl : PlLe p (upd p j (some { g with env := E' })) := fun i gi hi => by
    by_cases e : i = j
    · subst e; rw [hg] at hi; cases hi; exact ⟨_, upd_same _ _ _, rfl, Nat.le_refl _, fun _ => ⟨rfl, rfl⟩⟩
    · exact ⟨gi, by rw [upd_ne _ _ e]; exact hi, rfl, Nat.le_refl _, fun _ => ⟨rfl, rfl⟩⟩
  refine ⟨⟨fun i o hi => ?_, fun i k o o' gi gk b hi hk' hpi hpk ei ek => ?_, fun i gi hi => ?_, hext, (fun h => by rw [hit] at h; cases h), Nat.le_trans hh.size hsz, (fun h => by rw [hit] at h; cases h), fun i ys' d2 st2 hi => ?_, fun i hi => ?_, fun i ys' d2 st2 gi b hi hpi hb => ?_⟩, hpl⟩
  · rcases upd_some hi with ⟨rfl, rfl⟩ | ⟨e, hi'⟩
    · exact ⟨_, upd_same _ _ _, hJ, hown, hl, hys, hit⟩
    · obtain ⟨gi, hgi, hri⟩ := hh.obj i o hi'
      have hnot : ∀ b, gi.own = some b → ¬ g.env b := fun b hb he => (hh.env j ys d st g b hj hg he).2 i o gi hi' hgi hb
      exact ⟨gi, by rw [upd_ne _ _ e]; exact hgi, hri.mono hk hpl (fun b hb => (hout b (hri.lt hb).2 (hnot b hb)).1) (fun b hb => (hout b (hri.lt hb).2 (hnot b hb)).2) (fun ys' d2 st2 ey => absurd (huniq i ys' d2 st2 (ey ▸ hi')) e)⟩
  · have own_of : ∀ {i : Nat} {o : LObj} {gi : G} {b : Nat}, upd H j (some (.yl ys d' st')) i = some o → upd p j (some { g with env := E' }) i = some gi → gi.own = some b → i ≠ j ∧ H i = some o ∧ p i = some gi := fun {i o gi b} hi hpi hb => by
      by_cases e : i = j
      · subst e; rw [upd_same] at hpi; cases hpi; rw [hown] at hb; cases hb
      · rw [upd_ne _ _ e] at hi hpi; exact ⟨e, hi, hpi⟩
    obtain ⟨_, h1, h2⟩ := own_of hi hpi ei
    obtain ⟨_, h3, h4⟩ := own_of hk' hpk ek
    exact hh.inj i k _ _ _ _ b h1 h3 h2 h4 ei ek
  · by_cases e : i = j
    · subst e; exact hh.use i g hg
    · rw [upd_ne _ _ e] at hi; exact hh.use i gi hi
  · rcases upd_some hi with ⟨rfl, _⟩ | ⟨e, hi'⟩
    · exact hh.yid i _ _ _ hj
    · exact hh.yid i _ _ _ hi'
  · rcases upd_some hi with ⟨_, e⟩ | ⟨e, hi'⟩
    · cases e
    · exact hh.lid i hi'
  · rcases upd_some hi with ⟨rfl, _⟩ | ⟨e, hi'⟩
    · rw [upd_same] at hpi; cases hpi
      obtain ⟨h1, h2⟩ := hE b hb
      refine ⟨h1, fun k o gk hk' hpk hb' => ?_⟩
      by_cases e : k = i
      · subst e; rw [upd_same] at hpk; cases hpk; rw [hown] at hb'; cases hb'
      · rw [upd_ne _ _ e] at hk' hpk
        rcases h2 with h2 | h2
        · exact (hh.env i ys d st g b hj hg h2).2 k o gk hk' hpk hb'
        · obtain ⟨g2, hg2, hr2⟩ := hh.obj k o hk'
          rw [hpk] at hg2; cases hg2
          have := (hr2.lt hb').2
          omega
    · exact absurd (huniq i _ _ _ hi') e
theorem about_skip (h : R B N S p T H U a w) (o : Oper) (hs : skp P o.op T) : ∀ f, o.about P w a.eval = some f → (P.funcs[f]?).isSome = true := by
  intro f hf
  obtain ⟨dst, op, type, pos, after, guard⟩ := o
  cases op with
  | call c =>
    obtain ⟨callee, args, tys⟩ := c
    cases callee with
    | value x =>
      simp only [skp] at hs
      have hx := rd_ev h.tmp x
      unfold skpD at hs
      split at hs
      · rename_i g first caps hfn
        rw [hfn] at hx
        simp only [Rd] at hx
        obtain ⟨fs, cs, hv, h1, h2⟩ := hx
        simp only [Oper.about, resolve, hv, Deferred.ofValue, Sem.run_pure, Target.leads, Option.some.injEq] at hf
        subst hf; exact hs
      · rename_i v hfn
        rw [hfn] at hx
        simp only [Rd] at hx
        simp only [Oper.about, resolve, hx] at hf
        cases v <;> simp [Deferred.ofValue, Target.leads, isFnV] at hf hs
      · exact hs.elim
    | builtin b => simp [Oper.about, resolve, Target.leads] at hf
    | invoke r nm => exact hs.elim
  | _ => simp [Oper.about] at hf
theorem callX_ent {f : Nat} {caps args : List D} {dst : Option Nat} (hk : callX P C dr (C.mp f) f caps args dst T H U K) : Ent P f := by
  unfold callX at hk
  split at hk
  · exact (hk.1.2.1 _ _ hk.1.2.2).1
  · unfold callMK at hk
    split at hk
    · exact hk.elim
    · generalize hms : C.m f _ _ = ms at hk
      cases ms with
      | bad => exact hk.elim
      | yes pre mu o1 out => exact (hk.1.1.1.2 _ _ _ _ _ _ hms hk.1.1.2).1
theorem bK_res {o : Op} (hk : bK P C dr (resO dr P o dst T H U) dst T H U K) : (∃ d', bK P C dr (res P o d' T H U) dst T H U K) ∨ ∃ d' r, nvR P o d' T H U = some r ∧ bK P C dr r dst T H U K := by
  rcases resO_or dr P o dst T H U with e | ⟨d', e⟩ | ⟨d', r, h, e⟩
  · rw [e] at hk; exact hk.elim
  · rw [e] at hk; exact .inl ⟨d', hk⟩
  · rw [e] at hk; exact .inr ⟨d', r, h, hk⟩
theorem about_run (h : R B N S p T H U a w) (o : Oper) {dst d' : Option Nat} (hk : bK P C dr (res P o.op d' T H U) dst T H U K) : ∀ f, o.about P w a.eval = some f → (P.funcs[f]?).isSome = true := by
  intro f hf
  obtain ⟨dst2, op, type, pos, after, guard⟩ := o
  cases op with
  | call c =>
    obtain ⟨callee, args, tys⟩ := c
    cases callee with
    | value x =>
      have hx := rd_ev h.tmp x
      simp only [res, callR] at hk
      split at hk
      · rename_i g first caps hfn
        rw [hfn] at hx
        simp only [Rd] at hx
        obtain ⟨fs, cs, hv, h1, h2⟩ := hx
        simp only [Oper.about, resolve, hv, Deferred.ofValue, Sem.run_pure, Target.leads, Option.some.injEq] at hf
        subst hf
        exact (callX_ent hk).fn
      · rename_i j hfn
        rw [hfn] at hx
        simp only [Rd] at hx
        obtain ⟨g, hg, hv⟩ := hx
        simp [Oper.about, resolve, hv, Deferred.ofValue, Target.leads] at hf
      · exact hk.elim
    | builtin b => simp [Oper.about, resolve, Target.leads] at hf
    | invoke r nm =>
      have hx := rd_ev h.tmp r
      simp only [res, invR] at hk
      split at hk
      · rename_i t d hr
        rw [hr] at hx
        simp only [Rd] at hx
        obtain ⟨u, hv, hu⟩ := hx
        split at hk
        · rename_i g hm
          have hk2 : P.types.size + Made.depth = (P.types.size + 99) + 1 := rfl
          have h0 : (#[Value.iface t u] ++ args.map a.eval)[0]? = some (.iface t u) := by
            rw [Array.getElem?_append_left (by simp)]; rfl
          simp only [Oper.about, resolve, hv, Sem.run_pure, Target.leads, hk2, h0, run_mth hm, Option.some.injEq] at hf
          subst hf
          exact (callX_ent hk).fn
        · exact hk.elim
      · exact hk.elim
  | _ => simp [Oper.about] at hf
theorem op_sound (hJ : B.it = true → JStep P B) (h : R B N S p T H U a w) (o : Oper) (hN : ∀ i, o.dst = some i → i < N) (hk : step P C dr ops o K T H U) {next : Act → World → Prop} {Q : Exit → Act → World → Prop}
    (hn : ∀ S' p' T' H' U' a' w', K .normal T' H' U' → R B N S' p' T' H' U' a' w' → next a' w')
    (hp : ∀ d v S' p' T' H' U' a' w', K (.pan d) T' H' U' → R B N S' p' T' H' U' a' w' → Rd S' w' d noPl v → Q (.panic (pch v)) a' w')
    (hy : ∀ ch S' a' w', B.Jp ch S' w' → a'.defers = [] → Q (.panic ch) a' w') (hnm : B.it = true → B.nm = true := by assumption) :
    if Region.wanted o (yielded ops a.tmps) = true then o.wpIn (Fro P ro) n P a w next Q else (∀ f, o.about P w a.eval = some f → (Fro P ro).fn f) ∧ next (a.put o.dst undef) w := by
  rcases wanted_of h o hk with ⟨hw, hk⟩ | ⟨hw, hk⟩
  · rw [if_pos hw]
    rcases bK_res hk with ⟨d', hk⟩ | ⟨d', r, hr, hk⟩
    rotate_left
    · obtain ⟨hg, hok, hcl⟩ := nv_good h o d' hr
      have hsem : Oper.semAt (Fro P ro).round a.eval o = execOp a.eval o :=
        Oper.semAt_eq _ _ _ (fun c hc => by rw [hc] at hr; cases hr)
      refine ⟨fun f hf => ?_, ?_⟩
      · exfalso
        cases hop : o.op with
        | call c =>
          obtain ⟨b, hb⟩ := hcl c hop
          obtain ⟨callee, args, tys⟩ := c
          simp only at hb; subst hb
          obtain ⟨dst2, op, type, pos, after, guard⟩ := o
          simp only at hop; subst hop
          simp [Oper.about, resolve, Target.leads] at hf
        | _ =>
          obtain ⟨dst2, op, type, pos, after, guard⟩ := o
          simp only at hop; subst hop
          simp [Oper.about] at hf
      rw [hsem]
      cases r with
      | ok f c d H' U' =>
        obtain ⟨hc, hk⟩ := okK_of hk hg.1
        obtain ⟨v, w', S', p', hrun, hd, hh, hkp, hpl⟩ := hg.2 hc
        have hR := h.put hkp hpl hh hd hN
        rcases hrun with hrun | ⟨hrun, rfl⟩
        · rw [hrun]; exact hn _ _ _ _ _ _ _ hk hR
        · rw [hrun]; exact hn _ _ _ _ _ _ _ hk hR
      | bad => exact hk.elim
      | call _ _ _ => exact hok.elim
      | yield _ _ => exact hok.elim
      | panic _ => exact hok.elim
    have hg := res_good (P := P) h o d'
    have hsem : Oper.semAt (Fro P ro).round a.eval o = execOp a.eval o :=
      Oper.semAt_eq _ _ _ (fun c hc => by
        rw [hc] at hk
        exact hk)
    refine ⟨fun f hf => ?_, ?_⟩
    · exact fun _ => about_run h o hk f hf
    rw [hsem]
    cases hres : res P o.op d' T H U with
    | ok f c d H' U' =>
      rw [hres] at hk hg
      obtain ⟨hc, hk⟩ := okK_of hk hg.1
      obtain ⟨v, w', S', p', hrun, hd, hh, hkp, hpl⟩ := hg.2 hc
      have hR := h.put hkp hpl hh hd hN
      rcases hrun with hrun | ⟨hrun, rfl⟩
      · rw [hrun]; exact hn _ _ _ _ _ _ _ hk hR
      · rw [hrun]; exact hn _ _ _ _ _ _ _ hk hR
    | call f caps args =>
      rw [hres] at hk hg
      obtain ⟨cs, vs, h1, h2, h3⟩ := hg
      simp only [bK] at hk
      have hcall : Ent P f ∧ CallsF P f (vs ++ cs).toArray w (After next Q a o.dst) := by
        unfold callX at hk
        split at hk
        · exact call_sound h hN h1 h2 hk hn hp
        · exact callM_sound h hN (rdL_append h2 h1) hk hn hp
      obtain ⟨hent, hcall⟩ := hcall
      rw [h3 hent]
      refine ⟨(fun e => by cases e), callsIn_ro (CallsIn.mono hcall fun e w' he => ?_)⟩
      cases e <;> exact he
    | yield j args =>
      rw [hres] at hk hg
      obtain ⟨g, vs, hpj, hargs, hrun⟩ := hg
      cases dr with
      | true => exact hk.elim
      | false =>
        simp only [bK, yieldK] at hk
        unfold yieldO at hk
        split at hk
        · rename_i ys d hj
          obtain ⟨hnew, hpre, hk⟩ := hk
          obtain ⟨S1, hh1, hk1, hper⟩ := per_ok h.hp hnew hargs
          obtain ⟨g', hg', hJd, hown, hl, hys, hit⟩ := h.hp.obj j _ hj
          rw [hpj] at hg'; cases hg'
          have hj1 : frzs H args j = some (.yl ys d false) := frzs_yl h.hp hnew hargs hj
          obtain ⟨g2, hg2, hJ1, _⟩ := hh1.obj j _ hj1
          rw [hpj] at hg2; cases hg2
          obtain ⟨f, tmps, assign, body, hyl, hround⟩ := (hJ hit).step d (cvs H args) g.env S1 w vs hJ1 (hys ▸ hpre) hper hh1.ext (fun b hb => (hh1.env j _ _ _ g b hj1 hpj hb).1)
          rw [hrun, hl, hyl]
          refine ⟨(fun e => by cases e), roundIn_ro (hround.mono fun e w' he => ?_)⟩
          rcases he with ⟨b, S', E', rfl, hJ', hkp, hsz, hext, hout, hE⟩ | ⟨ch, S', rfl, hJp⟩
          · obtain ⟨hh2, hpl⟩ := hh1.envStep hj1 hpj hit hys hl hown hJ' hkp hsz hext hout hE
            have hkb := hk b
            unfold enQ at hkb
            have hkb' : K .normal (putO T o.dst (.bool b)) (upd (frzs H args) j (some (.yl ys (d ++ [cvs H args]) (!b)))) U := by
              split at hkb
              · exact hkb
              · rcases hkb with ⟨rfl, he⟩ | hkb
                · refine ((hJ hit).en ?_ E' S' w' ?_).elim
                  · rw [← hys, he]; simp [endY]
                  · rw [← hys, he, List.dropLast_concat]; exact hJ'
                · exact hkb
            exact hn _ _ _ _ _ _ _ hkb' (h.put (hk1.trans hkp) hpl hh2 (by simp only [Rd]) hN)
          · exact hy ch S' a w' hJp (h.dfs.2 (hnm hit))
        · exact hk.elim
    | panic d =>
      rw [hres] at hk hg
      obtain ⟨v, hd, hrun⟩ := hg
      cases dr with
      | true => exact hk.elim
      | false =>
        obtain ⟨hnew, hgd, hk⟩ := hk
        rw [hrun]
        obtain ⟨S1, _, _, hper⟩ := per_ok h.hp hnew (ds := [d]) ⟨v, [], rfl, hd, rfl⟩
        obtain ⟨v', r', e, h1, _⟩ := hper
        cases e
        exact hp _ v S p T H U a w hk h (gnd_rd _ hgd h1)
    | bad => rw [hres] at hk; exact hk.elim
  · rw [if_neg (by rw [hw]; simp)]
    refine ⟨fun f hf _ => about_skip h o hk.1 f hf, hn S p _ _ _ _ _ hk.2 ?_⟩
    exact h.put (Keep.refl _ _) (PlLe.refl _) h.hp (by simp [Rd]) hN
theorem ops_sound (hJ : B.it = true → JStep P B) (hnm : B.it = true → B.nm = true) {Q : Exit → Act → World → Prop} (hy : ∀ ch S' a' w', B.Jp ch S' w' → a'.defers = [] → Q (.panic ch) a' w') : ∀ (is : List Nat) (os : List Oper) {S : Ex} {p : Pl} {T : Nat → D} {H : Hp} {U : Us} {a : Act} {w : World},
    (is.map fun i => ops[i]?) = os.map some → (∀ o ∈ os, ∀ i, o.dst = some i → i < N) → opsK P C dr ops os K T H U → R B N S p T H U a w →
    (∀ S' p' T' H' U' a' w', K .normal T' H' U' → R B N S' p' T' H' U' a' w' → Q .normal a' w') →
    (∀ d v S' p' T' H' U' a' w', K (.pan d) T' H' U' → R B N S' p' T' H' U' a' w' → Rd S' w' d noPl v → Q (.panic (pch v)) a' w') → wpOpsIn (Fro P ro) n P ops Q is a w
  | [], [], _, _, _, _, _, _, _, _, _, hk, hR, hQ, _ => hQ _ _ _ _ _ _ _ hk hR
  | [], _ :: _, _, _, _, _, _, _, _, hl, _, _, _, _, _ => by simp at hl
  | _ :: _, [], _, _, _, _, _, _, _, hl, _, _, _, _, _ => by simp at hl
  | i :: is, o :: os, _, _, _, _, _, _, _, hl, hN, hk, hR, hQ, hp => by
    simp only [List.map_cons, List.cons.injEq] at hl
    simp only [wpOpsIn, hl.1]
    exact op_sound hJ hR o (hN o (by simp)) hk (fun S' p' T' H' U' a' w' hk' hR' => ops_sound hJ hnm hy is os hl.2 (fun o ho => hN o (by simp [ho])) hk' hR' hQ hp) hp hy
end
end Go.Tn
