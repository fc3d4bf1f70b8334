/- Symbolic data, and what the operations do to it. -/
import Derived.Test.YtlabdffgcciepaaGreatDoorTn21
import Derived.RangeFuncOwn
import Derived.RangeFuncIn
set_option linter.unusedSimpArgs false
set_option linter.unusedVariables false
set_option linter.unusedSectionVars false
namespace Go.Tn
open Go.RowKit
def jmp : X → Code → Prop
  | .exit i, c => c = .exit i
  | .ret, c => c = .ret
  | _, _ => False
def Td (S : Ex) (w : World) (p : Pl) (a : Act) (t0 : List (Nat × D)) : Prop := ∀ q ∈ t0, Rd S w q.2 p (a.tmps.getD q.1 undef)
def RJs (B : Base) (k : X → Kt) (t0 : List (Nat × D)) {σ : Type} (o : Nat → σ → List (Nat × LObj)) (Inv : Nat → σ → Prop) (l : Nat) (rec : Loop) (d : List (List D)) (H : Hp) (U : Us) (w : World) : Bool → Prop
  | false => w.heap[l]? = some (.loop rec) ∧ ∃ s, Inv d.length s ∧ H = mkH (o d.length s) ∧ U = mkU (o d.length s) ∧ allU U (locs t0 ++ B.L0)
  | true => ∃ e c, jmp e c ∧ k e (mkT t0) H U ∧ w.heap[l]? = some (.loop { rec with state := .done, pending := some c })
def RJ (B : Base) (N : Nat) (k : X → Kt) (t0 : List (Nat × D)) {σ : Type} (o : Nat → σ → List (Nat × LObj)) (Inv : Nat → σ → Prop) (ys : List (List D)) (m l : Nat) (rec : Loop) (a0 : Act)
    (d : List (List D)) (st : Bool) (E : Nat → Prop) (S : Ex) (w : World) : Prop :=
  ((∀ b, b < m → E b) ∧ (∃ r, ys = d ++ r) ∧ S l = 0 ∧ m ≤ w.heap.size) ∧ ∃ p H U, (R B N S p (mkT t0) H U a0 w ∧ Td S w p a0 t0 ∧ (∀ i o, H i = some o → plainO o) ∧
    ∀ i o g b, H i = some o → p i = some g → g.own = some b → E b) ∧ RJs B k t0 o Inv l rec d H U w st
def RJp (tm : Prop) (B : Base) (N : Nat) (k : X → Kt) (t0 : List (Nat × D)) (a0 : Act) (ch : List PanicEntry) (S : Ex) (w : World) : Prop :=
  tm ∧ ∃ p H U d v, ch = pch v ∧ Rd S w d noPl v ∧ R B N S p (mkT t0) H U a0 w ∧ k (.pan d) (mkT t0) H U
def roundPostP (P : Program) (l : Nat) (R : Ending → World → Prop) : Exit → Act → World → Prop
  | .panic ch, a, w => a.defers = [] ∧ R (.panicked ch) w
  | e, a, w => roundPost P l R e a w
theorem roundIn_of_wpInP {P : Program} [Fen P] {F : Fence} {n l : Nat} {f : FuncId} {tmps : Array Value} {assign body : Code} {w : World} {R : Ending → World → Prop} (hF : F.fn f) (hfn : (∃ ch w, R (.panicked ch) w) → (P.funcs[f]?).isSome = true)
    (h : assign.wpIn (F.inRound l) n P (Exit.then (fun a₁ w₁ => ∃ w₂, (Instr.beginRound l).run P w₁ = .ok () w₂ ∧ body.wpIn (F.inRound l) n P (roundPostP P l R) a₁ w₂) (fun _ _ _ => False))
      { tmps := tmps, defers := [] } w) :
    RoundIn F n P l f tmps assign body w R := by
  refine ⟨hF, fun c cs hr => ?_⟩
  let b : Frame := { (default : Frame) with fn := f, kind := .normal, roundOf := some l }
  have hb0 : Frame.round l f tmps assign body .normal = b.atR { tmps := tmps, defers := [] } [.code assign, .beginRound, .code body] := by
    simp [Frame.round, Frame.atR, b]
  have hr' : (F.inRound l).room ((c :: cs).length + 1 + n) := hr
  have hF' : (F.inRound l).fn b.fn := hF
  obtain ⟨e, a₁, w₁, hq, harr⟩ := h b [.beginRound, .code body] (c :: cs) rfl hF' hr'
  rw [← hb0] at harr
  cases e with
  | normal =>
    obtain ⟨w₂, hbr, hbody⟩ := hq
    have s1 : StepsIn (Machine.fenced P (F.inRound l)) P (lone (b.atR a₁ [.beginRound, .code body]) (c :: cs) w₁) (lone (b.atR a₁ [.code body]) (c :: cs) w₂) :=
      .one (fenced_calm (fr := b.atR a₁ [.beginRound, .code body]) hF' hr' rfl) (stepR_beginRound rfl hbr)
    obtain ⟨e₂, a₂, w₃, hq₂, harr₂⟩ := hbody b [] (c :: cs) rfl hF' hr'
    cases e₂ with
    | normal =>
      obtain ⟨v, w₄, hend, hR⟩ := hq₂
      exact ⟨.returned v, w₄, hR, (StepsIn.trans harr s1).trans (StepsIn.trans harr₂ (.one (fenced_calm (fr := b.atR a₂ []) hF' hr' rfl) (stepR_round_end rfl rfl hend)))⟩
    | ret =>
      obtain ⟨v, w₄, hend, hR⟩ := hq₂
      obtain ⟨k₁, hs⟩ := harr₂.2 rfl
      exact ⟨.returned v, w₄, hR, (StepsIn.trans harr s1).trans (StepsIn.trans hs (.one (fenced_calm (fr := b.atR a₂ (.code .ret :: k₁)) hF' hr' rfl) (stepR_round_ret rfl rfl hend)))⟩
    | exit id =>
      obtain ⟨v, w₄, hend, hR⟩ := hq₂
      obtain ⟨k₁, hk, hs⟩ := harr₂.2 rfl rfl
      exact ⟨.returned v, w₄, hR, (StepsIn.trans harr s1).trans (StepsIn.trans hs (.one (fenced_calm (fr := b.atR a₂ (.code (.exit id) :: k₁)) hF' hr' rfl) (stepR_round_exit rfl rfl hk hend)))⟩
    | goto t =>
      obtain ⟨v, w₄, hend, hR⟩ := hq₂
      obtain ⟨k₁, hk, hs⟩ := harr₂.2 rfl rfl
      exact ⟨.returned v, w₄, hR, (StepsIn.trans harr s1).trans (StepsIn.trans hs (.one (fenced_calm (fr := b.atR a₂ (.code (.goto t) :: k₁)) hF' hr' rfl) (stepR_round_goto rfl rfl hk hend)))⟩
    | panic chain =>
      obtain ⟨hd, hR⟩ := hq₂
      obtain ⟨todo, hs⟩ := harr₂
      have hleave : ({ b.atR a₂ todo with mode := .panicking chain } : Frame).leaving P w₃ (.panicked chain) := ⟨rfl, hd, Option.isSome_iff_exists.1 (hfn ⟨_, _, hR⟩)⟩
      have hl : (lone { b.atR a₂ todo with mode := .panicking chain } (c :: cs) w₃).fenced P (F.inRound l) := fenced_leaving (n := n) (F := F.inRound l) hF' hr' hleave
      exact ⟨.panicked chain, w₃, hR, (StepsIn.trans harr s1).trans (StepsIn.trans hs (.one hl (step_leave_panicked hleave)))⟩
    | outgrown => exact hq₂.elim
  | exit id => exact hq.elim
  | goto t => exact hq.elim
  | ret => exact hq.elim
  | panic chain => exact hq.elim
  | outgrown => exact hq.elim
section
variable {P : Program} [Fen P] {C : Spec} {B : Base} [LB P B] {N n : Nat} {S S' : Ex} {p : Pl} {T : Nat → D} {H : Hp} {U : Us} {a : Act} {w w' : World}
theorem Td.mono {t0 : List (Nat × D)} {p' : Pl} (h : Td S w p a t0) (hk : Keep S S' w w') (hp : PlLe p p') : Td S' w' p' a t0 := fun q hq => Rd.mono hk _ hp (h q hq)
theorem Td.rd {t0 : List (Nat × D)} (h : Td S w p a t0) (t : Nat) : Rd S w (mkT t0 t) p (a.tmps.getD t undef) := by
  induction t0 with
  | nil => simp [mkT, Rd]
  | cons q t0 ih =>
    obtain ⟨j, d⟩ := q
    simp only [mkT]
    by_cases e : t = j
    · subst e; rw [upd_same]; exact h (t, d) (by simp)
    · rw [upd_ne _ _ e]; exact ih fun q hq => h q (by simp [hq])
theorem Td.of_ent {V : Us} (hV : ∀ i g, p i = some g → V i = true) {t0 : List (Nat × D)} (hr : ∀ t, Rd S w (T t) p (a.tmps.getD t undef)) (h : entT V U T t0) : Td S w (cutP p U) a t0 := by
  induction t0 with
  | nil => intro q hq; simp at hq
  | cons q t0 ih =>
    obtain ⟨j, d⟩ := q
    simp only [entT] at h
    intro q hq
    rcases List.mem_cons.1 hq with rfl | hq
    · exact wkN_ok hV h.1.1 h.1.2 (hr j)
    · exact ih h.2 q hq
theorem RJ.ok {k : X → Kt} {t0 : List (Nat × D)} {σ : Type} {o : Nat → σ → List (Nat × LObj)} {Inv : Nat → σ → Prop} {ys : List (List D)} {m l : Nat} {rec : Loop} {a0 : Act} (hm : B.n0 ≤ m) (hl : l < m)
    {d : List (List D)} {st : Bool} {E : Nat → Prop} (h : RJ B N k t0 o Inv ys m l rec a0 d st E S w) (hk : Keep S S' w w') (hos : w'.os = w.os ∧ w'.tape = w.tape ∧ w'.output = w.output) (hsz : w.heap.size ≤ w'.heap.size)
    (hext : ∀ b, 0 < S' b → b < w'.heap.size) (hE : ∀ b, E b → w'.heap[b]? = w.heap[b]? ∧ S' b = S b) : RJ B N k t0 o Inv ys m l rec a0 d st E S' w' := by
  obtain ⟨⟨h1, h2, h3, h4⟩, p, H, U, ⟨hR, hT, hpl, hown⟩, hs⟩ := h
  have hrec := (hE l (h1 l hl)).1
  refine ⟨⟨h1, h2, (hE l (h1 l hl)).2.trans h3, Nat.le_trans h4 hsz⟩, p, H, U, ⟨⟨fun t => Rd.mono hk _ (PlLe.refl _) (hR.tmp t), hR.size, ?_, hR.dfs.mono hk, B.Kpok _ _ _ _ hR.kp hk, hR.lk⟩, hT.mono hk (PlLe.refl _), hpl, hown⟩, ?_⟩
  · exact hR.hp.turn hpl hk hos hsz hext (fun i o g b hi hg hb => hE b (hown i o g b hi hg hb)) (fun b hb _ => hE b (h1 b (by omega)))
  · cases st with
    | false => obtain ⟨hs1, hs2⟩ := hs; exact ⟨hrec.trans hs1, hs2⟩
    | true => obtain ⟨e, c, hj, hk', hs1⟩ := hs; exact ⟨e, c, hj, hk', hrec.trans hs1⟩
theorem keep_loop {l : Nat} {r : Loop} (hh : ∀ b, 0 < S b → b < w.heap.size) (hl : w.heap[l]? = some (.loop r)) (o' : Obj) : Keep S S w (w.putObj l o') :=
  Keep.of_grown (grownBy_putObj' w l o') hh (fun b off v e _ hv => by cases e; simp [World.cell?, hl] at hv) (fun b es c e _ hv => by cases e; rw [hl] at hv; cases hv) (fun b x e hv => by cases e; rw [hl] at hv; cases hv) (fun b _ _ _ e hv => by cases e; rw [hl] at hv; cases hv)
theorem Heap.setLoop (h : Heap B S p H U w) (hpl : ∀ i o, H i = some o → plainO o) {l : Nat} {r : Loop} (hl : w.heap[l]? = some (.loop r)) (hB : B.own l) (o' : Obj) : Heap B S p H U (w.putObj l o') := by
  have hg := grownBy_putObj' w l o'
  refine h.turn hpl (keep_loop h.ext hl o') ⟨rfl, rfl, rfl⟩ (by simp) (fun b hb => by simpa using h.ext b hb) (fun i o g b hi hpi hb => ⟨?_, rfl⟩) (fun b hb hm => ⟨?_, rfl⟩)
  · refine World.putObj_heap_other (fun e => ?_)
    subst e
    obtain ⟨g', hg', hr⟩ := h.obj i o hi
    rw [hpi] at hg'; cases hg'
    have hpo := hpl i o hi
    cases o with
    | blk cs fz => obtain ⟨vs, ty, h1, h2, _⟩ := hr; rw [h2] at hb; cases hb; rw [h1] at hl; cases hl
    | vec e sz rows fz =>
      obtain ⟨xs, ⟨h1, _⟩, h2, _⟩ := hr
      rcases h1.2 with ⟨e1, _⟩ | ⟨gb, cap, cu, e1, _, hhb, _⟩
      · rw [h2, e1] at hb; cases hb
      · rw [h2, e1] at hb; cases hb; rw [hhb] at hl; cases hl
    | mp ks ds fz => obtain ⟨es, c, h1, h2, _⟩ := hr; rw [h2] at hb; cases hb; rw [h1] at hl; cases hl
    | mv ks ms => obtain ⟨es, c, h1, h2, _⟩ := hr; rw [h2] at hb; cases hb; rw [h1] at hl; cases hl
    | yl _ _ _ => exact hpo.elim
    | lrec => exact hpo.elim
    | nv e ms =>
      obtain ⟨xs, ⟨h1, _⟩, h2, _⟩ := hr
      rcases h1.2 with ⟨e1, _⟩ | ⟨gb, cap, cu, e1, _, hhb, _⟩
      · rw [h2, e1] at hb; cases hb
      · rw [h2, e1] at hb; cases hb; rw [hhb] at hl; cases hl
  · refine World.putObj_heap_other (fun e => ?_)
    subst e
    rcases hB with h | h
    · omega
    · rw [h] at hm; cases hm
theorem putPs_rd : ∀ (ps : List Nat) (args : List D) (vs : List Value) (tm : Array Value) {T : Nat → D}, (∀ q ∈ ps, q < tm.size) → args.length = ps.length → RdL S w args p vs → (∀ t, Rd S w (T t) p (tm.getD t undef)) →
    (∀ t, Rd S w (putPs T ps args t) p (((ps.zip vs).foldl (fun t (x : Nat × Value) => t.setIfInBounds x.1 x.2) tm).getD t undef)) ∧ ((ps.zip vs).foldl (fun t (x : Nat × Value) => t.setIfInBounds x.1 x.2) tm).size = tm.size
  | [], _, _, tm, T, _, _, _, h => by simpa [putPs] using h
  | q :: ps, [], _, _, _, _, hl, _, _ => by simp at hl
  | q :: ps, d :: ds, _, tm, T, hq, hl, hr, h => by
    obtain ⟨v, r, rfl, h1, h2⟩ := hr
    simp only [putPs, List.zip_cons_cons, List.foldl_cons]
    have := putPs_rd ps ds r (tm.setIfInBounds q v) (T := upd T q d) (fun x hx => by simpa using hq x (by simp [hx])) (by simpa using hl) h2 (fun t => by
      have hlt := hq q (by simp)
      by_cases e : t = q
      · subst e
        rw [upd_same]
        have : (tm.setIfInBounds t v).getD t undef = v := by simp [Array.getD_eq_getD_getElem?, hlt]
        rw [this]; exact h1
      · rw [upd_ne _ _ e]
        have : (tm.setIfInBounds q v).getD t undef = tm.getD t undef := by rw [Array.getD_eq_getD_getElem?, Array.getElem?_setIfInBounds_ne (Ne.symm e), ← Array.getD_eq_getD_getElem?]
        rw [this]; exact h t)
    simpa using this
end
end Go.Tn
