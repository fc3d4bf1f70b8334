/- Symbolic data, and what the operations do to it. -/
import Derived.Test.YtlabdffgcciepaaGreatDoorTn25
set_option linter.unusedSimpArgs false
set_option linter.unusedVariables false
set_option linter.unusedSectionVars false
namespace Go.Tn
open Go.RowKit
def SoundC (P : Program) [Fen P] (C : Spec) (N : Nat) (c : Code) : Prop := ∀ {B : Base} [LB P B] {ro : Option Nat} {n : Nat} {S : Ex} {p : Pl} {T : Nat → D} {H : Hp} {U : Us} {a : Act} {w : World} {k : X → Kt} {Q : Exit → Act → World → Prop},
  B.it = false → (∀ ch S w, ¬ B.Jp ch S w) → vc P C c B.L0 T H U k → R B N S p T H U a w → (∀ e x S p T H U a w, XE S w e x → k e T H U → R B N S p T H U a w → Q x a w) → c.wpIn (Fro P ro) n P Q a w
section
variable {P : Program} [Fen P] {C : Spec} {B : Base} [LB P B] {N n : Nat}
theorem putObj_same {w : World} {l : Nat} {o : Obj} (h : w.heap[l]? = some o) : w.putObj l o = w := by
  have : w.heap.setIfInBounds l o = w.heap := by
    apply Array.ext_getElem?
    intro i
    by_cases e : l = i
    · subst e; rw [Array.getElem?_setIfInBounds_self_of_lt (Array.getElem?_eq_some_iff.1 h).1, h]
    · rw [Array.getElem?_setIfInBounds_ne e]
  simp only [World.putObj]
  rw [this]
theorem rng_step {assign body : Code} (ha : SoundC P C N assign) (hb : SoundC P C N body) {k : X → Kt} {t0 : List (Nat × D)} {σ : Type} {o : Nat → σ → List (Nat × LObj)} {Inv : Nat → σ → Prop} {ys : List (List D)}
    {m l : Nat} {fnid : FuncId} {tmps : Array Value} {ps : Array Tmp} {dfr : Nat} {a0 : Act} (hta : a0.tmps = tmps) (hfn : tame P → (P.funcs[fnid]?).isSome = true) (hmB : B.n0 ≤ m) (hlm : l < m) (hlB : B.own l) (hit : B.it = false)
    (hps : ∀ x ∈ ps.toList, x < N) (hlen : ∀ j s, Inv j s → j < ys.length → (ys.getD j []).length = ps.toList.length) (hstat : statL t0) (hplain : ∀ j s, Inv j s → plainL (o j s))
    (hround : ∀ j s, Inv j s → j < ys.length → rngB (tame P) (fun L T H U k => vc P C assign L T H U k) (fun L T H U k => vc P C body L T H U k) B.L0 t0
      (fun H U => ∃ s', (entO U (mkU (o (j + 1) s')) H (o (j + 1) s') ∧ allU (mkU (o (j + 1) s')) (locs t0 ++ B.L0)) ∧ Inv (j + 1) s')
      (putPs (mkT t0) ps.toList (ys.getD j [])) (upd (mkH (o j s)) 998 (some .lrec)) (upd (mkU (o j s)) 998 true) k)
    (d : List (List D)) (args : List D) (E : Nat → Prop) (S : Ex) (w : World) (vs : List Value)
    (hJ : RJ B N k t0 o Inv ys m l ⟨.ready, none, fnid, tmps, ps, assign, body, dfr⟩ a0 d false E S w) (hpre : ∃ r, ys = d ++ args :: r) (hargs : RdL S w args noPl vs) (_hext : ∀ b, 0 < S b → b < w.heap.size) (hElt : ∀ b, E b → b < w.heap.size) :
    ∃ (f : FuncId) (tm : Array Value) (as bd : Code), (Instr.yield l vs.toArray).run P w = .ok (.round l f tm as bd) w ∧
      RoundIn (Fx P) 0 P l f tm as bd w fun e w' => (∃ (b : Bool) (S' : Ex) (E' : Nat → Prop), e = .returned (.bool b) ∧ RJ B N k t0 o Inv ys m l ⟨.ready, none, fnid, tmps, ps, assign, body, dfr⟩ a0 (d ++ [args]) (!b) E' S' w' ∧ Keep S S' w w' ∧
        w.heap.size ≤ w'.heap.size ∧ (∀ b, 0 < S' b → b < w'.heap.size) ∧ (∀ b, b < w.heap.size → ¬ E b → w'.heap[b]? = w.heap[b]? ∧ S' b = S b) ∧
        ∀ b, E' b → b < w'.heap.size ∧ (E b ∨ w.heap.size ≤ b)) ∨ ∃ ch S', e = .panicked ch ∧ RJp (tame P) B N k t0 a0 ch S' w' := by
  obtain ⟨⟨hE, _, hS, hsz⟩, p, H, U, ⟨hR, hT, hpl, hown⟩, hl, s, hI, rfl, rfl, hL⟩ := hJ
  obtain ⟨r, hys⟩ := hpre
  have hj : d.length < ys.length := by rw [hys]; simp
  have hget : ys.getD d.length [] = args := by rw [hys]; simp [List.getD_eq_getElem?_getD]
  have hal : args.length = ps.toList.length := by rw [← hget]; exact hlen _ _ hI hj
  have hvl : vs.length = ps.size := by rw [rdL_len hargs, hal, Array.length_toList]
  refine ⟨fnid, _, assign, body, run_yield hl (by simpa using hvl), ?_⟩
  refine roundIn_of_wpInP (F := Fx P) hfn (fun ⟨ch, w, h⟩ => h.elim (fun ⟨_, _, _, e, _⟩ => by cases e) fun ⟨_, _, _, h⟩ => hfn h.1) ?_
  have hzip : ((ps.zip vs.toArray).foldl (fun tmps (x : Tmp × Value) => tmps.setIfInBounds x.1 x.2) tmps) = (ps.toList.zip vs).foldl (fun t (x : Nat × Value) => t.setIfInBounds x.1 x.2) tmps := by
    rw [← Array.foldl_toList, Array.toList_zip]
  obtain ⟨hU, hH, hplo⟩ := plainL_spec (hplain _ _ hI)
  obtain ⟨htm, htsz⟩ := putPs_rd ps.toList args vs a0.tmps (T := mkT t0) (fun x hx => Nat.lt_of_lt_of_le (hps x hx) hR.size) hal (RdL.mono (Keep.refl _ _) _ (PlLe.none p) hargs) hT.rd
  obtain ⟨q, p', hq, hq0, hRb⟩ := round_begin (l := l) (lr := ⟨.ready, none, fnid, tmps, ps, assign, body, dfr⟩) hR hT hpl hown hU hH hL hstat hl (hE l hlm) hlB hS (by rw [htsz]; exact hR.size) htm
  rw [hta] at hRb
  have hrd := hround d.length s hI hj
  rw [hget] at hrd
  have key : assign.wpIn (Fro P (some l)) 0 P (Exit.then (fun a₁ w₁ => ∃ w₂, (Instr.beginRound l).run P w₁ = .ok () w₂ ∧ body.wpIn (Fro P (some l)) 0 P (roundPostP P l fun e w' => (∃ (b : Bool) (S' : Ex) (E' : Nat → Prop), e = .returned (.bool b) ∧ RJ B N k t0 o Inv ys m l ⟨.ready, none, fnid, tmps, ps, assign, body, dfr⟩ a0 (d ++ [args]) (!b) E' S' w' ∧ Keep S S' w w' ∧
        w.heap.size ≤ w'.heap.size ∧ (∀ b, 0 < S' b → b < w'.heap.size) ∧ (∀ b, b < w.heap.size → ¬ E b → w'.heap[b]? = w.heap[b]? ∧ S' b = S b) ∧
        ∀ b, E' b → b < w'.heap.size ∧ (E b ∨ w.heap.size ≤ b)) ∨ ∃ ch S', e = .panicked ch ∧ RJp (tame P) B N k t0 a0 ch S' w') a₁ w₂) (fun _ _ _ => False)) { tmps := (ps.toList.zip vs).foldl (fun t (x : Nat × Value) => t.setIfInBounds x.1 x.2) tmps, defers := [] } w := by
    refine ha (B := bodyB B E S w ⟨.ready, none, fnid, tmps, ps, assign, body, dfr⟩ t0 a0 q) (ro := some l) rfl (fun _ _ _ h => h) hrd hRb fun e x S1 p1 T1 H1 U1 a1 w1 hx hk1 hR1 => ?_
    cases e with
    | pan dd => exact hk1.elim
    | exit i => exact hk1.elim
    | goto i => exact hk1.elim
    | ret => exact hk1.elim
    | normal =>
      obtain rfl := hx
      obtain ⟨hrec1, hk1⟩ := hk1
      obtain ⟨_, hl1, _⟩ := round_rec hR1 hrec1 hq0
      refine ⟨_, run_beginRound hl1 rfl, ?_⟩
      have hR2 := round_busy (lr' := ⟨.busy, none, fnid, tmps, ps, assign, body, dfr⟩) hR1 hrec1 hq0 (hE l hlm) hlB
      refine hb (B := bodyB B E S w ⟨.busy, none, fnid, tmps, ps, assign, body, dfr⟩ t0 a0 q) (ro := some l) rfl (fun _ _ _ h => h) hk1 hR2 fun e x S2 p2 T2 H2 U2 a2 w3 hx hk2 hR3 => ?_
      have pre2 : ∃ r, ys = (d ++ [args]) ++ r := ⟨r, by rw [hys]; simp⟩
      have dropcase : ∀ (e : X) (c : Code), jmp e c → isRec (H2 998) → k e (mkT t0) (upd H2 998 none) U2 → ∃ v w', (Instr.endRound l (some c)).run P w3 = .ok v w' ∧ ((∃ (b : Bool) (S' : Ex) (E' : Nat → Prop), Ending.returned v = .returned (.bool b) ∧ RJ B N k t0 o Inv ys m l ⟨.ready, none, fnid, tmps, ps, assign, body, dfr⟩ a0 (d ++ [args]) (!b) E' S' w' ∧ Keep S S' w w' ∧
          w.heap.size ≤ w'.heap.size ∧ (∀ b, 0 < S' b → b < w'.heap.size) ∧ (∀ b, b < w.heap.size → ¬ E b → w'.heap[b]? = w.heap[b]? ∧ S' b = S b) ∧ ∀ b, E' b → b < w'.heap.size ∧ (E b ∨ w.heap.size ≤ b)) ∨ ∃ ch S', Ending.returned v = .panicked ch ∧ RJp (tame P) B N k t0 a0 ch S' w') := by
        intro e c hjm hrec hke
        obtain ⟨_, hl3, hS3⟩ := round_rec hR3 hrec hq0
        refine ⟨_, _, run_endRound (some c) hl3, ?_⟩
        obtain ⟨⟨g1, g2, g3⟩, g4, g5, g6, g7⟩ := round_back hR hT hit hstat hq hR3 hl3 hlB (hE l hlm) hElt (hR3.hp.dropO 998) (fun i x hi => by
          by_cases hn : i = 998
          · subst hn; rw [upd_same] at hi; cases hi
          · rw [upd_ne _ _ hn] at hi; exact round_plain hR3 hi hn) (fun i hi => hR3.lk i (List.mem_cons_of_mem _ hi)) (.loop ⟨.done, some c, fnid, tmps, ps, assign, body, dfr⟩)
        refine .inl ⟨false, S2, fun b => E b ∨ (w.heap.size ≤ b ∧ b < (w3.putObj l (.loop ⟨.done, some c, fnid, tmps, ps, assign, body, dfr⟩)).heap.size), rfl, ?_, g4, g5, g6, g7, fun b hb => ?_⟩
        · refine ⟨⟨fun b hb => .inl (hE b hb), pre2, hS3, Nat.le_trans hsz g5⟩, _, _, _, ⟨g1, g2, fun i x hi => ?_, g3⟩, e, c, hjm, hke, World.putObj_heap_same (Array.getElem?_eq_some_iff.1 hl3).1⟩
          by_cases hn : i = 998
          · subst hn; rw [upd_same] at hi; cases hi
          · rw [upd_ne _ _ hn] at hi; exact round_plain hR3 hi hn
        · rcases hb with hb | hb
          · exact ⟨Nat.lt_of_lt_of_le (hElt b hb) g5, .inl hb⟩
          · exact ⟨hb.2, .inr hb.1⟩
      cases e with
      | goto i => exact hk2.elim
      | exit i => obtain rfl := hx; exact dropcase (.exit i) (.exit i) rfl hk2.1 hk2.2
      | ret => obtain rfl := hx; exact dropcase .ret .ret rfl hk2.1 hk2.2
      | pan dd =>
        obtain ⟨v, rfl, hdv⟩ := hx
        obtain ⟨htm, hrec, hke⟩ := hk2
        obtain ⟨_, hl3, hS3⟩ := round_rec hR3 hrec hq0
        obtain ⟨⟨g1, g2, g3⟩, _⟩ := round_back hR hT hit hstat hq hR3 hl3 hlB (hE l hlm) hElt (hR3.hp.dropO 998) (fun i x hi => by
          by_cases hn : i = 998
          · subst hn; rw [upd_same] at hi; cases hi
          · rw [upd_ne _ _ hn] at hi; exact round_plain hR3 hi hn) (fun i hi => hR3.lk i (List.mem_cons_of_mem _ hi)) (.loop ⟨.busy, none, fnid, tmps, ps, assign, body, dfr⟩)
        rw [putObj_same hl3] at g1
        exact ⟨hR3.dfs.2 rfl, .inr ⟨_, S2, rfl, htm, p2, _, _, dd, v, rfl, hdv, g1, hke⟩⟩
      | normal =>
        obtain rfl := hx
        obtain ⟨hrec, s', ⟨hO', hL'⟩, hI'⟩ := hk2
        obtain ⟨_, hl3, hS3⟩ := round_rec hR3 hrec hq0
        refine ⟨_, _, run_endRound none hl3, ?_⟩
        have hpl3 := (plainL_spec (hplain _ _ hI')).2.2
        obtain ⟨⟨g1, g2, g3⟩, g4, g5, g6, g7⟩ := round_back hR hT hit hstat hq hR3 hl3 hlB (hE l hlm) hElt (hR3.hp.cut hO') hpl3 (fun i hi => by
          obtain ⟨g, hg, e⟩ := hR3.lk i (List.mem_cons_of_mem _ hi)
          exact ⟨g, cutP_in (allU_mem hL' i hi) hg, e⟩) (.loop ⟨.ready, none, fnid, tmps, ps, assign, body, dfr⟩)
        refine .inl ⟨true, S2, fun b => E b ∨ (w.heap.size ≤ b ∧ b < (w3.putObj l (.loop ⟨.ready, none, fnid, tmps, ps, assign, body, dfr⟩)).heap.size), rfl, ?_, g4, g5, g6, g7, fun b hb => ?_⟩
        · refine ⟨⟨fun b hb => .inl (hE b hb), pre2, hS3, Nat.le_trans hsz g5⟩, _, _, _, ⟨g1, g2, hpl3, g3⟩, World.putObj_heap_same (Array.getElem?_eq_some_iff.1 hl3).1, ?_⟩
          have hlen1 : (d ++ [args]).length = d.length + 1 := by simp
          rw [hlen1]
          exact ⟨s', hI', rfl, rfl, hL'⟩
        · rcases hb with hb | hb
          · exact ⟨Nat.lt_of_lt_of_le (hElt b hb) g5, .inl hb⟩
          · exact ⟨hb.2, .inr hb.1⟩
  rw [← hzip] at key
  exact key
end
end Go.Tn
