/- Symbolic data, and what the operations do to it. -/
import Derived.Test.YtlabdffgcciepaaGreatDoorTn26
set_option linter.unusedSimpArgs false
set_option linter.unusedVariables false
set_option linter.unusedSectionVars false
namespace Go.Tn
open Go.RowKit
def itB (tm : Prop) (B : Base) (N : Nat) (k : X → Kt) (t0 : List (Nat × D)) {σ : Type} (o : Nat → σ → List (Nat × LObj)) (Inv : Nat → σ → Prop) (ys : List (List D)) (w1 : World) (S : Ex) (l : Nat) (rec0 : Loop) (a0 : Act)
    (hn : B.n0 ≤ w1.heap.size) (hl : l < w1.heap.size) : Base where
  n0 := w1.heap.size
  mb := fun _ => false
  w0 := w1
  S0 := S
  it := true
  l := l
  lr := rec0
  ys := ys
  J := RJ B N k t0 o Inv ys w1.heap.size l rec0 a0
  Jok := fun _ _ _ _ _ _ _ h hk hos hsz hext hE => h.ok hn hl hk hos hsz hext hE
  Kp := fun S' w' => Keep S S' w1 w'
  Kpok := fun _ _ _ _ h k => h.trans k
  L0 := []
  q := fun _ => gnil
  d0 := []
  nm := true
  Jp := RJp tm B N k t0 a0
section
variable {P : Program} [Fen P] {C : Spec} {B : Base} [LB P B] {N n : Nat} {S : Ex} {p : Pl} {T : Nat → D} {H : Hp} {U : Us} {a : Act} {w : World}
theorem rng_sound {assign body : Code} (ha : SoundC P C N assign) (hb : SoundC P C N body) {g : Operand} {ps : Array Tmp} {k : X → Kt} {Q : Exit → Act → World → Prop} (hit : B.it = false) (hnm : B.nm = false) (hps : ∀ x ∈ ps.toList, x < N)
    (hk : rngV P C B.L0 (ev T g) ps.toList T H U (fun L T H U k => vc P C assign L T H U k) (fun L T H U k => vc P C body L T H U k) k) (hR : R B N S p T H U a w)
    (hQ : ∀ e x S p T H U a w, XE S w e x → k e T H U → R B N S p T H U a w → Q x a w) : (Code.rangeFunc g ps assign body).wpIn (Fro P none) n P Q a w := by
  have hg := rd_ev hR.tmp g
  unfold rngV at hk
  split at hk
  · rename_i f caps hfn
    rw [hfn] at hg
    simp only [Rd] at hg
    obtain ⟨fs, cs, hgv, h1, hcs⟩ := hg
    simp only [RdL] at h1; subst h1
    unfold rngS at hk
    split at hk
    · rename_i ys hout
      obtain ⟨⟨⟨hnew, hst⟩, hpre⟩, σ, t0, o, Inv, s0, ⟨hlen, hstat, hplain⟩, ⟨⟨hT, hO⟩, hL⟩, hI0, hround, hfin⟩ := hk
      obtain ⟨hent, hfc⟩ := hst _ _ hpre
      rw [hout] at hfc
      obtain ⟨Sf, hhf, hkf, hper⟩ := per_ok hR.hp hnew hcs
      have hRf : R B N Sf p T (frzs H caps) U a w := ⟨fun t => Rd.mono hkf _ (PlLe.refl _) (hR.tmp t), hR.size, hhf, hR.dfs.mono hkf, B.Kpok _ _ _ _ hR.kp hkf, hR.lk⟩
      replace hR := hRf
      clear hRf
      refine wpIn_rangeFunc fun fn hffn => ?_
      let rec0 : Loop := ⟨.ready, none, fn, a.tmps, ps, assign, body, w.heap.size⟩
      let w1 : World := (w.alloc (.deferred (some []))).alloc (.loop rec0)
      let l : Nat := w.heap.size + 1
      let a0 : Act := { a with defers := [{ target := .collected w.heap.size, args := #[] }] ++ a.defers }
      have hsz1 : w1.heap.size = w.heap.size + 2 := by simp [w1]
      have hbel : Below w.heap.size w w1 := ((Below.refl _ w).alloc (Nat.le_refl _) _).alloc (by simp) _
      have hl1 : w1.heap[l]? = some (.loop rec0) := by
        have := World.alloc_heap_new (w.alloc (.deferred (some []))) (.loop rec0); rwa [World.size_alloc] at this
      have hd1 : w1.heap[w.heap.size]? = some (.deferred (some [])) := by
        have h2 := World.alloc_heap_new w (.deferred (some []))
        have h3 : w1.heap[w.heap.size]? = (w.alloc (.deferred (some []))).heap[w.heap.size]? := by
          simp only [w1]
          exact heap_alloc_old _ _ (by simp)
        rw [h3]; exact h2
      refine ⟨l, [{ target := .collected w.heap.size, args := #[] }], w1, { target := .fn (.func f) cs.toArray, args := #[.func (.yield l) #[] #[]] }, w1, f, (Value.func (.yield l) #[] #[] :: cs).toArray, w1, run_enterLoop_outer _ _ _ _ _, ?_, (fun f' hf' => ?_), ?_, (fun e => by cases e), ?_⟩
      · have hc : a.eval (.const (.func (.yield l) #[] #[])) = .func (.yield l) #[] #[] := rfl
        simp [resolve, rangeCall, hgv, hc, Deferred.ofValue]
      · simp only [Target.leads, Option.some.injEq] at hf'
        subst hf'; exact fun _ => hent.fn
      · have := run_enter hent (Value.func (.yield l) #[] #[] :: cs).toArray w1
        simp only [invoke]
        rw [show (#[Value.func (.yield l) #[] #[]] ++ cs.toArray) = (Value.func (.yield l) #[] #[] :: cs).toArray from by simp]
        exact this
      · obtain ⟨hh1, hk1⟩ := hR.hp.grow (S' := Sf) hbel (fun _ _ => rfl) (fun b hb => Nat.lt_of_lt_of_le (hR.hp.ext b hb) hbel.size)
        obtain ⟨⟨ms, hms, hmk⟩, _⟩ := hR.dfs
        have hR1 : R B N Sf p T (frzs H caps) U a0 w1 := ⟨fun t => Rd.mono hk1 _ (PlLe.refl _) (hR.tmp t), hR.size, hh1, ⟨⟨{ target := .collected w.heap.size, args := #[] } :: ms, by simp [a0, hms], ⟨fun d hd => by
          rcases List.mem_cons.1 hd with rfl | hd
          · exact ⟨_, rfl, hR.hp.size, hd1⟩
          · exact (hmk.mono hk1).is d hd, List.pairwise_cons.2 ⟨fun d hd e => by
          obtain ⟨r, e', h1, h2⟩ := hmk.is d hd
          rw [e'] at e
          cases e
          have := (Array.getElem?_eq_some_iff.1 h2).1
          omega, hmk.nd⟩⟩⟩, fun h => (by rw [hnm] at h; cases h)⟩, B.Kpok _ _ _ _ hR.kp hk1, hR.lk⟩
        have hTd : Td Sf w1 (cutP p (mkU (o 0 s0))) a0 t0 := Td.of_ent hR1.hp.use hR1.tmp hT
        have hpl0 := (plainL_spec (hplain 0 s0 hI0)).2.2
        have hR2 : R B N Sf (cutP p (mkU (o 0 s0))) (mkT t0) (mkH (o 0 s0)) (mkU (o 0 s0)) a0 w1 := ⟨hTd.rd, hR1.size, hR1.hp.cut hO, hR1.dfs, hR1.kp, fun i hi => by
          obtain ⟨g, hg, e⟩ := hR1.lk i hi
          exact ⟨g, cutP_in (allU_mem hL i (List.mem_append_right _ hi)) hg, e⟩⟩
        have hlB : B.own l := .inl (Nat.le_trans hR.hp.size (by simp only [l]; omega))
        have hS0 : Sf l = 0 := by have := hR.hp.ext l; simp only [l] at this ⊢; omega
        have hn1 : B.n0 ≤ w1.heap.size := Nat.le_trans hR.hp.size hbel.size
        let Bi : Base := itB (tame P) B N k t0 o Inv ys w1 Sf l rec0 a0 hn1 (by rw [hsz1]; simp only [l]; omega)
        have hstep : JStep P Bi := ⟨fun d args E S w vs hJ hpre hargs hext hElt =>
          rng_step ha hb (by rfl) hffn hn1 (by rw [hsz1]; simp only [l]; omega) hlB hit hps (fun j s hi hj => lenY_at hlen ⟨s, hi⟩ hj) hstat hplain hround d args E S w vs hJ hpre hargs hext hElt,
          fun he E S w hJ => by
            obtain ⟨_, p, H, U, _, _, s, hI, _⟩ := hJ
            refine lenY_en hlen he ⟨s, ?_⟩
            have : Inv ys.dropLast.length s := hI
            rwa [List.length_dropLast] at this⟩
        have hla : Laid P Sf w1 := ((LB.lb (P := P) _ _ hR.kp).mono hk1)
        haveI : LB P Bi := ⟨fun S' w' h => hla.mono h⟩
        refine callsIn_ro (CallsIn.mono (hfc Bi Sf w1 cs (fun b => b < w1.heap.size) rfl (fun _ => rfl) rfl rfl hstep ?_ (fun _ h => h) (fun b hb => Nat.lt_of_lt_of_le (hR.hp.ext b hb) hbel.size) inferInstance (Keep.refl _ _) rfl rfl rfl (RdL.mono hk1 _ (PlLe.refl _) hper)) fun e w' he => ?_)
        · refine ⟨⟨fun _ h => h, ⟨ys, by simp⟩, hS0, Nat.le_refl _⟩, _, _, _, ⟨hR2, hTd, hpl0, fun i x g b hi hg hb => ?_⟩, hl1, s0, hI0, rfl, rfl, hL⟩
          obtain ⟨g', hg', hr⟩ := hR2.hp.obj i x hi
          rw [hg] at hg'; cases hg'
          exact (hr.lt hb).2
        · rcases he with he | ⟨ch, S', rfl, _, p', H', U', d, v, rfl, hdv, hR', hke⟩
          rotate_left
          · exact hQ (.pan d) _ _ _ _ _ _ _ _ ⟨v, rfl, hdv⟩ hke hR'
          obtain ⟨rfl, d, st, E', S', ⟨⟨hE, _, hSl, hsz⟩, p', H', U', ⟨hR', hTd', hpl', hown'⟩, hs⟩, hdone⟩ := he
          have hfinR : ∀ {r : Loop} (o' : Obj), w'.heap[l]? = some (.loop r) → R B N S' p' (mkT t0) H' U' a0 (w'.putObj l o') := fun {r} o' hl' => by
            have hk' := keep_loop hR'.hp.ext hl' o'
            exact ⟨fun t => Rd.mono hk' _ (PlLe.refl _) (hR'.tmp t), hR'.size, hR'.hp.setLoop hpl' hl' hlB o', hR'.dfs.mono hk', B.Kpok _ _ _ _ hR'.kp hk', hR'.lk⟩
          cases st with
          | false =>
            obtain ⟨hl', s, hI, rfl, rfl, _⟩ := hs
            obtain rfl := hdone rfl
            exact ⟨_, _, run_endLoop hl' (by simp [rec0]), hQ .normal _ _ _ _ _ _ _ _ rfl (hfin s hI) (hfinR _ hl')⟩
          | true =>
            obtain ⟨e, c, hj, hke, hl'⟩ := hs
            refine ⟨_, _, run_endLoop hl' (by simp), ?_⟩
            have hq := fun x hx => hQ e x _ _ _ _ _ _ _ hx hke (hfinR (.loop { rec0 with state := .exhausted, pending := some c }) hl')
            cases e with
            | exit i => obtain rfl := hj; exact wpIn_exit (hq _ rfl)
            | ret => obtain rfl := hj; exact wpIn_ret (hq _ rfl)
            | pan d => exact hj.elim
            | normal => exact hj.elim
            | goto _ => exact hj.elim
    · exact hk.elim
  · exact hk.elim
end
end Go.Tn
