/- Symbolic data, and what the operations do to it. -/
import Derived.Test.YtlabdffgcciepaaGreatDoorTn24
set_option linter.unusedSimpArgs false
set_option linter.unusedVariables false
set_option linter.unusedSectionVars false
namespace Go.Tn
open Go.RowKit
section
variable {P : Program} [Fen P] {C : Spec} {B : Base} [LB P B] {N n : Nat} {S S2 S0 : Ex} {p p0 p2 p3 : Pl} {T T2 : Nat → D} {H H0 H2 H3 : Hp} {U U0 U2 U3 : Us} {a a2 : Act} {w w' w0 w3 : World}
  {E : Nat → Prop} {lr lr' : Loop} {t0 : List (Nat × D)} {a0 : Act} {q : Nat → G} {l : Nat}
theorem round_rec (hR : R (bodyB B E S0 w0 lr t0 a0 q) N S2 p2 T2 H2 U2 a2 w3) (hrec : isRec (H2 998)) (hq : (q 998).ptr = l) : H2 998 = some .lrec ∧ w3.heap[l]? = some (.loop lr) ∧ S2 l = 0 := by
  have h1 : H2 998 = some .lrec := by
    cases h : H2 998 with
    | none => rw [h] at hrec; exact hrec.elim
    | some o => rw [h] at hrec; cases o <;> first | rfl | exact hrec.elim
  obtain ⟨g, hg, h2, h3, h4, h5⟩ := hR.hp.obj 998 _ h1
  obtain ⟨g', hg', e⟩ := hR.lk 998 (by simp [bodyB])
  rw [hg] at hg'; cases hg'
  have e' : g.ptr = l := e.1.trans hq
  rw [e'] at h2 h5
  exact ⟨h1, h2, h5⟩
theorem round_plain (hR : R (bodyB B E S0 w0 lr t0 a0 q) N S2 p2 T2 H2 U2 a2 w3) {i : Nat} {o : LObj} (hi : H2 i = some o) (hne : i ≠ 998) : plainO o := by
  obtain ⟨g, hg, hr⟩ := hR.hp.obj i o hi
  cases o with
  | yl ys d st => obtain ⟨_, _, _, _, h⟩ := hr; simp [bodyB] at h
  | lrec => exact absurd (hR.hp.lid i hi) hne
  | _ => trivial
theorem round_busy (hR : R (bodyB B E S0 w0 lr t0 a0 q) N S2 p2 T2 H2 U2 a2 w3) (hrec : isRec (H2 998)) (hq : (q 998).ptr = l) (hlE : E l) (hlB : B.own l) :
    R (bodyB B E S0 w0 lr' t0 a0 q) N S2 p2 T2 H2 U2 a2 (w3.putObj l (.loop lr')) := by
  obtain ⟨h998, hl, hS⟩ := round_rec hR hrec hq
  have hk := keep_loop hR.hp.ext hl (.loop lr')
  have hne : ∀ {i : Nat} {o : LObj} {g : G}, H2 i = some o → i ≠ 998 → p2 i = some g → g.own ≠ some l := fun {i o g} hi hn hg => own_ne_loop hR.hp hi hg (round_plain hR hi hn) hl
  refine ⟨fun t => Rd.mono hk _ (PlLe.refl _) (hR.tmp t), hR.size, ⟨fun i o hi => ?_, hR.hp.inj, hR.hp.use, fun b hb => by simpa using hR.hp.ext b hb, hR.hp.old, by simpa [bodyB] using hR.hp.size, fun _ => ?_, hR.hp.yid, hR.hp.lid, fun i ys d st g b hi => ?_⟩,
    hR.dfs.mono hk, (bodyB B E S0 w0 lr t0 a0 q).Kpok _ _ _ _ hR.kp hk, hR.lk⟩
  · by_cases hn : i = 998
    · subst hn
      rw [h998] at hi; cases hi
      obtain ⟨g, hg, h2, h3, h4, h5⟩ := hR.hp.obj 998 _ h998
      obtain ⟨g', hg', e⟩ := hR.lk 998 (by simp [bodyB])
      rw [hg] at hg'; cases hg'
      have e' : g.ptr = l := e.1.trans hq
      refine ⟨g, hg, ?_, h3, h4, h5⟩
      rw [e']
      exact World.putObj_heap_same (Array.getElem?_eq_some_iff.1 hl).1
    · obtain ⟨g, hg, hr⟩ := hR.hp.obj i o hi
      have hpo := round_plain hR hi hn
      have hr' : ObjRel (bodyB B E S0 w0 lr' t0 a0 q) S2 p2 w3 g o := hr.rebase hpo (fun b hb => (hr.lt hb).1)
      exact ⟨g, hg, hr'.mono hk (PlLe.refl _) (fun b hb => World.putObj_heap_other (fun e => hne hi hn hg (by rw [hb, e]))) (fun _ _ => rfl) (fun ys d st e => by subst e; exact hpo.elim)⟩
  · have h0 := hR.hp.bel rfl
    refine ⟨h0.os, h0.tape, h0.output, by rw [World.putObj_size]; exact h0.size, fun b hb hm => ?_⟩
    refine (World.putObj_heap_other (fun e => ?_)).trans (h0.block b hb hm)
    subst e
    have hm' : (bodyB B E S0 w0 lr' t0 a0 q).mb b = true := body_mb.2 ⟨hlE, hlB⟩
    rw [hm'] at hm; cases hm
  · have := hR.hp.yid i ys d st hi
    obtain ⟨g', hg', hr⟩ := hR.hp.obj i _ hi
    obtain ⟨_, _, _, _, h⟩ := hr
    simp [bodyB] at h
theorem round_back (hR0 : R B N S0 p0 (mkT t0) H0 U0 a0 w0) (hT0 : Td S0 w0 p0 a0 t0) (hit : B.it = false) (hstat : statL t0) (hq : ∀ i ∈ locs t0 ++ B.L0, p0 i = some (q i))
    (hR : R (bodyB B E S0 w0 lr t0 a0 q) N S2 p2 T2 H2 U2 a2 w3) (hl : w3.heap[l]? = some (.loop lr)) (hlB : B.own l) (hlE : E l) (hElt : ∀ b, E b → b < w0.heap.size)
    (hh : Heap (bodyB B E S0 w0 lr t0 a0 q) S2 p3 H3 U3 w3) (hpl : ∀ i o, H3 i = some o → plainO o) (hlk : ∀ i ∈ locs t0 ++ B.L0, ∃ g, p3 i = some g ∧ GLe (q i) g) (o' : Obj) :
    (R B N S2 p3 (mkT t0) H3 U3 a0 (w3.putObj l o') ∧ Td S2 (w3.putObj l o') p3 a0 t0 ∧ ∀ i o g b, H3 i = some o → p3 i = some g → g.own = some b → E b ∨ (w0.heap.size ≤ b ∧ b < (w3.putObj l o').heap.size)) ∧
    (Keep S0 S2 w0 (w3.putObj l o') ∧ w0.heap.size ≤ (w3.putObj l o').heap.size ∧ (∀ b, 0 < S2 b → b < (w3.putObj l o').heap.size) ∧
      ∀ b, b < w0.heap.size → ¬ E b → (w3.putObj l o').heap[b]? = w0.heap[b]? ∧ S2 b = S0 b) := by
  have hk := keep_loop hR.hp.ext hl o'
  obtain ⟨hk0, hKp, hst, hmk⟩ := hR.kp
  have hbel : SameOut w0.heap.size (bodyB B E S0 w0 lr t0 a0 q).mb w0 w3 := hR.hp.bel rfl
  have hold : ∀ b, b < w0.heap.size → ¬ (E b ∧ B.own b) → S2 b = S0 b := fun b hb hn => hR.hp.old rfl b hb (body_mbF hn)
  have hblk : ∀ b, b < w0.heap.size → ¬ (E b ∧ B.own b) → w3.heap[b]? = w0.heap[b]? := fun b hb hn => hbel.block b hb (body_mbF hn)
  have notown : ∀ b, b < B.n0 → B.mb b = false → ¬ (E b ∧ B.own b) := fun b hb hm h => by
    rcases h.2 with h | h
    · omega
    · rw [h] at hm; cases hm
  have hhB : Heap B S2 p3 H3 U3 w3 := by
    refine hh.rebase hpl (fun i o g b hi hg hb => ?_) (fun _ b hb hm => ?_) (Nat.le_trans hR0.hp.size hbel.size) (fun _ => ?_)
    · obtain ⟨g', hg', hr⟩ := hh.obj i o hi
      rw [hg] at hg'; cases hg'
      rcases body_own (hr.lt hb).1 with h | h
      · exact .inl (Nat.le_trans hR0.hp.size h)
      · exact h.2
    · rw [hold b (Nat.lt_of_lt_of_le hb hR0.hp.size) (notown b hb hm)]; exact hR0.hp.old hit b hb hm
    · refine (hR0.hp.bel hit).trans ⟨hbel.os, hbel.tape, hbel.output, hbel.size, fun b hb hm => hblk b (Nat.lt_of_lt_of_le hb hR0.hp.size) (notown b hb hm)⟩
  have hTd : Td S2 (w3.putObj l o') p3 a0 t0 := fun x hx => by
    cases hlx : isLoc x.2 with
    | false => exact Rd.mono hk _ (PlLe.none _) (hst x hx hlx)
    | true =>
      have : ∃ i off, x.2 = .loc i off := by cases hd : x.2 <;> rw [hd] at hlx <;> simp only [isLoc, Bool.false_eq_true] at hlx; exact ⟨_, _, rfl⟩
      obtain ⟨i, off, e⟩ := this
      have h0 := hT0 x hx
      rw [e] at h0 ⊢
      simp only [Rd] at h0 ⊢
      obtain ⟨g, hg, hv⟩ := h0
      have hi : i ∈ locs t0 ++ B.L0 := List.mem_append_left _ (loc_mem hx e)
      have hg1 := hq i hi
      obtain ⟨g2, hg2, e2⟩ := hlk i hi
      rw [hg] at hg1; cases hg1
      exact ⟨g2, hg2, by rw [hv, e2.1]⟩
  refine ⟨⟨⟨fun t => hTd.rd t, hR0.size, hhB.setLoop hpl hl hlB o', hmk.mono hk, B.Kpok _ _ _ _ hKp hk, fun i hi => ?_⟩, hTd, fun i o g b hi hg hb => ?_⟩, hk0.trans hk, by simpa using hbel.size, fun b hb => by simpa using hR.hp.ext b hb, fun b hb hn => ⟨?_, hold b hb (fun h => hn h.1)⟩⟩
  · obtain ⟨g0, hg0, e0⟩ := hR0.lk i hi
    have hg1 := hq i (List.mem_append_right _ hi)
    obtain ⟨g2, hg2, e2⟩ := hlk i (List.mem_append_right _ hi)
    rw [hg0] at hg1; cases hg1
    exact ⟨g2, hg2, GLe.trans e0 e2⟩
  · obtain ⟨g', hg', hr⟩ := hh.obj i o hi
    rw [hg] at hg'; cases hg'
    rcases body_own (hr.lt hb).1 with h | h
    · exact .inr ⟨h, by simpa using (hr.lt hb).2⟩
    · exact .inl h.1
  · refine (World.putObj_heap_other (fun e => ?_)).trans (hblk b hb (fun h => hn h.1))
    subst e; exact hn hlE
end
end Go.Tn
