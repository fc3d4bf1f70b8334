/- Symbolic data, and what the operations do to it. -/
import Derived.Test.YtlabdffgcciepaaGreatDoorTn27
import Derived.Test.YtlabdffgcciepaaGreatDoorTzc
set_option linter.unusedSimpArgs false
set_option linter.unusedVariables false
set_option linter.unusedSectionVars false
namespace Go.Tn
open Go.RowKit
theorem minEx {M : Nat → Prop} (h : ∃ m, M m) : ∃ m, M m ∧ ∀ k, M k → m ≤ k := by
  classical
  obtain ⟨m, hm⟩ := h
  induction m using Nat.strongRecOn with
  | _ m ih =>
    by_cases hx : ∃ k, k < m ∧ M k
    · obtain ⟨k, hk, hmk⟩ := hx; exact ih k hk hmk
    · exact ⟨m, hm, fun k hk => Nat.le_of_not_lt fun hlt => hx ⟨k, hlt, hk⟩⟩
section
variable {P : Program} [Fen P] {C : Spec} {N : Nat}
theorem loop_unr {c : Code} {B : Base} [LB P B] {ro : Option Nat} {nn : Nat} {Bf : (X → Kt) → Kt} {k : X → Kt} {Q : Exit → Act → World → Prop}
    (ih : ∀ {S : Ex} {p : Pl} {T : Nat → D} {H : Hp} {U : Us} {a : Act} {w : World} {Q : Exit → Act → World → Prop} (k : X → Kt), Bf k T H U → R B N S p T H U a w → (∀ e x S p T H U a w, XE S w e x → k e T H U → R B N S p T H U a w → Q x a w) → (∀ ch S' a' w', B.Jp ch S' w' → a'.defers = [] → Q (.panic ch) a' w') → c.wpIn (Fro P ro) nn P Q a w)
    {S : Ex} {p : Pl} {T : Nat → D} {H : Hp} {U : Us} {a : Act} {w : World} (n0 : Nat) (hk : unr Bf k n0 T H U) (hR : R B N S p T H U a w)
    (hQ : ∀ e x S p T H U a w, XE S w e x → k e T H U → R B N S p T H U a w → Q x a w) (hy : ∀ ch S' a' w', B.Jp ch S' w' → a'.defers = [] → Q (.panic ch) a' w') : (Code.loop c).wpIn (Fro P ro) nn P Q a w := by
  classical
  let Rs : Nat → Act → World → Prop := fun n a w => ∃ S p T H U, unr Bf k n T H U ∧ R B N S p T H U a w
  let mu : Act → World → Nat := fun a w => if h : ∃ m, Rs m a w then (minEx h).choose else 0
  refine wpIn_loop (fun a w => ∃ n, Rs n a w) mu ⟨n0, S, p, T, H, U, hk, hR⟩ fun a w ⟨n1, h1⟩ => ?_
  have hex : ∃ m, Rs m a w := ⟨n1, h1⟩
  have hms := (minEx hex).choose_spec.1
  have hmu : mu a w = (minEx hex).choose := by simp only [mu, dif_pos hex]
  generalize (minEx hex).choose = m at hms hmu
  cases m with
  | zero => obtain ⟨S1, p1, T1, H1, U1, hf, _⟩ := hms; exact hf.elim
  | succ m =>
    obtain ⟨S1, p1, T1, H1, U1, hf, hR1⟩ := hms
    refine ih _ hf hR1 (fun e x S p T H U a' w' hx hk hR => ?_) hy
    cases e with
    | normal =>
      obtain rfl := hx
      have h2 : Rs m a' w' := ⟨S, p, T, H, U, hk, hR⟩
      refine ⟨⟨m, h2⟩, ?_⟩
      have hex' : ∃ m, Rs m a' w' := ⟨m, h2⟩
      have : mu a' w' ≤ m := by
        simp only [mu, dif_pos hex']
        exact (minEx hex').choose_spec.2 _ h2
      omega
    | exit i => obtain rfl := hx; exact hQ (.exit i) _ _ _ _ _ _ _ _ rfl hk hR
    | goto l => obtain rfl := hx; exact hQ (.goto l) _ _ _ _ _ _ _ _ rfl hk hR
    | ret => obtain rfl := hx; exact hQ .ret _ _ _ _ _ _ _ _ rfl hk hR
    | pan d => obtain ⟨v, rfl, hd⟩ := hx; exact hQ (.pan d) _ _ _ _ _ _ _ _ ⟨v, rfl, hd⟩ hk hR
theorem vc_sound (hm : P.follows .mixedOrders = true) : ∀ (c : Code) {B : Base} [LB P B] {ro : Option Nat} {n : Nat} {S : Ex} {p : Pl} {T : Nat → D} {H : Hp} {U : Us} {a : Act} {w : World} {k : X → Kt} {Q : Exit → Act → World → Prop},
    (B.it = true → JStep P B) → (B.it = true → B.nm = true) → (noRg c = true ∨ (ro = none ∧ B.it = false ∧ B.nm = false)) → chkC C.js N c = true → vc P C c B.L0 T H U k → R B N S p T H U a w →
    (∀ e x S p T H U a w, XE S w e x → k e T H U → R B N S p T H U a w → Q x a w) → (∀ ch S' a' w', B.Jp ch S' w' → a'.defers = [] → Q (.panic ch) a' w') → c.wpIn (Fro P ro) n P Q a w := by
  intro c
  induction c with
  | skip => intro B _ ro n S p T H U a w k Q _ _ _ _ hk hR hQ _; exact wpIn_skip (hQ .normal _ _ _ _ _ _ _ _ rfl hk hR)
  | region id ops dr =>
    intro B _ ro n S p T H U a w k Q hJ hnm _ hc hk hR hQ hy
    simp only [chkC, Bool.and_eq_true, Bool.or_eq_true, Bool.not_eq_true', List.all_eq_true] at hc
    obtain ⟨l⟩ := ops
    have hN : ∀ o ∈ l, ∀ i, o.dst = some i → i < N := fun o ho i hi => by
      have := hc.1 o ho
      simp only [dstOk, hi, Nat.blt_eq] at this
      exact this
    have hcR2 : dr = true → (match isJ C.js (4000 + id) with | true => true | false => match isJ C.js (6000 + id) with | true => chkV l.toArray | false => match isJ C.js (7000 + id) with | true => true | false => match isJ C.js (8000 + id) with | true => chkZ l.toArray | false => chkR l.toArray) = true := fun hd => by
      rcases hc.2 with h | h
      · rw [hd] at h; cases h
      · exact h
    simp only [vc, regC] at hk
    cases h4 : dr && isJ C.js (4000 + id) with
    | true =>
      rw [h4] at hk
      obtain ⟨hd, h4'⟩ := Bool.and_eq_true_iff.1 h4
      subst hd
      rcases hk with ⟨m, ⟨hm1, hm2⟩, hk⟩ | ⟨m, K, ⟨hm1, hm2⟩, hf, hk⟩
      · exact region_soundC hJ hnm hm hm1 hm2 hN hk hR hQ hy
      · exact region_soundD hJ hnm hm hm1 hm2 hN hf hk hR hQ hy
    | false =>
    rw [h4] at hk
    have hcR1 : dr = true → (match isJ C.js (6000 + id) with | true => chkV l.toArray | false => match isJ C.js (7000 + id) with | true => true | false => match isJ C.js (8000 + id) with | true => chkZ l.toArray | false => chkR l.toArray) = true := fun hd => by
      have h := hcR2 hd
      rw [hd] at h4
      rw [show isJ C.js (4000 + id) = false from by simpa using h4] at h
      exact h
    simp only [regV] at hk
    cases h6 : dr && isJ C.js (6000 + id) with
    | true =>
      rw [h6] at hk
      obtain ⟨hd, h6'⟩ := Bool.and_eq_true_iff.1 h6
      subst hd
      have hcR := hcR1 rfl
      rw [h6'] at hcR
      exact region_soundV hJ hnm hm hcR hN hk hR (fun S' p' T' H' U' a' w' hk' hR' => hQ .normal _ _ _ _ _ _ _ _ rfl hk' hR') hy
    | false =>
    rw [h6] at hk
    have hcR0 : dr = true → (match isJ C.js (7000 + id) with | true => true | false => match isJ C.js (8000 + id) with | true => chkZ l.toArray | false => chkR l.toArray) = true := fun hd => by
      have := hcR1 hd
      rw [hd, Bool.true_and] at h6
      rw [h6] at this
      exact this
    simp only [regK] at hk
    cases ht : dr && isJ C.js (7000 + id) with
    | true =>
      rw [ht] at hk
      obtain ⟨hd, _⟩ := Bool.and_eq_true_iff.1 ht
      subst hd
      obtain ⟨t, h1, h2⟩ := hk
      exact region_soundT hJ hnm hm hN h1 h2 hR (fun S' p' T' H' U' a' w' hk' hR' => hQ .normal _ _ _ _ _ _ _ _ rfl hk' hR') hy
    | false =>
    rw [ht] at hk
    have hcR : dr = true → (match isJ C.js (8000 + id) with | true => chkZ l.toArray | false => chkR l.toArray) = true := fun hd => by
      have := hcR0 hd
      rw [hd, Bool.true_and] at ht
      rw [ht] at this
      exact this
    simp only [regZ] at hk
    cases hz : dr && isJ C.js (8000 + id) with
    | true =>
      rw [hz] at hk
      obtain ⟨hd, hz'⟩ := Bool.and_eq_true_iff.1 hz
      subst hd
      have hcR := hcR rfl
      rw [hz'] at hcR
      exact region_soundZ hJ hnm hm hcR hN hk.1 hk.2 hR (fun S' p' T' H' U' a' w' hk' hR' => hQ .normal _ _ _ _ _ _ _ _ rfl hk' hR') hy
    | false =>
      rw [hz] at hk
      replace hcR : dr = true → chkR l.toArray = true := fun hd => by
        have := hcR hd
        rw [hd, Bool.true_and] at hz
        rw [hz] at this
        exact this
      simp only [regL] at hk
      cases hj : dr && isJ C.js (9000 + id) with
      | false =>
        rw [hj] at hk
        exact region_sound hJ hnm hm hcR hN hk hR (fun S' p' T' H' U' a' w' hk' hR' => hQ .normal _ _ _ _ _ _ _ _ rfl hk' hR') (fun d v S' p' T' H' U' a' w' hk' hR' hd => hQ (.pan d) _ _ _ _ _ _ _ _ ⟨v, rfl, hd⟩ hk' hR') hy
      | true =>
        rw [hj] at hk
        have hd : dr = true := (Bool.and_eq_true_iff.1 hj).1
        subst hd
        exact region_soundL hJ hnm hm (hcR rfl) hk.1 hN hk.2 hR (fun S' p' T' H' U' a' w' hk' hR' => hQ .normal _ _ _ _ _ _ _ _ rfl hk' hR') (fun d v S' p' T' H' U' a' w' hk' hR' hd => hQ (.pan d) _ _ _ _ _ _ _ _ ⟨v, rfl, hd⟩ hk' hR') hy
  | seq x y ihx ihy =>
    intro B _ ro n S p T H U a w k Q hJ hnm hrg hc hk hR hQ hy
    simp only [chkC, Bool.and_eq_true] at hc
    have hx : noRg x = true ∨ (ro = none ∧ B.it = false ∧ B.nm = false) := hrg.imp (fun h => by simp only [noRg, Bool.and_eq_true] at h; exact h.1) (fun h => h)
    have hy' : noRg y = true ∨ (ro = none ∧ B.it = false ∧ B.nm = false) := hrg.imp (fun h => by simp only [noRg, Bool.and_eq_true] at h; exact h.2) (fun h => h)
    simp only [vc] at hk
    cases hj : isJ C.js (begS x) with
    | false =>
      rw [hj] at hk
      refine wpIn_seq (ihx hJ hnm hx hc.1 hk hR (fun e x S p T H U a w hx hk hR => ?_) hy)
      cases e with
      | normal => obtain rfl := hx; exact ihy hJ hnm hy' hc.2 hk hR hQ hy
      | exit i => obtain rfl := hx; exact hQ (.exit i) _ _ _ _ _ _ _ _ rfl hk hR
      | goto l => obtain rfl := hx; exact hQ (.goto l) _ _ _ _ _ _ _ _ rfl hk hR
      | ret => obtain rfl := hx; exact hQ .ret _ _ _ _ _ _ _ _ rfl hk hR
      | pan d => obtain ⟨v, rfl, hd⟩ := hx; exact hQ (.pan d) _ _ _ _ _ _ _ _ ⟨v, rfl, hd⟩ hk hR
    | true =>
      rw [hj] at hk
      obtain ⟨σ, mk, Inv, hk, hb⟩ := hk
      refine wpIn_seq (ihx hJ hnm hx hc.1 hk hR (fun e x S p T H U a w hx hk hR => ?_) hy)
      cases e with
      | normal =>
        obtain rfl := hx
        obtain ⟨s, he, hI⟩ := hk
        exact ihy hJ hnm hy' hc.2 (hb s hI) (ent_sound hR he) hQ hy
      | exit i => obtain rfl := hx; exact hQ (.exit i) _ _ _ _ _ _ _ _ rfl hk hR
      | goto l => obtain rfl := hx; exact hQ (.goto l) _ _ _ _ _ _ _ _ rfl hk hR
      | ret => obtain rfl := hx; exact hQ .ret _ _ _ _ _ _ _ _ rfl hk hR
      | pan d => obtain ⟨v, rfl, hd⟩ := hx; exact hQ (.pan d) _ _ _ _ _ _ _ _ ⟨v, rfl, hd⟩ hk hR
  | cond c x y ihx ihy =>
    intro B _ ro n S p T H U a w k Q hJ hnm hrg hc hk hR hQ hy
    simp only [chkC, Bool.and_eq_true] at hc
    have hx : noRg x = true ∨ (ro = none ∧ B.it = false ∧ B.nm = false) := hrg.imp (fun h => by simp only [noRg, Bool.and_eq_true] at h; exact h.1) (fun h => h)
    have hy' : noRg y = true ∨ (ro = none ∧ B.it = false ∧ B.nm = false) := hrg.imp (fun h => by simp only [noRg, Bool.and_eq_true] at h; exact h.2) (fun h => h)
    simp only [vc] at hk
    have hd := rd_ev hR.tmp c
    unfold cK at hk
    split at hk
    · rename_i t ht
      rw [ht] at hd
      simp only [Rd] at hd
      cases t with
      | true => exact wpIn_cond_true hd (ihx hJ hnm hx hc.1 (hk.1 rfl) hR hQ hy)
      | false => exact wpIn_cond_false hd (ihy hJ hnm hy' hc.2 (hk.2 rfl) hR hQ hy)
    · exact hk.elim
  | block id c ih =>
    intro B _ ro n S p T H U a w k Q hJ hnm hrg hc hk hR hQ hy
    refine wpIn_block (ih hJ hnm hrg hc hk hR (fun e x S p T H U a w hx hk hR => ?_) hy)
    cases e with
    | normal => obtain rfl := hx; exact hQ .normal _ _ _ _ _ _ _ _ rfl hk hR
    | exit i =>
      obtain rfl := hx
      simp only [blkX] at hk
      simp only [Exit.inBlock]
      by_cases e : i = id
      · rw [if_pos e] at hk ⊢; exact hQ .normal _ _ _ _ _ _ _ _ rfl hk hR
      · rw [if_neg e] at hk ⊢; exact hQ (.exit i) _ _ _ _ _ _ _ _ rfl hk hR
    | goto l => obtain rfl := hx; exact hQ (.goto l) _ _ _ _ _ _ _ _ rfl hk hR
    | ret => obtain rfl := hx; exact hQ .ret _ _ _ _ _ _ _ _ rfl hk hR
    | pan d => obtain ⟨v, rfl, hd⟩ := hx; exact hQ (.pan d) _ _ _ _ _ _ _ _ ⟨v, rfl, hd⟩ hk hR
  | label l => intro B _ ro n S p T H U a w k Q _ _ _ _ hk hR hQ _; exact wpIn_label (hQ .normal _ _ _ _ _ _ _ _ rfl hk hR)
  | scope c ih =>
    intro B _ ro n S p T H U a w k Q hJ hnm hrg hc hk hR hQ hy
    refine wpIn_scope (ih hJ hnm hrg hc hk hR (fun e x S p T H U a w hx hk hR => ?_) hy)
    cases e with
    | normal => obtain rfl := hx; exact hQ .normal _ _ _ _ _ _ _ _ rfl hk hR
    | exit i => obtain rfl := hx; exact hQ (.exit i) _ _ _ _ _ _ _ _ rfl hk hR
    | goto l => exact hk.elim
    | ret => obtain rfl := hx; exact hQ .ret _ _ _ _ _ _ _ _ rfl hk hR
    | pan d => obtain ⟨v, rfl, hd⟩ := hx; exact hQ (.pan d) _ _ _ _ _ _ _ _ ⟨v, rfl, hd⟩ hk hR
  | loop c ih =>
    intro B _ ro n S p T H U a w k Q hJ hnm hrg hc hk hR hQ hy
    rcases hk with ⟨σ, mk, μ, s0, he, hb⟩ | ⟨n0, hk⟩
    rotate_left
    · exact loop_unr (fun k hk hR hQ hy => ih hJ hnm hrg hc hk hR hQ hy) n0 hk hR hQ hy
    classical
    have hR0 := ent_sound hR he
    let Rs : σ → Act → World → Prop := fun s a w => ∃ S p, R B N S p (mkT (mk s).t) (mkH (mk s).o) (mkU (mk s).o) a w
    let M : Act → World → Nat → Prop := fun a w m => ∃ s, Rs s a w ∧ μ s = m
    let mu : Act → World → Nat := fun a w => if h : ∃ m, M a w m then (minEx h).choose else 0
    refine wpIn_loop (fun a w => ∃ s, Rs s a w) mu ⟨s0, S, _, hR0⟩ fun a w ⟨s1, h1⟩ => ?_
    have hex : ∃ m, M a w m := ⟨μ s1, s1, h1, rfl⟩
    obtain ⟨s, ⟨S1, p1, hR1⟩, hms⟩ := (minEx hex).choose_spec.1
    have hmu : mu a w = μ s := by simp only [mu, dif_pos hex]; exact hms.symm
    refine ih hJ hnm hrg hc (hb s) hR1 (fun e x S p T H U a' w' hx hk hR => ?_) hy
    cases e with
    | normal =>
      obtain rfl := hx
      obtain ⟨s', he', hlt⟩ := hk
      have hR2 := ent_sound hR he'
      refine ⟨⟨s', S, _, hR2⟩, ?_⟩
      have hex' : ∃ m, M a' w' m := ⟨μ s', s', ⟨S, _, hR2⟩, rfl⟩
      have : mu a' w' ≤ μ s' := by
        simp only [mu, dif_pos hex']
        exact (minEx hex').choose_spec.2 _ ⟨s', ⟨S, _, hR2⟩, rfl⟩
      omega
    | exit i => obtain rfl := hx; exact hQ (.exit i) _ _ _ _ _ _ _ _ rfl hk hR
    | goto l => obtain rfl := hx; exact hQ (.goto l) _ _ _ _ _ _ _ _ rfl hk hR
    | ret => obtain rfl := hx; exact hQ .ret _ _ _ _ _ _ _ _ rfl hk hR
    | pan d => obtain ⟨v, rfl, hd⟩ := hx; exact hQ (.pan d) _ _ _ _ _ _ _ _ ⟨v, rfl, hd⟩ hk hR
  | rangeFunc g ps x y ihx ihy =>
    intro B _ ro n S p T H U a w k Q hJ hnm hrg hc hk hR hQ hy
    rcases hrg with h | ⟨rfl, hit, hnmf⟩
    · simp [noRg] at h
    · simp only [chkC, Bool.and_eq_true, List.all_eq_true, Nat.blt_eq] at hc
      exact rng_sound (fun {B _ ro n S p T H U a w k Q} hit hjp hk hR hQ => ihx (fun h => by rw [hit] at h; cases h) (fun h => by rw [hit] at h; cases h) (.inl hc.1.1.2) hc.1.1.1 hk hR hQ (fun ch S a w h _ => (hjp ch S w h).elim))
        (fun {B _ ro n S p T H U a w k Q} hit hjp hk hR hQ => ihy (fun h => by rw [hit] at h; cases h) (fun h => by rw [hit] at h; cases h) (.inl hc.1.2.2) hc.1.2.1 hk hR hQ (fun ch S a w h _ => (hjp ch S w h).elim)) hit hnmf hc.2 hk hR hQ
  | exit id => intro B _ ro n S p T H U a w k Q _ _ _ _ hk hR hQ _; exact wpIn_exit (hQ (.exit id) _ _ _ _ _ _ _ _ rfl hk hR)
  | ret => intro B _ ro n S p T H U a w k Q _ _ _ _ hk hR hQ _; exact wpIn_ret (hQ .ret _ _ _ _ _ _ _ _ rfl hk hR)
  | _ => intro B _ ro n S p T H U a w k Q _ _ _ _ hk; exact hk.elim
end
end Go.Tn
