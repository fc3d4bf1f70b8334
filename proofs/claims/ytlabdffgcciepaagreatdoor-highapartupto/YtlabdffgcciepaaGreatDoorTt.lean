/- Symbolic data, and what the operations do to it. -/
import Derived.Test.YtlabdffgcciepaaGreatDoorTzs
set_option linter.unusedSimpArgs false
set_option linter.unusedVariables false
set_option linter.unusedSectionVars false
namespace Go.Tn
open Go.RowKit
mutual
inductive Tr where
  | leaf
  | node (l : Trs)
  | nodeF (l : Trs)
  | por (i : Nat) (t : Tr)
inductive Trs where
  | nil
  | cons (i : Nat) (t : Tr) (r : Trs)
end
mutual
def noF : Tr → Bool
  | .leaf => true
  | .node l => noFs l
  | .nodeF _ => false
  | .por _ t => noF t
def noFs : Trs → Bool
  | .nil => true
  | .cons _ t r => noF t && noFs r
end
section
variable (P : Program) [Fen P] (C : Spec) (ops : Array Oper)
def trO (dr : Bool) (o : Option Oper) (K : Kt) : Kt := match o with | some o => step P C dr ops o (nK K) | none => fun _ _ _ => False
mutual
def trK (K : Kt) : Tr → Kt
  | .leaf => K
  | .node l => trsK true K l
  | .nodeF l => trsK false K l
  | .por i t => trO P C ops true ops[i]? (trK K t)
def trsK (dr : Bool) (K : Kt) : Trs → Kt
  | .nil => fun _ _ _ => True
  | .cons i t r => fun T H U => trO P C ops dr ops[i]? (trK K t) T H U ∧ trsK dr K r T H U
end
def porI (i : Nat) (listed : Array Bool) : Bool :=
  match ops[i]? with
  | some x => (List.range ops.size).all fun j => match ops[j]? with
    | some y => Nat.beq i j || (listed.getD j true || (anc ops ops.size j i || (cmB ops x y || (Nat.beq (clO x.op) 0 && (isAl y.op && x.apart ops y)))))
    | none => true
  | none => false
mutual
def chkTr : Nat → Tr → Array Bool → Bool
  | _, .leaf, listed => (Region.ready .any ops listed).isEmpty
  | n + 1, .node l, listed => !(Region.ready .any ops listed).isEmpty && chkTrs n (Region.ready .any ops listed) l listed
  | n + 1, .nodeF l, listed => !(Region.ready .any ops listed).isEmpty && chkTrs n (Region.ready .any ops listed) l listed
  | 0, .node _, _ => false
  | 0, .nodeF _, _ => false
  | n + 1, .por i t, listed => (Region.ready .any ops listed).contains i && (porI ops i listed && (noF t && chkTr n t (listed.setIfInBounds i true)))
  | 0, .por _ _, _ => false
def chkTrs : Nat → List Nat → Trs → Array Bool → Bool
  | _, [], .nil, _ => true
  | n, i :: is, .cons j t r, listed => Nat.beq i j && (chkTr n t (listed.setIfInBounds i true) && chkTrs n is r listed)
  | _, _, _, _ => false
end
end
section
variable {P : Program} [Fen P] {C : Spec} {B : Base} [LB P B] {N n : Nat} {ro : Option Nat} {ops : Array Oper} {S : Ex} {p : Pl} {T : Nat → D} {H : Hp} {U : Us} {a : Act} {w : World}
theorem trs_at {dr : Bool} {K : Kt} {m : Nat} {listed : Array Bool} {i : Nat} : ∀ {is : List Nat} {r : Trs}, chkTrs ops m is r listed = true → i ∈ is → trsK P C ops dr K r T H U → ∃ t, chkTr ops m t (listed.setIfInBounds i true) = true ∧ trO P C ops dr ops[i]? (trK P C ops K t) T H U
  | j :: is, .cons k t r, h, hi, hk => by
    simp only [chkTrs, Bool.and_eq_true, Nat.beq_eq] at h
    obtain ⟨rfl, h1, h2⟩ := h
    simp only [trsK] at hk
    rcases List.mem_cons.1 hi with rfl | hi
    · exact ⟨t, h1, hk.1⟩
    · exact trs_at h2 hi hk.2
  | [], _, _, hi, _ => by simp at hi
theorem trs_atN {K : Kt} {m : Nat} {listed : Array Bool} {i : Nat} : ∀ {is : List Nat} {r : Trs}, chkTrs ops m is r listed = true → noFs r = true → i ∈ is → ∃ t, (chkTr ops m t (listed.setIfInBounds i true) = true ∧ noF t = true) ∧ ∀ T H U, trsK P C ops true K r T H U → trO P C ops true ops[i]? (trK P C ops K t) T H U
  | j :: is, .cons k t r, h, hn, hi => by
    simp only [chkTrs, Bool.and_eq_true, Nat.beq_eq] at h
    obtain ⟨rfl, h1, h2⟩ := h
    simp only [noFs, Bool.and_eq_true] at hn
    rcases List.mem_cons.1 hi with rfl | hi
    · exact ⟨t, ⟨h1, hn.1⟩, fun T H U hk => by simp only [trsK] at hk; exact hk.1⟩
    · obtain ⟨t', h3, h4⟩ := trs_atN h2 hn.2 hi
      exact ⟨t', h3, fun T H U hk => by simp only [trsK] at hk; exact h4 T H U hk.2⟩
  | [], _, _, _, hi => by simp at hi
theorem getD_setT {listed : Array Bool} {i j : Nat} (h : listed.getD j true = true) : (listed.setIfInBounds i true).getD j true = true := by
  by_cases e : i = j
  · subst e
    by_cases hs : i < listed.size
    · simp [Array.getD_eq_getD_getElem?, hs]
    · simp [Array.getD_eq_getD_getElem?, hs]
  · rw [getD_set_ne true e]; exact h
theorem ready_set {listed : Array Bool} {i x : Nat} (hi : i ∈ Region.ready .any ops listed) (hne : x ≠ i) : i ∈ Region.ready .any ops (listed.setIfInBounds x true) := by
  obtain ⟨h1, o, h2, h3⟩ := mem_ready.1 hi
  exact mem_ready.2 ⟨by rw [getD_set_ne true hne]; exact h1, o, h2, fun e he hb => getD_set_true (h3 e he hb)⟩
theorem closed_set {listed : Array Bool} {i : Nat} (hc : Closed ops listed) (hi : i ∈ Region.ready .any ops listed) : Closed ops (listed.setIfInBounds i true) := by
  obtain ⟨h1, o, ho, hall⟩ := mem_ready.1 hi
  intro k ok hok hkl e he hb
  by_cases hki : i = k
  · subst hki
    rw [ho] at hok; cases hok
    exact getD_set_true (hall e he hb)
  · rw [getD_set_ne false hki] at hkl
    exact getD_set_true (hc k ok hok hkl e he hb)
theorem tr_pull {K : Kt} : ∀ (m : Nat) (t : Tr) (listed : Array Bool) (i : Nat), Closed ops listed → chkTr ops m t listed = true → noF t = true → i ∈ Region.ready .any ops listed →
    ∃ m' t', m = m' + 1 ∧ (chkTr ops m' t' (listed.setIfInBounds i true) = true ∧ noF t' = true) ∧ ∀ (T : Nat → D) (H : Hp) (U : Us), ((∃ o, ops[i]? = some o ∧ isAl o.op = true) → ∀ j, U j = false → H j = none) → trK P C ops K t T H U → trO P C ops true ops[i]? (trK P C ops K t') T H U := by
  intro m
  induction m with
  | zero =>
    intro t listed i hc h hn hi
    cases t with
    | leaf => simp only [chkTr, List.isEmpty_iff] at h; rw [h] at hi; simp at hi
    | node l => simp [chkTr] at h
    | nodeF l => simp [chkTr] at h
    | por x t => simp [chkTr] at h
  | succ m ih =>
    intro t listed i hc h hn hi
    cases t with
    | leaf => simp only [chkTr, List.isEmpty_iff] at h; rw [h] at hi; simp at hi
    | node l =>
      simp only [chkTr, Bool.and_eq_true] at h
      simp only [noF] at hn
      obtain ⟨t', h1, h2⟩ := trs_atN (P := P) (C := C) (K := K) h.2 hn hi
      exact ⟨m, t', rfl, h1, fun T H U _ hk => h2 T H U (by simpa only [trK] using hk)⟩
    | nodeF l => simp [noF] at hn
    | por x t =>
      simp only [chkTr, Bool.and_eq_true, List.contains_iff_mem] at h
      obtain ⟨hx, hp, hf, ht⟩ := h
      by_cases e : x = i
      · subst e
        exact ⟨m, t, rfl, ⟨ht, hf⟩, fun T H U _ hk => by simpa only [trK] using hk⟩
      · obtain ⟨m', t', rfl, ⟨h1, h2⟩, h3⟩ := ih t _ i (closed_set hc hx) ht hf (ready_set hi e)
        obtain ⟨hxl, ox, hox, hxa⟩ := mem_ready.1 hx
        obtain ⟨hil, oi, hoi, hia⟩ := mem_ready.1 hi
        have hil2 : i < ops.size := (Array.getElem?_eq_some_iff.1 hoi).1
        have hcm : cmB ops ox oi = true ∨ (clO ox.op = 0 ∧ isAl oi.op = true ∧ ox.apart ops oi = true) := by
          simp only [porI, hox, List.all_eq_true] at hp
          have := hp i (List.mem_range.2 hil2)
          simp only [hoi, Bool.or_eq_true, Bool.and_eq_true, Nat.beq_eq] at this
          rcases this with h | h | h | h | h
          · exact absurd h e
          · rw [hil] at h; cases h
          · have h4 := anc_spec hc ops.size i x oi hoi hia h
            rw [(listed_in hxl).2] at h4; cases h4
          · exact .inl h
          · exact .inr h
        refine ⟨m' + 1, .por x t', rfl, ⟨?_, by simpa only [noF] using h2⟩, fun T H U hfr hk => ?_⟩
        · simp only [chkTr, Bool.and_eq_true, List.contains_iff_mem]
          refine ⟨ready_set hx (fun h => e h.symm), ?_, h2, ?_⟩
          · simp only [porI, hox, List.all_eq_true] at hp ⊢
            intro j hj
            have := hp j hj
            cases hoj : ops[j]? with
            | none => rfl
            | some y =>
              simp only [hoj, Bool.or_eq_true] at this ⊢
              rcases this with h | h | h
              · exact .inl h
              · exact .inr (.inl (getD_setT h))
              · exact .inr (.inr h)
          · rw [Array.setIfInBounds_comm _ _ (fun h => e h.symm)]; exact h1
        · simp only [trK] at hk ⊢
          rw [hox] at hk
          rw [hoi]
          -- x leaves the heap as it is, if i makes a new object
          have hxr : isAl oi.op = true → klass ox.op ≤ 1 := fun ha => by
            rcases hcm with h | h
            · simp only [cmB, Bool.and_eq_true, Bool.or_eq_true, Nat.beq_eq, Nat.ble_eq] at h
              have hki : klass oi.op = 2 := by
                cases ho : oi.op <;> rw [ho] at ha <;> first | rfl | simp [isAl] at ha
              omega
            · exact cl0_klass h.1
          have hk' : stepT P C ops ox (stepT P C ops oi (trK P C ops K t')) T H U := by
            have hk2 : stepT P C ops ox (trK P C ops K t) T H U := hk
            rw [step_act] at hk2 ⊢
            obtain ⟨r, a1, c1, hk3⟩ := hk2
            refine ⟨r, a1, c1, ?_⟩
            have := h3 _ _ _ (fun he j hj => by
              obtain ⟨o, ho, ha⟩ := he
              rw [hoi] at ho; cases ho
              obtain ⟨e1, e2⟩ := act_read (hxr ha) a1
              rw [e1]
              rw [e2] at hj
              exact hfr ⟨_, hoi, ha⟩ j hj) hk3
            rw [hoi] at this
            exact this
          have : stepT P C ops oi (stepT P C ops ox (trK P C ops K t')) T H U := by
            rcases hcm with h | ⟨h4, h5, h6⟩
            · exact swap h hk'
            · exact swapA h4 h5 h6 (hfr ⟨_, hoi, h5⟩) hk'
          refine step_mono (fun T H U hk => ?_) this
          rw [hox]; exact hk
theorem tr_sound {K : Kt} (hJ : B.it = true → JStep P B) (hnm : B.it = true → B.nm = true) (hN : ∀ o ∈ ops.toList, ∀ i, o.dst = some i → i < N) {Q : Exit → Act → World → Prop} (hy : ∀ ch S' a' w', B.Jp ch S' w' → a'.defers = [] → Q (.panic ch) a' w')
    (hQ : ∀ S' p' T' H' U' a' w', K T' H' U' → R B N S' p' T' H' U' a' w' → Q .normal a' w') :
    ∀ (fuel : Nat) (t : Tr) (listed : Array Bool) {S : Ex} {p : Pl} {T : Nat → D} {H : Hp} {U : Us} {a : Act} {w : World},
      Closed ops listed → chkTr ops fuel t listed = true → trK P C ops K t T H U → R B N S p T H U a w → wpAnyIn (Fro P ro) n P .any ops Q fuel listed a w := by
  intro fuel
  induction fuel with
  | zero =>
    intro t listed S p T H U a w hcl hc hk hR
    cases t with
    | leaf =>
      simp only [chkTr, List.isEmpty_iff] at hc
      exact ⟨hc, hQ _ _ _ _ _ _ _ hk hR⟩
    | node l => simp [chkTr] at hc
    | nodeF l => simp [chkTr] at hc
    | por x t => simp [chkTr] at hc
  | succ fuel ih =>
    intro t listed S p T H U a w hcl hc hk hR
    cases t with
    | leaf =>
      simp only [chkTr, List.isEmpty_iff] at hc
      refine ⟨fun _ => hQ _ _ _ _ _ _ _ hk hR, fun i hi => ?_⟩
      rw [hc] at hi; simp at hi
    | node l =>
      simp only [chkTr, Bool.and_eq_true, Bool.not_eq_true', List.isEmpty_eq_false_iff] at hc
      refine ⟨fun hr => absurd hr hc.1, fun i hi => ?_⟩
      simp only [trK] at hk
      obtain ⟨t, h1, h2⟩ := trs_at hc.2 hi hk
      unfold wpOpIn
      cases ho : ops[i]? with
      | none => rw [ho] at h2; exact h2.elim
      | some o =>
        rw [ho] at h2
        simp only
        refine op_sound hJ hR o (hN o (by rw [Array.mem_toList_iff]; exact Array.mem_of_getElem? ho)) h2 (fun S' p' T' H' U' a' w' hk' hR' => ?_) (fun _ _ _ _ _ _ _ _ _ hk' => hk'.elim) hy
        exact ih t _ (closed_set hcl hi) h1 hk' hR'
    | nodeF l =>
      simp only [chkTr, Bool.and_eq_true, Bool.not_eq_true', List.isEmpty_eq_false_iff] at hc
      refine ⟨fun hr => absurd hr hc.1, fun i hi => ?_⟩
      simp only [trK] at hk
      obtain ⟨t, h1, h2⟩ := trs_at hc.2 hi hk
      unfold wpOpIn
      cases ho : ops[i]? with
      | none => rw [ho] at h2; exact h2.elim
      | some o =>
        rw [ho] at h2
        simp only
        refine op_sound hJ hR o (hN o (by rw [Array.mem_toList_iff]; exact Array.mem_of_getElem? ho)) h2 (fun S' p' T' H' U' a' w' hk' hR' => ?_) (fun _ _ _ _ _ _ _ _ _ hk' => hk'.elim) hy
        exact ih t _ (closed_set hcl hi) h1 hk' hR'
    | por x t =>
      have hc0 := hc
      simp only [chkTr, Bool.and_eq_true, List.contains_iff_mem] at hc
      refine ⟨fun hr => (by rw [hr] at hc; simp at hc), fun i hi => ?_⟩
      obtain ⟨m', t', e, ⟨h1, h2⟩, h3⟩ := tr_pull (P := P) (C := C) (K := K) (fuel + 1) (.por x t) listed i hcl hc0 (by simpa only [noF] using hc.2.2.1) hi
      cases e
      have h2 := h3 _ _ _ (fun _ j hj => by
        cases hH : H j with
        | none => rfl
        | some o =>
          obtain ⟨g, hg, _⟩ := hR.hp.obj j o hH
          rw [hR.hp.use j g hg] at hj; cases hj) hk
      unfold wpOpIn
      cases ho : ops[i]? with
      | none => rw [ho] at h2; exact h2.elim
      | some o =>
        rw [ho] at h2
        simp only
        refine op_sound hJ hR o (hN o (by rw [Array.mem_toList_iff]; exact Array.mem_of_getElem? ho)) h2 (fun S' p' T' H' U' a' w' hk' hR' => ?_) (fun _ _ _ _ _ _ _ _ _ hk' => hk'.elim) hy
        exact ih t' _ (closed_set hcl hi) h1 hk' hR'
theorem region_soundT {K : X → Kt} (hJ : B.it = true → JStep P B) (hnm : B.it = true → B.nm = true) (hm : P.follows .mixedOrders = true) {id : Nat} {l : List Oper} (hN : ∀ o ∈ l, ∀ i, o.dst = some i → i < N) {t : Tr}
    (hc : chkTr l.toArray l.toArray.size t (Array.replicate l.toArray.size false) = true) (hk : trK P C l.toArray (K .normal) t T H U) (hR : R B N S p T H U a w) {Q : Exit → Act → World → Prop}
    (hQ : ∀ S' p' T' H' U' a' w', K .normal T' H' U' → R B N S' p' T' H' U' a' w' → Q .normal a' w') (hy : ∀ ch S' a' w', B.Jp ch S' w' → a'.defers = [] → Q (.panic ch) a' w') : (Code.region id l.toArray true).wpIn (Fro P ro) n P Q a w :=
  wpIn_region_any hm (tr_sound (C := C) (K := K .normal) hJ hnm (by simpa using hN) hy hQ l.toArray.size t _ (fun k o _ hl => by rw [rep_getD] at hl; split at hl <;> cases hl) hc hk hR.drawn)
end
end Go.Tn
