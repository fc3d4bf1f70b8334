/- Symbolic data, and what the operations do to it. -/
import Derived.Test.YtlabdffgcciepaaGreatDoorTn23
set_option linter.unusedSimpArgs false
set_option linter.unusedVariables false
set_option linter.unusedSectionVars false
namespace Go.Tn
open Go.RowKit
def isLoc : D → Bool | .loc _ _ => true | _ => false
section
variable {P : Program} [Fen P] {C : Spec} {B : Base} [LB P B] {N n : Nat} {S S' : Ex} {p : Pl} {T : Nat → D} {H : Hp} {U : Us} {a : Act} {w w' : World}
theorem stat_rd {d : D} {v : Value} (hs : stat d) (hl : isLoc d = false) (h : Rd S w d p v) : Rd S w d noPl v := by
  have e : cutP p (fun _ => false) = noPl := by funext i; simp [cutP, noPl]
  have key : inO (fun _ => false) d → Rd S w d noPl v := fun hi => by rw [← e]; exact rd_in d hi h
  cases d <;> simp only [stat, isLoc, Bool.true_eq_false] at hs hl <;> first | exact key hs | exact hs.elim
theorem stat_mem : ∀ {t0 : List (Nat × D)}, statL t0 → ∀ q ∈ t0, stat q.2
  | [], _, q, hq => by simp at hq
  | (_, d) :: r, h, q, hq => by
    rcases List.mem_cons.1 hq with rfl | hq
    · exact h.1
    · exact stat_mem h.2 q hq
theorem loc_mem : ∀ {t0 : List (Nat × D)} {q : Nat × D} {i off : Nat}, q ∈ t0 → q.2 = .loc i off → i ∈ locs t0
  | [], q, _, _, hq, _ => by simp at hq
  | (j, d) :: r, q, i, off, hq, e => by
    simp only [locs]
    rcases List.mem_cons.1 hq with rfl | hq
    · simp only at e; subst e; simp [locD]
    · have := loc_mem hq e
      cases d <;> simp only [locD, List.mem_cons] <;> first | exact this | exact .inr this
theorem locs_spec : ∀ {t0 : List (Nat × D)} {i : Nat}, i ∈ locs t0 → ∃ x off, x ∈ t0 ∧ x.2 = .loc i off
  | [], _, h => by simp [locs] at h
  | (j, d) :: r, i, h => by
    simp only [locs] at h
    have tail : i ∈ locs r → ∃ x off, x ∈ (j, d) :: r ∧ x.2 = .loc i off := fun h => by
      obtain ⟨x, off, hx, e⟩ := locs_spec h
      exact ⟨x, off, List.mem_cons_of_mem _ hx, e⟩
    cases d <;> simp only [locD, List.mem_cons] at h <;> first | exact tail h | skip
    rename_i k off
    rcases h with rfl | h
    · exact ⟨(j, .loc i off), off, by simp, rfl⟩
    · exact tail h
theorem plainL_spec : ∀ {l : List (Nat × LObj)}, plainL l → mkU l 998 = false ∧ mkH l 998 = none ∧ ∀ i o, mkH l i = some o → plainO o
  | [], _ => ⟨rfl, rfl, fun i o h => by simp [mkH] at h⟩
  | (j, x) :: r, h => by
    obtain ⟨h1, h2, h3⟩ := plainL_spec h.2
    have hj : (998 : Nat) ≠ j := fun e => h.1.1 e.symm
    refine ⟨by simp only [mkU]; rw [upd_ne _ _ hj]; exact h1, by simp only [mkH]; rw [upd_ne _ _ hj]; exact h2, fun i o hi => ?_⟩
    simp only [mkH] at hi
    rcases upd_some hi with ⟨rfl, rfl⟩ | ⟨_, hi'⟩
    · exact h.1.2
    · exact h3 i o hi'
theorem own_ne_loop (h : Heap B S p H U w) {i : Nat} {o : LObj} {g : G} (hi : H i = some o) (hp : p i = some g) (hpo : plainO o) {l : Nat} {r : Loop} (hl : w.heap[l]? = some (.loop r)) : g.own ≠ some l := by
  intro hb
  obtain ⟨g', hg', hr⟩ := h.obj i o hi
  rw [hp] at hg'; cases hg'
  cases o with
  | blk cs fz => obtain ⟨vs, ty, h1, h2, _⟩ := hr; rw [h2] at hb; cases hb; rw [h1] at hl; cases hl
  | vec e sz rows fz =>
    obtain ⟨xs, ⟨h1, _⟩, h2, _⟩ := hr
    rcases h1.2 with ⟨e1, _⟩ | ⟨gb, cap, cu, e1, _, hhb, _⟩
    · rw [h2, e1] at hb; cases hb
    · rw [h2, e1] at hb; cases hb; rw [hhb] at hl; cases hl
  | mp ks ds fz => obtain ⟨es, c, h1, h2, _⟩ := hr; rw [h2] at hb; cases hb; rw [h1] at hl; cases hl
  | mv ks ms => obtain ⟨es, c, h1, h2, _⟩ := hr; rw [h2] at hb; cases hb; rw [h1] at hl; cases hl
  | yl _ _ _ => exact hpo.elim
  | lrec => exact hpo.elim
  | nv e ms =>
    obtain ⟨xs, ⟨h1, _⟩, h2, _⟩ := hr
    rcases h1.2 with ⟨e1, _⟩ | ⟨gb, cap, cu, e1, _, hhb, _⟩
    · rw [h2, e1] at hb; cases hb
    · rw [h2, e1] at hb; cases hb; rw [hhb] at hl; cases hl
def marksOk (n0 : Nat) (it : Bool) (d0 : List Deferred) (a : Act) (w : World) : Prop := Marks n0 it d0 a.defers w
theorem marksOk.mono {n0 : Nat} {it : Bool} {d0 : List Deferred} (h : marksOk n0 it d0 a w) (hk : Keep S S' w w') : marksOk n0 it d0 a w' := Marks.mono h hk
open Classical in
noncomputable def bodyB (B : Base) (E : Nat → Prop) (S : Ex) (w : World) (lr : Loop) (t0 : List (Nat × D)) (a0 : Act) (q : Nat → G) : Base where
  n0 := w.heap.size
  mb := fun b => decide (E b ∧ B.own b)
  w0 := w
  S0 := S
  it := false
  l := 0
  lr := lr
  ys := []
  J := fun _ _ _ _ _ => False
  Jok := fun _ _ _ _ _ _ _ h => h.elim
  Kp := fun S' w' => Keep S S' w w' ∧ B.Kp S' w' ∧ (∀ x ∈ t0, isLoc x.2 = false → Rd S' w' x.2 noPl (a0.tmps.getD x.1 undef)) ∧ marksOk B.n0 B.nm B.d0 a0 w'
  Kpok := fun S1 S2 w1 w2 h hk => ⟨h.1.trans hk, B.Kpok _ _ _ _ h.2.1 hk, fun x hx hl => Rd.mono hk _ (PlLe.refl _) (h.2.2.1 x hx hl), h.2.2.2.mono hk⟩
  L0 := 998 :: (locs t0 ++ B.L0)
  q := q
  d0 := []
  nm := true
  Jp := fun _ _ _ => False
theorem Heap.dropO (h : Heap B S p H U w) (i : Nat) : Heap B S p (upd H i none) U w := by
  have ne : ∀ {j : Nat} {o : LObj}, upd H i none j = some o → j ≠ i ∧ H j = some o := fun {j o} hj => by
    by_cases e : j = i
    · subst e; rw [upd_same] at hj; cases hj
    · rw [upd_ne _ _ e] at hj; exact ⟨e, hj⟩
  refine ⟨fun j o hj => h.obj j o (ne hj).2, fun j k o o' g g' b hj hk => h.inj j k o o' g g' b (ne hj).2 (ne hk).2, h.use, h.ext, h.old, h.size, h.bel, fun j ys d st hj => h.yid j ys d st (ne hj).2,
    fun j hj => h.lid j (ne hj).2, fun j ys d st g b hj hp hb => ?_⟩
  obtain ⟨e1, e2⟩ := h.env j ys d st g b (ne hj).2 hp hb
  exact ⟨e1, fun k o g' hk => e2 k o g' (ne hk).2⟩
section round
variable {E : Nat → Prop} {lr lr' : Loop} {t0 : List (Nat × D)} {a0 : Act} {q : Nat → G} {l : Nat} {w0 : World} {S0 : Ex}
theorem body_mb {b : Nat} : (bodyB B E S0 w0 lr t0 a0 q).mb b = true ↔ (E b ∧ B.own b) := by
  classical
  unfold bodyB
  simp only [decide_eq_true_eq]
theorem body_mbF {b : Nat} (h : ¬ (E b ∧ B.own b)) : (bodyB B E S0 w0 lr t0 a0 q).mb b = false := by
  cases hb : (bodyB B E S0 w0 lr t0 a0 q).mb b with
  | false => rfl
  | true => exact absurd (body_mb.1 hb) h
theorem body_own {b : Nat} (h : (bodyB B E S0 w0 lr t0 a0 q).own b) : w0.heap.size ≤ b ∨ (E b ∧ B.own b) := h.imp id body_mb.1
theorem round_begin (hR : R B N S p (mkT t0) H U a0 w) (hT : Td S w p a0 t0) (hpl : ∀ i o, H i = some o → plainO o) (hown : ∀ i o g b, H i = some o → p i = some g → g.own = some b → E b)
    (hU : U 998 = false) (hH : H 998 = none) (hL : allU U (locs t0 ++ B.L0)) (hstat : statL t0) (hl : w.heap[l]? = some (.loop lr)) (hlE : E l) (hlB : B.own l) (hS : S l = 0) {tm : Array Value} {T' : Nat → D} (hsz : N ≤ tm.size)
    (htm : ∀ t, Rd S w (T' t) p (tm.getD t undef)) :
    ∃ q p', (∀ i ∈ locs t0 ++ B.L0, p i = some (q i)) ∧ (q 998).ptr = l ∧
      R (bodyB B E S w lr t0 a0 q) N S p' T' (upd H 998 (some .lrec)) (upd U 998 true) { tmps := tm, defers := [] } w := by
  have hp0 : p 998 = none := by
    cases hp : p 998 with
    | none => rfl
    | some g => rw [hR.hp.use 998 g hp] at hU; cases hU
  let gl : G := ⟨l, some l, 0, .nilFunc, fun _ => False⟩
  have hpl' : PlLe p (upd p 998 (some gl)) := fun j g hj => ⟨g, by rw [upd_ne _ _ (fun e => by rw [e, hp0] at hj; cases hj)]; exact hj, rfl, Nat.le_refl _, fun _ => ⟨rfl, rfl⟩⟩
  let q : Nat → G := fun i => (upd p 998 (some gl) i).getD gl
  have hq : ∀ i ∈ locs t0 ++ B.L0, p i = some (q i) := fun i hi => by
    have hUi := allU_mem hL i hi
    have hne : i ≠ 998 := fun e => by rw [e, hU] at hUi; cases hUi
    have : ∃ g, p i = some g := by
      rcases List.mem_append.1 hi with h | h
      · obtain ⟨x, off, hx, e⟩ := locs_spec h
        have := hT x hx
        rw [e] at this
        simp only [Rd] at this
        obtain ⟨g, hg, _⟩ := this
        exact ⟨g, hg⟩
      · obtain ⟨g, hg, _⟩ := hR.lk i h; exact ⟨g, hg⟩
    obtain ⟨g, hg⟩ := this
    simp only [q]; rw [upd_ne _ _ hne, hg]; rfl
  have hq0 : (q 998).ptr = l := by simp only [q]; rw [upd_same]; rfl
  refine ⟨q, upd p 998 (some gl), hq, hq0, fun t => Rd.mono (Keep.refl _ _) _ hpl' (htm t), hsz, ?_, Marks.nil, ⟨Keep.refl _ _, hR.kp, fun x hx hi => stat_rd (stat_mem hstat x hx) hi (hT x hx), hR.dfs⟩, fun i hi => ?_⟩
  · have hnl := fun {i : Nat} {o : LObj} {g : G} (hi : H i = some o) (hp : p i = some g) => own_ne_loop hR.hp hi hp (hpl i o hi) hl
    refine ⟨fun i o hi => ?_, fun i j o o' g g' b hi hj hpi hpj hb hb' => ?_, fun i g hg => ?_, hR.hp.ext, fun _ _ _ _ => rfl, Nat.le_refl _, fun _ => SameOut.refl _ _ _, fun i ys d st hi => ?_, fun i hi => ?_, fun i ys d st g b hi => ?_⟩
    · rcases upd_some hi with ⟨rfl, rfl⟩ | ⟨e, hi'⟩
      · exact ⟨gl, upd_same _ _ _, hl, rfl, .inr (body_mb.2 ⟨hlE, hlB⟩), hS⟩
      · obtain ⟨g, hg, hr⟩ := hR.hp.obj i o hi'
        refine ⟨g, by rw [upd_ne _ _ e]; exact hg, ?_⟩
        have h1 : ObjRel (bodyB B E S w lr t0 a0 q) S p w g o := hr.rebase (hpl i o hi') (fun b hb => .inr (body_mb.2 ⟨hown i o g b hi' hg hb, (hr.lt hb).1⟩))
        exact h1.mono (Keep.refl _ _) hpl' (fun _ _ => rfl) (fun _ _ => rfl) (fun ys d st e => by subst e; exact (hpl i _ hi').elim)
    · rcases upd_some hi with ⟨rfl, rfl⟩ | ⟨e1, hi'⟩ <;> rcases upd_some hj with ⟨rfl, rfl⟩ | ⟨e2, hj'⟩
      · rfl
      · rw [upd_same] at hpi; cases hpi; cases hb
        rw [upd_ne _ _ e2] at hpj
        exact absurd hb' (hnl hj' hpj)
      · rw [upd_same] at hpj; cases hpj; cases hb'
        rw [upd_ne _ _ e1] at hpi
        exact absurd hb (hnl hi' hpi)
      · rw [upd_ne _ _ e1] at hpi; rw [upd_ne _ _ e2] at hpj
        exact hR.hp.inj i j o o' g g' b hi' hj' hpi hpj hb hb'
    · by_cases e : i = 998
      · subst e; exact upd_same _ _ _
      · rw [upd_ne _ _ e] at hg ⊢; exact hR.hp.use i g hg
    · rcases upd_some hi with ⟨_, e⟩ | ⟨_, hi'⟩
      · cases e
      · exact (hpl i _ hi').elim
    · rcases upd_some hi with ⟨e, _⟩ | ⟨_, hi'⟩
      · exact e
      · exact (hpl i _ hi').elim
    · rcases upd_some hi with ⟨_, e⟩ | ⟨_, hi'⟩
      · cases e
      · exact (hpl i _ hi').elim
  · rcases List.mem_cons.1 hi with rfl | hi
    · exact ⟨gl, upd_same _ _ _, by have : q 998 = gl := by { simp only [q]; rw [upd_same]; rfl }
                                    show GLe (q 998) gl; rw [this]; exact GLe.refl _⟩
    · exact hpl' i _ (hq i hi)
end round
instance lb_bodyB {P : Program} [Fen P] {B : Base} [LB P B] {E : Nat → Prop} {S : Ex} {w : World} {lr : Loop} {t0 : List (Nat × D)} {a0 : Act} {q : Nat → G} : LB P (bodyB B E S w lr t0 a0 q) := ⟨fun S' w' h => LB.lb _ _ h.2.1⟩
end
end Go.Tn
