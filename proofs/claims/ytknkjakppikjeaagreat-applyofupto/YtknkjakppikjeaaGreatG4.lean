/-
  What the functions compute that the law of this claim reaches. By an AI agent.
-/
import Derived.Test.YtknkjakppikjeaaGreatG3
set_option linter.unusedSimpArgs false
set_option linter.unusedVariables false

set_option linter.unusedSimpArgs false
namespace Go.Proofs.YtknkjakppikjeaaGreat
open Go.Tn
set_option maxHeartbeats 8000000
set_option maxRecDepth 100000
/- what a map answers -/
def gof (m : MP) (k : Int × Int) : Option Str := match m with | [] => none | x :: r => if x.1 = k then some x.2 else gof r k
theorem gof_glk (m : MP) (k : Int × Int) : glk [] m k = (gof m k).getD [] := by
  induction m with
  | nil => rfl
  | cons x m ih =>
    simp only [glk, gof]
    split
    · rfl
    · exact ih
theorem gof_has (m : MP) (k q : Int) : hasM m k q = (gof m (k, q)).isSome := by
  unfold hasM
  induction m with
  | nil => rfl
  | cons x m ih =>
    rw [List.any_cons, ih]
    simp only [gof]
    by_cases e : x.1 = (k, q) <;> simp [e]
theorem gof_gup (m : MP) (k : Int × Int) (v : Str) (j : Int × Int) : gof (gup m k v) j = if k = j then some v else gof m j := by
  induction m with
  | nil => simp only [gup, gof]
  | cons x m ih =>
    simp only [gup]
    by_cases e : x.1 = k
    · rw [if_pos e]
      simp only [gof]
      by_cases e2 : k = j
      · simp [e2]
      · rw [if_neg e2, if_neg e2, if_neg (by rw [e]; exact e2)]
    · rw [if_neg e]
      simp only [gof, ih]
      by_cases e2 : x.1 = j
      · rw [if_pos e2, if_pos e2, if_neg (fun h => e (by rw [e2, h]))]
      · rw [if_neg e2, if_neg e2]
def putM {β : Type} (f : β → Int × Int) (v : β → Str) (m : MP) (l : List β) : MP := l.foldl (fun m x => gup m (f x) (v x)) m
theorem putM_no {β : Type} {f : β → Int × Int} {v : β → Str} {k : Int × Int} : ∀ {l : List β} {m : MP}, (∀ x ∈ l, f x ≠ k) → gof (putM f v m l) k = gof m k
  | [], _, _ => rfl
  | x :: l, m, h => by
    have e : putM f v m (x :: l) = putM f v (gup m (f x) (v x)) l := rfl
    rw [e, putM_no (fun y hy => h y (List.mem_cons.2 (.inr hy))), gof_gup, if_neg (h x (by simp))]
theorem putM_at {β : Type} {f : β → Int × Int} {v : β → Str} {y : β} : ∀ {l : List β} {m : MP}, (l.map f).Nodup → y ∈ l → gof (putM f v m l) (f y) = some (v y)
  | x :: l, m, hn, hy => by
    have e : putM f v m (x :: l) = putM f v (gup m (f x) (v x)) l := rfl
    rw [List.map_cons, List.nodup_cons] at hn
    rw [e]
    rcases List.mem_cons.1 hy with rfl | hy
    · rw [putM_no (fun z hz h => hn.1 (List.mem_map.2 ⟨z, hz, h⟩)), gof_gup, if_pos rfl]
    · exact putM_at hn.2 hy
theorem told_put (d : Dl) : toldM d = putM keyS (·.n) (putM (fun x : Sp => (x.1, x.2.1)) (·.2.2) [] d.gain) d.sets := rfl
theorem mlk_mup (m : List (Int × Int)) (k v j : Int) : mlk (mup m k v) j = if k = j then v else mlk m j := by
  induction m with
  | nil => simp only [mup, mlk]
  | cons x m ih =>
    simp only [mup]
    by_cases e : x.1 = k
    · rw [if_pos e]
      simp only [mlk]
      by_cases e2 : k = j
      · simp [e2]
      · rw [if_neg e2, if_neg e2, if_neg (by rw [e]; exact e2)]
    · rw [if_neg e]
      simp only [mlk, ih]
      by_cases e2 : x.1 = j
      · rw [if_pos e2, if_pos e2, if_neg (fun h => e (by rw [e2, h]))]
      · rw [if_neg e2, if_neg e2]
theorem from_no {k : Int} : ∀ {l m : List (Int × Int)}, (∀ x ∈ l, x.2 ≠ k) → mlk (l.foldl (fun m p => mup m p.2 p.1) m) k = mlk m k
  | [], _, _ => rfl
  | x :: l, m, h => by
    rw [List.foldl_cons, from_no (fun y hy => h y (List.mem_cons.2 (.inr hy))), mlk_mup, if_neg (h x (by simp))]
theorem from_at {y : Int × Int} : ∀ {l m : List (Int × Int)}, (l.map (·.2)).Nodup → y ∈ l → mlk (l.foldl (fun m p => mup m p.2 p.1) m) y.2 = y.1
  | x :: l, m, hn, hy => by
    rw [List.map_cons, List.nodup_cons] at hn
    rw [List.foldl_cons]
    rcases List.mem_cons.1 hy with rfl | hy
    · rw [from_no (fun z hz h => hn.1 (List.mem_map.2 ⟨z, hz, h⟩)), mlk_mup, if_pos rfl]
    · exact from_at hn.2 hy
theorem setO_no {β : Type} {f : β → Int} {v : β → List Str} {k : Nat} : ∀ {l : List β} {m : OR'}, (∀ x ∈ l, (f x).toNat ≠ k) → (setO f v m l)[k]? = m[k]?
  | [], _, _ => rfl
  | x :: l, m, h => by
    have e : setO f v m (x :: l) = setO f v (m.set (f x).toNat (some (v x))) l := rfl
    rw [e, setO_no (fun y hy => h y (List.mem_cons.2 (.inr hy))), List.getElem?_set_ne (h x (by simp))]
theorem setO_at {β : Type} {f : β → Int} {v : β → List Str} {y : β} : ∀ {l : List β} {m : OR'}, (l.map f).Nodup → (∀ x ∈ l, 0 ≤ f x) → y ∈ l → (f y).toNat < m.length → (setO f v m l)[(f y).toNat]? = some (some (v y))
  | x :: l, m, hn, h0, hy, hk => by
    have e : setO f v m (x :: l) = setO f v (m.set (f x).toNat (some (v x))) l := rfl
    rw [List.map_cons, List.nodup_cons] at hn
    rw [e]
    rcases List.mem_cons.1 hy with rfl | hy
    · rw [setO_no (fun z hz h => hn.1 (List.mem_map.2 ⟨z, hz, ?_⟩)), List.getElem?_set_self hk]
      have := h0 z (by simp [hz])
      have := h0 y (by simp)
      omega
    · exact setO_at hn.2 (fun z hz => h0 z (by simp [hz])) hy (by rw [List.length_set]; exact hk)
/- what a good delta tells -/
theorem mtF_map {α β : Type} {q : α → β → Bool} {f : α → β} (h : ∀ x y, q x y = true → f x = y) : ∀ {l : List α} {r : List β}, mtF q l r = true → l.map f = r
  | [], [], _ => rfl
  | x :: l, y :: r, g => by
    simp only [mtF, Bool.and_eq_true] at g
    rw [List.map_cons, h x y g.1, mtF_map h g.2]
theorem OkD.insK {d : Dl} (g : OkD d) : d.inss.map (·.1) = newR' d := mtF_map (fun x y h => by simp only [isL, decide_eq_true_eq] at h; exact h.1) g.lines.2
theorem OkD.gainK {d : Dl} (g : OkD d) : d.gain.map (fun x : Sp => (x.1, x.2.1)) = crF (wiF (newR' d) d.nb.toNat) (newC d) := mtF_map (fun x y h => by simp only [isS, decide_eq_true_eq] at h; rw [h.1, h.2]) g.spots.2
theorem mem_crF {a b : List Int} {x : Int × Int} : x ∈ crF a b ↔ x.1 ∈ a ∧ x.2 ∈ b := by
  unfold crF
  rw [List.mem_flatMap]
  constructor
  · rintro ⟨i, hi, h⟩
    obtain ⟨p, hp, rfl⟩ := List.mem_map.1 h
    exact ⟨hi, hp⟩
  · rintro ⟨h1, h2⟩
    exact ⟨x.1, h1, List.mem_map.2 ⟨x.2, h2, rfl⟩⟩
theorem crF_nodup {b : List Int} (hb : b.Nodup) : ∀ {a : List Int}, a.Nodup → (crF a b).Nodup
  | [], _ => by simp [crF]
  | i :: a, ha => by
    rw [List.nodup_cons] at ha
    have e : crF (i :: a) b = (b.map fun p => (i, p)) ++ crF a b := rfl
    rw [e, List.nodup_append]
    refine ⟨?_, crF_nodup hb ha.2, fun x hx y hy h => ?_⟩
    · refine (List.pairwise_map).2 (hb.imp fun h => fun e => h (by simpa using e))
    · obtain ⟨p, _, rfl⟩ := List.mem_map.1 hx
      subst h
      exact ha.1 (mem_crF.1 hy).1
theorem OkD.gainN {d : Dl} (g : OkD d) : (d.gain.map (fun x : Sp => (x.1, x.2.1))).Nodup := by
  rw [g.gainK]
  exact crF_nodup (rsL_nodup _ _) (rsL_nodup _ _)
theorem OkD.gainM {d : Dl} (g : OkD d) {x : Sp} (hx : x ∈ d.gain) : (∃ p ∈ d.rows, p.2 = x.1) ∧ x.2.1 ∈ newC d := by
  have h : (x.1, x.2.1) ∈ d.gain.map (fun x : Sp => (x.1, x.2.1)) := List.mem_map.2 ⟨x, hx, rfl⟩
  rw [g.gainK] at h
  have h := mem_crF.1 h
  refine ⟨?_, h.2⟩
  have h1 := mem_rsL.1 h.1
  by_cases hm : x.1 ∈ d.rows.map (·.2)
  · obtain ⟨p, hp, e⟩ := List.mem_map.1 hm
    exact ⟨p, hp, e⟩
  · exact absurd (mem_rsL.2 ⟨h1.1, hm⟩) h1.2
theorem OkD.gainE {d : Dl} (g : OkD d) {p : Int × Int} (hp : p ∈ d.rows) {q : Int} (hq : q ∈ newC d) : ∃ x ∈ d.gain, (x.1, x.2.1) = (p.2, q) := by
  have h : (p.2, q) ∈ d.gain.map (fun x : Sp => (x.1, x.2.1)) := by
    rw [g.gainK]
    refine mem_crF.2 ⟨mem_rsL.2 ⟨?_, fun h => (mem_rsL.1 h).2 (List.mem_map.2 ⟨p, hp, rfl⟩)⟩, hq⟩
    have := (g.rows.inn p hp).2.2
    have := g.rows.b0
    omega
  exact List.mem_map.1 h
theorem OkD.told_set {d : Dl} (g : OkD d) {s : St6} (hs : s ∈ d.sets) : gof (toldM d) (s.j, s.q) = some s.n := by
  rw [told_put]
  exact putM_at (f := keyS) (v := (·.n)) g.keys.1 hs
theorem OkD.set_new {d : Dl} (g : OkD d) {s : St6} (hs : s ∈ d.sets) : s.q ∉ newC d := fun h =>
  (mem_rsL.1 h).2 (List.mem_map.2 ⟨_, (g.sets.mem s hs).1.2, rfl⟩)
theorem OkD.told_gain {d : Dl} (g : OkD d) {x : Sp} (hx : x ∈ d.gain) : gof (toldM d) (x.1, x.2.1) = some x.2.2 := by
  rw [told_put, putM_no (fun s hs h => ?_)]
  · exact putM_at (f := fun x : Sp => (x.1, x.2.1)) (v := (·.2.2)) g.gainN hx
  · refine g.set_new hs ?_
    simp only [keyS, Prod.mk.injEq] at h
    rw [h.2]
    exact (g.gainM hx).2
theorem told_none {d : Dl} {k : Int × Int} (h1 : ∀ s ∈ d.sets, keyS s ≠ k) (h2 : ∀ x ∈ d.gain, (x.1, x.2.1) ≠ k) : gof (toldM d) k = none := by
  rw [told_put, putM_no h1, putM_no h2]; rfl
theorem OkD.from_col {d : Dl} (g : OkD d) {p : Int × Int} (hp : p ∈ d.cols) : mlk (fromM d.cols) p.2 = p.1 := from_at g.cols.nb hp
theorem OkD.row_at {d : Dl} (g : OkD d) (t : Tab) {p : Int × Int} (hp : p ∈ d.rows) : (resT t d).2[p.2.toNat]? = some (nrow t d p.1 p.2) := by
  have hl := (g.row hp).2
  have h := setO_at (f := fun p : Int × Int => p.2) (v := fun p => nrow t d p.1 p.2) (m := insO (List.replicate d.nb.toNat none) d.inss) g.rows.nb (fun x hx => (g.row hx).1) hp (by unfold insO; rw [setO_len, List.length_replicate]; exact hl)
  show ((finO t d).map fun x => x.getD [])[p.2.toNat]? = _
  rw [List.getElem?_map]
  have e : (finO t d)[p.2.toNat]? = some (some (nrow t d p.1 p.2)) := h
  rw [e]; rfl
theorem OkD.ins_at {d : Dl} (g : OkD d) (t : Tab) {x : Ln} (hx : x ∈ d.inss) : (resT t d).2[x.1.toNat]? = some x.2 := by
  have hl := g.ins hx
  have hk : x.1 ∈ newR' d := by rw [← g.insK]; exact List.mem_map.2 ⟨x, hx, rfl⟩
  have hn : (d.inss.map (·.1)).Nodup := by rw [g.insK]; exact rsL_nodup _ _
  have h := setO_at (f := fun x : Ln => x.1) (v := fun x => x.2) (m := List.replicate d.nb.toNat none) hn (fun x hx => (g.ins hx).1) hx (by rw [List.length_replicate]; exact hl.2)
  show ((finO t d).map fun x => x.getD [])[x.1.toNat]? = _
  rw [List.getElem?_map]
  have e : (finO t d)[x.1.toNat]? = some (some x.2) := by
    unfold finO rowO
    rw [setO_no (fun p hp h => (mem_rsL.1 hk).2 (List.mem_map.2 ⟨p, hp, ?_⟩))]
    · exact h
    · have := (g.row hp).1; omega
  rw [e]; rfl
theorem cell_of {t : Tab} {i : Int} {r : List Str} {c : Nat} (h0 : 0 ≤ i) (h : t.2[i.toNat]? = some r) (hc : c < r.length) : cellF t i c = r.getD c [] := by
  have hl : i.toNat < t.2.length := by
    by_cases g : i.toNat < t.2.length
    · exact g
    · rw [List.getElem?_eq_none (by omega)] at h; cases h
  have e : t.2.getD i.toNat [] = r := by rw [List.getD_eq_getElem?_getD, h]; rfl
  unfold cellF
  rw [e, if_neg (by omega), Int.toNat_natCast]
theorem nrow_at (t : Tab) (d : Dl) (i k : Int) {q : Nat} (h : q < d.B.length) : (nrow t d i k).getD q [] = ceF t (toldM d) (fromM d.cols) i k q := by
  unfold nrow rowF
  rw [List.getD_eq_getElem?_getD, List.getElem?_map, List.getElem?_range h]; rfl
theorem nrow_len (t : Tab) (d : Dl) (i k : Int) : (nrow t d i k).length = d.B.length := by
  unfold nrow rowF; rw [List.length_map, List.length_range]
theorem OkD.cell_at {d : Dl} (g : OkD d) (t : Tab) {p : Int × Int} (hp : p ∈ d.rows) {q : Nat} (h : q < d.B.length) : cellF (resT t d) p.2 q = ceF t (toldM d) (fromM d.cols) p.1 p.2 q := by
  rw [cell_of (g.row hp).1 (g.row_at t hp) (by rw [nrow_len]; exact h), nrow_at t d _ _ h]
theorem ce_some {t : Tab} {m : MP} {fr : List (Int × Int)} {i k q : Int} {v : Str} (h : gof m (k, q) = some v) : ceF t m fr i k q = v := by
  unfold ceF
  rw [if_pos (by rw [gof_has, h]; rfl), gof_glk, h]; rfl
theorem ce_none {t : Tab} {m : MP} {fr : List (Int × Int)} {i k q : Int} (h : gof m (k, q) = none) : ceF t m fr i k q = cellF t i (mlk fr q) := by
  unfold ceF
  rw [if_neg (by rw [gof_has, h]; simp)]
theorem tc2_zero {t : Tab} (h : tchk t = 0) : ∀ r ∈ t.2, r.length = t.1.length := by
  unfold tchk at h
  by_cases a : tc1 t = 0
  · rw [if_neg (fun h => h a)] at h
    by_cases b : tc2 t = 0
    · intro r hr
      unfold tc2 at b
      by_cases c : (t.2.any fun r => decide (r.length ≠ t.1.length)) = true
      · rw [if_pos c] at b; cases b
      · have := List.any_eq_false.1 (by simpa only [Bool.not_eq_true] using c) r hr
        simpa using this
    · rw [if_pos b] at h; exact absurd h b
  · rw [if_pos a] at h; exact absurd h a
theorem held_back {t : Tab} {d : Dl} (g : OkD d) : HeldP (resT t d) (turnD d) := by
  have hcols := g.cols
  refine ⟨fun x hx => ?_, fun s hs => ?_, fun x hx => ?_⟩
  · have hx : x ∈ d.inss := hx
    have h1 := g.ins hx
    have h2 := g.ins_at t hx
    have h3 := resT_len t d
    refine ⟨h1.1, by omega, ?_⟩
    rw [List.getD_eq_getElem?_getD, h2]; rfl
  · have hs := mem_turnSs.1 hs
    have hm := (g.sets.mem _ hs).1
    have hq := hcols.inn _ hm.2
    have h0 : 0 ≤ s.p ∧ s.p < d.B.length := hq.2.2
    obtain ⟨q, hq⟩ : ∃ q : Nat, s.p = q := ⟨s.p.toNat, by omega⟩
    have h1 := g.cell_at t hm.1 (q := q) (by omega)
    have h2 := g.told_set hs
    have e : cellF (resT t d) s.i q = s.o := by
      refine h1.trans (ce_some ?_)
      have : (turnS s).q = q := hq
      rw [← this]
      exact h2
    rw [hq]; exact e
  · have hx : x ∈ d.gain := hx
    obtain ⟨⟨p, hp, e⟩, hq⟩ := g.gainM hx
    have h0 := (mem_rsL.1 hq).1
    obtain ⟨q, hq2⟩ : ∃ q : Nat, x.2.1 = q := ⟨x.2.1.toNat, by omega⟩
    have h1 := g.cell_at t hp (q := q) (by omega)
    have h2 := g.told_gain hx
    rw [hq2] at h2 ⊢
    rw [← e] at h2 ⊢
    exact h1.trans (ce_some h2)
theorem back_cell {t : Tab} {d : Dl} (g : OkD d) (hh : HeldP t d) {p : Int × Int} (hp : p ∈ d.rows) {c : Nat} (hc : c < d.A.length) : ceF (resT t d) (toldM (turnD d)) (fromM (turnD d).cols) p.2 p.1 c = cellF t p.1 c := by
  have gt := g.turn
  by_cases a : ∃ s ∈ d.sets, (s.i, s.p) = (p.1, (c : Int))
  · obtain ⟨s, hs, e⟩ := a
    simp only [Prod.mk.injEq] at e
    have hs2 : turnS s ∈ (turnD d).sets := mem_turnSs.2 hs
    have h1 := gt.told_set hs2
    have h2 : gof (toldM (turnD d)) (p.1, (c : Int)) = some s.o := by rw [← e.1, ← e.2]; exact h1
    rw [ce_some h2, ← hh.sets s hs, e.1, e.2]
  · by_cases b : ∃ x ∈ d.lost, (x.1, x.2.1) = (p.1, (c : Int))
    · obtain ⟨x, hx, e⟩ := b
      simp only [Prod.mk.injEq] at e
      have h1 := gt.told_gain (x := x) hx
      rw [e.1, e.2] at h1
      rw [ce_some h1, ← hh.lost x hx, e.1, e.2]
    · have hno : gof (toldM (turnD d)) (p.1, (c : Int)) = none := by
        refine told_none (fun s hs h => ?_) (fun x hx h => b ⟨x, hx, h⟩)
        exact a ⟨turnS s, mem_turnSs.1 hs, h⟩
      rw [ce_none hno]
      have hin : (c : Int) ∈ d.cols.map (·.1) := by
        by_cases hm : (c : Int) ∈ d.cols.map (·.1)
        · exact hm
        · exfalso
          have hg : (c : Int) ∈ newC (turnD d) := by rw [newC_t]; exact mem_rsL.2 ⟨⟨by omega, by omega⟩, hm⟩
          have hp2 : (p.2, p.1) ∈ (turnD d).rows := mem_turnP.2 hp
          obtain ⟨x, hx, e⟩ := gt.gainE hp2 hg
          exact b ⟨x, hx, e⟩
      obtain ⟨w, hw, e⟩ := List.mem_map.1 hin
      have hw2 : (w.2, w.1) ∈ (turnD d).cols := mem_turnP.2 hw
      have hf := gt.from_col hw2
      simp only at hf e
      rw [← e, hf]
      have hb := (g.cols.inn w hw).2.2
      obtain ⟨q, hq⟩ : ∃ q : Nat, w.2 = q := ⟨w.2.toNat, by omega⟩
      have hq2 : q < d.B.length := by omega
      rw [hq, g.cell_at t hp hq2, ce_none, ← hq, g.from_col hw]
      refine told_none (fun s hs h => a ⟨s, hs, ?_⟩) (fun x hx h => ?_)
      · simp only [keyS, Prod.mk.injEq] at h
        have hm := (g.sets.mem s hs).1
        have e1 := inj_at g.rows.nb hm.1 hp h.1
        have e2 := inj_at g.cols.nb hm.2 hw (by rw [hq]; exact h.2)
        simp only [Prod.ext_iff] at e1 e2
        rw [e1.1, e2.1, e]
      · simp only [Prod.mk.injEq] at h
        refine (mem_rsL.1 (g.gainM hx).2).2 ?_
        rw [h.2]
        exact List.mem_map.2 ⟨w, hw, hq⟩
theorem back_tab {t : Tab} {d : Dl} (h : wrongF t d = 0) : resT (resT t d) (turnD d) = t := by
  obtain ⟨h1, h2, h3, h4, h5⟩ := wrong_zero h
  have g := (chkD_zero d).1 h2
  have gt := g.turn
  have hh := (heldF_iff t d).1 h5
  have hrl := tc2_zero h1
  have hlen := resT_len (resT t d) (turnD d)
  have hnb : (turnD d).nb = d.na := rfl
  rw [hnb] at hlen
  refine Prod.ext (by rw [h3]; rfl) (List.ext_getElem (by omega) fun i hi hi2 => ?_)
  have key : ∀ r, (resT (resT t d) (turnD d)).2[i]? = some r → (resT (resT t d) (turnD d)).2[i] = r := fun r hr => by
    rw [List.getElem?_eq_getElem hi, Option.some.injEq] at hr; exact hr
  by_cases hm : (i : Int) ∈ d.rows.map (·.1)
  · obtain ⟨p, hp, e⟩ := List.mem_map.1 hm
    have hp2 : (p.2, p.1) ∈ (turnD d).rows := mem_turnP.2 hp
    have hr := gt.row_at (resT t d) hp2
    simp only at hr
    rw [e, Int.toNat_natCast] at hr
    rw [key _ hr]
    have hrow := hrl _ (List.getElem_mem hi2)
    rw [h3] at hrow
    refine List.ext_getElem (by rw [nrow_len, hrow]; rfl) fun c hc hc2 => ?_
    have hcA : c < d.A.length := by omega
    have e1 := nrow_at (resT t d) (turnD d) p.2 (i : Int) (q := c) hcA
    rw [List.getD_eq_getElem?_getD, List.getElem?_eq_getElem hc, Option.getD_some] at e1
    rw [e1, ← e, back_cell g hh hp hcA, e]
    have e2 := cell_of (t := t) (i := (i : Int)) (r := t.2[i]) (c := c) (by omega) (by rw [Int.toNat_natCast, List.getElem?_eq_getElem hi2]) hc2
    rw [e2, List.getD_eq_getElem?_getD, List.getElem?_eq_getElem hc2, Option.getD_some]
  · have hg : (i : Int) ∈ goneR d := mem_rsL.2 ⟨⟨by omega, by omega⟩, hm⟩
    rw [← newR_t, ← gt.insK] at hg
    obtain ⟨x, hx, e⟩ := List.mem_map.1 hg
    have hr := gt.ins_at (resT t d) hx
    rw [e, Int.toNat_natCast] at hr
    rw [key _ hr]
    have hx : x ∈ d.dels := hx
    have := (hh.dels x hx).2.2
    rw [e, Int.toNat_natCast, List.getD_eq_getElem?_getD, List.getElem?_eq_getElem hi2, Option.getD_some] at this
    exact this.symm
theorem wrong_of {t : Tab} {d : Dl} (h1 : tchk t = 0) (h2 : chkD d = 0) (h3 : t.1 = d.A) (h4 : (t.2.length : Int) = d.na) (h5 : heldF t d = true) : wrongF t d = 0 := by
  unfold wrongF
  rw [if_neg (fun h => h h1), if_neg (fun h => h h2), if_neg (fun h => h h3), if_neg (fun h => h h4), if_neg (by rw [h5]; simp)]
theorem back_zero {t : Tab} {d : Dl} (h : apE t d = 0) : apE (resT t d) (turnD d) = 0 ∧ resT (resT t d) (turnD d) = t := by
  obtain ⟨hw, hr⟩ := ap_zero h
  have hb := back_tab hw
  obtain ⟨h1, h2, h3, h4, h5⟩ := wrong_zero hw
  have g := (chkD_zero d).1 h2
  refine ⟨?_, hb⟩
  have hw2 : wrongF (resT t d) (turnD d) = 0 := wrong_of hr ((chkD_zero _).2 g.turn) rfl (by rw [resT_len]; have := g.rows.b0; show ((d.nb.toNat : Nat) : Int) = d.nb; omega) ((heldF_iff _ _).2 (held_back g))
  unfold apE
  rw [if_neg (fun h => h hw2), hb]; exact h1
end Go.Proofs.YtknkjakppikjeaaGreat

set_option linter.unusedSimpArgs false
namespace Go.Proofs.YtknkjakppikjeaaGreat
open Go.Tn
set_option maxHeartbeats 8000000
set_option maxRecDepth 100000
/- the sides of build -/
def eSd (t : Tab) (rs cs : List Int) : List D := [.sl 1 (t.1.map eS), .sl 1 (t.2.map eR), .sl 1 (rs.map eI), .sl 1 (cs.map eI), .fn 88 [] [.box (eTb t)]]
theorem fc_of1 (t : Tab) (i p : Int) : FC Tryz.prog 88 [.box (eTb t)] [.int .i64 i, .int .i64 p] (.ret (.str (cellF t i p))) := by
  have hsC := st_Cell t
  refine fc_M (fn := Tryz.f88) (C := (tab [(38, c_Cell t)] [])) (rs := [5]) mixed (by kernel_rfl) (by kernel_rfl) rfl rfl (by kernel_rfl) (by intro ys h; cases h) ?_
  unfold eTb
  simp +contextual (maxSteps := 5000000) only [go_sem, ↓reduceIte, c_Cell, hsC, eTb]
def c_of1 (t : Tab) (caps args : List D) : Prop × Out := match caps, args with | [x], [.int .i64 i, .int .i64 p] => (x = .box (eTb t), .ret (.str (cellF t i p))) | _, _ => (False, .ret .any)
theorem st_of1 (t : Tab) : StC Tryz.prog 88 (c_of1 t) := by
  intro caps args; unfold c_of1; split
  · rintro rfl; exact fc_of1 t _ _
  · exact fun h => h.elim
theorem tfSide : TyFact Tryz.prog 84 ⟨.struct, [(.slice none 0 0), (.slice none 0 0), (.slice none 0 0), (.slice none 0 0), .nilFunc], [(0, 2, true), (2, 1, false), (3, 1, false), (4, 1, false)], 0, 0, false, 0, 104⟩ := by
  have hy : tyOf Tryz.prog 84 = ⟨.struct, [(.slice none 0 0), (.slice none 0 0), (.slice none 0 0), (.slice none 0 0), .nilFunc], [(0, 2, true), (2, 1, false), (3, 1, false), (4, 1, false)], 0, 0, false, 0, 104⟩ := by kernel_rfl
  have h := tyOf_fact (P := Tryz.prog) (t := 84) (by rw [hy]; intro h; cases h)
  rwa [hy] at h
theorem fc_of (t : Tab) (rs cs : List Int) : FC Tryz.prog 48 [] [.agg (eTb t), .sl 1 (rs.map eI), .sl 1 (cs.map eI)] (.ret (.agg (eSd t rs cs))) := by
  refine fcc_of (fn := Tryz.f48) (rt := 84) (r := 6) (i := 6) (C := tab [] []) mixed (by kernel_rfl) (by kernel_rfl) rfl rfl tfSide (by kernel_rfl) (by intro ys h; cases h) ?_
  unfold eTb eSd
  simp +contextual (maxSteps := 5000000) only [go_sem, ↓reduceIte, eTb, finC, finCB, locR]
def linesF (t : Tab) (rs : List Int) : List Ln := rs.map fun i => (i, t.2.getD i.toNat [])
theorem lines_take {t : Tab} {rs : List Int} {n : Nat} (h : n < rs.length) : linesF t (rs.take (n + 1)) = linesF t (rs.take n) ++ [(rs.getD n 0, t.2.getD (rs.getD n 0).toNat [])] := by
  unfold linesF
  rw [take_succ_of h, List.map_append]; rfl
theorem fc_sdl (t : Tab) (rs cs : List Int) (h : ∀ i ∈ rs, 0 ≤ i ∧ i < t.2.length) (hr : ∀ r ∈ t.2, r.length < 1000000000) (hl : rs.length < 1000000000) : FC Tryz.prog 52 [] [.agg (eSd t rs cs)] (.ret (.sl 2 ((linesF t rs).map eL))) := by
  refine fc_M (fn := Tryz.f52) (C := (tab [(23, c_Clone 9 1)] [])) (rs := [2]) mixed (by kernel_rfl) (by kernel_rfl) rfl rfl (by kernel_rfl) (by intro ys h; cases h) ?_
  unfold eSd
  simp +contextual (maxSteps := 5000000) only [go_sem, ↓reduceIte]
  refine fun _ => M_loopI (fun n : Nat => ⟨[(1, .loc 1 0), (3, .vec 24 n), (7, .sl 1 (rs.map eI)), (8, .int .i64 rs.length), (9, .int .i64 n)], [(1, .blk (eSd t rs cs) false), (24, .vec 52 2 ((linesF t (rs.take n)).map eL) 0)]⟩) (fun n => rs.length - n) (fun n => n ≤ rs.length) 0 ?_ ?_
  · simp +contextual (maxSteps := 5000000) only [go_sem, ↓reduceIte, eSd]
    exact ⟨rfl, wkL_self _, rfl⟩
  intro n hn
  have hlen : (linesF t (rs.take n)).length = n := by unfold linesF; rw [List.length_map, List.length_take]; omega
  by_cases hlt : n < rs.length
  · have hat := eI_at rs n hlt
    have hx := h _ (getD_mem (d := (0 : Int)) hlt)
    have ht := lines_take (t := t) hlt
    generalize rs.getD n 0 = i at hat hx ht
    obtain ⟨k, rfl⟩ : ∃ k : Nat, i = k := ⟨i.toNat, by omega⟩
    have hk : k < t.2.length := by omega
    have hat2 := eR_at t.2 k hk
    have hrl := hr _ (getD_mem (d := ([] : List Str)) hk)
    rw [Int.toNat_natCast] at ht
    generalize t.2.getD k [] = r at hat2 hrl ht
    unfold eSd
    simp +contextual (maxSteps := 5000000) only [go_sem, ↓reduceIte, hlt, hat, hk, hat2, c_Clone, st_CloneS, hrl, hlen]
    exact ⟨by omega, fun _ => ⟨inR64 (by omega) (by omega), fun _ => ⟨n + 1, ⟨⟨by simp, by simp⟩, wkL_self _, by rw [ht, List.map_append]; rfl⟩, by omega, by omega⟩⟩⟩
  · obtain rfl : n = rs.length := by omega
    unfold eSd
    simp +contextual (maxSteps := 5000000) only [go_sem, ↓reduceIte, hlt, Nat.lt_irrefl, List.take_length]
    unfold linesF; rw [List.length_map]
theorem fc_scross (t : Tab) (rs cs : List Int) : FC Tryz.prog 92 [] [.agg (eSd t rs cs)] (.ret (.fn 115 [] [.box (eSd t rs cs)])) := by
  refine fc_M (fn := Tryz.f92) (C := (tab [] [])) (rs := [2]) mixed (by kernel_rfl) (by kernel_rfl) rfl rfl (by kernel_rfl) (by intro ys h; cases h) ?_
  unfold eSd
  simp +contextual (maxSteps := 5000000) only [go_sem, ↓reduceIte]
  exact wkL_self (eTb t)
theorem crD_stepG {f : Int × Int → List D} {a b : List Int} {i p : Nat} (hi : i < a.length) (hp : p < b.length) : (∃ r, (crF a b).map f = (crD a b i p).map f ++ f (a.getD i 0, b.getD p 0) :: r) ∧ (crD a b i p).map f ++ [f (a.getD i 0, b.getD p 0)] = (crD a b i (p + 1)).map f := by
  have hb : b = b.take p ++ b.getD p 0 :: b.drop (p + 1) := by
    rw [List.getD_eq_getElem?_getD, List.getElem?_eq_getElem hp, Option.getD_some, List.getElem_cons_drop, List.take_append_drop]
  have ha : a = a.take i ++ a.getD i 0 :: a.drop (i + 1) := by
    rw [List.getD_eq_getElem?_getD, List.getElem?_eq_getElem hi, Option.getD_some, List.getElem_cons_drop, List.take_append_drop]
  constructor
  · refine ⟨((b.drop (p + 1)).map (fun q => (a.getD i 0, q)) ++ crF (a.drop (i + 1)) b).map f, ?_⟩
    rw [← List.map_cons, ← List.map_append]
    congr 1
    have h1 : crF a b = crF (a.take i) b ++ (b.map fun q => (a.getD i 0, q)) ++ crF (a.drop (i + 1)) b := by
      conv => lhs; rw [ha]
      simp [crF]
    have h2 : (b.map fun q => (a.getD i 0, q)) = (b.take p).map (fun q => (a.getD i 0, q)) ++ (a.getD i 0, b.getD p 0) :: (b.drop (p + 1)).map (fun q => (a.getD i 0, q)) := by
      conv => lhs; rw [hb]
      simp
    rw [h1, h2, crD]
    simp
  · unfold crD
    rw [take_succ_of hp, List.map_append (l₁ := b.take p), ← List.append_assoc, List.map_append (l₂ := List.map _ [b.getD p 0])]; rfl
theorem rsL_pre (l : List Int) {i : Nat} : ∀ {n : Nat}, i ≤ n → ∃ r, rsL l n = rsL l i ++ r := by
  intro n
  induction n with
  | zero => intro h; obtain rfl : i = 0 := by omega
            exact ⟨[], by simp⟩
  | succ n ih =>
    intro h
    by_cases e : i = n + 1
    · subst e; exact ⟨[], by simp⟩
    · obtain ⟨r, hr⟩ := ih (by omega)
      rw [rsL_succ, hr, List.append_assoc]
      exact ⟨_, rfl⟩
theorem rsL_at {l : List Int} {i n : Nat} (h : i < n) (h2 : (i : Int) ∉ l) : (rsL l i).length < (rsL l n).length ∧ (rsL l n).getD (rsL l i).length 0 = i ∧ (rsL l (i + 1)).length = (rsL l i).length + 1 := by
  have e : rsL l (i + 1) = rsL l i ++ [(i : Int)] := by rw [rsL_succ, if_pos h2]
  obtain ⟨r, hr⟩ := rsL_pre l (show i + 1 ≤ n by omega)
  rw [hr, e]
  refine ⟨by simp, ?_, by simp⟩
  rw [List.append_assoc, List.getD_eq_getElem?_getD, List.getElem?_append_right (Nat.le_refl _)]
  simp
theorem fc_scross1 (t : Tab) (rs cs : List Int) (hr : rs.length < 1000000000) (hc : cs.length < 1000000000) (ht : t.2.length < 1000000000) : FC Tryz.prog 115 [.box (eSd t rs cs)] [] (.seq ((crF (wiF rs t.2.length) cs).map eP)) := by
  have hw : wkL (eTb t) (eTb t) := wkL_self _
  refine fcy_M (fn := Tryz.f115) (C := (tab [(116, c_contI)] [])) mixed (by kernel_rfl) (by kernel_rfl) rfl rfl (by kernel_rfl) (by kernel_rfl) ?_
  unfold eSd
  simp +contextual (maxSteps := 5000000) only [go_sem, ↓reduceIte]
  refine fun _ => M_loopI (fun i : Nat => ⟨[(0, .yld 999), (1, .box (eSd t rs cs)), (9, .int .i64 t.2.length), (10, .int .i64 i)], [(999, .yl ((crF (wiF rs t.2.length) cs).map eP) ((crD (wiF rs t.2.length) cs (rsL rs i).length 0).map eP) false)]⟩) (fun i => t.2.length - i) (fun i => i ≤ t.2.length) 0 ?_ ?_
  · simp +contextual (maxSteps := 5000000) only [go_sem, ↓reduceIte, crD, crF, List.flatMap_nil, eSd, hw]
    exact ⟨rfl, by simp [rsL]⟩
  intro i hi
  by_cases hlt : i < t.2.length
  · by_cases hin : (i : Int) ∈ rs
    · have hin' := decide_eq_true hin
      have hs : rsL rs (i + 1) = rsL rs i := by rw [rsL_succ, if_neg (fun h => h hin), List.append_nil]
      unfold eSd
      simp +contextual (maxSteps := 5000000) only [go_sem, ↓reduceIte, hw, hlt, c_contI, st_contI, dI_eI, hin']
      exact ⟨by omega, inR64 (by omega) (by omega), fun _ => ⟨i + 1, ⟨by simp, by rw [hs]⟩, by omega, by omega⟩⟩
    · have hin' := decide_eq_false hin
      obtain ⟨h1, h2, h3⟩ := rsL_at hlt hin
      have h1' : (rsL rs i).length < (wiF rs t.2.length).length := h1
      have h2' : (wiF rs t.2.length).getD (rsL rs i).length 0 = i := h2
      have hst := fun p (hp : p < cs.length) => crD_stepG (f := eP) (a := wiF rs t.2.length) (b := cs) h1' hp
      have hend := crD_end (b := cs) h1'
      rw [h2'] at hst
      rw [← h3] at hend
      unfold eSd
      simp +contextual (maxSteps := 5000000) only [go_sem, ↓reduceIte, hw, hlt, c_contI, st_contI, dI_eI, hin']
      refine ⟨by omega, fun _ => M_loopI (fun p : Nat => ⟨[(0, .yld 999), (1, .box (eSd t rs cs)), (3, .int .i64 i), (9, .int .i64 t.2.length), (10, .int .i64 i), (18, .sl 1 (cs.map eI)), (19, .int .i64 cs.length), (20, .int .i64 p)], [(999, .yl ((crF (wiF rs t.2.length) cs).map eP) ((crD (wiF rs t.2.length) cs (rsL rs i).length p).map eP) false)]⟩) (fun p => cs.length - p) (fun p => p ≤ cs.length) 0 ?_ ?_⟩
      · simp +contextual (maxSteps := 5000000) only [go_sem, ↓reduceIte, eSd, hw]
        rfl
      intro p hp
      by_cases hlp : p < cs.length
      · have hat := eI_at cs p hlp
        obtain ⟨q1, q2⟩ := hst p hlp
        unfold eSd
        simp +contextual (maxSteps := 5000000) only [go_sem, ↓reduceIte, hw, hat, hlp]
        exact ⟨q1, fun b hb => ⟨inR64 (by omega) (by omega), fun _ => ⟨p + 1, ⟨by simp, q2⟩, by omega, by omega⟩⟩⟩
      · obtain rfl : p = cs.length := by omega
        rw [hend]
        unfold eSd
        simp +contextual (maxSteps := 5000000) only [go_sem, ↓reduceIte, hw, hlp, Nat.lt_irrefl]
        exact ⟨inR64 (by omega) (by omega), fun _ => ⟨i + 1, ⟨by simp, rfl⟩, by omega, by omega⟩⟩
  · obtain rfl : i = t.2.length := by omega
    unfold eSd
    simp +contextual (maxSteps := 5000000) only [go_sem, ↓reduceIte, hlt, Nat.lt_irrefl]
    simp [crD, wiF]
def c_sdl (t : Tab) (rs cs : List Int) (caps args : List D) : Prop × Out := match caps, args with | [], [x] => (x = .agg (eSd t rs cs), .ret (.sl 2 ((linesF t rs).map eL))) | _, _ => (False, .ret .any)
def c_scr (t : Tab) (rs cs : List Int) (caps args : List D) : Prop × Out := match caps, args with | [], [x] => (x = .agg (eSd t rs cs), .ret (.fn 115 [] [.box (eSd t rs cs)])) | _, _ => (False, .ret .any)
theorem st_scr (t : Tab) (rs cs : List Int) : StC Tryz.prog 92 (c_scr t rs cs) := by
  intro caps args; unfold c_scr; split
  · rintro rfl; exact fc_scross t rs cs
  · exact fun h => h.elim
structure okSd (t : Tab) (rs cs : List Int) : Prop where
  lrs : rs.length < 1000000
  lcs : cs.length < 1000000
  rows : t.2.length < 1000000
  row : ∀ r ∈ t.2, r.length < 1000000000
  all : (crF (wiF rs t.2.length) cs).length < 1000000
def c_scr1 (t : Tab) (rs cs : List Int) (caps args : List D) : Prop × Out := match caps, args with | [x], [] => (x = .box (eSd t rs cs), .seq ((crF (wiF rs t.2.length) cs).map eP)) | _, _ => (False, .ret .any)
theorem st_scr1 {t : Tab} {rs cs : List Int} (h : okSd t rs cs) : StC Tryz.prog 115 (c_scr1 t rs cs) := by
  intro caps args; unfold c_scr1; split
  · rintro rfl; exact fc_scross1 t rs cs (by have := h.lrs; omega) (by have := h.lcs; omega) (by have := h.rows; omega)
  · exact fun h => h.elim
def spotsF (t : Tab) (rs cs : List Int) : List Sp := (crF (wiF rs t.2.length) cs).map fun x => (x.1, x.2, cellF t x.1 x.2)
theorem takeP_at {l : List (Int × Int)} {i : Nat} (h : i < l.length) : l.take (i + 1) = l.take i ++ [l.getD i (0, 0)] := by
  rw [List.take_add_one, List.getElem?_eq_getElem h, List.getD_eq_getElem?_getD, List.getElem?_eq_getElem h]; rfl
theorem fc_spots (t : Tab) (rs cs : List Int) (h : okSd t rs cs) : FC Tryz.prog 53 [] [.agg (eSd t rs cs)] (.ret (.sl 3 ((spotsF t rs cs).map eSp))) := by
  have hs1 := st_scr t rs cs
  have hs2 := st_scr1 h
  have hs3 := st_of1 t
  have hw : wkL (eTb t) (eTb t) := wkL_self _
  have hal := h.all
  refine fc_M (fn := Tryz.f53) (C := (tab [(92, c_scr t rs cs), (115, c_scr1 t rs cs), (88, c_of1 t)] [] [6005])) (rs := [2]) mixed (by kernel_rfl) (by kernel_rfl) rfl rfl (by kernel_rfl) (by intro ys h; cases h) ?_
  unfold eSd
  simp +contextual (maxSteps := 5000000) only [go_sem, ↓reduceIte, c_scr, hs1, eSd, hw]
  have hsp : spotsF t rs cs = (crF (wiF rs t.2.length) cs).map fun x => (x.1, x.2, cellF t x.1 x.2) := rfl
  generalize hY : crF (wiF rs t.2.length) cs = Y at hsp hal
  refine M_range (f := 115) (caps := [.box (eSd t rs cs)]) (ys := Y.map eP) (pre := (c_scr1 t rs cs [.box (eSd t rs cs)] []).1) ?_ ?_ ?_ (σ := Unit) [(1, .loc 1 0), (3, .loc 3 0)] (fun j _ => [(1, .blk (eSd t rs cs) false), (3, .blk [.vec 20 j] false), (20, .vec 71 3 (((Y.take j).map fun x => (x.1, x.2, cellF t x.1 x.2)).map eSp) 0)]) (fun j _ => j ≤ Y.length) () ?_ ?_ ?_ ?_
  · simp +contextual (maxSteps := 5000000) only [go_sem, ↓reduceIte, eSd]
  · simp +contextual (maxSteps := 5000000) only [go_sem, ↓reduceIte, c_scr1, eSd]
    rw [hY]
  · simp +contextual (maxSteps := 5000000) only [go_sem, ↓reduceIte, c_scr1, hs2, eSd, hY]
  · simp +contextual (maxSteps := 5000000) only [go_sem, ↓reduceIte]
    intro y hy
    obtain ⟨x, _, rfl⟩ := List.mem_map.1 hy
    rfl
  · simp +contextual (maxSteps := 5000000) only [go_sem, ↓reduceIte, eSd]
    exact hw
  · intro j _ hj hlt2
    have hlt3 : j < Y.length := by simpa using hlt2
    have hy : (Y.map eP).getD j [] = [.int .i64 (Y.getD j (0, 0)).1, .int .i64 (Y.getD j (0, 0)).2] := eP_at Y j hlt3
    have ht := takeP_at hlt3
    have hlen : (Y.take j).length = j := by rw [List.length_take]; omega
    rw [hy]
    generalize Y.getD j (0, 0) = x at ht
    unfold eSd
    simp +contextual (maxSteps := 5000000) only [go_sem, ↓reduceIte, putPs, c_of1, hs3, hlen, hw]
    exact ⟨by omega, fun _ => ⟨(), by rw [ht, List.map_append, List.map_append]; rfl, by omega⟩⟩
  · intro _ hs
    unfold eSd
    simp +contextual (maxSteps := 5000000) only [go_sem, ↓reduceIte, List.length_map, List.take_length]
    rw [hsp]
end Go.Proofs.YtknkjakppikjeaaGreat

set_option linter.unusedSimpArgs false
namespace Go.Proofs.YtknkjakppikjeaaGreat
open Go.Tn
set_option maxHeartbeats 8000000
set_option maxRecDepth 100000
/- what build.Of asks, and the contracts of the sides -/
theorem fc_CloneQ0 (a : Option Addr) (n c : Nat) (h : n = 0) : FC Tryz.prog 51 [] [.val (.slice a n c)] (.own 45 2 []) := by
  subst h
  refine fc_M (fn := Tryz.f51) (C := (tab [] [])) (rs := [2]) mixed (by kernel_rfl) (by kernel_rfl) rfl rfl (by kernel_rfl) (by intro ys h; cases h) ?_
  cases a with
  | none => simp +contextual (maxSteps := 5000000) only [go_sem, ↓reduceIte, Option.isNone_none]
  | some a => simp +contextual (maxSteps := 5000000) only [go_sem, ↓reduceIte, Option.isNone_some]
theorem fc_CloneQ1 (x : List D) (l : List (List D)) (hl : (x :: l).length < 1000000000) : FC Tryz.prog 51 [] [.sl 2 (x :: l)] (.own 45 2 (x :: l)) := by
  refine fc_M (fn := Tryz.f51) (C := (tab [] [])) (rs := [2]) mixed (by kernel_rfl) (by kernel_rfl) rfl rfl (by kernel_rfl) (by intro ys h; cases h) ?_
  simp +contextual (maxSteps := 5000000) only [go_sem, ↓reduceIte]
  simp only [List.length_cons] at hl
  omega
theorem st_CloneQ : StC Tryz.prog 51 (c_Clone 45 2) := by
  intro caps args; unfold c_Clone; split
  · rename_i z1 l
    rintro ⟨rfl, h⟩
    cases l with
    | nil => exact fc_sl0 (fun ys h => by cases h) fun a c => fc_CloneQ0 a 0 c rfl
    | cons x l => exact fc_CloneQ1 x l h
  · exact fun h => h.elim
theorem fc_Of1 (t : Tab) (h : okTb t) : FC Tryz.prog 43 [.box (eTb t)] [] (.ret (.int .i64 (tchk t))) := by
  have hs := st_TC h
  refine fc_M (fn := Tryz.f43) (C := (tab [(25, c_TC t)] [])) (rs := [1]) mixed (by kernel_rfl) (by kernel_rfl) rfl rfl (by kernel_rfl) (by intro ys h; cases h) ?_
  unfold eTb
  simp +contextual (maxSteps := 5000000) only [go_sem, ↓reduceIte, c_TC, hs, eTb]
theorem fc_Of2 (t : Tab) (h : okTb t) : FC Tryz.prog 44 [.box (eTb t)] [] (.ret (.int .i64 (tchk t))) := by
  have hs := st_TC h
  refine fc_M (fn := Tryz.f44) (C := (tab [(25, c_TC t)] [])) (rs := [1]) mixed (by kernel_rfl) (by kernel_rfl) rfl rfl (by kernel_rfl) (by intro ys h; cases h) ?_
  unfold eTb
  simp +contextual (maxSteps := 5000000) only [go_sem, ↓reduceIte, c_TC, hs, eTb]
theorem fc_Of3 (a b : Tab) (l : List (Int × Int)) (ha : a.1.length < 1000000) (hb : b.1.length < 1000000) (hl : l.length < 1000000) : FC Tryz.prog 45 [.box [.sl 2 (l.map eP)], .box (eTb a), .box (eTb b)] [] (.ret (.int .i64 (chk l a.1.length b.1.length))) := by
  refine fc_M (fn := Tryz.f45) (C := (tab [(46, c_Check)] [])) (rs := [3]) mixed (by kernel_rfl) (by kernel_rfl) rfl rfl (by kernel_rfl) (by intro ys h; cases h) ?_
  unfold eTb
  simp +contextual (maxSteps := 5000000) only [go_sem, ↓reduceIte, c_Check, st_Check, dP_eP, eTb]
  exact fun _ _ => ⟨by omega, by omega, by omega⟩
theorem fc_Of4 (a b : Tab) (l : List (Int × Int)) (ha : a.2.length < 1000000) (hb : b.2.length < 1000000) (hl : l.length < 1000000) : FC Tryz.prog 47 [.box [.sl 2 (l.map eP)], .box (eTb a), .box (eTb b)] [] (.ret (.int .i64 (chk l a.2.length b.2.length))) := by
  refine fc_M (fn := Tryz.f47) (C := (tab [(46, c_Check)] [])) (rs := [3]) mixed (by kernel_rfl) (by kernel_rfl) rfl rfl (by kernel_rfl) (by intro ys h; cases h) ?_
  unfold eTb
  simp +contextual (maxSteps := 5000000) only [go_sem, ↓reduceIte, c_Check, st_Check, dP_eP, eTb]
  exact fun _ _ => ⟨by omega, by omega, by omega⟩
def c_O1 (t : Tab) (caps args : List D) : Prop × Out := match caps, args with | [x], [] => (x = .box (eTb t), .ret (.int .i64 (tchk t))) | _, _ => (False, .ret .any)
theorem st_O1 {t : Tab} (h : okTb t) : StC Tryz.prog 43 (c_O1 t) := by
  intro caps args; unfold c_O1; split
  · rintro rfl; exact fc_Of1 t h
  · exact fun h => h.elim
theorem st_O2 {t : Tab} (h : okTb t) : StC Tryz.prog 44 (c_O1 t) := by
  intro caps args; unfold c_O1; split
  · rintro rfl; exact fc_Of2 t h
  · exact fun h => h.elim
def c_O3 (a b : Tab) (l : List (Int × Int)) (n m : Nat) (caps args : List D) : Prop × Out := match caps, args with | [x, y, z], [] => (x = .box [.sl 2 (l.map eP)] ∧ y = .box (eTb a) ∧ z = .box (eTb b), .ret (.int .i64 (chk l n m))) | _, _ => (False, .ret .any)
theorem st_O3 {a b : Tab} {l : List (Int × Int)} (ha : a.1.length < 1000000) (hb : b.1.length < 1000000) (hl : l.length < 1000000) : StC Tryz.prog 45 (c_O3 a b l a.1.length b.1.length) := by
  intro caps args; unfold c_O3; split
  · rintro ⟨rfl, rfl, rfl⟩; exact fc_Of3 a b l ha hb hl
  · exact fun h => h.elim
theorem st_O4 {a b : Tab} {l : List (Int × Int)} (ha : a.2.length < 1000000) (hb : b.2.length < 1000000) (hl : l.length < 1000000) : StC Tryz.prog 47 (c_O3 a b l a.2.length b.2.length) := by
  intro caps args; unfold c_O3; split
  · rintro ⟨rfl, rfl, rfl⟩; exact fc_Of4 a b l ha hb hl
  · exact fun h => h.elim
/- a side, read off its cells -/
def dTo (r : List D) : Tab := match r with | [.sl _ h, .sl _ l] => (h.map dS, l.map dR) | _ => ([], [])
def dSt (x : D) : Tab := match x with | .agg [.sl _ h, .sl _ l, _, _, _] => (h.map dS, l.map dR) | _ => ([], [])
def dSr (x : D) : List Int := match x with | .agg [_, _, .sl _ r, _, _] => r.map dI | _ => []
def dSc (x : D) : List Int := match x with | .agg [_, _, _, .sl _ c, _] => c.map dI | _ => []
theorem dSt_e (t : Tab) (rs cs : List Int) : dSt (.agg (eSd t rs cs)) = t := by simp only [eSd, dSt, dS_eS, dR_eR]
theorem dSr_e (t : Tab) (rs cs : List Int) : dSr (.agg (eSd t rs cs)) = rs := by simp only [eSd, dSr, dI_eI]
theorem dSc_e (t : Tab) (rs cs : List Int) : dSc (.agg (eSd t rs cs)) = cs := by simp only [eSd, dSc, dI_eI]
def c_of1g (caps args : List D) : Prop × Out := match caps, args with | [.box r], [.int .i64 i, .int .i64 p] => (r = eTb (dTo r), .ret (.str (cellF (dTo r) i p))) | _, _ => (False, .ret .any)
theorem st_of1g : StC Tryz.prog 88 c_of1g := by
  intro caps args; unfold c_of1g; split
  · rename_i r i p
    intro h
    have := fc_of1 (dTo r) i p
    rwa [← h] at this
  · exact fun h => h.elim
def c_ofg (caps args : List D) : Prop × Out := match caps, args with | [], [.agg r, .sl 1 rs, .sl 1 cs] => (r = eTb (dTo r) ∧ rs = (rs.map dI).map eI ∧ cs = (cs.map dI).map eI, .ret (.agg (eSd (dTo r) (rs.map dI) (cs.map dI)))) | _, _ => (False, .ret .any)
theorem st_ofg : StC Tryz.prog 48 c_ofg := by
  intro caps args; unfold c_ofg; split
  · rename_i r rs cs
    rintro ⟨h, h1, h2⟩
    have := fc_of (dTo r) (rs.map dI) (cs.map dI)
    rwa [← h, ← h1, ← h2] at this
  · exact fun h => h.elim
structure okLn (t : Tab) (rs : List Int) : Prop where
  inn : ∀ i ∈ rs, 0 ≤ i ∧ i < t.2.length
  row : ∀ r ∈ t.2, r.length < 1000000000
  len : rs.length < 1000000000
def c_lng (caps args : List D) : Prop × Out := match caps, args with | [], [x] => (x = .agg (eSd (dSt x) (dSr x) (dSc x)) ∧ okLn (dSt x) (dSr x), .ret (.sl 2 ((linesF (dSt x) (dSr x)).map eL))) | _, _ => (False, .ret .any)
theorem st_lng : StC Tryz.prog 52 c_lng := by
  intro caps args; unfold c_lng; split
  · rename_i x
    rintro ⟨h, h1⟩
    have := fc_sdl (dSt x) (dSr x) (dSc x) h1.inn h1.row h1.len
    rwa [← h] at this
  · exact fun h => h.elim
def c_spg (caps args : List D) : Prop × Out := match caps, args with | [], [x] => (x = .agg (eSd (dSt x) (dSr x) (dSc x)) ∧ okSd (dSt x) (dSr x) (dSc x), .ret (.sl 3 ((spotsF (dSt x) (dSr x) (dSc x)).map eSp))) | _, _ => (False, .ret .any)
theorem st_spg : StC Tryz.prog 53 c_spg := by
  intro caps args; unfold c_spg; split
  · rename_i x
    rintro ⟨h, h1⟩
    have := fc_spots (dSt x) (dSr x) (dSc x) h1
    rwa [← h] at this
  · exact fun h => h.elim
end Go.Proofs.YtknkjakppikjeaaGreat

set_option linter.unusedSimpArgs false
namespace Go.Proofs.YtknkjakppikjeaaGreat
open Go.Tn
set_option maxHeartbeats 8000000
set_option maxRecDepth 100000
/- what build.Of makes -/
def setsAt (a b : Tab) (r c : Int × Int) : List St6 := if cellF a r.1 c.1 = cellF b r.2 c.2 then [] else [⟨r.1, r.2, c.1, c.2, cellF a r.1 c.1, cellF b r.2 c.2⟩]
def setsR (a b : Tab) (cols : List (Int × Int)) (r : Int × Int) : List St6 := cols.flatMap (setsAt a b r)
def setsF (a b : Tab) (cols rows : List (Int × Int)) : List St6 := rows.flatMap (setsR a b cols)
def bldD (a b : Tab) (cols rows : List (Int × Int)) : Dl :=
  ⟨a.1, b.1, cols, a.2.length, b.2.length, rows, linesF a (rsL (rows.map (·.1)) a.2.length), linesF b (rsL (rows.map (·.2)) b.2.length), setsF a b cols rows,
   spotsF a (rsL (rows.map (·.1)) a.2.length) (rsL (cols.map (·.1)) a.1.length), spotsF b (rsL (rows.map (·.2)) b.2.length) (rsL (cols.map (·.2)) b.1.length)⟩
def ofE (a b : Tab) (cols rows : List (Int × Int)) : Int := if tchk a ≠ 0 then tchk a else if tchk b ≠ 0 then tchk b else if chk cols a.1.length b.1.length ≠ 0 then chk cols a.1.length b.1.length else chk rows a.2.length b.2.length
def ofOut (a b : Tab) (cols rows : List (Int × Int)) : D := if ofE a b cols rows ≠ 0 then .tup [.agg eZl, .int .i64 (ofE a b cols rows)] else .tup [.agg (eDl (bldD a b cols rows)), .int .i64 (chkD (bldD a b cols rows))]
structure okOf (a b : Tab) (cols rows : List (Int × Int)) : Prop where
  ta : okTb a
  tb : okTb b
  ah : a.1.length < 1000
  bh : b.1.length < 1000
  ar : a.2.length < 1000
  br : b.2.length < 1000
  ac : ∀ r ∈ a.2, r.length < 1000000000
  bc : ∀ r ∈ b.2, r.length < 1000000000
  cl : cols.length < 1000
  rl : rows.length < 1000
  dl : okDl (bldD a b cols rows)
theorem crF_small {a b : List Int} (h1 : a.length < 1000) (h2 : b.length < 1000) : (crF a b).length < 1000000 := by
  rw [crF_len]
  calc a.length * b.length ≤ 999 * 999 := Nat.mul_le_mul (by omega) (by omega)
    _ < 1000000 := by omega
theorem okSd_of {t : Tab} {l1 l2 : List Int} (h1 : t.1.length < 1000) (h2 : t.2.length < 1000) (h3 : ∀ r ∈ t.2, r.length < 1000000000) : okSd t (rsL l1 t.2.length) (rsL l2 t.1.length) := by
  have a1 := rsL_len l1 t.2.length
  have a2 := rsL_len l2 t.1.length
  have a3 := rsL_len (rsL l1 t.2.length) t.2.length
  exact ⟨by omega, by omega, by omega, h3, crF_small (by show (rsL _ _).length < 1000; omega) (by omega)⟩
theorem okLn_of {t : Tab} {l1 : List Int} (h2 : t.2.length < 1000) (h3 : ∀ r ∈ t.2, r.length < 1000000000) : okLn t (rsL l1 t.2.length) := by
  have a1 := rsL_len l1 t.2.length
  refine ⟨fun i hi => ?_, h3, by omega⟩
  have := (mem_rsL.1 hi).1
  omega
theorem setsF_take {a b : Tab} {cols rows : List (Int × Int)} {n : Nat} (h : n < rows.length) : setsF a b cols (rows.take (n + 1)) = setsF a b cols (rows.take n) ++ setsR a b cols (rows.getD n (0, 0)) := by
  unfold setsF; rw [takeP_at h, List.flatMap_append]; simp
theorem setsR_take {a b : Tab} {cols : List (Int × Int)} {r : Int × Int} {n : Nat} (h : n < cols.length) : setsR a b (cols.take (n + 1)) r = setsR a b (cols.take n) r ++ setsAt a b r (cols.getD n (0, 0)) := by
  unfold setsR; rw [takeP_at h, List.flatMap_append]; simp
theorem setsR_len {a b : Tab} {cols : List (Int × Int)} {r : Int × Int} : (setsR a b cols r).length ≤ cols.length := by
  unfold setsR
  induction cols with
  | nil => simp
  | cons c l ih =>
    rw [List.flatMap_cons, List.length_append, List.length_cons]
    have : (setsAt a b r c).length ≤ 1 := by unfold setsAt; split <;> simp
    omega
theorem setsF_len {a b : Tab} {cols rows : List (Int × Int)} : (setsF a b cols rows).length ≤ rows.length * cols.length := by
  unfold setsF
  induction rows with
  | nil => simp
  | cons c l ih =>
    rw [List.flatMap_cons, List.length_append, List.length_cons, Nat.succ_mul]
    have := @setsR_len a b cols c
    omega
end Go.Proofs.YtknkjakppikjeaaGreat

set_option linter.unusedSimpArgs false
namespace Go.Proofs.YtknkjakppikjeaaGreat
open Go.Tn
set_option maxHeartbeats 8000000
set_option maxRecDepth 100000
theorem tfDelta : TyFact Tryz.prog 31 ⟨.struct, [(.slice none 0 0), (.slice none 0 0), (.slice none 0 0), (.int .i64 0), (.int .i64 0), (.slice none 0 0), (.slice none 0 0), (.slice none 0 0), (.slice none 0 0), (.slice none 0 0), (.slice none 0 0)], [(0, 1, false), (1, 1, false), (2, 1, false), (3, 1, false), (4, 1, false), (5, 1, false), (6, 1, false), (7, 1, false), (8, 1, false), (9, 1, false), (10, 1, false)], 0, 0, false, 0, 232⟩ := by
  have ty : tyOf Tryz.prog 31 = ⟨.struct, [(.slice none 0 0), (.slice none 0 0), (.slice none 0 0), (.int .i64 0), (.int .i64 0), (.slice none 0 0), (.slice none 0 0), (.slice none 0 0), (.slice none 0 0), (.slice none 0 0), (.slice none 0 0)], [(0, 1, false), (1, 1, false), (2, 1, false), (3, 1, false), (4, 1, false), (5, 1, false), (6, 1, false), (7, 1, false), (8, 1, false), (9, 1, false), (10, 1, false)], 0, 0, false, 0, 232⟩ := by kernel_rfl
  have hf := tyOf_fact (P := Tryz.prog) (t := 31) (by rw [ty]; intro h; cases h)
  rwa [ty] at hf
theorem fc_Of (a b : Tab) (cols rows : List (Int × Int)) (h : okOf a b cols rows) : FC Tryz.prog 16 [] [.agg (eTb a), .agg (eTb b), .sl 2 (cols.map eP), .sl 2 (rows.map eP)] (.ret (ofOut a b cols rows)) := by
  obtain ⟨hta, htb, hah, hbh, har, hbr, hac, hbc, hcl, hrl, hdl⟩ := h
  have s1 := st_O1 hta
  have s2 := st_O2 htb
  have s3 := st_O3 (a := a) (b := b) (l := cols) (by omega) (by omega) (by omega)
  have s4 := st_O4 (a := a) (b := b) (l := rows) (by omega) (by omega) (by omega)
  have s5 := st_DC hdl (by show (a.2.length : Int) < _; omega) (by show (b.2.length : Int) < _; omega)
  have k1 : tchk a ≠ 0 → ofOut a b cols rows = .tup [.agg eZl, .int .i64 (tchk a)] := fun q => by
    have : ofE a b cols rows = tchk a := by unfold ofE; rw [if_pos q]
    unfold ofOut; rw [this, if_pos q]
  have k2 : tchk a = 0 → tchk b ≠ 0 → ofOut a b cols rows = .tup [.agg eZl, .int .i64 (tchk b)] := fun q1 q => by
    have : ofE a b cols rows = tchk b := by unfold ofE; rw [if_neg (fun g => g q1), if_pos q]
    unfold ofOut; rw [this, if_pos q]
  have k3 : tchk a = 0 → tchk b = 0 → chk cols a.1.length b.1.length ≠ 0 → ofOut a b cols rows = .tup [.agg eZl, .int .i64 (chk cols a.1.length b.1.length)] := fun q1 q2 q => by
    have : ofE a b cols rows = chk cols a.1.length b.1.length := by unfold ofE; rw [if_neg (fun g => g q1), if_neg (fun g => g q2), if_pos q]
    unfold ofOut; rw [this, if_pos q]
  have k4 : tchk a = 0 → tchk b = 0 → chk cols a.1.length b.1.length = 0 → chk rows a.2.length b.2.length ≠ 0 → ofOut a b cols rows = .tup [.agg eZl, .int .i64 (chk rows a.2.length b.2.length)] := fun q1 q2 q3 q => by
    have : ofE a b cols rows = chk rows a.2.length b.2.length := by unfold ofE; rw [if_neg (fun g => g q1), if_neg (fun g => g q2), if_neg (fun g => g q3)]
    unfold ofOut; rw [this, if_pos q]
  have k5 : tchk a = 0 → tchk b = 0 → chk cols a.1.length b.1.length = 0 → chk rows a.2.length b.2.length = 0 → ofOut a b cols rows = .tup [.agg (eDl (bldD a b cols rows)), .int .i64 (chkD (bldD a b cols rows))] := fun q1 q2 q3 q => by
    have : ofE a b cols rows = 0 := by unfold ofE; rw [if_neg (fun g => g q1), if_neg (fun g => g q2), if_neg (fun g => g q3), q]
    unfold ofOut; rw [this, if_neg (fun g => g rfl)]
  have kR : ∃ d, ofOut a b cols rows = .tup d := by
    unfold ofOut
    split <;> exact ⟨_, rfl⟩
  have hda : dTo [.sl 1 (a.1.map eS), .sl 1 (a.2.map eR)] = a := by simp only [dTo, dS_eS, dR_eR]
  have hdb : dTo [.sl 1 (b.1.map eS), .sl 1 (b.2.map eR)] = b := by simp only [dTo, dS_eS, dR_eR]
  refine fcc2_of (fn := Tryz.f16) (r := 8) (q := 9) (i := 8) (C := tab [(43, c_O1 a), (44, c_O1 b), (45, c_O3 a b cols a.1.length b.1.length), (47, c_O3 a b rows a.2.length b.2.length), (49, c_RestA), (50, c_RestB), (48, c_ofg), (23, c_Clone 9 1), (51, c_Clone 45 2), (52, c_lng), (53, c_spg), (88, c_of1g), (54, c_DC (bldD a b cols rows))] [] [5011, 5012, 5013, 6011, 6012, 6013]) mixed (by kernel_rfl) (by kernel_rfl) rfl rfl tfDelta (by kernel_rfl) (by intro ys h; obtain ⟨d, e⟩ := kR; rw [e] at h; cases h) ?_
  unfold eTb
  simp +contextual (maxSteps := 5000000) only [go_sem, ↓reduceIte]
  refine M_loopI (fun i : Nat => ⟨[(4, .loc 4 0), (5, .loc 5 0), (6, .loc 6 0), (7, .loc 7 0), (8, .loc 8 0), (10, .int .i64 0), (28, .vec 27 4), (29, .int .i64 4), (30, .int .i64 i)], [(4, .blk (eTb a) true), (5, .blk (eTb b) true), (6, .blk [.sl 2 (cols.map eP)] true), (7, .blk [.sl 2 (rows.map eP)] true), (8, .blk eZl false), (27, .vec 78 1 [[.fn 43 [] [.box (eTb a)]], [.fn 44 [] [.box (eTb b)]], [.fn 45 [] [.box [.sl 2 (cols.map eP)], .box (eTb a), .box (eTb b)]], [.fn 47 [] [.box [.sl 2 (rows.map eP)], .box (eTb a), .box (eTb b)]]] 0)]⟩) (fun i => 4 - i) (fun i => i ≤ 4 ∧ (0 < i → tchk a = 0) ∧ (1 < i → tchk b = 0) ∧ (2 < i → chk cols a.1.length b.1.length = 0) ∧ (3 < i → chk rows a.2.length b.2.length = 0)) 0 ?_ ?_
  · simp +contextual (maxSteps := 5000000) only [go_sem, ↓reduceIte, eTb, eZl]
    exact ⟨rfl, rfl⟩
  intro i hi
  obtain ⟨hi, h1, h2, h3, h4⟩ := hi
  have z : i = 0 ∨ i = 1 ∨ i = 2 ∨ i = 3 ∨ i = 4 := by omega
  rcases z with rfl | rfl | rfl | rfl | rfl
  · by_cases q : tchk a = 0
    · simp +contextual (maxSteps := 5000000) only [go_sem, ↓reduceIte, Int.reduceEq, Int.reduceNe, Int.reduceLT, Int.reduceLE, Int.reduceToNat, Int.cast_ofNat_Int, eTb, eZl, c_O1, s1, q]
      refine ⟨inR64 (by omega) (by omega), fun _ => ⟨1, by simp, by omega, by omega, ?_⟩⟩
      and_intros <;> intro _ <;> first | exact q | exact h1 (by omega) | exact h2 (by omega) | exact h3 (by omega) | omega
    · rw [k1 q]
      simp +contextual (maxSteps := 5000000) only [go_sem, ↓reduceIte, Int.reduceEq, Int.reduceNe, Int.reduceLT, Int.reduceLE, Int.reduceToNat, Int.cast_ofNat_Int, eTb, eZl, c_O1, s1, q, finC2, finCB2, locR]
  · by_cases q : tchk b = 0
    · simp +contextual (maxSteps := 5000000) only [go_sem, ↓reduceIte, Int.reduceEq, Int.reduceNe, Int.reduceLT, Int.reduceLE, Int.reduceToNat, Int.cast_ofNat_Int, eTb, eZl, c_O1, s2, q]
      refine ⟨inR64 (by omega) (by omega), fun _ => ⟨2, by simp, by omega, by omega, ?_⟩⟩
      and_intros <;> intro _ <;> first | exact q | exact h1 (by omega) | exact h2 (by omega) | exact h3 (by omega) | omega
    · rw [k2 (h1 (by omega)) q]
      simp +contextual (maxSteps := 5000000) only [go_sem, ↓reduceIte, Int.reduceEq, Int.reduceNe, Int.reduceLT, Int.reduceLE, Int.reduceToNat, Int.cast_ofNat_Int, eTb, eZl, c_O1, s2, q, finC2, finCB2, locR]
  · by_cases q : chk cols a.1.length b.1.length = 0
    · simp +contextual (maxSteps := 5000000) only [go_sem, ↓reduceIte, Int.reduceEq, Int.reduceNe, Int.reduceLT, Int.reduceLE, Int.reduceToNat, Int.cast_ofNat_Int, eTb, eZl, c_O3, s3, q]
      refine ⟨inR64 (by omega) (by omega), fun _ => ⟨3, by simp, by omega, by omega, ?_⟩⟩
      and_intros <;> intro _ <;> first | exact q | exact h1 (by omega) | exact h2 (by omega) | exact h3 (by omega) | omega
    · rw [k3 (h1 (by omega)) (h2 (by omega)) q]
      simp +contextual (maxSteps := 5000000) only [go_sem, ↓reduceIte, Int.reduceEq, Int.reduceNe, Int.reduceLT, Int.reduceLE, Int.reduceToNat, Int.cast_ofNat_Int, eTb, eZl, c_O3, s3, q, finC2, finCB2, locR]
  · by_cases q : chk rows a.2.length b.2.length = 0
    · simp +contextual (maxSteps := 5000000) only [go_sem, ↓reduceIte, Int.reduceEq, Int.reduceNe, Int.reduceLT, Int.reduceLE, Int.reduceToNat, Int.cast_ofNat_Int, eTb, eZl, c_O3, s4, q]
      refine ⟨inR64 (by omega) (by omega), fun _ => ⟨4, by simp, by omega, by omega, ?_⟩⟩
      and_intros <;> intro _ <;> first | exact q | exact h1 (by omega) | exact h2 (by omega) | exact h3 (by omega) | omega
    · rw [k4 (h1 (by omega)) (h2 (by omega)) (h3 (by omega)) q]
      simp +contextual (maxSteps := 5000000) only [go_sem, ↓reduceIte, Int.reduceEq, Int.reduceNe, Int.reduceLT, Int.reduceLE, Int.reduceToNat, Int.cast_ofNat_Int, eTb, eZl, c_O3, s4, q, finC2, finCB2, locR]
  have z1 := h1 (by omega)
  have z2 := h2 (by omega)
  have z3 := h3 (by omega)
  have z4 := h4 (by omega)
  rw [k5 z1 z2 z3 z4]
  clear h1 h2 h3 h4 k1 k2 k3 k4 k5 hi kR s1 s2 s3 s4
  have sdA := okSd_of (l1 := rows.map (·.1)) (l2 := cols.map (·.1)) hah har hac
  have sdB := okSd_of (l1 := rows.map (·.2)) (l2 := cols.map (·.2)) hbh hbr hbc
  have lnA := okLn_of (l1 := rows.map (·.1)) har hac
  have lnB := okLn_of (l1 := rows.map (·.2)) hbr hbc
  have hBD : eDl (bldD a b cols rows) = [.sl 1 (a.1.map eS), .sl 1 (b.1.map eS), .sl 2 (cols.map eP), .int .i64 a.2.length, .int .i64 b.2.length, .sl 2 (rows.map eP), .sl 2 ((linesF a (rsL (rows.map (·.1)) a.2.length)).map eL), .sl 2 ((linesF b (rsL (rows.map (·.2)) b.2.length)).map eL), .sl 6 ((setsF a b cols rows).map eD6), .sl 3 ((spotsF a (rsL (rows.map (·.1)) a.2.length) (rsL (cols.map (·.1)) a.1.length)).map eSp), .sl 3 ((spotsF b (rsL (rows.map (·.2)) b.2.length) (rsL (cols.map (·.2)) b.1.length)).map eSp)] := rfl
  simp +contextual (maxSteps := 5000000) only [go_sem, ↓reduceIte, Int.reduceEq, Int.reduceNe, Int.reduceLT, Int.reduceLE, Int.reduceToNat, Int.cast_ofNat_Int]
  obtain ⟨rA, hrA⟩ : ∃ x, rsL (rows.map (·.1)) a.2.length = x := ⟨_, rfl⟩
  obtain ⟨cA, hcA⟩ : ∃ x, rsL (cols.map (·.1)) a.1.length = x := ⟨_, rfl⟩
  obtain ⟨rB, hrB⟩ : ∃ x, rsL (rows.map (·.2)) b.2.length = x := ⟨_, rfl⟩
  obtain ⟨cB, hcB⟩ : ∃ x, rsL (cols.map (·.2)) b.1.length = x := ⟨_, rfl⟩
  rw [hrA, hcA, hrB, hcB] at hBD
  rw [hrA, hcA] at sdA
  rw [hrB, hcB] at sdB
  rw [hrA] at lnA
  rw [hrB] at lnB
  refine M_join (fun _ : Unit => ⟨[(4, .loc 4 0), (5, .loc 5 0), (6, .loc 6 0), (7, .loc 7 0), (8, .loc 8 0), (14, .loc 14 0)], [(4, .blk (eTb a) true), (5, .blk (eTb b) true), (6, .blk [.sl 2 (cols.map eP)] true), (7, .blk [.sl 2 (rows.map eP)] true), (8, .blk eZl false), (14, .blk (eSd a rA cA) false)]⟩) (fun _ => True) ?_ ?_
  · simp +contextual (maxSteps := 5000000) only [go_sem, ↓reduceIte, eTb, eZl, eSd, c_RestA, st_RestA, c_ofg, st_ofg, dP_eP, dI_eI, hda, hrA, hcA, gI]
    exact ⟨⟨by omega, by omega⟩, ⟨by omega, by omega⟩, (), trivial⟩
  intro _ _
  unfold eTb
  simp +contextual (maxSteps := 5000000) only [go_sem, ↓reduceIte]
  refine M_join (fun _ : Unit => ⟨[(4, .loc 4 0), (5, .loc 5 0), (6, .loc 6 0), (7, .loc 7 0), (8, .loc 8 0), (14, .loc 14 0), (15, .loc 15 0)], [(4, .blk (eTb a) true), (5, .blk (eTb b) true), (6, .blk [.sl 2 (cols.map eP)] true), (7, .blk [.sl 2 (rows.map eP)] true), (8, .blk eZl false), (14, .blk (eSd a rA cA) false), (15, .blk (eSd b rB cB) false)]⟩) (fun _ => True) ?_ ?_
  · simp +contextual (maxSteps := 5000000) only [go_sem, ↓reduceIte, eTb, eZl, eSd, c_RestB, st_RestB, c_ofg, st_ofg, dP_eP, dI_eI, hdb, hrB, hcB, gI]
    exact ⟨⟨by omega, by omega⟩, ⟨by omega, by omega⟩, (), trivial⟩
  intro _ _
  unfold eTb eSd
  simp +contextual (maxSteps := 5000000) only [go_sem, ↓reduceIte]
  refine M_join (fun _ : Unit => ⟨[(6, .loc 6 0), (7, .loc 7 0), (8, .loc 8 0), (14, .loc 14 0), (15, .loc 15 0), (16, .loc 16 0)], [(6, .blk [.sl 2 (cols.map eP)] true), (7, .blk [.sl 2 (rows.map eP)] true), (8, .blk eZl false), (14, .blk (eSd a rA cA) false), (15, .blk (eSd b rB cB) false), (16, .blk [.sl 1 (a.1.map eS), .sl 1 (b.1.map eS), .sl 2 (cols.map eP), .int .i64 a.2.length, .int .i64 b.2.length, .sl 2 (rows.map eP), .sl 2 ((linesF a rA).map eL), .sl 2 ((linesF b rB).map eL), .nil, .sl 3 ((spotsF a rA cA).map eSp), .sl 3 ((spotsF b rB cB).map eSp)] false)]⟩) (fun _ => True) ?_ ?_
  · simp +contextual (maxSteps := 5000000) only [go_sem, ↓reduceIte, eTb, eZl, eSd, c_Clone, st_CloneS, st_CloneQ, c_lng, st_lng, c_spg, st_spg, dSt, dSr, dSc, dS_eS, dR_eR, dI_eI, lnA, lnB, sdA, sdB]
    exact ⟨by omega, by omega, by omega, by omega, (), trivial⟩
  intro _ _
  unfold eSd
  simp +contextual (maxSteps := 5000000) only [go_sem, ↓reduceIte]
  have hwa : wkL (eTb a) (eTb a) := wkL_self _
  have hwb : wkL (eTb b) (eTb b) := wkL_self _
  refine fun _ => M_loopI (fun n : Nat => ⟨[(6, .loc 6 0), (8, .loc 8 0), (14, .loc 14 0), (15, .loc 15 0), (16, .loc 16 0), (92, .sl 2 (rows.map eP)), (93, .int .i64 rows.length), (94, .int .i64 n)], [(6, .blk [.sl 2 (cols.map eP)] true), (8, .blk eZl false), (14, .blk (eSd a rA cA) false), (15, .blk (eSd b rB cB) false), (16, .blk [.sl 1 (a.1.map eS), .sl 1 (b.1.map eS), .sl 2 (cols.map eP), .int .i64 a.2.length, .int .i64 b.2.length, .sl 2 (rows.map eP), .sl 2 ((linesF a rA).map eL), .sl 2 ((linesF b rB).map eL), .vec 134 (setsF a b cols (rows.take n)).length, .sl 3 ((spotsF a rA cA).map eSp), .sl 3 ((spotsF b rB cB).map eSp)] false), (134, .vec 47 6 ((setsF a b cols (rows.take n)).map eD6) 0)]⟩) (fun n => rows.length - n) (fun n => n ≤ rows.length) 0 ?_ ?_
  · simp +contextual (maxSteps := 5000000) only [go_sem, ↓reduceIte, eTb, eZl, eSd]
    exact ⟨rfl, rfl, rfl⟩
  intro n hn
  by_cases hlt : n < rows.length
  · have hat := eP_at rows n hlt
    have hs := setsF_take (a := a) (b := b) (cols := cols) hlt
    have hl1 : (setsF a b cols (rows.take n)).length < 1000000 := by
      have h1 := @setsF_len a b cols (rows.take n)
      have h2 : (rows.take n).length ≤ 999 := by rw [List.length_take]; omega
      have h3 := Nat.mul_le_mul h2 (show cols.length ≤ 999 by omega)
      omega
    generalize rows.getD n (0, 0) = r at hat hs
    unfold eSd
    simp +contextual (maxSteps := 5000000) only [go_sem, ↓reduceIte, hlt, hat, eZl]
    refine fun _ => M_loopI (fun m : Nat => ⟨[(6, .loc 6 0), (8, .loc 8 0), (14, .loc 14 0), (15, .loc 15 0), (16, .loc 16 0), (92, .sl 2 (rows.map eP)), (93, .int .i64 rows.length), (94, .int .i64 n), (18, .loc 18 0), (98, .sl 2 (cols.map eP)), (99, .int .i64 cols.length), (100, .int .i64 m)], [(6, .blk [.sl 2 (cols.map eP)] true), (8, .blk eZl false), (14, .blk (eSd a rA cA) false), (15, .blk (eSd b rB cB) false), (16, .blk [.sl 1 (a.1.map eS), .sl 1 (b.1.map eS), .sl 2 (cols.map eP), .int .i64 a.2.length, .int .i64 b.2.length, .sl 2 (rows.map eP), .sl 2 ((linesF a rA).map eL), .sl 2 ((linesF b rB).map eL), .vec 134 (setsF a b cols (rows.take n) ++ setsR a b (cols.take m) r).length, .sl 3 ((spotsF a rA cA).map eSp), .sl 3 ((spotsF b rB cB).map eSp)] false), (134, .vec 47 6 ((setsF a b cols (rows.take n) ++ setsR a b (cols.take m) r).map eD6) 0), (18, .blk [.int .i64 r.1, .int .i64 r.2] false)]⟩) (fun m => cols.length - m) (fun m => m ≤ cols.length) 0 ?_ ?_
    · simp +contextual (maxSteps := 5000000) only [go_sem, ↓reduceIte, eTb, eZl, eSd]
      have e0 : setsR a b [] r = [] := rfl
      exact ⟨rfl, by rw [e0]; rfl, by rw [e0, List.append_nil]⟩
    intro m hm
    have hl2 : (setsR a b (cols.take m) r).length < 1000 := by
      have h1 := @setsR_len a b (cols.take m) r
      rw [List.length_take] at h1; omega
    by_cases hlm : m < cols.length
    · have hat2 := eP_at cols m hlm
      have hs2 := setsR_take (a := a) (b := b) (r := r) hlm
      generalize cols.getD m (0, 0) = c at hat2 hs2
      by_cases q : cellF a r.1 c.1 = cellF b r.2 c.2
      · have e0 : setsAt a b r c = [] := by unfold setsAt; rw [if_pos q]
        rw [e0, List.append_nil] at hs2
        unfold eSd
        simp +contextual (maxSteps := 5000000) only [go_sem, ↓reduceIte, hlt, hlm, hat2, c_of1g, st_of1g, hda, hdb, eTb, eZl, q]
        exact ⟨inR64 (by omega) (by omega), fun _ => ⟨m + 1, ⟨by simp, by rw [hs2], by rw [hs2]⟩, by omega, by omega⟩⟩
      · have e0 : setsAt a b r c = [⟨r.1, r.2, c.1, c.2, cellF a r.1 c.1, cellF b r.2 c.2⟩] := by unfold setsAt; rw [if_neg q]
        rw [e0] at hs2
        unfold eSd
        simp +contextual (maxSteps := 5000000) only [go_sem, ↓reduceIte, hlt, hlm, hat2, c_of1g, st_of1g, hda, hdb, eTb, eZl, q]
        exact ⟨by omega, fun _ => ⟨inR64 (by omega) (by omega), fun _ => ⟨m + 1, ⟨by simp, by rw [hs2, List.length_append]; rfl, by rw [hs2, ← List.append_assoc, List.map_append (l₁ := _ ++ _)]; rfl⟩, by omega, by omega⟩⟩⟩
    · obtain rfl : m = cols.length := by omega
      rw [List.take_length, ← hs]
      unfold eSd
      simp +contextual (maxSteps := 5000000) only [go_sem, ↓reduceIte, hlt, hlm, Nat.lt_irrefl, eZl, hwa, hwb]
      exact ⟨inR64 (by omega) (by omega), fun _ => ⟨n + 1, ⟨by simp, rfl, rfl⟩, by omega, by omega⟩⟩
  obtain rfl : n = rows.length := by omega
  rw [List.take_length]
  unfold eSd
  simp +contextual (maxSteps := 5000000) only [go_sem, ↓reduceIte, hlt, Nat.lt_irrefl, eZl, c_DC, s5, hBD, finC2, finCB2, locR]
end Go.Proofs.YtknkjakppikjeaaGreat

set_option linter.unusedSimpArgs false
namespace Go.Proofs.YtknkjakppikjeaaGreat
open Go.Tn
set_option maxHeartbeats 8000000
set_option maxRecDepth 100000
/- what build.Of makes may be a delta, and turns the one table into the other one -/
structure TOk (t : Tab) : Prop where
  ne : 0 < t.1.length
  wid : ∀ r ∈ t.2, r.length = t.1.length
  once : onceF t.1 = true
  hd : t.1.length ≤ 40
  rs : t.2.length ≤ 400
  tx : ∀ s ∈ alF t, s.length ≤ 1000
theorem tok_of {t : Tab} (h : tchk t = 0) : TOk t := by
  unfold tchk at h
  by_cases a : tc1 t = 0
  · rw [if_neg (fun h => h a)] at h
    by_cases b : tc2 t = 0
    · rw [if_neg (fun h => h b)] at h
      by_cases c : tc3 t = 0
      · rw [if_neg (fun h => h c)] at h
        unfold tc4 at h
        by_cases d : 40 < t.1.length ∨ 400 < t.2.length
        · rw [if_pos d] at h; cases h
        · rw [if_neg d] at h
          by_cases e : ∃ s ∈ alF t, 1000 < s.length
          · rw [if_pos e] at h; cases h
          · refine ⟨?_, ?_, ?_, by omega, by omega, fun s hs => ?_⟩
            · unfold tc1 at a
              by_cases g : 0 < t.1.length
              · exact g
              · rw [if_neg g] at a; cases a
            · unfold tc2 at b
              intro r hr
              by_cases g : (t.2.any fun r => decide (r.length ≠ t.1.length)) = true
              · rw [if_pos g] at b; cases b
              · refine Classical.byContradiction fun hne => g (List.any_eq_true.2 ⟨r, hr, decide_eq_true hne⟩)
            · unfold tc3 at c
              by_cases g : onceF t.1 = true
              · exact g
              · rw [if_neg g] at c; cases c
            · exact Nat.le_of_not_lt fun hl => e ⟨s, hs, hl⟩
      · rw [if_pos c] at h; exact absurd h c
    · rw [if_pos b] at h; exact absurd h b
  · rw [if_pos a] at h; exact absurd h a
structure OfOk (a b : Tab) (cols rows : List (Int × Int)) : Prop where
  ta : TOk a
  tb : TOk b
  za : tchk a = 0
  zb : tchk b = 0
  cols : Good cols a.1.length b.1.length
  rows : Good rows a.2.length b.2.length
theorem ofOk_of {a b : Tab} {cols rows : List (Int × Int)} (h : ofE a b cols rows = 0) : OfOk a b cols rows := by
  unfold ofE at h
  by_cases p : tchk a = 0
  · rw [if_neg (fun h => h p)] at h
    by_cases q : tchk b = 0
    · rw [if_neg (fun h => h q)] at h
      by_cases c : chk cols a.1.length b.1.length = 0
      · rw [if_neg (fun h => h c)] at h
        exact ⟨tok_of p, tok_of q, p, q, (chk_zero _ _ _).1 c, (chk_zero _ _ _).1 h⟩
      · rw [if_pos c] at h; exact absurd h c
    · rw [if_pos q] at h; exact absurd h q
  · rw [if_pos p] at h; exact absurd h p
theorem mtF_self {α β : Type} {q : α → β → Bool} {f : β → α} : ∀ {r : List β}, (∀ y ∈ r, q (f y) y = true) → mtF q (r.map f) r = true
  | [], _ => rfl
  | y :: r, h => by
    simp only [List.map_cons, mtF, Bool.and_eq_true]
    exact ⟨h y (by simp), mtF_self fun z hz => h z (by simp [hz])⟩
theorem lines_ok {t : Tab} (h : TOk t) (l : List Int) : mtF (isL t.1.length) (linesF t (rsL l t.2.length)) (rsL l t.2.length) = true := by
  unfold linesF
  refine mtF_self fun i hi => ?_
  have hm := (mem_rsL.1 hi).1
  have := h.wid _ (getD_mem (l := t.2) (d := ([] : List Str)) (show i.toNat < t.2.length by omega))
  simp only [isL, decide_eq_true_eq]
  exact ⟨trivial, by omega⟩
theorem spots_ok {t : Tab} (rs cs : List Int) : mtF isS (spotsF t rs cs) (crF (wiF rs t.2.length) cs) = true := by
  unfold spotsF
  refine mtF_self fun x _ => ?_
  simp [isS]
theorem mem_setsF {a b : Tab} {cols rows : List (Int × Int)} {s : St6} : s ∈ setsF a b cols rows ↔ ∃ r ∈ rows, ∃ c ∈ cols, cellF a r.1 c.1 ≠ cellF b r.2 c.2 ∧ s = ⟨r.1, r.2, c.1, c.2, cellF a r.1 c.1, cellF b r.2 c.2⟩ := by
  unfold setsF setsR setsAt
  simp only [List.mem_flatMap]
  constructor
  · rintro ⟨r, hr, c, hc, h⟩
    by_cases e : cellF a r.1 c.1 = cellF b r.2 c.2
    · rw [if_pos e] at h; simp at h
    · rw [if_neg e] at h; exact ⟨r, hr, c, hc, e, by simpa using h⟩
  · rintro ⟨r, hr, c, hc, e, rfl⟩
    exact ⟨r, hr, c, hc, by rw [if_neg e]; simp⟩
theorem lt_pw {l : List (Int × Int)} (h1 : l.Pairwise fun p q => p.2 ≤ q.2) (h2 : (l.map (·.2)).Nodup) : l.Pairwise fun p q => p.2 < q.2 := by
  have h2 : l.Pairwise fun p q => p.2 ≠ q.2 := List.pairwise_map.1 h2
  exact h1.imp₂ (fun {p q} h g => by omega) h2
theorem setsR_up {a b : Tab} {r : Int × Int} : ∀ {cols : List (Int × Int)}, cols.Pairwise (fun p q => p.2 < q.2) → (setsR a b cols r).Pairwise ltS := by
  intro cols h
  unfold setsR
  rw [List.pairwise_flatMap]
  refine ⟨fun c _ => ?_, h.imp fun {c d} hcd x hx y hy => ?_⟩
  · unfold setsAt; split <;> simp
  · unfold setsAt at hx hy
    split at hx
    · simp at hx
    · split at hy
      · simp at hy
      · simp only [List.mem_singleton] at hx hy
        subst hx hy
        exact (ltS_iff _ _).2 (.inr ⟨rfl, hcd⟩)
theorem setsF_up {a b : Tab} {cols rows : List (Int × Int)} (hc : cols.Pairwise (fun p q => p.2 < q.2)) (hr : rows.Pairwise (fun p q => p.2 < q.2)) : (setsF a b cols rows).Pairwise ltS := by
  unfold setsF
  rw [List.pairwise_flatMap]
  refine ⟨fun r _ => setsR_up hc, hr.imp fun {c d} hcd x hx y hy => ?_⟩
  have h1 : ∀ {r : Int × Int} {x : St6}, x ∈ setsR a b cols r → x.j = r.2 := fun {r x} hx => by
    unfold setsR setsAt at hx
    obtain ⟨c, _, hx⟩ := List.mem_flatMap.1 hx
    split at hx
    · simp at hx
    · simp only [List.mem_singleton] at hx
      rw [hx]
  exact (ltS_iff _ _).2 (.inl (by rw [h1 hx, h1 hy]; exact hcd))
theorem cell_tx {t : Tab} (h : TOk t) (i j : Int) : (cellF t i j).length ≤ 1000 := by
  unfold cellF
  split
  · simp
  · rename_i g
    refine h.tx _ ?_
    unfold alF
    refine List.mem_flatten.2 ⟨t.2.getD i.toNat [], List.mem_cons.2 (.inr (getD_mem (by omega))), getD_mem (by omega)⟩
theorem bld_ok {a b : Tab} {cols rows : List (Int × Int)} (h : OfOk a b cols rows) : OkD (bldD a b cols rows) := by
  have hta := h.ta
  have htb := h.tb
  have e1 : (bldD a b cols rows).na.toNat = a.2.length := Int.toNat_natCast _
  have e2 : (bldD a b cols rows).nb.toNat = b.2.length := Int.toNat_natCast _
  refine ⟨⟨hta.ne, htb.ne⟩, ⟨hta.once, htb.once⟩, ⟨⟨hta.hd, htb.hd⟩, ?_, ?_⟩, h.cols, h.rows, ⟨?_, ?_⟩, ⟨?_, ?_⟩, ⟨?_, ?_⟩, ?_⟩
  · show (a.2.length : Int) ≤ 400
    have := hta.rs; omega
  · show (b.2.length : Int) ≤ 400
    have := htb.rs; omega
  · unfold goneR; rw [e1]; exact lines_ok hta _
  · unfold newR'; rw [e2]; exact lines_ok htb _
  · unfold goneR goneC; rw [e1]; exact spots_ok _ _
  · unfold newR' newC; rw [e2]; exact spots_ok _ _
  · intro x hx
    obtain ⟨r, hr, c, hc, hne, rfl⟩ := mem_setsF.1 hx
    exact ⟨⟨hr, hc⟩, hne⟩
  · exact setsF_up (lt_pw h.cols.up h.cols.nb) (lt_pw h.rows.up h.rows.nb)
  · rintro ⟨s, hs, hl⟩
    refine absurd hl (Nat.not_lt.2 ?_)
    have hd : ∀ {t : Tab}, TOk t → ∀ s ∈ t.1, s.length ≤ 1000 := fun {t} h s hs => h.tx s (List.mem_flatten.2 ⟨t.1, by simp, hs⟩)
    have hln : ∀ {t : Tab}, TOk t → ∀ l s, s ∈ txL (linesF t (rsL l t.2.length)) → s.length ≤ 1000 := fun {t} h l s hs => by
      obtain ⟨x, hx, hs⟩ := List.mem_flatMap.1 hs
      obtain ⟨i, hi, rfl⟩ := List.mem_map.1 hx
      have hm := (mem_rsL.1 hi).1
      refine h.tx s (List.mem_flatten.2 ⟨t.2.getD i.toNat [], List.mem_cons.2 (.inr (getD_mem (by omega))), hs⟩)
    have hsp : ∀ {t : Tab}, TOk t → ∀ rs cs s, s ∈ txP (spotsF t rs cs) → s.length ≤ 1000 := fun {t} h rs cs s hs => by
      obtain ⟨x, hx, rfl⟩ := List.mem_map.1 hs
      obtain ⟨y, _, rfl⟩ := List.mem_map.1 hx
      exact cell_tx h _ _
    unfold txF at hs
    have t1 : ∀ a b : List Ln, txL (a ++ b) = txL a ++ txL b := fun a b => by unfold txL; simp
    have t2 : ∀ a b : List Sp, txP (a ++ b) = txP a ++ txP b := fun a b => by unfold txP; simp
    rw [t1, t2] at hs
    simp only [List.mem_append] at hs
    rcases hs with (((hs | hs) | hs | hs) | hs) | hs | hs
    · exact hd hta s hs
    · exact hd htb s hs
    · exact hln hta _ s hs
    · exact hln htb _ s hs
    · obtain ⟨x, hx, hs⟩ := List.mem_flatMap.1 hs
      obtain ⟨r, hr, c, hc, hne, rfl⟩ := mem_setsF.1 hx
      simp only [List.mem_cons, List.not_mem_nil, or_false] at hs
      rcases hs with rfl | rfl
      · exact cell_tx hta _ _
      · exact cell_tx htb _ _
    · exact hsp hta _ _ s hs
    · exact hsp htb _ _ s hs
theorem bld_held {a b : Tab} {cols rows : List (Int × Int)} : HeldP a (bldD a b cols rows) := by
  refine ⟨fun x hx => ?_, fun x hx => ?_, fun x hx => ?_⟩
  · obtain ⟨i, hi, rfl⟩ := List.mem_map.1 hx
    have hm := (mem_rsL.1 hi).1
    exact ⟨hm.1, by have := hm.2; omega, rfl⟩
  · obtain ⟨r, hr, c, hc, hne, rfl⟩ := mem_setsF.1 hx
    rfl
  · obtain ⟨y, _, rfl⟩ := List.mem_map.1 hx
    rfl
theorem nodup_inj {α : Type} {f : α → Int} {x y : α} : ∀ {l : List α}, (l.map f).Nodup → x ∈ l → y ∈ l → f x = f y → x = y
  | z :: l, h, hx, hy, e => by
    rw [List.map_cons, List.nodup_cons] at h
    rcases List.mem_cons.1 hx with rfl | hx2
    · rcases List.mem_cons.1 hy with rfl | hy2
      · rfl
      · exact absurd (List.mem_map.2 ⟨y, hy2, e.symm⟩) h.1
    · rcases List.mem_cons.1 hy with rfl | hy2
      · exact absurd (List.mem_map.2 ⟨x, hx2, e⟩) h.1
      · exact nodup_inj h.2 hx2 hy2 e
theorem bld_cell {a b : Tab} {cols rows : List (Int × Int)} (h : OfOk a b cols rows) {p : Int × Int} (hp : p ∈ rows) {q : Nat} (hq : q < b.1.length) : ceF a (toldM (bldD a b cols rows)) (fromM cols) p.1 p.2 q = cellF b p.2 q := by
  have g := bld_ok h
  by_cases hm : (q : Int) ∈ cols.map (·.2)
  · obtain ⟨c, hc, hcq⟩ := List.mem_map.1 hm
    have hcq : c.2 = q := hcq
    have hfr : mlk (fromM cols) (q : Int) = c.1 := by rw [← hcq]; exact g.from_col (p := c) hc
    by_cases e : cellF a p.1 c.1 = cellF b p.2 c.2
    · rw [ce_none (told_none ?_ ?_), hfr, e, hcq]
      · intro s hs hk
        obtain ⟨r, hr, c', hc', hne, rfl⟩ := mem_setsF.1 hs
        simp only [keyS, Prod.mk.injEq] at hk
        have hr' : r = p := nodup_inj h.rows.nb hr hp hk.1
        have hc2 : c' = c := nodup_inj h.cols.nb hc' hc (by rw [hk.2, hcq])
        subst hr' hc2
        exact hne e
      · intro x hx hk
        have h1 := (g.gainM hx).2
        simp only [Prod.mk.injEq] at hk
        rw [hk.2] at h1
        exact (mem_rsL.1 h1).2 (List.mem_map.2 ⟨c, hc, hcq⟩)
    · have hs : (⟨p.1, p.2, c.1, c.2, cellF a p.1 c.1, cellF b p.2 c.2⟩ : St6) ∈ (bldD a b cols rows).sets := mem_setsF.2 ⟨p, hp, c, hc, e, rfl⟩
      have := g.told_set hs
      simp only [hcq] at this
      exact ce_some this
  · have hn : (q : Int) ∈ newC (bldD a b cols rows) := mem_rsL.2 ⟨⟨by omega, by show (q : Int) < (b.1.length : Nat); omega⟩, hm⟩
    obtain ⟨x, hx, e⟩ := g.gainE (p := p) hp hn
    simp only [Prod.mk.injEq] at e
    have := g.told_gain hx
    rw [e.1, e.2] at this
    obtain ⟨y, _, rfl⟩ := List.mem_map.1 hx
    simp only at e this
    rw [ce_some this, e.1, e.2]
theorem row_cell {t : Tab} (h : TOk t) {k q : Nat} (hk : k < t.2.length) (hq : q < t.1.length) : cellF t k q = (t.2.getD k []).getD q [] := by
  have hw := h.wid _ (getD_mem (l := t.2) (d := ([] : List Str)) hk)
  unfold cellF
  rw [Int.toNat_natCast, Int.toNat_natCast, if_neg (by omega)]
theorem bld_res {a b : Tab} {cols rows : List (Int × Int)} (h : OfOk a b cols rows) : resT a (bldD a b cols rows) = b := by
  have g := bld_ok h
  have hl : (resT a (bldD a b cols rows)).2.length = b.2.length := by rw [resT_len]; exact Int.toNat_natCast _
  refine Prod.ext rfl (List.ext_getElem? fun k => ?_)
  by_cases hk : k < b.2.length
  · have hbk : b.2[k]? = some (b.2.getD k []) := by rw [List.getD_eq_getElem?_getD, List.getElem?_eq_getElem hk]; rfl
    rw [hbk]
    by_cases hm : (k : Int) ∈ rows.map (·.2)
    · obtain ⟨p, hp, e⟩ := List.mem_map.1 hm
      have e : p.2 = k := e
      have hr := g.row_at a (p := p) hp
      rw [e, Int.toNat_natCast] at hr
      rw [hr]
      congr 1
      have hw := h.tb.wid _ (getD_mem (l := b.2) (d := ([] : List Str)) hk)
      refine List.ext_getElem (by rw [nrow_len, hw]; rfl) fun q h1 h2 => ?_
      have hq : q < b.1.length := by omega
      have h3 := nrow_at a (bldD a b cols rows) p.1 k hq
      have h4 := bld_cell h hp hq
      rw [e] at h4
      have h5 := row_cell h.tb hk hq
      have h6 : (nrow a (bldD a b cols rows) p.1 k).getD q [] = (nrow a (bldD a b cols rows) p.1 k)[q] := by rw [List.getD_eq_getElem?_getD, List.getElem?_eq_getElem h1]; rfl
      have h7 : (b.2.getD k []).getD q [] = (b.2.getD k [])[q] := by rw [List.getD_eq_getElem?_getD, List.getElem?_eq_getElem h2]; rfl
      rw [← h6, ← h7, h3, ← h5]
      exact h4
    · have hx : ((k : Int), b.2.getD k []) ∈ (bldD a b cols rows).inss := List.mem_map.2 ⟨k, mem_rsL.2 ⟨⟨by omega, by omega⟩, hm⟩, by rw [Int.toNat_natCast]⟩
      have := g.ins_at a hx
      rwa [Int.toNat_natCast] at this
  · rw [List.getElem?_eq_none (by omega), List.getElem?_eq_none (by omega)]
theorem bld_ap {a b : Tab} {cols rows : List (Int × Int)} (h : OfOk a b cols rows) : chkD (bldD a b cols rows) = 0 ∧ apOut a (bldD a b cols rows) = .tup [.agg (eTb b), .int .i64 0] ∧ apOut b (turnD (bldD a b cols rows)) = .tup [.agg (eTb a), .int .i64 0] := by
  have g := bld_ok h
  have hz : chkD (bldD a b cols rows) = 0 := (chkD_zero _).2 g
  have hw : wrongF a (bldD a b cols rows) = 0 := wrong_of h.za hz rfl rfl ((heldF_iff _ _).2 bld_held)
  have hr := bld_res h
  have ha : apE a (bldD a b cols rows) = 0 := by unfold apE; rw [if_neg (fun h => h hw), hr]; exact h.zb
  have hb := back_zero ha
  rw [hr] at hb
  refine ⟨hz, ?_, ?_⟩
  · rcases ap_cases a (bldD a b cols rows) with ⟨h1, _⟩ | ⟨_, h2⟩
    · exact absurd ha h1
    · rw [h2, hr]
  · rcases ap_cases b (turnD (bldD a b cols rows)) with ⟨h1, _⟩ | ⟨_, h2⟩
    · exact absurd hb.1 h1
    · rw [h2, hb.2]
end Go.Proofs.YtknkjakppikjeaaGreat

set_option linter.unusedSimpArgs false
namespace Go.Proofs.YtknkjakppikjeaaGreat
open Go.Tn
set_option maxHeartbeats 8000000
set_option maxRecDepth 100000
def c_TSm (t : Tab) (caps args : List D) : Prop × Out := match caps, args with | [], [x, y] => (x = .agg (eTb t) ∧ y = .agg (eTb t), .ret (.bool true)) | _, _ => (False, .ret .any)
theorem st_TSm (t : Tab) : StC Tryz.prog 17 (c_TSm t) := by
  intro caps args; unfold c_TSm; split
  · rintro ⟨rfl, rfl⟩
    have := fc_TSame t t
    rw [(sameT_iff t t).2 rfl] at this
    exact this
  · exact fun h => h.elim
end Go.Proofs.YtknkjakppikjeaaGreat

set_option linter.unusedSimpArgs false
namespace Go.Proofs.YtknkjakppikjeaaGreat
open Go.Tn
set_option maxHeartbeats 8000000
set_option maxRecDepth 100000
/- the law ApplyOf -/
def few14 (a b : Tab) : Bool := few4 a && few4 b && decide (a.2.length ≤ 25) && decide (b.2.length ≤ 25) && decide (a.1.length ≤ 12) && decide (b.1.length ≤ 12)
def c_fewX (a b : Tab) (caps args : List D) : Prop × Out := match caps, args with | [], [.agg r] => ((.agg r = D.agg (eTb a) ∨ .agg r = D.agg (eTb b)), .ret (.bool (few4 (dTo r)))) | _, _ => (False, .ret .any)
theorem dTo_e (t : Tab) : dTo (eTb t) = t := by simp only [eTb, dTo, dS_eS, dR_eR]
theorem st_fewX {a b : Tab} (h1 : slen a.1 + rlen a.2 < 2000000000) (h2 : slen b.1 + rlen b.2 < 2000000000) : StC Tryz.prog 6 (c_fewX a b) := by
  intro caps args; unfold c_fewX; split
  · rename_i r
    rintro (h | h) <;> (obtain rfl := D.agg.inj h; rw [dTo_e])
    · exact fc_few4 a h1
    · exact fc_few4 b h2
  · exact fun h => h.elim
theorem fc_few14 (a b : Tab) (h1 : slen a.1 + rlen a.2 < 2000000000) (h2 : slen b.1 + rlen b.2 < 2000000000) : FC Tryz.prog 15 [] [.agg (eTb a), .agg (eTb b)] (.ret (.bool (few14 a b))) := by
  have hs := st_fewX h1 h2
  have ha := dTo_e a
  have hb := dTo_e b
  rw [show eTb a = [.sl 1 (a.1.map eS), .sl 1 (a.2.map eR)] from rfl] at ha
  rw [show eTb b = [.sl 1 (b.1.map eS), .sl 1 (b.2.map eR)] from rfl] at hb
  refine fc_M (fn := Tryz.f15) (C := (tab [(6, c_fewX a b)] [] [5001])) (rs := [4]) mixed (by kernel_rfl) (by kernel_rfl) rfl rfl (by kernel_rfl) (by intro ys h; cases h) ?_
  unfold eTb few14
  simp +contextual (maxSteps := 5000000) only [go_sem, ↓reduceIte]
  refine M_join (fun _ : Unit => ⟨[(2, .loc 2 0), (3, .loc 3 0), (5, .bool (few4 a && few4 b))], [(2, .blk (eTb a) false), (3, .blk (eTb b) false)]⟩) (fun _ => True) ?_ ?_
  · cases hf1 : few4 a
    · simp +contextual (maxSteps := 5000000) only [go_sem, ↓reduceIte, c_fewX, hs, ha, hb, eTb, hf1]
      exact ⟨(), trivial⟩
    · simp +contextual (maxSteps := 5000000) only [go_sem, ↓reduceIte, c_fewX, hs, ha, hb, eTb, hf1]
      exact ⟨(), trivial⟩
  intro _ _
  unfold eTb
  cases (few4 a && few4 b)
  · simp +contextual (maxSteps := 5000000) only [go_sem, ↓reduceIte]
  by_cases q1 : a.2.length ≤ 25
  rotate_left
  · have q1' : ¬ (a.2.length : Int) ≤ 25 := by omega
    simp +contextual (maxSteps := 5000000) only [go_sem, ↓reduceIte, q1, q1']
  have q1' : (a.2.length : Int) ≤ 25 := by omega
  by_cases q2 : b.2.length ≤ 25
  rotate_left
  · have q2' : ¬ (b.2.length : Int) ≤ 25 := by omega
    simp +contextual (maxSteps := 5000000) only [go_sem, ↓reduceIte, q1, q1', q2, q2']
  have q2' : (b.2.length : Int) ≤ 25 := by omega
  by_cases q3 : a.1.length ≤ 12
  rotate_left
  · have q3' : ¬ (a.1.length : Int) ≤ 12 := by omega
    simp +contextual (maxSteps := 5000000) only [go_sem, ↓reduceIte, q1, q1', q2, q2', q3, q3']
  have q3' : (a.1.length : Int) ≤ 12 := by omega
  by_cases q4 : b.1.length ≤ 12
  rotate_left
  · have q4' : ¬ (b.1.length : Int) ≤ 12 := by omega
    simp +contextual (maxSteps := 5000000) only [go_sem, ↓reduceIte, q1, q1', q2, q2', q3, q3', q4, q4']
  have q4' : (b.1.length : Int) ≤ 12 := by omega
  simp +contextual (maxSteps := 5000000) only [go_sem, ↓reduceIte, q1, q1', q2, q2', q3, q3', q4, q4']
structure Few14 (a b : Tab) : Prop where
  fa : few4 a = true
  fb : few4 b = true
  ra : a.2.length ≤ 25
  rb : b.2.length ≤ 25
  ha : a.1.length ≤ 12
  hb : b.1.length ≤ 12
theorem few14_of {a b : Tab} (h : few14 a b = true) : Few14 a b := by
  unfold few14 at h
  simp only [Bool.and_eq_true, decide_eq_true_eq] at h
  obtain ⟨⟨⟨⟨⟨h1, h2⟩, h3⟩, h4⟩, h5⟩, h6⟩ := h
  exact ⟨h1, h2, h3, h4, h5, h6⟩
theorem few_row {t : Tab} (h : few4 t = true) : ∀ r ∈ t.2, r.length ≤ 60 := by
  unfold few4 at h
  simp only [Bool.and_eq_true, decide_eq_true_eq] at h
  obtain ⟨⟨h1, _⟩, _⟩ := h
  unfold few3 at h1
  split at h1
  · cases h1
  · exact few3_sz h1
theorem lines_cells {t : Tab} (h : ∀ r ∈ t.2, r.length ≤ 60) (rs : List Int) : (txL (linesF t rs)).length ≤ rs.length * 60 := by
  induction rs with
  | nil => simp [linesF, txL]
  | cons i rs ih =>
    have hg : (t.2.getD i.toNat []).length ≤ 60 := by
      by_cases g : i.toNat < t.2.length
      · exact h _ (getD_mem g)
      · rw [List.getD_eq_getElem?_getD, List.getElem?_eq_none (by omega)]; simp
    unfold linesF txL at ih ⊢
    rw [List.map_cons, List.flatMap_cons, List.length_append, List.length_cons, Nat.succ_mul]
    simp only at ih ⊢
    omega
theorem txL_app (a b : List Ln) : (txL (a ++ b)).length = (txL a).length + (txL b).length := by unfold txL; simp
theorem bld_dl {a b : Tab} {cols rows : List (Int × Int)} (h : Few14 a b) (hc : cols.length ≤ 20) (hr : rows.length ≤ 40) : okDl (bldD a b cols rows) := by
  obtain ⟨fa, fb, ra, rb, ha, hb⟩ := h
  have l1 := rsL_len (rows.map (·.1)) a.2.length
  have l2 := rsL_len (rows.map (·.2)) b.2.length
  have l3 := rsL_len (cols.map (·.1)) a.1.length
  have l4 := rsL_len (cols.map (·.2)) b.1.length
  have c1 := lines_cells (few_row fa) (rsL (rows.map (·.1)) a.2.length)
  have c2 := lines_cells (few_row fb) (rsL (rows.map (·.2)) b.2.length)
  have s1 := @setsF_len a b cols rows
  have s2 : rows.length * cols.length ≤ 40 * 20 := Nat.mul_le_mul hr hc
  have p1 : ∀ (rs : List Int) (n : Nat) (cs : List Int), n ≤ 25 → cs.length ≤ 12 → (crF (wiF rs n) cs).length < 1000000 := fun rs n cs h1 h2 => by
    have := rsL_len rs n
    exact crF_small (by show (rsL rs n).length < 1000; omega) (by omega)
  refine ⟨?_, ?_, ?_, ?_, ?_, ?_, ?_, ?_, ?_, ?_⟩
  · show a.1.length < _; omega
  · show b.1.length < _; omega
  · show cols.length < _; omega
  · show rows.length < _; omega
  · show (linesF _ _).length < _; unfold linesF; rw [List.length_map]; omega
  · show (linesF _ _).length < _; unfold linesF; rw [List.length_map]; omega
  · show (setsF _ _ _ _).length < _; omega
  · show (spotsF _ _ _).length < _; unfold spotsF; rw [List.length_map]; exact p1 _ _ _ ra (by omega)
  · show (spotsF _ _ _).length < _; unfold spotsF; rw [List.length_map]; exact p1 _ _ _ rb (by omega)
  · show (txL (linesF _ _ ++ linesF _ _)).length < _; rw [txL_app]; omega
theorem dl_turn {d : Dl} (h : okDl d) : okDl (turnD d) := by
  obtain ⟨h1, h2, h3, h4, h5, h6, h7, h8, h9, h10⟩ := h
  rw [txL_app] at h10
  refine ⟨h2, h1, ?_, ?_, h6, h5, ?_, h9, h8, ?_⟩
  · show (turnP _).length < _; rw [turnP_len]; exact h3
  · show (turnP _).length < _; rw [turnP_len]; exact h4
  · show (turnSs _).length < _; rw [turnSs_len]; exact h7
  · show (txL (d.inss ++ d.dels)).length < _; rw [txL_app]; omega
theorem td_of {t : Tab} {d : Dl} (ht : okTb t) (h : okDl d) (h1 : d.na < 1000000000) (h2 : d.nb < 1000000000) : okTD t d := by
  refine ⟨ht, h, h1, h2, fun x hx => ?_⟩
  have := line_le hx
  have := h.cells
  omega
theorem bld_of {a b : Tab} {cols rows : List (Int × Int)} (h : Few14 a b) (hc : cols.length ≤ 20) (hr : rows.length ≤ 40) : okOf a b cols rows := by
  have hd := bld_dl h hc hr
  obtain ⟨fa, fb, ra, rb, ha, hb⟩ := h
  exact ⟨(few4_sm fa).ok, (few4_sm fb).ok, by omega, by omega, by omega, by omega, fun r h => by have := few_row fa r h; omega, fun r h => by have := few_row fb r h; omega, by omega, by omega, hd⟩
def c_few14 (a b : Tab) (caps args : List D) : Prop × Out := match caps, args with | [], [x, y] => (x = .agg (eTb a) ∧ y = .agg (eTb b), .ret (.bool (few14 a b))) | _, _ => (False, .ret .any)
theorem st_few14 {a b : Tab} (h1 : slen a.1 + rlen a.2 < 2000000000) (h2 : slen b.1 + rlen b.2 < 2000000000) : StC Tryz.prog 15 (c_few14 a b) := by
  intro caps args; unfold c_few14; split
  · rintro ⟨rfl, rfl⟩; exact fc_few14 a b h1 h2
  · exact fun h => h.elim
def c_xOf (a b : Tab) (cols rows : List (Int × Int)) (caps args : List D) : Prop × Out := match caps, args with | [], [x, y, z, w] => (x = .agg (eTb a) ∧ y = .agg (eTb b) ∧ z = .sl 2 (cols.map eP) ∧ w = .sl 2 (rows.map eP), .ret (ofOut a b cols rows)) | _, _ => (False, .ret .any)
theorem st_xOf {a b : Tab} {cols rows : List (Int × Int)} (h : okOf a b cols rows) : StC Tryz.prog 16 (c_xOf a b cols rows) := by
  intro caps args; unfold c_xOf; split
  · rintro ⟨rfl, rfl, rfl, rfl⟩; exact fc_Of a b cols rows h
  · exact fun h => h.elim
def c_yAp (t : Tab) (d : Dl) (caps args : List D) : Prop × Out := match caps, args with | [], [x, y] => (x = .agg (eTb t) ∧ y = .agg (eDl d), .ret (apOut t d)) | _, _ => (False, .ret .any)
theorem st_yAp {t : Tab} {d : Dl} (h : okTD t d) (hr : okTb (resT t d)) : StC Tryz.prog 8 (c_yAp t d) := by
  intro caps args; unfold c_yAp; split
  · rintro ⟨rfl, rfl⟩; exact fc_Apply t d h hr
  · exact fun h => h.elim
theorem st_yBk {t : Tab} {d : Dl} (h : okTD t d) (h2 : okTD t (turnD d)) (hr : okTb (resT t (turnD d))) : StC Tryz.prog 10 (fun caps args => match caps, args with | [], [x, y] => (x = .agg (eTb t) ∧ y = .agg (eDl d), .ret (apOut t (turnD d))) | _, _ => (False, .ret .any)) := by
  intro caps args; simp only; split
  · rintro ⟨rfl, rfl⟩; exact fc_Back t d h h2 hr
  · exact fun h => h.elim
def c_yBk (t : Tab) (d e : Dl) (caps args : List D) : Prop × Out := match caps, args with | [], [x, y] => (x = .agg (eTb t) ∧ y = .agg (eDl d), .ret (apOut t e)) | _, _ => (False, .ret .any)
theorem st_yBk2 {t : Tab} {d : Dl} (h : okTD t d) (h2 : okTD t (turnD d)) (hr : okTb (resT t (turnD d))) : StC Tryz.prog 10 (c_yBk t d (turnD d)) := by
  intro caps args; unfold c_yBk; split
  · rintro ⟨rfl, rfl⟩; exact fc_Back t d h h2 hr
  · exact fun h => h.elim
def c_tSm (caps args : List D) : Prop × Out := match caps, args with | [], [.agg r, .agg s] => (r = s ∧ r = eTb (dTo r), .ret (.bool true)) | _, _ => (False, .ret .any)
theorem st_tSm : StC Tryz.prog 17 c_tSm := by
  intro caps args; unfold c_tSm; split
  · rename_i r s
    rintro ⟨rfl, h⟩
    have := fc_TSame (dTo r) (dTo r)
    rw [(sameT_iff _ _).2 rfl, ← h] at this
    exact this
  · exact fun h => h.elim
theorem fc_AOf (a b : Tab) (cols rows : List (Int × Int)) (h1 : slen a.1 + rlen a.2 < 2000000000) (h2 : slen b.1 + rlen b.2 < 2000000000) (hcl : cols.length < 2000000) (hrl : rows.length < 2000000) : FC Tryz.prog 4 [] [.agg (eTb a), .agg (eTb b), .sl 2 (cols.map eP), .sl 2 (rows.map eP)] (.ret (.bool true)) := by
  have sF := st_few14 h1 h2
  by_cases hs : few14 a b = true ∧ cols.length ≤ 20 ∧ rows.length ≤ 40
  rotate_left
  · refine fc_M (fn := Tryz.f4) (C := (tab [(5, c_works), (15, c_few14 a b)] [] [])) (rs := [8]) mixed (by kernel_rfl) (by kernel_rfl) rfl rfl (by kernel_rfl) (by intro ys h; cases h) ?_
    unfold eTb
    cases hf : few14 a b
    · simp +contextual (maxSteps := 5000000) only [go_sem, ↓reduceIte, c_works, st_works, c_few14, sF, hf, eTb]
    by_cases q1 : cols.length ≤ 20
    rotate_left
    · have q1' : (20 : Int) < cols.length := by omega
      simp +contextual (maxSteps := 5000000) only [go_sem, ↓reduceIte, c_works, st_works, c_few14, sF, hf, eTb, q1']
    have q1' : ¬ (20 : Int) < cols.length := by omega
    have q2' : (40 : Int) < rows.length := by
      by_cases g : rows.length ≤ 40
      · exact absurd ⟨hf, q1, g⟩ hs
      · omega
    simp +contextual (maxSteps := 5000000) only [go_sem, ↓reduceIte, c_works, st_works, c_few14, sF, hf, eTb, q1', q2']
  obtain ⟨hf, q1, q2⟩ := hs
  have q1' : ¬ (20 : Int) < cols.length := by omega
  have q2' : ¬ (40 : Int) < rows.length := by omega
  have hF := few14_of hf
  have hO := bld_of hF q1 q2
  have sO := st_xOf hO
  by_cases hz : ofE a b cols rows = 0
  rotate_left
  · have eO : ofOut a b cols rows = .tup [.agg eZl, .int .i64 (ofE a b cols rows)] := by unfold ofOut; rw [if_pos hz]
    refine fc_M (fn := Tryz.f4) (C := (tab [(5, c_works), (15, c_few14 a b), (16, c_xOf a b cols rows)] [] [5004, 5007])) (rs := [8]) mixed (by kernel_rfl) (by kernel_rfl) rfl rfl (by kernel_rfl) (by intro ys h; cases h) ?_
    generalize ofE a b cols rows = E at hz eO
    unfold eTb
    simp +contextual (maxSteps := 5000000) only [go_sem, ↓reduceIte, c_works, st_works]
    refine M_join (fun _ : Unit => ⟨[(2, .sl 2 (cols.map eP)), (3, .sl 2 (rows.map eP)), (4, .loc 4 0), (5, .loc 5 0), (9, .bool true), (10, .bool true)], [(4, .blk (eTb a) false), (5, .blk (eTb b) false)]⟩) (fun _ => True) ?_ ?_
    · simp +contextual (maxSteps := 5000000) only [go_sem, ↓reduceIte, c_few14, sF, hf, eTb]
      exact ⟨(), trivial⟩
    intro _ _
    unfold eTb
    simp +contextual (maxSteps := 5000000) only [go_sem, ↓reduceIte, q1', q2']
    refine fun _ _ => M_join (fun _ : Unit => ⟨[(4, .loc 4 0), (5, .loc 5 0), (9, .bool true), (11, .loc 11 0), (12, .int .i64 E)], [(4, .blk (eTb a) false), (5, .blk (eTb b) false), (11, .blk eZl false)]⟩) (fun _ => True) ?_ ?_
    · simp +contextual (maxSteps := 5000000) only [go_sem, ↓reduceIte, c_xOf, sO, eO, eTb, eZl]
      exact ⟨(), trivial⟩
    intro _ _
    unfold eTb eZl
    simp +contextual (maxSteps := 5000000) only [go_sem, ↓reduceIte, hz]
  · have hk := ofOk_of hz
    obtain ⟨zd, hA, hB⟩ := bld_ap hk
    have eO : ofOut a b cols rows = .tup [.agg (eDl (bldD a b cols rows)), .int .i64 0] := by unfold ofOut; rw [if_neg (fun h => h hz), zd]
    have hres := bld_res hk
    have hdl := hO.dl
    have hna : (bldD a b cols rows).na < 1000000000 := by show (a.2.length : Int) < _; have := hO.ar; omega
    have hnb : (bldD a b cols rows).nb < 1000000000 := by show (b.2.length : Int) < _; have := hO.br; omega
    have sA := st_yAp (td_of hO.ta hdl hna hnb) (by rw [hres]; exact hO.tb)
    have hrb : resT b (turnD (bldD a b cols rows)) = a := by
      rcases ap_cases b (turnD (bldD a b cols rows)) with ⟨h1, h2⟩ | ⟨h1, h2⟩
      · rw [hB] at h2; simp [eTb] at h2
      · rw [hB] at h2
        have h3 : eTb a = eTb (resT b (turnD (bldD a b cols rows))) := by
          have := List.cons.inj (D.tup.inj h2)
          exact D.agg.inj this.1
        have h4 := congrArg dTo h3
        rw [dTo_e, dTo_e] at h4
        exact h4.symm
    have sB := st_yBk2 (td_of hO.tb hdl hna hnb) (td_of hO.tb (dl_turn hdl) hnb hna) (by rw [hrb]; exact hO.ta)
    have ha := dTo_e a
    have hb := dTo_e b
    rw [show eTb a = [.sl 1 (a.1.map eS), .sl 1 (a.2.map eR)] from rfl] at ha
    rw [show eTb b = [.sl 1 (b.1.map eS), .sl 1 (b.2.map eR)] from rfl] at hb
    clear hres hrb hdl hna hnb hk hz zd
    generalize bldD a b cols rows = d at *
    generalize turnD d = e at *
    refine fc_M (fn := Tryz.f4) (C := (tab [(5, c_works), (15, c_few14 a b), (16, c_xOf a b cols rows), (8, c_yAp a d), (10, c_yBk b d e), (17, c_tSm)] [] [5004, 5007, 5010, 5011])) (rs := [8]) mixed (by kernel_rfl) (by kernel_rfl) rfl rfl (by kernel_rfl) (by intro ys h; cases h) ?_
    unfold eTb
    simp +contextual (maxSteps := 5000000) only [go_sem, ↓reduceIte, c_works, st_works]
    refine M_join (fun _ : Unit => ⟨[(2, .sl 2 (cols.map eP)), (3, .sl 2 (rows.map eP)), (4, .loc 4 0), (5, .loc 5 0), (9, .bool true), (10, .bool true)], [(4, .blk (eTb a) false), (5, .blk (eTb b) false)]⟩) (fun _ => True) ?_ ?_
    · simp +contextual (maxSteps := 5000000) only [go_sem, ↓reduceIte, c_few14, sF, hf, eTb]
      exact ⟨(), trivial⟩
    intro _ _
    unfold eTb
    simp +contextual (maxSteps := 5000000) only [go_sem, ↓reduceIte, q1', q2']
    refine fun _ _ => M_join (fun _ : Unit => ⟨[(4, .loc 4 0), (5, .loc 5 0), (9, .bool true), (11, .loc 11 0), (12, .int .i64 0)], [(4, .blk (eTb a) false), (5, .blk (eTb b) false), (11, .blk (eDl d) false)]⟩) (fun _ => True) ?_ ?_
    · simp +contextual (maxSteps := 5000000) only [go_sem, ↓reduceIte, c_xOf, sO, eO, eTb, eDl]
      exact ⟨(), trivial⟩
    intro _ _
    unfold eTb eDl
    simp +contextual (maxSteps := 5000000) only [go_sem, ↓reduceIte, Int.reduceEq, Int.reduceNe, Int.reduceLT, Int.reduceLE, Int.reduceToNat, Int.cast_ofNat_Int]
    refine M_join (fun _ : Unit => ⟨[(4, .loc 4 0), (5, .loc 5 0), (9, .bool true), (11, .loc 11 0), (13, .loc 13 0), (14, .int .i64 0)], [(4, .blk (eTb a) false), (5, .blk (eTb b) false), (11, .blk (eDl d) false), (13, .blk (eTb b) false)]⟩) (fun _ => True) ?_ ?_
    · simp +contextual (maxSteps := 5000000) only [go_sem, ↓reduceIte, c_yAp, sA, hA, eTb, eDl]
      exact ⟨(), trivial⟩
    intro _ _
    unfold eTb eDl
    simp +contextual (maxSteps := 5000000) only [go_sem, ↓reduceIte]
    refine M_join (fun _ : Unit => ⟨[(4, .loc 4 0), (5, .loc 5 0), (9, .bool true), (13, .loc 13 0), (14, .int .i64 0), (15, .loc 15 0), (16, .int .i64 0)], [(4, .blk (eTb a) false), (5, .blk (eTb b) false), (13, .blk (eTb b) false), (15, .blk (eTb a) false)]⟩) (fun _ => True) ?_ ?_
    · simp +contextual (maxSteps := 5000000) only [go_sem, ↓reduceIte, c_yBk, sB, hB, eTb, eDl]
      exact ⟨(), trivial⟩
    intro _ _
    unfold eTb
    simp +contextual (maxSteps := 5000000) only [go_sem, ↓reduceIte, Int.reduceEq, Int.reduceNe, Int.reduceLT, Int.reduceLE, Int.reduceToNat, Int.cast_ofNat_Int, c_tSm, st_tSm, ha, hb, eTb]
end Go.Proofs.YtknkjakppikjeaaGreat
