/-
  What the functions compute that the law of this claim reaches. By an AI agent.
-/
import Derived.Test.YtpkdflkjnhbljaaG3
set_option linter.unusedSimpArgs false
set_option linter.unusedVariables false

set_option linter.unusedSimpArgs false
namespace Go.Proofs.Ytpkdflkjnhbljaa
open Go.Tn
set_option maxHeartbeats 8000000
set_option maxRecDepth 100000
/- what a map answers -/
def gof (m : MP) (k : Int × Int) : Option Str := match m with | [] => none | x :: r => if x.1 = k then some x.2 else gof r k
theorem gof_glk (m : MP) (k : Int × Int) : glk [] m k = (gof m k).getD [] := by
  induction m with
  | nil => rfl
  | cons x m ih =>
    simp only [glk, gof]
    split
    · rfl
    · exact ih
theorem gof_has (m : MP) (k q : Int) : hasM m k q = (gof m (k, q)).isSome := by
  unfold hasM
  induction m with
  | nil => rfl
  | cons x m ih =>
    rw [List.any_cons, ih]
    simp only [gof]
    by_cases e : x.1 = (k, q) <;> simp [e]
theorem gof_gup (m : MP) (k : Int × Int) (v : Str) (j : Int × Int) : gof (gup m k v) j = if k = j then some v else gof m j := by
  induction m with
  | nil => simp only [gup, gof]
  | cons x m ih =>
    simp only [gup]
    by_cases e : x.1 = k
    · rw [if_pos e]
      simp only [gof]
      by_cases e2 : k = j
      · simp [e2]
      · rw [if_neg e2, if_neg e2, if_neg (by rw [e]; exact e2)]
    · rw [if_neg e]
      simp only [gof, ih]
      by_cases e2 : x.1 = j
      · rw [if_pos e2, if_pos e2, if_neg (fun h => e (by rw [e2, h]))]
      · rw [if_neg e2, if_neg e2]
def putM {β : Type} (f : β → Int × Int) (v : β → Str) (m : MP) (l : List β) : MP := l.foldl (fun m x => gup m (f x) (v x)) m
theorem putM_no {β : Type} {f : β → Int × Int} {v : β → Str} {k : Int × Int} : ∀ {l : List β} {m : MP}, (∀ x ∈ l, f x ≠ k) → gof (putM f v m l) k = gof m k
  | [], _, _ => rfl
  | x :: l, m, h => by
    have e : putM f v m (x :: l) = putM f v (gup m (f x) (v x)) l := rfl
    rw [e, putM_no (fun y hy => h y (List.mem_cons.2 (.inr hy))), gof_gup, if_neg (h x (by simp))]
theorem putM_at {β : Type} {f : β → Int × Int} {v : β → Str} {y : β} : ∀ {l : List β} {m : MP}, (l.map f).Nodup → y ∈ l → gof (putM f v m l) (f y) = some (v y)
  | x :: l, m, hn, hy => by
    have e : putM f v m (x :: l) = putM f v (gup m (f x) (v x)) l := rfl
    rw [List.map_cons, List.nodup_cons] at hn
    rw [e]
    rcases List.mem_cons.1 hy with rfl | hy
    · rw [putM_no (fun z hz h => hn.1 (List.mem_map.2 ⟨z, hz, h⟩)), gof_gup, if_pos rfl]
    · exact putM_at hn.2 hy
theorem told_put (d : Dl) : toldM d = putM keyS (·.n) (putM (fun x : Sp => (x.1, x.2.1)) (·.2.2) [] d.gain) d.sets := rfl
theorem mlk_mup (m : List (Int × Int)) (k v j : Int) : mlk (mup m k v) j = if k = j then v else mlk m j := by
  induction m with
  | nil => simp only [mup, mlk]
  | cons x m ih =>
    simp only [mup]
    by_cases e : x.1 = k
    · rw [if_pos e]
      simp only [mlk]
      by_cases e2 : k = j
      · simp [e2]
      · rw [if_neg e2, if_neg e2, if_neg (by rw [e]; exact e2)]
    · rw [if_neg e]
      simp only [mlk, ih]
      by_cases e2 : x.1 = j
      · rw [if_pos e2, if_pos e2, if_neg (fun h => e (by rw [e2, h]))]
      · rw [if_neg e2, if_neg e2]
theorem from_no {k : Int} : ∀ {l m : List (Int × Int)}, (∀ x ∈ l, x.2 ≠ k) → mlk (l.foldl (fun m p => mup m p.2 p.1) m) k = mlk m k
  | [], _, _ => rfl
  | x :: l, m, h => by
    rw [List.foldl_cons, from_no (fun y hy => h y (List.mem_cons.2 (.inr hy))), mlk_mup, if_neg (h x (by simp))]
theorem from_at {y : Int × Int} : ∀ {l m : List (Int × Int)}, (l.map (·.2)).Nodup → y ∈ l → mlk (l.foldl (fun m p => mup m p.2 p.1) m) y.2 = y.1
  | x :: l, m, hn, hy => by
    rw [List.map_cons, List.nodup_cons] at hn
    rw [List.foldl_cons]
    rcases List.mem_cons.1 hy with rfl | hy
    · rw [from_no (fun z hz h => hn.1 (List.mem_map.2 ⟨z, hz, h⟩)), mlk_mup, if_pos rfl]
    · exact from_at hn.2 hy
theorem setO_no {β : Type} {f : β → Int} {v : β → List Str} {k : Nat} : ∀ {l : List β} {m : OR'}, (∀ x ∈ l, (f x).toNat ≠ k) → (setO f v m l)[k]? = m[k]?
  | [], _, _ => rfl
  | x :: l, m, h => by
    have e : setO f v m (x :: l) = setO f v (m.set (f x).toNat (some (v x))) l := rfl
    rw [e, setO_no (fun y hy => h y (List.mem_cons.2 (.inr hy))), List.getElem?_set_ne (h x (by simp))]
theorem setO_at {β : Type} {f : β → Int} {v : β → List Str} {y : β} : ∀ {l : List β} {m : OR'}, (l.map f).Nodup → (∀ x ∈ l, 0 ≤ f x) → y ∈ l → (f y).toNat < m.length → (setO f v m l)[(f y).toNat]? = some (some (v y))
  | x :: l, m, hn, h0, hy, hk => by
    have e : setO f v m (x :: l) = setO f v (m.set (f x).toNat (some (v x))) l := rfl
    rw [List.map_cons, List.nodup_cons] at hn
    rw [e]
    rcases List.mem_cons.1 hy with rfl | hy
    · rw [setO_no (fun z hz h => hn.1 (List.mem_map.2 ⟨z, hz, ?_⟩)), List.getElem?_set_self hk]
      have := h0 z (by simp [hz])
      have := h0 y (by simp)
      omega
    · exact setO_at hn.2 (fun z hz => h0 z (by simp [hz])) hy (by rw [List.length_set]; exact hk)
/- what a good delta tells -/
theorem mtF_map {α β : Type} {q : α → β → Bool} {f : α → β} (h : ∀ x y, q x y = true → f x = y) : ∀ {l : List α} {r : List β}, mtF q l r = true → l.map f = r
  | [], [], _ => rfl
  | x :: l, y :: r, g => by
    simp only [mtF, Bool.and_eq_true] at g
    rw [List.map_cons, h x y g.1, mtF_map h g.2]
theorem OkD.insK {d : Dl} (g : OkD d) : d.inss.map (·.1) = newR' d := mtF_map (fun x y h => by simp only [isL, decide_eq_true_eq] at h; exact h.1) g.lines.2
theorem OkD.gainK {d : Dl} (g : OkD d) : d.gain.map (fun x : Sp => (x.1, x.2.1)) = crF (wiF (newR' d) d.nb.toNat) (newC d) := mtF_map (fun x y h => by simp only [isS, decide_eq_true_eq] at h; rw [h.1, h.2]) g.spots.2
theorem mem_crF {a b : List Int} {x : Int × Int} : x ∈ crF a b ↔ x.1 ∈ a ∧ x.2 ∈ b := by
  unfold crF
  rw [List.mem_flatMap]
  constructor
  · rintro ⟨i, hi, h⟩
    obtain ⟨p, hp, rfl⟩ := List.mem_map.1 h
    exact ⟨hi, hp⟩
  · rintro ⟨h1, h2⟩
    exact ⟨x.1, h1, List.mem_map.2 ⟨x.2, h2, rfl⟩⟩
theorem crF_nodup {b : List Int} (hb : b.Nodup) : ∀ {a : List Int}, a.Nodup → (crF a b).Nodup
  | [], _ => by simp [crF]
  | i :: a, ha => by
    rw [List.nodup_cons] at ha
    have e : crF (i :: a) b = (b.map fun p => (i, p)) ++ crF a b := rfl
    rw [e, List.nodup_append]
    refine ⟨?_, crF_nodup hb ha.2, fun x hx y hy h => ?_⟩
    · refine (List.pairwise_map).2 (hb.imp fun h => fun e => h (by simpa using e))
    · obtain ⟨p, _, rfl⟩ := List.mem_map.1 hx
      subst h
      exact ha.1 (mem_crF.1 hy).1
theorem OkD.gainN {d : Dl} (g : OkD d) : (d.gain.map (fun x : Sp => (x.1, x.2.1))).Nodup := by
  rw [g.gainK]
  exact crF_nodup (rsL_nodup _ _) (rsL_nodup _ _)
theorem OkD.gainM {d : Dl} (g : OkD d) {x : Sp} (hx : x ∈ d.gain) : (∃ p ∈ d.rows, p.2 = x.1) ∧ x.2.1 ∈ newC d := by
  have h : (x.1, x.2.1) ∈ d.gain.map (fun x : Sp => (x.1, x.2.1)) := List.mem_map.2 ⟨x, hx, rfl⟩
  rw [g.gainK] at h
  have h := mem_crF.1 h
  refine ⟨?_, h.2⟩
  have h1 := mem_rsL.1 h.1
  by_cases hm : x.1 ∈ d.rows.map (·.2)
  · obtain ⟨p, hp, e⟩ := List.mem_map.1 hm
    exact ⟨p, hp, e⟩
  · exact absurd (mem_rsL.2 ⟨h1.1, hm⟩) h1.2
theorem OkD.gainE {d : Dl} (g : OkD d) {p : Int × Int} (hp : p ∈ d.rows) {q : Int} (hq : q ∈ newC d) : ∃ x ∈ d.gain, (x.1, x.2.1) = (p.2, q) := by
  have h : (p.2, q) ∈ d.gain.map (fun x : Sp => (x.1, x.2.1)) := by
    rw [g.gainK]
    refine mem_crF.2 ⟨mem_rsL.2 ⟨?_, fun h => (mem_rsL.1 h).2 (List.mem_map.2 ⟨p, hp, rfl⟩)⟩, hq⟩
    have := (g.rows.inn p hp).2.2
    have := g.rows.b0
    omega
  exact List.mem_map.1 h
theorem OkD.told_set {d : Dl} (g : OkD d) {s : St6} (hs : s ∈ d.sets) : gof (toldM d) (s.j, s.q) = some s.n := by
  rw [told_put]
  exact putM_at (f := keyS) (v := (·.n)) g.keys.1 hs
theorem OkD.set_new {d : Dl} (g : OkD d) {s : St6} (hs : s ∈ d.sets) : s.q ∉ newC d := fun h =>
  (mem_rsL.1 h).2 (List.mem_map.2 ⟨_, (g.sets.mem s hs).1.2, rfl⟩)
theorem OkD.told_gain {d : Dl} (g : OkD d) {x : Sp} (hx : x ∈ d.gain) : gof (toldM d) (x.1, x.2.1) = some x.2.2 := by
  rw [told_put, putM_no (fun s hs h => ?_)]
  · exact putM_at (f := fun x : Sp => (x.1, x.2.1)) (v := (·.2.2)) g.gainN hx
  · refine g.set_new hs ?_
    simp only [keyS, Prod.mk.injEq] at h
    rw [h.2]
    exact (g.gainM hx).2
theorem told_none {d : Dl} {k : Int × Int} (h1 : ∀ s ∈ d.sets, keyS s ≠ k) (h2 : ∀ x ∈ d.gain, (x.1, x.2.1) ≠ k) : gof (toldM d) k = none := by
  rw [told_put, putM_no h1, putM_no h2]; rfl
theorem OkD.from_col {d : Dl} (g : OkD d) {p : Int × Int} (hp : p ∈ d.cols) : mlk (fromM d.cols) p.2 = p.1 := from_at g.cols.nb hp
theorem OkD.row_at {d : Dl} (g : OkD d) (t : Tab) {p : Int × Int} (hp : p ∈ d.rows) : (resT t d).2[p.2.toNat]? = some (nrow t d p.1 p.2) := by
  have hl := (g.row hp).2
  have h := setO_at (f := fun p : Int × Int => p.2) (v := fun p => nrow t d p.1 p.2) (m := insO (List.replicate d.nb.toNat none) d.inss) g.rows.nb (fun x hx => (g.row hx).1) hp (by unfold insO; rw [setO_len, List.length_replicate]; exact hl)
  show ((finO t d).map fun x => x.getD [])[p.2.toNat]? = _
  rw [List.getElem?_map]
  have e : (finO t d)[p.2.toNat]? = some (some (nrow t d p.1 p.2)) := h
  rw [e]; rfl
theorem OkD.ins_at {d : Dl} (g : OkD d) (t : Tab) {x : Ln} (hx : x ∈ d.inss) : (resT t d).2[x.1.toNat]? = some x.2 := by
  have hl := g.ins hx
  have hk : x.1 ∈ newR' d := by rw [← g.insK]; exact List.mem_map.2 ⟨x, hx, rfl⟩
  have hn : (d.inss.map (·.1)).Nodup := by rw [g.insK]; exact rsL_nodup _ _
  have h := setO_at (f := fun x : Ln => x.1) (v := fun x => x.2) (m := List.replicate d.nb.toNat none) hn (fun x hx => (g.ins hx).1) hx (by rw [List.length_replicate]; exact hl.2)
  show ((finO t d).map fun x => x.getD [])[x.1.toNat]? = _
  rw [List.getElem?_map]
  have e : (finO t d)[x.1.toNat]? = some (some x.2) := by
    unfold finO rowO
    rw [setO_no (fun p hp h => (mem_rsL.1 hk).2 (List.mem_map.2 ⟨p, hp, ?_⟩))]
    · exact h
    · have := (g.row hp).1; omega
  rw [e]; rfl
theorem cell_of {t : Tab} {i : Int} {r : List Str} {c : Nat} (h0 : 0 ≤ i) (h : t.2[i.toNat]? = some r) (hc : c < r.length) : cellF t i c = r.getD c [] := by
  have hl : i.toNat < t.2.length := by
    by_cases g : i.toNat < t.2.length
    · exact g
    · rw [List.getElem?_eq_none (by omega)] at h; cases h
  have e : t.2.getD i.toNat [] = r := by rw [List.getD_eq_getElem?_getD, h]; rfl
  unfold cellF
  rw [e, if_neg (by omega), Int.toNat_natCast]
theorem nrow_at (t : Tab) (d : Dl) (i k : Int) {q : Nat} (h : q < d.B.length) : (nrow t d i k).getD q [] = ceF t (toldM d) (fromM d.cols) i k q := by
  unfold nrow rowF
  rw [List.getD_eq_getElem?_getD, List.getElem?_map, List.getElem?_range h]; rfl
theorem nrow_len (t : Tab) (d : Dl) (i k : Int) : (nrow t d i k).length = d.B.length := by
  unfold nrow rowF; rw [List.length_map, List.length_range]
theorem OkD.cell_at {d : Dl} (g : OkD d) (t : Tab) {p : Int × Int} (hp : p ∈ d.rows) {q : Nat} (h : q < d.B.length) : cellF (resT t d) p.2 q = ceF t (toldM d) (fromM d.cols) p.1 p.2 q := by
  rw [cell_of (g.row hp).1 (g.row_at t hp) (by rw [nrow_len]; exact h), nrow_at t d _ _ h]
theorem ce_some {t : Tab} {m : MP} {fr : List (Int × Int)} {i k q : Int} {v : Str} (h : gof m (k, q) = some v) : ceF t m fr i k q = v := by
  unfold ceF
  rw [if_pos (by rw [gof_has, h]; rfl), gof_glk, h]; rfl
theorem ce_none {t : Tab} {m : MP} {fr : List (Int × Int)} {i k q : Int} (h : gof m (k, q) = none) : ceF t m fr i k q = cellF t i (mlk fr q) := by
  unfold ceF
  rw [if_neg (by rw [gof_has, h]; simp)]
theorem tc2_zero {t : Tab} (h : tchk t = 0) : ∀ r ∈ t.2, r.length = t.1.length := by
  unfold tchk at h
  by_cases a : tc1 t = 0
  · rw [if_neg (fun h => h a)] at h
    by_cases b : tc2 t = 0
    · intro r hr
      unfold tc2 at b
      by_cases c : (t.2.any fun r => decide (r.length ≠ t.1.length)) = true
      · rw [if_pos c] at b; cases b
      · have := List.any_eq_false.1 (by simpa only [Bool.not_eq_true] using c) r hr
        simpa using this
    · rw [if_pos b] at h; exact absurd h b
  · rw [if_pos a] at h; exact absurd h a
theorem held_back {t : Tab} {d : Dl} (g : OkD d) : HeldP (resT t d) (turnD d) := by
  have hcols := g.cols
  refine ⟨fun x hx => ?_, fun s hs => ?_, fun x hx => ?_⟩
  · have hx : x ∈ d.inss := hx
    have h1 := g.ins hx
    have h2 := g.ins_at t hx
    have h3 := resT_len t d
    refine ⟨h1.1, by omega, ?_⟩
    rw [List.getD_eq_getElem?_getD, h2]; rfl
  · have hs := mem_turnSs.1 hs
    have hm := (g.sets.mem _ hs).1
    have hq := hcols.inn _ hm.2
    have h0 : 0 ≤ s.p ∧ s.p < d.B.length := hq.2.2
    obtain ⟨q, hq⟩ : ∃ q : Nat, s.p = q := ⟨s.p.toNat, by omega⟩
    have h1 := g.cell_at t hm.1 (q := q) (by omega)
    have h2 := g.told_set hs
    have e : cellF (resT t d) s.i q = s.o := by
      refine h1.trans (ce_some ?_)
      have : (turnS s).q = q := hq
      rw [← this]
      exact h2
    rw [hq]; exact e
  · have hx : x ∈ d.gain := hx
    obtain ⟨⟨p, hp, e⟩, hq⟩ := g.gainM hx
    have h0 := (mem_rsL.1 hq).1
    obtain ⟨q, hq2⟩ : ∃ q : Nat, x.2.1 = q := ⟨x.2.1.toNat, by omega⟩
    have h1 := g.cell_at t hp (q := q) (by omega)
    have h2 := g.told_gain hx
    rw [hq2] at h2 ⊢
    rw [← e] at h2 ⊢
    exact h1.trans (ce_some h2)
theorem back_cell {t : Tab} {d : Dl} (g : OkD d) (hh : HeldP t d) {p : Int × Int} (hp : p ∈ d.rows) {c : Nat} (hc : c < d.A.length) : ceF (resT t d) (toldM (turnD d)) (fromM (turnD d).cols) p.2 p.1 c = cellF t p.1 c := by
  have gt := g.turn
  by_cases a : ∃ s ∈ d.sets, (s.i, s.p) = (p.1, (c : Int))
  · obtain ⟨s, hs, e⟩ := a
    simp only [Prod.mk.injEq] at e
    have hs2 : turnS s ∈ (turnD d).sets := mem_turnSs.2 hs
    have h1 := gt.told_set hs2
    have h2 : gof (toldM (turnD d)) (p.1, (c : Int)) = some s.o := by rw [← e.1, ← e.2]; exact h1
    rw [ce_some h2, ← hh.sets s hs, e.1, e.2]
  · by_cases b : ∃ x ∈ d.lost, (x.1, x.2.1) = (p.1, (c : Int))
    · obtain ⟨x, hx, e⟩ := b
      simp only [Prod.mk.injEq] at e
      have h1 := gt.told_gain (x := x) hx
      rw [e.1, e.2] at h1
      rw [ce_some h1, ← hh.lost x hx, e.1, e.2]
    · have hno : gof (toldM (turnD d)) (p.1, (c : Int)) = none := by
        refine told_none (fun s hs h => ?_) (fun x hx h => b ⟨x, hx, h⟩)
        exact a ⟨turnS s, mem_turnSs.1 hs, h⟩
      rw [ce_none hno]
      have hin : (c : Int) ∈ d.cols.map (·.1) := by
        by_cases hm : (c : Int) ∈ d.cols.map (·.1)
        · exact hm
        · exfalso
          have hg : (c : Int) ∈ newC (turnD d) := by rw [newC_t]; exact mem_rsL.2 ⟨⟨by omega, by omega⟩, hm⟩
          have hp2 : (p.2, p.1) ∈ (turnD d).rows := mem_turnP.2 hp
          obtain ⟨x, hx, e⟩ := gt.gainE hp2 hg
          exact b ⟨x, hx, e⟩
      obtain ⟨w, hw, e⟩ := List.mem_map.1 hin
      have hw2 : (w.2, w.1) ∈ (turnD d).cols := mem_turnP.2 hw
      have hf := gt.from_col hw2
      simp only at hf e
      rw [← e, hf]
      have hb := (g.cols.inn w hw).2.2
      obtain ⟨q, hq⟩ : ∃ q : Nat, w.2 = q := ⟨w.2.toNat, by omega⟩
      have hq2 : q < d.B.length := by omega
      rw [hq, g.cell_at t hp hq2, ce_none, ← hq, g.from_col hw]
      refine told_none (fun s hs h => a ⟨s, hs, ?_⟩) (fun x hx h => ?_)
      · simp only [keyS, Prod.mk.injEq] at h
        have hm := (g.sets.mem s hs).1
        have e1 := inj_at g.rows.nb hm.1 hp h.1
        have e2 := inj_at g.cols.nb hm.2 hw (by rw [hq]; exact h.2)
        simp only [Prod.ext_iff] at e1 e2
        rw [e1.1, e2.1, e]
      · simp only [Prod.mk.injEq] at h
        refine (mem_rsL.1 (g.gainM hx).2).2 ?_
        rw [h.2]
        exact List.mem_map.2 ⟨w, hw, hq⟩
theorem back_tab {t : Tab} {d : Dl} (h : wrongF t d = 0) : resT (resT t d) (turnD d) = t := by
  obtain ⟨h1, h2, h3, h4, h5⟩ := wrong_zero h
  have g := (chkD_zero d).1 h2
  have gt := g.turn
  have hh := (heldF_iff t d).1 h5
  have hrl := tc2_zero h1
  have hlen := resT_len (resT t d) (turnD d)
  have hnb : (turnD d).nb = d.na := rfl
  rw [hnb] at hlen
  refine Prod.ext (by rw [h3]; rfl) (List.ext_getElem (by omega) fun i hi hi2 => ?_)
  have key : ∀ r, (resT (resT t d) (turnD d)).2[i]? = some r → (resT (resT t d) (turnD d)).2[i] = r := fun r hr => by
    rw [List.getElem?_eq_getElem hi, Option.some.injEq] at hr; exact hr
  by_cases hm : (i : Int) ∈ d.rows.map (·.1)
  · obtain ⟨p, hp, e⟩ := List.mem_map.1 hm
    have hp2 : (p.2, p.1) ∈ (turnD d).rows := mem_turnP.2 hp
    have hr := gt.row_at (resT t d) hp2
    simp only at hr
    rw [e, Int.toNat_natCast] at hr
    rw [key _ hr]
    have hrow := hrl _ (List.getElem_mem hi2)
    rw [h3] at hrow
    refine List.ext_getElem (by rw [nrow_len, hrow]; rfl) fun c hc hc2 => ?_
    have hcA : c < d.A.length := by omega
    have e1 := nrow_at (resT t d) (turnD d) p.2 (i : Int) (q := c) hcA
    rw [List.getD_eq_getElem?_getD, List.getElem?_eq_getElem hc, Option.getD_some] at e1
    rw [e1, ← e, back_cell g hh hp hcA, e]
    have e2 := cell_of (t := t) (i := (i : Int)) (r := t.2[i]) (c := c) (by omega) (by rw [Int.toNat_natCast, List.getElem?_eq_getElem hi2]) hc2
    rw [e2, List.getD_eq_getElem?_getD, List.getElem?_eq_getElem hc2, Option.getD_some]
  · have hg : (i : Int) ∈ goneR d := mem_rsL.2 ⟨⟨by omega, by omega⟩, hm⟩
    rw [← newR_t, ← gt.insK] at hg
    obtain ⟨x, hx, e⟩ := List.mem_map.1 hg
    have hr := gt.ins_at (resT t d) hx
    rw [e, Int.toNat_natCast] at hr
    rw [key _ hr]
    have hx : x ∈ d.dels := hx
    have := (hh.dels x hx).2.2
    rw [e, Int.toNat_natCast, List.getD_eq_getElem?_getD, List.getElem?_eq_getElem hi2, Option.getD_some] at this
    exact this.symm
theorem wrong_of {t : Tab} {d : Dl} (h1 : tchk t = 0) (h2 : chkD d = 0) (h3 : t.1 = d.A) (h4 : (t.2.length : Int) = d.na) (h5 : heldF t d = true) : wrongF t d = 0 := by
  unfold wrongF
  rw [if_neg (fun h => h h1), if_neg (fun h => h h2), if_neg (fun h => h h3), if_neg (fun h => h h4), if_neg (by rw [h5]; simp)]
theorem back_zero {t : Tab} {d : Dl} (h : apE t d = 0) : apE (resT t d) (turnD d) = 0 ∧ resT (resT t d) (turnD d) = t := by
  obtain ⟨hw, hr⟩ := ap_zero h
  have hb := back_tab hw
  obtain ⟨h1, h2, h3, h4, h5⟩ := wrong_zero hw
  have g := (chkD_zero d).1 h2
  refine ⟨?_, hb⟩
  have hw2 : wrongF (resT t d) (turnD d) = 0 := wrong_of hr ((chkD_zero _).2 g.turn) rfl (by rw [resT_len]; have := g.rows.b0; show ((d.nb.toNat : Nat) : Int) = d.nb; omega) ((heldF_iff _ _).2 (held_back g))
  unfold apE
  rw [if_neg (fun h => h hw2), hb]; exact h1
end Go.Proofs.Ytpkdflkjnhbljaa

set_option linter.unusedSimpArgs false
namespace Go.Proofs.Ytpkdflkjnhbljaa
open Go.Tn
set_option maxHeartbeats 8000000
set_option maxRecDepth 100000
def c_TSm (t : Tab) (caps args : List D) : Prop × Out := match caps, args with | [], [x, y] => (x = .agg (eTb t) ∧ y = .agg (eTb t), .ret (.bool true)) | _, _ => (False, .ret .any)
theorem st_TSm (t : Tab) : StC Try.prog 13 (c_TSm t) := by
  intro caps args; unfold c_TSm; split
  · rintro ⟨rfl, rfl⟩
    have := fc_TSame t t
    rw [(sameT_iff t t).2 rfl] at this
    exact this
  · exact fun h => h.elim
theorem fc_ABack (t : Tab) (d : Dl) (h1 : slen t.1 + rlen t.2 < 2000000000) (h2 : okT d) : FC Try.prog 4 [] [.agg (eTb t), .agg (eDl d)] (.ret (.bool true)) := by
  have ht1 := dTb_eTb t
  have hd1 := dDl_eDl d
  have hsS := st_TSm t
  cases hf1 : few4 t with
  | false =>
    refine fc_M (fn := Try.f4) (C := (tab [(5, c_works), (6, c_fewT), (7, c_fewD)] [] [])) (rs := [4]) mixed (by kernel_rfl) (by kernel_rfl) rfl rfl (by kernel_rfl) (by intro ys h; cases h) ?_
    rw [eTb_lit] at ht1 ⊢
    simp +contextual (maxSteps := 5000000) only [go_sem, ↓reduceIte, c_works, st_works, c_fewT, st_fewT, ht1, h1, hf1]
    exact wkL_self (eTb t)
  | true =>
  cases hf2 : fewF d with
  | false =>
    refine fc_M (fn := Try.f4) (C := (tab [(5, c_works), (6, c_fewT), (7, c_fewD)] [] [])) (rs := [4]) mixed (by kernel_rfl) (by kernel_rfl) rfl rfl (by kernel_rfl) (by intro ys h; cases h) ?_
    rw [eTb_lit] at ht1 ⊢
    rw [eDl_litY] at hd1 ⊢
    simp +contextual (maxSteps := 5000000) only [go_sem, ↓reduceIte, c_works, st_works, c_fewT, st_fewT, ht1, h1, hf1, c_fewD, st_fewD, hd1, h2, hf2]
    exact ⟨wkL_self (eTb t), wkL_self (eDl d)⟩
  | true =>
  have ha := few_ap hf1 hf2
  have hsm := few_sm hf2
  have htm := few4_sm hf1
  have hrm := res_sm htm hsm
  have hrr := res_sm hrm hsm.turn
  have ha2 : okAp (eTb (resT t d)) (eDl d) (turnD d) ∧ okTD (resT t d) d := by
    refine ⟨⟨?_, ?_, ?_, ?_⟩, hsm.okTD hrm.ok⟩
    · rw [dTb_eTb]; exact wkL_self _
    · rw [dDl_eDl]; exact wkL_self _
    · rw [dTb_eTb]; exact hsm.turn.okTD hrm.ok
    · rw [dTb_eTb]; exact hrr.ok
  rw [hd1] at ha
  have hz2 := @back_zero t d
  have hok3 := hrm.ok
  have ht3 := dTb_eTb (resT t d)
  rcases ap_cases t d with ⟨hz, e⟩ | ⟨hz, e⟩
  · refine fc_M (fn := Try.f4) (C := (tab [(5, c_works), (6, c_fewT), (7, c_fewD), (8, c_Ap)] [] [5007])) (rs := [4]) mixed (by kernel_rfl) (by kernel_rfl) rfl rfl (by kernel_rfl) (by intro ys h; cases h) ?_
    rw [eTb_lit] at ht1 ha ⊢
    rw [eDl_litY] at hd1 ha ⊢
    simp +contextual (maxSteps := 5000000) only [go_sem, ↓reduceIte, c_works, st_works, c_fewT, st_fewT, ht1, h1, hf1, c_fewD, st_fewD, hd1, h2, hf2]
    refine ⟨wkL_self (eTb t), wkL_self (eDl d), ?_⟩
    refine M_join (fun _ : Unit => ⟨[(2, .loc 2 0), (3, .loc 3 0), (5, .bool true), (7, .loc 7 0), (8, .int .i64 (apE t d))], [(2, .blk (eTb t) false), (3, .blk (eDl d) false), (7, .blk [.nil, .nil] false)]⟩) (fun _ => True) ?_ ?_
    · simp +contextual (maxSteps := 5000000) only [go_sem, ↓reduceIte, c_Ap, st_Ap, ha, e, ht1, hd1, hz, eTb, eDl]
      exact ⟨(), trivial⟩
    intro _ _
    simp +contextual (maxSteps := 5000000) only [go_sem, ↓reduceIte, hz, Int.reduceEq, Int.reduceNe, Int.reduceLT, Int.reduceLE, Int.reduceToNat, Int.cast_ofNat_Int]
  · obtain ⟨hz3, hb⟩ := hz2 hz
    have hsC := st_TC hok3
    have htc := (ap_zero hz).2
    have e3 : apOut (resT t d) (turnD d) = .tup [.agg (eTb t), .int .i64 0] := by
      rcases ap_cases (resT t d) (turnD d) with ⟨hz4, _⟩ | ⟨_, e4⟩
      · exact absurd hz3 hz4
      · rw [e4, hb]
    refine fc_M (fn := Try.f4) (C := (tab [(5, c_works), (6, c_fewT), (7, c_fewD), (8, c_Ap), (12, c_Bk), (13, c_TSm t), (14, c_TC (resT t d))] [] [5007, 5010])) (rs := [4]) mixed (by kernel_rfl) (by kernel_rfl) rfl rfl (by kernel_rfl) (by intro ys h; cases h) ?_
    generalize resT t d = n at *
    rw [eTb_lit] at ht1 ha ⊢
    rw [eTb_lit n] at ht3 ha2
    rw [eDl_litY] at hd1 ha ha2 ⊢
    simp +contextual (maxSteps := 5000000) only [go_sem, ↓reduceIte, c_works, st_works, c_fewT, st_fewT, ht1, h1, hf1, c_fewD, st_fewD, hd1, h2, hf2]
    refine ⟨wkL_self (eTb t), wkL_self (eDl d), ?_⟩
    refine M_join (fun _ : Unit => ⟨[(2, .loc 2 0), (3, .loc 3 0), (5, .bool true), (7, .loc 7 0), (8, .int .i64 0)], [(2, .blk (eTb t) false), (3, .blk (eDl d) false), (7, .blk (eTb n) false)]⟩) (fun _ => True) ?_ ?_
    · simp +contextual (maxSteps := 5000000) only [go_sem, ↓reduceIte, c_Ap, st_Ap, ha, e, ht1, hd1, hz, eTb, eDl]
      exact ⟨(), trivial⟩
    intro _ _
    simp +contextual (maxSteps := 5000000) only [go_sem, ↓reduceIte, Int.reduceEq, Int.reduceNe, Int.reduceLT, Int.reduceLE, Int.reduceToNat, Int.cast_ofNat_Int]
    refine M_join (fun _ : Unit => ⟨[(2, .loc 2 0), (5, .bool true), (7, .loc 7 0), (9, .loc 9 0), (10, .int .i64 0)], [(2, .blk (eTb t) false), (7, .blk (eTb n) false), (9, .blk (eTb t) false)]⟩) (fun _ => True) ?_ ?_
    · unfold eTb eDl
      simp +contextual (maxSteps := 5000000) only [go_sem, ↓reduceIte, c_Bk, st_Bk, ha2, e3, ht3, hd1, eTb_lit]
      exact ⟨(), trivial⟩
    intro _ _
    unfold eTb
    simp +contextual (maxSteps := 5000000) only [go_sem, ↓reduceIte, Int.reduceEq, Int.reduceNe, Int.reduceLT, Int.reduceLE, Int.reduceToNat, Int.cast_ofNat_Int, c_TSm, hsS, c_TC, hsC, htc]
    exact ⟨rfl, rfl⟩
end Go.Proofs.Ytpkdflkjnhbljaa
