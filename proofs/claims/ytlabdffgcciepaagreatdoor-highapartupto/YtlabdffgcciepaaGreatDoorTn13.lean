/- Symbolic data, and what the operations do to it. -/
import Derived.Test.YtlabdffgcciepaaGreatDoorTn12
set_option linter.unusedSimpArgs false
set_option linter.unusedVariables false
set_option linter.unusedSectionVars false
namespace Go.Tn
open Go.RowKit
section
variable {B : Base} {S S' : Ex} {p : Pl} {H : Nat → Option LObj} {U : Nat → Bool} {w : World} {F : List Nat}
def OkAt (B : Base) (S' : Ex) (p : Pl) (H : Nat → Option LObj) (w : World) (i : Nat) (x : Option LObj) : Prop :=
  ∃ o g o0, x = some o ∧ H i = some o0 ∧ p i = some g ∧ ((∀ ys d st, o ≠ .yl ys d st) ∧ (∀ ys d st, o0 ≠ .yl ys d st) ∧ o ≠ .lrec) ∧ ObjRel B S' p w g o
theorem frz_list {f : D → (Nat → Option LObj) → Nat → Option LObj} {r : D → List Nat} {ok : Nat → Option LObj → Prop} :
    ∀ {cs : List D} {H' : Nat → Option LObj}, (∀ c ∈ cs, ∀ H', (∀ i ∈ r c, ok i (f c H' i)) ∧ ∀ i, i ∉ r c → f c H' i = H' i) →
      (∀ i ∈ (cs.map r).flatten, ok i (cs.foldr f H' i)) ∧ ∀ i, i ∉ (cs.map r).flatten → cs.foldr f H' i = H' i
  | [], _, _ => by simp
  | c :: cs, H', h => by
    obtain ⟨h1, h2⟩ := frz_list (cs := cs) (H' := H') (fun c hc => h c (by simp [hc]))
    obtain ⟨h3, h4⟩ := h c (by simp) (cs.foldr f H')
    simp only [List.map_cons, List.flatten_cons, List.mem_append, List.foldr_cons]
    refine ⟨fun i hi => ?_, fun i hi => ?_⟩
    · by_cases hc : i ∈ r c
      · exact h3 i hc
      · rw [h4 i hc]; exact h1 i (hi.resolve_left hc)
    · rw [h4 i (fun e => hi (.inl e)), h2 i (fun e => hi (.inr e))]
theorem frz_ok (hh : Heap B S p H U w) (hz : Fz F S S' p H) : ∀ (n : Nat) (d : D) (H' : Nat → Option LObj), (∀ i ∈ rf H n d, i ∈ F) → new H n d → (∃ v, Rd S w d p v) →
    (∀ i ∈ rf H n d, OkAt B S' p H w i (frz H n d H' i)) ∧ ∀ i, i ∉ rf H n d → frz H n d H' i = H' i := by
  have hk : Keep S S' w w := ⟨hz.le, fun _ _ _ _ h => h, fun _ _ _ _ h => h, fun _ _ h => h, fun _ _ _ _ _ _ => rfl⟩
  intro n
  induction n with
  | zero => intro d H' _ _ _; simp [rf, frz]
  | succ n ih =>
    intro d H' hF hn hd
    have hl : ∀ (cs : List D), (∀ i ∈ (cs.map (rf H n)).flatten, i ∈ F) → (∀ c ∈ cs, new H n c) → (∀ c ∈ cs, ∃ v, Rd S w c p v) → ∀ H',
        (∀ i ∈ (cs.map (rf H n)).flatten, OkAt B S' p H w i (cs.foldr (frz H n) H' i)) ∧ ∀ i, i ∉ (cs.map (rf H n)).flatten → cs.foldr (frz H n) H' i = H' i := fun cs hF hn hv H' =>
      frz_list (f := frz H n) (ok := OkAt B S' p H w) (fun c hc H' => ih c H' (fun i hi => hF i (List.mem_flatten.2 ⟨_, List.mem_map.2 ⟨c, hc, rfl⟩, hi⟩)) (hn c hc) (hv c hc))
    have hrd : ∀ {cs : List D} {vs : List Value}, RdL S w cs p vs → ∀ c ∈ cs, ∃ v, Rd S w c p v := fun {cs} => by
      induction cs with
      | nil => intro vs _ c hc; simp at hc
      | cons x xs ihx =>
        intro vs h c hc
        obtain ⟨v, r, rfl, h1, h2⟩ := h
        rcases List.mem_cons.1 hc with rfl | hc
        · exact ⟨v, h1⟩
        · exact ihx h2 c hc
    obtain ⟨v, hd⟩ := hd
    have hvec : ∀ i, (∀ j ∈ rfV (H i) i, j ∈ F) → (∀ j ∈ rfV (H i) i, OkAt B S' p H w j (fzV (H i) i H' j)) ∧ ∀ j, j ∉ rfV (H i) i → fzV (H i) i H' j = H' j := by
      intro i hF
      cases ho : H i with
      | none => simp [rfV, fzV]
      | some o =>
        cases o with
        | blk _ _ => simp [rfV, fzV]
        | mp _ _ _ => simp [rfV, fzV]
        | yl _ _ _ => simp [rfV, fzV]
        | lrec => simp [rfV, fzV]
        | nv _ _ => simp [rfV, fzV]
        | mv _ _ => simp [rfV, fzV]
        | vec e sz rows fz =>
          simp only [rfV, fzV, ho, List.mem_singleton] at hF ⊢
          refine ⟨fun j hj => ?_, fun j hj => upd_ne _ _ hj⟩
          subst hj
          rw [upd_same]
          obtain ⟨g, hg, xs, hown, hob, hl, hlt, hrl, hr, hc, hs, hf⟩ := hh.obj j _ ho
          exact ⟨_, g, _, rfl, ho, hg, ⟨(fun _ _ _ e => by cases e), (fun _ _ _ e => by cases e), (fun e => by cases e)⟩, xs, hown, hob, hl, hlt, hrl, RdL.mono hk _ (PlLe.refl _) hr, hc, fun b hb => by rw [hz.ob j _ g b (hF j rfl) ho hg hb]; exact Nat.le_refl _, Nat.le_refl _⟩
    cases d with
    | loc i off =>
      cases ho : H i with
      | none => simp [rf, frz, rfB, fzB, ho]
      | some o =>
        cases o with
        | vec _ _ _ _ => simp [rf, frz, rfB, fzB, ho]
        | mp _ _ _ => simp [rf, frz, rfB, fzB, ho]
        | yl _ _ _ => simp [rf, frz, rfB, fzB, ho]
        | lrec => simp [rf, frz, rfB, fzB, ho]
        | nv _ _ => simp [rf, frz, rfB, fzB, ho]
        | mv _ _ => simp [rf, frz, rfB, fzB, ho]
        | blk cs fz =>
          simp only [rf, rfB, ho, new, newB, List.mem_cons] at hF hn
          simp only [rf, frz, rfB, fzB, ho, List.mem_cons]
          obtain ⟨g, hg, vs, ty, hb, hown, hn0, hr, hs, h1⟩ := hh.obj i _ ho
          have hr' : RdL S w cs p vs := RdL.mono (Keep.refl _ _) _ (by cases fz <;> first | exact PlLe.refl _ | exact PlLe.none _) hr
          obtain ⟨h2, h3⟩ := hl cs (fun j hj => hF j (.inr hj)) (mem_foldr hn).1 (hrd hr') H'
          refine ⟨fun j hj => ?_, fun j hj => ?_⟩
          · by_cases e : j = i
            · subst e
              rw [upd_same]
              refine ⟨_, g, _, rfl, ho, hg, ⟨(fun _ _ _ e => by cases e), (fun _ _ _ e => by cases e), (fun e => by cases e)⟩, vs, ty, hb, hown, hn0, ?_, ?_, h1⟩
              · simp only [if_true]
                exact rdL_cv (fun c hc v hv => cv_ok hh hz n c v (fun k hk => hF k (.inr (List.mem_flatten.2 ⟨_, List.mem_map.2 ⟨c, hc, rfl⟩, hk⟩))) ((mem_foldr hn).1 c hc) hv) hr'
              · simp only [if_true]; rw [hz.ob j _ g _ (hF j (.inl rfl)) ho hg hown]; simp only [ext]; rw [rdL_len hr]
            · rw [upd_ne _ _ e]; exact h2 j (hj.resolve_left e)
          · rw [upd_ne _ _ (fun e => hj (.inl e))]; exact h3 j (fun e => hj (.inr e))
    | vec i m =>
      cases ho : H i with
      | none => simp [rf, frz, rfW, fzW, ho]
      | some o =>
        cases o with
        | blk _ _ => simp [rf, frz, rfW, fzW, ho]
        | mp _ _ _ => simp [rf, frz, rfW, fzW, ho]
        | yl _ _ _ => simp [rf, frz, rfW, fzW, ho]
        | lrec => simp [rf, frz, rfW, fzW, ho]
        | mv _ _ => simp [rf, frz, rfW, fzW, ho]
        | vec e sz rows fz =>
          have := hvec i (by simpa only [rf, rfW, rfV, ho] using hF)
          simpa only [rf, frz, rfW, fzW, rfV, fzV, ho] using this
        | nv e ms =>
          simp only [rf, rfW, ho, new, newW, List.mem_cons] at hF hn
          simp only [rf, frz, rfW, fzW, ho, List.mem_cons]
          obtain ⟨g, hg, xs, hown, hob, hl', hlt, hr, hc, hs⟩ := hh.obj i _ ho
          obtain ⟨h2, h3⟩ := hl (nvD ms) (fun j hj => hF j (.inr hj)) (mem_foldr hn.2).1 (hrd hr) H'
          refine ⟨fun j hj => ?_, fun j hj => ?_⟩
          · by_cases e : j = i
            · subst e
              rw [upd_same]
              have hr2 : RdL S' w ((nvD ms).map (cv H n)) noPl xs := rdL_cv (fun c hc v hv => cv_ok hh hz n c v (fun k hk => hF k (.inr (List.mem_flatten.2 ⟨_, List.mem_map.2 ⟨c, hc, rfl⟩, hk⟩))) ((mem_foldr hn.2).1 c hc) hv) hr
              refine ⟨_, g, _, rfl, ho, hg, ⟨(fun _ _ _ e => by cases e), (fun _ _ _ e => by cases e), (fun e => by cases e)⟩, xs, ⟨by rw [List.length_map]; exact hown.1, hown.2⟩, hob, by rw [List.length_map]; exact hl', by rw [List.length_map]; exact hlt, fun r hr => ?_, ?_, hc, fun b hb => ?_, by rw [List.length_map]; exact Nat.le_refl _⟩
              · obtain ⟨q, _, rfl⟩ := List.mem_map.1 hr; rfl
              · rw [flat_sing]
                simp only [nvD, List.map_map] at hr2
                exact hr2
              · rw [hz.ob j _ g b (hF j (.inl rfl)) ho hg hb]; simp [ext]
            · rw [upd_ne _ _ e]; exact h2 j (hj.resolve_left e)
          · rw [upd_ne _ _ (fun e => hj (.inl e))]; exact h3 j (fun e => hj (.inr e))
    | vptr i m sz k off => simp only [rf, frz] at hF ⊢; exact hvec i hF
    | lmap i =>
      cases ho : H i with
      | none => simp [rf, frz, rfM, fzM, ho]
      | some o =>
        cases o with
        | blk _ _ => simp [rf, frz, rfM, fzM, ho]
        | vec _ _ _ _ => simp [rf, frz, rfM, fzM, ho]
        | yl _ _ _ => simp [rf, frz, rfM, fzM, ho]
        | lrec => simp [rf, frz, rfM, fzM, ho]
        | nv _ _ => simp [rf, frz, rfM, fzM, ho]
        | mp ks ds fz =>
          simp only [rf, rfM, ho, List.mem_singleton] at hF
          simp only [rf, frz, rfM, fzM, ho, List.mem_singleton]
          refine ⟨fun j hj => ?_, fun j hj => upd_ne _ _ hj⟩
          subst hj
          rw [upd_same]
          obtain ⟨g, hg, es, c, hm, hown, hn0, h1, h2, hs, hbo⟩ := hh.obj j _ ho
          exact ⟨_, g, _, rfl, ho, hg, ⟨(fun _ _ _ e => by cases e), (fun _ _ _ e => by cases e), (fun e => by cases e)⟩, es, c, hm, hown, hn0, RdL.mono hk _ (PlLe.refl _) h1, RdL.mono hk _ (PlLe.refl _) h2, by rw [hz.ob j _ g _ (hF j rfl) ho hg hown]; simp [ext], hbo⟩
        | mv ks ms =>
          simp only [rf, rfM, ho, new, newM, List.mem_cons] at hF hn
          simp only [rf, frz, rfM, fzM, ho, List.mem_cons]
          obtain ⟨g, hg, es, c, hm, hown, hn0, h1, h2', hs, hbo⟩ := hh.obj i _ ho
          have hkl : (es.map (·.val)).length = ms.length := by
            have := rdL_len h1
            simp only [List.length_map] at this ⊢
            omega
          rw [← hkl, List.take_length] at h2'
          obtain ⟨h2, h3⟩ := hl (nvD ms) (fun j hj => hF j (.inr hj)) (mem_foldr hn.2).1 (hrd h2') H'
          refine ⟨fun j hj => ?_, fun j hj => ?_⟩
          · by_cases e : j = i
            · subst e
              rw [upd_same]
              have hr2 : RdL S' w ((nvD ms).map (cv H n)) noPl (es.map (·.val)) := rdL_cv (fun c hc v hv => cv_ok hh hz n c v (fun k hk => hF k (.inr (List.mem_flatten.2 ⟨_, List.mem_map.2 ⟨c, hc, rfl⟩, hk⟩))) ((mem_foldr hn.2).1 c hc) hv) h2'
              refine ⟨_, g, _, rfl, ho, hg, ⟨(fun _ _ _ e => by cases e), (fun _ _ _ e => by cases e), (fun e => by cases e)⟩, es, c, hm, hown, hn0, RdL.mono hk _ (PlLe.refl _) h1, ?_, ?_, hbo⟩
              · simp only [nvD, List.map_map] at hr2
                exact hr2
              · rw [hz.ob j _ g _ (hF j (.inl rfl)) ho hg hown]; simp [ext]
            · rw [upd_ne _ _ e]; exact h2 j (hj.resolve_left e)
          · rw [upd_ne _ _ (fun e => hj (.inl e))]; exact h3 j (fun e => hj (.inr e))
    | fn f a b =>
      simp only [rf, frz, new, List.mem_append] at hF hn ⊢
      simp only [Rd] at hd
      obtain ⟨fs, cs, rfl, h1, h2⟩ := hd
      obtain ⟨hn1, hn2⟩ := mem_foldr hn
      obtain ⟨a1, a2⟩ := hl b (fun j hj => hF j (.inr hj)) (mem_foldr hn2).1 (hrd h2) H'
      obtain ⟨b1, b2⟩ := hl a (fun j hj => hF j (.inl hj)) hn1 (hrd h1) (b.foldr (frz H n) H')
      refine ⟨fun i hi => ?_, fun i hi => ?_⟩
      · by_cases hc : i ∈ (a.map (rf H n)).flatten
        · exact b1 i hc
        · rw [b2 i hc]; exact a1 i (hi.resolve_left hc)
      · rw [b2 i (fun e => hi (.inl e)), a2 i (fun e => hi (.inr e))]
    | agg cs =>
      simp only [rf, frz, new] at hF hn ⊢
      simp only [Rd] at hd
      obtain ⟨vs, rfl, h1, h2⟩ := hd
      exact hl cs hF (mem_foldr hn).1 (hrd h1) H'
    | tup cs =>
      simp only [rf, frz, new] at hF hn ⊢
      simp only [Rd] at hd
      obtain ⟨vs, rfl, h1⟩ := hd
      exact hl cs hF (mem_foldr hn).1 (hrd h1) H'
    | ifc t d =>
      simp only [rf, frz, new] at hF hn ⊢
      simp only [Rd] at hd
      obtain ⟨x, rfl, h1⟩ := hd
      exact ih d H' hF hn ⟨x, h1⟩
    | yld j => simp [rf, frz]
    | vsub _ _ _ _ _ => simp [rf, frz]
    | any => simp [rf, frz]
    | int k m => simp [rf, frz]
    | bool b => simp [rf, frz]
    | str s => simp [rf, frz]
    | val u => simp [rf, frz]
    | nil => simp [rf, frz]
    | emp => simp [rf, frz]
    | sl sz rows => simp [rf, frz]
    | box cs => simp [rf, frz]
    | mp ks ds => simp [rf, frz]
def cvs (H : Nat → Option LObj) (ds : List D) : List D := ds.map (cv H 6)
def frzs (H : Nat → Option LObj) (ds : List D) : Nat → Option LObj := ds.foldr (frz H 6) H
def news (H : Nat → Option LObj) (ds : List D) : Prop := ds.foldr (fun c q => new H 6 c ∧ q) True
theorem per_ok (hh : Heap B S p H U w) {ds : List D} {vs : List Value} (hn : news H ds) (hd : RdL S w ds p vs) :
    ∃ S', Heap B S' p (frzs H ds) U w ∧ Keep S S' w w ∧ RdL S' w (cvs H ds) noPl vs := by
  obtain ⟨S', hz⟩ := fz_exists hh ((ds.map (rf H 6)).flatten)
  have hk : Keep S S' w w := ⟨hz.le, fun _ _ _ _ h => h, fun _ _ _ _ h => h, fun _ _ h => h, fun _ _ _ _ _ _ => rfl⟩
  have hrd : ∀ {cs : List D} {vs : List Value}, RdL S w cs p vs → ∀ c ∈ cs, ∃ v, Rd S w c p v := fun {cs} => by
    induction cs with
    | nil => intro vs _ c hc; simp at hc
    | cons x xs ihx =>
      intro vs h c hc
      obtain ⟨v, r, rfl, h1, h2⟩ := h
      rcases List.mem_cons.1 hc with rfl | hc
      · exact ⟨v, h1⟩
      · exact ihx h2 c hc
  have hin : ∀ c ∈ ds, ∀ i ∈ rf H 6 c, i ∈ (ds.map (rf H 6)).flatten := fun c hc i hi => List.mem_flatten.2 ⟨_, List.mem_map.2 ⟨c, hc, rfl⟩, hi⟩
  obtain ⟨h1, h2⟩ := frz_list (f := frz H 6) (ok := OkAt B S' p H w) (H' := H) (cs := ds) (fun c hc H' => frz_ok hh hz 6 c H' (hin c hc) ((mem_foldr hn).1 c hc) (hrd hd c hc))
  have old : ∀ i o, frzs H ds i = some o → ∃ o0, H i = some o0 := fun i o hi => by
    by_cases hF : i ∈ (ds.map (rf H 6)).flatten
    · obtain ⟨_, _, o0, _, h, _⟩ := h1 i hF; exact ⟨o0, h⟩
    · exact ⟨o, (h2 i hF).symm.trans hi⟩
  have outer : ∀ b, b < B.n0 → B.mb b = false → S' b = S b := fun b hb hm => by
    refine hz.no b (fun i o g _ ho hp hb' => ?_)
    obtain ⟨g', hp', hr⟩ := hh.obj i o ho
    rw [hp] at hp'; cases hp'
    rcases (hr.lt hb').1 with h | h
    · omega
    · rw [h] at hm; cases hm
  have ylo : ∀ i ys d st, frzs H ds i = some (.yl ys d st) → H i = some (.yl ys d st) := fun i ys d st hi => by
      by_cases hF : i ∈ (ds.map (rf H 6)).flatten
      · exfalso
        obtain ⟨o', g', o0, e, e0, hg', hny, hr⟩ := h1 i hF
        have : some o' = some (.yl ys d st) := e.symm.trans hi
        cases this
        exact hny.1 _ _ _ rfl
      · exact (h2 i hF).symm.trans hi
  have hext : ∀ b, 0 < S' b → b < w.heap.size := fun b hb => by
    by_cases hF : ∃ i o g, i ∈ (ds.map (rf H 6)).flatten ∧ H i = some o ∧ p i = some g ∧ g.own = some b
    · obtain ⟨i, o, g, _, ho, hp, hb'⟩ := hF
      obtain ⟨g', hp', hr⟩ := hh.obj i o ho
      rw [hp] at hp'; cases hp'
      exact (hr.lt hb').2
    · rw [hz.no b (fun i o g hi ho hp hb' => hF ⟨i, o, g, hi, ho, hp, hb'⟩)] at hb
      exact hh.ext b hb
  refine ⟨S', ⟨fun i o hi => ?_, fun i j o o' g g' b hi hj hpi hpj hb hb' => ?_, hh.use, hext, fun hi b hb hm => ?_, hh.size, hh.bel, fun i ys d st hi => hh.yid i ys d st (ylo i ys d st hi), fun i hi => (by
      by_cases hF : i ∈ (ds.map (rf H 6)).flatten
      · exfalso
        obtain ⟨o', g', o0, e, e0, hg', hny, hr⟩ := h1 i hF
        have : some o' = some .lrec := e.symm.trans hi
        cases this
        exact hny.2.2 rfl
      · exact hh.lid i ((h2 i hF).symm.trans hi)), fun i ys d st g b hi hpi hb => ?_⟩, hk, ?_⟩
  · by_cases hF : i ∈ (ds.map (rf H 6)).flatten
    · obtain ⟨o', g, _, e, _, hg, _, hr⟩ := h1 i hF
      have : some o' = some o := e.symm.trans hi
      cases this
      exact ⟨g, hg, hr⟩
    · have hi' : H i = some o := (h2 i hF).symm.trans hi
      obtain ⟨g, hg, hr⟩ := hh.obj i o hi'
      exact ⟨g, hg, hr.mono hk (PlLe.refl _) (fun _ _ => rfl) (fun b hb => hz.no b (fun j o' g' hj ho' hp' hb' => hF (by
        have := hh.inj i j _ _ _ _ b hi' ho' hg hp' hb hb'
        rw [this]; exact hj))) (fun ys d st ey => ⟨⟨rfl, rfl, rfl⟩, Nat.le_refl _, hext, fun b eb => ⟨rfl, hz.no b (fun j o' g' hj ho' hp' hb' => by
        subst ey
        exact (hh.env i ys d st g b hi' hg eb).2 j o' g' ho' hp' hb')⟩⟩)⟩
  · obtain ⟨_, h3⟩ := old i o hi
    obtain ⟨_, h4⟩ := old j o' hj
    exact hh.inj i j _ _ g g' b h3 h4 hpi hpj hb hb'
  · rw [← hh.old hi b hb hm]; exact outer b hb hm
  · have hi0 := ylo i ys d st hi
    obtain ⟨e1, e2⟩ := hh.env i ys d st g b hi0 hpi hb
    refine ⟨e1, fun j o g' hj hpj hb' => ?_⟩
    obtain ⟨o0, hj0⟩ := old j o hj
    exact e2 j o0 g' hj0 hpj hb'
  · exact rdL_cv (fun c hc v hv => cv_ok hh hz 6 c v (hin c hc) ((mem_foldr hn).1 c hc) hv) hd
theorem frzs_yl (hh : Heap B S p H U w) {ds : List D} {vs : List Value} (hn : news H ds) (hd : RdL S w ds p vs) {i : Nat} {ys d : List (List D)} {st : Bool} (hi : H i = some (.yl ys d st)) : frzs H ds i = some (.yl ys d st) := by
  obtain ⟨S', hz⟩ := fz_exists hh ((ds.map (rf H 6)).flatten)
  have hrd : ∀ {cs : List D} {vs : List Value}, RdL S w cs p vs → ∀ c ∈ cs, ∃ v, Rd S w c p v := fun {cs} => by
    induction cs with
    | nil => intro vs _ c hc; simp at hc
    | cons x xs ihx =>
      intro vs h c hc
      obtain ⟨v, r, rfl, h1, h2⟩ := h
      rcases List.mem_cons.1 hc with rfl | hc
      · exact ⟨v, h1⟩
      · exact ihx h2 c hc
  have hin : ∀ c ∈ ds, ∀ i ∈ rf H 6 c, i ∈ (ds.map (rf H 6)).flatten := fun c hc i hi => List.mem_flatten.2 ⟨_, List.mem_map.2 ⟨c, hc, rfl⟩, hi⟩
  obtain ⟨h1, h2⟩ := frz_list (f := frz H 6) (ok := OkAt B S' p H w) (H' := H) (cs := ds) (fun c hc H' => frz_ok hh hz 6 c H' (hin c hc) ((mem_foldr hn).1 c hc) (hrd hd c hc))
  by_cases hF : i ∈ (ds.map (rf H 6)).flatten
  · exfalso
    obtain ⟨_, _, o0, _, e0, _, hny, _⟩ := h1 i hF
    rw [hi] at e0; cases e0
    exact hny.2.1 _ _ _ rfl
  · exact (h2 i hF).trans hi
end
end Go.Tn
