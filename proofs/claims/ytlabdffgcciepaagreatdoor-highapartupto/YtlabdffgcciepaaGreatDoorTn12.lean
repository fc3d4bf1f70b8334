/- Symbolic data, and what the operations do to it. -/
import Derived.Test.YtlabdffgcciepaaGreatDoorTn11
set_option linter.unusedSimpArgs false
set_option linter.unusedVariables false
set_option linter.unusedSectionVars false
namespace Go.Tn
open Go.RowKit
mutual
def wk : D → D → Prop
  | _, .any => True
  | .nil, .sl _ rows => rows = []
  | .emp, .sl _ rows => rows = []
  | .nil, .emp => True
  | .agg a, .agg b => wkL a b
  | .tup a, .tup b => wkL a b
  | .fn f a b, .fn g c d => f = g ∧ wkL a c ∧ wkL b d
  | .ifc t a, .ifc u b => t = u ∧ wk a b
  | .box a, .box b => wkL a b
  | .sl s r, .sl s' r' => s = s' ∧ r = r'
  | .int k a, .int j b => k = j ∧ a = b
  | .bool a, .bool b => a = b
  | .str a, .str b => a = b
  | d, e => d = e
def wkL : List D → List D → Prop
  | [], [] => True
  | a :: as, b :: bs => wk a b ∧ wkL as bs
  | _, _ => False
end
theorem rdRows_of_flat {S : Ex} {w : World} : ∀ {rows : List (List D)} {b off : Nat}, RdAt S w rows.flatten b off → RdRows S w rows b off
  | [], _, _, _ => by simp [RdRows]
  | r :: rs, b, off, h => by
    rw [List.flatten_cons] at h
    simp only [RdRows]
    refine ⟨?_, rdRows_of_flat ?_⟩
    · have := rdAt_take r.length h
      simpa using this
    · have := rdAt_drop r.length h
      simpa using this
section
variable {S : Ex} {w : World}
mutual
theorem wk_ok : ∀ (d e : D) {p : Pl} {v : Value}, wk d e → Rd S w d p v → Rd S w e p v := by
  intro d e p v h hd
  unfold wk at h
  split at h
  · simp [Rd]
  · subst h; simp only [Rd] at hd ⊢; subst hd; exact ⟨none, 0, rfl, by simp, by simp, by simp, .inl trivial⟩
  · subst h; simp only [Rd] at hd ⊢; obtain ⟨a, rfl⟩ := hd; exact ⟨a, 0, rfl, by simp, by simp, by simp, .inl trivial⟩
  · simp only [Rd] at hd ⊢; exact ⟨none, hd⟩
  · simp only [Rd] at hd ⊢; obtain ⟨vs, e, h1, h2⟩ := hd; exact ⟨vs, e, wkL_ok _ _ h h1, h2⟩
  · simp only [Rd] at hd ⊢; obtain ⟨vs, e, h1⟩ := hd; exact ⟨vs, e, wkL_ok _ _ h h1⟩
  · simp only [Rd] at hd ⊢; obtain ⟨fs, cs, e, h1, h2⟩ := hd; exact ⟨fs, cs, by rw [e, h.1], wkL_ok _ _ h.2.1 h1, wkL_ok _ _ h.2.2 h2⟩
  · simp only [Rd] at hd ⊢; obtain ⟨x, e, h1⟩ := hd; exact ⟨x, by rw [e, h.1], wk_ok _ _ h.2 h1⟩
  · simp only [Rd] at hd ⊢; obtain ⟨b, off, e, h1⟩ := hd; exact ⟨b, off, e, wkAt_ok _ _ h h1⟩
  · obtain ⟨rfl, rfl⟩ := h; exact hd
  · obtain ⟨rfl, rfl⟩ := h; exact hd
  · subst h; exact hd
  · subst h; exact hd
  · subst h; exact hd
theorem wkL_ok : ∀ (ds es : List D) {p : Pl} {vs : List Value}, wkL ds es → RdL S w ds p vs → RdL S w es p vs
  | [], [], _, _, _, h => h
  | a :: as, b :: bs, _, _, h, hd => by
    obtain ⟨v, r, rfl, h1, h2⟩ := hd
    exact ⟨v, r, rfl, wk_ok a b h.1 h1, wkL_ok as bs h.2 h2⟩
  | [], _ :: _, _, _, h, _ => by simp [wkL] at h
  | _ :: _, [], _, _, h, _ => by simp [wkL] at h
theorem wkAt_ok : ∀ (ds es : List D) {b off : Nat}, wkL ds es → RdAt S w ds b off → RdAt S w es b off
  | [], [], _, _, _, h => h
  | a :: as, c :: cs, _, _, h, hd => by
    simp only [RdAt] at hd ⊢
    obtain ⟨h1, ⟨v, h2, h3, h4⟩, h5⟩ := hd
    exact ⟨h1, ⟨v, h2, h3, wk_ok a c h.1 h4⟩, wkAt_ok as cs h.2 h5⟩
  | [], _ :: _, _, _, h, _ => by simp [wkL] at h
  | _ :: _, [], _, _, h, _ => by simp [wkL] at h
end
end
def cvB (o : Option LObj) (off : Nat) (f : D → D) : D := match o with | some (.blk cs _) => .box ((cs.map f).drop off) | _ => .any
def cvV (o : Option LObj) (f : D → D) : D := match o with | some (.vec _ sz rows _) => .sl sz rows | some (.nv _ ms) => .sl 1 (ms.map fun q => [f (.vec q.1 q.2)]) | _ => .any
def cvP (o : Option LObj) (k off : Nat) : D := match o with | some (.vec _ _ rows _) => .box ((rows.getD k []).drop off) | _ => .any
def cvM (o : Option LObj) (f : D → D) : D := match o with | some (.mp ks ds _) => .mp ks ds | some (.mv ks ms) => .mp ks (ms.map fun q => f (.vec q.1 q.2)) | _ => .any
def cv (H : Nat → Option LObj) : Nat → D → D
  | 0, _ => .any
  | n + 1, .loc i off => cvB (H i) off (cv H n)
  | n + 1, .vec i _ => cvV (H i) (cv H n)
  | _ + 1, .vptr i _ _ k off => cvP (H i) k off
  | n + 1, .lmap i => cvM (H i) (cv H n)
  | _ + 1, .vsub _ _ _ _ _ => .any
  | n + 1, .fn f a b => .fn f (a.map (cv H n)) (b.map (cv H n))
  | n + 1, .agg cs => .agg (cs.map (cv H n))
  | n + 1, .tup cs => .tup (cs.map (cv H n))
  | n + 1, .ifc t d => .ifc t (cv H n d)
  | _ + 1, .yld _ => .any
  | _ + 1, d => d
def rfB (o : Option LObj) (i : Nat) (f : D → List Nat) : List Nat := match o with | some (.blk cs _) => i :: (cs.map f).flatten | _ => []
def rfV (o : Option LObj) (i : Nat) : List Nat := match o with | some (.vec _ _ _ _) => [i] | _ => []
def rfW (o : Option LObj) (i : Nat) (f : D → List Nat) : List Nat := match o with | some (.vec _ _ _ _) => [i] | some (.nv _ ms) => i :: ((nvD ms).map f).flatten | _ => []
def rfM (o : Option LObj) (i : Nat) (f : D → List Nat) : List Nat := match o with | some (.mp _ _ _) => [i] | some (.mv _ ms) => i :: ((nvD ms).map f).flatten | _ => []
def rf (H : Nat → Option LObj) : Nat → D → List Nat
  | 0, _ => []
  | n + 1, .loc i _ => rfB (H i) i (rf H n)
  | n + 1, .vec i _ => rfW (H i) i (rf H n)
  | _ + 1, .vptr i _ _ _ _ => rfV (H i) i
  | n + 1, .lmap i => rfM (H i) i (rf H n)
  | n + 1, .fn _ a b => (a.map (rf H n)).flatten ++ (b.map (rf H n)).flatten
  | n + 1, .agg cs => (cs.map (rf H n)).flatten
  | n + 1, .tup cs => (cs.map (rf H n)).flatten
  | n + 1, .ifc _ d => rf H n d
  | _ + 1, _ => []
def newB (o : Option LObj) (f : D → Prop) : Prop := match o with | some (.blk cs _) => cs.foldr (fun c q => f c ∧ q) True | some _ => True | none => False
def newV (o : Option LObj) (m k sz : Nat) : Prop := match o with | some (.vec _ sz' rows _) => rows.length = m ∧ k ≤ rows.length ∧ (sz = 0 ∨ sz = sz' ∧ k < rows.length) | some _ => True | none => False
def newW (o : Option LObj) (m : Nat) (f : D → Prop) : Prop := match o with | some (.vec _ _ rows _) => rows.length = m | some (.nv _ ms) => ms.length = m ∧ (nvD ms).foldr (fun c q => f c ∧ q) True | some _ => True | none => False
def newM (o : Option LObj) (f : D → Prop) : Prop := match o with | some (.mv ks ms) => ms.length = ks.length ∧ (nvD ms).foldr (fun c q => f c ∧ q) True | some _ => True | none => False
def new (H : Nat → Option LObj) : Nat → D → Prop
  | 0, _ => True
  | n + 1, .loc i _ => newB (H i) (new H n)
  | n + 1, .vec i m => newW (H i) m (new H n)
  | _ + 1, .vptr i m sz k _ => 0 < sz ∧ newV (H i) m k sz
  | n + 1, .lmap i => newM (H i) (new H n)
  | n + 1, .fn _ a b => a.foldr (fun c q => new H n c ∧ q) (b.foldr (fun c q => new H n c ∧ q) True)
  | n + 1, .agg cs => cs.foldr (fun c q => new H n c ∧ q) True
  | n + 1, .tup cs => cs.foldr (fun c q => new H n c ∧ q) True
  | n + 1, .ifc _ d => new H n d
  | _ + 1, _ => True
def fzB (o : Option LObj) (i : Nat) (g : D → D) (f : D → (Nat → Option LObj) → Nat → Option LObj) (H' : Nat → Option LObj) : Nat → Option LObj :=
  match o with | some (.blk cs _) => upd (cs.foldr f H') i (some (.blk (cs.map g) true)) | _ => H'
def fzV (o : Option LObj) (i : Nat) (H' : Nat → Option LObj) : Nat → Option LObj := match o with | some (.vec e sz rows _) => upd H' i (some (.vec e sz rows rows.length)) | _ => H'
def fzW (o : Option LObj) (i : Nat) (g : D → D) (f : D → (Nat → Option LObj) → Nat → Option LObj) (H' : Nat → Option LObj) : Nat → Option LObj :=
  match o with | some (.vec e sz rows _) => upd H' i (some (.vec e sz rows rows.length)) | some (.nv e ms) => upd ((nvD ms).foldr f H') i (some (.vec e 1 (ms.map fun q => [g (.vec q.1 q.2)]) ms.length)) | _ => H'
def fzM (o : Option LObj) (i : Nat) (g : D → D) (f : D → (Nat → Option LObj) → Nat → Option LObj) (H' : Nat → Option LObj) : Nat → Option LObj := match o with | some (.mp ks ds _) => upd H' i (some (.mp ks ds true)) | some (.mv ks ms) => upd ((nvD ms).foldr f H') i (some (.mp ks (ms.map fun q => g (.vec q.1 q.2)) true)) | _ => H'
def frz (H : Nat → Option LObj) : Nat → D → (Nat → Option LObj) → Nat → Option LObj
  | 0, _, H' => H'
  | n + 1, .loc i _, H' => fzB (H i) i (cv H n) (frz H n) H'
  | n + 1, .vec i _, H' => fzW (H i) i (cv H n) (frz H n) H'
  | _ + 1, .vptr i _ _ _ _, H' => fzV (H i) i H'
  | n + 1, .lmap i, H' => fzM (H i) i (cv H n) (frz H n) H'
  | n + 1, .fn _ a b, H' => a.foldr (frz H n) (b.foldr (frz H n) H')
  | n + 1, .agg cs, H' => cs.foldr (frz H n) H'
  | n + 1, .tup cs, H' => cs.foldr (frz H n) H'
  | n + 1, .ifc _ d, H' => frz H n d H'
  | _ + 1, _, H' => H'
def ext : LObj → Nat
  | .blk cs _ => cs.length
  | .vec _ sz rows _ => rows.length * sz
  | .mp _ _ _ => 1
  | .yl _ _ _ => 0
  | .lrec => 0
  | .nv _ ms => ms.length
  | .mv _ _ => 1
structure Fz (F : List Nat) (S S' : Ex) (p : Pl) (H : Nat → Option LObj) : Prop where
  le : ∀ b, S b ≤ S' b
  ob : ∀ i o g b, i ∈ F → H i = some o → p i = some g → g.own = some b → S' b = ext o
  no : ∀ b, (∀ i o g, i ∈ F → H i = some o → p i = some g → g.own ≠ some b) → S' b = S b
theorem ext_le {B : Base} {S : Ex} {p : Pl} {w : World} {g : G} {o : LObj} (h : ObjRel B S p w g o) {b : Nat} (hb : g.own = some b) : S b ≤ ext o := by
  cases o with
  | blk cs fz =>
    obtain ⟨vs, _, _, ho, _, hr, hs, _⟩ := h
    rw [ho] at hb; cases hb
    rw [hs]; have := rdL_len hr; simp only [ext]; split <;> omega
  | vec e sz rows fz =>
    obtain ⟨_, _, _, _, _, _, _, _, hs, hf⟩ := h
    exact Nat.le_trans (hs b hb) (Nat.mul_le_mul_right _ hf)
  | mp ks ds fz =>
    obtain ⟨_, _, _, ho, _, _, _, hs, _⟩ := h
    rw [ho] at hb; cases hb
    rw [hs]; simp only [ext]; split <;> omega
  | yl ys d st => rw [h.2.1] at hb; cases hb
  | lrec => obtain ⟨_, ho, _, hs⟩ := h; rw [ho] at hb; cases hb; omega
  | nv e ms => obtain ⟨_, _, _, _, _, _, _, hs⟩ := h; rw [hs b hb]; exact Nat.zero_le _
  | mv ks ms => obtain ⟨_, _, _, ho, _, _, _, hs, _⟩ := h; rw [ho] at hb; cases hb; rw [hs]; exact Nat.zero_le _
theorem fz_exists {B : Base} {S : Ex} {p : Pl} {H : Nat → Option LObj} {U : Nat → Bool} {w : World} (h : Heap B S p H U w) (F : List Nat) : ∃ S', Fz F S S' p H := by
  classical
  let Q : Nat → Nat → Prop := fun b n => ∃ i o g, i ∈ F ∧ H i = some o ∧ p i = some g ∧ g.own = some b ∧ n = ext o
  have hQ : ∀ i o g b, i ∈ F → H i = some o → p i = some g → g.own = some b → ∀ n, Q b n → n = ext o := by
    intro i o g b hi ho hp hb n ⟨i', o', g', hi', ho', hp', hb', e⟩
    have := h.inj i i' o o' g g' b ho ho' hp hp' hb hb'
    subst this
    rw [ho] at ho'; cases ho'; exact e
  refine ⟨fun b => if hq : ∃ n, Q b n then hq.choose else S b, fun b => ?_, fun i o g b hi ho hp hb => ?_, fun b hn => ?_⟩
  · by_cases hq : ∃ n, Q b n
    · simp only [dif_pos hq]
      obtain ⟨i, o, g, hi, ho, hp, hb, e⟩ := hq.choose_spec
      obtain ⟨g', hp', hr⟩ := h.obj i o ho
      rw [hp] at hp'; cases hp'
      rw [e]; exact ext_le hr hb
    · simp only [dif_neg hq]; exact Nat.le_refl _
  · have hq : ∃ n, Q b n := ⟨ext o, i, o, g, hi, ho, hp, hb, rfl⟩
    simp only [dif_pos hq]
    exact hQ i o g b hi ho hp hb _ hq.choose_spec
  · have hq : ¬ ∃ n, Q b n := fun ⟨n, i, o, g, hi, ho, hp, hb, _⟩ => hn i o g hi ho hp hb
    simp only [dif_neg hq]
theorem mem_foldr {f : D → Prop} {q : Prop} : ∀ {cs : List D}, cs.foldr (fun c q => f c ∧ q) q → (∀ c ∈ cs, f c) ∧ q
  | [], h => ⟨by simp, h⟩
  | c :: cs, h => by
    obtain ⟨h1, h2⟩ := mem_foldr (cs := cs) h.2
    exact ⟨fun x hx => by rcases List.mem_cons.1 hx with rfl | hx; exact h.1; exact h1 x hx, h2⟩
section
variable {B : Base} {S S' : Ex} {p : Pl} {H : Nat → Option LObj} {U : Nat → Bool} {w : World} {F : List Nat}
theorem rdL_cv {f : D → D} : ∀ {cs : List D} {vs : List Value}, (∀ c ∈ cs, ∀ v, Rd S w c p v → Rd S' w (f c) noPl v) → RdL S w cs p vs → RdL S' w (cs.map f) noPl vs
  | [], _, _, h => h
  | c :: cs, _, hf, h => by
    obtain ⟨v, r, rfl, h1, h2⟩ := h
    exact ⟨v, r, rfl, hf c (by simp) v h1, rdL_cv (fun c hc => hf c (by simp [hc])) h2⟩
theorem flat_sing {α β : Type} (f : α → β) : ∀ l : List α, (l.map fun q => [f q]).flatten = l.map f
  | [] => rfl
  | x :: l => by simp [flat_sing f l]
theorem cv_ok (hh : Heap B S p H U w) (hz : Fz F S S' p H) : ∀ (n : Nat) (d : D) (v : Value), (∀ i ∈ rf H n d, i ∈ F) → new H n d → Rd S w d p v → Rd S' w (cv H n d) noPl v := by
  have hk : Keep S S' w w := ⟨hz.le, fun _ _ _ _ h => h, fun _ _ _ _ h => h, fun _ _ h => h, fun _ _ _ _ _ _ => rfl⟩
  intro n
  induction n with
  | zero => intro d v _ _ _; simp [cv, Rd]
  | succ n ih =>
    intro d v hF hn hd
    have hl : ∀ cs : List D, (∀ i ∈ (cs.map (rf H n)).flatten, i ∈ F) → (∀ c ∈ cs, new H n c) → ∀ vs, RdL S w cs p vs → RdL S' w (cs.map (cv H n)) noPl vs := fun cs hF hn vs h =>
      rdL_cv (fun c hc v hv => ih c v (fun i hi => hF i (List.mem_flatten.2 ⟨_, List.mem_map.2 ⟨c, hc, rfl⟩, hi⟩)) (hn c hc) hv) h
    cases d with
    | loc i off =>
      simp only [cv, cvB]
      split
      · rename_i cs fz ho
        simp only [rf, rfB, ho] at hF
        simp only [new, newB, ho] at hn
        simp only [Rd] at hd ⊢
        obtain ⟨g, hg, rfl⟩ := hd
        obtain ⟨g', hg', vs, ty, hb, hown, hn0, hr, hs, h1⟩ := hh.obj i _ ho
        rw [hg] at hg'; cases hg'
        have hr' : RdL S w cs p vs := RdL.mono (Keep.refl _ _) _ (by cases fz <;> first | exact PlLe.refl _ | exact PlLe.none _) hr
        have hc := hl cs (fun j hj => hF j (by simp only [List.mem_cons]; exact .inr hj)) (mem_foldr hn).1 vs hr'
        have hS' := hz.ob i _ g _ (hF i (by simp)) ho hg hown
        refine ⟨_, _, rfl, ?_⟩
        have hlen := rdL_len hr
        have := rdAt_mk (ds := cs.map (cv H n)) (b := g.ptr) (off := 0) hc h1 (fun j v hj => ⟨by simp only [World.cell?, hb, Nat.zero_add]; simpa using hj, by
          have := (List.getElem?_eq_some_iff.1 hj).1
          rw [hS']; simp only [ext]; omega⟩)
        simpa using rdAt_drop off this
      · simp [Rd]
    | vec i m =>
      simp only [cv, cvV]
      split
      · rename_i e sz rows fz ho
        simp only [rf, rfW, ho] at hF
        simp only [new, newW, ho] at hn
        simp only [Rd] at hd ⊢
        obtain ⟨g, hg, hle, h1, hv⟩ := hd
        obtain ⟨g', hg', xs, ⟨hown, howno⟩, hob, hl, hlt, hrl, hr, hc, hs, hf⟩ := hh.obj i _ ho
        rw [hg] at hg'; cases hg'
        obtain rfl := hv (by omega)
        rcases hown.2 with ⟨e1, e0⟩ | ⟨gb, cap, cu, e1, hgb, hhb, hnc, _⟩
        · exact ⟨none, 0, by rw [e1, e0], by omega, hlt, hrl, .inl (List.length_eq_zero_iff.1 e0)⟩
        · rw [e1] at hob
          have hS' := hz.ob i _ g gb (hF i (by simp)) ho hg hob
          refine ⟨_, cap, e1, hnc, hlt, hrl, .inr ⟨gb, 0, rfl, ?_⟩⟩
          refine rdRows_of_flat ?_
          have hxl := rdL_len hr
          have hfl := flatten_len hrl
          exact rdAt_mk (RdL.mono hk _ (PlLe.refl _) hr) hc (fun j v hj => ⟨by rw [Nat.zero_add]; exact owns_cell hown (by rw [e1]; rfl) j v hj, by
            have := (List.getElem?_eq_some_iff.1 hj).1
            rw [hS']; simp only [ext]; omega⟩)
      · rename_i e ms ho
        simp only [rf, rfW, ho] at hF
        simp only [new, newW, ho] at hn
        simp only [Rd] at hd ⊢
        obtain ⟨g, hg, hle, h1, hv⟩ := hd
        obtain ⟨g', hg', xs, ⟨hown, howno⟩, hob, hl', hlt, hr, hc, hs⟩ := hh.obj i _ ho
        rw [hg] at hg'; cases hg'
        obtain rfl := hv (by omega)
        have hr2 := hl (nvD ms) (fun j hj => hF j (by simp only [List.mem_cons]; exact .inr hj)) (mem_foldr hn.2).1 xs hr
        have hrl : ∀ r ∈ ms.map (fun q => [cv H n (.vec q.1 q.2)]), r.length = 1 := fun r hr => by
          obtain ⟨q, _, rfl⟩ := List.mem_map.1 hr; rfl
        have hflat : (ms.map (fun q => [cv H n (.vec q.1 q.2)])).flatten = (nvD ms).map (cv H n) := by
          rw [flat_sing, nvD, List.map_map]; rfl
        rcases hown.2 with ⟨e1, e0⟩ | ⟨gb, cap, cu, e1, hgb, hhb, hnc, _⟩
        · exact ⟨none, 0, by rw [e1, List.length_map, e0], by rw [List.length_map]; omega, by rw [List.length_map]; exact hlt, hrl, .inl (by rw [List.length_eq_zero_iff.1 e0]; rfl)⟩
        · rw [e1] at hob
          have hS' := hz.ob i _ g gb (hF i (by simp)) ho hg hob
          refine ⟨_, cap, by rw [e1, List.length_map], by rw [List.length_map]; exact hnc, by rw [List.length_map]; exact hlt, hrl, .inr ⟨gb, 0, rfl, ?_⟩⟩
          refine rdRows_of_flat ?_
          rw [hflat]
          have hxl := rdL_len hr
          refine rdAt_mk hr2 hc (fun j v hj => ⟨by rw [Nat.zero_add]; exact owns_cell hown (by rw [e1]; rfl) j v hj, ?_⟩)
          have := (List.getElem?_eq_some_iff.1 hj).1
          rw [hS']; simp only [ext]
          simp only [nvD, List.length_map] at hxl
          omega
      · simp [Rd]
    | vptr i m sz k off =>
      simp only [cv, cvP]
      split
      · rename_i e sz' rows fz ho
        simp only [rf, rfV, ho] at hF
        simp only [new, newV, ho] at hn
        obtain ⟨hpos, hm, _, hn⟩ := hn
        obtain ⟨rfl, hkr⟩ : sz = sz' ∧ k < rows.length := by rcases hn with h | h; omega; exact h
        simp only [Rd] at hd ⊢
        obtain ⟨g, hg, hle, h1, hv⟩ := hd
        obtain ⟨g', hg', xs, ⟨hown, howno⟩, hob, hl, hlt, hrl, hr, hc, hs, hf⟩ := hh.obj i _ ho
        rw [hg] at hg'; cases hg'
        obtain ⟨b, hb, rfl⟩ := hv (by omega)
        refine ⟨_, _, rfl, ?_⟩
        have hS' := hz.ob i _ g b (hF i (by simp)) ho hg hb
        have hxl := rdL_len hr
        have hfl := flatten_len hrl
        have hat := rdAt_mk (S := S') (b := b) (off := 0) (RdL.mono hk _ (PlLe.refl _) hr) hc (fun j v hj => ⟨by rw [Nat.zero_add]; exact owns_cell hown (hob ▸ hb) j v hj, by
            have := (List.getElem?_eq_some_iff.1 hj).1
            rw [hS']; simp only [ext]; omega⟩)
        have h2 := rdAt_drop off (rdAt_take sz (rdAt_drop (k * sz) hat))
        rw [flatten_row hrl hkr, Nat.zero_add] at h2
        exact h2
      · simp [Rd]
    | vsub i n z a b => simp [cv, Rd]
    | lmap i =>
      simp only [cv, cvM]
      split
      · rename_i ks ds fz ho
        simp only [rf, rfM, ho] at hF
        simp only [Rd] at hd ⊢
        obtain ⟨g, hg, rfl⟩ := hd
        obtain ⟨g', hg', es, c, hm, hown, hn0, h1, h2, hs, _⟩ := hh.obj i _ ho
        rw [hg] at hg'; cases hg'
        have hS' := hz.ob i _ g _ (hF i (by simp)) ho hg hown
        exact ⟨_, es, c, rfl, hm, by rw [hS']; simp [ext], RdL.mono hk _ (PlLe.refl _) h1, RdL.mono hk _ (PlLe.refl _) h2⟩
      · rename_i ks ms ho
        simp only [rf, rfM, ho] at hF
        simp only [new, newM, ho] at hn
        simp only [Rd] at hd ⊢
        obtain ⟨g, hg, rfl⟩ := hd
        obtain ⟨g', hg', es, c, hm, hown, hn0, h1, h2, hs, _⟩ := hh.obj i _ ho
        rw [hg] at hg'; cases hg'
        have hS' := hz.ob i _ g _ (hF i (by simp)) ho hg hown
        have hkl : (es.map (·.val)).length = ms.length := by
          have := rdL_len h1
          simp only [List.length_map] at this ⊢
          omega
        rw [← hkl, List.take_length] at h2
        have hr2 := hl (nvD ms) (fun j hj => hF j (by simp only [List.mem_cons]; exact .inr hj)) (mem_foldr hn.2).1 _ h2
        refine ⟨_, es, c, rfl, hm, by rw [hS']; simp [ext], RdL.mono hk _ (PlLe.refl _) h1, ?_⟩
        simp only [nvD, List.map_map] at hr2
        exact hr2
      · simp [Rd]
    | fn f a b =>
      simp only [rf, List.mem_append] at hF
      simp only [new] at hn
      simp only [cv, Rd] at hd ⊢
      obtain ⟨fs, cs, rfl, h1, h2⟩ := hd
      obtain ⟨hn1, hn2⟩ := mem_foldr hn
      exact ⟨fs, cs, rfl, hl a (fun j hj => hF j (.inl hj)) hn1 _ h1, hl b (fun j hj => hF j (.inr hj)) (mem_foldr hn2).1 _ h2⟩
    | agg cs =>
      simp only [cv, Rd] at hd ⊢
      obtain ⟨vs, rfl, h1, h2⟩ := hd
      exact ⟨vs, rfl, hl cs hF (mem_foldr hn).1 _ h1, h2⟩
    | tup cs =>
      simp only [cv, Rd] at hd ⊢
      obtain ⟨vs, rfl, h1⟩ := hd
      exact ⟨vs, rfl, hl cs hF (mem_foldr hn).1 _ h1⟩
    | ifc t d =>
      simp only [cv, Rd] at hd ⊢
      obtain ⟨x, rfl, h1⟩ := hd
      exact ⟨x, rfl, ih d x hF hn h1⟩
    | yld j => simp [cv, Rd]
    | any => simp [cv, Rd]
    | int k m => exact Rd.mono hk _ (PlLe.refl _) hd
    | bool b => exact Rd.mono hk _ (PlLe.refl _) hd
    | str s => exact Rd.mono hk _ (PlLe.refl _) hd
    | val u => exact Rd.mono hk _ (PlLe.refl _) hd
    | nil => exact Rd.mono hk _ (PlLe.refl _) hd
    | emp => exact Rd.mono hk _ (PlLe.refl _) hd
    | sl sz rows => simp only [Rd] at hd; exact Rd.mono (p := noPl) hk (.sl sz rows) (PlLe.refl _) (by simpa only [Rd] using hd)
    | box cs => simp only [Rd] at hd; exact Rd.mono (p := noPl) hk (.box cs) (PlLe.refl _) (by simpa only [Rd] using hd)
    | mp ks ds => simp only [Rd] at hd; exact Rd.mono (p := noPl) hk (.mp ks ds) (PlLe.refl _) (by simpa only [Rd] using hd)
end
end Go.Tn
