/- Symbolic data, and what the operations do to it. -/
import Derived.Test.YtlabdffgcciepaaGreatDoorTn14
set_option linter.unusedSimpArgs false
set_option linter.unusedVariables false
set_option linter.unusedSectionVars false
namespace Go.Tn
open Go.RowKit
abbrev Hp := Nat → Option LObj
abbrev Us := Nat → Bool
structure Hd where
  t : List (Nat × D)
  o : List (Nat × LObj)
def mkT : List (Nat × D) → Nat → D
  | [] => fun _ => .any
  | (i, d) :: r => upd (mkT r) i d
def mkH : List (Nat × LObj) → Hp
  | [] => fun _ => none
  | (i, o) :: r => upd (mkH r) i (some o)
def mkU : List (Nat × LObj) → Us
  | [] => fun _ => false
  | (i, _) :: r => upd (mkU r) i true
mutual
def inO (U : Us) : D → Prop
  | .loc i _ => U i = true
  | .vec i _ => U i = true
  | .vptr i _ _ _ _ => U i = true
  | .lmap i => U i = true
  | .vsub i _ _ _ _ => U i = true
  | .yld i => U i = true
  | .agg cs => inOL U cs
  | .tup cs => inOL U cs
  | .fn _ a b => inOL U a ∧ inOL U b
  | .ifc _ d => inO U d
  | _ => True
def inOL (U : Us) : List D → Prop
  | [] => True
  | d :: ds => inO U d ∧ inOL U ds
end
def inLO (U : Us) : LObj → Prop
  | .blk cs _ => inOL U cs
  | .nv _ ms => inOL U (nvD ms)
  | .mv _ ms => inOL U (nvD ms)
  | _ => True
def wkN (V : Us) (x d : D) : Prop :=
  match x, d with
  | .nil, .vec i n => n = 0 ∧ V i = false
  | x, d => wk x d
def wkNL (V : Us) : List D → List D → Prop
  | [], [] => True
  | a :: as, b :: bs => wkN V a b ∧ wkNL V as bs
  | _, _ => False
def wkF (fz : Bool) (V : Us) (cs cs' : List D) : Prop := match fz with | true => wkL cs cs' | false => wkNL V cs cs'
def wkO (V : Us) (i : Nat) (x : Option LObj) (o : LObj) : Prop :=
  match x, o with
  | none, .vec _ _ rows fz => (rows = [] ∧ fz = 0) ∧ V i = false
  | none, .nv _ ms => ms = [] ∧ V i = false
  | some (.nv e ms), .nv e' ms' => e = e' ∧ ms = ms'
  | some (.blk cs fz), .blk cs' fz' => wkF fz V cs cs' ∧ fz = fz'
  | some (.vec e sz rows fz), .vec e' sz' rows' fz' => e = e' ∧ sz = sz' ∧ rows = rows' ∧ fz ≤ fz' ∧ fz' ≤ rows.length
  | some (.mp ks ds fz), .mp ks' ds' fz' => ks = ks' ∧ ds = ds' ∧ fz = fz'
  | some (.mp ks ds fz), .mv ks' ms' => (ks = [] ∧ ds = [] ∧ fz = false) ∧ ks' = [] ∧ ms' = []
  | some (.mv ks ms), .mv ks' ms' => ks = ks' ∧ ms = ms'
  | some (.yl ys d st), .yl ys' d' st' => ys = ys' ∧ d = d' ∧ st = st'
  | some .lrec, .lrec => True
  | _, _ => False
def entT (V U : Us) (T : Nat → D) : List (Nat × D) → Prop
  | [] => True
  | (i, d) :: r => (wkN V (T i) d ∧ inO U d) ∧ entT V U T r
def entO (V U : Us) (H : Hp) : List (Nat × LObj) → Prop
  | [] => True
  | (i, o) :: r => (wkO V i (H i) o ∧ inLO U o) ∧ entO V U H r
def allU (U : Us) : List Nat → Prop
  | [] => True
  | i :: r => U i = true ∧ allU U r
def entH (L0 : List Nat) (h : Hd) (T : Nat → D) (H : Hp) (V : Us) : Prop := (entT V (mkU h.o) T h.t ∧ entO V (mkU h.o) H h.o) ∧ allU (mkU h.o) L0
theorem allU_mem {U : Us} : ∀ {l : List Nat}, allU U l → ∀ i ∈ l, U i = true
  | [], _, i, hi => by simp at hi
  | j :: l, h, i, hi => by
    rcases List.mem_cons.1 hi with rfl | hi
    · exact h.1
    · exact allU_mem h.2 i hi
section
variable {P : Program} [Fen P] {B : Base} {N n : Nat} {S S' : Ex} {p : Pl} {T : Nat → D} {H : Hp} {U : Us} {a : Act} {w w' : World} {dst : Option Nat}
def gnil : G := ⟨0, none, 0, .slice none 0 0, fun _ => False⟩
def cutP (p : Pl) (U : Us) : Pl := fun i => if U i = true then some ((p i).getD gnil) else none
theorem cutP_in {i : Nat} (h : U i = true) {g : G} (hg : p i = some g) : cutP p U i = some g := by simp [cutP, h, hg]
theorem cutP_new {i : Nat} (h : U i = true) (hg : p i = none) : cutP p U i = some gnil := by simp [cutP, h, hg]
mutual
theorem rd_in : ∀ (d : D) {v : Value}, inO U d → Rd S w d p v → Rd S w d (cutP p U) v
  | .any, _, _, _ => by simp [Rd]
  | .int _ _, _, _, h => h
  | .bool _, _, _, h => h
  | .str _, _, _, h => h
  | .val _, _, _, h => h
  | .nil, _, _, h => h
  | .emp, _, _, h => h
  | .sl _ _, _, _, h => by simp only [Rd] at h ⊢; exact h
  | .box _, _, _, h => by simp only [Rd] at h ⊢; exact h
  | .mp _ _, _, _, h => by simp only [Rd] at h ⊢; exact h
  | .agg cs, _, hi, h => by
    simp only [inO] at hi
    simp only [Rd] at h ⊢
    obtain ⟨vs, e, h, ho⟩ := h
    exact ⟨vs, e, rdL_in cs hi h, ho⟩
  | .tup cs, _, hi, h => by
    simp only [inO] at hi
    simp only [Rd] at h ⊢
    obtain ⟨vs, e, h⟩ := h
    exact ⟨vs, e, rdL_in cs hi h⟩
  | .fn f a b, _, hi, h => by
    simp only [inO] at hi
    simp only [Rd] at h ⊢
    obtain ⟨fs, cs, e, h1, h2⟩ := h
    exact ⟨fs, cs, e, rdL_in a hi.1 h1, rdL_in b hi.2 h2⟩
  | .ifc t d, _, hi, h => by
    simp only [inO] at hi
    simp only [Rd] at h ⊢
    obtain ⟨x, e, h⟩ := h
    exact ⟨x, e, rd_in d hi h⟩
  | .loc i off, _, hi, h => by
    simp only [inO] at hi
    simp only [Rd] at h ⊢; obtain ⟨g, hg, h⟩ := h; exact ⟨g, cutP_in hi hg, h⟩
  | .vec i n, _, hi, h => by
    simp only [inO] at hi
    simp only [Rd] at h ⊢; obtain ⟨g, hg, h⟩ := h; exact ⟨g, cutP_in hi hg, h⟩
  | .vptr i n sz k off, _, hi, h => by
    simp only [inO] at hi
    simp only [Rd] at h ⊢; obtain ⟨g, hg, h⟩ := h; exact ⟨g, cutP_in hi hg, h⟩
  | .vsub i _ _ _ _, _, hi, h => by
    simp only [inO] at hi
    simp only [Rd] at h ⊢; obtain ⟨g, hg, h⟩ := h; exact ⟨g, cutP_in hi hg, h⟩
  | .lmap i, _, hi, h => by
    simp only [inO] at hi
    simp only [Rd] at h ⊢; obtain ⟨g, hg, h⟩ := h; exact ⟨g, cutP_in hi hg, h⟩
  | .yld i, _, hi, h => by
    simp only [inO] at hi
    simp only [Rd] at h ⊢; obtain ⟨g, hg, h⟩ := h; exact ⟨g, cutP_in hi hg, h⟩
theorem rdL_in : ∀ (ds : List D) {vs : List Value}, inOL U ds → RdL S w ds p vs → RdL S w ds (cutP p U) vs
  | [], _, _, h => h
  | d :: ds, _, hi, h => by
    simp only [inOL] at hi
    obtain ⟨v, r, rfl, h1, h2⟩ := h
    exact ⟨v, r, rfl, rd_in d hi.1 h1, rdL_in ds hi.2 h2⟩
end
theorem mkU_of {l : List (Nat × LObj)} {i : Nat} {o : LObj} (h : mkH l i = some o) : (i, o) ∈ l ∧ mkU l i = true := by
  induction l with
  | nil => simp [mkH] at h
  | cons q l ih =>
    obtain ⟨j, o'⟩ := q
    simp only [mkH, mkU] at h ⊢
    rcases upd_some h with ⟨rfl, rfl⟩ | ⟨e, h'⟩
    · exact ⟨by simp, upd_same _ _ _⟩
    · exact ⟨List.mem_cons_of_mem _ (ih h').1, by rw [upd_ne _ _ e]; exact (ih h').2⟩
theorem entO_mem {V : Us} {l : List (Nat × LObj)} (h : entO V U H l) {i : Nat} {o : LObj} (hm : (i, o) ∈ l) : wkO V i (H i) o ∧ inLO U o := by
  induction l with
  | nil => simp at hm
  | cons q l ih =>
    obtain ⟨j, o'⟩ := q
    simp only [entO] at h
    rcases List.mem_cons.1 hm with e | hm
    · cases e; exact h.1
    · exact ih h.2 hm
theorem entT_at {V : Us} {l : List (Nat × D)} (h : entT V U T l) (t : Nat) : mkT l t = .any ∨ (wkN V (T t) (mkT l t) ∧ inO U (mkT l t)) := by
  induction l with
  | nil => exact .inl rfl
  | cons q l ih =>
    obtain ⟨j, d⟩ := q
    simp only [entT] at h
    simp only [mkT]
    by_cases e : t = j
    · subst e; rw [upd_same]; exact .inr h.1
    · rw [upd_ne _ _ e]; exact ih h.2
theorem wkN_ok {V U : Us} (hV : ∀ i g, p i = some g → V i = true) {x d : D} {v : Value} (h : wkN V x d) (hi : inO U d) (hx : Rd S w x p v) : Rd S w d (cutP p U) v := by
  unfold wkN at h
  split at h
  · rename_i i n
    obtain ⟨rfl, hv⟩ := h
    simp only [inO] at hi
    simp only [Rd] at hx ⊢; subst hx
    have hp : p i = none := by
      cases hp : p i with
      | none => rfl
      | some g => rw [hV i g hp] at hv; cases hv
    exact ⟨gnil, cutP_new hi hp, Nat.le_refl _, rfl, fun _ => rfl⟩
  · exact rd_in _ hi (wk_ok _ _ h hx)
theorem wkNL_ok {V U : Us} (hV : ∀ i g, p i = some g → V i = true) : ∀ {xs ds : List D} {vs : List Value}, wkNL V xs ds → inOL U ds → RdL S w xs p vs → RdL S w ds (cutP p U) vs
  | [], [], _, _, _, h => h
  | x :: xs, d :: ds, _, hw, hi, h => by
    obtain ⟨v, r, rfl, h1, h2⟩ := h
    exact ⟨v, r, rfl, wkN_ok hV hw.1 hi.1 h1, wkNL_ok hV hw.2 hi.2 h2⟩
  | [], _ :: _, _, h, _, _ => by simp [wkNL] at h
  | _ :: _, [], _, h, _, _ => by simp [wkNL] at h
theorem Heap.cut {o0 : List (Nat × LObj)} {V : Us} (hh : Heap B S p H V w) (hO : entO V (mkU o0) H o0) : Heap B S (cutP p (mkU o0)) (mkH o0) (mkU o0) w := by
  have hV := hh.use
  have pnone : ∀ {i : Nat}, V i = false → p i = none := fun {i} hv => by
    cases hp : p i with
    | none => rfl
    | some g => rw [hV i g hp] at hv; cases hv
  have cases_of : ∀ {i : Nat} {o : LObj}, mkH o0 i = some o → mkU o0 i = true ∧ inLO (mkU o0) o ∧ ((p i = none ∧ ((∃ e sz, o = .vec e sz [] 0) ∨ ∃ e, o = .nv e [])) ∨ ∃ o' g, H i = some o' ∧ p i = some g ∧ wkO V i (some o') o) := fun {i o} hi => by
    obtain ⟨hm, hu⟩ := mkU_of hi
    obtain ⟨h1, h2⟩ := entO_mem hO hm
    refine ⟨hu, h2, ?_⟩
    cases hx : H i with
    | none =>
      rw [hx] at h1
      cases o <;> simp only [wkO] at h1
      · obtain ⟨⟨rfl, rfl⟩, hv⟩ := h1
        exact .inl ⟨pnone hv, .inl ⟨_, _, rfl⟩⟩
      · obtain ⟨rfl, hv⟩ := h1
        exact .inl ⟨pnone hv, .inr ⟨_, rfl⟩⟩
    | some o' =>
      rw [hx] at h1
      obtain ⟨g, hg, _⟩ := hh.obj i o' hx
      exact .inr ⟨o', g, rfl, hg, h1⟩
  have own_of : ∀ {i : Nat} {o : LObj} {g : G} {b : Nat}, mkH o0 i = some o → cutP p (mkU o0) i = some g → g.own = some b → ∃ o', H i = some o' ∧ p i = some g := fun {i o g b} hi hg hb => by
    obtain ⟨hu, _, h | ⟨o', g', h1, h2, _⟩⟩ := cases_of hi
    · rw [cutP_new hu h.1] at hg; cases hg; cases hb
    · rw [cutP_in hu h2] at hg; cases hg; exact ⟨o', h1, h2⟩
  refine ⟨fun i o hi => ?_, fun i j o o' g g' b hi hj hpi hpj hb hb' => ?_, fun i g hg => ?_, hh.ext, hh.old, hh.size, hh.bel, fun i ys d st hi => ?_, fun i hi => ?_, fun i ys d st g b hi hpi hb => ?_⟩
  · obtain ⟨hu, h3, ⟨hp, ⟨e, sz, rfl⟩ | ⟨e, rfl⟩⟩ | ⟨o', g, h1, hg, h2⟩⟩ := cases_of hi
    · exact ⟨gnil, cutP_new hu hp, [], ⟨World.ownsRow_nil _ _ _ _, (fun b hb => by cases hb)⟩, rfl, rfl, by simp, by simp, rfl, by simp, (fun b hb => by cases hb), Nat.le_refl _⟩
    · exact ⟨gnil, cutP_new hu hp, [], ⟨World.ownsRow_nil _ _ _ _, (fun b hb => by cases hb)⟩, rfl, rfl, by simp, rfl, by simp, (fun b hb => by cases hb)⟩
    · obtain ⟨g', hg', hr⟩ := hh.obj i o' h1
      rw [hg] at hg'; cases hg'
      refine ⟨g, cutP_in hu hg, ?_⟩
      cases o' with
      | blk cs fz =>
        cases o with
        | blk cs' fz' =>
          obtain ⟨hw, rfl⟩ := h2
          obtain ⟨vs, ty, hb, hown, hn0, hr, hs, h1⟩ := hr
          refine ⟨vs, ty, hb, hown, hn0, ?_, hs, h1⟩
          cases fz with
          | true => exact wkL_ok _ _ hw hr
          | false => exact wkNL_ok hV hw h3 hr
        | _ => simp [wkO] at h2
      | vec e sz rows fz =>
        cases o with
        | vec e' sz' rows' fz' =>
          obtain ⟨rfl, rfl, rfl, hf, hf'⟩ := h2
          obtain ⟨xs, hown, hob, hl, hlt, hrl, hr, hc, hs, _⟩ := hr
          exact ⟨xs, hown, hob, hl, hlt, hrl, hr, hc, fun b hb => Nat.le_trans (hs b hb) (Nat.mul_le_mul_right _ hf), hf'⟩
        | _ => simp [wkO] at h2
      | mp ks ds fz =>
        cases o with
        | mp ks' ds' fz' =>
          obtain ⟨rfl, rfl, rfl⟩ := h2
          exact hr
        | mv ks' ms' =>
          obtain ⟨⟨rfl, rfl, rfl⟩, rfl, rfl⟩ := h2
          obtain ⟨es, c, h1, h2, h3, h4, h5, h6, h7⟩ := hr
          exact ⟨es, c, h1, h2, h3, h4, rfl, by simpa using h6, h7⟩
        | _ => simp [wkO] at h2
      | mv ks ms =>
        cases o with
        | mv ks' ms' =>
          obtain ⟨rfl, rfl⟩ := h2
          obtain ⟨es, c, h1, h2, h4, h5, h6, h7⟩ := hr
          exact ⟨es, c, h1, h2, h4, h5, rdL_in _ h3 h6, h7⟩
        | _ => simp [wkO] at h2
      | yl ys d st =>
        cases o with
        | yl ys' d' st' => obtain ⟨rfl, rfl, rfl⟩ := h2; exact hr
        | _ => simp [wkO] at h2
      | lrec =>
        cases o with
        | lrec => exact hr
        | _ => simp [wkO] at h2
      | nv e ms =>
        cases o with
        | nv e' ms' =>
          obtain ⟨rfl, rfl⟩ := h2
          obtain ⟨xs, hown, hob, hl, hlt, hr, hc, hs⟩ := hr
          exact ⟨xs, hown, hob, hl, hlt, rdL_in _ h3 hr, hc, hs⟩
        | _ => simp [wkO] at h2
  · obtain ⟨o1, h1, hp1⟩ := own_of hi hpi hb
    obtain ⟨o2, h2, hp2⟩ := own_of hj hpj hb'
    exact hh.inj i j _ _ g g' b h1 h2 hp1 hp2 hb hb'
  · unfold cutP at hg
    split at hg
    · assumption
    · cases hg
  · obtain ⟨hu, _, ⟨_, ⟨_, _, e⟩ | ⟨_, e⟩⟩ | ⟨o', g, h1, hg, h2⟩⟩ := cases_of hi
    · cases e
    · cases e
    · cases o' <;> simp only [wkO] at h2
      obtain ⟨rfl, rfl, rfl⟩ := h2
      exact hh.yid i _ _ _ h1
  · obtain ⟨hu, _, ⟨_, ⟨_, _, e⟩ | ⟨_, e⟩⟩ | ⟨o', g, h1, hg, h2⟩⟩ := cases_of hi
    · cases e
    · cases e
    · cases o' <;> simp only [wkO] at h2
      exact hh.lid i h1
  · obtain ⟨hu, _, ⟨_, ⟨_, _, e⟩ | ⟨_, e⟩⟩ | ⟨o', g', h1, hg, h2⟩⟩ := cases_of hi
    · cases e
    · cases e
    · cases o' <;> simp only [wkO] at h2
      obtain ⟨rfl, rfl, rfl⟩ := h2
      rw [cutP_in hu hg] at hpi; cases hpi
      obtain ⟨e1, e2⟩ := hh.env i _ _ _ g b h1 hg hb
      refine ⟨e1, fun j o g2 hj hpj hb' => ?_⟩
      obtain ⟨o3, h3, hp3⟩ := own_of hj hpj hb'
      exact e2 j o3 g2 h3 hp3 hb'
theorem ent_sound {h : Hd} (hR : R B N S p T H U a w) (he : entH B.L0 h T H U) : R B N S (cutP p (mkU h.o)) (mkT h.t) (mkH h.o) (mkU h.o) a w := by
  obtain ⟨⟨hT, hO⟩, hL⟩ := he
  refine ⟨fun t => ?_, hR.size, hR.hp.cut hO, hR.dfs, hR.kp, fun i hi => ?_⟩
  · rcases entT_at hT t with h1 | ⟨h1, h2⟩
    · rw [h1]; simp [Rd]
    · exact wkN_ok hR.hp.use h1 h2 (hR.tmp t)
  · have hu := allU_mem hL i hi
    obtain ⟨g, hg, e⟩ := hR.lk i hi
    exact ⟨g, cutP_in hu hg, e⟩
end
def plainO : LObj → Prop
  | .yl _ _ _ => False
  | .lrec => False
  | _ => True
def plainL : List (Nat × LObj) → Prop
  | [] => True
  | (i, o) :: r => (i ≠ 998 ∧ plainO o) ∧ plainL r
def isRec : Option LObj → Prop | some .lrec => True | _ => False
section
variable {B B' : Base} {N n : Nat} {S S' : Ex} {p : Pl} {T : Nat → D} {H : Hp} {U : Us} {a : Act} {w w' : World}
theorem ObjRel.rebase {g : G} {o : LObj} (h : ObjRel B S p w g o) (hp : plainO o) (hown : ∀ b, g.own = some b → B'.own b) : ObjRel B' S p w g o := by
  cases o with
  | blk cs fz =>
    obtain ⟨vs, ty, h1, h2, h3, h4⟩ := h
    exact ⟨vs, ty, h1, h2, hown _ h2, h4⟩
  | vec e sz rows fz =>
    obtain ⟨xs, ⟨h1, _⟩, h2⟩ := h
    exact ⟨xs, ⟨h1, hown⟩, h2⟩
  | mp ks ds fz =>
    obtain ⟨es, c, h1, h2, h3, h4⟩ := h
    exact ⟨es, c, h1, h2, hown _ h2, h4⟩
  | yl _ _ _ => exact hp.elim
  | lrec => exact hp.elim
  | nv e ms =>
    obtain ⟨xs, ⟨h1, _⟩, h2⟩ := h
    exact ⟨xs, ⟨h1, hown⟩, h2⟩
  | mv ks ms =>
    obtain ⟨es, c, h1, h2, h3, h4⟩ := h
    exact ⟨es, c, h1, h2, hown _ h2, h4⟩
theorem Heap.rebase (h : Heap B S p H U w) (hpl : ∀ i o, H i = some o → plainO o) (hown : ∀ i o g b, H i = some o → p i = some g → g.own = some b → B'.own b)
    (hold : B'.it = false → ∀ b, b < B'.n0 → B'.mb b = false → S b = B'.S0 b) (hsz : B'.n0 ≤ w.heap.size) (hbel : B'.it = false → SameOut B'.n0 B'.mb B'.w0 w) : Heap B' S p H U w := by
  refine ⟨fun i o hi => ?_, h.inj, h.use, h.ext, hold, hsz, hbel, fun i ys d st hi => (hpl i _ hi).elim, fun i hi => (hpl i _ hi).elim, fun i ys d st g b hi => (hpl i _ hi).elim⟩
  obtain ⟨g, hg, hr⟩ := h.obj i o hi
  exact ⟨g, hg, hr.rebase (hpl i o hi) (fun b hb => hown i o g b hi hg hb)⟩
theorem Heap.turn (h : Heap B S p H U w) (hpl : ∀ i o, H i = some o → plainO o) (hk : Keep S S' w w') (hos : w'.os = w.os ∧ w'.tape = w.tape ∧ w'.output = w.output) (hsz : w.heap.size ≤ w'.heap.size)
    (hext : ∀ b, 0 < S' b → b < w'.heap.size) (hobj : ∀ i o g b, H i = some o → p i = some g → g.own = some b → w'.heap[b]? = w.heap[b]? ∧ S' b = S b)
    (hout : ∀ b, b < B.n0 → B.mb b = false → w'.heap[b]? = w.heap[b]? ∧ S' b = S b) : Heap B S' p H U w' := by
  refine ⟨fun i o hi => ?_, h.inj, h.use, hext, fun hi b hb hm => ?_, Nat.le_trans h.size hsz, fun hi => (h.bel hi).trans ⟨hos.1, hos.2.1, hos.2.2, hsz, fun b hb hm => (hout b hb hm).1⟩,
    fun i ys d st hi => (hpl i _ hi).elim, fun i hi => (hpl i _ hi).elim, fun i ys d st g b hi => (hpl i _ hi).elim⟩
  · obtain ⟨g, hg, hr⟩ := h.obj i o hi
    exact ⟨g, hg, hr.mono hk (PlLe.refl _) (fun b hb => (hobj i o g b hi hg hb).1) (fun b hb => (hobj i o g b hi hg hb).2) (fun ys d st e => by subst e; exact (hpl i _ hi).elim)⟩
  · rw [(hout b hb hm).2]; exact h.old hi b hb hm
end
end Go.Tn
