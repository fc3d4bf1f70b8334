/- Symbolic data, and what the operations do to it. -/
import Derived.Test.YtlabdffgcciepaaGreatDoorTiv
import Derived.Test.YtlabdffgcciepaaGreatDoorTmv
set_option linter.unusedSimpArgs false
set_option linter.unusedVariables false
set_option linter.unusedSectionVars false
namespace Go.Tn
open Go.RowKit
def tk (ty : Ty) (r : Res) : Res := match ty.kind with | .other => .bad | _ => r
def andC (q : Prop) (r : Res) : Res := match r with | .ok _ c d H U => .ok True (q ∧ c) d H U | .bad => .bad | r => r
def wd (dst : Option Nat) (f : Nat → Res) : Res := match dst with | some i => f i | none => .bad
def snds : List (Nat × D) → List D
  | [] => []
  | (_, d) :: r => d :: snds r
def cvp (H : Hp) : List (Nat × D) → List (Nat × D)
  | [] => []
  | (i, d) :: r => (i, cv H 6 d) :: cvp H r
def storeX (ty : Ty) (x d : D) (H : Hp) (U : Us) : Res :=
  match x with
  | .vptr _ _ _ _ _ => andC (news H [x, d]) (storeR ty x (cv H 6 d) (frzs H [d]) U)
  | x => storeR ty x d H U
def callR (x : D) (args : List D) : Res := match x with | .fn f first caps => .call f caps (first ++ args) | .yld j => .yield j args | _ => .bad
def lenX (ty : Ty) (x : D) (H : Hp) (U : Us) : Res := match x with | .vsub i n _ lo hi => lenVs (H i) n lo hi ty H U | x => lenR ty x H U
def appX (dst : Option Nat) (ty ety : Ty) (x y : D) (H : Hp) (U : Us) : Res :=
  match x, y with
  | .vsub i n sz 0 k, .vsub i' n' sz' lo hi => appVs (H i) i n sz k i' n' sz' lo hi ty H U
  | x, y => wd dst fun i => appendR i ty ety x y H U
def clrX (ty ety : Ty) (x : D) (H : Hp) (U : Us) : Res := match x with | .vsub i n sz lo hi => clrVs (H i) i n sz lo hi ty ety H U | _ => .bad
def sliceX (ty : Ty) (x : D) (lo hi mx : Option D) (H : Hp) (U : Us) : Res :=
  match x with
  | .vsub i n sz 0 k => sliceVs (H i) i n sz k ty lo hi mx H U
  | x => andC (news H [x]) (sliceR ty (cv H 6 x) lo hi mx (frzs H [x]) U)
def builtR (P : Program) (b : Builtin) (args : List D) (tys : List Nat) (dst : Option Nat) (H : Hp) (U : Us) : Res :=
  match b, args, tys with
  | .len, [x], [t] => tk (tyOf P t) (lenX (tyOf P t) x H U)
  | .clear, [x], [t] => tk (tyOf P t) (tk (tyOf P (tyOf P t).elem) (clrX (tyOf P t) (tyOf P (tyOf P t).elem) x H U))
  | .max, [x, y], _ => maxR x y H U
  | .min, [x, y], _ => minR x y H U
  | .append, [x, y], [t, t'] => if t' = t then tk (tyOf P t) (tk (tyOf P (tyOf P t).elem) (appX dst (tyOf P t) (tyOf P (tyOf P t).elem) x y H U)) else tk (tyOf P t) (tk (tyOf P (tyOf P t).elem) (tk (tyOf P t') (wd dst fun i => appendZ i (tyOf P t) (tyOf P (tyOf P t).elem) (tyOf P t') x y H U)))
  | .cap, [x], [t] => tk (tyOf P t) (capR (tyOf P t) x H U)
  | _, _, _ => .bad
def panV (x : D) : Res := match x with | .ifc t d => .panic (.ifc t d) | _ => .bad
def nilC (x : D) (H : Hp) (U : Us) : Res := match x with | .loc i off => okR (.loc i off) H U | .box cs => okR (.box cs) H U | _ => .bad
def mvE (x : D) (ty kty ety : Ty) (k : D) (H : Hp) (U : Us) : Res := match x with | .lmap i => mvER i (H i) ty kty ety k H U | _ => .bad
def mvS (x s d : D) (ty : Ty) (H : Hp) (U : Us) : Res :=
  match x, s, d with
  | .lmap i, .int .i64 (.ofNat s), .vec j n => mvSR i j n s (H i) (H j) ty H U
  | _, _, _ => .bad
def res (P : Program) (o : Op) (dst : Option Nat) (T : Nat → D) (H : Hp) (U : Us) : Res :=
  match o with
  | .move x => okR (ev T x) H U
  | .assign x => okR (ev T x) H U
  | .pick c a b => pickR (ev T c) (ev T a) (ev T b) H U
  | .alloc t => tk (tyOf P t) (wd dst fun i => allocR i (tyOf P t) H U)
  | .box _ x => wd dst fun i => boxR i (ev T x) H U
  | .build t ps => tk (tyOf P t) (buildR (tyOf P t) (evp T ps.toList) H U)
  | .buildSlice t n ps => tk (tyOf P t) (tk (tyOf P (tyOf P t).elem) (wd dst fun i => andC (news H (snds (evp T ps.toList))) (buildSliceR i (tyOf P t) n (cvp H (evp T ps.toList)) (frzs H (snds (evp T ps.toList))) U)))
  | .load t x => tk (tyOf P t) (loadR (tyOf P t) (ev T x) H U)
  | .store t x y => tk (tyOf P t) (storeX (tyOf P t) (ev T x) (ev T y) H U)
  | .binOp op t x y _ => tk (tyOf P t) (binR op (tyOf P t) (ev T x) (ev T y) H U (isK y))
  | .unOp .not _ x => notR (ev T x) H U
  | .unOp .neg _ x => negR (ev T x) H U
  | .makeFunc (.func f) first caps => okR (.fn f (evs T first.toList) (evs T caps.toList)) H U
  | .makeMap _ none => wd dst fun i => makeMapR i H U
  | .makeSlice t l c => tk (tyOf P t) (tk (tyOf P (tyOf P t).elem) (wd dst fun i => makeSliceR i (tyOf P t) (tyOf P (tyOf P t).elem) (ev T l) (ev T c) H U))
  | .slice t x lo hi mx => tk (tyOf P t) (sliceX (tyOf P t) (ev T x) (evo T lo) (evo T hi) (evo T mx) H U)
  | .fieldAddr t x f => tk (tyOf P t) (fieldAddrR (tyOf P t) (ev T x) f H U)
  | .field t x f => tk (tyOf P t) (fieldR (tyOf P t) (ev T x) f H U)
  | .indexAddr t x i => tk (tyOf P t) (indexAddrR (tyOf P t) (ev T x) (ev T i) H U)
  | .index t x i => tk (tyOf P t) (indexR (tyOf P t) (ev T x) (ev T i) H U)
  | .lookup t x i ok => tk (tyOf P t) (tk (tyOf P (tyOf P t).key) (tk (tyOf P (tyOf P t).elem) (lookupR (tyOf P t) (tyOf P (tyOf P t).key) (tyOf P (tyOf P t).elem) (ev T x) (ev T i) ok H U)))
  | .mapUpdate t m k x => tk (tyOf P t) (tk (tyOf P (tyOf P t).key) (andC (news H [ev T m, ev T x]) (mapUpdR (tyOf P t) (tyOf P (tyOf P t).key) (ev T m) (ev T k) (cv H 6 (ev T x)) (frzs H [ev T x]) U)))
  | .extract x k => extractR (ev T x) k H U
  | .convert t t' x => tk (tyOf P t) (tk (tyOf P t') (convX P (tyOf P t) (tyOf P t') (ev T x) H U))
  | .makeInterface t x => tk (tyOf P t) (mkifcR t (tyOf P t) (ev T x) H U)
  | .panic x => panV (ev T x)
  | .call ⟨.builtin b, args, tys⟩ => builtR P b (evs T args.toList) tys.toList dst H U
  | .call ⟨.value f, args, _⟩ => callR (ev T f) (evs T args.toList)
  | .call ⟨.invoke r n, args, _⟩ => invR P (ev T r) n (evs T args.toList)
  | .typeAssert x xt t ok => tk (tyOf P t) (taR (tyOf P t) (ev T x) t ok H U)
  | .nilCheck x => nilC (ev T x) H U
  | .mapEntry t m k => tk (tyOf P t) (tk (tyOf P (tyOf P t).key) (tk (tyOf P (tyOf P t).elem) (mvE (ev T m) (tyOf P t) (tyOf P (tyOf P t).key) (tyOf P (tyOf P t).elem) (ev T k) H U)))
  | .entryStore t m s x => tk (tyOf P t) (mvS (ev T m) (ev T s) (ev T x) (tyOf P t) H U)
  | _ => .bad
def bsI (mk : Option LObj) (r : Res) : Option Res := match mk with | some _ => some r | none => none
def bsP (P : Program) (t n : Nat) (dst : Option Nat) (ps : List (Nat × D)) (H : Hp) (U : Us) : Option Res :=
  match dst, ps with
  | some i, [(0, .vec j m)] => bsI (H (990000 + i)) (tk (tyOf P t) (tk (tyOf P (tyOf P t).elem) (bsM (H j) i j m n (tyOf P t) H U)))
  | _, _ => none
def apJ (P : Program) (t t' : Nat) (x : D) (i : Nat) (l : List (Nat × Nat)) (H : Hp) (U : Us) : Res :=
  match l, x with
  | [(s, m)], .vec k n => if t' = t then tk (tyOf P t) (tk (tyOf P (tyOf P t).elem) (apM s (H s) (H k) m k n i (tyOf P t) (tyOf P (tyOf P t).elem) H U)) else .bad
  | _, _ => .bad
def apI (P : Program) (t t' : Nat) (x : D) (i : Nat) (o : Option LObj) (H : Hp) (U : Us) : Option Res :=
  match o with
  | some (.nv _ l) => some (apJ P t t' x i l H U)
  | _ => none
def apP (P : Program) (tys : List Nat) (args : List D) (H : Hp) (U : Us) : Option Res :=
  match tys, args with
  | [t, t'], [x, .vec i 1] => apI P t t' x i (H i) H U
  | _, _ => none
def nvR (P : Program) (o : Op) (dst : Option Nat) (T : Nat → D) (H : Hp) (U : Us) : Option Res :=
  match o with
  | .buildSlice t n ps => bsP P t n dst (evp T ps.toList) H U
  | .call ⟨.builtin .append, args, tys⟩ => apP P tys.toList (evs T args.toList) H U
  | _ => none
def okRes : Res → Prop | .ok _ _ _ _ _ => True | .bad => True | _ => False
theorem okRes_tk {ty : Ty} {r : Res} (h : okRes r) : okRes (tk ty r) := by unfold tk; split; trivial; exact h
section
variable {P : Program} [Fen P] {C : Spec} {B : Base} [LB P B] {N : Nat} {S S' : Ex} {p : Pl} {T : Nat → D} {H : Hp} {U : Us} {a : Act} {w w' : World} {dst : Option Nat}
def GoodO (P : Program) (B : Base) (S : Ex) (p : Pl) (w : World) (m : Sem Next) : Res → Prop
  | .ok f c d H U => f ∧ (c → ∃ v w' S' p', (m.run P w = .ok (.value v) w' ∨ (m.run P w = .ok .skip w' ∧ v = undef)) ∧ Rd S' w' d p' v ∧ Heap B S' p' H U w' ∧ Keep S S' w w' ∧ PlLe p p')
  | .call f caps args => ∃ cs vs, RdL S w caps p cs ∧ RdL S w args p vs ∧ (Ent P f → m.run P w = .ok (.enter f (vs ++ cs).toArray) w)
  | .yield j args => ∃ g vs, p j = some g ∧ RdL S w args p vs ∧ m.run P w = (Instr.yield g.ptr vs.toArray).run P w
  | .panic d => ∃ v, Rd S w d p v ∧ m.run P w = .halt (.panic v) w
  | .bad => True
theorem GoodO.of_good {m : Sem Value} {r : Res} (h : Good P B S p w m r) : GoodO P B S p w (do pure (.value (← m))) r := by
  cases r with
  | ok f c d H U =>
    refine ⟨h.1, fun hc => ?_⟩
    obtain ⟨v, w', S', p', h1, h2⟩ := h.2 hc
    exact ⟨v, w', S', p', .inl (by simp [h1]), h2⟩
  | call f caps args => exact h.elim
  | yield j args => exact h.elim
  | panic d => exact h.elim
  | bad => trivial
theorem GoodO.of_goodU {m : Sem Unit} {r : Res} (h : GoodU P B S p w m r) : GoodO P B S p w (do m; pure .skip) r := by
  cases r with
  | ok f c d H U =>
    refine ⟨h.1, fun hc => ?_⟩
    obtain ⟨w', S', p', h1, h2, h3, h4⟩ := h.2.1 hc
    refine ⟨undef, w', S', p', .inr ⟨by simp [h1], rfl⟩, ?_, h2, h3, h4⟩
    rw [h.2.2]; simp [Rd]
  | call f caps args => exact h.elim
  | yield j args => exact h.elim
  | panic d => exact h.elim
  | bad => trivial
theorem GoodO.tk {m : Sem Next} {t : Nat} {r : Res} (h : TyFact P t (tyOf P t) → GoodO P B S p w m r) : GoodO P B S p w m (tk (tyOf P t) r) := by
  unfold Go.Tn.tk
  split
  · trivial
  · rename_i hk; exact h (tyOf_fact hk)
theorem GoodO.wd {m : Sem Next} {f : Nat → Res} (h : ∀ i, GoodO P B S p w m (f i)) : GoodO P B S p w m (wd dst f) := by
  unfold Go.Tn.wd
  split
  · exact h _
  · trivial
theorem GoodO.keep {m : Sem Next} {r : Res} {q : Prop} (h : q → ∃ S1, Keep S S1 w w ∧ GoodO P B S1 p w m r) (hc : (∀ f caps args, r ≠ .call f caps args) ∧ (∀ j args, r ≠ .yield j args) ∧ ∀ d, r ≠ .panic d) : GoodO P B S p w m (andC q r) := by
  cases r with
  | ok f c d H U =>
    refine ⟨trivial, fun hc => ?_⟩
    obtain ⟨S1, hk, h⟩ := h hc.1
    obtain ⟨v, w', S', p', h1, h2, h3, h4, h5⟩ := h.2 hc.2
    exact ⟨v, w', S', p', h1, h2, h3, hk.trans h4, h5⟩
  | call f caps args => exact absurd rfl (hc.1 _ _ _)
  | yield j args => exact absurd rfl (hc.2.1 _ _)
  | panic d => exact absurd rfl (hc.2.2 _)
  | bad => trivial
theorem snds_rd {ps : List (Nat × D)} {vs : List (Nat × Value)} (hl : ps.length = vs.length) (h : ∀ (j : Nat) (q : Nat × D) (u : Nat × Value), ps[j]? = some q → vs[j]? = some u → q.1 = u.1 ∧ Rd S w q.2 p u.2) :
    RdL S w (snds ps) p (vs.map (·.2)) := by
  induction ps generalizing vs with
  | nil => cases vs with
    | nil => rfl
    | cons _ _ => cases hl
  | cons q ps ih =>
    obtain ⟨i, d⟩ := q
    cases vs with
    | nil => cases hl
    | cons u vs =>
      exact ⟨_, _, rfl, (h 0 _ _ rfl rfl).2, ih (by simpa using hl) (fun j q u h1 h2 => h (j + 1) q u (by simpa using h1) (by simpa using h2))⟩
theorem cvp_rd {ps : List (Nat × D)} {vs : List (Nat × Value)} (hl : ps.length = vs.length) (h : ∀ (j : Nat) (q : Nat × D) (u : Nat × Value), ps[j]? = some q → vs[j]? = some u → q.1 = u.1 ∧ Rd S w q.2 p u.2)
    (hr : RdL S' w (cvs H (snds ps)) noPl (vs.map (·.2))) : (cvp H ps).length = vs.length ∧ ∀ (j : Nat) (q : Nat × D) (u : Nat × Value), (cvp H ps)[j]? = some q → vs[j]? = some u → q.1 = u.1 ∧ Rd S' w q.2 noPl u.2 := by
  induction ps generalizing vs with
  | nil => cases vs with
    | nil => exact ⟨rfl, by simp [cvp]⟩
    | cons _ _ => cases hl
  | cons q ps ih =>
    obtain ⟨i, d⟩ := q
    cases vs with
    | nil => cases hl
    | cons u vs =>
      obtain ⟨v, r, e, h1, h2⟩ := hr
      cases e
      obtain ⟨i1, i2⟩ := ih (by simpa using hl) (fun j q u h1 h2 => h (j + 1) q u (by simpa using h1) (by simpa using h2)) h2
      refine ⟨by simpa [cvp] using i1, fun j q u' hq hu => ?_⟩
      cases j with
      | zero => simp [cvp] at hq hu; subst hq hu; exact ⟨(h 0 _ _ rfl rfl).1, h1⟩
      | succ j => exact i2 j q u' (by simpa [cvp] using hq) (by simpa using hu)
theorem GoodO.same {m : Sem Next} {d : D} {v : Value} (h : Heap B S p H U w) (hr : m.run P w = .ok (.value v) w) (hd : Rd S w d p v) : GoodO P B S p w m (okR d H U) :=
  ⟨trivial, fun _ => ⟨v, w, S, p, .inl hr, hd, h, Keep.refl _ _, PlLe.refl _⟩⟩
theorem GoodO.congr {m m' : Sem Next} {r : Res} (hm : m.run P w = m'.run P w) (h : GoodO P B S p w m r) : GoodO P B S p w m' r := by
  cases r with
  | ok f c d H U => exact ⟨h.1, fun hc => by rw [← hm]; exact h.2 hc⟩
  | call f caps args => obtain ⟨cs, vs, h1, h2, h3⟩ := h; exact ⟨cs, vs, h1, h2, fun he => by rw [← hm]; exact h3 he⟩
  | yield j args => obtain ⟨g, vs, h1, h2, h3⟩ := h; exact ⟨g, vs, h1, h2, hm.symm.trans h3⟩
  | panic d => obtain ⟨v, h1, h2⟩ := h; exact ⟨v, h1, hm.symm.trans h2⟩
  | bad => trivial
theorem store_nc (ty : Ty) (x d : D) (H : Hp) (U : Us) : (∀ f caps args, storeR ty x d H U ≠ .call f caps args) ∧ (∀ j args, storeR ty x d H U ≠ .yield j args) ∧ ∀ dd, storeR ty x d H U ≠ .panic dd := by
  refine ⟨?_, ?_, ?_⟩ <;> intros
  all_goals
    unfold storeR
    split
    · unfold storeB; split <;> intro hc <;> cases hc
    · unfold storeV; split <;> intro hc <;> cases hc
    · intro hc; cases hc
theorem slice_nc (ty : Ty) (x : D) (l h m : Option D) (H : Hp) (U : Us) : (∀ f caps args, sliceR ty x l h m H U ≠ .call f caps args) ∧ (∀ j args, sliceR ty x l h m H U ≠ .yield j args) ∧ ∀ dd, sliceR ty x l h m H U ≠ .panic dd := by
  refine ⟨?_, ?_, ?_⟩ <;> intros
  all_goals
    unfold sliceR
    split <;> first | (split <;> intro hc <;> cases hc; done) | (intro hc; cases hc)
theorem upd_nc (ty kty : Ty) (x k d : D) (H : Hp) (U : Us) : (∀ f caps args, mapUpdR ty kty x k d H U ≠ .call f caps args) ∧ (∀ j args, mapUpdR ty kty x k d H U ≠ .yield j args) ∧ ∀ dd, mapUpdR ty kty x k d H U ≠ .panic dd := by
  refine ⟨?_, ?_, ?_⟩ <;> intros
  all_goals
    unfold mapUpdR
    split
    · unfold updB; split
      · split <;> intro hc <;> cases hc
      · intro hc; cases hc
    · intro hc; cases hc
theorem res_good (h : R B N S p T H U a w) (o : Oper) (dst' : Option Nat) : GoodO P B S p w (execOp a.eval o) (res P o.op dst' T H U) := by
  have hh := h.hp
  have e := fun x => rd_ev h.tmp x
  have es := fun xs => rd_evs h.tmp xs
  obtain ⟨dst, op, type, pos, after, guard⟩ := o
  have one : ∀ {d : D} {v : Value}, Rd S w d p v → RdL S w [d] p [v] := fun h => ⟨_, _, rfl, h, rfl⟩
  cases op with
  | move x => exact GoodO.same hh (v := a.eval x) rfl (e x)
  | assign x => exact GoodO.same hh (v := a.eval x) rfl (e x)
  | pick c x y => exact GoodO.congr (by simp [execOp]) (GoodO.of_good (good_pick hh (e c) (e x) (e y)))
  | alloc t => exact GoodO.tk fun hf => GoodO.wd fun i => GoodO.of_good (good_alloc hh hf i _)
  | box t x => exact GoodO.wd fun i => GoodO.of_good (good_box hh i (e x))
  | build t ps =>
    refine GoodO.tk fun hf => GoodO.of_good ?_
    obtain ⟨h1, h2⟩ := rd_evp h.tmp ps.toList
    have := good_build hh hf (vs := ps.toList.map fun x => (x.1, a.eval x.2)) (by simpa using h1) h2
    rw [show (ps.toList.map fun x => (x.1, a.eval x.2)).toArray = ps.map fun x => (x.1, a.eval x.2) from by rw [← Array.toList_map]] at this
    exact this
  | buildSlice t n ps =>
    refine GoodO.tk fun hf => GoodO.tk fun hfe => GoodO.wd fun i => ?_
    obtain ⟨h1, h2⟩ := rd_evp h.tmp ps.toList
    have hl : (evp T ps.toList).length = (ps.toList.map fun x => (x.1, a.eval x.2)).length := by simpa using h1
    refine GoodO.keep (fun hn => ?_) ⟨(fun _ _ _ => by unfold buildSliceR newR; intro hc; cases hc), (fun _ _ => by unfold buildSliceR newR; intro hc; cases hc), (fun _ => by unfold buildSliceR newR; intro hc; cases hc)⟩
    obtain ⟨S1, hh1, hk1, hr⟩ := per_ok hh hn (snds_rd hl h2)
    refine ⟨S1, hk1, GoodO.of_good ?_⟩
    obtain ⟨h3, h4⟩ := cvp_rd hl h2 hr
    have := good_buildSlice hh1 hf hfe i n h3 h4
    rw [show (ps.toList.map fun x => (x.1, a.eval x.2)).toArray = ps.map fun x => (x.1, a.eval x.2) from by rw [← Array.toList_map]] at this
    exact this
  | load t x => exact GoodO.tk fun hf => GoodO.of_good (good_load hh hf (e x))
  | store t x y =>
    refine GoodO.tk fun hf => ?_
    unfold storeX
    split
    · rename_i i n sz k off hx
      refine GoodO.keep (fun hn => ?_) (store_nc _ _ _ _ _)
      obtain ⟨S1, hh1, hk1, hr⟩ := per_ok hh hn.2 (ds := [ev T y]) (one (e y))
      obtain ⟨v, r, e1, h1, _⟩ := hr
      cases e1
      refine ⟨S1, hk1, GoodO.of_goodU (good_store hh1 hf (Rd.mono hk1 _ (PlLe.refl _) (e x)) (Rd.mono (Keep.refl _ _) _ (PlLe.none _) h1) fun _ => h1)⟩
    · rename_i hx
      exact GoodO.of_goodU (good_store hh hf (e x) (e y) fun hv => by
        cases hd : ev T x <;> rw [hd] at hv <;> simp only [isV, Bool.false_eq_true] at hv
        exact absurd hd (hx _ _ _ _ _))
  | binOp op t x y yt => exact GoodO.tk fun hf => GoodO.of_good (good_bin hh (fun _ => hf) op x y (e x) (e y))
  | unOp op t x =>
    cases op with
    | not => exact GoodO.of_good (good_not hh (e x))
    | neg => exact GoodO.of_good (good_neg hh (e x))
    | _ => trivial
  | makeFunc fn first caps =>
    cases fn with
    | func f =>
      refine GoodO.same hh (v := .func (.func f) (first.map a.eval) (caps.map a.eval)) rfl ?_
      simp only [Rd]
      exact ⟨first.toList.map a.eval, caps.toList.map a.eval, by rw [← Array.toList_map, ← Array.toList_map], es _, es _⟩
    | _ => trivial
  | makeMap t r =>
    cases r with
    | none => exact GoodO.wd fun i => GoodO.of_good (good_makeMap hh i)
    | some _ => trivial
  | makeSlice t l c => exact GoodO.tk fun hf => GoodO.tk fun hfe => GoodO.wd fun i => GoodO.of_good (good_makeSlice hh hf hfe i (e l) (e c))
  | slice t x lo hi mx =>
    refine GoodO.tk fun hf => ?_
    unfold sliceX
    split
    · rename_i i n sz k hx
      have hxx := e x
      rw [hx] at hxx
      exact GoodO.of_good (good_sliceVs hh hf hxx (rdO_ev h.tmp lo) (rdO_ev h.tmp hi) (rdO_ev h.tmp mx))
    refine GoodO.keep (fun hn => ?_) (slice_nc _ _ _ _ _ _ _)
    obtain ⟨S1, hh1, hk1, hr⟩ := per_ok hh hn (ds := [ev T x]) (one (e x))
    obtain ⟨v, r, e1, h1, _⟩ := hr
    cases e1
    have ht : ∀ t, Rd S1 w (T t) p (a.tmps.getD t undef) := fun t => Rd.mono hk1 _ (PlLe.refl _) (h.tmp t)
    exact ⟨S1, hk1, GoodO.of_good (good_slice hh1 hf (Rd.mono (Keep.refl _ _) _ (PlLe.none _) h1) (rdO_ev ht lo) (rdO_ev ht hi) (rdO_ev ht mx))⟩
  | fieldAddr t x f => exact GoodO.tk fun hf => GoodO.of_good (good_fieldAddr hh hf f (e x))
  | field t x f => exact GoodO.tk fun hf => GoodO.of_good (good_field hh hf f (e x))
  | indexAddr t x i => exact GoodO.tk fun hf => GoodO.of_good (good_indexAddr hh hf (e x) (e i))
  | index t x i => exact GoodO.tk fun hf => GoodO.of_good (good_index hh hf (e x) (e i))
  | lookup t x i ok => exact GoodO.tk fun hf => GoodO.tk fun hk => GoodO.tk fun he => GoodO.of_good (good_lookup hh hf hk he ok (e x) (e i))
  | mapUpdate t m k x =>
    refine GoodO.tk fun hf => GoodO.tk fun hk => GoodO.keep (fun hn => ?_) (upd_nc _ _ _ _ _ _ _)
    obtain ⟨S1, hh1, hk1, hr⟩ := per_ok hh hn.2 (ds := [ev T x]) (one (e x))
    obtain ⟨v, r, e1, h1, _⟩ := hr
    cases e1
    exact ⟨S1, hk1, GoodO.of_goodU (good_mapUpd hh1 hf hk (Rd.mono hk1 _ (PlLe.refl _) (e m)) (Rd.mono hk1 _ (PlLe.refl _) (e k)) h1)⟩
  | extract x k => exact GoodO.of_good (good_extract hh k (e x))
  | convert t t' x => exact GoodO.tk fun hf => GoodO.tk fun hf' => GoodO.of_good (good_convX hh hf hf' (e x))
  | makeInterface t x => exact GoodO.tk fun hf => GoodO.of_good (good_mkifc hh hf (e x))
  | panic x =>
    show GoodO P B S p w _ (panV (ev T x))
    unfold panV
    split
    · rename_i t d hx
      have hd := e x
      rw [hx] at hd
      obtain ⟨u, hv, hd'⟩ := hd
      refine ⟨a.eval x, ⟨u, hv, hd'⟩, ?_⟩
      show (do pure (.value (← Instr.panic (a.eval x))) : Sem Next).run P w = _
      rw [hv]; rfl
    · trivial
  | call c =>
    obtain ⟨callee, args, tys⟩ := c
    have hargs : (args.map a.eval) = (args.toList.map a.eval).toArray := by rw [← Array.toList_map]
    cases callee with
    | value f =>
      show GoodO P B S p w _ (callR (ev T f) (evs T args.toList))
      unfold callR
      split
      · rename_i g first caps hfn
        have hx := e f
        rw [hfn] at hx
        simp only [Rd] at hx
        obtain ⟨fs, cs, hv, h1, h2⟩ := hx
        refine ⟨cs, fs ++ args.toList.map a.eval, h2, rdL_append h1 (es _), fun hent => ?_⟩
        show (do let d ← resolve a.eval ⟨.value f, args, tys⟩ type; invoke d.target d.args : Sem Next).run P w = _
        simp only [resolve, hv, Deferred.ofValue, Sem.run_bind, Sem.run_pure, Result.andThen_ok, invoke]
        rw [show (fs.toArray ++ args.map a.eval ++ cs.toArray) = (fs ++ args.toList.map a.eval ++ cs).toArray from by rw [hargs]; simp]
        exact run_enter hent _ w
      · rename_i j hfn
        have hx := e f
        rw [hfn] at hx
        simp only [Rd] at hx
        obtain ⟨g, hg, hv⟩ := hx
        refine ⟨g, args.toList.map a.eval, hg, es _, ?_⟩
        show (do let d ← resolve a.eval ⟨.value f, args, tys⟩ type; invoke d.target d.args : Sem Next).run P w = _
        simp only [resolve, hv, Deferred.ofValue, Sem.run_bind, Sem.run_pure, Result.andThen_ok, invoke]
        rw [show (#[] ++ args.map a.eval) = (args.toList.map a.eval).toArray from by rw [hargs]; simp]
      · trivial
    | builtin b =>
      show GoodO P B S p w _ (builtR P b (evs T args.toList) tys.toList dst' H U)
      have hex : (execOp a.eval ⟨dst, .call ⟨.builtin b, args, tys⟩, type, pos, after, guard⟩) = (do let d ← resolve a.eval ⟨.builtin b, args, tys⟩ type; invoke d.target d.args : Sem Next) := rfl
      unfold builtR
      split
      · rename_i x t h1 h2
        have hr := es args.toList
        rw [h1] at hr
        obtain ⟨v, r, hv, hx, hr⟩ := hr
        simp only [RdL] at hr; subst hr
        have htys : tys = #[t] := by rw [← Array.toArray_toList (xs := tys), h2]
        refine GoodO.tk fun hf => ?_
        rw [hex]
        simp only [resolve, hargs, hv, htys]
        unfold lenX
        split
        · exact GoodO.of_good (good_lenVs hh hf hx type)
        · exact GoodO.of_good (good_len hh hf hx type)
      · rename_i x t h1 h2
        have hr := es args.toList
        rw [h1] at hr
        obtain ⟨v, r, hv, hx, hr⟩ := hr
        simp only [RdL] at hr; subst hr
        have htys : tys = #[t] := by rw [← Array.toArray_toList (xs := tys), h2]
        refine GoodO.tk fun hf => GoodO.tk fun hfe => ?_
        rw [hex]
        simp only [resolve, hargs, hv, htys]
        unfold clrX
        split
        · exact GoodO.of_good (good_clrVs hh hf hfe type hx)
        · trivial
      · rename_i x y h1
        have hr := es args.toList
        rw [h1] at hr
        obtain ⟨v, r, hv, hx, hr⟩ := hr
        obtain ⟨u, r, rfl, hy, hr⟩ := hr
        simp only [RdL] at hr; subst hr
        have := GoodO.of_good (good_max (P := P) (tys := tys) (ty := type) hh hx hy)
        rw [hex]
        simp only [resolve, hargs, hv]
        exact this
      · rename_i x y h1
        have hr := es args.toList
        rw [h1] at hr
        obtain ⟨v, r, hv, hx, hr⟩ := hr
        obtain ⟨u, r, rfl, hy, hr⟩ := hr
        simp only [RdL] at hr; subst hr
        have := GoodO.of_good (good_min (P := P) (tys := tys) (ty := type) hh hx hy)
        rw [hex]
        simp only [resolve, hargs, hv]
        exact this
      · rename_i x y t t' h1 h2
        have hr := es args.toList
        rw [h1] at hr
        obtain ⟨v, r, hv, hx, hr⟩ := hr
        obtain ⟨u, r, rfl, hy, hr⟩ := hr
        simp only [RdL] at hr; subst hr
        have htys : tys = #[t, t'] := by rw [← Array.toArray_toList (xs := tys), h2]
        split
        · rename_i ht
          subst ht
          refine GoodO.tk fun hf => GoodO.tk fun hfe => ?_
          rw [hex]
          simp only [resolve, hargs, hv, htys]
          unfold appX
          split
          · exact GoodO.of_good (good_appVs hh hf type hx hy)
          · exact GoodO.wd fun i => GoodO.of_good (good_append hh hf hfe i type hx hy)
        · refine GoodO.tk fun hf => GoodO.tk fun hfe => GoodO.tk fun hfi => ?_
          rw [hex]
          simp only [resolve, hargs, hv, htys]
          exact GoodO.wd fun i => GoodO.of_good (good_appendZ hh hf hfe hfi i type hx hy)
      · rename_i x t h1 h2
        have hr := es args.toList
        rw [h1] at hr
        obtain ⟨v, r, hv, hx, hr⟩ := hr
        simp only [RdL] at hr; subst hr
        have htys : tys = #[t] := by rw [← Array.toArray_toList (xs := tys), h2]
        refine GoodO.tk fun hf => ?_
        rw [hex]
        simp only [resolve, hargs, hv, htys]
        exact GoodO.of_good (good_cap hh hf type hx)
      · trivial
    | invoke r n =>
      show GoodO P B S p w _ (invR P (ev T r) n (evs T args.toList))
      unfold invR
      split
      · rename_i t d hr
        have hx := e r
        rw [hr] at hx
        simp only [Rd] at hx
        obtain ⟨u, hv, hu⟩ := hx
        split
        · rename_i f hm
          refine ⟨[], u :: args.toList.map a.eval, rfl, ⟨u, _, rfl, hu, es _⟩, fun hent => ?_⟩
          show (do let d ← resolve a.eval ⟨.invoke r n, args, tys⟩ type; invoke d.target d.args : Sem Next).run P w = _
          have hk : P.types.size + Made.depth = (P.types.size + 99) + 1 := rfl
          simp only [resolve, hv, hargs, Sem.run_bind, Sem.run_pure, Result.andThen_ok, invoke]
          have h0 : (#[Value.iface t u] ++ (args.toList.map a.eval).toArray)[0]? = some (.iface t u) := by simp
          have h1 : (#[Value.iface t u] ++ (args.toList.map a.eval).toArray).extract 1 (#[Value.iface t u] ++ (args.toList.map a.eval).toArray).size = (args.toList.map a.eval).toArray := by
            apply Array.ext'
            simp
            exact List.take_of_length_le (by simp)
          have h2 : (callMethod (.iface t u) n (args.toList.map a.eval).toArray).run P w = (callFunc f (#[u] ++ (args.toList.map a.eval).toArray)).run P w := by
            simp only [callMethod, Sem.run_bind, run_program, Result.andThen_ok, hk, run_mth hm]
          simp only [h0, h1, h2]
          rw [show (#[u] ++ (args.toList.map a.eval).toArray) = (u :: args.toList.map a.eval ++ []).toArray from by simp]
          exact run_enter hent _ w
        · trivial
      · trivial
  | typeAssert x xt t ok => exact GoodO.tk fun hf => GoodO.of_good (good_ta hh hf (e x) xt ok)
  | nilCheck x =>
    have hx := e x
    have key : ∀ (d : D) (v : Value), Rd S w d p v → (∃ ad, v = .pointer (some ad)) → GoodO P B S p w (execOp a.eval ⟨dst, .nilCheck x, type, pos, after, guard⟩) (okR d H U) ∨ a.eval x ≠ v := fun d v hd ⟨ad, hv⟩ => by
      by_cases hxv : a.eval x = v
      · left
        refine GoodO.same hh (v := v) ?_ hd
        simp [execOp, hxv, hv]
      · exact .inr hxv
    show GoodO P B S p w _ (nilC (ev T x) H U)
    unfold nilC
    split
    · rename_i i off hd
      rw [hd] at hx
      refine (key _ _ hx ?_).resolve_right (fun h => h rfl)
      simp only [Rd] at hx
      obtain ⟨g, _, e⟩ := hx
      exact ⟨_, e⟩
    · rename_i cs hd
      rw [hd] at hx
      refine (key _ _ hx ?_).resolve_right (fun h => h rfl)
      simp only [Rd] at hx
      obtain ⟨b, off, e, _⟩ := hx
      exact ⟨_, e⟩
    · trivial
  | mapEntry t m k =>
    refine GoodO.tk fun hf => GoodO.tk fun hk => GoodO.tk fun he => ?_
    unfold mvE
    split
    · rename_i i hm
      exact GoodO.of_good (good_mvE hh hf hk he (hm ▸ e m) (e k))
    · trivial
  | entryStore t m s x =>
    refine GoodO.tk fun hf => ?_
    unfold mvS
    split
    · rename_i i s' j n hm hs hx
      have h1 := e m
      have h2 := e s
      have h3 := e x
      rw [hm] at h1; rw [hs] at h2; rw [hx] at h3
      simp only [Rd] at h2
      exact GoodO.of_goodU (good_mvS hh hf h1 h2 h3)
    · trivial
  | _ => trivial
theorem nv_good (h : R B N S p T H U a w) (o : Oper) (dst' : Option Nat) {r : Res} (hr : nvR P o.op dst' T H U = some r) :
    GoodO P B S p w (execOp a.eval o) r ∧ okRes r ∧ (∀ c, o.op = .call c → ∃ b, c.callee = .builtin b) := by
  have hh := h.hp
  have es := fun xs => rd_evs h.tmp xs
  obtain ⟨dst, op, type, pos, after, guard⟩ := o
  unfold nvR at hr
  split at hr
  · rename_i t n ps hop
    simp only at hop; subst hop
    unfold bsP at hr
    split at hr
    · rename_i i j m hps
      obtain ⟨h1, h2⟩ := rd_evp h.tmp ps.toList
      rw [hps] at h1 h2
      unfold bsI at hr
      split at hr
      · have hr := Option.some.inj hr
        subst hr
        have h5 : okRes (bsM (H j) i j m n (tyOf P t) H U) := by unfold bsM; split <;> trivial
        refine ⟨?_, okRes_tk (okRes_tk h5), fun c hc => by cases hc⟩
        refine GoodO.tk (t := t) fun hf => ?_
        refine GoodO.tk (t := (tyOf P t).elem) fun hfe => ?_
        obtain ⟨q, hq⟩ : ∃ q, ps.toList = [q] := List.length_eq_one_iff.1 (by simpa using h1.symm)
        rw [hq] at h2
        obtain ⟨e1, e2⟩ := h2 0 (0, .vec j m) (q.1, a.eval q.2) rfl rfl
        have hpa : ps = #[q] := by rw [← Array.toArray_toList (xs := ps), hq]
        have := good_bsM (t := t) hh hf hfe (i := i) (n := n) e2
        have e1' : q.1 = 0 := e1.symm
        have hex : execOp a.eval (⟨dst, .buildSlice t n ps, type, pos, after, guard⟩ : Oper) = (do pure (.value (← Instr.buildSlice t n (ps.map fun x => (x.1, a.eval x.2))))) := rfl
        rw [hex]
        refine GoodO.of_good ?_
        rw [hpa]
        simp only [List.map_toArray, List.map_cons, List.map_nil, e1']
        exact this
      · cases hr
    · cases hr
  · rename_i args tys hop
    simp only at hop; subst hop
    unfold apP at hr
    split at hr
    · rename_i t t' x i htys hargs0
      have hrd := es args.toList
      rw [hargs0] at hrd
      obtain ⟨v, r', hv, hx, hrd⟩ := hrd
      obtain ⟨u, r', rfl, hy, hrd⟩ := hrd
      simp only [RdL] at hrd; subst hrd
      have htys' : tys = #[t, t'] := by rw [← Array.toArray_toList (xs := tys), htys]
      unfold apI at hr
      split at hr
      · rename_i e l hi
        have hr := Option.some.inj hr
        subst hr
        refine ⟨?_, ?_, fun c hc => by cases hc; exact ⟨_, rfl⟩⟩
        · unfold apJ
          split
          · rename_i s m k n
            split
            · rename_i htt
              subst htt
              refine GoodO.tk (t := t') fun hf => ?_
              refine GoodO.tk (t := (tyOf P t').elem) fun hfe => ?_
              have hargs : args.map a.eval = #[v, u] := by
                rw [← Array.toArray_toList (xs := args.map a.eval), Array.toList_map, hv]
              have hex : execOp a.eval (⟨dst, .call ⟨.builtin .append, args, tys⟩, type, pos, after, guard⟩ : Oper) = (do let d ← resolve a.eval ⟨.builtin .append, args, tys⟩ type; Go.invoke d.target d.args) := rfl
              rw [hex]
              simp only [resolve, hargs, htys']
              exact GoodO.of_good (good_apM hh hf hfe type hx hy hi)
            · trivial
          · trivial
        · unfold apJ
          split
          · split
            · exact okRes_tk (okRes_tk (by unfold apM; split <;> trivial))
            · trivial
          · trivial
      · cases hr
    · cases hr
  · cases hr
end
def slD (x : D) : Bool := match x with | .sl _ _ => true | .str _ => true | .emp => true | .vsub _ _ _ _ _ => true | _ => false
def sliceO (b : Bool) (r : Res) : Res := match b with | true => r | false => .bad
def frI (b : Bool) (i : Nat) : Nat := match b with | true => i + 2000 | false => i
def frD (U : Us) (dst : Option Nat) : Option Nat := match dst with | some i => some (frI (U i) i) | none => none
def orR (x : Option Res) (r : Res) : Res := match x with | some r => r | none => r
def resO (dr : Bool) (P : Program) (o : Op) (dst : Option Nat) (T : Nat → D) (H : Hp) (U : Us) : Res :=
  match dr with
  | false => orR (nvR P o (frD U dst) T H U) (res P o (frD U dst) T H U)
  | true => match o with
    | .slice t x lo hi mx => sliceO (slD (ev T x)) (res P (.slice t x lo hi mx) dst T H U)
    | o => res P o dst T H U
theorem resO_or (dr : Bool) (P : Program) [Fen P] (o : Op) (dst : Option Nat) (T : Nat → D) (H : Hp) (U : Us) : resO dr P o dst T H U = .bad ∨ (∃ d', resO dr P o dst T H U = res P o d' T H U) ∨ ∃ d' r, nvR P o d' T H U = some r ∧ resO dr P o dst T H U = r := by
  cases dr
  · simp only [resO]
    cases h : nvR P o (frD U dst) T H U with
    | none => exact .inr (.inl ⟨_, rfl⟩)
    | some r => exact .inr (.inr ⟨_, r, h, rfl⟩)
  · cases o <;> first | exact .inr (.inl ⟨dst, rfl⟩) | skip
    rename_i t x lo hi mx
    simp only [resO]
    cases slD (ev T x)
    · exact .inl rfl
    · exact .inr (.inl ⟨dst, rfl⟩)
end Go.Tn
