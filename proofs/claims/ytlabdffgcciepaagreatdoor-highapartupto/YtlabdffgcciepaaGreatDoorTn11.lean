/- Symbolic data, and what the operations do to it. -/
import Derived.Test.YtlabdffgcciepaaGreatDoorTn10
set_option linter.unusedSimpArgs false
set_option linter.unusedVariables false
set_option linter.unusedSectionVars false
namespace Go.Tn
open Go.RowKit
section ops
variable {P : Program} {B : Base} {S : Ex} {p : Pl} {w : World} {H : Nat → Option LObj} {U : Nat → Bool} {t : Nat} {ty : Ty}
def tupOk (ok : Bool) (d : D) (b : Bool) : D := if ok = true then .tup [d, .bool b] else d
def zeroD (ety : Ty) : D := mkD ety.kind.agg (ety.zero.map leafV)
theorem rd_zero (hf : TyFact P t ty) (w : World) : ∃ z, (zeroValue t).run P w = .ok z w ∧ Rd S w (zeroD ty) p z := by
  obtain ⟨z, h1, h2, h3⟩ := hf.zeroV w
  refine ⟨z, h1, ?_⟩
  unfold zeroD mkD
  by_cases ha : ty.kind.agg = true
  · rw [if_pos ha] at h3 ⊢
    subst h3
    simp only [Rd]
    exact ⟨_, rfl, rdL_map (rd_leaf S w p) _, hf.one⟩
  · rw [if_neg ha] at h3 ⊢
    obtain ⟨v, e, rfl, _⟩ := h3
    rw [e]
    exact rd_leaf S w p z
def lookM (ty kty ety : Ty) (ks ds : List D) (k : D) (ok : Bool) (H : Nat → Option LObj) (U : Nat → Bool) : Res :=
  match mfind kty ks k with
  | some o => .ok True (ty.kind = .map ∧ (eqK kty k k).isSome = true ∧ ks.length = ds.length) (tupOk ok (mget o ds (zeroD ety)) o.isSome) H U
  | none => .bad
def lookB (o : Option LObj) (ty kty ety : Ty) (k : D) (ok : Bool) (H : Nat → Option LObj) (U : Nat → Bool) : Res :=
  match o with | some (.mp ks ds _) => lookM ty kty ety ks ds k ok H U | _ => .bad
def lookupR (ty kty ety : Ty) (x k : D) (ok : Bool) (H : Nat → Option LObj) (U : Nat → Bool) : Res :=
  match x with
  | .mp ks ds => lookM ty kty ety ks ds k ok H U
  | .lmap i => lookB (H i) ty kty ety k ok H U
  | .val (.map none) => lookM ty kty ety [] [] k ok H U
  | _ => .bad
def mval (es : List MapEntry) (o : Option Nat) (z : Value) : Value := match o with | some j => ((es[j]?).map (·.val)).getD undef | none => z
theorem good_lookM (hh : Heap B S p H U w) (hf : TyFact P t ty) {kty ety : Ty} (hk : TyFact P ty.key kty) (he : TyFact P ty.elem ety) {k : D} {m u : Value} (ok : Bool) (hu : Rd S w k p u)
    {ks ds : List D} {es : List MapEntry} (hks : RdL S w ks p (es.map (·.key))) (hds : RdL S w ds p (es.map (·.val)))
    (hm : (m = .map none ∧ es = []) ∨ ∃ r c, m = .map (some r) ∧ w.heap[r]? = some (.map es.toArray c)) : Good P B S p w (Instr.lookup t m u ok) (lookM ty kty ety ks ds k ok H U) := by
  unfold lookM
  split
  · rename_i o hmf
    refine ⟨trivial, fun hc => ?_⟩
    obtain ⟨hk1, hk2, hl⟩ := hc
    have hum := hf.map hk1
    have hck := run_checkKeyD hk hk2 hu
    have hfk := run_findKeyD hk hu hmf hks
    obtain ⟨z, hz, hzd⟩ := rd_zero (S := S) (p := p) he w
    have hrun : (Instr.lookup t m u ok).run P w = .ok (if ok then .tuple #[mval es o z, .bool o.isSome] else mval es o z) w := by
      rcases hm with ⟨rfl, rfl⟩ | ⟨r, c, rfl, hm⟩
      · cases o with
        | none => simp [Instr.lookup, run_und hum, hck, hfk, hz, mval]
        | some j => simp [Instr.lookup, run_und hum, hck, hfk, mval]
      · cases o with
        | none => simp [Instr.lookup, run_und hum, getObj, Sem.run, hm, hck, hfk, hz, mval]
        | some j => simp [Instr.lookup, run_und hum, getObj, Sem.run, hm, hck, hfk, mval]
    have hd : Rd S w (mget o ds (zeroD ety)) p (mval es o z) := by
      cases o with
      | none => exact hzd
      | some j =>
        have hj := mfind_lt hmf
        obtain ⟨v, hv, hd⟩ := rdL_get hds j (by omega)
        have : (es[j]?).map (·.val) = some v := by simpa using hv
        simp only [mget, mval, this, Option.getD_some]
        exact hd
    refine RunOk.same hh hrun ?_
    cases ok
    · simpa [tupOk] using hd
    · simp only [tupOk, if_true, Rd]
      exact ⟨_, rfl, _, _, rfl, hd, _, _, rfl, rfl, rfl⟩
  · trivial
theorem good_lookup (hh : Heap B S p H U w) (hf : TyFact P t ty) {kty ety : Ty} (hk : TyFact P ty.key kty) (he : TyFact P ty.elem ety) {x k : D} {m u : Value} (ok : Bool) (hx : Rd S w x p m) (hu : Rd S w k p u) :
    Good P B S p w (Instr.lookup t m u ok) (lookupR ty kty ety x k ok H U) := by
  unfold lookupR
  split
  · rename_i ks ds
    simp only [Rd] at hx; obtain ⟨r, es, c, rfl, hm, _, h1, h2⟩ := hx
    exact good_lookM hh hf hk he ok hu (RdL.mono (Keep.refl _ _) _ (PlLe.none p) h1) (RdL.mono (Keep.refl _ _) _ (PlLe.none p) h2) (.inr ⟨r, c, rfl, hm⟩)
  · rename_i i
    unfold lookB
    split
    · rename_i ks ds fz ho
      simp only [Rd] at hx; obtain ⟨g, hg, rfl⟩ := hx
      obtain ⟨g', hg', hr⟩ := hh.obj i _ ho
      rw [hg] at hg'; cases hg'
      obtain ⟨es, c, hm, _, _, h1, h2, _⟩ := hr
      exact good_lookM hh hf hk he ok hu (RdL.mono (Keep.refl _ _) _ (PlLe.none p) h1) (RdL.mono (Keep.refl _ _) _ (by cases fz <;> first | exact PlLe.refl _ | exact PlLe.none _) h2) (.inr ⟨_, c, rfl, hm⟩)
    · trivial
  · simp only [Rd] at hx; subst hx
    exact good_lookM hh hf hk he ok hu (es := []) rfl rfl (.inl ⟨rfl, rfl⟩)
  · trivial
theorem eqZ_same {w : World} : ∀ {zs : List Value} {xs ys : List D} {us vs : List Value}, eqZ zs xs ys = some true → RdL S w xs p us → RdL S w ys p vs → us = vs ∧ ((us.zip us).all fun (x, y) => Instr.sameBits 9999 x y) = true
  | [], [], [], us, vs, _, h1, h2 => by simp only [RdL] at h1 h2; subst h1 h2; exact ⟨rfl, rfl⟩
  | [], [], _ :: _, _, _, h, _, _ => by simp [eqZ] at h
  | [], _ :: _, _, _, _, h, _, _ => by simp [eqZ] at h
  | z :: zs, [], _, _, _, h, _, _ => by simp [eqZ] at h
  | z :: zs, x :: xs, [], _, _, h, _, _ => by simp [eqZ] at h
  | z :: zs, x :: xs, y :: ys, us, vs, h, h1, h2 => by
    obtain ⟨u, us, rfl, d1, h1⟩ := h1
    obtain ⟨v, vs, rfl, d2, h2⟩ := h2
    have fin : ∀ {c : Bool}, (eqZ zs xs ys).map (fun r => c && r) = some true → c = true ∧ eqZ zs xs ys = some true := fun {c} h => by
      cases hz : eqZ zs xs ys with
      | none => simp [hz] at h
      | some r => simp [hz] at h; exact ⟨h.1, by rw [h.2]⟩
    unfold eqZ at h
    split at h
    case h_1 => cases ‹x :: xs = []›
    case h_2 e0 e1 e2 =>
      cases e0; cases e1; cases e2
      split at h
      · rename_i hjk
        subst hjk
        obtain ⟨hc, hz⟩ := fin h
        obtain ⟨rfl, h3⟩ := eqZ_same hz h1 h2
        have hc := of_decide_eq_true hc
        subst hc
        simp only [Rd] at d1 d2; subst d1 d2
        exact ⟨rfl, by simpa [Instr.sameBits] using h3⟩
      · cases h
    case h_3 e0 e1 e2 =>
      cases e0; cases e1; cases e2
      obtain ⟨hc, hz⟩ := fin h
      obtain ⟨rfl, h3⟩ := eqZ_same hz h1 h2
      have hc := of_decide_eq_true hc
      subst hc
      simp only [Rd] at d1 d2; obtain ⟨rfl, _⟩ := d1; obtain ⟨rfl, _⟩ := d2
      exact ⟨rfl, by simpa [Instr.sameBits, ba_beq] using h3⟩
    case h_4 e0 e1 e2 =>
      cases e0; cases e1; cases e2
      obtain ⟨hc, hz⟩ := fin h
      obtain ⟨rfl, h3⟩ := eqZ_same hz h1 h2
      have hc := of_decide_eq_true hc
      subst hc
      simp only [Rd] at d1 d2; subst d1 d2
      exact ⟨rfl, by simpa [Instr.sameBits] using h3⟩
    case h_5 => cases h
theorem eqK_same {x y : D} {u v : Value} (h : eqK ty x y = some true) (hx : Rd S w x p u) (hy : Rd S w y p v) : u = v ∧ Instr.sameBits 10000 v u = true := by
  unfold eqK at h
  split at h
  · simp only [Rd] at hx hy; subst hx hy
    split at h <;> first | (cases h; done) | skip
    split at h
    · rename_i hj
      subst hj
      have := of_decide_eq_true (Option.some.inj h)
      subst this
      exact ⟨rfl, by simp [Instr.sameBits]⟩
    · cases h
  · simp only [Rd] at hx hy; obtain ⟨rfl, _⟩ := hx; obtain ⟨rfl, _⟩ := hy
    split at h <;> first | (cases h; done) | skip
    have := of_decide_eq_true (Option.some.inj h)
    subst this
    exact ⟨rfl, by simp [Instr.sameBits, ba_beq]⟩
  · simp only [Rd] at hx hy; obtain ⟨us, rfl, h1, _⟩ := hx; obtain ⟨vs, rfl, h2, _⟩ := hy
    split at h <;> first | (cases h; done) | skip
    split at h
    · obtain ⟨rfl, h3⟩ := eqZ_same h h1 h2
      exact ⟨rfl, by simpa [Instr.sameBits] using h3⟩
    · cases h
  · cases h
theorem mfind_at {x : D} : ∀ {ks : List D} {i : Nat}, mfind ty ks x = some (some i) → eqK ty x (ks.getD i .any) = some true
  | [], i, h => by simp [mfind] at h
  | k :: ks, i, h => by
    simp only [mfind] at h
    split at h
    · rename_i hq; cases h; simpa using hq
    · cases hm : mfind ty ks x with
      | none => simp [hm] at h
      | some o =>
        simp [hm] at h
        cases o with
        | none => simp at h
        | some j => simp at h; subst h; simpa using mfind_at hm
    · cases h
def updB (o : Option LObj) (i : Nat) (ty kty : Ty) (k d : D) (H : Nat → Option LObj) (U : Nat → Bool) : Res :=
  match o with
  | some (.mp ks ds false) => match mfind kty ks k with
    | some o => .ok True (ty.kind = .map ∧ (eqK kty k k).isSome = true ∧ ks.length = ds.length) .any (upd H i (some (.mp (mks o ks k) (mds o ds d) false))) U
    | none => .bad
  | _ => .bad
def mapUpdR (ty kty : Ty) (x k d : D) (H : Nat → Option LObj) (U : Nat → Bool) : Res :=
  match x with
  | .lmap i => updB (H i) i ty kty k d H U
  | _ => .bad
theorem pure_key {x : D} (h : (eqK ty x x).isSome = true) {v : Value} (hx : Rd S w x p v) : Rd S w x noPl v := by
  cases x <;> simp only [eqK, Option.isSome_none, Bool.false_eq_true] at h
  case int => exact hx
  case str => exact hx
  case agg xs =>
    simp only [Rd] at hx ⊢
    obtain ⟨vs, rfl, hr, h1⟩ := hx
    refine ⟨vs, rfl, ?_, h1⟩
    split at h <;> first | (cases h; done) | skip
    split at h
    · obtain ⟨r, hz⟩ := Option.isSome_iff_exists.1 h
      clear h h1
      have key : ∀ (zs : List Value) (xs : List D) (vs : List Value) (r : Bool), eqZ zs xs xs = some r → RdL S w xs p vs → RdL S w xs noPl vs := by
        intro zs xs
        induction xs generalizing zs with
        | nil => intro vs r _ h; exact h
        | cons x xs ih =>
          intro vs r hz h
          obtain ⟨v, vs, rfl, hd, h⟩ := h
          cases zs with
          | nil => simp [eqZ] at hz
          | cons z zs =>
            have tail : ∃ r0, eqZ zs xs xs = some r0 := by
              cases he : eqZ zs xs xs with
              | some r0 => exact ⟨r0, rfl⟩
              | none => unfold eqZ at hz; split at hz <;> simp_all
            obtain ⟨r0, h0⟩ := tail
            refine ⟨v, vs, rfl, ?_, ih zs vs r0 h0 h⟩
            unfold eqZ at hz
            split at hz <;> first | (cases hz; done) | skip
            case h_1 => cases ‹x :: xs = []›
            case h_2 e1 _ => cases e1; exact hd
            case h_3 e1 _ => cases e1; exact hd
            case h_4 e1 _ => cases e1; exact hd
      exact key _ _ _ _ hz hr
    · cases h
theorem rdL_set {ds : List D} {vs : List Value} (h : RdL S w ds p vs) {i : Nat} {d : D} {v : Value} (hd : Rd S w d p v) : RdL S w (ds.set i d) p (vs.set i v) := by
  induction ds generalizing vs i with
  | nil => simp only [RdL] at h; subst h; exact rfl
  | cons x xs ih =>
    obtain ⟨u, us, rfl, h1, h⟩ := h
    cases i with
    | zero => exact ⟨v, us, rfl, hd, h⟩
    | succ i => exact ⟨u, us.set i v, rfl, h1, ih h⟩
theorem heap_putObj (hh : Heap B S p H U w) {i : Nat} {o o' : LObj} {g : G} (hi : H i = some o) (hg : p i = some g) (hb : g.own = some g.ptr) (hS : S g.ptr = 0) (x : Obj)
    (hr : ObjRel B S p { w with heap := w.heap.setIfInBounds g.ptr x } g o') (hy : ∀ ys d st, o' ≠ .yl ys d st) (hz : o' ≠ .lrec) (hnd : ∀ x : Option (List Deferred), w.heap[g.ptr]? ≠ some (.deferred x)) :
    Heap B S p (upd H i (some o')) U { w with heap := w.heap.setIfInBounds g.ptr x } ∧ Keep S S w { w with heap := w.heap.setIfInBounds g.ptr x } := by
  have hgr : w.grownBy { w with heap := w.heap.setIfInBounds g.ptr x } g.own := by
    rw [hb]
    refine ⟨rfl, rfl, rfl, by simp, fun k _ hk => ?_⟩
    simp only []
    rw [Array.getElem?_setIfInBounds_ne (fun e => hk (by rw [e]))]
  have hk : Keep S S w { w with heap := w.heap.setIfInBounds g.ptr x } := Keep.of_zero hgr hh.ext (fun b e => by rw [hb] at e; cases e; exact hS) (fun b x e => by rw [hb] at e; cases e; exact hnd x)
  obtain ⟨h1, _⟩ := hh.step hi hg hgr hk (g' := g) (o' := o') rfl (Nat.le_refl _) (fun _ => ⟨rfl, rfl⟩) (fun _ e => .inl e) (fun p' hp => hr.mono (Keep.refl _ _) hp (fun _ _ => rfl) (fun _ _ => rfl) (fun ys d st e => absurd e (hy ys d st))) hy hz
  have : upd p i (some g) = p := by funext j; by_cases e : j = i <;> simp [upd, e, hg]
  rw [this] at h1
  exact ⟨h1, hk⟩
theorem bornOk_push {es : List MapEntry} {c : Nat} (h : bornOk es c) (u v : Value) : bornOk (es ++ [({ key := u, val := v, born := c } : MapEntry)]) (c + 1) := by
  obtain ⟨h1, rfl⟩ := h
  refine ⟨fun i e he => ?_, by simp⟩
  by_cases hi : i < es.length
  · rw [List.getElem?_append_left hi] at he; exact h1 i e he
  · rw [List.getElem?_append_right (by omega)] at he
    cases hk : i - es.length with
    | zero => rw [hk] at he; simp at he; subst he; simp; omega
    | succ k => rw [hk] at he; simp at he
theorem bornOk_set {es : List MapEntry} {c j : Nat} (h : bornOk es c) {e : MapEntry} (he : ∀ e0, es[j]? = some e0 → e.born = e0.born) : bornOk (es.set j e) c := by
  obtain ⟨h1, rfl⟩ := h
  refine ⟨fun i e1 h2 => ?_, by simp⟩
  rw [List.getElem?_set] at h2
  split at h2
  · rename_i hji
    subst hji
    split at h2
    · rename_i hl
      cases h2
      have := List.getElem?_eq_getElem hl
      rw [he _ this]; exact h1 _ _ this
    · cases h2
  · exact h1 i e1 h2
theorem good_mapUpd (hh : Heap B S p H U w) (hf : TyFact P t ty) {kty : Ty} (hk : TyFact P ty.key kty) {x k d : D} {m u v : Value} (hx : Rd S w x p m) (hu : Rd S w k p u) (hd : Rd S w d noPl v) :
    GoodU P B S p w (Instr.mapUpdate t m u v) (mapUpdR ty kty x k d H U) := by
  unfold mapUpdR
  split
  · rename_i i
    unfold updB
    split
    · rename_i ks ds ho
      split
      · rename_i o hmf
        refine ⟨trivial, fun hc => ?_, rfl⟩
        obtain ⟨hk1, hk2, hl⟩ := hc
        simp only [Rd] at hx; obtain ⟨g, hg, rfl⟩ := hx
        obtain ⟨g', hg', hr⟩ := hh.obj i _ ho
        rw [hg] at hg'; cases hg'
        obtain ⟨es, c, hm, hown, hn0, h1, h2, hS, hbo⟩ := hr
        simp only [Bool.false_eq_true, if_false] at hS
        have h1p : RdL S w ks p (es.map (·.key)) := RdL.mono (Keep.refl _ _) _ (PlLe.none p) h1
        have hum := hf.map hk1
        have hck := run_checkKeyD hk hk2 hu
        have hfk := run_findKeyD hk hu hmf h1p
        have hlt := (Array.getElem?_eq_some_iff.1 hm).1
        have hkl : es.length = ks.length := maplen h1
        cases o with
        | none =>
          have hrun : (Instr.mapUpdate t (.map (some g.ptr)) u v).run P w = .ok () { w with heap := w.heap.setIfInBounds g.ptr (.map (es ++ [({ key := u, val := v, born := c } : MapEntry)]).toArray (c + 1)) } := by
            simp [Instr.mapUpdate, run_und hum, getObj, Sem.run, hm, hck, hfk, setObj]
          have hrel : ∀ w', Keep S S w w' → w'.heap[g.ptr]? = some (.map (es ++ [({ key := u, val := v, born := c } : MapEntry)]).toArray (c + 1)) → ObjRel B S p w' g (.mp (ks ++ [k]) (ds ++ [d]) false) := fun w' hk' hh' =>
            ⟨_, _, hh', hown, hn0, by rw [List.map_append]; exact rdL_append (RdL.mono hk' _ (PlLe.refl _) h1) ⟨u, [], rfl, Rd.mono hk' _ (PlLe.refl _) (pure_key hk2 hu), rfl⟩, by
              rw [List.map_append]; exact rdL_append (RdL.mono hk' _ (PlLe.refl _) h2) ⟨v, [], rfl, Rd.mono hk' _ (PlLe.refl _) hd, rfl⟩, by simpa using hS, bornOk_push hbo u v⟩
          have hgr : w.grownBy { w with heap := w.heap.setIfInBounds g.ptr (.map (es ++ [({ key := u, val := v, born := c } : MapEntry)]).toArray (c + 1)) } (some g.ptr) :=
            ⟨rfl, rfl, rfl, by simp, fun k _ hk => by simp only []; rw [Array.getElem?_setIfInBounds_ne (fun e => hk (by rw [e]))]⟩
          have hkeep := Keep.of_zero hgr hh.ext (fun b e => by cases e; exact hS) (fun b x e h => by cases e; rw [hm] at h; cases h)
          obtain ⟨a1, a2⟩ := heap_putObj hh ho hg hown hS _ (hrel _ hkeep (by simp [hlt])) (fun _ _ _ e => by cases e) (fun e => by cases e) (fun x h => by rw [hm] at h; cases h)
          exact ⟨_, S, p, hrun, a1, a2, PlLe.refl _⟩
        | some j =>
          have hj := mfind_lt hmf
          have hat := mfind_at hmf
          obtain ⟨kv, hkv, hkd⟩ := rdL_get h1p j hj
          obtain ⟨e1, e2⟩ := eqK_same hat hu hkd
          have hej : j < es.length := by omega
          have hkv' : es[j].key = kv := by
            have : (es.map (·.key))[j]? = some es[j].key := by simp [hej]
            rw [this] at hkv; exact Option.some.inj hkv
          have hrun : (Instr.mapUpdate t (.map (some g.ptr)) u v).run P w = .ok () { w with heap := w.heap.setIfInBounds g.ptr (.map (es.set j ({ es[j] with key := u, val := v } : MapEntry)).toArray c) } := by
            have hmod : es.modify j (fun e => ({ key := u, val := v, born := e.born } : MapEntry)) = es.set j ({ key := u, val := v, born := es[j].born } : MapEntry) := by
              simp [List.modify_eq_set, hej]
            simp [Instr.mapUpdate, run_und hum, getObj, Sem.run, hm, hck, hfk, setObj, hej, Instr.keyThatStays, hkv', e2, hmod]
          have hrel : ∀ w', Keep S S w w' → w'.heap[g.ptr]? = some (.map (es.set j ({ es[j] with key := u, val := v } : MapEntry)).toArray c) → ObjRel B S p w' g (.mp ks (ds.set j d) false) := fun w' hk' hh' =>
            ⟨_, _, hh', hown, hn0, by
              rw [List.map_set]
              have : (es.map (·.key)).set j u = es.map (·.key) := by
                rw [e1, ← hkv']
                apply List.ext_getElem?
                intro q
                rw [List.getElem?_set]
                by_cases hq : j = q
                · subst hq; simp [hej]
                · simp [hq]
              rw [this]
              exact RdL.mono hk' _ (PlLe.refl _) h1, by
              rw [List.map_set]; exact rdL_set (RdL.mono hk' _ (PlLe.refl _) h2) (Rd.mono hk' _ (PlLe.refl _) hd), by simpa using hS, bornOk_set hbo (e := { es[j] with key := u, val := v }) (fun e he => by
                rw [List.getElem?_eq_getElem hej] at he; cases he; rfl)⟩
          have hgr : w.grownBy { w with heap := w.heap.setIfInBounds g.ptr (.map (es.set j ({ es[j] with key := u, val := v } : MapEntry)).toArray c) } (some g.ptr) :=
            ⟨rfl, rfl, rfl, by simp, fun k _ hk => by simp only []; rw [Array.getElem?_setIfInBounds_ne (fun e => hk (by rw [e]))]⟩
          have hkeep := Keep.of_zero hgr hh.ext (fun b e => by cases e; exact hS) (fun b x e h => by cases e; rw [hm] at h; cases h)
          obtain ⟨a1, a2⟩ := heap_putObj hh ho hg hown hS _ (hrel _ hkeep (by simp [hlt])) (fun _ _ _ e => by cases e) (fun e => by cases e) (fun x h => by rw [hm] at h; cases h)
          exact ⟨_, S, p, hrun, a1, a2, PlLe.refl _⟩
      · trivial
    · trivial
  · trivial
end ops
end Go.Tn
