/- Symbolic data, and what the operations do to it. -/
import Derived.Test.YtlabdffgcciepaaGreatDoorTn3
set_option linter.unusedSimpArgs false
set_option linter.unusedVariables false
set_option linter.unusedSectionVars false
namespace Go.Tn
open Go.RowKit
section ops
variable {P : Program} {B : Base} {S : Ex} {p : Pl} {w : World} {H : Nat → Option LObj} {U : Nat → Bool} {t : Nat} {ty : Ty}
def setAt {α : Type} (l : List α) (off : Nat) (new : List α) : List α := l.take off ++ new ++ l.drop (off + new.length)
theorem rdL_setAt {ds es : List D} {vs us : List Value} (h : RdL S w ds p vs) (k : RdL S w es p us) (off : Nat) : RdL S w (setAt ds off es) p (setAt vs off us) := by
  unfold setAt
  rw [rdL_len k]
  exact rdL_append (rdL_append (rdL_take h _) k) (rdL_drop h _)
theorem setAt_len {α : Type} {l new : List α} {off : Nat} (h : off + new.length ≤ l.length) : (setAt l off new).length = l.length := by
  simp [setAt, List.length_take, List.length_drop]; omega
theorem setAt_mem {α : Type} {l new : List α} {off : Nat} {v : α} (h : v ∈ setAt l off new) : v ∈ l ∨ v ∈ new := by
  simp only [setAt, List.mem_append] at h
  rcases h with (h | h) | h
  · exact .inl (List.mem_of_mem_take h)
  · exact .inr h
  · exact .inl (List.mem_of_mem_drop h)
theorem setAt_get {α : Type} {l new : List α} {off : Nat} (h : off + new.length ≤ l.length) (j : Nat) : (setAt l off new)[j]? = if off ≤ j ∧ j < off + new.length then new[j - off]? else l[j]? := by
  unfold setAt
  rw [List.append_assoc, List.getElem?_append, List.length_take, show min off l.length = off from by omega]
  by_cases h1 : j < off
  · rw [if_pos h1, if_neg (by omega), List.getElem?_take, if_pos h1]
  · rw [if_neg h1, List.getElem?_append]
    by_cases h2 : j < off + new.length
    · rw [if_pos (by omega), if_pos ⟨by omega, h2⟩]
    · rw [if_neg (by omega), if_neg (by omega), List.getElem?_drop]
      congr 1; omega
theorem setAt_setAt {α : Type} {l new : List α} {a n b : Nat} (h1 : a + n ≤ l.length) (h2 : b + new.length ≤ n) : setAt l a (setAt ((l.drop a).take n) b new) = setAt l (a + b) new := by
  have hl : ((l.drop a).take n).length = n := by rw [List.length_take, List.length_drop]; omega
  have hs : (setAt ((l.drop a).take n) b new).length = n := by rw [setAt_len (by omega), hl]
  apply List.ext_getElem?
  intro j
  rw [setAt_get (by omega), setAt_get (by omega), hs]
  by_cases c1 : a ≤ j ∧ j < a + n
  · rw [if_pos c1, setAt_get (by omega)]
    by_cases c2 : a + b ≤ j ∧ j < a + b + new.length
    · rw [if_pos c2, if_pos (by omega)]; congr 1; omega
    · rw [if_neg c2, if_neg (by omega), List.getElem?_take, if_pos (by omega), List.getElem?_drop]; congr 1; omega
  · rw [if_neg c1, setAt_get (by omega), if_neg (by omega)]
theorem setAt_take {α : Type} {l new : List α} {off n : Nat} (h1 : n ≤ l.length) (h2 : off + new.length ≤ n) : (setAt l off new).take n = setAt (l.take n) off new := by
  apply List.ext_getElem?
  intro j
  rw [List.getElem?_take, setAt_get (by omega), setAt_get (by rw [List.length_take]; omega), List.getElem?_take]
  by_cases c1 : j < n
  · simp [c1]
  · rw [if_neg c1, if_neg (by omega), if_neg c1]
def storeB (o : Option LObj) (i off : Nat) (ty : Ty) (d : D) (H : Nat → Option LObj) (U : Nat → Bool) : Res :=
  match o with
  | some (.blk cs false) => .ok True (okc d = true ∧ (cellsOf d).length = ty.zero.length ∧ off + ty.zero.length ≤ cs.length) .any (upd H i (some (.blk (setAt cs off (cellsOf d)) false))) U
  | _ => .bad
def storeV (o : Option LObj) (i n sz k off : Nat) (ty : Ty) (d : D) (H : Nat → Option LObj) (U : Nat → Bool) : Res :=
  match o with
  | some (.vec e sz' rows fz) => .ok True (okc d = true ∧ (cellsOf d).length = ty.zero.length ∧ sz' = sz ∧ rows.length = n ∧ k < rows.length ∧ fz ≤ k ∧ off + ty.zero.length ≤ sz) .any
      (upd H i (some (.vec e sz' (rows.set k (setAt (rows.getD k []) off (cellsOf d))) fz))) U
  | _ => .bad
def isV : D → Bool | .vptr _ _ _ _ _ => true | _ => false
def storeR (ty : Ty) (x d : D) (H : Nat → Option LObj) (U : Nat → Bool) : Res :=
  match x with
  | .loc i off => storeB (H i) i off ty d H U
  | .vptr i n sz k off => storeV (H i) i n sz k off ty d H U
  | _ => .bad
theorem grown_setRow (w : World) (g : Nat) (cs : Array Value) : w.grownBy (w.setRow g cs) (some g) :=
  ⟨rfl, rfl, rfl, by simp, fun k _ hk => setRow_other w g k cs (fun e => hk (by rw [e]))⟩
def RunOkU (P : Program) (B : Base) (S : Ex) (p : Pl) (w : World) (m : Sem Unit) (H : Nat → Option LObj) (U : Nat → Bool) : Prop :=
  ∃ w' S' p', m.run P w = .ok () w' ∧ Heap B S' p' H U w' ∧ Keep S S' w w' ∧ PlLe p p'
def GoodU (P : Program) (B : Base) (S : Ex) (p : Pl) (w : World) (m : Sem Unit) : Res → Prop
  | .ok f c d H U => f ∧ (c → RunOkU P B S p w m H U) ∧ d = .any
  | .bad => True
  | _ => False
theorem run_storeVar (hf : TyFact P t ty) {b off : Nat} {v : Value} {cur : Array Value} {tt : TypeId} (hl : v.cells.toList.length = ty.zero.length) (hb : w.heap[b]? = some (.cells cur tt (0, 0)))
    (hle : off + ty.zero.length ≤ cur.size) (ho : ∀ u ∈ v.cells.toList, u.oneCell' = true) :
    (Instr.storeAt t (.pointer (some ⟨b, off, none⟩)) v).run P w = .ok () (w.setRow b (setAt cur.toList off v.cells.toList).toArray) := by
  have h := run_storeCells_at P b off tt v.cells.toList 0 cur w hb (by rw [hl]; omega) ho
  have hl' : v.cells.size = ty.zero.length := by simpa using hl
  unfold Instr.storeAt Instr.sureAddr storeVar
  simp only [Sem.run_bind, Sem.run_pure, Result.andThen_ok, hf.sizeOf w, hl', ne_eq, not_true, if_false]
  rw [h]
  simp [setAt]
theorem heap_put (hh : Heap B S p H U w) {i : Nat} {o o' : LObj} {g : G} {b : Nat} {cs : Array Value} (hi : H i = some o) (hg : p i = some g) (hb : g.own = some b)
    (hk : Keep S S w (w.setRow b cs)) (hr : ObjRel B S p (w.setRow b cs) g o') (hy : ∀ ys d st, o' ≠ .yl ys d st) (hz : o' ≠ .lrec) : Heap B S p (upd H i (some o')) U (w.setRow b cs) := by
  have hgr := grown_setRow w b cs
  rw [← hb] at hgr
  obtain ⟨h1, _⟩ := hh.step hi hg hgr hk (g' := g) rfl (Nat.le_refl _) (fun _ => ⟨rfl, rfl⟩) (fun _ e => .inl e)
    (fun p' hp => hr.mono (Keep.refl _ _) hp (fun _ _ => rfl) (fun _ _ => rfl) (fun ys d st e => absurd e (hy ys d st))) hy hz
  have : upd p i (some g) = p := by funext j; by_cases e : j = i <;> simp [upd, e, hg]
  rwa [this] at h1
theorem flatten_set {rows : List (List D)} {sz k : Nat} {r : List D} (h : ∀ r ∈ rows, r.length = sz) (hr : r.length = sz) (hk : k < rows.length) : (rows.set k r).flatten = setAt rows.flatten (k * sz) r := by
  induction rows generalizing k with
  | nil => simp at hk
  | cons r0 rows ih =>
    have h0 := h r0 (by simp)
    cases k with
    | zero =>
      simp only [List.set_cons_zero, List.flatten_cons, setAt, Nat.zero_mul, List.take_zero, List.nil_append, Nat.zero_add, hr]
      rw [List.drop_left' h0]
    | succ k =>
      have e : (k + 1) * sz = r0.length + k * sz := by rw [h0, Nat.add_mul, Nat.one_mul, Nat.add_comm]
      simp only [List.set_cons_succ, List.flatten_cons, ih (fun r hr => h r (by simp [hr])) (by simpa using hk), setAt, e]
      rw [List.take_length_add_append, show r0.length + k * sz + r.length = r0.length + (k * sz + r.length) from by omega, List.drop_length_add_append]
      simp
theorem good_store (hh : Heap B S p H U w) (hf : TyFact P t ty) {x d : D} {v u : Value} (hx : Rd S w x p v) (hd : Rd S w d p u) (hdn : isV x = true → Rd S w d noPl u) : GoodU P B S p w (Instr.storeAt t v u) (storeR ty x d H U) := by
  unfold storeR
  split
  · rename_i i off
    unfold storeB
    split
    · rename_i cs hi
      refine ⟨trivial, fun hle => ?_, rfl⟩
      obtain ⟨hok, hcl, hle⟩ := hle
      simp only [Rd] at hx
      obtain ⟨g, hg, rfl⟩ := hx
      obtain ⟨g', hg', ho⟩ := hh.obj i _ hi
      rw [hg] at hg'; cases hg'
      obtain ⟨vs, tt, hb, hown, hn0, hr, hS, h1⟩ := ho
      simp only [Bool.false_eq_true, if_false] at hr hS
      obtain ⟨hc, hc1⟩ := rd_cells hd hok
      have hlu := rdL_len hc
      have hlv := rdL_len hr
      have hrun := run_storeVar hf (v := u) (off := off) (by rw [hlu, hcl]) hb (by simp [hlv]; omega) hc1
      have hk : Keep S S w (w.setRow g.ptr (setAt vs off u.cells.toList).toArray) := Keep.of_zero (grown_setRow _ _ _) hh.ext (fun b e => by cases e; exact hS) (fun b x e h => by cases e; rw [hb] at h; cases h)
      refine ⟨_, S, p, hrun, ?_, by simpa using hk, PlLe.refl _⟩
      refine heap_put hh hi hg hown (by simpa using hk) ?_ (fun _ _ _ e => by cases e) (fun e => by cases e)
      refine ⟨setAt vs off u.cells.toList, tt, ?_, hown, hn0, ?_, by simp [hS], fun x hx => ?_⟩
      · rw [setRow_heap w g.ptr _ _ _ _ hb]
      · simp only [Bool.false_eq_true, if_false]
        exact RdL.mono (by simpa using hk) _ (PlLe.refl _) (rdL_setAt hr hc off)
      · rcases setAt_mem hx with h | h
        · exact h1 x h
        · exact hc1 x h
    · trivial
  · rename_i i n sz k off
    unfold storeV
    split
    · rename_i e sz' rows fz hi
      refine ⟨trivial, fun hle => ?_, rfl⟩
      obtain ⟨hok, hcl, rfl, rfl, hk, hfz, hle⟩ := hle
      simp only [Rd] at hx
      obtain ⟨g, hg, _, _, hx⟩ := hx
      obtain ⟨g', hg', ho⟩ := hh.obj i _ hi
      rw [hg] at hg'; cases hg'
      obtain ⟨xs, ⟨h1, h1o⟩, h2, h3, h4, h5, h6, h7, h8, h9⟩ := ho
      obtain ⟨b, hb, rfl⟩ := hx h3.symm
      obtain ⟨hc, hc1⟩ := rd_cells (hdn rfl) hok
      have hlu := rdL_len hc
      have hlx := rdL_len h6
      have hfl := flatten_len h5
      have hkl : k * sz' + sz' ≤ rows.length * sz' := by
        have : (k + 1) * sz' ≤ rows.length * sz' := Nat.mul_le_mul_right _ hk
        rw [Nat.add_mul, Nat.one_mul] at this; exact this
      have hfk : fz * sz' ≤ k * sz' := Nat.mul_le_mul_right _ hfz
      obtain ⟨hxl, hown⟩ := h1
      rcases hown with ⟨hn, h0⟩ | ⟨gb, cap, cur, hv, hgb, hhb, hnc, hcm, hcs, hct⟩
      · omega
      · obtain rfl : gb = b := by rw [h2, hv] at hb; exact Option.some.inj hb
        have hcl2 : rows.length * sz' ≤ cap * sz' := Nat.mul_le_mul_right _ hnc
        have hrun := run_storeVar hf (v := u) (off := k * sz' + off) (by rw [hlu, hcl]) hhb (by omega) hc1
        have hkeep : Keep S S w (w.setRow gb (setAt cur.toList (k * sz' + off) u.cells.toList).toArray) := by
          refine Keep.of_grown (grown_setRow _ _ _) hh.ext (fun b' o' v' e' ho' hv' => ?_) (fun b' es c e' _ hm => ?_) (fun b x e h => by cases e; rw [hhb] at h; cases h) (fun b _ _ _ e h => by cases e; rw [hhb] at h; cases h; have := h8 _ hb; omega)
          · cases e'
            have := h8 _ hb
            rw [cell_setRow_same _ _ _ _ _ _ _ hhb]
            have hcc : cur[o']? = some v' := by simpa [World.cell?, hhb] using hv'
            have hlt : o' < k * sz' + off := by omega
            have hl2 : k * sz' + off ≤ cur.size := by omega
            simp only [setAt, List.getElem?_toArray, List.append_assoc]
            rw [List.getElem?_append_left (by simp [List.length_take]; omega), List.getElem?_take, if_pos hlt]
            simpa using hcc
          · cases e'
            rw [hhb] at hm; cases hm
        refine ⟨_, S, p, hrun, ?_, hkeep, PlLe.refl _⟩
        refine heap_put hh hi hg hb hkeep ?_ (fun _ _ _ e => by cases e) (fun e => by cases e)
        have hrow : (rows.getD k []).length = sz' := by
          rw [List.getD_eq_getElem?_getD, List.getElem?_eq_getElem hk]; exact h5 _ (List.getElem_mem hk)
        have hsl : (setAt (rows.getD k []) off (cellsOf d)).length = sz' := by rw [setAt_len (by omega), hrow]
        have hfs : (rows.set k (setAt (rows.getD k []) off (cellsOf d))).flatten = setAt rows.flatten (k * sz' + off) (cellsOf d) := by
          rw [flatten_set h5 hsl hk, ← flatten_row h5 hk, setAt_setAt (by omega) (by omega)]
        refine ⟨setAt xs (k * sz' + off) u.cells.toList, ⟨⟨?_, .inr ⟨gb, cap, (setAt cur.toList (k * sz' + off) u.cells.toList).toArray, by simpa using hv, hgb, ?_, by simpa using hnc, hcm, ?_, ?_⟩⟩, h1o⟩, h2, by simpa using h3, by simpa using h4, ?_, ?_, fun v hv => ?_, h8, by simpa using h9⟩
        · rw [setAt_len (by rw [hlu, hcl]; omega), hxl]; simp
        · rw [setRow_heap w gb _ _ _ _ hhb]
        · simp only [List.size_toArray]; rw [setAt_len (by rw [hlu, hcl]; simp; omega)]; simpa using hcs
        · simp only [List.length_set]
          rw [← hct]
          exact setAt_take (by simp; omega) (by rw [hlu, hcl]; omega)
        · intro r hr
          rcases List.mem_or_eq_of_mem_set hr with h | h
          · exact h5 r h
          · rw [h]; exact hsl
        · rw [hfs]
          exact RdL.mono hkeep _ (PlLe.refl _) (rdL_setAt h6 hc _)
        · rcases setAt_mem hv with h | h
          · exact h7 v h
          · exact hc1 v h
    · trivial
  · trivial
end ops
end Go.Tn
