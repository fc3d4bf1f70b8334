/- Symbolic data, and what the operations do to it. -/
import Derived.Test.YtlabdffgcciepaaGreatDoorTn4
import Derived.Laws.MakeOwn
set_option linter.unusedSimpArgs false
set_option linter.unusedVariables false
set_option linter.unusedSectionVars false
namespace Go.Tn
open Go.RowKit
section ops
variable {P : Program} {B : Base} {S : Ex} {p : Pl} {w : World} {H : Nat → Option LObj} {U : Nat → Bool} {t : Nat} {ty : Ty}
def newR (i : Nat) (c : Prop) (d : D) (o : LObj) (H : Nat → Option LObj) (U : Nat → Bool) : Res :=
  .ok True (U i = false ∧ c) d (upd H i (some o)) (upd U i true)
theorem below_push (w : World) (o : Obj) : Below w.heap.size w { w with heap := w.heap.push o } := (Below.refl _ w).alloc (Nat.le_refl _) o
theorem heap_push (w : World) (o : Obj) : ({ w with heap := w.heap.push o } : World).heap[w.heap.size]? = some o := by simp
theorem new_blk (hh : Heap B S p H U w) {i : Nat} (hU : U i = false) {cs : List D} {vs : List Value} (hr : RdL S w cs p vs) (h1 : ∀ v ∈ vs, v.oneCell' = true) (e : TypeId) :
    ∃ p', Heap B S p' (upd H i (some (.blk cs false))) (upd U i true) { w with heap := w.heap.push (.cells vs.toArray e) } ∧
      Keep S S w { w with heap := w.heap.push (.cells vs.toArray e) } ∧ PlLe p p' ∧ Rd S { w with heap := w.heap.push (.cells vs.toArray e) } (.loc i 0) p' (.pointer (some ⟨w.heap.size, 0, none⟩)) := by
  have hS : S w.heap.size = 0 := by
    have := hh.ext w.heap.size
    omega
  obtain ⟨a, b, c⟩ := hh.new (i := i) (g := ⟨w.heap.size, some w.heap.size, 0, .nilFunc, fun _ => False⟩) (o := .blk cs false) (below_push w (.cells vs.toArray e)) hU (fun b e => by cases e; exact Nat.le_refl _)
    (fun p' hp hk => ⟨vs, e, heap_push _ _, rfl, .inl hh.size, RdL.mono hk cs hp hr, by simp [hS], h1⟩) (fun _ _ _ e => by cases e) (fun e => by cases e)
  exact ⟨_, a, b, c, by simp only [Rd]; exact ⟨_, upd_same _ _ _, rfl⟩⟩
def allocR (i : Nat) (ty : Ty) (H : Nat → Option LObj) (U : Nat → Bool) : Res := newR i True (.loc i 0) (.blk (ty.zero.map leafV) false) H U
theorem good_alloc (hh : Heap B S p H U w) (hf : TyFact P t ty) (i : Nat) (x : Value) : Good P B S p w (Instr.alloc t true x) (allocR i ty H U) := by
  refine ⟨trivial, fun hU => ?_⟩
  obtain ⟨z, hz, hc, _⟩ := hf.zeroV w
  obtain ⟨p', h1, h2, h3, h4⟩ := new_blk hh hU.1 (rdL_map (rd_leaf S w p) ty.zero) hf.one t
  refine ⟨_, _, S, p', ?_, h4, h1, h2, h3⟩
  simp [Instr.alloc, hz, newVar, newRow, ← hc]
def boxR (i : Nat) (d : D) (H : Nat → Option LObj) (U : Nat → Bool) : Res := newR i (okc d = true) (.loc i 0) (.blk (cellsOf d) false) H U
theorem good_box (hh : Heap B S p H U w) (i : Nat) {d : D} {v : Value} (hd : Rd S w d p v) : Good P B S p w (Instr.box t v) (boxR i d H U) := by
  refine ⟨trivial, fun hU => ?_⟩
  obtain ⟨hc, h1⟩ := rd_cells hd hU.2
  obtain ⟨p', h1, h2, h3, h4⟩ := new_blk hh hU.1 hc h1 t
  refine ⟨_, _, S, p', ?_, h4, by simpa using h1, by simpa using h2, h3⟩
  simp [Instr.box, newVar, newRow]
def makeMapR (i : Nat) (H : Nat → Option LObj) (U : Nat → Bool) : Res := newR i True (.lmap i) (.mp [] [] false) H U
theorem good_makeMap (hh : Heap B S p H U w) (i : Nat) : Good P B S p w (Instr.makeMap t none) (makeMapR i H U) := by
  refine ⟨trivial, fun hU => ?_⟩
  have hS : S w.heap.size = 0 := by
    have := hh.ext w.heap.size
    omega
  obtain ⟨a, b, c⟩ := hh.new (i := i) (g := ⟨w.heap.size, some w.heap.size, 0, .nilFunc, fun _ => False⟩) (o := .mp [] [] false) (below_push w (.map #[] 0)) hU.1 (fun b e => by cases e; exact Nat.le_refl _)
    (fun p' hp hk => ⟨[], 0, heap_push _ _, rfl, .inl hh.size, rfl, rfl, by simp [hS], ⟨fun i e h => by simp at h, rfl⟩⟩) (fun _ _ _ e => by cases e) (fun e => by cases e)
  exact ⟨_, _, S, _, by simp [Instr.makeMap]; rfl, by simp only [Rd]; exact ⟨_, upd_same _ _ _, rfl⟩, a, b, c⟩
theorem new_vec (hh : Heap B S p H U w) {i : Nat} (hU : U i = false) {e sz n : Nat} {rows : List (List D)} {xs : List Value} (hn : rows.length = n) (hb : n < 140737488355328) (hl : ∀ r ∈ rows, r.length = sz)
    (hr : RdL S w rows.flatten noPl xs) (h1 : ∀ v ∈ xs, v.oneCell' = true) :
    ∃ p', Heap B S p' (upd H i (some (.vec e sz rows 0))) (upd U i true) { w with heap := w.heap.push (.cells xs.toArray e) } ∧
      Keep S S w { w with heap := w.heap.push (.cells xs.toArray e) } ∧ PlLe p p' ∧ Rd S { w with heap := w.heap.push (.cells xs.toArray e) } (.vec i n) p' (.slice (some ⟨w.heap.size, 0, none⟩) n n) := by
  have hS : S w.heap.size = 0 := by
    have := hh.ext w.heap.size
    omega
  have hxl : xs.length = n * sz := by rw [rdL_len hr, flatten_len hl, hn]
  obtain ⟨a, b, c⟩ := hh.new (i := i) (g := ⟨0, some w.heap.size, n, .slice (some ⟨w.heap.size, 0, none⟩) n n, fun _ => False⟩) (o := .vec e sz rows 0) (below_push w (.cells xs.toArray e)) hU (fun b e => by cases e; exact Nat.le_refl _)
    (fun p' hp hk => ⟨xs, ⟨⟨by rw [hn]; exact hxl, .inr ⟨w.heap.size, n, xs.toArray, by rw [hn], Nat.zero_le _, heap_push _ _, by omega, by unfold maxLen; omega, by simpa using hxl, by simp [hn, ← hxl]⟩⟩, fun b eb => by cases eb; exact .inl hh.size⟩, rfl, hn.symm, by omega, hl, RdL.mono hk _ (PlLe.refl _) hr, h1, fun b eb => by cases eb; simp [hS], Nat.zero_le _⟩) (fun _ _ _ e => by cases e) (fun e => by cases e)
  exact ⟨_, a, b, c, by simp only [Rd]; exact ⟨_, upd_same _ _ _, Nat.le_refl _, rfl, fun _ => rfl⟩⟩
def makeSliceR (i : Nat) (ty : Ty) (ety : Ty) (l c : D) (H : Nat → Option LObj) (U : Nat → Bool) : Res :=
  match l, c with
  | .int _ n, .int _ m => newR i (n = m ∧ 0 ≤ n ∧ n < 1099511627776 ∧ ty.kind = .slice ∧ ety.bytes ≤ 128) (.vec i n.toNat) (.vec ty.elem ety.zero.length (List.replicate n.toNat (ety.zero.map leafV)) 0) H U
  | _, _ => .bad
theorem madeCells_list (z : Array Value) (n : Nat) : (madeCells z (n * z.size)).toList = (List.replicate n z.toList).flatten := by
  induction n with
  | zero => simp [madeCells]
  | succ n ih =>
    rw [List.replicate_succ', List.flatten_append, ← ih]
    unfold madeCells
    rw [Nat.add_mul, Nat.one_mul]
    apply List.ext_getElem?
    intro j
    simp only [Array.toList_map, Array.toList_range, List.getElem?_map, List.getElem?_append, List.length_map, List.length_range, List.flatten_cons, List.flatten_nil, List.append_nil]
    by_cases h : j < n * z.size
    · rw [if_pos h, List.getElem?_range (by omega), List.getElem?_range h]
    · rw [if_neg h]
      by_cases h2 : j < n * z.size + z.size
      · rw [List.getElem?_range h2]
        have hz : 0 < z.size := by omega
        have hm : j % z.size = j - n * z.size := by
          have hc : z.size * n = n * z.size := Nat.mul_comm _ _
          have : j = (j - n * z.size) + z.size * n := by omega
          have h3 : j % z.size = ((j - n * z.size) + z.size * n) % z.size := by rw [← this]
          rw [h3, Nat.add_mul_mod_self_left]
          exact Nat.mod_eq_of_lt (by omega)
        have hlt : j - n * z.size < z.size := by omega
        simp [hm, hlt]
      · rw [List.getElem?_eq_none (by simp; omega), List.getElem?_eq_none (by simp; omega)]
        rfl
theorem good_makeSlice (hh : Heap B S p H U w) (hf : TyFact P t ty) {ety : Ty} (hfe : TyFact P ty.elem ety) (i : Nat) {l c : D} {vl vc : Value} (hl : Rd S w l p vl) (hc : Rd S w c p vc) :
    Good P B S p w (Instr.makeSlice t vl vc) (makeSliceR i ty ety l c H U) := by
  unfold makeSliceR
  split
  · rename_i k1 n k2 m
    refine ⟨trivial, fun hU => ?_⟩
    obtain ⟨hU, rfl, h0, hb, hk, hby⟩ := hU
    simp only [Rd] at hl hc
    subst hl hc
    obtain ⟨hs, _⟩ := hf.slice hk
    obtain ⟨⟨ie, z, hie, hz, hsz, hbt, hzc, _⟩, h1, _⟩ := hfe
    have hbn : (ie.bytes : Int) * n ≤ 128 * n := Int.mul_le_mul_of_nonneg_right (by omega) h0
    have hrun := run_make (P := P) w t ty.elem ie z hs hie hz k1 k2 n n h0 (Int.le_refl _) (by omega) (by omega)
    have hcs : madeCells z.cells (n.toNat * ie.size) = (List.replicate n.toNat ety.zero).flatten.toArray := by
      have := madeCells_list z.cells n.toNat
      rw [hzc] at this
      rw [← this, hsz, ← hzc]
      simp
    rw [hcs] at hrun
    have hflat : (List.replicate n.toNat (ety.zero.map leafV)).flatten = (List.replicate n.toNat ety.zero).flatten.map leafV := by
      rw [List.map_flatten, List.map_replicate]
    obtain ⟨p', a1, a2, a3, a4⟩ := new_vec hh hU (e := ty.elem) (sz := ety.zero.length) (n := n.toNat) (rows := List.replicate n.toNat (ety.zero.map leafV)) (xs := (List.replicate n.toNat ety.zero).flatten) (by simp) (by omega)
      (fun r hr => by rw [List.eq_of_mem_replicate hr]; simp) (by rw [hflat]; exact rdL_map (rd_leaf S w noPl) _)
      (fun v hv => by obtain ⟨l, hl, hv⟩ := List.mem_flatten.1 hv; rw [List.eq_of_mem_replicate hl] at hv; exact h1 v hv)
    exact ⟨_, _, S, p', hrun, a4, a1, a2, a3⟩
  · trivial
def fillD (flds : List (Nat × Nat × Bool)) : List (Nat × D) → List D → List D
  | [], cs => cs
  | (i, d) :: r, cs => fillD flds r (setAt cs (flds.getD i (0, 0, false)).1 (cellsOf d))
def fillC (flds : List (Nat × Nat × Bool)) (n : Nat) : List (Nat × D) → Prop
  | [] => True
  | (i, d) :: r => (i < flds.length ∧ okc d = true ∧ (cellsOf d).length = (flds.getD i (0, 0, false)).2.1 ∧ (flds.getD i (0, 0, false)).1 + (flds.getD i (0, 0, false)).2.1 ≤ n) ∧ fillC flds n r
def evp (T : Nat → D) : List (Nat × Operand) → List (Nat × D)
  | [] => []
  | (i, x) :: r => (i, ev T x) :: evp T r
theorem fold_set (l : List Value) : ∀ (off k : Nat) (cells : Array Value), off + k + l.length ≤ cells.size →
    ((l.zipIdx k).foldl (fun cs (x : Value × Nat) => cs.setIfInBounds (off + x.2) x.1) cells).toList = setAt cells.toList (off + k) l := by
  induction l with
  | nil => intro off k cells _; simp [setAt]
  | cons v l ih =>
    intro off k cells h
    simp only [List.length_cons] at h
    rw [List.zipIdx_cons, List.foldl_cons, show k + 1 = k + 1 from rfl, ih off (k + 1) _ (by simp; omega)]
    apply List.ext_getElem?
    intro j
    rw [setAt_get (by simp; omega), setAt_get (by simp; omega)]
    simp only [Array.toList_setIfInBounds, List.getElem?_set, List.length_cons]
    by_cases h1 : off + (k + 1) ≤ j ∧ j < off + (k + 1) + l.length
    · rw [if_pos h1, if_pos (by omega), show j - (off + k) = (j - (off + (k + 1))) + 1 from by omega, List.getElem?_cons_succ]
    · rw [if_neg h1]
      by_cases h2 : off + k = j
      · subst h2
        have : off + k < cells.size := by omega
        simp [this]
      · rw [if_neg h2, if_neg (by omega)]
theorem run_fill (flds : List (Nat × Nat × Bool)) (place : Nat → Option (Nat × Nat)) (hp : ∀ i, i < flds.length → place i = some ((flds.getD i (0, 0, false)).1, (flds.getD i (0, 0, false)).2.1)) : ∀ (ps : List (Nat × D)) (vs : List (Nat × Value)) (cs : List D) (us : List Value),
    ps.length = vs.length → (∀ (j : Nat) (q : Nat × D) (u : Nat × Value), ps[j]? = some q → vs[j]? = some u → q.1 = u.1 ∧ Rd S w q.2 p u.2) → RdL S w cs p us → (∀ u ∈ us, u.oneCell' = true) → fillC flds us.length ps →
    ∃ rs : List Value, Instr.fill place us.toArray vs = some rs.toArray ∧ RdL S w (fillD flds ps cs) p rs ∧ (∀ u ∈ rs, u.oneCell' = true) ∧ rs.length = us.length
  | [], [], cs, us, _, _, hr, h1, _ => ⟨us, rfl, hr, h1, rfl⟩
  | (i, d) :: ps, (j, v) :: vs, cs, us, hlen, hpv, hr, h1, hc => by
    obtain ⟨hij, hd⟩ := hpv 0 _ _ rfl rfl
    simp only at hij hd
    subst hij
    obtain ⟨⟨hi, hok, hl, hle⟩, hc⟩ := hc
    obtain ⟨hcd, hcd1⟩ := rd_cells hd hok
    have hlv := rdL_len hcd
    have hpi : place i = some ((flds.getD i (0, 0, false)).1, (flds.getD i (0, 0, false)).2.1) := hp i hi
    have hfd : fillD flds ((i, d) :: ps) cs = fillD flds ps (setAt cs (flds.getD i (0, 0, false)).1 (cellsOf d)) := rfl
    rw [hfd]
    generalize flds.getD i (0, 0, false) = fl at *
    have hf := fold_set v.cells.toList fl.1 0 us.toArray (by simp at hlv ⊢; omega)
    simp only [Nat.add_zero] at hf
    have hs : v.cells.size = fl.2.1 := by simpa [hl] using hlv
    have harr : (v.cells.zipIdx.foldl (fun cs (x : Value × Nat) => cs.setIfInBounds (fl.1 + x.2) x.1) us.toArray) = (setAt us fl.1 v.cells.toList).toArray := by
      apply Array.toList_inj.1
      rw [← Array.foldl_toList, Array.toList_zipIdx, hf]
    have hsl : (setAt us fl.1 v.cells.toList).length = us.length := setAt_len (by simp [hs]; omega)
    obtain ⟨rs, e1, e2, e3, e4⟩ := run_fill flds place hp ps vs _ (setAt us fl.1 v.cells.toList) (by simpa using hlen) (fun k q u hq hu => hpv (k + 1) q u (by simpa using hq) (by simpa using hu))
      (rdL_setAt hr hcd _) (fun u hu => by rcases setAt_mem hu with h | h; exact h1 u h; exact hcd1 u h) (by rw [hsl]; exact hc)
    refine ⟨rs, ?_, e2, e3, by rw [e4, hsl]⟩
    have hn : ¬ us.length < fl.1 + v.cells.size := by rw [hs]; omega
    simp only [Instr.fill, hpi]
    rw [if_neg (by simp [hs]; omega)]
    have : (fun (cs : Array Value) (x : Value × Nat) => cs.setIfInBounds (fl.1 + x.2) x.1) = (fun cs x => match x with | (c, j) => cs.setIfInBounds (fl.1 + j) c) := rfl
    rw [← this, harr, e1]
def buildR (ty : Ty) (ps : List (Nat × D)) (H : Nat → Option LObj) (U : Nat → Bool) : Res :=
  match ty.kind with
  | .struct => .ok True (fillC ty.flds ty.zero.length ps) (.agg (fillD ty.flds ps (ty.zero.map leafV))) H U
  | .array => .ok True (fillC ((List.range ty.key).map fun i => (i * ty.esz, ty.esz, ty.eagg)) ty.zero.length ps) (.agg (fillD ((List.range ty.key).map fun i => (i * ty.esz, ty.esz, ty.eagg)) ps (ty.zero.map leafV))) H U
  | _ => .bad
theorem run_mapM {α β : Type} (f : α → Sem β) (g : α → β) : ∀ l : List α, (∀ x ∈ l, ∀ w, (f x).run P w = .ok (g x) w) → ∀ w, (l.mapM f).run P w = .ok (l.map g) w
  | [], _, w => by simp
  | a :: l, h, w => by
    rw [List.mapM_cons]
    simp [h a (by simp), run_mapM f g l (fun x hx => h x (by simp [hx]))]
theorem rd_evp {T : Nat → D} {a : Act} (h : ∀ t, Rd S w (T t) p (a.tmps.getD t undef)) : ∀ (ps : List (Nat × Operand)), (evp T ps).length = ps.length ∧
    ∀ (j : Nat) (q : Nat × D) (u : Nat × Value), (evp T ps)[j]? = some q → (ps.map fun x => (x.1, a.eval x.2))[j]? = some u → q.1 = u.1 ∧ Rd S w q.2 p u.2
  | [] => ⟨rfl, by simp [evp]⟩
  | (i, x) :: ps => by
    obtain ⟨h1, h2⟩ := rd_evp h ps
    refine ⟨by simp [evp, h1], fun j q u hq hu => ?_⟩
    cases j with
    | zero => simp [evp] at hq hu; subst hq hu; exact ⟨rfl, rd_ev h x⟩
    | succ j => exact h2 j q u (by simpa [evp] using hq) (by simpa using hu)
theorem good_build (hh : Heap B S p H U w) (hf : TyFact P t ty) {ps : List (Nat × D)} {vs : List (Nat × Value)} (hl : ps.length = vs.length)
    (hpv : ∀ (j : Nat) (q : Nat × D) (u : Nat × Value), ps[j]? = some q → vs[j]? = some u → q.1 = u.1 ∧ Rd S w q.2 p u.2) : Good P B S p w (Instr.build t vs.toArray) (buildR ty ps H U) := by
  unfold buildR
  obtain ⟨z, hz, hzc, _⟩ := hf.zeroV w
  have hzr : RdL S w (ty.zero.map leafV) p z.cells.toList := by rw [hzc]; exact rdL_map (rd_leaf S w p) _
  have hz1 : ∀ u ∈ z.cells.toList, u.oneCell' = true := by rw [hzc]; exact hf.one
  have hzl : z.cells.toList.length = ty.zero.length := by rw [hzc]
  split
  · rename_i hk
    refine ⟨trivial, fun hc => ?_⟩
    obtain ⟨fs, hu, hfl, hsn, _⟩ := hf.struct hk
    have hm := run_mapM (P := P) (fun f : Field => (do pure (f.offset, ← sizeOf f.type) : Sem (Nat × Nat))) (fun f => (f.offset, P.cellsOf f.type)) fs.toList (fun f hf' w => by simp [run_sizeOf_seen (hsn f hf')]) w
    obtain ⟨rs, e1, e2, e3, _⟩ := run_fill ty.flds (fun i => ((fs.toList.map (fun f => (f.offset, P.cellsOf f.type))).toArray)[i]?) (fun i hi => by
      rw [← hfl] at hi ⊢
      have hi' : i < fs.size := by simpa using hi
      simp [hi']) ps vs _ z.cells.toList hl hpv hzr hz1 (by rw [hzl]; exact hc)
    refine RunOk.same hh (v := .agg rs.toArray) ?_ (by simp only [Rd]; exact ⟨rs, rfl, e2, e3⟩)
    have e1' : Instr.fill (fun i => (fs.map (fun f => (f.offset, P.cellsOf f.type)))[i]?) z.cells vs = some rs.toArray := by
      rw [← e1]; simp
    unfold Instr.build
    simp only [Sem.run_bind, hz, Result.andThen_ok, run_und hu, Array.mapM_eq_mapM_toList, Sem.run_map, hm]
    have e1'' : Instr.fill (fun x => Option.map (fun f => (f.offset, P.cellsOf f.type)) fs[x]?) z.cells vs = some rs.toArray := by simpa using e1'
    simp [e1'']
  · rename_i hk
    refine ⟨trivial, fun hc => ?_⟩
    obtain ⟨hu, hes, _, hsn⟩ := hf.array hk
    obtain ⟨rs, e1, e2, e3, _⟩ := run_fill ((List.range ty.key).map fun i => (i * ty.esz, ty.esz, ty.eagg)) (fun i => some (i * ty.esz, ty.esz)) (fun i hi => by
      have hi' : i < ty.key := by simpa using hi
      simp [hi']) ps vs _ z.cells.toList hl hpv hzr hz1 (by rw [hzl]; exact hc)
    refine RunOk.same hh (v := .agg rs.toArray) ?_ (by simp only [Rd]; exact ⟨rs, rfl, e2, e3⟩)
    have e1' : Instr.fill (fun i => some (i * P.cellsOf ty.elem, P.cellsOf ty.elem)) z.cells vs = some rs.toArray := by
      rw [← hes, ← e1]
    unfold Instr.build
    simp [hz, run_und hu, run_sizeOf_seen hsn, e1']
  · trivial
def rowsC (sz : Nat) : Nat → List (Nat × D) → Prop
  | _, [] => True
  | k, (i, d) :: r => (i = k ∧ okc d = true ∧ (cellsOf d).length = sz) ∧ rowsC sz (k + 1) r
def rowsD : List (Nat × D) → List (List D)
  | [] => []
  | (_, d) :: r => cellsOf d :: rowsD r
def buildSliceR (i : Nat) (ty : Ty) (n : Nat) (ps : List (Nat × D)) (H : Nat → Option LObj) (U : Nat → Bool) : Res :=
  newR i (ty.kind = .slice ∧ n = ps.length ∧ n * ty.esz ≤ 16777216 ∧ n < 140737488355328 ∧ rowsC ty.esz 0 ps) (.vec i n) (.vec ty.elem ty.esz (rowsD ps) 0) H U
theorem rowsD_len {sz : Nat} : ∀ {ps : List (Nat × D)} {k : Nat}, rowsC sz k ps → (rowsD ps).length = ps.length ∧ ∀ r ∈ rowsD ps, r.length = sz
  | [], _, _ => ⟨rfl, by simp [rowsD]⟩
  | (i, d) :: ps, k, ⟨⟨_, _, h⟩, h'⟩ => by
    obtain ⟨h1, h2⟩ := rowsD_len h'
    refine ⟨by simp [rowsD, h1], fun r hr => ?_⟩
    simp only [rowsD, List.mem_cons] at hr
    rcases hr with rfl | hr
    · exact h
    · exact h2 r hr
theorem run_rows {sz : Nat} : ∀ (ps : List (Nat × D)) (vs : List (Nat × Value)) (k : Nat) (pre us : List Value), ps.length = vs.length →
    (∀ (j : Nat) (q : Nat × D) (u : Nat × Value), ps[j]? = some q → vs[j]? = some u → q.1 = u.1 ∧ Rd S w q.2 p u.2) → rowsC sz k ps → pre.length = k * sz → us.length = ps.length * sz →
    ∃ rs : List Value, Instr.fill (fun i => some (i * sz, sz)) (pre ++ us).toArray vs = some (pre ++ rs).toArray ∧ RdL S w (rowsD ps).flatten p rs ∧ ∀ u ∈ rs, u.oneCell' = true
  | [], [], k, pre, us, _, _, _, _, hu => ⟨[], by
      have : us = [] := List.eq_nil_of_length_eq_zero (by simpa using hu)
      subst this; rfl, rfl, by simp⟩
  | (i, d) :: ps, (j, v) :: vs, k, pre, us, hlen, hpv, ⟨⟨hik, hok, hl⟩, hc⟩, hpre, hu => by
    obtain ⟨hij, hd⟩ := hpv 0 _ _ rfl rfl
    simp only at hij hd
    subst hij hik
    obtain ⟨hcd, hcd1⟩ := rd_cells hd hok
    have hlv := rdL_len hcd
    have hs : v.cells.size = sz := by simpa [hl] using hlv
    simp only [List.length_cons, Nat.add_mul, Nat.one_mul] at hu
    have hf := fold_set v.cells.toList (i * sz) 0 (pre ++ us).toArray (by simp [hs]; omega)
    simp only [Nat.add_zero] at hf
    have hset : setAt (pre ++ us) (i * sz) v.cells.toList = (pre ++ v.cells.toList) ++ us.drop sz := by
      unfold setAt
      rw [List.take_left' hpre]
      simp only [Array.length_toList, hs, List.append_assoc]
      rw [List.drop_append, List.drop_of_length_le (by omega), hpre]
      simp
    have harr : (v.cells.zipIdx.foldl (fun cs (x : Value × Nat) => cs.setIfInBounds (i * sz + x.2) x.1) (pre ++ us).toArray) = ((pre ++ v.cells.toList) ++ us.drop sz).toArray := by
      apply Array.toList_inj.1
      rw [← Array.foldl_toList, Array.toList_zipIdx, hf, ← hset]
    obtain ⟨rs, e1, e2, e3⟩ := run_rows ps vs (i + 1) (pre ++ v.cells.toList) (us.drop sz) (by simpa using hlen) (fun k q u hq hu => hpv (k + 1) q u (by simpa using hq) (by simpa using hu)) hc
      (by simp [hs, hpre, Nat.add_mul]) (by rw [List.length_drop]; omega)
    refine ⟨v.cells.toList ++ rs, ?_, ?_, ?_⟩
    · simp only [Instr.fill]
      rw [if_neg (by simp [hs]; omega)]
      have : (fun (cs : Array Value) (x : Value × Nat) => cs.setIfInBounds (i * sz + x.2) x.1) = (fun cs x => match x with | (c, j) => cs.setIfInBounds (i * sz + j) c) := rfl
      rw [← this, harr, e1]; simp
    · simp only [rowsD, List.flatten_cons]; exact rdL_append hcd e2
    · intro u hu
      rcases List.mem_append.1 hu with h | h
      · exact hcd1 u h
      · exact e3 u h
theorem good_buildSlice (hh : Heap B S p H U w) (hf : TyFact P t ty) {ety : Ty} (hfe : TyFact P ty.elem ety) (i n : Nat) {ps : List (Nat × D)} {vs : List (Nat × Value)} (hl : ps.length = vs.length)
    (hpv : ∀ (j : Nat) (q : Nat × D) (u : Nat × Value), ps[j]? = some q → vs[j]? = some u → q.1 = u.1 ∧ Rd S w q.2 noPl u.2) : Good P B S p w (Instr.buildSlice t n vs.toArray) (buildSliceR i ty n ps H U) := by
  refine ⟨trivial, fun hU => ?_⟩
  obtain ⟨hU, hk, hn, hb, hb2, hc⟩ := hU
  obtain ⟨hs, hes, _, hsn⟩ := hf.slice hk
  obtain ⟨z, hz, hzc, _⟩ := hfe.zeroV w
  obtain ⟨h1, h2⟩ := rowsD_len hc
  obtain ⟨rs, e1, e2, e3⟩ := run_rows (S := S) (w := w) (p := noPl) ps vs 0 [] ((Array.range (n * ty.esz)).map fun i => ((if n * ty.esz = 0 then #[] else z.cells) : Array Value)[i % ((if n * ty.esz = 0 then #[] else z.cells) : Array Value).size]!).toList hl hpv hc (by simp) (by simp [hn])
  obtain ⟨p', a1, a2, a3, a4⟩ := new_vec hh hU (e := ty.elem) (sz := ty.esz) (n := n) (rows := rowsD ps) (xs := rs) (by rw [h1, hn]) hb2 h2 e2 e3
  refine ⟨_, _, S, p', ?_, a4, a1, a2, a3⟩
  simp only [List.nil_append, Array.toArray_toList] at e1
  unfold Instr.buildSlice
  have hb' : ¬ 16777216 < n * P.cellsOf ty.elem := by rw [← hes]; omega
  by_cases h0 : n * P.cellsOf ty.elem = 0
  · rw [hes] at e1
    simp only [h0, if_true] at e1
    simp [run_und hs, run_sizeOf_seen hsn, h0, newRow]
    simp at e1
    simp [e1]
  · rw [hes] at e1
    simp only [h0, if_false] at e1
    simp [run_und hs, run_sizeOf_seen hsn, hb', h0, hz, newRow]
    simp [e1]
end ops
end Go.Tn
