/- Symbolic data, and what the operations do to it. -/
import Derived.Test.YtlabdffgcciepaaGreatDoorTn0
set_option linter.unusedSimpArgs false
set_option linter.unusedVariables false
set_option linter.unusedSectionVars false
namespace Go.Tn
open Go.RowKit
inductive LObj where
  | blk (cs : List D) (fz : Bool)
  | vec (e sz : Nat) (rows : List (List D)) (fz : Nat)
  | mp (ks ds : List D) (fz : Bool)
  | yl (ys done : List (List D)) (st : Bool)
  | lrec
  | nv (e : Nat) (ms : List (Nat × Nat))
  | mv (ks : List D) (ms : List (Nat × Nat))
def nvD (ms : List (Nat × Nat)) : List D := ms.map fun q => .vec q.1 q.2
def bornOk (es : List MapEntry) (c : Nat) : Prop := (∀ (i : Nat) (e : MapEntry), es[i]? = some e → e.born = i) ∧ c = es.length
def upd {α : Type} (T : Nat → α) (i : Nat) (d : α) : Nat → α := fun j => if j = i then d else T j
theorem upd_same {α : Type} (T : Nat → α) (i : Nat) (d : α) : upd T i d i = d := by simp [upd]
theorem upd_ne {α : Type} (T : Nat → α) {i j : Nat} (d : α) (h : j ≠ i) : upd T i d j = T j := by simp [upd, h]
def putO (T : Nat → D) (dst : Option Nat) (d : D) : Nat → D :=
  match dst with | some i => upd T i d | none => T
structure SameOut (n0 : Nat) (mb : Nat → Bool) (w w' : World) : Prop where
  os : w'.os = w.os
  tape : w'.tape = w.tape
  output : w'.output = w.output
  size : w.heap.size ≤ w'.heap.size
  block : ∀ b, b < n0 → mb b = false → w'.heap[b]? = w.heap[b]?
structure Base where
  n0 : Nat
  mb : Nat → Bool
  w0 : World
  S0 : Ex
  it : Bool
  l : Nat
  lr : Loop
  ys : List (List D)
  J : List (List D) → Bool → (Nat → Prop) → Ex → World → Prop
  Jok : ∀ d st E S S' w w', J d st E S w → Keep S S' w w' → w'.os = w.os ∧ w'.tape = w.tape ∧ w'.output = w.output → w.heap.size ≤ w'.heap.size →
    (∀ b, 0 < S' b → b < w'.heap.size) → (∀ b, E b → w'.heap[b]? = w.heap[b]? ∧ S' b = S b) → J d st E S' w'
  Kp : Ex → World → Prop
  Kpok : ∀ S S' w w', Kp S w → Keep S S' w w' → Kp S' w'
  L0 : List Nat
  q : Nat → G
  d0 : List Deferred
  nm : Bool
  Jp : List PanicEntry → Ex → World → Prop
def Base.own (B : Base) (b : Nat) : Prop := B.n0 ≤ b ∨ B.mb b = true
structure SameX (B : Base) (S S' : Ex) (w w' : World) : Prop where
  out : SameOut B.n0 B.mb w w'
  st : ∀ b, b < B.n0 → B.mb b = false → S' b = S b
theorem SameOut.refl (n0 : Nat) (mb : Nat → Bool) (w : World) : SameOut n0 mb w w := ⟨rfl, rfl, rfl, Nat.le_refl _, fun _ _ _ => rfl⟩
theorem SameOut.trans {n0 : Nat} {mb : Nat → Bool} {w w1 w2 : World} (h : SameOut n0 mb w w1) (k : SameOut n0 mb w1 w2) : SameOut n0 mb w w2 :=
  ⟨k.os.trans h.os, k.tape.trans h.tape, k.output.trans h.output, Nat.le_trans h.size k.size, fun b hb hm => (k.block b hb hm).trans (h.block b hb hm)⟩
theorem SameX.refl (B : Base) (S : Ex) (w : World) : SameX B S S w w := ⟨SameOut.refl _ _ _, fun _ _ _ => rfl⟩
theorem SameX.of_grown {B : Base} {S : Ex} {w w' : World} {row : Option Nat} (h : w.grownBy w' row) (hn : B.n0 ≤ w.heap.size) (hr : ∀ b, row = some b → B.own b) : SameX B S S w w' :=
  ⟨⟨h.os, h.tape, h.output, h.size, fun b hb hm => h.block b (Nat.lt_of_lt_of_le hb hn) (fun e => by
    rcases hr b e.symm with h | h
    · omega
    · rw [h] at hm; cases hm)⟩, fun _ _ _ => rfl⟩
theorem SameX.of_below {B : Base} {S S' : Ex} {w w' : World} (h : Below w.heap.size w w') (hn : B.n0 ≤ w.heap.size) (hs : ∀ b, b < w.heap.size → S' b = S b) : SameX B S S' w w' :=
  ⟨⟨h.os, h.tape, h.output, h.size, fun b hb _ => h.block b (by omega)⟩, fun b hb _ => hs b (by omega)⟩
def ObjRel (B : Base) (S : Ex) (p : Pl) (w : World) (g : G) : LObj → Prop
  | .blk cs fz => ∃ (vs : List Value) (ty : TypeId), w.heap[g.ptr]? = some (.cells vs.toArray ty (0, 0)) ∧ g.own = some g.ptr ∧ B.own g.ptr ∧
      RdL S w cs (if fz then noPl else p) vs ∧ S g.ptr = (if fz then vs.length else 0) ∧ (∀ v ∈ vs, v.oneCell' = true)
  | .vec e sz rows fz => ∃ xs : List Value, (w.ownsRow 0 e sz g.hdr rows.length xs ∧ ∀ b, g.own = some b → B.own b) ∧ g.own = g.hdr.ownBlock ∧ g.len = rows.length ∧
      rows.length < 140737488355328 ∧ (∀ r ∈ rows, r.length = sz) ∧ RdL S w rows.flatten noPl xs ∧ (∀ v ∈ xs, v.oneCell' = true) ∧
      (∀ b, g.own = some b → S b ≤ fz * sz) ∧ fz ≤ rows.length
  | .mp ks ds fz => ∃ (es : List MapEntry) (c : Nat), w.heap[g.ptr]? = some (.map es.toArray c) ∧ g.own = some g.ptr ∧ B.own g.ptr ∧
      RdL S w ks noPl (es.map (·.key)) ∧ RdL S w ds noPl (es.map (·.val)) ∧ S g.ptr = (if fz then 1 else 0) ∧ bornOk es c
  | .yl ys d st => B.J d st g.env S w ∧ g.own = none ∧ g.ptr = B.l ∧ ys = B.ys ∧ B.it = true
  | .lrec => w.heap[g.ptr]? = some (.loop B.lr) ∧ g.own = some g.ptr ∧ B.own g.ptr ∧ S g.ptr = 0
  | .nv e ms => ∃ xs : List Value, (w.ownsRow 0 e 1 g.hdr ms.length xs ∧ ∀ b, g.own = some b → B.own b) ∧ g.own = g.hdr.ownBlock ∧ g.len = ms.length ∧
      ms.length < 140737488355328 ∧ RdL S w (nvD ms) p xs ∧ (∀ v ∈ xs, v.oneCell' = true) ∧ ∀ b, g.own = some b → S b = 0
  | .mv ks ms => ∃ (es : List MapEntry) (c : Nat), w.heap[g.ptr]? = some (.map es.toArray c) ∧ g.own = some g.ptr ∧ B.own g.ptr ∧
      RdL S w ks noPl (es.map (·.key)) ∧ RdL S w (nvD ms) p ((es.map (·.val)).take ms.length) ∧ S g.ptr = 0 ∧ bornOk es c
theorem ObjRel.lt {B : Base} {S : Ex} {p : Pl} {w : World} {g : G} {o : LObj} (h : ObjRel B S p w g o) {b : Nat} (hb : g.own = some b) : B.own b ∧ b < w.heap.size := by
  cases o with
  | blk cs fz =>
    obtain ⟨_, _, h, ho, hn, _⟩ := h
    rw [ho] at hb; cases hb
    exact ⟨hn, (Array.getElem?_eq_some_iff.1 h).1⟩
  | vec e sz rows fz =>
    obtain ⟨_, h, ho, _⟩ := h
    exact ⟨h.2 b hb, (h.1.lt b (ho ▸ hb)).2⟩
  | mp ks ds fz =>
    obtain ⟨_, _, h, ho, hn, _⟩ := h
    rw [ho] at hb; cases hb
    exact ⟨hn, (Array.getElem?_eq_some_iff.1 h).1⟩
  | yl ys d st => rw [h.2.1] at hb; cases hb
  | lrec =>
    obtain ⟨h, ho, hn, _⟩ := h
    rw [ho] at hb; cases hb
    exact ⟨hn, (Array.getElem?_eq_some_iff.1 h).1⟩
  | nv e ms =>
    obtain ⟨_, h, ho, _⟩ := h
    exact ⟨h.2 b hb, (h.1.lt b (ho ▸ hb)).2⟩
  | mv ks ms =>
    obtain ⟨_, _, h, ho, hn, _⟩ := h
    rw [ho] at hb; cases hb
    exact ⟨hn, (Array.getElem?_eq_some_iff.1 h).1⟩
theorem ownsRow_same {w w' : World} {n0 e sz : Nat} {v : Value} {n : Nat} {xs : List Value} (h : w.ownsRow n0 e sz v n xs) (hb : ∀ b, v.ownBlock = some b → w'.heap[b]? = w.heap[b]?) : w'.ownsRow n0 e sz v n xs := by
  obtain ⟨h1, h2⟩ := h
  refine ⟨h1, ?_⟩
  rcases h2 with h2 | ⟨g, cap, cur, hv, hg, hh, r⟩
  · exact .inl h2
  · exact .inr ⟨g, cap, cur, hv, hg, by rw [hb g (by rw [hv]; rfl)]; exact hh, r⟩
theorem ObjRel.mono {B : Base} {S S' : Ex} {p p' : Pl} {w w' : World} {g : G} {o : LObj} (h : ObjRel B S p w g o) (hk : Keep S S' w w') (hp : PlLe p p')
    (hb : ∀ b, g.own = some b → w'.heap[b]? = w.heap[b]?) (hs : ∀ b, g.own = some b → S' b = S b)
    (hx : ∀ ys d st, o = .yl ys d st → (w'.os = w.os ∧ w'.tape = w.tape ∧ w'.output = w.output) ∧ w.heap.size ≤ w'.heap.size ∧ (∀ b, 0 < S' b → b < w'.heap.size) ∧ ∀ b, g.env b → w'.heap[b]? = w.heap[b]? ∧ S' b = S b) : ObjRel B S' p' w' g o := by
  cases o with
  | blk cs fz =>
    obtain ⟨vs, ty, h1, h2, h3, h4, h5, h6⟩ := h
    refine ⟨vs, ty, (hb _ h2).trans h1, h2, h3, RdL.mono hk cs ?_ h4, (hs _ h2).trans h5, h6⟩
    cases fz
    · exact hp
    · exact PlLe.refl _
  | vec e sz rows fz =>
    obtain ⟨xs, h1, h2, h3, h4, h5, h6, h7, h8, h9⟩ := h
    exact ⟨xs, ⟨ownsRow_same h1.1 (fun b e => hb b (h2.trans e)), h1.2⟩, h2, h3, h4, h5, RdL.mono hk _ (PlLe.refl _) h6, h7, fun b e => by rw [hs b e]; exact h8 b e, h9⟩
  | mp ks ds fz =>
    obtain ⟨es, c, h1, h2, h3, h4, h5, h6, h7⟩ := h
    exact ⟨es, c, (hb _ h2).trans h1, h2, h3, RdL.mono hk ks (PlLe.refl _) h4, RdL.mono hk ds (PlLe.refl _) h5, (hs _ h2).trans h6, h7⟩
  | yl ys d st =>
    obtain ⟨h1, h2, h3, h4⟩ := hx ys d st rfl
    exact ⟨B.Jok d st g.env S S' w w' h.1 hk h1 h2 h3 h4, h.2⟩
  | lrec =>
    obtain ⟨h1, h2, h3, h4⟩ := h
    exact ⟨(hb _ h2).trans h1, h2, h3, (hs _ h2).trans h4⟩
  | nv e ms =>
    obtain ⟨xs, h1, h2, h3, h4, h5, h6, h7⟩ := h
    exact ⟨xs, ⟨ownsRow_same h1.1 (fun b e => hb b (h2.trans e)), h1.2⟩, h2, h3, h4, RdL.mono hk _ hp h5, h6, fun b e => by rw [hs b e]; exact h7 b e⟩
  | mv ks ms =>
    obtain ⟨es, c, h1, h2, h3, h4, h5, h6, h7⟩ := h
    exact ⟨es, c, (hb _ h2).trans h1, h2, h3, RdL.mono hk ks (PlLe.refl _) h4, RdL.mono hk _ hp h5, (hs _ h2).trans h6, h7⟩
structure Heap (B : Base) (S : Ex) (p : Pl) (H : Nat → Option LObj) (U : Nat → Bool) (w : World) : Prop where
  obj : ∀ i o, H i = some o → ∃ g, p i = some g ∧ ObjRel B S p w g o
  inj : ∀ i j o o' g g' b, H i = some o → H j = some o' → p i = some g → p j = some g' → g.own = some b → g'.own = some b → i = j
  use : ∀ i g, p i = some g → U i = true
  ext : ∀ b, 0 < S b → b < w.heap.size
  old : B.it = false → ∀ b, b < B.n0 → B.mb b = false → S b = B.S0 b
  size : B.n0 ≤ w.heap.size
  bel : B.it = false → SameOut B.n0 B.mb B.w0 w
  yid : ∀ i ys d st, H i = some (.yl ys d st) → i = 999
  lid : ∀ i, H i = some .lrec → i = 998
  env : ∀ i ys d st g b, H i = some (.yl ys d st) → p i = some g → g.env b → b < w.heap.size ∧ ∀ j o g', H j = some o → p j = some g' → g'.own ≠ some b
structure Mks (n0 : Nat) (ds : List Deferred) (w : World) : Prop where
  is : ∀ d ∈ ds, ∃ r, d = { target := .collected r, args := #[] } ∧ n0 ≤ r ∧ w.heap[r]? = some (.deferred (some []))
  nd : ds.Pairwise (· ≠ ·)
def Marks (n0 : Nat) (it : Bool) (d0 ds : List Deferred) (w : World) : Prop := (∃ ms, ds = ms ++ d0 ∧ Mks n0 ms w) ∧ (it = true → ds = [])
theorem Mks.mono {n0 : Nat} {ds : List Deferred} {w w' : World} {S S' : Ex} (h : Mks n0 ds w) (hk : Keep S S' w w') : Mks n0 ds w' :=
  ⟨fun d hd => let ⟨r, e, h1, h2⟩ := h.is d hd; ⟨r, e, h1, hk.dfr r _ h2⟩, h.nd⟩
theorem Marks.mono {n0 : Nat} {it : Bool} {d0 ds : List Deferred} {w w' : World} {S S' : Ex} (h : Marks n0 it d0 ds w) (hk : Keep S S' w w') : Marks n0 it d0 ds w' :=
  ⟨let ⟨ms, e, h1⟩ := h.1; ⟨ms, e, h1.mono hk⟩, h.2⟩
theorem Marks.nil {n0 : Nat} {it : Bool} {w : World} : Marks n0 it [] [] w := ⟨⟨[], rfl, fun d hd => (by cases hd), List.Pairwise.nil⟩, fun _ => rfl⟩
structure R (B : Base) (N : Nat) (S : Ex) (p : Pl) (T : Nat → D) (H : Nat → Option LObj) (U : Nat → Bool) (a : Act) (w : World) : Prop where
  tmp : ∀ t, Rd S w (T t) p (a.tmps.getD t undef)
  size : N ≤ a.tmps.size
  hp : Heap B S p H U w
  dfs : Marks B.n0 B.nm B.d0 a.defers w
  kp : B.Kp S w
  lk : ∀ i ∈ B.L0, ∃ g, p i = some g ∧ GLe (B.q i) g
theorem getD_put {a : Act} {dst : Nat} {v : Value} (h : dst < a.tmps.size) (t : Nat) : (a.put (some dst) v).tmps.getD t undef = if t = dst then v else a.tmps.getD t undef := by
  simp only [Act.put, Array.getD_eq_getD_getElem?]
  by_cases e : t = dst
  · subst e; simp [h]
  · rw [Array.getElem?_setIfInBounds_ne (Ne.symm e)]; simp [e]
theorem R.put {B : Base} {N : Nat} {S : Ex} {p : Pl} {T : Nat → D} {H : Nat → Option LObj} {U : Nat → Bool} {a : Act} {w : World} (h : R B N S p T H U a w)
    {S' : Ex} {p' : Pl} {H' : Nat → Option LObj} {U' : Nat → Bool} {w' : World} (hk : Keep S S' w w') (hp : PlLe p p') (hh : Heap B S' p' H' U' w')
    {dst : Option Nat} {d : D} {v : Value} (hd : Rd S' w' d p' v) (hN : ∀ i, dst = some i → i < N) : R B N S' p' (putO T dst d) H' U' (a.put dst v) w' := by
  have hdf : Marks B.n0 B.nm B.d0 (a.put dst v).defers w' := by cases dst <;> exact h.dfs.mono hk
  have hlk : ∀ i ∈ B.L0, ∃ g, p' i = some g ∧ GLe (B.q i) g := fun i hi => by
    obtain ⟨g, hg, e⟩ := h.lk i hi
    obtain ⟨g', hg', e'⟩ := hp i g hg
    exact ⟨g', hg', GLe.trans e e'⟩
  cases dst with
  | none => exact ⟨fun t => Rd.mono hk _ hp (h.tmp t), h.size, hh, hdf, B.Kpok _ _ _ _ h.kp hk, hlk⟩
  | some i =>
    have hi : i < a.tmps.size := Nat.lt_of_lt_of_le (hN i rfl) h.size
    refine ⟨fun t => ?_, by simpa [Act.put] using h.size, hh, hdf, B.Kpok _ _ _ _ h.kp hk, hlk⟩
    rw [getD_put hi]
    simp only [putO, upd]
    by_cases e : t = i
    · simp only [e, if_true]; exact hd
    · simp only [e, if_false]; exact Rd.mono hk _ hp (h.tmp t)
theorem cell_of_block {w w' : World} {b off : Nat} (h : w'.heap[b]? = w.heap[b]?) : w'.cell? ⟨b, off, none⟩ = w.cell? ⟨b, off, none⟩ := by
  simp only [World.cell?, h]
theorem upd_some {α : Type} {f : Nat → Option α} {i j : Nat} {x y : α} (h : upd f i (some x) j = some y) : (j = i ∧ y = x) ∨ (j ≠ i ∧ f j = some y) := by
  by_cases e : j = i
  · subst e; rw [upd_same] at h; cases h; exact .inl ⟨rfl, rfl⟩
  · rw [upd_ne _ _ e] at h; exact .inr ⟨e, h⟩
theorem Keep.of_grown {S : Ex} {w w' : World} {row : Option Nat} (h : w.grownBy w' row) (he : ∀ b, 0 < S b → b < w.heap.size)
    (hc : ∀ b off v, row = some b → off < S b → w.cell? ⟨b, off, none⟩ = some v → w'.cell? ⟨b, off, none⟩ = some v)
    (hm : ∀ b es c, row = some b → 0 < S b → w.heap[b]? = some (.map es c) → w'.heap[b]? = some (.map es c))
    (hd : ∀ (b : Nat) (x : Option (List Deferred)), row = some b → w.heap[b]? ≠ some (.deferred x))
    (hw : ∀ (b : Nat) (cs : Array Value) (t : TypeId) (z : Nat × Nat), row = some b → w.heap[b]? = some (.cells cs t z) → S b ≤ cs.size) : Keep S S w w' := by
  refine ⟨fun _ => Nat.le_refl _, fun k off v hk hv => ?_, fun k es c hk hv => ?_, fun k x hv => ?_, fun k cs t z hv hs => ?_⟩
  · by_cases e : some k = row
    · exact hc k off v e.symm hk hv
    · rw [cell_of_block (h.block k (he k (by omega)) e)]; exact hv
  · by_cases e : some k = row
    · exact hm k es c e.symm hk hv
    · rw [h.block k (he k hk) e]; exact hv
  · by_cases e : some k = row
    · exact absurd hv (hd k x e.symm)
    · rw [h.block k (Array.getElem?_eq_some_iff.1 hv).1 e]; exact hv
  · by_cases e : some k = row
    · exact absurd hs (Nat.not_lt.2 (hw k cs t z e.symm hv))
    · exact h.block k (Array.getElem?_eq_some_iff.1 hv).1 e
theorem Keep.of_zero {S : Ex} {w w' : World} {row : Option Nat} (h : w.grownBy w' row) (he : ∀ b, 0 < S b → b < w.heap.size) (hs : ∀ b, row = some b → S b = 0) (hd : ∀ (b : Nat) (x : Option (List Deferred)), row = some b → w.heap[b]? ≠ some (.deferred x)) : Keep S S w w' :=
  Keep.of_grown h he (fun b _ _ e hk => by have := hs b e; omega) (fun b _ _ e hk => by have := hs b e; omega) hd (fun b _ _ _ e _ => by have := hs b e; omega)
theorem Heap.step {B : Base} {S : Ex} {p : Pl} {H : Nat → Option LObj} {U : Nat → Bool} {w w' : World} (h : Heap B S p H U w) {i : Nat} {o o' : LObj} {g g' : G}
    (hi : H i = some o) (hg : p i = some g) (hw : w.grownBy w' g.own) (hk : Keep S S w w') (hptr : g'.ptr = g.ptr) (hlen : g.len ≤ g'.len)
    (hhdr : g.len = g'.len → g'.hdr = g.hdr ∧ g'.own = g.own) (hown : ∀ b, g'.own = some b → g.own = some b ∨ w.heap.size ≤ b)
    (hr : ∀ p', PlLe p p' → ObjRel B S p' w' g' o') (hy : ∀ ys d st, o' ≠ .yl ys d st) (hz : o' ≠ .lrec) : Heap B S (upd p i (some g')) (upd H i (some o')) U w' ∧ PlLe p (upd p i (some g')) := by
  obtain ⟨g0, hg0, hr0⟩ := h.obj i o hi
  rw [hg] at hg0; cases hg0
  have hpl : PlLe p (upd p i (some g')) := fun j gj hj => by
    by_cases e : j = i
    · subst e; rw [hg] at hj; cases hj; exact ⟨g', upd_same _ _ _, hptr, hlen, hhdr⟩
    · exact ⟨gj, by rw [upd_ne _ _ e]; exact hj, rfl, Nat.le_refl _, fun _ => ⟨rfl, rfl⟩⟩
  have low : ∀ {x : Nat} {ox : LObj} {gx : G} {b : Nat}, H x = some ox → p x = some gx → gx.own = some b → b < w.heap.size := fun {x ox gx b} hx hg' hb => by
    obtain ⟨g2, hg2, hr2⟩ := h.obj x ox hx
    rw [hg'] at hg2; cases hg2; exact (hr2.lt hb).2
  have hx : SameX B S S w w' := SameX.of_grown hw h.size (fun b e => (hr0.lt e).1)
  refine ⟨⟨fun j oj hj => ?_, fun j k oj ok gj gk b hj hk' hpj hpk ej ek => ?_, fun j gj hj => ?_, fun b hb => ?_, h.old, Nat.le_trans h.size hw.size, fun hi => (h.bel hi).trans hx.out, fun j ys d st hj => ?_, fun j hj => ?_, fun j ys d st gj b hj hpj hb => ?_⟩, hpl⟩
  · rcases upd_some hj with ⟨rfl, rfl⟩ | ⟨e, hj'⟩
    · exact ⟨g', upd_same _ _ _, hr _ hpl⟩
    · obtain ⟨gj, hgj, hrj⟩ := h.obj j oj hj'
      refine ⟨gj, by rw [upd_ne _ _ e]; exact hgj, hrj.mono hk hpl (fun b eb => hw.block b (hrj.lt eb).2 (fun e' => ?_)) (fun _ _ => rfl) (fun ys d st ey => ⟨⟨hw.os, hw.tape, hw.output⟩, hw.size, fun b hb => Nat.lt_of_lt_of_le (h.ext b hb) hw.size, fun b eb => by
        subst ey
        obtain ⟨e1, e2⟩ := h.env j ys d st gj b hj' hgj eb
        exact ⟨hw.block b e1 (fun e' => e2 i o g hi hg e'.symm), rfl⟩⟩)⟩
      exact e (h.inj j i _ _ _ _ b hj' hi hgj hg eb e'.symm)
  · rcases upd_some hj with ⟨rfl, rfl⟩ | ⟨e1, hj'⟩ <;> rcases upd_some hk' with ⟨rfl, rfl⟩ | ⟨e2, hk''⟩
    · rfl
    · rw [upd_same] at hpj; cases hpj
      rw [upd_ne _ _ e2] at hpk
      rcases hown b ej with e' | e'
      · exact h.inj j k _ _ _ _ b hi hk'' hg hpk e' ek
      · have := low hk'' hpk ek; omega
    · rw [upd_same] at hpk; cases hpk
      rw [upd_ne _ _ e1] at hpj
      rcases hown b ek with e' | e'
      · exact h.inj j k _ _ _ _ b hj' hi hpj hg ej e'
      · have := low hj' hpj ej; omega
    · rw [upd_ne _ _ e1] at hpj
      rw [upd_ne _ _ e2] at hpk
      exact h.inj j k oj ok gj gk b hj' hk'' hpj hpk ej ek
  · rcases upd_some hj with ⟨rfl, rfl⟩ | ⟨e, hj'⟩
    · exact h.use j g hg
    · exact h.use j gj hj'
  · exact Nat.lt_of_lt_of_le (h.ext b hb) hw.size
  · rcases upd_some hj with ⟨rfl, e⟩ | ⟨e, hj'⟩
    · exact absurd e.symm (hy ys d st)
    · exact h.yid j ys d st hj'
  · rcases upd_some hj with ⟨rfl, e⟩ | ⟨e, hj'⟩
    · exact absurd e.symm hz
    · exact h.lid j hj'
  · rcases upd_some hj with ⟨rfl, e⟩ | ⟨e, hj'⟩
    · exact absurd e.symm (hy ys d st)
    · rw [upd_ne _ _ e] at hpj
      obtain ⟨e1, e2⟩ := h.env j ys d st gj b hj' hpj hb
      refine ⟨Nat.lt_of_lt_of_le e1 hw.size, fun k ok gk hk' hpk ek => ?_⟩
      rcases upd_some hk' with ⟨rfl, rfl⟩ | ⟨e3, hk''⟩
      · rw [upd_same] at hpk; cases hpk
        rcases hown b ek with e' | e'
        · exact e2 k o g hi hg e'
        · omega
      · rw [upd_ne _ _ e3] at hpk
        exact e2 k ok gk hk'' hpk ek
theorem Heap.grow {B : Base} {S S' : Ex} {p : Pl} {H : Nat → Option LObj} {U : Nat → Bool} {w w' : World} (h : Heap B S p H U w) (hw : Below w.heap.size w w')
    (hs : ∀ b, b < w.heap.size → S' b = S b) (he : ∀ b, 0 < S' b → b < w'.heap.size) : Heap B S' p H U w' ∧ Keep S S' w w' := by
  have hk : Keep S S' w w' := by
    have h0 : Keep S S w w' := Keep.of_zero (row := none) ⟨hw.os, hw.tape, hw.output, hw.size, fun k hk _ => hw.block k hk⟩ h.ext (fun _ e => by cases e) (fun _ _ e => by cases e)
    refine ⟨fun b => ?_, h0.cell, h0.map, h0.dfr, h0.whole⟩
    by_cases hb : b < w.heap.size
    · rw [hs b hb]; exact Nat.le_refl _
    · have : ¬ 0 < S b := fun h' => hb (h.ext b h')
      omega
  have hx : SameX B S S' w w' := SameX.of_below hw h.size hs
  refine ⟨⟨fun j oj hj => ?_, h.inj, h.use, he, fun hi b hb hm => ?_, Nat.le_trans h.size hw.size, fun hi => (h.bel hi).trans hx.out, h.yid, h.lid, fun j ys d st gj b hj hpj hb => ?_⟩, hk⟩
  · obtain ⟨gj, hgj, hrj⟩ := h.obj j oj hj
    exact ⟨gj, hgj, hrj.mono hk (PlLe.refl _) (fun b eb => hw.block _ (hrj.lt eb).2) (fun b eb => hs _ (hrj.lt eb).2) (fun ys d st ey => ⟨⟨hw.os, hw.tape, hw.output⟩, hw.size, he, fun b eb => by
      subst ey
      have e1 := (h.env j ys d st gj b hj hgj eb).1
      exact ⟨hw.block b e1, hs b e1⟩⟩)⟩
  · rw [hs b (Nat.lt_of_lt_of_le hb h.size)]; exact h.old hi b hb hm
  · obtain ⟨e1, e2⟩ := h.env j ys d st gj b hj hpj hb
    exact ⟨Nat.lt_of_lt_of_le e1 hw.size, e2⟩
theorem Heap.new {B : Base} {S : Ex} {p : Pl} {H : Nat → Option LObj} {U : Nat → Bool} {w w' : World} (h : Heap B S p H U w) (hw : Below w.heap.size w w')
    {i : Nat} {g : G} {o : LObj} (hU : U i = false) (hg : ∀ b, g.own = some b → w.heap.size ≤ b) (hr : ∀ p', PlLe p p' → Keep S S w w' → ObjRel B S p' w' g o) (hy : ∀ ys d st, o ≠ .yl ys d st) (hz : o ≠ .lrec) :
    Heap B S (upd p i (some g)) (upd H i (some o)) (upd U i true) w' ∧ Keep S S w w' ∧ PlLe p (upd p i (some g)) := by
  obtain ⟨hh, hk⟩ := h.grow (S' := S) hw (fun _ _ => rfl) (fun b hb => Nat.lt_of_lt_of_le (h.ext b hb) hw.size)
  have hpi : p i = none := by
    cases hp : p i with
    | none => rfl
    | some g' => rw [h.use i g' hp] at hU; cases hU
  have hpl : PlLe p (upd p i (some g)) := fun j gj hj => ⟨gj, by rw [upd_ne _ _ (fun e => by rw [e, hpi] at hj; cases hj)]; exact hj, rfl, Nat.le_refl _, fun _ => ⟨rfl, rfl⟩⟩
  have low : ∀ {x : Nat} {ox : LObj} {gx : G} {b : Nat}, H x = some ox → p x = some gx → gx.own = some b → b < w.heap.size := fun {x ox gx b} hx hg' hb => by
    obtain ⟨g2, hg2, hr2⟩ := h.obj x ox hx
    rw [hg'] at hg2; cases hg2; exact (hr2.lt hb).2
  refine ⟨⟨fun j oj hj => ?_, fun j k oj ok gj gk b hj hk' hpj hpk ej ek => ?_, fun j gj hj => ?_, hh.ext, hh.old, hh.size, hh.bel, fun j ys d st hj => ?_, fun j hj => ?_, fun j ys d st gj b hj hpj hb => ?_⟩, hk, hpl⟩
  · rcases upd_some hj with ⟨rfl, rfl⟩ | ⟨e, hj'⟩
    · exact ⟨g, upd_same _ _ _, hr _ hpl hk⟩
    · obtain ⟨gj, hgj, hrj⟩ := h.obj j oj hj'
      exact ⟨gj, by rw [upd_ne _ _ e]; exact hgj, hrj.mono hk hpl (fun b eb => hw.block _ (hrj.lt eb).2) (fun _ _ => rfl) (fun ys d st ey => ⟨⟨hw.os, hw.tape, hw.output⟩, hw.size, fun b hb => Nat.lt_of_lt_of_le (h.ext b hb) hw.size, fun b eb => by
        subst ey
        exact ⟨hw.block b (h.env j ys d st gj b hj' hgj eb).1, rfl⟩⟩)⟩
  · rcases upd_some hj with ⟨rfl, rfl⟩ | ⟨e1, hj'⟩ <;> rcases upd_some hk' with ⟨rfl, rfl⟩ | ⟨e2, hk''⟩
    · rfl
    · rw [upd_same] at hpj; cases hpj
      rw [upd_ne _ _ e2] at hpk
      have := low hk'' hpk ek
      have := hg b ej
      omega
    · rw [upd_same] at hpk; cases hpk
      rw [upd_ne _ _ e1] at hpj
      have := low hj' hpj ej
      have := hg b ek
      omega
    · rw [upd_ne _ _ e1] at hpj
      rw [upd_ne _ _ e2] at hpk
      exact h.inj j k oj ok gj gk b hj' hk'' hpj hpk ej ek
  · by_cases e : j = i
    · subst e; exact upd_same _ _ _
    · rw [upd_ne _ _ e] at hj ⊢; exact h.use j gj hj
  · rcases upd_some hj with ⟨rfl, e⟩ | ⟨e, hj'⟩
    · exact absurd e.symm (hy ys d st)
    · exact h.yid j ys d st hj'
  · rcases upd_some hj with ⟨rfl, e⟩ | ⟨e, hj'⟩
    · exact absurd e.symm hz
    · exact h.lid j hj'
  · rcases upd_some hj with ⟨rfl, e⟩ | ⟨e, hj'⟩
    · exact absurd e.symm (hy ys d st)
    · rw [upd_ne _ _ e] at hpj
      obtain ⟨e1, e2⟩ := h.env j ys d st gj b hj' hpj hb
      refine ⟨Nat.lt_of_lt_of_le e1 hw.size, fun k ok gk hk' hpk ek => ?_⟩
      rcases upd_some hk' with ⟨rfl, rfl⟩ | ⟨e3, hk''⟩
      · rw [upd_same] at hpk; cases hpk
        have := hg b ek
        omega
      · rw [upd_ne _ _ e3] at hpk
        exact e2 k ok gk hk'' hpk ek
end Go.Tn
