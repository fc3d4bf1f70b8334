/- Symbolic data, and what the operations do to it. -/
import Derived.Test.YtlabdffgcciepaaGreatDoorTn8
import Derived.Lib.AppendZerosOnto
set_option linter.unusedSimpArgs false
set_option linter.unusedVariables false
set_option linter.unusedSectionVars false
namespace Go.Tn
open Go.RowKit
section ops
variable {P : Program} {B : Base} {S : Ex} {p : Pl} {w : World} {H : Nat → Option LObj} {U : Nat → Bool} {t : Nat} {ty : Ty}
theorem rdAt_append : ∀ {ds es : List D} {b off : Nat}, RdAt S w ds b off → RdAt S w es b (off + ds.length) → RdAt S w (ds ++ es) b off
  | [], es, b, off, _, h => by simpa using h
  | d :: ds, es, b, off, h, k => by
    simp only [RdAt] at h
    simp only [List.cons_append, RdAt]
    exact ⟨h.1, h.2.1, rdAt_append h.2.2 (by rw [show off + 1 + ds.length = off + (ds.length + 1) from by omega]; simpa using k)⟩
theorem rdRows_flat : ∀ {rows : List (List D)} {b off : Nat}, RdRows S w rows b off → RdAt S w rows.flatten b off
  | [], _, _, _ => by simp [RdAt]
  | r :: rs, b, off, h => by
    rw [List.flatten_cons]
    exact rdAt_append h.1 (rdRows_flat h.2)
def src (H : Nat → Option LObj) (y : D) : Option (Prop × Nat × List (List D)) :=
  match y with
  | .sl sz rows => some (True, sz, rows)
  | .vec j m => match H j with
    | some (.vec _ sz rows _) => some (rows.length = m, sz, rows)
    | _ => none
  | _ => none
theorem src_ok (hh : Heap B S p H U w) {y : D} {u : Value} (hy : Rd S w y p u) {c : Prop} {sz : Nat} {rows : List (List D)} (hs : src H y = some (c, sz, rows)) (hc : c) :
    ∃ a cap news, u = .slice a rows.length cap ∧ rows.length ≤ cap ∧ (rows.length = 0 ∨ ∃ ad, a = some ad ∧ ∀ j v, news[j]? = some v → w.cell? (ad.add j) = some v) ∧ RdL S w rows.flatten noPl news ∧ (∀ v ∈ news, v.oneCell' = true) ∧
      (∀ r ∈ rows, r.length = sz) ∧ rows.length < 140737488355328 := by
  unfold src at hs
  split at hs
  · cases hs
    simp only [Rd] at hy
    obtain ⟨a, cap, rfl, hcap, hl, hz, hr⟩ := hy
    rcases hr with rfl | ⟨b, off, rfl, hr⟩
    · exact ⟨a, cap, [], rfl, hcap, .inl rfl, rfl, by simp, hz, hl⟩
    · obtain ⟨vs, h1, h2, h3⟩ := rdAt_get (rdRows_flat hr)
      exact ⟨_, cap, vs, rfl, hcap, .inr ⟨_, rfl, fun j v hj => by rw [addr_add]; exact (h3 j v hj).1⟩, h1, h2, hz, hl⟩
  · rename_i j m
    split at hs
    · rename_i e sz' rows' fz ho
      cases hs
      subst hc
      simp only [Rd] at hy
      obtain ⟨g, hg, hle, _, hv⟩ := hy
      obtain ⟨g', hg', hr⟩ := hh.obj j _ ho
      rw [hg] at hg'; cases hg'
      obtain ⟨xs, ⟨hown, _⟩, hob, h3, h4, h5, h6, h7, _⟩ := hr
      obtain rfl := hv h3.symm
      rcases hown.2 with ⟨e1, e0⟩ | ⟨gb, cap, cu, e1, hgb, hhb, hnc, _⟩
      · refine ⟨none, 0, xs, by rw [e1, e0], by omega, .inl e0, h6, h7, h5, h4⟩
      · refine ⟨some ⟨gb, 0, none⟩, cap, xs, e1, hnc, .inr ⟨_, rfl, fun j v hj => ?_⟩, h6, h7, h5, h4⟩
        rw [addr_add, Nat.zero_add]
        exact owns_cell hown (by rw [e1]; rfl) j v hj
    · cases hs
  · cases hs
theorem run_append_zero {tt rt e n0 sz : Nat} {v : Value} {n : Nat} {xs : List Value} {a : Option Addr} {cap : Nat} (ht : P.underlying tt = some (.slice e)) (hs : tseen P e = true) (hown : w.ownsRow n0 e sz v n xs) :
    (Builtin.append_ #[tt, tt] rt #[v, .slice a 0 cap]).run P w = .ok v w := by
  have hsz := run_sizeOf_seen hs w
  rcases hown.2 with ⟨rfl, rfl⟩ | ⟨g, c, cur, rfl, _, _, hnc, _⟩
  · cases a <;> simp [Builtin.append_, run_und ht, hsz, Builtin.lenOf, Builtin.firstCells, loadCells, loadCellsFrom]
  · cases a <;> simp [Builtin.append_, run_und ht, hsz, Builtin.lenOf, Builtin.firstCells, hnc, storeCells, loadCells, loadCellsFrom]
theorem run_append_any {tt rt e n0 sz : Nat} {ety : Ty} (ht : P.underlying tt = some (.slice e)) (hs : tseen P e = true) (hfe : TyFact P e ety) (hsz : ety.zero.length = sz) (_hpos : 0 < sz) (hby : ety.bytes ≤ 128)
    {v : Value} {n : Nat} {xs : List Value} (hown : w.ownsRow n0 e sz v n xs) {a : Option Addr} {m cap : Nat} {news : List Value} (hl : news.length = m * sz)
    (hnews : m = 0 ∨ ∃ ad, a = some ad ∧ ∀ j v, news[j]? = some v → w.cell? (ad.add j) = some v) (h1 : ∀ v ∈ news, v.oneCell' = true) (hb : n + m < 1099511627776) (hn0 : n0 ≤ w.heap.size) :
    ∃ v' w', (Builtin.append_ #[tt, tt] rt #[v, .slice a m cap]).run P w = .ok v' w' ∧ w'.ownsRow n0 e sz v' (n + m) (xs ++ news) ∧ w.grownBy w' v.ownBlock ∧ (n + m = n → v' = v) ∧
      (∀ b, v'.ownBlock = some b → v.ownBlock = some b ∨ w.heap.size ≤ b) ∧ (∀ b off, v.ownBlock = some b → off < n * sz → ∀ u, w.cell? ⟨b, off, none⟩ = some u → w'.cell? ⟨b, off, none⟩ = some u) := by
  rcases hnews with rfl | ⟨ad, rfl, hnews⟩
  · have : news = [] := List.eq_nil_of_length_eq_zero (by simpa using hl)
    subst this
    exact ⟨v, w, run_append_zero ht hs hown, by simpa using hown, ⟨rfl, rfl, rfl, Nat.le_refl _, fun _ _ _ => rfl⟩, fun _ => rfl, fun _ h => .inl h, fun _ _ _ _ _ h => h⟩
  · by_cases hm : m = 0
    · subst hm
      have : news = [] := List.eq_nil_of_length_eq_zero (by simpa using hl)
      subst this
      exact ⟨v, w, run_append_zero ht hs hown, by simpa using hown, ⟨rfl, rfl, rfl, Nat.le_refl _, fun _ _ _ => rfl⟩, fun _ => rfl, fun _ h => .inl h, fun _ _ _ _ _ h => h⟩
    · obtain ⟨⟨ie, z, hie, hz, hsz', hbt, hzc, _⟩, _⟩ := hfe
      have hbb : (n + m) * ie.bytes ≤ 140737488355328 := by
        have : (n + m) * ie.bytes ≤ 1099511627776 * 128 := Nat.mul_le_mul (by omega) (by omega)
        omega
      have hzs : z.cells.size = sz := by rw [← hsz, ← hzc]; simp
      have hisz : ie.size = sz := by omega
      have fresh : ∀ (old : Nat), old < n + m → ∀ row, (w.drew.alloc (.cells (xs.toArray ++ news.toArray ++ Builtin.zeroCells z.cells (grownCap w (n + m) old e - (n + m))) e)).ownsRow n0 e sz
          (.slice (some ⟨w.heap.size, 0, none⟩) (n + m) (grownCap w (n + m) old e)) (n + m) (xs ++ news) ∧
          w.grownBy (w.drew.alloc (.cells (xs.toArray ++ news.toArray ++ Builtin.zeroCells z.cells (grownCap w (n + m) old e - (n + m))) e)) row := by
        intro old ho row
        have hge := grownCap_ge w (n + m) old e
        have hcm := grownCap_le_maxLen w (n + m) old e (by unfold maxLen; omega)
        have hlen : (xs ++ news).length = (n + m) * sz := by rw [List.length_append, hown.1, hl, Nat.add_mul]
        refine ⟨⟨hlen, .inr ⟨w.heap.size, _, _, rfl, hn0, heap_alloc_new w.drew _, hge, hcm, ?_, ?_⟩⟩, ⟨rfl, rfl, rfl, by simp, fun k hk _ => heap_alloc_old w.drew _ k hk⟩⟩
        · simp only [Array.size_append, List.size_toArray, size_zeroCells, hzs, hown.1, hl, ← Nat.add_mul]
          congr 1; omega
        · simp only [Array.toList_append, List.append_assoc]
          rw [← List.append_assoc, ← hlen]
          exact List.take_left
      rcases hown.2 with ⟨rfl, rfl⟩ | ⟨g, c, cur, rfl, hbg, hg, hnc, hcm, hcs, htake⟩
      · have hx : xs = [] := List.eq_nil_of_length_eq_zero (by simpa using hown.1)
        subst hx
        have hr := run_append_nil (P := P) w tt rt e ie z ht hie hz ad m cap news (by rw [hisz]; exact hl) hnews (by omega) (by omega) (by simp only [Nat.zero_add] at hbb; omega)
        have hgr := fresh 0 (by omega) none
        simp only [Nat.zero_add, List.nil_append, Array.empty_append] at hgr hbb ⊢
        exact ⟨_, _, hr, hgr.1, hgr.2, fun h => by omega, fun b e => by cases e; exact .inr (Nat.le_refl _), fun b off e => by cases e⟩
      · by_cases hroom : n + m ≤ c
        · have hfit : n * ie.size + news.length ≤ cur.size := by rw [hisz, hl, hcs, ← Nat.add_mul]; exact Nat.mul_le_mul_right _ hroom
          have hr := run_append_room (P := P) w tt rt e ie ht hie g n c cur hg ad m cap news (by rw [hisz]; exact hl) hnews h1 hroom hfit
          rw [hisz] at hr hfit
          have hlen : (xs ++ news).length = (n + m) * sz := by rw [List.length_append, hown.1, hl, Nat.add_mul]
          refine ⟨_, _, hr, ⟨hlen, .inr ⟨g, c, _, rfl, hbg, setRow_heap w g cur _ e _ hg, hroom, hcm, ?_, ?_⟩⟩, ⟨rfl, rfl, rfl, by simp, fun k _ hk => setRow_other w g k _ (fun e => hk (by simp [Value.ownBlock, e]))⟩, fun h => by omega, fun b e => .inl e, fun b off e ho u hu => ?_⟩
          · simp only [List.size_toArray, List.length_append, List.length_take, List.length_drop, Array.length_toList]
            omega
          · rw [htake, ← hlen]
            exact List.take_left
          · cases e
            rw [cell_setRow_same w g off cur _ e (0, 0) hg]
            have hcc : cur[off]? = some u := by simpa [World.cell?, hg] using hu
            have hxl := hown.1
            rw [htake]
            simp only [List.getElem?_toArray, List.append_assoc]
            rw [List.getElem?_append_left (by omega), ← htake, List.getElem?_take, if_pos ho]
            simpa using hcc
        · have holds : ∀ j u, xs[j]? = some u → w.cell? ((⟨g, 0, none⟩ : Addr).add j) = some u := fun j u hj => by
            rw [addr_add, Nat.zero_add]; exact owns_cell hown rfl j u hj
          have hr := run_append_grow (P := P) w tt rt e ie z ht hie hz ⟨g, 0, none⟩ n c xs (by rw [hisz]; exact hown.1) holds ad m cap news (by rw [hisz]; exact hl) hnews (by omega) (by omega) (growslice_fits (by omega) hbb)
          have hgr := fresh c (by omega) (some g)
          have hgr' := fresh c (by omega) none
          exact ⟨_, _, hr, hgr.1, hgr.2, fun h => by omega, fun b e => by cases e; exact .inr (Nat.le_refl _), fun b off e ho u hu => by
            cases e
            rw [cell_of_block (hgr'.2.block g (Array.getElem?_eq_some_iff.1 hg).1 (by simp))]; exact hu⟩
def appB (o : Option LObj) (j m : Nat) (ety : Ty) (ty : Ty) (s : Option (Prop × Nat × List (List D))) (H : Nat → Option LObj) (U : Nat → Bool) : Res :=
  match o, s with
  | some (.vec e sz rows fz), some (c, sz', new) => .ok True (c ∧ sz' = sz ∧ e = ty.elem ∧ ty.kind = .slice ∧ ety.zero.length = sz ∧ 0 < sz ∧ ety.bytes ≤ 128 ∧ rows.length = m ∧ m + new.length < 1099511627776)
      (.vec j (m + new.length)) (upd H j (some (.vec e sz (rows ++ new) fz))) U
  | _, _ => .bad
def appendR (i : Nat) (ty ety : Ty) (x y : D) (H : Nat → Option LObj) (U : Nat → Bool) : Res :=
  match x, y with
  | .vec j m, .nil => .ok True (ty.kind = .slice ∧ cur (H j) m) (.vec j m) H U
  | .vec j m, .val (.slice _ 0 _) => .ok True (ty.kind = .slice ∧ cur (H j) m) (.vec j m) H U
  | .nil, .nil => .ok True (ty.kind = .slice) .nil H U
  | .vec j m, y => appB (H j) j m ety ty (src H y) H U
  | .nil, y => match src H y with
    | some (c, sz, new) => newR i (c ∧ ty.kind = .slice ∧ ety.zero.length = sz ∧ 0 < sz ∧ ety.bytes ≤ 128 ∧ new.length < 1099511627776) (.vec i new.length) (.vec ty.elem sz new 0) H U
    | none => .bad
  | _, _ => .bad
theorem good_append (hh : Heap B S p H U w) (hf : TyFact P t ty) {ety : Ty} (hfe : TyFact P ty.elem ety) (i : Nat) (rt : TypeId) {x y : D} {v u : Value} (hx : Rd S w x p v) (hy : Rd S w y p u) :
    Good P B S p w (Builtin.append_ #[t, t] rt #[v, u]) (appendR i ty ety x y H U) := by
  unfold appendR
  split
  · rename_i j m
    simp only [Rd] at hx hy; subst hy
    obtain ⟨g, hg, hle, ho, hv⟩ := hx
    refine ⟨trivial, fun hc => ?_⟩
    obtain ⟨hk, hcu⟩ := hc
    have hn := cur_len hh hcu hg
    obtain rfl := hv hn
    cases hob : H j with
    | none => rw [hob] at hcu; exact hcu.elim
    | some o =>
      obtain ⟨g', hg', hr⟩ := hh.obj j o hob
      rw [hg] at hg'; cases hg'
      cases o with
      | blk _ _ => rw [hob] at hcu; exact hcu.elim
      | mp _ _ _ => rw [hob] at hcu; exact hcu.elim
      | yl _ _ => rw [hob] at hcu; exact hcu.elim
      | lrec => rw [hob] at hcu; exact hcu.elim
      | mv _ _ => rw [hob] at hcu; exact hcu.elim
      | nv e ms =>
        obtain ⟨xs, ⟨hown, _⟩, _⟩ := hr
        obtain ⟨hs, _, _, hsn⟩ := hf.slice hk
        have hz := run_sizeOf_seen hsn w
        refine RunOk.same hh (v := g.hdr) ?_ (by simp only [Rd]; exact ⟨g, hg, hle, ho, fun _ => rfl⟩)
        rcases hown.2 with ⟨e1, e0⟩ | ⟨gb, c, cu, e1, _, _, hnc, _⟩
        · rw [e1]; simp [Builtin.append_, run_und hs, hz, Builtin.lenOf, Builtin.firstCells]
        · rw [e1]; simp [Builtin.append_, run_und hs, hz, Builtin.lenOf, Builtin.firstCells, hnc, storeCells]
      | vec e sz rows fz =>
        obtain ⟨xs, ⟨hown, _⟩, _⟩ := hr
        obtain ⟨hs, _, _, hsn⟩ := hf.slice hk
        have hz := run_sizeOf_seen hsn w
        refine RunOk.same hh (v := g.hdr) ?_ (by simp only [Rd]; exact ⟨g, hg, hle, ho, fun _ => rfl⟩)
        rcases hown.2 with ⟨e1, e0⟩ | ⟨gb, c, cu, e1, _, _, hnc, _⟩
        · rw [e1]; simp [Builtin.append_, run_und hs, hz, Builtin.lenOf, Builtin.firstCells]
        · rw [e1]; simp [Builtin.append_, run_und hs, hz, Builtin.lenOf, Builtin.firstCells, hnc, storeCells]
  · rename_i j m a0 c0
    simp only [Rd] at hx hy; subst hy
    obtain ⟨g, hg, hle, ho, hv⟩ := hx
    refine ⟨trivial, fun hc => ?_⟩
    obtain ⟨hk, hcu⟩ := hc
    have hn := cur_len hh hcu hg
    obtain rfl := hv hn
    cases hob : H j with
    | none => rw [hob] at hcu; exact hcu.elim
    | some o =>
      obtain ⟨g', hg', hr⟩ := hh.obj j o hob
      rw [hg] at hg'; cases hg'
      cases o with
      | blk _ _ => rw [hob] at hcu; exact hcu.elim
      | mp _ _ _ => rw [hob] at hcu; exact hcu.elim
      | yl _ _ => rw [hob] at hcu; exact hcu.elim
      | lrec => rw [hob] at hcu; exact hcu.elim
      | mv _ _ => rw [hob] at hcu; exact hcu.elim
      | nv e ms =>
        obtain ⟨xs, ⟨hown, _⟩, _⟩ := hr
        obtain ⟨hs, _, _, hsn⟩ := hf.slice hk
        have hz := run_sizeOf_seen hsn w
        refine RunOk.same hh (v := g.hdr) ?_ (by simp only [Rd]; exact ⟨g, hg, hle, ho, fun _ => rfl⟩)
        rcases hown.2 with ⟨e1, e0⟩ | ⟨gb, c, cu, e1, _, _, hnc, _⟩
        · rw [e1]; cases a0 <;> simp [Builtin.append_, run_und hs, hz, Builtin.lenOf, Builtin.firstCells, loadCells, loadCellsFrom]
        · rw [e1]; cases a0 <;> simp [Builtin.append_, run_und hs, hz, Builtin.lenOf, Builtin.firstCells, hnc, storeCells, loadCells, loadCellsFrom]
      | vec e sz rows fz =>
        obtain ⟨xs, ⟨hown, _⟩, _⟩ := hr
        obtain ⟨hs, _, _, hsn⟩ := hf.slice hk
        have hz := run_sizeOf_seen hsn w
        refine RunOk.same hh (v := g.hdr) ?_ (by simp only [Rd]; exact ⟨g, hg, hle, ho, fun _ => rfl⟩)
        rcases hown.2 with ⟨e1, e0⟩ | ⟨gb, c, cu, e1, _, _, hnc, _⟩
        · rw [e1]; cases a0 <;> simp [Builtin.append_, run_und hs, hz, Builtin.lenOf, Builtin.firstCells, loadCells, loadCellsFrom]
        · rw [e1]; cases a0 <;> simp [Builtin.append_, run_und hs, hz, Builtin.lenOf, Builtin.firstCells, hnc, storeCells, loadCells, loadCellsFrom]
  · simp only [Rd] at hx hy; subst hx hy
    refine ⟨trivial, fun hc => ?_⟩
    obtain ⟨hs, _, _, hsn⟩ := hf.slice hc
    exact RunOk.same hh (v := .slice none 0 0) (by simp [Builtin.append_, run_und hs, run_sizeOf_seen hsn, Builtin.lenOf, Builtin.firstCells]) rfl
  · rename_i j m hne hne2
    unfold appB
    split
    · rename_i o e sz rows fz c sz' new hob hsrc
      refine ⟨trivial, fun hc => ?_⟩
      obtain ⟨hc, rfl, rfl, hk, hz, hpos, hby, hm, hb⟩ := hc
      simp only [Rd] at hx
      obtain ⟨g, hg, hle, ho, hv⟩ := hx
      obtain ⟨g', hg', hr⟩ := hh.obj j _ hob
      rw [hg] at hg'; cases hg'
      obtain ⟨xs, ⟨hown, howno⟩, h2, h3, h4, h5, h6, h7, h8, h9⟩ := hr
      obtain rfl := hv (by omega)
      obtain ⟨a, cap, news, rfl, hcap, hnews, hnr, hn1, hnl, hnb⟩ := src_ok hh hy hsrc hc
      obtain ⟨hs, _, _, hsn⟩ := hf.slice hk
      have hnl2 : news.length = new.length * sz' := by rw [rdL_len hnr, flatten_len hnl]
      obtain ⟨v', w', e1, e2, e3, e4, e5, e6⟩ := run_append_any (rt := rt) hs hsn hfe hz hpos hby hown hnl2 hnews hn1 (by omega) (Nat.zero_le _)
      rw [← h2] at e3 e5 e6
      have hkeep : Keep S S w w' := Keep.of_grown e3 hh.ext (fun b off u hb hS hu => by
          have h10 := h8 b hb
          have h11 : fz * sz' ≤ rows.length * sz' := Nat.mul_le_mul_right _ h9
          exact e6 b off hb (by omega) u hu) (fun b es cl hb hS hmm => by
          exfalso
          rcases hown.2 with ⟨e1, _⟩ | ⟨gb, c2, cu, e1, _, hhb, _⟩
          · rw [h2, e1] at hb; cases hb
          · rw [h2, e1] at hb; cases hb; rw [hhb] at hmm; cases hmm) (fun b x hb hmm => by
          rcases hown.2 with ⟨e1, _⟩ | ⟨gb, c2, cu, e1, _, hhb, _⟩
          · rw [h2, e1] at hb; cases hb
          · rw [h2, e1] at hb; cases hb; rw [hhb] at hmm; cases hmm) (fun b cs _ _ hb hmm => by
          have h10 := h8 b hb
          have h11 : fz * sz' ≤ rows.length * sz' := Nat.mul_le_mul_right _ h9
          rcases hown.2 with ⟨e1, _⟩ | ⟨gb, c2, cu, e1, _, hhb, hnc, _, hcs, _⟩
          · rw [h2, e1] at hb; cases hb
          · rw [h2, e1] at hb; cases hb; rw [hhb] at hmm; cases hmm
            have h12 : rows.length * sz' ≤ c2 * sz' := Nat.mul_le_mul_right _ hnc
            omega)
      have hlen : (rows ++ new).length = rows.length + new.length := by simp
      obtain ⟨hh', hpl⟩ := hh.step hob hg e3 hkeep (g' := ⟨g.ptr, v'.ownBlock, rows.length + new.length, v', fun _ => False⟩) (o' := .vec ty.elem sz' (rows ++ new) fz) rfl (by simp only; omega)
        (fun he => by simp only at he ⊢; have hv' := e4 (by omega); rw [hv', h2]; exact ⟨rfl, rfl⟩) e5
        (fun p' hp => ⟨xs ++ news, ⟨by simp only [hlen]; exact e2, fun b hb => by
            rcases e5 b hb with h | h
            · exact howno b h
            · exact .inl (Nat.le_trans hh.size h)⟩, rfl, by simp only [hlen], by omega, fun r hr => by
            rcases List.mem_append.1 hr with h | h
            · exact h5 r h
            · exact hnl r h, by
            rw [List.flatten_append]
            exact rdL_append (RdL.mono hkeep _ (PlLe.refl _) h6) (RdL.mono hkeep _ (PlLe.refl _) hnr), fun v hv => by
            rcases List.mem_append.1 hv with h | h
            · exact h7 v h
            · exact hn1 v h, fun b hb => by
            simp only at hb
            rcases e5 b hb with h | h
            · exact h8 b h
            · have : S b = 0 := by have := hh.ext b; omega
              omega, by omega⟩) (fun _ _ _ e => by cases e) (fun e => by cases e)
      refine ⟨v', w', S, _, e1, ?_, hh', hkeep, hpl⟩
      simp only [Rd]
      refine ⟨_, upd_same _ _ _, by simp only; omega, ?_, fun _ => rfl⟩
      rcases e2.2 with ⟨e, _⟩ | ⟨_, _, _, e, _⟩ <;> rw [e] <;> rfl
    · trivial
  · split
    · rename_i c sz new hsrc
      refine ⟨trivial, fun hc => ?_⟩
      obtain ⟨hU, hc, hk, hz, hpos, hby, hb⟩ := hc
      simp only [Rd] at hx; subst hx
      obtain ⟨a, cap, news, rfl, hcap, hnews, hnr, hn1, hnl, hnb⟩ := src_ok hh hy hsrc hc
      obtain ⟨hs, _, _, hsn⟩ := hf.slice hk
      have hnl2 : news.length = new.length * sz := by rw [rdL_len hnr, flatten_len hnl]
      have hown0 := World.ownsRow_nil w 0 ty.elem sz
      obtain ⟨v', w', e1, e2, e3, e4, e5, e6⟩ := run_append_any (rt := rt) hs hsn hfe hz hpos hby hown0 hnl2 hnews hn1 (by omega) (Nat.zero_le _)
      simp only [Nat.zero_add, List.nil_append] at e2
      have hbw : Below w.heap.size w w' := ⟨e3.os, e3.tape, e3.output, e3.size, fun k hk => e3.block k hk (by simp [Value.ownBlock])⟩
      obtain ⟨hh', hkeep, hpl⟩ := hh.new hbw (i := i) (g := ⟨0, v'.ownBlock, new.length, v', fun _ => False⟩) (o := .vec ty.elem sz new 0) hU (fun b hb => by
          rcases e5 b hb with h | h
          · cases h
          · exact h)
        (fun p' hp hk' => ⟨news, ⟨e2, fun b hb => by
            rcases e5 b hb with h | h
            · cases h
            · exact .inl (Nat.le_trans hh.size h)⟩, rfl, rfl, by omega, hnl, RdL.mono hk' _ (PlLe.refl _) hnr, hn1, fun b hb => by
            rcases e5 b hb with h | h
            · cases h
            · have := hh.ext b; omega, Nat.zero_le _⟩) (fun _ _ _ e => by cases e) (fun e => by cases e)
      refine ⟨v', w', S, _, e1, ?_, hh', hkeep, hpl⟩
      simp only [Rd]
      refine ⟨_, upd_same _ _ _, Nat.le_refl _, ?_, fun _ => rfl⟩
      rcases e2.2 with ⟨e, _⟩ | ⟨_, _, _, e, _⟩ <;> rw [e] <;> rfl
    · trivial
  · trivial
def capR (ty : Ty) (x : D) (H : Nat → Option LObj) (U : Nat → Bool) : Res := match x with | .nil => .ok True (ty.kind = .slice) (.int .i64 0) H U | _ => .bad
theorem good_cap (hh : Heap B S p H U w) (hf : TyFact P t ty) (rt : TypeId) {x : D} {v : Value} (hx : Rd S w x p v) : Good P B S p w (Builtin.cap_ #[t] rt #[v]) (capR ty x H U) := by
  unfold capR
  split
  · simp only [Rd] at hx; subst hx
    refine ⟨trivial, fun hc => ?_⟩
    obtain ⟨hs, _⟩ := hf.slice hc
    exact RunOk.same hh (v := .int .i64 0) (by simp [Builtin.cap_, run_und hs, goInt]) rfl
  · trivial
theorem rep_len {α : Type} (n : Nat) (l : List α) : (List.replicate n l).flatten.length = n * l.length := by simp
theorem zero_list (z : Array Value) (n : Nat) : (Builtin.zeroCells z n).toList = (List.replicate n z.toList).flatten := madeCells_list z n
theorem run_append_room_zeros {t tn ty e : TypeId} {i : TypeInfo} {z : Value} {kq kn : IntKind} (ht : P.underlying t = some (.slice e)) (htn : P.underlying tn = some (.int kn)) (hi : P.info? e = some i) (hz : i.zero = some z)
    {g sLen sCap : Nat} {cur : Array Value} (hg : w.heap[g]? = some (.cells cur e (0, 0))) {k : Nat} (h0 : 0 < k) (hs : 0 < i.size) (h63 : (k : Int) ≤ 9223372036854775807) (h48 : k * i.bytes ≤ 281474976710656)
    (hroom : sLen + k ≤ sCap) (hfit : sLen * i.size + (Builtin.zeroCells z.cells k).toList.length ≤ cur.size) (h1 : ∀ u ∈ (Builtin.zeroCells z.cells k).toList, u.oneCell' = true) :
    (Builtin.append_ #[t, tn] ty #[.slice (some ⟨g, 0, none⟩) sLen sCap, .int kq k]).run P w =
      .ok (.slice (some ⟨g, 0, none⟩) (sLen + k) sCap) (w.setRow g (cur.toList.take (sLen * i.size) ++ (Builtin.zeroCells z.cells k).toList ++ cur.toList.drop (sLen * i.size + (Builtin.zeroCells z.cells k).toList.length)).toArray) := by
  have hk : k ≠ 0 := by omega
  have hw : IntKind.i64.wrap (k : Int) = k := by rw [IntKind.wrap_i64]; omega
  have h48i : ¬ (281474976710656 < (k : Int) * (i.bytes : Int)) := by
    rw [← Int.natCast_mul]
    omega
  have hneg : ¬ ((k : Int) < 0) := by omega
  have hns : ¬ (k * i.size = 0) := Nat.mul_ne_zero hk (by omega)
  have hst := run_storeCells_at P g (sLen * i.size) e (Builtin.zeroCells z.cells k).toList 0 cur w hg (by simpa using hfit) h1
  simp only [Nat.add_zero] at hst
  simp [Builtin.append_, run_underlying ht, run_underlying htn, sizeOf, typeInfo, zeroValue, hi, hz, asInt, asIntOf, hw, hroom, hneg, hns, h48i, Addr.add_lit, hst]
theorem run_append_zeros_any {tt tn rt e n0 sz : Nat} {ety : Ty} {kq kn : IntKind} (ht : P.underlying tt = some (.slice e)) (htn : P.underlying tn = some (.int kn)) (hfe : TyFact P e ety) (hsz : ety.zero.length = sz) (hpos : 0 < sz) (hby : ety.bytes ≤ 128)
    {v : Value} {n : Nat} {xs : List Value} (hown : w.ownsRow n0 e sz v n xs) {k : Nat} (h0 : 0 < k) (hb : n + k < 1099511627776) (hn0 : n0 ≤ w.heap.size) :
    ∃ v' w', (Builtin.append_ #[tt, tn] rt #[v, .int kq k]).run P w = .ok v' w' ∧ w'.ownsRow n0 e sz v' (n + k) (xs ++ (List.replicate k ety.zero).flatten) ∧ w.grownBy w' v.ownBlock ∧
      (∀ b, v'.ownBlock = some b → v.ownBlock = some b ∨ w.heap.size ≤ b) ∧ (∀ b off, v.ownBlock = some b → off < n * sz → ∀ u, w.cell? ⟨b, off, none⟩ = some u → w'.cell? ⟨b, off, none⟩ = some u) := by
  obtain ⟨⟨ie, z, hie, hz, hsz', hbt, hzc, _⟩, hone, _⟩ := hfe
  have hbb : (n + k) * ie.bytes ≤ 140737488355328 := by
    have : (n + k) * ie.bytes ≤ 1099511627776 * 128 := Nat.mul_le_mul (by omega) (by omega)
    omega
  have hkb : k * ie.bytes ≤ 140737488355328 := Nat.le_trans (Nat.mul_le_mul_right _ (by omega)) hbb
  have hzs : z.cells.size = sz := by rw [← hsz, ← hzc]; simp
  have hisz : ie.size = sz := by omega
  have hzl : (Builtin.zeroCells z.cells k).toList = (List.replicate k ety.zero).flatten := by rw [zero_list, hzc]
  have hzn : (List.replicate k ety.zero).flatten.length = k * sz := by rw [rep_len, hsz]
  have h1 : ∀ u ∈ (List.replicate k ety.zero).flatten, u.oneCell' = true := fun u hu => by
    obtain ⟨l, hl, hu⟩ := List.mem_flatten.1 hu
    rw [List.eq_of_mem_replicate hl] at hu; exact hone u hu
  have fresh : ∀ (old : Nat), old < n + k → ∀ row, (w.drew.alloc (.cells (xs.toArray ++ Builtin.zeroCells z.cells k ++ Builtin.zeroCells z.cells (grownCap w (n + k) old e - (n + k))) e)).ownsRow n0 e sz
      (.slice (some ⟨w.heap.size, 0, none⟩) (n + k) (grownCap w (n + k) old e)) (n + k) (xs ++ (List.replicate k ety.zero).flatten) ∧
      w.grownBy (w.drew.alloc (.cells (xs.toArray ++ Builtin.zeroCells z.cells k ++ Builtin.zeroCells z.cells (grownCap w (n + k) old e - (n + k))) e)) row := by
    intro old ho row
    have hge := grownCap_ge w (n + k) old e
    have hcm := grownCap_le_maxLen w (n + k) old e (by unfold maxLen; omega)
    have hlen : (xs ++ (List.replicate k ety.zero).flatten).length = (n + k) * sz := by rw [List.length_append, hown.1, hzn, Nat.add_mul]
    refine ⟨⟨hlen, .inr ⟨w.heap.size, _, _, rfl, hn0, heap_alloc_new w.drew _, hge, hcm, ?_, ?_⟩⟩, ⟨rfl, rfl, rfl, by simp, fun k hk _ => heap_alloc_old w.drew _ k hk⟩⟩
    · simp only [Array.size_append, List.size_toArray, size_zeroCells, hzs, hown.1, ← Nat.add_mul]
      congr 1; omega
    · simp only [Array.toList_append, hzl]
      rw [← hlen]
      exact List.take_left
  rcases hown.2 with ⟨rfl, rfl⟩ | ⟨g, c, cur, rfl, hbg, hg, hnc, hcm, hcs, htake⟩
  · have hx : xs = [] := List.eq_nil_of_length_eq_zero (by simpa using hown.1)
    subst hx
    have hold : (Builtin.firstCells ie.size 0 (.slice none 0 0)).run P w.drew = .ok ([] : List Value).toArray w.drew := by
      simp [Builtin.firstCells]
    have hr := Lib.run_append_grow_zeros w tt tn rt e ie z kq kn ht htn hie hz none 0 0 [] hold k h0 (by omega) (by omega) (by omega) (by omega) (growslice_fits (by omega) hbb)
    have hgr := fresh 0 (by omega) none
    exact ⟨_, _, hr, hgr.1, hgr.2, fun b e => by cases e; exact .inr (Nat.le_refl _), fun b off e => by cases e⟩
  · by_cases hroom : n + k ≤ c
    · have hfit : n * ie.size + (Builtin.zeroCells z.cells k).toList.length ≤ cur.size := by rw [hisz, hzl, hzn, hcs, ← Nat.add_mul]; exact Nat.mul_le_mul_right _ hroom
      have hr := run_append_room_zeros (P := P) (w := w) (t := tt) (tn := tn) (ty := rt) (kq := kq) ht htn hie hz hg h0 (by omega) (by omega) (by omega) hroom hfit (by rw [hzl]; exact h1)
      rw [hisz, hzl] at hr hfit
      have hlen : (xs ++ (List.replicate k ety.zero).flatten).length = (n + k) * sz := by rw [List.length_append, hown.1, hzn, Nat.add_mul]
      refine ⟨_, _, hr, ⟨hlen, .inr ⟨g, c, _, rfl, hbg, setRow_heap w g cur _ e _ hg, hroom, hcm, ?_, ?_⟩⟩, ⟨rfl, rfl, rfl, by simp, fun k _ hk => setRow_other w g k _ (fun e => hk (by simp [Value.ownBlock, e]))⟩, fun b e => .inl e, fun b off e ho u hu => ?_⟩
      · simp only [List.size_toArray, List.length_append, List.length_take, List.length_drop, Array.length_toList]
        omega
      · rw [htake, ← hlen]
        exact List.take_left
      · cases e
        rw [cell_setRow_same w g off cur _ e (0, 0) hg]
        have hcc : cur[off]? = some u := by simpa [World.cell?, hg] using hu
        have hxl := hown.1
        rw [htake]
        simp only [List.getElem?_toArray, List.append_assoc]
        rw [List.getElem?_append_left (by omega), ← htake, List.getElem?_take, if_pos ho]
        simpa using hcc
    · have holds : ∀ j u, xs[j]? = some u → w.cell? ((⟨g, 0, none⟩ : Addr).add j) = some u := fun j u hj => by
        rw [addr_add, Nat.zero_add]; exact owns_cell hown rfl j u hj
      have hold : (Builtin.firstCells ie.size n (.slice (some ⟨g, 0, none⟩) n c)).run P w.drew = .ok xs.toArray w.drew := run_firstCells_some (P := P) w.drew ie.size n ⟨g, 0, none⟩ n c xs (by rw [hisz]; exact hown.1) holds
      have hr := Lib.run_append_grow_zeros w tt tn rt e ie z kq kn ht htn hie hz (some ⟨g, 0, none⟩) n c xs hold k h0 (by omega) (by omega) (by omega) (by omega) (growslice_fits (by omega) hbb)
      have hgr := fresh c (by omega) (some g)
      have hgr' := fresh c (by omega) none
      exact ⟨_, _, hr, hgr.1, hgr.2, fun b e => by cases e; exact .inr (Nat.le_refl _), fun b off e ho u hu => by
        cases e
        rw [cell_of_block (hgr'.2.block g (Array.getElem?_eq_some_iff.1 hg).1 (by simp))]; exact hu⟩
def appZV (o : Option LObj) (j m : Nat) (ety ty ity : Ty) (k : Int) (H : Nat → Option LObj) (U : Nat → Bool) : Res :=
  match o with
  | some (.vec e sz rows fz) => .ok True ((0 < k ∧ sz = ety.zero.length ∧ e = ty.elem) ∧ ty.kind = .slice ∧ ity.kind = .int .i64 ∧ 0 < sz ∧ ety.bytes ≤ 128 ∧ rows.length = m ∧ m + k.toNat < 1099511627776)
      (.vec j (m + k.toNat)) (upd H j (some (.vec e sz (rows ++ List.replicate k.toNat (ety.zero.map leafV)) fz))) U
  | _ => .bad
def appendZ (i : Nat) (ty ety ity : Ty) (x y : D) (H : Nat → Option LObj) (U : Nat → Bool) : Res :=
  match x, y with
  | .nil, .int .i64 m => newR i (0 < m ∧ m < 1099511627776 ∧ ty.kind = .slice ∧ 0 < ety.zero.length ∧ ety.bytes ≤ 128 ∧ ity.kind = .int .i64) (.vsub i m.toNat ety.zero.length 0 m.toNat) (.vec ty.elem ety.zero.length (List.replicate m.toNat (ety.zero.map leafV)) 0) H U
  | .vec j n, .int .i64 m => appZV (H j) j n ety ty ity m H U
  | _, _ => .bad
theorem good_appendZ (hh : Heap B S p H U w) (hf : TyFact P t ty) {ety ity : Ty} {t2 : Nat} (hfe : TyFact P ty.elem ety) (hfi : TyFact P t2 ity) (i : Nat) (rt : TypeId) {x y : D} {v u : Value} (hx : Rd S w x p v) (hy : Rd S w y p u) :
    Good P B S p w (Builtin.append_ #[t, t2] rt #[v, u]) (appendZ i ty ety ity x y H U) := by
  unfold appendZ
  split
  · rename_i m
    refine ⟨trivial, fun hc => ?_⟩
    obtain ⟨hU, h0, hb, hk, hz, hby, hik⟩ := hc
    simp only [Rd] at hx hy; subst hx hy
    obtain ⟨hs, _⟩ := hf.slice hk
    obtain ⟨d2, hd2, hu2⟩ := hfi.und
    rw [hik] at hu2
    simp only at hu2
    subst hu2
    obtain ⟨⟨ie, z, hie, hze, hsz, hbt, hzc, _⟩, h1, _⟩ := hfe
    have hold : (Builtin.firstCells ie.size 0 (.slice none 0 0)).run P w.drew = .ok ([] : List Value).toArray w.drew := by
      simp [Builtin.firstCells]
    have hnb : m.toNat * ie.bytes ≤ 140737488355328 := by
      have : m.toNat * ie.bytes ≤ 1099511627776 * 128 := Nat.mul_le_mul (by omega) (by omega)
      omega
    have hrun := Lib.run_append_grow_zeros w t t2 rt ty.elem ie z .i64 .i64 hs hd2 hie hze none 0 0 [] hold m.toNat (by omega) (by omega) (by omega) (by omega) (by omega) (growslice_fits (by omega) (by simpa using hnb))
    have hzs : z.cells.size = ety.zero.length := by rw [← hzc]; simp
    simp only [Nat.zero_add] at hrun
    rw [show ((m.toNat : Nat) : Int) = m from by omega] at hrun
    have hge := grownCap_ge w m.toNat 0 ty.elem
    have hcm := grownCap_le_maxLen w m.toNat 0 ty.elem (by unfold maxLen; omega)
    generalize hcap : grownCap w m.toNat 0 ty.elem = cap at hrun hge hcm
    generalize hcur : #[] ++ Builtin.zeroCells z.cells m.toNat ++ Builtin.zeroCells z.cells (cap - m.toNat) = cur at hrun
    have hcs : cur.size = cap * ety.zero.length := by
      rw [← hcur]
      simp only [Array.size_append, List.size_toArray, List.length_nil, size_zeroCells, hzs, Nat.zero_add, ← Nat.add_mul]
      congr 1
      omega
    have hct : cur.toList.take (m.toNat * ety.zero.length) = (List.replicate m.toNat ety.zero).flatten := by
      rw [← hcur]
      simp only [Array.toList_append, Array.toList_empty, List.nil_append, zero_list, hzc]
      rw [List.take_left']
      exact rep_len _ _
    have hflat : (List.replicate m.toNat (ety.zero.map leafV)).flatten = (List.replicate m.toNat ety.zero).flatten.map leafV := by
      rw [List.map_flatten, List.map_replicate]
    have hS : S w.heap.size = 0 := by have := hh.ext w.heap.size; omega
    have hown : (w.drew.alloc (.cells cur ty.elem)).ownsRow 0 ty.elem ety.zero.length (.slice (some ⟨w.heap.size, 0, none⟩) m.toNat cap) m.toNat (List.replicate m.toNat ety.zero).flatten := by
      refine ⟨?_, .inr ⟨w.heap.size, cap, cur, rfl, Nat.zero_le _, heap_alloc_new w.drew _, hge, hcm, hcs, hct⟩⟩
      exact rep_len _ _
    have hbw : Below w.heap.size w (w.drew.alloc (.cells cur ty.elem)) := ⟨rfl, rfl, rfl, by simp, fun k hk => heap_alloc_old w.drew _ k hk⟩
    obtain ⟨hh', hkeep, hpl⟩ := hh.new hbw (i := i) (g := ⟨0, some w.heap.size, m.toNat, .slice (some ⟨w.heap.size, 0, none⟩) m.toNat cap, fun _ => False⟩) (o := .vec ty.elem ety.zero.length (List.replicate m.toNat (ety.zero.map leafV)) 0) hU (fun b hb => by cases hb; exact Nat.le_refl _)
      (fun p' hp hk' => ⟨_, ⟨by simpa using hown, fun b hb => by cases hb; exact .inl hh.size⟩, rfl, by simp, by simp; omega, fun r hr => by rw [List.eq_of_mem_replicate hr]; simp, by rw [hflat]; exact rdL_map (rd_leaf S _ noPl) _,
        fun v hv => by obtain ⟨l, hl, hv⟩ := List.mem_flatten.1 hv; rw [List.eq_of_mem_replicate hl] at hv; exact h1 v hv, fun b hb => by cases hb; simp [hS], Nat.zero_le _⟩) (fun _ _ _ e => by cases e) (fun e => by cases e)
    refine ⟨_, _, S, _, hrun, ?_, hh', hkeep, hpl⟩
    simp only [Rd]
    exact ⟨_, upd_same _ _ _, Nat.le_refl _, rfl, fun _ => ⟨w.heap.size, cap, 0, rfl, rfl, by simp, fun _ => by simp⟩⟩
  · rename_i j m k
    unfold appZV
    split
    · rename_i e sz rows fz hob
      refine ⟨trivial, fun hc => ?_⟩
      obtain ⟨⟨h0, rfl, rfl⟩, hk, hik, hpos, hby, hm, hb⟩ := hc
      simp only [Rd] at hx hy; subst hy
      obtain ⟨g, hg, hle, ho, hv⟩ := hx
      obtain ⟨g', hg', hr⟩ := hh.obj j _ hob
      rw [hg] at hg'; cases hg'
      obtain ⟨xs, ⟨hown, howno⟩, h2, h3, h4, h5, h6, h7, h8, h9⟩ := hr
      obtain rfl := hv (by omega)
      obtain ⟨hs, _, _, hsn⟩ := hf.slice hk
      obtain ⟨d2, hd2, hu2⟩ := hfi.und
      rw [hik] at hu2
      simp only at hu2
      subst hu2
      have hone := hfe.one
      obtain ⟨v', w', e1, e2, e3, e5, e6⟩ := run_append_zeros_any (rt := rt) (kq := .i64) hs hd2 hfe rfl hpos hby hown (k := k.toNat) (by omega) (by omega) (Nat.zero_le _)
      rw [show ((k.toNat : Nat) : Int) = k from by omega] at e1
      rw [← h2] at e3 e5 e6
      have hkeep : Keep S S w w' := Keep.of_grown e3 hh.ext (fun b off u hb hS hu => by
          have h10 := h8 b hb
          have h11 : fz * ety.zero.length ≤ rows.length * ety.zero.length := Nat.mul_le_mul_right _ h9
          exact e6 b off hb (by omega) u hu) (fun b es cl hb hS hmm => by
          exfalso
          rcases hown.2 with ⟨e1, _⟩ | ⟨gb, c2, cu, e1, _, hhb, _⟩
          · rw [h2, e1] at hb; cases hb
          · rw [h2, e1] at hb; cases hb; rw [hhb] at hmm; cases hmm) (fun b x hb hmm => by
          rcases hown.2 with ⟨e1, _⟩ | ⟨gb, c2, cu, e1, _, hhb, _⟩
          · rw [h2, e1] at hb; cases hb
          · rw [h2, e1] at hb; cases hb; rw [hhb] at hmm; cases hmm) (fun b cs _ _ hb hmm => by
          have h10 := h8 b hb
          have h11 : fz * ety.zero.length ≤ rows.length * ety.zero.length := Nat.mul_le_mul_right _ h9
          rcases hown.2 with ⟨e1, _⟩ | ⟨gb, c2, cu, e1, _, hhb, hnc, _, hcs, _⟩
          · rw [h2, e1] at hb; cases hb
          · rw [h2, e1] at hb; cases hb; rw [hhb] at hmm; cases hmm
            have h12 : rows.length * ety.zero.length ≤ c2 * ety.zero.length := Nat.mul_le_mul_right _ hnc
            omega)
      have hflat : (List.replicate k.toNat (ety.zero.map leafV)).flatten = (List.replicate k.toNat ety.zero).flatten.map leafV := by
        rw [List.map_flatten, List.map_replicate]
      have hlen : (rows ++ List.replicate k.toNat (ety.zero.map leafV)).length = rows.length + k.toNat := by simp
      obtain ⟨hh', hpl⟩ := hh.step hob hg e3 hkeep (g' := ⟨g.ptr, v'.ownBlock, rows.length + k.toNat, v', fun _ => False⟩) (o' := .vec ty.elem ety.zero.length (rows ++ List.replicate k.toNat (ety.zero.map leafV)) fz) rfl (by simp only; omega)
        (fun he => by simp only at he; omega) e5
        (fun p' hp => ⟨xs ++ (List.replicate k.toNat ety.zero).flatten, ⟨by simp only [hlen]; exact e2, fun b hb => by
            rcases e5 b hb with h | h
            · exact howno b h
            · exact .inl (Nat.le_trans hh.size h)⟩, rfl, by simp only [hlen], by omega, fun r hr => by
            rcases List.mem_append.1 hr with h | h
            · exact h5 r h
            · rw [List.eq_of_mem_replicate h]; simp, by
            rw [List.flatten_append, hflat]
            exact rdL_append (RdL.mono hkeep _ (PlLe.refl _) h6) (rdL_map (rd_leaf S _ noPl) _), fun v hv => by
            rcases List.mem_append.1 hv with h | h
            · exact h7 v h
            · obtain ⟨l, hl, hv⟩ := List.mem_flatten.1 h
              rw [List.eq_of_mem_replicate hl] at hv; exact hone v hv, fun b hb => by
            simp only at hb
            rcases e5 b hb with h | h
            · exact h8 b h
            · have : S b = 0 := by have := hh.ext b; omega
              omega, by omega⟩) (fun _ _ _ e => by cases e) (fun e => by cases e)
      refine ⟨v', w', S, _, e1, ?_, hh', hkeep, hpl⟩
      simp only [Rd]
      refine ⟨_, upd_same _ _ _, by simp only; omega, ?_, fun _ => rfl⟩
      rcases e2.2 with ⟨e, _⟩ | ⟨_, _, _, e, _⟩ <;> rw [e] <;> rfl
    · trivial
  · trivial
end ops
end Go.Tn
