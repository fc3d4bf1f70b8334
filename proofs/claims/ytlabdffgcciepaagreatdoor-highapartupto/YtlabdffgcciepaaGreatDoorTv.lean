/- Symbolic data, and what the operations do to it. -/
import Derived.Test.YtlabdffgcciepaaGreatDoorTn11
set_option linter.unusedSimpArgs false
set_option linter.unusedVariables false
set_option linter.unusedSectionVars false
namespace Go.Tn
open Go.RowKit
section ops
variable {P : Program} {B : Base} {S : Ex} {p : Pl} {w : World} {H : Nat → Option LObj} {U : Nat → Bool} {t : Nat} {ty : Ty}
def lenVs (o : Option LObj) (n lo hi : Nat) (ty : Ty) (H : Nat → Option LObj) (U : Nat → Bool) : Res := match o with | some (.vec _ _ rows _) => .ok True (ty.kind = .slice ∧ rows.length = n ∧ hi < 140737488355328) (.int .i64 (hi - lo : Nat)) H U | _ => .bad
def sliceVs (o : Option LObj) (i n sz hi : Nat) (ty : Ty) (lo' hi' : Option D) (mx : Option D) (H : Nat → Option LObj) (U : Nat → Bool) : Res :=
  match o, mx with
  | some (.vec _ sz' rows _), none => match bnd lo' 0, bnd hi' hi with
    | some l, some h => .ok True (ty.kind = .slice ∧ ty.esz = sz ∧ sz' = sz ∧ rows.length = n ∧ 0 ≤ l ∧ l ≤ h ∧ h ≤ n) (.vsub i n sz l.toNat h.toNat) H U
    | _, _ => .bad
  | some (.vec _ sz' rows _), some (.int _ m) => match bnd lo' 0, hi' with
    | some l, some (.int _ h) => .ok True (ty.kind = .slice ∧ ty.esz = sz ∧ sz' = sz ∧ rows.length = n ∧ 0 ≤ l ∧ l ≤ h ∧ h ≤ m ∧ m ≤ n) .any H U
    | _, _ => .bad
  | _, _ => .bad
def ovr {α : Type} (rows new : List α) (k : Nat) : List α := rows.take k ++ (new ++ rows.drop (k + new.length))
def appVs (o : Option LObj) (i n sz k i' n' sz' lo hi : Nat) (ty : Ty) (H : Nat → Option LObj) (U : Nat → Bool) : Res :=
  match o with
  | some (.vec e sz'' rows fz) => .ok True ((i' = i ∧ n' = n ∧ sz' = sz ∧ sz'' = sz ∧ ty.kind = .slice ∧ ty.esz = sz) ∧ rows.length = n ∧ fz ≤ k ∧ lo ≤ hi ∧ hi ≤ n ∧ k + (hi - lo) ≤ n)
      (.vsub i n sz 0 (k + (hi - lo))) (upd H i (some (.vec e sz'' (ovr rows ((rows.drop lo).take (hi - lo)) k) fz))) U
  | _ => .bad
def clrVs (o : Option LObj) (i n sz lo hi : Nat) (ty ety : Ty) (H : Nat → Option LObj) (U : Nat → Bool) : Res :=
  match o with
  | some (.vec e sz' rows fz) => .ok True ((sz' = sz ∧ ty.kind = .slice ∧ ety.zero.length = sz) ∧ rows.length = n ∧ fz ≤ lo ∧ lo ≤ hi ∧ hi ≤ n)
      (.tup []) (upd H i (some (.vec e sz' (ovr rows (List.replicate (hi - lo) (ety.zero.map leafV)) lo) fz))) U
  | _ => .bad
theorem ovr_len {α : Type} {rows new : List α} {k : Nat} (h : k + new.length ≤ rows.length) : (ovr rows new k).length = rows.length := by unfold ovr; simp; omega
theorem ovr_flat {rows new : List (List D)} {sz k : Nat} (h : ∀ r ∈ rows, r.length = sz) (hn : ∀ r ∈ new, r.length = sz) (hk : k + new.length ≤ rows.length) : (ovr rows new k).flatten = setAt rows.flatten (k * sz) new.flatten := by
  unfold ovr setAt
  rw [List.flatten_append, List.flatten_append, flatten_len hn, List.append_assoc, ← Nat.add_mul]
  congr 1
  · have h1 : rows.flatten = (rows.take k).flatten ++ (rows.drop k).flatten := by rw [← List.flatten_append, List.take_append_drop]
    rw [h1, List.take_left']
    rw [flatten_len (fun r hr => h r (List.mem_of_mem_take hr))]; rw [List.length_take, Nat.min_eq_left (by omega)]
  · congr 1
    have h1 : rows.flatten = (rows.take (k + new.length)).flatten ++ (rows.drop (k + new.length)).flatten := by rw [← List.flatten_append, List.take_append_drop]
    rw [h1, List.drop_left']
    rw [flatten_len (fun r hr => h r (List.mem_of_mem_take hr))]; rw [List.length_take, Nat.min_eq_left (by omega)]
theorem vec_over (hh : Heap B S p H U w) {i e sz fz k : Nat} {rows new : List (List D)} {g : G} {b cap : Nat} (hi : H i = some (.vec e sz rows fz)) (hg : p i = some g) (hb : g.own = some b) (hd : g.hdr = .slice (some ⟨b, 0, none⟩) rows.length cap)
    {us : List Value} (hus : RdL S w new.flatten noPl us) (h1 : ∀ v ∈ us, v.oneCell' = true) (hn : ∀ r ∈ new, r.length = sz) (hk : k + new.length ≤ rows.length) (hfz : fz ≤ k) :
    ∃ cur, w.heap[b]? = some (.cells cur e (0, 0)) ∧ k * sz + us.length ≤ cur.size ∧ Keep S S w (w.setRow b (setAt cur.toList (k * sz) us).toArray) ∧
      Heap B S p (upd H i (some (.vec e sz (ovr rows new k) fz))) U (w.setRow b (setAt cur.toList (k * sz) us).toArray) := by
  obtain ⟨g', hg', ho⟩ := hh.obj i _ hi
  rw [hg] at hg'; cases hg'
  obtain ⟨xs, ⟨⟨hxl, hown⟩, h1o⟩, h2, h3, h4, h5, h6, h7, h8, h9⟩ := ho
  rcases hown with ⟨hn0, _⟩ | ⟨gb, cap', cur, hv, hgb, hhb, hnc, hcm, hcs, hct⟩
  · rw [hd] at hn0; cases hn0
  · obtain ⟨rfl, rfl⟩ : gb = b ∧ cap' = cap := by rw [hd] at hv; cases hv; exact ⟨rfl, rfl⟩
    have hul : us.length = new.length * sz := by rw [rdL_len hus, flatten_len hn]
    have hkl : k * sz + us.length ≤ rows.length * sz := by rw [hul, ← Nat.add_mul]; exact Nat.mul_le_mul_right _ hk
    have hcl : rows.length * sz ≤ cap' * sz := Nat.mul_le_mul_right _ hnc
    have hfk : fz * sz ≤ k * sz := Nat.mul_le_mul_right _ hfz
    have hfl := flatten_len h5
    have hlx := rdL_len h6
    have hkeep : Keep S S w (w.setRow gb (setAt cur.toList (k * sz) us).toArray) := by
      refine Keep.of_grown (grown_setRow _ _ _) hh.ext (fun b' o' v' e' ho' hv' => ?_) (fun b' es c e' _ hm => ?_) (fun b x e h => by cases e; rw [hhb] at h; cases h) (fun b _ _ _ e h => by cases e; rw [hhb] at h; cases h; have := h8 _ hb; omega)
      · cases e'
        have := h8 _ hb
        rw [cell_setRow_same _ _ _ _ _ _ _ hhb]
        have hcc : cur[o']? = some v' := by simpa [World.cell?, hhb] using hv'
        have hlt : o' < k * sz := by omega
        simp only [setAt, List.getElem?_toArray, List.append_assoc]
        rw [List.getElem?_append_left (by simp [List.length_take]; omega), List.getElem?_take, if_pos hlt]
        simpa using hcc
      · cases e'
        rw [hhb] at hm; cases hm
    refine ⟨cur, hhb, by omega, hkeep, ?_⟩
    refine heap_put hh hi hg hb hkeep ?_ (fun _ _ _ e => by cases e) (fun e => by cases e)
    have hol := ovr_len (rows := rows) (new := new) (k := k) hk
    refine ⟨setAt xs (k * sz) us, ⟨⟨?_, .inr ⟨gb, cap', (setAt cur.toList (k * sz) us).toArray, by rw [hol]; exact hv, hgb, ?_, by rw [hol]; exact hnc, hcm, ?_, ?_⟩⟩, h1o⟩, h2, by rw [hol]; exact h3, by rw [hol]; exact h4, ?_, ?_, fun v hv => ?_, h8, by rw [hol]; exact h9⟩
    · rw [setAt_len (by omega), hxl, hol]
    · rw [setRow_heap w gb _ _ _ _ hhb]
    · simp only [List.size_toArray]; rw [setAt_len (by simp; omega)]; simpa using hcs
    · rw [hol, ← hct]
      exact setAt_take (by simp; omega) (by omega)
    · intro r hr
      unfold ovr at hr
      rcases List.mem_append.1 hr with h | h
      · exact h5 r (List.mem_of_mem_take h)
      · rcases List.mem_append.1 h with h | h
        · exact hn r h
        · exact h5 r (List.mem_of_mem_drop h)
    · rw [ovr_flat h5 hn hk]
      exact RdL.mono hkeep _ (PlLe.refl _) (rdL_setAt h6 hus _)
    · rcases setAt_mem hv with h | h
      · exact h7 v h
      · exact h1 v h
theorem good_lenVs (hh : Heap B S p H U w) (hf : TyFact P t ty) {i n sz lo hi : Nat} {v : Value} (hx : Rd S w (.vsub i n sz lo hi) p v) (rt : TypeId) : Good P B S p w (Builtin.len_ #[t] rt #[v]) (lenVs (H i) n lo hi ty H U) := by
  unfold lenVs; split
  · rename_i e sz' rows fz hi'
    refine ⟨trivial, fun hc => ?_⟩
    obtain ⟨hk, hn, hb⟩ := hc
    obtain ⟨g, hg, hl, ho, hv⟩ := hx
    obtain ⟨g', hg', hr⟩ := hh.obj i _ hi'
    rw [hg] at hg'; cases hg'
    obtain ⟨xs, _, _, h3, _⟩ := hr
    obtain ⟨b, cap, off, _, _, rfl, _⟩ := hv (by omega)
    clear hv
    have hlt : hi - lo < 140737488355328 := by omega
    generalize hi - lo = m at hlt
    exact RunOk.same hh (v := .int .i64 m) (by simp [Builtin.len_, run_und (hf.slice hk).1, goInt]) rfl
  · trivial
theorem good_sliceVs (hh : Heap B S p H U w) (hf : TyFact P t ty) {i n sz hi : Nat} {v : Value} {lo' hi' mx : Option D} {vl vh vm : Option Value} (hx : Rd S w (.vsub i n sz 0 hi) p v) (hl : RdO S w p lo' vl) (hhi : RdO S w p hi' vh) (hm : RdO S w p mx vm) :
    Good P B S p w (Instr.sliceAt t v vl vh vm) (sliceVs (H i) i n sz hi ty lo' hi' mx H U) := by
  unfold sliceVs; split
  · rename_i e sz' rows fz hob
    simp only [RdO] at hm; subst hm
    split
    · rename_i l h e1 e2
      refine ⟨trivial, fun hc => ?_⟩
      obtain ⟨hk, rfl, rfl, hn, h0, h1, h2⟩ := hc
      obtain ⟨g, hg, hgl, ho, hv⟩ := hx
      obtain ⟨g', hg', hr⟩ := hh.obj i _ hob
      rw [hg] at hg'; cases hg'
      obtain ⟨xs, ⟨hown, _⟩, _, h3, _⟩ := hr
      obtain ⟨b, cap, off, hob, hhd, rfl, hoff⟩ := hv (by omega)
      have hoff0 : off = 0 := by simpa using hoff (.inr rfl)
      clear hoff
      subst hoff0
      have hcap : n ≤ cap := by
        rcases hown.2 with ⟨e1, _⟩ | ⟨gb, c2, cu, e1, _, _, hnc, _⟩
        · rw [hhd] at e1; cases e1
        · rw [hhd] at e1; cases e1; omega
      clear hv hown
      obtain ⟨hu, he, _, hsn⟩ := hf.slice hk
      have b1 := run_bound (P := P) (c := .sliceAcap) (y := cap) hhi (by simpa using e2) (by omega) (by omega)
      have b2 := run_bound (P := P) (c := .sliceB) (y := h.toNat) (z := 0) hl e1 h0 (by omega)
      refine RunOk.same hh (v := .slice (if cap = l.toNat then some ⟨b, 0, none⟩ else (some ⟨b, 0, none⟩ : Option Addr).map (·.add (l.toNat * ty.esz))) (h.toNat - l.toNat) (cap - l.toNat)) ?_ ?_
      · simp only [Instr.sliceAt, Sem.run_bind, run_und hu, Result.andThen_ok, Instr.slice, Nat.sub_zero]
        unfold Instr.sliceBounds
        cases vh with
        | none =>
          simp only [Sem.run_pure, Result.ok.injEq, and_true] at b1
          cases vl with
          | none =>
            simp only [Sem.run_pure, Result.ok.injEq, and_true] at b2
            simp [run_sizeOf_seen hsn, ← b2, ← b1]
          | some vl' =>
            simp only at b2
            simp [b1, b2, run_sizeOf_seen hsn, he]
        | some vh' =>
          simp only at b1
          cases vl with
          | none =>
            simp only [Sem.run_pure, Result.ok.injEq, and_true] at b2
            simp [b1, run_sizeOf_seen hsn, ← b2]
          | some vl' =>
            simp only at b2
            simp [b1, b2, run_sizeOf_seen hsn, he]
      · refine ⟨g, hg, hgl, ?_, fun hn => ⟨b, cap, if cap = l.toNat then 0 else l.toNat * ty.esz, hob, hhd, ?_, fun hc => ?_⟩⟩
        · split <;> rfl
        · by_cases c : cap = l.toNat
          · rw [if_pos c, if_pos c]
          · rw [if_neg c, if_neg c]; simp [addr_add]
        · by_cases c : cap = l.toNat
          · rw [if_pos c]
            rcases hc with hc | hc
            · omega
            · rw [hc]; simp
          · rw [if_neg c]
    · trivial
  · rename_i e sz' rows fz k m hob
    obtain ⟨vm', rfl, hm⟩ := hm
    simp only [Rd] at hm; subst hm
    split
    · rename_i l k' h e1
      refine ⟨trivial, fun hc => ?_⟩
      obtain ⟨hk, rfl, rfl, hn, h0, h1, h2, h2'⟩ := hc
      obtain ⟨vh', rfl, hh'⟩ := hhi
      simp only [Rd] at hh'; subst hh'
      obtain ⟨g, hg, hgl, ho, hv⟩ := hx
      obtain ⟨g', hg', hr⟩ := hh.obj i _ hob
      rw [hg] at hg'; cases hg'
      obtain ⟨xs, ⟨hown, _⟩, _, h3, _⟩ := hr
      obtain ⟨b, cap, off, hob, hhd, rfl, hoff⟩ := hv (by omega)
      have hcap : n ≤ cap := by
        rcases hown.2 with ⟨e1, _⟩ | ⟨gb, c2, cu, e1, _, _, hnc, _⟩
        · rw [hhd] at e1; cases e1
        · rw [hhd] at e1; cases e1; omega
      clear hv hoff hown
      obtain ⟨hu, he, _, hsn⟩ := hf.slice hk
      have b0 : (Instr.sliceBound (.int k m) cap .slice3Acap).run P w = .ok m.toNat w := by
        have a1 : 0 ≤ m := by omega
        have a2 : m ≤ (cap : Int) := by omega
        simp [Instr.sliceBound, asIntOf, a1, a2]
      have b1 : (Instr.sliceBound (.int k' h) m.toNat .slice3B).run P w = .ok h.toNat w := by
        have a1 : 0 ≤ h := by omega
        have a2 : h ≤ (m.toNat : Int) := by omega
        simp [Instr.sliceBound, asIntOf, a1]
        intro hlt; omega
      have b2 := run_bound (P := P) (c := .slice3C) (y := h.toNat) (z := 0) hl e1 h0 (by omega)
      refine RunOk.same hh (v := .slice (if m.toNat = l.toNat then some ⟨b, off, none⟩ else (some ⟨b, off, none⟩ : Option Addr).map (·.add (l.toNat * ty.esz))) (h.toNat - l.toNat) (m.toNat - l.toNat)) ?_ (by simp [Rd])
      simp only [Instr.sliceAt, Sem.run_bind, run_und hu, Result.andThen_ok, Instr.slice]
      unfold Instr.sliceBounds
      cases vl with
      | none =>
        have b2' : l.toNat = 0 := by
          cases lo' with
          | none => simp [bnd] at e1; subst e1; rfl
          | some d => obtain ⟨_, e, _⟩ := hl; cases e
        simp [b0, b1, b2', run_sizeOf_seen hsn, he]
      | some vl' =>
        have b2' : (Instr.sliceBound vl' h.toNat .slice3C).run P w = .ok l.toNat w := b2
        simp [b0, b1, b2', run_sizeOf_seen hsn, he]
    · trivial
  · trivial
theorem good_appVs (hh : Heap B S p H U w) (hf : TyFact P t ty) (rt : TypeId) {i n sz k i' n' sz' lo hi : Nat} {v u : Value} (hx : Rd S w (.vsub i n sz 0 k) p v) (hy : Rd S w (.vsub i' n' sz' lo hi) p u) :
    Good P B S p w (Builtin.append_ #[t, t] rt #[v, u]) (appVs (H i) i n sz k i' n' sz' lo hi ty H U) := by
  unfold appVs; split
  · rename_i e sz'' rows fz hob
    refine ⟨trivial, fun hc => ?_⟩
    obtain ⟨⟨rfl, rfl, rfl, rfl, hk, hes⟩, hn, hfz, h1, h2, h3⟩ := hc
    have hnl : ((rows.drop lo).take (hi - lo)).length = hi - lo := by rw [List.length_take, List.length_drop]; omega
    obtain ⟨g, hg, hgl, ho, hv⟩ := hx
    obtain ⟨g', hg', hr⟩ := hh.obj i' _ hob
    rw [hg] at hg'; cases hg'
    obtain ⟨xs, ⟨hown, _⟩, _, h3', _, h5, h6, h7, _⟩ := hr
    obtain ⟨b, cap, off, hbo, hhd, rfl, hoff⟩ := hv (by omega)
    have hoff0 : off = 0 := by simpa using hoff (.inr rfl)
    subst hoff0
    obtain ⟨g', hg', _, _, hv'⟩ := hy
    rw [hg] at hg'; cases hg'
    obtain ⟨b', cap', off', hbo', hhd', rfl, hoff'⟩ := hv' (by omega)
    clear hv hv'
    rw [hbo] at hbo'; cases hbo'
    rw [hhd] at hhd'; cases hhd'
    obtain ⟨hu, he, _, hsn⟩ := hf.slice hk
    have hcap : n' ≤ cap := by
      rcases hown.2 with ⟨e1, _⟩ | ⟨gb, c2, cu, e1, _, _, hnc, _⟩
      · rw [hhd] at e1; cases e1
      · rw [hhd] at e1; cases e1; omega
    have hrl : ∀ r ∈ (rows.drop lo).take (hi - lo), r.length = sz'' := fun r hr => h5 r (mem_take_drop hr)
    -- the cells that are read
    have hflat : ((rows.drop lo).take (hi - lo)).flatten = (rows.flatten.drop (lo * sz'')).take ((hi - lo) * sz'') := by
      have a1 : rows.flatten.drop (lo * sz'') = (rows.drop lo).flatten := by
        have h1 : rows.flatten = (rows.take lo).flatten ++ (rows.drop lo).flatten := by rw [← List.flatten_append, List.take_append_drop]
        rw [h1, List.drop_left']
        rw [flatten_len (fun r hr => h5 r (List.mem_of_mem_take hr))]; rw [List.length_take, Nat.min_eq_left (by omega)]
      rw [a1]
      have h1 : (rows.drop lo).flatten = ((rows.drop lo).take (hi - lo)).flatten ++ ((rows.drop lo).drop (hi - lo)).flatten := by rw [← List.flatten_append, List.take_append_drop]
      rw [h1, List.take_left']
      rw [flatten_len hrl, hnl]
    have hus : RdL S w ((rows.drop lo).take (hi - lo)).flatten noPl ((xs.drop (lo * sz'')).take ((hi - lo) * sz'')) := by
      rw [hflat]; exact rdL_take (rdL_drop h6 _) _
    obtain ⟨cur, hcur, hsz, hkeep, hheap⟩ := vec_over hh (k := k) (new := (rows.drop lo).take (hi - lo)) hob hg hbo (by rw [hn]; exact hhd) hus (fun v hv => h7 v (mem_take_drop hv)) hrl (by rw [hnl]; omega) hfz
    have husl : ((xs.drop (lo * sz'')).take ((hi - lo) * sz'')).length = (hi - lo) * sz'' := by rw [rdL_len hus, flatten_len hrl, hnl]
    have hld : (loadCells ⟨b, off', none⟩ ((hi - lo) * sz'')).run P w = .ok ((xs.drop (lo * sz'')).take ((hi - lo) * sz'')).toArray w := by
      have := run_loadCells_list (P := P) (w := w) ⟨b, off', none⟩ ((xs.drop (lo * sz'')).take ((hi - lo) * sz'')) (fun j v hj => by
        have hjl : j < (hi - lo) * sz'' := by rw [← husl]; exact (List.getElem?_eq_some_iff.1 hj).1
        have hlt : lo < hi := by
          rcases Nat.lt_or_ge lo hi with h | h
          · exact h
          · rw [show hi - lo = 0 from by omega] at hjl; simp at hjl
        rw [hoff' (.inl hlt), addr_add]
        have := owns_cell hown (by rw [hhd]; rfl) (lo * sz'' + j) v (take_drop_get hj)
        exact this)
      rwa [husl] at this
    have hst := run_storeCells_at P b (k * sz'') e ((xs.drop (lo * sz'')).take ((hi - lo) * sz'')) 0 cur w hcur (by simpa using hsz) (fun v hv => h7 v (mem_take_drop hv))
    refine ⟨.slice (some ⟨b, 0, none⟩) (k + (hi - lo)) cap, _, S, p, ?_, ⟨g, hg, hgl, rfl, fun hn => ⟨b, cap, 0, hbo, hhd, by simp, fun _ => by simp⟩⟩, hheap, hkeep, PlLe.refl _⟩
    have hfit : k + (hi - lo) ≤ cap := by omega
    have hnint : (match (TypeDesc.slice ty.elem) with | .int _ => true | _ => false) = false := rfl
    simp only [Nat.sub_zero]
    have hsize : (sizeOf ty.elem).run P w = .ok sz'' w := by rw [run_sizeOf_seen hsn, ← he, hes]
    have hadd : ((⟨b, 0, none⟩ : Addr).add (k * sz'')) = ⟨b, k * sz'', none⟩ := by rw [addr_add]; simp
    have hst' : (storeCells ((⟨b, 0, none⟩ : Addr).add (k * sz'')) ((xs.drop (lo * sz'')).take ((hi - lo) * sz'')) 0).run P w = .ok () (w.setRow b (setAt cur.toList (k * sz'') ((xs.drop (lo * sz'')).take ((hi - lo) * sz''))).toArray) := by
      rw [hadd, hst]; simp [setAt]
    simp [Builtin.append_, run_und hu, hsize, Builtin.lenOf, Builtin.firstCells, hfit, hld, hst']
  · trivial
theorem zeroCells_list (z : Array Value) (n : Nat) : (Builtin.zeroCells z n).toList = (List.replicate n z.toList).flatten := by
  rw [← madeCells_list]; rfl
theorem good_clrVs (hh : Heap B S p H U w) (hf : TyFact P t ty) {ety : Ty} (hfe : TyFact P ty.elem ety) (rt : TypeId) {i n sz lo hi : Nat} {v : Value} (hx : Rd S w (.vsub i n sz lo hi) p v) :
    Good P B S p w (Builtin.clear_ #[t] rt #[v]) (clrVs (H i) i n sz lo hi ty ety H U) := by
  unfold clrVs; split
  · rename_i e sz' rows fz hob
    refine ⟨trivial, fun hc => ?_⟩
    obtain ⟨⟨rfl, hk, hez⟩, hn, hfz, h1, h2⟩ := hc
    obtain ⟨g, hg, hgl, ho, hv⟩ := hx
    obtain ⟨g', hg', hr⟩ := hh.obj i _ hob
    rw [hg] at hg'; cases hg'
    obtain ⟨xs, ⟨hown, _⟩, _, h3', _, h5, h6, h7, _⟩ := hr
    obtain ⟨b, cap, off, hbo, hhd, rfl, hoff⟩ := hv (by omega)
    clear hv
    obtain ⟨hu, he, _, hsn⟩ := hf.slice hk
    obtain ⟨z, hz, hzc, _⟩ := hfe.zeroV w
    have hflat : (List.replicate (hi - lo) (ety.zero.map leafV)).flatten = (List.replicate (hi - lo) ety.zero).flatten.map leafV := by
      rw [List.map_flatten, List.map_replicate]
    have hus : RdL S w (List.replicate (hi - lo) (ety.zero.map leafV)).flatten noPl (List.replicate (hi - lo) ety.zero).flatten := by
      rw [hflat]; exact rdL_map (rd_leaf S w noPl) _
    have h1c : ∀ v ∈ (List.replicate (hi - lo) ety.zero).flatten, v.oneCell' = true := fun v hv => by
      obtain ⟨l, hl, hv⟩ := List.mem_flatten.1 hv
      rw [List.eq_of_mem_replicate hl] at hv; exact hfe.one v hv
    obtain ⟨cur, hcur, hsz, hkeep, hheap⟩ := vec_over hh (k := lo) (new := List.replicate (hi - lo) (ety.zero.map leafV)) hob hg hbo (by rw [hn]; exact hhd) hus h1c (fun r hr => by rw [List.eq_of_mem_replicate hr]; simpa using hez) (by simp; omega) hfz
    by_cases c : lo < hi
    · have hof := hoff (.inl c)
      subst hof
      have hst := run_storeCells_at P b (lo * sz') e (List.replicate (hi - lo) ety.zero).flatten 0 cur w hcur (by simpa using hsz) h1c
      have hst' : (storeCells ⟨b, lo * sz', none⟩ (Builtin.zeroCells z.cells (hi - lo)).toList 0).run P w = .ok () (w.setRow b (setAt cur.toList (lo * sz') (List.replicate (hi - lo) ety.zero).flatten).toArray) := by
        rw [zeroCells_list, hzc, hst]; simp [setAt]
      refine ⟨.tuple #[], _, S, p, ?_, by simp only [Rd]; exact ⟨[], rfl, rfl⟩, hheap, hkeep, PlLe.refl _⟩
      obtain ⟨m, hm⟩ : ∃ m, hi - lo = m + 1 := ⟨hi - lo - 1, by omega⟩
      rw [hm] at hst' ⊢
      simp [Builtin.clear_, run_und hu, hz, hst']
    · have hm : hi - lo = 0 := by omega
      refine ⟨.tuple #[], w, S, p, ?_, by simp only [Rd]; exact ⟨[], rfl, rfl⟩, ?_, Keep.refl _ _, PlLe.refl _⟩
      · rw [hm]; simp [Builtin.clear_, run_und hu]
      · have : ovr rows (List.replicate (hi - lo) (ety.zero.map leafV)) lo = rows := by
          rw [hm]; simp [ovr]
        rw [this]
        have h8 : upd H i (some (.vec e sz' rows fz)) = H := by funext j; by_cases e : j = i <;> simp [upd, e, hob]
        rw [h8]; exact hh
  · trivial
end ops
end Go.Tn
