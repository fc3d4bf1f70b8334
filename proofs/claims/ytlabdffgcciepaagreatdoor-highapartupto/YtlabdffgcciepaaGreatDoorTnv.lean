/- Symbolic data, and what the operations do to it. -/
import Derived.Test.YtlabdffgcciepaaGreatDoorTo
set_option linter.unusedSimpArgs false
set_option linter.unusedVariables false
set_option linter.unusedSectionVars false
namespace Go.Tn
open Go.RowKit
def inn (i k : Nat) : Nat := 100000 * (i + 1) + k
section
variable {P : Program} [Fen P] {B : Base} {S : Ex} {p : Pl} {w : World} {H : Hp} {U : Us} {t : Nat} {ty : Ty}
theorem Heap.move (h : Heap B S p H U w) {s t : Nat} {e sz fz : Nat} {rows : List (List D)} {g : G} (ho : H s = some (.vec e sz rows fz)) (hg : p s = some g) (hU : U t = false) :
    Heap B S (upd p t (some g)) (upd (upd H s none) t (some (.vec e sz rows fz))) (upd U t true) w ∧ PlLe p (upd p t (some g)) := by
  have hpt : p t = none := by
    cases hp : p t with
    | none => rfl
    | some g' => rw [h.use t g' hp] at hU; cases hU
  have hst : s ≠ t := fun e => by subst e; rw [hpt] at hg; cases hg
  have hpl : PlLe p (upd p t (some g)) := fun j gj hj => ⟨gj, by rw [upd_ne _ _ (fun e => by rw [e, hpt] at hj; cases hj)]; exact hj, rfl, Nat.le_refl _, fun _ => ⟨rfl, rfl⟩⟩
  obtain ⟨g0, hg0, hr0⟩ := h.obj s _ ho
  rw [hg] at hg0; cases hg0
  -- what an object of the new heap was before
  have was : ∀ {j : Nat} {oj : LObj} {gj : G}, upd (upd H s none) t (some (.vec e sz rows fz)) j = some oj → upd p t (some g) j = some gj →
      ∃ j', H j' = some oj ∧ p j' = some gj ∧ (j = t ∧ j' = s ∨ j ≠ t ∧ j' = j ∧ j ≠ s) := fun {j oj gj} hj hp => by
    rcases upd_some hj with ⟨rfl, rfl⟩ | ⟨e1, hj'⟩
    · rw [upd_same] at hp; cases hp
      exact ⟨s, ho, hg, .inl ⟨rfl, rfl⟩⟩
    · rw [upd_ne _ _ e1] at hp
      by_cases e2 : j = s
      · subst e2; rw [upd_same] at hj'; cases hj'
      · rw [upd_ne _ _ e2] at hj'
        exact ⟨j, hj', hp, .inr ⟨e1, rfl, e2⟩⟩
  refine ⟨⟨fun j oj hj => ?_, fun j k oj ok gj gk b hj hk hpj hpk ej ek => ?_, fun j gj hj => ?_, h.ext, h.old, h.size, h.bel, fun j ys d st hj => ?_, fun j hj => ?_, fun j ys d st gj b hj hpj hb => ?_⟩, hpl⟩
  · rcases upd_some hj with ⟨rfl, rfl⟩ | ⟨e1, hj'⟩
    · exact ⟨g, upd_same _ _ _, hr0.mono (Keep.refl _ _) hpl (fun _ _ => rfl) (fun _ _ => rfl) (fun ys d st e => by cases e)⟩
    · by_cases e2 : j = s
      · subst e2; rw [upd_same] at hj'; cases hj'
      · rw [upd_ne _ _ e2] at hj'
        obtain ⟨gj, hgj, hrj⟩ := h.obj j oj hj'
        exact ⟨gj, by rw [upd_ne _ _ e1]; exact hgj, hrj.mono (Keep.refl _ _) hpl (fun _ _ => rfl) (fun _ _ => rfl) (fun _ _ _ _ => ⟨⟨rfl, rfl, rfl⟩, Nat.le_refl _, h.ext, fun _ _ => ⟨rfl, rfl⟩⟩)⟩
  · obtain ⟨j', h1, h2, h3⟩ := was hj hpj
    obtain ⟨k', h4, h5, h6⟩ := was hk hpk
    have := h.inj j' k' _ _ _ _ b h1 h4 h2 h5 ej ek
    subst this
    rcases h3 with ⟨rfl, rfl⟩ | ⟨h3, rfl, h3'⟩ <;> rcases h6 with ⟨rfl, e6⟩ | ⟨h6, e6, h6'⟩
    · rfl
    · exact absurd e6.symm h6'
    · exact absurd e6 h3'
    · exact e6
  · by_cases e1 : j = t
    · subst e1; exact upd_same _ _ _
    · rw [upd_ne _ _ e1] at hj ⊢; exact h.use j gj hj
  · rcases upd_some hj with ⟨rfl, e1⟩ | ⟨e1, hj'⟩
    · cases e1
    · by_cases e2 : j = s
      · subst e2; rw [upd_same] at hj'; cases hj'
      · rw [upd_ne _ _ e2] at hj'; exact h.yid j ys d st hj'
  · rcases upd_some hj with ⟨rfl, e1⟩ | ⟨e1, hj'⟩
    · cases e1
    · by_cases e2 : j = s
      · subst e2; rw [upd_same] at hj'; cases hj'
      · rw [upd_ne _ _ e2] at hj'; exact h.lid j hj'
  · obtain ⟨j', h1, h2, h3⟩ := was hj hpj
    obtain ⟨e1, e2⟩ := h.env j' ys d st gj b h1 h2 hb
    refine ⟨e1, fun k ok gk hk hpk => ?_⟩
    obtain ⟨k', h4, h5, _⟩ := was hk hpk
    exact e2 k' ok gk h4 h5
theorem new_nv (hh : Heap B S p H U w) {i : Nat} (hU : U i = false) {e : Nat} {ms : List (Nat × Nat)} {xs : List Value} (hb : ms.length < 140737488355328)
    (hr : RdL S w (nvD ms) p xs) (h1 : ∀ v ∈ xs, v.oneCell' = true) :
    ∃ p', Heap B S p' (upd H i (some (.nv e ms))) (upd U i true) { w with heap := w.heap.push (.cells xs.toArray e) } ∧
      Keep S S w { w with heap := w.heap.push (.cells xs.toArray e) } ∧ PlLe p p' ∧ Rd S { w with heap := w.heap.push (.cells xs.toArray e) } (.vec i ms.length) p' (.slice (some ⟨w.heap.size, 0, none⟩) ms.length ms.length) := by
  have hS : S w.heap.size = 0 := by
    have := hh.ext w.heap.size
    omega
  have hxl : xs.length = ms.length := by rw [rdL_len hr]; simp [nvD]
  obtain ⟨a, b, c⟩ := hh.new (i := i) (g := ⟨0, some w.heap.size, ms.length, .slice (some ⟨w.heap.size, 0, none⟩) ms.length ms.length, fun _ => False⟩) (o := .nv e ms) (below_push w (.cells xs.toArray e)) hU (fun b e => by cases e; exact Nat.le_refl _)
    (fun p' hp hk => ⟨xs, ⟨⟨by simpa using hxl, .inr ⟨w.heap.size, ms.length, xs.toArray, rfl, Nat.zero_le _, heap_push _ _, Nat.le_refl _, by unfold maxLen; omega, by simpa using hxl, by simp [← hxl]⟩⟩, fun b eb => by cases eb; exact .inl hh.size⟩, rfl, rfl, hb, RdL.mono hk _ hp hr, h1, fun b eb => by cases eb; exact hS⟩) (fun _ _ _ e => by cases e) (fun e => by cases e)
  exact ⟨_, a, b, c, by simp only [Rd]; exact ⟨_, upd_same _ _ _, Nat.le_refl _, rfl, fun _ => rfl⟩⟩
def bsM (o : Option LObj) (i j m n : Nat) (ty : Ty) (H : Hp) (U : Us) : Res :=
  match o with
  | some (.vec e sz rows fz) => .ok True ((U i = false ∧ U (inn i 0) = false) ∧ rows.length = m ∧ n = 1 ∧ ty.kind = .slice ∧ ty.esz = 1) (.vec i 1)
      (upd (upd (upd H j none) (inn i 0) (some (.vec e sz rows fz))) i (some (.nv ty.elem [(inn i 0, m)]))) (upd (upd U (inn i 0) true) i true)
  | _ => .bad
theorem good_bsM (hh : Heap B S p H U w) (hf : TyFact P t ty) {ety : Ty} (hfe : TyFact P ty.elem ety) {i j m n : Nat} {v : Value} (hv : Rd S w (.vec j m) p v) :
    Good P B S p w (Instr.buildSlice t n #[(0, v)]) (bsM (H j) i j m n ty H U) := by
  unfold bsM
  split
  · rename_i e sz rows fz ho
    refine ⟨trivial, fun hc => ?_⟩
    obtain ⟨⟨hU, hU'⟩, rfl, rfl, hk, hz⟩ := hc
    obtain ⟨hs, hes, _, hsn⟩ := hf.slice hk
    obtain ⟨z, hzv, hzc, _⟩ := hfe.zeroV w
    have hv0 := hv
    simp only [Rd] at hv
    obtain ⟨g, hg, hle, h1, hv⟩ := hv
    obtain ⟨hh1, hpl1⟩ := hh.move ho hg hU'
    have hne : i ≠ inn i 0 := by unfold inn; omega
    obtain ⟨rs, e1, e2, e3⟩ := run_rows (S := S) (w := w) (p := p) [(0, .vec j rows.length)] [(0, v)] 0 [] ((Array.range (1 * ty.esz)).map fun i => ((if 1 * ty.esz = 0 then #[] else z.cells) : Array Value)[i % ((if 1 * ty.esz = 0 then #[] else z.cells) : Array Value).size]!).toList rfl
      (fun k q u hq hu => by
        cases k with
        | zero => cases hq; cases hu; exact ⟨rfl, hv0⟩
        | succ k => simp at hq) (sz := ty.esz) ⟨⟨rfl, rfl, by rw [hz]; rfl⟩, trivial⟩ (by simp) (by simp)
    obtain ⟨u, r, rfl, hu1, hu2⟩ : ∃ u r, rs = u :: r ∧ Rd S w (.vec j rows.length) p u ∧ RdL S w [] p r := e2
    simp only [RdL] at hu2; subst hu2
    have e2' : RdL S w (nvD [(inn i 0, rows.length)]) (upd p (inn i 0) (some g)) [u] := by
      refine ⟨u, [], rfl, ?_, rfl⟩
      simp only [Rd] at hu1 ⊢
      obtain ⟨g', hg', hu1⟩ := hu1
      rw [hg] at hg'; cases hg'
      exact ⟨g, upd_same _ _ _, hu1⟩
    obtain ⟨p', a1, a2, a3, a4⟩ := new_nv hh1 (i := i) (by rw [upd_ne _ _ hne]; exact hU) (e := ty.elem) (ms := [(inn i 0, rows.length)]) (xs := [u]) (by simp) e2' e3
    refine ⟨_, _, S, p', ?_, a4, a1, a2, PlLe.trans hpl1 a3⟩
    have hce : P.cellsOf ty.elem = 1 := by rw [← hes, hz]
    have hfn : (fun i => some (i * ty.esz, ty.esz)) = fun i => some (i * 1, 1) := by rw [hz]
    simp only [List.nil_append, Array.toArray_toList, hz] at e1
    unfold Instr.buildSlice
    simp [run_und hs, run_sizeOf_seen hsn, hce, hzv, newRow]
    simp at e1
    simp [e1]
  · trivial
def apM (s : Nat) (so ko : Option LObj) (m k n i : Nat) (ty ety : Ty) (H : Hp) (U : Us) : Res :=
  match so, ko with
  | some (.vec e sz rows fz), some (.nv e3 ms) => .ok True ((U (inn k n) = false ∧ rows.length = m ∧ ms.length = n) ∧ e3 = ty.elem ∧ ty.kind = .slice ∧ ety.zero.length = 1 ∧ ety.bytes ≤ 128 ∧ n + 1 < 1099511627776 ∧ k ≠ i) (.vec k (n + 1))
      (upd (upd (upd H s none) (inn k n) (some (.vec e sz rows fz))) k (some (.nv e3 (ms ++ [(inn k n, m)])))) (upd U (inn k n) true)
  | _, _ => .bad
theorem good_apM (hh : Heap B S p H U w) (hf : TyFact P t ty) {ety : Ty} (hfe : TyFact P ty.elem ety) (rt : TypeId) {k n i s m e : Nat} {v u : Value} (hx : Rd S w (.vec k n) p v) (hy : Rd S w (.vec i 1) p u) (hi : H i = some (.nv e [(s, m)])) :
    Good P B S p w (Builtin.append_ #[t, t] rt #[v, u]) (apM s (H s) (H k) m k n i ty ety H U) := by
  unfold apM
  split
  · rename_i so ko e2 sz rows fz e3 ms hs hk
    refine ⟨trivial, fun hc => ?_⟩
    obtain ⟨⟨hU, rfl, rfl⟩, rfl, hkd, hz, hby, hb, hki⟩ := hc
    simp only [Rd] at hx hy
    obtain ⟨g, hg, hle, ho, hv⟩ := hx
    obtain ⟨gi, hgi, hlei, hoi, hvi⟩ := hy
    -- the source
    obtain ⟨gi', hgi', xi, ⟨howi, _⟩, hobi, hli, _, hri, h1i, _⟩ := hh.obj i _ hi
    rw [hgi] at hgi'; cases hgi'
    obtain rfl := hvi hli.symm
    have hsrc : ∃ a cap, gi.hdr = .slice a 1 cap ∧ (1 = 0 ∨ ∃ ad, a = some ad ∧ ∀ j v, xi[j]? = some v → w.cell? (ad.add j) = some v) := by
      rcases howi.2 with ⟨e1, e0⟩ | ⟨gb, cap, cu, e1, hgb, hhb, hnc, _⟩
      · cases e0
      · refine ⟨some ⟨gb, 0, none⟩, cap, e1, .inr ⟨_, rfl, fun j v hj => ?_⟩⟩
        rw [addr_add, Nat.zero_add]
        exact owns_cell howi (by rw [e1]; rfl) j v hj
    obtain ⟨a, cap, hu, hcells⟩ := hsrc
    rw [hu]
    -- the name
    obtain ⟨gs, hgs, _⟩ := hh.obj s _ hs
    obtain ⟨hh1, hpl1⟩ := hh.move hs hgs hU
    have hsk : k ≠ s := fun e => by subst e; rw [hs] at hk; cases hk
    have hkn : k ≠ inn k ms.length := by unfold inn; omega
    have hk1 : upd (upd H s none) (inn k ms.length) (some (.vec e2 sz rows fz)) k = some (.nv ty.elem ms) := by rw [upd_ne _ _ hkn, upd_ne _ _ hsk]; exact hk
    have hg1 : upd p (inn k ms.length) (some gs) k = some g := by rw [upd_ne _ _ hkn]; exact hg
    obtain ⟨g', hg', xs, ⟨hown, howno⟩, h2, h3, h4, h6, h7, h8⟩ := hh1.obj k _ hk1
    rw [hg1] at hg'; cases hg'
    obtain rfl := hv h3.symm
    obtain ⟨hsl, _, _, hsn⟩ := hf.slice hkd
    have hxl : xi.length = 1 * 1 := by rw [rdL_len hri]; rfl
    obtain ⟨v', w', e1, e2', e3', e4, e5, e6⟩ := run_append_any (rt := rt) (cap := cap) hsl hsn hfe hz (by omega) hby hown hxl hcells h1i (by omega) (Nat.zero_le _)
    rw [← h2] at e3' e5 e6
    have hkeep : Keep S S w w' := Keep.of_zero e3' hh.ext (fun b hb => h8 b hb) (fun b x hb hmm => by
      rcases hown.2 with ⟨e1, _⟩ | ⟨gb, c2, cu, e1, _, hhb, _⟩
      · rw [h2, e1] at hb; cases hb
      · rw [h2, e1] at hb; cases hb; rw [hhb] at hmm; cases hmm)
    obtain ⟨x, r, hxr, hx1, hx2⟩ : ∃ x r, xi = x :: r ∧ Rd S w (.vec s rows.length) p x ∧ RdL S w [] p r := hri
    simp only [RdL] at hx2; subst hx2
    have hnew : RdL S w (nvD [(inn k ms.length, rows.length)]) (upd p (inn k ms.length) (some gs)) xi := by
      refine ⟨x, [], hxr, ?_, rfl⟩
      simp only [Rd] at hx1 ⊢
      obtain ⟨g', hg', hx1⟩ := hx1
      rw [hgs] at hg'; cases hg'
      exact ⟨gs, upd_same _ _ _, hx1⟩
    have hlen : (ms ++ [(inn k ms.length, rows.length)]).length = ms.length + 1 := by simp
    have happ : nvD (ms ++ [(inn k ms.length, rows.length)]) = nvD ms ++ nvD [(inn k ms.length, rows.length)] := by simp [nvD]
    obtain ⟨hh', hpl⟩ := hh1.step hk1 hg1 e3' hkeep (g' := ⟨g.ptr, v'.ownBlock, ms.length + 1, v', fun _ => False⟩) (o' := .nv ty.elem (ms ++ [(inn k ms.length, rows.length)])) rfl (by simp only; omega)
      (fun he => by simp only at he; omega) e5
      (fun p' hp => ⟨xs ++ xi, ⟨by simp only [hlen]; exact e2', fun b hb => by
          rcases e5 b hb with h | h
          · exact howno b h
          · exact .inl (Nat.le_trans hh.size h)⟩, rfl, by simp only [hlen], by omega, by
          rw [happ]
          exact rdL_append (RdL.mono hkeep _ hp h6) (RdL.mono hkeep _ hp hnew), fun v hv => by
          rcases List.mem_append.1 hv with h | h
          · exact h7 v h
          · exact h1i v h, fun b hb => by
          simp only at hb
          rcases e5 b hb with h | h
          · exact h8 b h
          · have := hh.ext b; omega⟩) (fun _ _ _ e => by cases e) (fun e => by cases e)
    refine ⟨v', w', S, _, e1, ?_, hh', hkeep, PlLe.trans hpl1 hpl⟩
    simp only [Rd]
    refine ⟨_, upd_same _ _ _, by simp only; omega, ?_, fun _ => rfl⟩
    rcases e2'.2 with ⟨e, _⟩ | ⟨_, _, _, e, _⟩ <;> rw [e] <;> rfl
  · trivial
end
end Go.Tn
