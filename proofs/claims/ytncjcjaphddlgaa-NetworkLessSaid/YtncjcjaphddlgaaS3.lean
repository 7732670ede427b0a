/-
  The evaluator Sx and its seat table, several parts in one text. No condition beyond those that each theorem names.
-/
import Derived.Test.YtncjcjaphddlgaaS2
import Derived.Test.YtncjcjaphddlgaaS1
import Derived.Calls
set_option linter.unusedVariables false
set_option linter.unusedSimpArgs false
namespace Go.Sx
open Go Go.RowKit

/-! ### fill -/
theorem foldset : ∀ (l : List Value) (off i : Nat) (cells : Array Value),
    ((l.zipIdx i).foldl (fun cs (p : Value × Nat) => cs.setIfInBounds (off + p.2) p.1) cells).size = cells.size ∧
      ∀ p, ((l.zipIdx i).foldl (fun cs (p : Value × Nat) => cs.setIfInBounds (off + p.2) p.1) cells)[p]? = if off + i ≤ p ∧ p < off + i + l.length ∧ p < cells.size then l[p - (off + i)]? else cells[p]?
  | [], off, i, cells => by simp; intro p h1 h2; omega
  | v :: l, off, i, cells => by
    simp only [List.zipIdx_cons, List.foldl_cons]
    obtain ⟨h1, h2⟩ := foldset l off (i + 1) (cells.setIfInBounds (off + i) v)
    refine ⟨by rw [h1]; simp, fun p => ?_⟩
    rw [h2 p]
    simp only [Array.size_setIfInBounds, List.length_cons]
    by_cases e : p = off + i
    · subst e
      rw [if_neg (by omega), Array.getElem?_setIfInBounds, if_pos rfl]
      by_cases hs : off + i < cells.size
      · rw [if_pos hs, if_pos ⟨by omega, by omega, hs⟩]; simp
      · rw [if_neg hs, if_neg (by omega)]
        exact (Array.getElem?_eq_none (by omega)).symm
    · by_cases hc : off + (i + 1) ≤ p ∧ p < off + (i + 1) + l.length ∧ p < cells.size
      · rw [if_pos hc, if_pos (by omega), show p - (off + i) = p - (off + (i + 1)) + 1 from by omega, List.getElem?_cons_succ]
      · rw [if_neg hc, if_neg (by omega), Array.getElem?_setIfInBounds, if_neg (fun h => e h.symm)]

def setRow (cells : Array Value) (off : Nat) (v : Value) : Array Value := v.cells.zipIdx.foldl (fun cs (c, j) => cs.setIfInBounds (off + j) c) cells
theorem setRow_spec (cells : Array Value) (off : Nat) (v : Value) : (setRow cells off v).size = cells.size ∧
    ∀ p, (setRow cells off v)[p]? = if off ≤ p ∧ p < off + v.cells.size ∧ p < cells.size then v.cells[p - off]? else cells[p]? := by
  have h := foldset v.cells.toList off 0 cells
  have e : setRow cells off v = (v.cells.toList.zipIdx 0).foldl (fun cs (p : Value × Nat) => cs.setIfInBounds (off + p.2) p.1) cells := by
    unfold setRow
    rw [← Array.foldl_toList, Array.toList_zipIdx]
  rw [e]
  simpa using h

theorem fill_cons {place : Nat → Option (Nat × Nat)} {cells : Array Value} {i off size : Nat} {v : Value} {rest : List (Nat × Value)} (hp : place i = some (off, size)) (hs : v.cells.size = size) (hl : off + size ≤ cells.size) :
    Instr.fill place cells ((i, v) :: rest) = Instr.fill place (setRow cells off v) rest := by
  simp only [Instr.fill, hp, hs]
  have h2 : ¬ (off + size > cells.size) := by omega
  simp [h2, setRow]

/-- A literal's parts, one behind the other. -/
theorem fill_seq {size : Nat} : ∀ (vs : List Value) (i : Nat) (cells : Array Value), (∀ v, v ∈ vs → v.cells.size = size) → (i + vs.length) * size ≤ cells.size →
    ∃ cells', Instr.fill (fun i => some (i * size, size)) cells ((List.range' i vs.length).zip vs) = some cells' ∧ cells'.size = cells.size ∧
      (∀ p, p < i * size → cells'[p]? = cells[p]?) ∧ ∀ j f, j < vs.length → f < size → cells'[(i + j) * size + f]? = (vs[j]?.getD undef).cells[f]?
  | [], i, cells, _, _ => ⟨cells, rfl, rfl, fun _ _ => rfl, fun j f hj => by simp at hj⟩
  | v :: vs, i, cells, hv, hl => by
    have hv0 := hv v (by simp)
    simp only [List.length_cons] at hl
    have hl' : i * size + size ≤ cells.size := by
      have : (i + 1) * size ≤ (i + (vs.length + 1)) * size := Nat.mul_le_mul_right size (by omega)
      rw [Nat.add_mul] at this; omega
    obtain ⟨s1, s2⟩ := setRow_spec cells (i * size) v
    obtain ⟨cells', h1, h2, h3, h4⟩ := fill_seq vs (i + 1) (setRow cells (i * size) v) (fun u hu => hv u (by simp [hu])) (by rw [s1]; rw [show i + 1 + vs.length = i + (vs.length + 1) from by omega]; exact hl)
    refine ⟨cells', ?_, by rw [h2, s1], fun p hp => ?_, fun j f hj hf => ?_⟩
    · simp only [List.length_cons, List.range'_succ, List.zip_cons_cons]
      rw [fill_cons (size := size) rfl hv0 hl']
      exact h1
    · rw [h3 p (by rw [Nat.add_mul]; omega), s2 p, if_neg (by omega)]
    · cases j with
      | zero =>
        have e1 : (i + 1) * size = i * size + size := Nat.succ_mul i size
        rw [Nat.add_zero]
        rw [h3 _ (by omega), s2, hv0, if_pos (by omega)]
        simp
      | succ j =>
        rw [show i + (j + 1) = i + 1 + j from by omega]
        simpa using h4 j f (by simpa using hj) hf

theorem placed_eq : ∀ (ps : List (Nat × Operand)) (i : Nat) (ρ : Operand → Value), placed ps i = true → ps.map (fun p => (p.1, ρ p.2)) = (List.range' i ps.length).zip ((snds ps).map ρ)
  | [], i, ρ, _ => rfl
  | (j, x) :: ps, i, ρ, h => by
    simp only [placed] at h
    cases hj : Nat.beq i j <;> rw [hj] at h <;> simp only [cond_true, cond_false, reduceCtorEq] at h
    have := beqT.1 hj; subst this
    simp only [List.map_cons, snds, List.length_cons, List.range'_succ, List.zip_cons_cons]
    rw [placed_eq ps (i + 1) ρ h]
theorem snds_length {α β : Type} : ∀ l : List (α × β), (snds l).length = l.length
  | [] => rfl
  | _ :: l => by simp [snds, snds_length l]

section
variable {P : Program} {cx : Ctx} {M M' : Frz} {ν : Nms} {w : World} {g : Nat → Option Ob} {Γ : Env} {sl : List AV} {ob : List (Nat × Ob)} {a : Act} {st : St}

/-- A literal's elements are a row. -/
theorem elemsA_run {ek : EK} {vs : List AV} {ys : List Value} {d : SC} {ks : List Nat} (hM : M.le M') (h : elemsA g ek vs = some (d, ks)) (hy : RL M ν vs ys) (hf : Fzn M' ν g ks) :
    d.ek = ek ∧ d.lenN = ys.length ∧ (∀ v, v ∈ ys → v.cells.size = ek.wid) ∧
      ∀ cf : Nat → Option Value, (∀ j f, j < ys.length → f < ek.wid → cf (j * ek.wid + f) = (ys[j]?.getD undef).cells[f]?) → RowC M' d cf := by
  cases ek with
  | int =>
    simp only [elemsA] at h
    split at h
    · rename_i xs hxs
      simp only [Option.some.injEq, Prod.mk.injEq] at h
      obtain ⟨rfl, rfl⟩ := h
      obtain ⟨rfl, hl⟩ := intsA_R hxs hy
      refine ⟨rfl, by simp [SC.lenN], by simp [EK.wid, Value.cells], fun cf hcf i hi => ?_⟩
      have := hcf i 0 (by simpa using hi) (by simp [EK.wid])
      simp only [EK.wid, Nat.mul_one, Nat.add_zero] at this
      rw [this]
      simp [hi, Value.cells]
    · cases h
  | bool =>
    simp only [elemsA] at h
    split at h
    · rename_i xs hxs
      simp only [Option.some.injEq, Prod.mk.injEq] at h
      obtain ⟨rfl, rfl⟩ := h
      have key : ∀ {cs : List AV} {xs : List Bool} {ys : List Value}, boolsA cs = some xs → RL M ν cs ys → ys = xs.map Value.bool := by
        intro cs
        induction cs with
        | nil => intro xs ys h1 h2; simp [boolsA] at h1; simp [RL] at h2; subst h1 h2; rfl
        | cons a l ih =>
          intro xs ys h1 h2
          simp only [RL] at h2
          obtain ⟨v, vs', rfl, e1, e2⟩ := h2
          cases a <;> simp only [boolsA, reduceCtorEq] at h1
          rename_i b
          cases hl : boolsA l with
          | none => rw [hl] at h1; cases h1
          | some bs =>
            rw [hl] at h1
            simp only [Option.some.injEq] at h1; subst h1
            simp only [R] at e1; subst e1
            rw [ih hl e2]; rfl
      have := key hxs hy; subst this
      refine ⟨rfl, by simp [SC.lenN], (by simp only [List.mem_map]; rintro v ⟨b, _, rfl⟩; rfl), fun cf hcf i hi => ?_⟩
      have := hcf i 0 (by simpa using hi) (by simp [EK.wid])
      simp only [EK.wid, Nat.mul_one, Nat.add_zero] at this
      rw [this]
      simp [hi, Value.cells]
    · cases h
  | strc wd =>
    simp only [elemsA] at h
    split at h
    · rename_i xs hxs
      simp only [Option.some.injEq, Prod.mk.injEq] at h
      obtain ⟨rfl, rfl⟩ := h
      have key : ∀ {cs : List AV} {xs : List (List Int)} {ys : List Value}, aggsA wd cs = some xs → RL M ν cs ys → ys = xs.map (fun x => .agg (x.map (Value.int .i64)).toArray) ∧ ∀ x, x ∈ xs → x.length = wd := by
        intro cs
        induction cs with
        | nil => intro xs ys h1 h2; simp [aggsA] at h1; simp [RL] at h2; subst h1 h2; exact ⟨rfl, by simp⟩
        | cons a l ih =>
          intro xs ys h1 h2
          simp only [RL] at h2
          obtain ⟨v, vs', rfl, e1, e2⟩ := h2
          simp only [aggsA] at h1
          cases ha : aggA wd a with
          | none => rw [ha] at h1; cases h1
          | some x =>
            rw [ha] at h1
            simp only [] at h1
            cases hl : aggsA wd l with
            | none => rw [hl] at h1; cases h1
            | some bs =>
              rw [hl] at h1
              simp only [Option.some.injEq] at h1; subst h1
              unfold aggA at ha
              split at ha
              · rename_i cs
                cases hw : Nat.beq cs.length wd <;> rw [hw] at ha <;> simp only [cond_true, cond_false, reduceCtorEq] at ha
                simp only [R] at e1
                obtain ⟨us, rfl, e1⟩ := e1
                obtain ⟨rfl, hx⟩ := intsA_R ha e1
                obtain ⟨h3, h4⟩ := ih hl e2
                refine ⟨by rw [h3]; rfl, fun y hy => ?_⟩
                rcases List.mem_cons.1 hy with rfl | hy
                · rw [← hx]; exact beqT.1 hw
                · exact h4 y hy
              · cases ha
      obtain ⟨rfl, hlen⟩ := key hxs hy
      refine ⟨rfl, by simp [SC.lenN], ?_, fun cf hcf i f hi hf => ?_⟩
      · simp only [List.mem_map]
        rintro v ⟨x, hx, rfl⟩
        simp [EK.wid, Value.cells, hlen x hx]
      · have := hcf i f (by simpa using hi) hf
        simp only [EK.wid] at this
        rw [this]
        have hfl : f < xs[i].length := by rw [hlen _ (List.getElem_mem hi)]; exact hf
        simp [hi, Value.cells, hfl, List.getD_eq_getElem?_getD]
    · cases h
  | isl =>
    simp only [elemsA] at h
    split at h
    · rename_i xs ks' hxs
      simp only [Option.some.injEq, Prod.mk.injEq] at h
      obtain ⟨rfl, rfl⟩ := h
      have key : ∀ {cs : List AV} {xs : List (List Int)} {ks : List Nat} {ys : List Value}, rowsA g cs = some (xs, ks) → RL M ν cs ys → Fzn M' ν g ks →
          ys.length = xs.length ∧ ∀ i, i < xs.length → ∃ v, ys[i]? = some v ∧ RS M' v (xs.getD i []) ∧ v.oneCell' = true := by
        intro cs
        induction cs with
        | nil => intro xs ks ys h1 h2 _; simp [rowsA] at h1; simp [RL] at h2; obtain ⟨rfl, rfl⟩ := h1; subst h2; exact ⟨rfl, fun i hi => by simp at hi⟩
        | cons a l ih =>
          intro xs ks ys h1 h2 h3
          simp only [RL] at h2
          obtain ⟨v, vs', rfl, e1, e2⟩ := h2
          simp only [rowsA] at h1
          cases ha : rowA g a with
          | none => rw [ha] at h1; cases h1
          | some p =>
            obtain ⟨x, k1⟩ := p
            rw [ha] at h1
            simp only [] at h1
            cases hl : rowsA g l with
            | none => rw [hl] at h1; cases h1
            | some q =>
              obtain ⟨xs', k2⟩ := q
              rw [hl] at h1
              simp only [Option.some.injEq, Prod.mk.injEq] at h1
              obtain ⟨rfl, rfl⟩ := h1
              have hr := rowA_run hM ha e1 (fun k hk => h3 k (by simp [hk]))
              obtain ⟨i1, i2⟩ := ih hl e2 (fun k hk => h3 k (by simp [hk]))
              refine ⟨by simp [i1], fun i hi => ?_⟩
              cases i with
              | zero => exact ⟨v, rfl, by simpa using hr.1, hr.2⟩
              | succ i => simpa using i2 i (by simpa using hi)
      obtain ⟨hl, hget⟩ := key hxs hy hf
      refine ⟨rfl, by simp [SC.lenN, hl], ?_, fun cf hcf i hi => ?_⟩
      · intro v hv
        obtain ⟨i, hi⟩ := List.mem_iff_getElem?.1 hv
        have hi' : i < xs.length := by rw [← hl]; exact (List.getElem?_eq_some_iff.1 hi).1
        obtain ⟨u, hu, _, hone⟩ := hget i hi'
        rw [hi] at hu; cases hu
        rw [one_cells hone]; rfl
      · obtain ⟨u, hu, hrs, hone⟩ := hget i hi
        have := hcf i 0 (by omega) (by simp [EK.wid])
        simp only [EK.wid, Nat.mul_one, Nat.add_zero] at this
        refine ⟨u, ?_, hrs⟩
        rw [this, hu]
        simp [one_cells hone]
    · cases h

theorem run_buildSlice (hc : CtxOK P cx) {t : TypeId} {ek : EK} (hsk : cx.sk t = some ek) {vs : List Value} (hv : ∀ v, v ∈ vs → v.cells.size = ek.wid) (hn : vs.length < 100) (hw : ek.wid < 100000) :
    ∃ cells e, (Instr.buildSlice t vs.length ((List.range' 0 vs.length).zip vs).toArray).run P w = .ok (.slice (some ⟨w.heap.size, 0, none⟩) vs.length vs.length) (plus w (.cells cells e)) ∧
      cells.size = vs.length * ek.wid ∧ ∀ j f, j < vs.length → f < ek.wid → cells[j * ek.wid + f]? = (vs[j]?.getD undef).cells[f]? := by
  obtain ⟨e, i, z, ht, hi, hs, hz, hb1, hb2, hzs, _⟩ := hc.sk t ek hsk
  have hsmall : vs.length * ek.wid ≤ 16777216 := by
    have : vs.length * ek.wid ≤ 100 * 100000 := Nat.mul_le_mul (by omega) (by omega)
    omega
  have h1' : ¬ (16777216 < vs.length * ek.wid) := by omega
  by_cases h0 : vs.length * ek.wid = 0
  · obtain ⟨cells, h1, h2, _, h4⟩ := fill_seq (size := ek.wid) vs 0 #[] hv (by simp [h0])
    refine ⟨cells, e, ?_, by rw [h2, h0]; rfl, fun j f hj hf => by simpa using h4 j f hj hf⟩
    simp [Instr.buildSlice, run_und ht, run_so hi, hs, h0]
    rw [show Array.map (fun x : Nat => (default : Value)) (Array.range 0) = #[] from by rw [Array.range_zero']; simp, h1]
    rfl
  · obtain ⟨cells, h1, h2, _, h4⟩ := fill_seq (size := ek.wid) vs 0 ((Array.range (vs.length * ek.wid)).map (z.cells[· % z.cells.size]!)) hv (by simp)
    refine ⟨cells, e, ?_, by rw [h2]; simp, fun j f hj hf => by simpa using h4 j f hj hf⟩
    simp only [Instr.buildSlice, Sem.run_bind, run_und ht, Result.andThen, run_so hi, hs]
    have h2' : ¬ (vs.length * ek.wid > 2 ^ 24) := by omega
    simp only [h2', if_false, h0, Sem.run_bind, Sem.run_pure, run_zv hi hz, Result.andThen]
    rw [h1]
    rfl

theorem hLit_run (hc : CtxOK P cx) (h : Rel Γ st.sl st.ob a w M ν) {gd : Bool} {dst : Option Nat} {t n : Nat} {ps : Array (Nat × Operand)} {vs : List AV} {u : Up} {st1 : St}
    (hu : hLit cx (og st.ob) gd dst t n ps.toList vs = some u) (hf : st.freezes u.frz = some st1) (hw : ∀ ek, cx.sk t = some ek → ek.wid < 100000) (hy : RL M ν vs ((snds ps.toList).map a.eval)) :
    ∃ v w', (Instr.buildSlice t n (ps.map fun (i, x) => (i, a.eval x))).run P w = .ok v w' ∧
      ((gd = true → u.put = [] ∧ u.kil = [] ∧ u.frz = [] ∧ ∃ M', M.le M' ∧ Kept [] w w' ∧ M'.ok w' ∧ (∀ k, M' k ≠ M k → w.heap.size ≤ k) ∧ R M' ν u.val v) ∧ (gd = false → Eff Γ st u a M ν v w')) := by
  unfold hLit at hu
  split at hu
  · cases hu
  · rename_i ek hsk
    cases hand : andB (placed ps.toList 0) (andB (Nat.beq n vs.length) (Nat.blt n 100)) <;> rw [hand] at hu <;> simp only [cond_true, cond_false, reduceCtorEq] at hu
    obtain ⟨hp, hn⟩ := andB_iff.1 hand
    obtain ⟨hn, hn2⟩ := andB_iff.1 hn
    have hn := beqT.1 hn
    have hn2 : n < 100 := by simpa using hn2
    cases hel : elemsA (og st.ob) ek vs with
    | none => rw [hel] at hu; cases hu
    | some r =>
      obtain ⟨d, ks⟩ := r
      rw [hel] at hu
      simp only [] at hu
      obtain ⟨ys, hys⟩ : ∃ ys, ys = (snds ps.toList).map a.eval := ⟨_, rfl⟩
      rw [← hys] at hy
      have hlen : ys.length = vs.length := RL_len hy
      have hlen2 : ps.toList.length = ys.length := by rw [hys, List.length_map, snds_length]
      have hparts : (ps.map fun (i, x) => (i, a.eval x)) = ((List.range' 0 ys.length).zip ys).toArray := by
        rw [← hlen2, hys, ← placed_eq ps.toList 0 a.eval hp]
        apply Array.ext'
        simp
      obtain rfl : n = ys.length := by omega
      have hfrz : u.frz = ks ∧ True := by
        cases gd <;> simp only [] at hu
        · split at hu
          · cases hnk : notB (memN _ ks) <;> rw [hnk] at hu <;> simp only [cond_true, cond_false, reduceCtorEq, Option.some.injEq] at hu
            subst hu; exact ⟨rfl, trivial⟩
          · cases hu
        · split at hu
          · simp only [up0, Option.some.injEq] at hu; subst hu; exact ⟨rfl, trivial⟩
          · cases hu
      rw [hfrz.1] at hf
      obtain ⟨M', hM, hrel, hok, hin, hout, _⟩ := freezes_rel ks h hf
      obtain ⟨e1, e2, e3, e4⟩ := elemsA_run hM hel hy hin
      obtain ⟨cells, e, r1, r2, r3⟩ := run_buildSlice (P := P) (w := w) hc hsk e3 (by omega) (hw ek hsk)
      rw [hparts]
      have hrow := e4 (fun j => cells[j]?) r3
      have hdw : d.wid = ek.wid := by rw [← ek_wid, e1]
      refine ⟨_, _, r1, ?_, ?_⟩
      · intro hgd; subst hgd
        simp only [] at hu
        split at hu
        · simp only [up0, Option.some.injEq] at hu; subst hu
          simp only [St.freezes, Option.some.injEq] at hf; subst hf
          refine ⟨rfl, rfl, rfl, ?_⟩
          let M2 : Frz := fun j => if j = w.heap.size then some (.cells cells e (0, 0)) else M j
          have hle : M.le M2 := by
            intro k o hk
            simp only [M2]
            rw [if_neg]; · exact hk
            intro c; subst c; rw [Frz.none_size h.frz] at hk; cases hk
          refine ⟨M2, hle, plus_kept _ _, ?_, ?_, ?_⟩
          · intro k o hk
            simp only [M2] at hk
            split at hk
            · rename_i c; subst c; cases hk; exact plus_get _ _
            · exact plus_ok h.frz _ k o hk
          · intro k hk
            simp only [M2] at hk
            split at hk
            · omega
            · exact absurd rfl hk
          · have hrow0 : RowC M d (fun j => cells[j]?) := (elemsA_run (Frz.le_refl M) hel hy (fun k hk => by cases hk)).2.2.2 _ r3
            simp only [R]
            refine ⟨some ⟨w.heap.size, 0, none⟩, ys.length, by rw [e2], (by intro b hb; cases hb; rfl), .inr ⟨w.heap.size, 0, rfl, by omega, hrow0.imp hle fun j v hj => ?_⟩⟩
            simp [Frz.cell, M2]; simpa using hj
        · cases hu
      · intro hgd; subst hgd
        simp only [] at hu
        split at hu
        · rename_i i
          cases hnk : notB (memN i ks) <;> rw [hnk] at hu <;> simp only [cond_true, cond_false, reduceCtorEq, Option.some.injEq] at hu
          subst hu
          refine ⟨st1, M', updN ν i (.slice (some ⟨w.heap.size, 0, none⟩) ys.length ys.length), updN_out _ _ _, hf, hM, ?_, ?_⟩
          · refine (Rel.kills st1 (ks := [i]) hrel).new (free_kills st1 (.inl (by simp))) rfl ?_
            refine ⟨some ⟨w.heap.size, 0, none⟩, ys.length, by rw [updN_self, e2], (by intro b hb; cases hb; rfl), .inl ⟨w.heap.size, cells, e, rfl, plus_get _ _, hrow, by omega, ?_⟩⟩
            rw [hdw, r2]; exact Nat.le_refl _
          · simp only [R]; exact ⟨updN_self _ _ _, _, _, _, rfl⟩
        · cases hu

end
end Go.Sx

set_option linter.unusedVariables false
set_option linter.unusedSimpArgs false
namespace Go.Sx
open Go Go.RowKit

section
variable {P : Program} {cx : Ctx} {M M' : Frz} {ν : Nms} {w : World} {g : Nat → Option Ob} {Γ : Env} {sl : List AV} {ob : List (Nat × Ob)} {a : Act} {st : St}

/-! ### structs -/
theorem fill_one {place : Nat → Option (Nat × Nat)} {n : Nat} (hp : ∀ j, j < n → place j = some (j, 1)) : ∀ (ps : List (Nat × Operand)) (vs zs cs : List AV) (ys : List Value) (cells : Array Value) (ρ : Operand → Value),
    zs.length = n → fillA zs ps vs = some cs → RL M ν vs ((snds ps).map ρ) → RL M ν zs cells.toList →
    ∃ cells', Instr.fill place cells (ps.map fun p => (p.1, ρ p.2)) = some cells' ∧ RL M ν cs cells'.toList
  | [], vs, zs, cs, ys, cells, ρ, hz, h, hv, hc => by
    cases vs <;> simp only [fillA, reduceCtorEq, Option.some.injEq] at h
    subst h
    exact ⟨cells, rfl, hc⟩
  | (j, x) :: ps, vs, zs, cs, ys, cells, ρ, hz, h, hv, hc => by
    cases vs with
    | nil => simp [fillA] at h
    | cons v vs =>
      simp only [fillA] at h
      cases hand : andB v.one (Nat.blt j zs.length) <;> rw [hand] at h <;> simp only [cond_true, cond_false, reduceCtorEq] at h
      obtain ⟨h1, h2⟩ := andB_iff.1 hand
      have h2 : j < zs.length := by simpa using h2
      simp only [snds, List.map_cons, RL] at hv
      obtain ⟨y, ys', hy, e1, e2⟩ := hv
      obtain ⟨rfl, rfl⟩ := List.cons.inj hy
      have hone := R_one e1 h1
      have hcl := RL_len hc
      simp only [Array.length_toList] at hcl
      obtain ⟨s1, s2⟩ := setRow_spec cells j (ρ x)
      have hnew : RL M ν (ss zs j v) (setRow cells j (ρ x)).toList := by
        refine RL_of_get (by rw [ss_length]; simp [s1, hcl]) fun i hi => ?_
        rw [ss_length] at hi
        rw [sg_ss, Array.getElem?_toList, s2 i]
        rw [one_cells hone]
        by_cases e : i = j
        · subst e
          rw [if_pos ⟨by omega, by simp, by omega⟩, if_pos ⟨rfl, h2⟩]
          exact ⟨_, by simp, e1⟩
        · rw [if_neg (by simp; omega), if_neg (fun c => e c.1)]
          simpa using RL_get i hc hi
      obtain ⟨cells', r1, r2⟩ := fill_one hp ps vs (ss zs j v) cs ys (setRow cells j (ρ x)) ρ (by rw [ss_length]; exact hz) h e2 hnew
      refine ⟨cells', ?_, r2⟩
      simp only [List.map_cons]
      rw [fill_cons (size := 1) (hp j (by omega)) (by rw [one_cells hone]; rfl) (by omega)]
      exact r1

theorem run_mapM_places (w : World) : ∀ (fs : List Field), (∀ fl, fl ∈ fs → ∃ ti, P.info? fl.type = some ti ∧ ti.size = 1) →
    (fs.mapM fun f => do pure (f.offset, ← sizeOf f.type) : Sem (List (Nat × Nat))).run P w = .ok (fs.map fun f => (f.offset, 1)) w
  | [], _ => rfl
  | fl :: fs, h => by
    obtain ⟨ti, h1, h2⟩ := h fl (by simp)
    simp only [List.mapM_cons, Sem.run_bind, run_so h1, h2, Result.andThen, Sem.run_pure]
    rw [run_mapM_places w fs fun f hf => h f (by simp [hf])]
    rfl

theorem hBuild_run (hc : CtxOK P cx) {t : TypeId} {ps : Array (Nat × Operand)} {vs : List AV} {u : Up} (hu : hBuild cx t ps.toList vs = some u) (hy : RL M ν vs ((snds ps.toList).map a.eval)) :
    u.put = [] ∧ u.kil = [] ∧ u.frz = [] ∧ ∃ v, (Instr.build t (ps.map fun (i, x) => (i, a.eval x))).run P w = .ok v w ∧ R M ν u.val v := by
  unfold hBuild at hu
  split at hu
  · rename_i zs n hz hb
    cases hlen : Nat.beq zs.length n <;> rw [hlen] at hu <;> simp only [cond_true, cond_false, reduceCtorEq] at hu
    have hlen := beqT.1 hlen
    cases hfill : fillA zs ps.toList vs with
    | none => rw [hfill] at hu; cases hu
    | some cs =>
      rw [hfill] at hu
      simp only [up0, Option.some.injEq] at hu; subst hu
      obtain ⟨ti, z, hti, hzz, hRL, _⟩ := hc.zr t zs hz
      have hmap : (ps.map fun (i, x) => (i, a.eval x)).toList = ps.toList.map fun p => (p.1, a.eval p.2) := by simp
      rcases hc.bd t n hb with ⟨fs, hu1, hu2, hu3⟩ | ⟨e, te, hu1, hte, hsz⟩
      · have hpl : ∀ j, j < n → ((fs.toList.map fun f => (f.offset, 1)).toArray[j]?) = some (j, 1) := by
          intro j hj
          have hj' : j < fs.size := by omega
          obtain ⟨h1, _⟩ := hu3 j fs[j] (Array.getElem?_eq_getElem hj')
          simp [hj', h1]
        obtain ⟨cells', r1, r2⟩ := fill_one hpl ps.toList vs zs cs [] z.cells a.eval hlen hfill hy (hRL M ν)
        refine ⟨rfl, rfl, rfl, .agg cells', ?_, by simp only [R]; exact ⟨cells'.toList, by simp, r2⟩⟩
        have hmm : (fs.mapM fun f => do pure (f.offset, ← sizeOf f.type) : Sem (Array (Nat × Nat))).run P w = .ok (fs.toList.map fun f => (f.offset, 1)).toArray w := by
          rw [Array.mapM_eq_mapM_toList]
          simp only [Sem.run_map]
          rw [run_mapM_places w fs.toList fun fl hfl => by
            obtain ⟨j, hj⟩ := List.mem_iff_getElem?.1 hfl
            obtain ⟨_, h2⟩ := hu3 j fl (by simpa using hj)
            exact h2]
          rfl
        simp only [Instr.build, Sem.run_bind, run_zv hti hzz, Result.andThen, run_und hu1, hmm, hmap, r1]
        rfl
      · obtain ⟨cells', r1, r2⟩ := fill_one (place := fun i => some (i * te.size, te.size)) (n := n) (fun j hj => by simp [hsz]) ps.toList vs zs cs [] z.cells a.eval hlen hfill hy (hRL M ν)
        refine ⟨rfl, rfl, rfl, .agg cells', ?_, by simp only [R]; exact ⟨cells'.toList, by simp, r2⟩⟩
        simp only [Instr.build, Sem.run_bind, run_zv hti hzz, Result.andThen, run_und hu1, run_so hte, hmap, r1]
        rfl
  · cases hu

/-! ### made slices -/
theorem wrap_i64 {n : Int} (h0 : 0 ≤ n) (h1 : n ≤ 1000000000) : IntKind.i64.wrap n = n := IntWalk.i64_in n ⟨by omega, by omega⟩

theorem zeroOf_run {ek : EK} {n : Int} {d : SC} (h : zeroOf ek n = some d) (h0 : 0 ≤ n) :
    d.ek = ek ∧ d.lenN = n.toNat ∧ ek.wid = 1 ∧ ∀ cf : Nat → Option Value, (∀ j, j < n.toNat → cf j = some ek.zero) → RowC M d cf := by
  cases ek <;> simp only [zeroOf, reduceCtorEq, Option.some.injEq] at h <;> subst h
  · refine ⟨rfl, by simp [SC.lenN, repL], rfl, fun cf hcf i hi => ?_⟩
    simp only [repL, List.length_replicate] at hi
    rw [hcf i hi]
    simp [repL, List.getD_eq_getElem?_getD, hi, EK.zero]
  · refine ⟨rfl, by simp [SC.lenN, repL], rfl, fun cf hcf i hi => ?_⟩
    simp only [repL, List.length_replicate] at hi
    rw [hcf i hi]
    simp [repL, List.getD_eq_getElem?_getD, hi, EK.zero]
  · refine ⟨rfl, by simp [SC.lenN, repL], rfl, fun cf hcf i hi => ?_⟩
    simp only [repL, List.length_replicate] at hi
    refine ⟨_, hcf i hi, ?_⟩
    simp only [repL, List.getD_eq_getElem?_getD, List.getElem?_replicate, hi, if_true, Option.getD_some]
    exact ⟨none, 0, rfl, .inl rfl⟩

theorem hMkS_run (hc : CtxOK P cx) (h : Rel Γ st.sl st.ob a w M ν) {gd : Bool} {dst : Option Nat} {t : TypeId} {av bv : AV} {x y : Value} {u : Up} (hu : hMkS cx gd dst t [av, bv] = some u) (ho : AllT u.obl)
    (hx : R M ν av x) (hy : R M ν bv y) : u.frz = [] ∧ ∃ v w', (Instr.makeSlice t x y).run P w = .ok v w' ∧ Eff Γ st u a M ν v w' := by
  unfold hMkS at hu
  split at hu
  · rename_i n m heq
    cases heq
    split at hu
    · rename_i d ek hsk
      cases hz : zeroOf ek n with
      | none => rw [hz] at hu; cases hu
      | some dd =>
        rw [hz] at hu
        simp only [Option.some.injEq] at hu; subst hu
        simp only [AllT_cons] at ho
        have h1 := eqI_iff.1 ho.1
        have h2 := leI_iff.1 ho.2.1
        have h3 := leI_iff.1 ho.2.2.1
        subst h1
        simp only [R] at hx hy; subst hx hy
        obtain ⟨e, i, z, ht, hi, hs, hzz, hb1, hb2, hzs, hzc⟩ := hc.sk t ek hsk
        obtain ⟨e1, e2, e3, e4⟩ := zeroOf_run (M := M) hz h2
        have hw := wrap_i64 h2 h3
        have hbytes : ¬ ((i.bytes : Int) * n > 2 ^ 48) := by
          have : (i.bytes : Int) * n ≤ 64 * 1000000000 := Int.mul_le_mul (by omega) h3 h2 (by omega)
          omega
        have hneg : ¬ n < 0 := by omega
        let cells : Array Value := (Array.range (n.toNat * ek.wid)).map ((if n.toNat * ek.wid = 0 then #[] else z.cells)[· % (if n.toNat * ek.wid = 0 then #[] else z.cells).size]!)
        have hrun : (Instr.makeSlice t (.int .i64 n) (.int .i64 n)).run P w = .ok (.slice (some ⟨w.heap.size, 0, none⟩) n.toNat n.toNat) (plus w (.cells cells e)) := by
          simp only [Instr.makeSlice, Sem.run_bind, run_und ht, Result.andThen, asInt, asIntOf, Sem.run_pure, run_ti hi, hw]
          simp only [hneg, decide_false, Bool.false_or, hbytes, decide_eq_true_eq, or_false, false_or, gt_iff_lt, Int.lt_irrefl, Bool.or_false, if_false, Bool.or_eq_true]
          simp only [run_askRoom, run_so hi, hs, Result.andThen, Sem.run_ite, Sem.run_pure, Sem.run_bind, run_zv hi hzz]
          by_cases h0 : n.toNat * ek.wid = 0
          · simp [h0, cells]
            rfl
          · simp [h0, cells]
            rfl
        refine ⟨rfl, _, _, hrun, st, M, updN ν d (.slice (some ⟨w.heap.size, 0, none⟩) n.toNat n.toNat), updN_out _ _ _, rfl, Frz.le_refl M, ?_, ?_⟩
        · refine (Rel.kills st (ks := [d]) h).new (free_kills st (.inl (by simp))) rfl ?_
          refine ⟨some ⟨w.heap.size, 0, none⟩, n.toNat, by rw [updN_self, e2], (by intro b hb; cases hb; rfl), .inl ⟨w.heap.size, cells, e, rfl, plus_get _ _, e4 _ fun j hj => ?_, by omega, ?_⟩⟩
          · have h0 : ¬ n.toNat * ek.wid = 0 := by rw [e3]; omega
            have hz0 := hzc 0 (by omega)
            rw [e3] at hzs
            have hcell : (z.cells[0]!) = ek.zero := by
              rw [getElem!_def, hz0]
            simp only [cells, h0, if_false]
            rw [Array.getElem?_map, Array.getElem?_range, if_pos (by rw [e3]; omega)]
            simp only [Option.map_some, hzs, Nat.mod_one, hcell]
          · have : dd.wid = 1 := by rw [← ek_wid, e1, e3]
            rw [this]
            simp [cells, e3]
        · simp only [R]; exact ⟨updN_self _ _ _, _, _, _, rfl⟩
    · cases hu
  · cases hu

end
end Go.Sx

set_option linter.unusedVariables false
set_option linter.unusedSimpArgs false
namespace Go.Sx
open Go Go.RowKit

section
variable {P : Program} {cx : Ctx} {M M' : Frz} {ν : Nms} {w : World} {g : Nat → Option Ob} {Γ : Env} {sl : List AV} {ob : List (Nat × Ob)} {a : Act} {st : St}

theorem zeroBox_R {d : Nat} : ∀ {es : List (Option EK)} {zs : List AV} {f : Nat} {vs : List Value} {ν' : Nms}, RL M ν zs vs → AV.nmL zs = [] →
    (∀ k, k ∈ namesO (zeroBox d f es zs).2 → ν' k = some (.slice none 0 0)) → RL M ν' (zeroBox d f es zs).1 vs ∧ ∀ k o, (k, o) ∈ (zeroBox d f es zs).2 → ∃ ek : EK, o = .arr (some false) ek.empty
  | [], zs, f, vs, ν', h, hn, hk => by
    simp only [zeroBox]
    exact ⟨RL_nm (fun k hk => by rw [hn] at hk; cases hk) h, fun k o hk => by cases hk⟩
  | e :: es, [], f, vs, ν', h, hn, hk => by
    have hz : zeroBox d f (e :: es) [] = ([], []) := by cases e <;> rfl
    rw [hz]
    exact ⟨by simpa [RL] using h, fun k o hk => by cases hk⟩
  | e :: es, z :: zs, f, vs, ν', h, hn, hk => by
    simp only [RL] at h
    obtain ⟨v, vs', rfl, e1, e2⟩ := h
    simp only [AV.nmL, List.append_eq_nil_iff] at hn
    have plain : zeroBox d f (e :: es) (z :: zs) = (z :: (zeroBox d (f + 1) es zs).1, (zeroBox d (f + 1) es zs).2) →
        RL M ν' (zeroBox d f (e :: es) (z :: zs)).1 (v :: vs') ∧ ∀ k o, (k, o) ∈ (zeroBox d f (e :: es) (z :: zs)).2 → ∃ ek : EK, o = .arr (some false) ek.empty := by
      intro he
      rw [he] at hk ⊢
      obtain ⟨h1, h2⟩ := zeroBox_R (f := f + 1) e2 hn.2 hk
      refine ⟨?_, h2⟩
      simp only [RL]
      exact ⟨v, vs', rfl, R_nm (fun k hk => by rw [hn.1] at hk; cases hk) e1, h1⟩
    cases e with
    | none => exact plain (by cases z <;> rfl)
    | some ek =>
      by_cases hz : z = .nils
      · subst hz
        have he : zeroBox d f (some ek :: es) (.nils :: zs) = (.own (1000 * (f + 1) + d) :: (zeroBox d (f + 1) es zs).1, (1000 * (f + 1) + d, .arr (some false) ek.empty) :: (zeroBox d (f + 1) es zs).2) := rfl
        rw [he] at hk ⊢
        obtain ⟨h1, h2⟩ := zeroBox_R (d := d) (es := es) (f := f + 1) e2 hn.2 (fun k hk' => hk k (by simp only [namesO, List.mem_cons]; exact .inr hk'))
        simp only [R] at e1; subst e1
        refine ⟨?_, ?_⟩
        · simp only [RL]
          exact ⟨_, vs', rfl, by simp only [R]; exact ⟨hk _ (by simp [namesO]), _, _, _, rfl⟩, h1⟩
        · intro k o hko
          rcases List.mem_cons.1 hko with hko | hko
          · obtain ⟨_, rfl⟩ := Prod.mk.inj hko; exact ⟨ek, rfl⟩
          · exact h2 k o hko
      · exact plain (by cases z <;> first | rfl | exact absurd rfl hz)

theorem empty_len (ek : EK) : ek.empty.lenN = 0 := by cases ek <;> rfl

theorem namesO_append : ∀ (l m : List (Nat × Ob)), namesO (l ++ m) = namesO l ++ namesO m
  | [], m => rfl
  | (k, o) :: l, m => by simp [namesO, namesO_append l m]

theorem hAlloc_run (hc : CtxOK P cx) (h : Rel Γ st.sl st.ob a w M ν) {gd : Bool} {dst : Option Nat} {t : TypeId} {u : Up} (hu : hAlloc cx gd dst t [] = some u) :
    u.frz = [] ∧ ∃ v w', (Instr.alloc t true (.tuple #[])).run P w = .ok v w' ∧ Eff Γ st u a M ν v w' := by
  unfold hAlloc at hu
  simp only [] at hu
  split at hu
  · rename_i d zs hz
    cases hnd : nodupN (namesO ((zeroBox d 0 (cx.zk t) zs).2 ++ [(d, .box (zeroBox d 0 (cx.zk t) zs).1)])) <;> rw [hnd] at hu <;> simp only [cond_true, cond_false, reduceCtorEq, Option.some.injEq] at hu
    subst hu
    obtain ⟨ti, z, hti, hzz, hRL, hnn⟩ := hc.zr t zs hz
    have hnd := nodupN_iff.1 hnd
    have hd : d ∉ namesO (zeroBox d 0 (cx.zk t) zs).2 := by
      rw [namesO_append] at hnd
      have := (List.nodup_append.1 hnd).2.2
      intro c
      exact this d c d (by simp [namesO]) rfl
    let ν' : Nms := fun j => if j = d then some (.pointer (some ⟨w.heap.size, 0, none⟩)) else if j ∈ namesO (zeroBox d 0 (cx.zk t) zs).2 then some (.slice none 0 0) else ν j
    have hν1 : ∀ k, k ∈ namesO (zeroBox d 0 (cx.zk t) zs).2 → ν' k = some (.slice none 0 0) := fun k hk => by
      simp only [ν']
      rw [if_neg (fun c : k = d => hd (c ▸ hk)), if_pos hk]
    have hνo : ∀ k, k ∉ namesO ((zeroBox d 0 (cx.zk t) zs).2 ++ [(d, Ob.box (zeroBox d 0 (cx.zk t) zs).1)]) → ν' k = ν k := fun k hk => by
      rw [namesO_append] at hk
      simp only [List.mem_append, namesO, List.mem_singleton, not_or] at hk
      simp only [ν']
      rw [if_neg (by simpa using hk.2), if_neg hk.1]
    have hν2 : ν' d = some (.pointer (some ⟨w.heap.size, 0, none⟩)) := by simp [ν']
    obtain ⟨h1, h2⟩ := zeroBox_R (d := d) (es := cx.zk t) (f := 0) (ν' := ν') (hRL M ν) hnn hν1
    refine ⟨rfl, .pointer (some ⟨w.heap.size, 0, none⟩), plus w (.cells z.cells t), ?_, st, M, ν', hνo, rfl, Frz.le_refl M, ?_, ?_⟩
    · simp only [Instr.alloc, Sem.run_bind, run_zv hti hzz, Result.andThen]
      rfl
    · have hmem : ∀ k o, (k, o) ∈ (zeroBox d 0 (cx.zk t) zs).2 ++ [(d, Ob.box (zeroBox d 0 (cx.zk t) zs).1)] → (k = d ∧ o = .box (zeroBox d 0 (cx.zk t) zs).1) ∨ (k ∈ namesO (zeroBox d 0 (cx.zk t) zs).2 ∧ ∃ ek : EK, o = .arr (some false) ek.empty) := by
        intro k o hk
        rcases List.mem_append.1 hk with hk | hk
        · exact .inr ⟨namesO_mem.2 ⟨o, hk⟩, h2 k o hk⟩
        · simp only [List.mem_singleton, Prod.mk.injEq] at hk
          exact .inl hk
      refine ((Rel.kills st (ks := _) h).plus (.cells z.cells t)).lays hnd (fun j hj => ?_) (fun k hk => .inl (free_kills st (.inl hk))) (fun k o hk => ?_) (fun k o b hk hb => ?_) fun k o b hk hb => ⟨fun j o' hj hjn hbj => ?_, fun j o' hj hjk hbj => ?_⟩
      · rw [namesO_append] at hj
        simp only [List.mem_append, namesO, List.mem_singleton, not_or] at hj
        simp only [ν']
        rw [if_neg (by simpa using hj.2), if_neg hj.1]
      · rcases hmem k o hk with ⟨rfl, rfl⟩ | ⟨hk', ek, rfl⟩
        · exact ⟨w.heap.size, z.cells, t, hν2, plus_get _ _, h1⟩
        · exact ⟨none, 0, by rw [hν1 k hk', empty_len], (by intro b hb; cases hb; rfl), .inr ⟨rfl, empty_len ek, rfl⟩⟩
      · rcases hmem k o hk with ⟨rfl, rfl⟩ | ⟨hk', ek, rfl⟩
        · rw [hν2] at hb; cases hb
          exact ⟨Frz.none_size h.frz, .inl h.kept.size⟩
        · rw [hν1 k hk'] at hb; cases hb
      · rcases hmem k o hk with ⟨rfl, rfl⟩ | ⟨hk', ek, rfl⟩
        · rw [hν2] at hb; cases hb
          have hlt := ObR.lt ((Rel.kills st h).obs j o' hj) hbj
          exact absurd hlt (Nat.lt_irrefl _)
        · rw [hν1 k hk'] at hb; cases hb
      · rcases hmem k o hk with ⟨rfl, rfl⟩ | ⟨hk', ek, rfl⟩
        · rcases hmem j o' hj with ⟨rfl, rfl⟩ | ⟨hj', ek, rfl⟩
          · exact hjk rfl
          · rw [hν1 j hj'] at hbj; cases hbj
        · rw [hν1 k hk'] at hb; cases hb
    · simp only [R]; exact ⟨_, hν2, rfl⟩
  · cases hu

/-! ### what a slice holds -/
theorem RowC_get {d : SC} {cf : Nat → Option Value} (h : RowC M d cf) {p : Nat} (hp : p < d.lenN * d.wid) : ∃ v, cf p = some v ∧ v.oneCell' = true := by
  cases d with
  | i1 xs => simp only [SC.lenN, SC.wid, Nat.mul_one] at hp; exact ⟨_, h p hp, rfl⟩
  | b1 xs => simp only [SC.lenN, SC.wid, Nat.mul_one] at hp; exact ⟨_, h p hp, rfl⟩
  | rows xs =>
    simp only [SC.lenN, SC.wid, Nat.mul_one] at hp
    obtain ⟨v, h1, h2⟩ := h p hp
    refine ⟨v, h1, ?_⟩
    obtain ⟨b, c, rfl, _⟩ := h2; rfl
  | st wd xs =>
    simp only [SC.lenN, SC.wid] at hp
    have hw : 0 < wd := by
      rcases Nat.eq_zero_or_pos wd with e | e
      · subst e; simp at hp
      · exact e
    have h1 : p / wd < xs.length := Nat.div_lt_of_lt_mul (by rw [Nat.mul_comm]; exact hp)
    have h2 := h (p / wd) (p % wd) h1 (Nat.mod_lt _ hw)
    rw [show p / wd * wd + p % wd = p from by rw [Nat.mul_comm]; exact Nat.div_add_mod p wd] at h2
    exact ⟨_, h2, rfl⟩

theorem RowC_list {d : SC} {cf : Nat → Option Value} (h : RowC M d cf) : ∃ l : List Value, l.length = d.lenN * d.wid ∧ (∀ j v, l[j]? = some v → cf j = some v) ∧ RowC M d (fun j => l[j]?) ∧ ∀ v, v ∈ l → v.oneCell' = true := by
  refine ⟨(List.range (d.lenN * d.wid)).map fun p => (cf p).getD undef, by simp, fun j v hj => ?_, ?_, fun v hv => ?_⟩
  · simp only [List.getElem?_map] at hj
    by_cases hlt : j < d.lenN * d.wid
    · obtain ⟨u, hu, _⟩ := RowC_get h hlt
      rw [List.getElem?_range hlt] at hj
      simp only [Option.map_some, Option.some.injEq, hu, Option.getD_some] at hj
      rw [hu, hj]
    · rw [List.getElem?_eq_none (by simp; omega)] at hj; cases hj
  · have key : ∀ p, p < d.lenN * d.wid → ((List.range (d.lenN * d.wid)).map fun p => (cf p).getD undef)[p]? = cf p := by
      intro p hp
      obtain ⟨u, hu, _⟩ := RowC_get h hp
      rw [List.getElem?_map, List.getElem?_range hp]
      simp [hu]
    cases d with
    | i1 xs => exact fun i hi => (key i (by simpa [SC.lenN, SC.wid] using hi)).trans (h i hi)
    | b1 xs => exact fun i hi => (key i (by simpa [SC.lenN, SC.wid] using hi)).trans (h i hi)
    | rows xs =>
      intro i hi
      obtain ⟨v, h1, h2⟩ := h i hi
      exact ⟨v, (key i (by simpa [SC.lenN, SC.wid] using hi)).trans h1, h2⟩
    | st wd xs => exact fun i f hi hf => (key (i * wd + f) (by simpa [SC.lenN, SC.wid] using pair_lt hi hf)).trans (h i f hi hf)
  · simp only [List.mem_map, List.mem_range] at hv
    obtain ⟨p, hp, rfl⟩ := hv
    obtain ⟨u, hu, ho⟩ := RowC_get h hp
    rw [hu]; exact ho

/-- The row that stands in memory behind a slice. -/
theorem contA_run {ek : EK} {av : AV} {x : Value} {d : SC} (h : contA g ek av = some d) (hx : R M ν av x) (hob : Obs M ν w g) (hf : M.ok w) :
    ∃ base n c, x = .slice base n c ∧ n = d.lenN ∧ ∃ l : List Value, l.length = n * d.wid ∧ RowC M d (fun j => l[j]?) ∧ (∀ v, v ∈ l → v.oneCell' = true) ∧
      ∀ n' (w1 : World), n' ≤ n → w1.heap = w.heap → (Builtin.firstCells d.wid n' x).run P w1 = .ok (l.take (n' * d.wid)).toArray w1 := by
  have fin : ∀ (d : SC) (b o n c : Nat) (cf : Nat → Option Value), n = d.lenN → RowC M d cf → (∀ j v, cf j = some v → w.cell? ⟨b, o + j, none⟩ = some v) →
      ∃ l : List Value, l.length = n * d.wid ∧ RowC M d (fun j => l[j]?) ∧ (∀ v, v ∈ l → v.oneCell' = true) ∧
        ∀ n' (w1 : World), n' ≤ n → w1.heap = w.heap → (Builtin.firstCells d.wid n' (.slice (some ⟨b, o, none⟩) n c)).run P w1 = .ok (l.take (n' * d.wid)).toArray w1 := by
    intro d b o n c cf hn hr hcell
    obtain ⟨l, h1, h2, h3, h4⟩ := RowC_list hr
    refine ⟨l, by rw [h1, hn], h3, h4, fun n' w1 hn' hw1 => ?_⟩
    have := run_loadCells (P := P) (w := w1) b o (l.take (n' * d.wid)) fun j v hj => (World.cell?_of_block (w := w) (by rw [hw1])).trans (hcell j v (h2 j v (by
      rw [List.getElem?_take] at hj
      split at hj
      · exact hj
      · cases hj)))
    rw [List.length_take, h1, ← hn, Nat.min_eq_left (Nat.mul_le_mul_right _ hn')] at this
    simpa [Builtin.firstCells] using this
  have nil : ∀ (d : SC) (base : Option Addr) (n c : Nat), n = d.lenN → d.lenN = 0 → (base = none ∨ ∃ b o, base = some ⟨b, o, none⟩) → ∃ l : List Value, l.length = n * d.wid ∧ RowC M d (fun j => l[j]?) ∧ (∀ v, v ∈ l → v.oneCell' = true) ∧
        ∀ n' (w1 : World), n' ≤ n → w1.heap = w.heap → (Builtin.firstCells d.wid n' (.slice base n c)).run P w1 = .ok (l.take (n' * d.wid)).toArray w1 := by
    intro d base n c hn hz hb
    refine ⟨[], by simp [hn, hz], ?_, by simp, fun n' w1 hn' hw1 => ?_⟩
    rotate_left
    obtain rfl : n' = 0 := by omega
    rotate_left
    · cases d <;> simp [SC.lenN] at hz <;> simp [RowC, RowI, hz]
    · rcases hb with rfl | ⟨b, o, rfl⟩
      · simp [Builtin.firstCells]
      · simp [Builtin.firstCells, loadCells, loadCellsFrom]
  unfold contA at h
  split at h
  · simp only [Option.some.injEq] at h; subst h
    simp only [R] at hx; subst hx
    exact ⟨none, 0, 0, rfl, (empty_len ek).symm, nil _ none 0 0 (empty_len ek).symm (empty_len ek) (.inl rfl)⟩
  · rename_i nk d
    simp only [Option.some.injEq] at h; subst h
    simp only [R] at hx
    obtain ⟨base, cap, rfl, _, hcase⟩ := hx
    refine ⟨base, _, cap, rfl, rfl, ?_⟩
    by_cases hz : d.lenN = 0
    · cases base with
      | none => exact nil d none _ cap rfl hz (.inl rfl)
      | some ad =>
        refine ⟨[], by simp [hz], ?_, by simp, fun n' w1 hn' hw1 => ?_⟩
        · cases d <;> simp [SC.lenN] at hz <;> simp [RowC, RowI, hz]
        · obtain rfl : n' = 0 := by omega
          simp [Builtin.firstCells, loadCells, loadCellsFrom]
    · rcases hcase with hz' | ⟨b, o, rfl, hcap, hr⟩
      · exact absurd hz' hz
      · exact fin d b o _ cap _ rfl hr fun j v hj => Frz.cell_ok hf hj
  · rename_i k
    cases hk : g k with
    | none => rw [hk] at h; cases h
    | some p =>
      rw [hk] at h
      cases p <;> simp only [reduceCtorEq, Option.some.injEq] at h
      rename_i nk d'
      subst h
      obtain ⟨base, cap, hν, _, hcase⟩ := hob k _ hk
      simp only [R] at hx
      obtain ⟨hx, _⟩ := hx
      rw [hν] at hx; cases hx
      refine ⟨base, _, cap, rfl, rfl, ?_⟩
      rcases hcase with ⟨b, cs, e, rfl, hh, hr, hcap, hsz⟩ | ⟨rfl, hz, _⟩
      · exact fin _ b 0 _ cap _ rfl hr fun j v hj => by simp [World.cell?, hh]; simpa using hj
      · exact nil _ none _ cap rfl hz (.inl rfl)
  · rename_i k wd lo hi
    cases hk : g k with
    | none => rw [hk] at h; cases h
    | some p =>
      rw [hk] at h
      cases p <;> simp only [reduceCtorEq] at h
      rename_i nk d'
      cases hw : Nat.beq wd d'.wid <;> rw [hw] at h <;> simp only [cond_true, cond_false, reduceCtorEq, Option.some.injEq] at h
      subst h
      have hwd := beqT.1 hw; subst hwd
      obtain ⟨base2, cap2, hν2, _, hcase⟩ := hob k _ hk
      simp only [R] at hx
      obtain ⟨base, base', n, cap, hν, hb, hl0, hl1, hl2, hl3, rfl, hsome, hbase, hzb⟩ := hx
      rw [hν] at hν2; cases hν2
      refine ⟨base', _, _, rfl, (sub_lenN d' hl0 hl1 hl2).symm, ?_⟩
      by_cases hz : lo = hi
      · refine ⟨[], (by have h0 : (hi - lo).toNat = 0 := by omega
                        rw [h0]; simp), ?_, by simp, fun n' w1 hn' hw1 => ?_⟩
        · have hz' : (d'.sub lo hi).lenN = 0 := by rw [sub_lenN d' hl0 hl1 hl2]; omega
          cases hd : d'.sub lo hi <;> rw [hd] at hz' <;> simp [SC.lenN] at hz' <;> simp [RowC, RowI, hz']
        · obtain rfl : n' = 0 := by omega
          cases base' <;> simp [Builtin.firstCells, loadCells, loadCellsFrom]
      · have hb' := hbase (by omega)
        subst hb'
        rcases hcase with ⟨b, cs, e, rfl, hh, hr, hcap, hsz⟩ | ⟨rfl, hz', _⟩
        · refine fin (d'.sub lo hi) b (0 + lo.toNat * d'.wid) _ _ _ (sub_lenN d' hl0 hl1 hl2).symm (hr.sub hl0 hl1 hl2) fun j v hj => ?_
          simp [World.cell?, hh]; simpa using hj
        · omega
  · cases h

end
end Go.Sx

set_option linter.unusedVariables false
set_option linter.unusedSimpArgs false
namespace Go.Sx
open Go Go.RowKit

section
variable {P : Program} {cx : Ctx} {M M' : Frz} {ν : Nms} {w : World} {g : Nat → Option Ob} {Γ : Env} {sl : List AV} {ob : List (Nat × Ob)} {a : Act} {st : St}

theorem getD_append {α : Type} (xs ys : List α) (i : Nat) (z : α) : (xs ++ ys).getD i z = if i < xs.length then xs.getD i z else ys.getD (i - xs.length) z := by
  simp only [List.getD_eq_getElem?_getD, List.getElem?_append]
  split <;> rfl

theorem RowC.cat {d dx d' : SC} {f h F : Nat → Option Value} (hc : d.cat dx = some d') (h1 : RowC M d f) (h2 : RowC M dx h)
    (hF1 : ∀ p, p < d.lenN * d.wid → F p = f p) (hF2 : ∀ q, q < dx.lenN * d.wid → F (d.lenN * d.wid + q) = h q) :
    RowC M d' F ∧ d'.lenN = d.lenN + dx.lenN ∧ d'.wid = d.wid ∧ d'.ek = d.ek := by
  cases d <;> cases dx <;> simp only [SC.cat, reduceCtorEq, Option.some.injEq] at hc
  · subst hc
    rename_i xs ys
    simp only [SC.lenN, SC.wid, Nat.mul_one] at hF1 hF2
    refine ⟨fun i hi => ?_, by simp [SC.lenN, catL], rfl, rfl⟩
    simp only [catL, List.length_append] at hi ⊢
    rw [getD_append]
    by_cases hlt : i < xs.length
    · rw [if_pos hlt, hF1 i hlt]; exact h1 i hlt
    · rw [if_neg hlt]
      have := hF2 (i - xs.length) (by omega)
      rw [show xs.length + (i - xs.length) = i from by omega] at this
      rw [this]; exact h2 _ (by omega)
  · subst hc
    rename_i xs ys
    simp only [SC.lenN, SC.wid, Nat.mul_one] at hF1 hF2
    refine ⟨fun i hi => ?_, by simp [SC.lenN, catL], rfl, rfl⟩
    simp only [catL, List.length_append] at hi ⊢
    rw [getD_append]
    by_cases hlt : i < xs.length
    · rw [if_pos hlt, hF1 i hlt]; exact h1 i hlt
    · rw [if_neg hlt]
      have := hF2 (i - xs.length) (by omega)
      rw [show xs.length + (i - xs.length) = i from by omega] at this
      rw [this]; exact h2 _ (by omega)
  · rename_i wd xs wd' ys
    cases hw : Nat.beq wd wd' <;> rw [hw] at hc <;> simp only [cond_true, cond_false, reduceCtorEq, Option.some.injEq] at hc
    subst hc
    have := beqT.1 hw; subst this
    simp only [SC.lenN, SC.wid] at hF1 hF2
    refine ⟨fun i q hi hq => ?_, by simp [SC.lenN, catL], rfl, rfl⟩
    simp only [catL, List.length_append] at hi ⊢
    rw [getD_append]
    by_cases hlt : i < xs.length
    · rw [if_pos hlt, hF1 _ (pair_lt hlt hq)]; exact h1 i q hlt hq
    · rw [if_neg hlt]
      have := hF2 ((i - xs.length) * wd + q) (pair_lt (by omega) hq)
      have e : xs.length * wd + ((i - xs.length) * wd + q) = i * wd + q := by
        rw [← Nat.add_assoc, ← Nat.add_mul, show xs.length + (i - xs.length) = i from by omega]
      rw [e] at this
      rw [this]; exact h2 _ q (by omega) hq
  · subst hc
    rename_i xs ys
    simp only [SC.lenN, SC.wid, Nat.mul_one] at hF1 hF2
    refine ⟨fun i hi => ?_, by simp [SC.lenN, catL], rfl, rfl⟩
    simp only [catL, List.length_append] at hi ⊢
    rw [getD_append]
    by_cases hlt : i < xs.length
    · rw [if_pos hlt, hF1 i hlt]; exact h1 i hlt
    · rw [if_neg hlt]
      have := hF2 (i - xs.length) (by omega)
      rw [show xs.length + (i - xs.length) = i from by omega] at this
      rw [this]; exact h2 _ (by omega)

theorem cat_len {d dx d' : SC} (hc : d.cat dx = some d') : d'.lenN = d.lenN + dx.lenN ∧ d'.wid = d.wid ∧ d'.ek = d.ek := by
  cases d <;> cases dx <;> simp only [SC.cat, reduceCtorEq, Option.some.injEq] at hc
  · subst hc; simp [SC.lenN, SC.wid, SC.ek, catL]
  · subst hc; simp [SC.lenN, SC.wid, SC.ek, catL]
  · rename_i wd xs wd' ys
    cases hw : Nat.beq wd wd' <;> rw [hw] at hc <;> simp only [cond_true, cond_false, reduceCtorEq, Option.some.injEq] at hc
    subst hc; simp [SC.lenN, SC.wid, SC.ek, catL]
  · subst hc; simp [SC.lenN, SC.wid, SC.ek, catL]

theorem ne_len (d : SC) : d.ne = decide (d.lenN ≠ 0) := by
  cases d <;> rename_i xs <;> cases xs <;> simp [SC.ne, nonE, SC.lenN]

/-! ### append, as the model has it -/
theorem nextcap_le {need old : Nat} (h : old < need) (hn : need ≤ 1000000000) : Builtin.nextslicecap need old ≤ 8000000000 := by
  unfold Builtin.nextslicecap
  split
  · omega
  · split
    · omega
    · have : ∀ r c, c ≤ 2000000000 → Builtin.growBy need r c ≤ 2000000000 := by
        intro r
        induction r with
        | zero => intro c hc; simpa [Builtin.growBy] using hc
        | succ r ih =>
          intro c hc
          simp only [Builtin.growBy]
          split
          · omega
          · exact ih _ (by omega)
      have := this 4 old (by omega)
      omega

/-- Within the capacity. -/
theorem run_append_in (hc : CtxOK P cx) {t t' : TypeId} {ek ek' : EK} (hsk : cx.sk t = some ek) (hsk' : cx.sk t' = some ek') {base xb : Option Addr} {n c m xc : Nat} {l : List Value} {ty : TypeId} {ts : Array TypeId}
    (h0 : ts[0]? = some t) (h1 : ts[1]? = some t') (hm : n + m ≤ c) (hl : (Builtin.firstCells ek.wid m (.slice xb m xc)).run P w = .ok l.toArray w) {w' : World}
    (hst : (match base with | some ad => (storeCells (ad.add (n * ek.wid)) l).run P w = .ok () w' | none => w' = w)) :
    (Builtin.append_ ts ty #[.slice base n c, .slice xb m xc]).run P w = .ok (.slice base (n + m) c) w' := by
  obtain ⟨e, i, z, ht, hi, hs, _⟩ := hc.sk t ek hsk
  obtain ⟨e', i', z', ht', _⟩ := hc.sk t' ek' hsk'
  cases base with
  | none =>
    simp only at hst; subst hst
    simp only [Builtin.append_, h0, h1, List.getElem?_toArray, List.getElem?_cons_zero, List.getElem?_cons_succ, Sem.run_bind, run_und ht, Result.andThen, run_so hi, hs, run_und ht', Sem.run_pure]
    simp [Builtin.lenOf, hm, hl]
  | some ad =>
    simp only at hst
    simp only [Builtin.append_, h0, h1, List.getElem?_toArray, List.getElem?_cons_zero, List.getElem?_cons_succ, Sem.run_bind, run_und ht, Result.andThen, run_so hi, hs, run_und ht', Sem.run_pure]
    simp [Builtin.lenOf, hm, hl, hst]

/-- Beyond it. -/
theorem run_append_out (hc : CtxOK P cx) {t t' : TypeId} {ek ek' : EK} (hsk : cx.sk t = some ek) (hsk' : cx.sk t' = some ek') {base xb : Option Addr} {n c m xc : Nat} {l old : List Value} {ty : TypeId} {ts : Array TypeId}
    (h0 : ts[0]? = some t) (h1 : ts[1]? = some t') (hm : ¬ n + m ≤ c) (hr : n + m ≤ 1000000000)
    (hl : ∀ w1 : World, w1.heap = w.heap → (Builtin.firstCells ek.wid m (.slice xb m xc)).run P w1 = .ok l.toArray w1)
    (ho : ∀ w1 : World, w1.heap = w.heap → (Builtin.firstCells ek.wid n (.slice base n c)).run P w1 = .ok old.toArray w1) (hol : old.length = n * ek.wid) (hll : l.length = m * ek.wid) :
    ∃ cap cells e, (Builtin.append_ ts ty #[.slice base n c, .slice xb m xc]).run P w = .ok (.slice (some ⟨w.heap.size, 0, none⟩) (n + m) cap) (plus { w with drawn := w.drawn + 1 } (.cells cells e)) ∧
      n + m ≤ cap ∧ cells.size = cap * ek.wid ∧ ∀ p, p < (n + m) * ek.wid → cells[p]? = (old ++ l)[p]? := by
  obtain ⟨e, i, z, ht, hi, hs, hz, hb1, hb2, hzs, _⟩ := hc.sk t ek hsk
  obtain ⟨e', i', z', ht', _⟩ := hc.sk t' ek' hsk'
  have hcap : ¬ (Builtin.nextslicecap (n + m) c * i.bytes > 2 ^ 48) := by
    have h2 := nextcap_le (need := n + m) (old := c) (by omega) hr
    have : Builtin.nextslicecap (n + m) c * i.bytes ≤ 8000000000 * 64 := Nat.mul_le_mul h2 hb2
    omega
  have hbz : ¬ i.bytes = 0 := by omega
  let cap := (Question.appendCap (n + m) c e).cut (w.tape w.drawn (.appendCap (n + m) c e))
  have hcapge : n + m ≤ cap := by simp only [cap, Question.cut]; omega
  let cells : Array Value := old.toArray ++ l.toArray ++ Builtin.zeroCells z.cells (cap - (n + m))
  refine ⟨cap, cells, e, ?_, hcapge, ?_, fun p hp => ?_⟩
  · simp only [Builtin.append_, h0, h1, List.getElem?_toArray, List.getElem?_cons_zero, List.getElem?_cons_succ, Sem.run_bind, run_und ht, Result.andThen, run_so hi, hs, run_und ht', Sem.run_pure]
    simp only [Builtin.lenOf, Sem.run_pure, Result.andThen, hm, if_false, Sem.run_bind, run_ti hi, hbz, or_false, false_or, and_false, hcap, Bool.false_eq_true]
    simp only [run_choose, Question.forced, Bool.false_eq_true, if_false, Result.andThen, run_askRoom]
    rw [ho { w with drawn := w.drawn + 1 } rfl]
    simp only [Result.andThen, Bool.not_false, if_true]
    rw [hl { w with drawn := w.drawn + 1 } rfl]
    simp only [Result.andThen, run_zv hi hz, newRow, Sem.run_bind, run_newObj, Sem.run_pure]
    rfl
  · simp only [cells, Array.size_append, List.size_toArray, hol, hll, Builtin.zeroCells, Array.size_map, Array.size_range, hzs]
    rw [← Nat.add_mul, ← Nat.add_mul, show n + m + (cap - (n + m)) = cap from by omega]
  · simp only [cells]
    rw [Array.getElem?_append, if_pos (by simp only [Array.size_append, List.size_toArray, hol, hll, ← Nat.add_mul]; exact hp)]
    simp

/-- A row that was cut from the state is laid again, its block turned. -/
theorem Rel.relay (h : Rel Γ st.sl st.ob a w M ν) {k b : Nat} {o o' : Ob} {v v' : Value} {cs' : Array Value} {e : TypeId} {w' : World} (hk : og st.ob k = some o) (hν : ν k = some v) (hb : blkV (some v) = some b)
    (hb' : blkV (some v') = some b) (ht : Turned b cs' e w w') (ho : ObR M (updN ν k v') w' k o') :
    Rel Γ (st.kill k).sl (op (st.kill k).ob k o') a w' M (updN ν k v') := by
  have hmine := h.mine k o b hk (by rw [hν]; exact hb)
  have hkept : Kept Γ.F Γ.w0 w' := by
    refine ⟨ht.os.trans h.kept.os, ht.tape.trans h.kept.tape, ht.output.trans h.kept.output, by rw [ht.size]; exact h.kept.size, fun j hj hn => ?_⟩
    rw [ht.else_ j ?_]
    · exact h.kept.block j hj hn
    · intro e; subst e
      rcases hmine.2 with h2 | h2
      · omega
      · exact hn h2
  have hother : ∀ j o2 b2, og (st.kill k).ob j = some o2 → blkV (ν j) = some b2 → b2 ≠ b ∧ M b2 = none := by
    intro j o2 b2 hj hbj
    simp only [St.kill, og_klO] at hj
    split at hj
    · cases hj
    · rename_i hne
      cases hp : og st.ob j with
      | none => rw [hp] at hj; cases hj
      | some p =>
        exact ⟨fun e => h.inj k j o p b hk hp (fun c => hne c.symm) (by rw [hν]; exact hb) (by rw [hbj, e]), (h.mine j p b2 hp hbj).1⟩
  refine (((h.kill k).world (Frz.le_refl M) (w' := w') ?_ hkept ?_)).lay (.inl (free_kill k)) ho (fun b2 hb2 => ?_) fun j o2 b2 hj hne hb2 hbj => ?_
  · intro j o2 hj
    rw [ht.else_ j (fun e => by rw [e, hmine.1] at hj; cases hj)]
    exact h.frz j o2 hj
  · intro j o2 b2 hj hbj
    obtain ⟨h1, h2⟩ := hother j o2 b2 hj hbj
    exact ⟨ht.else_ b2 h1, h2⟩
  · rw [hb'] at hb2; cases hb2; exact hmine
  · rw [hb'] at hb2; cases hb2
    exact (hother j o2 b hj hbj).1 rfl

theorem drawn_kept (w : World) : Kept [] w { w with drawn := w.drawn + 1 } := ⟨rfl, rfl, rfl, Nat.le_refl _, fun _ _ _ => rfl⟩
theorem Rel.drawn (h : Rel Γ sl ob a w M ν) : Rel Γ sl ob a { w with drawn := w.drawn + 1 } M ν :=
  h.grown (drawn_kept w) (Frz.le_refl M) h.frz fun k hk => absurd rfl hk

theorem appendA_run (hc : CtxOK P cx) (h : Rel Γ st.sl st.ob a w M ν) {t t' : TypeId} {ek : EK} (hsk : cx.sk t = some ek) (hsk' : cx.sk t' = some ek) {dst : Nat} {sv xv : AV} {s x : Value} {u : Up} {ty : TypeId} {ts : Array TypeId}
    (h0 : ts[0]? = some t) (h1 : ts[1]? = some t') (hu : appendA (og st.ob) ek dst sv xv = some u) (ho : AllT u.obl) (hs : R M ν sv s) (hx : R M ν xv x) :
    u.frz = [] ∧ ∃ v w', (Builtin.append_ ts ty #[s, x]).run P w = .ok v w' ∧ Eff Γ st u a M ν v w' := by
  unfold appendA at hu
  cases hcont : contA (og st.ob) ek xv with
  | none => rw [hcont] at hu; cases hu
  | some dx =>
    rw [hcont] at hu
    simp only [] at hu
    cases hsame : ek.same dx.ek <;> rw [hsame] at hu <;> simp only [cond_true, cond_false, reduceCtorEq] at hu
    have hekx := same_eq hsame
    have hwx : dx.wid = ek.wid := by rw [← ek_wid, hekx]
    obtain ⟨xb, m, xc, rfl, hm, l, hl1, hl2, hl3, hl4⟩ := contA_run (P := P) hcont hx h.obs h.frz
    rw [hwx] at hl1 hl4
    have hl5 : ∀ w1 : World, w1.heap = w.heap → (Builtin.firstCells ek.wid m (.slice xb m xc)).run P w1 = .ok l.toArray w1 := by
      intro w1 hw1
      rw [hl4 m w1 (Nat.le_refl _) hw1, List.take_of_length_le (by omega)]
    have hne : dx.ne = decide (m ≠ 0) := by rw [ne_len, hm]
    split at hu
    · -- the nil slice
      simp only [Option.some.injEq] at hu; subst hu
      simp only [R] at hs; subst hs
      have hroom := leI_iff.1 (AllT_cons.1 ho).1
      rw [len_eq] at hroom
      by_cases hz : m = 0
      · have hl0 : l = [] := List.eq_nil_of_length_eq_zero (by rw [hl1, hz]; simp)
        refine ⟨rfl, _, _, run_append_in hc hsk hsk' h0 h1 (by omega) (hl5 w rfl) rfl, st, M, updN ν dst (.slice none 0 0), updN_out _ _ _, rfl, Frz.le_refl M, ?_, ?_⟩
        · exact (Rel.kills st (ks := [dst]) h).newNil (free_kills st (.inl (by simp))) (by intro b hb; cases hb; rw [hne]; simp [hz]) (by omega)
        · simp only [R, hz]; exact ⟨updN_self _ _ _, _, _, _, rfl⟩
      · obtain ⟨cap, cells, e, r1, r2, r3, r4⟩ := run_append_out (P := P) (w := w) (old := []) (n := 0) (c := 0) (base := none) (ty := ty) hc hsk hsk' h0 h1 (by omega) (by omega) hl5 (fun w1 _ => rfl) (by simp) hl1
        simp only [Nat.zero_add, List.nil_append] at r1 r2 r4
        refine ⟨rfl, _, _, r1, st, M, updN ν dst (.slice (some ⟨w.heap.size, 0, none⟩) m cap), updN_out _ _ _, rfl, Frz.le_refl M, ?_, ?_⟩
        · refine (Rel.kills st (ks := [dst]) h.drawn).new (free_kills st (.inl (by simp))) rfl ?_
          refine ⟨some ⟨w.heap.size, 0, none⟩, cap, by rw [updN_self, hm], (by intro b hb; cases hb; rw [hne]; simp [hz]), .inl ⟨w.heap.size, cells, e, rfl, plus_get _ _, ?_, by omega, by rw [hwx, r3]; exact Nat.le_refl _⟩⟩
          refine hl2.imp (Frz.le_refl M) fun j v hj => ?_
          have hj' : j < m * ek.wid := by rw [← hl1]; exact (List.getElem?_eq_some_iff.1 hj).1
          rw [r4 j hj']; exact hj
        · simp only [R]; exact ⟨updN_self _ _ _, _, _, _, rfl⟩
    · -- an owned row
      rename_i k
      cases hk : og st.ob k with
      | none => rw [hk] at hu; cases hu
      | some p =>
        rw [hk] at hu
        cases p <;> simp only [reduceCtorEq] at hu
        rename_i nk d
        cases hsd : ek.same d.ek <;> rw [hsd] at hu <;> simp only [cond_true, cond_false, reduceCtorEq] at hu
        cases hcat : d.cat dx with
        | none => rw [hcat] at hu; cases hu
        | some d' =>
          rw [hcat] at hu
          simp only [Option.some.injEq] at hu; subst hu
          have hekd := same_eq hsd
          have hwd : d.wid = ek.wid := by rw [← ek_wid, hekd]
          have hroom := leI_iff.1 (AllT_cons.1 ho).1
          rw [len_eq] at hroom
          obtain ⟨base, cap, hν, hn, hcase⟩ := h.obs k _ hk
          simp only [R] at hs
          obtain ⟨hs, _⟩ := hs
          rw [hν] at hs; cases hs
          -- the nil flag
          have hnil : ∀ (base' : Option Addr), (m ≠ 0 → base'.isSome = true) → (m = 0 → base' = base) → ∀ b, nkCat nk dx.ne = some b → base'.isSome = b := by
            intro base' hb1 hb2 b hb
            cases nk with
            | none => simp [nkCat] at hb
            | some b0 =>
              have hb0 := hn b0 rfl
              simp only [nkCat, Option.some.injEq] at hb
              rw [hne] at hb
              by_cases hz : m = 0
              · simp only [hz, ne_eq, not_true_eq_false, decide_false, iteB] at hb
                subst hb
                rw [hb2 hz]; exact hb0
              · simp only [hz, ne_eq, not_false_eq_true, decide_true, iteB] at hb
                subst hb
                exact hb1 hz
          have hlen' : d'.lenN = d.lenN + m ∧ d'.wid = d.wid := by
            obtain ⟨g1, g2, _⟩ := cat_len hcat
            exact ⟨by rw [g1, hm], g2⟩
          rw [hlen'.1] at hroom
          by_cases hin : d.lenN + m ≤ cap
          · rcases hcase with ⟨b, cs, e, rfl, hh, hr, hcap, hsz⟩ | ⟨rfl, hz, rfl⟩
            · have hspace : d.lenN * ek.wid + 0 + l.length ≤ cs.size := by
                rw [hl1, Nat.add_zero, ← Nat.add_mul]
                rw [hwd] at hsz
                exact Nat.le_trans (Nat.mul_le_mul_right _ hin) hsz
              obtain ⟨w', cs', s1, s2, s3, s4⟩ := run_storeCells (P := P) (o := d.lenN * ek.wid) l 0 hh hspace hl3
              have hrow := RowC.cat (F := fun j => cs'[j]?) hcat hr hl2 (fun p hp => by
                rw [hwd] at hp
                show cs'[p]? = cs[p]?
                rw [s4 p, if_neg (by omega)]) (fun q hq => by
                rw [hwd, ← hm, ← hl1] at hq
                show cs'[d.lenN * d.wid + q]? = l[q]?
                rw [hwd, s4 _, if_pos (by omega)]
                congr 1
                omega)
              refine ⟨rfl, _, w', run_append_in (ty := ty) hc hsk hsk' h0 h1 hin (hl5 w rfl) (by simp only [add0, Nat.zero_add]; exact s1), st, M, updN ν k (.slice (some ⟨b, 0, none⟩) (d.lenN + m) cap), updN_out _ _ _, rfl, Frz.le_refl M, ?_, ?_⟩
              · exact h.relay hk hν rfl rfl s2 ⟨some ⟨b, 0, none⟩, cap, by rw [updN_self, hrow.2.1, hm], hnil _ (fun _ => rfl) (fun _ => rfl), .inl ⟨b, cs', e, rfl, s2.here, hrow.1, by rw [hrow.2.1, ← hm]; exact hin, by rw [hrow.2.2.1, s3]; exact hsz⟩⟩
              · simp only [R]; exact ⟨updN_self _ _ _, _, _, _, rfl⟩
            · have hm0 : m = 0 := by omega
              refine ⟨rfl, _, w, run_append_in (ty := ty) hc hsk hsk' h0 h1 hin (hl5 w rfl) rfl, st, M, updN ν k (.slice none (d.lenN + m) 0), updN_out _ _ _, rfl, Frz.le_refl M, ?_, ?_⟩
              · rw [show d.lenN + m = 0 from by omega]
                exact (Rel.kills st (ks := [k]) h).newNil (free_kills st (.inl (by simp))) (fun b hb => (hnil none (fun c => absurd hm0 c) (fun _ => rfl) b hb).symm) (by omega)
              · simp only [R]; exact ⟨updN_self _ _ _, _, _, _, rfl⟩
          · have hcont2 : contA (og st.ob) ek (.own k) = some d := by simp [contA, hk]
            obtain ⟨base2, n2, cap2, e2, hn2, old, o1, o2, o3, o4⟩ := contA_run (P := P) (ek := ek) hcont2 (x := .slice base d.lenN cap) (by simp only [R]; exact ⟨hν, _, _, _, rfl⟩) h.obs h.frz
            cases e2
            rw [hwd] at o1 o4
            obtain ⟨cap', cells, e, r1, r2, r3, r4⟩ := run_append_out (P := P) (w := w) (ty := ty) hc hsk hsk' h0 h1 hin (by omega) hl5 (fun w1 hw1 => by rw [o4 d.lenN w1 (Nat.le_refl _) hw1, List.take_of_length_le (by omega)]) o1 hl1
            have hrow := RowC.cat (F := fun j => cells[j]?) hcat o2 hl2 (fun p hp => by
                rw [hwd] at hp
                show cells[p]? = old[p]?
                rw [r4 p (by rw [Nat.add_mul]; omega), List.getElem?_append_left (by omega)]) (fun q hq => by
                rw [hwd, ← hm] at hq
                show cells[d.lenN * d.wid + q]? = l[q]?
                rw [hwd, r4 _ (by rw [Nat.add_mul]; omega), List.getElem?_append_right (by omega)]
                congr 1
                omega)
            refine ⟨rfl, _, _, r1, st, M, updN ν k (.slice (some ⟨w.heap.size, 0, none⟩) (d.lenN + m) cap'), updN_out _ _ _, rfl, Frz.le_refl M, ?_, ?_⟩
            · refine (Rel.kills st (ks := [k]) h.drawn).new (free_kills st (.inl (by simp))) rfl ?_
              have hcapn : d.lenN ≤ cap := by
                rcases hcase with ⟨_, _, _, _, _, _, hcap, _⟩ | ⟨_, hz, hcz⟩ <;> omega
              exact ⟨some ⟨w.heap.size, 0, none⟩, cap', by rw [updN_self, hrow.2.1, hm], hnil _ (fun _ => rfl) (fun c => by omega), .inl ⟨w.heap.size, cells, e, rfl, plus_get _ _, hrow.1, by rw [hrow.2.1, ← hm]; exact r2, by rw [hrow.2.2.1, hwd, r3]; exact Nat.le_refl _⟩⟩
            · simp only [R]; exact ⟨updN_self _ _ _, _, _, _, rfl⟩
    · -- a delete: the row's end is moved down
      rename_i k wd lo hi
      cases hk : og st.ob k with
      | none => rw [hk] at hu; simp at hu
      | some p =>
        rw [hk] at hu
        cases p with
        | box cs => simp at hu
        | map ks => simp at hu
        | itr ks cur => simp at hu
        | arr nk d =>
          cases xv with
          | sub k' w' lo' hi' =>
            simp only [] at hu
            cases hand : andB (ek.same d.ek) (andB (Nat.beq k k') (andB (Nat.beq wd d.wid) (Nat.beq w' d.wid))) <;> rw [hand] at hu <;> simp only [cond_true, cond_false, reduceCtorEq] at hu
            obtain ⟨hsd, hand⟩ := andB_iff.1 hand
            obtain ⟨hkk, hand⟩ := andB_iff.1 hand
            obtain ⟨hw1, hw2⟩ := andB_iff.1 hand
            have hkk := beqT.1 hkk; subst hkk
            have hw1 := beqT.1 hw1; subst hw1
            have hw2 := beqT.1 hw2; subst hw2
            have hekd := same_eq hsd
            have hwd : d.wid = ek.wid := by rw [← ek_wid, hekd]
            cases hc1 : (d.sub 0 hi).cat dx with
            | none => rw [hc1] at hu; simp at hu
            | some d1 =>
              rw [hc1] at hu
              simp only [] at hu
              cases hc2 : d1.cat (d.sub (hi + (hi' - lo')) d.len) with
              | none => rw [hc2] at hu; simp at hu
              | some d2 =>
                rw [hc2] at hu
                simp only [Option.some.injEq] at hu; subst hu
                simp only [AllT_cons] at ho
                have hlo := eqI_iff.1 ho.1
                have hroom := leI_iff.1 ho.2.1
                subst hlo
                rw [len_eq] at hroom
                obtain ⟨base, cap, hν, hn, hcase⟩ := h.obs k _ hk
                simp only [R] at hs
                obtain ⟨base2, base', n, cap2, hν2, hb, hl0, hl1', hl2', hl3', rfl, hsome, hbase, hzb⟩ := hs
                rw [hν] at hν2; cases hν2
                have hmx : m = (hi' - lo').toNat := by
                  simp only [R] at hx
                  obtain ⟨_, _, _, _, _, _, _, _, _, _, hx, _⟩ := hx
                  cases hx; rfl
                have hx0 : lo' ≤ hi' := by
                  simp only [R] at hx
                  obtain ⟨_, _, _, _, _, _, _, hx, _⟩ := hx
                  exact hx
                obtain ⟨q1, q2, q3⟩ := cat_len hc1
                obtain ⟨p1, p2, p3⟩ := cat_len hc2
                have hsubl : (d.sub 0 hi).lenN = hi.toNat := by rw [sub_lenN d (by omega) hl1' hl2']; omega
                have hsubr : (d.sub (hi + (hi' - lo')) d.len).lenN = (d.lenN - (hi + (hi' - lo'))).toNat := by
                  rw [sub_lenN d (by omega) (by rw [len_eq]; exact hroom) (by rw [len_eq]; exact Int.le_refl _), len_eq]
                have hin : (hi - 0).toNat + m ≤ cap - (0 : Int).toNat := by omega
                have hd2len : d2.lenN = d.lenN := by rw [p1, q1, hsubl, hsubr, ← hm]; omega
                have hd2wid : d2.wid = d.wid := by rw [p2, q2, sub_wid]
                rcases hcase with ⟨b, cs, e, rfl, hh, hr, hcap, hsz⟩ | ⟨rfl, hz, rfl⟩
                · by_cases hcz : cap = 0
                  · -- nothing at all
                    have hl0' : l = [] := List.eq_nil_of_length_eq_zero (by rw [hl1, show m = 0 from by omega]; simp)
                    subst hl0'
                    have hb' : base'.isSome = true := by rw [hsome]; rfl
                    cases base' with
                    | none => simp at hb'
                    | some ad =>
                      refine ⟨rfl, _, w, run_append_in (ty := ty) hc hsk hsk' h0 h1 hin (hl5 w rfl) (by simp [storeCells]), st, M, ν, (fun _ _ => rfl), rfl, Frz.le_refl M, ?_, ?_⟩
                      · refine (h.turn (o' := .arr nk d2) hk hν rfl ⟨hh, rfl, fun _ _ => rfl, rfl, rfl, rfl⟩ ⟨some ⟨b, 0, none⟩, cap, by rw [hd2len]; exact hν, hn, .inl ⟨b, cs, e, rfl, hh, ?_, by rw [hd2len]; exact hcap, by rw [hd2wid]; exact hsz⟩⟩)
                        have : d2.lenN = 0 := by rw [hd2len]; omega
                        cases hd2 : d2 <;> rw [hd2] at this <;> simp [SC.lenN] at this <;> simp [RowC, RowI, this]
                      · simp only [R]
                        refine ⟨some ⟨b, 0, none⟩, some ad, d.lenN, cap, hν, hb, by omega, by omega, by omega, hcap, by congr 1 <;> omega, rfl, (fun c => by omega), fun _ => hzb trivial⟩
                  · have hbb := hbase (by omega)
                    simp only [Option.map_some, Int.toNat_zero, Nat.zero_mul, Nat.add_zero] at hbb
                    subst hbb
                    have hspace : hi.toNat * ek.wid + 0 + l.length ≤ cs.size := by
                      rw [hl1, Nat.add_zero, ← Nat.add_mul]
                      rw [hwd] at hsz
                      exact Nat.le_trans (Nat.mul_le_mul_right _ (by omega)) hsz
                    obtain ⟨w', cs', s1, s2, s3, s4⟩ := run_storeCells (P := P) (o := hi.toNat * ek.wid) l 0 hh hspace hl3
                    -- the three parts
                    have hleft : RowC M (d.sub 0 hi) (fun j => cs[j]?) := by
                      have := hr.sub (lo := 0) (hi := hi) (by omega) hl1' hl2'
                      simpa using this
                    have hright := hr.sub (lo := hi + (hi' - lo')) (hi := d.len) (by omega) (by rw [len_eq]; exact hroom) (by rw [len_eq]; exact Int.le_refl _)
                    have hmid := RowC.cat (F := fun j => cs'[j]?) hc1 hleft hl2 (fun p hp => by
                      rw [hsubl, sub_wid, hwd] at hp
                      show cs'[p]? = cs[p]?
                      rw [s4 p, if_neg (by omega)]) (fun q hq => by
                      rw [sub_wid, hwd, ← hm, ← hl1] at hq
                      show cs'[(d.sub 0 hi).lenN * (d.sub 0 hi).wid + q]? = l[q]?
                      rw [hsubl, sub_wid, hwd, s4 _, if_pos (by omega)]
                      congr 1
                      omega)
                    have hd1 : d1.lenN * d1.wid = hi.toNat * ek.wid + l.length := by
                      rw [q1, q2, hsubl, sub_wid, hwd, ← hm, hl1, Nat.add_mul]
                    have hall := RowC.cat (F := fun j => cs'[j]?) hc2 hmid.1 hright (fun p hp => rfl) (fun q hq => by
                      show cs'[d1.lenN * d1.wid + q]? = cs[(hi + (hi' - lo')).toNat * d.wid + q]?
                      rw [hd1, s4 _, if_neg (by omega), hl1, ← Nat.add_mul, hwd, show (hi + (hi' - lo')).toNat = hi.toNat + m from by omega])
                    refine ⟨rfl, _, w', run_append_in (ty := ty) hc hsk hsk' h0 h1 hin (hl5 w rfl) (by simp only [add0, Nat.zero_add]; rw [show (hi - 0).toNat = hi.toNat from by omega]; exact s1), st, M, ν, (fun _ _ => rfl), rfl, Frz.le_refl M, ?_, ?_⟩
                    · exact h.turn (o' := .arr nk d2) hk hν rfl s2 ⟨some ⟨b, 0, none⟩, cap, by rw [hd2len]; exact hν, hn, .inl ⟨b, cs', e, rfl, s2.here, hall.1, by rw [hd2len]; exact hcap, by rw [hd2wid, s3]; exact hsz⟩⟩
                    · simp only [R]
                      refine ⟨some ⟨b, 0, none⟩, _, d.lenN, cap, hν, hb, by omega, by omega, by omega, hcap, by congr 1 <;> omega, rfl, (fun c => by simp), fun _ => rfl⟩
                · have hl0' : l = [] := List.eq_nil_of_length_eq_zero (by rw [hl1, show m = 0 from by omega]; simp)
                  have hb' : base'.isSome = false := by rw [hsome]; rfl
                  cases base' with
                  | some ad => simp at hb'
                  | none =>
                    refine ⟨rfl, _, w, run_append_in (ty := ty) hc hsk hsk' h0 h1 hin (hl5 w rfl) rfl, st, M, ν, (fun _ _ => rfl), rfl, Frz.le_refl M, ?_, ?_⟩
                    · have hupd : updN ν k (.slice none d.lenN 0) = ν := by
                        funext j
                        by_cases hj : j = k
                        · subst hj; simp [updN, hν]
                        · simp [updN, hj]
                      have := h.lay (k := k) (o := .arr nk d2) (v := .slice none d.lenN 0) (.inr hν) (by rw [hupd]; exact ⟨none, 0, by rw [hd2len]; exact hν, hn, .inr ⟨rfl, by rw [hd2len]; exact hz, rfl⟩⟩) (fun b hb => by cases hb) fun j o' b _ _ hb => by cases hb
                      rw [hupd] at this
                      exact this
                    · simp only [R]
                      refine ⟨none, none, d.lenN, 0, hν, hb, by omega, by omega, by omega, hl3', by congr 1 <;> omega, rfl, (fun c => by omega), fun _ => rfl⟩
          | _ => simp at hu
    · cases hu

end
end Go.Sx

set_option linter.unusedVariables false
set_option linter.unusedSimpArgs false
namespace Go.Sx
open Go Go.RowKit

section
variable {P : Program} {cx : Ctx} {M M' : Frz} {ν : Nms} {w : World} {g : Nat → Option Ob} {Γ : Env} {sl : List AV} {ob : List (Nat × Ob)} {a : Act} {st : St}

theorem cpyL_length {α : Type} (xs : List α) {lo : Int} (ys : List α) (h0 : 0 ≤ lo) (h : lo.toNat + ys.length ≤ xs.length) : (cpyL xs lo ys).length = xs.length := by
  simp [cpyL]; omega
theorem cpyL_getD {α : Type} (xs : List α) {lo : Int} (ys : List α) (z : α) (h0 : 0 ≤ lo) (h : lo.toNat + ys.length ≤ xs.length) (i : Nat) :
    (cpyL xs lo ys).getD i z = if lo.toNat ≤ i ∧ i < lo.toNat + ys.length then ys.getD (i - lo.toNat) z else xs.getD i z := by
  simp only [cpyL, List.append_assoc]
  rw [getD_append, List.length_take, Nat.min_eq_left (by omega)]
  by_cases h1 : i < lo.toNat
  · rw [if_pos h1, if_neg (by omega)]
    simp [List.getD_eq_getElem?_getD, List.getElem?_take, h1]
  · rw [if_neg h1, getD_append]
    by_cases h2 : i - lo.toNat < ys.length
    · rw [if_pos h2, if_pos (by omega)]
    · rw [if_neg h2, if_neg (by omega)]
      simp only [List.getD_eq_getElem?_getD, List.getElem?_drop]
      congr 2
      omega

theorem run_copy (hc : CtxOK P cx) {t : TypeId} {ek : EK} (hsk : cx.sk t = some ek) {base xb : Option Addr} {n c m xc : Nat} {l : List Value} {ty : TypeId} {ts : Array TypeId} {w' : World}
    (h0 : ts[0]? = some t) (hl : (Builtin.firstCells ek.wid (min m n) (.slice xb m xc)).run P w = .ok l.toArray w)
    (hst : (match base with | some ad => (storeCells ad l).run P w = .ok () w' | none => w' = w)) :
    (Builtin.copy_ ts ty #[.slice base n c, .slice xb m xc]).run P w = .ok (.int .i64 (min m n : Nat)) w' := by
  obtain ⟨e, i, z, ht, hi, hs, _⟩ := hc.sk t ek hsk
  cases base with
  | none =>
    simp only at hst; subst hst
    simp only [Builtin.copy_, h0, List.getElem?_toArray, List.getElem?_cons_zero, List.getElem?_cons_succ, Sem.run_bind, run_und ht, Result.andThen, Builtin.lenOf, Sem.run_pure, run_so hi, hs]
    have : (Nat.min m n) = min m n := rfl
    simp [this, hl, goInt]
  | some ad =>
    simp only at hst
    simp only [Builtin.copy_, h0, List.getElem?_toArray, List.getElem?_cons_zero, List.getElem?_cons_succ, Sem.run_bind, run_und ht, Result.andThen, Builtin.lenOf, Sem.run_pure, run_so hi, hs]
    have : (Nat.min m n) = min m n := rfl
    simp [this, hl, goInt, hst]

theorem minI_eq (a b : Nat) : minI (a : Int) (b : Int) = ((min a b : Nat) : Int) := by
  simp only [minI]
  split <;> omega

theorem copyA_run (hc : CtxOK P cx) (h : Rel Γ st.sl st.ob a w M ν) {t : TypeId} (hsk : cx.sk t = some .int) {sv xv : AV} {s x : Value} {u : Up} {ty : TypeId} {ts : Array TypeId}
    (h0 : ts[0]? = some t) (hu : copyA (og st.ob) sv xv = some u) (hs : R M ν sv s) (hx : R M ν xv x) :
    u.frz = [] ∧ ∃ v w', (Builtin.copy_ ts ty #[s, x]).run P w = .ok v w' ∧ Eff Γ st u a M ν v w' := by
  -- the store into a row of numbers
  have key : ∀ (k : Nat) (nk : Option Bool) (xs ys : List Int) (b cap : Nat) (cs : Array Value) (e : TypeId) (lo : Int) (l : List Value), og st.ob k = some (.arr nk (.i1 xs)) → ν k = some (.slice (some ⟨b, 0, none⟩) xs.length cap) →
      (∀ q, nk = some q → true = q) → w.heap[b]? = some (.cells cs e (0, 0)) → RowC M (.i1 xs) (fun j => cs[j]?) → xs.length ≤ cap → cap ≤ cs.size → 0 ≤ lo → RowI (fun j => l[j]?) ys → l.length = ys.length → lo.toNat + ys.length ≤ xs.length →
      (∀ v, v ∈ l → v.oneCell' = true) →
      ∃ w', (storeCells ⟨b, lo.toNat, none⟩ l).run P w = .ok () w' ∧ Rel Γ st.sl (op st.ob k (.arr nk (.i1 (cpyL xs lo ys)))) a w' M ν := by
    intro k nk xs ys b cap cs e lo l hk hν hnk hh hr hcap hsz hlo hl hll hfit hone
    obtain ⟨w', cs', s1, s2, s3, s4⟩ := run_storeCells (P := P) (o := lo.toNat) l 0 hh (by omega) hone
    refine ⟨w', s1, h.turn hk hν rfl s2 ⟨some ⟨b, 0, none⟩, cap, by rw [hν]; simp only [SC.lenN]; rw [cpyL_length xs ys hlo hfit], hnk, .inl ⟨b, cs', e, rfl, s2.here, ?_, by simp only [SC.lenN]; rw [cpyL_length xs ys hlo hfit]; exact hcap, by rw [s3]; simpa [SC.wid] using hsz⟩⟩⟩
    intro i hi
    rw [cpyL_length xs ys hlo hfit] at hi
    rw [cpyL_getD xs ys 0 hlo hfit]
    show cs'[i]? = _
    rw [s4 i]
    by_cases e : lo.toNat ≤ i ∧ i < lo.toNat + ys.length
    · rw [if_pos e, if_pos (by omega)]
      have := hl (i - lo.toNat) (by omega)
      simpa using this
    · rw [if_neg e, if_neg (by omega)]
      exact hr i hi
  unfold copyA at hu
  cases hcont : contA (og st.ob) .int xv with
  | none => rw [hcont] at hu; cases sv <;> simp at hu
  | some dx =>
    rw [hcont] at hu
    obtain ⟨xb, m, xc, rfl, hm, l, hl1, hl2, hl3, hl4⟩ := contA_run (P := P) hcont hx h.obs h.frz
    cases dx with
    | i1 ys =>
      simp only [SC.lenN] at hm
      simp only [SC.wid, Nat.mul_one] at hl1 hl4
      subst hm
      -- the first cells
      have hsub : ∀ q : Nat, q ≤ ys.length → RowI (fun j => (l.take q)[j]?) (subL ys 0 (q : Int)) ∧ (l.take q).length = (subL ys 0 (q : Int)).length ∧ (subL ys 0 (q : Int)).length = q := by
        intro q hq
        have h1 : (subL ys 0 (q : Int)).length = q := by simp [subL]; omega
        refine ⟨fun i hi => ?_, by rw [h1, List.length_take]; omega, h1⟩
        rw [h1] at hi
        have h3 : l[i]? = _ := hl2 i (by omega)
        simp only [List.getElem?_take, hi, if_true]
        rw [h3]
        simp [subL, List.getD_eq_getElem?_getD, List.getElem?_take, hi]
      split at hu
      · rename_i k ys' heq2
        cases heq2
        cases hk : og st.ob k with
        | none => rw [hk] at hu; simp at hu
        | some p =>
          rw [hk] at hu
          cases p with
          | box cs => simp at hu
          | map ks => simp at hu
          | itr ks cur => simp at hu
          | arr nk d =>
            cases d with
            | i1 xs =>
              simp only [Option.some.injEq] at hu; subst hu
              obtain ⟨base, cap, hν, hn, hcase⟩ := h.obs k _ hk
              simp only [SC.lenN] at hν
              simp only [R] at hs
              obtain ⟨hs, _⟩ := hs
              rw [hν] at hs; cases hs
              have hmin : minI (lenZ ys) (lenZ xs) = ((min ys.length xs.length : Nat) : Int) := minI_eq _ _
              rw [hmin]
              obtain ⟨g1, g2, g3⟩ := hsub (min ys.length xs.length) (by omega)
              rcases hcase with ⟨b, cs, e, rfl, hh, hr, hcap, hsz⟩ | ⟨rfl, hz, rfl⟩
              · simp only [SC.lenN] at hcap
                simp only [SC.wid, Nat.mul_one] at hsz
                obtain ⟨w', r1, r2⟩ := key k nk xs _ b cap cs e 0 (l.take (min ys.length xs.length)) hk hν hn hh hr hcap hsz (by omega) g1 g2 (by rw [g3]; simp; omega) (fun v hv => hl3 v (List.mem_of_mem_take hv))
                exact ⟨rfl, _, w', run_copy (ty := ty) hc hsk h0 (hl4 _ w (by omega) rfl) (by simpa using r1), st, M, ν, (fun _ _ => rfl), rfl, Frz.le_refl M, r2, by simp only [R]⟩
              · simp only [SC.lenN] at hz
                have hx0 : xs = [] := List.eq_nil_of_length_eq_zero hz
                subst hx0
                refine ⟨rfl, _, w, run_copy (ty := ty) hc hsk h0 (hl4 _ w (by omega) rfl) rfl, st, M, ν, (fun _ _ => rfl), rfl, Frz.le_refl M, ?_, by simp only [R]⟩
                have hupd : updN ν k (.slice none 0 0) = ν := by
                  funext j
                  by_cases hj : j = k
                  · subst hj; simp [updN, hν]
                  · simp [updN, hj]
                have := h.lay (k := k) (o := .arr nk (.i1 (cpyL [] 0 (subL ys 0 ((min ys.length ([] : List Int).length : Nat) : Int))))) (v := .slice none 0 0) (.inr hν)
                  (by rw [hupd]; exact ⟨none, 0, by simpa [SC.lenN, cpyL, subL] using hν, hn, .inr ⟨rfl, by simp [SC.lenN, cpyL, subL], rfl⟩⟩) (fun b hb => by cases hb) fun j o' b _ _ hb => by cases hb
                rw [hupd] at this
                exact this
            | _ => simp at hu
      · rename_i k wd lo hi ys' heq2
        cases heq2
        cases hk : og st.ob k with
        | none => rw [hk] at hu; simp at hu
        | some p =>
          rw [hk] at hu
          cases p with
          | box cs => simp at hu
          | map ks => simp at hu
          | itr ks cur => simp at hu
          | arr nk d =>
            cases d with
            | i1 xs =>
              simp only [] at hu
              cases hw1 : Nat.beq wd 1 <;> rw [hw1] at hu <;> simp only [cond_true, cond_false, reduceCtorEq, Option.some.injEq] at hu
              subst hu
              have hw1 := beqT.1 hw1; subst hw1
              obtain ⟨base, cap, hν, hn, hcase⟩ := h.obs k _ hk
              simp only [SC.lenN] at hν
              simp only [R] at hs
              obtain ⟨base2, base', n, cap2, hν2, hb, hl0, hlo, hhi, hcp, rfl, hsome, hbase, hzb⟩ := hs
              rw [hν] at hν2; cases hν2
              have hmin : minI (lenZ ys) (hi - lo) = ((min ys.length (hi - lo).toNat : Nat) : Int) := by
                rw [← minI_eq]; simp only [lenZ]; congr 1; omega
              rw [hmin]
              obtain ⟨g1, g2, g3⟩ := hsub (min ys.length (hi - lo).toNat) (by omega)
              by_cases hlt : lo < cap
              · have hbb := hbase hlt
                subst hbb
                rcases hcase with ⟨b, cs, e, rfl, hh, hr, hcap, hsz⟩ | ⟨rfl, hz, rfl⟩
                · simp only [SC.lenN] at hcap
                  simp only [SC.wid, Nat.mul_one] at hsz
                  obtain ⟨w', r1, r2⟩ := key k nk xs _ b cap cs e lo (l.take (min ys.length (hi - lo).toNat)) hk hν hn hh hr hcap hsz hl0 g1 g2 (by rw [g3]; omega) (fun v hv => hl3 v (List.mem_of_mem_take hv))
                  exact ⟨rfl, _, w', run_copy (ty := ty) hc hsk h0 (hl4 _ w (by omega) rfl) (by simpa using r1), st, M, ν, (fun _ _ => rfl), rfl, Frz.le_refl M, r2, by simp only [R]⟩
                · omega
              · -- nothing to copy
                have hq0 : min ys.length (hi - lo).toNat = 0 := by omega
                rw [hq0] at g1 g2 g3 ⊢
                have hcopy : cpyL xs lo (subL ys 0 ((0 : Nat) : Int)) = xs := by
                  have : subL ys 0 ((0 : Nat) : Int) = [] := List.eq_nil_of_length_eq_zero g3
                  rw [this]
                  simp [cpyL]
                rw [hcopy]
                have hlq := hl4 (min ys.length (hi - lo).toNat) w (by omega) rfl
                rw [hq0, List.take_zero] at hlq
                have hrun := run_copy (P := P) (w := w) (w' := w) (ty := ty) (ts := ts) (base := base') (n := (hi - lo).toNat) (c := cap - lo.toNat) (xb := xb) (m := ys.length) (xc := xc) (l := []) hc hsk h0 (by rw [hq0]; exact hlq) (by cases base' <;> simp [storeCells])
                rw [hq0] at hrun
                refine ⟨rfl, _, w, hrun, st, M, ν, (fun _ _ => rfl), rfl, Frz.le_refl M, ?_, by simp only [R]⟩
                have hv : ν k = some (.slice base xs.length cap) := hν
                have hupd : updN ν k (.slice base xs.length cap) = ν := by
                  funext j
                  by_cases hj : j = k
                  · subst hj; simp [updN, hν]
                  · simp [updN, hj]
                have := h.lay (k := k) (o := .arr nk (.i1 xs)) (v := .slice base xs.length cap) (.inr hν) (by rw [hupd]; exact h.obs k _ hk) (fun b hb => h.mine k _ b hk (by rw [hν]; exact hb)) fun j o' b hj hne hb hbj => h.inj k j _ o' b hk hj (fun c => hne c.symm) (by rw [hν]; exact hb) hbj
                rw [hupd] at this
                exact this
            | _ => simp at hu
      · cases hu
    | _ => cases sv <;> simp at hu

theorem toList_zeroCells (zero : Array Value) (n : Nat) {m : Nat} (hz : zero.size = m) : (Builtin.zeroCells zero n).toList.length = n * m ∧ ∀ p, p < n * m → (Builtin.zeroCells zero n).toList[p]? = some zero[p % m]! := by
  refine ⟨by simp [Builtin.zeroCells, hz], fun p hp => ?_⟩
  simp only [Builtin.zeroCells, hz]
  rw [Array.getElem?_toList, Array.getElem?_map, Array.getElem?_range, if_pos hp]
  rfl

theorem zerL_eq {α : Type} (xs : List α) (lo hi : Int) (z : α) : zerL xs lo hi z = cpyL xs lo (List.replicate (hi - lo).toNat z) := rfl

theorem clearA_run (hc : CtxOK P cx) (h : Rel Γ st.sl st.ob a w M ν) {t : TypeId} {ek : EK} (hsk : cx.sk t = some ek) {sv : AV} {s : Value} {u : Up} {ty : TypeId} {ts : Array TypeId}
    (h0 : ts[0]? = some t) (hu : clearA (og st.ob) ek sv = some u) (hs : R M ν sv s) :
    u.frz = [] ∧ ∃ v w', (Builtin.clear_ ts ty #[s]).run P w = .ok v w' ∧ Eff Γ st u a M ν v w' := by
  obtain ⟨e, i, z, ht, hi, hsz0, hzv, hb1, hb2, hzs, hzc⟩ := hc.sk t ek hsk
  cases sv with
  | sub k wd lo hi' =>
    simp only [clearA] at hu
    cases hk : og st.ob k with
    | none => rw [hk] at hu; simp at hu
    | some p =>
      rw [hk] at hu
      cases p with
      | box cs => simp at hu
      | map ks => simp at hu
      | itr ks cur => simp at hu
      | arr nk d =>
        obtain ⟨base, cap, hν, hn, hcase⟩ := h.obs k _ hk
        simp only [R] at hs
        obtain ⟨base2, base', n, cap2, hν2, hb, hl0, hlo, hhi, hcp, rfl, hsome, hbase, hzb⟩ := hs
        rw [hν] at hν2; cases hν2
        -- the store
        have key : ∀ d' : SC, d'.lenN = d.lenN → d'.wid = d.wid → ek.wid = d.wid → wd = d.wid →
            (∀ cs cs' : Nat → Option Value, RowC M d cs → (∀ p, lo.toNat * d.wid ≤ p ∧ p < lo.toNat * d.wid + (hi' - lo).toNat * d.wid → cs' p = some ek.zero) → (∀ p, ¬ (lo.toNat * d.wid ≤ p ∧ p < lo.toNat * d.wid + (hi' - lo).toNat * d.wid) → cs' p = cs p) → RowC M d' cs') →
            ∃ w', (Builtin.clear_ ts ty #[.slice base' (hi' - lo).toNat (cap - lo.toNat)]).run P w = .ok (.tuple #[]) w' ∧ Rel Γ st.sl (op st.ob k (.arr nk d')) a w' M ν := by
          intro d' hlen hwid hekw hwd hrow
          have same : Rel Γ st.sl (op st.ob k (.arr nk d')) a w M ν ∨ (hi' - lo).toNat ≠ 0 := by
            by_cases hz : (hi' - lo).toNat = 0
            · left
              have hupd : updN ν k (.slice base d.lenN cap) = ν := by
                funext j
                by_cases hj : j = k
                · subst hj; simp [updN, hν]
                · simp [updN, hj]
              have := h.lay (k := k) (o := .arr nk d') (v := .slice base d.lenN cap) (.inr hν) (by
                rw [hupd]
                refine ⟨base, cap, by rw [hlen]; exact hν, hn, hcase.imp ?_ (fun ⟨q1, q2, q3⟩ => ⟨q1, by rw [hlen]; exact q2, q3⟩)⟩
                rintro ⟨b, cs, e', q1, q2, q3, q4, q5⟩
                exact ⟨b, cs, e', q1, q2, hrow _ _ q3 (fun p hp => by rw [hz] at hp; omega) (fun p _ => rfl), by rw [hlen]; exact q4, by rw [hwid]; exact q5⟩) (fun b hb => h.mine k _ b hk (by rw [hν]; exact hb)) fun j o' b hj hne hb hbj => h.inj k j _ o' b hk hj (fun c => hne c.symm) (by rw [hν]; exact hb) hbj
              rw [hupd] at this
              exact this
            · exact .inr hz
          by_cases hz : (hi' - lo).toNat = 0
          · rcases same with same | same
            · refine ⟨w, ?_, same⟩
              rw [hz]
              cases base' <;> simp [Builtin.clear_, h0, run_und ht]
            · exact absurd hz same
          · have hbb := hbase (by omega)
            subst hbb
            rcases hcase with ⟨b, cs, e', rfl, hh, hr, hcap, hsz⟩ | ⟨rfl, hz', rfl⟩
            · obtain ⟨z1, z2⟩ := toList_zeroCells z.cells (hi' - lo).toNat hzs
              have hfit : lo.toNat * d.wid + 0 + (Builtin.zeroCells z.cells (hi' - lo).toNat).toList.length ≤ cs.size := by
                rw [z1, hekw, Nat.add_zero, ← Nat.add_mul]
                exact Nat.le_trans (Nat.mul_le_mul_right _ (by omega)) hsz
              have hzero : ∀ p, p < (hi' - lo).toNat * ek.wid → z.cells[p % ek.wid]! = ek.zero := by
                intro p hp
                have hw0 : 0 < ek.wid := by
                  rcases Nat.eq_zero_or_pos ek.wid with e0 | e0
                  · rw [e0] at hp; simp at hp
                  · exact e0
                have := hzc (p % ek.wid) (Nat.mod_lt _ hw0)
                rw [getElem!_def, this]
              obtain ⟨w', cs', s1, s2, s3, s4⟩ := run_storeCells (P := P) (o := lo.toNat * d.wid) (Builtin.zeroCells z.cells (hi' - lo).toNat).toList 0 hh hfit (by
                intro v hv
                obtain ⟨p, hp⟩ := List.mem_iff_getElem?.1 hv
                have hp' : p < (hi' - lo).toNat * ek.wid := by rw [← z1]; exact (List.getElem?_eq_some_iff.1 hp).1
                rw [z2 p hp', hzero p hp'] at hp
                cases hp
                cases ek <;> rfl)
              refine ⟨w', ?_, h.turn hk hν rfl s2 ⟨some ⟨b, 0, none⟩, cap, by rw [hlen]; exact hν, hn, .inl ⟨b, cs', e', rfl, s2.here, hrow _ _ hr (fun p e1 => ?_) (fun p e1 => ?_), by rw [hlen]; exact hcap, by rw [hwid, s3]; exact hsz⟩⟩⟩
              · have hne : (hi' - lo).toNat ≠ 0 := hz
                obtain ⟨q, hq⟩ := Nat.exists_eq_succ_of_ne_zero hne
                simp only [Option.map_some, Nat.zero_add]
                rw [hwd]
                rw [hq] at s1 ⊢
                simp only [Builtin.clear_, h0, List.getElem?_toArray, List.getElem?_cons_zero, Sem.run_bind, run_und ht, Result.andThen, run_zv hi hzv]
                rw [s1]
                rfl
              · show cs'[p]? = _
                rw [s4 p, z1, hekw, Nat.add_zero]
                rw [if_pos e1, z2 _ (by rw [hekw]; omega), ← hekw, hzero _ (by rw [hekw]; omega)]
              · show cs'[p]? = cs[p]?
                rw [s4 p, z1, hekw, Nat.add_zero]
                rw [if_neg e1]
            · omega
        cases d with
        | i1 xs =>
          simp only [] at hu
          cases hand : andB (ek.same .int) (Nat.beq wd 1) <;> rw [hand] at hu <;> simp only [cond_true, cond_false, reduceCtorEq, Option.some.injEq] at hu
          subst hu
          obtain ⟨g1, g2⟩ := andB_iff.1 hand
          have g1 := same_eq g1; subst g1
          have g2 := beqT.1 g2
          simp only [SC.lenN] at hhi
          have hfit : lo.toNat + (List.replicate (hi' - lo).toNat (0 : Int)).length ≤ xs.length := by simp; omega
          obtain ⟨w', r1, r2⟩ := key (.i1 (zerL xs lo hi' 0)) (by simp only [SC.lenN, zerL_eq]; exact cpyL_length xs _ hl0 hfit) rfl rfl g2 (fun cs cs' hr hp hp' j hj => by
            rw [zerL_eq, cpyL_length xs _ hl0 hfit] at hj
            rw [zerL_eq, cpyL_getD xs _ 0 hl0 hfit]
            simp only [List.length_replicate]
            simp only [SC.wid, Nat.mul_one] at hp hp'
            by_cases e1 : lo.toNat ≤ j ∧ j < lo.toNat + (hi' - lo).toNat
            · rw [if_pos e1, hp j e1]
              have hlt : j - lo.toNat < (hi' - lo).toNat := by omega
              simp [EK.zero, List.getD_eq_getElem?_getD, List.getElem?_replicate, hlt]
            · rw [if_neg e1, hp' j e1]; exact hr j hj)
          exact ⟨rfl, _, w', r1, st, M, ν, (fun _ _ => rfl), rfl, Frz.le_refl M, r2, by simp [R]⟩
        | st w2 xs =>
          simp only [] at hu
          cases hand : andB (ek.same (.strc w2)) (Nat.beq wd w2) <;> rw [hand] at hu <;> simp only [cond_true, cond_false, reduceCtorEq, Option.some.injEq] at hu
          subst hu
          obtain ⟨g1, g2⟩ := andB_iff.1 hand
          have g1 := same_eq g1; subst g1
          have g2 := beqT.1 g2
          simp only [SC.lenN] at hhi
          have hfit : lo.toNat + (List.replicate (hi' - lo).toNat ([] : List Int)).length ≤ xs.length := by simp; omega
          obtain ⟨w', r1, r2⟩ := key (.st w2 (zerL xs lo hi' [])) (by simp only [SC.lenN, zerL_eq]; exact cpyL_length xs _ hl0 hfit) rfl rfl g2 (fun cs cs' hr hp hp' j f hj hf => by
            rw [zerL_eq, cpyL_length xs _ hl0 hfit] at hj
            rw [zerL_eq, cpyL_getD xs _ [] hl0 hfit]
            simp only [List.length_replicate]
            simp only [SC.wid] at hp hp'
            by_cases e1 : lo.toNat ≤ j ∧ j < lo.toNat + (hi' - lo).toNat
            · have e2 : lo.toNat * w2 ≤ j * w2 + f ∧ j * w2 + f < lo.toNat * w2 + (hi' - lo).toNat * w2 := by
                have h1 := Nat.mul_le_mul_right w2 e1.1
                have h2 := pair_lt (w := w2) (f := f) e1.2 hf
                rw [Nat.add_mul] at h2
                omega
              rw [if_pos e1, hp _ e2]
              have hlt : j - lo.toNat < (hi' - lo).toNat := by omega
              simp [EK.zero, List.getD_eq_getElem?_getD, List.getElem?_replicate, hlt]
            · have e2 : ¬ (lo.toNat * w2 ≤ j * w2 + f ∧ j * w2 + f < lo.toNat * w2 + (hi' - lo).toNat * w2) := by
                intro c
                rw [← Nat.add_mul] at c
                apply e1
                constructor
                · apply Nat.le_of_not_lt
                  intro hlt
                  have := pair_lt (w := w2) (f := f) hlt hf
                  omega
                · apply Nat.lt_of_not_le
                  intro hle
                  have := Nat.mul_le_mul_right w2 hle
                  omega
              rw [if_neg e1, hp' _ e2]; exact hr j f hj hf)
          exact ⟨rfl, _, w', r1, st, M, ν, (fun _ _ => rfl), rfl, Frz.le_refl M, r2, by simp [R]⟩
        | b1 xs => simp at hu
        | rows xs => simp at hu
  | _ => simp [clearA] at hu

end
end Go.Sx

set_option linter.unusedVariables false
set_option linter.unusedSimpArgs false
namespace Go.Sx
open Go Go.RowKit

section
variable {P : Program} {cx : Ctx} {M M' : Frz} {ν : Nms} {w : World} {g : Nat → Option Ob} {Γ : Env} {sl : List AV} {ob : List (Nat × Ob)} {a : Act} {st : St}

theorem memZ_iff {n : Int} {ks : List Int} : memZ n ks = true ↔ n ∈ ks := by simp [memZ]
theorem findNow_int (n : Int) : ∀ (es : List MapEntry) (i : Nat), (∀ e, e ∈ es → ∃ m, e.key = .int .i64 m ∧ e.val = .bool true) →
    (Instr.findNow (.int .i64) (.int .i64 n) es i = some none ∧ ∀ e, e ∈ es → e.key ≠ .int .i64 n) ∨
    ∃ p e, es[p]? = some e ∧ e.key = .int .i64 n ∧ Instr.findNow (.int .i64) (.int .i64 n) es i = some (some (i + p, .bool true))
  | [], i, _ => .inl ⟨rfl, fun e he => by simp at he⟩
  | e :: es, i, h => by
    obtain ⟨m, hm, hv⟩ := h e (by simp)
    have hs : Instr.sameNow (.int .i64) (.int .i64 n) e.key = some (n == m) := by rw [hm]; simp [Instr.sameNow]
    by_cases hnm : n = m
    · subst hnm
      refine .inr ⟨0, e, rfl, hm, ?_⟩
      simp [Instr.findNow, hs, hv]
    · have hb : (n == m) = false := by simp [hnm]
      rw [hb] at hs
      rcases findNow_int n es (i + 1) (fun x hx => h x (by simp [hx])) with ⟨h1, h2⟩ | ⟨p, x, h1, h2, h3⟩
      · refine .inl ⟨by simp [Instr.findNow, hs, h1], fun x hx => ?_⟩
        rcases List.mem_cons.1 hx with rfl | hx
        · rw [hm]; intro c; cases c; exact hnm rfl
        · exact h2 x hx
      · exact .inr ⟨p + 1, x, by simpa using h1, h2, by simp [Instr.findNow, hs, h3]; omega⟩

theorem run_checkKey {kt : TypeId} (hk : P.underlying kt = some (.int .i64)) (b : Bool) (n : Int) : (Instr.checkKey b 10000 kt (.int .i64 n)).run P w = .ok () w := by
  rw [show (10000 : Nat) = 9999 + 1 from rfl, Instr.checkKey]
  simp only [Sem.run_bind, run_und hk, Result.andThen, Sem.run_pure]
theorem run_findKey {kt : TypeId} (hk : P.underlying kt = some (.int .i64)) {n : Int} {es : List MapEntry} {r : Option (Nat × Value)} (h : Instr.findNow (.int .i64) (.int .i64 n) es 0 = some r) :
    (Instr.findKey kt (.int .i64 n) es).run P w = .ok r w := by
  simp only [Instr.findKey, Sem.run_bind, run_und hk, Result.andThen, h, Sem.run_pure]
theorem run_getMap {b : Nat} {es : Array MapEntry} {c : Nat} (h : w.heap[b]? = some (.map es c)) : (getObj b).run P w = .ok (.map es c) w := by
  simp [getObj, Sem.run, h]
theorem run_setMap {b : Nat} {o o' : Obj} (h : w.heap[b]? = some o) (hn : ∀ x y z, o ≠ .cells x y z) : (setObj b o').run P w = .ok () { w with heap := w.heap.setIfInBounds b o' } := by
  cases o <;> first
    | exact absurd rfl (hn _ _ _)
    | simp only [setObj, Sem.run, h]
theorem setMap_turn {b : Nat} {o : Obj} : Turn0 b w { w with heap := w.heap.setIfInBounds b o } :=
  ⟨by simp, fun k hk => by simp [Array.getElem?_setIfInBounds, Ne.symm hk], rfl, rfl, rfl⟩
theorem setMap_here {b : Nat} {o o' : Obj} (h : w.heap[b]? = some o) : ({ w with heap := w.heap.setIfInBounds b o' } : World).heap[b]? = some o' := by
  have := (Array.getElem?_eq_some_iff.1 h).1
  simp [Array.getElem?_setIfInBounds, this]

/-- what is looked up -/
theorem lookup_run (hc : CtxOK P cx) {t : Nat} (ht : cx.mpt t = true) {n : Int} {ks : List Int} {v : Value}
    (hv : (v = .map none ∧ ks = []) ∨ ∃ b es c, v = .map (some b) ∧ w.heap[b]? = some (.map es c) ∧ MapR ks es c) :
    (Instr.lookup t v (.int .i64 n) false).run P w = .ok (.bool (memZ n ks)) w := by
  obtain ⟨k, e, i, h1, h2, h3, h4⟩ := hc.mpt t ht
  rcases hv with ⟨rfl, rfl⟩ | ⟨b, es, c, rfl, hb, hm⟩
  · simp only [Instr.lookup, Sem.run_bind, run_und h1, Result.andThen, Sem.run_pure]
    rw [run_checkKey h2]
    simp only [Result.andThen]
    rw [run_findKey h2 (r := none) rfl]
    simp [run_zv h3 h4, memZ, Result.andThen]
  · have hmem : ∀ n', n' ∈ ks ↔ ∃ e, e ∈ es.toList ∧ e.key = .int .i64 n' := hm.key
    simp only [Instr.lookup, Sem.run_bind, run_und h1, Result.andThen, Sem.run_pure, run_getMap hb]
    rw [run_checkKey h2]
    simp only [Result.andThen]
    rcases findNow_int n es.toList 0 (fun e he => hm.all e he) with ⟨h5, h6⟩ | ⟨p, x, h5, h6, h7⟩
    · rw [run_findKey h2 h5]
      have : memZ n ks = false := by
        cases hz : memZ n ks with
        | false => rfl
        | true => obtain ⟨e, he, hk⟩ := (hmem n).1 (memZ_iff.1 hz); exact absurd hk (h6 e he)
      simp [run_zv h3 h4, this, Result.andThen]
    · rw [run_findKey h2 h7]
      have : memZ n ks = true := memZ_iff.2 ((hmem n).2 ⟨x, List.mem_of_getElem? h5, h6⟩)
      simp [this, Result.andThen]
/-- a map that is read alone, in the world -/
theorem ms_world (hf : M.ok w) {ks : List Int} {v : Value} (h : R M ν (.ms ks) v) : (v = .map none ∧ ks = []) ∨ ∃ b es c, v = .map (some b) ∧ w.heap[b]? = some (.map es c) ∧ MapR ks es c := by
  simp only [R] at h
  exact h.imp id fun ⟨b, es, c, e1, e2, e3⟩ => ⟨b, es, c, e1, hf _ _ e2, e3⟩
theorem mp_world {k : Nat} {ks : List Int} {v : Value} (h : R M ν (.mp k) v) (ho : ObR M ν w k (.map ks)) : ∃ b es c, v = .map (some b) ∧ w.heap[b]? = some (.map es c) ∧ MapR ks es c ∧ ν k = some (.map (some b)) := by
  simp only [R] at h
  obtain ⟨b, es, c, e1, e2, e3⟩ := ho
  rw [e1] at h
  have := h.1
  simp only [Option.some.injEq] at this
  exact ⟨b, es, c, this.symm, e2, e3, e1⟩

theorem MapR.ins {ks : List Int} {es : Array MapEntry} {c : Nat} (h : MapR ks es c) {n : Int} (hn : ∀ e, e ∈ es.toList → e.key ≠ .int .i64 n) : MapR (insZ n ks) (es.push { key := .int .i64 n, val := .bool true, born := c }) (c + 1) where
  all := by
    intro e he
    simp only [Array.toList_push, List.mem_append, List.mem_singleton] at he
    rcases he with he | rfl
    · exact h.all e he
    · exact ⟨n, rfl, rfl⟩
  key := by
    intro m
    simp only [insZ, List.mem_cons, Array.toList_push, List.mem_append, List.mem_singleton]
    constructor
    · rintro (rfl | hm)
      · exact ⟨{ key := .int .i64 m, val := .bool true, born := c }, by simp, rfl⟩
      · obtain ⟨e, h1, h2⟩ := (h.key m).1 hm
        exact ⟨e, .inl h1, h2⟩
    · rintro ⟨e, h1 | (rfl | h1), h2⟩
      · exact .inr ((h.key m).2 ⟨e, h1, h2⟩)
      · simp only [Value.int.injEq, true_and] at h2; exact .inl h2.symm
      · simp at h1
  born := by
    intro e he
    simp only [Array.toList_push, List.mem_append, List.mem_singleton] at he
    rcases he with he | rfl
    · exact Nat.lt_succ_of_lt (h.born e he)
    · exact Nat.lt_succ_self c
  uniq := by
    simp only [Array.toList_push, List.map_append, List.map_cons, List.map_nil]
    rw [List.nodup_append]
    refine ⟨h.uniq, by simp, fun x hx y hy => ?_⟩
    simp only [List.mem_singleton] at hy
    subst hy
    obtain ⟨e, he, rfl⟩ := List.mem_map.1 hx
    exact Nat.ne_of_lt (h.born e he)
  keys := by
    simp only [Array.toList_push, List.map_append, List.map_cons, List.map_nil]
    rw [List.nodup_append]
    refine ⟨h.keys, by simp, fun x hx y hy => ?_⟩
    simp only [List.mem_singleton] at hy
    subst hy
    obtain ⟨e, he, rfl⟩ := List.mem_map.1 hx
    exact hn e he
theorem MapR.same {ks ks' : List Int} {es : Array MapEntry} {c : Nat} (h : MapR ks es c) (hs : ∀ n, n ∈ ks' ↔ n ∈ ks) : MapR ks' es c := ⟨h.all, fun n => (hs n).trans (h.key n), h.born, h.uniq, h.keys⟩

/-- a key is written -/
theorem mapUpdate_run (hc : CtxOK P cx) {t : Nat} (ht : cx.mpt t = true) {n : Int} {ks : List Int} {b c : Nat} {es : Array MapEntry} (hb : w.heap[b]? = some (.map es c)) (hm : MapR ks es c) :
    ∃ es' c', (Instr.mapUpdate t (.map (some b)) (.int .i64 n) (.bool true)).run P w = .ok () { w with heap := w.heap.setIfInBounds b (.map es' c') } ∧ MapR (insZ n ks) es' c' := by
  obtain ⟨k, e, i, h1, h2, h3, h4⟩ := hc.mpt t ht
  rcases findNow_int n es.toList 0 (fun e he => hm.all e he) with ⟨h5, h6⟩ | ⟨p, x, h5, h6, h7⟩
  · refine ⟨es.push { key := .int .i64 n, val := .bool true, born := c }, c + 1, ?_, hm.ins h6⟩
    simp only [Instr.mapUpdate, Sem.run_bind, run_und h1, Result.andThen, run_getMap hb]
    rw [run_checkKey h2]
    simp only [Result.andThen]
    rw [run_findKey h2 h5]
    simp only [Result.andThen]
    rw [run_setMap hb (by intro x y z c; cases c)]
  · have hx : es[p]? = some x := by rw [← Array.getElem?_toList]; exact h5
    have hmem := List.mem_of_getElem? h5
    refine ⟨es, c, ?_, hm.same fun m => ?_⟩
    · obtain ⟨m, hk, hval⟩ := hm.all x hmem
      have hmod : es.modify p (fun e => { e with key := .int .i64 n, val := .bool true }) = es := by
        apply Array.ext
        · simp
        · intro j h1 h2
          rw [Array.getElem_modify]
          split
          · rename_i hpj
            subst hpj
            have : es[p] = x := by
              have := Array.getElem?_eq_getElem h2
              rw [hx] at this; exact (Option.some.inj this).symm
            rw [this, ← h6, ← hval]
          · rfl
      simp only [Instr.mapUpdate, Sem.run_bind, run_und h1, Result.andThen, run_getMap hb]
      rw [run_checkKey h2]
      simp only [Result.andThen]
      rw [run_findKey h2 h7]
      have hpx : es[0 + p]? = some x := by rw [Nat.zero_add]; exact hx
      simp only [Result.andThen, hpx, Option.map_some, Option.getD_some]
      have hkts : (Instr.keyThatStays x.key (.int .i64 n)).run P w = .ok (.int .i64 n) w := by
        rw [h6]
        unfold Instr.keyThatStays
        have : Instr.sameBits 10000 (.int .i64 n) (.int .i64 n) = true := by
          rw [show (10000 : Nat) = 9999 + 1 from rfl]; simp [Instr.sameBits]
        rw [if_pos this]; rfl
      simp only [Sem.run_bind]
      rw [hkts]
      simp only [Result.andThen, Nat.zero_add, hmod]
      rw [run_setMap hb (by intro x y z c; cases c)]
    · simp only [insZ, List.mem_cons]
      refine ⟨fun h => h.elim (fun e => by subst e; exact (hm.key _).2 ⟨x, hmem, h6⟩) id, .inr⟩

theorem born_inj : ∀ {l : List MapEntry}, (l.map (·.born)).Nodup → ∀ {x y : MapEntry}, x ∈ l → y ∈ l → x.born = y.born → x = y
  | [], _, x, y, hx, _, _ => by simp at hx
  | e :: l, hn, x, y, hx, hy, h => by
    simp only [List.map_cons, List.nodup_cons] at hn
    rcases List.mem_cons.1 hx with e1 | e1
    · rcases List.mem_cons.1 hy with e2 | e2
      · rw [e1, e2]
      · exact absurd (List.mem_map.2 ⟨y, e2, by rw [← h, e1]⟩) hn.1
    · rcases List.mem_cons.1 hy with e2 | e2
      · exact absurd (List.mem_map.2 ⟨x, e1, by rw [h, e2]⟩) hn.1
      · exact born_inj hn.2 e1 e2 h
theorem MapR.del {ks : List Int} {es es' : Array MapEntry} {c : Nat} (h : MapR ks es c) {n : Int} {p : Nat} {x : MapEntry} (hp : es.toList[p]? = some x) (hx : x.key = .int .i64 n) (he : es'.toList = es.toList.eraseIdx p) : MapR (delZ n ks) es' c := by
  have hsub : ∀ e, e ∈ es'.toList → e ∈ es.toList := fun e h1 => by rw [he] at h1; exact List.mem_of_mem_eraseIdx h1
  have hlt : p < es.toList.length := (List.getElem?_eq_some_iff.1 hp).1
  have hpx : es.toList[p] = x := (List.getElem?_eq_some_iff.1 hp).2
  have hnk : ∀ e, e ∈ es'.toList → e.key ≠ .int .i64 n := by
    intro e h1 hk
    rw [he, List.mem_eraseIdx_iff_getElem] at h1
    obtain ⟨j, hj, hne, rfl⟩ := h1
    have h2 := List.pairwise_iff_getElem.1 h.keys
    rcases Nat.lt_or_gt_of_ne hne with c | c
    · exact h2 j p (by simpa using hj) (by simpa using hlt) c (by rw [List.getElem_map, List.getElem_map, hpx, hk, hx])
    · exact h2 p j (by simpa using hlt) (by simpa using hj) c (by rw [List.getElem_map, List.getElem_map, hpx, hk, hx])
  refine ⟨fun e h1 => h.all e (hsub e h1), fun m => ?_, fun e h1 => h.born e (hsub e h1), ?_, ?_⟩
  · simp only [delZ, List.mem_filter, bne_iff_ne, ne_eq]
    constructor
    · rintro ⟨h1, h2⟩
      obtain ⟨e, h3, h4⟩ := (h.key m).1 h1
      refine ⟨e, ?_, h4⟩
      rw [he, List.mem_eraseIdx_iff_getElem]
      obtain ⟨j, hj, rfl⟩ := List.getElem_of_mem h3
      refine ⟨j, hj, fun c => ?_, rfl⟩
      subst c
      rw [hpx, hx] at h4
      simp only [Value.int.injEq, true_and] at h4
      exact h2 h4.symm
    · rintro ⟨e, h1, h2⟩
      refine ⟨(h.key m).2 ⟨e, hsub e h1, h2⟩, fun c => ?_⟩
      subst c
      exact hnk e h1 h2
  · rw [he]; exact List.Nodup.sublist ((List.eraseIdx_sublist _ _).map _) h.uniq
  · rw [he]; exact List.Nodup.sublist ((List.eraseIdx_sublist _ _).map _) h.keys

/-! ### the operations -/
theorem hMkM_run (hc : CtxOK P cx) (h : Rel Γ st.sl st.ob a w M ν) {gd : Bool} {dst : Option Nat} {t : Nat} {u : Up} (hu : hMkM cx gd dst t [] = some u) :
    ∃ v w', (Instr.makeMap t none).run P w = .ok v w' ∧ Eff Γ st u a M ν v w' := by
  simp only [hMkM] at hu
  split at hu
  · rename_i d hm
    simp only [Option.some.injEq] at hu
    subst hu
    refine ⟨.map (some w.heap.size), plus w (.map #[] 0), by simp [Instr.makeMap, newObj, Sem.run, plus], st, M, updN ν d (.map (some w.heap.size)), updN_out _ _ _, rfl, Frz.le_refl M, ?_, ?_⟩
    · refine (Rel.kills st (ks := [d]) h).new (free_kills st (.inl (by simp))) rfl ?_
      exact ⟨w.heap.size, #[], 0, updN_self _ _ _, plus_get _ _, by simp, fun n => by simp, by simp, by simp, by simp⟩
    · simp only [R]; exact ⟨updN_self _ _ _, _, rfl⟩
  · cases hu
theorem hIns_run (hc : CtxOK P cx) (h : Rel Γ st.sl st.ob a w M ν) {t : Nat} {m x y : AV} {vm vx vy : Value} {u : Up} (hu : hIns cx (og st.ob) t [m, x, y] = some u) (h1 : R M ν m vm) (h2 : R M ν x vx) (h3 : R M ν y vy) :
    ∃ w', (Instr.mapUpdate t vm vx vy).run P w = .ok () w' ∧ ∀ v, Eff Γ st u a M ν v w' := by
  unfold hIns at hu
  split at hu
  · rename_i k n heq
    cases heq
    split at hu
    · rename_i ks hm hk
      simp only [Option.some.injEq] at hu
      subst hu
      obtain ⟨b, es, c, rfl, hb, hM, hν⟩ := mp_world h1 (h.obs _ _ hk)
      simp only [R] at h2 h3; subst h2 h3
      obtain ⟨es', c', hrun, hM'⟩ := mapUpdate_run (n := n) hc hm hb hM
      refine ⟨_, hrun, fun v => ⟨st, M, ν, fun _ _ => rfl, rfl, Frz.le_refl M, ?_, by simp [R]⟩⟩
      exact h.turn0 hk hν rfl setMap_turn ⟨b, es', c', hν, setMap_here hb, hM'⟩
    · cases hu
  · cases hu
theorem hLkp_run (hc : CtxOK P cx) (h : Rel Γ st.sl st.ob a w M ν) {t : Nat} {ok : Bool} {m x : AV} {vm vx : Value} {u : Up} (hu : hLkp cx (og st.ob) t ok [m, x] = some u) (h1 : R M ν m vm) (h2 : R M ν x vx) :
    u.put = [] ∧ u.kil = [] ∧ u.frz = [] ∧ ∃ v, (Instr.lookup t vm vx ok).run P w = .ok v w ∧ R M ν u.val v := by
  unfold hLkp at hu
  split at hu
  · rename_i k n heq
    cases heq
    split at hu
    · rename_i ks hm hk
      simp only [up0, Option.some.injEq] at hu
      subst hu
      obtain ⟨b, es, c, rfl, hb, hM, hν⟩ := mp_world h1 (h.obs _ _ hk)
      simp only [R] at h2; subst h2
      exact ⟨rfl, rfl, rfl, _, lookup_run hc hm (.inr ⟨b, es, c, rfl, hb, hM⟩), by simp [R]⟩
    · cases hu
  · rename_i ks n heq
    cases heq
    split at hu
    · rename_i hm
      simp only [up0, Option.some.injEq] at hu
      subst hu
      simp only [R] at h2; subst h2
      exact ⟨rfl, rfl, rfl, _, lookup_run hc hm (ms_world h.frz h1), by simp [R]⟩
    · cases hu
  · cases hu
theorem hRng_run (hc : CtxOK P cx) (h : Rel Γ st.sl st.ob a w M ν) {gd : Bool} {dst : Option Nat} {t : Nat} {m : AV} {vm : Value} {u : Up} (hu : hRng cx gd dst t [m] = some u) (h1 : R M ν m vm) :
    ∃ v w', (Instr.range t vm).run P w = .ok v w' ∧ Eff Γ st u a M ν v w' := by
  unfold hRng at hu
  split at hu
  · rename_i ks heq
    cases heq
    split at hu
    · rename_i d hm
      simp only [Option.some.injEq] at hu
      subst hu
      obtain ⟨k, e, i, q1, _⟩ := hc.mpt t hm
      have fin : ∀ o : Obj, (Instr.range t vm).run P w = .ok (.pointer (some ⟨w.heap.size, 0, none⟩)) (plus w o) →
          ((o = .mapIter none 0 #[] 0 ∧ ks = []) ∨ ∃ m es c, o = .mapIter (some m) c #[] c ∧ M m = some (.map es c) ∧ MapR ks es c) →
          ∃ v w', (Instr.range t vm).run P w = .ok v w' ∧ Eff Γ st ⟨.ref d 0, [(d, .itr ks none)], [d], [], []⟩ a M ν v w' := by
        intro o hrun ho
        refine ⟨_, _, hrun, st, M, updN ν d (.pointer (some ⟨w.heap.size, 0, none⟩)), updN_out _ _ _, rfl, Frz.le_refl M, ?_, ?_⟩
        · refine (Rel.kills st (ks := [d]) h).new (free_kills st (.inl (by simp))) rfl ?_
          refine ⟨w.heap.size, updN_self _ _ _, ?_⟩
          rw [plus_get]
          rcases ho with ⟨rfl, rfl⟩ | ⟨m, es, c, rfl, e1, e2⟩
          · exact .inl ⟨rfl, rfl, rfl⟩
          · refine .inr ⟨m, es, c, #[], rfl, e1, ?_, e2.born, e2.uniq, fun n hn => by cases hn⟩
            have : (es.filter fun e => !(#[] : Array Nat).contains e.born) = es := by simp
            rw [this]; exact e2
        · simp only [R]; exact ⟨_, updN_self _ _ _, rfl⟩
      simp only [R] at h1
      rcases h1 with ⟨rfl, rfl⟩ | ⟨b, es, c, rfl, e1, e2⟩
      · refine fin (.mapIter none 0 #[] 0) ?_ (.inl ⟨rfl, rfl⟩)
        simp [Instr.range, run_und q1, Result.andThen, newObj, Sem.run, plus]
      · refine fin (.mapIter (some b) c #[] c) ?_ (.inr ⟨b, es, c, rfl, e1, e2⟩)
        simp only [Instr.range, Sem.run_bind, run_und q1, Result.andThen, run_getMap (h.frz _ _ e1), Sem.run_pure]
        rfl
    · cases hu
  · cases hu
theorem hEnt_run (h : Rel Γ st.sl st.ob a w M ν) {m : AV} {vm : Value} {u : Up} (hu : hEnt (og st.ob) [m] = some u) (h1 : R M ν m vm) :
    u.put = [] ∧ u.kil = [] ∧ u.frz = [] ∧ ∃ v, (Instr.entry vm).run P w = .ok v w ∧ R M ν u.val v := by
  unfold hEnt at hu
  split at hu
  · rename_i k heq
    cases heq
    split at hu
    · rename_i ks n hk
      simp only [up0, Option.some.injEq] at hu
      subst hu
      obtain ⟨b, e1, e2⟩ := h.obs _ _ hk
      simp only [R] at h1
      obtain ⟨b', e3, rfl⟩ := h1
      rw [e1] at e3
      simp only [Option.some.injEq, Value.pointer.injEq, Addr.mk.injEq, and_true] at e3
      subst e3
      rcases e2 with ⟨_, _, c⟩ | ⟨m, es, c, seen, e4, e5, e6, e7, e8, e9⟩
      · cases c
      · obtain ⟨e, f1, f2, f3, f4⟩ := e9 n rfl
        refine ⟨rfl, rfl, rfl, .tuple #[.int .i64 n, .bool true], ?_, ?_⟩
        · have hfind : es.find? (fun x => x.born == e.born) = some e := by
            rw [← Array.find?_toList]
            cases hf : es.toList.find? (fun x => x.born == e.born) with
            | none =>
              have := List.find?_eq_none.1 hf e f1
              simp at this
            | some y =>
              have hy := List.mem_of_find?_eq_some hf
              have hb := List.find?_some hf
              simp only [beq_iff_eq] at hb
              rw [born_inj e8 hy f1 hb]
          have hit : (getObj b).run P w = .ok (.mapIter (some m) c seen c) w := by simp [getObj, Sem.run, e4]
          simp only [Instr.entry, Sem.run_bind, hit, Result.andThen, f2, run_getMap (h.frz _ _ e5)]
          simp [hfind, f3, f4]
        · simp only [R]; exact ⟨[.int .i64 n, .bool true], rfl, by simp [RL, R]⟩
    · cases hu
  · cases hu
theorem hDel_run (hc : CtxOK P cx) (h : Rel Γ st.sl st.ob a w M ν) {t : Nat} {k : Nat} {n : Int} {ks : List Int} {vm vx : Value} {ts : Array TypeId} {ty : TypeId} (ht : ts[0]? = some t) (hm : cx.mpt t = true) (hk : og st.ob k = some (.map ks))
    (h1 : R M ν (.mp k) vm) (h2 : R M ν (.int .i64 n) vx) :
    ∃ v w', (Builtin.delete_ ts ty #[vm, vx]).run P w = .ok v w' ∧ Eff Γ st ⟨.junk, [(k, .map (delZ n ks))], [], [], []⟩ a M ν v w' := by
  obtain ⟨b, es, c, rfl, hb, hM, hν⟩ := mp_world h1 (h.obs _ _ hk)
  simp only [R] at h2; subst h2
  obtain ⟨kt, e, i, q1, q2, q3, q4⟩ := hc.mpt t hm
  have fin : ∀ es' : Array MapEntry, (Builtin.delete_ ts ty #[.map (some b), .int .i64 n]).run P w = .ok (.tuple #[]) { w with heap := w.heap.setIfInBounds b (.map es' c) } → MapR (delZ n ks) es' c →
      ∃ v w', (Builtin.delete_ ts ty #[.map (some b), .int .i64 n]).run P w = .ok v w' ∧ Eff Γ st ⟨.junk, [(k, .map (delZ n ks))], [], [], []⟩ a M ν v w' := by
    intro es' hrun hM'
    exact ⟨_, _, hrun, st, M, ν, fun _ _ => rfl, rfl, Frz.le_refl M, h.turn0 hk hν rfl setMap_turn ⟨b, es', c, hν, setMap_here hb, hM'⟩, by simp [R]⟩
  rcases findNow_int n es.toList 0 (fun e he => hM.all e he) with ⟨h5, h6⟩ | ⟨p, x, h5, h6, h7⟩
  · refine fin es ?_ (hM.same fun m => ?_)
    · simp only [Builtin.delete_, ht, List.getElem?_toArray, List.getElem?_cons_zero, List.getElem?_cons_succ, Sem.run_bind, run_und q1, Result.andThen, run_getMap hb]
      rw [run_checkKey q2]
      simp only [Result.andThen]
      rw [run_findKey q2 h5]
      simp only [Result.andThen, Sem.run_bind]
      rw [run_setMap hb (by intro x y z c; cases c)]
      rfl
    · simp only [delZ, List.mem_filter, bne_iff_ne, ne_eq]
      refine ⟨fun h => h.1, fun h => ⟨h, fun c => ?_⟩⟩
      subst c
      obtain ⟨e, he, hke⟩ := (hM.key m).1 h
      exact h6 e he hke
  · refine fin (es.eraseIdxIfInBounds p) ?_ (hM.del h5 h6 ?_)
    · simp only [Builtin.delete_, ht, List.getElem?_toArray, List.getElem?_cons_zero, List.getElem?_cons_succ, Sem.run_bind, run_und q1, Result.andThen, run_getMap hb]
      rw [run_checkKey q2]
      simp only [Result.andThen]
      rw [run_findKey q2 h7]
      simp only [Result.andThen, Nat.zero_add, Sem.run_bind]
      rw [run_setMap hb (by intro x y z c; cases c)]
      rfl
    · have hlt : p < es.size := by
        have := (List.getElem?_eq_some_iff.1 h5).1
        simpa using this
      simp [Array.eraseIdxIfInBounds, hlt]
end
end Go.Sx

set_option linter.unusedVariables false
set_option linter.unusedSimpArgs false
namespace Go.Sx
open Go Go.RowKit

section
variable {P : Program} {cx : Ctx} {M M' : Frz} {ν : Nms} {w : World} {g : Nat → Option Ob} {Γ : Env} {sl : List AV} {ob : List (Nat × Ob)} {a : Act} {st : St}

theorem Eff_pure (h : Rel Γ st.sl st.ob a w M ν) {v : AV} {o : List Bool} {x : Value} (hv : R M ν v x) : Eff Γ st ⟨v, [], [], [], o⟩ a M ν x w :=
  ⟨st, M, ν, (fun _ _ => rfl), rfl, Frz.le_refl M, h, hv⟩

theorem run_append_zeros (hc : CtxOK P cx) {t t' : TypeId} {ek : EK} (hsk : cx.sk t = some ek) (hik : cx.ik t' = some .i64) {n : Int} {ty : TypeId} {ts : Array TypeId} (hw : ek.wid = 1)
    (h0 : ts[0]? = some t) (h1 : ts[1]? = some t') (hn0 : 0 ≤ n) (hn1 : n ≤ 1000000000) :
    (n = 0 ∧ (Builtin.append_ ts ty #[.slice none 0 0, .int .i64 n]).run P w = .ok (.slice none 0 0) w) ∨
    (0 < n ∧ ∃ cap cells e, (Builtin.append_ ts ty #[.slice none 0 0, .int .i64 n]).run P w = .ok (.slice (some ⟨w.heap.size, 0, none⟩) n.toNat cap) (plus { w with drawn := w.drawn + 1 } (.cells cells e)) ∧
      n.toNat ≤ cap ∧ cells.size = cap ∧ ∀ p, p < n.toNat → cells[p]? = some ek.zero) := by
  obtain ⟨e, i, z, ht, hi, hs, hz, hb1, hb2, hzs, hzc⟩ := hc.sk t ek hsk
  have ht' := hc.ik t' .i64 hik
  rw [hw] at hs hzs
  have hwrap := wrap_i64 hn0 hn1
  have hneg : ¬ n < 0 := by omega
  have hbytes : ¬ (n * (i.bytes : Int) > 2 ^ 48) := by
    have : n * (i.bytes : Int) ≤ 1000000000 * 64 := Int.mul_le_mul hn1 (by omega) (by omega) (by omega)
    omega
  by_cases hz0 : n = 0
  · subst hz0
    left
    refine ⟨rfl, ?_⟩
    simp only [Builtin.append_, h0, h1, List.getElem?_toArray, List.getElem?_cons_zero, List.getElem?_cons_succ, Sem.run_bind, run_und ht, Result.andThen, run_so hi, hs, run_und ht', Sem.run_pure]
    simp [asInt, asIntOf, hwrap, run_ti hi]
  · right
    refine ⟨by omega, ?_⟩
    have hneed : ¬ (0 + n.toNat ≤ 0) := by omega
    have hmax : ¬ (((0 + n.toNat : Nat) : Int) > IntKind.i64.max) := by simp [IntKind.max_i64]; omega
    have hcap : ¬ (Builtin.nextslicecap (0 + n.toNat) 0 * i.bytes > 2 ^ 48) := by
      have h2 := nextcap_le (need := 0 + n.toNat) (old := 0) (by omega) (by omega)
      have : Builtin.nextslicecap (0 + n.toNat) 0 * i.bytes ≤ 8000000000 * 64 := Nat.mul_le_mul h2 hb2
      omega
    have hbz : ¬ i.bytes = 0 := by omega
    have hnz : ¬ n.toNat * 1 = 0 := by omega
    let cap := (Question.appendCap n.toNat 0 e).cut (w.tape w.drawn (.appendCap n.toNat 0 e))
    have hcapge : n.toNat ≤ cap := by simp only [cap, Question.cut]; omega
    let cells : Array Value := #[] ++ Builtin.zeroCells z.cells n.toNat ++ Builtin.zeroCells z.cells (cap - n.toNat)
    refine ⟨cap, cells, e, ?_, hcapge, ?_, fun p hp => ?_⟩
    · simp only [Builtin.append_, h0, h1, List.getElem?_toArray, List.getElem?_cons_zero, List.getElem?_cons_succ, Sem.run_bind, run_und ht, Result.andThen, run_so hi, hs, run_und ht', Sem.run_pure]
      simp only [asInt, asIntOf, Sem.run_bind, Sem.run_pure, Result.andThen, hwrap, hneg, if_false, if_true, run_ti hi, hbytes, hneed, hmax, false_and, hcap, Bool.false_eq_true, gt_iff_lt]
      simp only [run_choose, Question.forced, Bool.false_eq_true, if_false, Result.andThen, run_askRoom, Builtin.firstCells, Sem.run_pure, Bool.not_true, hnz, Sem.run_bind, run_zv hi hz]
      simp only [newRow, Sem.run_bind, run_newObj, Sem.run_pure, Result.andThen, Nat.zero_add]
      rfl
    · simp only [cells, Array.size_append, Builtin.zeroCells, Array.size_map, Array.size_range, hzs, List.size_toArray, List.length_nil]
      omega
    · have hz1 : z.cells[0]! = ek.zero := by
        have := hzc 0 (by omega)
        rw [getElem!_def, this]
      simp only [cells, Array.empty_append]
      rw [Array.getElem?_append, if_pos (by simp [Builtin.zeroCells, hzs]; omega)]
      have := (toList_zeroCells z.cells n.toNat hzs).2 p (by omega)
      rw [Array.getElem?_toList, Nat.mod_one, hz1] at this
      exact this

theorem toList_get {ts : Array TypeId} {l : List TypeId} (h : ts.toList = l) (j : Nat) : ts[j]? = l[j]? := by
  rw [← h]; simp

theorem builtinA_run (hc : CtxOK P cx) (h : Rel Γ st.sl st.ob a w M ν) {dst : Option Nat} {b : Builtin} {ts : Array TypeId} {vs : List AV} {ys : List Value} {u : Up} {ty : TypeId} {cs : Array Bool}
    (hu : builtinA (og st.ob) cx dst b ts.toList vs = some u) (ho : AllT u.obl) (hy : RL M ν vs ys) :
    u.frz = [] ∧ ∃ v w', (builtin b ts ty cs ys.toArray).run P w = .ok (.value v) w' ∧ Eff Γ st u a M ν v w' ∧ ((b = .len ∨ b = .max ∨ b = .min) → w' = w ∧ u.put = [] ∧ u.kil = [] ∧ R M ν u.val v) := by
  unfold builtinA at hu
  split at hu
  · -- len
    rename_i x
    simp only [RL] at hy
    obtain ⟨y, ys', rfl, hx, rfl⟩ := hy
    split at hu
    · rename_i t tr htl
      split at hu
      · rename_i ek n hsk hlen
        simp only [up0, Option.some.injEq] at hu; subst hu
        have hrun := lenA_run (P := P) (ts := ts) (ty := ty) hc hsk (by rw [toList_get htl]; rfl) hlen hx h.obs
        refine ⟨rfl, .int .i64 n, w, by simp only [builtin, Sem.run_bind, hrun, Result.andThen, Sem.run_pure], Eff_pure h (by simp [R]), fun _ => ⟨rfl, rfl, rfl, by simp [R]⟩⟩
      · cases hu
    · cases hu
  · -- cap of nil
    simp only [RL, R] at hy
    obtain ⟨y, ys', rfl, rfl, rfl⟩ := hy
    split at hu
    · rename_i t tr htl
      split at hu
      · rename_i ek hsk
        simp only [up0, Option.some.injEq] at hu; subst hu
        obtain ⟨e, i, z, ht, _⟩ := hc.sk t ek hsk
        have h0 : ts[0]? = some t := by rw [toList_get htl]; rfl
        refine ⟨rfl, .int .i64 0, w, ?_, Eff_pure h (by simp [R]), fun c => by rcases c with c | c | c <;> cases c⟩
        simp [builtin, Builtin.cap_, h0, run_und ht, goInt]
      · cases hu
    · cases hu
  · -- max
    rename_i m n
    simp only [RL, R] at hy
    obtain ⟨y, ys', rfl, rfl, y2, ys2, rfl, rfl, rfl⟩ := hy
    simp only [up0, Option.some.injEq] at hu; subst hu
    refine ⟨rfl, .int .i64 (maxI m n), w, ?_, Eff_pure h (by simp [R]), fun _ => ⟨rfl, rfl, rfl, by simp [R]⟩⟩
    simp [builtin, Builtin.max_, Builtin.max2, maxI]
  · -- min
    rename_i m n
    simp only [RL, R] at hy
    obtain ⟨y, ys', rfl, rfl, y2, ys2, rfl, rfl, rfl⟩ := hy
    simp only [up0, Option.some.injEq] at hu; subst hu
    refine ⟨rfl, .int .i64 (minI m n), w, ?_, Eff_pure h (by simp [R]), fun _ => ⟨rfl, rfl, rfl, by simp [R]⟩⟩
    simp [builtin, Builtin.min_, Builtin.min2, minI]
  · -- append
    rename_i s x
    simp only [RL] at hy
    obtain ⟨y, ys', rfl, hs, y2, ys2, rfl, hx, rfl⟩ := hy
    split at hu
    · rename_i t t' tr htl
      have h0 : ts[0]? = some t := by rw [toList_get htl]; rfl
      have h1 : ts[1]? = some t' := by rw [toList_get htl]; rfl
      split at hu
      · rename_i ek d hsk
        split at hu
        · rename_i ek' hsk'
          cases hsame : ek.same ek' <;> rw [hsame] at hu <;> simp only [cond_true, cond_false, reduceCtorEq] at hu
          have := same_eq hsame; subst this
          obtain ⟨h2, v, w', h3, h4⟩ := appendA_run (ty := ty) hc h hsk hsk' h0 h1 hu ho hs hx
          exact ⟨h2, v, w', by simp only [builtin, Sem.run_bind, h3, Result.andThen, Sem.run_pure], h4, fun c => by rcases c with c | c | c <;> cases c⟩
        · split at hu
          · rename_i n dd0 hik hz0
            cases hz : zeroOf ek n with
            | none => rw [hz] at hu; cases hu
            | some dd =>
              rw [hz] at hu
              simp only [Option.some.injEq] at hu; subst hu
              simp only [AllT_cons] at ho
              have hn0 := leI_iff.1 ho.1
              have hn1 := leI_iff.1 ho.2.1
              simp only [R] at hs hx; subst hs hx
              obtain ⟨e1, e2, e3, e4⟩ := zeroOf_run (M := M) hz hn0
              rcases run_append_zeros (P := P) (w := w) (ty := ty) hc hsk (by assumption) e3 h0 h1 hn0 hn1 with ⟨rfl, hrun⟩ | ⟨hpos, cap, cells, e, hrun, r2, r3, r4⟩
              · refine ⟨rfl, .slice none 0 0, w, by simp only [builtin, Sem.run_bind, hrun, Result.andThen, Sem.run_pure], ⟨st, M, updN ν d (.slice none 0 0), updN_out _ _ _, rfl, Frz.le_refl M, ?_, ?_⟩, fun c => by rcases c with c | c | c <;> cases c⟩
                · exact (Rel.kills st (ks := [d]) h).newNil (free_kills st (.inl (by simp))) (by intro b hb; cases hb; simp [ltI]) (by rw [e2]; rfl)
                · simp only [R]; exact ⟨updN_self _ _ _, _, _, _, rfl⟩
              · refine ⟨rfl, .slice (some ⟨w.heap.size, 0, none⟩) n.toNat cap, plus { w with drawn := w.drawn + 1 } (.cells cells e), by simp only [builtin, Sem.run_bind, hrun, Result.andThen, Sem.run_pure], ⟨st, M, updN ν d (.slice (some ⟨w.heap.size, 0, none⟩) n.toNat cap), updN_out _ _ _, rfl, Frz.le_refl M, ?_, ?_⟩, fun c => by rcases c with c | c | c <;> cases c⟩
                · refine (Rel.kills st (ks := [d]) h.drawn).new (free_kills st (.inl (by simp))) rfl ?_
                  refine ⟨some ⟨w.heap.size, 0, none⟩, cap, by rw [updN_self, e2], (by intro b hb; cases hb; simp [ltI, hpos]), .inl ⟨w.heap.size, cells, e, rfl, plus_get _ _, e4 _ (fun j hj => r4 j hj), by rw [e2]; exact r2, ?_⟩⟩
                  have : dd.wid = 1 := by rw [← ek_wid, e1, e3]
                  rw [this, r3]; omega
                · simp only [R]; exact ⟨updN_self _ _ _, _, _, _, rfl⟩
          · cases hu
      · cases hu
    · cases hu
  · -- copy
    rename_i x y
    simp only [RL] at hy
    obtain ⟨y1, ys', rfl, hs, y2, ys2, rfl, hx, rfl⟩ := hy
    split at hu
    · rename_i t tr htl
      split at hu
      · rename_i hsk
        obtain ⟨h2, v, w', h3, h4⟩ := copyA_run (ty := ty) (ts := ts) hc h hsk (by rw [toList_get htl]; rfl) hu hs hx
        exact ⟨h2, v, w', by simp only [builtin, Sem.run_bind, h3, Result.andThen, Sem.run_pure], h4, fun c => by rcases c with c | c | c <;> cases c⟩
      · cases hu
    · cases hu
  · -- clear
    rename_i x
    simp only [RL] at hy
    obtain ⟨y1, ys', rfl, hs, rfl⟩ := hy
    split at hu
    · rename_i t tr htl
      split at hu
      · rename_i ek hsk
        obtain ⟨h2, v, w', h3, h4⟩ := clearA_run (ty := ty) (ts := ts) hc h hsk (by rw [toList_get htl]; rfl) hu hs
        exact ⟨h2, v, w', by simp only [builtin, Sem.run_bind, h3, Result.andThen, Sem.run_pure], h4, fun c => by rcases c with c | c | c <;> cases c⟩
      · cases hu
    · cases hu
  · -- delete
    rename_i k n
    simp only [RL] at hy
    obtain ⟨y1, ys', rfl, hs, y2, ys2, rfl, hx, rfl⟩ := hy
    split at hu
    · rename_i t tr htl
      split at hu
      · rename_i ks hm hk
        simp only [Option.some.injEq] at hu
        subst hu
        obtain ⟨v, w', h3, h4⟩ := hDel_run (ty := ty) (ts := ts) hc h (by rw [toList_get htl]; rfl) hm hk hs hx
        exact ⟨rfl, v, w', by simp only [builtin, Sem.run_bind, h3, Result.andThen, Sem.run_pure], h4, fun c => by rcases c with c | c | c <;> cases c⟩
      · cases hu
    · cases hu
  · cases hu

end
end Go.Sx

set_option linter.unusedVariables false
set_option linter.unusedSimpArgs false
namespace Go.Sx
open Go Go.RowKit

/-! Names may come to stand for more. -/
mutual
theorem R_up {M : Frz} {ν ν' : Nms} (h : ∀ k u, ν k = some u → ν' k = some u) : ∀ {a : AV} {v : Value}, R M ν a v → R M ν' a v
  | .int _ _, _, e => by simpa [R] using e
  | .bool _, _, e => by simpa [R] using e
  | .c _, _, e => by simpa [R] using e
  | .nils, _, e => by simpa [R] using e
  | .agg cs, v, e => by
    simp only [R] at e ⊢
    obtain ⟨vs, rfl, e⟩ := e
    exact ⟨vs, rfl, RL_up h e⟩
  | .tup cs, v, e => by
    simp only [R] at e ⊢
    obtain ⟨vs, rfl, e⟩ := e
    exact ⟨vs, rfl, RL_up h e⟩
  | .sl nk d, v, e => by simpa only [R] using e
  | .own k, v, e => by simp only [R] at e ⊢; exact ⟨h k _ e.1, e.2⟩
  | .sub k .., v, e => by
    simp only [R] at e ⊢
    obtain ⟨base, base', n, cap, e1, e2⟩ := e
    exact ⟨base, base', n, cap, h k _ e1, e2⟩
  | .ref k .., v, e => by
    simp only [R] at e ⊢
    obtain ⟨b, e1, e2⟩ := e
    exact ⟨b, h k _ e1, e2⟩
  | .elt k .., v, e => by
    simp only [R] at e ⊢
    obtain ⟨b, n, cap, e1, e2⟩ := e
    exact ⟨b, n, cap, h k _ e1, e2⟩
  | .adr d i f, v, e => by simpa only [R] using e
  | .snap cs f, v, e => by
    simp only [R] at e ⊢
    obtain ⟨b, vs, t, fr, rfl, hb, e⟩ := e
    exact ⟨b, vs, t, fr, rfl, hb, RL_up h e⟩
  | .clo f cs, v, e => by
    simp only [R] at e ⊢
    obtain ⟨vs, rfl, e⟩ := e
    exact ⟨vs, rfl, RL_up h e⟩
  | .ifc t a, v, e => by
    simp only [R] at e ⊢
    obtain ⟨u, rfl, e⟩ := e
    exact ⟨u, rfl, R_up h e⟩
  | .when g a, v, e => by
    simp only [R] at e ⊢
    exact ⟨fun hg => R_up h (e.1 hg), e.2⟩
  | .osl _ _, _, e => by simp [R] at e
  | .obx _, _, e => by simp [R] at e
  | .omp _, _, e => by simp [R] at e
  | .mp k, v, e => by simp only [R] at e ⊢; exact ⟨h k _ e.1, e.2⟩
  | .ms ks, v, e => by simpa only [R] using e
  | .junk, _, _ => by simp [R]
theorem RL_up {M : Frz} {ν ν' : Nms} (h : ∀ k u, ν k = some u → ν' k = some u) : ∀ {cs : List AV} {vs : List Value}, RL M ν cs vs → RL M ν' cs vs
  | [], vs, e => by simpa [RL] using e
  | a :: l, vs, e => by
    simp only [RL] at e ⊢
    obtain ⟨v, vs', rfl, e1, e2⟩ := e
    exact ⟨v, vs', rfl, R_up h e1, RL_up h e2⟩
end

/-- no name -/
def nu0 : Nms := fun _ => none
theorem R_0 {M : Frz} {ν : Nms} {a : AV} {v : Value} (h : R M nu0 a v) : R M ν a v := R_up (fun k u e => by cases e) h
theorem RL_0 {M : Frz} {ν : Nms} {a : List AV} {v : List Value} (h : RL M nu0 a v) : RL M ν a v := RL_up (fun k u e => by cases e) h

/-! Values that point at nothing frozen. -/
mutual
theorem R_ind {M M' : Frz} : ∀ {a : AV} {v : Value}, a.ind = true → R M nu0 a v → R M' nu0 a v
  | .int _ _, _, _, e => by simpa [R] using e
  | .bool _, _, _, e => by simpa [R] using e
  | .nils, _, _, e => by simpa [R] using e
  | .junk, _, _, e => by simp [R]
  | .osl .., _, _, e => by simp [R] at e
  | .obx _, _, _, e => by simp [R] at e
  | .agg cs, v, h, e => by
    simp only [R] at e ⊢
    obtain ⟨vs, rfl, e⟩ := e
    exact ⟨vs, rfl, RL_ind (by simpa [AV.ind] using h) e⟩
  | .tup cs, v, h, e => by
    simp only [R] at e ⊢
    obtain ⟨vs, rfl, e⟩ := e
    exact ⟨vs, rfl, RL_ind (by simpa [AV.ind] using h) e⟩
  | .ifc t a, v, h, e => by
    simp only [R] at e ⊢
    obtain ⟨u, rfl, e⟩ := e
    exact ⟨u, rfl, R_ind (by simpa [AV.ind] using h) e⟩
  | .c _, _, h, _ => by simp [AV.ind] at h
  | .sl .., _, h, _ => by simp [AV.ind] at h
  | .own _, _, h, _ => by simp [AV.ind] at h
  | .sub .., _, h, _ => by simp [AV.ind] at h
  | .ref .., _, h, _ => by simp [AV.ind] at h
  | .elt .., _, h, _ => by simp [AV.ind] at h
  | .adr .., _, h, _ => by simp [AV.ind] at h
  | .snap .., _, h, _ => by simp [AV.ind] at h
  | .clo .., _, h, _ => by simp [AV.ind] at h
  | .when .., _, h, _ => by simp [AV.ind] at h
  | .omp _, _, h, _ => by simp [AV.ind] at h
  | .mp _, _, h, _ => by simp [AV.ind] at h
  | .ms _, _, h, _ => by simp [AV.ind] at h
theorem RL_ind {M M' : Frz} : ∀ {cs : List AV} {vs : List Value}, AV.indL cs = true → RL M nu0 cs vs → RL M' nu0 cs vs
  | [], vs, _, e => by simpa [RL] using e
  | a :: l, vs, h, e => by
    simp only [RL] at e ⊢
    obtain ⟨v, vs', rfl, e1, e2⟩ := e
    simp only [AV.indL] at h
    obtain ⟨h1, h2⟩ := andB_iff.1 h
    exact ⟨v, vs', rfl, R_ind h1 e1, RL_ind h2 e2⟩
end

/-! ### reading -/
section
variable {M Mt : Frz} {ν : Nms} {w : World} {g : Nat → Option Ob}

theorem Frz.cell_mem {M : Frz} {b : Nat} {cs : Array Value} {e : TypeId} {p : Nat × Nat} (h : M b = some (.cells cs e p)) (j : Nat) : M.cell b j = cs[j]? := by
  simp [Frz.cell, h]

/-- The objects stand in the world, and in a larger frozen memory. -/
def ObsF (M Mt : Frz) (ν : Nms) (w : World) (g : Nat → Option Ob) : Prop :=
  ∀ k o, g k = some o → ObR M ν w k o ∧ ∀ b, blkV (ν k) = some b → Mt b = w.heap[b]?

theorem rd_both (hM : M.le Mt) (hg : ObsF M Mt ν w g) : ∀ n : Nat,
    (∀ (a b : AV) (v : Value), R M ν a v → AV.rd g n a = some b → R Mt nu0 b v) ∧
    (∀ (l m : List AV) (vs : List Value), RL M ν l vs → AV.rdL g n l = some m → RL Mt nu0 m vs) := by
  intro n
  induction n with
  | zero => exact ⟨fun a b v _ h => by simp [AV.rd] at h, fun l m vs _ h => by simp [AV.rdL] at h⟩
  | succ n ih =>
    obtain ⟨ih1, ih2⟩ := ih
    constructor
    · intro a b v hv h
      cases a <;> simp only [AV.rd, reduceCtorEq, Option.some.injEq] at h
      case int => subst h; simpa [R] using hv
      case bool => subst h; simpa [R] using hv
      case c => subst h; simpa [R] using hv
      case nils => subst h; simpa [R] using hv
      case sl => subst h; simp only [R] at hv ⊢; exact hv.le hM
      case adr => 
        subst h
        simp only [R] at hv ⊢
        obtain ⟨b, o, rfl, hr, hi⟩ := hv
        exact ⟨b, o, rfl, hr.imp hM fun j v hj => Frz.cell_le hM hj, hi⟩
      case agg cs =>
        cases hcs : AV.rdL g n cs <;> rw [hcs] at h <;> simp only [reduceCtorEq, Option.some.injEq] at h
        subst h
        simp only [R] at hv ⊢
        obtain ⟨vs, rfl, hv⟩ := hv
        exact ⟨vs, rfl, ih2 _ _ _ hv hcs⟩
      case tup cs =>
        cases hcs : AV.rdL g n cs <;> rw [hcs] at h <;> simp only [reduceCtorEq, Option.some.injEq] at h
        subst h
        simp only [R] at hv ⊢
        obtain ⟨vs, rfl, hv⟩ := hv
        exact ⟨vs, rfl, ih2 _ _ _ hv hcs⟩
      case snap cs f =>
        cases hcs : AV.rdL g n cs <;> rw [hcs] at h <;> simp only [reduceCtorEq, Option.some.injEq] at h
        subst h
        simp only [R] at hv ⊢
        obtain ⟨b, vs, t, fr, rfl, hb, hv⟩ := hv
        exact ⟨b, vs, t, fr, rfl, hM _ _ hb, ih2 _ _ _ hv hcs⟩
      case clo f cs =>
        cases hcs : AV.rdL g n cs <;> rw [hcs] at h <;> simp only [reduceCtorEq, Option.some.injEq] at h
        subst h
        simp only [R] at hv ⊢
        obtain ⟨vs, rfl, hv⟩ := hv
        exact ⟨vs, rfl, ih2 _ _ _ hv hcs⟩
      case ifc t a =>
        cases ha : AV.rd g n a <;> rw [ha] at h <;> simp only [reduceCtorEq, Option.some.injEq] at h
        subst h
        simp only [R] at hv ⊢
        obtain ⟨u, rfl, hv⟩ := hv
        exact ⟨u, rfl, ih1 _ _ _ hv ha⟩
      case own k =>
        cases hk : g k with
        | none => rw [hk] at h; cases h
        | some p =>
          rw [hk] at h
          cases p <;> simp only [reduceCtorEq, Option.some.injEq] at h
          rename_i nk d
          subst h
          obtain ⟨⟨base, cap, hν, hn, hcase⟩, hmt⟩ := hg k _ hk
          simp only [R] at hv ⊢
          obtain ⟨hv, _⟩ := hv
          rw [hν] at hv; cases hv
          refine ⟨base, cap, rfl, hn, ?_⟩
          rcases hcase with ⟨b, cs, e, rfl, hh, hr, hcap, hsz⟩ | ⟨rfl, hz, _⟩
          · refine .inr ⟨b, 0, rfl, hcap, hr.imp hM fun j v hj => ?_⟩
            have := hmt b (by rw [hν]; rfl)
            rw [hh] at this
            rw [Frz.cell_mem this, Nat.zero_add]; exact hj
          · exact .inl hz
      case sub k wd lo hi =>
        cases hk : g k with
        | none => rw [hk] at h; cases h
        | some p =>
          rw [hk] at h
          cases p <;> simp only [reduceCtorEq] at h
          rename_i nk d
          cases hw : Nat.beq wd d.wid <;> rw [hw] at h <;> simp only [cond_true, cond_false, reduceCtorEq, Option.some.injEq] at h
          subst h
          have hwd := beqT.1 hw; subst hwd
          obtain ⟨⟨base2, cap2, hν2, _, hcase⟩, hmt⟩ := hg k _ hk
          simp only [R] at hv ⊢
          obtain ⟨base, base', n', cap, hν, hb, hl0, hl1, hl2, hl3, rfl, hsome, hbase, hzb⟩ := hv
          rw [hν] at hν2; cases hν2
          refine ⟨base', _, by rw [sub_lenN d hl0 hl1 hl2], fun b hb => (by cases hb), ?_⟩
          by_cases hz : lo = hi
          · left; rw [sub_lenN d hl0 hl1 hl2]; omega
          · have hb' := hbase (by omega)
            subst hb'
            rcases hcase with ⟨b, cs, e, rfl, hh, hr, hcap, hsz⟩ | ⟨rfl, hz', _⟩
            · right
              refine ⟨b, 0 + lo.toNat * d.wid, rfl, by rw [sub_lenN d hl0 hl1 hl2]; omega, (hr.sub hl0 hl1 hl2).imp hM fun j v hj => ?_⟩
              have := hmt b (by rw [hν]; rfl)
              rw [hh] at this
              rw [Frz.cell_mem this, Nat.zero_add]; exact hj
            · omega
      case mp k =>
        cases hk : g k with
        | none => rw [hk] at h; cases h
        | some p =>
          rw [hk] at h
          cases p <;> simp only [reduceCtorEq, Option.some.injEq] at h
          rename_i ks
          subst h
          obtain ⟨⟨b, es, c, hν, hh, hr⟩, hmt⟩ := hg k _ hk
          simp only [R] at hv ⊢
          rw [hν] at hv
          have := hv.1
          simp only [Option.some.injEq] at this
          exact .inr ⟨b, es, c, this.symm, by rw [hmt b (by rw [hν]; rfl)]; exact hh, hr⟩
      case ms ks =>
        subst h
        simp only [R] at hv ⊢
        exact hv.imp id fun ⟨b, es, c, e1, e2, e3⟩ => ⟨b, es, c, e1, hM _ _ e2, e3⟩
      case ref k f =>
        cases hk : g k with
        | none => rw [hk] at h; cases h
        | some p =>
          rw [hk] at h
          cases p <;> simp only [reduceCtorEq] at h
          rename_i cs
          cases hcs : AV.rdL g n cs <;> rw [hcs] at h <;> simp only [reduceCtorEq, Option.some.injEq] at h
          subst h
          obtain ⟨⟨b, vs, e, hν, hh, hr⟩, hmt⟩ := hg k _ hk
          simp only [R] at hv ⊢
          obtain ⟨b', hν', rfl⟩ := hv
          rw [hν] at hν'; cases hν'
          exact ⟨b, vs, e, (0, 0), rfl, by rw [hmt b (by rw [hν]; rfl)]; exact hh, ih2 _ _ _ hr hcs⟩
      case elt k wd i f =>
        cases hk : g k with
        | none => rw [hk] at h; cases h
        | some p =>
          rw [hk] at h
          cases p <;> simp only [reduceCtorEq] at h
          rename_i nk d
          cases hw : Nat.beq wd d.wid <;> rw [hw] at h <;> simp only [cond_true, cond_false, reduceCtorEq, Option.some.injEq] at h
          subst h
          have hwd := beqT.1 hw; subst hwd
          obtain ⟨⟨base, cap, hν, hn, hcase⟩, hmt⟩ := hg k _ hk
          simp only [R] at hv ⊢
          obtain ⟨b, n', cap', hν', h0, h1, rfl⟩ := hv
          rw [hν] at hν'; cases hν'
          rcases hcase with ⟨b', cs, e, hb', hh, hr, hcap, hsz⟩ | ⟨hb', _⟩
          · cases hb'
            refine ⟨b, 0, by rw [Nat.zero_add], hr.imp hM fun j v hj => ?_, h0, h1⟩
            have := hmt b (by rw [hν]; rfl)
            rw [hh] at this
            rw [Frz.cell_mem this, Nat.zero_add]; exact hj
          · cases hb'
    · intro l m vs hv h
      cases l with
      | nil => simp only [AV.rdL, Option.some.injEq] at h; subst h; simpa [RL] using hv
      | cons a l =>
        simp only [AV.rdL] at h
        cases ha : AV.rd g n a <;> rw [ha] at h <;> simp only [reduceCtorEq] at h
        cases hl : AV.rdL g n l <;> rw [hl] at h <;> simp only [reduceCtorEq, Option.some.injEq] at h
        subst h
        simp only [RL] at hv ⊢
        obtain ⟨v, vs', rfl, h1, h2⟩ := hv
        exact ⟨v, vs', rfl, ih1 _ _ _ h1 ha, ih2 _ _ _ h2 hl⟩

theorem R_rd (hM : M.le Mt) (hg : ObsF M Mt ν w g) {n : Nat} {a b : AV} {v : Value} (hv : R M ν a v) (h : AV.rd g n a = some b) : R Mt nu0 b v := (rd_both hM hg n).1 a b v hv h

/-- what bears no name reads no object -/
theorem rd_nameless (g g' : Nat → Option Ob) : ∀ n : Nat, (∀ a : AV, a.nm = [] → AV.rd g n a = AV.rd g' n a) ∧ (∀ l : List AV, AV.nmL l = [] → AV.rdL g n l = AV.rdL g' n l) := by
  intro n
  induction n with
  | zero => exact ⟨fun a _ => by simp [AV.rd], fun l _ => by simp [AV.rdL]⟩
  | succ n ih =>
    obtain ⟨ih1, ih2⟩ := ih
    constructor
    · intro a h
      cases a <;> simp only [AV.nm, reduceCtorEq, List.cons_ne_nil] at h <;> simp only [AV.rd]
      case agg => rw [ih2 _ h]
      case tup => rw [ih2 _ h]
      case snap => rw [ih2 _ h]
      case clo => rw [ih2 _ h]
      case ifc => rw [ih1 _ h]
    · intro l h
      cases l with
      | nil => simp [AV.rdL]
      | cons a l =>
        simp only [AV.nmL, List.append_eq_nil_iff] at h
        simp only [AV.rdL]
        rw [ih1 a h.1, ih2 l h.2]

/-! ### values at a boundary -/
def RBsl (M : Frz) (w : World) (nk : Option Bool) (d : SC) (v : Value) (F : List Nat) : Prop :=
  ∃ base cap, v = .slice base d.lenN cap ∧ (∀ b, nk = some b → base.isSome = b) ∧
    ((∃ b cs e, base = some ⟨b, 0, none⟩ ∧ w.heap[b]? = some (.cells cs e (0, 0)) ∧ RowC M d (fun j => cs[j]?) ∧ d.lenN ≤ cap ∧ cap * d.wid ≤ cs.size ∧ F = [b]) ∨
      (base = none ∧ d.lenN = 0 ∧ cap = 0 ∧ F = []))
def RBc (M : Frz) (w : World) : AV → Value → List Nat → Prop
  | .osl nk d, v, F => RBsl M w nk d v F
  | a, v, F => R M nu0 a v ∧ F = []
def RBcs (M : Frz) (w : World) : List AV → List Value → List Nat → Prop
  | [], vs, F => vs = [] ∧ F = []
  | a :: l, vs, F => ∃ v vs' F1 F2, vs = v :: vs' ∧ F = F1 ++ F2 ∧ RBc M w a v F1 ∧ RBcs M w l vs' F2
def RBbox (M : Frz) (w : World) (cs : List AV) (v : Value) (F : List Nat) : Prop :=
  ∃ b vs e F', v = .pointer (some ⟨b, 0, none⟩) ∧ w.heap[b]? = some (.cells vs e (0, 0)) ∧ RBcs M w cs vs.toList F' ∧ F = F' ++ [b]
def RB (M : Frz) (w : World) : AV → Value → List Nat → Prop
  | .osl nk d, v, F => RBsl M w nk d v F
  | .obx cs, v, F => RBbox M w cs v F
  | .ifc t (.obx cs), v, F => ∃ u, v = .iface t u ∧ RBbox M w cs u F
  | .agg cs, v, F => ∃ vs : List Value, v = .agg vs.toArray ∧ RBcs M w cs vs F
  | a, v, F => R M nu0 a v ∧ F = []
def RBL (M : Frz) (w : World) : List AV → List Value → List Nat → Prop
  | [], vs, F => vs = [] ∧ F = []
  | a :: l, vs, F => ∃ v vs' F1 F2, vs = v :: vs' ∧ F = F1 ++ F2 ∧ RB M w a v F1 ∧ RBL M w l vs' F2
def RBT (M : Frz) (w : World) : AV → Value → List Nat → Prop
  | .tup cs, v, F => ∃ vs : List Value, v = .tuple vs.toArray ∧ RBL M w cs vs F
  | a, v, F => RB M w a v F

theorem ind_rowc {M M' : Frz} {d : SC} {f : Nat → Option Value} (hi : d.ind = true) (h : RowC M d f) : RowC M' d f := by
  cases d with
  | i1 xs => exact h
  | b1 xs => exact h
  | st w xs => exact h
  | rows xs => simp [SC.ind] at hi
theorem RBsl.ind {M M' : Frz} {nk : Option Bool} {d : SC} {v : Value} {F : List Nat} (hi : d.ind = true) (h : RBsl M w nk d v F) : RBsl M' w nk d v F := by
  obtain ⟨base, cap, rfl, hn, h⟩ := h
  refine ⟨base, cap, rfl, hn, h.imp ?_ id⟩
  rintro ⟨b, cs, e, rfl, h1, h2, h3⟩
  exact ⟨b, cs, e, rfl, h1, ind_rowc hi h2, h3⟩
theorem RBc.ind {M M' : Frz} {a : AV} {v : Value} {F : List Nat} (hi : a.ind = true) (h : RBc M w a v F) : RBc M' w a v F := by
  cases a
  case osl nk d => simp only [RBc] at h ⊢; exact h.ind (by simpa [AV.ind] using hi)
  all_goals (simp only [RBc] at h ⊢; exact ⟨R_ind hi h.1, h.2⟩)
theorem RBcs.ind {M M' : Frz} : ∀ {l : List AV} {vs : List Value} {F : List Nat}, AV.indL l = true → RBcs M w l vs F → RBcs M' w l vs F
  | [], vs, F, _, h => h
  | a :: l, vs, F, hi, h => by
    simp only [RBcs] at h ⊢
    obtain ⟨v, vs', F1, F2, rfl, rfl, h1, h2⟩ := h
    simp only [AV.indL] at hi
    obtain ⟨i1, i2⟩ := andB_iff.1 hi
    exact ⟨v, vs', F1, F2, rfl, rfl, h1.ind i1, RBcs.ind i2 h2⟩
theorem RBbox.ind {M M' : Frz} {cs : List AV} {v : Value} {F : List Nat} (hi : AV.indL cs = true) (h : RBbox M w cs v F) : RBbox M' w cs v F := by
  obtain ⟨b, vs, e, F', h1, h2, h3, h4⟩ := h
  exact ⟨b, vs, e, F', h1, h2, h3.ind hi, h4⟩
theorem RB.ind {M M' : Frz} {a : AV} {v : Value} {F : List Nat} (hi : a.ind = true) (h : RB M w a v F) : RB M' w a v F := by
  cases a
  case osl nk d => simp only [RB] at h ⊢; exact h.ind (by simpa [AV.ind] using hi)
  case obx cs => simp only [RB] at h ⊢; exact h.ind (by simpa [AV.ind] using hi)
  case agg cs =>
    simp only [RB] at h ⊢
    obtain ⟨u, h1, h2⟩ := h
    exact ⟨u, h1, h2.ind (by simpa [AV.ind] using hi)⟩
  case ifc t a =>
    cases a
    case obx cs =>
      simp only [RB] at h ⊢
      obtain ⟨u, h1, h2⟩ := h
      exact ⟨u, h1, h2.ind (by simpa [AV.ind] using hi)⟩
    all_goals (simp only [RB] at h ⊢; exact ⟨R_ind hi h.1, h.2⟩)
  all_goals (simp only [RB] at h ⊢; exact ⟨R_ind hi h.1, h.2⟩)
theorem RBL.ind {M M' : Frz} : ∀ {l : List AV} {vs : List Value} {F : List Nat}, AV.indL l = true → RBL M w l vs F → RBL M' w l vs F
  | [], vs, F, _, h => h
  | a :: l, vs, F, hi, h => by
    simp only [RBL] at h ⊢
    obtain ⟨v, vs', F1, F2, rfl, rfl, h1, h2⟩ := h
    simp only [AV.indL] at hi
    obtain ⟨i1, i2⟩ := andB_iff.1 hi
    exact ⟨v, vs', F1, F2, rfl, rfl, h1.ind i1, RBL.ind i2 h2⟩
theorem RBT.ind {M M' : Frz} {a : AV} {v : Value} {F : List Nat} (hi : a.ind = true) (h : RBT M w a v F) : RBT M' w a v F := by
  cases a
  case tup cs =>
    simp only [RBT] at h ⊢
    obtain ⟨u, h1, h2⟩ := h
    exact ⟨u, h1, h2.ind (by simpa [AV.ind] using hi)⟩
  all_goals (simp only [RBT] at h ⊢; exact h.ind hi)

end
end Go.Sx

set_option linter.unusedVariables false
set_option linter.unusedSimpArgs false
namespace Go.Sx
open Go Go.RowKit

abbrev Hs := List (Nat × Value)
def blks (hs : Hs) : List Nat := hs.filterMap fun p => blkV (some p.2)
def Cons (ν : Nms) (hs : Hs) : Prop := ∀ k u, (k, u) ∈ hs → ν k = some u
def hnm (hs : Hs) : List Nat := hs.map Prod.fst
def bks (ν : Nms) (ks : List Nat) : List Nat := ks.filterMap fun k => blkV (ν k)

theorem blks_append (a b : Hs) : blks (a ++ b) = blks a ++ blks b := by simp [blks]
theorem hnm_append (a b : Hs) : hnm (a ++ b) = hnm a ++ hnm b := by simp [hnm]
theorem bks_append (ν : Nms) (a b : List Nat) : bks ν (a ++ b) = bks ν a ++ bks ν b := by simp [bks]
theorem Cons_append {ν : Nms} {a b : Hs} : Cons ν (a ++ b) ↔ Cons ν a ∧ Cons ν b := by
  simp only [Cons, List.mem_append]
  exact ⟨fun h => ⟨fun k u e => h k u (.inl e), fun k u e => h k u (.inr e)⟩, fun h k u e => e.elim (h.1 k u) (h.2 k u)⟩
def upds (ν : Nms) : Hs → Nms
  | [] => ν
  | (k, u) :: hs => updN (upds ν hs) k u
theorem upds_out (ν : Nms) : ∀ (hs : Hs) (k : Nat), k ∉ hnm hs → upds ν hs k = ν k
  | [], _, _ => rfl
  | (j, u) :: hs, k, h => by
    simp only [hnm, List.map_cons, List.mem_cons, not_or] at h
    simp only [upds]
    rw [updN_ne _ _ h.1]
    exact upds_out ν hs k h.2
theorem upds_in (ν : Nms) : ∀ (hs : Hs), (hnm hs).Nodup → Cons (upds ν hs) hs
  | [], _, k, u, h => by simp at h
  | (j, x) :: hs, hn, k, u, h => by
    simp only [hnm, List.map_cons, List.nodup_cons] at hn
    simp only [upds]
    rcases List.mem_cons.1 h with h | h
    · cases h; exact updN_self _ _ _
    · rw [updN_ne _ _ (fun e => hn.1 (List.mem_map.2 ⟨(k, u), h, e⟩))]
      exact upds_in ν hs hn.2 k u h
theorem blks_mem {hs : Hs} {k b : Nat} {u : Value} (h : (k, u) ∈ hs) (hb : blkV (some u) = some b) : b ∈ blks hs := by
  simp only [blks, List.mem_filterMap]
  exact ⟨(k, u), h, hb⟩
theorem blks_inj : ∀ {hs : Hs}, (blks hs).Nodup → ∀ {k j b : Nat} {u u' : Value}, (k, u) ∈ hs → (j, u') ∈ hs → k ≠ j → blkV (some u) = some b → blkV (some u') ≠ some b
  | [], _, _, _, _, _, _, h, _, _, _ => by simp at h
  | (i, x) :: hs, hn, k, j, b, u, u', h, h', hne, hb => by
    intro hb'
    simp only [blks, List.filterMap_cons] at hn
    rcases List.mem_cons.1 h with h | h
    · cases h
      rcases List.mem_cons.1 h' with h' | h'
      · cases h'; exact hne rfl
      · rw [hb] at hn
        exact (List.nodup_cons.1 hn).1 (blks_mem h' hb')
    · rcases List.mem_cons.1 h' with h' | h'
      · cases h'
        rw [hb'] at hn
        exact (List.nodup_cons.1 hn).1 (blks_mem h hb)
      · refine blks_inj (hs := hs) ?_ h h' hne hb hb'
        revert hn
        cases blkV (some x) with
        | none => exact fun hn => hn
        | some c => exact fun hn => (List.nodup_cons.1 hn).2
theorem hnm_mem {hs : Hs} {k : Nat} (h : k ∈ hnm hs) : ∃ u, (k, u) ∈ hs := by
  obtain ⟨⟨j, u⟩, h1, rfl⟩ := List.mem_map.1 h
  exact ⟨u, h1⟩

section
variable {M Mt : Frz} {ν : Nms} {w : World} {g : Nat → Option Ob}

theorem bks_mem {ks : List Nat} {b : Nat} : b ∈ bks ν ks ↔ ∃ k, k ∈ ks ∧ blkV (ν k) = some b := by
  simp only [bks, List.mem_filterMap]

/-- what came over the boundary is laid under names -/
def Ads (M : Frz) (w : World) (obs : List (Nat × Ob)) (F : List Nat) (hs : Hs) (Q : Nms → Prop) : Prop :=
  hnm hs = namesO obs ∧ blks hs = F ∧ ∀ ν', Cons ν' hs → (∀ k o, (k, o) ∈ obs → ObR M ν' w k o) ∧ Q ν'

theorem Ads.nil {M : Frz} {w : World} {Q : Nms → Prop} (h : ∀ ν', Q ν') : Ads M w [] [] [] Q := ⟨rfl, rfl, fun ν' _ => ⟨fun k o hk => by simp at hk, h ν'⟩⟩
theorem Ads.append {M : Frz} {w : World} {o1 o2 : List (Nat × Ob)} {F1 F2 : List Nat} {h1 h2 : Hs} {Q1 Q2 : Nms → Prop} (a : Ads M w o1 F1 h1 Q1) (b : Ads M w o2 F2 h2 Q2) :
    Ads M w (o1 ++ o2) (F1 ++ F2) (h1 ++ h2) fun ν' => Q1 ν' ∧ Q2 ν' := by
  refine ⟨by rw [hnm_append, namesO_append, a.1, b.1], by rw [blks_append, a.2.1, b.2.1], fun ν' hc => ?_⟩
  obtain ⟨hc1, hc2⟩ := Cons_append.1 hc
  obtain ⟨x1, y1⟩ := a.2.2 ν' hc1
  obtain ⟨x2, y2⟩ := b.2.2 ν' hc2
  exact ⟨fun k o hk => (List.mem_append.1 hk).elim (x1 k o) (x2 k o), y1, y2⟩
theorem Ads.imp {M : Frz} {w : World} {o1 : List (Nat × Ob)} {F1 : List Nat} {h1 : Hs} {Q Q' : Nms → Prop} (a : Ads M w o1 F1 h1 Q) (h : ∀ ν, Q ν → Q' ν) : Ads M w o1 F1 h1 Q' :=
  ⟨a.1, a.2.1, fun ν' hc => ⟨(a.2.2 ν' hc).1, h _ (a.2.2 ν' hc).2⟩⟩

theorem RBsl.ads {nk : Option Bool} {d : SC} {v : Value} {F : List Nat} (h : RBsl M w nk d v F) (nm : Nat) : Ads M w [(nm, .arr nk d)] F [(nm, v)] fun ν' => R M ν' (.own nm) v := by
  obtain ⟨base, cap, rfl, hn, h⟩ := h
  refine ⟨rfl, ?_, fun ν' hc => ?_⟩
  · rcases h with ⟨b, cs, e, rfl, _, _, _, _, rfl⟩ | ⟨rfl, _, _, rfl⟩ <;> rfl
  · have hν : ν' nm = some (.slice base d.lenN cap) := hc _ _ (by simp)
    refine ⟨fun k o hk => ?_, ?_⟩
    · simp only [List.mem_cons, List.not_mem_nil, or_false, Prod.mk.injEq] at hk
      obtain ⟨rfl, rfl⟩ := hk
      refine ⟨base, cap, hν, hn, ?_⟩
      rcases h with ⟨b, cs, e, rfl, h1, h2, h3, h4, rfl⟩ | ⟨rfl, h1, h2, rfl⟩
      · exact .inl ⟨b, cs, e, rfl, h1, h2, h3, h4⟩
      · exact .inr ⟨rfl, h1, h2⟩
    · simp only [R]; exact ⟨hν, _, _, _, rfl⟩

theorem adCells_ok (nm : Nat) : ∀ {cs : List AV} {vs : List Value} {F : List Nat} (f : Nat), RBcs M w cs vs F → ∃ hs, Ads M w (adCells nm f cs).2 F hs fun ν' => RL M ν' (adCells nm f cs).1 vs
  | [], vs, F, f, h => by
    simp only [RBcs] at h
    obtain ⟨rfl, rfl⟩ := h
    exact ⟨[], Ads.nil fun ν' => by simp [adCells, RL]⟩
  | a :: l, vs, F, f, h => by
    simp only [RBcs] at h
    obtain ⟨v, vs', F1, F2, rfl, rfl, h1, h2⟩ := h
    obtain ⟨hs, ih⟩ := adCells_ok nm (f + 1) h2
    by_cases ho : ∃ nk d, a = .osl nk d
    · obtain ⟨nk, d, rfl⟩ := ho
      simp only [RBc] at h1
      refine ⟨[(1000 * (f + 1) + nm, v)] ++ hs, ?_⟩
      exact ((h1.ads (1000 * (f + 1) + nm)).append ih).imp fun ν' hq => by
        simp only [adCells, RL]
        exact ⟨v, vs', rfl, hq.1, hq.2⟩
    · have e1 : (adCells nm f (a :: l)) = (a :: (adCells nm (f + 1) l).1, (adCells nm (f + 1) l).2) := by
        cases a
        case osl nk d => exact absurd ⟨nk, d, rfl⟩ ho
        all_goals rfl
      have e2 : R M nu0 a v ∧ F1 = [] := by
        cases a
        case osl nk d => exact absurd ⟨nk, d, rfl⟩ ho
        all_goals exact h1
      rw [e1, e2.2]
      refine ⟨hs, ?_⟩
      exact Ads.imp ih fun ν' hq => by
        simp only [RL]
        exact ⟨v, vs', rfl, R_0 e2.1, hq⟩

theorem RBbox.ads {cs : List AV} {v : Value} {F : List Nat} (h : RBbox M w cs v F) (nm : Nat) :
    ∃ hs, Ads M w ((adCells nm 0 cs).2 ++ [(nm, .box (adCells nm 0 cs).1)]) F (hs ++ [(nm, v)]) (fun ν' => R M ν' (.ref nm 0) v) ∧ hnm hs = namesO (adCells nm 0 cs).2 := by
  obtain ⟨b, vs, e, F', rfl, hh, hcs, rfl⟩ := h
  obtain ⟨hs, ih⟩ := adCells_ok nm 0 hcs
  refine ⟨hs, ⟨?_, ?_, fun ν' hc => ?_⟩, ih.1⟩
  · rw [hnm_append, namesO_append, ih.1]; rfl
  · rw [blks_append, ih.2.1]; rfl
  · obtain ⟨hc1, hc2⟩ := Cons_append.1 hc
    obtain ⟨x, y⟩ := ih.2.2 ν' hc1
    have hν : ν' nm = some (.pointer (some ⟨b, 0, none⟩)) := hc2 _ _ (by simp)
    refine ⟨fun k o hk => ?_, ?_⟩
    · rcases List.mem_append.1 hk with hk | hk
      · exact x k o hk
      · simp only [List.mem_cons, List.not_mem_nil, or_false, Prod.mk.injEq] at hk
        obtain ⟨rfl, rfl⟩ := hk
        exact ⟨b, vs, e, hν, hh, y⟩
    · simp only [R]; exact ⟨b, hν, rfl⟩

theorem ad_ok (nm : Nat) {a : AV} {v : Value} {F : List Nat} (h : RB M w a v F) : ∃ hs, Ads M w (a.ad nm).2 F hs fun ν' => R M ν' (a.ad nm).1 v := by
  have triv : R M nu0 a v ∧ F = [] → a.ad nm = (a, []) → ∃ hs, Ads M w (a.ad nm).2 F hs fun ν' => R M ν' (a.ad nm).1 v := by
    intro h e
    rw [e, h.2]
    exact ⟨[], Ads.nil fun ν' => R_0 h.1⟩
  cases a
  case osl nk d =>
    simp only [RB] at h
    exact ⟨_, h.ads nm⟩
  case obx cs =>
    simp only [RB] at h
    obtain ⟨hs, h1, _⟩ := h.ads nm
    exact ⟨_, h1⟩
  case agg cs =>
    simp only [RB] at h
    obtain ⟨vs, rfl, h⟩ := h
    obtain ⟨hs, ih⟩ := adCells_ok nm 0 h
    refine ⟨hs, Ads.imp ih fun ν' hq => ?_⟩
    simp only [AV.ad, R]
    exact ⟨vs, rfl, hq⟩
  case ifc t a =>
    cases a
    case obx cs =>
      simp only [RB] at h
      obtain ⟨u, rfl, h⟩ := h
      obtain ⟨hs, h1, _⟩ := h.ads nm
      refine ⟨hs ++ [(nm, u)], Ads.imp h1 fun ν' hq => ?_⟩
      simp only [AV.ad, R]
      exact ⟨u, rfl, by simpa only [R] using hq⟩
    all_goals exact triv h rfl
  all_goals exact triv h rfl

theorem adL_ok (nm : Nat) : ∀ {cs : List AV} {vs : List Value} {F : List Nat} (j : Nat), RBL M w cs vs F → ∃ hs, Ads M w (adL nm j cs).2 F hs fun ν' => RL M ν' (adL nm j cs).1 vs
  | [], vs, F, f, h => by
    simp only [RBL] at h
    obtain ⟨rfl, rfl⟩ := h
    exact ⟨[], Ads.nil fun ν' => by simp [adL, RL]⟩
  | a :: l, vs, F, j, h => by
    simp only [RBL] at h
    obtain ⟨v, vs', F1, F2, rfl, rfl, h1, h2⟩ := h
    obtain ⟨hs, ih⟩ := adL_ok nm (j + 1) h2
    obtain ⟨hs1, ih1⟩ := ad_ok (100000 * (j + 1) + nm) h1
    refine ⟨hs1 ++ hs, ?_⟩
    exact (ih1.append ih).imp fun ν' hq => by
      simp only [adL, RL]
      exact ⟨v, vs', rfl, hq.1, hq.2⟩

theorem adT_ok (nm : Nat) {a : AV} {v : Value} {F : List Nat} (h : RBT M w a v F) : ∃ hs, Ads M w (a.adT nm).2 F hs fun ν' => R M ν' (a.adT nm).1 v := by
  cases a
  case tup cs =>
    simp only [RBT] at h
    obtain ⟨vs, rfl, h⟩ := h
    obtain ⟨hs, ih⟩ := adL_ok nm 0 h
    refine ⟨hs, Ads.imp ih fun ν' hq => ?_⟩
    simp only [AV.adT, R]
    exact ⟨vs, rfl, hq⟩
  all_goals exact ad_ok nm h

/-! ### to the boundary -/
theorem RB_of_R {a : AV} {v : Value} (h : R M nu0 a v) : RB M w a v [] := by
  cases a
  case osl => simp [R] at h
  case obx => simp [R] at h
  case agg cs =>
    simp only [R] at h
    obtain ⟨vs, rfl, h⟩ := h
    simp only [RB]
    refine ⟨vs, rfl, ?_⟩
    induction cs generalizing vs with
    | nil => simp only [RL] at h; simp [RBcs, h]
    | cons a l ih =>
      simp only [RL] at h
      obtain ⟨v, vs', rfl, h1, h2⟩ := h
      simp only [RBcs]
      refine ⟨v, vs', [], [], rfl, rfl, ?_, ih vs' h2⟩
      cases a
      case osl => simp [R] at h1
      all_goals exact ⟨h1, rfl⟩
  case ifc t a =>
    cases a
    case obx => simp [R] at h
    all_goals exact ⟨h, rfl⟩
  all_goals exact ⟨h, rfl⟩

theorem ObR.rbsl {k : Nat} {nk : Option Bool} {d : SC} {v : Value} (h : ObR M ν w k (.arr nk d)) (hv : ν k = some v) : RBsl M w nk d v (bks ν [k]) := by
  obtain ⟨base, cap, h1, h2, h3⟩ := h
  rw [h1] at hv; cases hv
  refine ⟨base, cap, rfl, h2, ?_⟩
  rcases h3 with ⟨b, cs, e, rfl, h4, h5, h6, h7⟩ | ⟨rfl, h4, h5⟩
  · exact .inl ⟨b, cs, e, rfl, h4, h5, h6, h7, by simp [bks, h1, blkV]⟩
  · exact .inr ⟨rfl, h4, h5, by simp [bks, h1, blkV]⟩

theorem ObR.rbsub {k : Nat} {nk : Option Bool} {d : SC} {v : Value} {hi : Int} (h : ObR M ν w k (.arr nk d)) (hv : R M ν (.sub k d.wid (Int.ofNat 0) hi) v) : RBsl M w nk (d.sub 0 hi) v (bks ν [k]) := by
  obtain ⟨base2, cap2, hν2, hn2, hcase⟩ := h
  simp only [R] at hv
  obtain ⟨base, base', n', cap, hν, hb, hl0, hl1, hl2, hl3, rfl, hsome, hbase, hzb⟩ := hv
  rw [hν] at hν2; cases hν2
  have hz := hzb rfl
  subst hz
  have hlen : (d.sub 0 hi).lenN = (hi - Int.ofNat 0).toNat := sub_lenN d (by omega) (by simpa using hl1) hl2
  have hcap : ∀ c : Nat, c - (Int.ofNat 0).toNat = c := fun c => by simp
  refine ⟨base', _, by rw [hlen, hcap], hn2, ?_⟩
  rcases hcase with ⟨b, cs, e, rfl, hh, hr, hcap', hsz⟩ | ⟨rfl, hz', hc'⟩
  · left
    refine ⟨b, cs, e, rfl, hh, ?_, ?_, ?_, by simp [bks, hν, blkV]⟩
    · have := hr.sub (lo := 0) (hi := hi) (by omega) (by simpa using hl1) hl2
      simpa using this
    · rw [hlen]; simp at hl1 ⊢; omega
    · rw [sub_wid]; exact hsz
  · right
    refine ⟨rfl, ?_, hc', by simp [bks, hν, blkV]⟩
    rw [hlen]; simp at hl1 ⊢; omega

/-- names of objects -/
def Has (g : Nat → Option Ob) (ks : List Nat) : Prop := ∀ k, k ∈ ks → ∃ o, g k = some o
theorem Has.nil : Has g [] := fun k h => by simp at h
theorem Has.append {a b : List Nat} (h : Has g a) (h' : Has g b) : Has g (a ++ b) := fun k hk => (List.mem_append.1 hk).elim (h k) (h' k)
theorem Has.one {k : Nat} {o : Ob} (h : g k = some o) : Has g [k] := fun j hj => ⟨o, by simp at hj; rw [hj]; exact h⟩

theorem exCells_ok (hob : Obs M ν w g) : ∀ {l l' : List AV} {ks : List Nat} {vs : List Value}, exCells g l = some (l', ks) → RL M ν l vs →
    RBcs M w l' vs (bks ν ks) ∧ Has g ks ∧ ∀ k, k ∈ ks → k ∈ AV.nmL l
  | [], l', ks, vs, h, hv => by
    simp only [exCells, Option.some.injEq, Prod.mk.injEq] at h
    obtain ⟨rfl, rfl⟩ := h
    simp only [RL] at hv; subst hv
    exact ⟨⟨rfl, rfl⟩, Has.nil, fun k hk => by simp at hk⟩
  | a :: l, l', ks, vs, h, hv => by
    simp only [RL] at hv
    obtain ⟨v, vs', rfl, h1, h2⟩ := hv
    simp only [exCells] at h
    cases hl : exCells g l with
    | none => rw [hl] at h; cases h
    | some p =>
      obtain ⟨m, js⟩ := p
      rw [hl] at h
      simp only at h
      obtain ⟨ih1, ih2, ih3⟩ := exCells_ok hob hl h2
      cases a <;> try simp only [reduceCtorEq] at h
      case own k =>
        cases hk : g k with
        | none => rw [hk] at h; cases h
        | some p =>
          rw [hk] at h
          cases p <;> simp only [reduceCtorEq, Option.some.injEq, Prod.mk.injEq] at h
          obtain ⟨rfl, rfl⟩ := h
          simp only [R] at h1
          refine ⟨⟨v, vs', bks ν [k], bks ν js, rfl, by rw [← bks_append]; rfl, ?_, ih1⟩, (Has.one hk).append ih2, fun j hj => ?_⟩
          · simp only [RBc]; exact (hob k _ hk).rbsl h1.1
          · rcases List.mem_cons.1 hj with rfl | hj
            · simp [AV.nmL, AV.nm]
            · simp [AV.nmL, ih3 j hj]
      case sub k wd lo hi =>
        cases lo with
        | negSucc n => cases h
        | ofNat n =>
          cases n with
          | succ n => cases h
          | zero =>
            replace h : (match g k with | some (.arr nk d) => bif Nat.beq wd d.wid then some (.osl nk (d.sub 0 hi) :: m, k :: js) else none | _ => none) = some (l', ks) := h
            cases hk : g k with
            | none => rw [hk] at h; cases h
            | some p =>
              rw [hk] at h
              cases p <;> simp only [reduceCtorEq] at h
              rename_i nk d
              cases hw : Nat.beq wd d.wid <;> rw [hw] at h <;> simp only [cond_true, cond_false, reduceCtorEq, Option.some.injEq, Prod.mk.injEq] at h
              have hwd := beqT.1 hw; subst hwd
              obtain ⟨rfl, rfl⟩ := h
              refine ⟨⟨v, vs', bks ν [k], bks ν js, rfl, by rw [← bks_append]; rfl, ?_, ih1⟩, (Has.one hk).append ih2, fun j hj => ?_⟩
              · simp only [RBc]; exact (hob k _ hk).rbsub h1
              · rcases List.mem_cons.1 hj with rfl | hj
                · simp [AV.nmL, AV.nm]
                · simp [AV.nmL, ih3 j hj]
      all_goals
        simp only [Option.some.injEq, Prod.mk.injEq] at h
        obtain ⟨rfl, rfl⟩ := h
        simp only [R] at h1
        exact ⟨⟨v, vs', [], bks ν js, rfl, rfl, ⟨(by simpa only [R] using h1), rfl⟩, ih1⟩, ih2, fun j hj => by simp [AV.nmL, ih3 j hj]⟩

theorem box_ok (hob : Obs M ν w g) {k : Nat} {cs cs' : List AV} {ks : List Nat} {u : Value} (hk : g k = some (.box cs)) (hcs : exCells g cs = some (cs', ks)) (hu : ν k = some u) :
    RBbox M w cs' u (bks ν (ks ++ [k])) ∧ Has g (ks ++ [k]) := by
  obtain ⟨b, vs, e, h1, h2, h3⟩ := hob k _ hk
  rw [h1] at hu; cases hu
  obtain ⟨x, y, _⟩ := exCells_ok hob hcs h3
  exact ⟨⟨b, vs, e, bks ν ks, rfl, h2, x, by rw [bks_append]; simp [bks, h1, blkV]⟩, y.append (Has.one hk)⟩

theorem ref0 {k : Nat} {v : Value} (h : R M ν (.ref k 0) v) : ν k = some v := by
  simp only [R] at h
  obtain ⟨b, h1, rfl⟩ := h
  exact h1

theorem ex_ok (hob : Obs M ν w g) {a b : AV} {ks : List Nat} {v : Value} (h : a.ex g = some (b, ks)) (hv : R M ν a v) : RB M w b v (bks ν ks) ∧ Has g ks := by
  unfold AV.ex at h
  split at h
  · rename_i k
    cases hk : g k with
    | none => rw [hk] at h; cases h
    | some p =>
      rw [hk] at h
      cases p <;> simp only [reduceCtorEq, Option.some.injEq, Prod.mk.injEq] at h
      obtain ⟨rfl, rfl⟩ := h
      simp only [R] at hv
      exact ⟨by simp only [RB]; exact (hob k _ hk).rbsl hv.1, Has.one hk⟩
  · rename_i k
    cases hk : g k with
    | none => rw [hk] at h; cases h
    | some p =>
      rw [hk] at h
      cases p <;> simp only [reduceCtorEq] at h
      rename_i cs
      cases hcs : exCells g cs with
      | none => rw [hcs] at h; cases h
      | some q =>
        obtain ⟨cs', js⟩ := q
        rw [hcs] at h
        simp only [Option.some.injEq, Prod.mk.injEq] at h
        obtain ⟨rfl, rfl⟩ := h
        obtain ⟨x, y⟩ := box_ok hob hk hcs (ref0 hv)
        exact ⟨by simp only [RB]; exact x, y⟩
  · rename_i t k
    cases hk : g k with
    | none => rw [hk] at h; cases h
    | some p =>
      rw [hk] at h
      cases p <;> simp only [reduceCtorEq] at h
      rename_i cs
      cases hcs : exCells g cs with
      | none => rw [hcs] at h; cases h
      | some q =>
        obtain ⟨cs', js⟩ := q
        rw [hcs] at h
        simp only [Option.some.injEq, Prod.mk.injEq] at h
        obtain ⟨rfl, rfl⟩ := h
        have hv' : ∃ u, v = .iface t u ∧ R M ν (.ref k 0) u := by simpa only [R] using hv
        obtain ⟨u, rfl, hu⟩ := hv'
        obtain ⟨x, y⟩ := box_ok hob hk hcs (ref0 hu)
        exact ⟨by simp only [RB]; exact ⟨u, rfl, x⟩, y⟩
  · cases h

/-- The arguments by value. -/
theorem bargs_ok (hM : M.le Mt) (hob : Obs M ν w g) (mu : List Nat) {gr : Nat → Option Ob} (hgr : ObsF M Mt ν w gr) : ∀ {i : Nat} {args bs : List AV} {ks : List Nat} {vs : List Value},
    ownK mu g i args = some ks → bargs mu g gr i args = some bs → RL M ν args vs → RBL Mt w bs vs (bks ν ks) ∧ Has g ks
  | i, [], bs, ks, vs, h, h', hv => by
    simp only [ownK, Option.some.injEq] at h; subst h
    simp only [bargs, Option.some.injEq] at h'; subst h'
    simp only [RL] at hv; subst hv
    exact ⟨⟨rfl, rfl⟩, Has.nil⟩
  | i, a :: l, bs, ks, vs, h, h', hv => by
    simp only [RL] at hv
    obtain ⟨v, vs', rfl, h1, h2⟩ := hv
    simp only [ownK] at h
    simp only [bargs] at h'
    cases ho : ownK mu g (i + 1) l with
    | none => rw [ho] at h; cases h
    | some js =>
      cases hb : bargs mu g gr (i + 1) l with
      | none => rw [hb] at h'; cases h'
      | some cs =>
        obtain ⟨ih1, ih2⟩ := bargs_ok hM hob mu hgr ho hb h2
        rw [ho] at h
        rw [hb] at h'
        simp only at h h'
        cases hm : memN i mu with
        | true =>
          rw [hm] at h h'
          simp only [cond_true] at h h'
          cases hx : a.ex g with
          | none => rw [hx] at h; cases h
          | some p =>
            obtain ⟨b, k⟩ := p
            rw [hx] at h h'
            simp only [Option.some.injEq] at h h'
            subst h; subst h'
            obtain ⟨x, y⟩ := ex_ok hob hx h1
            refine ⟨⟨v, vs', bks ν k, bks ν js, rfl, bks_append _ _ _, ?_, ih1⟩, y.append ih2⟩
            have hle : ∀ {a : AV} {v : Value} {F : List Nat}, RB M w a v F → RB Mt w a v F := by
              intro a v F h
              have hsl : ∀ {nk : Option Bool} {d : SC} {v : Value} {F : List Nat}, RBsl M w nk d v F → RBsl Mt w nk d v F := by
                rintro nk d v F ⟨base, cap, rfl, hn, h⟩
                refine ⟨base, cap, rfl, hn, h.imp ?_ id⟩
                rintro ⟨b, cs, e, rfl, h1, h2, h3⟩
                exact ⟨b, cs, e, rfl, h1, h2.imp hM fun _ _ h => h, h3⟩
              have hcs : ∀ {l : List AV} {vs : List Value} {F : List Nat}, RBcs M w l vs F → RBcs Mt w l vs F := by
                intro l
                induction l with
                | nil => exact fun h => h
                | cons a l ih =>
                  intro vs F h
                  simp only [RBcs] at h ⊢
                  obtain ⟨v, vs', F1, F2, rfl, rfl, h1, h2⟩ := h
                  refine ⟨v, vs', F1, F2, rfl, rfl, ?_, ih h2⟩
                  cases a
                  case osl => simp only [RBc] at h1 ⊢; exact hsl h1
                  all_goals exact ⟨R_le hM h1.1, h1.2⟩
              have hbx : ∀ {cs : List AV} {v : Value} {F : List Nat}, RBbox M w cs v F → RBbox Mt w cs v F := by
                rintro cs v F ⟨b, vs, e, F', h1, h2, h3, h4⟩
                exact ⟨b, vs, e, F', h1, h2, hcs h3, h4⟩
              cases a
              case osl => simp only [RB] at h ⊢; exact hsl h
              case obx => simp only [RB] at h ⊢; exact hbx h
              case agg =>
                simp only [RB] at h ⊢
                obtain ⟨vs, e, h⟩ := h
                exact ⟨vs, e, hcs h⟩
              case ifc t a =>
                cases a
                case obx =>
                  simp only [RB] at h ⊢
                  obtain ⟨vs, e, h⟩ := h
                  exact ⟨vs, e, hbx h⟩
                all_goals exact ⟨R_le hM h.1, h.2⟩
              all_goals exact ⟨R_le hM h.1, h.2⟩
            exact hle x
        | false =>
          rw [hm] at h h'
          simp only [cond_false, Option.some.injEq] at h h'
          subst h
          cases hx : a.rd gr 40 with
          | none => rw [hx] at h'; cases h'
          | some b =>
            rw [hx] at h'
            simp only [Option.some.injEq] at h'
            subst h'
            exact ⟨⟨v, vs', [], bks ν js, rfl, rfl, RB_of_R (R_rd hM hgr h1 hx), ih1⟩, ih2⟩

theorem bargs_nameless (mu : List Nat) (gr gr' : Nat → Option Ob) : ∀ {i : Nat} {args : List AV}, refN mu i args = [] → bargs mu g gr i args = bargs mu g gr' i args
  | i, [], _ => rfl
  | i, a :: l, h => by
    simp only [refN, List.append_eq_nil_iff] at h
    simp only [bargs]
    rw [bargs_nameless mu gr gr' h.2]
    cases hm : memN i mu with
    | true => rfl
    | false =>
      rw [hm] at h
      simp only [cond_false] at h
      rw [(rd_nameless gr gr' 40).1 a h.1]

end
end Go.Sx

set_option linter.unusedVariables false
set_option linter.unusedSimpArgs false
namespace Go.Sx
open Go Go.RowKit

/-- What stands behind a call. -/
def After (M : Frz) (w : World) (F : List Nat) (val : AV) (outs : List AV) (vs : List Value) (v : Value) (w' : World) : Prop :=
  ∃ M' F1 F2, M.le M' ∧ M'.ok w' ∧ (∀ k, M' k ≠ M k → w.heap.size ≤ k ∨ k ∈ F) ∧ RBT M' w' val v F1 ∧ RBL M' w' outs vs F2 ∧ (F1 ++ F2).Nodup ∧
    (∀ b, b ∈ F1 ++ F2 → M' b = none ∧ (w.heap.size ≤ b ∨ b ∈ F)) ∧ Kept F w w'
def returns (Q : Value → World → Prop) : Ending → World → Prop
  | .returned v, w => Q v w
  | _, _ => False
/-- A function does what its table says. -/
def FnOK (P : Program) (f : Nat) (Ff : List AV → Option Res) : Prop :=
  ∀ bs r, Ff bs = some r → AllT r.obl → ∀ (w : World) (M : Frz) (vs : List Value) (F : List Nat), M.ok w → RBL M w bs vs F → F.Nodup → (∀ b, b ∈ F → M b = none) →
    Calls P f vs.toArray w (returns (After M w F r.val r.outs vs))

section
variable {P : Program} {cx : Ctx} {M M' : Frz} {ν : Nms} {w w' : World} {g : Nat → Option Ob} {Γ : Env} {sl : List AV} {ob : List (Nat × Ob)} {a : Act} {st : St}

theorem orB_iff {a b : Bool} : orB a b = true ↔ a = true ∨ b = true := by cases a <;> simp [orB]
theorem emptyN_iff {l : List Nat} : emptyN l = true ↔ l = [] := by cases l <;> simp [emptyN]

theorem bks_nodup (h : Rel Γ sl ob a w M ν) : ∀ {ks : List Nat}, ks.Nodup → Has (og ob) ks → (bks ν ks).Nodup
  | [], _, _ => by simp [bks]
  | k :: ks, hn, hh => by
    obtain ⟨h1, h2⟩ := List.nodup_cons.1 hn
    have ih := bks_nodup h h2 (fun j hj => hh j (by simp [hj]))
    obtain ⟨o, hk⟩ := hh k (by simp)
    simp only [bks, List.filterMap_cons] at ih ⊢
    cases hb : blkV (ν k) with
    | none => exact ih
    | some b =>
      refine List.nodup_cons.2 ⟨fun c => ?_, ih⟩
      obtain ⟨j, hj, hjb⟩ := bks_mem.1 c
      obtain ⟨o', hj'⟩ := hh j (by simp [hj])
      exact h.inj k j o o' b hk hj' (fun e => h1 (e ▸ hj)) hb hjb

/-- the whole memory but for some blocks -/
def allBut (w : World) (F : List Nat) : Frz := fun k => if k ∈ F then none else w.heap[k]?

theorem RBT_rdO {val v' : AV} {v : Value} {F1 : List Nat} (hr : val.rdO = some v') (h : RBT M w val v F1) (hn : ∀ b, b ∈ F1 → M b = none) :
    ∃ M', M.le M' ∧ (∀ k, M' k ≠ M k → k ∈ F1) ∧ (∀ k o, M' k = some o → M k = some o ∨ w.heap[k]? = some o) ∧ R M' nu0 v' v := by
  have triv : R M nu0 val v → v' = val → ∃ M', M.le M' ∧ (∀ k, M' k ≠ M k → k ∈ F1) ∧ (∀ k o, M' k = some o → M k = some o ∨ w.heap[k]? = some o) ∧ R M' nu0 v' v := by
    rintro h rfl
    exact ⟨M, Frz.le_refl M, fun k hk => absurd rfl hk, fun k o hk => .inl hk, h⟩
  cases val <;> simp only [AV.rdO, reduceCtorEq, Option.some.injEq] at hr
  case osl nk d =>
    subst hr
    simp only [RBT, RB] at h
    have hle : M.le (fun k => if k ∈ F1 then w.heap[k]? else M k) := by
      intro k o hk
      by_cases hkF : k ∈ F1
      · rw [hn k hkF] at hk; cases hk
      · simp only [hkF, if_false]; exact hk
    refine ⟨fun k => if k ∈ F1 then w.heap[k]? else M k, hle, fun k hk => ?_, fun k o hk => ?_, ?_⟩
    · by_cases hkF : k ∈ F1
      · exact hkF
      · simp only [hkF, if_false, ne_eq, not_true_eq_false] at hk
    · by_cases hkF : k ∈ F1
      · simp only [hkF, if_true] at hk; exact .inr hk
      · simp only [hkF, if_false] at hk; exact .inl hk
    · obtain ⟨base, cap, rfl, hnk, h⟩ := h
      simp only [R]
      refine ⟨base, cap, rfl, hnk, ?_⟩
      rcases h with ⟨b, cs, e, rfl, h1, h2, h3, h4, rfl⟩ | ⟨rfl, h1, h2, rfl⟩
      · refine .inr ⟨b, 0, rfl, h3, h2.imp hle fun j v hj => ?_⟩
        rw [Frz.cell_mem (cs := cs) (e := e) (p := (0, 0)) (by simp [h1]), Nat.zero_add]
        exact hj
      · exact .inl h1
  all_goals
    subst hr
    exact triv h.1 rfl

/-! ### what an owned argument holds behind the call -/
def Back (ν : Nms) (w : World) (M : Frz) (qs : List (Nat × Ob)) (js : List Nat) (F : List Nat) (hs : Hs) : Prop :=
  Ads M w qs F hs (fun _ => True) ∧ ∀ k u, (k, u) ∈ hs → k ∈ js ∨ ν k = some u

theorem backA_ok {av o : AV} {v : Value} {qs : List (Nat × Ob)} {js F ks : List Nat} {b : AV} (h : backA av o = some (qs, js)) (hv : R M ν av v) (ho : RB M' w' o v F) (hx : av.ex g = some (b, ks)) (hob : Obs M ν w g) :
    (∃ hs, Back ν w' M' qs js F hs) ∧ ∀ k, k ∈ ks → k ∈ namesO qs ∨ k ∈ nestedA g av ++ js := by
  unfold backA at h
  split at h
  · rename_i k nk d
    simp only [Option.some.injEq, Prod.mk.injEq] at h
    obtain ⟨rfl, rfl⟩ := h
    simp only [RB] at ho
    simp only [R] at hv
    refine ⟨⟨[(k, v)], (ho.ads k).imp fun _ _ => trivial, fun j u hj => ?_⟩, fun j hj => ?_⟩
    · simp only [List.mem_cons, List.not_mem_nil, or_false, Prod.mk.injEq] at hj
      obtain ⟨rfl, rfl⟩ := hj
      exact .inr hv.1
    · simp only [AV.ex] at hx
      cases hk : g k with
      | none => rw [hk] at hx; cases hx
      | some p =>
        rw [hk] at hx
        cases p <;> simp only [reduceCtorEq, Option.some.injEq, Prod.mk.injEq] at hx
        obtain ⟨_, rfl⟩ := hx
        left; simpa [namesO] using hj
  · rename_i k
    simp only [Option.some.injEq, Prod.mk.injEq] at h
    obtain ⟨rfl, rfl⟩ := h
    have hF : F = [] := ho.2
    subst hF
    refine ⟨⟨[], Ads.nil fun _ => trivial, fun j u hj => by simp at hj⟩, fun j hj => ?_⟩
    simp only [AV.ex] at hx
    cases hk : g k with
    | none => rw [hk] at hx; cases hx
    | some p =>
      rw [hk] at hx
      cases p <;> simp only [reduceCtorEq, Option.some.injEq, Prod.mk.injEq] at hx
      obtain ⟨_, rfl⟩ := hx
      right; simp at hj; simp [hj]
  · rename_i k cs
    simp only [Option.some.injEq, Prod.mk.injEq] at h
    obtain ⟨rfl, rfl⟩ := h
    simp only [RB] at ho
    obtain ⟨hs, h1, h2⟩ := ho.ads k
    refine ⟨⟨_, h1.imp fun _ _ => trivial, fun j u hj => ?_⟩, fun j hj => ?_⟩
    · rcases List.mem_append.1 hj with hj | hj
      · left; rw [← h2]; exact List.mem_map.2 ⟨_, hj, rfl⟩
      · simp only [List.mem_cons, List.not_mem_nil, or_false, Prod.mk.injEq] at hj
        obtain ⟨rfl, rfl⟩ := hj
        exact .inr (ref0 hv)
    · simp only [AV.ex] at hx
      cases hk : g k with
      | none => rw [hk] at hx; cases hx
      | some p =>
        rw [hk] at hx
        cases p <;> simp only [reduceCtorEq] at hx
        rename_i cs0
        cases hcs : exCells g cs0 with
        | none => rw [hcs] at hx; cases hx
        | some q =>
          obtain ⟨l', ms⟩ := q
          rw [hcs] at hx
          simp only [Option.some.injEq, Prod.mk.injEq] at hx
          obtain ⟨_, rfl⟩ := hx
          rcases List.mem_append.1 hj with hj | hj
          · right
            obtain ⟨b0, vs0, e0, z1, z2, z3⟩ := hob k _ hk
            have := (exCells_ok hob hcs z3).2.2 j hj
            simp [nestedA, hk, this]
          · left; rw [namesO_append]; simp at hj; simp [namesO, hj]
  · rename_i t k t' cs
    simp only [Option.some.injEq, Prod.mk.injEq] at h
    obtain ⟨rfl, rfl⟩ := h
    simp only [RB] at ho
    obtain ⟨u0, hu0, ho⟩ := ho
    have hv' : ∃ u, v = .iface t u ∧ R M ν (.ref k 0) u := by simpa only [R] using hv
    obtain ⟨u, rfl, hu⟩ := hv'
    cases hu0
    obtain ⟨hs, h1, h2⟩ := ho.ads k
    refine ⟨⟨_, h1.imp fun _ _ => trivial, fun j u hj => ?_⟩, fun j hj => ?_⟩
    · rcases List.mem_append.1 hj with hj | hj
      · left; rw [← h2]; exact List.mem_map.2 ⟨_, hj, rfl⟩
      · simp only [List.mem_cons, List.not_mem_nil, or_false, Prod.mk.injEq] at hj
        obtain ⟨rfl, rfl⟩ := hj
        exact .inr (ref0 hu)
    · simp only [AV.ex] at hx
      cases hk : g k with
      | none => rw [hk] at hx; cases hx
      | some p =>
        rw [hk] at hx
        cases p <;> simp only [reduceCtorEq] at hx
        rename_i cs0
        cases hcs : exCells g cs0 with
        | none => rw [hcs] at hx; cases hx
        | some q =>
          obtain ⟨l', ms⟩ := q
          rw [hcs] at hx
          simp only [Option.some.injEq, Prod.mk.injEq] at hx
          obtain ⟨_, rfl⟩ := hx
          rcases List.mem_append.1 hj with hj | hj
          · right
            obtain ⟨b0, vs0, e0, z1, z2, z3⟩ := hob k _ hk
            have := (exCells_ok hob hcs z3).2.2 j hj
            simp [nestedA, hk, this]
          · left; rw [namesO_append]; simp at hj; simp [namesO, hj]
  · cases h

theorem Back.append {M : Frz} {w : World} {o1 o2 : List (Nat × Ob)} {j1 j2 F1 F2 : List Nat} {h1 h2 : Hs} (a : Back ν w M o1 j1 F1 h1) (b : Back ν w M o2 j2 F2 h2) :
    Back ν w M (o1 ++ o2) (j1 ++ j2) (F1 ++ F2) (h1 ++ h2) := by
  refine ⟨(a.1.append b.1).imp fun _ _ => trivial, fun k u hk => ?_⟩
  rcases List.mem_append.1 hk with hk | hk
  · exact (a.2 k u hk).imp (fun h => by simp [h]) id
  · exact (b.2 k u hk).imp (fun h => by simp [h]) id

theorem backL_ok (hob : Obs M ν w g) {mu : List Nat} : ∀ {i : Nat} {args outs : List AV} {vs : List Value} {qs : List (Nat × Ob)} {js F ks : List Nat}, backL mu i args outs = some (qs, js) →
    RL M ν args vs → RBL M' w' outs vs F → ownK mu g i args = some ks → ∃ hs F', Back ν w' M' qs js F' hs ∧ (∀ b, b ∈ F' → b ∈ F) ∧ (F.Nodup → F'.Nodup) ∧ ∀ k, k ∈ ks → k ∈ namesO qs ∨ k ∈ nestedL mu g i args ++ js
  | i, [], [], vs, qs, js, F, ks, h, hv, ho, hk => by
    simp only [backL, Option.some.injEq, Prod.mk.injEq] at h
    obtain ⟨rfl, rfl⟩ := h
    simp only [ownK, Option.some.injEq] at hk; subst hk
    exact ⟨[], [], ⟨Ads.nil fun _ => trivial, fun k u hk => by simp at hk⟩, fun b hb => by simp at hb, fun _ => by simp, fun k hk => by simp at hk⟩
  | i, [], o :: m, vs, qs, js, F, ks, h, hv, ho, hk => by simp [backL] at h
  | i, a :: l, [], vs, qs, js, F, ks, h, hv, ho, hk => by simp [backL] at h
  | i, a :: l, o :: m, vs, qs, js, F, ks, h, hv, ho, hk => by
    simp only [RL] at hv
    obtain ⟨v, vs', rfl, h1, h2⟩ := hv
    simp only [RBL] at ho
    obtain ⟨v', vs'', F1, F2, e, rfl, o1, o2⟩ := ho
    cases e
    simp only [backL] at h
    simp only [ownK] at hk
    cases hb : backL mu (i + 1) l m with
    | none => rw [hb] at h; cases h
    | some p =>
      obtain ⟨ps, k2⟩ := p
      cases hw : ownK mu g (i + 1) l with
      | none => rw [hw] at hk; cases hk
      | some ks2 =>
        rw [hb] at h
        rw [hw] at hk
        simp only at h hk
        obtain ⟨hs, F', i1, i2, i3, i4⟩ := backL_ok hob hb h2 o2 hw
        cases hm : memN i mu with
        | true =>
          rw [hm] at h hk
          simp only [cond_true] at h hk
          cases ha : backA a o with
          | none => rw [ha] at h; cases h
          | some q =>
            obtain ⟨p1, k1⟩ := q
            rw [ha] at h
            simp only [Option.some.injEq, Prod.mk.injEq] at h
            obtain ⟨rfl, rfl⟩ := h
            cases hx : a.ex g with
            | none => rw [hx] at hk; cases hk
            | some q2 =>
              obtain ⟨b, ks1⟩ := q2
              rw [hx] at hk
              simp only [Option.some.injEq] at hk
              subst hk
              obtain ⟨⟨hs1, j1⟩, j2⟩ := backA_ok (w := w) ha h1 o1 hx hob
              refine ⟨hs1 ++ hs, F1 ++ F', j1.append i1, fun b hb => ?_, fun hn => ?_, fun k hk => ?_⟩
              · rcases List.mem_append.1 hb with hb | hb
                · simp [hb]
                · simp [i2 b hb]
              · obtain ⟨n1, n2, n3⟩ := List.nodup_append.1 hn
                exact List.nodup_append.2 ⟨n1, i3 n2, fun b hb c hc => n3 b hb c (i2 c hc)⟩
              · rw [namesO_append]
                simp only [nestedL, hm, cond_true]
                rcases List.mem_append.1 hk with hk | hk
                · rcases j2 k hk with h | h
                  · left; simp [h]
                  · right; simp only [List.mem_append] at h ⊢; rcases h with h | h <;> simp [h]
                · rcases i4 k hk with h | h
                  · left; simp [h]
                  · right; simp only [List.mem_append] at h ⊢; rcases h with h | h <;> simp [h]
        | false =>
          rw [hm] at h hk
          simp only [cond_false, Option.some.injEq, Prod.mk.injEq] at h hk
          obtain ⟨rfl, rfl⟩ := h
          subst hk
          refine ⟨hs, F', i1, fun b hb => ?_, fun hn => ?_, fun k hk => ?_⟩
          · simp [i2 b hb]
          · exact i3 (List.nodup_append.1 hn).2.1
          · rcases i4 k hk with h | h
            · left; exact h
            · right; simpa [nestedL, hm] using h

/-! ### the state behind a call -/
def dels : List (Nat × Ob) → List Nat → List (Nat × Ob)
  | ob, [] => ob
  | ob, k :: ks => dels (od ob k) ks
theorem og_dels : ∀ (ks : List Nat) (ob : List (Nat × Ob)) (k : Nat), og (dels ob ks) k = if k ∈ ks then none else og ob k
  | [], ob, k => by simp [dels]
  | j :: ks, ob, k => by
    simp only [dels]
    rw [og_dels ks, og_od]
    by_cases h1 : k ∈ ks
    · simp [h1]
    · by_cases h2 : k = j
      · simp [h2]
      · simp [h1, h2]
theorem Rel.dels (h : Rel Γ sl ob a w M ν) : ∀ (ks : List Nat), Rel Γ sl (dels ob ks) a w M ν := by
  intro ks
  induction ks generalizing ob with
  | nil => exact h
  | cons k ks ih => exact ih (h.del k)
theorem Rel.ext (h : Rel Γ sl ob a w M ν) {ob' : List (Nat × Ob)} (e : ∀ k o, og ob' k = some o → og ob k = some o) : Rel Γ sl ob' a w M ν where
  len := h.len
  dfs := h.dfs
  tmps := h.tmps
  frz := h.frz
  obs := fun k o ho => h.obs k o (e k o ho)
  mine := fun k o b ho => h.mine k o b (e k o ho)
  inj := fun k k' o o' b ho ho' => h.inj k k' o o' b (e k o ho) (e k' o' ho')
  kept := h.kept
  frs := h.frs
theorem og_kills : ∀ (ks : List Nat) (st : St) (k : Nat), og (st.kills ks).ob k ≠ none → k ∉ ks ∧ og st.ob k ≠ none
  | [], st, k, h => ⟨by simp, h⟩
  | j :: ks, st, k, h => by
    simp only [St.kills] at h
    obtain ⟨h1, h2⟩ := og_kills ks (st.kill j) k h
    simp only [St.kill, og_klO] at h2
    by_cases e : k = j
    · simp [e] at h2
    · refine ⟨by simp [e, h1], fun c => h2 ?_⟩
      simp [c]

theorem land (h : Rel Γ st.sl st.ob a w M ν) {ks : List Nat} (hh : Has (og st.ob) ks) (hle : M.le M') (hok : M'.ok w') (hM' : ∀ k, M' k ≠ M k → w.heap.size ≤ k ∨ k ∈ bks ν ks)
    (hkept : Kept (bks ν ks) w w') {ps qs : List (Nat × Ob)} {js F1 F2 : List Nat} {h1 h2 : Hs} {Q : Nms → Prop} (a1 : Ads M' w' ps F1 h1 Q) (a2 : Back ν w' M' qs js F2 h2)
    (hn : (namesO (ps ++ qs)).Nodup) (hF : (F1 ++ F2).Nodup) (hFm : ∀ b, b ∈ F1 ++ F2 → M' b = none ∧ (w.heap.size ≤ b ∨ b ∈ bks ν ks)) {kil : List Nat} (hkil : ∀ k, k ∈ namesO ps ∨ k ∈ js → k ∈ kil)
    (hcov : ∀ k, k ∈ ks → k ∈ namesO qs ∨ k ∈ kil) : ∃ ν', (∀ k, k ∉ kil → ν' k = ν k) ∧ Q ν' ∧ Rel Γ (st.kills kil).sl (ops (st.kills kil).ob (ps ++ qs)) a w' M' ν' := by
  have a3 : Ads M' w' (ps ++ qs) (F1 ++ F2) (h1 ++ h2) (fun ν' => Q ν' ∧ True) := a1.append a2.1
  have hnd : (hnm (h1 ++ h2)).Nodup := by rw [a3.1]; exact hn
  have hcons := upds_in ν (h1 ++ h2) hnd
  obtain ⟨hobs, hQ, _⟩ := a3.2.2 _ hcons
  have hout : ∀ k, k ∉ namesO (ps ++ qs) → upds ν (h1 ++ h2) k = ν k := fun k hk => upds_out ν _ k (by rw [a3.1]; exact hk)
  have hmem : ∀ k, k ∈ namesO (ps ++ qs) → ∃ u, (k, u) ∈ h1 ++ h2 ∧ upds ν (h1 ++ h2) k = some u := by
    intro k hk
    obtain ⟨u, hu⟩ := hnm_mem (by rw [a3.1]; exact hk)
    exact ⟨u, hu, hcons k u hu⟩
  have hstay : ∀ k, k ∉ kil → upds ν (h1 ++ h2) k = ν k := by
    intro k hk
    by_cases hkn : k ∈ namesO (ps ++ qs)
    · obtain ⟨u, hu, hu'⟩ := hmem k hkn
      rcases List.mem_append.1 hu with hu | hu
      · exact absurd (hkil k (.inl (by rw [← a1.1]; exact List.mem_map.2 ⟨_, hu, rfl⟩))) hk
      · rcases a2.2 k u hu with hj | hj
        · exact absurd (hkil k (.inr hj)) hk
        · rw [hu', hj]
    · exact hout k hkn
  refine ⟨upds ν (h1 ++ h2), hstay, hQ, ?_⟩
  have hk1 := Rel.kills st (ks := kil) h
  have hk2 := hk1.dels ks
  have hsub : ∀ k o, og (dels (st.kills kil).ob ks) k = some o → k ∉ ks ∧ k ∉ kil ∧ og st.ob k ≠ none ∧ og (st.kills kil).ob k = some o := by
    intro k o ho
    rw [og_dels] at ho
    split at ho
    · cases ho
    · rename_i hkk
      obtain ⟨x, y⟩ := og_kills kil st k (by rw [ho]; simp)
      exact ⟨hkk, x, y, ho⟩
  have hblk : ∀ k o b, og (dels (st.kills kil).ob ks) k = some o → blkV (ν k) = some b → b < w.heap.size ∧ b ∉ bks ν ks := by
    intro k o b ho hb
    obtain ⟨x1, x2, x3, x4⟩ := hsub k o ho
    refine ⟨(hk1.obs k o x4).lt hb, fun c => ?_⟩
    obtain ⟨j, hj, hjb⟩ := bks_mem.1 c
    obtain ⟨o', ho'⟩ := hh j hj
    cases hko : og st.ob k with
    | none => exact x3 hko
    | some o2 => exact h.inj k j o2 o' b hko ho' (fun e => x1 (e ▸ hj)) hb hjb
  have hkw : Kept Γ.F Γ.w0 w' := h.kept.trans hkept fun b hb hlt => by
    obtain ⟨j, hj, hjb⟩ := bks_mem.1 hb
    obtain ⟨o', ho'⟩ := hh j hj
    rcases (h.mine j o' b ho' hjb).2 with c | c
    · omega
    · exact c
  have hfr : ∀ k, M' k ≠ M k → Γ.w0.heap.size ≤ k ∨ k ∈ Γ.F := fun k hk => by
    rcases hM' k hk with c | c
    · exact .inl (Nat.le_trans h.kept.size c)
    · obtain ⟨j, hj, hjb⟩ := bks_mem.1 c
      obtain ⟨o', ho'⟩ := hh j hj
      exact (h.mine j o' k ho' hjb).2
  have hw := hk2.world hle hok hkw (hfr := hfr) fun k o b ho hb => by
    obtain ⟨x1, x2⟩ := hblk k o b ho hb
    refine ⟨hkept.block b x1 x2, ?_⟩
    by_cases e : M' b = M b
    · rw [e]; exact (hk2.mine k o b ho hb).1
    · rcases hM' b e with c | c
      · omega
      · exact absurd c x2
  have hl := hw.lays (ps := ps ++ qs) (ν' := upds ν (h1 ++ h2)) hn hout (fun k hk => ?_) hobs (fun k o b hko hb => ?_) (fun k o b hko hb => ?_)
  · refine hl.ext fun k o ho => ?_
    rcases og_ops_cases hn ho with ho | ⟨hkn, ho⟩
    · exact og_ops_in _ _ k o hn ho
    · rw [og_ops_out _ _ k hkn, og_dels]
      split
      · rename_i hks
        obtain ⟨x, y⟩ := og_kills kil st k (by rw [ho]; simp)
        rcases hcov k hks with c | c
        · exact absurd (by rw [namesO_append]; simp [c]) hkn
        · exact absurd c x
      · exact ho
  · by_cases hkk : k ∈ kil
    · left
      have hf := free_kills st (ks := kil) (k := k) (.inl hkk)
      refine ⟨hf.1, fun j cs hj => hf.2.1 j cs ?_, ?_⟩
      · rw [og_dels] at hj
        split at hj
        · cases hj
        · exact hj
      · rw [og_dels]
        split
        · rfl
        · exact hf.2.2
    · exact .inr (hstay k hkk)
  · obtain ⟨u, hu, hu'⟩ := hmem k (namesO_mem.2 ⟨o, hko⟩)
    rw [hu'] at hb
    have hbF : b ∈ F1 ++ F2 := by rw [← a3.2.1]; exact blks_mem hu hb
    obtain ⟨y1, y2⟩ := hFm b hbF
    refine ⟨y1, ?_⟩
    rcases y2 with y2 | y2
    · exact .inl (Nat.le_trans h.kept.size y2)
    · obtain ⟨j, hj, hjb⟩ := bks_mem.1 y2
      obtain ⟨o', ho'⟩ := hh j hj
      exact (h.mine j o' b ho' hjb).2
  · obtain ⟨u, hu, hu'⟩ := hmem k (namesO_mem.2 ⟨o, hko⟩)
    rw [hu'] at hb
    have hbF : b ∈ F1 ++ F2 := by rw [← a3.2.1]; exact blks_mem hu hb
    constructor
    · intro j o' hj hjn hjb
      obtain ⟨x1, x2⟩ := hblk j o' b hj hjb
      rcases (hFm b hbF).2 with c | c
      · omega
      · exact x2 c
    · intro j o' hj hne hjb
      obtain ⟨u2, hu2, hu2'⟩ := hmem j (namesO_mem.2 ⟨o', hj⟩)
      rw [hu2'] at hjb
      exact blks_inj (by rw [a3.2.1]; exact hF) hu hu2 (fun e => hne e.symm) hb hjb

end
end Go.Sx
