/-
  The evaluator Sx and its seat table, several parts in one text. No condition beyond those that each theorem names.
-/
import Derived.Test.YtncjcjaphddlgaaS1
import Derived.Laws.StructEq
set_option linter.unusedVariables false
set_option linter.unusedSimpArgs false
namespace Go.Sx
open Go Go.RowKit

/-! ### frozen memory -/
abbrev Frz := Nat → Option Obj
def Frz.cell (M : Frz) (b j : Nat) : Option Value :=
  match M b with
  | some (.cells cs _ _) => cs[j]?
  | _ => none
def Frz.le (M M' : Frz) : Prop := ∀ k o, M k = some o → M' k = some o
def Frz.ok (M : Frz) (w : World) : Prop := ∀ k o, M k = some o → w.heap[k]? = some o

theorem Frz.le_refl (M : Frz) : M.le M := fun _ _ h => h
theorem Frz.le_trans {A B C : Frz} (h : A.le B) (h' : B.le C) : A.le C := fun k o e => h' k o (h k o e)
theorem Frz.cell_le {M M' : Frz} (h : M.le M') {b j : Nat} {v : Value} (e : M.cell b j = some v) : M'.cell b j = some v := by
  unfold Frz.cell at *
  cases hb : M b with
  | none => rw [hb] at e; cases e
  | some o => rw [hb] at e; rw [h b o hb]; exact e
theorem Frz.cell_ok {M : Frz} {w : World} (h : M.ok w) {b j : Nat} {v : Value} (e : M.cell b j = some v) : w.cell? ⟨b, j, none⟩ = some v := by
  unfold Frz.cell at e
  cases hb : M b with
  | none => rw [hb] at e; cases e
  | some o =>
    rw [hb] at e
    cases o <;> simp at e
    simp [World.cell?, h b _ hb, e]

/-! ### rows -/
def RowI (g : Nat → Option Value) (xs : List Int) : Prop := ∀ i, i < xs.length → g i = some (.int .i64 (xs.getD i 0))
def RS (M : Frz) (v : Value) (xs : List Int) : Prop :=
  ∃ base cap, v = .slice base xs.length cap ∧ (xs.length = 0 ∨ ∃ b o, base = some ⟨b, o, none⟩ ∧ xs.length ≤ cap ∧ RowI (fun j => M.cell b (o + j)) xs)
def RowC (M : Frz) : SC → (Nat → Option Value) → Prop
  | .i1 xs, g => RowI g xs
  | .b1 xs, g => ∀ i, i < xs.length → g i = some (.bool (xs.getD i false))
  | .st w xs, g => ∀ i f, i < xs.length → f < w → g (i * w + f) = some (.int .i64 ((xs.getD i []).getD f 0))
  | .rows xs, g => ∀ i, i < xs.length → ∃ v, g i = some v ∧ RS M v (xs.getD i [])
def RSl (M : Frz) (nk : Option Bool) (d : SC) (v : Value) : Prop :=
  ∃ base cap, v = .slice base d.lenN cap ∧ (∀ b, nk = some b → base.isSome = b) ∧
    (d.lenN = 0 ∨ ∃ b o, base = some ⟨b, o, none⟩ ∧ d.lenN ≤ cap ∧ RowC M d (fun j => M.cell b (o + j)))

theorem RowI.imp {g g' : Nat → Option Value} {xs : List Int} (h : RowI g xs) (hg : ∀ j v, g j = some v → g' j = some v) : RowI g' xs :=
  fun i hi => hg _ _ (h i hi)
theorem RS.le {M M' : Frz} (h : M.le M') {v : Value} {xs : List Int} (e : RS M v xs) : RS M' v xs := by
  obtain ⟨base, cap, rfl, e⟩ := e
  refine ⟨base, cap, rfl, e.imp id ?_⟩
  rintro ⟨b, o, rfl, hc, hr⟩
  exact ⟨b, o, rfl, hc, hr.imp fun j v hj => Frz.cell_le h hj⟩
theorem RowC.imp {M M' : Frz} (h : M.le M') {d : SC} {g g' : Nat → Option Value} (e : RowC M d g) (hg : ∀ j v, g j = some v → g' j = some v) : RowC M' d g' := by
  cases d with
  | i1 xs => exact RowI.imp e hg
  | b1 xs => exact fun i hi => hg _ _ (e i hi)
  | st w xs => exact fun i f hi hf => hg _ _ (e i f hi hf)
  | rows xs =>
    intro i hi
    obtain ⟨v, h1, h2⟩ := e i hi
    exact ⟨v, hg _ _ h1, h2.le h⟩
theorem RSl.le {M M' : Frz} (h : M.le M') {nk : Option Bool} {d : SC} {v : Value} (e : RSl M nk d v) : RSl M' nk d v := by
  obtain ⟨base, cap, rfl, hn, e⟩ := e
  refine ⟨base, cap, rfl, hn, e.imp id ?_⟩
  rintro ⟨b, o, rfl, hc, hr⟩
  exact ⟨b, o, rfl, hc, hr.imp h fun j v hj => Frz.cell_le h hj⟩
theorem RS.sl {M : Frz} {v : Value} {xs : List Int} (e : RS M v xs) : RSl M none (.i1 xs) v := by
  obtain ⟨base, cap, rfl, e⟩ := e
  exact ⟨base, cap, rfl, (fun b h => by cases h), e⟩
theorem RSl.rs {M : Frz} {nk : Option Bool} {v : Value} {xs : List Int} (e : RSl M nk (.i1 xs) v) : RS M v xs := by
  obtain ⟨base, cap, rfl, _, e⟩ := e
  exact ⟨base, cap, rfl, e⟩

/-! ### maps: which keys they hold -/
structure MapR (ks : List Int) (es : Array MapEntry) (c : Nat) : Prop where
  all : ∀ e, e ∈ es.toList → ∃ n, e.key = .int .i64 n ∧ e.val = .bool true
  key : ∀ n, n ∈ ks ↔ ∃ e, e ∈ es.toList ∧ e.key = .int .i64 n
  born : ∀ e, e ∈ es.toList → e.born < c
  uniq : (es.toList.map (·.born)).Nodup
  keys : (es.toList.map (·.key)).Nodup

/-! ### values -/
abbrev Nms := Nat → Option Value

mutual
def R (M : Frz) (ν : Nms) : AV → Value → Prop
  | .int k n, v => v = .int k n
  | .bool b, v => v = .bool b
  | .c u, v => v = u
  | .nils, v => v = .slice none 0 0
  | .agg cs, v => ∃ vs : List Value, v = .agg vs.toArray ∧ RL M ν cs vs
  | .tup cs, v => ∃ vs : List Value, v = .tuple vs.toArray ∧ RL M ν cs vs
  | .sl nk d, v => RSl M nk d v
  | .own k, v => ν k = some v ∧ ∃ b n c, v = .slice b n c
  | .sub k w lo hi, v => ∃ base base' n cap, ν k = some (.slice base n cap) ∧ (n ≠ 0 → ∃ b, base = some ⟨b, 0, none⟩) ∧ 0 ≤ lo ∧ lo ≤ hi ∧ hi ≤ n ∧ n ≤ cap ∧
      v = .slice base' (hi - lo).toNat (cap - lo.toNat) ∧ base'.isSome = base.isSome ∧ (lo < cap → base' = base.map (fun a => ⟨a.block, a.off + lo.toNat * w, none⟩)) ∧ (lo = 0 → base' = base)
  | .ref k f, v => ∃ b, ν k = some (.pointer (some ⟨b, 0, none⟩)) ∧ v = .pointer (some ⟨b, f, none⟩)
  | .elt k w i f, v => ∃ b n cap, ν k = some (.slice (some ⟨b, 0, none⟩) n cap) ∧ 0 ≤ i ∧ i < n ∧ v = .pointer (some ⟨b, i.toNat * w + f, none⟩)
  | .adr d i f, v => ∃ b o, v = .pointer (some ⟨b, o + (i.toNat * d.wid + f), none⟩) ∧ RowC M d (fun j => M.cell b (o + j)) ∧ 0 ≤ i ∧ i < d.lenN
  | .snap cs f, v => ∃ b vs e fr, v = .pointer (some ⟨b, f, none⟩) ∧ M b = some (.cells vs e fr) ∧ RL M ν cs vs.toList
  | .clo f cs, v => ∃ vs : List Value, v = .func (.func f) #[] vs.toArray ∧ RL M ν cs vs
  | .ifc t a, v => ∃ u, v = .iface t u ∧ R M ν a u
  | .when g a, v => (g = true → R M ν a v) ∧ (g = false → v = undef)
  | .osl _ _, _ => False
  | .obx _, _ => False
  | .omp _, _ => False
  | .mp k, v => ν k = some v ∧ ∃ b, v = .map (some b)
  | .ms ks, v => (v = .map none ∧ ks = []) ∨ ∃ b es c, v = .map (some b) ∧ M b = some (.map es c) ∧ MapR ks es c
  | .junk, _ => True
def RL (M : Frz) (ν : Nms) : List AV → List Value → Prop
  | [], vs => vs = []
  | a :: l, vs => ∃ v vs', vs = v :: vs' ∧ R M ν a v ∧ RL M ν l vs'
end

theorem RL_len {M : Frz} {ν : Nms} : ∀ {cs : List AV} {vs : List Value}, RL M ν cs vs → vs.length = cs.length
  | [], vs, h => by simp [RL] at h; simp [h]
  | a :: l, vs, h => by
    simp only [RL] at h
    obtain ⟨v, vs', rfl, _, h2⟩ := h
    simp [RL_len h2]

theorem sg_lt : ∀ {l : List AV} {i : Nat}, l.length ≤ i → sg l i = .junk
  | [], _, _ => rfl
  | _ :: _, 0, h => by simp at h
  | _ :: l, i + 1, h => sg_lt (l := l) (by simpa using h)

theorem RL_get {M : Frz} {ν : Nms} : ∀ {cs : List AV} {vs : List Value} (i : Nat), RL M ν cs vs → i < cs.length → ∃ v, vs[i]? = some v ∧ R M ν (sg cs i) v
  | [], vs, i, h, hi => by simp at hi
  | a :: l, vs, i, h, hi => by
    simp only [RL] at h
    obtain ⟨v, vs', rfl, h1, h2⟩ := h
    cases i with
    | zero => exact ⟨v, rfl, h1⟩
    | succ i => simpa [sg] using RL_get i h2 (by simpa using hi)

theorem RL_of_get {M : Frz} {ν : Nms} : ∀ {cs : List AV} {vs : List Value}, vs.length = cs.length → (∀ i, i < cs.length → ∃ v, vs[i]? = some v ∧ R M ν (sg cs i) v) → RL M ν cs vs
  | [], vs, hl, _ => by simp [RL]; simpa using hl
  | a :: l, [], hl, _ => by simp at hl
  | a :: l, v :: vs, hl, h => by
    simp only [RL]
    refine ⟨v, vs, rfl, ?_, RL_of_get (by simpa using hl) fun i hi => ?_⟩
    · obtain ⟨u, hu, hr⟩ := h 0 (by simp)
      simp at hu; subst hu; exact hr
    · simpa [sg] using h (i + 1) (by simpa using hi)

/-! More memory is frozen. -/
mutual
theorem R_le {M M' : Frz} (h : M.le M') {ν : Nms} : ∀ {a : AV} {v : Value}, R M ν a v → R M' ν a v
  | .int _ _, _, e => by simpa [R] using e
  | .bool _, _, e => by simpa [R] using e
  | .c _, _, e => by simpa [R] using e
  | .nils, _, e => by simpa [R] using e
  | .agg cs, v, e => by
    simp only [R] at e ⊢
    obtain ⟨vs, rfl, e⟩ := e
    exact ⟨vs, rfl, RL_le h e⟩
  | .tup cs, v, e => by
    simp only [R] at e ⊢
    obtain ⟨vs, rfl, e⟩ := e
    exact ⟨vs, rfl, RL_le h e⟩
  | .sl nk d, v, e => by simp only [R] at e ⊢; exact e.le h
  | .own k, v, e => by simpa [R] using e
  | .sub .., v, e => by simp only [R] at e ⊢; exact e
  | .ref .., v, e => by simpa only [R] using e
  | .elt .., v, e => by simpa only [R] using e
  | .adr d i f, v, e => by
    simp only [R] at e ⊢
    obtain ⟨b, o, rfl, hr, hi⟩ := e
    exact ⟨b, o, rfl, hr.imp h fun j v hj => Frz.cell_le h hj, hi⟩
  | .snap cs f, v, e => by
    simp only [R] at e ⊢
    obtain ⟨b, vs, t, fr, rfl, hb, e⟩ := e
    exact ⟨b, vs, t, fr, rfl, h _ _ hb, RL_le h e⟩
  | .clo f cs, v, e => by
    simp only [R] at e ⊢
    obtain ⟨vs, rfl, e⟩ := e
    exact ⟨vs, rfl, RL_le h e⟩
  | .ifc t a, v, e => by
    simp only [R] at e ⊢
    obtain ⟨u, rfl, e⟩ := e
    exact ⟨u, rfl, R_le h e⟩
  | .when g a, v, e => by
    simp only [R] at e ⊢
    exact ⟨fun hg => R_le h (e.1 hg), e.2⟩
  | .osl _ _, _, e => by simp [R] at e
  | .obx _, _, e => by simp [R] at e
  | .omp _, _, e => by simp [R] at e
  | .mp k, v, e => by simpa only [R] using e
  | .ms ks, v, e => by
    simp only [R] at e ⊢
    exact e.imp id fun ⟨b, es, c, e1, e2, e3⟩ => ⟨b, es, c, e1, h _ _ e2, e3⟩
  | .junk, _, _ => by simp [R]
theorem RL_le {M M' : Frz} (h : M.le M') {ν : Nms} : ∀ {cs : List AV} {vs : List Value}, RL M ν cs vs → RL M' ν cs vs
  | [], vs, e => by simpa [RL] using e
  | a :: l, vs, e => by
    simp only [RL] at e ⊢
    obtain ⟨v, vs', rfl, e1, e2⟩ := e
    exact ⟨v, vs', rfl, R_le h e1, RL_le h e2⟩
end

/-! The names that a value bears may stand for the same under another naming. -/
mutual
theorem R_nm {M : Frz} {ν ν' : Nms} : ∀ {a : AV} {v : Value}, (∀ k, k ∈ a.nm → ν' k = ν k) → R M ν a v → R M ν' a v
  | .int _ _, _, _, e => by simpa [R] using e
  | .bool _, _, _, e => by simpa [R] using e
  | .c _, _, _, e => by simpa [R] using e
  | .nils, _, _, e => by simpa [R] using e
  | .agg cs, v, h, e => by
    simp only [R] at e ⊢
    obtain ⟨vs, rfl, e⟩ := e
    exact ⟨vs, rfl, RL_nm (by simpa [AV.nm] using h) e⟩
  | .tup cs, v, h, e => by
    simp only [R] at e ⊢
    obtain ⟨vs, rfl, e⟩ := e
    exact ⟨vs, rfl, RL_nm (by simpa [AV.nm] using h) e⟩
  | .sl nk d, v, h, e => by simpa only [R] using e
  | .own k, v, h, e => by simp only [R] at e ⊢; rw [h k (by simp [AV.nm])]; exact e
  | .sub k .., v, h, e => by simp only [R] at e ⊢; rw [h k (by simp [AV.nm])]; exact e
  | .ref k .., v, h, e => by simp only [R] at e ⊢; rw [h k (by simp [AV.nm])]; exact e
  | .elt k .., v, h, e => by simp only [R] at e ⊢; rw [h k (by simp [AV.nm])]; exact e
  | .adr d i f, v, h, e => by simpa only [R] using e
  | .snap cs f, v, h, e => by
    simp only [R] at e ⊢
    obtain ⟨b, vs, t, fr, rfl, hb, e⟩ := e
    exact ⟨b, vs, t, fr, rfl, hb, RL_nm (by simpa [AV.nm] using h) e⟩
  | .clo f cs, v, h, e => by
    simp only [R] at e ⊢
    obtain ⟨vs, rfl, e⟩ := e
    exact ⟨vs, rfl, RL_nm (by simpa [AV.nm] using h) e⟩
  | .ifc t a, v, h, e => by
    simp only [R] at e ⊢
    obtain ⟨u, rfl, e⟩ := e
    exact ⟨u, rfl, R_nm (by simpa [AV.nm] using h) e⟩
  | .when g a, v, h, e => by
    simp only [R] at e ⊢
    exact ⟨fun hg => R_nm (by simpa [AV.nm] using h) (e.1 hg), e.2⟩
  | .osl _ _, _, _, e => by simp [R] at e
  | .obx _, _, _, e => by simp [R] at e
  | .omp _, _, _, e => by simp [R] at e
  | .mp k, v, h, e => by simp only [R] at e ⊢; rw [h k (by simp [AV.nm])]; exact e
  | .ms ks, v, _, e => by simpa only [R] using e
  | .junk, _, _, _ => by simp [R]
theorem RL_nm {M : Frz} {ν ν' : Nms} : ∀ {cs : List AV} {vs : List Value}, (∀ k, k ∈ AV.nmL cs → ν' k = ν k) → RL M ν cs vs → RL M ν' cs vs
  | [], vs, _, e => by simpa [RL] using e
  | a :: l, vs, h, e => by
    simp only [RL] at e ⊢
    obtain ⟨v, vs', rfl, e1, e2⟩ := e
    refine ⟨v, vs', rfl, R_nm (fun k hk => h k (by simp [AV.nmL, hk])) e1, RL_nm (fun k hk => h k (by simp [AV.nmL, hk])) e2⟩
end

theorem beqT {a b : Nat} : Nat.beq a b = true ↔ a = b := by simp
theorem beqF {a b : Nat} : Nat.beq a b = false ↔ a ≠ b := by
  rw [← Bool.not_eq_true, beqT]

/-! A name is struck. -/
mutual
theorem R_kl {M : Frz} {ν : Nms} {k : Nat} : ∀ {a : AV} {v : Value}, R M ν a v → R M ν (a.kl k) v
  | .int _ _, _, e => by simpa [R, AV.kl] using e
  | .bool _, _, e => by simpa [R, AV.kl] using e
  | .c _, _, e => by simpa [R, AV.kl] using e
  | .nils, _, e => by simpa [R, AV.kl] using e
  | .agg cs, v, e => by
    simp only [R, AV.kl] at e ⊢
    obtain ⟨vs, rfl, e⟩ := e
    exact ⟨vs, rfl, RL_kl e⟩
  | .tup cs, v, e => by
    simp only [R, AV.kl] at e ⊢
    obtain ⟨vs, rfl, e⟩ := e
    exact ⟨vs, rfl, RL_kl e⟩
  | .sl nk d, v, e => by simpa only [R, AV.kl] using e
  | .own j, v, e => by
    simp only [AV.kl]
    cases Nat.beq j k
    · exact e
    · simp [R]
  | .sub j w lo hi, v, e => by
    simp only [AV.kl]
    cases Nat.beq j k
    · exact e
    · simp [R]
  | .ref j f, v, e => by
    simp only [AV.kl]
    cases Nat.beq j k
    · exact e
    · simp [R]
  | .elt j w i f, v, e => by
    simp only [AV.kl]
    cases Nat.beq j k
    · exact e
    · simp [R]
  | .adr d i f, v, e => by simpa only [R, AV.kl] using e
  | .snap cs f, v, e => by
    simp only [R, AV.kl] at e ⊢
    obtain ⟨b, vs, t, fr, rfl, hb, e⟩ := e
    exact ⟨b, vs, t, fr, rfl, hb, RL_kl e⟩
  | .clo f cs, v, e => by
    simp only [R, AV.kl] at e ⊢
    obtain ⟨vs, rfl, e⟩ := e
    exact ⟨vs, rfl, RL_kl e⟩
  | .ifc t a, v, e => by
    simp only [R, AV.kl] at e ⊢
    obtain ⟨u, rfl, e⟩ := e
    exact ⟨u, rfl, R_kl e⟩
  | .when g a, v, e => by
    simp only [R, AV.kl] at e ⊢
    exact ⟨fun hg => R_kl (e.1 hg), e.2⟩
  | .osl _ _, _, e => by simp [R] at e
  | .obx _, _, e => by simp [R] at e
  | .omp _, _, e => by simp [R] at e
  | .mp j, v, e => by
    simp only [AV.kl]
    cases Nat.beq j k
    · exact e
    · simp [R]
  | .ms ks, v, e => by simpa only [R, AV.kl] using e
  | .junk, _, _ => by simp [R, AV.kl]
theorem RL_kl {M : Frz} {ν : Nms} {k : Nat} : ∀ {cs : List AV} {vs : List Value}, RL M ν cs vs → RL M ν (AV.klL k cs) vs
  | [], vs, e => by simpa [RL, AV.klL] using e
  | a :: l, vs, e => by
    simp only [RL, AV.klL] at e ⊢
    obtain ⟨v, vs', rfl, e1, e2⟩ := e
    exact ⟨v, vs', rfl, R_kl e1, RL_kl e2⟩
end

mutual
theorem nm_kl {k : Nat} : ∀ {a : AV} {j : Nat}, j ∈ (a.kl k).nm → j ∈ a.nm ∧ j ≠ k
  | .int _ _, _, e => by simp [AV.kl, AV.nm] at e
  | .bool _, _, e => by simp [AV.kl, AV.nm] at e
  | .c _, _, e => by simp [AV.kl, AV.nm] at e
  | .nils, _, e => by simp [AV.kl, AV.nm] at e
  | .agg cs, j, e => by simp only [AV.kl, AV.nm] at e ⊢; exact nmL_kl e
  | .tup cs, j, e => by simp only [AV.kl, AV.nm] at e ⊢; exact nmL_kl e
  | .sl nk d, _, e => by simp [AV.kl, AV.nm] at e
  | .own i, j, e => by
    simp only [AV.kl] at e
    cases h : Nat.beq i k <;> rw [h] at e <;> simp [AV.nm] at e
    subst e; exact ⟨by simp [AV.nm], beqF.1 h⟩
  | .sub i w lo hi, j, e => by
    simp only [AV.kl] at e
    cases h : Nat.beq i k <;> rw [h] at e <;> simp [AV.nm] at e
    subst e; exact ⟨by simp [AV.nm], beqF.1 h⟩
  | .ref i f, j, e => by
    simp only [AV.kl] at e
    cases h : Nat.beq i k <;> rw [h] at e <;> simp [AV.nm] at e
    subst e; exact ⟨by simp [AV.nm], beqF.1 h⟩
  | .elt i w n f, j, e => by
    simp only [AV.kl] at e
    cases h : Nat.beq i k <;> rw [h] at e <;> simp [AV.nm] at e
    subst e; exact ⟨by simp [AV.nm], beqF.1 h⟩
  | .mp i, j, e => by
    simp only [AV.kl] at e
    cases h : Nat.beq i k <;> rw [h] at e <;> simp [AV.nm] at e
    subst e; exact ⟨by simp [AV.nm], beqF.1 h⟩
  | .adr d i f, _, e => by simp [AV.kl, AV.nm] at e
  | .snap cs f, j, e => by simp only [AV.kl, AV.nm] at e ⊢; exact nmL_kl e
  | .clo f cs, j, e => by simp only [AV.kl, AV.nm] at e ⊢; exact nmL_kl e
  | .ifc t a, j, e => by simp only [AV.kl, AV.nm] at e ⊢; exact nm_kl e
  | .when g a, j, e => by simp only [AV.kl, AV.nm] at e ⊢; exact nm_kl e
  | .osl _ _, _, e => by simp [AV.kl, AV.nm] at e
  | .obx _, _, e => by simp [AV.kl, AV.nm] at e
  | .omp _, _, e => by simp [AV.kl, AV.nm] at e
  | .ms _, _, e => by simp [AV.kl, AV.nm] at e
  | .junk, _, e => by simp [AV.kl, AV.nm] at e
theorem nmL_kl {k : Nat} : ∀ {cs : List AV} {j : Nat}, j ∈ AV.nmL (AV.klL k cs) → j ∈ AV.nmL cs ∧ j ≠ k
  | [], j, e => by simp [AV.klL, AV.nmL] at e
  | a :: l, j, e => by
    simp only [AV.klL, AV.nmL, List.mem_append] at e ⊢
    rcases e with e | e
    · exact ⟨.inl (nm_kl e).1, (nm_kl e).2⟩
    · exact ⟨.inr (nmL_kl e).1, (nmL_kl e).2⟩
end

end Go.Sx

set_option linter.unusedVariables false
set_option linter.unusedSimpArgs false
namespace Go.Sx
open Go Go.RowKit

/-- From w to w' nothing of what was there has turned but the blocks of F. -/
structure Kept (F : List Nat) (w w' : World) : Prop where
  os : w'.os = w.os
  tape : w'.tape = w.tape
  output : w'.output = w.output
  size : w.heap.size ≤ w'.heap.size
  block : ∀ k, k < w.heap.size → k ∉ F → w'.heap[k]? = w.heap[k]?

theorem Kept.refl (F : List Nat) (w : World) : Kept F w w := ⟨rfl, rfl, rfl, Nat.le_refl _, fun _ _ _ => rfl⟩
theorem Kept.trans {F F' : List Nat} {a b c : World} (h : Kept F a b) (h' : Kept F' b c) (hF : ∀ k, k ∈ F' → k < a.heap.size → k ∈ F) : Kept F a c :=
  ⟨h'.os.trans h.os, h'.tape.trans h.tape, h'.output.trans h.output, Nat.le_trans h.size h'.size, fun k hk hn =>
    (h'.block k (Nat.lt_of_lt_of_le hk h.size) (fun hk' => hn (hF k hk' hk))).trans (h.block k hk hn)⟩
theorem Kept.mono {F F' : List Nat} {a b : World} (h : Kept F a b) (hF : ∀ k, k ∈ F → k ∈ F') : Kept F' a b :=
  ⟨h.os, h.tape, h.output, h.size, fun k hk hn => h.block k hk fun hk' => hn (hF k hk')⟩
theorem Kept.below {w w' : World} (h : Kept [] w w') : Below w.heap.size w w' := ⟨h.os, h.tape, h.output, h.size, fun k hk => h.block k hk (by simp)⟩

/-- The call's entrance: its world, the blocks that it was handed. -/
structure Env where
  w0 : World
  F : List Nat
  M0 : Frz

def blkV : Option Value → Option Nat
  | some (.slice (some a) _ _) => some a.block
  | some (.pointer (some a)) => some a.block
  | some (.map (some b)) => some b
  | _ => none

def ObR (M : Frz) (ν : Nms) (w : World) (k : Nat) : Ob → Prop
  | .arr nk d => ∃ base cap, ν k = some (.slice base d.lenN cap) ∧ (∀ b, nk = some b → base.isSome = b) ∧
      ((∃ b cs e, base = some ⟨b, 0, none⟩ ∧ w.heap[b]? = some (.cells cs e (0, 0)) ∧ RowC M d (fun j => cs[j]?) ∧ d.lenN ≤ cap ∧ cap * d.wid ≤ cs.size) ∨
        (base = none ∧ d.lenN = 0 ∧ cap = 0))
  | .box cs => ∃ b vs e, ν k = some (.pointer (some ⟨b, 0, none⟩)) ∧ w.heap[b]? = some (.cells vs e (0, 0)) ∧ RL M ν cs vs.toList
  | .map ks => ∃ b es c, ν k = some (.map (some b)) ∧ w.heap[b]? = some (.map es c) ∧ MapR ks es c
  | .itr ks cur => ∃ b, ν k = some (.pointer (some ⟨b, 0, none⟩)) ∧ ((w.heap[b]? = some (.mapIter none 0 #[] 0) ∧ ks = [] ∧ cur = none) ∨
      ∃ m es c seen, w.heap[b]? = some (.mapIter (some m) c seen c) ∧ M m = some (.map es c) ∧ MapR ks (es.filter fun e => !seen.contains e.born) c ∧ (∀ e, e ∈ es.toList → e.born < c) ∧
        (es.toList.map (·.born)).Nodup ∧ (∀ n, cur = some n → ∃ e, e ∈ es.toList ∧ seen.back? = some e.born ∧ e.key = .int .i64 n ∧ e.val = .bool true))

structure Rel (Γ : Env) (sl : List AV) (ob : List (Nat × Ob)) (a : Act) (w : World) (M : Frz) (ν : Nms) : Prop where
  len : a.tmps.size = sl.length
  dfs : a.defers = []
  tmps : ∀ i, i < sl.length → R M ν (sg sl i) (a.tmps.getD i undef)
  frz : M.ok w
  obs : ∀ k o, og ob k = some o → ObR M ν w k o
  mine : ∀ k o b, og ob k = some o → blkV (ν k) = some b → M b = none ∧ (Γ.w0.heap.size ≤ b ∨ b ∈ Γ.F)
  inj : ∀ k k' o o' b, og ob k = some o → og ob k' = some o' → k ≠ k' → blkV (ν k) = some b → blkV (ν k') ≠ some b
  kept : Kept Γ.F Γ.w0 w
  frs : Γ.M0.le M ∧ ∀ k, M k ≠ Γ.M0 k → Γ.w0.heap.size ≤ k ∨ k ∈ Γ.F

/-! ### slots -/
theorem ss_length : ∀ (l : List AV) (d : Nat) (v : AV), (ss l d v).length = l.length
  | [], _, _ => rfl
  | _ :: _, 0, _ => rfl
  | _ :: l, d + 1, v => by simp [ss, ss_length l d v]
theorem sg_ss : ∀ (l : List AV) (d : Nat) (v : AV) (i : Nat), sg (ss l d v) i = if i = d ∧ d < l.length then v else sg l i
  | [], _, _, _ => by simp [ss]
  | a :: l, 0, v, 0 => by simp [ss, sg]
  | a :: l, 0, v, i + 1 => by simp [ss, sg]
  | a :: l, d + 1, v, 0 => by simp [ss, sg]
  | a :: l, d + 1, v, i + 1 => by simp [ss, sg, sg_ss l d v i]

theorem klL_length (k : Nat) : ∀ l : List AV, (AV.klL k l).length = l.length
  | [] => rfl
  | _ :: l => by simp [AV.klL, klL_length k l]
theorem sg_klL (k : Nat) : ∀ (l : List AV) (i : Nat), sg (AV.klL k l) i = (sg l i).kl k
  | [], _ => by simp [AV.klL, sg, AV.kl]
  | a :: l, 0 => by simp [AV.klL, sg]
  | a :: l, i + 1 => by simp [AV.klL, sg, sg_klL k l i]
theorem nm_sg : ∀ {l : List AV} {i j : Nat}, j ∈ (sg l i).nm → j ∈ AV.nmL l
  | [], _, _, h => by simp [sg, AV.nm] at h
  | a :: l, 0, j, h => by simp only [sg] at h; simp [AV.nmL, h]
  | a :: l, i + 1, j, h => by simp only [sg] at h; simp [AV.nmL, nm_sg h]

theorem og_od : ∀ (l : List (Nat × Ob)) (k j : Nat), og (od l k) j = if j = k then none else og l j
  | [], k, j => by simp [od, og]
  | (i, o) :: l, k, j => by
    simp only [od]
    cases h : Nat.beq i k with
    | true =>
      have := beqT.1 h; subst this
      simp only [cond_true, og_od l i j, og]
      by_cases hj : j = i
      · simp [hj]
      · have : Nat.beq i j = false := beqF.2 (fun h => hj h.symm)
        simp [hj, this]
    | false =>
      have hne := beqF.1 h
      simp only [cond_false, og, og_od l k j]
      cases h' : Nat.beq i j with
      | true => have := beqT.1 h'; subst this; simp [hne]
      | false => simp
theorem og_op (l : List (Nat × Ob)) (k : Nat) (o : Ob) (j : Nat) : og (op l k o) j = if j = k then some o else og l j := by
  simp only [op, og, og_od]
  cases h : Nat.beq k j with
  | true => have := beqT.1 h; subst this; simp
  | false =>
    have : j ≠ k := fun h' => beqF.1 h h'.symm
    simp [this]
theorem og_klO (k : Nat) : ∀ (l : List (Nat × Ob)) (j : Nat), og (klO k l) j = if j = k then none else (og l j).map (Ob.kl k)
  | [], j => by simp [klO, og]
  | (i, o) :: l, j => by
    simp only [klO]
    cases h : Nat.beq i k with
    | true =>
      have := beqT.1 h; subst this
      simp only [cond_true, og_klO i l j, og]
      by_cases hj : j = i
      · simp [hj]
      · have : Nat.beq i j = false := beqF.2 (fun h => hj h.symm)
        simp [hj, this]
    | false =>
      have hne := beqF.1 h
      simp only [cond_false, og, og_klO k l j]
      cases h' : Nat.beq i j with
      | true => have := beqT.1 h'; subst this; simp [hne]
      | false => simp

section
variable {Γ : Env} {sl : List AV} {ob : List (Nat × Ob)} {a : Act} {w : World} {M : Frz} {ν : Nms}

theorem Rel.get (h : Rel Γ sl ob a w M ν) (i : Nat) : R M ν (sg sl i) (a.tmps.getD i undef) := by
  by_cases hi : i < sl.length
  · exact h.tmps i hi
  · rw [sg_lt (by omega)]; simp [R]

theorem Rel.set (h : Rel Γ sl ob a w M ν) (d : Nat) {av : AV} {v : Value} (hv : R M ν av v) : Rel Γ (ss sl d av) ob (a.put (some d) v) w M ν where
  len := by simp [Act.put, ss_length, h.len]
  dfs := h.dfs
  tmps := by
    intro i hi
    rw [ss_length] at hi
    rw [sg_ss]
    simp only [Act.put, Array.getD_eq_getD_getElem?, Array.getElem?_setIfInBounds]
    by_cases e : i = d
    · subst e
      rw [if_pos ⟨rfl, hi⟩]
      have : i < a.tmps.size := by rw [h.len]; exact hi
      simp [this, hv]
    · rw [if_neg (fun c => e c.1)]
      have e' : ¬ d = i := fun c => e c.symm
      simp only [e', if_false]
      have := h.tmps i hi
      simpa [Array.getD_eq_getD_getElem?] using this
  frz := h.frz
  obs := h.obs
  mine := h.mine
  inj := h.inj
  kept := h.kept
  frs := h.frs

theorem ObR.kl {k j : Nat} {o : Ob} (h : ObR M ν w j o) : ObR M ν w j (o.kl k) := by
  cases o with
  | arr nk d => exact h
  | box cs =>
    obtain ⟨b, vs, e, h1, h2, h3⟩ := h
    exact ⟨b, vs, e, h1, h2, RL_kl h3⟩
  | map ks => exact h
  | itr ks c => exact h

theorem Rel.kill (h : Rel Γ sl ob a w M ν) (k : Nat) : Rel Γ (AV.klL k sl) (klO k ob) a w M ν where
  len := by rw [klL_length]; exact h.len
  dfs := h.dfs
  tmps := by
    intro i hi
    rw [klL_length] at hi
    rw [sg_klL]
    exact R_kl (h.tmps i hi)
  frz := h.frz
  obs := by
    intro j o hj
    rw [og_klO] at hj
    split at hj
    · cases hj
    · cases ho : og ob j with
      | none => rw [ho] at hj; cases hj
      | some o' =>
        rw [ho] at hj; cases hj
        exact (h.obs j o' ho).kl
  mine := by
    intro j o b hj hb
    rw [og_klO] at hj
    split at hj
    · cases hj
    · cases ho : og ob j with
      | none => rw [ho] at hj; cases hj
      | some o' => exact h.mine j o' b ho hb
  inj := by
    intro j j' o o' b hj hj' hne hb
    rw [og_klO] at hj hj'
    split at hj
    · cases hj
    · split at hj'
      · cases hj'
      · cases ho : og ob j with
        | none => rw [ho] at hj; cases hj
        | some p =>
          cases ho' : og ob j' with
          | none => rw [ho'] at hj'; cases hj'
          | some p' => exact h.inj j j' p p' b ho ho' hne hb
  kept := h.kept
  frs := h.frs

/-- No slot and no box bears the name; there is no such object. -/
def Free (sl : List AV) (ob : List (Nat × Ob)) (k : Nat) : Prop :=
  k ∉ AV.nmL sl ∧ (∀ j cs, og ob j = some (.box cs) → k ∉ AV.nmL cs) ∧ og ob k = none

theorem free_kill (k : Nat) : Free (AV.klL k sl) (klO k ob) k := by
  refine ⟨fun h => (nmL_kl h).2 rfl, fun j cs hj h => ?_, by simp [og_klO]⟩
  rw [og_klO] at hj
  split at hj
  · cases hj
  · cases ho : og ob j with
    | none => rw [ho] at hj; cases hj
    | some o =>
      rw [ho] at hj
      cases o with
      | box cs' => simp [Ob.kl] at hj; subst hj; exact (nmL_kl h).2 rfl
      | arr => simp [Ob.kl] at hj
      | map => simp [Ob.kl] at hj
      | itr => simp [Ob.kl] at hj
theorem Free.kill {j : Nat} (h : Free sl ob j) (k : Nat) : Free (AV.klL k sl) (klO k ob) j := by
  refine ⟨fun c => h.1 (nmL_kl c).1, fun i cs hi c => ?_, ?_⟩
  · rw [og_klO] at hi
    split at hi
    · cases hi
    · cases ho : og ob i with
      | none => rw [ho] at hi; cases hi
      | some o =>
        rw [ho] at hi
        cases o with
        | box cs' => simp [Ob.kl] at hi; subst hi; exact h.2.1 i cs' ho (nmL_kl c).1
        | arr => simp [Ob.kl] at hi
        | map => simp [Ob.kl] at hi
        | itr => simp [Ob.kl] at hi
  · rw [og_klO]; split
    · rfl
    · rw [h.2.2]; rfl

theorem Rel.kills (st : St) : ∀ {ks : List Nat}, Rel Γ st.sl st.ob a w M ν → Rel Γ (st.kills ks).sl (st.kills ks).ob a w M ν
  | [], h => h
  | k :: ks, h => by
    simp only [St.kills]
    exact Rel.kills (st.kill k) (ks := ks) (h.kill k)
theorem free_kills (st : St) : ∀ {ks : List Nat} {k : Nat}, k ∈ ks ∨ Free st.sl st.ob k → Free (st.kills ks).sl (st.kills ks).ob k := by
  intro ks
  induction ks generalizing st with
  | nil => intro k h; simpa [St.kills] using h
  | cons j ks ih =>
    intro k h
    simp only [St.kills]
    apply ih
    rcases h with h | h
    · rcases List.mem_cons.1 h with rfl | h
      · exact .inr (free_kill k)
      · exact .inl h
    · exact .inr (h.kill j)
theorem kills_ok (st : St) : ∀ ks : List Nat, (st.kills ks).ok = st.ok := by
  intro ks
  induction ks generalizing st with
  | nil => rfl
  | cons k ks ih => simp only [St.kills, ih]; rfl

/-- Objects may be forgotten. -/
theorem Rel.del (h : Rel Γ sl ob a w M ν) (k : Nat) : Rel Γ sl (od ob k) a w M ν where
  len := h.len
  dfs := h.dfs
  tmps := h.tmps
  frz := h.frz
  obs := by
    intro j o hj
    rw [og_od] at hj
    split at hj
    · cases hj
    · exact h.obs j o hj
  mine := by
    intro j o b hj hb
    rw [og_od] at hj
    split at hj
    · cases hj
    · exact h.mine j o b hj hb
  inj := by
    intro j j' o o' b hj hj' hne hb
    rw [og_od] at hj hj'
    split at hj
    · cases hj
    · split at hj'
      · cases hj'
      · exact h.inj j j' o o' b hj hj' hne hb
  kept := h.kept
  frs := h.frs

theorem ObR.world {M' : Frz} {w' : World} {k : Nat} {o : Ob} (h : ObR M ν w k o) (hM : M.le M') (hb : ∀ b, blkV (ν k) = some b → w'.heap[b]? = w.heap[b]?) : ObR M' ν w' k o := by
  cases o with
  | arr nk d =>
    obtain ⟨base, cap, h1, h2, h3⟩ := h
    refine ⟨base, cap, h1, h2, h3.imp ?_ id⟩
    rintro ⟨b, cs, e, rfl, h4, h5, h6⟩
    refine ⟨b, cs, e, rfl, ?_, h5.imp hM fun _ _ h => h, h6⟩
    rw [hb b (by rw [h1]; rfl)]; exact h4
  | box cs =>
    obtain ⟨b, vs, e, h1, h2, h3⟩ := h
    exact ⟨b, vs, e, h1, by rw [hb b (by rw [h1]; rfl)]; exact h2, RL_le hM h3⟩
  | map ks =>
    obtain ⟨b, es, c, h1, h2, h3⟩ := h
    exact ⟨b, es, c, h1, by rw [hb b (by rw [h1]; rfl)]; exact h2, h3⟩
  | itr ks cur =>
    obtain ⟨b, h1, h2⟩ := h
    refine ⟨b, h1, ?_⟩
    rw [hb b (by rw [h1]; rfl)]
    exact h2.imp id fun ⟨m, es, c, seen, e1, e2, e3⟩ => ⟨m, es, c, seen, e1, hM _ _ e2, e3⟩

/-- The world turns, but for what the objects hold. -/
theorem Rel.world (h : Rel Γ sl ob a w M ν) {w' : World} {M' : Frz} (hM : M.le M') (hf : M'.ok w') (hk : Kept Γ.F Γ.w0 w')
    (hb : ∀ k o b, og ob k = some o → blkV (ν k) = some b → w'.heap[b]? = w.heap[b]? ∧ M' b = none)
    (hfr : ∀ k, M' k ≠ M k → Γ.w0.heap.size ≤ k ∨ k ∈ Γ.F := by exact fun k hk => absurd rfl hk) : Rel Γ sl ob a w' M' ν where
  len := h.len
  dfs := h.dfs
  tmps := fun i hi => R_le hM (h.tmps i hi)
  frz := hf
  obs := fun k o ho => (h.obs k o ho).world hM fun b e => (hb k o b ho e).1
  mine := fun k o b ho e => ⟨(hb k o b ho e).2, (h.mine k o b ho e).2⟩
  inj := h.inj
  kept := hk
  frs := ⟨Frz.le_trans h.frs.1 hM, fun k hk => (Classical.em (M' k = M k)).elim (fun e => h.frs.2 k (e ▸ hk)) (hfr k)⟩

def updN (ν : Nms) (k : Nat) (v : Value) : Nms := fun j => if j = k then some v else ν j

/-- An object is laid: under a name that was free, or under its old name, as the same value. -/
theorem Rel.lay (h : Rel Γ sl ob a w M ν) {k : Nat} {o : Ob} {v : Value} (hk : Free sl ob k ∨ ν k = some v)
    (ho : ObR M (updN ν k v) w k o) (hm : ∀ b, blkV (some v) = some b → M b = none ∧ (Γ.w0.heap.size ≤ b ∨ b ∈ Γ.F))
    (hi : ∀ j o' b, og ob j = some o' → j ≠ k → blkV (some v) = some b → blkV (ν j) ≠ some b) : Rel Γ sl (op ob k o) a w M (updN ν k v) := by
  have hsame : ∀ j, j ≠ k → updN ν k v j = ν j := fun j hj => by simp [updN, hj]
  have hself : updN ν k v k = some v := by simp [updN]
  have hold : ν k = some v → updN ν k v = ν := fun e => by
    funext j
    by_cases hj : j = k
    · subst hj; rw [hself, e]
    · exact hsame j hj
  refine ⟨h.len, h.dfs, fun i hi => ?_, h.frz, fun j p hj => ?_, fun j p b hj hb => ?_, fun j j' p p' b hj hj' hne hb => ?_, h.kept, h.frs⟩
  · rcases hk with hk | hk
    · exact R_nm (fun j hj => hsame j fun e => hk.1 (e ▸ nm_sg hj)) (h.tmps i hi)
    · rw [hold hk]; exact h.tmps i hi
  · rw [og_op] at hj
    split at hj
    · rename_i e; subst e; cases hj; exact ho
    · rename_i e
      have hob := h.obs j p hj
      rcases hk with hk | hk
      · cases p with
        | arr nk d =>
          obtain ⟨base, cap, h1, h2, h3⟩ := hob
          exact ⟨base, cap, by rw [hsame j e]; exact h1, h2, h3⟩
        | box cs =>
          obtain ⟨b, vs, t, h1, h2, h3⟩ := hob
          exact ⟨b, vs, t, by rw [hsame j e]; exact h1, h2, RL_nm (fun i hi => hsame i fun c => hk.2.1 j cs hj (c ▸ hi)) h3⟩
        | map ks =>
          obtain ⟨b, es, c, h1, h2, h3⟩ := hob
          exact ⟨b, es, c, by rw [hsame j e]; exact h1, h2, h3⟩
        | itr ks cur =>
          obtain ⟨b, h1, h2⟩ := hob
          exact ⟨b, by rw [hsame j e]; exact h1, h2⟩
      · rw [hold hk]; exact hob
  · rw [og_op] at hj
    split at hj
    · rename_i e; subst e; rw [hself] at hb; exact hm b hb
    · rename_i e; rw [hsame j e] at hb; exact h.mine j p b hj hb
  · rw [og_op] at hj hj'
    split at hj
    · rename_i e; subst e
      rw [hself] at hb
      rw [if_neg (fun c => hne c.symm)] at hj'
      rw [hsame j' (fun c => hne c.symm)]
      exact hi j' p' b hj' (fun c => hne c.symm) hb
    · rename_i e
      rw [hsame j e] at hb
      split at hj'
      · rename_i e'; subst e'
        rw [hself]
        intro c
        exact hi j p b hj e c hb
      · rename_i e'
        rw [hsame j' e']
        exact h.inj j j' p p' b hj hj' hne hb

end
end Go.Sx

set_option linter.unusedVariables false
set_option linter.unusedSimpArgs false
namespace Go.Sx
open Go Go.RowKit

def AllT (l : List Bool) : Prop := ∀ b, b ∈ l → b = true
theorem AllT.nil : AllT [] := by simp [AllT]
theorem AllT_cons {b : Bool} {l : List Bool} : AllT (b :: l) ↔ b = true ∧ AllT l := by simp [AllT]
theorem AllT_append {l m : List Bool} : AllT (l ++ m) ↔ AllT l ∧ AllT m := by
  simp only [AllT, List.mem_append]
  exact ⟨fun h => ⟨fun b hb => h b (.inl hb), fun b hb => h b (.inr hb)⟩, fun h b hb => hb.elim (h.1 b) (h.2 b)⟩

theorem ltI_iff {x y : Int} : ltI x y = true ↔ x < y := by simp [ltI]
theorem leI_iff {x y : Int} : leI x y = true ↔ x ≤ y := by simp [leI]
theorem eqI_iff {x y : Int} : eqI x y = true ↔ x = y := by simp [eqI]
theorem neI_iff {x y : Int} : neI x y = true ↔ x ≠ y := by simp [neI]
theorem andB_iff {a b : Bool} : andB a b = true ↔ a = true ∧ b = true := by cases a <;> simp [andB]
theorem impB_iff {a b : Bool} : impB a b = true ↔ (a = true → b = true) := by cases a <;> simp [impB]
theorem notB_iff {a : Bool} : notB a = true ↔ a = false := by cases a <;> simp [notB]
theorem eqB_iff {a d : Bool} : eqB a d = true ↔ a = d := by cases a <;> cases d <;> simp [eqB, notB]

def EK.zero : EK → Value
  | .int => .int .i64 0
  | .bool => .bool false
  | .strc _ => .int .i64 0
  | .isl => .slice none 0 0

structure CtxOK (P : Program) (cx : Ctx) : Prop where
  sk : ∀ t ek, cx.sk t = some ek → ∃ e i z, P.underlying t = some (.slice e) ∧ P.info? e = some i ∧ i.size = ek.wid ∧ i.zero = some z ∧ 0 < i.bytes ∧ i.bytes ≤ 64 ∧ z.cells.size = ek.wid ∧
    (∀ j, j < ek.wid → z.cells[j]? = some ek.zero)
  vs : ∀ t ag n, cx.vs t = some (ag, n) → ∃ d i, P.underlying t = some d ∧ P.info? t = some i ∧ i.size = n ∧
    (match d with | .struct _ => ag = true | .array _ _ => ag = true | .interface _ => False | _ => ag = false ∧ n = 1)
  fo : ∀ s f off, cx.fo s f = some off → ∃ fs fl i, P.underlying s = some (.struct fs) ∧ fs[f]? = some fl ∧ fl.offset = off ∧ P.info? fl.type = some i ∧ i.size ≠ 0
  zr : ∀ t zs, cx.zr t = some zs → ∃ i z, P.info? t = some i ∧ i.zero = some z ∧ (∀ M ν, RL M ν zs z.cells.toList) ∧ AV.nmL zs = []
  ik : ∀ t k, cx.ik t = some k → P.underlying t = some (.int k)
  bd : ∀ t n, cx.bd t = some n → (∃ fs, P.underlying t = some (.struct fs) ∧ fs.size = n ∧ ∀ (i : Nat) (fl : Field), fs[i]? = some fl → fl.offset = i ∧ ∃ ti, P.info? fl.type = some ti ∧ ti.size = 1) ∨
    (∃ e ti, P.underlying t = some (.array n e) ∧ P.info? e = some ti ∧ ti.size = 1)
  wd : ∀ t ek, cx.sk t = some ek → ek.wid < 100000
  fs : ∀ f, f ∈ cx.fs → ∃ fn, P.funcs[f]? = some fn ∧ (fn.name == "runtime.NumGoroutine") = false ∧ fn.body.isSome = true
  mt : ∀ t m f p, cx.mt t m = some (f, p) → ∃ i me p' d, P.info? t = some i ∧ i.methods.find? (·.name == m) = some me ∧ me.path = #[] ∧ me.func = some (f, p') ∧ P.underlying t = some d ∧
    (p = true → match d with | .pointer _ => p' = true | _ => p' = false) ∧ (p = false → ∃ e, d = .pointer e ∧ p' = false ∧ ∃ n, cx.vs e = some (false, n))
  al : ∀ t n, cx.al t = some n → ∃ e i, P.underlying t = some (.array n e) ∧ P.info? e = some i ∧ i.size = 1 ∧ 2 ≤ n
  str : ∀ t, cx.str t = true → P.underlying t = some .string
  blt : ∀ t, cx.blt t = true → P.underlying t = some .bool
  es : ∀ t n, cx.es t = some n → ∃ fs, P.underlying t = some (.struct fs) ∧ fs.size = n ∧ P.stoodInHeld t = false ∧ P.eqGuardType P.depth t = false ∧
    ∀ (i : Nat) (fl : Field), fs[i]? = some fl → fl.offset = i ∧ (fl.name == "_") = false ∧ P.underlying fl.type = some (.int .i64)
  mpt : ∀ t, cx.mpt t = true → ∃ k e i, P.underlying t = some (.map k e) ∧ P.underlying k = some (.int .i64) ∧ P.info? e = some i ∧ i.zero = some (.bool false)

theorem run_und {P : Program} {t : TypeId} {d : TypeDesc} (h : P.underlying t = some d) (w : World) : (underlying t).run P w = .ok d w := run_underlying h w
theorem run_ti {P : Program} {t : TypeId} {i : TypeInfo} (h : P.info? t = some i) (w : World) : (typeInfo t).run P w = .ok i w := by simp [typeInfo, h]
theorem run_so {P : Program} {t : TypeId} {i : TypeInfo} (h : P.info? t = some i) (w : World) : (sizeOf t).run P w = .ok i.size w := by simp [sizeOf, run_ti h]
theorem run_zv {P : Program} {t : TypeId} {i : TypeInfo} {z : Value} (h : P.info? t = some i) (hz : i.zero = some z) (w : World) : (zeroValue t).run P w = .ok z w := by
  simp [zeroValue, run_ti h, hz]

section
variable {P : Program} {cx : Ctx} {M : Frz} {ν : Nms} {w : World} {g : Nat → Option Ob}

/-- The objects stand in the world. -/
def Obs (M : Frz) (ν : Nms) (w : World) (g : Nat → Option Ob) : Prop := ∀ k o, g k = some o → ObR M ν w k o

theorem sameK_eq {k k' : IntKind} (h : sameK k k' = true) : k = k' := by cases k <;> cases k' <;> simp [sameK] at h ⊢

theorem eqGuard_int (op : BinOp) (t : TypeId) (x y : Operand) (k : IntKind) (m : Int) (v : Value) : eqGuard op t x y (.int k m) v = pure () := eqGuard_at_int op t x y v k m

theorem binI_run {op : BinOp} {t : TypeId} {ox oy : Operand} {k k' : IntKind} {m n : Int} {r : AV} {o : List Bool} (h : binI op k k' m n = some (r, o)) (ho : AllT o) :
    ∃ v, (do eqGuard op t ox oy (.int k m) (.int k' n); binOp op t (.int k m) (.int k' n) : Sem Value).run P w = .ok v w ∧ R M ν r v := by
  rw [eqGuard_int]
  cases op <;> simp only [binI, reduceCtorEq] at h
  case shr =>
    simp only [Option.some.injEq, Prod.mk.injEq] at h
    obtain ⟨rfl, rfl⟩ := h
    have hn := leI_iff.1 (AllT_cons.1 ho).1
    refine ⟨.int k (shrI k m n), ?_, by simp [R]⟩
    have : ¬ n < 0 := by omega
    simp [binOp, Op.shift, this, shrI]
  all_goals
    cases hk : sameK k k' <;> rw [hk] at h <;> simp only [cond_true, cond_false, reduceCtorEq, Option.some.injEq, Prod.mk.injEq] at h
    obtain ⟨rfl, rfl⟩ := h
    have hkk := sameK_eq hk
    subst hkk
  case quo =>
    have hn : ¬ n = 0 := neI_iff.1 (AllT_cons.1 ho).1
    refine ⟨.int k (quoI k m n), ?_, by simp [R]⟩
    simp [binOp, Op.intDiv, hn, quoI]
  case rem =>
    have hn : ¬ n = 0 := neI_iff.1 (AllT_cons.1 ho).1
    refine ⟨.int k (remI m n), ?_, by simp [R]⟩
    simp [binOp, Op.intDiv, hn, remI]
  case xor =>
    refine ⟨.int k (xorI k m n), ?_, by simp [R]⟩
    simp only [binOp, Op.intBits, Sem.run_bind, Sem.run_pure, Result.andThen, xorI, BitVec.toNat_xor, BitVec.toNat_ofInt]
    rw [if_neg (by simp)]
    rfl
  case and =>
    refine ⟨.int k (andI k m n), ?_, by simp [R]⟩
    simp only [binOp, Op.intBits, Sem.run_bind, Sem.run_pure, Result.andThen, andI, BitVec.toNat_and, BitVec.toNat_ofInt]
    rw [if_neg (by simp)]
    rfl
  all_goals
    refine ⟨_, by simp [binOp, Op.intArith, Op.intCmp]; rfl, ?_⟩
    simp [R, addI, sbI, mulI, eqI, neI, ltI, leI]

theorem nilN_eq {nk : Option Bool} {d : SC} {r : Bool} {o : List Bool} {base : Option Addr} (h : nilN nk d = some (r, o)) (ho : AllT o)
    (hn : ∀ b, nk = some b → base.isSome = b) (hd : d.lenN ≠ 0 → base.isSome = true) : r = base.isNone := by
  cases nk with
  | some b =>
    simp [nilN] at h
    obtain ⟨rfl, rfl⟩ := h
    have := hn b rfl
    cases base <;> simp_all [notB]
  | none =>
    simp [nilN] at h
    obtain ⟨rfl, rfl⟩ := h
    have h1 := (AllT_cons.1 ho).1
    have : d.lenN ≠ 0 := by
      cases d <;> simp [SC.ne, nonE, SC.lenN] at h1 ⊢ <;> simpa using h1
    have := hd this
    cases base <;> simp_all

theorem nilA_run {a : AV} {x : Value} {r : Bool} {o : List Bool} (h : nilA g a = some (r, o)) (ho : AllT o) (hx : R M ν a x) (hob : Obs M ν w g) :
    ∃ base n c, x = .slice base n c ∧ r = base.isNone := by
  unfold nilA at h
  split at h
  · simp at h; obtain ⟨rfl, rfl⟩ := h
    simp only [R] at hx; subst hx
    exact ⟨none, 0, 0, rfl, rfl⟩
  · rename_i k
    cases hk : g k with
    | none => rw [hk] at h; cases h
    | some p =>
      rw [hk] at h
      cases p <;> simp only [reduceCtorEq] at h
      rename_i nk d
      obtain ⟨base, cap, h1, h2, h3⟩ := hob k _ hk
      simp only [R] at hx
      obtain ⟨hx, _⟩ := hx
      rw [h1] at hx; cases hx
      refine ⟨base, _, _, rfl, nilN_eq h ho h2 fun hd => ?_⟩
      rcases h3 with ⟨b, cs, e, rfl, _⟩ | ⟨_, h4, _⟩
      · rfl
      · exact absurd h4 hd
  · rename_i nk d
    simp only [R] at hx
    obtain ⟨base, cap, rfl, h2, h3⟩ := hx
    refine ⟨base, _, _, rfl, nilN_eq h ho h2 fun hd => ?_⟩
    rcases h3 with h4 | ⟨b, o', rfl, _⟩
    · exact absurd h4 hd
    · rfl
  · cases h

theorem eqGuard_slice (op : BinOp) (t : TypeId) (x y : Operand) (b : Option Addr) (n c : Nat) (v : Value) : eqGuard op t x y (.slice b n c) v = pure () := eqGuard_at_slice op t x y v b n c

theorem equal_slice_nil {t e : TypeId} (ht : P.underlying t = some (.slice e)) (base : Option Addr) (n c : Nat) :
    (Op.equal t (.slice base n c) (.slice none 0 0)).run P w = .ok base.isNone w := by
  unfold Op.equal Op.maxDepth
  rw [show (10000 : Nat) = 9999 + 1 from rfl]
  unfold Op.equalIn
  cases base <;> simp [run_und ht]

theorem run_part1 {t : TypeId} {k : IntKind} (hu : P.underlying t = some (.int k)) {xs : Array Value} {off : Nat} {v : Value} (hx : xs[off]? = some v) : (part t xs off).run P w = .ok v w := by
  simp [part, isAgg, run_und hu, hx, Result.andThen]
theorem ints_at {xs : List Int} {i : Nat} (h : i < xs.length) : ((xs.map (Value.int .i64)).toArray)[i]? = some (.int .i64 (xs.getD i 0)) := by
  simp [List.getD_eq_getElem?_getD, h]
theorem eqFields_ints {d : Nat} : ∀ (fs : List Field) (k : Nat) (us vs : List Int) (ax ay : Array Value),
    (∀ (i : Nat) (fl : Field), fs[i]? = some fl → fl.offset = k + i ∧ (fl.name == "_") = false ∧ P.underlying fl.type = some (.int .i64)) → us.length = fs.length → vs.length = fs.length →
    (∀ i, i < fs.length → ax[k + i]? = some (.int .i64 (us.getD i 0))) → (∀ i, i < fs.length → ay[k + i]? = some (.int .i64 (vs.getD i 0))) →
    (Op.eqFields (d + 1) ax ay fs).run P w = .ok (us == vs) w
  | [], k, us, vs, ax, ay, _, h1, h2, _, _ => by
    have e1 := List.eq_nil_of_length_eq_zero h1
    have e2 := List.eq_nil_of_length_eq_zero h2
    subst e1; subst e2
    simp [Op.eqFields]
  | f :: fs, k, [], vs, ax, ay, _, h1, h2, _, _ => by simp at h1
  | f :: fs, k, u :: us, [], ax, ay, _, h1, h2, _, _ => by simp at h2
  | f :: fs, k, u :: us, v :: vs, ax, ay, hf, h1, h2, hx, hy => by
    obtain ⟨q1, q2, q3⟩ := hf 0 f rfl
    have x0 := hx 0 (by simp)
    have y0 := hy 0 (by simp)
    have ih := eqFields_ints (d := d) fs (k + 1) us vs ax ay (fun i fl h => by
      have := hf (i + 1) fl (by simpa using h)
      exact ⟨by omega, this.2⟩) (by simpa using h1) (by simpa using h2) (fun i hi => by
      have := hx (i + 1) (by simp; omega)
      rw [show k + 1 + i = k + (i + 1) by omega, this]; simp) (fun i hi => by
      have := hy (i + 1) (by simp; omega)
      rw [show k + 1 + i = k + (i + 1) by omega, this]; simp)
    have q2' : ¬ f.name = "_" := fun e => by rw [e] at q2; simp at q2
    simp only [Nat.add_zero, List.getD_cons_zero] at q1 x0 y0
    subst q1
    simp only [Op.eqFields, if_pos q2', ne_eq, q2', not_false_eq_true, if_true, Sem.run_bind, run_part1 q3 x0, run_part1 q3 y0, Result.andThen_ok, run_equalIn_int w d f.type .i64 .i64 u v q3, Sem.run_ite]
    cases huv : (u == v) with
    | true => simp [huv, ih]
    | false => simp [huv]
theorem intsA_RL : ∀ {cs : List AV} {x : List Int} {vs : List Value}, intsA cs = some x → RL M ν cs vs → vs = x.map (Value.int .i64)
  | [], x, vs, h, e => by simp [intsA] at h; simp [RL] at e; subst h e; rfl
  | a :: l, x, vs, h, e => by
    simp only [intsA] at h
    cases ha : intA a with
    | none => rw [ha] at h; cases h
    | some n =>
      rw [ha] at h
      cases hl : intsA l with
      | none => rw [hl] at h; cases h
      | some ns =>
        rw [hl] at h
        simp only [Option.some.injEq] at h
        subst h
        simp only [RL] at e
        obtain ⟨v, vs', rfl, e1, e2⟩ := e
        have := intsA_RL hl e2
        subst this
        unfold intA at ha
        split at ha
        · cases ha; simp only [R] at e1; subst e1; rfl
        · cases ha
theorem binA_run (hc : CtxOK P cx) {op : BinOp} {t : TypeId} {ox oy : Operand} {a b r : AV} {x y : Value} {o : List Bool} (h : binA cx g op t a b = some (r, o)) (ho : AllT o)
    (hx : R M ν a x) (hy : R M ν b y) (hob : Obs M ν w g) :
    ∃ v, (do eqGuard op t ox oy x y; binOp op t x y : Sem Value).run P w = .ok v w ∧ R M ν r v := by
  unfold binA at h
  split at h
  · rename_i k' n
    simp only [R] at hy; subst hy
    split at h
    · rename_i k m
      simp only [R] at hx; subst hx
      exact binI_run h ho
    · cases h
  · rename_i yb
    simp only [R] at hy; subst hy
    split at h
    · rename_i xb
      simp only [R] at hx; subst hx
      cases hb : cx.blt t <;> rw [hb] at h <;> simp only [cond_true, cond_false, reduceCtorEq] at h
      have hu := hc.blt t hb
      have he : (Op.equal t (.bool xb) (.bool yb)).run P w = .ok (xb == yb) w := by
        have hk : Op.maxDepth = (Op.maxDepth - 1) + 1 := rfl
        unfold Op.equal
        rw [hk, Op.equalIn]
        simp only [Sem.run_bind, run_und hu, Result.andThen, Sem.run_pure]
      rw [eqGuard_at_bool]
      cases op <;> simp only [nilB, reduceCtorEq, Option.some.injEq, Prod.mk.injEq] at h
      · obtain ⟨rfl, rfl⟩ := h
        exact ⟨.bool (xb == yb), by simp [binOp, he, Result.andThen], by cases xb <;> cases yb <;> simp [R, eqB, notB]⟩
      · obtain ⟨rfl, rfl⟩ := h
        exact ⟨.bool (!(xb == yb)), by simp [binOp, he, Result.andThen], by cases xb <;> cases yb <;> simp [R, eqB, notB]⟩
    · cases h
  · simp only [R] at hy; subst hy
    split at h
    · rename_i ek r' o' hsk hnil
      obtain ⟨e, i, z, ht, _⟩ := hc.sk t ek hsk
      have ho' : AllT o' := by
        cases op <;> simp only [nilB, reduceCtorEq, Option.some.injEq, Prod.mk.injEq] at h <;> (obtain ⟨rfl, rfl⟩ := h; exact ho)
      obtain ⟨base, n, c, rfl, rfl⟩ := nilA_run hnil ho' hx hob
      rw [eqGuard_slice]
      cases op <;> simp only [nilB, reduceCtorEq, Option.some.injEq, Prod.mk.injEq] at h
      · obtain ⟨rfl, rfl⟩ := h
        exact ⟨.bool base.isNone, by simp [binOp, equal_slice_nil ht], by simp [R]⟩
      · obtain ⟨rfl, rfl⟩ := h
        refine ⟨.bool (!base.isNone), by simp [binOp, equal_slice_nil ht], by cases base <;> simp [R, notB]⟩
    · cases h
  · rename_i ds
    split at h
    · rename_i cs
      split at h
      · rename_i n xs ys hn hxs hys
        cases hb : andB (Nat.beq xs.length n) (Nat.beq ys.length n) <;> rw [hb] at h <;> simp only [cond_true, cond_false, reduceCtorEq] at h
        obtain ⟨b1, b2⟩ := andB_iff.1 hb
        have b1 : xs.length = n := Nat.eq_of_beq_eq_true b1
        have b2 : ys.length = n := Nat.eq_of_beq_eq_true b2
        obtain ⟨fs, q1, q2, q3, q4, q5⟩ := hc.es t n hn
        simp only [R] at hx hy
        obtain ⟨vs, rfl, hvs⟩ := hx
        obtain ⟨us, rfl, hus⟩ := hy
        have e1 := intsA_RL hxs hvs
        have e2 := intsA_RL hys hus
        subst e1
        subst e2
        have hfo : P.fieldsOf t = fs := by simp [Program.fieldsOf, q1]
        have he : (Op.equal t (.agg (xs.map (Value.int .i64)).toArray) (.agg (ys.map (Value.int .i64)).toArray)).run P w = .ok (xs == ys) w := by
          unfold Op.equal
          rw [show Op.maxDepth = 9998 + 1 + 1 from rfl, run_equalIn_struct w _ t _ _ (by rw [hfo]; exact q1) q3, hfo]
          refine eqFields_ints fs.toList 0 xs ys _ _ (fun i fl hi => by
            have := q5 i fl (by simpa using hi)
            exact ⟨by omega, this.2⟩) (by simp [b1, q2]) (by simp [b2, q2]) (fun i hi => ?_) (fun i hi => ?_)
          · rw [Nat.zero_add]; exact ints_at (by simp at hi; omega)
          · rw [Nat.zero_add]; exact ints_at (by simp at hi; omega)
        cases op <;> simp only [nilB, reduceCtorEq, Option.some.injEq, Prod.mk.injEq] at h
        · obtain ⟨rfl, rfl⟩ := h
          exact ⟨.bool (xs == ys), by simp [eqGuard, q4, binOp, he, Result.andThen], by simp [R, eqLI]⟩
        · obtain ⟨rfl, rfl⟩ := h
          exact ⟨.bool (!(xs == ys)), by simp [eqGuard, q4, binOp, he, Result.andThen], by simp [R, eqLI, notB]⟩
      · cases h
    · cases h
  · cases h

end
end Go.Sx

set_option linter.unusedVariables false
set_option linter.unusedSimpArgs false
namespace Go.Sx
open Go Go.RowKit

theorem len_eq (d : SC) : d.len = (d.lenN : Int) := by cases d <;> rfl
theorem ek_wid (d : SC) : d.ek.wid = d.wid := by cases d <;> rfl
theorem same_eq {a b : EK} (h : a.same b = true) : a = b := by
  cases a <;> cases b <;> simp [EK.same] at h ⊢
  exact h

section
variable {P : Program} {cx : Ctx} {M : Frz} {ν : Nms} {w : World} {g : Nat → Option Ob}

theorem add0 (b o n : Nat) : (⟨b, o, none⟩ : Addr).add n = ⟨b, o + n, none⟩ := Addr.add_lit b o n

theorem indexAt_slice {t e : TypeId} {i : TypeInfo} (ht : P.underlying t = some (.slice e)) (hi : P.info? e = some i) {a : Addr} {n c : Nat} {j : Int} (h0 : 0 ≤ j) (h1 : j < n) :
    (Instr.indexAt t (.slice (some a) n c) (.int .i64 j)).run P w = .ok (.pointer (some (a.add (j.toNat * i.size)))) w := by
  simp [Instr.indexAt, asIntOf, run_und ht, run_so hi, h0, h1]

theorem indexA_run (hc : CtxOK P cx) {t : TypeId} {ek : EK} {a r : AV} {x : Value} {j : Int} {o : List Bool} (hsk : cx.sk t = some ek) (h : indexA g ek a j = some (r, o)) (ho : AllT o)
    (hx : R M ν a x) (hob : Obs M ν w g) : ∃ v, (Instr.indexAt t x (.int .i64 j)).run P w = .ok v w ∧ R M ν r v := by
  obtain ⟨e, i, z, ht, hi, hs, _⟩ := hc.sk t ek hsk
  unfold indexA at h
  split at h
  · rename_i k
    cases hk : g k with
    | none => rw [hk] at h; cases h
    | some p =>
      rw [hk] at h
      cases p <;> simp only [reduceCtorEq] at h
      rename_i nk d
      cases hsame : ek.same d.ek <;> rw [hsame] at h <;> simp only [cond_true, cond_false, reduceCtorEq, Option.some.injEq, Prod.mk.injEq] at h
      obtain ⟨rfl, rfl⟩ := h
      have hek := same_eq hsame; subst hek
      rw [ek_wid] at hs
      have h1 := leI_iff.1 (AllT_cons.1 ho).1
      have h2 := ltI_iff.1 (AllT_cons.1 (AllT_cons.1 ho).2).1
      rw [len_eq] at h2
      obtain ⟨base, cap, hν, hn, hcase⟩ := hob k _ hk
      simp only [R] at hx
      obtain ⟨hx, _⟩ := hx
      rw [hν] at hx; cases hx
      rcases hcase with ⟨b, cs, t', rfl, hh, hr, hcap, hsz⟩ | ⟨rfl, hz, rfl⟩
      · refine ⟨_, indexAt_slice ht hi h1 h2, ?_⟩
        rw [hs, add0]
        simp only [R]
        exact ⟨b, _, _, hν, h1, h2, by simp⟩
      · omega
  · rename_i nk d
    cases hsame : ek.same d.ek <;> rw [hsame] at h <;> simp only [cond_true, cond_false, reduceCtorEq, Option.some.injEq, Prod.mk.injEq] at h
    obtain ⟨rfl, rfl⟩ := h
    have hek := same_eq hsame; subst hek
    rw [ek_wid] at hs
    have h1 := leI_iff.1 (AllT_cons.1 ho).1
    have h2 := ltI_iff.1 (AllT_cons.1 (AllT_cons.1 ho).2).1
    rw [len_eq] at h2
    simp only [R] at hx
    obtain ⟨base, cap, rfl, hn, hcase⟩ := hx
    rcases hcase with hz | ⟨b, o', rfl, hcap, hr⟩
    · omega
    · refine ⟨_, indexAt_slice ht hi h1 h2, ?_⟩
      rw [hs, add0]
      simp only [R]
      exact ⟨b, o', by simp, hr, h1, h2⟩
  · rename_i k wd lo hi'
    cases hw : Nat.beq ek.wid wd <;> rw [hw] at h <;> simp only [cond_true, cond_false, reduceCtorEq, Option.some.injEq, Prod.mk.injEq] at h
    obtain ⟨rfl, rfl⟩ := h
    have hwd := beqT.1 hw
    have h1 := leI_iff.1 (AllT_cons.1 ho).1
    have h2 := ltI_iff.1 (AllT_cons.1 (AllT_cons.1 ho).2).1
    simp only [R] at hx
    obtain ⟨base, base', n, cap, hν, hb, hl0, hl1, hl2, hl3, rfl, hsome, hbase, hzb⟩ := hx
    obtain ⟨b, rfl⟩ := hb (by omega)
    have hb' := hbase (by omega)
    subst hb'
    refine ⟨_, indexAt_slice ht hi h1 (by omega), ?_⟩
    simp only [R]
    refine ⟨b, n, cap, hν, by omega, by omega, ?_⟩
    rw [hs, add0, hwd]
    have : (lo + j).toNat = lo.toNat + j.toNat := by omega
    simp [this, Nat.add_mul]
  · cases h

theorem fieldA_run (hc : CtxOK P cx) {s f off : Nat} {a r : AV} {x : Value} (hf : cx.fo s f = some off) (h : fieldA a off = some r) (hx : R M ν a x) :
    ∃ v, (Instr.fieldAt s x f).run P w = .ok v w ∧ R M ν r v := by
  obtain ⟨fs, fl, i, hu, hfl, rfl, hi, hsz⟩ := hc.fo s f off hf
  have hrun : ∀ b o : Nat, (Instr.fieldAt s (.pointer (some ⟨b, o, none⟩)) f).run P w = .ok (.pointer (some ⟨b, o + fl.offset, none⟩)) w := by
    intro b o
    simp [Instr.fieldAt, run_und hu, hfl, Instr.sureAddr, fieldPlace, run_so hi, hsz, add0]
  unfold fieldA at h
  split at h <;> simp only [reduceCtorEq, Option.some.injEq] at h <;> subst h <;> simp only [R] at hx
  · obtain ⟨b, hν, rfl⟩ := hx
    exact ⟨_, hrun _ _, by simp only [R]; exact ⟨b, hν, rfl⟩⟩
  · obtain ⟨b, n, cap, hν, h0, h1, rfl⟩ := hx
    exact ⟨_, hrun _ _, by simp only [R]; exact ⟨b, n, cap, hν, h0, h1, by simp [Nat.add_assoc]⟩⟩
  · obtain ⟨b, o, rfl, hr, h0, h1⟩ := hx
    exact ⟨_, hrun _ _, by simp only [R]; exact ⟨b, o, by simp [Nat.add_assoc], hr, h0, h1⟩⟩
  · obtain ⟨b, vs, e, fr, rfl, hb, hl⟩ := hx
    exact ⟨_, hrun _ _, by simp only [R]; exact ⟨b, vs, e, fr, rfl, hb, hl⟩⟩

theorem lenA_run (hc : CtxOK P cx) {t : TypeId} {ts : Array TypeId} {ty : TypeId} {ek : EK} {a : AV} {x : Value} {n : Int} (hsk : cx.sk t = some ek) (h0 : ts[0]? = some t) (h : lenA g a = some n)
    (hx : R M ν a x) (hob : Obs M ν w g) : (Builtin.len_ ts ty #[x]).run P w = .ok (.int .i64 n) w := by
  obtain ⟨e, i, z, ht, _⟩ := hc.sk t ek hsk
  have hrun : ∀ (b : Option Addr) (m c : Nat), (Builtin.len_ ts ty #[.slice b m c]).run P w = .ok (.int .i64 m) w := by
    intro b m c
    simp [Builtin.len_, h0, run_und ht, goInt]
  unfold lenA at h
  split at h
  · simp only [Option.some.injEq] at h; subst h
    simp only [R] at hx; subst hx
    exact hrun _ _ _
  · simp only [Option.some.injEq] at h; subst h
    simp only [R] at hx
    obtain ⟨base, cap, rfl, _⟩ := hx
    rw [len_eq]; exact hrun _ _ _
  · rename_i k
    cases hk : g k with
    | none => rw [hk] at h; cases h
    | some p =>
      rw [hk] at h
      cases p <;> simp only [reduceCtorEq, Option.some.injEq] at h
      subst h
      obtain ⟨base, cap, hν, _⟩ := hob k _ hk
      simp only [R] at hx
      obtain ⟨hx, _⟩ := hx
      rw [hν] at hx; cases hx
      rw [len_eq]; exact hrun _ _ _
  · simp only [Option.some.injEq] at h; subst h
    simp only [R] at hx
    obtain ⟨base, base', n, cap, hν, hb, hl0, hl1, hl2, hl3, rfl, _⟩ := hx
    rw [hrun]
    congr 2
    omega
  · cases h

/-! ### x[lo:hi] -/
theorem run_slice {t e : TypeId} {i : TypeInfo} (ht : P.underlying t = some (.slice e)) (hi : P.info? e = some i) {a : Option Addr} {n c : Nat} {low high : Option Value} {lo hi' : Nat}
    (hlow : (low = none ∧ lo = 0) ∨ low = some (.int .i64 lo)) (hhigh : (high = none ∧ hi' = n) ∨ high = some (.int .i64 hi')) (h1 : lo ≤ hi') (h2 : hi' ≤ c) :
    (Instr.sliceAt t (.slice a n c) low high none).run P w = .ok (.slice (if c = lo then a else a.map (·.add (lo * i.size))) (hi' - lo) (c - lo)) w := by
  have e1 : ((hi' : Nat) : Int) ≤ c := by omega
  have e2 : ((lo : Nat) : Int) ≤ hi' := by omega
  rcases hlow with ⟨rfl, rfl⟩ | rfl <;> rcases hhigh with ⟨rfl, rfl⟩ | rfl <;>
    simp [Instr.sliceAt, Instr.slice, run_und ht, Instr.sliceBounds, Instr.sliceBound, asIntOf, run_so hi, h1, h2, e1, e2]

theorem run_slice3 {t e : TypeId} {i : TypeInfo} (ht : P.underlying t = some (.slice e)) (hi : P.info? e = some i) {a : Option Addr} {n c : Nat} {lo h m : Nat} (h1 : lo ≤ h) (h2 : h ≤ m) (h3 : m ≤ c) :
    ∃ v, (Instr.sliceAt t (.slice a n c) (some (.int .i64 lo)) (some (.int .i64 h)) (some (.int .i64 m))).run P w = .ok v w := by
  have e1 : ((lo : Nat) : Int) ≤ h := by omega
  have e2 : ((h : Nat) : Int) ≤ m := by omega
  have e3 : ((m : Nat) : Int) ≤ c := by omega
  refine ⟨_, by
    simp [Instr.sliceAt, Instr.slice, run_und ht, Instr.sliceBounds, Instr.sliceBound, asIntOf, run_so hi, h1, h2, h3, e1, e2, e3]
    rfl⟩
theorem slice3A_run (hc : CtxOK P cx) {t : TypeId} {ek : EK} {k : Nat} {r : AV} {x : Value} {l h m : Int} {o : List Bool} (hsk : cx.sk t = some ek) (hs : slice3A g ek k l h m = some (r, o)) (ho : AllT o)
    (hx : R M ν (.own k) x) (hob : Obs M ν w g) : ∃ v, (Instr.sliceAt t x (some (.int .i64 l)) (some (.int .i64 h)) (some (.int .i64 m))).run P w = .ok v w ∧ R M ν r v := by
  obtain ⟨e, i, z, ht, hi', _⟩ := hc.sk t ek hsk
  unfold slice3A at hs
  cases hk : g k with
  | none => rw [hk] at hs; cases hs
  | some p =>
    rw [hk] at hs
    cases p <;> simp only [reduceCtorEq, Option.some.injEq, Prod.mk.injEq] at hs
    rename_i nk d
    obtain ⟨rfl, rfl⟩ := hs
    have h0 : 0 ≤ l := leI_iff.1 (ho (leI 0 l) (by simp))
    have h1 : l ≤ h := leI_iff.1 (ho (leI l h) (by simp))
    have h2 : h ≤ m := leI_iff.1 (ho (leI h m) (by simp))
    have h3 : m ≤ d.len := leI_iff.1 (ho (leI m d.len) (by simp))
    rw [len_eq] at h3
    obtain ⟨base, cap, hν, hn, hcase⟩ := hob k _ hk
    simp only [R] at hx
    obtain ⟨hx, _⟩ := hx
    rw [hν] at hx; cases hx
    have hcap : d.lenN ≤ cap := by
      rcases hcase with ⟨_, _, _, _, _, _, hcap, _⟩ | ⟨_, h4, h5⟩
      · exact hcap
      · omega
    obtain ⟨v, hv⟩ := run_slice3 (P := P) (w := w) ht hi' (a := base) (n := d.lenN) (c := cap) (lo := l.toNat) (h := h.toNat) (m := m.toNat) (by omega) (by omega) (by omega)
    have z1 : ((l.toNat : Nat) : Int) = l := Int.toNat_of_nonneg h0
    have z2 : ((h.toNat : Nat) : Int) = h := Int.toNat_of_nonneg (by omega)
    have z3 : ((m.toNat : Nat) : Int) = m := Int.toNat_of_nonneg (by omega)
    rw [z1, z2, z3] at hv
    exact ⟨v, hv, by simp [R]⟩
theorem toNatI {i : Int} (h : 0 ≤ i) : ((i.toNat : Nat) : Int) = i := Int.toNat_of_nonneg h

theorem subL_length {α : Type} (xs : List α) {lo hi : Int} (h0 : 0 ≤ lo) (h1 : lo ≤ hi) (h2 : hi ≤ xs.length) : (subL xs lo hi).length = (hi - lo).toNat := by
  simp [subL]; omega
theorem subL_getD {α : Type} (xs : List α) {lo hi : Int} (z : α) (h0 : 0 ≤ lo) {i : Nat} (h : i < (hi - lo).toNat) : (subL xs lo hi).getD i z = xs.getD (lo.toNat + i) z := by
  simp [subL, List.getD_eq_getElem?_getD, List.getElem?_take, h]
theorem sub_wid (d : SC) (lo hi : Int) : (d.sub lo hi).wid = d.wid := by cases d <;> rfl
theorem sub_ek (d : SC) (lo hi : Int) : (d.sub lo hi).ek = d.ek := by cases d <;> rfl
theorem sub_lenN (d : SC) {lo hi : Int} (h0 : 0 ≤ lo) (h1 : lo ≤ hi) (h2 : hi ≤ d.lenN) : (d.sub lo hi).lenN = (hi - lo).toNat := by
  cases d <;> exact subL_length _ h0 h1 h2
theorem RowC.sub {d : SC} {g' : Nat → Option Value} (h : RowC M d g') {lo hi : Int} (h0 : 0 ≤ lo) (h1 : lo ≤ hi) (h2 : hi ≤ d.lenN) :
    RowC M (d.sub lo hi) (fun j => g' (lo.toNat * d.wid + j)) := by
  cases d with
  | i1 xs =>
    intro i hi'
    rw [subL_length xs h0 h1 h2] at hi'
    rw [subL_getD xs 0 h0 hi']
    simp only [SC.lenN] at h2
    simpa [SC.wid] using h (lo.toNat + i) (by omega)
  | b1 xs =>
    intro i hi'
    rw [subL_length xs h0 h1 h2] at hi'
    rw [subL_getD xs false h0 hi']
    simp only [SC.lenN] at h2
    simpa [SC.wid] using h (lo.toNat + i) (by omega)
  | st wd xs =>
    intro i f hi' hf
    rw [subL_length xs h0 h1 h2] at hi'
    rw [subL_getD xs [] h0 hi']
    simp only [SC.lenN] at h2
    have := h (lo.toNat + i) f (by omega) hf
    rw [← this]
    simp [SC.wid, Nat.add_mul, Nat.add_assoc]
  | rows xs =>
    intro i hi'
    rw [subL_length xs h0 h1 h2] at hi'
    rw [subL_getD xs [] h0 hi']
    simp only [SC.lenN] at h2
    simpa [SC.wid] using h (lo.toNat + i) (by omega)

theorem sliceA_run (hc : CtxOK P cx) {t : TypeId} {ek : EK} {a r : AV} {x : Value} {lo : Int} {hi : Option Int} {low high : Option Value} {o : List Bool} (hsk : cx.sk t = some ek)
    (h : sliceA g ek a lo hi = some (r, o)) (ho : AllT o) (hx : R M ν a x) (hob : Obs M ν w g)
    (hlow : (low = none ∧ lo = 0) ∨ low = some (.int .i64 lo)) (hhigh : (high = none ∧ hi = none) ∨ ∃ h, hi = some h ∧ high = some (.int .i64 h)) :
    ∃ v, (Instr.sliceAt t x low high none).run P w = .ok v w ∧ R M ν r v := by
  obtain ⟨e, i, z, ht, hi', hs, _⟩ := hc.sk t ek hsk
  -- the bounds as natural numbers
  have hlow' : 0 ≤ lo → (low = none ∧ lo.toNat = 0) ∨ low = some (.int .i64 (lo.toNat : Nat)) := by
    intro h0
    rcases hlow with ⟨rfl, rfl⟩ | rfl
    · exact .inl ⟨rfl, rfl⟩
    · exact .inr (by rw [toNatI h0])
  have hhigh' : ∀ n : Nat, hi = none → (high = none ∧ n = n) ∨ high = some (.int .i64 (n : Nat)) := by
    intro n hn
    rcases hhigh with ⟨rfl, _⟩ | ⟨h', e1, _⟩
    · exact .inl ⟨rfl, rfl⟩
    · rw [hn] at e1; cases e1
  have hhigh'' : ∀ (n : Nat) (h' : Int), hi = some h' → 0 ≤ h' → (high = none ∧ h'.toNat = n) ∨ high = some (.int .i64 (h'.toNat : Nat)) := by
    intro n h' hn h0
    rcases hhigh with ⟨_, e1⟩ | ⟨h'', e1, e2⟩
    · rw [hn] at e1; cases e1
    · rw [hn] at e1; cases e1; exact .inr (by rw [e2, toNatI h0])
  -- of an object's whole row
  have whole : ∀ (k : Nat) (d : SC) (l q : Int), g k = some (.arr none d) ∨ (∃ nk, g k = some (.arr nk d)) → R M ν (.own k) x → ek = d.ek → 0 ≤ l → l ≤ q → q ≤ d.len → l = lo →
      ((high = none ∧ q = d.len) ∨ (hi = some q)) → ∃ v, (Instr.sliceAt t x low high none).run P w = .ok v w ∧ R M ν (.sub k d.wid l q) v := by
    intro k d l q hg hx hek h0 h1 h2 hl hh
    obtain ⟨nk, hk⟩ : ∃ nk, g k = some (.arr nk d) := by rcases hg with hg | hg; exact ⟨_, hg⟩; exact hg
    subst hek hl
    rw [ek_wid] at hs
    rw [len_eq] at h2
    obtain ⟨base, cap, hν, hn, hcase⟩ := hob k _ hk
    simp only [R] at hx
    obtain ⟨hx, _⟩ := hx
    rw [hν] at hx; cases hx
    have hcap : d.lenN ≤ cap := by
      rcases hcase with ⟨_, _, _, _, _, _, hcap, _⟩ | ⟨_, h4, h5⟩
      · exact hcap
      · omega
    have hb : d.lenN ≠ 0 → ∃ b, base = some ⟨b, 0, none⟩ := by
      intro hne
      rcases hcase with ⟨b, _, _, rfl, _⟩ | ⟨_, h4, _⟩
      · exact ⟨b, rfl⟩
      · exact absurd h4 hne
    have hhi : (high = none ∧ q.toNat = d.lenN) ∨ high = some (.int .i64 (q.toNat : Nat)) := by
      rcases hh with ⟨rfl, rfl⟩ | hh
      · exact .inl ⟨rfl, by rw [len_eq]; rfl⟩
      · exact hhigh'' d.lenN q hh (by omega)
    refine ⟨_, run_slice ht hi' (hlow' h0) hhi (by omega) (by omega), ?_⟩
    simp only [R]
    refine ⟨base, (if cap = l.toNat then base else base.map (·.add (l.toNat * i.size))), d.lenN, cap, hν, hb, h0, h1, h2, hcap, by congr 1; omega, ?_, ?_, ?_⟩
    rotate_left 2
    · intro hl0
      split
      · rfl
      · cases base <;> simp [hl0, Addr.add]
    · split <;> simp
    · intro hlt
      rw [if_neg (by omega), hs]
      rcases hcase with ⟨b, _, _, rfl, _⟩ | ⟨rfl, _, _⟩
      · simp [add0]
      · rfl
  unfold sliceA at h
  split at h
  · simp only [R] at hx; subst hx
    cases hi with
    | none =>
      simp only [Option.some.injEq, Prod.mk.injEq] at h
      obtain ⟨rfl, rfl⟩ := h
      have h0 := eqI_iff.1 (AllT_cons.1 ho).1
      subst h0
      refine ⟨_, run_slice ht hi' (hlow' (by omega)) (hhigh' 0 rfl) (by simp) (by simp), by simp [R]⟩
    | some h' =>
      simp only [Option.some.injEq, Prod.mk.injEq] at h
      obtain ⟨rfl, rfl⟩ := h
      have h0 := eqI_iff.1 (AllT_cons.1 ho).1
      have h1 := eqI_iff.1 (AllT_cons.1 (AllT_cons.1 ho).2).1
      subst h0 h1
      refine ⟨_, run_slice ht hi' (hlow' (by omega)) (hhigh'' 0 0 rfl (by omega)) (by simp) (by simp), by simp [R]⟩
  · rename_i nk d
    cases hsame : ek.same d.ek <;> rw [hsame] at h <;> simp only [cond_true, cond_false, reduceCtorEq] at h
    have hek := same_eq hsame; subst hek
    rw [ek_wid] at hs
    simp only [R] at hx
    obtain ⟨base, cap, rfl, hn, hcase⟩ := hx
    have fin : ∀ h : Int, 0 ≤ lo → lo ≤ h → h ≤ d.len → ((high = none ∧ h = d.len) ∨ hi = some h) →
        ∃ v, (Instr.sliceAt t (.slice base d.lenN cap) low high none).run P w = .ok v w ∧ R M ν (.sl none (d.sub lo h)) v := by
      intro h h0 h1 h2 hh
      rw [len_eq] at h2
      have hhi : (high = none ∧ h.toNat = d.lenN) ∨ high = some (.int .i64 (h.toNat : Nat)) := by
        rcases hh with ⟨rfl, rfl⟩ | hh
        · exact .inl ⟨rfl, by rw [len_eq]; rfl⟩
        · exact hhigh'' d.lenN h hh (by omega)
      have hle : h.toNat ≤ cap := by
        rcases hcase with hz | ⟨b, o', rfl, hcap, hr⟩ <;> omega
      refine ⟨_, run_slice ht hi' (hlow' h0) hhi (by omega) hle, ?_⟩
      simp only [R]
      refine ⟨_, cap - lo.toNat, by rw [sub_lenN d h0 h1 h2]; congr 1; omega, (fun b hb => by cases hb), ?_⟩
      by_cases hz' : lo = h
      · exact .inl (by rw [sub_lenN d h0 h1 h2]; omega)
      · rcases hcase with hz | ⟨b, o', rfl, hcap, hr⟩
        · omega
        · refine .inr ⟨b, o' + lo.toNat * d.wid, ?_, by rw [sub_lenN d h0 h1 h2]; omega, ?_⟩
          · rw [if_neg (by omega), hs]; simp [add0]
          · have := hr.sub h0 h1 h2
            simpa [Nat.add_assoc] using this
    cases hi with
    | none =>
      simp only [Option.some.injEq, Prod.mk.injEq] at h
      obtain ⟨rfl, rfl⟩ := h
      have h0 := leI_iff.1 (AllT_cons.1 ho).1
      have h1 := leI_iff.1 (AllT_cons.1 (AllT_cons.1 ho).2).1
      refine fin d.len h0 h1 (Int.le_refl _) ?_
      rcases hhigh with ⟨rfl, _⟩ | ⟨h', e1, _⟩
      · exact .inl ⟨rfl, rfl⟩
      · cases e1
    | some h' =>
      simp only [Option.some.injEq, Prod.mk.injEq] at h
      obtain ⟨rfl, rfl⟩ := h
      simp only [AllT_cons] at ho
      exact fin h' (leI_iff.1 ho.1) (leI_iff.1 ho.2.1) (leI_iff.1 ho.2.2.1) (.inr rfl)
  · rename_i k
    cases hk : g k with
    | none => rw [hk] at h; cases h
    | some p =>
      rw [hk] at h
      cases p <;> simp only [reduceCtorEq] at h
      rename_i nk d
      cases hsame : ek.same d.ek <;> rw [hsame] at h <;> simp only [cond_true, cond_false, reduceCtorEq] at h
      cases hi with
      | none =>
        simp only [Option.some.injEq, Prod.mk.injEq] at h
        obtain ⟨rfl, rfl⟩ := h
        simp only [AllT_cons] at ho
        refine whole k d lo d.len (.inr ⟨nk, hk⟩) hx (same_eq hsame) (leI_iff.1 ho.1) (leI_iff.1 ho.2.1) (Int.le_refl _) rfl ?_
        rcases hhigh with ⟨rfl, _⟩ | ⟨h', e1, _⟩
        · exact .inl ⟨rfl, rfl⟩
        · cases e1
      | some h' =>
        simp only [Option.some.injEq, Prod.mk.injEq] at h
        obtain ⟨rfl, rfl⟩ := h
        simp only [AllT_cons] at ho
        exact whole k d lo h' (.inr ⟨nk, hk⟩) hx (same_eq hsame) (leI_iff.1 ho.1) (leI_iff.1 ho.2.1) (leI_iff.1 ho.2.2.1) rfl (.inr rfl)
  · rename_i k wd l h'
    cases hk : g k with
    | none => rw [hk] at h; cases h
    | some p =>
      rw [hk] at h
      cases p <;> simp only [reduceCtorEq] at h
      rename_i nk d
      cases hand : andB (ek.same d.ek) (Nat.beq wd d.wid) <;> rw [hand] at h <;> simp only [cond_true, cond_false, reduceCtorEq] at h
      obtain ⟨hsame, hwd⟩ := andB_iff.1 hand
      have hwd := beqT.1 hwd
      have hek := same_eq hsame; subst hek
      rw [ek_wid] at hs
      simp only [R] at hx
      obtain ⟨base, base', n, cap, hν, hb, hl0, hl1, hl2, hl3, rfl, hsome, hbase, hzb⟩ := hx
      have hnd : n = d.lenN := by
        obtain ⟨base2, cap2, hν2, _⟩ := hob k _ hk
        rw [hν] at hν2; cases hν2; rfl
      have fin : ∀ h2 : Int, 0 ≤ lo → lo ≤ h2 → l + h2 ≤ n → ((high = none ∧ h2 = h' - l) ∨ hi = some h2) →
          ∃ v, (Instr.sliceAt t (.slice base' (h' - l).toNat (cap - l.toNat)) low high none).run P w = .ok v w ∧ R M ν (.sub k wd (l + lo) (l + h2)) v := by
        intro h2 h0 h1 h3 hh
        have hhi : (high = none ∧ h2.toNat = (h' - l).toNat) ∨ high = some (.int .i64 (h2.toNat : Nat)) := by
          rcases hh with ⟨rfl, rfl⟩ | hh
          · exact .inl ⟨rfl, rfl⟩
          · exact hhigh'' _ h2 hh (by omega)
        refine ⟨_, run_slice ht hi' (hlow' h0) hhi (by omega) (by omega), ?_⟩
        simp only [R]
        refine ⟨base, _, n, cap, hν, hb, by omega, by omega, h3, hl3, by congr 1 <;> omega, ?_, ?_, ?_⟩
        rotate_left 2
        · intro hz
          have hl : l = 0 := by omega
          have hlo' : lo = 0 := by omega
          rw [hzb hl]
          split
          · rfl
          · cases base <;> simp [hlo', Addr.add]
        · split
          · exact hsome
          · simpa using hsome
        · intro hlt
          rw [if_neg (by omega), hbase (by omega), hs, hwd]
          have : (l + lo).toNat = l.toNat + lo.toNat := by omega
          cases base <;> simp [add0, this, Nat.add_mul, Nat.add_assoc]
      cases hi with
      | none =>
        simp only [Option.some.injEq, Prod.mk.injEq] at h
        obtain ⟨rfl, rfl⟩ := h
        simp only [AllT_cons] at ho
        have h0 := leI_iff.1 ho.1
        have h1 := leI_iff.1 ho.2.1
        have hh : (high = none ∧ h' - l = h' - l) ∨ (none : Option Int) = some (h' - l) := by
          rcases hhigh with ⟨rfl, _⟩ | ⟨h'', e1, _⟩
          · exact .inl ⟨rfl, rfl⟩
          · cases e1
        have := fin (h' - l) h0 h1 (by omega) hh
        rwa [show l + (h' - l) = h' from by omega] at this
      | some h2 =>
        simp only [Option.some.injEq, Prod.mk.injEq] at h
        obtain ⟨rfl, rfl⟩ := h
        simp only [AllT_cons] at ho
        have h3 := leI_iff.1 ho.2.2.1
        rw [len_eq] at h3
        exact fin h2 (leI_iff.1 ho.1) (leI_iff.1 ho.2.1) (by omega) (.inr rfl)
  · cases h

end
end Go.Sx

set_option linter.unusedVariables false
set_option linter.unusedSimpArgs false
namespace Go.Sx
open Go Go.RowKit

section
variable {P : Program} {cx : Ctx} {M : Frz} {ν : Nms} {w : World} {g : Nat → Option Ob}

theorem run_load_at {a : Addr} {v : Value} (h : w.cell? a = some v) : (load a).run P w = .ok v w := by
  rw [run_load, h]

theorem run_loadCellsFrom (b o : Nat) : ∀ (l : List Value) (i : Nat) (acc : Array Value), (∀ j v, l[j]? = some v → w.cell? ⟨b, o + (i + j), none⟩ = some v) →
    (loadCellsFrom ⟨b, o, none⟩ i l.length acc).run P w = .ok (acc ++ l.toArray) w
  | [], i, acc, _ => by simp [loadCellsFrom]
  | v :: l, i, acc, h => by
    have h0 := h 0 v rfl
    simp only [Nat.add_zero] at h0
    simp only [List.length_cons, loadCellsFrom, Sem.run_bind, add0]
    rw [run_load_at h0]
    simp only [Result.andThen]
    rw [run_loadCellsFrom b o l (i + 1) (acc.push v) fun j u hj => by
      have := h (j + 1) u (by simpa using hj)
      rwa [show i + (j + 1) = i + 1 + j from by omega] at this]
    simp
theorem run_loadCells (b o : Nat) (l : List Value) (h : ∀ j v, l[j]? = some v → w.cell? ⟨b, o + j, none⟩ = some v) : (loadCells ⟨b, o, none⟩ l.length).run P w = .ok l.toArray w := by
  have := run_loadCellsFrom (P := P) (w := w) b o l 0 #[] fun j v hj => by simpa using h j v hj
  simpa [loadCells] using this

theorem run_isAgg (hc : CtxOK P cx) {t : TypeId} {ag : Bool} {n : Nat} (h : cx.vs t = some (ag, n)) : (isAgg t).run P w = .ok ag w := by
  obtain ⟨d, i, hd, _, _, hk⟩ := hc.vs t ag n h
  cases d <;> simp at hk <;> simp [isAgg, run_und hd, hk]
theorem run_vsize (hc : CtxOK P cx) {t : TypeId} {ag : Bool} {n : Nat} (h : cx.vs t = some (ag, n)) : (sizeOf t).run P w = .ok n w := by
  obtain ⟨d, i, _, hi, rfl, _⟩ := hc.vs t ag n h
  exact run_so hi w
theorem vs_one (hc : CtxOK P cx) {t : TypeId} {n : Nat} (h : cx.vs t = some (false, n)) : n = 1 := by
  obtain ⟨d, i, _, _, _, hk⟩ := hc.vs t false n h
  cases d <;> simp at hk <;> exact hk

theorem run_loadAt_one (hc : CtxOK P cx) {t : TypeId} {n : Nat} (h : cx.vs t = some (false, n)) {a : Addr} {v : Value} (hv : w.cell? a = some v) :
    (Instr.loadAt t (.pointer (some a))).run P w = .ok v w := by
  simp only [Instr.loadAt, Instr.sureAddr, loadVar, Sem.run_bind, Sem.run_pure, Result.andThen, run_isAgg hc h, Bool.false_eq_true, if_false]
  exact run_load_at hv
theorem run_loadAt_agg (hc : CtxOK P cx) {t : TypeId} {b o : Nat} (l : List Value) (h : cx.vs t = some (true, l.length)) (hv : ∀ j v, l[j]? = some v → w.cell? ⟨b, o + j, none⟩ = some v) :
    (Instr.loadAt t (.pointer (some ⟨b, o, none⟩))).run P w = .ok (.agg l.toArray) w := by
  simp only [Instr.loadAt, Instr.sureAddr, loadVar, Sem.run_bind, Sem.run_pure, Result.andThen, run_isAgg hc h, if_true, run_vsize hc h, run_loadCells b o l hv]

/-! ### reading a row -/
def intsV (x : List Int) : Nat → Nat → List Value
  | _, 0 => []
  | j, n + 1 => .int .i64 (getN x j) :: intsV x (j + 1) n
theorem intsV_length (x : List Int) : ∀ j n, (intsV x j n).length = n
  | _, 0 => rfl
  | j, n + 1 => by simp [intsV, intsV_length x (j + 1) n]
theorem intsV_get (x : List Int) : ∀ j n i v, (intsV x j n)[i]? = some v → i < n ∧ v = .int .i64 (getN x (j + i))
  | _, 0, i, v, h => by simp [intsV] at h
  | j, n + 1, 0, v, h => by simp [intsV] at h; exact ⟨by omega, by simpa using h.symm⟩
  | j, n + 1, i + 1, v, h => by
    simp only [intsV, List.getElem?_cons_succ] at h
    obtain ⟨h1, h2⟩ := intsV_get x (j + 1) n i v h
    exact ⟨by omega, by rw [h2]; congr 2; omega⟩
theorem R_intsV (x : List Int) : ∀ j n, RL M ν (intsOf x j n) (intsV x j n)
  | _, 0 => by simp [intsOf, intsV, RL]
  | j, n + 1 => by
    simp only [intsOf, intsV, RL]
    exact ⟨_, _, rfl, by simp [R], R_intsV x (j + 1) n⟩

theorem loadSC_run (hc : CtxOK P cx) {t : TypeId} {ag : Bool} {n f : Nat} {d : SC} {i : Int} {r : AV} {b o : Nat} {cf : Nat → Option Value} (hv : cx.vs t = some (ag, n))
    (h : loadSC d i f ag n = some r) (hr : RowC M d cf) (hcell : ∀ j v, cf j = some v → w.cell? ⟨b, o + j, none⟩ = some v) (h0 : 0 ≤ i) (h1 : i < d.lenN) :
    ∃ v, (Instr.loadAt t (.pointer (some ⟨b, o + (i.toNat * d.wid + f), none⟩))).run P w = .ok v w ∧ R M ν r v := by
  cases d with
  | i1 xs =>
    cases ag <;> cases f <;> simp only [loadSC, reduceCtorEq, Option.some.injEq] at h
    subst h
    refine ⟨.int .i64 (xs.getD i.toNat 0), run_loadAt_one hc hv (hcell _ _ ?_), by simp only [R, getI]⟩
    have := hr i.toNat (by simp [SC.lenN] at h1; omega)
    simpa [SC.wid] using this
  | b1 xs =>
    cases ag <;> cases f <;> simp only [loadSC, reduceCtorEq, Option.some.injEq] at h
    subst h
    refine ⟨.bool (xs.getD i.toNat false), run_loadAt_one hc hv (hcell _ _ ?_), by simp only [R, getB]⟩
    have := hr i.toNat (by simp [SC.lenN] at h1; omega)
    simpa [SC.wid] using this
  | rows xs =>
    cases ag <;> cases f <;> simp only [loadSC, reduceCtorEq, Option.some.injEq] at h
    subst h
    obtain ⟨v, hv1, hv2⟩ := hr i.toNat (by simp [SC.lenN] at h1; omega)
    exact ⟨_, run_loadAt_one hc hv (hcell _ _ (by simpa [SC.wid] using hv1)), by simp only [R, getL]; exact hv2.sl⟩
  | st wd xs =>
    have hi : i.toNat < xs.length := by simp [SC.lenN] at h1; omega
    cases ag with
    | false =>
      simp only [loadSC] at h
      cases hf : Nat.blt f wd <;> rw [hf] at h <;> simp only [cond_true, cond_false, reduceCtorEq, Option.some.injEq] at h
      subst h
      have hf' : f < wd := by simpa using hf
      exact ⟨_, run_loadAt_one hc hv (hcell _ _ (hr i.toNat f hi hf')), by simp only [R, getN, getL]⟩
    | true =>
      cases f with
      | succ f => simp [loadSC] at h
      | zero =>
        simp only [loadSC] at h
        cases hf : Nat.beq n wd <;> rw [hf] at h <;> simp only [cond_true, cond_false, reduceCtorEq, Option.some.injEq] at h
        subst h
        have hn := beqT.1 hf; subst hn
        refine ⟨.agg (intsV (getL xs i) 0 n).toArray, run_loadAt_agg hc (intsV (getL xs i) 0 n) (by rw [intsV_length]; exact hv) ?_, ?_⟩
        · intro j v hj
          obtain ⟨hj1, rfl⟩ := intsV_get _ _ _ _ _ hj
          have := hcell _ _ (hr i.toNat j hi hj1)
          simpa [getN, getL, SC.wid, Nat.add_assoc] using this
        · simp only [R]
          exact ⟨_, rfl, R_intsV _ _ _⟩

theorem boxGet_length (cs : List AV) : ∀ f n, (boxGet cs f n).length = n
  | _, 0 => rfl
  | f, n + 1 => by simp [boxGet, boxGet_length cs (f + 1) n]
theorem R_boxGet {cs : List AV} {vs : List Value} (h : RL M ν cs vs) : ∀ f n, f + n ≤ cs.length → RL M ν (boxGet cs f n) ((vs.drop f).take n)
  | _, 0, _ => by simp [boxGet, RL]
  | f, n + 1, hf => by
    obtain ⟨v, hv, hr⟩ := RL_get f h (by omega)
    have hd : vs.drop f = v :: vs.drop (f + 1) := by
      have hlt : f < vs.length := (List.getElem?_eq_some_iff.1 hv).1
      rw [List.drop_eq_getElem_cons hlt]
      congr 1
      exact (List.getElem?_eq_some_iff.1 hv).2
    simp only [boxGet, RL, hd, List.take_succ_cons]
    exact ⟨v, _, rfl, hr, R_boxGet h (f + 1) n (by omega)⟩

theorem loadBox_run (hc : CtxOK P cx) {t : TypeId} {ag : Bool} {n f : Nat} {cs : List AV} {vs : List Value} {r : AV} {b : Nat} (hv : cx.vs t = some (ag, n))
    (h : loadBox cs f ag n = some r) (hr : RL M ν cs vs) (hcell : ∀ j v, vs[j]? = some v → w.cell? ⟨b, j, none⟩ = some v) :
    ∃ v, (Instr.loadAt t (.pointer (some ⟨b, f, none⟩))).run P w = .ok v w ∧ R M ν r v := by
  cases ag with
  | false =>
    simp only [loadBox] at h
    cases hf : Nat.blt f cs.length <;> rw [hf] at h <;> simp only [cond_true, cond_false, reduceCtorEq, Option.some.injEq] at h
    subst h
    have hf' : f < cs.length := by simpa using hf
    obtain ⟨v, hv1, hv2⟩ := RL_get f hr hf'
    exact ⟨v, run_loadAt_one hc hv (hcell _ _ hv1), hv2⟩
  | true =>
    simp only [loadBox] at h
    cases hf : Nat.ble (f + n) cs.length <;> rw [hf] at h <;> simp only [cond_true, cond_false, reduceCtorEq, Option.some.injEq] at h
    subst h
    have hf' : f + n ≤ cs.length := by simpa using hf
    have hl := RL_len hr
    refine ⟨.agg ((vs.drop f).take n).toArray, run_loadAt_agg hc _ (by rw [List.length_take, List.length_drop]; rw [show min n (vs.length - f) = n from by omega]; exact hv) ?_, ?_⟩
    · intro j v hj
      rw [List.getElem?_take] at hj
      split at hj
      · exact hcell _ _ (by simpa using hj)
      · cases hj
    · simp only [R]
      exact ⟨_, rfl, R_boxGet hr f n hf'⟩

theorem hLoad_run (hc : CtxOK P cx) {t : TypeId} {a : AV} {x : Value} {u : Up} (h : hLoad cx g t [a] = some u) (ho : AllT u.obl) (hx : R M ν a x) (hob : Obs M ν w g) (hf : M.ok w) :
    u.put = [] ∧ u.kil = [] ∧ u.frz = [] ∧ ∃ v, (Instr.loadAt t x).run P w = .ok v w ∧ R M ν u.val v := by
  simp only [hLoad] at h
  split at h
  · cases h
  · rename_i ag n hvs
    split at h
    · rename_i k f
      cases hk : g k with
      | none => rw [hk] at h; cases h
      | some p =>
        rw [hk] at h
        cases p <;> simp only [reduceCtorEq] at h
        rename_i cs
        cases hl : loadBox cs f ag n <;> rw [hl] at h <;> simp only [up0, reduceCtorEq, Option.some.injEq] at h
        subst h
        obtain ⟨b, vs, e, hν, hh, hr⟩ := hob k _ hk
        simp only [R] at hx
        obtain ⟨b', hν', rfl⟩ := hx
        rw [hν] at hν'; cases hν'
        exact ⟨rfl, rfl, rfl, loadBox_run hc hvs hl hr fun j v hj => by simp [World.cell?, hh]; simpa using hj⟩
    · rename_i cs f
      cases hl : loadBox cs f ag n <;> rw [hl] at h <;> simp only [up0, reduceCtorEq, Option.some.injEq] at h
      subst h
      simp only [R] at hx
      obtain ⟨b, vs, e, fr, rfl, hb, hr⟩ := hx
      exact ⟨rfl, rfl, rfl, loadBox_run hc hvs hl hr fun j v hj => Frz.cell_ok hf (by simp [Frz.cell, hb]; simpa using hj)⟩
    · rename_i k wd i f
      cases hk : g k with
      | none => rw [hk] at h; cases h
      | some p =>
        rw [hk] at h
        cases p <;> simp only [reduceCtorEq] at h
        rename_i nk d
        cases hw : Nat.beq wd d.wid <;> rw [hw] at h <;> simp only [cond_true, cond_false, reduceCtorEq] at h
        cases hl : loadSC d i f ag n <;> rw [hl] at h <;> simp only [up0, reduceCtorEq, Option.some.injEq] at h
        subst h
        have hwd := beqT.1 hw; subst hwd
        obtain ⟨base, cap, hν, hn, hcase⟩ := hob k _ hk
        simp only [R] at hx
        obtain ⟨b, n', cap', hν', h0, h1, rfl⟩ := hx
        rw [hν] at hν'; cases hν'
        rcases hcase with ⟨b', cs, e, hb, hh, hr, _⟩ | ⟨hb, _⟩
        · cases hb
          refine ⟨rfl, rfl, rfl, ?_⟩
          have := loadSC_run (M := M) (ν := ν) (w := w) (b := b) (o := 0) hc hvs hl hr (fun j v hj => by simp [World.cell?, hh]; simpa using hj) h0 h1
          simpa using this
        · cases hb
    · rename_i d i f
      cases hl : loadSC d i f ag n <;> rw [hl] at h <;> simp only [up0, reduceCtorEq, Option.some.injEq] at h
      subst h
      simp only [R] at hx
      obtain ⟨b, o, rfl, hr, h0, h1⟩ := hx
      exact ⟨rfl, rfl, rfl, loadSC_run hc hvs hl hr (fun j v hj => Frz.cell_ok hf hj) h0 h1⟩
    · cases h

/-! ### writing -/
/-- Block b holds other cells; nothing else has turned. -/
structure Turned (b : Nat) (cs' : Array Value) (e : TypeId) (w w' : World) : Prop where
  here : w'.heap[b]? = some (.cells cs' e (0, 0))
  size : w'.heap.size = w.heap.size
  else_ : ∀ k, k ≠ b → w'.heap[k]? = w.heap[k]?
  os : w'.os = w.os
  tape : w'.tape = w.tape
  output : w'.output = w.output

/-- One block has turned, nothing else. -/
structure Turn0 (b : Nat) (w w' : World) : Prop where
  size : w'.heap.size = w.heap.size
  else_ : ∀ k, k ≠ b → w'.heap[k]? = w.heap[k]?
  os : w'.os = w.os
  tape : w'.tape = w.tape
  output : w'.output = w.output
theorem Turned.t0 {b : Nat} {cs' : Array Value} {e : TypeId} {w w' : World} (h : Turned b cs' e w w') : Turn0 b w w' := ⟨h.size, h.else_, h.os, h.tape, h.output⟩

theorem run_storeCells {b o : Nat} : ∀ (l : List Value) (i : Nat) {w : World} {cs : Array Value} {e : TypeId}, w.heap[b]? = some (.cells cs e (0, 0)) → o + i + l.length ≤ cs.size →
    (∀ v, v ∈ l → v.oneCell' = true) →
    ∃ w' cs', (storeCells ⟨b, o, none⟩ l i).run P w = .ok () w' ∧ Turned b cs' e w w' ∧ cs'.size = cs.size ∧ ∀ j, cs'[j]? = if o + i ≤ j ∧ j < o + i + l.length then l[j - (o + i)]? else cs[j]?
  | [], i, w, cs, e, h, _, _ => ⟨w, cs, by simp [storeCells], ⟨h, rfl, fun _ _ => rfl, rfl, rfl, rfl⟩, rfl, fun j => by simp; intro h1 h2; omega⟩
  | v :: l, i, w, cs, e, h, hl, ho => by
    simp only [List.length_cons] at hl
    have hc : w.cell? ⟨b, o + i, none⟩ = some cs[o + i] := by
      simp only [World.cell?, h, Option.isSome_none, Bool.false_eq_true, if_false]
      exact Array.getElem?_eq_getElem (by omega)
    have hfz : w.frozen? ⟨b, o + i, none⟩ = false := by simp [World.frozen?, h]
    have hstore : (store ⟨b, o + i, none⟩ v).run P w = .ok () (w.setCell ⟨b, o + i, none⟩ v) := by
      rw [run_store P w _ _ _ (ho v (by simp)), hc]
      simp [hfz]
    have hlt : b < w.heap.size := (Array.getElem?_eq_some_iff.1 h).1
    have hnew : (w.setCell ⟨b, o + i, none⟩ v).heap[b]? = some (.cells (cs.setIfInBounds (o + i) v) e (0, 0)) := by
      simp [World.setCell, Array.getElem?_modify, h]
    obtain ⟨w', cs', hrun, ht, hsz, hget⟩ := run_storeCells (o := o) l (i + 1) hnew (by simp; omega) fun u hu => ho u (by simp [hu])
    refine ⟨w', cs', ?_, ⟨ht.here, by rw [ht.size]; simp [World.setCell], fun k hk => ?_, ht.os, ht.tape, ht.output⟩, by simpa using hsz, fun j => ?_⟩
    · simp only [storeCells, Sem.run_bind, add0, hstore, Result.andThen]; exact hrun
    · rw [ht.else_ k hk]; exact Below.heap_setCell w _ v k hk
    · rw [hget j]
      by_cases h1 : j = o + i
      · subst h1
        rw [if_neg (by omega), if_pos (by simp)]
        simp only [Nat.sub_self, List.getElem?_cons_zero]
        have hlt' : o + i < cs.size := by omega
        simp [hlt']
      · by_cases h2 : o + (i + 1) ≤ j ∧ j < o + (i + 1) + l.length
        · rw [if_pos h2, if_pos (by simp; omega), show j - (o + i) = j - (o + (i + 1)) + 1 from by omega, List.getElem?_cons_succ]
        · rw [if_neg h2, if_neg (by simp; omega), Array.getElem?_setIfInBounds, if_neg (by omega)]

/-- What has turned is the one object. -/
theorem Rel.turn0 {Γ : Env} {sl : List AV} {ob : List (Nat × Ob)} {a : Act} (h : Rel Γ sl ob a w M ν) {k b : Nat} {o o' : Ob} {v : Value} {w' : World}
    (hk : og ob k = some o) (hν : ν k = some v) (hb : blkV (some v) = some b) (ht : Turn0 b w w') (ho : ObR M ν w' k o') : Rel Γ sl (op ob k o') a w' M ν := by
  have hmine := h.mine k o b hk (by rw [hν]; exact hb)
  have hkept : Kept Γ.F Γ.w0 w' := by
    refine ⟨ht.os.trans h.kept.os, ht.tape.trans h.kept.tape, ht.output.trans h.kept.output, by rw [ht.size]; exact h.kept.size, fun j hj hn => ?_⟩
    rw [ht.else_ j ?_]
    · exact h.kept.block j hj hn
    · intro e; subst e
      rcases hmine.2 with h2 | h2
      · omega
      · exact hn h2
  have h1 := (h.del k).world (Frz.le_refl M) (w' := w') ?_ hkept ?_
  · have hupd : updN ν k v = ν := by
      funext j
      by_cases hj : j = k
      · subst hj; simp [updN, hν]
      · simp [updN, hj]
    have h2 := h1.lay (k := k) (o := o') (v := v) (.inr hν) (by rw [hupd]; exact ho) (fun b' hb' => by
      rw [hb] at hb'; cases hb'; exact hmine) (fun j o2 b' hj hne hb' hbj => by
      rw [og_od, if_neg hne] at hj
      exact h.inj k j o o2 b' hk hj (fun c => hne c.symm) (by rw [hν]; exact hb') hbj)
    rw [hupd] at h2
    have hop : ∀ l : List (Nat × Ob), op (od l k) k o' = op l k o' := by
      intro l
      have : ∀ l : List (Nat × Ob), od (od l k) k = od l k := by
        intro l
        induction l with
        | nil => rfl
        | cons p l ih =>
          obtain ⟨j, q⟩ := p
          simp only [od]
          cases hjk : Nat.beq j k <;> simp [od, hjk, ih]
      simp [op, this]
    rwa [hop] at h2
  · intro j o2 hj
    rw [ht.else_ j (fun e => by rw [e, hmine.1] at hj; cases hj)]
    exact h.frz j o2 hj
  · intro j o2 b' hj hbj
    rw [og_od] at hj
    split at hj
    · cases hj
    · rename_i hne
      have hbb : b' ≠ b := fun e => h.inj k j o o2 b hk hj (fun c => hne c.symm) (by rw [hν]; exact hb) (by rw [hbj, e])
      exact ⟨ht.else_ b' hbb, (h.mine j o2 b' hj hbj).1⟩

theorem Rel.turn {Γ : Env} {sl : List AV} {ob : List (Nat × Ob)} {a : Act} (h : Rel Γ sl ob a w M ν) {k b : Nat} {o o' : Ob} {v : Value} {cs' : Array Value} {e : TypeId} {w' : World}
    (hk : og ob k = some o) (hν : ν k = some v) (hb : blkV (some v) = some b) (ht : Turned b cs' e w w') (ho : ObR M ν w' k o') : Rel Γ sl (op ob k o') a w' M ν := h.turn0 hk hν hb ht.t0 ho

end
end Go.Sx

set_option linter.unusedVariables false
set_option linter.unusedSimpArgs false
namespace Go.Sx
open Go Go.RowKit

section
variable {P : Program} {cx : Ctx} {M : Frz} {ν : Nms} {w : World} {g : Nat → Option Ob}

/-! ### a row is frozen -/
mutual
theorem R_fz {M' : Frz} (hM : M.le M') {k : Nat} {d : SC} {u : Value} (hk : ν k = some u) (hu : RSl M' none d u) : ∀ {a : AV} {v : Value}, R M ν a v → R M' ν (a.fz k d) v
  | .int _ _, _, e => by simpa [R, AV.fz] using e
  | .bool _, _, e => by simpa [R, AV.fz] using e
  | .c _, _, e => by simpa [R, AV.fz] using e
  | .nils, _, e => by simpa [R, AV.fz] using e
  | .agg cs, v, e => by
    simp only [R, AV.fz] at e ⊢
    obtain ⟨vs, rfl, e⟩ := e
    exact ⟨vs, rfl, RL_fz hM hk hu e⟩
  | .tup cs, v, e => by
    simp only [R, AV.fz] at e ⊢
    obtain ⟨vs, rfl, e⟩ := e
    exact ⟨vs, rfl, RL_fz hM hk hu e⟩
  | .sl nk d, v, e => by simp only [R, AV.fz] at e ⊢; exact e.le hM
  | .own j, v, e => by
    simp only [AV.fz]
    cases hj : Nat.beq j k
    · exact R_le hM e
    · have := beqT.1 hj; subst this
      simp only [R, cond_true] at e ⊢
      rw [hk] at e; cases e.1; exact hu
  | .sub j w lo hi, v, e => by
    simp only [AV.fz]
    cases Nat.beq j k
    · exact R_le hM e
    · simp [R]
  | .ref j f, v, e => by
    simp only [AV.fz]
    cases Nat.beq j k
    · exact R_le hM e
    · simp [R]
  | .elt j w i f, v, e => by
    simp only [AV.fz]
    cases Nat.beq j k
    · exact R_le hM e
    · simp [R]
  | .adr d i f, v, e => R_le (a := .adr d i f) hM e
  | .snap cs f, v, e => by
    simp only [R, AV.fz] at e ⊢
    obtain ⟨b, vs, t, fr, rfl, hb, e⟩ := e
    exact ⟨b, vs, t, fr, rfl, hM _ _ hb, RL_fz hM hk hu e⟩
  | .clo f cs, v, e => by
    simp only [R, AV.fz] at e ⊢
    obtain ⟨vs, rfl, e⟩ := e
    exact ⟨vs, rfl, RL_fz hM hk hu e⟩
  | .ifc t a, v, e => by
    simp only [R, AV.fz] at e ⊢
    obtain ⟨u, rfl, e⟩ := e
    exact ⟨u, rfl, R_fz hM hk hu e⟩
  | .when g a, v, e => by
    simp only [R, AV.fz] at e ⊢
    exact ⟨fun hg => R_fz hM hk hu (e.1 hg), e.2⟩
  | .osl _ _, _, e => by simp [R] at e
  | .obx _, _, e => by simp [R] at e
  | .omp _, _, e => by simp [R] at e
  | .mp j, v, e => by
    simp only [AV.fz]
    cases Nat.beq j k
    · exact R_le hM e
    · simp [R]
  | .ms ks, v, e => R_le (a := .ms ks) hM e
  | .junk, _, _ => by simp [R, AV.fz]
theorem RL_fz {M' : Frz} (hM : M.le M') {k : Nat} {d : SC} {u : Value} (hk : ν k = some u) (hu : RSl M' none d u) : ∀ {cs : List AV} {vs : List Value}, RL M ν cs vs → RL M' ν (AV.fzL k d cs) vs
  | [], vs, e => by simpa [RL, AV.fzL] using e
  | a :: l, vs, e => by
    simp only [RL, AV.fzL] at e ⊢
    obtain ⟨v, vs', rfl, e1, e2⟩ := e
    exact ⟨v, vs', rfl, R_fz hM hk hu e1, RL_fz hM hk hu e2⟩
end

theorem fzL_length (k : Nat) (d : SC) : ∀ l : List AV, (AV.fzL k d l).length = l.length
  | [] => rfl
  | _ :: l => by simp [AV.fzL, fzL_length k d l]
theorem sg_fzL (k : Nat) (d : SC) : ∀ (l : List AV) (i : Nat), sg (AV.fzL k d l) i = (sg l i).fz k d
  | [], _ => by simp [AV.fzL, sg, AV.fz]
  | a :: l, 0 => by simp [AV.fzL, sg]
  | a :: l, i + 1 => by simp [AV.fzL, sg, sg_fzL k d l i]
theorem og_fzO (k : Nat) (d : SC) : ∀ (l : List (Nat × Ob)) (j : Nat), og (fzO k d l) j = if j = k then none else (og l j).map (Ob.fz k d)
  | [], j => by simp [fzO, og]
  | (i, o) :: l, j => by
    simp only [fzO]
    cases h : Nat.beq i k with
    | true =>
      have := beqT.1 h; subst this
      simp only [cond_true, og_fzO i d l j, og]
      by_cases hj : j = i
      · simp [hj]
      · have : Nat.beq i j = false := beqF.2 (fun h => hj h.symm)
        simp [hj, this]
    | false =>
      have hne := beqF.1 h
      simp only [cond_false, og, og_fzO k d l j]
      cases h' : Nat.beq i j with
      | true => have := beqT.1 h'; subst this; simp [hne]
      | false => simp

theorem Rel.freeze {Γ : Env} {sl : List AV} {ob : List (Nat × Ob)} {a : Act} (h : Rel Γ sl ob a w M ν) {k : Nat} {nk : Option Bool} {d : SC} (hk : og ob k = some (.arr nk d)) :
    ∃ M', M.le M' ∧ Rel Γ (AV.fzL k d sl) (fzO k d ob) a w M' ν ∧ (∃ u, ν k = some u ∧ RSl M' nk d u) ∧ (∀ j, M' j ≠ M j → blkV (ν k) = some j) := by
  obtain ⟨base, cap, hν, hn, hcase⟩ := h.obs k _ hk
  have hblk : ∀ j, blkV (ν k) = some j → M j = none := fun j hj => (h.mine k _ j hk hj).1
  let M' : Frz := fun j => if blkV (ν k) = some j then w.heap[j]? else M j
  have hM : M.le M' := by
    intro j o hj
    simp only [M']
    split
    · rename_i e; rw [hblk j e] at hj; cases hj
    · exact hj
  have hok : M'.ok w := by
    intro j o hj
    simp only [M'] at hj
    split at hj
    · exact hj
    · exact h.frz j o hj
  have hsl : RSl M' nk d (.slice base d.lenN cap) := by
    refine ⟨base, cap, rfl, hn, ?_⟩
    rcases hcase with ⟨b, cs, e, rfl, hh, hr, hcap, _⟩ | ⟨_, hz, _⟩
    · refine .inr ⟨b, 0, rfl, hcap, hr.imp hM fun j v hj => ?_⟩
      have : M' b = some (.cells cs e (0, 0)) := by simp only [M']; rw [if_pos (by rw [hν]; rfl)]; exact hh
      simp [Frz.cell, this]; simpa using hj
    · exact .inl hz
  have hsl' : RSl M' none d (.slice base d.lenN cap) := by
    obtain ⟨b, c, e1, e2, e3⟩ := hsl
    exact ⟨b, c, e1, (fun b hb => by cases hb), e3⟩
  refine ⟨M', hM, ?_, ⟨_, hν, hsl⟩, fun j hj => ?_⟩
  · refine ⟨by rw [fzL_length]; exact h.len, h.dfs, fun i hi => ?_, hok, fun j o hj => ?_, fun j o b hj hb => ?_, fun j j' o o' b hj hj' hne hb => ?_, h.kept, ⟨Frz.le_trans h.frs.1 hM, fun j hj => ?_⟩⟩
    · rw [fzL_length] at hi
      rw [sg_fzL]
      exact R_fz hM hν hsl' (h.tmps i hi)
    · rw [og_fzO] at hj
      split at hj
      · cases hj
      · cases ho : og ob j with
        | none => rw [ho] at hj; cases hj
        | some p =>
          rw [ho] at hj; cases hj
          have hp := h.obs j p ho
          cases p with
          | arr nk2 d2 =>
            obtain ⟨b2, c2, h1, h2, h3⟩ := hp
            exact ⟨b2, c2, h1, h2, h3.imp (fun ⟨b, cs, e, g1, g2, g3, g4⟩ => ⟨b, cs, e, g1, g2, g3.imp hM fun _ _ h => h, g4⟩) id⟩
          | box cs =>
            obtain ⟨b2, vs, e, h1, h2, h3⟩ := hp
            exact ⟨b2, vs, e, h1, h2, RL_fz hM hν hsl' h3⟩
          | map ks => exact hp
          | itr ks cur =>
            obtain ⟨b2, h1, h2⟩ := hp
            exact ⟨b2, h1, h2.imp id fun ⟨m, es, c, seen, e1, e2, e3⟩ => ⟨m, es, c, seen, e1, hM _ _ e2, e3⟩⟩
    · rw [og_fzO] at hj
      split at hj
      · cases hj
      · rename_i hne
        cases ho : og ob j with
        | none => rw [ho] at hj; cases hj
        | some p =>
          have := h.mine j p b ho hb
          refine ⟨?_, this.2⟩
          simp only [M']
          rw [if_neg (fun e => h.inj k j _ p b hk ho (fun c => hne c.symm) e hb)]
          exact this.1
    · rw [og_fzO] at hj hj'
      split at hj
      · cases hj
      · split at hj'
        · cases hj'
        · cases ho : og ob j with
          | none => rw [ho] at hj; cases hj
          | some p =>
            cases ho' : og ob j' with
            | none => rw [ho'] at hj'; cases hj'
            | some p' => exact h.inj j j' p p' b ho ho' hne hb
    · simp only [M'] at hj
      split at hj
      · rename_i e; exact (h.mine k _ j hk e).2
      · exact h.frs.2 j hj
  · simp only [M'] at hj
    split at hj
    · assumption
    · exact absurd rfl hj

theorem freezes_rel {Γ : Env} {a : Act} : ∀ (ks : List Nat) {st st' : St} {M : Frz}, Rel Γ st.sl st.ob a w M ν → st.freezes ks = some st' →
    ∃ M', M.le M' ∧ Rel Γ st'.sl st'.ob a w M' ν ∧ st'.ok = st.ok ∧
      (∀ k, k ∈ ks → ∀ xs nk, og st.ob k = some (.arr nk (.i1 xs)) → ∃ u, ν k = some u ∧ RS M' u xs) ∧
      (∀ k, k ∉ ks → ∀ nk d, og st.ob k = some (.arr nk d) → og st'.ob k = some (.arr nk d)) ∧
      (∀ k, og st.ob k = none → og st'.ob k = none)
  | [], st, st', M, h, e => by
    simp only [St.freezes, Option.some.injEq] at e; subst e
    exact ⟨M, Frz.le_refl M, h, rfl, (fun k hk => by cases hk), (fun k _ nk d hk => hk), fun k hk => hk⟩
  | k :: ks, st, st', M, h, e => by
    simp only [St.freezes] at e
    cases hf : st.freeze k with
    | none => rw [hf] at e; cases e
    | some st1 =>
      rw [hf] at e
      simp only [] at e
      unfold St.freeze at hf
      split at hf
      · rename_i nk d hk
        simp only [Option.some.injEq] at hf; subst hf
        obtain ⟨M1, hM1, hR1, ⟨u, hu1, hu2⟩, _⟩ := h.freeze hk
        obtain ⟨M2, hM2, hR2, hok, hin, hout, hnone⟩ := freezes_rel (st := ⟨_, _, st.ok⟩) ks hR1 e
        refine ⟨M2, Frz.le_trans hM1 hM2, hR2, hok, fun j hj xs nk' hj' => ?_, fun j hj nk' d' hj' => ?_, fun j hj => ?_⟩
        · by_cases hjk : j = k
          · subst hjk
            rw [hk] at hj'; cases hj'
            exact ⟨u, hu1, (hu2.rs).le hM2⟩
          · refine hin j (by rcases List.mem_cons.1 hj with h | h; exact absurd h hjk; exact h) xs nk' ?_
            simp only [og_fzO, if_neg hjk, hj', Option.map_some, Ob.fz]
        · simp only [List.mem_cons, not_or] at hj
          refine hout j hj.2 nk' d' ?_
          simp only [og_fzO, if_neg hj.1, hj', Option.map_some, Ob.fz]
        · refine hnone j ?_
          simp only [og_fzO]
          split
          · rfl
          · rw [hj]; rfl
      · cases hf

end
end Go.Sx

set_option linter.unusedVariables false
set_option linter.unusedSimpArgs false
namespace Go.Sx
open Go Go.RowKit

section
variable {P : Program} {cx : Ctx} {M M' : Frz} {ν : Nms} {w : World} {g : Nat → Option Ob}

/-- What is to be frozen reads as it did. -/
def Fzn (M' : Frz) (ν : Nms) (g : Nat → Option Ob) (ks : List Nat) : Prop := ∀ k, k ∈ ks → ∀ xs nk, g k = some (.arr nk (.i1 xs)) → ∃ u, ν k = some u ∧ RS M' u xs

theorem rowA_run {a : AV} {x : List Int} {ks : List Nat} {v : Value} (hM : M.le M') (h : rowA g a = some (x, ks)) (hv : R M ν a v) (hf : Fzn M' ν g ks) : RS M' v x ∧ v.oneCell' = true := by
  unfold rowA at h
  split at h
  · simp only [Option.some.injEq, Prod.mk.injEq] at h
    obtain ⟨rfl, rfl⟩ := h
    simp only [R] at hv
    refine ⟨hv.rs.le hM, ?_⟩
    obtain ⟨b, c, rfl, _⟩ := hv; rfl
  · simp only [Option.some.injEq, Prod.mk.injEq] at h
    obtain ⟨rfl, rfl⟩ := h
    simp only [R] at hv; subst hv
    exact ⟨⟨none, 0, rfl, .inl rfl⟩, rfl⟩
  · rename_i k
    split at h
    · rename_i nk xs hk
      simp only [Option.some.injEq, Prod.mk.injEq] at h
      obtain ⟨rfl, rfl⟩ := h
      obtain ⟨u, hu, hr⟩ := hf k (by simp) xs nk hk
      simp only [R] at hv
      rw [hu] at hv; cases hv.1
      refine ⟨hr, ?_⟩
      obtain ⟨b, c, rfl, _⟩ := hr; rfl
    · cases h
  · cases h

theorem run_storeAt (hc : CtxOK P cx) {t : TypeId} {ag : Bool} {n b o : Nat} {y : Value} {cs : Array Value} {e : TypeId} (hv : cx.vs t = some (ag, n)) (hb : w.heap[b]? = some (.cells cs e (0, 0)))
    (hn : y.cells.size = n) (hl : o + n ≤ cs.size) (ho : ∀ v, v ∈ y.cells.toList → v.oneCell' = true) :
    ∃ w' cs', (Instr.storeAt t (.pointer (some ⟨b, o, none⟩)) y).run P w = .ok () w' ∧ Turned b cs' e w w' ∧ cs'.size = cs.size ∧ ∀ j, cs'[j]? = if o ≤ j ∧ j < o + n then y.cells.toList[j - o]? else cs[j]? := by
  have hlen : y.cells.toList.length = n := by simpa using hn
  obtain ⟨w', cs', h1, h2, h3, h4⟩ := run_storeCells (P := P) (o := o) y.cells.toList 0 hb (by rw [hlen]; exact hl) ho
  refine ⟨w', cs', ?_, h2, h3, fun j => by have := h4 j; rw [hlen] at this; simpa using this⟩
  simp only [Instr.storeAt, Instr.sureAddr, storeVar, Sem.run_bind, Sem.run_pure, Result.andThen, run_vsize hc hv]
  simp only [hn, ne_eq, not_true_eq_false, if_false]
  exact h1

theorem pair_inj {w i j f f' : Nat} (hf : f < w) (hf' : f' < w) (h : i * w + f = j * w + f') : i = j ∧ f = f' := by
  have h1 : (i * w + f) / w = i := by rw [Nat.mul_comm, Nat.mul_add_div (by omega), Nat.div_eq_of_lt hf]; rfl
  have h2 : (j * w + f') / w = j := by rw [Nat.mul_comm, Nat.mul_add_div (by omega), Nat.div_eq_of_lt hf']; rfl
  have : i = j := by rw [← h1, h, h2]
  subst this
  exact ⟨rfl, by omega⟩
theorem pair_lt {w i n f : Nat} (hi : i < n) (hf : f < w) : i * w + f < n * w := by
  have : (i + 1) * w ≤ n * w := Nat.mul_le_mul_right w hi
  rw [Nat.add_mul] at this
  omega

theorem setD {α : Type} (xs : List α) (i j : Nat) (v z : α) (h : j < xs.length) : (xs.set i v).getD j z = if j = i then v else xs.getD j z := by
  simp only [List.getD_eq_getElem?_getD, List.getElem?_set]
  by_cases e : i = j
  · subst e; simp [h]
  · have : ¬ j = i := fun c => e c.symm
    simp [e, this]

theorem intA_eq {a : AV} {n : Int} (h : intA a = some n) : a = .int .i64 n := by
  unfold intA at h
  split at h
  · cases h; rfl
  · cases h
theorem intsA_R : ∀ {cs : List AV} {x : List Int} {vs : List Value}, intsA cs = some x → RL M ν cs vs → vs = x.map (Value.int .i64) ∧ cs.length = x.length
  | [], x, vs, h, e => by simp [intsA] at h; simp [RL] at e; subst h e; exact ⟨rfl, rfl⟩
  | a :: l, x, vs, h, e => by
    simp only [intsA] at h
    cases ha : intA a with
    | none => rw [ha] at h; cases h
    | some n =>
      rw [ha] at h
      simp only [] at h
      cases hl : intsA l with
      | none => rw [hl] at h; cases h
      | some ns =>
        rw [hl] at h
        simp only [Option.some.injEq] at h; subst h
        simp only [RL] at e
        obtain ⟨v, vs', rfl, e1, e2⟩ := e
        have := intA_eq ha; subst this
        simp only [R] at e1; subst e1
        obtain ⟨h1, h2⟩ := intsA_R hl e2
        exact ⟨by rw [h1]; rfl, by simp [h2]⟩

theorem storeSC_run (hc : CtxOK P cx) {t : TypeId} {ag : Bool} {n f b cap : Nat} {d d' : SC} {i : Int} {a : AV} {y : Value} {ks : List Nat} {cs : Array Value} {e : TypeId}
    (hv : cx.vs t = some (ag, n)) (hag : eqB ag (isAgg' a) = true) (hszn : szOK a n = true) (h : storeSC g d i f a = some (d', ks)) (hy : R M ν a y) (hM : M.le M') (hfz : Fzn M' ν g ks)
    (hb : w.heap[b]? = some (.cells cs e (0, 0))) (hr : RowC M' d (fun j => cs[j]?)) (h0 : 0 ≤ i) (h1 : i < d.lenN) (hcap : d.lenN ≤ cap) (hsz : cap * d.wid ≤ cs.size) :
    ∃ w' cs', (Instr.storeAt t (.pointer (some ⟨b, i.toNat * d.wid + f, none⟩)) y).run P w = .ok () w' ∧ Turned b cs' e w w' ∧ cs'.size = cs.size ∧
      RowC M' d' (fun j => cs'[j]?) ∧ d'.lenN = d.lenN ∧ d'.wid = d.wid := by
  have hag' := eqB_iff.1 hag
  have hi : i.toNat < d.lenN := by omega
  cases d with
  | i1 xs =>
    simp only [storeSC] at h
    split at h
    · rename_i m
      simp only [Option.some.injEq, Prod.mk.injEq] at h
      obtain ⟨rfl, rfl⟩ := h
      simp only [R] at hy; subst hy
      simp only [isAgg'] at hag'; subst hag'
      have hn := vs_one hc hv; subst hn
      simp only [SC.lenN, SC.wid] at hi hcap hsz ⊢
      obtain ⟨w', cs', r1, r2, r3, r4⟩ := run_storeAt hc (o := i.toNat * 1 + 0) hv hb (y := .int .i64 m) rfl (by omega) (by simp [Value.cells, Value.oneCell'])
      refine ⟨w', cs', r1, r2, r3, fun j hj => ?_, by simp [setI], trivial⟩
      simp only [setI, List.length_set] at hj
      simp only [setI, r4 j]
      rw [setD xs _ _ _ _ hj]
      by_cases e : j = i.toNat
      · subst e; simp [Value.cells]
      · rw [if_neg (by omega), if_neg e]; exact hr j hj
    · cases h
  | b1 xs =>
    simp only [storeSC] at h
    split at h
    · rename_i m
      simp only [Option.some.injEq, Prod.mk.injEq] at h
      obtain ⟨rfl, rfl⟩ := h
      simp only [R] at hy; subst hy
      simp only [isAgg'] at hag'; subst hag'
      have hn := vs_one hc hv; subst hn
      simp only [SC.lenN, SC.wid] at hi hcap hsz ⊢
      obtain ⟨w', cs', r1, r2, r3, r4⟩ := run_storeAt hc (o := i.toNat * 1 + 0) hv hb (y := .bool m) rfl (by omega) (by simp [Value.cells, Value.oneCell'])
      refine ⟨w', cs', r1, r2, r3, fun j hj => ?_, by simp [setB], trivial⟩
      simp only [setB, List.length_set] at hj
      simp only [setB, r4 j]
      rw [setD xs _ _ _ _ hj]
      by_cases e : j = i.toNat
      · subst e; simp [Value.cells]
      · rw [if_neg (by omega), if_neg e]; exact hr j hj
    · cases h
  | rows xs =>
    simp only [storeSC] at h
    split at h
    · split at h
      · rename_i x ks' hrow
        simp only [Option.some.injEq, Prod.mk.injEq] at h
        obtain ⟨rfl, rfl⟩ := h
        obtain ⟨hrs, hone⟩ := rowA_run hM hrow hy hfz
        have hna : isAgg' a = false := by
          unfold rowA at hrow
          split at hrow <;> simp [isAgg'] at hrow ⊢
        rw [hna] at hag'; subst hag'
        have hn := vs_one hc hv; subst hn
        simp only [SC.lenN, SC.wid] at hi hcap hsz ⊢
        have hcells : y.cells = #[y] := by cases y <;> simp [Value.oneCell'] at hone <;> rfl
        obtain ⟨w', cs', r1, r2, r3, r4⟩ := run_storeAt hc (o := i.toNat * 1 + 0) hv hb (y := y) (by rw [hcells]; rfl) (by omega) (by rw [hcells]; simpa using hone)
        refine ⟨w', cs', r1, r2, r3, fun j hj => ?_, by simp [setL], trivial⟩
        simp only [setL, List.length_set] at hj
        simp only [setL, r4 j]
        rw [setD xs _ _ _ _ hj]
        by_cases e : j = i.toNat
        · subst e
          refine ⟨y, by simp [hcells], by simpa using hrs⟩
        · rw [if_neg (by omega), if_neg e]; exact hr j hj
      · cases h
    · cases h
  | st wd xs =>
    simp only [SC.lenN, SC.wid] at hi hcap hsz ⊢
    have hbig : (i.toNat + 1) * wd ≤ cs.size := Nat.le_trans (Nat.mul_le_mul_right wd (by omega)) hsz
    rw [Nat.add_mul] at hbig
    simp only [storeSC] at h
    split at h
    · rename_i m
      cases hf : Nat.blt f wd <;> rw [hf] at h <;> simp only [cond_true, cond_false, reduceCtorEq, Option.some.injEq, Prod.mk.injEq] at h
      obtain ⟨rfl, rfl⟩ := h
      have hf' : f < wd := by simpa using hf
      simp only [R] at hy; subst hy
      simp only [isAgg'] at hag'; subst hag'
      have hn := vs_one hc hv; subst hn
      obtain ⟨w', cs', r1, r2, r3, r4⟩ := run_storeAt hc (o := i.toNat * wd + f) hv hb (y := .int .i64 m) rfl (by omega) (by simp [Value.cells, Value.oneCell'])
      refine ⟨w', cs', r1, r2, r3, fun j q hj hq => ?_, by simp [setL, SC.lenN], rfl⟩
      simp only [setL, List.length_set] at hj
      simp only [setL, r4]
      rw [setD xs _ _ _ _ hj]
      by_cases e : j = i.toNat
      · subst e
        by_cases e2 : q = f
        · subst e2
          rw [if_pos (by omega), if_pos rfl]
          simp [Value.cells, setN, List.getD_eq_getElem?_getD, hf']
        · rw [if_neg (by omega), if_pos rfl]
          have h2 : cs[i.toNat * wd + q]? = _ := hr i.toNat q hj hq
          rw [h2]
          simp only [getL, setN]
          congr 1
          simp [List.getD_eq_getElem?_getD, hq, e2]
      · have hne : ¬ (i.toNat * wd + f ≤ j * wd + q ∧ j * wd + q < i.toNat * wd + f + 1) := fun c => e (pair_inj hq hf' (by omega)).1
        rw [if_neg hne, if_neg e]; exact hr j q hj hq
    · rename_i us
      split at h
      · rename_i x hagg
        simp only [Option.some.injEq, Prod.mk.injEq] at h
        obtain ⟨rfl, rfl⟩ := h
        simp only [isAgg'] at hag'; subst hag'
        simp only [aggA] at hagg
        cases hlen : Nat.beq us.length wd <;> rw [hlen] at hagg <;> simp only [cond_true, cond_false, reduceCtorEq] at hagg
        have hlen' := beqT.1 hlen
        simp only [R] at hy
        obtain ⟨vs, rfl, hvs⟩ := hy
        obtain ⟨rfl, hx⟩ := intsA_R hagg hvs
        have hnw : us.length = n := beqT.1 hszn
        obtain ⟨w', cs', r1, r2, r3, r4⟩ := run_storeAt hc (o := i.toNat * wd + 0) hv hb (y := .agg (x.map (Value.int .i64)).toArray) (by simp [Value.cells]; omega) (by omega)
          (by simp only [Value.cells, List.mem_map]; rintro v ⟨m, _, rfl⟩; rfl)
        refine ⟨w', cs', r1, r2, r3, fun j q hj hq => ?_, by simp [setL, SC.lenN], rfl⟩
        simp only [setL, List.length_set] at hj
        simp only [setL, r4]
        rw [setD xs _ _ _ _ hj]
        by_cases e : j = i.toNat
        · subst e
          rw [if_pos (by omega), if_pos rfl]
          have hq' : q < x.length := by omega
          simp [Value.cells, List.getD_eq_getElem?_getD, hq']
        · have hne : ¬ (i.toNat * wd + 0 ≤ j * wd + q ∧ j * wd + q < i.toNat * wd + 0 + n) := by
            intro c
            have : ∃ p, p < wd ∧ j * wd + q = i.toNat * wd + p := ⟨j * wd + q - i.toNat * wd, by omega, by omega⟩
            obtain ⟨p, hp, hp2⟩ := this
            exact e (pair_inj hq hp hp2).1
          rw [if_neg hne, if_neg e]; exact hr j q hj hq
      · cases h
    · cases h

end
end Go.Sx

set_option linter.unusedVariables false
set_option linter.unusedSimpArgs false
namespace Go.Sx
open Go Go.RowKit

/-! ### several objects at once -/
theorem namesO_mem : ∀ {ps : List (Nat × Ob)} {k : Nat}, k ∈ namesO ps ↔ ∃ o, (k, o) ∈ ps
  | [], k => by simp [namesO]
  | (j, o) :: ps, k => by
    simp only [namesO, List.mem_cons, namesO_mem, Prod.mk.injEq]
    constructor
    · rintro (rfl | ⟨p, hp⟩)
      · exact ⟨o, .inl ⟨rfl, rfl⟩⟩
      · exact ⟨p, .inr hp⟩
    · rintro ⟨p, (⟨rfl, rfl⟩ | hp)⟩
      · exact .inl rfl
      · exact .inr ⟨p, hp⟩
theorem memN_iff {n : Nat} : ∀ {l : List Nat}, memN n l = true ↔ n ∈ l
  | [] => by simp [memN]
  | m :: l => by
    simp only [memN, List.mem_cons]
    cases h : Nat.beq n m with
    | true => have := beqT.1 h; simp [this]
    | false => have := beqF.1 h; simp [this, memN_iff]
theorem nodupN_iff : ∀ {l : List Nat}, nodupN l = true ↔ l.Nodup
  | [] => by simp [nodupN]
  | n :: l => by
    simp only [nodupN, List.nodup_cons]
    cases h : memN n l with
    | true => simp [memN_iff.1 h]
    | false =>
      have : n ∉ l := fun c => by rw [memN_iff.2 c] at h; cases h
      simp [this, nodupN_iff]
theorem apartN_iff : ∀ {l m : List Nat}, apartN l m = true ↔ ∀ k, k ∈ l → k ∉ m
  | [], m => by simp [apartN]
  | n :: l, m => by
    simp only [apartN]
    cases h : memN n m with
    | true => exact ⟨fun c => by simp at c, fun c => absurd (memN_iff.1 h) (c n (by simp))⟩
    | false =>
      have : n ∉ m := fun c => by rw [memN_iff.2 c] at h; cases h
      simp [this, apartN_iff]

theorem og_ops_out : ∀ (ps l : List (Nat × Ob)) (k : Nat), k ∉ namesO ps → og (ops l ps) k = og l k
  | [], l, k, _ => rfl
  | (j, o) :: ps, l, k, h => by
    simp only [namesO, List.mem_cons, not_or] at h
    simp only [ops]
    rw [og_ops_out ps _ k h.2, og_op, if_neg h.1]
theorem og_ops_in : ∀ (ps l : List (Nat × Ob)) (k : Nat) (o : Ob), (namesO ps).Nodup → (k, o) ∈ ps → og (ops l ps) k = some o
  | [], l, k, o, _, h => by simp at h
  | (j, p) :: ps, l, k, o, hn, h => by
    simp only [namesO, List.nodup_cons] at hn
    simp only [ops]
    rcases List.mem_cons.1 h with h | h
    · obtain ⟨h1, h2⟩ := Prod.mk.inj h
      rw [og_ops_out ps _ k (h1 ▸ hn.1), og_op, if_pos h1, h2]
    · exact og_ops_in ps _ k o hn.2 h
theorem og_ops_cases {ps l : List (Nat × Ob)} {k : Nat} {o : Ob} (hn : (namesO ps).Nodup) (h : og (ops l ps) k = some o) : (k, o) ∈ ps ∨ (k ∉ namesO ps ∧ og l k = some o) := by
  by_cases hk : k ∈ namesO ps
  · obtain ⟨p, hp⟩ := namesO_mem.1 hk
    rw [og_ops_in ps l k p hn hp] at h
    cases h; exact .inl hp
  · rw [og_ops_out ps l k hk] at h
    exact .inr ⟨hk, h⟩

section
variable {P : Program} {cx : Ctx} {M M' : Frz} {ν : Nms} {w : World} {g : Nat → Option Ob} {Γ : Env} {sl : List AV} {ob : List (Nat × Ob)} {a : Act}

theorem Rel.lays (h : Rel Γ sl ob a w M ν) {ps : List (Nat × Ob)} {ν' : Nms} (hn : (namesO ps).Nodup) (hold : ∀ j, j ∉ namesO ps → ν' j = ν j)
    (hk : ∀ k, k ∈ namesO ps → Free sl ob k ∨ ν' k = ν k) (ho : ∀ k o, (k, o) ∈ ps → ObR M ν' w k o)
    (hm : ∀ k o b, (k, o) ∈ ps → blkV (ν' k) = some b → M b = none ∧ (Γ.w0.heap.size ≤ b ∨ b ∈ Γ.F))
    (hi : ∀ k o b, (k, o) ∈ ps → blkV (ν' k) = some b → (∀ j o', og ob j = some o' → j ∉ namesO ps → blkV (ν j) ≠ some b) ∧ (∀ j o', (j, o') ∈ ps → j ≠ k → blkV (ν' j) ≠ some b)) :
    Rel Γ sl (ops ob ps) a w M ν' := by
  have hself : ∀ j, (∃ i, j ∈ (sg sl i).nm) ∨ (∃ i cs, og ob i = some (.box cs) ∧ j ∈ AV.nmL cs) ∨ og ob j ≠ none → ν' j = ν j := by
    intro j hj
    by_cases hjn : j ∈ namesO ps
    · rcases hk j hjn with hf | hf
      · rcases hj with ⟨i, hj⟩ | ⟨i, cs, hc, hj⟩ | hj
        · exact absurd (nm_sg hj) hf.1
        · exact absurd hj (hf.2.1 i cs hc)
        · exact absurd hf.2.2 hj
      · exact hf
    · exact hold j hjn
  refine ⟨h.len, h.dfs, fun i hi => ?_, h.frz, fun j p hj => ?_, fun j p b hj hb => ?_, fun j j' p p' b hj hj' hne hb => ?_, h.kept, h.frs⟩
  · exact R_nm (fun j hj => hself j (.inl ⟨i, hj⟩)) (h.tmps i hi)
  · rcases og_ops_cases hn hj with hj | ⟨hjn, hj⟩
    · exact ho j p hj
    · have hob := h.obs j p hj
      have hs : ν' j = ν j := hold j hjn
      cases p with
      | arr nk d =>
        obtain ⟨base, cap, h1, h2, h3⟩ := hob
        exact ⟨base, cap, by rw [hs]; exact h1, h2, h3⟩
      | box cs =>
        obtain ⟨b, vs, t, h1, h2, h3⟩ := hob
        exact ⟨b, vs, t, by rw [hs]; exact h1, h2, RL_nm (fun i hi => hself i (.inr (.inl ⟨j, cs, hj, hi⟩))) h3⟩
      | map ks =>
        obtain ⟨b, es, c, h1, h2, h3⟩ := hob
        exact ⟨b, es, c, by rw [hs]; exact h1, h2, h3⟩
      | itr ks cur =>
        obtain ⟨b, h1, h2⟩ := hob
        exact ⟨b, by rw [hs]; exact h1, h2⟩
  · rcases og_ops_cases hn hj with hj | ⟨hjn, hj⟩
    · exact hm j p b hj hb
    · rw [hold j hjn] at hb; exact h.mine j p b hj hb
  · rcases og_ops_cases hn hj with hj | ⟨hjn, hj⟩
    · rcases og_ops_cases hn hj' with hj' | ⟨hjn', hj'⟩
      · exact (hi j p b hj hb).2 j' p' hj' (fun c => hne c.symm)
      · rw [hold j' hjn']; exact (hi j p b hj hb).1 j' p' hj' hjn'
    · rw [hold j hjn] at hb
      rcases og_ops_cases hn hj' with hj' | ⟨hjn', hj'⟩
      · intro c; exact (hi j' p' b hj' c).1 j p hj hjn hb
      · rw [hold j' hjn']; exact h.inj j j' p p' b hj hj' hne hb

theorem ObR.lt {k b : Nat} {o : Ob} (h : ObR M ν w k o) (hb : blkV (ν k) = some b) : b < w.heap.size := by
  cases o with
  | arr nk d =>
    obtain ⟨base, cap, h1, h2, h3⟩ := h
    rcases h3 with ⟨b', cs, e, rfl, h4, _⟩ | ⟨rfl, _⟩
    · rw [h1] at hb; cases hb
      exact (Array.getElem?_eq_some_iff.1 h4).1
    · rw [h1] at hb; cases hb
  | box cs =>
    obtain ⟨b', vs, e, h1, h2, _⟩ := h
    rw [h1] at hb; cases hb
    exact (Array.getElem?_eq_some_iff.1 h2).1
  | map ks =>
    obtain ⟨b', es, c, h1, h2, _⟩ := h
    rw [h1] at hb; cases hb
    exact (Array.getElem?_eq_some_iff.1 h2).1
  | itr ks cur =>
    obtain ⟨b', h1, h2⟩ := h
    rw [h1] at hb; cases hb
    rcases h2 with ⟨h2, _⟩ | ⟨m, es, c, seen, h2, _⟩ <;> exact (Array.getElem?_eq_some_iff.1 h2).1

theorem Frz.none_size (h : M.ok w) : M w.heap.size = none := by
  cases hm : M w.heap.size with
  | none => rfl
  | some o => have := h _ _ hm; simp at this

/-- The world with one block more. -/
def plus (w : World) (o : Obj) : World := { w with heap := w.heap.push o }
theorem plus_get (w : World) (o : Obj) : (plus w o).heap[w.heap.size]? = some o := by
  show (w.heap.push o)[w.heap.size]? = some o
  rw [Array.getElem?_push, if_pos rfl]
theorem plus_old (w : World) (o : Obj) {k : Nat} (h : k < w.heap.size) : (plus w o).heap[k]? = w.heap[k]? := Below.heap_alloc w o k h
theorem plus_kept (w : World) (o : Obj) : Kept [] w (plus w o) := ⟨rfl, rfl, rfl, by simp [plus], fun k hk _ => plus_old w o hk⟩
theorem plus_ok (h : M.ok w) (o : Obj) : M.ok (plus w o) := by
  intro k p hk
  have := h k p hk
  rw [plus_old w o (Array.getElem?_eq_some_iff.1 this).1]; exact this

/-- Nothing that the state speaks of has turned. -/
theorem Rel.grown (h : Rel Γ sl ob a w M ν) {w' : World} {M' : Frz} (hk : Kept [] w w') (hM : M.le M') (hf : M'.ok w') (hn : ∀ k, M' k ≠ M k → w.heap.size ≤ k) : Rel Γ sl ob a w' M' ν := by
  refine h.world hM hf (h.kept.trans hk (by simp)) (hfr := fun k hk => .inl (Nat.le_trans h.kept.size (hn k hk))) fun k o b ho hb => ?_
  have hlt := (h.obs k o ho).lt hb
  refine ⟨hk.block b hlt (by simp), ?_⟩
  have := (h.mine k o b ho hb).1
  by_cases e : M' b = M b
  · rw [e]; exact this
  · have := hn b e; omega

theorem Rel.plus (h : Rel Γ sl ob a w M ν) (o : Obj) : Rel Γ sl ob a (plus w o) M ν :=
  h.grown (plus_kept w o) (Frz.le_refl M) (plus_ok h.frz o) fun k hk => absurd rfl hk

theorem updN_self (ν : Nms) (k : Nat) (v : Value) : updN ν k v k = some v := by simp [updN]
theorem updN_ne (ν : Nms) {k j : Nat} (v : Value) (h : j ≠ k) : updN ν k v j = ν j := by simp [updN, h]

/-- A new block under a free name. -/
theorem Rel.new (h : Rel Γ sl ob a w M ν) {k : Nat} {o : Ob} {v : Value} {p : Obj} (hk : Free sl ob k) (hb : blkV (some v) = some w.heap.size)
    (ho : ObR M (updN ν k v) (Sx.plus w p) k o) : Rel Γ sl (op ob k o) a (Sx.plus w p) M (updN ν k v) := by
  refine (h.plus p).lay (.inl hk) ho (fun b hb' => ?_) fun j o' b hj hne hb' hbj => ?_
  · rw [hb] at hb'; cases hb'
    exact ⟨Frz.none_size h.frz, .inl h.kept.size⟩
  · rw [hb] at hb'; cases hb'
    have := (h.obs j o' hj).lt hbj
    omega

/-- A nil slice under a free name. -/
theorem Rel.newNil (h : Rel Γ sl ob a w M ν) {k : Nat} {nk : Option Bool} {d : SC} (hk : Free sl ob k) (hn : ∀ b, nk = some b → b = false) (hd : d.lenN = 0) :
    Rel Γ sl (op ob k (.arr nk d)) a w M (updN ν k (.slice none 0 0)) := by
  refine h.lay (.inl hk) ⟨none, 0, by rw [updN_self, hd], fun b hb => (by rw [hn b hb]; rfl), .inr ⟨rfl, hd, rfl⟩⟩ (fun b hb => by cases hb) fun j o' b _ _ hb => by cases hb

end
end Go.Sx

set_option linter.unusedVariables false
set_option linter.unusedSimpArgs false
namespace Go.Sx
open Go Go.RowKit

section
variable {P : Program} {cx : Ctx} {M M' : Frz} {ν : Nms} {w : World} {g : Nat → Option Ob} {Γ : Env} {sl : List AV} {ob : List (Nat × Ob)} {a : Act} {st : St}

/-- What an operation leaves: its value, the world, the state. -/
def Eff (Γ : Env) (st : St) (u : Up) (a : Act) (M : Frz) (ν : Nms) (v : Value) (w' : World) : Prop :=
  ∃ st1 M' ν', (∀ k, k ∉ u.kil → ν' k = ν k) ∧ st.freezes u.frz = some st1 ∧ M.le M' ∧ Rel Γ (st1.kills u.kil).sl (ops (st1.kills u.kil).ob u.put) a w' M' ν' ∧ R M' ν' u.val v

theorem updN_out (ν : Nms) (d : Nat) (v : Value) : ∀ k, k ∉ [d] → updN ν d v k = ν k := fun k hk => by
  have : k ≠ d := by simpa using hk
  simp [updN, this]

theorem oneV_eq {u : Value} : oneV u = u.oneCell' := by cases u <;> rfl
theorem R_one : ∀ {av : AV} {y : Value}, R M ν av y → av.one = true → y.oneCell' = true := by
  intro av y h ho
  cases av <;> simp only [AV.one, reduceCtorEq] at ho <;> simp only [R] at h
  case int => subst h; rfl
  case bool => subst h; rfl
  case c u => subst h; rw [← oneV_eq]; exact ho
  case nils => subst h; rfl
  case sl => obtain ⟨b, c, rfl, _⟩ := h; rfl
  case own => obtain ⟨_, b, n, c, rfl⟩ := h; rfl
  case sub => obtain ⟨_, _, _, _, _, _, _, _, _, _, rfl, _⟩ := h; rfl
  case ref => obtain ⟨b, _, rfl⟩ := h; rfl
  case elt => obtain ⟨b, n, c, _, _, _, rfl⟩ := h; rfl
  case adr => obtain ⟨b, n, rfl, _⟩ := h; rfl
  case snap => obtain ⟨b, vs, e, fr, rfl, _⟩ := h; rfl
  case clo => obtain ⟨vs, rfl, _⟩ := h; rfl
  case ifc => obtain ⟨u, rfl, _⟩ := h; rfl
  case mp => obtain ⟨_, b, rfl⟩ := h; rfl
  case ms => rcases h with ⟨rfl, _⟩ | ⟨b, es, c, rfl, _⟩ <;> rfl
theorem RL_one : ∀ {cs : List AV} {vs : List Value}, RL M ν cs vs → allOne cs = true → ∀ v, v ∈ vs → v.oneCell' = true
  | [], vs, h, _ => by simp [RL] at h; simp [h]
  | a :: l, vs, h, ho => by
    simp only [RL] at h
    obtain ⟨v, vs', rfl, h1, h2⟩ := h
    simp only [allOne] at ho
    obtain ⟨ho1, ho2⟩ := andB_iff.1 ho
    intro u hu
    rcases List.mem_cons.1 hu with rfl | hu
    · exact R_one h1 ho1
    · exact RL_one h2 ho2 u hu
theorem one_cells {v : Value} (h : v.oneCell' = true) : v.cells = #[v] := by cases v <;> simp [Value.oneCell'] at h <;> rfl

theorem sg_boxSet : ∀ (us cs : List AV) (f j : Nat), f + us.length ≤ cs.length → sg (boxSet cs f us) j = if f ≤ j ∧ j < f + us.length then sg us (j - f) else sg cs j
  | [], cs, f, j, _ => by simp [boxSet]; intro h1 h2; omega
  | u :: us, cs, f, j, h => by
    simp only [List.length_cons] at h
    simp only [boxSet]
    rw [sg_boxSet us (ss cs f u) (f + 1) j (by rw [ss_length]; omega), sg_ss]
    by_cases h1 : j = f
    · subst h1
      rw [if_neg (by omega), if_pos ⟨rfl, by omega⟩, if_pos (by simp), Nat.sub_self]; rfl
    · by_cases h2 : f + 1 ≤ j ∧ j < f + 1 + us.length
      · rw [if_pos h2, if_pos (by simp; omega), show j - f = (j - (f + 1)) + 1 from by omega]; rfl
      · rw [if_neg h2, if_neg (fun c => h1 c.1), if_neg (by simp; omega)]
theorem boxSet_length : ∀ (us cs : List AV) (f : Nat), (boxSet cs f us).length = cs.length
  | [], _, _ => rfl
  | u :: us, cs, f => by simp only [boxSet]; rw [boxSet_length us, ss_length]

theorem storeBox_run (hc : CtxOK P cx) {t : TypeId} {ag : Bool} {n f b : Nat} {cs cs' : List AV} {av : AV} {y : Value} {vs : Array Value} {e : TypeId} (hv : cx.vs t = some (ag, n))
    (h : storeBox cs f ag n av = some cs') (hr : RL M ν cs vs.toList) (hy : R M ν av y) (hb : w.heap[b]? = some (.cells vs e (0, 0))) :
    ∃ w' vs', (Instr.storeAt t (.pointer (some ⟨b, f, none⟩)) y).run P w = .ok () w' ∧ Turned b vs' e w w' ∧ RL M ν cs' vs'.toList := by
  have hl := RL_len hr
  simp only [Array.length_toList] at hl
  unfold storeBox at h
  split at h
  · rename_i us
    cases hand : andB (allOne us) (andB (Nat.beq us.length n) (Nat.ble (f + n) cs.length)) <;> rw [hand] at h <;> simp only [cond_true, cond_false, reduceCtorEq, Option.some.injEq] at h
    subst h
    obtain ⟨h1, h2⟩ := andB_iff.1 hand
    obtain ⟨h2, h3⟩ := andB_iff.1 h2
    have h2 := beqT.1 h2
    have h3 : f + n ≤ cs.length := by simpa using h3
    simp only [R] at hy
    obtain ⟨ys, rfl, hys⟩ := hy
    have hyl := RL_len hys
    obtain ⟨w', vs', r1, r2, r3, r4⟩ := run_storeAt hc (o := f) hv hb (y := .agg ys.toArray) (by simp [Value.cells]; omega) (by omega) (by simpa [Value.cells] using RL_one hys h1)
    refine ⟨w', vs', r1, r2, RL_of_get (by rw [boxSet_length]; simp; omega) fun i hi => ?_⟩
    rw [boxSet_length] at hi
    rw [sg_boxSet us cs f i (by omega)]
    have := r4 i
    simp only [Value.cells] at this
    rw [Array.getElem?_toList, this]
    by_cases e2 : f ≤ i ∧ i < f + us.length
    · rw [if_pos e2, if_pos (by omega)]
      simpa using RL_get (i - f) hys (by omega)
    · rw [if_neg e2, if_neg (by omega)]
      simpa using RL_get i hr hi
  · cases hand : andB av.one (Nat.blt f cs.length) <;> rw [hand] at h <;> simp only [cond_true, cond_false, reduceCtorEq, Option.some.injEq] at h
    subst h
    obtain ⟨h1, h2⟩ := andB_iff.1 hand
    have h2 : f < cs.length := by simpa using h2
    have hn := vs_one hc hv; subst hn
    have hone := R_one hy h1
    obtain ⟨w', vs', r1, r2, r3, r4⟩ := run_storeAt hc (o := f) hv hb (y := y) (by rw [one_cells hone]; rfl) (by omega) (by rw [one_cells hone]; simpa using hone)
    refine ⟨w', vs', r1, r2, RL_of_get (by rw [ss_length]; simp; omega) fun i hi => ?_⟩
    rw [ss_length] at hi
    rw [sg_ss, Array.getElem?_toList, r4 i]
    by_cases e2 : i = f
    · subst e2
      rw [if_pos (by omega), if_pos ⟨rfl, h2⟩]
      exact ⟨y, by simp [one_cells hone], hy⟩
    · rw [if_neg (by omega), if_neg (fun c => e2 c.1)]
      simpa using RL_get i hr hi
  · cases h

theorem hStore_run (hc : CtxOK P cx) (h : Rel Γ st.sl st.ob a w M ν) {t : TypeId} {av bv : AV} {x y : Value} {u : Up} {st1 : St} (hu : hStore cx (og st.ob) t [av, bv] = some u) (ho : AllT u.obl)
    (hf : st.freezes u.frz = some st1) (hx : R M ν av x) (hy : R M ν bv y) :
    ∃ w', (Instr.storeAt t x y).run P w = .ok () w' ∧ ∀ v, Eff Γ st u a M ν v w' := by
  simp only [hStore] at hu
  split at hu
  · cases hu
  · rename_i ag n hvs
    split at hu
    · rename_i k f
      cases hk : og st.ob k with
      | none => rw [hk] at hu; cases hu
      | some p =>
        rw [hk] at hu
        cases p <;> simp only [reduceCtorEq] at hu
        rename_i cs
        cases hs : storeBox cs f ag n bv <;> rw [hs] at hu <;> simp only [reduceCtorEq, Option.some.injEq] at hu
        rename_i cs'
        subst hu
        obtain ⟨b, vs, e, hν, hh, hr⟩ := h.obs k _ hk
        simp only [R] at hx
        obtain ⟨b', hν', rfl⟩ := hx
        rw [hν] at hν'; cases hν'
        obtain ⟨w', vs', r1, r2, r3⟩ := storeBox_run hc hvs hs hr hy hh
        refine ⟨w', r1, fun v => ⟨st, M, ν, (fun _ _ => rfl), rfl, Frz.le_refl M, ?_, by simp [R]⟩⟩
        exact h.turn hk hν rfl r2 ⟨b, vs', e, hν, r2.here, r3⟩
    · rename_i k wd i f
      cases hk : og st.ob k with
      | none => rw [hk] at hu; cases hu
      | some p =>
        rw [hk] at hu
        cases p <;> simp only [reduceCtorEq] at hu
        rename_i nk d
        cases hand : andB (Nat.beq wd d.wid) (andB (eqB ag (isAgg' bv)) (szOK bv n)) <;> rw [hand] at hu <;> simp only [cond_true, cond_false, reduceCtorEq] at hu
        cases hs : storeSC (og st.ob) d i f bv <;> rw [hs] at hu <;> simp only [reduceCtorEq] at hu
        rename_i r
        obtain ⟨d', ks⟩ := r
        simp only at hu
        cases hnot : notB (memN k ks) <;> rw [hnot] at hu <;> simp only [cond_true, cond_false, reduceCtorEq, Option.some.injEq] at hu
        subst hu
        obtain ⟨h1, h2⟩ := andB_iff.1 hand
        obtain ⟨h2, h3⟩ := andB_iff.1 h2
        have h1 := beqT.1 h1; subst h1
        have hkn : k ∉ ks := fun c => by rw [memN_iff.2 c] at hnot; simp [notB] at hnot
        obtain ⟨M', hM, hrel, hok, hin, hout, _⟩ := freezes_rel ks h hf
        have hk' := hout k hkn nk d hk
        obtain ⟨base, cap, hν, hn, hcase⟩ := hrel.obs k _ hk'
        simp only [R] at hx
        obtain ⟨b, n', cap', hν', h0, h4, rfl⟩ := hx
        rw [hν] at hν'; cases hν'
        rcases hcase with ⟨b', cs, e, hb, hh, hr, hcap, hsz⟩ | ⟨hb, _⟩
        · cases hb
          obtain ⟨w', cs', r1, r2, r3, r4, r5, r6⟩ := storeSC_run hc hvs h2 h3 hs hy hM hin hh hr h0 h4 hcap hsz
          refine ⟨w', r1, fun v => ⟨st1, M', ν, (fun _ _ => rfl), hf, hM, ?_, by simp [R]⟩⟩
          refine hrel.turn hk' hν rfl r2 ⟨_, cap, by rw [r5]; exact hν, hn, .inl ⟨b, cs', e, rfl, r2.here, r4, by rw [r5]; exact hcap, by rw [r6, r3]; exact hsz⟩⟩
        · cases hb
    · cases hu

/-! ### boxes -/
theorem run_box (t : TypeId) (y : Value) : (Instr.box t y).run P w = .ok (.pointer (some ⟨w.heap.size, 0, none⟩)) (plus w (.cells y.cells t)) := rfl

theorem hBox_run (hc : CtxOK P cx) (h : Rel Γ st.sl st.ob a w M ν) {gd : Bool} {dst : Option Nat} {t : TypeId} {av : AV} {y : Value} {u : Up} (hu : hBox cx gd dst t [av] = some u) (hy : R M ν av y) :
    u.frz = [] ∧ ∃ v w', (Instr.box t y).run P w = .ok v w' ∧ Eff Γ st u a M ν v w' := by
  have key : ∀ (d : Nat) (cs : List AV), RL M ν cs y.cells.toList → d ∉ AV.nmL cs → Eff Γ st ⟨.ref d 0, [(d, .box cs)], [d], [], []⟩ a M ν (.pointer (some ⟨w.heap.size, 0, none⟩)) (plus w (.cells y.cells t)) := by
    intro d cs hcs hd
    have hkill := Rel.kills st (ks := [d]) h
    have hfree := free_kills st (ks := [d]) (k := d) (.inl (by simp))
    refine ⟨st, M, updN ν d (.pointer (some ⟨w.heap.size, 0, none⟩)), updN_out _ _ _, rfl, Frz.le_refl M, ?_, ?_⟩
    · refine hkill.new hfree rfl ⟨w.heap.size, y.cells, t, updN_self _ _ _, plus_get _ _, ?_⟩
      exact RL_nm (fun j hj => updN_ne _ _ (fun e => hd (e ▸ hj))) hcs
    · simp only [R]; exact ⟨_, updN_self _ _ _, rfl⟩
  unfold hBox at hu
  split at hu
  · rename_i cs heq
    cases heq
    split at hu
    · rename_i d n hvs
      cases hand : andB (allOne cs) (notB (memN d (AV.nmL cs))) <;> rw [hand] at hu <;> simp only [cond_true, cond_false, reduceCtorEq, Option.some.injEq] at hu
      subst hu
      obtain ⟨h1, h2⟩ := andB_iff.1 hand
      simp only [R] at hy
      obtain ⟨ys, rfl, hys⟩ := hy
      refine ⟨rfl, _, _, run_box t _, key d cs (by simpa [Value.cells] using hys) fun c => ?_⟩
      rw [memN_iff.2 c] at h2; simp [notB] at h2
    · cases hu
  · rename_i v _ heq
    cases heq
    split at hu
    · rename_i d n hvs
      cases hand : andB av.one (notB (memN d av.nm)) <;> rw [hand] at hu <;> simp only [cond_true, cond_false, reduceCtorEq, Option.some.injEq] at hu
      subst hu
      obtain ⟨h1, h2⟩ := andB_iff.1 hand
      have hone := R_one hy h1
      refine ⟨rfl, _, _, run_box t _, key d [av] ?_ fun c => ?_⟩
      · rw [one_cells hone]; simp only [RL]; exact ⟨y, [], rfl, hy, rfl⟩
      · simp only [AV.nmL, List.append_nil] at c
        rw [memN_iff.2 c] at h2; simp [notB] at h2
    · cases hu
  · cases hu

end
end Go.Sx
