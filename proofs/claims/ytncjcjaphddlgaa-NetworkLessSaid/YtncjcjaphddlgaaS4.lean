/-
  The evaluator Sx and its seat table, several parts in one text. No condition beyond those that each theorem names.
-/
import Derived.Test.YtncjcjaphddlgaaS3
import Derived.Laws.Externs
import Derived.Orders
set_option linter.unusedVariables false
set_option linter.unusedSimpArgs false
namespace Go.Sx
open Go Go.RowKit

section
variable {P : Program} {cx : Ctx} {F : Fns} {M M' : Frz} {ν : Nms} {w w' : World} {g : Nat → Option Ob} {Γ : Env} {sl : List AV} {ob : List (Nat × Ob)} {a : Act} {st : St}

theorem allBut_le {w : World} {B : List Nat} (hok : M.ok w) (hB : ∀ b, b ∈ B → M b = none) : M.le (allBut w B) := by
  intro k o hk
  by_cases hkB : k ∈ B
  · rw [hB k hkB] at hk; cases hk
  · simp [allBut, hkB, hok k o hk]
theorem allBut_ok {w : World} {B : List Nat} : (allBut w B).ok w := by
  intro k o hk
  by_cases hkB : k ∈ B
  · simp [allBut, hkB] at hk
  · simpa [allBut, hkB] using hk

theorem without_some {ks : List Nat} {k : Nat} {o : Ob} (h : without g ks k = some o) : k ∉ ks ∧ g k = some o := by
  unfold without at h
  cases hm : memN k ks with
  | true => rw [hm] at h; cases h
  | false =>
    rw [hm] at h
    exact ⟨fun c => (by rw [memN_iff.2 c] at hm; cases hm), h⟩

/-- A call, up to the landing of what it brings. -/
theorem call_mid (h : Rel Γ st.sl st.ob a w M ν) {f : Nat} (hf : FnOK P f (F f)) {mu : List Nat} {args bs : List AV} {vs : List Value} {ks : List Nat} {r : Res} (hv : RL M ν args vs)
    (hk : ownK mu (og st.ob) 0 args = some ks) (hn : ks.Nodup) (hb : bargs mu (og st.ob) (without (og st.ob) ks) 0 args = some bs) (hr : F f bs = some r) (ho : AllT r.obl)
    (hind : (ks = [] ∧ refN mu 0 args = []) ∨ (r.val.ind = true ∧ AV.indL r.outs = true)) : Has (og st.ob) ks ∧ Calls P f vs.toArray w (returns (After M w (bks ν ks) r.val r.outs vs)) := by
  have hmine : ∀ ks', Has (og st.ob) ks' → ∀ b, b ∈ bks ν ks' → M b = none := by
    intro ks' hh b hb
    obtain ⟨j, hj, hjb⟩ := bks_mem.1 hb
    obtain ⟨o', ho'⟩ := hh j hj
    exact (h.mine j o' b ho' hjb).1
  rcases hind with ⟨rfl, href⟩ | ⟨hi1, hi2⟩
  · rw [bargs_nameless mu _ (fun _ => none) href] at hb
    obtain ⟨x, y⟩ := bargs_ok (Frz.le_refl M) h.obs mu (gr := fun _ => none) (fun k o hk => by cases hk) hk hb hv
    refine ⟨y, ?_⟩
    exact hf bs r hr ho w M vs _ h.frz x (bks_nodup h hn y) (hmine _ y)
  · have hhas : Has (og st.ob) ks := by
      have : ∀ {i : Nat} {l : List AV} {vs : List Value} {ks : List Nat}, ownK mu (og st.ob) i l = some ks → RL M ν l vs → Has (og st.ob) ks := by
        intro i l
        induction l generalizing i with
        | nil => intro vs ks hk _; simp only [ownK, Option.some.injEq] at hk; subst hk; exact Has.nil
        | cons a l ih =>
          intro vs ks hk hv
          simp only [RL] at hv
          obtain ⟨v, vs', rfl, h1, h2⟩ := hv
          simp only [ownK] at hk
          cases ho : ownK mu (og st.ob) (i + 1) l with
          | none => rw [ho] at hk; cases hk
          | some js =>
            rw [ho] at hk
            simp only at hk
            cases hm : memN i mu with
            | false => rw [hm] at hk; simp only [cond_false, Option.some.injEq] at hk; subst hk; exact ih ho h2
            | true =>
              rw [hm] at hk
              simp only [cond_true] at hk
              cases hx : a.ex (og st.ob) with
              | none => rw [hx] at hk; cases hk
              | some p =>
                obtain ⟨b, k⟩ := p
                rw [hx] at hk
                simp only [Option.some.injEq] at hk
                subst hk
                exact (ex_ok h.obs hx h1).2.append (ih ho h2)
      exact this hk hv
    have hm := hmine _ hhas
    have hle := allBut_le (B := bks ν ks) h.frz hm
    obtain ⟨x, y⟩ := bargs_ok hle h.obs mu (gr := without (og st.ob) ks) (fun k o hk => by
      obtain ⟨h1, h2⟩ := without_some hk
      refine ⟨h.obs k o h2, fun b hb => ?_⟩
      have : b ∉ bks ν ks := fun c => by
        obtain ⟨j, hj, hjb⟩ := bks_mem.1 c
        obtain ⟨o', ho'⟩ := hhas j hj
        exact h.inj k j o o' b h2 ho' (fun e => h1 (e ▸ hj)) hb hjb
      simp [allBut, this]) hk hb hv
    refine ⟨y, (hf bs r hr ho w _ vs _ allBut_ok x (bks_nodup h hn y) fun b hb => by simp [allBut, hb]).mono fun e w' he => ?_⟩
    cases e with
    | panicked _ => exact he
    | outgrown => exact he
    | returned v =>
      obtain ⟨M', F1, F2, z1, z2, z3, z4, z5, z6, z7, z8⟩ := he
      refine ⟨M, F1, F2, Frz.le_refl M, ?_, fun k hk => absurd rfl hk, z4.ind hi1, z5.ind hi2, z6, fun b hb => ?_, z8⟩
      · intro k o hk
        have h1 := h.frz k o hk
        rw [z8.block k (Array.getElem?_eq_some_iff.1 h1).1 fun c => by rw [hm k c] at hk; cases hk]
        exact h1
      · obtain ⟨_, y2⟩ := z7 b hb
        refine ⟨?_, y2⟩
        rcases y2 with y2 | y2
        · cases hmb : M b with
          | none => rfl
          | some o =>
            have := (Array.getElem?_eq_some_iff.1 (h.frz b o hmb)).1
            omega
        · exact hm b y2

theorem callA_run (hF : ∀ f, f ∈ cx.fs → FnOK P f (F f)) (h : Rel Γ st.sl st.ob a w M ν) {gd : Bool} {dst : Option Nat} {f : Nat} {args : List AV} {vs : List Value} {u : Up} (hv : RL M ν args vs)
    (hu : callA cx F (og st.ob) gd dst f args = some u) (ho : AllT u.obl) : u.frz = [] ∧ Calls P f vs.toArray w (returns fun v w' => Eff Γ st u a M ν v w') := by
  unfold callA at hu
  cases hfm : memN f cx.fs <;> rw [hfm] at hu <;> simp only [cond_true, cond_false, reduceCtorEq] at hu
  have hfok := hF f (memN_iff.1 hfm)
  cases hk : ownK (cx.mu f) (og st.ob) 0 args <;> rw [hk] at hu <;> simp only [reduceCtorEq] at hu
  rename_i ks
  cases hn : nodupN ks <;> rw [hn] at hu <;> simp only [cond_true, cond_false, reduceCtorEq] at hu
  have hn := nodupN_iff.1 hn
  cases hb : bargs (cx.mu f) (og st.ob) (without (og st.ob) ks) 0 args <;> rw [hb] at hu <;> simp only [reduceCtorEq] at hu
  rename_i bs
  cases hr : F f bs <;> rw [hr] at hu <;> simp only [reduceCtorEq] at hu
  rename_i r
  cases hor : orB (andB (emptyN ks) (emptyN (refN (cx.mu f) 0 args))) (andB r.val.ind (AV.indL r.outs)) <;> rw [hor] at hu <;> simp only [cond_true, cond_false, reduceCtorEq] at hu
  have hind : (ks = [] ∧ refN (cx.mu f) 0 args = []) ∨ (r.val.ind = true ∧ AV.indL r.outs = true) := by
    rcases orB_iff.1 hor with e | e
    · obtain ⟨e1, e2⟩ := andB_iff.1 e; exact .inl ⟨emptyN_iff.1 e1, emptyN_iff.1 e2⟩
    · exact .inr (andB_iff.1 e)
  cases gd with
  | true =>
    simp only at hu
    cases hke : emptyN ks <;> rw [hke] at hu <;> simp only [cond_true, cond_false, reduceCtorEq] at hu
    have hke := emptyN_iff.1 hke; subst hke
    cases hro : r.val.rdO <;> rw [hro] at hu <;> simp only [reduceCtorEq, Option.some.injEq] at hu
    rename_i v0
    subst hu
    obtain ⟨hhas, hcall⟩ := call_mid h hfok hv hk hn hb hr ho hind
    refine ⟨rfl, hcall.mono fun e w' he => ?_⟩
    cases e with
    | panicked _ => exact he
    | outgrown => exact he
    | returned v =>
      obtain ⟨M', F1, F2, z1, z2, z3, z4, z5, z6, z7, z8⟩ := he
      obtain ⟨M3, y1, y2, y3, y4⟩ := RBT_rdO hro z4 fun b hb => (z7 b (by simp [hb])).1
      refine ⟨st, M3, ν, fun _ _ => rfl, rfl, Frz.le_trans z1 y1, ?_, R_0 y4⟩
      refine h.grown (by simpa [bks] using z8) (Frz.le_trans z1 y1) (fun k o hk => (y3 k o hk).elim (z2 k o) id) fun k hk => ?_
      by_cases e : M3 k = M' k
      · rw [e] at hk
        rcases z3 k hk with c | c
        · exact c
        · simp [bks] at c
      · rcases (z7 k (by simp [y2 k e])).2 with c | c
        · exact c
        · simp [bks] at c
  | false =>
    simp only at hu
    cases hbl : backL (cx.mu f) 0 args r.outs <;> rw [hbl] at hu <;> simp only [reduceCtorEq] at hu
    rename_i p
    obtain ⟨qs, js⟩ := p
    simp only at hu
    cases dst with
    | some d =>
      simp only at hu
      cases hnd : nodupN (namesO ((r.val.adT d).2 ++ qs)) <;> rw [hnd] at hu <;> simp only [cond_true, cond_false, reduceCtorEq, Option.some.injEq] at hu
      have hnd := nodupN_iff.1 hnd
      subst hu
      obtain ⟨hhas, hcall⟩ := call_mid h hfok hv hk hn hb hr ho hind
      refine ⟨rfl, hcall.mono fun e w' he => ?_⟩
      cases e with
      | panicked _ => exact he
      | outgrown => exact he
      | returned v =>
        obtain ⟨M', F1, F2, z1, z2, z3, z4, z5, z6, z7, z8⟩ := he
        obtain ⟨h1, a1⟩ := adT_ok d z4
        obtain ⟨h2, F3, a2, hs1, hs2, hcov⟩ := backL_ok h.obs hbl hv z5 hk
        obtain ⟨n1, n2, n3⟩ := List.nodup_append.1 z6
        obtain ⟨ν', e1, e2, e3⟩ := land h hhas z1 z2 z3 z8 a1 a2 hnd (List.nodup_append.2 ⟨n1, hs2 n2, fun b hb c hc => n3 b hb c (hs1 c hc)⟩)
          (fun b hb => z7 b (by
            rcases List.mem_append.1 hb with hb | hb
            · simp [hb]
            · simp [hs1 b hb])) (kil := namesO (r.val.adT d).2 ++ (nestedL (cx.mu f) (og st.ob) 0 args ++ js)) (fun k hk => by
              rcases hk with hk | hk <;> simp [hk]) (fun k hk => by
              rcases hcov k hk with c | c
              · exact .inl c
              · right; simp only [List.mem_append] at c ⊢; rcases c with c | c <;> simp [c])
        exact ⟨st, M', ν', e1, rfl, z1, e3, e2⟩
    | none =>
      simp only at hu
      cases hnd : nodupN (namesO qs) <;> rw [hnd] at hu <;> simp only [cond_true, cond_false, reduceCtorEq, Option.some.injEq] at hu
      have hnd := nodupN_iff.1 hnd
      subst hu
      obtain ⟨hhas, hcall⟩ := call_mid h hfok hv hk hn hb hr ho hind
      refine ⟨rfl, hcall.mono fun e w' he => ?_⟩
      cases e with
      | panicked _ => exact he
      | outgrown => exact he
      | returned v =>
        obtain ⟨M', F1, F2, z1, z2, z3, z4, z5, z6, z7, z8⟩ := he
        obtain ⟨h2, F3, a2, hs1, hs2, hcov⟩ := backL_ok h.obs hbl hv z5 hk
        obtain ⟨n1, n2, n3⟩ := List.nodup_append.1 z6
        obtain ⟨ν', e1, e2, e3⟩ := land h hhas z1 z2 z3 z8 (ps := []) (F1 := []) (h1 := []) (Q := fun _ => True) (Ads.nil fun _ => trivial) a2 hnd (hs2 n2)
          (fun b hb => z7 b (by
            have hb : b ∈ F3 := by simpa using hb
            simp [hs1 b hb])) (kil := nestedL (cx.mu f) (og st.ob) 0 args ++ js) (fun k hk => by
              rcases hk with hk | hk
              · simp [namesO] at hk
              · simp [hk]) (fun k hk => hcov k hk)
        exact ⟨st, M', ν', e1, rfl, z1, e3, by simp [R]⟩

end
end Go.Sx

set_option linter.unusedVariables false
set_option linter.unusedSimpArgs false
namespace Go.Sx
open Go Go.RowKit

section
variable {P : Program} {cx : Ctx} {F : Fns} {M M' : Frz} {ν : Nms} {w w' : World} {g : Nat → Option Ob} {Γ : Env} {sl : List AV} {ob : List (Nat × Ob)} {a : Act} {st : St}

/-- What an operation comes to. -/
def OpRun (P : Program) (Q : Value → World → Prop) : Result Next → Prop
  | .ok (.value v) w' => Q v w'
  | .ok .skip w' => Q undef w'
  | .ok (.enter f args) w' => Calls P f args w' (returns Q)
  | _ => False

theorem run_callFunc {f : Nat} (hc : CtxOK P cx) (hf : f ∈ cx.fs) (args : Array Value) (w : World) : (callFunc f args).run P w = .ok (.enter f args) w := by
  obtain ⟨fn, h1, h2, h3⟩ := hc.fs f hf
  have h4 : fn.body.isNone = false := by cases hb : fn.body <;> simp [hb] at h3 ⊢
  simp only [callFunc, Sem.run_bind, run_program, Result.andThen, h1, h2, h4]
  simp

theorem callA_fs {f : Nat} {gd : Bool} {dst : Option Nat} {args : List AV} {u : Up} (hu : callA cx F g gd dst f args = some u) : f ∈ cx.fs := by
  unfold callA at hu
  cases hfm : memN f cx.fs with
  | true => exact memN_iff.1 hfm
  | false => rw [hfm] at hu; cases hu

theorem run_call (hc : CtxOK P cx) (hF : ∀ f, f ∈ cx.fs → FnOK P f (F f)) (h : Rel Γ st.sl st.ob a w M ν) {gd : Bool} {dst : Option Nat} {f : Nat} {args : List AV} {vs : List Value} {xs : Array Value} {u : Up}
    (hv : RL M ν args vs) (hu : callA cx F (og st.ob) gd dst f args = some u) (ho : AllT u.obl) (hx : xs = vs.toArray) :
    u.frz = [] ∧ OpRun P (fun v w' => Eff Γ st u a M ν v w') ((callFunc f xs).run P w) := by
  subst hx
  rw [run_callFunc hc (callA_fs hu)]
  exact callA_run hF h hv hu ho

theorem RL_append {M : Frz} {ν : Nms} : ∀ {a b : List AV} {x y : List Value}, RL M ν a x → RL M ν b y → RL M ν (a ++ b) (x ++ y)
  | [], b, x, y, h1, h2 => by simp only [RL] at h1; subst h1; exact h2
  | a :: l, b, x, y, h1, h2 => by
    simp only [RL] at h1
    obtain ⟨v, vs', rfl, h3, h4⟩ := h1
    exact ⟨v, vs' ++ y, rfl, h3, RL_append h4 h2⟩

theorem run_methodVia (hc : CtxOK P cx) {t : Nat} {m : String} {f : Nat} {p : Bool} (hm : cx.mt t m = some (f, p)) (r : Value) (hp : p = true) (w : World) (n : Nat) :
    (method (n + 1) t r m).run P w = .ok (f, r) w := by
  subst hp
  obtain ⟨i, me, p', d, h1, h2, h3, h4, h5, h6, h7⟩ := hc.mt t m f true hm
  have h6 := h6 rfl
  simp only [method, Sem.run_bind, run_ti h1, Result.andThen, h2, h3, h4, follow, Sem.run_pure, receiverAt, run_und h5]
  cases d <;> (try simp only at h6) <;> subst h6 <;> simp [Place.get, Result.andThen]

theorem hCall_run (hc : CtxOK P cx) (hF : ∀ f, f ∈ cx.fs → FnOK P f (F f)) (h : Rel Γ st.sl st.ob a w M ν) {gd : Bool} {dst : Option Nat} {c : Call} {ty : TypeId} {vs : List AV} {u : Up}
    {xs : List Operand} (hx : opnds (.call c) = some xs) (hu : hCall cx F (og st.ob) gd dst c vs = some u) (ho : AllT u.obl) (hv : RL M ν vs (xs.map a.eval)) :
    u.frz = [] ∧ OpRun P (fun v w' => Eff Γ st u a M ν v w') ((do let d ← resolve a.eval c ty; invoke d.target d.args : Sem Next).run P w) := by
  unfold hCall at hu
  simp only [opnds] at hx
  have hmap : (c.args.map a.eval) = (c.args.toList.map a.eval).toArray := by apply Array.toList_inj.1; rw [Array.toList_map]
  cases hcal : c.callee with
  | value fo =>
    rw [hcal] at hu hx
    simp only [Option.some.injEq] at hx hu
    subst hx
    split at hu
    · rename_i f cs args
      simp only [List.map_cons, RL, R] at hv
      obtain ⟨v, vs', he, ⟨us, rfl, hus⟩, h2⟩ := hv
      obtain ⟨e1, e2⟩ := List.cons.inj he
      subst e2
      have hxs : (#[] ++ c.args.map a.eval ++ us.toArray) = (c.args.toList.map a.eval ++ us).toArray := by
        apply Array.toList_inj.1; simp
      have := run_call hc hF h (RL_append h2 hus) hu ho hxs
      simpa only [resolve, hcal, e1, Deferred.ofValue, Sem.run_bind, Sem.run_pure, Result.andThen, invoke] using this
    · cases hu
  | builtin b =>
    rw [hcal] at hu hx
    simp only [Option.some.injEq] at hx hu
    subst hx
    have key : ∀ u', builtinA (og st.ob) cx dst b c.argTypes.toList vs = some u' → u' = u → u.frz = [] ∧ OpRun P (fun v w' => Eff Γ st u a M ν v w') ((do let d ← resolve a.eval c ty; invoke d.target d.args : Sem Next).run P w) := by
      rintro u' hu' rfl
      simp only [resolve, hcal, Sem.run_bind, Sem.run_pure, Result.andThen, invoke]
      generalize (Array.map _ c.args : Array Bool) = cs
      obtain ⟨h1, v, w', h2, h3, _⟩ := builtinA_run (ty := ty) (cs := cs) hc h hu' ho hv
      refine ⟨h1, ?_⟩
      rw [← hmap] at h2
      rw [h2]
      exact h3
    cases gd with
    | false => exact key u hu rfl
    | true =>
      cases b <;> simp only [reduceCtorEq] at hu
      all_goals exact key u hu rfl
  | invoke rv m =>
    rw [hcal] at hu hx
    simp only [Option.some.injEq] at hx hu
    subst hx
    split at hu
    · rename_i t r args
      simp only [List.map_cons] at hv
      simp only [RL] at hv
      obtain ⟨v, vs', he, hv1, h2⟩ := hv
      obtain ⟨e1, e2⟩ := List.cons.inj he
      subst e2
      have hv1' : ∃ u, v = .iface t u ∧ R M ν r u := by simpa only [R] using hv1
      obtain ⟨rr, rfl, hr⟩ := hv1'
      have hargs : (Array.extract (#[Value.iface t rr] ++ Array.map a.eval c.args) 1 (#[Value.iface t rr] ++ Array.map a.eval c.args).size) = (c.args.toList.map a.eval).toArray := by
        apply Array.toList_inj.1
        simp [Array.toList_extract, List.extract]
        rw [List.take_of_length_le (by simp)]
      have step : ∀ f rr', (∀ n, (method (n + 1) t rr m).run P w = .ok (f, rr') w) →
          (do let d ← resolve a.eval c ty; invoke d.target d.args : Sem Next).run P w = (callFunc f (#[rr'] ++ (c.args.toList.map a.eval).toArray)).run P w := by
        intro f rr' hmth
        have hmth' : (method (P.types.size + Made.depth) t rr m).run P w = .ok (f, rr') w := by
          rw [show P.types.size + Made.depth = (P.types.size + 99) + 1 from by simp [Made.depth]]
          exact hmth _
        simp only [resolve, hcal, e1, Sem.run_bind, Sem.run_pure, Result.andThen, invoke]
        have h0 : (#[Value.iface t rr] ++ Array.map a.eval c.args)[0]? = some (.iface t rr) := by
          rw [Array.getElem?_append]; simp
        rw [h0]
        simp only [callMethod, hargs, Sem.run_bind, run_program, Result.andThen, hmth']
      split at hu
      · rename_i f hmt
        rw [step f rr fun n => run_methodVia hc hmt rr rfl w n]
        exact run_call hc hF h (args := r :: args) (vs := rr :: c.args.toList.map a.eval) ⟨rr, _, rfl, hr, h2⟩ hu ho (by simp)
      · rename_i f hmt
        obtain ⟨i, me, p', d, m1, m2, m3, m4, m5, m6, m7⟩ := hc.mt t m f false hmt
        obtain ⟨e, rfl, rfl, n, hvs⟩ := m7 rfl
        have meth : ∀ (b : Nat) (y : Value), rr = .pointer (some ⟨b, 0, none⟩) → w.cell? ⟨b, 0, none⟩ = some y → ∀ n, (method (n + 1) t rr m).run P w = .ok (f, y) w := by
          intro b y hrr hcell n
          subst hrr
          have hpath : me.path.isEmpty = true := by rw [m3]; rfl
          simp only [method, Sem.run_bind, run_ti m1, Result.andThen, m2, m3, m4, follow, Sem.run_pure, receiverAt, run_und m5, Place.get, hpath]
          have hchk : ∀ nm : String, Builtin.ssaWrapNilChk_ #[t] t #[.pointer (some ⟨b, 0, none⟩), strVal "", strVal nm] = pure (.pointer (some ⟨b, 0, none⟩)) := fun _ => rfl
          simp [hchk, asAddr, loadVar, run_isAgg hc hvs, Result.andThen, hcell]
        split at hu
        · rename_i k
          cases hk : og st.ob k with
          | none => rw [hk] at hu; cases hu
          | some o =>
            rw [hk] at hu
            split at hu
            · rename_i v0 heq
              cases heq
              cases hone : v0.one <;> rw [hone] at hu <;> simp only [cond_true, cond_false, reduceCtorEq] at hu
              obtain ⟨b, ys, ee, hν, hh, hr0⟩ := h.obs k _ hk
              simp only [R] at hr
              obtain ⟨b', hν', hrr⟩ := hr
              rw [hν] at hν'; cases hν'
              simp only [RL] at hr0
              obtain ⟨y, ys', hys, hy, rfl⟩ := hr0
              rw [step f y (meth b y hrr (by simp [World.cell?, hh]; rw [← Array.getElem?_toList, hys]; rfl))]
              exact run_call hc hF h (args := v0 :: args) (vs := y :: c.args.toList.map a.eval) ⟨y, _, rfl, hy, h2⟩ hu ho (by simp)
            · cases hu
        · rename_i v0
          cases hone : v0.one <;> rw [hone] at hu <;> simp only [cond_true, cond_false, reduceCtorEq] at hu
          have hr' : ∃ b vs e fr, rr = .pointer (some ⟨b, 0, none⟩) ∧ M b = some (.cells vs e fr) ∧ RL M ν [v0] vs.toList := by simpa only [R] using hr
          obtain ⟨b, ys, ee, fr, hrr, hMb, hr0⟩ := hr'
          simp only [RL] at hr0
          obtain ⟨y, ys', hys, hy, rfl⟩ := hr0
          rw [step f y (meth b y hrr (Frz.cell_ok h.frz (by rw [Frz.cell_mem hMb, ← Array.getElem?_toList, hys]; rfl)))]
          exact run_call hc hF h (args := v0 :: args) (vs := y :: c.args.toList.map a.eval) ⟨y, _, rfl, hy, h2⟩ hu ho (by simp)
        · cases hu
      · cases hu
    · cases hu

end
end Go.Sx

set_option linter.unusedVariables false
set_option linter.unusedSimpArgs false
namespace Go.Sx
open Go Go.RowKit

section
variable {P : Program} {cx : Ctx} {F : Fns} {M M' : Frz} {ν : Nms} {w w' : World} {g : Nat → Option Ob} {Γ : Env} {sl : List AV} {ob : List (Nat × Ob)} {a : Act} {st : St}

theorem run_v {s : Sem Value} {v : Value} (h : s.run P w = .ok v w') : (do pure (Next.value (← s)) : Sem Next).run P w = .ok (.value v) w' := by
  simp only [Sem.run_bind, h, Result.andThen, Sem.run_pure]
theorem run_u {s : Sem Unit} (h : s.run P w = .ok () w') : (do s; pure Next.skip : Sem Next).run P w = .ok .skip w' := by
  simp only [Sem.run_bind, h, Result.andThen, Sem.run_pure]
theorem Eff_pure' (h : Rel Γ st.sl st.ob a w M ν) {u : Up} {x : Value} (h1 : u.put = []) (h2 : u.kil = []) (h3 : u.frz = []) (hv : R M ν u.val x) : Eff Γ st u a M ν x w := by
  obtain ⟨v, p, k, f, o⟩ := u
  simp only at h1 h2 h3 hv
  subst h1 h2 h3
  exact Eff_pure h hv

theorem byRow_eq {r : Option (AV × List Bool)} {u : Up} (h : byRow r = some u) : ∃ v o, r = some (v, o) ∧ u = ⟨v, [], [], [], o⟩ := by
  unfold byRow at h
  cases r with
  | none => cases h
  | some p =>
    obtain ⟨v, o⟩ := p
    simp only [up0, Option.some.injEq] at h
    exact ⟨v, o, rfl, h.symm⟩

theorem RL1 {cs : List AV} {x : Value} {vs : List Value} (h : RL M ν cs (x :: vs)) : ∃ a l, cs = a :: l ∧ R M ν a x ∧ RL M ν l vs := by
  cases cs with
  | nil => simp [RL] at h
  | cons a l =>
    simp only [RL] at h
    obtain ⟨v, vs', e, h1, h2⟩ := h
    cases e
    exact ⟨a, l, rfl, h1, h2⟩
theorem RL0 {cs : List AV} (h : RL M ν cs []) : cs = [] := by
  cases cs with
  | nil => rfl
  | cons a l =>
    simp only [RL] at h
    obtain ⟨v, vs', e, _⟩ := h
    cases e

theorem evUp_run (hc : CtxOK P cx) (hF : ∀ f, f ∈ cx.fs → FnOK P f (F f)) (h : Rel Γ st.sl st.ob a w M ν) {gd : Bool} {o : Oper} {vs : List AV} {u : Up} {xs : List Operand} {st1 : St}
    (hx : opnds o.op = some xs) (hu : evUp cx F (og st.ob) gd o.dst o.type o.op vs = some u) (ho : AllT u.obl) (hf : st.freezes u.frz = some st1) (hv : RL M ν vs (xs.map a.eval))
    (hnp : ∀ c x y, o.op ≠ .pick c x y) : OpRun P (fun v w' => Eff Γ st u a M ν v w') ((execOp a.eval o).run P w) := by
  cases hop : o.op <;> rw [hop] at hx hu <;> simp only [opnds, evUp, reduceCtorEq, Option.some.injEq] at hx hu
  case pick => exact absurd hop (hnp _ _ _)
  case move x =>
    subst hx
    have he : (execOp a.eval o).run P w = .ok (.value (a.eval x)) w := by unfold execOp; rw [hop]; rfl
    rw [he]
    simp only [List.map_cons, List.map_nil] at hv
    obtain ⟨av, l, rfl, h1, h2⟩ := RL1 hv
    have := RL0 h2; subst this
    simp only [hMove, up0, Option.some.injEq] at hu
    subst hu
    exact Eff_pure h h1
  case assign x =>
    subst hx
    have he : (execOp a.eval o).run P w = .ok (.value (a.eval x)) w := by unfold execOp; rw [hop]; rfl
    rw [he]
    simp only [List.map_cons, List.map_nil] at hv
    obtain ⟨av, l, rfl, h1, h2⟩ := RL1 hv
    have := RL0 h2; subst this
    unfold hAssign at hu
    split at hu
    · rename_i heq
      cases heq
      have hx : a.eval x = .slice none 0 0 := by simpa only [R] using h1
      split at hu
      · rename_i d ek hd hsk
        simp only [Option.some.injEq] at hu
        subst hu
        show Eff Γ st _ a M ν (a.eval x) w
        rw [hx]
        refine ⟨st, M, updN ν d (.slice none 0 0), updN_out _ _ _, rfl, Frz.le_refl M, ?_, ?_⟩
        · exact (Rel.kills st (ks := [d]) h).newNil (free_kills st (ks := [d]) (k := d) (.inl (by simp))) (fun b hb => by cases hb; rfl) (empty_len ek)
        · simp only [R]; exact ⟨updN_self _ _ _, _, _, _, rfl⟩
      · simp only [up0, Option.some.injEq] at hu
        subst hu
        exact Eff_pure h h1
    · rename_i heq
      cases heq
      simp only [up0, Option.some.injEq] at hu
      subst hu
      exact Eff_pure h h1
    · cases hu
  case alloc t =>
    subst hx
    have := RL0 hv; subst this
    obtain ⟨h1, v, w', h2, h3⟩ := hAlloc_run hc h hu
    have he : (execOp a.eval o).run P w = .ok (.value v) w' := by unfold execOp; rw [hop]; exact run_v h2
    rw [he]; exact h3
  case box t x =>
    subst hx
    simp only [List.map_cons, List.map_nil] at hv
    obtain ⟨av, l, rfl, h1, h2⟩ := RL1 hv
    have := RL0 h2; subst this
    obtain ⟨_, v, w', h2, h3⟩ := hBox_run hc h hu h1
    have he : (execOp a.eval o).run P w = .ok (.value v) w' := by unfold execOp; rw [hop]; exact run_v h2
    rw [he]; exact h3
  case build t ps =>
    subst hx
    obtain ⟨h1, h2, h3, v, h4, h5⟩ := hBuild_run (w := w) hc hu hv
    have he : (execOp a.eval o).run P w = .ok (.value v) w := by unfold execOp; rw [hop]; exact run_v h4
    rw [he]; exact Eff_pure' h h1 h2 h3 h5
  case buildSlice t n ps =>
    subst hx
    obtain ⟨v, w', h1, h2, h3⟩ := hLit_run hc h hu hf (hc.wd t) hv
    have he : (execOp a.eval o).run P w = .ok (.value v) w' := by unfold execOp; rw [hop]; exact run_v h1
    rw [he]
    cases gd with
    | false => exact h3 rfl
    | true =>
      obtain ⟨e1, e2, e3, M', e4, e5, e6, e7, e8⟩ := h2 rfl
      obtain ⟨uv, p, k, f, ob⟩ := u
      simp only at e1 e2 e3 e8
      subst e1 e2 e3
      exact ⟨st, M', ν, fun _ _ => rfl, rfl, e4, h.grown e5 e4 e6 e7, e8⟩
  case load t x =>
    subst hx
    simp only [List.map_cons, List.map_nil] at hv
    obtain ⟨av, l, rfl, h1, h2⟩ := RL1 hv
    have := RL0 h2; subst this
    obtain ⟨e1, e2, e3, v, e4, e5⟩ := hLoad_run hc hu ho h1 h.obs h.frz
    have he : (execOp a.eval o).run P w = .ok (.value v) w := by unfold execOp; rw [hop]; exact run_v e4
    rw [he]; exact Eff_pure' h e1 e2 e3 e5
  case store t x y =>
    subst hx
    simp only [List.map_cons, List.map_nil] at hv
    obtain ⟨av, l, rfl, h1, h2⟩ := RL1 hv
    obtain ⟨bv, l, rfl, h3, h4⟩ := RL1 h2
    have := RL0 h4; subst this
    obtain ⟨w', e1, e2⟩ := hStore_run hc h hu ho hf h1 h3
    have he : (execOp a.eval o).run P w = .ok .skip w' := by unfold execOp; rw [hop]; exact run_u e1
    rw [he]; exact e2 undef
  case nilCheck x =>
    subst hx
    simp only [List.map_cons, List.map_nil] at hv
    obtain ⟨av, l, rfl, h1, h2⟩ := RL1 hv
    have := RL0 h2; subst this
    have key : (∃ ad, a.eval x = .pointer (some ad)) ∨ (∃ t y, a.eval x = .iface t y) → (execOp a.eval o).run P w = .ok (.value (a.eval x)) w := by
      rintro (⟨ad, e⟩ | ⟨t, y, e⟩) <;> unfold execOp <;> rw [hop] <;> simp only [e] <;> rfl
    unfold hNil at hu
    split at hu <;> simp only [up0, reduceCtorEq, Option.some.injEq] at hu
    all_goals
      rename_i heq
      cases heq
      subst hu
    · have h1' := h1
      simp only [R] at h1'
      obtain ⟨b, _, e⟩ := h1'
      rw [key (.inl ⟨_, e⟩)]; exact Eff_pure h h1
    · have h1' := h1
      simp only [R] at h1'
      obtain ⟨b, _, _, _, _, _, e⟩ := h1'
      rw [key (.inl ⟨_, e⟩)]; exact Eff_pure h h1
    · have h1' := h1
      simp only [R] at h1'
      obtain ⟨b, _, _, _, e, _⟩ := h1'
      rw [key (.inl ⟨_, e⟩)]; exact Eff_pure h h1
    · have h1' := h1
      simp only [R] at h1'
      obtain ⟨b, _, e, _⟩ := h1'
      rw [key (.inl ⟨_, e⟩)]; exact Eff_pure h h1
    · have h1' := h1
      simp only [R] at h1'
      obtain ⟨b, e, _⟩ := h1'
      rw [key (.inr ⟨_, _, e⟩)]; exact Eff_pure h h1
  case binOp b t x y pos =>
    subst hx
    simp only [List.map_cons, List.map_nil] at hv
    obtain ⟨av, l, rfl, h1, h2⟩ := RL1 hv
    obtain ⟨bv, l, rfl, h3, h4⟩ := RL1 h2
    have := RL0 h4; subst this
    simp only [hBin] at hu
    obtain ⟨r, ob, hb, rfl⟩ := byRow_eq hu
    obtain ⟨v, e1, e2⟩ := binA_run (ox := x) (oy := y) (w := w) hc hb ho h1 h3 h.obs
    have he : (execOp a.eval o).run P w = .ok (.value v) w := by unfold execOp; rw [hop]; exact run_v e1
    rw [he]; exact Eff_pure h e2
  case unOp un t x =>
    subst hx
    simp only [List.map_cons, List.map_nil] at hv
    obtain ⟨av, l, rfl, h1, h2⟩ := RL1 hv
    have := RL0 h2; subst this
    unfold hUn at hu
    split at hu
    · rename_i b heq
      cases heq
      split at hu <;> simp only [up0, reduceCtorEq, Option.some.injEq] at hu
      subst hu
      have h1' : a.eval x = .bool b := by simpa only [R] using h1
      have he : (execOp a.eval o).run P w = .ok (.value (.bool (notB b))) w := by unfold execOp; rw [hop]; exact run_v (by simp [Op.unary, h1', notB])
      rw [he]; exact Eff_pure h (by simp [R])
    · rename_i k n heq
      cases heq
      split at hu <;> simp only [up0, reduceCtorEq, Option.some.injEq] at hu
      subst hu
      have h1' : a.eval x = .int k n := by simpa only [R] using h1
      have he : (execOp a.eval o).run P w = .ok (.value (.int k (sbI k 0 n))) w := by unfold execOp; rw [hop]; exact run_v (by simp [Op.unary, h1', Op.intArith, sbI])
      rw [he]; exact Eff_pure h (by simp [R])
    · cases hu
  case convert s t x =>
    subst hx
    simp only [List.map_cons, List.map_nil] at hv
    obtain ⟨av, l, rfl, h1, h2⟩ := RL1 hv
    have := RL0 h2; subst this
    unfold hConv at hu
    split at hu
    · rename_i k n heq
      cases heq
      split at hu <;> simp only [up0, reduceCtorEq, Option.some.injEq] at hu
      rename_i k1 k2 hs ht
      subst hu
      have h1' : a.eval x = .int k n := by simpa only [R] using h1
      have he : (execOp a.eval o).run P w = .ok (.value (.int k2 (cvI k2 n))) w := by
        unfold execOp; rw [hop]; exact run_v (by simp [convert, run_und (hc.ik _ _ hs), run_und (hc.ik _ _ ht), h1', Result.andThen, Conv.intToInt, cvI])
      rw [he]; exact Eff_pure h (by simp [R])
    · cases hu
  case makeInterface t x =>
    subst hx
    simp only [List.map_cons, List.map_nil] at hv
    obtain ⟨av, l, rfl, h1, h2⟩ := RL1 hv
    have := RL0 h2; subst this
    simp only [hMkI] at hu
    cases hvs : cx.vs t <;> rw [hvs] at hu <;> simp only [up0, reduceCtorEq, Option.some.injEq] at hu
    rename_i p
    obtain ⟨ag, n⟩ := p
    subst hu
    obtain ⟨d, i, e1, e2, e3, e4⟩ := hc.vs t ag n hvs
    have he : (execOp a.eval o).run P w = .ok (.value (.iface t (a.eval x))) w := by
      unfold execOp; rw [hop]
      refine run_v ?_
      simp only [Instr.makeInterface, Sem.run_bind, run_und e1, Result.andThen]
      cases d <;> first
        | rfl
        | exact e4.elim
    rw [he]; exact Eff_pure h (by simp only [R]; exact ⟨_, rfl, h1⟩)
  case makeFunc fn fst cs =>
    subst hx
    unfold hMkF at hu
    split at hu <;> simp only [up0, reduceCtorEq, Option.some.injEq] at hu
    rename_i f hfst
    subst hu
    have hfst' : fst = #[] := by apply Array.toList_inj.1; rw [hfst]
    subst hfst'
    have he : (execOp a.eval o).run P w = .ok (.value (.func (.func f) #[] (cs.map a.eval))) w := by unfold execOp; rw [hop]; exact run_v (by simp [Instr.makeFunc])
    rw [he]
    refine Eff_pure h ?_
    simp only [R]
    exact ⟨cs.toList.map a.eval, by rw [← Array.toList_map, Array.toArray_toList], hv⟩
  case makeSlice t l c =>
    subst hx
    simp only [List.map_cons, List.map_nil] at hv
    obtain ⟨av, l', rfl, h1, h2⟩ := RL1 hv
    obtain ⟨bv, l'', rfl, h3, h4⟩ := RL1 h2
    have := RL0 h4; subst this
    obtain ⟨e1, v, w', e2, e3⟩ := hMkS_run hc h hu ho h1 h3
    have he : (execOp a.eval o).run P w = .ok (.value v) w' := by unfold execOp; rw [hop]; exact run_v e2
    rw [he]; exact e3
  case slice t x lo hi mx =>
    subst hx
    have fin : ∀ {av r : AV} {lo' : Int} {hi' : Option Int} {ob : List Bool} {ek : EK}, cx.sk t = some ek → mx = none → sliceA (og st.ob) ek av lo' hi' = some (r, ob) → u = ⟨r, [], [], [], ob⟩ → R M ν av (a.eval x) →
        ((lo.map a.eval = none ∧ lo' = 0) ∨ lo.map a.eval = some (.int .i64 lo')) → ((hi.map a.eval = none ∧ hi' = none) ∨ ∃ h, hi' = some h ∧ hi.map a.eval = some (.int .i64 h)) →
        OpRun P (fun v w' => Eff Γ st u a M ν v w') ((execOp a.eval o).run P w) := by
      intro av r lo' hi' ob ek hsk hmx hs hu' hr hl hh
      subst hu' hmx
      obtain ⟨v, e1, e2⟩ := sliceA_run (w := w) hc hsk hs ho hr h.obs hl hh
      have he : (execOp a.eval o).run P w = .ok (.value v) w := by unfold execOp; rw [hop]; exact run_v e1
      rw [he]; exact Eff_pure h e2
    unfold hSlice at hu
    split at hu
    · rename_i ek hsk
      obtain ⟨r, ob, hb, rfl⟩ := byRow_eq hu
      simp only [oneO, List.append_nil, List.map_cons, List.map_nil] at hv
      obtain ⟨_, _, e, h1, h2⟩ := RL1 hv
      cases e
      exact fin hsk rfl hb rfl h1 (.inl ⟨rfl, rfl⟩) (.inl ⟨rfl, rfl⟩)
    · rename_i ek l0 av l hsk
      obtain ⟨r, ob, hb, rfl⟩ := byRow_eq hu
      simp only [oneO, List.append_nil, List.cons_append, List.nil_append, List.map_cons, List.map_nil] at hv
      obtain ⟨_, _, e, h1, h2⟩ := RL1 hv
      cases e
      obtain ⟨_, _, e, h3, h4⟩ := RL1 h2
      cases e
      simp only [R] at h3
      exact fin hsk rfl hb rfl h1 (.inr (by simp [h3])) (.inl ⟨rfl, rfl⟩)
    · rename_i ek l0 av l hsk
      obtain ⟨r, ob, hb, rfl⟩ := byRow_eq hu
      simp only [oneO, List.append_nil, List.cons_append, List.nil_append, List.map_cons, List.map_nil] at hv
      obtain ⟨_, _, e, h1, h2⟩ := RL1 hv
      cases e
      obtain ⟨_, _, e, h3, h4⟩ := RL1 h2
      cases e
      simp only [R] at h3
      exact fin hsk rfl hb rfl h1 (.inl ⟨rfl, rfl⟩) (.inr ⟨l, rfl, by simp [h3]⟩)
    · rename_i ek l0 l1 av l m hsk
      obtain ⟨r, ob, hb, rfl⟩ := byRow_eq hu
      simp only [oneO, List.append_nil, List.cons_append, List.nil_append, List.map_cons, List.map_nil] at hv
      obtain ⟨_, _, e, h1, h2⟩ := RL1 hv
      cases e
      obtain ⟨_, _, e, h3, h4⟩ := RL1 h2
      cases e
      obtain ⟨_, _, e, h5, h6⟩ := RL1 h4
      cases e
      simp only [R] at h3 h5
      exact fin hsk rfl hb rfl h1 (.inr (by simp [h3])) (.inr ⟨m, rfl, by simp [h5]⟩)
    · rename_i ek m0 l0 h0 k l h' m hsk
      obtain ⟨r, ob, hb, rfl⟩ := byRow_eq hu
      simp only [oneO, List.append_nil, List.cons_append, List.nil_append, List.map_cons, List.map_nil] at hv
      obtain ⟨_, _, e, h1, h2⟩ := RL1 hv
      cases e
      obtain ⟨_, _, e, h3, h4⟩ := RL1 h2
      cases e
      obtain ⟨_, _, e, h5, h6⟩ := RL1 h4
      cases e
      obtain ⟨_, _, e, h7, h8⟩ := RL1 h6
      cases e
      simp only [R] at h3 h5 h7
      obtain ⟨v, e1, e2⟩ := slice3A_run (w := w) hc hsk hb ho h1 h.obs
      have he : (execOp a.eval o).run P w = .ok (.value v) w := by
        unfold execOp; rw [hop]
        refine run_v ?_
        simp only [Option.map_some, h3, h5, h7]
        exact e1
      rw [he]; exact Eff_pure h e2
    · cases hu
  case fieldAddr s x f =>
    subst hx
    simp only [List.map_cons, List.map_nil] at hv
    obtain ⟨av, l, rfl, h1, h2⟩ := RL1 hv
    have := RL0 h2; subst this
    simp only [hField] at hu
    cases hfo : cx.fo s f <;> rw [hfo] at hu <;> simp only [reduceCtorEq] at hu
    rename_i off
    cases hfa : fieldA av off <;> rw [hfa] at hu <;> simp only [up0, reduceCtorEq, Option.some.injEq] at hu
    subst hu
    obtain ⟨v, e1, e2⟩ := fieldA_run (w := w) hc hfo hfa h1
    have he : (execOp a.eval o).run P w = .ok (.value v) w := by unfold execOp; rw [hop]; exact run_v e1
    rw [he]; exact Eff_pure h e2
  case indexAddr t x ix =>
    subst hx
    simp only [List.map_cons, List.map_nil] at hv
    obtain ⟨av, l, rfl, h1, h2⟩ := RL1 hv
    obtain ⟨bv, l, rfl, h3, h4⟩ := RL1 h2
    have := RL0 h4; subst this
    unfold hIndex at hu
    split at hu
    · rename_i xx i heq
      cases heq
      have h3' : a.eval ix = .int .i64 i := by simpa only [R] using h3
      split at hu
      · rename_i ek hsk
        obtain ⟨r, ob, hb, rfl⟩ := byRow_eq hu
        obtain ⟨v, e1, e2⟩ := indexA_run (w := w) hc hsk hb ho h1 h.obs
        have he : (execOp a.eval o).run P w = .ok (.value v) w := by unfold execOp; rw [hop]; exact run_v (by rw [h3']; exact e1)
        rw [he]; exact Eff_pure h e2
      · split at hu
        · rename_i n k f hal
          simp only [up0, Option.some.injEq] at hu
          subst hu
          obtain ⟨e, ii, q1, q2, q3, q4⟩ := hc.al t n hal
          simp only [AllT_cons] at ho
          have b0 := leI_iff.1 ho.1
          have b1 := ltI_iff.1 ho.2.1
          simp only [R] at h1
          obtain ⟨b, hν, hev⟩ := h1
          have e1 : (Instr.indexAt t (a.eval x) (.int .i64 i)).run P w = .ok (.pointer (some ⟨b, f + i.toNat, none⟩)) w := by
            rw [hev]
            have c1 : ¬ (i < 0) := by omega
            have c2 : ¬ ((n : Int) ≤ i) := by omega
            simp [Instr.indexAt, Instr.sureAddr, asIntOf, run_und q1, run_so q2, q3, b0, b1, c1, c2, add0, Result.andThen]
          have he : (execOp a.eval o).run P w = .ok (.value (.pointer (some ⟨b, f + i.toNat, none⟩))) w := by unfold execOp; rw [hop]; exact run_v (by rw [h3']; exact e1)
          rw [he]; exact Eff_pure h (by simp only [R]; exact ⟨b, hν, rfl⟩)
        · cases hu
    · cases hu
  case index t x ix =>
    subst hx
    simp only [List.map_cons, List.map_nil] at hv
    obtain ⟨av, l, rfl, h1, h2⟩ := RL1 hv
    obtain ⟨bv, l, rfl, h3, h4⟩ := RL1 h2
    have := RL0 h4; subst this
    unfold hIdx at hu
    split at hu
    · rename_i s k i heq
      cases heq
      have h3' : a.eval ix = .int k i := by simpa only [R] using h3
      have h1' : a.eval x = .string s := by simpa only [R] using h1
      cases hs : cx.str t <;> rw [hs] at hu <;> simp only [cond_true, cond_false, up0, reduceCtorEq, Option.some.injEq] at hu
      subst hu
      simp only [AllT_cons] at ho
      have b0 := leI_iff.1 ho.1
      have b1 := ltI_iff.1 ho.2.1
      have hb : s[i.toNat]? = some (s.data.toList.getD i.toNat 0) := by
        have hlt : i.toNat < s.size := by omega
        rw [getElem?_pos s i.toNat hlt, List.getD_eq_getElem?_getD, Array.getElem?_toList]
        have hlt' : i.toNat < s.data.size := hlt
        rw [getElem?_pos s.data i.toNat hlt']
        rfl
      have e1 : (Instr.index t (a.eval x) (a.eval ix)).run P w = .ok (.int .u8 (byteI s i)) w := by
        rw [h1', h3']
        simp only [Instr.index, asIntOf, Sem.run_bind, Sem.run_pure, Result.andThen, run_und (hc.str t hs), b0, if_true, hb]
        rfl
      have he : (execOp a.eval o).run P w = .ok (.value (.int .u8 (byteI s i))) w := by unfold execOp; rw [hop]; exact run_v e1
      rw [he]; exact Eff_pure h (by simp only [R])
    · cases hu
  case makeMap t r =>
    cases r with
    | some y => simp [opnds, hop] at hx
    | none =>
    simp only [Option.some.injEq] at hx
    subst hx
    have := RL0 hv; subst this
    obtain ⟨v, w', e1, e2⟩ := hMkM_run hc h hu
    have he : (execOp a.eval o).run P w = .ok (.value v) w' := by unfold execOp; rw [hop]; exact run_v e1
    rw [he]; exact e2
  case mapUpdate t m x y =>
    subst hx
    simp only [List.map_cons, List.map_nil] at hv
    obtain ⟨av, l, rfl, h1, h2⟩ := RL1 hv
    obtain ⟨bv, l, rfl, h3, h4⟩ := RL1 h2
    obtain ⟨cv, l, rfl, h5, h6⟩ := RL1 h4
    have := RL0 h6; subst this
    obtain ⟨w', e1, e2⟩ := hIns_run hc h hu h1 h3 h5
    have he : (execOp a.eval o).run P w = .ok .skip w' := by unfold execOp; rw [hop]; exact run_u e1
    rw [he]; exact e2 undef
  case insert t m x y =>
    subst hx
    simp only [List.map_cons, List.map_nil] at hv
    obtain ⟨av, l, rfl, h1, h2⟩ := RL1 hv
    obtain ⟨bv, l, rfl, h3, h4⟩ := RL1 h2
    obtain ⟨cv, l, rfl, h5, h6⟩ := RL1 h4
    have := RL0 h6; subst this
    obtain ⟨w', e1, e2⟩ := hIns_run hc h hu h1 h3 h5
    have he : (execOp a.eval o).run P w = .ok .skip w' := by unfold execOp; rw [hop]; exact run_u e1
    rw [he]; exact e2 undef
  case lookup t x ix ok =>
    subst hx
    simp only [List.map_cons, List.map_nil] at hv
    obtain ⟨av, l, rfl, h1, h2⟩ := RL1 hv
    obtain ⟨bv, l, rfl, h3, h4⟩ := RL1 h2
    have := RL0 h4; subst this
    obtain ⟨e1, e2, e3, v, e4, e5⟩ := hLkp_run hc h hu h1 h3
    have he : (execOp a.eval o).run P w = .ok (.value v) w := by unfold execOp; rw [hop]; exact run_v e4
    rw [he]; exact Eff_pure' h e1 e2 e3 e5
  case range t x =>
    subst hx
    simp only [List.map_cons, List.map_nil] at hv
    obtain ⟨av, l, rfl, h1, h2⟩ := RL1 hv
    have := RL0 h2; subst this
    obtain ⟨v, w', e1, e2⟩ := hRng_run hc h hu h1
    have he : (execOp a.eval o).run P w = .ok (.value v) w' := by unfold execOp; rw [hop]; exact run_v e1
    rw [he]; exact e2
  case entry x =>
    subst hx
    simp only [List.map_cons, List.map_nil] at hv
    obtain ⟨av, l, rfl, h1, h2⟩ := RL1 hv
    have := RL0 h2; subst this
    obtain ⟨e1, e2, e3, v, e4, e5⟩ := hEnt_run h hu h1
    have he : (execOp a.eval o).run P w = .ok (.value v) w := by unfold execOp; rw [hop]; exact run_v e4
    rw [he]; exact Eff_pure' h e1 e2 e3 e5
  case typeAssert x s t ok =>
    subst hx
    simp only [List.map_cons, List.map_nil] at hv
    obtain ⟨av, l, rfl, h1, h2⟩ := RL1 hv
    have := RL0 h2; subst this
    unfold hTA at hu
    split at hu
    · rename_i q v heq
      cases heq
      cases hand : Nat.beq q t <;> rw [hand] at hu <;> simp only [cond_true, cond_false, reduceCtorEq] at hu
      have e1 := beqT.1 hand; subst e1
      have hev : ∃ y, a.eval x = .iface q y ∧ R M ν v y := by simpa only [R] using h1
      obtain ⟨y, hev, hy⟩ := hev
      cases hvs : cx.vs q with
      | none => rw [hvs] at hu; cases ok <;> cases hu
      | some p =>
        rw [hvs] at hu
        obtain ⟨ag, n⟩ := p
        obtain ⟨d, i, c1, c2, c3, c4⟩ := hc.vs q ag n hvs
        have hta : (Instr.typeAssert (a.eval x) s q ok).run P w = .ok (if ok then .tuple #[y, .bool true] else y) w := by
          rw [hev]
          simp only [Instr.typeAssert, Sem.run_bind, run_und c1, Result.andThen]
          cases d <;> first
            | exact c4.elim
            | (cases ok <;> simp [Sem.run_pure])
        have he : (execOp a.eval o).run P w = .ok (.value (if ok then .tuple #[y, .bool true] else y)) w := by unfold execOp; rw [hop]; exact run_v hta
        rw [he]
        cases ok with
        | true =>
          simp only [up0, Option.some.injEq] at hu
          subst hu
          exact Eff_pure h (by simp only [R]; exact ⟨[y, .bool true], rfl, by simp only [RL, R]; exact ⟨y, _, rfl, hy, _, _, rfl, rfl, rfl⟩⟩)
        | false =>
          simp only [up0, Option.some.injEq] at hu
          subst hu
          exact Eff_pure h hy
    · cases hu
  case extract x i =>
    subst hx
    simp only [List.map_cons, List.map_nil] at hv
    obtain ⟨av, l, rfl, h1, h2⟩ := RL1 hv
    have := RL0 h2; subst this
    unfold hExt at hu
    split at hu
    · rename_i cs heq
      cases heq
      cases hlt : Nat.blt i cs.length <;> rw [hlt] at hu <;> simp only [up0, cond_true, cond_false, reduceCtorEq, Option.some.injEq] at hu
      subst hu
      simp only [R] at h1
      obtain ⟨vs, e, h1⟩ := h1
      obtain ⟨v, e1, e2⟩ := RL_get i h1 (by simpa using hlt)
      have he : (execOp a.eval o).run P w = .ok (.value v) w := by unfold execOp; rw [hop]; exact run_v (by simp [Instr.extract, e, e1])
      rw [he]; exact Eff_pure h e2
    · cases hu
  case call c =>
    have he : (execOp a.eval o) = (do let d ← resolve a.eval c o.type; invoke d.target d.args) := by unfold execOp; rw [hop]
    rw [he]
    exact (hCall_run hc hF h (by simpa only [opnds, Option.some.injEq] using hx) hu ho hv).2

end
end Go.Sx

set_option linter.unusedVariables false
set_option linter.unusedSimpArgs false
namespace Go.Sx
open Go Go.RowKit

section
variable {P : Program} {cx : Ctx} {F : Fns} {M M' : Frz} {ν π : Nms} {w w' : World} {g : Nat → Option Ob} {Γ : Env} {sl : List AV} {ob : List (Nat × Ob)} {a : Act} {st st' : St}

/-- the parameters' own names stand -/
def Par (π : Nms) (ob : List (Nat × Ob)) (ν : Nms) : Prop := ∀ k, 500 ≤ k → k < 1000 → og ob k ≠ none → ν k = π k

theorem constA_R (v : Value) : R M ν (constA v) v := by
  unfold constA
  split <;> simp [R]
theorem fetch_ok (h : ∀ i, R M ν (sg sl i) (a.tmps.getD i undef)) {x : Operand} {av : AV} {gc : Bool} (hf : fetch sl x = some (av, gc)) (hg : gc = true) : R M ν av (a.eval x) := by
  cases x <;> simp only [fetch, reduceCtorEq, Option.some.injEq, Prod.mk.injEq] at hf
  case tmp t =>
    have := h t
    show R M ν av (a.tmps.getD t undef)
    generalize a.tmps.getD t undef = v at *
    split at hf
    · rename_i gg vv heq
      simp only [Option.some.injEq, Prod.mk.injEq] at hf
      obtain ⟨rfl, rfl⟩ := hf
      rw [heq] at this
      have this : (gg = true → R M ν vv v) ∧ (gg = false → v = undef) := by simpa only [R] using this
      exact this.1 hg
    · cases hf
    · simp only [Option.some.injEq, Prod.mk.injEq] at hf
      obtain ⟨rfl, rfl⟩ := hf
      exact this
  case const v =>
    obtain ⟨rfl, rfl⟩ := hf
    exact constA_R v
  case func f =>
    obtain ⟨rfl, rfl⟩ := hf
    simp only [R]
    exact ⟨[], rfl, by simp [RL]⟩

theorem fetchL_len : ∀ {xs : List Operand} {fs : List (AV × Bool)}, fetchL sl xs = some fs → fs.length = xs.length
  | [], fs, h => by simp only [fetchL, Option.some.injEq] at h; subst h; rfl
  | x :: xs, fs, h => by
    simp only [fetchL] at h
    cases h1 : fetch sl x <;> rw [h1] at h <;> simp only [reduceCtorEq] at h
    cases h2 : fetchL sl xs <;> rw [h2] at h <;> simp only [reduceCtorEq, Option.some.injEq] at h
    subst h
    simp [fetchL_len h2]
theorem fetchL_ok (h : ∀ i, R M ν (sg sl i) (a.tmps.getD i undef)) : ∀ {xs : List Operand} {fs : List (AV × Bool)}, fetchL sl xs = some fs → AllT (guards true fs) → RL M ν (fsts fs) (xs.map a.eval)
  | [], fs, hf, hg => by simp only [fetchL, Option.some.injEq] at hf; subst hf; simp [fsts, RL]
  | x :: xs, fs, hf, hg => by
    simp only [fetchL] at hf
    cases h1 : fetch sl x <;> rw [h1] at hf <;> simp only [reduceCtorEq] at hf
    cases h2 : fetchL sl xs <;> rw [h2] at hf <;> simp only [reduceCtorEq, Option.some.injEq] at hf
    rename_i p ps
    subst hf
    obtain ⟨av, gc⟩ := p
    simp only [guards, AllT_cons] at hg
    simp only [fsts, List.map_cons, RL]
    exact ⟨_, _, rfl, fetch_ok h h1 (impB_iff.1 hg.1 rfl), fetchL_ok h h2 hg.2⟩

theorem imps_true {l : List Bool} (h : AllT (imps true l)) : AllT l := by
  induction l with
  | nil => exact AllT.nil
  | cons b l ih =>
    simp only [imps, AllT_cons] at h ⊢
    exact ⟨impB_iff.1 h.1 rfl, ih h.2⟩

theorem opG_np {o : Op} {e : Bool} {fs : List (AV × Bool)} (h : ∀ c x y, o ≠ .pick c x y) : opG o e fs = guards e fs := by
  unfold opG
  split
  · exact absurd rfl (h _ _ _)
  · rfl

/-- The operation is done: what it answers. -/
theorem op_run (hc : CtxOK P cx) (hF : ∀ f, f ∈ cx.fs → FnOK P f (F f)) (h : Rel Γ st.sl st.ob a w M ν) {gd : Bool} {o : Oper} {fs : List (AV × Bool)} {u : Up} {xs : List Operand} {st1 : St}
    (hx : opnds o.op = some xs) (hfs : fetchL st.sl xs = some fs) (hu : evUp cx F (og st.ob) gd o.dst o.type o.op (fsts fs) = some u) (ho : AllT u.obl) (hG : AllT (opG o.op true fs))
    (hf : st.freezes u.frz = some st1) : OpRun P (fun v w' => Eff Γ st u a M ν v w') ((execOp a.eval o).run P w) := by
  by_cases hp : ∃ c x y, o.op = .pick c x y
  · obtain ⟨c, x, y, hop⟩ := hp
    rw [hop] at hx hu hG
    simp only [opnds, Option.some.injEq] at hx
    subst hx
    simp only [evUp] at hu
    simp only [fetchL] at hfs
    cases h1 : fetch st.sl c <;> rw [h1] at hfs <;> simp only [reduceCtorEq] at hfs
    cases h2 : fetch st.sl x <;> rw [h2] at hfs <;> simp only [reduceCtorEq] at hfs
    cases h3 : fetch st.sl y <;> rw [h3] at hfs <;> simp only [reduceCtorEq, Option.some.injEq] at hfs
    subst hfs
    rename_i p1 p2 p3
    obtain ⟨a1, g1⟩ := p1
    obtain ⟨a2, g2⟩ := p2
    obtain ⟨a3, g3⟩ := p3
    simp only [fsts] at hu
    unfold hPick at hu
    split at hu
    · rename_i cb p q heq
      cases heq
      simp only [up0, Option.some.injEq] at hu
      subst hu
      simp only [opG, AllT_cons] at hG
      have hcv : a.eval c = .bool cb := by
        have := fetch_ok h.get h1 (impB_iff.1 hG.1 rfl)
        simpa only [R] using this
      cases cb with
      | true =>
        have hv := fetch_ok h.get h2 (impB_iff.1 hG.2.1 rfl)
        have he : (execOp a.eval o).run P w = .ok (.value (a.eval x)) w := by unfold execOp; rw [hop]; simp [hcv, asBool, Result.andThen]
        rw [he]; exact Eff_pure h (by simpa [iteB] using hv)
      | false =>
        have hv := fetch_ok h.get h3 (impB_iff.1 hG.2.2.1 rfl)
        have he : (execOp a.eval o).run P w = .ok (.value (a.eval y)) w := by unfold execOp; rw [hop]; simp [hcv, asBool, Result.andThen]
        rw [he]; exact Eff_pure h (by simpa [iteB] using hv)
    · cases hu
  · have hnp : ∀ c x y, o.op ≠ .pick c x y := fun c x y e => hp ⟨c, x, y, e⟩
    rw [opG_np hnp] at hG
    exact evUp_run hc hF h hx hu ho hf (fetchL_ok h.get hfs hG) hnp

theorem OpRun.upon {Q' : Value → World → Prop} {o : Oper} {next : Act → World → Prop} {Q : Exit → Act → World → Prop} (h : OpRun P Q' ((execOp a.eval o).run P w)) (hn : ∀ v w', Q' v w' → next (a.put o.dst v) w') :
    o.wp P a w next Q := by
  unfold Oper.wp
  cases hr : (execOp a.eval o).run P w with
  | halt e w1 => rw [hr] at h; exact h.elim
  | ok n w1 =>
    rw [hr] at h
    cases n <;> simp only [OpRun] at h
    case value v => exact hn v w1 h
    case skip => exact hn undef w1 h
    case enter f args =>
      show Calls P f args w1 _
      refine h.mono fun e w2 he => ?_
      cases e with
      | returned v => exact hn v w2 he
      | panicked c => exact he.elim
      | outgrown => exact he.elim

theorem guardA_ok (h : ∀ i, R M ν (sg sl i) (a.tmps.getD i undef)) {ops : Array Oper} {gs : Nat → Option Nat} (hgs : ∀ j t, gs j = some t → (ops[j]?).bind (·.dst) = some t) {o : Oper} {e : Bool}
    (hg : guardA gs sl o.guard = some e) : Region.wanted o (yielded ops a.tmps) = e := by
  unfold guardA at hg
  unfold Region.wanted
  cases hgd : o.guard with
  | none => rw [hgd] at hg; simp only [Option.some.injEq] at hg; exact hg
  | some p =>
    obtain ⟨j, want⟩ := p
    rw [hgd] at hg
    simp only at hg ⊢
    cases hj : gs j with
    | none => rw [hj] at hg; cases hg
    | some t =>
      rw [hj] at hg
      simp only at hg
      have hy : yielded ops a.tmps j = match a.tmps[t]? with | some (.bool b) => some b | _ => none := by
        unfold yielded
        rw [hgs j t hj]; rfl
      have ht := h t
      rw [hy]
      rw [Array.getD_eq_getD_getElem?] at ht
      split at hg
      · rename_i gb heq
        rw [heq] at ht
        simp only [R] at ht
        simp only [Option.some.injEq] at hg
        cases htt : a.tmps[t]? with
        | none => rw [htt] at ht; cases ht
        | some v =>
          rw [htt] at ht
          simp only [Option.getD_some] at ht
          subst ht
          subst hg
          cases gb <;> cases want <;> rfl
      · rename_i g' gb heq
        rw [heq] at ht
        have ht : (g' = true → R M ν (.bool gb) ((a.tmps[t]?).getD undef)) ∧ (g' = false → (a.tmps[t]?).getD undef = undef) := by simpa only [R] using ht
        simp only [Option.some.injEq] at hg
        subst hg
        cases g' with
        | true =>
          have ht := ht.1 rfl
          simp only [R] at ht
          cases htt : a.tmps[t]? with
          | none => rw [htt] at ht; cases ht
          | some v =>
            rw [htt] at ht
            simp only [Option.getD_some] at ht
            subst ht
            cases gb <;> cases want <;> rfl
        | false =>
          have ht := ht.2 rfl
          cases htt : a.tmps[t]? with
          | none => cases want <;> rfl
          | some v =>
            rw [htt] at ht
            simp only [Option.getD_some] at ht
            subst ht
            cases want <;> rfl
      · cases hg

theorem okPut_ok {ks : List Nat} : ∀ {ps : List (Nat × Ob)}, okPut g ks ps = true → ∀ k, k ∈ namesO ps → 500 ≤ k → k < 1000 → k ∉ ks ∧ g k ≠ none
  | [], _, k, hk => by simp [namesO] at hk
  | (j, o) :: ps, h, k, hk => by
    intro h1 h2
    simp only [okPut] at h
    simp only [namesO, List.mem_cons] at hk
    cases c1 : Nat.blt j 500 with
    | true =>
      rw [c1] at h
      simp only [cond_true] at h
      rcases hk with rfl | hk
      · simp at c1; omega
      · exact okPut_ok h k hk h1 h2
    | false =>
      rw [c1] at h
      simp only [cond_false] at h
      cases c2 : Nat.ble 1000 j with
      | true =>
        rw [c2] at h
        simp only [cond_true] at h
        rcases hk with rfl | hk
        · have : 1000 ≤ k := Nat.le_of_ble_eq_true c2
          omega
        · exact okPut_ok h k hk h1 h2
      | false =>
        rw [c2] at h
        simp only [cond_false] at h
        obtain ⟨h3, h4⟩ := andB_iff.1 h
        obtain ⟨h5, h6⟩ := andB_iff.1 h3
        rcases hk with rfl | hk
        · refine ⟨fun c => ?_, fun c => ?_⟩
          · rw [memN_iff.2 c] at h5; cases h5
          · rw [c] at h6; cases h6
        · exact okPut_ok h4 k hk h1 h2

theorem Rel.setDst (h : Rel Γ sl ob a w M ν) {dst : Option Nat} {gd e : Bool} {av : AV} {v : Value} (hv : e = true → R M ν av v) (hn : e = false → gd = true ∧ v = undef) :
    Rel Γ (Sx.setDst sl dst gd e av) ob (a.put dst v) w M ν := by
  cases dst with
  | none => exact h
  | some d =>
    cases gd with
    | true =>
      refine h.set d ?_
      simp only [R]
      exact ⟨hv, fun he => (hn he).2⟩
    | false =>
      refine h.set d (hv ?_)
      cases e with
      | true => rfl
      | false => exact absurd (hn rfl).1 (by simp)

theorem evOp_run (hc : CtxOK P cx) (hF : ∀ f, f ∈ cx.fs → FnOK P f (F f)) (h : Rel Γ st.sl st.ob a w M ν) (hp : Par π st.ob ν) {ops : Array Oper} {gs : Nat → Option Nat}
    (hgs : ∀ j t, gs j = some t → (ops[j]?).bind (·.dst) = some t) {o : Oper} (he : evOp cx F gs o st = some st') (ho : AllT st'.ok) {next : Act → World → Prop} {Q : Exit → Act → World → Prop}
    (hn : ∀ a' w' M' ν', AllT st.ok → M.le M' → Rel Γ st'.sl st'.ob a' w' M' ν' → Par π st'.ob ν' → next a' w') :
    if Region.wanted o (yielded ops a.tmps) then o.wp P a w next Q ∨ (o.asks P a w ∧ LetsOut Q) else next (a.put o.dst undef) w := by
  unfold evOp at he
  cases hg : guardA gs st.sl o.guard <;> rw [hg] at he <;> simp only [reduceCtorEq] at he
  rename_i e
  cases hx : opnds o.op <;> rw [hx] at he <;> simp only [reduceCtorEq] at he
  rename_i xs
  cases hfs : fetchL st.sl xs <;> rw [hfs] at he <;> simp only [reduceCtorEq] at he
  rename_i fs
  cases hu : evUp cx F (og st.ob) o.guard.isSome o.dst o.type o.op (fsts fs) <;> rw [hu] at he <;> simp only [reduceCtorEq] at he
  rename_i u
  rw [guardA_ok h.get hgs hg]
  split at he
  · rename_i gg hgd h1 h2 h3
    simp only [Option.some.injEq] at he
    subst he
    simp only [AllT_append] at ho
    obtain ⟨o1, o2, o3⟩ := ho
    cases e with
    | true =>
      simp only [if_true]
      left
      refine (op_run hc hF h hx hfs hu (imps_true o1) o2 (st1 := st) (by rw [h3]; rfl)).upon fun v w' hE => ?_
      obtain ⟨st1, M', ν', e1, e2, e3, e4, e5⟩ := hE
      rw [h3] at e2
      simp only [St.freezes, Option.some.injEq] at e2
      subst e2
      rw [h2, h1] at e4
      rw [h2] at e1
      refine hn _ w' M' ν' o3 e3 (Rel.setDst (dst := o.dst) (gd := true) (e := true) e4 (fun _ => e5) (fun c => absurd c (by simp))) ?_
      intro k k1 k2 k3
      rw [e1 k (by simp)]; exact hp k k1 k2 k3
    | false =>
      simp only [Bool.false_eq_true, if_false]
      exact hn _ w M ν o3 (Frz.le_refl M) (Rel.setDst (dst := o.dst) (gd := true) (e := false) h (fun c => absurd c (by simp)) (fun _ => ⟨rfl, rfl⟩)) hp
  · cases he
  · rename_i hgd
    have heT : e = true := by rw [hgd] at hg; simp only [guardA, Option.some.injEq] at hg; exact hg.symm
    subst heT
    cases hok : okPut (og st.ob) u.kil u.put <;> rw [hok] at he <;> simp only [cond_true, cond_false, reduceCtorEq] at he
    cases hfz : st.freezes u.frz <;> rw [hfz] at he <;> simp only [reduceCtorEq, Option.some.injEq] at he
    rename_i st1
    subst he
    simp only [AllT_append] at ho
    obtain ⟨o1, o2, o3⟩ := ho
    simp only [if_true]
    left
    refine (op_run hc hF h hx hfs hu o1 o2 hfz).upon fun v w' hE => ?_
    obtain ⟨st2, M', ν', e1, e2, e3, e4, e5⟩ := hE
    rw [hfz] at e2
    simp only [Option.some.injEq] at e2
    subst e2
    obtain ⟨_, _, _, z1, _, _, z2⟩ := freezes_rel u.frz h hfz
    refine hn _ w' M' ν' (by rw [← z1, ← kills_ok st1 u.kil]; exact o3) e3 (Rel.setDst (dst := o.dst) (gd := false) (e := true) e4 (fun _ => e5) (fun c => absurd c (by simp))) ?_
    intro k k1 k2 k3
    by_cases hkp : k ∈ namesO u.put
    · obtain ⟨q1, q2⟩ := okPut_ok hok k hkp k1 k2
      rw [e1 k q1]; exact hp k k1 k2 q2
    · rw [og_ops_out _ _ k hkp] at k3
      obtain ⟨q1, q2⟩ := og_kills _ _ k k3
      rw [e1 k q1]
      exact hp k k1 k2 fun c => q2 (z2 k c)

theorem freezes_ok : ∀ (ks : List Nat) {x y : St}, x.freezes ks = some y → y.ok = x.ok
  | [], x, y, e => by simp only [St.freezes, Option.some.injEq] at e; subst e; rfl
  | k :: ks, x, y, e => by
    simp only [St.freezes] at e
    cases hk : x.freeze k <;> rw [hk] at e <;> simp only [reduceCtorEq] at e
    rw [freezes_ok ks e]
    unfold St.freeze at hk
    split at hk
    · simp only [Option.some.injEq] at hk; subst hk; rfl
    · cases hk
theorem evOp_ok {gs : Nat → Option Nat} {o : Oper} (he : evOp cx F gs o st = some st') (ho : AllT st'.ok) : AllT st.ok := by
  unfold evOp at he
  cases hg : guardA gs st.sl o.guard <;> rw [hg] at he <;> simp only [reduceCtorEq] at he
  cases hx : opnds o.op <;> rw [hx] at he <;> simp only [reduceCtorEq] at he
  rename_i xs
  cases hfs : fetchL st.sl xs <;> rw [hfs] at he <;> simp only [reduceCtorEq] at he
  rename_i fs
  cases hu : evUp cx F (og st.ob) o.guard.isSome o.dst o.type o.op (fsts fs) <;> rw [hu] at he <;> simp only [reduceCtorEq] at he
  rename_i u
  split at he
  · simp only [Option.some.injEq] at he
    subst he
    simp only [AllT_append] at ho
    exact ho.2.2
  · cases he
  · cases hok : okPut (og st.ob) u.kil u.put <;> rw [hok] at he <;> simp only [cond_true, cond_false, reduceCtorEq] at he
    cases hfz : st.freezes u.frz <;> rw [hfz] at he <;> simp only [reduceCtorEq, Option.some.injEq] at he
    rename_i st1
    subst he
    simp only [AllT_append] at ho
    rw [← freezes_ok _ hfz, ← kills_ok st1 u.kil]
    exact ho.2.2
theorem evOps_ok {gs : Nat → Option Nat} : ∀ (l : List Oper) {s s' : St}, evOps cx F gs l s = some s' → AllT s'.ok → AllT s.ok
  | [], s, s', e, ha => by simp only [evOps, Option.some.injEq] at e; subst e; exact ha
  | o :: l, s, s', e, ha => by
    simp only [evOps] at e
    cases e1 : evOp cx F gs o s <;> rw [e1] at e <;> simp only [reduceCtorEq] at e
    exact evOp_ok e1 (evOps_ok l e ha)

theorem evOps_run (hc : CtxOK P cx) (hF : ∀ f, f ∈ cx.fs → FnOK P f (F f)) {ops : Array Oper} {gs : Nat → Option Nat} (hgs : ∀ j t, gs j = some t → (ops[j]?).bind (·.dst) = some t)
    {Q : Exit → Act → World → Prop} : ∀ (l : List Oper) (i : Nat) {st st' : St} {a : Act} {w : World} {M : Frz} {ν : Nms}, ops.toList.drop i = l → Rel Γ st.sl st.ob a w M ν → Par π st.ob ν →
      evOps cx F gs l st = some st' → AllT st'.ok → (∀ a' w' M' ν', AllT st.ok → M.le M' → Rel Γ st'.sl st'.ob a' w' M' ν' → Par π st'.ob ν' → Q .normal a' w') → wpOps P ops Q (List.range' i l.length) a w
  | [], i, st, st', a, w, M, ν, hl, h, hp, he, ho, hq => by
    simp only [evOps, Option.some.injEq] at he
    subst he
    exact hq a w M ν ho (Frz.le_refl M) h hp
  | o :: l, i, st, st', a, w, M, ν, hl, h, hp, he, ho, hq => by
    simp only [evOps] at he
    cases h1 : evOp cx F gs o st <;> rw [h1] at he <;> simp only [reduceCtorEq] at he
    rename_i st1
    have hget : ops[i]? = some o := by
      have := congrArg (fun l => l[0]?) hl
      simpa [List.getElem?_drop] using this
    have hdrop : ops.toList.drop (i + 1) = l := by
      have := congrArg List.tail hl
      simpa [List.tail_drop] using this
    simp only [List.length_cons, List.range'_succ, wpOps, hget]
    have ho1 : AllT st1.ok := evOps_ok l he ho
    refine evOp_run hc hF h hp hgs h1 ho1 fun a' w' M' ν' k0 k1 k2 k3 => ?_
    exact evOps_run hc hF hgs l (i + 1) hdrop k2 k3 he ho fun a2 w2 M2 ν2 _ q2 q3 q4 => hq a2 w2 M2 ν2 k0 (Frz.le_trans k1 q2) q3 q4

theorem dstOf_ok : ∀ (l : List Oper) (j t : Nat), dstOf l j = some t → (l[j]?).bind (·.dst) = some t
  | [], j, t, h => by simp [dstOf] at h
  | o :: l, 0, t, h => by simpa [dstOf] using h
  | o :: l, j + 1, t, h => by simpa using dstOf_ok l j t (by simpa [dstOf] using h)

/-- A region whose order is the text's. -/
theorem region_run (hc : CtxOK P cx) (hF : ∀ f, f ∈ cx.fs → FnOK P f (F f)) (h : Rel Γ st.sl st.ob a w M ν) (hp : Par π st.ob ν) {id : Nat} {ops : Array Oper} {Q : Exit → Act → World → Prop}
    (he : evOps cx F (dstOf ops.toList) ops.toList st = some st') (ho : AllT st'.ok)
    (hq : ∀ a' w' M' ν', AllT st.ok → M.le M' → Rel Γ st'.sl st'.ob a' w' M' ν' → Par π st'.ob ν' → Q .normal a' w') : (Code.region id ops false).wp P Q a w := by
  refine wp_region ?_
  have := evOps_run (Q := Q) hc hF (ops := ops) (gs := dstOf ops.toList) (fun j t hj => by
    have := dstOf_ok _ _ _ hj
    simpa using this) ops.toList 0 (by simp) h hp he ho hq
  rw [List.range_eq_range']
  simpa using this

end
end Go.Sx

set_option linter.unusedVariables false
set_option linter.unusedSimpArgs false
namespace Go.Sx
open Go Go.RowKit

/-- more objects -/
def Sub (g g' : Nat → Option Ob) : Prop := ∀ k o, g k = some o → g' k = some o

section
variable {cx : Ctx} {F : Fns} {g g' : Nat → Option Ob} (hg : Sub g g')
include hg

theorem rowA_m {x : AV} {r} (h : rowA g x = some r) : rowA g' x = some r := by
  cases x <;> first | exact h | skip
  case sl nk d => cases d <;> exact h
  case own k =>
    simp only [rowA] at h ⊢
    cases hk : g k with
    | none => rw [hk] at h; cases h
    | some p => rw [hk] at h; rw [hg _ _ hk]; exact h
theorem rowsA_m : ∀ {vs : List AV} {r}, rowsA g vs = some r → rowsA g' vs = some r
  | [], r, h => h
  | a :: l, r, h => by
    simp only [rowsA] at h ⊢
    cases h1 : rowA g a <;> rw [h1] at h <;> simp only [reduceCtorEq] at h
    cases h2 : rowsA g l <;> rw [h2] at h <;> simp only [reduceCtorEq] at h
    rw [rowA_m hg h1, rowsA_m h2]; exact h
theorem elemsA_m {ek : EK} {vs : List AV} {r} (h : elemsA g ek vs = some r) : elemsA g' ek vs = some r := by
  cases ek <;> first | exact h | skip
  simp only [elemsA] at h ⊢
  cases h2 : rowsA g vs <;> rw [h2] at h <;> simp only [reduceCtorEq] at h
  rw [rowsA_m hg h2]; exact h
theorem storeSC_m {d : SC} {i : Int} {f : Nat} {v : AV} {r} (h : storeSC g d i f v = some r) : storeSC g' d i f v = some r := by
  cases d <;> first | exact h | skip
  cases f <;> simp only [storeSC, reduceCtorEq] at h ⊢
  cases h2 : rowA g v <;> rw [h2] at h <;> simp only [reduceCtorEq] at h
  rw [rowA_m hg h2]; exact h
theorem nilA_m {x : AV} {r} (h : nilA g x = some r) : nilA g' x = some r := by
  cases x <;> first | exact h | skip
  case own k =>
    simp only [nilA] at h ⊢
    cases hk : g k with
    | none => rw [hk] at h; cases h
    | some p => rw [hk] at h; rw [hg _ _ hk]; exact h
theorem binA_m {op : BinOp} {t : Nat} {a b : AV} {r} (h : binA cx g op t a b = some r) : binA cx g' op t a b = some r := by
  cases b <;> first | exact h | skip
  case nils =>
    simp only [binA] at h ⊢
    cases h2 : nilA g a with
    | none => rw [h2] at h; cases h1 : cx.sk t <;> rw [h1] at h <;> cases h
    | some q => rw [h2] at h; rw [nilA_m hg h2]; exact h
theorem lenA_m {x : AV} {r} (h : lenA g x = some r) : lenA g' x = some r := by
  cases x <;> first | exact h | skip
  case own k =>
    simp only [lenA] at h ⊢
    cases hk : g k with
    | none => rw [hk] at h; cases h
    | some p => rw [hk] at h; rw [hg _ _ hk]; exact h
theorem contA_m {ek : EK} {x : AV} {r} (h : contA g ek x = some r) : contA g' ek x = some r := by
  cases x <;> first | exact h | skip
  case own k =>
    simp only [contA] at h ⊢
    cases hk : g k with
    | none => rw [hk] at h; cases h
    | some p => rw [hk] at h; rw [hg _ _ hk]; exact h
  case sub k w lo hi =>
    simp only [contA] at h ⊢
    cases hk : g k with
    | none => rw [hk] at h; cases h
    | some p => rw [hk] at h; rw [hg _ _ hk]; exact h
theorem indexA_m {ek : EK} {x : AV} {i : Int} {r} (h : indexA g ek x i = some r) : indexA g' ek x i = some r := by
  cases x <;> first | exact h | skip
  case own k =>
    simp only [indexA] at h ⊢
    cases hk : g k with
    | none => rw [hk] at h; cases h
    | some p => rw [hk] at h; rw [hg _ _ hk]; exact h
theorem sliceA_m {ek : EK} {x : AV} {lo : Int} {hi : Option Int} {r} (h : sliceA g ek x lo hi = some r) : sliceA g' ek x lo hi = some r := by
  cases x <;> first | exact h | skip
  case own k =>
    simp only [sliceA] at h ⊢
    cases hk : g k with
    | none => rw [hk] at h; cases h
    | some p => rw [hk] at h; rw [hg _ _ hk]; exact h
  case sub k w l hi' =>
    simp only [sliceA] at h ⊢
    cases hk : g k with
    | none => rw [hk] at h; cases h
    | some p => rw [hk] at h; rw [hg _ _ hk]; exact h
theorem appendA_m {ek : EK} {dst : Nat} {s x : AV} {r} (h : appendA g ek dst s x = some r) : appendA g' ek dst s x = some r := by
  simp only [appendA] at h ⊢
  cases hc : contA g ek x <;> rw [hc] at h <;> simp only [reduceCtorEq] at h
  rename_i dx
  rw [contA_m hg hc]
  simp only
  cases hs : ek.same dx.ek <;> rw [hs] at h <;> simp only [cond_true, cond_false, reduceCtorEq] at h
  cases s <;> first | exact h | skip
  case own k =>
    simp only [cond_true] at h ⊢
    cases hk : g k with
    | none => rw [hk] at h; cases h
    | some p => rw [hk] at h; rw [hg _ _ hk]; exact h
  case sub k w lo hi =>
    simp only [cond_true] at h ⊢
    cases hk : g k with
    | none => rw [hk] at h; cases h
    | some p => rw [hk] at h; rw [hg _ _ hk]; exact h
theorem copyA_m {x y : AV} {r} (h : copyA g x y = some r) : copyA g' x y = some r := by
  cases hc : contA g .int y with
  | none => 
    exfalso
    cases x <;> simp only [copyA, hc, reduceCtorEq] at h
  | some d =>
    have hc' := contA_m hg hc
    cases x <;> (simp only [copyA, hc, hc', reduceCtorEq] at h ⊢)
    case own k =>
      cases d <;> simp only [reduceCtorEq] at h ⊢
      cases hk : g k with
      | none => rw [hk] at h; cases h
      | some p => rw [hk] at h; rw [hg _ _ hk]; exact h
    case sub k w lo hi =>
      cases d <;> simp only [reduceCtorEq] at h ⊢
      cases hk : g k with
      | none => rw [hk] at h; cases h
      | some p => rw [hk] at h; rw [hg _ _ hk]; exact h
theorem clearA_m {ek : EK} {x : AV} {r} (h : clearA g ek x = some r) : clearA g' ek x = some r := by
  cases x <;> first | exact h | skip
  case sub k w lo hi =>
    simp only [clearA] at h ⊢
    cases hk : g k with
    | none => rw [hk] at h; cases h
    | some p => rw [hk] at h; rw [hg _ _ hk]; exact h

theorem rd_m : ∀ n : Nat, (∀ (a b : AV), AV.rd g n a = some b → AV.rd g' n a = some b) ∧ (∀ (l m : List AV), AV.rdL g n l = some m → AV.rdL g' n l = some m) := by
  intro n
  induction n with
  | zero => exact ⟨fun a b h => by simp [AV.rd] at h, fun l m h => by simp [AV.rdL] at h⟩
  | succ n ih =>
    obtain ⟨ih1, ih2⟩ := ih
    constructor
    · intro a b h
      cases a <;> simp only [AV.rd] at h ⊢ <;> first | exact h | skip
      case own k =>
        cases hk : g k with
        | none => rw [hk] at h; cases h
        | some p => rw [hk] at h; rw [hg _ _ hk]; exact h
      case sub k w lo hi =>
        cases hk : g k with
        | none => rw [hk] at h; cases h
        | some p => rw [hk] at h; rw [hg _ _ hk]; exact h
      case mp k =>
        cases hk : g k with
        | none => rw [hk] at h; cases h
        | some p => rw [hk] at h; rw [hg _ _ hk]; exact h
      case elt k w i f =>
        cases hk : g k with
        | none => rw [hk] at h; cases h
        | some p => rw [hk] at h; rw [hg _ _ hk]; exact h
      case ref k f =>
        cases hk : g k with
        | none => rw [hk] at h; cases h
        | some p =>
          rw [hk] at h; rw [hg _ _ hk]
          cases p <;> simp only [reduceCtorEq] at h ⊢
          rename_i cs
          cases h2 : AV.rdL g n cs <;> rw [h2] at h <;> simp only [reduceCtorEq] at h
          rw [ih2 _ _ h2]; exact h
      all_goals
        first
          | (rename_i cs
             cases h2 : AV.rdL g n cs <;> rw [h2] at h <;> simp only [reduceCtorEq] at h
             rw [ih2 _ _ h2]; exact h)
          | (rename_i cs _
             cases h2 : AV.rdL g n cs <;> rw [h2] at h <;> simp only [reduceCtorEq] at h
             rw [ih2 _ _ h2]; exact h)
          | (rename_i v
             cases h2 : AV.rd g n v <;> rw [h2] at h <;> simp only [reduceCtorEq] at h
             rw [ih1 _ _ h2]; exact h)
    · intro l m h
      cases l with
      | nil => exact h
      | cons a l =>
        simp only [AV.rdL] at h ⊢
        cases h1 : AV.rd g n a <;> rw [h1] at h <;> simp only [reduceCtorEq] at h
        cases h2 : AV.rdL g n l <;> rw [h2] at h <;> simp only [reduceCtorEq] at h
        rw [ih1 _ _ h1, ih2 _ _ h2]; exact h

theorem exCells_m : ∀ {l : List AV} {r}, exCells g l = some r → exCells g' l = some r
  | [], r, h => h
  | a :: l, r, h => by
    simp only [exCells] at h ⊢
    cases h1 : exCells g l <;> rw [h1] at h <;> simp only [reduceCtorEq] at h
    rw [exCells_m h1]
    cases a <;> first | exact h | skip
    case own k =>
      simp only at h ⊢
      cases hk : g k with
      | none => rw [hk] at h; cases h
      | some p => rw [hk] at h; rw [hg _ _ hk]; exact h
    case sub k wd lo hi =>
      cases lo with
      | negSucc n => exact h
      | ofNat n =>
        cases n with
        | succ n => exact h
        | zero =>
          simp only at h ⊢
          cases hk : g k with
          | none => rw [hk] at h; cases h
          | some p => rw [hk] at h; rw [hg _ _ hk]; exact h
theorem ex_m {a : AV} {r} (h : a.ex g = some r) : a.ex g' = some r ∧ nestedA g' a = nestedA g a := by
  unfold AV.ex at h
  split at h
  · rename_i k
    cases hk : g k with
    | none => rw [hk] at h; cases h
    | some p => rw [hk] at h; exact ⟨by simp only [AV.ex, hg _ _ hk]; exact h, rfl⟩
  · rename_i k
    cases hk : g k with
    | none => rw [hk] at h; cases h
    | some p =>
      rw [hk] at h
      refine ⟨?_, by simp only [nestedA, hk, hg _ _ hk]⟩
      simp only [AV.ex, hg _ _ hk]
      cases p <;> simp only [reduceCtorEq] at h ⊢
      rename_i cs
      cases h1 : exCells g cs <;> rw [h1] at h <;> simp only [reduceCtorEq] at h
      rw [exCells_m hg h1]; exact h
  · rename_i t k
    cases hk : g k with
    | none => rw [hk] at h; cases h
    | some p =>
      rw [hk] at h
      refine ⟨?_, by simp only [nestedA, hk, hg _ _ hk]⟩
      simp only [AV.ex, hg _ _ hk]
      cases p <;> simp only [reduceCtorEq] at h ⊢
      rename_i cs
      cases h1 : exCells g cs <;> rw [h1] at h <;> simp only [reduceCtorEq] at h
      rw [exCells_m hg h1]; exact h
  · cases h
theorem ownK_m {mu : List Nat} : ∀ {i : Nat} {args : List AV} {r}, ownK mu g i args = some r → ownK mu g' i args = some r ∧ nestedL mu g' i args = nestedL mu g i args
  | i, [], r, h => ⟨h, rfl⟩
  | i, a :: l, r, h => by
    simp only [ownK] at h ⊢
    cases h1 : ownK mu g (i + 1) l <;> rw [h1] at h <;> simp only [reduceCtorEq] at h
    obtain ⟨e1, e2⟩ := ownK_m h1
    rw [e1]
    simp only [nestedL, e2]
    cases hm : memN i mu <;> rw [hm] at h <;> simp only [cond_true, cond_false] at h ⊢
    · exact ⟨h, trivial⟩
    · cases h2 : a.ex g <;> rw [h2] at h <;> simp only [reduceCtorEq] at h
      obtain ⟨f1, f2⟩ := ex_m hg h2
      rw [f1, f2]; exact ⟨h, rfl⟩
theorem bargs_m {mu : List Nat} {gr gr' : Nat → Option Ob} (hr : Sub gr gr') : ∀ {i : Nat} {args : List AV} {r}, bargs mu g gr i args = some r → bargs mu g' gr' i args = some r
  | i, [], r, h => h
  | i, a :: l, r, h => by
    simp only [bargs] at h ⊢
    cases h1 : bargs mu g gr (i + 1) l <;> rw [h1] at h <;> simp only [reduceCtorEq] at h
    rw [bargs_m hr h1]
    cases hm : memN i mu <;> rw [hm] at h <;> simp only [cond_true, cond_false] at h ⊢
    · cases h2 : a.rd gr 40 <;> rw [h2] at h <;> simp only [reduceCtorEq] at h
      rw [(rd_m hr 40).1 _ _ h2]; exact h
    · cases h2 : a.ex g <;> rw [h2] at h <;> simp only [reduceCtorEq] at h
      rw [(ex_m hg h2).1]; exact h
theorem without_m (ks : List Nat) : Sub (without g ks) (without g' ks) := by
  intro k o h
  obtain ⟨h1, h2⟩ := without_some h
  have hm : memN k ks = false := by
    cases c : memN k ks with
    | false => rfl
    | true => exact absurd (memN_iff.1 c) h1
  simp only [without, hm, cond_false]
  exact hg k o h2
theorem callA_m {gd : Bool} {dst : Option Nat} {f : Nat} {args : List AV} {r} (h : callA cx F g gd dst f args = some r) : callA cx F g' gd dst f args = some r := by
  simp only [callA] at h ⊢
  cases h0 : memN f cx.fs <;> rw [h0] at h <;> simp only [cond_true, cond_false, reduceCtorEq] at h
  cases h1 : ownK (cx.mu f) g 0 args <;> rw [h1] at h <;> simp only [reduceCtorEq] at h
  rename_i ks
  obtain ⟨e1, e2⟩ := ownK_m hg h1
  rw [e1]
  simp only [cond_true]
  cases h2 : nodupN ks <;> rw [h2] at h <;> simp only [cond_true, cond_false, reduceCtorEq] at h
  cases h3 : bargs (cx.mu f) g (without g ks) 0 args <;> rw [h3] at h <;> simp only [reduceCtorEq] at h
  rw [bargs_m hg (without_m hg ks) h3, e2]
  exact h

theorem hLit_m {gd : Bool} {dst : Option Nat} {t n : Nat} {ps : List (Nat × Operand)} {vs : List AV} {r} (h : hLit cx g gd dst t n ps vs = some r) : hLit cx g' gd dst t n ps vs = some r := by
  simp only [hLit] at h ⊢
  cases h1 : cx.sk t <;> rw [h1] at h <;> simp only [reduceCtorEq] at h
  rename_i ek
  simp only
  cases h2 : andB (placed ps 0) (andB (Nat.beq n vs.length) (Nat.blt n 100)) <;> rw [h2] at h <;> simp only [cond_true, cond_false, reduceCtorEq] at h
  cases h3 : elemsA g ek vs <;> rw [h3] at h <;> simp only [reduceCtorEq] at h
  rw [elemsA_m hg h3]; exact h
theorem hLoad_m {t : Nat} {vs : List AV} {r} (h : hLoad cx g t vs = some r) : hLoad cx g' t vs = some r := by
  unfold hLoad at h
  split at h
  · rename_i a
    simp only [hLoad]
    cases h1 : cx.vs t <;> rw [h1] at h <;> simp only [reduceCtorEq] at h
    rename_i p
    obtain ⟨ag, n⟩ := p
    cases a <;> first | exact h | skip
    case ref k f =>
      simp only at h ⊢
      cases hk : g k with
      | none => rw [hk] at h; cases h
      | some p => rw [hk] at h; rw [hg _ _ hk]; exact h
    case elt k w i f =>
      simp only at h ⊢
      cases hk : g k with
      | none => rw [hk] at h; cases h
      | some p => rw [hk] at h; rw [hg _ _ hk]; exact h
  · cases h
theorem hStore_m {t : Nat} {vs : List AV} {r} (h : hStore cx g t vs = some r) : hStore cx g' t vs = some r := by
  unfold hStore at h
  split at h
  · rename_i a v
    simp only [hStore]
    cases h1 : cx.vs t <;> rw [h1] at h <;> simp only [reduceCtorEq] at h
    rename_i p
    obtain ⟨ag, n⟩ := p
    cases a <;> first | exact h | skip
    case ref k f =>
      simp only at h ⊢
      cases hk : g k with
      | none => rw [hk] at h; cases h
      | some p => rw [hk] at h; rw [hg _ _ hk]; exact h
    case elt k w i f =>
      simp only at h ⊢
      cases hk : g k with
      | none => rw [hk] at h; cases h
      | some p =>
        rw [hk] at h; rw [hg _ _ hk]
        cases p <;> simp only [reduceCtorEq] at h ⊢
        rename_i nk d
        cases h2 : andB (Nat.beq w d.wid) (andB (eqB ag (isAgg' v)) (szOK v n)) <;> rw [h2] at h <;> simp only [cond_true, cond_false, reduceCtorEq] at h
        cases h3 : storeSC g d i f v <;> rw [h3] at h <;> simp only [reduceCtorEq] at h
        rw [storeSC_m hg h3]; exact h
  · cases h
theorem slice3A_m {ek : EK} {k : Nat} {l h m : Int} {r} (hs : slice3A g ek k l h m = some r) : slice3A g' ek k l h m = some r := by
  unfold slice3A at hs ⊢
  cases hk : g k with
  | none => rw [hk] at hs; cases hs
  | some p => rw [hk] at hs; rw [hg _ _ hk]; exact hs
omit hg in
theorem byRow_m {x y : Option (AV × List Bool)} {r} (hxy : ∀ p, x = some p → y = some p) (h : byRow x = some r) : byRow y = some r := by
  obtain ⟨v, o, h1, h2⟩ := byRow_eq h
  rw [hxy _ h1, ← h1]; exact h
theorem hSlice_m {t : Nat} {lo hi mx : Option Operand} {vs : List AV} {r} (h : hSlice cx g t lo hi mx vs = some r) : hSlice cx g' t lo hi mx vs = some r := by
  unfold hSlice at h
  split at h
  · rename_i h1; simp only [hSlice, h1]; exact byRow_m (fun _ => sliceA_m hg) h
  · rename_i h1; simp only [hSlice, h1]; exact byRow_m (fun _ => sliceA_m hg) h
  · rename_i h1; simp only [hSlice, h1]; exact byRow_m (fun _ => sliceA_m hg) h
  · rename_i h1; simp only [hSlice, h1]; exact byRow_m (fun _ => sliceA_m hg) h
  · rename_i h1; simp only [hSlice, h1]; exact byRow_m (fun _ => slice3A_m hg) h
  · cases h
theorem hIndex_m {t : Nat} {vs : List AV} {r} (h : hIndex cx g t vs = some r) : hIndex cx g' t vs = some r := by
  unfold hIndex at h
  split at h
  · simp only [hIndex]
    split at h
    · rename_i h1; (try simp only [h1]); exact byRow_m (fun _ => indexA_m hg) h
    · rename_i h1; (try simp only [h1]); exact h
  · cases h
theorem hBin_m {b : BinOp} {t : Nat} {vs : List AV} {r} (h : hBin cx g b t vs = some r) : hBin cx g' b t vs = some r := by
  unfold hBin at h
  split at h
  · exact byRow_m (fun _ => binA_m hg) h
  · cases h
theorem builtinA_m {dst : Option Nat} {b : Builtin} {ts : List Nat} {vs : List AV} {r} (h : builtinA g cx dst b ts vs = some r) : builtinA g' cx dst b ts vs = some r := by
  unfold builtinA at h
  split at h
  · simp only [builtinA]
    split at h
    · rename_i t tr
      split at h
      · rename_i h1 h2
        simp only [h1, lenA_m hg h2]; exact h
      · cases h
    · cases h
  · exact h
  · exact h
  · exact h
  · simp only [builtinA]
    split at h
    · split at h
      · rename_i h1
        try simp only [h1]
        split at h
        · rename_i ek' h2
          try simp only [h2]
          rename_i ek _ _
          cases hs : ek.same ek' <;> rw [hs] at h <;> simp only [cond_true, cond_false, reduceCtorEq] at h ⊢
          exact appendA_m hg h
        · rename_i h2
          (try simp only [h2]); exact h
      · cases h
    · cases h
  · simp only [builtinA]
    split at h
    · split at h
      · rename_i h1
        try simp only [h1]
        exact copyA_m hg h
      · cases h
    · cases h
  · simp only [builtinA]
    split at h
    · split at h
      · rename_i h1
        try simp only [h1]
        exact clearA_m hg h
      · cases h
    · cases h
  · simp only [builtinA]
    split at h
    · split at h
      · rename_i ks h1 hk
        rw [h1, hg _ _ hk]
        exact h
      · cases h
    · cases h
  · cases h
theorem hCall_m {gd : Bool} {dst : Option Nat} {c : Call} {vs : List AV} {r} (h : hCall cx F g gd dst c vs = some r) : hCall cx F g' gd dst c vs = some r := by
  unfold hCall at h ⊢
  cases hcal : c.callee with
  | value fo =>
    rw [hcal] at h
    simp only at h ⊢
    split at h
    · exact callA_m hg h
    · cases h
  | builtin b =>
    rw [hcal] at h
    simp only at h ⊢
    cases gd with
    | false => exact builtinA_m hg h
    | true => cases b <;> first | exact builtinA_m hg h | cases h
  | invoke rv m =>
    rw [hcal] at h
    simp only at h ⊢
    split at h
    · split at h
      · rename_i h1; (try simp only [h1]); exact callA_m hg h
      · rename_i h1
        try simp only [h1]
        split at h
        · rename_i k
          cases hk : g k with
          | none => rw [hk] at h; cases h
          | some p =>
            rw [hk] at h
            simp only [hg _ _ hk]
            split at h
            · rename_i v heq
              cases heq
              cases ho : v.one <;> rw [ho] at h <;> simp only [cond_true, cond_false, reduceCtorEq] at h ⊢
              exact callA_m hg h
            · cases h
        · rename_i v
          cases ho : v.one <;> rw [ho] at h <;> simp only [cond_true, cond_false, reduceCtorEq] at h ⊢
          exact callA_m hg h
        · cases h
      · cases h
    · cases h

theorem hIns_m {t : Nat} {vs : List AV} {r} (h : hIns cx g t vs = some r) : hIns cx g' t vs = some r := by
  unfold hIns at h
  split at h
  · split at h
    · rename_i ks h1 hk
      simp only [hIns, h1, hg _ _ hk]
      exact h
    · cases h
  · cases h
theorem hLkp_m {t : Nat} {ok : Bool} {vs : List AV} {r} (h : hLkp cx g t ok vs = some r) : hLkp cx g' t ok vs = some r := by
  unfold hLkp at h
  split at h
  · split at h
    · rename_i ks h1 hk
      simp only [hLkp, h1, hg _ _ hk]
      exact h
    · cases h
  · exact h
  · cases h
theorem hEnt_m {vs : List AV} {r} (h : hEnt g vs = some r) : hEnt g' vs = some r := by
  unfold hEnt at h
  split at h
  · split at h
    · rename_i ks n hk
      simp only [hEnt, hg _ _ hk]
      exact h
    · cases h
  · cases h
theorem evUp_m {gd : Bool} {dst : Option Nat} {ty : Nat} {o : Op} {vs : List AV} {r} (h : evUp cx F g gd dst ty o vs = some r) : evUp cx F g' gd dst ty o vs = some r := by
  cases o <;> simp only [evUp] at h ⊢ <;> first | exact h | skip
  case buildSlice => exact hLit_m hg h
  case load => exact hLoad_m hg h
  case store => exact hStore_m hg h
  case binOp => exact hBin_m hg h
  case slice => exact hSlice_m hg h
  case indexAddr => exact hIndex_m hg h
  case call => exact hCall_m hg h
  case makeMap t y => cases y <;> exact h
  case mapUpdate => exact hIns_m hg h
  case insert => exact hIns_m hg h
  case lookup => exact hLkp_m hg h
  case entry => exact hEnt_m hg h

theorem okPut_m {ks : List Nat} : ∀ {ps : List (Nat × Ob)}, okPut g ks ps = true → okPut g' ks ps = true
  | [], h => h
  | (k, o) :: ps, h => by
    simp only [okPut] at h ⊢
    cases c1 : Nat.blt k 500 <;> rw [c1] at h <;> simp only [cond_true, cond_false] at h ⊢
    · cases c2 : Nat.ble 1000 k <;> rw [c2] at h <;> simp only [cond_true, cond_false] at h ⊢
      · obtain ⟨h1, h2⟩ := andB_iff.1 h
        obtain ⟨h3, h4⟩ := andB_iff.1 h1
        refine andB_iff.2 ⟨andB_iff.2 ⟨h3, ?_⟩, okPut_m h2⟩
        cases hk : g k with
        | none => rw [hk] at h4; cases h4
        | some p => rw [hg _ _ hk]
      · exact okPut_m h
    · exact okPut_m h

end

/-- fewer slots -/
def SubS (sl sl' : List AV) : Prop := ∀ i, sg sl i = .junk ∨ sg sl' i = sg sl i

section
variable {cx : Ctx} {F : Fns} {g g' : Nat → Option Ob} {sl sl' : List AV}

theorem fetch_m (hs : SubS sl sl') {x : Operand} {r} (h : fetch sl x = some r) : fetch sl' x = some r := by
  cases x <;> first | exact h | skip
  case tmp t =>
    simp only [fetch] at h ⊢
    rcases hs t with e | e
    · rw [e] at h; cases h
    · rw [e]; exact h
theorem fetchL_m (hs : SubS sl sl') : ∀ {xs : List Operand} {r}, fetchL sl xs = some r → fetchL sl' xs = some r
  | [], r, h => h
  | x :: xs, r, h => by
    simp only [fetchL] at h ⊢
    cases h1 : fetch sl x <;> rw [h1] at h <;> simp only [reduceCtorEq] at h
    cases h2 : fetchL sl xs <;> rw [h2] at h <;> simp only [reduceCtorEq] at h
    rw [fetch_m hs h1, fetchL_m hs h2]; exact h
theorem guardA_m (hs : SubS sl sl') {gs : Nat → Option Nat} {o : Option (Nat × Bool)} {r} (h : guardA gs sl o = some r) : guardA gs sl' o = some r := by
  cases o with
  | none => exact h
  | some p =>
    obtain ⟨j, want⟩ := p
    simp only [guardA] at h ⊢
    cases hj : gs j <;> rw [hj] at h <;> simp only [reduceCtorEq] at h
    rename_i t
    simp only
    rcases hs t with e | e
    · rw [e] at h; cases h
    · rw [e]; exact h
theorem evItem_m (hg : Sub g g') (hs : SubS sl sl') {gs : Nat → Option Nat} {o : Oper} {r} (h : evItem cx F gs sl g o = some r) : evItem cx F gs sl' g' o = some r := by
  simp only [evItem] at h ⊢
  cases h1 : guardA gs sl o.guard <;> rw [h1] at h <;> simp only [reduceCtorEq] at h
  cases h2 : opnds o.op <;> rw [h2] at h <;> simp only [reduceCtorEq] at h
  rename_i xs
  cases h3 : fetchL sl xs <;> rw [h3] at h <;> simp only [reduceCtorEq] at h
  rename_i fs
  cases h4 : evUp cx F g o.guard.isSome o.dst o.type o.op (fsts fs) <;> rw [h4] at h <;> simp only [reduceCtorEq] at h
  rename_i u
  rw [guardA_m hs h1]
  simp only
  rw [fetchL_m hs h3]
  simp only
  rw [evUp_m hg h4]
  simp only
  cases h5 : o.guard with
  | some p =>
    rw [h5] at h
    revert h
    cases u.put <;> cases u.kil <;> cases u.frz <;> exact id
  | none =>
    rw [h5] at h
    cases h6 : u.frz with
    | cons _ _ =>
      rw [h6] at h
      revert h
      cases u.put <;> cases u.kil <;> (intro h; cases h)
    | nil =>
      rw [h6] at h
      have h : (bif okPut g u.kil u.put then some (⟨o.dst, u.val, u.put, u.kil, u.obl ++ opG o.op true fs⟩ : Item) else none) = some r := h
      show (bif okPut g' u.kil u.put then some (⟨o.dst, u.val, u.put, u.kil, u.obl ++ opG o.op true fs⟩ : Item) else none) = some r
      cases h7 : okPut g u.kil u.put <;> rw [h7] at h <;> simp only [cond_true, cond_false, reduceCtorEq] at h
      rw [okPut_m hg h7]; exact h
end
end Go.Sx

set_option linter.unusedVariables false
set_option linter.unusedSimpArgs false
namespace Go.Sx
open Go Go.RowKit

/-! ### what stands before what -/
theorem addN_mem {n k : Nat} {l : List Nat} : k ∈ addN n l ↔ k = n ∨ k ∈ l := by
  unfold addN
  cases h : memN n l with
  | true =>
    have := memN_iff.1 h
    simp only [cond_true]
    exact ⟨.inr, fun h => h.elim (fun e => e ▸ this) id⟩
  | false => simp
theorem unionN_mem {k : Nat} : ∀ {l m : List Nat}, k ∈ unionN l m ↔ k ∈ l ∨ k ∈ m
  | [], m => by simp [unionN]
  | n :: l, m => by simp only [unionN, addN_mem, unionN_mem, List.mem_cons]; exact or_assoc.symm
theorem ancL_mem {an : List (List Nat)} {k : Nat} : ∀ {es : List Nat}, k ∈ ancL an es ↔ ∃ e, e ∈ es ∧ (k = e ∨ k ∈ nthN an e)
  | [] => by simp [ancL]
  | e :: es => by
    simp only [ancL, unionN_mem, addN_mem, ancL_mem, List.mem_cons]
    constructor
    · rintro (h | ⟨x, hx, h⟩)
      · exact ⟨e, .inl rfl, h⟩
      · exact ⟨x, .inr hx, h⟩
    · rintro ⟨x, rfl | hx, h⟩
      · exact .inl h
      · exact .inr ⟨x, hx, h⟩
theorem nthN_append : ∀ (a b : List (List Nat)) (i : Nat), i < a.length → nthN (a ++ b) i = nthN a i
  | [], b, i, h => by simp at h
  | x :: a, b, 0, h => rfl
  | x :: a, b, i + 1, h => by simpa [nthN] using nthN_append a b i (by simpa using h)
theorem nthN_at : ∀ (a : List (List Nat)) (x : List Nat) (b : List (List Nat)), nthN (a ++ x :: b) a.length = x
  | [], x, b => rfl
  | y :: a, x, b => by simpa [nthN] using nthN_at a x b
theorem allLt_mem {n : Nat} : ∀ {l : List Nat}, allLt n l = true → ∀ e, e ∈ l → e < n
  | [], _, e, he => by simp at he
  | m :: l, h, e, he => by
    simp only [allLt] at h
    cases hb : Nat.blt m n with
    | false => rw [hb] at h; cases h
    | true =>
      rw [hb] at h
      rcases List.mem_cons.1 he with rfl | he
      · simpa using hb
      · exact allLt_mem h e he

def EdgeAt (os : List Oper) (an : List (List Nat)) : Prop :=
  ∀ j o, os[j]? = some o → (∀ e, e ∈ edgesOf o.after.toList → e < j) ∧ ∀ i, i ∈ nthN an j ↔ ∃ e, e ∈ edgesOf o.after.toList ∧ (i = e ∨ i ∈ nthN an e)

theorem anT_spec : ∀ (l : List Oper) (n : Nat) (acc an : List (List Nat)), acc.length = n → anT n acc l = some an →
    (∃ r, an = acc ++ r) ∧ ∀ p o, l[p]? = some o → (∀ e, e ∈ edgesOf o.after.toList → e < n + p) ∧ ∀ i, i ∈ nthN an (n + p) ↔ ∃ e, e ∈ edgesOf o.after.toList ∧ (i = e ∨ i ∈ nthN an e)
  | [], n, acc, an, hl, h => by
    simp only [anT, Option.some.injEq] at h
    subst h
    exact ⟨⟨[], by simp⟩, fun p o hp => by simp at hp⟩
  | o :: l, n, acc, an, hl, h => by
    simp only [anT] at h
    cases ha : allLt n (edgesOf o.after.toList) <;> rw [ha] at h <;> simp only [cond_true, cond_false, reduceCtorEq] at h
    have hlt := allLt_mem ha
    obtain ⟨⟨r, hr⟩, ih⟩ := anT_spec l (n + 1) _ an (by simp [hl]) h
    refine ⟨⟨[ancL acc (edgesOf o.after.toList)] ++ r, by rw [hr]; simp⟩, fun p o' hp => ?_⟩
    cases p with
    | succ p =>
      have := ih p o' (by simpa using hp)
      rw [show n + 1 + p = n + (p + 1) from by omega] at this
      exact this
    | zero =>
      simp only [List.getElem?_cons_zero, Option.some.injEq] at hp
      subst hp
      refine ⟨fun e he => by simpa using hlt e he, fun i => ?_⟩
      have hself : nthN an (n + 0) = ancL acc (edgesOf o.after.toList) := by
        rw [hr, List.append_assoc, Nat.add_zero, ← hl]
        exact nthN_at acc _ r
      rw [hself, ancL_mem]
      constructor
      · rintro ⟨e, he, h⟩
        refine ⟨e, he, h.imp id fun h => ?_⟩
        rw [hr, List.append_assoc, nthN_append _ _ _ (by rw [hl]; exact hlt e he)]; exact h
      · rintro ⟨e, he, h⟩
        refine ⟨e, he, h.imp id fun h => ?_⟩
        rw [hr, List.append_assoc, nthN_append _ _ _ (by rw [hl]; exact hlt e he)] at h; exact h
theorem anT_ok {os : List Oper} {an : List (List Nat)} (h : anT 0 [] os = some an) : EdgeAt os an := by
  obtain ⟨_, h2⟩ := anT_spec os 0 [] an rfl h
  intro j o hj
  simpa using h2 j o hj

theorem anc_lt {os : List Oper} {an : List (List Nat)} (h : EdgeAt os an) : ∀ (j : Nat) (o : Oper), os[j]? = some o → ∀ i, i ∈ nthN an j → i < j := by
  intro j
  induction j using Nat.strongRecOn with
  | ind j ih =>
    intro o hj i hi
    obtain ⟨h1, h2⟩ := h j o hj
    obtain ⟨e, he, hie⟩ := (h2 i).1 hi
    have hej := h1 e he
    rcases hie with rfl | hie
    · exact hej
    · have hjl := (List.getElem?_eq_some_iff.1 hj).1
      have : ∃ o', os[e]? = some o' := ⟨_, List.getElem?_eq_some_iff.2 ⟨by omega, rfl⟩⟩
      obtain ⟨o', ho'⟩ := this
      exact Nat.lt_trans (ih e hej o' ho' i hie) hej

def Down (os : List Oper) (L : Nat → Bool) : Prop := ∀ i o, L i = true → os[i]? = some o → ∀ e, e ∈ edgesOf o.after.toList → L e = true
theorem anc_in {os : List Oper} {an : List (List Nat)} (h : EdgeAt os an) {L : Nat → Bool} (hd : Down os L) : ∀ (j : Nat) (o : Oper), os[j]? = some o → (∀ e, e ∈ edgesOf o.after.toList → L e = true) →
    ∀ i, i ∈ nthN an j → L i = true := by
  intro j
  induction j using Nat.strongRecOn with
  | ind j ih =>
    intro o hj hL i hi
    obtain ⟨h1, h2⟩ := h j o hj
    obtain ⟨e, he, hie⟩ := (h2 i).1 hi
    have hej := h1 e he
    rcases hie with rfl | hie
    · exact hL _ he
    · have hjl := (List.getElem?_eq_some_iff.1 hj).1
      obtain ⟨o', ho'⟩ : ∃ o', os[e]? = some o' := ⟨_, List.getElem?_eq_some_iff.2 ⟨by omega, rfl⟩⟩
      exact ih e hej o' ho' (fun e' he' => hd e o' (hL e he) ho' e' he') i hie

/-! ### the last writer -/
def lastO (L : Nat → Bool) (k : Nat) : Nat → List Item → Option Ob → Option Ob
  | _, [], cur => cur
  | i, it :: l, cur => lastO L k (i + 1) l (if L i = true then (match og it.put k with | some o => some o | none => cur) else cur)
def lastS (L : Nat → Bool) (s : Nat) : Nat → List Item → AV → AV
  | _, [], cur => cur
  | i, it :: l, cur => lastS L s (i + 1) l (if L i = true ∧ it.dst = some s then it.val else cur)

theorem lastS_congr {L L' : Nat → Bool} {s : Nat} : ∀ (l : List Item) (i : Nat) (cur : AV), (∀ p it, l[p]? = some it → it.dst = some s → L (i + p) = L' (i + p)) → lastS L s i l cur = lastS L' s i l cur
  | [], _, _, _ => rfl
  | it :: l, i, cur, h => by
    simp only [lastS]
    have h0 : (if L i = true ∧ it.dst = some s then it.val else cur) = (if L' i = true ∧ it.dst = some s then it.val else cur) := by
      by_cases hd : it.dst = some s
      · have := h 0 it rfl hd; simp only [Nat.add_zero] at this; rw [this]
      · simp [hd]
    rw [h0]
    exact lastS_congr l (i + 1) _ fun p it' hp hd => by
      have := h (p + 1) it' (by simpa using hp) hd
      rw [show i + 1 + p = i + (p + 1) from by omega]; exact this
theorem lastO_congr {L L' : Nat → Bool} {k : Nat} : ∀ (l : List Item) (i : Nat) (cur : Option Ob), (∀ p it, l[p]? = some it → og it.put k ≠ none → L (i + p) = L' (i + p)) → lastO L k i l cur = lastO L' k i l cur
  | [], _, _, _ => rfl
  | it :: l, i, cur, h => by
    simp only [lastO]
    have h0 : (if L i = true then (match og it.put k with | some o => some o | none => cur) else cur) = (if L' i = true then (match og it.put k with | some o => some o | none => cur) else cur) := by
      cases ho : og it.put k with
      | none => simp
      | some o => have := h 0 it rfl (by rw [ho]; simp); simp only [Nat.add_zero] at this; rw [this]
    rw [h0]
    exact lastO_congr l (i + 1) _ fun p it' hp hd => by
      have := h (p + 1) it' (by simpa using hp) hd
      rw [show i + 1 + p = i + (p + 1) from by omega]; exact this
theorem lastS_none {L : Nat → Bool} {s : Nat} : ∀ (l : List Item) (i : Nat) (cur : AV), (∀ p it, l[p]? = some it → it.dst = some s → L (i + p) = false) → lastS L s i l cur = cur
  | [], _, _, _ => rfl
  | it :: l, i, cur, h => by
    simp only [lastS]
    have h0 : (if L i = true ∧ it.dst = some s then it.val else cur) = cur := by
      by_cases hd : it.dst = some s
      · have := h 0 it rfl hd; simp only [Nat.add_zero] at this; simp [this]
      · simp [hd]
    rw [h0]
    exact lastS_none l (i + 1) _ fun p it' hp hd => by
      have := h (p + 1) it' (by simpa using hp) hd
      rw [show i + 1 + p = i + (p + 1) from by omega]; exact this
theorem lastO_none {L : Nat → Bool} {k : Nat} : ∀ (l : List Item) (i : Nat) (cur : Option Ob), (∀ p it, l[p]? = some it → og it.put k ≠ none → L (i + p) = false) → lastO L k i l cur = cur
  | [], _, _, _ => rfl
  | it :: l, i, cur, h => by
    simp only [lastO]
    have h0 : (if L i = true then (match og it.put k with | some o => some o | none => cur) else cur) = cur := by
      cases ho : og it.put k with
      | none => simp
      | some o => have := h 0 it rfl (by rw [ho]; simp); simp only [Nat.add_zero] at this; simp [this]
    rw [h0]
    exact lastO_none l (i + 1) _ fun p it' hp hd => by
      have := h (p + 1) it' (by simpa using hp) hd
      rw [show i + 1 + p = i + (p + 1) from by omega]; exact this
theorem lastS_last {L : Nat → Bool} {s : Nat} : ∀ (l : List Item) (i : Nat) (cur : AV) (p : Nat) (it : Item), l[p]? = some it → it.dst = some s → L (i + p) = true →
    (∀ q it', p < q → l[q]? = some it' → it'.dst = some s → L (i + q) = false) → lastS L s i l cur = it.val
  | [], _, _, p, it, hp, _, _, _ => by simp at hp
  | it0 :: l, i, cur, 0, it, hp, hd, hL, h => by
    simp only [List.getElem?_cons_zero, Option.some.injEq] at hp
    subst hp
    simp only [lastS]
    rw [Nat.add_zero] at hL
    rw [if_pos ⟨hL, hd⟩]
    exact lastS_none l (i + 1) _ fun p it' hp hd => by
      have := h (p + 1) it' (by omega) (by simpa using hp) hd
      rw [show i + 1 + p = i + (p + 1) from by omega]; exact this
  | it0 :: l, i, cur, p + 1, it, hp, hd, hL, h => by
    simp only [lastS]
    refine lastS_last l (i + 1) _ p it (by simpa using hp) hd (by rw [show i + 1 + p = i + (p + 1) from by omega]; exact hL) fun q it' hq hq' hd' => ?_
    have := h (q + 1) it' (by omega) (by simpa using hq') hd'
    rw [show i + 1 + q = i + (q + 1) from by omega]; exact this
theorem lastO_last {L : Nat → Bool} {k : Nat} : ∀ (l : List Item) (i : Nat) (cur : Option Ob) (p : Nat) (it : Item) (o : Ob), l[p]? = some it → og it.put k = some o → L (i + p) = true →
    (∀ q it', p < q → l[q]? = some it' → og it'.put k ≠ none → L (i + q) = false) → lastO L k i l cur = some o
  | [], _, _, p, it, o, hp, _, _, _ => by simp at hp
  | it0 :: l, i, cur, 0, it, o, hp, hd, hL, h => by
    simp only [List.getElem?_cons_zero, Option.some.injEq] at hp
    subst hp
    simp only [lastO]
    rw [Nat.add_zero] at hL
    rw [if_pos hL, hd]
    exact lastO_none l (i + 1) _ fun p it' hp hd => by
      have := h (p + 1) it' (by omega) (by simpa using hp) hd
      rw [show i + 1 + p = i + (p + 1) from by omega]; exact this
  | it0 :: l, i, cur, p + 1, it, o, hp, hd, hL, h => by
    simp only [lastO]
    refine lastO_last l (i + 1) _ p it o (by simpa using hp) hd (by rw [show i + 1 + p = i + (p + 1) from by omega]; exact hL) fun q it' hq hq' hd' => ?_
    have := h (q + 1) it' (by omega) (by simpa using hq') hd'
    rw [show i + 1 + q = i + (q + 1) from by omega]; exact this
theorem lastS_cases {L : Nat → Bool} {s : Nat} : ∀ (l : List Item) (i : Nat) (cur : AV), lastS L s i l cur = cur ∨ ∃ p it, l[p]? = some it ∧ L (i + p) = true ∧ lastS L s i l cur = it.val
  | [], _, _ => .inl rfl
  | it :: l, i, cur => by
    simp only [lastS]
    rcases lastS_cases (L := L) (s := s) l (i + 1) (if L i = true ∧ it.dst = some s then it.val else cur) with h | ⟨p, it', h1, h2, h3⟩
    · rw [h]
      by_cases hc : L i = true ∧ it.dst = some s
      · rw [if_pos hc]; exact .inr ⟨0, it, rfl, by simpa using hc.1, rfl⟩
      · rw [if_neg hc]; exact .inl rfl
    · exact .inr ⟨p + 1, it', by simpa using h1, by rw [show i + (p + 1) = i + 1 + p from by omega]; exact h2, h3⟩
theorem lastO_cases {L : Nat → Bool} {k : Nat} : ∀ (l : List Item) (i : Nat) (cur : Option Ob), lastO L k i l cur = cur ∨ ∃ p it o, l[p]? = some it ∧ L (i + p) = true ∧ og it.put k = some o ∧ lastO L k i l cur = some o
  | [], _, _ => .inl rfl
  | it :: l, i, cur => by
    simp only [lastO]
    rcases lastO_cases (L := L) (k := k) l (i + 1) (if L i = true then (match og it.put k with | some o => some o | none => cur) else cur) with h | ⟨p, it', o, h1, h2, h3, h4⟩
    · rw [h]
      by_cases hc : L i = true
      · rw [if_pos hc]
        cases ho : og it.put k with
        | none => exact .inl rfl
        | some o => exact .inr ⟨0, it, o, rfl, by simpa using hc, ho, rfl⟩
      · rw [if_neg hc]; exact .inl rfl
    · exact .inr ⟨p + 1, it', o, by simpa using h1, by rw [show i + (p + 1) = i + 1 + p from by omega]; exact h2, h3, h4⟩

/-! ### states, described -/
structure Desc (its : List Item) (s0 : St) (L : Nat → Bool) (sl : List AV) (ob : List (Nat × Ob)) : Prop where
  len : sl.length = s0.sl.length
  slot : ∀ s, s < s0.sl.length → sg sl s = lastS L s 0 its (sg s0.sl s)
  obj : ∀ k, og ob k = lastO L k 0 its (og s0.ob k)

theorem og_ops {ob ps : List (Nat × Ob)} {k : Nat} (hn : (namesO ps).Nodup) : og (ops ob ps) k = (match og ps k with | some o => some o | none => og ob k) := by
  have hmem : ∀ (l : List (Nat × Ob)) (o : Ob), og l k = some o → (k, o) ∈ l := by
    intro l
    induction l with
    | nil => intro o h; simp [og] at h
    | cons x l ih =>
      intro o h
      obtain ⟨j, p⟩ := x
      simp only [og] at h
      cases hb : Nat.beq j k with
      | true => rw [hb] at h; simp only [cond_true, Option.some.injEq] at h; subst h; have := beqT.1 hb; subst this; simp
      | false => rw [hb] at h; simp only [cond_false] at h; simp [ih o h]
  have hnone : ∀ (l : List (Nat × Ob)), og l k = none → k ∉ namesO l := by
    intro l
    induction l with
    | nil => intro _ h; simp [namesO] at h
    | cons x l ih =>
      intro h hk
      obtain ⟨j, p⟩ := x
      simp only [og] at h
      simp only [namesO, List.mem_cons] at hk
      cases hb : Nat.beq j k with
      | true => rw [hb] at h; cases h
      | false =>
        rw [hb] at h
        simp only [cond_false] at h
        rcases hk with rfl | hk
        · exact beqF.1 hb rfl
        · exact ih h hk
  cases h : og ps k with
  | some o => exact og_ops_in ps ob k o hn (hmem ps o h)
  | none => exact og_ops_out ps ob k (hnone ps h)
theorem og_names : ∀ {ps : List (Nat × Ob)} {k : Nat}, og ps k ≠ none → k ∈ namesO ps
  | [], k, h => by simp [og] at h
  | (j, o) :: ps, k, h => by
    simp only [og] at h
    simp only [namesO, List.mem_cons]
    cases hb : Nat.beq j k with
    | true => exact .inl (beqT.1 hb).symm
    | false => rw [hb] at h; exact .inr (og_names h)
theorem og_nmP : ∀ {ps : List (Nat × Ob)} {k : Nat} {cs : List AV} {n : Nat}, og ps k = some (.box cs) → n ∈ AV.nmL cs → n ∈ nmP ps
  | [], k, cs, n, h, _ => by simp [og] at h
  | (j, o) :: ps, k, cs, n, h, hn => by
    simp only [og] at h
    simp only [nmP, List.mem_append]
    cases hb : Nat.beq j k with
    | true => rw [hb] at h; simp only [cond_true, Option.some.injEq] at h; subst h; exact .inl hn
    | false => rw [hb] at h; exact .inr (og_nmP h hn)

theorem putItem_sg (st : St) (it : Item) (s : Nat) (hs : s < st.sl.length) : sg (putItem st it).sl s = if it.dst = some s then it.val else sg st.sl s := by
  unfold putItem
  cases hd : it.dst with
  | none => simp
  | some d =>
    simp only [sg_ss, Option.some.injEq]
    by_cases e : s = d
    · subst e; simp [hs]
    · have e' : ¬ d = s := fun c => e c.symm
      simp [e, e']
theorem putItem_len (st : St) (it : Item) : (putItem st it).sl.length = st.sl.length := by
  unfold putItem
  cases it.dst <;> simp [ss_length]

theorem putAll_desc : ∀ (l : List Item) (st : St) (i : Nat), (∀ it, it ∈ l → (namesO it.put).Nodup) → (putAll l st).sl.length = st.sl.length ∧
    (∀ s, s < st.sl.length → sg (putAll l st).sl s = lastS (fun _ => true) s i l (sg st.sl s)) ∧ ∀ k, og (putAll l st).ob k = lastO (fun _ => true) k i l (og st.ob k)
  | [], st, i, _ => ⟨rfl, fun _ _ => rfl, fun _ => rfl⟩
  | it :: l, st, i, hn => by
    obtain ⟨h1, h2, h3⟩ := putAll_desc l (putItem st it) (i + 1) fun x hx => hn x (by simp [hx])
    simp only [putAll]
    refine ⟨by rw [h1, putItem_len], fun s hs => ?_, fun k => ?_⟩
    · rw [h2 s (by rw [putItem_len]; exact hs), putItem_sg st it s hs]
      simp [lastS]
    · rw [h3 k]
      simp only [lastO, if_true]
      congr 1
      exact og_ops (hn it (by simp))

theorem lastS_take {s : Nat} : ∀ (l : List Item) (i j : Nat) (cur : AV), lastS (fun _ => true) s i (l.take j) cur = lastS (fun p => Nat.blt p (i + j)) s i l cur
  | [], i, j, cur => by simp [lastS]
  | it :: l, i, 0, cur => by
    simp only [List.take_zero, lastS]
    have e : (if Nat.blt i (i + 0) = true ∧ it.dst = some s then it.val else cur) = cur := by simp
    rw [e]
    exact (lastS_none l (i + 1) cur fun p it' hp hd => by
      cases hb : Nat.blt (i + 1 + p) (i + 0) with
      | false => rfl
      | true => simp at hb; omega).symm
  | it :: l, i, j + 1, cur => by
    simp only [List.take_succ_cons, lastS]
    have e : Nat.blt i (i + (j + 1)) = true := by simp
    rw [lastS_take l (i + 1) j, show i + 1 + j = i + (j + 1) from by omega]
    simp only [e]
theorem lastO_take {k : Nat} : ∀ (l : List Item) (i j : Nat) (cur : Option Ob), lastO (fun _ => true) k i (l.take j) cur = lastO (fun p => Nat.blt p (i + j)) k i l cur
  | [], i, j, cur => by simp [lastO]
  | it :: l, i, 0, cur => by
    simp only [List.take_zero, lastO]
    have e : (if Nat.blt i (i + 0) = true then (match og it.put k with | some o => some o | none => cur) else cur) = cur := by simp
    rw [e]
    exact (lastO_none l (i + 1) cur fun p it' hp hd => by
      cases hb : Nat.blt (i + 1 + p) (i + 0) with
      | false => rfl
      | true => simp at hb; omega).symm
  | it :: l, i, j + 1, cur => by
    simp only [List.take_succ_cons, lastO]
    have e : Nat.blt i (i + (j + 1)) = true := by simp
    rw [lastO_take l (i + 1) j, show i + 1 + j = i + (j + 1) from by omega]
    simp only [e]

end Go.Sx

set_option linter.unusedVariables false
set_option linter.unusedSimpArgs false
namespace Go.Sx
open Go Go.RowKit

section
variable {P : Program} {cx : Ctx} {F : Fns} {M M' : Frz} {ν π : Nms} {w w' : World} {Γ : Env} {sl : List AV} {ob : List (Nat × Ob)} {a : Act} {st st' : St} {gs : Nat → Option Nat}

theorem itemsOf_spec : ∀ (l : List Oper) (st : St) (its : List Item), itemsOf cx F gs l st = some its → its.length = l.length ∧
    ∀ (j : Nat) (o : Oper) (it : Item), l[j]? = some o → its[j]? = some it → evItem cx F gs (putAll (its.take j) st).sl (og (putAll (its.take j) st).ob) o = some it
  | [], st, its, h => by
    simp only [itemsOf, Option.some.injEq] at h
    subst h
    exact ⟨rfl, fun j o it h => by simp at h⟩
  | o :: l, st, its, h => by
    simp only [itemsOf] at h
    cases h1 : evItem cx F gs st.sl (og st.ob) o <;> rw [h1] at h <;> simp only [reduceCtorEq] at h
    rename_i it
    cases h2 : itemsOf cx F gs l (putItem st it) <;> rw [h2] at h <;> simp only [reduceCtorEq, Option.some.injEq] at h
    rename_i its'
    subst h
    obtain ⟨ih1, ih2⟩ := itemsOf_spec l _ _ h2
    refine ⟨by simp [ih1], fun j o' it' hj hi => ?_⟩
    cases j with
    | zero =>
      simp only [List.getElem?_cons_zero, Option.some.injEq] at hj hi
      subst hj hi
      exact h1
    | succ j => exact ih2 j o' it' (by simpa using hj) (by simpa using hi)

theorem hidAll_spec {an : List (List Nat)} {all : List Item} : ∀ (l : List Oper) (its : List Item) (j0 : Nat) (st : St), hidAll cx F gs an all j0 l its st = true →
    ∀ (p : Nat) (o : Oper) (it : Item), l[p]? = some o → its[p]? = some it →
      ∃ it', evItem cx F gs (hideS (hidJ an (j0 + p) 0 all).1 0 (putAll (its.take p) st).sl) (without (og (putAll (its.take p) st).ob) (hidJ an (j0 + p) 0 all).2) o = some it'
  | [], its, j0, st, h, p, o, it, hp, _ => by simp at hp
  | o :: l, [], j0, st, h, p, o', it, hp, hi => by simp at hi
  | o :: l, x :: its, j0, st, h, p, o', it, hp, hi => by
    simp only [hidAll] at h
    cases h1 : evItem cx F gs (hideS (hidJ an j0 0 all).1 0 st.sl) (without (og st.ob) (hidJ an j0 0 all).2) o <;> rw [h1] at h <;> simp only [reduceCtorEq, Bool.false_eq_true] at h
    rename_i it0
    cases p with
    | zero =>
      simp only [List.getElem?_cons_zero, Option.some.injEq] at hp hi
      subst hp hi
      exact ⟨it0, h1⟩
    | succ p =>
      have := hidAll_spec l its (j0 + 1) _ h p o' it (by simpa using hp) (by simpa using hi)
      rw [show j0 + 1 + p = j0 + (p + 1) from by omega] at this
      exact this

theorem hidJ_mem {an : List (List Nat)} {j : Nat} : ∀ (l : List Item) (i p : Nat) (x : Item), l[p]? = some x → i + p ≠ j → i + p ∉ nthN an j → j ∉ nthN an (i + p) →
    (∀ s, x.dst = some s → s ∈ (hidJ an j i l).1) ∧ ∀ k, k ∈ namesO x.put → k ∈ (hidJ an j i l).2
  | [], i, p, x, hp, _, _, _ => by simp at hp
  | y :: l, i, 0, x, hp, h1, h2, h3 => by
    simp only [List.getElem?_cons_zero, Option.some.injEq] at hp
    subst hp
    simp only [Nat.add_zero] at h1 h2 h3
    have c1 : Nat.beq i j = false := beqF.2 h1
    have c2 : memN i (nthN an j) = false := by
      cases h : memN i (nthN an j) with
      | false => rfl
      | true => exact absurd (memN_iff.1 h) h2
    have c3 : memN j (nthN an i) = false := by
      cases h : memN j (nthN an i) with
      | false => rfl
      | true => exact absurd (memN_iff.1 h) h3
    simp only [hidJ, c1, c2, c3, cond_false]
    exact ⟨fun s hs => by simp [oneD, hs], fun k hk => by simp [hk]⟩
  | y :: l, i, p + 1, x, hp, h1, h2, h3 => by
    obtain ⟨i1, i2⟩ := hidJ_mem (an := an) (j := j) l (i + 1) p x (by simpa using hp) (by omega) (by rw [show i + 1 + p = i + (p + 1) from by omega]; exact h2) (by rw [show i + 1 + p = i + (p + 1) from by omega]; exact h3)
    simp only [hidJ]
    cases Nat.beq i j <;> cases memN i (nthN an j) <;> cases memN j (nthN an i) <;> simp only [cond_true, cond_false]
    all_goals exact ⟨fun s hs => (by simp [i1 s hs]), fun k hk => (by simp [i2 k hk])⟩

theorem pairsJ_spec {an : List (List Nat)} {j : Nat} {b : Item} : ∀ (l : List Item) (i : Nat), pairsJ an j b i l = true → ∀ (p : Nat) (x : Item), l[p]? = some x → i + p ≠ j → pairOK an (i + p) j x b = true
  | [], i, _, p, x, hp, _ => by simp at hp
  | y :: l, i, h, p, x, hp, hne => by
    simp only [pairsJ] at h
    obtain ⟨h1, h2⟩ := andB_iff.1 h
    cases p with
    | zero =>
      simp only [List.getElem?_cons_zero, Option.some.injEq] at hp
      subst hp
      simp only [Nat.add_zero] at hne ⊢
      rw [beqF.2 hne] at h1
      exact h1
    | succ p =>
      have := pairsJ_spec l (i + 1) h2 p x (by simpa using hp) (by omega)
      rw [show i + 1 + p = i + (p + 1) from by omega] at this
      exact this
theorem pairsAll_spec {an : List (List Nat)} {all : List Item} : ∀ (l : List Item) (j : Nat), pairsAll an all j l = true → ∀ (q : Nat) (y : Item), l[q]? = some y → ∀ (p : Nat) (x : Item), all[p]? = some x → p ≠ j + q →
    pairOK an p (j + q) x y = true
  | [], j, _, q, y, hq, _, _, _, _ => by simp at hq
  | z :: l, j, h, q, y, hq, p, x, hp, hne => by
    simp only [pairsAll] at h
    obtain ⟨h1, h2⟩ := andB_iff.1 h
    cases q with
    | zero =>
      simp only [List.getElem?_cons_zero, Option.some.injEq] at hq
      subst hq
      simpa using pairsJ_spec all 0 h1 p x hp (by simpa using hne)
    | succ q =>
      have := pairsAll_spec l (j + 1) h2 q y (by simpa using hq) p x hp (by omega)
      rw [show j + 1 + q = j + (q + 1) from by omega] at this
      exact this
theorem subN_mem : ∀ {l m : List Nat}, subN l m = true → ∀ k, k ∈ l → k ∈ m
  | [], _, _, k, hk => by simp at hk
  | n :: l, m, h, k, hk => by
    simp only [subN] at h
    cases hm : memN n m with
    | false => rw [hm] at h; cases h
    | true =>
      rw [hm] at h
      rcases List.mem_cons.1 hk with rfl | hk
      · exact memN_iff.1 hm
      · exact subN_mem h k hk
theorem kilsIn_spec {K : List Nat} : ∀ {l : List Item}, kilsIn K l = true → ∀ it, it ∈ l → (∀ k, k ∈ it.kil → k ∈ K) ∧ (namesO it.put).Nodup
  | [], _, it, h => by simp at h
  | x :: l, h, it, hi => by
    simp only [kilsIn] at h
    obtain ⟨h1, h2⟩ := andB_iff.1 h
    obtain ⟨h2, h3⟩ := andB_iff.1 h2
    rcases List.mem_cons.1 hi with rfl | hi
    · exact ⟨subN_mem h1, nodupN_iff.1 h2⟩
    · exact kilsIn_spec h3 it hi

/-- An item is what the operation does. -/
theorem evItem_evOp {o : Oper} {it : Item} (h : evItem cx F gs st.sl (og st.ob) o = some it) : ∃ st', evOp cx F gs o st = some st' ∧ st'.sl = (putItem (st.kills it.kil) it).sl ∧
    st'.ob = ops (st.kills it.kil).ob it.put ∧ (AllT st.ok → AllT it.obl → AllT st'.ok) ∧ it.dst = o.dst := by
  simp only [evItem] at h
  simp only [evOp]
  cases h1 : guardA gs st.sl o.guard <;> rw [h1] at h <;> simp only [reduceCtorEq] at h ⊢
  rename_i e
  cases h2 : opnds o.op <;> rw [h2] at h <;> simp only [reduceCtorEq] at h ⊢
  rename_i xs
  cases h3 : fetchL st.sl xs <;> rw [h3] at h <;> simp only [reduceCtorEq] at h ⊢
  rename_i fs
  cases h4 : evUp cx F (og st.ob) o.guard.isSome o.dst o.type o.op (fsts fs) <;> rw [h4] at h <;> simp only [reduceCtorEq] at h ⊢
  rename_i u
  obtain ⟨uv, up, uk, uf, uo⟩ := u
  cases h5 : o.guard with
  | some p =>
    rw [h5] at h
    simp only at h ⊢
    cases up with
    | cons _ _ => cases uk <;> cases uf <;> cases h
    | nil =>
      cases uk with
      | cons _ _ => cases uf <;> cases h
      | nil =>
        cases uf with
        | cons _ _ => cases h
        | nil =>
          simp only [Option.some.injEq] at h
          subst h
          refine ⟨_, rfl, ?_, rfl, fun a1 a2 => ?_, rfl⟩
          · simp only [putItem, St.kills]
            cases o.dst <;> rfl
          · rw [← List.append_assoc]; exact AllT_append.2 ⟨a2, a1⟩
  | none =>
    rw [h5] at h
    cases uf with
    | cons _ _ => cases up <;> cases uk <;> cases h
    | nil =>
      have h : (bif okPut (og st.ob) uk up then some (⟨o.dst, uv, up, uk, uo ++ opG o.op true fs⟩ : Item) else none) = some it := h
      cases h7 : okPut (og st.ob) uk up <;> rw [h7] at h <;> simp only [cond_true, cond_false, reduceCtorEq, Option.some.injEq] at h
      subst h
      simp only [St.freezes, h7, cond_true]
      refine ⟨_, rfl, ?_, rfl, fun a1 a2 => ?_, trivial⟩
      · simp only [putItem]
        cases o.dst <;> rfl
      · show AllT (uo ++ (opG o.op true fs ++ (st.kills uk).ok))
        rw [← List.append_assoc, kills_ok]; exact AllT_append.2 ⟨a2, a1⟩

/-! ### names that do not occur -/
mutual
theorem kl_id {k : Nat} : ∀ {a : AV}, k ∉ a.nm → a.kl k = a
  | .int _ _, _ => rfl
  | .bool _, _ => rfl
  | .c _, _ => rfl
  | .nils, _ => rfl
  | .agg cs, h => by simp only [AV.kl, klL_id (cs := cs) (by simpa [AV.nm] using h)]
  | .tup cs, h => by simp only [AV.kl, klL_id (cs := cs) (by simpa [AV.nm] using h)]
  | .sl _ _, _ => rfl
  | .own j, h => by
    have : Nat.beq j k = false := beqF.2 fun e => h (by simp [AV.nm, e])
    simp only [AV.kl, this, cond_false]
  | .sub j _ _ _, h => by
    have : Nat.beq j k = false := beqF.2 fun e => h (by simp [AV.nm, e])
    simp only [AV.kl, this, cond_false]
  | .ref j _, h => by
    have : Nat.beq j k = false := beqF.2 fun e => h (by simp [AV.nm, e])
    simp only [AV.kl, this, cond_false]
  | .elt j _ _ _, h => by
    have : Nat.beq j k = false := beqF.2 fun e => h (by simp [AV.nm, e])
    simp only [AV.kl, this, cond_false]
  | .mp j, h => by
    have : Nat.beq j k = false := beqF.2 fun e => h (by simp [AV.nm, e])
    simp only [AV.kl, this, cond_false]
  | .adr _ _ _, _ => rfl
  | .snap cs _, h => by simp only [AV.kl, klL_id (cs := cs) (by simpa [AV.nm] using h)]
  | .clo _ cs, h => by simp only [AV.kl, klL_id (cs := cs) (by simpa [AV.nm] using h)]
  | .ifc _ a, h => by simp only [AV.kl, kl_id (a := a) (by simpa [AV.nm] using h)]
  | .when _ a, h => by simp only [AV.kl, kl_id (a := a) (by simpa [AV.nm] using h)]
  | .osl _ _, _ => rfl
  | .obx _, _ => rfl
  | .omp _, _ => rfl
  | .ms _, _ => rfl
  | .junk, _ => rfl
theorem klL_id {k : Nat} : ∀ {cs : List AV}, k ∉ AV.nmL cs → AV.klL k cs = cs
  | [], _ => rfl
  | a :: l, h => by
    simp only [AV.nmL, List.mem_append, not_or] at h
    simp only [AV.klL, kl_id h.1, klL_id h.2]
end
theorem kill_id {k : Nat} (h : Free st.sl st.ob k) : (st.kill k).sl = st.sl ∧ ∀ j, og (st.kill k).ob j = og st.ob j := by
  refine ⟨klL_id h.1, fun j => ?_⟩
  simp only [St.kill, og_klO]
  by_cases e : j = k
  · subst e; simp [h.2.2]
  · rw [if_neg e]
    cases ho : og st.ob j with
    | none => rfl
    | some o =>
      cases o with
      | box cs => simp only [Option.map_some, Ob.kl, klL_id (h.2.1 j cs ho)]
      | arr => rfl
      | map => rfl
      | itr => rfl
theorem Free.ext {sl' : List AV} {ob' : List (Nat × Ob)} {k : Nat} (h : Free sl ob k) (e1 : sl' = sl) (e2 : ∀ j, og ob' j = og ob j) : Free sl' ob' k := by
  subst e1
  exact ⟨h.1, fun j cs hj => h.2.1 j cs (by rw [← e2]; exact hj), by rw [e2]; exact h.2.2⟩
theorem kills_id : ∀ (ks : List Nat) {st : St}, (∀ k, k ∈ ks → Free st.sl st.ob k) → (st.kills ks).sl = st.sl ∧ ∀ j, og (st.kills ks).ob j = og st.ob j
  | [], st, _ => ⟨rfl, fun _ => rfl⟩
  | k :: ks, st, h => by
    obtain ⟨h1, h2⟩ := kill_id (h k (by simp))
    simp only [St.kills]
    obtain ⟨h3, h4⟩ := kills_id ks (st := st.kill k) fun j hj => (h j (by simp [hj])).ext h1 h2
    exact ⟨h3.trans h1, fun j => (h4 j).trans (h2 j)⟩
theorem nmL_sg : ∀ {l : List AV} {k : Nat}, k ∈ AV.nmL l → ∃ s, s < l.length ∧ k ∈ (sg l s).nm
  | [], k, h => by simp [AV.nmL] at h
  | a :: l, k, h => by
    simp only [AV.nmL, List.mem_append] at h
    rcases h with h | h
    · exact ⟨0, by simp, h⟩
    · obtain ⟨s, h1, h2⟩ := nmL_sg h
      exact ⟨s + 1, by simpa using h1, h2⟩

theorem sg_hideS (U : List Nat) : ∀ (l : List AV) (i s : Nat), sg (hideS U i l) s = .junk ∨ (i + s ∉ U ∧ sg (hideS U i l) s = sg l s)
  | [], i, s => .inl rfl
  | a :: l, i, 0 => by
    simp only [hideS, sg, Nat.add_zero]
    cases h : memN i U with
    | true => exact .inl rfl
    | false => exact .inr ⟨fun c => (by rw [memN_iff.2 c] at h; cases h), rfl⟩
  | a :: l, i, s + 1 => by
    simp only [hideS, sg]
    rw [show i + (s + 1) = i + 1 + s from by omega]
    exact sg_hideS U l (i + 1) s
theorem hideS_length (U : List Nat) : ∀ (l : List AV) (i : Nat), (hideS U i l).length = l.length
  | [], _ => rfl
  | _ :: l, i => by simp [hideS, hideS_length U l]

end
end Go.Sx
