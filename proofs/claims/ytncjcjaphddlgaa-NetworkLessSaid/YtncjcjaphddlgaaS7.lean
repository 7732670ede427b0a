/-
  The evaluator Sx and its seat table, several parts in one text. No condition beyond those that each theorem names.
-/
import Derived.Test.YtncjcjaphddlgaaProg
import Derived.Test.YtncjcjaphddlgaaS6
import Derived.Test.YtncjcjaphddlgaaS5
import Derived.Test.YtncjcjaphddlgaaRows
import Derived.WalkKit
import Derived.ProofKit
import Derived.OpenShut
import Derived.ChangeOld
import Derived.Below
import Derived.Deep.Slices
import Derived.Test.YtncjcjaphddlgaaS1
set_option linter.unusedVariables false
namespace Go.Sx
open Go Go.Proofs
theorem tab_ok : tab.ok Try.prog = true := by kernel_rfl
theorem cx_ok : CtxOK Try.prog cx := Tab.ctxOK tab_ok
theorem cxs_ok (fs : List Nat) (h : subN fs fsL = true) : CtxOK Try.prog (cxs fs) := ctx_sub cx_ok h
theorem mixed : Try.prog.follows .mixedOrders = true := by kernel_rfl
/-- A function's contract, from its runs. -/
theorem fnOK {L : Orc} {l : List (Nat × (List AV → Option Res))} (hl : TbOK Try.prog l) {fs : List Nat} (hs : subN fs fsL = true) {f : Nat} {fn : Func} {c : Code} (hf : Try.prog.funcs[f]? = some fn) (hb : fn.body = some c)
    (hL : ∀ Γ π, OrcOK Try.prog Γ π L (loopsOf c)) {Ff : List AV → Option Res}
    (hrun : ∀ bs r, Ff bs = some r → AllT r.obl → bs.length ≤ 500 ∧ ∃ ds r', evF (cxs fs) (tb l) L f fn ds bs = some r' ∧ AllT r'.obl ∧ r'.val = r.val ∧ r'.outs = r.outs) : FnOK Try.prog f Ff :=
  fnOK_of (cxs_ok fs hs) (fun f _ => tb_ok hl f) mixed hf hb hL hrun
end Go.Sx

set_option linter.unusedVariables false
namespace Go.Sx
open Go Go.Proofs

theorem FuncsOK.nil {P : Program} : FuncsOK P (asc []) := fun f fn c h => by simp [asc] at h
theorem FuncsOK.cons {P : Program} {f : Nat} {fn : Func} {l : List (Nat × Func)} (h : P.funcs[f]? = some fn) (hb : (match fn.body with | some c => nodupN ((allLoops c).map Prod.fst) | none => true) = true) (t : FuncsOK P (asc l)) :
    FuncsOK P (asc ((f, fn) :: l)) := by
  intro g gn c h1 h2
  unfold asc at h1
  cases hg : Nat.beq f g with
  | false => rw [hg] at h1; exact t g gn c h1 h2
  | true =>
    rw [hg] at h1
    have := Nat.eq_of_beq_eq_true hg
    subst this
    simp only [cond_true, Option.some.injEq] at h1
    subst h1
    rw [h2] at hb
    exact ⟨h, nodupN_iff.1 hb⟩

noncomputable def fnT : List (Nat × Func) := [(3, Try.f3), (4, Try.f4), (5, Try.f5), (6, Try.f6), (7, Try.f7), (8, Try.f8), (9, Try.f9), (10, Try.f10), (11, Try.f11), (12, Try.f12), (13, Try.f13), (14, Try.f14),
  (15, Try.f15), (16, Try.f16), (17, Try.f17), (18, Try.f18), (19, Try.f19), (20, Try.f20), (21, Try.f21), (22, Try.f22), (23, Try.f23), (24, Try.f24), (25, Try.f25), (26, Try.f26),
  (27, Try.f27), (28, Try.f28), (29, Try.f29), (30, Try.f30), (31, Try.f31), (32, Try.f32), (33, Try.f33), (34, Try.f34), (35, Try.f35), (36, Try.f36), (37, Try.f37), (38, Try.f38),
  (39, Try.f39), (40, Try.f40), (41, Try.f41), (42, Try.f42), (43, Try.f43), (44, Try.f44), (45, Try.f45), (46, Try.f46), (47, Try.f47), (48, Try.f48), (49, Try.f49), (50, Try.f50),
  (51, Try.f51), (52, Try.f52), (53, Try.f53), (54, Try.f54), (55, Try.f55), (56, Try.f56), (57, Try.f57), (58, Try.f58), (59, Try.f59), (60, Try.f60), (61, Try.f61), (62, Try.f62),
  (63, Try.f63), (64, Try.f64), (65, Try.f65), (66, Try.f66), (67, Try.f67), (68, Try.f68), (69, Try.f69), (70, Try.f70), (71, Try.f71), (72, Try.f72), (73, Try.f73), (74, Try.f74),
  (75, Try.f75), (76, Try.f76), (77, Try.f77), (78, Try.f78), (79, Try.f79), (80, Try.f80), (81, Try.f81), (82, Try.f82), (83, Try.f83), (84, Try.f84), (85, Try.f85), (86, Try.f86),
  (87, Try.f87), (88, Try.f88), (89, Try.f89), (90, Try.f90), (91, Try.f91), (92, Try.f92), (93, Try.f93), (94, Try.f94), (95, Try.f95), (96, Try.f96), (97, Try.f97), (98, Try.f98),
  (99, Try.f99), (100, Try.f100), (101, Try.f101), (102, Try.f102), (103, Try.f103), (104, Try.f104), (105, Try.f105), (106, Try.f106), (107, Try.f107), (108, Try.f108), (109, Try.f109), (110, Try.f110),
  (111, Try.f111), (112, Try.f112), (113, Try.f113), (114, Try.f114), (115, Try.f115), (116, Try.f116), (117, Try.f117), (118, Try.f118), (119, Try.f119), (120, Try.f120), (121, Try.f121), (122, Try.f122),
  (123, Try.f123), (124, Try.f124), (125, Try.f125), (126, Try.f126), (127, Try.f127), (128, Try.f128), (129, Try.f129), (130, Try.f130), (131, Try.f131), (132, Try.f132), (133, Try.f133), (134, Try.f134),
  (135, Try.f135), (136, Try.f136), (137, Try.f137), (138, Try.f138), (139, Try.f139), (140, Try.f140), (141, Try.f141), (142, Try.f142), (143, Try.f143), (144, Try.f144), (145, Try.f145), (146, Try.f146),
  (147, Try.f147), (148, Try.f148), (149, Try.f149), (150, Try.f150), (151, Try.f151), (152, Try.f152), (153, Try.f153), (154, Try.f154), (155, Try.f155), (156, Try.f156), (157, Try.f157), (158, Try.f158),
  (159, Try.f159), (160, Try.f160), (161, Try.f161), (162, Try.f162), (163, Try.f163), (164, Try.f164), (181, Try.f181), (182, Try.f182), (183, Try.f183), (184, Try.f184)]
theorem fnT_ok : FuncsOK Try.prog (asc fnT) :=
  FuncsOK.cons Try.func3 (by kernel_rfl) <|
  FuncsOK.cons Try.func4 (by kernel_rfl) <|
  FuncsOK.cons Try.func5 (by kernel_rfl) <|
  FuncsOK.cons Try.func6 (by kernel_rfl) <|
  FuncsOK.cons Try.func7 (by kernel_rfl) <|
  FuncsOK.cons Try.func8 (by kernel_rfl) <|
  FuncsOK.cons Try.func9 (by kernel_rfl) <|
  FuncsOK.cons Try.func10 (by kernel_rfl) <|
  FuncsOK.cons Try.func11 (by kernel_rfl) <|
  FuncsOK.cons Try.func12 (by kernel_rfl) <|
  FuncsOK.cons Try.func13 (by kernel_rfl) <|
  FuncsOK.cons Try.func14 (by kernel_rfl) <|
  FuncsOK.cons Try.func15 (by kernel_rfl) <|
  FuncsOK.cons Try.func16 (by kernel_rfl) <|
  FuncsOK.cons Try.func17 (by kernel_rfl) <|
  FuncsOK.cons Try.func18 (by kernel_rfl) <|
  FuncsOK.cons Try.func19 (by kernel_rfl) <|
  FuncsOK.cons Try.func20 (by kernel_rfl) <|
  FuncsOK.cons Try.func21 (by kernel_rfl) <|
  FuncsOK.cons Try.func22 (by kernel_rfl) <|
  FuncsOK.cons Try.func23 (by kernel_rfl) <|
  FuncsOK.cons Try.func24 (by kernel_rfl) <|
  FuncsOK.cons Try.func25 (by kernel_rfl) <|
  FuncsOK.cons Try.func26 (by kernel_rfl) <|
  FuncsOK.cons Try.func27 (by kernel_rfl) <|
  FuncsOK.cons Try.func28 (by kernel_rfl) <|
  FuncsOK.cons Try.func29 (by kernel_rfl) <|
  FuncsOK.cons Try.func30 (by kernel_rfl) <|
  FuncsOK.cons Try.func31 (by kernel_rfl) <|
  FuncsOK.cons Try.func32 (by kernel_rfl) <|
  FuncsOK.cons Try.func33 (by kernel_rfl) <|
  FuncsOK.cons Try.func34 (by kernel_rfl) <|
  FuncsOK.cons Try.func35 (by kernel_rfl) <|
  FuncsOK.cons Try.func36 (by kernel_rfl) <|
  FuncsOK.cons Try.func37 (by kernel_rfl) <|
  FuncsOK.cons Try.func38 (by kernel_rfl) <|
  FuncsOK.cons Try.func39 (by kernel_rfl) <|
  FuncsOK.cons Try.func40 (by kernel_rfl) <|
  FuncsOK.cons Try.func41 (by kernel_rfl) <|
  FuncsOK.cons Try.func42 (by kernel_rfl) <|
  FuncsOK.cons Try.func43 (by kernel_rfl) <|
  FuncsOK.cons Try.func44 (by kernel_rfl) <|
  FuncsOK.cons Try.func45 (by kernel_rfl) <|
  FuncsOK.cons Try.func46 (by kernel_rfl) <|
  FuncsOK.cons Try.func47 (by kernel_rfl) <|
  FuncsOK.cons Try.func48 (by kernel_rfl) <|
  FuncsOK.cons Try.func49 (by kernel_rfl) <|
  FuncsOK.cons Try.func50 (by kernel_rfl) <|
  FuncsOK.cons Try.func51 (by kernel_rfl) <|
  FuncsOK.cons Try.func52 (by kernel_rfl) <|
  FuncsOK.cons Try.func53 (by kernel_rfl) <|
  FuncsOK.cons Try.func54 (by kernel_rfl) <|
  FuncsOK.cons Try.func55 (by kernel_rfl) <|
  FuncsOK.cons Try.func56 (by kernel_rfl) <|
  FuncsOK.cons Try.func57 (by kernel_rfl) <|
  FuncsOK.cons Try.func58 (by kernel_rfl) <|
  FuncsOK.cons Try.func59 (by kernel_rfl) <|
  FuncsOK.cons Try.func60 (by kernel_rfl) <|
  FuncsOK.cons Try.func61 (by kernel_rfl) <|
  FuncsOK.cons Try.func62 (by kernel_rfl) <|
  FuncsOK.cons Try.func63 (by kernel_rfl) <|
  FuncsOK.cons Try.func64 (by kernel_rfl) <|
  FuncsOK.cons Try.func65 (by kernel_rfl) <|
  FuncsOK.cons Try.func66 (by kernel_rfl) <|
  FuncsOK.cons Try.func67 (by kernel_rfl) <|
  FuncsOK.cons Try.func68 (by kernel_rfl) <|
  FuncsOK.cons Try.func69 (by kernel_rfl) <|
  FuncsOK.cons Try.func70 (by kernel_rfl) <|
  FuncsOK.cons Try.func71 (by kernel_rfl) <|
  FuncsOK.cons Try.func72 (by kernel_rfl) <|
  FuncsOK.cons Try.func73 (by kernel_rfl) <|
  FuncsOK.cons Try.func74 (by kernel_rfl) <|
  FuncsOK.cons Try.func75 (by kernel_rfl) <|
  FuncsOK.cons Try.func76 (by kernel_rfl) <|
  FuncsOK.cons Try.func77 (by kernel_rfl) <|
  FuncsOK.cons Try.func78 (by kernel_rfl) <|
  FuncsOK.cons Try.func79 (by kernel_rfl) <|
  FuncsOK.cons Try.func80 (by kernel_rfl) <|
  FuncsOK.cons Try.func81 (by kernel_rfl) <|
  FuncsOK.cons Try.func82 (by kernel_rfl) <|
  FuncsOK.cons Try.func83 (by kernel_rfl) <|
  FuncsOK.cons Try.func84 (by kernel_rfl) <|
  FuncsOK.cons Try.func85 (by kernel_rfl) <|
  FuncsOK.cons Try.func86 (by kernel_rfl) <|
  FuncsOK.cons Try.func87 (by kernel_rfl) <|
  FuncsOK.cons Try.func88 (by kernel_rfl) <|
  FuncsOK.cons Try.func89 (by kernel_rfl) <|
  FuncsOK.cons Try.func90 (by kernel_rfl) <|
  FuncsOK.cons Try.func91 (by kernel_rfl) <|
  FuncsOK.cons Try.func92 (by kernel_rfl) <|
  FuncsOK.cons Try.func93 (by kernel_rfl) <|
  FuncsOK.cons Try.func94 (by kernel_rfl) <|
  FuncsOK.cons Try.func95 (by kernel_rfl) <|
  FuncsOK.cons Try.func96 (by kernel_rfl) <|
  FuncsOK.cons Try.func97 (by kernel_rfl) <|
  FuncsOK.cons Try.func98 (by kernel_rfl) <|
  FuncsOK.cons Try.func99 (by kernel_rfl) <|
  FuncsOK.cons Try.func100 (by kernel_rfl) <|
  FuncsOK.cons Try.func101 (by kernel_rfl) <|
  FuncsOK.cons Try.func102 (by kernel_rfl) <|
  FuncsOK.cons Try.func103 (by kernel_rfl) <|
  FuncsOK.cons Try.func104 (by kernel_rfl) <|
  FuncsOK.cons Try.func105 (by kernel_rfl) <|
  FuncsOK.cons Try.func106 (by kernel_rfl) <|
  FuncsOK.cons Try.func107 (by kernel_rfl) <|
  FuncsOK.cons Try.func108 (by kernel_rfl) <|
  FuncsOK.cons Try.func109 (by kernel_rfl) <|
  FuncsOK.cons Try.func110 (by kernel_rfl) <|
  FuncsOK.cons Try.func111 (by kernel_rfl) <|
  FuncsOK.cons Try.func112 (by kernel_rfl) <|
  FuncsOK.cons Try.func113 (by kernel_rfl) <|
  FuncsOK.cons Try.func114 (by kernel_rfl) <|
  FuncsOK.cons Try.func115 (by kernel_rfl) <|
  FuncsOK.cons Try.func116 (by kernel_rfl) <|
  FuncsOK.cons Try.func117 (by kernel_rfl) <|
  FuncsOK.cons Try.func118 (by kernel_rfl) <|
  FuncsOK.cons Try.func119 (by kernel_rfl) <|
  FuncsOK.cons Try.func120 (by kernel_rfl) <|
  FuncsOK.cons Try.func121 (by kernel_rfl) <|
  FuncsOK.cons Try.func122 (by kernel_rfl) <|
  FuncsOK.cons Try.func123 (by kernel_rfl) <|
  FuncsOK.cons Try.func124 (by kernel_rfl) <|
  FuncsOK.cons Try.func125 (by kernel_rfl) <|
  FuncsOK.cons Try.func126 (by kernel_rfl) <|
  FuncsOK.cons Try.func127 (by kernel_rfl) <|
  FuncsOK.cons Try.func128 (by kernel_rfl) <|
  FuncsOK.cons Try.func129 (by kernel_rfl) <|
  FuncsOK.cons Try.func130 (by kernel_rfl) <|
  FuncsOK.cons Try.func131 (by kernel_rfl) <|
  FuncsOK.cons Try.func132 (by kernel_rfl) <|
  FuncsOK.cons Try.func133 (by kernel_rfl) <|
  FuncsOK.cons Try.func134 (by kernel_rfl) <|
  FuncsOK.cons Try.func135 (by kernel_rfl) <|
  FuncsOK.cons Try.func136 (by kernel_rfl) <|
  FuncsOK.cons Try.func137 (by kernel_rfl) <|
  FuncsOK.cons Try.func138 (by kernel_rfl) <|
  FuncsOK.cons Try.func139 (by kernel_rfl) <|
  FuncsOK.cons Try.func140 (by kernel_rfl) <|
  FuncsOK.cons Try.func141 (by kernel_rfl) <|
  FuncsOK.cons Try.func142 (by kernel_rfl) <|
  FuncsOK.cons Try.func143 (by kernel_rfl) <|
  FuncsOK.cons Try.func144 (by kernel_rfl) <|
  FuncsOK.cons Try.func145 (by kernel_rfl) <|
  FuncsOK.cons Try.func146 (by kernel_rfl) <|
  FuncsOK.cons Try.func147 (by kernel_rfl) <|
  FuncsOK.cons Try.func148 (by kernel_rfl) <|
  FuncsOK.cons Try.func149 (by kernel_rfl) <|
  FuncsOK.cons Try.func150 (by kernel_rfl) <|
  FuncsOK.cons Try.func151 (by kernel_rfl) <|
  FuncsOK.cons Try.func152 (by kernel_rfl) <|
  FuncsOK.cons Try.func153 (by kernel_rfl) <|
  FuncsOK.cons Try.func154 (by kernel_rfl) <|
  FuncsOK.cons Try.func155 (by kernel_rfl) <|
  FuncsOK.cons Try.func156 (by kernel_rfl) <|
  FuncsOK.cons Try.func157 (by kernel_rfl) <|
  FuncsOK.cons Try.func158 (by kernel_rfl) <|
  FuncsOK.cons Try.func159 (by kernel_rfl) <|
  FuncsOK.cons Try.func160 (by kernel_rfl) <|
  FuncsOK.cons Try.func161 (by kernel_rfl) <|
  FuncsOK.cons Try.func162 (by kernel_rfl) <|
  FuncsOK.cons Try.func163 (by kernel_rfl) <|
  FuncsOK.cons Try.func164 (by kernel_rfl) <|
  FuncsOK.cons Try.func181 (by kernel_rfl) <|
  FuncsOK.cons Try.func182 (by kernel_rfl) <|
  FuncsOK.cons Try.func183 (by kernel_rfl) <|
  FuncsOK.cons Try.func184 (by kernel_rfl) <|
  FuncsOK.nil
end Go.Sx

set_option linter.unusedVariables false
set_option linter.unusedSimpArgs false
namespace Go.Sx
open Go Go.Proofs

theorem body_of {fn : Func} (h : fn.body.isSome = true) : fn.body = some (bodyOf fn) := by
  unfold bodyOf
  cases hb : fn.body with
  | none => rw [hb] at h; cases h
  | some c => rfl
/-- the summaries of a function's loops hold -/
def LoopsOK (Γ : Env) (π : Nms) (fn : Func) (tbl : List (Nat × LSpec)) : Prop := ∀ id s, asc tbl id = some s → LoopOK Try.prog Γ π id (loopB fn id) s
theorem LoopsOK.nil {Γ : Env} {π : Nms} {fn : Func} : LoopsOK Γ π fn [] := fun id s h => by simp [asc] at h
theorem LoopsOK.cons {Γ : Env} {π : Nms} {fn : Func} {id : Nat} {s : LSpec} {tbl : List (Nat × LSpec)} (h : LoopOK Try.prog Γ π id (loopB fn id) s) (t : LoopsOK Γ π fn tbl) : LoopsOK Γ π fn ((id, s) :: tbl) := by
  intro j u hj
  unfold asc at hj
  cases hb : Nat.beq id j with
  | true => rw [hb] at hj; cases hj; rw [← beqT.1 hb]; exact h
  | false => rw [hb] at hj; exact t j u hj
theorem loopB_of {fn : Func} (hn : nodupN ((allLoops (bodyOf fn)).map Prod.fst) = true) {id : Nat} {b : Code} (h : (id, b) ∈ allLoops (bodyOf fn)) : loopB fn id = b := by
  unfold loopB
  rw [asc_nodup (nodupN_iff.1 hn) h]
theorem orcK {Γ : Env} {π : Nms} {fn : Func} (hn : nodupN ((allLoops (bodyOf fn)).map Prod.fst) = true) {tbl : List (Nat × LSpec)} (h : LoopsOK Γ π fn tbl) : OrcTOK Try.prog Γ π (orcT tbl) (loopsOf (bodyOf fn)) :=
  orcT_ok fun id b s hb hs => by rw [← loopB_of hn (loopsOf_all hb).1]; exact h id s hs
theorem orcI {Γ : Env} {π : Nms} {fn : Func} (hn : nodupN ((allLoops (bodyOf fn)).map Prod.fst) = true) {i : Nat} (hi : (asc (allLoops (bodyOf fn)) i).isSome = true) {tbl : List (Nat × LSpec)} (h : LoopsOK Γ π fn tbl) :
    OrcTOK Try.prog Γ π (orcT tbl) (loopsOf (loopB fn i)) := by
  obtain ⟨c, hc⟩ := Option.isSome_iff_exists.1 hi
  have hm := asc_mem hc
  have hb : loopB fn i = c := loopB_of hn hm
  have sub : ∀ c0 : Code, (i, c) ∈ allLoops c0 → ∀ x, x ∈ allLoops c → x ∈ allLoops c0 := by
    intro c0
    induction c0 with
    | seq a b iha ihb =>
      intro h x hx
      simp only [allLoops, List.mem_append] at h ⊢
      exact h.imp (fun h => iha h x hx) (fun h => ihb h x hx)
    | cond o a b iha ihb =>
      intro h x hx
      simp only [allLoops, List.mem_append] at h ⊢
      exact h.imp (fun h => iha h x hx) (fun h => ihb h x hx)
    | block j d ih =>
      intro h x hx
      cases d with
      | loop e =>
        simp only [allLoops, List.mem_cons, Prod.mk.injEq] at h ⊢
        rcases h with ⟨rfl, rfl⟩ | h
        · exact .inr hx
        · exact .inr (ih h x hx)
      | _ => simp only [allLoops] at h ⊢; exact ih h x hx
    | loop e ih => intro h x hx; simp only [allLoops] at h ⊢; exact ih h x hx
    | _ => intro h; simp [allLoops] at h
  rw [hb]
  exact orcT_ok fun id b s hbb hs => by rw [← loopB_of hn (sub _ hm _ (loopsOf_all hbb).1)]; exact h id s hs
/-- A function's contract at this seat, from the tree of its ways. -/
theorem fnK {l : List (Nat × (List AV → Option Res))} (hl : TbOK Try.prog l) {fs : List Nat} (hs : subN fs fsL = true) {tbl : List (Nat × LSpec)} {f : Nat} {fn : Func} (hf : Try.prog.funcs[f]? = some fn) (hb : fn.body.isSome = true)
    (hn : nodupN ((allLoops (bodyOf fn)).map Prod.fst) = true) (hL : ∀ Γ π, LoopsOK Γ π fn tbl) {Ff : List AV → Option Res}
    (hrun : ∀ bs r, Ff bs = some r → AllT r.obl → bs.length ≤ 500 ∧ ∃ r', (evFT (cxs fs) (tb l) (orcT tbl) f fn bs).sel = some r' ∧ AllT r'.obl ∧ r'.val = r.val ∧ r'.outs = r.outs) : FnOK Try.prog f Ff :=
  fnOKT (cxs_ok fs hs) (fun f _ => tb_ok hl f) mixed hf (body_of hb) (fun Γ π => orcK hn (hL Γ π)) hrun
theorem noLoops {fn : Func} : ∀ Γ π, LoopsOK Γ π fn [] := fun _ _ => LoopsOK.nil

theorem netC_inv {cs : List AV} {n : Net} (h : netC cs = some n) : ∃ k1 k2 k3, cs = n.cells k1 k2 k3 := by
  unfold netC at h
  split at h
  · rename_i nd k1 pw ns th k2 w ls k3 mg
    cases hb : Nat.beq w 3 <;> rw [hb] at h <;> simp only [cond_true, cond_false, reduceCtorEq, Option.some.injEq] at h
    subst h
    have := beqT.1 hb
    subst this
    exact ⟨k1, k2, k3, rfl⟩
  · cases h
theorem netA_inv {a : AV} {n : Net} (h : netA a = some n) : ∃ k1 k2 k3, a = n.av k1 k2 k3 := by
  unfold netA at h
  split at h
  · obtain ⟨k1, k2, k3, rfl⟩ := netC_inv h
    exact ⟨k1, k2, k3, rfl⟩
  · cases h
theorem on1_inv {f : Net → Option Res} {bs : List AV} {r : Res} (h : on1 f bs = some r) : ∃ n k1 k2 k3, bs = [n.av k1 k2 k3] ∧ f n = some r := by
  unfold on1 at h
  split at h
  · split at h
    · rename_i n hn
      obtain ⟨k1, k2, k3, rfl⟩ := netA_inv hn
      exact ⟨n, k1, k2, k3, rfl, h⟩
    · cases h
  · cases h
theorem on2_inv {f : Net → Int → Option Res} {bs : List AV} {r : Res} (h : on2 f bs = some r) : ∃ n k1 k2 k3 x, bs = [n.av k1 k2 k3, .int .i64 x] ∧ f n x = some r := by
  unfold on2 at h
  split at h
  · split at h
    · rename_i n hn
      obtain ⟨k1, k2, k3, rfl⟩ := netA_inv hn
      exact ⟨n, k1, k2, k3, _, rfl, h⟩
    · cases h
  · cases h
theorem on3_inv {f : Net → Int → Int → Option Res} {bs : List AV} {r : Res} (h : on3 f bs = some r) : ∃ n k1 k2 k3 x y, bs = [n.av k1 k2 k3, .int .i64 x, .int .i64 y] ∧ f n x y = some r := by
  unfold on3 at h
  split at h
  · split at h
    · rename_i n hn
      obtain ⟨k1, k2, k3, rfl⟩ := netA_inv hn
      exact ⟨n, k1, k2, k3, _, _, rfl, h⟩
    · cases h
  · cases h

/-! ### leaves -/
theorem inB_iff {x lo hi : Int} : inB x lo hi = true ↔ lo ≤ x ∧ x ≤ hi := by simp [inB, andB_iff, leI_iff]
theorem addI_in {x y : Int} (h : -9223372036854775808 ≤ x + y) (h' : x + y ≤ 9223372036854775807) : addI .i64 x y = x + y := IntWalk.i64_in _ ⟨by omega, by omega⟩
theorem sbI_in {x y : Int} (h : -9223372036854775808 ≤ x - y) (h' : x - y ≤ 9223372036854775807) : sbI .i64 x y = x - y := IntWalk.i64_in _ ⟨by omega, by omega⟩
theorem mulI_in {x y : Int} (h : -9223372036854775808 ≤ x * y) (h' : x * y ≤ 9223372036854775807) : mulI .i64 x y = x * y := IntWalk.i64_in _ ⟨by omega, by omega⟩

theorem AllT_nil : AllT [] ↔ True := ⟨fun _ => trivial, fun _ b hb => by simp at hb⟩
theorem few_iff {n : Net} : few n = true ↔ rowsP n.pw = true ∧ lenZ n.pw ≤ 8 ∧ lenZ n.ls ≤ 60 ∧ lenZ n.mg ≤ 60 := by simp [few, andB_iff, leI_iff]
theorem few_pw {n : Net} (h : few n = true) : lenZ n.pw ≤ 8 := (few_iff.1 h).2.1
theorem few_ls {n : Net} (h : few n = true) : lenZ n.ls ≤ 60 := (few_iff.1 h).2.2.1
theorem few_mg {n : Net} (h : few n = true) : lenZ n.mg ≤ 60 := (few_iff.1 h).2.2.2

theorem andB_eq {a b : Bool} : andB a b = (a && b) := by cases a <;> rfl
theorem orB_eq {a b : Bool} : orB a b = (a || b) := by cases a <;> rfl
theorem notB_eq {a : Bool} : notB a = !a := rfl
theorem impB_eq {a b : Bool} : impB a b = (!a || b) := by cases a <;> rfl
theorem iteB_eq {a b c : Bool} : iteB a b c = bif a then b else c := by cases a <;> rfl
theorem ltI_eq {x y : Int} : ltI x y = decide (x < y) := rfl
theorem leI_eq {x y : Int} : leI x y = decide (x ≤ y) := rfl
theorem eqI_eq {x y : Int} : eqI x y = decide (x = y) := by simp [eqI]; rfl
theorem neI_eq {x y : Int} : neI x y = decide (x ≠ y) := by simp [neI]; rfl
theorem orF_ok {P : Program} {f : Nat} {a b : List AV → Option Res} (ha : FnOK P f a) (hb : FnOK P f b) : FnOK P f (orF a b) := by
  intro bs r h
  unfold orF at h
  split at h
  · rename_i r' h'
    cases h
    exact ha bs _ h'
  · exact hb bs r h

/-! ### scans -/
theorem scan_step {p : Int → Bool} {k : Nat} {i : Int} : scan p (k + 1) i = if p i = true then i else scan p k (i + 1) := by
  rw [scan]; cases p i <;> rfl
theorem scan_at {p : Int → Bool} {N i : Int} (h : i < N) : scan p (N - i).toNat i = if p i = true then i else scan p (N - (i + 1)).toNat (i + 1) := by
  have : (N - i).toNat = (N - (i + 1)).toNat + 1 := by omega
  rw [this, scan_step]
theorem scan_end {p : Int → Bool} {N i : Int} (h : ¬ i < N) : scan p (N - i).toNat i = -1 := by
  have : (N - i).toNat = 0 := by omega
  rw [this]; rfl
theorem scan_zero {p : Int → Bool} {N : Nat} : scan p ((N : Int) - 0).toNat 0 = scan p N 0 := by simp
theorem scan_ge {p : Int → Bool} : ∀ {k : Nat} {i : Int}, scan p k i = -1 ∨ (i ≤ scan p k i ∧ scan p k i < i + k ∧ p (scan p k i) = true)
  | 0, i => .inl rfl
  | k + 1, i => by
    rw [scan_step]
    by_cases h : p i = true
    · rw [if_pos h]; exact .inr ⟨Int.le_refl i, by omega, h⟩
    · rw [if_neg h]
      rcases scan_ge (p := p) (k := k) (i := i + 1) with h1 | ⟨h1, h2, h3⟩
      · exact .inl h1
      · exact .inr ⟨by omega, by omega, h3⟩
theorem scan_none {p : Int → Bool} : ∀ {k : Nat} {i : Int}, 0 ≤ i → (scan p k i = -1 ↔ ∀ j, i ≤ j → j < i + k → p j = false)
  | 0, i, h0 => ⟨fun _ j h h' => by omega, fun _ => rfl⟩
  | k + 1, i, h0 => by
    rw [scan_step]
    cases h : p i with
    | true =>
      simp only [if_true]
      exact ⟨fun e => by omega, fun e => by have := e i (Int.le_refl i) (by omega); rw [h] at this; cases this⟩
    | false =>
      simp only [Bool.false_eq_true, if_false]
      rw [scan_none (k := k) (i := i + 1) (by omega)]
      constructor
      · intro e j h1 h2
        by_cases hj : j = i
        · rw [hj]; exact h
        · exact e j (by omega) (by omega)
      · intro e j h1 h2
        exact e j (by omega) (by omega)

def outE (id : Nat) : Ex → Option Ex
  | .normal => none
  | .exit j => some (bif Nat.beq j id then .normal else .exit j)
  | .ret => some .ret

section
variable {Γ : Env} {π : Nms} {st : St}
theorem Fits.k {n : Nat} {l : List (Nat × AV)} {ob' : List (Nat × Ob)} (h : Nat.beq st.sl.length n = true) (hs : sgs st.sl (l.map Prod.fst) = l.map Prod.snd) (ho : ogs st.ob (ob'.map Prod.fst) = some (ob'.map Prod.snd)) :
    Fits st (mkS n l) ob' := by
  refine ⟨by rw [mkS_length, beqT.1 h], ?_, ?_⟩
  · intro s
    clear ho h
    induction l with
    | nil => exact .inl (by simp [mkS, sg_juns])
    | cons p l ih =>
      obtain ⟨k, v⟩ := p
      simp only [List.map_cons, sgs, List.cons.injEq] at hs
      rw [sg_mkS]
      by_cases hk : s = k ∧ k < n
      · rw [if_pos hk, hk.1]; exact .inr hs.1.symm
      · rw [if_neg hk]; exact ih hs.2
  · clear hs h
    induction ob' with
    | nil => intro k o hk; simp [og] at hk
    | cons p l ih =>
      obtain ⟨k, v⟩ := p
      simp only [List.map_cons, ogs] at ho
      cases h1 : og st.ob k <;> rw [h1] at ho <;> simp only [reduceCtorEq] at ho
      rename_i o1
      cases h2 : ogs st.ob (l.map Prod.fst) <;> rw [h2] at ho <;> simp only [reduceCtorEq, Option.some.injEq, List.cons.injEq] at ho
      obtain ⟨rfl, rfl⟩ := ho
      intro j o hj
      simp only [og] at hj
      cases hb : Nat.beq k j <;> rw [hb] at hj <;> simp only [cond_true, cond_false, Option.some.injEq] at hj
      · exact ih h2 j o hj
      · rw [← beqT.1 hb, h1, hj]

/-- What a seat's loop needs: its function, its callees, the loops inside it. -/
structure LK (Γ : Env) (π : Nms) (fn : Func) (id : Nat) (fs : List Nat) (l : List (Nat × (List AV → Option Res))) (tbl : List (Nat × LSpec)) : Prop where
  hl : TbOK Try.prog l
  hs : subN fs fsL = true
  hn : nodupN ((allLoops (bodyOf fn)).map Prod.fst) = true
  hi : (asc (allLoops (bodyOf fn)) id).isSome = true
  hL : LoopsOK Γ π fn tbl

variable {fn : Func} {id : Nat} {fs : List Nat} {l : List (Nat × (List AV → Option Res))} {tbl : List (Nat × LSpec)}
/-- A summary, from one round's tree, at this seat; what the loop comes to is known ahead. -/
theorem loopK {X : Type} {n : Nat} {ks os ks' os' : List Nat} (K : LK Γ π fn id fs l tbl) (vs : X → List AV) (obs : X → List Ob) (inv : X → Prop) (μ : X → Nat) (r : LRes) (tr : X → Tr (Ex × St))
    (htr : ∀ x, keepT n ks' os' (evT (cxs fs) (tb l) (orcT tbl) (loopB fn id) ⟨mkS n (zip2 ks (vs x)), zip2 os (obs x), []⟩) = tr x)
    (round : ∀ x, inv x → ∃ e st1, (tr x).sel = some (e, st1) ∧ AllT st1.ok ∧
      ((e = .normal ∧ ∃ x', inv x' ∧ μ x' < μ x ∧ Fits st1 (mkS n (zip2 ks (vs x'))) (zip2 os (obs x'))) ∨ (outE id e = some r.e ∧ Fits st1 (mkS n r.sl) r.ob)))
    {x : X} (hx : inv x) {ok ok' : List Bool} (hok : AllT ok' → AllT ok) (hT : AllT ok') :
    Leads Try.prog Γ π (.block id (.loop (loopB fn id))) ⟨mkS n (zip2 ks (vs x)), zip2 os (obs x), ok⟩ r.e ⟨mkS n r.sl, r.ob, ok'⟩ := by
  refine loop_tree (X := X) vs obs inv μ (fun _ => r) tr (cxs_ok fs K.hs) (fun f _ => tb_ok K.hl f) mixed (orcI K.hn K.hi K.hL) htr ?_ x hx ok ok' hok hT
  intro x hx
  obtain ⟨e, st1, h1, h2, h3⟩ := round x hx
  refine ⟨e, st1, h1, h2, ?_⟩
  cases e with
  | normal =>
    rcases h3 with ⟨_, x', a, b, c⟩ | ⟨a, _⟩
    · exact ⟨x', a, b, c, rfl⟩
    · simp [outE] at a
  | exit j =>
    rcases h3 with ⟨a, _⟩ | ⟨a, b⟩
    · cases a
    · simp only [outE, Option.some.injEq] at a; exact ⟨a.symm, b⟩
  | ret =>
    rcases h3 with ⟨a, _⟩ | ⟨a, b⟩
    · cases a
    · simp only [outE, Option.some.injEq] at a; exact ⟨a.symm, b⟩

/-- A loop that looks for the first index at which p holds. -/
theorem scanK {n : Nat} {ks os ks' os' : List Nat} (K : LK Γ π fn id fs l tbl) (vs : Int → List AV) (obs : List Ob) (p : Int → Bool) (N i0 : Int) (hi : 0 ≤ i0) (hN : N ≤ 9223372036854775807) (R : Int → LRes) (R0 : LRes) (tr : Int → Tr (Ex × St))
    (htr : ∀ x, keepT n ks' os' (evT (cxs fs) (tb l) (orcT tbl) (loopB fn id) ⟨mkS n (zip2 ks (vs x)), zip2 os obs, []⟩) = tr x)
    (hend : ∀ i, 0 ≤ i → ltI i N = false → ∃ e st1, (tr i).sel = some (e, st1) ∧ AllT st1.ok ∧ outE id e = some R0.e ∧ Fits st1 (mkS n R0.sl) R0.ob)
    (hyes : ∀ i, 0 ≤ i → ltI i N = true → p i = true → ∃ e st1, (tr i).sel = some (e, st1) ∧ AllT st1.ok ∧ outE id e = some (R i).e ∧ Fits st1 (mkS n (R i).sl) (R i).ob)
    (hno : ∀ i, 0 ≤ i → ltI i N = true → p i = false → ∃ st1, (tr i).sel = some (.normal, st1) ∧ AllT st1.ok ∧ Fits st1 (mkS n (zip2 ks (vs (addI .i64 i 1)))) (zip2 os obs))
    {r : LRes} (hr : r = if 0 ≤ scan p (N - i0).toNat i0 then R (scan p (N - i0).toNat i0) else R0) {ok ok' : List Bool} (hok : AllT ok' → AllT ok) (hT : AllT ok') :
    Leads Try.prog Γ π (.block id (.loop (loopB fn id))) ⟨mkS n (zip2 ks (vs i0)), zip2 os obs, ok⟩ r.e ⟨mkS n r.sl, r.ob, ok'⟩ := by
  refine loopK (X := Int) K vs (fun _ => obs) (fun i => 0 ≤ i ∧ scan p (N - i0).toNat i0 = scan p (N - i).toNat i) (fun i => (N - i).toNat) r tr htr ?_ ⟨hi, rfl⟩ hok hT
  rintro i ⟨h0, h1⟩
  cases hlt : ltI i N with
  | false =>
    obtain ⟨e, st1, a, b, c, d⟩ := hend i h0 hlt
    have : ¬ i < N := fun c => by rw [ltI_iff.2 c] at hlt; cases hlt
    rw [h1, scan_end this] at hr
    rw [if_neg (by omega)] at hr
    subst hr
    exact ⟨e, st1, a, b, .inr ⟨c, d⟩⟩
  | true =>
    have hl := ltI_iff.1 hlt
    rw [scan_at hl] at h1
    cases hp : p i with
    | true =>
      obtain ⟨e, st1, a, b, c, d⟩ := hyes i h0 hlt hp
      rw [h1, hp, if_pos rfl, if_pos h0] at hr
      subst hr
      exact ⟨e, st1, a, b, .inr ⟨c, d⟩⟩
    | false =>
      obtain ⟨st1, a, b, c⟩ := hno i h0 hlt hp
      rw [hp, if_neg (by simp)] at h1
      have hadd : addI .i64 i 1 = i + 1 := addI_in (by omega) (by omega)
      exact ⟨_, st1, a, b, .inl ⟨rfl, addI .i64 i 1, ⟨by omega, by rw [hadd]; exact h1⟩, by rw [hadd]; omega, c⟩⟩
end
end Go.Sx

set_option linter.unusedVariables false
set_option linter.unusedSimpArgs false
namespace Go.Sx
open Go Go.Proofs

theorem scan_neg {p : Int → Bool} {k : Nat} {i : Int} (hi : 0 ≤ i) (h : leI 0 (scan p k i) = false) : scan p k i = -1 := by
  rcases scan_ge (p := p) (k := k) (i := i) with e | e
  · exact e
  · have : leI 0 (scan p k i) = true := leI_iff.2 (by omega)
    rw [h] at this; cases this
theorem scan_lt0 {p : Int → Bool} {N : Nat} : leI 0 (scan p N 0) = false ↔ ∀ j, 0 ≤ j → j < (N : Int) → p j = false := by
  constructor
  · intro h
    have := (scan_none (p := p) (k := N) (Int.le_refl 0)).1 (scan_neg (Int.le_refl 0) h)
    intro j h0 h1
    exact this j h0 (by omega)
  · intro h
    have := (scan_none (p := p) (k := N) (Int.le_refl 0)).2 fun j h0 h1 => h j h0 (by omega)
    rw [this]; rfl
theorem scan_ge0 {p : Int → Bool} {N : Nat} (h : leI 0 (scan p N 0) = true) : 0 ≤ scan p N 0 ∧ scan p N 0 < (N : Int) ∧ p (scan p N 0) = true := by
  rcases scan_ge (p := p) (k := N) (i := 0) with e | e
  · rw [e] at h; simp [leI] at h
  · exact ⟨e.1, by omega, e.2.2⟩
theorem scan_first {p : Int → Bool} : ∀ {k : Nat} {i : Int}, 0 ≤ i → ∀ j, i ≤ j → j < i + k → p j = true → i ≤ scan p k i ∧ scan p k i ≤ j ∧ p (scan p k i) = true
  | 0, i, _, j, h1, h2, _ => by omega
  | k + 1, i, h0, j, h1, h2, h3 => by
    rw [scan_step]
    by_cases hp : p i = true
    · rw [if_pos hp]; exact ⟨Int.le_refl i, h1, hp⟩
    · rw [if_neg hp]
      have hne : j ≠ i := fun e => hp (by rw [← e]; exact h3)
      have := scan_first (p := p) (k := k) (i := i + 1) (by omega) j (by omega) (by omega) h3
      exact ⟨by omega, this.2.1, this.2.2⟩
theorem rowsP_iff {pw : List (List Int)} : rowsP pw = true ↔ ∀ i, 0 ≤ i → i < lenZ pw → lenZ (getL pw i) ≤ 40 := by
  rw [rowsP, eqI_iff, scan_none (Int.le_refl 0)]
  constructor
  · intro h i h0 h1
    have := h i h0 (by simpa [lenZ] using h1)
    have h2 : ¬ 40 < lenZ (getL pw i) := fun c => by rw [ltI_iff.2 c] at this; cases this
    omega
  · intro h i h0 h1
    have := h i h0 (by simpa [lenZ] using h1)
    cases hb : ltI 40 (lenZ (getL pw i)) with
    | false => rfl
    | true => have := ltI_iff.1 hb; omega
theorem badLen_iff {pw : List (List Int)} {nd : Int} : leI 0 (badLen pw nd) = false ↔ ∀ i, 0 ≤ i → i < lenZ pw → lenZ (getL pw i) = nd := by
  rw [badLen, scan_lt0]
  simp only [neI_eq, lenZ, decide_eq_false_iff_not, ne_eq, Classical.not_not]
theorem outP_iff {xs : List Int} : leI 0 (outP xs) = false ↔ ∀ i, 0 ≤ i → i < lenZ xs → 0 ≤ getI xs i ∧ getI xs i ≤ 68719476736 := by
  rw [outP, scan_lt0]
  simp only [outB, orB_eq, ltI_eq, lenZ, Bool.or_eq_false_iff, decide_eq_false_iff_not, Int.not_lt]
theorem badPow_iff {pw : List (List Int)} : leI 0 (badPow pw) = false ↔ ∀ a, 0 ≤ a → a < lenZ pw → leI 0 (outP (getL pw a)) = false := by
  rw [badPow, scan_lt0]
  rfl

theorem tbl_vals (n : Net) : tbl n = 0 ∨ tbl n = 1 ∨ tbl n = 2 := by
  unfold tbl
  cases neI (lenZ n.pw) n.nd <;> cases leI 0 (badLen n.pw n.nd) <;> cases leI 0 (badPow n.pw) <;> simp
theorem tbl_zero {n : Net} : tbl n = 0 ↔ lenZ n.pw = n.nd ∧ (∀ a, 0 ≤ a → a < n.nd → lenZ (getL n.pw a) = n.nd) ∧ ∀ a b, 0 ≤ a → a < n.nd → 0 ≤ b → b < n.nd → 0 ≤ n.pow a b ∧ n.pow a b ≤ 68719476736 := by
  unfold tbl
  cases h1 : neI (lenZ n.pw) n.nd with
  | true =>
    simp only [neI_eq, decide_eq_true_eq] at h1
    simp [h1]
  | false =>
    simp only [neI_eq, ne_eq, decide_not, Bool.not_eq_false', decide_eq_true_eq] at h1
    cases h2 : leI 0 (badLen n.pw n.nd) with
    | true =>
      simp only [cond_false, cond_true]
      constructor
      · intro c; omega
      · intro ⟨_, c, _⟩
        have := badLen_iff.2 (fun i h0 hi => c i h0 (by omega))
        rw [h2] at this; cases this
    | false =>
      have h2 := badLen_iff.1 h2
      cases h3 : leI 0 (badPow n.pw) with
      | true =>
        simp only [cond_false, cond_true]
        constructor
        · intro c; omega
        · intro ⟨_, _, c⟩
          have := (badPow_iff (pw := n.pw)).2 (fun a h0 ha => outP_iff.2 (fun b hb hb' => c a b h0 (by omega) hb (by rw [h2 a h0 ha] at hb'; omega)))
          rw [h3] at this; cases this
      | false =>
        simp only [cond_false]
        refine ⟨fun _ => ⟨h1, fun a h0 ha => h2 a h0 (by omega), fun a b h0 ha hb hb' => outP_iff.1 (badPow_iff.1 h3 a h0 (by omega)) b hb (by rw [h2 a h0 (by omega)]; exact hb')⟩, fun _ => trivial⟩

theorem cmpI_lt {x y : Int} : cmpI x y < 0 ↔ x < y := by
  unfold cmpI ltI
  by_cases h : x < y
  · simp [h]
  · by_cases h' : y < x <;> simp [h, h']
theorem cmpI_zero {x y : Int} : cmpI x y = 0 ↔ x = y := by
  unfold cmpI ltI
  by_cases h : x < y
  · simp [h]; omega
  · by_cases h' : y < x <;> simp [h, h'] <;> omega
theorem cmpL_lt {a b c d : Int} : cmpL a b c d < 0 ↔ a < c ∨ a = c ∧ b < d := by
  unfold cmpL ltI
  by_cases h : a < c
  · simp [h]
  · by_cases h' : c < a
    · simp [h, h']; omega
    · have : a = c := by omega
      simp [h, h', cmpI_lt, this]
theorem cmpL_zero {a b c d : Int} : cmpL a b c d = 0 ↔ a = c ∧ b = d := by
  unfold cmpL ltI
  by_cases h : a < c
  · simp [h]; omega
  · by_cases h' : c < a
    · simp [h, h']; omega
    · have : a = c := by omega
      simp [h, h', cmpI_zero, this]

theorem lnk_zero {n : Net} {i : Int} : lnk n i = 0 ↔ (0 ≤ n.fr i ∧ n.fr i < n.nd ∧ 0 ≤ n.to i ∧ n.to i < n.nd ∧ n.fr i ≠ n.to i ∧ 0 ≤ n.lo i ∧ n.lo i ≤ 7) ∧
    (0 < i → n.fr (i - 1) < n.fr i ∨ n.fr (i - 1) = n.fr i ∧ n.to (i - 1) < n.to i) ∧ 0 ≤ getI n.mg i ∧ getI n.mg i ≤ n.pow (n.fr i) (n.to i) := by
  unfold lnk
  cases h1 : orB (notB (nodeB n (n.fr i))) (orB (notB (nodeB n (n.to i))) (orB (eqI (n.fr i) (n.to i)) (notB (inB (n.lo i) 0 7)))) with
  | true =>
    simp only [cond_true]
    refine ⟨fun c => by omega, fun c => ?_⟩
    simp only [nodeB, inB, andB_eq, orB_eq, notB_eq, iteB_eq, impB_eq, ltI_eq, leI_eq, eqI_eq, neI_eq, Bool.or_eq_true, Bool.not_eq_true', Bool.and_eq_false_iff, decide_eq_false_iff_not, decide_eq_true_eq] at h1
    omega
  | false =>
    simp only [nodeB, inB, andB_eq, orB_eq, notB_eq, iteB_eq, impB_eq, ltI_eq, leI_eq, eqI_eq, neI_eq, Bool.or_eq_false_iff, Bool.not_eq_false', Bool.and_eq_true, decide_eq_false_iff_not, decide_eq_true_eq] at h1
    cases h2 : andB (ltI 0 i) (leI 0 (cmpL (n.fr (i - 1)) (n.to (i - 1)) (n.fr i) (n.to i))) with
    | true =>
      simp only [cond_true, cond_false]
      refine ⟨fun c => by omega, fun c => ?_⟩
      simp only [andB_iff, ltI_iff, leI_iff] at h2
      have := cmpL_lt.2 (c.2.1 h2.1)
      omega
    | false =>
      have h2' : 0 < i → n.fr (i - 1) < n.fr i ∨ n.fr (i - 1) = n.fr i ∧ n.to (i - 1) < n.to i := by
        intro h0
        refine cmpL_lt.1 (Int.not_le.1 fun c => ?_)
        rw [andB_iff.2 ⟨ltI_iff.2 h0, leI_iff.2 c⟩] at h2
        cases h2
      cases h3 : notB (inB (getI n.mg i) 0 (n.pow (n.fr i) (n.to i))) with
      | true =>
        simp only [cond_true, cond_false]
        refine ⟨fun c => by omega, fun c => ?_⟩
        have := inB_iff.2 c.2.2
        rw [this] at h3; cases h3
      | false =>
        simp only [cond_false]
        have h3 : inB (getI n.mg i) 0 (n.pow (n.fr i) (n.to i)) = true := by simpa [notB] using h3
        exact ⟨fun _ => ⟨by omega, h2', inB_iff.1 h3⟩, fun _ => trivial⟩

/-- a network without a fault -/
structure Net.Ok (n : Net) : Prop where
  nd : 2 ≤ n.nd ∧ n.nd ≤ 32
  pw : lenZ n.pw = n.nd
  row : ∀ a, 0 ≤ a → a < n.nd → lenZ (getL n.pw a) = n.nd
  pow : ∀ a b, 0 ≤ a → a < n.nd → 0 ≤ b → b < n.nd → 0 ≤ n.pow a b ∧ n.pow a b ≤ 68719476736
  ns : 0 ≤ n.ns ∧ n.ns ≤ 68719476736
  th : 1000 ≤ n.th ∧ n.th ≤ 100000
  ll : lenZ n.ls ≤ 128
  mg : lenZ n.mg = lenZ n.ls
  node : ∀ i, 0 ≤ i → i < lenZ n.ls → 0 ≤ n.fr i ∧ n.fr i < n.nd ∧ 0 ≤ n.to i ∧ n.to i < n.nd ∧ n.fr i ≠ n.to i ∧ 0 ≤ n.lo i ∧ n.lo i ≤ 7
  ord : ∀ i, 0 < i → i < lenZ n.ls → n.fr (i - 1) < n.fr i ∨ n.fr (i - 1) = n.fr i ∧ n.to (i - 1) < n.to i
  mar : ∀ i, 0 ≤ i → i < lenZ n.ls → 0 ≤ getI n.mg i ∧ getI n.mg i ≤ n.pow (n.fr i) (n.to i)

theorem badLnk_iff {n : Net} : leI 0 (badLnk n) = false ↔ ∀ i, 0 ≤ i → i < lenZ n.ls → lnk n i = 0 := by
  rw [badLnk, scan_lt0]
  simp only [neI_eq, lenZ, decide_eq_false_iff_not, ne_eq, Classical.not_not]
theorem chk_zero {n : Net} : chk n = 0 ↔ n.Ok := by
  unfold chk
  cases h1 : notB (inB n.nd 2 32) with
  | true =>
    simp only [cond_true]
    refine ⟨fun c => by omega, fun c => ?_⟩
    rw [inB_iff.2 c.nd] at h1; cases h1
  | false =>
    have h1 := inB_iff.1 (by simpa [notB] using h1)
    cases h2 : neI (tbl n) 0 with
    | true =>
      simp only [cond_true, cond_false]
      have h2 : tbl n ≠ 0 := by simpa [neI_eq] using h2
      exact ⟨fun c => absurd c h2, fun c => absurd (tbl_zero.2 ⟨c.pw, c.row, c.pow⟩) h2⟩
    | false =>
      have h2 : tbl n = 0 := by simpa [neI_eq] using h2
      obtain ⟨t1, t2, t3⟩ := tbl_zero.1 h2
      cases h3 : orB (notB (inB n.ns 0 68719476736)) (notB (inB n.th 1000 100000)) with
      | true =>
        simp only [cond_true, cond_false]
        refine ⟨fun c => by omega, fun c => ?_⟩
        rw [inB_iff.2 c.ns, inB_iff.2 c.th] at h3; cases h3
      | false =>
        have h3 : inB n.ns 0 68719476736 = true ∧ inB n.th 1000 100000 = true := by
          cases hx : inB n.ns 0 68719476736 <;> cases hy : inB n.th 1000 100000 <;> rw [hx, hy] at h3 <;> simp [orB, notB] at h3 ⊢
        obtain ⟨h3, h3'⟩ := h3
        cases h4 : ltI 128 (lenZ n.ls) with
        | true =>
          simp only [cond_true, cond_false]
          refine ⟨fun c => by omega, fun c => ?_⟩
          have := ltI_iff.1 h4; have := c.ll; omega
        | false =>
          have h4 : lenZ n.ls ≤ 128 := by simpa [ltI] using h4
          cases h5 : neI (lenZ n.mg) (lenZ n.ls) with
          | true =>
            simp only [cond_true, cond_false]
            refine ⟨fun c => by omega, fun c => ?_⟩
            rw [c.mg] at h5; simp [neI] at h5
          | false =>
            have h5 : lenZ n.mg = lenZ n.ls := by simpa [neI_eq] using h5
            simp only [cond_false]
            cases h6 : leI 0 (badLnk n) with
            | true =>
              simp only [cond_true]
              have hb := scan_ge0 (p := fun i => neI (lnk n i) 0) (N := n.ls.length) h6
              have h7 : neI (lnk n (badLnk n)) 0 = true := hb.2.2
              have hne : lnk n (badLnk n) ≠ 0 := by simpa [neI_eq] using h7
              refine ⟨fun c => absurd c hne, fun c => absurd (lnk_zero.2 ?_) hne⟩
              have hr : 0 ≤ badLnk n ∧ badLnk n < lenZ n.ls := ⟨hb.1, hb.2.1⟩
              exact ⟨c.node _ hr.1 hr.2, fun h0 => c.ord _ h0 hr.2, c.mar _ hr.1 hr.2⟩
            | false =>
              simp only [cond_false]
              have h6 := badLnk_iff.1 h6
              exact ⟨fun _ => ⟨h1, t1, t2, t3, inB_iff.1 h3, inB_iff.1 h3', h4, h5, fun i h0 hi => (lnk_zero.1 (h6 i h0 hi)).1, fun i h0 hi => (lnk_zero.1 (h6 i (by omega) hi)).2.1 h0,
                fun i h0 hi => (lnk_zero.1 (h6 i h0 hi)).2.2⟩, fun _ => trivial⟩

/-! ### links in their order -/
def lex (a b c d : Int) : Prop := a < c ∨ a = c ∧ b < d
theorem Net.Ok.lex {n : Net} (h : n.Ok) {i : Int} (h0 : 0 ≤ i) : ∀ k : Nat, i + 1 + k < lenZ n.ls → n.fr i < n.fr (i + 1 + k) ∨ n.fr i = n.fr (i + 1 + k) ∧ n.to i < n.to (i + 1 + k)
  | 0, hk => by
    have := h.ord (i + 1) (by omega) (by omega)
    simpa using this
  | k + 1, hk => by
    have h1 := Net.Ok.lex h h0 k (by omega)
    have h2 := h.ord (i + 1 + (k + 1 : Nat)) (by omega) (by omega)
    rw [show i + 1 + ((k + 1 : Nat) : Int) - 1 = i + 1 + (k : Int) from by omega] at h2
    omega
theorem Net.Ok.lexj {n : Net} (h : n.Ok) {i j : Int} (h0 : 0 ≤ i) (hij : i < j) (hj : j < lenZ n.ls) : n.fr i < n.fr j ∨ n.fr i = n.fr j ∧ n.to i < n.to j := by
  have := h.lex h0 (j - i - 1).toNat (by omega)
  rwa [show i + 1 + ((j - i - 1).toNat : Int) = j from by omega] at this
theorem Net.Ok.uniq {n : Net} (h : n.Ok) {i j : Int} (h0 : 0 ≤ i) (hi : i < lenZ n.ls) (h0' : 0 ≤ j) (hj : j < lenZ n.ls) (e1 : n.fr i = n.fr j) (e2 : n.to i = n.to j) : i = j := by
  rcases Int.lt_trichotomy i j with c | c | c
  · have := h.lexj h0 c hj; omega
  · exact c
  · have := h.lexj h0' c hi; omega

theorem fnd_none {n : Net} {f t : Int} : fnd n f t = -1 ↔ ∀ i, 0 ≤ i → i < lenZ n.ls → ¬ (n.fr i = f ∧ n.to i = t) := by
  rw [fnd, scan_none (Int.le_refl 0)]
  have : ∀ j : Int, andB (eqI (n.fr j) f) (eqI (n.to j) t) = false ↔ ¬ (n.fr j = f ∧ n.to j = t) := by
    intro j
    rw [← Bool.not_eq_true, andB_iff, eqI_iff, eqI_iff]
  simp only [this, lenZ, Int.zero_add]
theorem fnd_cases (n : Net) (f t : Int) : fnd n f t = -1 ∨ (0 ≤ fnd n f t ∧ fnd n f t < lenZ n.ls ∧ n.fr (fnd n f t) = f ∧ n.to (fnd n f t) = t) := by
  rcases scan_ge (p := fun i => andB (eqI (n.fr i) f) (eqI (n.to i) t)) (k := n.ls.length) (i := 0) with e | ⟨e1, e2, e3⟩
  · exact .inl e
  · refine .inr ⟨e1, by simpa [lenZ, fnd] using e2, ?_⟩
    have := andB_iff.1 e3
    exact ⟨eqI_iff.1 this.1, eqI_iff.1 this.2⟩
theorem Net.Ok.fnd_eq {n : Net} (h : n.Ok) {i : Int} (h0 : 0 ≤ i) (hi : i < lenZ n.ls) : fnd n (n.fr i) (n.to i) = i := by
  rcases fnd_cases n (n.fr i) (n.to i) with e | ⟨e1, e2, e3, e4⟩
  · exact absurd ⟨rfl, rfl⟩ (fnd_none.1 e i h0 hi)
  · exact h.uniq e1 e2 h0 hi e3 e4
theorem Net.Ok.srtd {n : Net} (h : n.Ok) : srtd n.ls = true := by
  rw [Go.Sx.srtd, eqI_iff, scan_none (Int.le_refl 0)]
  intro j h0 hj
  have hl : j + 1 < lenZ n.ls := by simp only [lenZ]; omega
  have := h.lexj h0 (show j < j + 1 by omega) hl
  cases hb : leI 0 (cmpL (getN (getL n.ls j) 0) (getN (getL n.ls j) 1) (getN (getL n.ls (j + 1)) 0) (getN (getL n.ls (j + 1)) 1)) with
  | false => rfl
  | true =>
    have h1 := leI_iff.1 hb
    have h2 : cmpL (getN (getL n.ls j) 0) (getN (getL n.ls j) 1) (getN (getL n.ls (j + 1)) 0) (getN (getL n.ls (j + 1)) 1) < 0 := cmpL_lt.2 this
    omega

theorem srtd_lex {ls : List (List Int)} (h : srtd ls = true) {i : Int} (h0 : 0 ≤ i) : ∀ k : Nat, i + 1 + k < lenZ ls →
    getN (getL ls i) 0 < getN (getL ls (i + 1 + k)) 0 ∨ getN (getL ls i) 0 = getN (getL ls (i + 1 + k)) 0 ∧ getN (getL ls i) 1 < getN (getL ls (i + 1 + k)) 1 := by
  rw [srtd, eqI_iff, scan_none (Int.le_refl 0)] at h
  have st : ∀ j, 0 ≤ j → j + 1 < lenZ ls → getN (getL ls j) 0 < getN (getL ls (j + 1)) 0 ∨ getN (getL ls j) 0 = getN (getL ls (j + 1)) 0 ∧ getN (getL ls j) 1 < getN (getL ls (j + 1)) 1 := by
    intro j h0 hj
    refine cmpL_lt.1 (Int.not_le.1 fun c => ?_)
    have := h j h0 (by simp only [lenZ] at hj; omega)
    rw [leI_iff.2 c] at this
    cases this
  intro k
  induction k with
  | zero => intro hk; have := st i h0 (by omega); simpa using this
  | succ k ih =>
    intro hk
    have h1 := ih (by omega)
    have h2 := st (i + 1 + k) (by omega) (by omega)
    rw [show i + 1 + ((k + 1 : Nat) : Int) = i + 1 + (k : Int) + 1 from by omega]
    omega
/-- the links before a place are less, the others are not -/
theorem bsI_is {ls : List (List Int)} (h : srtd ls = true) {f t i : Int} (h0 : 0 ≤ i) (hi : i ≤ lenZ ls) (hlo : ∀ k, 0 ≤ k → k < i → cmpL (getN (getL ls k) 0) (getN (getL ls k) 1) f t < 0)
    (hhi : i < lenZ ls → ¬ cmpL (getN (getL ls i) 0) (getN (getL ls i) 1) f t < 0) : bsI ls f t = i := by
  unfold bsI
  cases hb : leI 0 (scan (fun i => leI 0 (cmpL (getN (getL ls i) 0) (getN (getL ls i) 1) f t)) ls.length 0) with
  | false =>
    simp only [cond_false]
    have := scan_lt0.1 hb
    rcases Int.lt_or_eq_of_le hi with c | c
    · have h1 := this i h0 (by simpa [lenZ] using c)
      have h2 := hhi c
      rw [leI_iff.2 (by omega)] at h1
      cases h1
    · exact c.symm
  | true =>
    simp only [cond_true]
    obtain ⟨e1, e2, e3⟩ := scan_ge0 hb
    have e3 := leI_iff.1 e3
    rcases Int.lt_trichotomy (scan (fun i => leI 0 (cmpL (getN (getL ls i) 0) (getN (getL ls i) 1) f t)) ls.length 0) i with c | c | c
    · have := hlo _ e1 c; omega
    · exact c
    · have hil : i < lenZ ls := by simp only [lenZ]; omega
      have := scan_first (p := fun i => leI 0 (cmpL (getN (getL ls i) 0) (getN (getL ls i) 1) f t)) (k := ls.length) (Int.le_refl 0) i h0 (by simp only [lenZ] at hil; omega) (leI_iff.2 (Int.not_lt.1 (hhi hil)))
      omega
theorem bsI_le (ls : List (List Int)) (f t : Int) : 0 ≤ bsI ls f t ∧ bsI ls f t ≤ lenZ ls ∧ (∀ k, 0 ≤ k → k < bsI ls f t → cmpL (getN (getL ls k) 0) (getN (getL ls k) 1) f t < 0) := by
  unfold bsI
  cases hb : leI 0 (scan (fun i => leI 0 (cmpL (getN (getL ls i) 0) (getN (getL ls i) 1) f t)) ls.length 0) with
  | false =>
    simp only [cond_false]
    have := scan_lt0.1 hb
    refine ⟨by simp [lenZ], Int.le_refl _, fun k h0 hk => Int.not_le.1 fun c => ?_⟩
    have := this k h0 (by simpa [lenZ] using hk)
    rw [leI_iff.2 c] at this; cases this
  | true =>
    simp only [cond_true]
    obtain ⟨e1, e2, e3⟩ := scan_ge0 hb
    refine ⟨e1, by simp only [lenZ]; omega, fun k h0 hk => Int.not_le.1 fun c => ?_⟩
    have := scan_first (p := fun i => leI 0 (cmpL (getN (getL ls i) 0) (getN (getL ls i) 1) f t)) (k := ls.length) (Int.le_refl 0) k h0 (by omega) (leI_iff.2 c)
    omega
theorem Net.Ok.bsI_fnd {n : Net} (h : n.Ok) (f t : Int) : fnd n f t = if bsI n.ls f t < lenZ n.ls ∧ cmpL (n.fr (bsI n.ls f t)) (n.to (bsI n.ls f t)) f t = 0 then bsI n.ls f t else -1 := by
  obtain ⟨b1, b2, b3⟩ := bsI_le n.ls f t
  by_cases c : bsI n.ls f t < lenZ n.ls ∧ cmpL (n.fr (bsI n.ls f t)) (n.to (bsI n.ls f t)) f t = 0
  · rw [if_pos c]
    obtain ⟨e1, e2⟩ := cmpL_zero.1 c.2
    have := h.fnd_eq b1 c.1
    rw [e1, e2] at this
    exact this
  · rw [if_neg c]
    rcases fnd_cases n f t with e | ⟨e1, e2, e3, e4⟩
    · exact e
    · exfalso
      refine c ?_
      have hb : bsI n.ls f t = fnd n f t := by
        refine bsI_is h.srtd e1 (by omega) (fun k h0 hk => ?_) (fun _ cc => ?_)
        · have := h.lexj h0 hk e2
          rw [e3, e4] at this
          exact cmpL_lt.2 this
        · have := cmpL_lt.1 cc
          have e3' : getN (getL n.ls (fnd n f t)) 0 = f := e3
          have e4' : getN (getL n.ls (fnd n f t)) 1 = t := e4
          rw [e3', e4'] at this
          omega
      rw [hb]
      exact ⟨e2, cmpL_zero.2 ⟨e3, e4⟩⟩

theorem Beq {a b : Bool} (h : a = true ↔ b = true) : a = b := by cases a <;> cases b <;> simp at h ⊢
theorem inB_node {n : Net} {x : Int} : inB x 0 (n.nd - 1) = nodeB n x := Beq (by rw [inB_iff, nodeB, andB_iff, leI_iff, ltI_iff]; omega)
theorem nodeB_iff {n : Net} {x : Int} : nodeB n x = true ↔ 0 ≤ x ∧ x < n.nd := by rw [nodeB, andB_iff, leI_iff, ltI_iff]
theorem inB_false {x lo hi : Int} : inB x lo hi = false ↔ ¬ (lo ≤ x ∧ x ≤ hi) := by rw [← inB_iff]; simp
theorem nodeB_false {n : Net} {x : Int} : nodeB n x = false ↔ ¬ (0 ≤ x ∧ x < n.nd) := by rw [← nodeB_iff]; simp
theorem orB_iff' {a b : Bool} : orB a b = true ↔ a = true ∨ b = true := by cases a <;> simp [orB]
theorem cmpL_ge {a b c d : Int} : leI 0 (cmpL a b c d) = orB (ltI c a) (andB (eqI a c) (leI d b)) := Beq (by
  rw [leI_iff, orB_iff', andB_iff, ltI_iff, eqI_iff, leI_iff]
  have := cmpL_lt (a := a) (b := b) (c := c) (d := d)
  by_cases h : cmpL a b c d < 0
  · have := this.1 h; omega
  · have h2 : ¬ (a < c ∨ a = c ∧ b < d) := fun x => h (this.2 x)
    omega)
theorem orB_assoc {a b c : Bool} : orB (orB a b) c = orB a (orB b c) := by cases a <;> rfl
theorem andB_assoc {a b c : Bool} : andB (andB a b) c = andB a (andB b c) := by cases a <;> rfl
theorem orB_false {a b : Bool} : orB a b = false ↔ a = false ∧ b = false := by cases a <;> simp [orB]
theorem andB_false {a b : Bool} : andB a b = false ↔ (a = true → b = false) := by cases a <;> simp [andB]
theorem notB_false {a : Bool} : notB a = false ↔ a = true := by cases a <;> simp [notB]
theorem eqI_false {x y : Int} : eqI x y = false ↔ ¬ x = y := by simp [eqI]
theorem neI_false {x y : Int} : neI x y = false ↔ x = y := by simp [neI]
theorem ltI_false {x y : Int} : ltI x y = false ↔ ¬ x < y := by simp [ltI]
theorem leI_false {x y : Int} : leI x y = false ↔ ¬ x ≤ y := by simp [leI]

/-- the middle of two numbers, as a binary search reckons it -/
theorem mid_eq {i j : Int} (h0 : 0 ≤ i) (h1 : i ≤ j) (h2 : j ≤ 1000000) : cvI .i64 (shrI .u64 (cvI .u64 (addI .i64 i j)) 1) = (i + j) / 2 := by
  have e1 : addI .i64 i j = i + j := addI_in (by omega) (by omega)
  have e2 : cvI .u64 (i + j) = i + j := by
    unfold cvI IntKind.wrap
    simp only [IntKind.bits, IntKind.signed]
    simp
    omega
  have e3 : shrI .u64 (i + j) 1 = (i + j) / 2 := by
    unfold shrI
    simp only [IntKind.bits]
    have : (2 : Int) ^ (min (Int.toNat 1) 64) = 2 := by decide
    rw [this, Int.fdiv_eq_ediv_of_nonneg _ (by omega)]
  have e4 : cvI .i64 ((i + j) / 2) = (i + j) / 2 := IntWalk.i64_in _ ⟨by omega, by omega⟩
  rw [e1, e2, e3, e4]
end Go.Sx

set_option linter.unusedVariables false
set_option linter.unusedSimpArgs false
namespace Go.Sx
open Go Go.Proofs Go.ChangeShapes Go.WideShapes Go.ChangeAt Go.RowKit Go.Deep

/-- all memory, frozen -/
def allM (w : World) : Frz := fun k => w.heap[k]?
theorem allM_ok (w : World) : (allM w).ok w := fun k o h => h
theorem allM_cell {w : World} {b j : Nat} {v : Value} (h : w.cell? ⟨b, j, none⟩ = some v) : (allM w).cell b j = some v := by
  unfold World.cell? at h
  unfold Frz.cell allM
  simp only at h
  split at h
  · rename_i c e p hc
    simp only [hc]
    simpa using h
  · cases h

section
variable {H : Type} {enc : TypeId × Value → H} {w : World} {base : Nat} {spare : Nat → Bool} {held : Bool}

theorem u3 : Try.prog.underlying 3 = some (.int .i64) := by kernel_rfl
theorem u35 : Try.prog.underlying 35 = some (.int .u32) := by kernel_rfl
theorem u5 : Try.prog.underlying 5 = some (.int .u8) := by kernel_rfl
theorem u4 : Try.prog.underlying 4 = some .bool := by kernel_rfl
theorem u24 : Try.prog.underlying 24 = some (.slice 3) := by kernel_rfl
theorem u45 : Try.prog.underlying 45 = some (.slice 3) := by kernel_rfl
theorem u22 : Try.prog.underlying 22 = some (.slice 24) := by kernel_rfl
theorem u23 : Try.prog.underlying 23 = some (.slice 55) := by kernel_rfl
theorem c3 : Try.prog.cellsOf 3 = 1 := by kernel_rfl
theorem c22 : Try.prog.cellsOf 22 = 1 := by kernel_rfl
theorem c23 : Try.prog.cellsOf 23 = 1 := by kernel_rfl
theorem c24 : Try.prog.cellsOf 24 = 1 := by kernel_rfl
theorem c55 : Try.prog.cellsOf 55 = 3 := by kernel_rfl
theorem c26 : Try.prog.cellsOf 26 = 6 := by kernel_rfl
theorem c41 : Try.prog.cellsOf 41 = 2 := by kernel_rfl

/-- a row of numbers that came in -/
theorem rd_ints {t : Nat} (ht : Try.prog.underlying t = some (.slice 3)) {fuel : Nat} {v : Value} {x : DataW H × List MemPlace} (h : DataW.trod enc Try.prog w base spare held fuel t [v] = some x) :
    ∃ xs, RS (allM w) v xs ∧ xs.length ≤ maxLen ∧ ∀ z, z ∈ xs → (Lit.int .i64 z).wf = true := by
  rcases open_ints ht u3 c3 h with ⟨hc, _⟩ | ⟨a, len, cap, zs, hc, _, hl, hm, hz, _, hcell, hwf⟩
  · cases hc
    exact ⟨[], ⟨none, 0, rfl, .inl rfl⟩, Nat.zero_le _, fun z hz => by simp at hz⟩
  · cases hc
    have hzl : len ≤ zs.length := by rw [hz]; split <;> omega
    refine ⟨zs.take len, ?_, by simp; omega, fun z hz => hwf z (List.mem_of_mem_take hz)⟩
    have hlen : (zs.take len).length = len := by simp; omega
    refine ⟨some a, cap, by rw [hlen], ?_⟩
    rw [hlen]
    by_cases h0 : len = 0
    · exact .inl h0
    · obtain ⟨b, off, spot⟩ := a
      have hc0 := hcell 0 (by omega)
      have hs : spot = none := by simpa [Addr.add] using World.cell?_spot hc0
      subst hs
      refine .inr ⟨b, off, rfl, hl, fun i hi => ?_⟩
      rw [hlen] at hi
      have := hcell i (by omega)
      have e : (zs.take len).getD i 0 = zs.getD i 0 := by simp [List.getD_eq_getElem?_getD, List.getElem?_take, hi]
      rw [e]
      exact allM_cell (by rwa [add_plain] at this)

/-- rows of numbers that came in -/
theorem rd_rows {fuel : Nat} {v : Value} {x : DataW H × List MemPlace} (h : DataW.trod enc Try.prog w base spare held fuel 22 [v] = some x) : ∃ xs, RSl (allM w) none (.rows xs) v ∧ xs.length ≤ maxLen := by
  rcases open_slice1 u22 c24 h with ⟨hc, _⟩ | ⟨a, len, cap, m, n, V, D, Pl, hc, _, hl, hm, hmm, _, hx⟩
  · cases hc
    exact ⟨[], ⟨none, 0, rfl, (fun b h => by cases h), .inl rfl⟩, Nat.zero_le _⟩
  · cases hc
    have hml : len ≤ m := by rw [hmm]; split <;> omega
    have hch : ∀ i, ∃ xs : List Int, i < len → RS (allM w) (V i) xs := fun i => by
      by_cases hi : i < len
      · obtain ⟨xs, h1, _⟩ := rd_ints u24 (hx i (by omega)).2
        exact ⟨xs, fun _ => h1⟩
      · exact ⟨[], fun c => absurd c hi⟩
    have hg : ∀ i, i < len → ((List.range len).map fun i => Classical.choose (hch i)).getD i [] = Classical.choose (hch i) := fun i hi => by
      simp [List.getD_eq_getElem?_getD, hi]
    refine ⟨(List.range len).map fun i => Classical.choose (hch i), ?_, by simp; omega⟩
    have hlen : (SC.rows ((List.range len).map fun i => Classical.choose (hch i))).lenN = len := by simp [SC.lenN]
    refine ⟨some a, cap, by rw [hlen], (fun b h => by cases h), ?_⟩
    rw [hlen]
    by_cases h0 : len = 0
    · exact .inl h0
    · obtain ⟨b, off, spot⟩ := a
      have hs : spot = none := by simpa [Addr.add] using World.cell?_spot (hx 0 (by omega)).1
      subst hs
      refine .inr ⟨b, off, rfl, hl, ?_⟩
      intro i hi
      simp only [List.length_map, List.length_range] at hi
      refine ⟨V i, allM_cell (by have := (hx i (by omega)).1; rwa [add_plain] at this), ?_⟩
      rw [hg i hi]
      exact Classical.choose_spec (hch i) hi

/-- a struct type's fields -/
noncomputable def fsOf (t : Nat) : Array Field := match Try.prog.underlying t with
  | some (.struct fs) => fs
  | _ => #[]
theorem u55 : Try.prog.underlying 55 = some (.struct (fsOf 55)) := by kernel_rfl
theorem u26 : Try.prog.underlying 26 = some (.struct (fsOf 26)) := by kernel_rfl
theorem u41 : Try.prog.underlying 41 = some (.struct (fsOf 41)) := by kernel_rfl
/-- a field of a struct that came in: one cell -/
theorem rd_fld {t : Nat} {fs : Array Field} (hu : Try.prog.underlying t = some (.struct fs)) {fuel : Nat} {cs : List Value} {x : DataW H × List MemPlace} (h : DataW.trod enc Try.prog w base spare held fuel t cs = some x)
    {i ti off : Nat} (hf : (fs[i]?).map (fun f => (f.type, f.offset)) = some (ti, off)) (hc : Try.prog.cellsOf ti = 1) (hoff : off < cs.length) :
    ∃ n y, DataW.trod enc Try.prog w base spare held n ti [cs.getD off undef] = some y := by
  obtain ⟨xs, n, _, _, hlen, hxl, hx⟩ := DataW.trod_struct hu h
  cases hfi : fs[i]? with
  | none => rw [hfi] at hf; cases hf
  | some f =>
    rw [hfi] at hf
    simp only [Option.map_some, Option.some.injEq, Prod.mk.injEq] at hf
    obtain ⟨e1, e2⟩ := hf
    have := hx i f hfi
    rw [e1, e2, hc] at this
    have hi : i < fs.size := by
      rcases Nat.lt_or_ge i fs.size with c | c
      · exact c
      · rw [Array.getElem?_eq_none c] at hfi; cases hfi
    have htake : (cs.drop off).take 1 = [cs.getD off undef] := by
      have hd : cs.drop off = cs[off] :: cs.drop (off + 1) := List.drop_eq_getElem_cons hoff
      rw [hd, List.getD_eq_getElem?_getD, List.getElem?_eq_getElem hoff]
      rfl
    rw [htake] at this
    exact ⟨n, xs[i]'(by omega), by rw [this, List.getElem?_eq_getElem]⟩
/-- three numbers side by side that came in -/
theorem rd_link {fuel : Nat} {a : Addr} {cs : List Value} {x : DataW H × List MemPlace} (hw : w.cells? base a 3 = some cs) (h : DataW.trod enc Try.prog w base spare held fuel 55 cs = some x) :
    ∃ l : List Int, ∀ f, f < 3 → w.cell? (a.add f) = some (.int .i64 (l.getD f 0)) := by
  obtain ⟨_, hlen, hg⟩ := World.cells?_some hw
  have one : ∀ f, f < 3 → ((fsOf 55)[f]?).map (fun f => (f.type, f.offset)) = some (3, f) → ∃ z : Int, w.cell? (a.add f) = some (.int .i64 z) := by
    intro f hf he
    obtain ⟨n, y, hy⟩ := rd_fld u55 h he c3 (by omega)
    obtain ⟨z, e, _⟩ := DataW.trod_int u3 hy
    refine ⟨z, ?_⟩
    rw [hg f hf, List.getElem?_eq_getElem (by omega)]
    simp only [List.cons.injEq, and_true] at e
    rw [← e, List.getD_eq_getElem?_getD, List.getElem?_eq_getElem (by omega)]
    rfl
  obtain ⟨z0, e0⟩ := one 0 (by omega) (by kernel_rfl)
  obtain ⟨z1, e1⟩ := one 1 (by omega) (by kernel_rfl)
  obtain ⟨z2, e2⟩ := one 2 (by omega) (by kernel_rfl)
  refine ⟨[z0, z1, z2], fun f hf => ?_⟩
  match f, hf with
  | 0, _ => exact e0
  | 1, _ => exact e1
  | 2, _ => exact e2
/-- links that came in -/
theorem rd_links {fuel : Nat} {v : Value} {x : DataW H × List MemPlace} (h : DataW.trod enc Try.prog w base spare held fuel 23 [v] = some x) : ∃ xs, RSl (allM w) none (.st 3 xs) v ∧ xs.length ≤ maxLen := by
  rcases open_slice u23 h with ⟨hc, _⟩ | ⟨a, len, cap, m, n, D, Pl, hc, _, hl, hm, hmm, _, hx⟩
  · cases hc
    exact ⟨[], ⟨none, 0, rfl, (fun b h => by cases h), .inl rfl⟩, Nat.zero_le _⟩
  · cases hc
    rw [c55] at hx
    have hml : len ≤ m := by rw [hmm]; split <;> omega
    have hch : ∀ i, ∃ l : List Int, i < len → ∀ f, f < 3 → w.cell? ((a.add (i * 3)).add f) = some (.int .i64 (l.getD f 0)) := fun i => by
      by_cases hi : i < len
      · obtain ⟨cs', h1, h2⟩ := hx i (by omega)
        obtain ⟨l, h3⟩ := rd_link h1 h2
        exact ⟨l, fun _ => h3⟩
      · exact ⟨[], fun c => absurd c hi⟩
    have hg : ∀ i, i < len → ((List.range len).map fun i => Classical.choose (hch i)).getD i [] = Classical.choose (hch i) := fun i hi => by
      simp [List.getD_eq_getElem?_getD, hi]
    refine ⟨(List.range len).map fun i => Classical.choose (hch i), ?_, by simp; omega⟩
    have hlen : (SC.st 3 ((List.range len).map fun i => Classical.choose (hch i))).lenN = len := by simp [SC.lenN]
    refine ⟨some a, cap, by rw [hlen], (fun b h => by cases h), ?_⟩
    rw [hlen]
    by_cases h0 : len = 0
    · exact .inl h0
    · obtain ⟨b, off, spot⟩ := a
      have hs : spot = none := by
        have := Classical.choose_spec (hch 0) (by omega) 0 (by omega)
        simpa [Addr.add] using World.cell?_spot this
      subst hs
      refine .inr ⟨b, off, rfl, hl, ?_⟩
      intro i f hi hf
      simp only [List.length_map, List.length_range] at hi
      rw [hg i hi]
      have := Classical.choose_spec (hch i) hi f hf
      have e : ((⟨b, off, none⟩ : Addr).add (i * 3)).add f = ⟨b, off + (i * 3 + f), none⟩ := by rw [add_plain, add_plain, Nat.add_assoc]
      exact allM_cell ((congrArg w.cell? e).symm.trans this)

set_option maxRecDepth 100000 in
/-- a network that came in -/
theorem rd_net {r : Reach} {b0 : Nat} {v : Value} {d : DataW H} {p : List MemPlace} (hv : Value.okWide Try.prog w r b0 26 v) (h : DataW.Trod enc Try.prog w base spare held 26 v d p) :
    ∃ n : Net, R (allM w) nu0 (n.av none none none) v ∧ lenZ n.pw ≤ 9223372036854775807 := by
  obtain ⟨cs, rfl, hsz⟩ := okWide_struct u26 hv
  rw [c26] at hsz
  obtain ⟨fuel, h⟩ := h
  simp only [Value.cells] at h
  have hl : cs.toList.length = 6 := by simpa using hsz
  obtain ⟨n0, y0, h0⟩ := rd_fld u26 h (i := 0) (ti := 3) (off := 0) (by kernel_rfl) c3 (by omega)
  obtain ⟨n1, y1, h1⟩ := rd_fld u26 h (i := 1) (ti := 22) (off := 1) (by kernel_rfl) c22 (by omega)
  obtain ⟨n2, y2, h2⟩ := rd_fld u26 h (i := 2) (ti := 3) (off := 2) (by kernel_rfl) c3 (by omega)
  obtain ⟨n3, y3, h3⟩ := rd_fld u26 h (i := 3) (ti := 3) (off := 3) (by kernel_rfl) c3 (by omega)
  obtain ⟨n4, y4, h4⟩ := rd_fld u26 h (i := 4) (ti := 23) (off := 4) (by kernel_rfl) c23 (by omega)
  obtain ⟨n5, y5, h5⟩ := rd_fld u26 h (i := 5) (ti := 24) (off := 5) (by kernel_rfl) c24 (by omega)
  clear h
  obtain ⟨a0, a1, a2, a3, a4, a5, hcs⟩ : ∃ a0 a1 a2 a3 a4 a5, cs.toList = [a0, a1, a2, a3, a4, a5] := by
    match cs.toList, hl with
    | [a0, a1, a2, a3, a4, a5], _ => exact ⟨_, _, _, _, _, _, rfl⟩
  rw [hcs] at h0 h1 h2 h3 h4 h5
  obtain ⟨nd, e0, _⟩ := DataW.trod_int u3 h0
  obtain ⟨pw, e1, hpw⟩ := rd_rows h1
  obtain ⟨ns, e2, _⟩ := DataW.trod_int u3 h2
  obtain ⟨th, e3, _⟩ := DataW.trod_int u3 h3
  obtain ⟨ls, e4, _⟩ := rd_links h4
  obtain ⟨mg, e5, _⟩ := rd_ints u24 h5
  simp only [List.getD_cons_zero, List.getD_cons_succ, List.cons.injEq, and_true] at e0 e1 e2 e3 e4 e5
  refine ⟨⟨nd, pw, ns, th, ls, mg⟩, ?_, ?_⟩
  · simp only [Net.av, Net.cells, R]
    refine ⟨[a0, a1, a2, a3, a4, a5], by rw [← hcs, Array.toArray_toList], ?_⟩
    simp only [RL, R]
    exact ⟨_, _, rfl, e0, _, _, rfl, e1, _, _, rfl, e2, _, _, rfl, e3, _, _, rfl, e4, _, _, rfl, e5.sl, rfl⟩
  · have : maxLen ≤ 9223372036854775807 := by decide
    simp only [lenZ]
    omega

set_option maxRecDepth 100000 in
/-- numbers that came in -/
theorem rd_i64 {r : Reach} {b0 : Nat} {v : Value} {d : DataW H} {p : List MemPlace} (hv : Value.okWide Try.prog w r b0 3 v) (h : DataW.Trod enc Try.prog w base spare held 3 v d p) :
    ∃ x, v = .int .i64 x ∧ (Lit.int .i64 x).wf = true := by
  obtain ⟨x, e, _, _, wf⟩ := open_int u3 hv h
  exact ⟨x, e, wf⟩

set_option maxRecDepth 100000 in
theorem rd_u32 {r : Reach} {b0 : Nat} {v : Value} {d : DataW H} {p : List MemPlace} (hv : Value.okWide Try.prog w r b0 35 v) (h : DataW.Trod enc Try.prog w base spare held 35 v d p) :
    ∃ x, v = .int .u32 x ∧ inB x 0 4294967295 = true := by
  obtain ⟨x, e, _, _, wf⟩ := open_int u35 hv h
  have := bounds_u32 wf
  exact ⟨x, e, inB_iff.2 (by omega)⟩
set_option maxRecDepth 100000 in
theorem rd_u8 {r : Reach} {b0 : Nat} {v : Value} {d : DataW H} {p : List MemPlace} (hv : Value.okWide Try.prog w r b0 5 v) (h : DataW.Trod enc Try.prog w base spare held 5 v d p) :
    ∃ x, v = .int .u8 x ∧ inB x 0 255 = true := by
  obtain ⟨x, e, _, _, wf⟩ := open_int u5 hv h
  have := bounds_u8 wf
  exact ⟨x, e, inB_iff.2 (by omega)⟩
set_option maxRecDepth 100000 in
/-- a route that came in -/
theorem rd_route {r : Reach} {b0 : Nat} {v : Value} {d : DataW H} {p : List MemPlace} (hv : Value.okWide Try.prog w r b0 45 v) (h : DataW.Trod enc Try.prog w base spare held 45 v d p) :
    ∃ xs, R (allM w) nu0 (.sl none (.i1 xs)) v ∧ lenZ xs ≤ 9223372036854775807 := by
  obtain ⟨a0, len, cap, rfl⟩ := okWide_slice u45 hv
  obtain ⟨fuel, h⟩ := h
  simp only [Value.cells] at h
  obtain ⟨xs, h1, h2, _⟩ := rd_ints u45 h
  refine ⟨xs, by simp only [R]; exact h1.sl, ?_⟩
  have : maxLen ≤ 9223372036854775807 := by decide
  simp only [lenZ]
  omega
set_option maxRecDepth 100000 in
/-- a potential that came in -/
theorem rd_pot {r : Reach} {b0 : Nat} {v : Value} {d : DataW H} {p : List MemPlace} (hv : Value.okWide Try.prog w r b0 41 v) (h : DataW.Trod enc Try.prog w base spare held 41 v d p) :
    ∃ xs ys, R (allM w) nu0 (.agg [.sl none (.i1 xs), .sl none (.i1 ys)]) v ∧ lenZ xs ≤ 9223372036854775807 ∧ lenZ ys ≤ 9223372036854775807 := by
  obtain ⟨cs, rfl, hsz⟩ := okWide_struct u41 hv
  rw [c41] at hsz
  obtain ⟨fuel, h⟩ := h
  simp only [Value.cells] at h
  have hl : cs.toList.length = 2 := by simpa using hsz
  obtain ⟨n0, y0, h0⟩ := rd_fld u41 h (i := 0) (ti := 24) (off := 0) (by kernel_rfl) c24 (by omega)
  obtain ⟨n1, y1, h1⟩ := rd_fld u41 h (i := 1) (ti := 24) (off := 1) (by kernel_rfl) c24 (by omega)
  clear h
  obtain ⟨a0, a1, hcs⟩ : ∃ a0 a1, cs.toList = [a0, a1] := by
    match cs.toList, hl with
    | [a0, a1], _ => exact ⟨_, _, rfl⟩
  rw [hcs] at h0 h1
  obtain ⟨xs, e0, b0', _⟩ := rd_ints u24 h0
  obtain ⟨ys, e1, b1', _⟩ := rd_ints u24 h1
  simp only [List.getD_cons_zero, List.getD_cons_succ] at e0 e1
  have hm : maxLen ≤ 9223372036854775807 := by decide
  refine ⟨xs, ys, ?_, by simp only [lenZ]; omega, by simp only [lenZ]; omega⟩
  simp only [R]
  refine ⟨[a0, a1], by rw [← hcs, Array.toArray_toList], ?_⟩
  simp only [RL, R]
  exact ⟨_, _, rfl, e0.sl, _, _, rfl, e1.sl, rfl⟩

/-- What a law's walk leaves: nothing that was there is written. -/
theorem below_of_kept {w w' : World} (h : Kept [] w w') : Below w.heap.size w w' := ⟨h.os, h.tape, h.output, h.size, fun k hk => h.block k hk (by simp)⟩
theorem law_run {f : Nat} {Ff : List AV → Option Res} (hf : FnOK Try.prog f Ff) {bs : List AV} {obl : List Bool} {outs : List AV} (hr : Ff bs = some ⟨obl, .bool true, outs⟩) (ho : AllT obl) {w : World} {vs : List Value} (hv : RL (allM w) nu0 bs vs) :
    Calls Try.prog f vs.toArray w fun e w' => e = .returned (.bool true) ∧ Below w.heap.size w w' := by
  refine (hf bs _ hr ho w (allM w) vs [] (allM_ok w) (RBL_of_RL hv) (by simp) (fun b hb => by simp at hb)).mono ?_
  intro e w' h
  cases e with
  | returned v =>
    obtain ⟨M', F1, F2, _, _, _, h1, _, _, _, h2⟩ := h
    have : v = .bool true := by simpa [RBT, RB, R] using h1.1
    exact ⟨by rw [this], below_of_kept h2⟩
  | _ => exact h.elim
end
end Go.Sx

set_option linter.unusedVariables false
set_option linter.unusedSimpArgs false
namespace Go.Sx
open Go Go.RowKit

section
variable {P : Program} {cx : Ctx} {F : Fns} {π : Nms} {Γ : Env}

theorem orcX_ok (hc : CtxOK P cx) (hF : ∀ f, f ∈ cx.fs → FnOK P f (F f)) (hm : P.follows .mixedOrders = true) (n : Nat) (tbl : List (Nat × LSpec)) (ls : List (Nat × Code))
    (hX : ∀ id s b, asc tbl id = some s → asc ls id = some b → LoopOK P Γ π id b s) : ∀ (d : Nat) (c : Code), loopsIn ls c →
    OrcOK P Γ π (orcX cx F tbl n ls d) (loopsOf c)
  | 0, c, _ => ⟨fun id st e st' h => by simp [orcX, noL] at h, fun id b _ st e st' h => by simp [orcX, noL] at h⟩
  | d + 1, c, hls => by
    constructor
    · intro id st e st' h ho
      simp only [orcX] at h
      split at h
      · obtain ⟨_, obs, r, _, _, _, rfl⟩ := runS_inv h
        exact (AllT_append.1 ho).2
      split at h
      · cases h
      · split at h
        · cases h
        · simp only [Option.some.injEq, Prod.mk.injEq] at h
          obtain ⟨_, rfl⟩ := h
          exact ho
    · intro id b hb st e st' h ho
      obtain ⟨h1, h2⟩ := loopsOf_all hb
      have hb' := hls id b h1
      simp only [orcX] at h
      split at h
      case h_1 s hs =>
        obtain ⟨hn, obs, r, hobs, hg, rfl, rfl⟩ := runS_inv h
        have ho' := AllT_append.1 ho
        exact (hX id s b hs hb' _ _ r hg ho'.1 st.ok _ (fun _ => ho'.2) ho).fits (Fits.zip hn hobs) (fun x => x)
      case h_2 hs =>
      rw [hb'] at h
      simp only at h
      split at h
      · cases h
      case h_2 e1 s h3 =>
        simp only [Option.some.injEq, Prod.mk.injEq] at h
        obtain ⟨rfl, rfl⟩ := h
        exact iter_leads hc hF hm (orcX_ok hc hF hm n tbl ls hX d b fun id b hb => hls id b (h2 _ hb)) h3 (fun x => x) ho

/-- each answer of the loops' table is right -/
def LoopsX (P : Program) (T : Nat → Option Func) (X : Nat → List (Nat × LSpec)) : Prop :=
  ∀ f fn c id s b, T f = some fn → fn.body = some c → asc (X f) id = some s → asc (allLoops c) id = some b → ∀ Γ π, LoopOK P Γ π id b s

theorem runX_ok (hc : CtxOK P cx) (hm : P.follows .mixedOrders = true) {S : Fns} (hS : ∀ f, f ∈ cx.fs → FnOK P f (S f)) {T : Nat → Option Func} (hT : FuncsOK P T) {X : Nat → List (Nat × LSpec)} (hX : LoopsX P T X) (n : Nat)
    : ∀ (d : Nat) (f : Nat), f ∈ cx.fs → FnOK P f (runX cx S X T n d f)
  | 0, f, hf => hS f hf
  | d + 1, f, hf => by
    intro bs r hr ho
    simp only [runX] at hr
    split at hr
    case h_1 r' h1 =>
      cases hr
      exact hS f hf bs _ h1 ho
    case h_2 h1 =>
      split at hr
      · cases hr
      case h_2 fn h2 =>
        split at hr
        · cases hr
        case h_2 c h3 =>
          rw [frcL_eq] at hr
          split at hr
          case h_2 => cases hr
          case h_1 hl0 =>
          split at hr
          · cases hr
          case h_2 r1 h4 =>
            split at hr
            case h_1 h5 =>
              rw [frcA_eq, frcL_eq] at hr
              simp only [Option.some.injEq] at hr
              obtain ⟨h6, h7⟩ := hT f fn c h2 h3
              have hl : bs.length ≤ 500 := Nat.le_of_ble_eq_true hl0
              intro w M vs Fp hM hv hn hFm
              have := fn_run hc (fun g hg => runX_ok hc hm hS hT hX n d g hg) hm h6 h3 hl (fun Γ π => orcX_ok hc (fun g hg => runX_ok hc hm hS hT hX n d g hg) hm n (X f) (allLoops c)
                (fun id s b q1 q2 => hX f fn c id s b h2 h3 q1 q2 Γ π) 6 c fun id b hb => asc_nodup h7 hb) h4 (allT_ok h5) hM hv hn hFm
              subst hr
              exact this
            case h_2 => cases hr
end
end Go.Sx

set_option linter.unusedVariables false
set_option linter.unusedSimpArgs false
namespace Go.Sx
open Go Go.RowKit Go.Proofs

/-- a value said with less -/
inductive Wk : AV → AV → Prop
  | same (a : AV) : Wk a a
  | nils (d : SC) (h : d.lenN = 0) : Wk .nils (.osl none d)
  | osl (nk : Option Bool) (d : SC) : Wk (.osl nk d) (.osl none d)
theorem Wk.rb {M : Frz} {w : World} {a b : AV} {v : Value} {F : List Nat} (h : Wk a b) (hv : RBT M w a v F) : RBT M w b v F := by
  cases h with
  | same => exact hv
  | nils d hd =>
    simp only [RBT, RB, R] at hv ⊢
    obtain ⟨rfl, rfl⟩ := hv
    exact ⟨none, 0, (by rw [hd]), fun b h => (by cases h), .inr ⟨rfl, hd, rfl, rfl⟩⟩
  | osl nk d =>
    simp only [RBT, RB] at hv ⊢
    obtain ⟨base, cap, h1, _, h3⟩ := hv
    exact ⟨base, cap, h1, fun b h => (by cases h), h3⟩
theorem FnOK.weak {P : Program} {f : Nat} {F G : List AV → Option Res} (h : FnOK P f F)
    (hw : ∀ bs r, G bs = some r → AllT r.obl → ∃ r', F bs = some r' ∧ AllT r'.obl ∧ Wk r'.val r.val ∧ r'.outs = r.outs) : FnOK P f G := by
  intro bs r hr ho w M vs Fp hM hv hn hFm
  obtain ⟨r', h1, h2, h3, h4⟩ := hw bs r hr ho
  refine (h bs r' h1 h2 w M vs Fp hM hv hn hFm).mono fun e w2 he => ?_
  cases e with
  | returned v =>
    obtain ⟨M', F1, F2, a1, a2, a3, a4, a5, a6⟩ := he
    exact ⟨M', F1, F2, a1, a2, a3, h3.rb a4, by rw [← h4]; exact a5, a6⟩
  | _ => exact he

section
variable {Γ : Env} {π : Nms} {fn : Func} {id : Nat} {fs : List Nat} {l : List (Nat × (List AV → Option Res))} {tbl : List (Nat × LSpec)}
/-- A loop that gathers. -/
theorem gathK {n : Nat} {ks os ks' os' : List Nat} (K : LK Γ π fn id fs l tbl) (vs : Int → List Int → List AV) (obs : List Int → List Ob) (p : Int → Bool) (g : Int → Int) (N : Int) (hN : N ≤ 1000000) (R : List Int → LRes) (tr : Int → List Int → Tr (Ex × St))
    (htr : ∀ i acc, keepT n ks' os' (evT (cxs fs) (tb l) (orcT tbl) (loopB fn id) ⟨mkS n (zip2 ks (vs i acc)), zip2 os (obs acc), []⟩) = tr i acc)
    (hend : ∀ i acc, 0 ≤ i → lenZ acc ≤ i → ltI i N = false → ∃ e st1, (tr i acc).sel = some (e, st1) ∧ AllT st1.ok ∧ outE id e = some (R acc).e ∧ Fits st1 (mkS n (R acc).sl) (R acc).ob)
    (hyes : ∀ i acc, 0 ≤ i → lenZ acc ≤ i → ltI i N = true → p i = true → ∃ st1, (tr i acc).sel = some (.normal, st1) ∧ AllT st1.ok ∧ Fits st1 (mkS n (zip2 ks (vs (addI .i64 i 1) (acc ++ [g i])))) (zip2 os (obs (acc ++ [g i]))))
    (hno : ∀ i acc, 0 ≤ i → lenZ acc ≤ i → ltI i N = true → p i = false → ∃ st1, (tr i acc).sel = some (.normal, st1) ∧ AllT st1.ok ∧ Fits st1 (mkS n (zip2 ks (vs (addI .i64 i 1) acc))) (zip2 os (obs acc)))
    {r : LRes} (hr : r = R (gath p g N.toNat 0 [])) {ok ok' : List Bool} (hok : AllT ok' → AllT ok) (hT : AllT ok') :
    Leads Try.prog Γ π (.block id (.loop (loopB fn id))) ⟨mkS n (zip2 ks (vs 0 [])), zip2 os (obs []), ok⟩ r.e ⟨mkS n r.sl, r.ob, ok'⟩ := by
  refine loopK (X := Int × List Int) K (fun x => vs x.1 x.2) (fun x => obs x.2) (fun x => 0 ≤ x.1 ∧ lenZ x.2 ≤ x.1 ∧ gath p g N.toNat 0 [] = gath p g (N - x.1).toNat x.1 x.2) (fun x => (N - x.1).toNat) r (fun x => tr x.1 x.2) (fun x => htr x.1 x.2) ?_
    (x := (0, [])) ⟨Int.le_refl 0, by simp [lenZ], by simp⟩ hok hT
  rintro ⟨i, acc⟩ ⟨h0, hlen, h1⟩
  simp only at h0 hlen h1
  cases hlt : ltI i N with
  | false =>
    obtain ⟨e, st1, a, b, c, d⟩ := hend i acc h0 hlen hlt
    have : ¬ i < N := fun c => by rw [ltI_iff.2 c] at hlt; cases hlt
    have hz : (N - i).toNat = 0 := by omega
    rw [hz] at h1
    simp only [gath] at h1
    rw [h1] at hr
    subst hr
    exact ⟨e, st1, a, b, .inr ⟨c, d⟩⟩
  | true =>
    have hl := ltI_iff.1 hlt
    obtain ⟨k, hk⟩ : ∃ k, (N - i).toNat = k + 1 := ⟨(N - i).toNat - 1, by omega⟩
    have hadd : addI .i64 i 1 = i + 1 := addI_in (by omega) (by omega)
    have hk2 : (N - (i + 1)).toNat = k := by omega
    rw [hk] at h1
    simp only [gath] at h1
    cases hp : p i with
    | true =>
      rw [hp] at h1
      obtain ⟨st1, a, b, c⟩ := hyes i acc h0 hlen hlt hp
      refine ⟨_, st1, a, b, .inl ⟨rfl, (addI .i64 i 1, acc ++ [g i]), ⟨by rw [hadd]; omega, ?_, ?_⟩, by simp only [hadd]; omega, c⟩⟩
      · simp only [hadd, lenZ, List.length_append, List.length_singleton] at hlen ⊢; omega
      · simp only [hadd, hk2]; exact h1
    | false =>
      rw [hp] at h1
      obtain ⟨st1, a, b, c⟩ := hno i acc h0 hlen hlt hp
      refine ⟨_, st1, a, b, .inl ⟨rfl, (addI .i64 i 1, acc), ⟨by rw [hadd]; omega, ?_, ?_⟩, by simp only [hadd]; omega, c⟩⟩
      · simp only [hadd]; omega
      · simp only [hadd, hk2]; exact h1
/-- A loop that counts. -/
theorem cntK {α : Type} {n : Nat} {ks os ks' os' : List Nat} (K : LK Γ π fn id fs l tbl) (vs : Int → α → List AV) (obs : α → List Ob) (N : Int) (hN : N ≤ 1000000) (f : Int → α → α) (F : Nat → Int → α → α) (hF0 : ∀ i x, F 0 i x = x)
    (hFs : ∀ k i x, F (k + 1) i x = F k (i + 1) (f i x)) (inv : α → Prop) (R : α → LRes) (tr : Int → α → Tr (Ex × St))
    (htr : ∀ i x, keepT n ks' os' (evT (cxs fs) (tb l) (orcT tbl) (loopB fn id) ⟨mkS n (zip2 ks (vs i x)), zip2 os (obs x), []⟩) = tr i x)
    (hend : ∀ i x, 0 ≤ i → inv x → ltI i N = false → ∃ e st1, (tr i x).sel = some (e, st1) ∧ AllT st1.ok ∧ outE id e = some (R x).e ∧ Fits st1 (mkS n (R x).sl) (R x).ob)
    (hstep : ∀ i x, 0 ≤ i → inv x → ltI i N = true → inv (f i x) ∧ ∃ st1, (tr i x).sel = some (.normal, st1) ∧ AllT st1.ok ∧ Fits st1 (mkS n (zip2 ks (vs (addI .i64 i 1) (f i x)))) (zip2 os (obs (f i x))))
    {x0 : α} (hx0 : inv x0) {r : LRes} (hr : r = R (F N.toNat 0 x0)) {ok ok' : List Bool} (hok : AllT ok' → AllT ok) (hT : AllT ok') :
    Leads Try.prog Γ π (.block id (.loop (loopB fn id))) ⟨mkS n (zip2 ks (vs 0 x0)), zip2 os (obs x0), ok⟩ r.e ⟨mkS n r.sl, r.ob, ok'⟩ := by
  refine loopK (X := Int × α) K (fun x => vs x.1 x.2) (fun x => obs x.2) (fun x => 0 ≤ x.1 ∧ inv x.2 ∧ F N.toNat 0 x0 = F (N - x.1).toNat x.1 x.2) (fun x => (N - x.1).toNat) r (fun x => tr x.1 x.2) (fun x => htr x.1 x.2) ?_
    (x := (0, x0)) ⟨Int.le_refl 0, hx0, by simp⟩ hok hT
  rintro ⟨i, x⟩ ⟨h0, hi, h1⟩
  simp only at h0 hi h1
  cases hlt : ltI i N with
  | false =>
    obtain ⟨e, st1, a, b, c, d⟩ := hend i x h0 hi hlt
    have : ¬ i < N := fun c => by rw [ltI_iff.2 c] at hlt; cases hlt
    have hz : (N - i).toNat = 0 := by omega
    rw [hz, hF0] at h1
    rw [h1] at hr
    subst hr
    exact ⟨e, st1, a, b, .inr ⟨c, d⟩⟩
  | true =>
    have hl := ltI_iff.1 hlt
    obtain ⟨k, hk⟩ : ∃ k, (N - i).toNat = k + 1 := ⟨(N - i).toNat - 1, by omega⟩
    have hadd : addI .i64 i 1 = i + 1 := addI_in (by omega) (by omega)
    have hk2 : (N - (i + 1)).toNat = k := by omega
    rw [hk, hFs] at h1
    obtain ⟨hi', st1, a, b, c⟩ := hstep i x h0 hi hlt
    exact ⟨_, st1, a, b, .inl ⟨rfl, (addI .i64 i 1, f i x), ⟨by simp only [hadd]; omega, hi', by simp only [hadd, hk2]; exact h1⟩, by simp only [hadd]; omega, c⟩⟩
end
end Go.Sx

set_option linter.unusedVariables false
set_option linter.unusedSimpArgs false
namespace Go.Sx
open Go

theorem mem_gath {p : Int → Bool} {g : Int → Int} {x : Int} : ∀ {k : Nat} {i : Int} {acc : List Int}, x ∈ gath p g k i acc ↔ x ∈ acc ∨ ∃ j, i ≤ j ∧ j < i + k ∧ p j = true ∧ x = g j
  | 0, i, acc => by
    simp only [gath]
    exact ⟨.inl, fun h => h.elim id fun ⟨j, a, b, _⟩ => by omega⟩
  | k + 1, i, acc => by
    simp only [gath]
    have hsplit : (∃ j, i ≤ j ∧ j < i + (k + 1 : Nat) ∧ p j = true ∧ x = g j) ↔ (p i = true ∧ x = g i) ∨ ∃ j, i + 1 ≤ j ∧ j < i + 1 + k ∧ p j = true ∧ x = g j := by
      constructor
      · rintro ⟨j, a, b, c, d⟩
        by_cases e : j = i
        · subst e; exact .inl ⟨c, d⟩
        · exact .inr ⟨j, by omega, by omega, c, d⟩
      · rintro (⟨a, b⟩ | ⟨j, a, b, c, d⟩)
        · exact ⟨i, by omega, by omega, a, b⟩
        · exact ⟨j, by omega, by omega, c, d⟩
    rw [hsplit]
    cases hp : p i with
    | true =>
      simp only [mem_gath, List.mem_append, List.mem_singleton, true_and, or_assoc]
    | false => simp only [mem_gath, Bool.false_eq_true, false_and, false_or]
theorem gath_len {p : Int → Bool} {g : Int → Int} : ∀ {k : Nat} {i : Int} {acc : List Int}, (gath p g k i acc).length ≤ acc.length + k
  | 0, i, acc => by simp [gath]
  | k + 1, i, acc => by
    simp only [gath]
    cases p i with
    | true => have := gath_len (p := p) (g := g) (k := k) (i := i + 1) (acc := acc ++ [g i]); simp only [List.length_append, List.length_singleton] at this ⊢; omega
    | false => have := gath_len (p := p) (g := g) (k := k) (i := i + 1) (acc := acc); simp only; omega
theorem mem_nxs {n : Net} {v x : Int} : x ∈ nxs n v ↔ ∃ i, 0 ≤ i ∧ i < lenZ n.ls ∧ n.fr i = v ∧ n.to i = x ∧ good n v x = true := by
  rw [nxs, mem_gath]
  simp only [List.not_mem_nil, false_or, andB_iff, eqI_iff, Int.zero_add]
  constructor
  · rintro ⟨i, a, b, ⟨c, d⟩, rfl⟩
    exact ⟨i, a, b, c, rfl, by rw [c] at d; exact d⟩
  · rintro ⟨i, a, b, c, rfl, d⟩
    exact ⟨i, a, b, ⟨c, by rw [c]; exact d⟩, rfl⟩
theorem nxs_len {n : Net} {v : Int} : lenZ (nxs n v) ≤ lenZ n.ls := by
  have := gath_len (p := fun i => andB (eqI (n.fr i) v) (good n (n.fr i) (n.to i))) (g := n.to) (k := n.ls.length) (i := 0) (acc := [])
  simp only [List.length_nil] at this
  simp only [lenZ, nxs]
  omega
theorem nxs_in {n : Net} (h : n.Ok) {v x : Int} (hx : x ∈ nxs n v) : 0 ≤ x ∧ x < n.nd := by
  obtain ⟨i, a, b, c, rfl, d⟩ := mem_nxs.1 hx
  have := h.node i a b
  omega
theorem idxZ_iff {xs : List Int} {x : Int} : leI 0 (idxZ xs x) = true ↔ x ∈ xs := by
  constructor
  · intro h
    obtain ⟨a, b, c⟩ := scan_ge0 h
    have : x = getI xs (idxZ xs x) := eqI_iff.1 c
    rw [this]
    unfold getI
    have hlt : (idxZ xs x).toNat < xs.length := by unfold idxZ; omega
    rw [List.getD_eq_getElem?_getD, List.getElem?_eq_getElem hlt]
    simp
  · intro h
    cases hb : leI 0 (idxZ xs x) with
    | true => rfl
    | false =>
      have hn := scan_lt0.1 hb
      obtain ⟨j, hj, rfl⟩ := List.getElem_of_mem h
      have := hn j (by omega) (by omega)
      rw [eqI_false] at this
      exact absurd (by simp [getI, List.getD_eq_getElem?_getD, hj]) this
theorem mem_addZ {x : Int} : ∀ {xs acc : List Int}, x ∈ addZ acc xs ↔ x ∈ acc ∨ x ∈ xs
  | [], acc => by simp [addZ]
  | c :: l, acc => by
    rw [addZ]
    cases hb : leI 0 (idxZ acc c) with
    | true =>
      have := idxZ_iff.1 hb
      simp only [mem_addZ, List.mem_cons]
      exact ⟨fun h => h.imp id .inr, fun h => h.elim .inl fun h => h.elim (fun e => .inl (e ▸ this)) .inr⟩
    | false => simp only [mem_addZ, List.mem_append, List.mem_cons, List.not_mem_nil, or_false, or_assoc]
theorem addZ_nodup : ∀ {xs acc : List Int}, acc.Nodup → (addZ acc xs).Nodup
  | [], acc, h => by simpa [addZ] using h
  | c :: l, acc, h => by
    rw [addZ]
    cases hb : leI 0 (idxZ acc c) with
    | true => exact addZ_nodup h
    | false =>
      have hc : c ∉ acc := fun hc => by rw [idxZ_iff.2 hc] at hb; cases hb
      refine addZ_nodup (List.nodup_append.2 ⟨h, by simp, fun x hx y hy => ?_⟩)
      simp only [List.mem_singleton] at hy
      subst hy
      exact fun e => hc (e ▸ hx)
theorem addZ_ge : ∀ {xs acc : List Int}, acc.length ≤ (addZ acc xs).length
  | [], acc => by simp [addZ]
  | c :: l, acc => by
    rw [addZ]
    cases leI 0 (idxZ acc c) with
    | true => exact addZ_ge
    | false =>
      have := addZ_ge (xs := l) (acc := acc ++ [c])
      simp only [List.length_append, List.length_singleton] at this
      show acc.length ≤ (addZ (acc ++ [c]) l).length
      omega
theorem filter_len {a : Int} : ∀ {l : List Int}, l.Nodup → l.length ≤ (l.filter fun x => x != a).length + 1
  | [], _ => by simp
  | x :: l, h => by
    obtain ⟨h1, h2⟩ := List.nodup_cons.1 h
    by_cases e : x = a
    · subst e
      have : (l.filter fun y => y != x) = l := by
        rw [List.filter_eq_self]
        intro y hy
        simp only [bne_iff_ne, ne_eq]
        exact fun e => h1 (e ▸ hy)
      simp [List.filter_cons, this]
    · have := filter_len (a := a) h2
      simp [List.filter_cons, e]
      exact this
/-- numbers of 0 .. n-1, each once, are at most n -/
theorem nodup_len : ∀ {n : Nat} {l : List Int}, l.Nodup → (∀ x, x ∈ l → 0 ≤ x ∧ x < n) → l.length ≤ n
  | 0, l, _, h => by
    cases l with
    | nil => simp
    | cons x l => have := h x (by simp); omega
  | n + 1, l, hn, h => by
    have h1 := filter_len (a := (n : Int)) hn
    have h2 := nodup_len (n := n) (l := l.filter fun x => x != (n : Int)) (hn.sublist List.filter_sublist) fun x hx => by
      obtain ⟨a, b⟩ := List.mem_filter.1 hx
      simp only [bne_iff_ne, ne_eq] at b
      have := h x a
      omega
    omega
end Go.Sx

set_option linter.unusedVariables false
set_option linter.unusedSimpArgs false
namespace Go.Sx
open Go

/-- in rising order, each once -/
def Rise (l : List Int) : Prop := l.Pairwise (· < ·)
theorem rise_eq : ∀ {l m : List Int}, Rise l → Rise m → (∀ x, x ∈ l ↔ x ∈ m) → l = m
  | [], [], _, _, _ => rfl
  | [], y :: m, _, _, h => by have := (h y).2 (by simp); simp at this
  | x :: l, [], _, _, h => by have := (h x).1 (by simp); simp at this
  | x :: l, y :: m, hl, hm, h => by
    obtain ⟨h1, h2⟩ := List.pairwise_cons.1 hl
    obtain ⟨h3, h4⟩ := List.pairwise_cons.1 hm
    have e : x = y := by
      rcases List.mem_cons.1 ((h x).1 (by simp)) with a | a
      · exact a
      · rcases List.mem_cons.1 ((h y).2 (by simp)) with b | b
        · exact b.symm
        · have := h1 y b; have := h3 x a; omega
    subst e
    rw [rise_eq h2 h4 fun z => ?_]
    constructor
    · intro hz
      rcases List.mem_cons.1 ((h z).1 (by simp [hz])) with a | a
      · have := h1 z hz; omega
      · exact a
    · intro hz
      rcases List.mem_cons.1 ((h z).2 (by simp [hz])) with a | a
      · have := h3 z hz; omega
      · exact a
theorem gath_rise {p : Int → Bool} {g : Int → Int} : ∀ {k : Nat} {i : Int} {acc : List Int}, Rise acc → (∀ a j, a ∈ acc → i ≤ j → j < i + k → p j = true → a < g j) →
    (∀ j j', i ≤ j → j < j' → j' < i + k → p j = true → p j' = true → g j < g j') → Rise (gath p g k i acc)
  | 0, i, acc, h, _, _ => h
  | k + 1, i, acc, h, h1, h2 => by
    simp only [gath]
    cases hp : p i with
    | true =>
      refine gath_rise (List.pairwise_append.2 ⟨h, by simp, fun a ha b hb => ?_⟩) (fun a j ha hj hk hpj => ?_) fun j j' a b c => h2 j j' (by omega) b (by omega)
      · simp only [List.mem_singleton] at hb
        subst hb
        exact h1 a i ha (Int.le_refl i) (by omega) hp
      · rcases List.mem_append.1 ha with ha | ha
        · exact h1 a j ha (by omega) (by omega) hpj
        · simp only [List.mem_singleton] at ha
          subst ha
          exact h2 i j (Int.le_refl i) (by omega) (by omega) hp hpj
    | false => exact gath_rise h (fun a j ha hj hk hpj => h1 a j ha (by omega) (by omega) hpj) fun j j' a b c => h2 j j' (by omega) b (by omega)
/-- links of one node rise in where they lead -/
theorem links_rise {n : Net} (h : n.Ok) : ∀ (d : Nat) (i : Int), 0 ≤ i → i + d < lenZ n.ls → n.fr i < n.fr (i + d) ∨ n.fr i = n.fr (i + d) ∧ n.to i + d ≤ n.to (i + d)
  | 0, i, _, _ => by simp
  | d + 1, i, h0, h1 => by
    have ih := links_rise h d i h0 (by omega)
    have ho := h.ord (i + (d + 1 : Nat)) (by omega) h1
    rw [show i + (d + 1 : Nat) - 1 = i + d by omega] at ho
    omega
theorem nxs_rise {n : Net} (h : n.Ok) {v : Int} : Rise (nxs n v) := by
  refine gath_rise List.Pairwise.nil (fun a j ha => by simp at ha) fun j j' a b c hj hj' => ?_
  have e1 := eqI_iff.1 (andB_iff.1 hj).1
  have e2 := eqI_iff.1 (andB_iff.1 hj').1
  have := links_rise h (j' - j).toNat j a (by simp only [lenZ]; omega)
  rw [show j + ((j' - j).toNat : Int) = j' by omega] at this
  omega
theorem rnx_rise {n : Net} {v : Int} : Rise (rnx n v) := gath_rise List.Pairwise.nil (fun a j ha => by simp at ha) fun j j' _ b _ _ _ => b
theorem mem_rnx {n : Net} {v x : Int} : x ∈ rnx n v ↔ 0 ≤ x ∧ x < n.nd ∧ good n v x = true := by
  rw [rnx, mem_gath]
  simp only [List.not_mem_nil, false_or, Int.zero_add]
  constructor
  · rintro ⟨j, a, b, c, rfl⟩; exact ⟨a, by omega, c⟩
  · rintro ⟨a, b, c⟩; exact ⟨x, a, by omega, c, rfl⟩
theorem good_link {n : Net} {v x : Int} (h : good n v x = true) : ∃ i, 0 ≤ i ∧ i < lenZ n.ls ∧ n.fr i = v ∧ n.to i = x := by
  have h1 := leI_iff.1 (andB_iff.1 h).1
  rcases fnd_cases n v x with e | ⟨a, b, c, d⟩
  · omega
  · exact ⟨_, a, b, c, d⟩
theorem nxs_rnx {n : Net} (h : n.Ok) {v : Int} : nxs n v = rnx n v := by
  refine rise_eq (nxs_rise h) rnx_rise fun x => ?_
  rw [mem_nxs, mem_rnx]
  constructor
  · rintro ⟨i, a, b, c, rfl, d⟩
    have := h.node i a b
    exact ⟨by omega, by omega, d⟩
  · rintro ⟨a, b, c⟩
    obtain ⟨i, i1, i2, i3, i4⟩ := good_link c
    exact ⟨i, i1, i2, i3, i4, c⟩
theorem nx_rx {n : Net} {v : Int} : nx n v = rx n v := by
  unfold nx rx
  cases hc : eqI (chk n) 0 with
  | false => rfl
  | true =>
    have h := chk_zero.1 (eqI_iff.1 hc)
    rw [nxs_rnx h]
    cases hv : inB v 0 (n.nd - 1) with
    | true => rfl
    | false =>
      show rnx n v = []
      rw [List.eq_nil_iff_forall_not_mem]
      intro x hx
      obtain ⟨a, b, c⟩ := mem_rnx.1 hx
      obtain ⟨i, i1, i2, i3, i4⟩ := good_link c
      have := h.node i i1 i2
      have : inB v 0 (n.nd - 1) = true := inB_iff.2 (by omega)
      rw [this] at hv; cases hv
end Go.Sx

set_option linter.unusedVariables false
set_option linter.unusedSimpArgs false
namespace Go.Sx
open Go

theorem getI_at (p : List Int) (x : Int) (r : List Int) : getI (p ++ x :: r) (p.length : Nat) = x := by simp [getI, List.getD_eq_getElem?_getD]
theorem setI_at (p : List Int) (x y : Int) (r : List Int) : setI (p ++ x :: r) (p.length : Nat) y = p ++ y :: r := by simp [setI]
theorem getI_at1 (p : List Int) (x z : Int) (r : List Int) : getI (p ++ z :: x :: r) (p.length + 1 : Nat) = x := by
  have := getI_at (p ++ [z]) x r
  simpa using this
theorem setI_at1 (p : List Int) (x y z : Int) (r : List Int) : setI (p ++ z :: x :: r) (p.length + 1 : Nat) y = p ++ z :: y :: r := by
  have := setI_at (p ++ [z]) x y r
  simpa using this
theorem swp_at (p : List Int) (b a : Int) (r : List Int) : swp (p ++ b :: a :: r) (p.length + 1 : Nat) = p ++ a :: b :: r := by
  unfold swp
  rw [show ((p.length + 1 : Nat) : Int) - 1 = (p.length : Nat) by omega, getI_at, getI_at1, setI_at1, setI_at]
theorem sink_at : ∀ (j : Nat) (p : List Int) (a : Int) (r : List Int), p.length = j → ∃ l, sink j (p ++ a :: r) = l ++ r ∧ l.Perm (a :: p) ∧ (Rise p → a ∉ p → Rise l)
  | 0, p, a, r, h => by
    have : p = [] := List.eq_nil_of_length_eq_zero h
    subst this
    exact ⟨[a], rfl, List.Perm.refl _, fun _ _ => List.pairwise_singleton _ _⟩
  | j + 1, p, a, r, h => by
    obtain ⟨q, b, rfl⟩ : ∃ q b, p = q ++ [b] := by
      refine ⟨p.dropLast, p.getLast (by intro c; subst c; simp at h), (List.dropLast_concat_getLast _).symm⟩
    have hq : q.length = j := by simpa using h
    subst hq
    have e : q ++ [b] ++ a :: r = q ++ b :: a :: r := by simp
    rw [e, sink, getI_at1, getI_at]
    cases hab : ltI a b with
    | true =>
      simp only
      rw [swp_at]
      obtain ⟨l, h1, h2, h3⟩ := sink_at q.length q a (b :: r) rfl
      refine ⟨l ++ [b], by rw [h1]; simp, ?_, fun hr hn => ?_⟩
      · exact (h2.append_right [b]).trans (by simp)
      · obtain ⟨r1, r2, r3⟩ := List.pairwise_append.1 hr
        have hl := h3 r1 fun c => hn (by simp [c])
        refine List.pairwise_append.2 ⟨hl, by simp, fun x hx y hy => ?_⟩
        simp only [List.mem_singleton] at hy
        subst hy
        rcases List.mem_cons.1 (h2.mem_iff.1 hx) with c | c
        · subst c; exact ltI_iff.1 hab
        · exact r3 x c y (by simp)
    | false =>
      simp only
      refine ⟨q ++ [b] ++ [a], by simp, List.perm_append_comm, fun hr hn => ?_⟩
      have hba : ¬ a < b := fun c => by rw [ltI_iff.2 c] at hab; cases hab
      have hne : a ≠ b := fun c => hn (by simp [c])
      obtain ⟨r1, r2, r3⟩ := List.pairwise_append.1 hr
      refine List.pairwise_append.2 ⟨hr, by simp, fun x hx y hy => ?_⟩
      simp only [List.mem_singleton] at hy
      subst hy
      rcases List.mem_append.1 hx with c | c
      · have := r3 x c b (by simp); omega
      · simp only [List.mem_singleton] at c; omega
theorem isrt_at : ∀ (k i : Nat) (p r : List Int), p.length = i → r.length = k → Rise p → (p ++ r).Nodup → Rise (isrt k i (p ++ r)) ∧ (isrt k i (p ++ r)).Perm (p ++ r)
  | 0, i, p, r, h1, h2, h3, h4 => by
    have : r = [] := List.eq_nil_of_length_eq_zero h2
    subst this
    simp only [List.append_nil, isrt]
    exact ⟨h3, List.Perm.refl _⟩
  | k + 1, i, p, r, h1, h2, h3, h4 => by
    cases r with
    | nil => simp at h2
    | cons a r =>
      obtain ⟨l, e1, e2, e3⟩ := sink_at i p a r h1
      have hperm : (l ++ r).Perm (p ++ a :: r) := (e2.append_right r).trans (by simpa using (List.perm_middle (l₁ := p) (a := a) (l₂ := r)).symm)
      have hna : a ∉ p := by
        have := List.nodup_append.1 h4
        exact fun c => this.2.2 a c a (by simp) rfl
      have hlen : l.length = i + 1 := by have := e2.length_eq; simp at this; omega
      rw [isrt, e1]
      obtain ⟨g1, g2⟩ := isrt_at k (i + 1) l r hlen (by simpa using h2) (e3 h3 hna) (hperm.nodup_iff.2 h4)
      exact ⟨g1, g2.trans hperm⟩
theorem srt_ok {xs : List Int} (h : xs.Nodup) : Rise (srt xs) ∧ ∀ x, x ∈ srt xs ↔ x ∈ xs := by
  cases xs with
  | nil => exact ⟨List.Pairwise.nil, fun x => Iff.rfl⟩
  | cons a r =>
    obtain ⟨g1, g2⟩ := isrt_at r.length 1 [a] r rfl rfl (List.pairwise_singleton _ _) h
    exact ⟨g1, fun x => g2.mem_iff⟩
end Go.Sx

set_option linter.unusedVariables false
set_option linter.unusedSimpArgs false
namespace Go.Sx
open Go

/-- what is reached from v -/
inductive Rc (n : Net) (v : Int) : Int → Prop
  | base : Rc n v v
  | step {a b : Int} (h : Rc n v a) (g : good n a b = true) : Rc n v b

theorem mem_nxs' {n : Net} (h : n.Ok) {v x : Int} : x ∈ nxs n v ↔ good n v x = true := by
  rw [nxs_rnx h, mem_rnx]
  refine ⟨fun h => h.2.2, fun g => ?_⟩
  obtain ⟨i, i1, i2, i3, i4⟩ := good_link g
  have := h.node i i1 i2
  exact ⟨by omega, by omega, g⟩
theorem addZ_pre : ∀ {xs acc : List Int}, ∃ t, addZ acc xs = acc ++ t
  | [], acc => ⟨[], by simp [addZ]⟩
  | c :: l, acc => by
    rw [addZ]
    cases leI 0 (idxZ acc c) with
    | true => exact addZ_pre
    | false =>
      obtain ⟨t, ht⟩ := addZ_pre (xs := l) (acc := acc ++ [c])
      exact ⟨c :: t, by show addZ (acc ++ [c]) l = _; rw [ht]; simp⟩
theorem getI_app {p t : List Int} {j : Nat} (h : j < p.length) : getI (p ++ t) (j : Nat) = getI p (j : Nat) := by
  simp [getI, List.getD_eq_getElem?_getD, List.getElem?_append_left h]
theorem getI_mem {p : List Int} {j : Nat} (h : j < p.length) : getI p (j : Nat) ∈ p := by
  simp [getI, List.getD_eq_getElem?_getD, h]
theorem bfs_sound {n : Net} (h : n.Ok) {v : Int} : ∀ {k : Nat} {i : Nat} {acc : List Int}, (∀ y, y ∈ acc → Rc n v y) → ∀ y, y ∈ bfs n k i acc → Rc n v y
  | 0, i, acc, h1 => h1
  | k + 1, i, acc, h1 => by
    rw [bfs]
    cases hc : ltI (i : Int) (lenZ acc) with
    | false => exact h1
    | true =>
      have hlt : i < acc.length := by have := ltI_iff.1 hc; simp only [lenZ] at this; omega
      refine bfs_sound h (i := i + 1) fun y hy => ?_
      rcases mem_addZ.1 hy with a | a
      · exact h1 y a
      · exact .step (h1 _ (getI_mem hlt)) ((mem_nxs' h).1 a)
theorem bfs_closed {n : Net} (h : n.Ok) (hnd : n.nd ≤ 8) : ∀ {k : Nat} {i : Nat} {acc : List Int}, acc.Nodup → (∀ y, y ∈ acc → 0 ≤ y ∧ y < n.nd) → i ≤ acc.length → 9 ≤ k + i → (∀ j : Nat, j < i → ∀ y, y ∈ nxs n (getI acc j) → y ∈ acc) →
    (∀ x, x ∈ bfs n k i acc → ∀ y, y ∈ nxs n x → y ∈ bfs n k i acc) ∧ ∀ x, x ∈ acc → x ∈ bfs n k i acc
  | 0, i, acc, h1, h2, h3, h4, h5 => by
    have := nodup_len (n := n.nd.toNat) h1 fun x hx => by have := h2 x hx; omega
    omega
  | k + 1, i, acc, h1, h2, h3, h4, h5 => by
    rw [bfs]
    cases hc : ltI (i : Int) (lenZ acc) with
    | false =>
      have hge : acc.length ≤ i := by
        have : ¬ (i : Int) < lenZ acc := fun c => by rw [ltI_iff.2 c] at hc; cases hc
        simp only [lenZ] at this; omega
      show (∀ x, x ∈ acc → ∀ y, y ∈ nxs n x → y ∈ acc) ∧ ∀ x, x ∈ acc → x ∈ acc
      refine ⟨fun x hx y hy => ?_, fun x hx => hx⟩
      obtain ⟨j, hj, rfl⟩ := List.getElem_of_mem hx
      refine h5 j (by omega) y ?_
      have : getI acc (j : Nat) = acc[j] := by simp [getI, List.getD_eq_getElem?_getD, hj]
      rw [this]; exact hy
    | true =>
      have hlt : i < acc.length := by have := ltI_iff.1 hc; simp only [lenZ] at this; omega
      obtain ⟨t, ht⟩ := addZ_pre (xs := nxs n (getI acc (i : Nat))) (acc := acc)
      have key := bfs_closed h hnd (k := k) (i := i + 1) (acc := addZ acc (nxs n (getI acc (i : Nat)))) (addZ_nodup h1) (fun y hy => (mem_addZ.1 hy).elim (h2 y) (nxs_in h))
        (by have := addZ_ge (acc := acc) (xs := nxs n (getI acc (i : Nat))); omega) (by omega) fun j hj y hy => ?_
      · exact ⟨key.1, fun x hx => key.2 x (mem_addZ.2 (.inl hx))⟩
      · rw [ht, getI_app (by omega)] at hy
        by_cases e : j = i
        · subst e; exact mem_addZ.2 (.inr hy)
        · exact mem_addZ.2 (.inl (h5 j (by omega) y hy))
theorem mem_rch {n : Net} {v x : Int} (hf : few n = true) (hb : rchB n v = true) : x ∈ rch n v ↔ Rc n v x := by
  obtain ⟨hb1, hb2⟩ := andB_iff.1 hb
  have h := chk_zero.1 (eqI_iff.1 hb1)
  have hnd : n.nd ≤ 8 := by have := few_pw hf; have := h.pw; omega
  constructor
  · exact bfs_sound h (i := 0) (fun y hy => by simp only [List.mem_singleton] at hy; subst hy; exact .base) x
  · have key := bfs_closed h hnd (k := 9) (i := 0) (acc := [v]) (by simp) (fun y hy => by simp only [List.mem_singleton] at hy; subst hy; exact nodeB_iff.1 hb2) (Nat.zero_le _) (by omega) (fun j hj => by omega)
    intro hr
    induction hr with
    | base => exact key.2 v (by simp)
    | step h1 g ih => exact key.1 _ ih _ ((mem_nxs' h).2 g)
end Go.Sx

set_option linter.unusedVariables false
set_option linter.unusedSimpArgs false
namespace Go.Sx
open Go

theorem getB_set {bs : List Bool} {j x : Int} {b : Bool} (hj : 0 ≤ j) (hl : j < lenZ bs) (hx : 0 ≤ x) : getB (setB bs j b) x = if x = j then b else getB bs x := by
  have hl : j.toNat < bs.length := by simp only [lenZ] at hl; omega
  simp only [getB, setB, List.getD_eq_getElem?_getD, List.getElem?_set]
  by_cases e : x = j
  · subst e; simp [hl]
  · have : ¬ j.toNat = x.toNat := by omega
    simp [e, this]
/-- bits only appear -/
def SubB (bs cs : List Bool) : Prop := cs.length = bs.length ∧ ∀ x, 0 ≤ x → getB bs x = true → getB cs x = true
theorem SubB.refl (bs : List Bool) : SubB bs bs := ⟨rfl, fun _ _ h => h⟩
theorem SubB.trans {a b c : List Bool} (h : SubB a b) (g : SubB b c) : SubB a c := ⟨g.1.trans h.1, fun x hx hb => g.2 x hx (h.2 x hx hb)⟩
theorem stepB_sub {n : Net} {i j : Int} {bs : List Bool} (hj : 0 ≤ j) (hl : j < lenZ bs) : SubB bs (setB bs j (orB (getB bs j) (andB (getB bs i) (good n i j)))) := by
  refine ⟨by simp [setB], fun x hx hb => ?_⟩
  rw [getB_set hj hl hx]
  by_cases e : x = j
  · subst e; rw [if_pos rfl, hb]; rfl
  · rw [if_neg e]; exact hb
theorem rel1_sub {n : Net} {i : Int} : ∀ {k : Nat} {j : Int} {bs : List Bool}, 0 ≤ j → j + k ≤ lenZ bs → SubB bs (rel1 n i k j bs) ∧ (getB bs i = true → 0 ≤ i → ∀ x, j ≤ x → x < j + k → good n i x = true → getB (rel1 n i k j bs) x = true)
  | 0, j, bs, _, _ => ⟨SubB.refl _, fun _ _ x a b => by omega⟩
  | k + 1, j, bs, h0, h1 => by
    have hs := stepB_sub (n := n) (i := i) h0 (show j < lenZ bs by omega)
    have hl : lenZ (setB bs j (orB (getB bs j) (andB (getB bs i) (good n i j)))) = lenZ bs := by simp [lenZ, setB]
    obtain ⟨g1, g2⟩ := rel1_sub (n := n) (i := i) (k := k) (j := j + 1) (bs := setB bs j (orB (getB bs j) (andB (getB bs i) (good n i j)))) (by omega) (by rw [hl]; omega)
    rw [rel1]
    refine ⟨hs.trans g1, fun hi hi0 x a b hg => ?_⟩
    by_cases e : x = j
    · subst e
      refine g1.2 x (by omega) ?_
      rw [getB_set h0 (by omega) (by omega), if_pos rfl, hi, hg]
      cases getB bs x <;> rfl
    · exact g2 (hs.2 i hi0 hi) hi0 x (by omega) (by omega) hg
theorem relA_sub {n : Net} {i : Int} {bs : List Bool} (hl : lenZ bs = n.nd) : SubB bs (relA n i bs) ∧ (getB bs i = true → 0 ≤ i → ∀ x, 0 ≤ x → x < n.nd → good n i x = true → getB (relA n i bs) x = true) := by
  have h0 : 0 ≤ n.nd := by rw [← hl]; simp [lenZ]
  obtain ⟨a, b⟩ := rel1_sub (n := n) (i := i) (k := n.nd.toNat) (j := 0) (bs := bs) (by omega) (by omega)
  exact ⟨a, fun h1 h2 x h3 h4 => b h1 h2 x h3 (by omega)⟩
theorem lenZ_sub {bs cs : List Bool} (h : SubB bs cs) : lenZ cs = lenZ bs := by simp only [lenZ, h.1]
theorem rel2_sub {n : Net} : ∀ {k : Nat} {i : Int} {bs : List Bool}, 0 ≤ i → lenZ bs = n.nd → SubB bs (rel2 n k i bs) ∧ ∀ y, i ≤ y → y < i + k → getB bs y = true → ∀ x, 0 ≤ x → x < n.nd → good n y x = true → getB (rel2 n k i bs) x = true
  | 0, i, bs, _, _ => ⟨SubB.refl _, fun y a b => by omega⟩
  | k + 1, i, bs, h0, hl => by
    obtain ⟨a1, a2⟩ := relA_sub (n := n) (i := i) hl
    obtain ⟨g1, g2⟩ := rel2_sub (n := n) (k := k) (i := i + 1) (bs := relA n i bs) (by omega) (by rw [lenZ_sub a1, hl])
    rw [rel2]
    refine ⟨a1.trans g1, fun y a b hy x hx0 hx1 hg => ?_⟩
    by_cases e : y = i
    · subst e; exact g1.2 x hx0 (a2 hy h0 x hx0 hx1 hg)
    · exact g2 y (by omega) (by omega) (a1.2 y (by omega) hy) x hx0 hx1 hg
theorem relB_sub {n : Net} {bs : List Bool} (hl : lenZ bs = n.nd) : SubB bs (relB n bs) ∧ ∀ y, 0 ≤ y → y < n.nd → getB bs y = true → ∀ x, 0 ≤ x → x < n.nd → good n y x = true → getB (relB n bs) x = true := by
  have h0 : 0 ≤ n.nd := by rw [← hl]; simp [lenZ]
  obtain ⟨a, b⟩ := rel2_sub (n := n) (k := n.nd.toNat) (i := 0) (bs := bs) (by omega) hl
  exact ⟨a, fun y h1 h2 => b y h1 (by omega)⟩

/-! ### the count of the bits -/
def cntB (bs : List Bool) : Nat := bs.countP id
theorem cntB_le : ∀ {bs cs : List Bool}, cs.length = bs.length → (∀ k : Nat, bs.getD k false = true → cs.getD k false = true) → cntB bs ≤ cntB cs ∧ (cntB bs = cntB cs → bs = cs)
  | [], [], _, _ => ⟨Nat.le_refl _, fun _ => rfl⟩
  | [], c :: cs, h, _ => by simp at h
  | b :: bs, [], h, _ => by simp at h
  | b :: bs, c :: cs, h, hs => by
    obtain ⟨g1, g2⟩ := cntB_le (bs := bs) (cs := cs) (by simpa using h) fun k hk => by have := hs (k + 1); simp at this hk ⊢; exact this hk
    have h0 := hs 0
    simp only [cntB, List.countP_cons] at g1 g2 ⊢
    cases b <;> cases c <;> simp at h0 ⊢
    · exact ⟨g1, fun e => g2 (by omega)⟩
    · exact ⟨by omega, by omega⟩
    · exact ⟨g1, fun e => g2 (by omega)⟩
theorem SubB.cnt {bs cs : List Bool} (h : SubB bs cs) : cntB bs ≤ cntB cs ∧ (cntB bs = cntB cs → bs = cs) :=
  cntB_le h.1 fun k hk => by have := h.2 (k : Int) (by omega); simp only [getB, Int.toNat_natCast] at this; exact this hk
def ClB (n : Net) (bs : List Bool) : Prop := ∀ y, 0 ≤ y → y < n.nd → getB bs y = true → ∀ x, 0 ≤ x → x < n.nd → good n y x = true → getB bs x = true
theorem rel3_fix {n : Net} {bs : List Bool} (h : relB n bs = bs) : ∀ k, rel3 n k bs = bs
  | 0 => rfl
  | k + 1 => by rw [rel3, h, rel3_fix h k]
theorem rel3_sub {n : Net} : ∀ {k : Nat} {bs : List Bool}, lenZ bs = n.nd → SubB bs (rel3 n k bs)
  | 0, bs, _ => SubB.refl _
  | k + 1, bs, hl => by
    have h1 := (relB_sub hl).1
    rw [rel3]
    exact h1.trans (rel3_sub (by rw [lenZ_sub h1, hl]))
theorem rel3_cl {n : Net} : ∀ {k : Nat} {bs : List Bool}, lenZ bs = n.nd → ClB n (rel3 n k bs) ∨ cntB bs + k ≤ cntB (rel3 n k bs)
  | 0, bs, _ => .inr (Nat.le_refl _)
  | k + 1, bs, hl => by
    obtain ⟨h1, h2⟩ := relB_sub hl
    by_cases e : relB n bs = bs
    · left
      rw [rel3_fix e]
      intro y a b c x d e' f
      have := h2 y a b c x d e' f
      rw [e] at this
      exact this
    · rw [rel3]
      rcases rel3_cl (k := k) (bs := relB n bs) (by rw [lenZ_sub h1, hl]) with c | c
      · exact .inl c
      · right
        have hc := h1.cnt
        have : cntB bs ≠ cntB (relB n bs) := fun q => e (hc.2 q).symm
        omega
theorem cntB_len (bs : List Bool) : cntB bs ≤ bs.length := List.countP_le_length
theorem relC_cl {n : Net} {bs : List Bool} (hl : lenZ bs = n.nd) (h1 : 1 ≤ cntB bs) : ClB n (relC n bs) := by
  rcases rel3_cl (n := n) (k := n.nd.toNat) hl with c | c
  · exact c
  · exfalso
    have h2 := cntB_len (rel3 n n.nd.toNat bs)
    have h3 := (rel3_sub (n := n) (k := n.nd.toNat) hl).1
    simp only [lenZ] at hl
    omega

/-! ### what is marked is reached -/
def OkB (n : Net) (v : Int) (bs : List Bool) : Prop := ∀ x, 0 ≤ x → getB bs x = true → Rc n v x
theorem rel1_ok {n : Net} {v i : Int} (hi : 0 ≤ i) : ∀ {k : Nat} {j : Int} {bs : List Bool}, 0 ≤ j → j + k ≤ lenZ bs → OkB n v bs → OkB n v (rel1 n i k j bs)
  | 0, j, bs, _, _, h => h
  | k + 1, j, bs, h0, h1, h => by
    rw [rel1]
    refine rel1_ok hi (by omega) (by simp only [lenZ, setB, List.length_set] at h1 ⊢; omega) fun x hx hb => ?_
    rw [getB_set h0 (by omega) hx] at hb
    by_cases e : x = j
    · subst e
      rw [if_pos rfl] at hb
      cases hxb : getB bs x with
      | true => exact h x hx hxb
      | false =>
        rw [hxb] at hb
        have hb : andB (getB bs i) (good n i x) = true := hb
        obtain ⟨b1, b2⟩ := andB_iff.1 hb
        exact .step (h i hi b1) b2
    · rw [if_neg e] at hb; exact h x hx hb
theorem relA_ok {n : Net} {v i : Int} (hi : 0 ≤ i) {bs : List Bool} (hl : lenZ bs = n.nd) (h : OkB n v bs) : OkB n v (relA n i bs) := by
  have h0 : 0 ≤ n.nd := by rw [← hl]; simp [lenZ]
  exact rel1_ok hi (Int.le_refl 0) (by omega) h
theorem rel2_ok {n : Net} {v : Int} : ∀ {k : Nat} {i : Int} {bs : List Bool}, 0 ≤ i → lenZ bs = n.nd → OkB n v bs → OkB n v (rel2 n k i bs)
  | 0, i, bs, _, _, h => h
  | k + 1, i, bs, h0, hl, h => by
    rw [rel2]
    exact rel2_ok (by omega) (by rw [lenZ_sub (relA_sub hl).1, hl]) (relA_ok h0 hl h)
theorem rel3_ok {n : Net} {v : Int} : ∀ {k : Nat} {bs : List Bool}, lenZ bs = n.nd → OkB n v bs → OkB n v (rel3 n k bs)
  | 0, bs, _, h => h
  | k + 1, bs, hl, h => by
    rw [rel3]
    exact rel3_ok (by rw [lenZ_sub (relB_sub hl).1, hl]) (rel2_ok (Int.le_refl 0) hl h)
end Go.Sx

set_option linter.unusedVariables false
set_option linter.unusedSimpArgs false
namespace Go.Sx
open Go

theorem mem_pick1 {n : Net} {bs : List Bool} {x : Int} : x ∈ pick1 n bs ↔ 0 ≤ x ∧ x < n.nd ∧ getB bs x = true := by
  rw [pick1, mem_gath]
  simp only [List.not_mem_nil, false_or, Int.zero_add]
  constructor
  · rintro ⟨j, a, b, c, rfl⟩; exact ⟨a, by omega, c⟩
  · rintro ⟨a, b, c⟩; exact ⟨x, a, by omega, c, rfl⟩
theorem pick1_rise {n : Net} {bs : List Bool} : Rise (pick1 n bs) := gath_rise List.Pairwise.nil (fun a j ha => by simp at ha) fun j j' _ b _ _ _ => b
theorem getB_rep {k x : Int} : getB (repL k false) x = false := by
  simp only [getB, repL, List.getD_eq_getElem?_getD, List.getElem?_replicate]
  split <;> rfl
theorem mem_rrch {n : Net} {v x : Int} (hb : rchB n v = true) : x ∈ rrch n v ↔ Rc n v x := by
  obtain ⟨hb1, hb2⟩ := andB_iff.1 hb
  have h := chk_zero.1 (eqI_iff.1 hb1)
  have hv := nodeB_iff.1 hb2
  have hnd := h.nd
  have hr : lenZ (repL n.nd false) = n.nd := by simp [lenZ, repL]; omega
  have hl : lenZ (setB (repL n.nd false) v true) = n.nd := by rw [← hr]; simp [lenZ, setB, repL]
  have hget : ∀ y, 0 ≤ y → getB (setB (repL n.nd false) v true) y = if y = v then true else false := fun y hy => by
    rw [getB_set hv.1 (by rw [hr]; exact hv.2) hy, getB_rep]
  have hvb : getB (setB (repL n.nd false) v true) v = true := by rw [hget v hv.1, if_pos rfl]
  have hcnt : 1 ≤ cntB (setB (repL n.nd false) v true) := by
    have hmem : true ∈ setB (repL n.nd false) v true := by
      have hlt : v.toNat < (setB (repL n.nd false) v true).length := by simp only [lenZ] at hl; omega
      have : (setB (repL n.nd false) v true)[v.toNat] = true := by
        have := hvb
        simp only [getB, List.getD_eq_getElem?_getD, List.getElem?_eq_getElem hlt, Option.getD_some] at this
        exact this
      have hm := List.getElem_mem hlt
      rw [this] at hm
      exact hm
    exact List.countP_pos_iff.2 ⟨true, hmem, rfl⟩
  rw [rrch, mem_pick1]
  constructor
  · rintro ⟨a, b, c⟩
    refine rel3_ok hl (fun y hy hyb => ?_) x a c
    rw [hget y hy] at hyb
    by_cases e : y = v
    · rw [e]; exact .base
    · rw [if_neg e] at hyb; cases hyb
  · intro hr
    induction hr with
    | base => exact ⟨hv.1, hv.2, (rel3_sub hl).2 v hv.1 hvb⟩
    | step h1 g ih =>
      obtain ⟨i, i1, i2, i3, i4⟩ := good_link g
      have hno := h.node i i1 i2
      exact ⟨by omega, by omega, relC_cl hl hcnt _ ih.1 ih.2.1 ih.2.2 _ (by omega) (by omega) g⟩
theorem rch_nodup {n : Net} {v : Int} (h : n.Ok) : ∀ {k : Nat} {i : Int} {acc : List Int}, acc.Nodup → (bfs n k i acc).Nodup
  | 0, i, acc, h1 => h1
  | k + 1, i, acc, h1 => by
    rw [bfs]
    cases ltI i (lenZ acc) with
    | false => exact h1
    | true => exact rch_nodup (v := v) h (addZ_nodup h1)
theorem rchL_eq {n : Net} {v : Int} (hf : few n = true) : rchL n v = rrchL n v := by
  unfold rchL rrchL
  cases hb : rchB n v with
  | false => rfl
  | true =>
    have h := chk_zero.1 (eqI_iff.1 (andB_iff.1 hb).1)
    obtain ⟨g1, g2⟩ := srt_ok (xs := rch n v) (rch_nodup (v := v) h (by simp))
    refine rise_eq g1 pick1_rise fun x => ?_
    show x ∈ srt (rch n v) ↔ x ∈ rrch n v
    rw [g2, mem_rch hf hb]
    exact (mem_rrch hb).symm
theorem sameL (xs : List Int) : andB (eqI (lenZ xs) (lenZ xs)) (notB (leI 0 (difZ xs xs))) = true := by
  have h1 : eqI (lenZ xs) (lenZ xs) = true := eqI_iff.2 rfl
  have h2 : leI 0 (difZ xs xs) = false := scan_lt0.2 fun j _ _ => by rw [neI_false]
  rw [h1, h2]; rfl
end Go.Sx

set_option linter.unusedVariables false
set_option linter.unusedSimpArgs false
namespace Go.Sx
open Go

theorem good_symm {n : Net} {a b : Int} : good n a b = good n b a := by
  refine Beq ?_
  simp only [good, andB_iff]
  exact ⟨fun ⟨a, b, c, d⟩ => ⟨b, a, d, c⟩, fun ⟨a, b, c, d⟩ => ⟨b, a, d, c⟩⟩
theorem Rc.trans {n : Net} {a b c : Int} (h : Rc n a b) (g : Rc n b c) : Rc n a c := by
  induction g with
  | base => exact h
  | step _ g ih => exact .step ih g
theorem Rc.symm {n : Net} {a b : Int} (h : Rc n a b) : Rc n b a := by
  induction h with
  | base => exact .base
  | step _ g ih => exact Rc.trans (.step .base (by rw [good_symm]; exact g)) ih
theorem good_node {n : Net} (h : n.Ok) {a b : Int} (g : good n a b = true) : (0 ≤ a ∧ a < n.nd) ∧ 0 ≤ b ∧ b < n.nd := by
  obtain ⟨i, i1, i2, i3, i4⟩ := good_link g
  have hno := h.node i i1 i2
  omega
theorem Rc.node {n : Net} (h : n.Ok) {a b : Int} (ha : 0 ≤ a ∧ a < n.nd) (g : Rc n a b) : 0 ≤ b ∧ b < n.nd := by
  induction g with
  | base => exact ha
  | step _ g _ => exact (good_node h g).2
theorem rchB_iff {n : Net} {v : Int} : rchB n v = true ↔ chk n = 0 ∧ 0 ≤ v ∧ v < n.nd := by rw [rchB, andB_iff, eqI_iff, nodeB_iff]
theorem mem_rchL {n : Net} {v x : Int} (hf : few n = true) (hb : rchB n v = true) : x ∈ rchL n v ↔ Rc n v x := by
  rw [rchL, hb]
  show x ∈ srt (rch n v) ↔ _
  have hn : (rch n v).Nodup := rch_nodup (v := v) (chk_zero.1 (rchB_iff.1 hb).1) (by simp)
  rw [(srt_ok hn).2, mem_rch hf hb]
theorem rchL_rise {n : Net} {v : Int} (hb : rchB n v = true) : Rise (rchL n v) := by
  rw [rchL, hb]
  have hn : (rch n v).Nodup := rch_nodup (v := v) (chk_zero.1 (rchB_iff.1 hb).1) (by simp)
  exact (srt_ok hn).1
theorem rise_ord {xs : List Int} (h : Rise xs) : ordB xs = true := by
  rw [ordB, eqI_iff, scan_none (Int.le_refl 0)]
  intro j h0 h1
  rw [ltI_false]
  obtain ⟨J, rfl⟩ : ∃ J : Nat, j = J := ⟨j.toNat, by omega⟩
  have hJ : J + 1 < xs.length := by omega
  have := List.pairwise_iff_getElem.1 h J (J + 1) (by omega) hJ (by omega)
  have e1 : getI xs ((J : Int) + 1) = xs[J + 1] := by
    rw [show (J : Int) + 1 = ((J + 1 : Nat) : Int) by omega]
    simp [getI, List.getD_eq_getElem?_getD, hJ]
  have e2 : getI xs (J : Int) = xs[J]'(by omega) := by simp [getI, List.getD_eq_getElem?_getD, show J < xs.length by omega]
  rw [e1, e2]; omega
theorem ord_at {xs : List Int} (h : ordB xs = true) {i : Int} (h0 : 0 < i) (h1 : i < lenZ xs) : ltI (getI xs i) (getI xs (i - 1)) = false := by
  rw [ordB, eqI_iff, scan_none (Int.le_refl 0)] at h
  have := h (i - 1) (by omega) (by simp only [lenZ] at h1; omega)
  rwa [show i - 1 + 1 = i by omega] at this
theorem mem_idx {xs : List Int} {x : Int} (h : x ∈ xs) : leI 0 (idxZ xs x) = true := idxZ_iff.2 h
theorem back_self {n : Net} {v : Int} (hf : few n = true) (hb : rchB n v = true) : v ∈ rchL n v := (mem_rchL hf hb).2 .base
theorem back_in {n : Net} {v b : Int} (hf : few n = true) (hb : rchB n v = true) (h : b ∈ rchL n v) : rchB n b = true := by
  have hc := rchB_iff.1 hb
  have hr := (mem_rchL hf hb).1 h
  have := hr.node (chk_zero.1 hc.1) hc.2
  exact rchB_iff.2 ⟨hc.1, this⟩
theorem back_eq {n : Net} {v b : Int} (hf : few n = true) (hb : rchB n v = true) (h : b ∈ rchL n v) : rchL n b = rchL n v := by
  have hbb := back_in hf hb h
  have hr := (mem_rchL hf hb).1 h
  refine rise_eq (rchL_rise hbb) (rchL_rise hb) fun x => ?_
  rw [mem_rchL hf hb, mem_rchL hf hbb]
  exact ⟨fun g => hr.trans g, fun g => hr.symm.trans g⟩
theorem mem_nx {n : Net} (hc : chk n = 0) {v x : Int} : x ∈ nx n v ↔ good n v x = true := by
  rw [nx, eqI_iff.2 hc]
  exact mem_nxs' (chk_zero.1 hc)
theorem back_next {n : Net} {v b c : Int} (hf : few n = true) (hb : rchB n v = true) (h : b ∈ rchL n v) (g : c ∈ nx n b) : c ∈ rchL n v :=
  (mem_rchL hf hb).2 (.step ((mem_rchL hf hb).1 h) ((mem_nx (rchB_iff.1 hb).1).1 g))
theorem usb_good {n : Net} (hc : chk n = 0) {i : Int} (h0 : 0 ≤ i) (h1 : i < lenZ n.ls) : usb n i = good n (n.fr i) (n.to i) := by
  rw [usb, eqI_iff.2 hc, leI_iff.2 h0, ltI_iff.2 h1]; rfl
theorem back_usb {n : Net} (hc : chk n = 0) {i : Int} (h0 : 0 ≤ i) (h1 : i < lenZ n.ls) : usb n i = leI 0 (idxZ (nx n (n.fr i)) (n.to i)) := by
  rw [usb_good hc h0 h1]
  exact Beq (by rw [idxZ_iff, mem_nx hc])
theorem idx_fnd {n : Net} (hc : chk n = 0) {a b : Int} : idx n a b = fnd n a b := by rw [idx, eqI_iff.2 hc]; rfl
theorem back_rev {n : Net} (hc : chk n = 0) {i : Int} (h0 : 0 ≤ i) (h1 : i < lenZ n.ls) (h : usb n i = true) : usb n (idx n (n.to i) (n.fr i)) = true := by
  rw [usb_good hc h0 h1] at h
  have hk : leI 0 (fnd n (n.to i) (n.fr i)) = true := by simp only [good, andB_iff] at h; exact h.2.1
  rw [idx_fnd hc]
  rcases fnd_cases n (n.to i) (n.fr i) with e | ⟨a, b, c, d⟩
  · rw [e] at hk; simp [leI] at hk
  · rw [usb_good hc a b, c, d, good_symm]; exact h
theorem getI_in {xs : List Int} {i : Int} (h0 : 0 ≤ i) (h1 : i < lenZ xs) : getI xs i ∈ xs := by
  obtain ⟨J, rfl⟩ : ∃ J : Nat, i = J := ⟨i.toNat, by omega⟩
  exact getI_mem (by simp only [lenZ] at h1; omega)
end Go.Sx

set_option linter.unusedVariables false
set_option linter.unusedSimpArgs false
namespace Go.Sx
open Go Go.Proofs

theorem notB_t : notB true = false := rfl
theorem notB_f : notB false = true := rfl
theorem andB_t {b : Bool} : andB true b = b := rfl
theorem andB_f {b : Bool} : andB false b = false := rfl
theorem orB_t {b : Bool} : orB true b = true := rfl
theorem orB_f {b : Bool} : orB false b = b := rfl
theorem iteB_t {a b : Bool} : iteB true a b = a := rfl
theorem iteB_f {a b : Bool} : iteB false a b = b := rfl
theorem impB_t {b : Bool} : impB true b = b := rfl
theorem impB_f {b : Bool} : impB false b = true := rfl
theorem scan_ff : ∀ (k : Nat) (i : Int), scan (fun _ => false) k i = -1
  | 0, _ => rfl
  | k + 1, i => by rw [scan]; exact scan_ff k (i + 1)
section
variable {Γ : Env} {π : Nms} {fn : Func} {id : Nat} {fs : List Nat} {l : List (Nat × (List AV → Option Res))} {tbl : List (Nat × LSpec)}
/-- A loop that goes through all numbers below N. -/
theorem allK {n : Nat} {ks os ks' os' : List Nat} (K : LK Γ π fn id fs l tbl) (vs : Int → List AV) (obs : List Ob) (N : Int) (hN : N ≤ 9223372036854775807) (tr : Int → Tr (Ex × St))
    (htr : ∀ x, keepT n ks' os' (evT (cxs fs) (tb l) (orcT tbl) (loopB fn id) ⟨mkS n (zip2 ks (vs x)), zip2 os obs, []⟩) = tr x) {r : LRes}
    (hend : ∀ i, 0 ≤ i → ltI i N = false → ∃ e st1, (tr i).sel = some (e, st1) ∧ AllT st1.ok ∧ outE id e = some r.e ∧ Fits st1 (mkS n r.sl) r.ob)
    (hstep : ∀ i, 0 ≤ i → ltI i N = true → ∃ st1, (tr i).sel = some (.normal, st1) ∧ AllT st1.ok ∧ Fits st1 (mkS n (zip2 ks (vs (addI .i64 i 1)))) (zip2 os obs))
    {ok ok' : List Bool} (hok : AllT ok' → AllT ok) (hT : AllT ok') :
    Leads Try.prog Γ π (.block id (.loop (loopB fn id))) ⟨mkS n (zip2 ks (vs 0)), zip2 os obs, ok⟩ r.e ⟨mkS n r.sl, r.ob, ok'⟩ :=
  scanK K vs obs (fun _ => false) N 0 (Int.le_refl 0) hN (fun _ => r) r tr htr hend (fun _ _ _ c => by cases c) (fun i h0 h1 _ => hstep i h0 h1) (by rw [scan_ff]; rfl) hok hT
end
end Go.Sx

set_option linter.unusedVariables false
set_option linter.unusedSimpArgs false
namespace Go.Sx
open Go Go.RowKit Go.Proofs

/-- what a says, b says too -/
def Les (a b : AV) : Prop := ∀ M w v F, RB M w a v F → RB M w b v F
def LesL : List AV → List AV → Prop
  | [], [] => True
  | a :: l, b :: m => Les a b ∧ LesL l m
  | _, _ => False
def LesT (a b : AV) : Prop := ∀ M w v F, RBT M w a v F → RBT M w b v F
theorem Les.refl (a : AV) : Les a a := fun _ _ _ _ h => h
theorem LesT.refl (a : AV) : LesT a a := fun _ _ _ _ h => h
theorem LesL.refl : ∀ l, LesL l l
  | [] => trivial
  | a :: l => ⟨Les.refl a, LesL.refl l⟩
theorem LesL.rbl : ∀ {l m : List AV} {M : Frz} {w : World} {vs : List Value} {F : List Nat}, LesL l m → RBL M w l vs F → RBL M w m vs F
  | [], [], M, w, vs, F, _, h => h
  | a :: l, b :: m, M, w, vs, F, g, h => by
    simp only [RBL] at h ⊢
    obtain ⟨v, vs', F1, F2, rfl, rfl, h1, h2⟩ := h
    exact ⟨v, vs', F1, F2, rfl, rfl, g.1 _ _ _ _ h1, g.2.rbl h2⟩
/-- A contract, from one whose arguments say less and whose result says more. -/
theorem FnOK.conv {P : Program} {f : Nat} {F G : List AV → Option Res} (h : FnOK P f F)
    (hg : ∀ bs r, G bs = some r → AllT r.obl → ∃ bs' r', F bs' = some r' ∧ AllT r'.obl ∧ LesL bs bs' ∧ LesT r'.val r.val ∧ r'.outs = r.outs) : FnOK P f G := by
  intro bs r hr ho w M vs Fp hM hv hn hFm
  obtain ⟨bs', r', q1, q2, q3, q4, q5⟩ := hg bs r hr ho
  refine (h _ r' q1 q2 w M _ _ hM (q3.rbl hv) hn hFm).mono fun e w2 he => ?_
  cases e with
  | returned v =>
    obtain ⟨M', F1, F2, a1, a2, a3, a4, a5, a6⟩ := he
    exact ⟨M', F1, F2, a1, a2, a3, q4 _ _ _ _ a4, by rw [← q5]; exact a5, a6⟩
  | _ => exact he
/-- A function of one list: what it does at a nil one and at one that is not, it does at one of which that is not known. -/
theorem FnOK.open1 {P : Program} {f : Nat} {F G : List AV → Option Res} (h : FnOK P f F)
    (hg : ∀ bs r, G bs = some r → AllT r.obl → ∃ nk d, bs = [.sl nk d] ∧ ∀ b, (b = false → d.lenN = 0) → ∃ r', F [.sl (some b) d] = some r' ∧ AllT r'.obl ∧ LesT r'.val r.val ∧ r'.outs = r.outs) : FnOK P f G := by
  intro bs r hr ho w M vs Fp hM hv hn hFm
  obtain ⟨nk, d, rfl, hb⟩ := hg bs r hr ho
  simp only [RBL] at hv
  obtain ⟨v, vs', F1, F2, rfl, rfl, h1, rfl, rfl⟩ := hv
  simp only [RB, R] at h1
  obtain ⟨⟨base, cap, rfl, h2, h3⟩, rfl⟩ := h1
  obtain ⟨r', q1, q2, q3, q4⟩ := hb base.isSome (fun hb => by
    rcases h3 with h3 | ⟨b, o, rfl, _⟩
    · exact h3
    · cases hb)
  refine (h _ r' q1 q2 w M _ _ hM (by
    simp only [RBL]
    exact ⟨_, _, [], [], rfl, rfl, by simp only [RB, R]; exact ⟨⟨base, cap, rfl, fun b hb => (by cases hb; rfl), h3⟩, trivial⟩, rfl, rfl⟩) hn hFm).mono fun e w2 he => ?_
  cases e with
  | returned v =>
    obtain ⟨M', F1, F2, a1, a2, a3, a4, a5, a6⟩ := he
    exact ⟨M', F1, F2, a1, a2, a3, q3 _ _ _ _ a4, by rw [← q4]; exact a5, a6⟩
  | _ => exact he

theorem eqI_rfl {x : Int} : eqI x x = true := by simp [eqI]
theorem eqLI_rfl {x : List Int} : eqLI x x = true := by simp [eqLI]
theorem eqRs_rfl {x : List (List Int)} : eqRs x x = true := by simp [eqRs]
theorem eqBs_rfl {x : List Bool} : eqBs x x = true := by simp [eqBs]
theorem iteB_rfl {x : Bool} : iteB x x (notB x) = true := by cases x <;> rfl
theorem AllT_true {l : List Bool} : AllT (true :: l) ↔ AllT l := by simp [AllT_cons]
/-! ### parts -/
theorem RSl.open {M : Frz} {nk : Option Bool} {d : SC} {v : Value} (h : RSl M nk d v) : RSl M none d v := by
  obtain ⟨base, cap, rfl, _, h3⟩ := h
  exact ⟨base, cap, rfl, fun b h => (by cases h), h3⟩
theorem RBsl.open {M : Frz} {w : World} {nk : Option Bool} {d : SC} {v : Value} {F : List Nat} (h : RBsl M w nk d v F) : RBsl M w none d v F := by
  obtain ⟨base, cap, rfl, _, h3⟩ := h
  exact ⟨base, cap, rfl, fun b h => (by cases h), h3⟩
/-- parts that say less -/
def LesC (a b : AV) : Prop := ∀ M w v F, RBc M w a v F → RBc M w b v F
def LesCL : List AV → List AV → Prop
  | [], [] => True
  | a :: l, b :: m => LesC a b ∧ LesCL l m
  | _, _ => False
theorem LesC.refl (a : AV) : LesC a a := fun _ _ _ _ h => h
theorem LesC.sl (nk : Option Bool) (d : SC) : LesC (.sl nk d) (.sl none d) := fun M w v F h => by simp only [RBc, R] at h ⊢; exact ⟨h.1.open, h.2⟩
theorem LesC.osl (nk : Option Bool) (d : SC) : LesC (.osl nk d) (.osl none d) := fun M w v F h => by simp only [RBc] at h ⊢; exact h.open
theorem LesC.nils {d : SC} (hd : d.lenN = 0) : LesC .nils (.osl none d) := fun M w v F h => by
  simp only [RBc, R] at h ⊢
  obtain ⟨rfl, rfl⟩ := h
  exact ⟨none, 0, (by rw [hd]), fun b h => (by cases h), .inr ⟨rfl, hd, rfl, rfl⟩⟩
theorem LesC.nilb {d : SC} (hd : d.lenN = 0) : LesC .nils (.sl none d) := fun M w v F h => by
  simp only [RBc, R] at h ⊢
  obtain ⟨rfl, rfl⟩ := h
  exact ⟨⟨none, 0, (by rw [hd]), fun b h => (by cases h), .inl hd⟩, rfl⟩
theorem LesCL.rbcs : ∀ {l m : List AV} {M : Frz} {w : World} {vs : List Value} {F : List Nat}, LesCL l m → RBcs M w l vs F → RBcs M w m vs F
  | [], [], M, w, vs, F, _, h => h
  | a :: l, b :: m, M, w, vs, F, g, h => by
    simp only [RBcs] at h ⊢
    obtain ⟨v, vs', F1, F2, rfl, rfl, h1, h2⟩ := h
    exact ⟨v, vs', F1, F2, rfl, rfl, g.1 _ _ _ _ h1, g.2.rbcs h2⟩
theorem LesCL.agg {l m : List AV} (h : LesCL l m) : Les (.agg l) (.agg m) := fun M w v F hv => by
  simp only [RB] at hv ⊢
  obtain ⟨vs, rfl, hv⟩ := hv
  exact ⟨vs, rfl, h.rbcs hv⟩
theorem Les.toT {a b : AV} (h : Les a b) (ha : (∀ cs, a ≠ .tup cs) ∧ ∀ cs, b ≠ .tup cs) : LesT a b := fun M w v F hv => by
  have e1 : RBT M w a v F = RB M w a v F := by cases a <;> first | rfl | exact absurd rfl (ha.1 _)
  have e2 : RBT M w b v F = RB M w b v F := by cases b <;> first | rfl | exact absurd rfl (ha.2 _)
  rw [e2]; rw [e1] at hv; exact h _ _ _ _ hv
theorem LesT.tup {l m : List AV} (h : LesL l m) : LesT (.tup l) (.tup m) := fun M w v F hv => by
  simp only [RBT] at hv ⊢
  obtain ⟨vs, rfl, hv⟩ := hv
  exact ⟨vs, rfl, h.rbl hv⟩
theorem Les.net (n : Net) (k1 k2 k3 : Option Bool) : Les (n.av k1 k2 k3) (n.av none none none) :=
  LesCL.agg ⟨LesC.refl _, LesC.sl _ _, LesC.refl _, LesC.refl _, LesC.sl _ _, LesC.sl _ _, trivial⟩
theorem Les.onet (n : Net) (k1 k2 k3 : Option Bool) : Les (n.oav k1 k2 k3) (n.oav none none none) :=
  LesCL.agg ⟨LesC.refl _, LesC.osl _ _, LesC.refl _, LesC.refl _, LesC.osl _ _, LesC.osl _ _, trivial⟩
theorem LesT.osl (nk : Option Bool) (d : SC) : LesT (.osl nk d) (.osl none d) := fun M w v F hv => by simp only [RBT, RB] at hv ⊢; exact hv.open

theorem netN_inv {cs : List AV} {n : Net} (h : netN cs = some n) : cs = n.cells none none none := by
  unfold netN at h
  split at h
  · rename_i nd pw ns th w ls mg
    cases hb : Nat.beq w 3 <;> rw [hb] at h <;> simp only [cond_true, cond_false, reduceCtorEq, Option.some.injEq] at h
    subst h
    have := beqT.1 hb
    subst this
    rfl
  · cases h
theorem on1n_inv {f : Net → Option Res} {bs : List AV} {r : Res} (h : on1n f bs = some r) : ∃ n, bs = [n.av none none none] ∧ f n = some r := by
  unfold on1n at h
  split at h
  · split at h
    · rename_i n hn
      rw [netN_inv hn]
      exact ⟨n, rfl, h⟩
    · cases h
  · cases h
theorem on3n_inv {f : Net → Int → Int → Option Res} {bs : List AV} {r : Res} (h : on3n f bs = some r) : ∃ n x y, bs = [n.av none none none, .int .i64 x, .int .i64 y] ∧ f n x y = some r := by
  unfold on3n at h
  split at h
  · split at h
    · rename_i n hn
      rw [netN_inv hn]
      exact ⟨n, _, _, rfl, h⟩
    · cases h
  · cases h
theorem on4n_inv {f : Net → Int → Int → Int → Option Res} {bs : List AV} {r : Res} (h : on4n f bs = some r) : ∃ n x y z, bs = [n.av none none none, .int .i64 x, .int .i64 y, .int .i64 z] ∧ f n x y z = some r := by
  unfold on4n at h
  split at h
  · split at h
    · rename_i n hn
      rw [netN_inv hn]
      exact ⟨n, _, _, _, rfl, h⟩
    · cases h
  · cases h
theorem on4_inv {f : Net → Int → Int → Int → Option Res} {bs : List AV} {r : Res} (h : on4 f bs = some r) : ∃ n k1 k2 k3 x y z, bs = [n.av k1 k2 k3, .int .i64 x, .int .i64 y, .int .i64 z] ∧ f n x y z = some r := by
  unfold on4 at h
  split at h
  · split at h
    · rename_i n hn
      obtain ⟨k1, k2, k3, rfl⟩ := netA_inv hn
      exact ⟨n, k1, k2, k3, _, _, _, rfl, h⟩
    · cases h
  · cases h
theorem netN_cells (n : Net) : netN (n.cells none none none) = some n := rfl
theorem FnOK.net1 {P : Program} {f : Nat} {a : Net → Option Res} (h : FnOK P f (on1n a)) : FnOK P f (on1 a) :=
  h.conv fun bs r hr ho => by
    obtain ⟨n, k1, k2, k3, rfl, hr⟩ := on1_inv hr
    exact ⟨[n.av Option.none Option.none Option.none], r, hr, ho, ⟨Les.net _ _ _ _, trivial⟩, LesT.refl _, rfl⟩
theorem FnOK.net3 {P : Program} {f : Nat} {a : Net → Int → Int → Option Res} (h : FnOK P f (on3n a)) : FnOK P f (on3 a) :=
  h.conv fun bs r hr ho => by
    obtain ⟨n, k1, k2, k3, x, y, rfl, hr⟩ := on3_inv hr
    exact ⟨[n.av Option.none Option.none Option.none, .int .i64 x, .int .i64 y], r, hr, ho, ⟨Les.net _ _ _ _, Les.refl _, Les.refl _, trivial⟩, LesT.refl _, rfl⟩
theorem FnOK.net4 {P : Program} {f : Nat} {a : Net → Int → Int → Int → Option Res} (h : FnOK P f (on4n a)) : FnOK P f (on4 a) :=
  h.conv fun bs r hr ho => by
    obtain ⟨n, k1, k2, k3, x, y, z, rfl, hr⟩ := on4_inv hr
    exact ⟨[n.av Option.none Option.none Option.none, .int .i64 x, .int .i64 y, .int .i64 z], r, hr, ho, ⟨Les.net _ _ _ _, Les.refl _, Les.refl _, Les.refl _, trivial⟩, LesT.refl _, rfl⟩
/-- A function's contract at this seat, from the tree of its ways; of the result less may be said. -/
theorem fnKw {l : List (Nat × (List AV → Option Res))} (hl : TbOK Try.prog l) {fs : List Nat} (hs : subN fs fsL = true) {tbl : List (Nat × LSpec)} {f : Nat} {fn : Func} (hf : Try.prog.funcs[f]? = some fn) (hb : fn.body.isSome = true)
    (hn : nodupN ((allLoops (bodyOf fn)).map Prod.fst) = true) (hL : ∀ Γ π, LoopsOK Γ π fn tbl) {Ff : List AV → Option Res}
    (hrun : ∀ bs r, Ff bs = some r → AllT r.obl → bs.length ≤ 500 ∧ ∃ r', (evFT (cxs fs) (tb l) (orcT tbl) f fn bs).sel = some r' ∧ AllT r'.obl ∧ LesT r'.val r.val ∧ r'.outs = r.outs) : FnOK Try.prog f Ff := by
  have h' : FnOK Try.prog f (fun bs => if bs.length ≤ 500 then (evFT (cxs fs) (tb l) (orcT tbl) f fn bs).sel else Option.none) :=
    fnK hl hs hf hb hn hL fun bs r hr ho => by
      by_cases hlen : bs.length ≤ 500
      · simp only [if_pos hlen] at hr; exact ⟨hlen, r, hr, ho, rfl, rfl⟩
      · simp only [if_neg hlen, reduceCtorEq] at hr
  exact h'.conv fun bs r hr ho => by
    obtain ⟨hlen, r', a, b, c, d⟩ := hrun bs r hr ho
    exact ⟨bs, r', by simp only [if_pos hlen]; exact a, b, LesL.refl _, c, d⟩
theorem LesT.net {cs ds : List AV} (h : LesCL cs ds) (e : AV) : LesT (.tup [.agg cs, e]) (.tup [.agg ds, e]) := LesT.tup ⟨LesCL.agg h, Les.refl _, trivial⟩
end Go.Sx

set_option linter.unusedVariables false
set_option linter.unusedSimpArgs false
namespace Go.Sx
open Go

/-- a link with its margin -/
def HasL (n : Net) (a b x : Int) : Prop := ∃ i, 0 ≤ i ∧ i < lenZ n.ls ∧ n.fr i = a ∧ n.to i = b ∧ getI n.mg i = x
theorem HasL.fnd {n : Net} (h : n.Ok) {a b x : Int} (g : HasL n a b x) : 0 ≤ fnd n a b ∧ getI n.mg (fnd n a b) = x := by
  obtain ⟨i, h0, h1, rfl, rfl, rfl⟩ := g
  rw [h.fnd_eq h0 h1]
  exact ⟨h0, rfl⟩
theorem hasL_fnd {n : Net} {a b : Int} (g : 0 ≤ fnd n a b) : HasL n a b (getI n.mg (fnd n a b)) := by
  rcases fnd_cases n a b with e | ⟨h0, h1, h2, h3⟩
  · omega
  · exact ⟨_, h0, h1, h2, h3, rfl⟩
theorem good_iff {n : Net} (h : n.Ok) {a b : Int} : good n a b = true ↔ ∃ x y, HasL n a b x ∧ HasL n b a y ∧ heard n x 0 = true ∧ heard n y 0 = true := by
  simp only [good, andB_iff, leI_iff]
  constructor
  · rintro ⟨h1, h2, h3, h4⟩
    exact ⟨_, _, hasL_fnd h1, hasL_fnd h2, h3, h4⟩
  · rintro ⟨x, y, h1, h2, h3, h4⟩
    obtain ⟨a1, a2⟩ := h1.fnd h
    obtain ⟨b1, b2⟩ := h2.fnd h
    exact ⟨a1, b1, by rw [a2]; exact h3, by rw [b2]; exact h4⟩
theorem fnd_has {n : Net} (h : n.Ok) {a b : Int} : 0 ≤ fnd n a b ↔ ∃ x, HasL n a b x := ⟨fun g => ⟨_, hasL_fnd g⟩, fun ⟨x, g⟩ => (g.fnd h).1⟩

/-! ### without a link -/
def sh (i j : Int) : Int := if j < i then j else j + 1
theorem getL_del {xs : List (List Int)} {i j : Int} (h0 : 0 ≤ i) (hj : 0 ≤ j) (hi : i < lenZ xs) : getL (delS xs i) j = getL xs (sh i j) := by
  simp only [getL, delS, sh, List.getD_eq_getElem?_getD]
  have hi' : i.toNat < xs.length := by simp only [lenZ] at hi; omega
  split
  · rename_i c
    rw [List.getElem?_append_left (by simp; omega), List.getElem?_take, if_pos (by omega)]
  · rename_i c
    rw [List.getElem?_append_right (by simp; omega), List.getElem?_drop]
    congr 2
    simp only [List.length_take]
    omega
theorem getI_del {xs : List Int} {i j : Int} (h0 : 0 ≤ i) (hj : 0 ≤ j) (hi : i < lenZ xs) : getI (delS xs i) j = getI xs (sh i j) := by
  simp only [getI, delS, sh, List.getD_eq_getElem?_getD]
  have hi' : i.toNat < xs.length := by simp only [lenZ] at hi; omega
  split
  · rename_i c
    rw [List.getElem?_append_left (by simp; omega), List.getElem?_take, if_pos (by omega)]
  · rename_i c
    rw [List.getElem?_append_right (by simp; omega), List.getElem?_drop]
    congr 2
    simp only [List.length_take]
    omega
theorem delS_len {α : Type} {xs : List α} {i : Int} (h0 : 0 ≤ i) (hi : i < lenZ xs) : lenZ (delS xs i) = lenZ xs - 1 := by
  simp only [lenZ, delS, List.length_append, List.length_take, List.length_drop] at hi ⊢; omega
/-- the network without the link at a place -/
def Net.del (n : Net) (i : Int) : Net := ⟨n.nd, n.pw, n.ns, n.th, delS n.ls i, delS n.mg i⟩
theorem woN_del {n : Net} (hc : chk n = 0) {f t : Int} (h : 0 ≤ fnd n f t) : woN n f t = n.del (fnd n f t) := by
  rw [woN, eqI_iff.2 hc, leI_iff.2 h]; rfl
section
variable {n : Net} {i : Int}
theorem del_fr (h0 : 0 ≤ i) (hi : i < lenZ n.ls) {j : Int} (hj : 0 ≤ j) : (n.del i).fr j = n.fr (sh i j) := by simp only [Net.fr, Net.del, getL_del h0 hj hi]
theorem del_to (h0 : 0 ≤ i) (hi : i < lenZ n.ls) {j : Int} (hj : 0 ≤ j) : (n.del i).to j = n.to (sh i j) := by simp only [Net.to, Net.del, getL_del h0 hj hi]
theorem del_lo (h0 : 0 ≤ i) (hi : i < lenZ n.ls) {j : Int} (hj : 0 ≤ j) : (n.del i).lo j = n.lo (sh i j) := by simp only [Net.lo, Net.del, getL_del h0 hj hi]
theorem del_mg (h : n.Ok) (h0 : 0 ≤ i) (hi : i < lenZ n.ls) {j : Int} (hj : 0 ≤ j) : getI (n.del i).mg j = getI n.mg (sh i j) := getI_del h0 hj (by rw [h.mg]; exact hi)
theorem del_ok (h : n.Ok) (h0 : 0 ≤ i) (hi : i < lenZ n.ls) : (n.del i).Ok := by
  have hl : lenZ (n.del i).ls = lenZ n.ls - 1 := delS_len h0 hi
  have hm : lenZ (n.del i).mg = lenZ n.mg - 1 := delS_len h0 (by rw [h.mg]; exact hi)
  have hmg := h.mg
  have hll := h.ll
  refine ⟨h.nd, h.pw, h.row, h.pow, h.ns, h.th, by omega, by omega, fun j j0 j1 => ?_, fun j j0 j1 => ?_, fun j j0 j1 => ?_⟩
  · rw [del_fr h0 hi j0, del_to h0 hi j0, del_lo h0 hi j0]
    exact h.node (sh i j) (by unfold sh; split <;> omega) (by unfold sh; split <;> omega)
  · rw [del_fr h0 hi (show 0 ≤ j by omega), del_to h0 hi (show 0 ≤ j by omega), del_fr h0 hi (show 0 ≤ j - 1 by omega), del_to h0 hi (show 0 ≤ j - 1 by omega)]
    exact h.lexj (i := sh i (j - 1)) (j := sh i j) (by unfold sh; split <;> omega) (by unfold sh; split <;> split <;> omega) (by unfold sh; split <;> omega)
  · rw [del_fr h0 hi j0, del_to h0 hi j0, del_mg h h0 hi j0]
    exact h.mar (sh i j) (by unfold sh; split <;> omega) (by unfold sh; split <;> omega)
theorem has_del (h : n.Ok) (h0 : 0 ≤ i) (hi : i < lenZ n.ls) {a b x : Int} : HasL (n.del i) a b x ↔ HasL n a b x ∧ ¬ (a = n.fr i ∧ b = n.to i) := by
  have hl : lenZ (n.del i).ls = lenZ n.ls - 1 := delS_len h0 hi
  constructor
  · rintro ⟨j, j0, j1, rfl, rfl, rfl⟩
    rw [del_fr h0 hi j0, del_to h0 hi j0, del_mg h h0 hi j0]
    have hs0 : 0 ≤ sh i j := by unfold sh; split <;> omega
    have hs1 : sh i j < lenZ n.ls := by unfold sh; split <;> omega
    have hs2 : sh i j ≠ i := by unfold sh; split <;> omega
    exact ⟨⟨_, hs0, hs1, rfl, rfl, rfl⟩, fun c => hs2 (h.uniq hs0 hs1 h0 hi c.1 c.2)⟩
  · rintro ⟨⟨j, j0, j1, rfl, rfl, rfl⟩, hne⟩
    have hji : j ≠ i := fun c => hne (by rw [c]; exact ⟨rfl, rfl⟩)
    have hk : ∃ k, 0 ≤ k ∧ k < lenZ n.ls - 1 ∧ sh i k = j := by
      by_cases c : j < i
      · exact ⟨j, j0, by omega, by unfold sh; rw [if_pos c]⟩
      · exact ⟨j - 1, by omega, by omega, by unfold sh; rw [if_neg (by omega)]; omega⟩
    obtain ⟨k, k0, k1, rfl⟩ := hk
    exact ⟨k, k0, by omega, del_fr h0 hi k0, del_to h0 hi k0, del_mg h h0 hi k0⟩
theorem del_heard {s d : Int} : heard (n.del i) s d = heard n s d := rfl
theorem del_good (h : n.Ok) (h0 : 0 ≤ i) (hi : i < lenZ n.ls) {a b : Int} :
    good (n.del i) a b = true ↔ good n a b = true ∧ ¬ (a = n.fr i ∧ b = n.to i) ∧ ¬ (b = n.fr i ∧ a = n.to i) := by
  rw [good_iff (del_ok h h0 hi), good_iff h]
  constructor
  · rintro ⟨x, y, h1, h2, h3, h4⟩
    rw [has_del h h0 hi] at h1 h2
    exact ⟨⟨x, y, h1.1, h2.1, h3, h4⟩, h1.2, h2.2⟩
  · rintro ⟨⟨x, y, h1, h2, h3, h4⟩, h5, h6⟩
    exact ⟨x, y, (has_del h h0 hi).2 ⟨h1, h5⟩, (has_del h h0 hi).2 ⟨h2, h6⟩, h3, h4⟩
theorem del_fnd (h : n.Ok) (h0 : 0 ≤ i) (hi : i < lenZ n.ls) : fnd (n.del i) (n.fr i) (n.to i) = -1 := by
  rcases fnd_cases (n.del i) (n.fr i) (n.to i) with e | ⟨a, _⟩
  · exact e
  · obtain ⟨x, hx⟩ := (fnd_has (del_ok h h0 hi)).1 a
    exact absurd ⟨rfl, rfl⟩ ((has_del h h0 hi).1 hx).2
theorem del_few (hf : few n = true) : few (n.del i) = true := by
  obtain ⟨h1, h2, h3, h4⟩ := few_iff.1 hf
  refine few_iff.2 ⟨h1, h2, ?_, ?_⟩
  · simp only [Net.del, lenZ, delS, List.length_append, List.length_take, List.length_drop] at h3 ⊢; omega
  · simp only [Net.del, lenZ, delS, List.length_append, List.length_take, List.length_drop] at h4 ⊢; omega
theorem del_chk (hc : chk n = 0) (h0 : 0 ≤ i) (hi : i < lenZ n.ls) : chk (n.del i) = 0 := chk_zero.2 (del_ok (chk_zero.1 hc) h0 hi)
theorem usb_idx {m : Net} (hc : chk m = 0) {a b : Int} : usb m (idx m a b) = good m a b := by
  rw [idx_fnd hc]
  rcases fnd_cases m a b with e | ⟨h0, h1, h2, h3⟩
  · rw [e]
    have : good m a b = false := by
      cases hg : good m a b with
      | false => rfl
      | true => simp only [good, andB_iff, leI_iff] at hg; omega
    rw [this]
    unfold usb
    rw [eqI_iff.2 hc]; rfl
  · rw [usb_good hc h0 h1, h2, h3]
theorem del_rev (hc : chk n = 0) (h0 : 0 ≤ i) (hi : i < lenZ n.ls) : usb (n.del i) (idx (n.del i) (n.to i) (n.fr i)) = false := by
  rw [usb_idx (del_chk hc h0 hi)]
  cases hg : good (n.del i) (n.to i) (n.fr i) with
  | false => rfl
  | true => exact absurd ⟨rfl, rfl⟩ ((del_good (chk_zero.1 hc) h0 hi).1 hg).2.2
theorem del_rc (hc : chk n = 0) (h0 : 0 ≤ i) (hi : i < lenZ n.ls) {a b : Int} (g : Rc (n.del i) a b) : Rc n a b := by
  induction g with
  | base => exact .base
  | step _ g ih => exact .step ih ((del_good (chk_zero.1 hc) h0 hi).1 g).1
theorem del_rchB (hc : chk n = 0) (h0 : 0 ≤ i) (hi : i < lenZ n.ls) {a : Int} : rchB (n.del i) a = rchB n a := by
  refine Beq ?_
  rw [rchB_iff, rchB_iff]
  exact ⟨fun h => ⟨hc, h.2⟩, fun h => ⟨del_chk hc h0 hi, h.2⟩⟩
theorem del_sub (hf : few n = true) (hc : chk n = 0) (h0 : 0 ≤ i) (hi : i < lenZ n.ls) {a b : Int} (h : b ∈ rchL (n.del i) a) : b ∈ rchL n a := by
  cases hb : rchB n a with
  | false =>
    have : rchB (n.del i) a = false := by rw [del_rchB hc h0 hi, hb]
    rw [rchL, this] at h
    exact absurd h (by simp)
  | true =>
    have hb' : rchB (n.del i) a = true := by rw [del_rchB hc h0 hi, hb]
    exact (mem_rchL hf hb).2 (del_rc hc h0 hi ((mem_rchL (del_few hf) hb').1 h))
theorem del_other (hc : chk n = 0) (h0 : 0 ≤ i) (hi : i < lenZ n.ls) {k : Int} (k0 : 0 ≤ k) (k1 : k < lenZ n.ls) (hk : k ≠ i) (hr : ¬ (n.fr k = n.to i ∧ n.to k = n.fr i)) :
    usb (n.del i) (idx (n.del i) (n.fr k) (n.to k)) = usb n k := by
  have h := chk_zero.1 hc
  rw [usb_idx (del_chk hc h0 hi), usb_good hc k0 k1]
  refine Beq ?_
  rw [del_good h h0 hi]
  exact ⟨fun g => g.1, fun g => ⟨g, fun c => hk (h.uniq k0 k1 h0 hi c.1 c.2), fun c => hr ⟨c.2, c.1⟩⟩⟩

/-! ### with a weaker link -/
def Net.wk (n : Net) (i m : Int) : Net := ⟨n.nd, n.pw, n.ns, n.th, addL n.ls i m, n.mg⟩
theorem weN_wk (hc : chk n = 0) {f t m : Int} (h : 0 ≤ fnd n f t) (hw : weOk n f t m = true) : weN n f t m = n.wk (fnd n f t) m := by
  rw [weN, eqI_iff.2 hc, leI_iff.2 h, hw]; rfl
theorem addL_len {xs : List (List Int)} {m : Int} : lenZ (addL xs i m) = lenZ xs := by simp [lenZ, addL, setL]
theorem wk_get (h0 : 0 ≤ i) (hi : i < lenZ n.ls) {m j : Int} (hj : 0 ≤ j) : getL (n.wk i m).ls j = if j = i then setN 3 (getL n.ls i) 2 (getN (getL n.ls i) 2 + m) else getL n.ls j := by
  have hi' : i.toNat < n.ls.length := by simp only [lenZ] at hi; omega
  simp only [Net.wk, addL, getL, setL, List.getD_eq_getElem?_getD]
  by_cases c : j = i
  · subst c
    rw [if_pos rfl, List.getElem?_set_self (by simpa using hi')]
    rfl
  · rw [if_neg c, List.getElem?_set_ne (by omega)]
theorem wk_fr (h0 : 0 ≤ i) (hi : i < lenZ n.ls) {m j : Int} (hj : 0 ≤ j) : (n.wk i m).fr j = n.fr j := by
  simp only [Net.fr, wk_get h0 hi hj]
  by_cases c : j = i
  · subst c; rw [if_pos rfl]; simp [getN, setN, List.getD_eq_getElem?_getD]
  · rw [if_neg c]
theorem wk_to (h0 : 0 ≤ i) (hi : i < lenZ n.ls) {m j : Int} (hj : 0 ≤ j) : (n.wk i m).to j = n.to j := by
  simp only [Net.to, wk_get h0 hi hj]
  by_cases c : j = i
  · subst c; rw [if_pos rfl]; simp [getN, setN, List.getD_eq_getElem?_getD]
  · rw [if_neg c]
theorem wk_lo (h0 : 0 ≤ i) (hi : i < lenZ n.ls) {m j : Int} (hj : 0 ≤ j) : (n.wk i m).lo j = if j = i then n.lo i + m else n.lo j := by
  simp only [Net.lo, wk_get h0 hi hj]
  by_cases c : j = i
  · subst c; rw [if_pos rfl, if_pos rfl]; simp [getN, setN, List.getD_eq_getElem?_getD]
  · rw [if_neg c, if_neg c]
theorem wk_ok (h : n.Ok) (h0 : 0 ≤ i) (hi : i < lenZ n.ls) {m : Int} (hm : 0 ≤ m) (hm2 : m ≤ 7 - n.lo i) : (n.wk i m).Ok := by
  have hl : lenZ (n.wk i m).ls = lenZ n.ls := addL_len
  refine ⟨h.nd, h.pw, h.row, h.pow, h.ns, h.th, by rw [hl]; exact h.ll, by rw [hl]; exact h.mg, fun j j0 j1 => ?_, fun j j0 j1 => ?_, fun j j0 j1 => ?_⟩
  · rw [wk_fr h0 hi j0, wk_to h0 hi j0, wk_lo h0 hi j0]
    have hj := h.node j j0 (by omega)
    have hi2 := h.node i h0 hi
    refine ⟨hj.1, hj.2.1, hj.2.2.1, hj.2.2.2.1, hj.2.2.2.2.1, ?_⟩
    split <;> omega
  · rw [wk_fr h0 hi (show 0 ≤ j by omega), wk_to h0 hi (show 0 ≤ j by omega), wk_fr h0 hi (show 0 ≤ j - 1 by omega), wk_to h0 hi (show 0 ≤ j - 1 by omega)]
    exact h.ord j j0 (by omega)
  · rw [wk_fr h0 hi j0, wk_to h0 hi j0]
    exact h.mar j j0 (by omega)
theorem wk_has (h0 : 0 ≤ i) (hi : i < lenZ n.ls) {m a b x : Int} : HasL (n.wk i m) a b x ↔ HasL n a b x := by
  have hl : lenZ (n.wk i m).ls = lenZ n.ls := addL_len
  constructor
  · rintro ⟨j, j0, j1, rfl, rfl, rfl⟩
    exact ⟨j, j0, by omega, (wk_fr h0 hi j0).symm, (wk_to h0 hi j0).symm, rfl⟩
  · rintro ⟨j, j0, j1, rfl, rfl, rfl⟩
    exact ⟨j, j0, by omega, wk_fr h0 hi j0, wk_to h0 hi j0, rfl⟩
theorem wk_good (h : n.Ok) (h0 : 0 ≤ i) (hi : i < lenZ n.ls) {m : Int} (hm : 0 ≤ m) (hm2 : m ≤ 7 - n.lo i) {a b : Int} : good (n.wk i m) a b = good n a b := by
  refine Beq ?_
  rw [good_iff (wk_ok h h0 hi hm hm2), good_iff h]
  simp only [wk_has h0 hi]
  exact Iff.rfl
theorem wk_usb (hc : chk n = 0) (h0 : 0 ≤ i) (hi : i < lenZ n.ls) {m : Int} (hm : 0 ≤ m) (hm2 : m ≤ 7 - n.lo i) : usb (n.wk i m) i = usb n i := by
  have hl : lenZ (n.wk i m).ls = lenZ n.ls := addL_len
  have h := chk_zero.1 hc
  rw [usb_good (chk_zero.2 (wk_ok h h0 hi hm hm2)) h0 (by omega), usb_good hc h0 hi, wk_fr h0 hi h0, wk_to h0 hi h0, wk_good h h0 hi hm hm2]
theorem wk_few {m : Int} (hf : few n = true) : few (n.wk i m) = true := by
  obtain ⟨h1, h2, h3, h4⟩ := few_iff.1 hf
  exact few_iff.2 ⟨h1, h2, by rw [show lenZ (n.wk i m).ls = lenZ n.ls from addL_len]; exact h3, h4⟩
end
end Go.Sx

set_option linter.unusedVariables false
namespace Go.Sx
open Go Go.Proofs
/-- what no table answers -/
def noF : Fns := fun _ _ => none
theorem noF_ok {P : Program} : ∀ f, FnOK P f (noF f) := fun f bs r h => by cases h
theorem run_awake31 : runF cx noF (asc fnT) 100 10 17 [] = some ⟨[], .bool true, []⟩ := by kernel_rfl
theorem ok17 : FnOK Try.prog 17 s17 := by
  intro bs r h ho
  cases bs with
  | cons a l => cases h
  | nil =>
    cases h
    exact runF_ok cx_ok mixed (fun f _ => noF_ok f) fnT_ok 100 10 17 (memN_iff.1 (by kernel_rfl)) [] _ run_awake31 ho
end Go.Sx
