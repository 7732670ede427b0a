/-
  The walks: package network and its reference, part 3: the reference's check. No condition beyond those that each theorem names.
-/
import Derived.Test.YtncjcjaphddlgaaME1
import Derived.Test.YtncjcjaphddlgaaS7
import Derived.Test.YtncjcjaphddlgaaS6
set_option linter.unusedVariables false
set_option linter.unusedSimpArgs false
namespace Go.Sx
open Go Go.Proofs

def l65a (n : Net) (k1 k2 k3 : Option Bool) (i : Int) : Tr (Ex × St) :=
  let c0 := ((leI 0 i) :: ((ltI i (lenZ n.pw)) :: (tt 11 [])))
  (.node (ltI i n.nd) (.node (neI (lenZ (getL n.pw i)) n.nd) (.leaf (some (.ret , ⟨mkS 49 [(1 , (.ref 1 0)), (2 , (.int .i64 1)), (3 , (.int .i64 i))], [(1 , (.box [(.int .i64 n.nd), (.sl
  k1 (.rows n.pw)), (.int .i64 n.ns), (.int .i64 n.th), (.sl k2 (.st 3 n.ls)), (.sl k3 (.i1 n.mg))]))], (tt 8 c0)⟩))) (.leaf (some (.normal , ⟨mkS 49 [(1 , (.ref 1 0)), (3 , (.int .i64
  (addI .i64 i 1)))], [(1 , (.box [(.int .i64 n.nd), (.sl k1 (.rows n.pw)), (.int .i64 n.ns), (.int .i64 n.th), (.sl k2 (.st 3 n.ls)), (.sl k3 (.i1 n.mg))]))], (tt 11 c0)⟩)))) (.leaf (some
  ((.exit 0) , ⟨mkS 49 [(1 , (.ref 1 0)), (3 , (.int .i64 i))], [(1 , (.box [(.int .i64 n.nd), (.sl k1 (.rows n.pw)), (.int .i64 n.ns), (.int .i64 n.th), (.sl k2 (.st 3 n.ls)), (.sl k3 (.i1
  n.mg))]))], (tt 6 [])⟩))))
theorem l65a_eq (n : Net) (k1 k2 k3 : Option Bool) (i : Int) : keepT 49 [1, 3, 2] [1] (evT (cxs []) (tb []) (orcT []) (loopB Try.f65 0) ⟨mkS 49 (zip2 [1, 3] [.ref 1 0, .int .i64 i]), zip2 [1] [.box (n.cells k1 k2 k3)], []⟩) = l65a n k1 k2 k3 i := by kernel_rfl
theorem l65a_ok (Γ : Env) (π : Nms) : LoopOK Try.prog Γ π 0 (loopB Try.f65 0) ls65a := by
  intro vs obs r h ho ok ok' hok hT
  simp only [ls65a] at h
  split at h
  · rename_i cs
    cases hn : netC cs with
    | none => rw [hn] at h; simp [Tr.sel] at h
    | some n =>
    obtain ⟨k1, k2, k3, rfl⟩ := netC_inv hn
    rw [hn] at h
    have hf : few n = true ∧ lenZ n.pw = n.nd := by
      simp only [Tr.sel] at h
      cases hb : leI 0 (badLen n.pw n.nd) <;> rw [hb] at h <;> cases h <;> exact ⟨ho _ (by simp), eqI_iff.1 (ho _ (by simp))⟩
    obtain ⟨hf, he⟩ := hf
    have hl := few_pw hf
    refine scanK ⟨.nil, rfl, by kernel_rfl, by kernel_rfl, .nil⟩ (fun i => [.ref 1 0, .int .i64 i]) [.box (n.cells k1 k2 k3)] (fun i => neI (lenZ (getL n.pw i)) n.nd) n.nd 0
      (Int.le_refl 0) (by omega) (fun j => ⟨.ret, [(2, .int .i64 1)], [], [few n, eqI (lenZ n.pw) n.nd]⟩) ⟨.normal, [(1, .ref 1 0)], [(1, .box (n.cells k1 k2 k3))], [few n, eqI (lenZ n.pw) n.nd]⟩ (l65a n k1 k2 k3) (l65a_eq n k1 k2 k3) ?_ ?_ ?_ ?_ hok hT
    · intro i h0 hlt
      simp only [l65a, Tr.sel, hlt]
      exact ⟨_, _, rfl, by simp [AllT_tt, AllT_gE, AllT_gT, AllT_nil, AllT_cons, impB_iff, leI_iff, ltI_iff, h0, hlt], rfl, Fits.k rfl rfl rfl⟩
    · intro i h0 hlt hp
      simp only [l65a, Tr.sel, hlt]
      skip
      simp only [hp]
      exact ⟨_, _, rfl, by simp [AllT_tt, AllT_gE, AllT_gT, AllT_nil, AllT_cons, impB_iff, leI_iff, ltI_iff, h0, hlt, he], rfl, Fits.k rfl rfl rfl⟩
    · intro i h0 hlt hp
      simp only [l65a, Tr.sel, hlt]
      skip
      simp only [hp]
      exact ⟨_, rfl, by simp [AllT_tt, AllT_gE, AllT_gT, AllT_nil, AllT_cons, impB_iff, leI_iff, ltI_iff, h0, hlt, he], Fits.k rfl rfl rfl⟩
    · simp only [Tr.sel] at h
      have e : scan (fun i => neI (lenZ (getL n.pw i)) n.nd) (n.nd - 0).toNat 0 = badLen n.pw n.nd := by rw [← he]; simp [lenZ, badLen]
      rw [e]
      cases hb : leI 0 (badLen n.pw n.nd) <;> rw [hb] at h <;> cases h
      · rw [if_neg (fun c => by rw [leI_iff.2 c] at hb; cases hb)]
      · rw [if_pos (leI_iff.1 hb)]
  · simp [Tr.sel] at h
def l65c (n : Net) (k1 k2 k3 : Option Bool) (a i : Int) : Tr (Ex × St) :=
  let c0 := (getL n.pw a)
  let c1 := ((leI 0 i) :: ((ltI i (lenZ c0)) :: (tt 4 ((leI 0 a) :: ((ltI a (lenZ n.pw)) :: (tt 11 []))))))
  (.node (ltI i n.nd) (.node (notB (inB (getI c0 i) 0 68719476736)) (.leaf (some (.ret , ⟨mkS 49 [(1 , (.ref 1 0)), (2 , (.int .i64 2)), (4 , (.int .i64 a)), (5 , (.int .i64 i))], [(1 ,
  (.box [(.int .i64 n.nd), (.sl k1 (.rows n.pw)), (.int .i64 n.ns), (.int .i64 n.th), (.sl k2 (.st 3 n.ls)), (.sl k3 (.i1 n.mg))]))], (tt 8 c1)⟩))) (.leaf (some (.normal , ⟨mkS 49 [(1 ,
  (.ref 1 0)), (4 , (.int .i64 a)), (5 , (.int .i64 (addI .i64 i 1)))], [(1 , (.box [(.int .i64 n.nd), (.sl k1 (.rows n.pw)), (.int .i64 n.ns), (.int .i64 n.th), (.sl k2 (.st 3 n.ls)), (.sl
  k3 (.i1 n.mg))]))], (tt 11 c1)⟩)))) (.leaf (some ((.exit 4) , ⟨mkS 49 [(1 , (.ref 1 0)), (4 , (.int .i64 a)), (5 , (.int .i64 i))], [(1 , (.box [(.int .i64 n.nd), (.sl k1 (.rows n.pw)),
  (.int .i64 n.ns), (.int .i64 n.th), (.sl k2 (.st 3 n.ls)), (.sl k3 (.i1 n.mg))]))], (tt 6 [])⟩))))
theorem l65c_eq (n : Net) (k1 k2 k3 : Option Bool) (a i : Int) : keepT 49 [1, 4, 5, 2] [1] (evT (cxs [64]) (tb [(64, s64)]) (orcT []) (loopB Try.f65 4) ⟨mkS 49 (zip2 [1, 4, 5] [.ref 1 0, .int .i64 a, .int .i64 i]), zip2 [1] [.box (n.cells k1 k2 k3)], []⟩) = l65c n k1 k2 k3 a i := by kernel_rfl
theorem l65c_ok (Γ : Env) (π : Nms) : LoopOK Try.prog Γ π 4 (loopB Try.f65 4) ls65c := by
  intro vs obs r h ho ok ok' hok hT
  simp only [ls65c] at h
  split at h
  · rename_i a cs
    cases hn : netC cs with
    | none => rw [hn] at h; simp [Tr.sel] at h
    | some n =>
    obtain ⟨k1, k2, k3, rfl⟩ := netC_inv hn
    rw [hn] at h
    have hf : few n = true ∧ 0 ≤ a ∧ a < lenZ n.pw ∧ lenZ (getL n.pw a) = n.nd := by
      simp only [Tr.sel] at h
      cases hb : leI 0 (outP (getL n.pw a)) <;> rw [hb] at h <;> cases h <;> exact ⟨ho _ (by simp), leI_iff.1 (ho _ (by simp)), ltI_iff.1 (ho _ (by simp)), eqI_iff.1 (ho _ (by simp))⟩
    obtain ⟨hf, ha, ha', he⟩ := hf
    have hl := rowsP_iff.1 (few_iff.1 hf).1 a ha ha'
    have hp : (fun i => outB (getI (getL n.pw a) i)) = fun i => notB (inB (getI (getL n.pw a) i) 0 68719476736) := by
      funext i
      exact Beq (by simp only [outB, andB_iff, orB_iff', notB_iff, andB_false, orB_false, notB_false, eqI_iff, eqI_false, neI_iff, neI_false, ltI_iff, ltI_false, leI_iff, leI_false, inB_iff, nodeB_iff, inB_false, nodeB_false]; omega)
    refine scanK ⟨.cons ok64 .nil, rfl, by kernel_rfl, by kernel_rfl, .nil⟩ (fun i => [.ref 1 0, .int .i64 a, .int .i64 i]) [.box (n.cells k1 k2 k3)] (fun i => notB (inB (getI (getL n.pw a) i) 0 68719476736)) n.nd 0
      (Int.le_refl 0) (by omega) (fun j => ⟨.ret, [(2, .int .i64 2)], [], [few n, leI 0 a, ltI a (lenZ n.pw), eqI (lenZ (getL n.pw a)) n.nd]⟩)
      ⟨.normal, [(1, .ref 1 0), (4, .int .i64 a)], [(1, .box (n.cells k1 k2 k3))], [few n, leI 0 a, ltI a (lenZ n.pw), eqI (lenZ (getL n.pw a)) n.nd]⟩ (l65c n k1 k2 k3 a) (l65c_eq n k1 k2 k3 a) ?_ ?_ ?_ ?_ hok hT
    · intro i h0 hlt
      simp only [l65c, Tr.sel, hlt]
      exact ⟨_, _, rfl, by simp [AllT_tt, AllT_gE, AllT_gT, AllT_nil, AllT_cons, impB_iff, leI_iff, ltI_iff, h0, hlt], rfl, Fits.k rfl rfl rfl⟩
    · intro i h0 hlt hp
      simp only [l65c, Tr.sel, hlt]
      skip
      simp only [hp]
      exact ⟨_, _, rfl, by simp [AllT_tt, AllT_gE, AllT_gT, AllT_nil, AllT_cons, impB_iff, leI_iff, ltI_iff, h0, hlt, he, ha, ha', ltI_iff.1 hlt], rfl, Fits.k rfl rfl rfl⟩
    · intro i h0 hlt hp
      simp only [l65c, Tr.sel, hlt]
      skip
      simp only [hp]
      exact ⟨_, rfl, by simp [AllT_tt, AllT_gE, AllT_gT, AllT_nil, AllT_cons, impB_iff, leI_iff, ltI_iff, h0, hlt, he, ha, ha', ltI_iff.1 hlt], Fits.k rfl rfl rfl⟩
    · simp only [Tr.sel] at h
      have e : scan (fun i => notB (inB (getI (getL n.pw a) i) 0 68719476736)) (n.nd - 0).toNat 0 = outP (getL n.pw a) := by rw [← he, outP, hp]; simp [lenZ]
      rw [e]
      cases hb : leI 0 (outP (getL n.pw a)) <;> rw [hb] at h <;> cases h
      · rw [if_neg (fun c => by rw [leI_iff.2 c] at hb; cases hb)]
      · rw [if_pos (leI_iff.1 hb)]
  · simp [Tr.sel] at h
def l65b (n : Net) (k1 k2 k3 : Option Bool) (i : Int) : Tr (Ex × St) :=
  let c0 := (getL n.pw i)
  let c1 := ((few n) :: ((leI 0 i) :: ((ltI i (lenZ n.pw)) :: ((eqI (lenZ c0) n.nd) :: (tt 7 [])))))
  (.node (ltI i n.nd) (.node (leI 0 (outP c0)) (.leaf (some (.ret , ⟨mkS 49 [(2 , (.int .i64 2))], [], c1⟩))) (.leaf (some (.normal , ⟨mkS 49 [(1 , (.ref 1 0)), (4 , (.int .i64 (addI .i64 i
  1)))], [(1 , (.box [(.int .i64 n.nd), (.sl k1 (.rows n.pw)), (.int .i64 n.ns), (.int .i64 n.th), (.sl k2 (.st 3 n.ls)), (.sl k3 (.i1 n.mg))]))], (tt 4 c1)⟩)))) (.leaf (some ((.exit 2) ,
  ⟨mkS 49 [(1 , (.ref 1 0)), (4 , (.int .i64 i))], [(1 , (.box [(.int .i64 n.nd), (.sl k1 (.rows n.pw)), (.int .i64 n.ns), (.int .i64 n.th), (.sl k2 (.st 3 n.ls)), (.sl k3 (.i1 n.mg))]))],
  (tt 6 [])⟩))))
theorem l65b_eq (n : Net) (k1 k2 k3 : Option Bool) (i : Int) : keepT 49 [1, 4, 2] [1] (evT (cxs [64]) (tb [(64, s64)]) (orcT [(4, ls65c)]) (loopB Try.f65 2) ⟨mkS 49 (zip2 [1, 4] [.ref 1 0, .int .i64 i]), zip2 [1] [.box (n.cells k1 k2 k3)], []⟩) = l65b n k1 k2 k3 i := by kernel_rfl
theorem l65b_ok (Γ : Env) (π : Nms) : LoopOK Try.prog Γ π 2 (loopB Try.f65 2) ls65b := by
  intro vs obs r h ho ok ok' hok hT
  simp only [ls65b] at h
  split at h
  · rename_i cs
    cases hn : netC cs with
    | none => rw [hn] at h; simp [Tr.sel] at h
    | some n =>
    obtain ⟨k1, k2, k3, rfl⟩ := netC_inv hn
    rw [hn] at h
    have hf : few n = true ∧ lenZ n.pw = n.nd ∧ leI 0 (badLen n.pw n.nd) = false := by
      simp only [Tr.sel] at h
      cases hb : leI 0 (badPow n.pw) <;> rw [hb] at h <;> cases h <;> exact ⟨ho _ (by simp), eqI_iff.1 (ho _ (by simp)), notB_iff.1 (ho _ (by simp))⟩
    obtain ⟨hf, he, hbl⟩ := hf
    have hl := few_pw hf
    have hrow := badLen_iff.1 hbl
    refine scanK ⟨.cons ok64 .nil, rfl, by kernel_rfl, by kernel_rfl, .cons (l65c_ok Γ π) .nil⟩ (fun i => [.ref 1 0, .int .i64 i]) [.box (n.cells k1 k2 k3)] (fun i => leI 0 (outP (getL n.pw i))) n.nd 0
      (Int.le_refl 0) (by omega) (fun j => ⟨.ret, [(2, .int .i64 2)], [], [few n, eqI (lenZ n.pw) n.nd, notB (leI 0 (badLen n.pw n.nd))]⟩) ⟨.normal, [], [], [few n, eqI (lenZ n.pw) n.nd, notB (leI 0 (badLen n.pw n.nd))]⟩ (l65b n k1 k2 k3) (l65b_eq n k1 k2 k3) ?_ ?_ ?_ ?_ hok hT
    · intro i h0 hlt
      simp only [l65b, Tr.sel, hlt]
      exact ⟨_, _, rfl, by simp [AllT_tt, AllT_gE, AllT_gT, AllT_nil, AllT_cons, impB_iff, leI_iff, ltI_iff, h0, hlt], rfl, Fits.k rfl rfl rfl⟩
    · intro i h0 hlt hp
      simp only [l65b, Tr.sel, hlt]
      skip
      simp only [hp]
      exact ⟨_, _, rfl, by simp [AllT_tt, AllT_gE, AllT_gT, AllT_nil, AllT_cons, impB_iff, leI_iff, ltI_iff, h0, hlt, he, hf, eqI_iff, ltI_iff.1 hlt, hrow i h0 (by have := ltI_iff.1 hlt; omega)], rfl, Fits.k rfl rfl rfl⟩
    · intro i h0 hlt hp
      simp only [l65b, Tr.sel, hlt]
      skip
      simp only [hp]
      exact ⟨_, rfl, by simp [AllT_tt, AllT_gE, AllT_gT, AllT_nil, AllT_cons, impB_iff, leI_iff, ltI_iff, h0, hlt, he, hf, eqI_iff, ltI_iff.1 hlt, hrow i h0 (by have := ltI_iff.1 hlt; omega)], Fits.k rfl rfl rfl⟩
    · simp only [Tr.sel] at h
      have e : scan (fun i => leI 0 (outP (getL n.pw i))) (n.nd - 0).toNat 0 = badPow n.pw := by rw [← he]; simp [lenZ, badPow]
      rw [e]
      cases hb : leI 0 (badPow n.pw) <;> rw [hb] at h <;> cases h
      · rw [if_neg (fun c => by rw [leI_iff.2 c] at hb; cases hb)]
      · rw [if_pos (leI_iff.1 hb)]
  · simp [Tr.sel] at h
def t65 (n : Net) (k1 k2 k3 : Option Bool) : Tr Res :=
  let c0 := (leI 0 (badLen n.pw n.nd))
  let c1 := (eqI (lenZ n.pw) n.nd)
  let c2 := ((few n) :: (c1 :: (tt 11 [])))
  let c3 := ((few n) :: (c1 :: ((notB c0) :: (tt 1 c2))))
  (.node (neI (lenZ n.pw) n.nd) (.leaf (some ⟨(tt 11 []), (.int .i64 1), [.junk]⟩)) (.node c0 (.leaf (some ⟨c2, (.int .i64 1), [.junk]⟩)) (.node (leI 0 (badPow n.pw)) (.leaf (some ⟨c3,
  (.int .i64 2), [.junk]⟩)) (.leaf (some ⟨(tt 1 c3), (.int .i64 0), [.junk]⟩)))))
theorem t65_eq (n : Net) (k1 k2 k3 : Option Bool) : evFT (cxs [64]) (tb [(64, s64)]) (orcT [(0, ls65a), (2, ls65b), (4, ls65c)]) 65 Try.f65 [n.av k1 k2 k3] = t65 n k1 k2 k3 := by kernel_rfl
theorem ok65 : FnOK Try.prog 65 s65 := by
  refine fnK (.cons ok64 .nil) (fs := [64]) rfl Try.func65 rfl (by kernel_rfl) (fun Γ π => .cons (l65a_ok Γ π) (.cons (l65b_ok Γ π) (.cons (l65c_ok Γ π) .nil))) ?_
  intro bs r h ho
  obtain ⟨n, k1, k2, k3, rfl, h⟩ := on1_inv h
  cases h
  have hf : few n = true := ho _ (by simp)
  refine ⟨by simp, ?_⟩
  rw [t65_eq]
  simp only [t65, Tr.sel, tbl]
  cases h1 : neI (lenZ n.pw) n.nd with
  | true => exact ⟨_, rfl, by simp [AllT_tt, AllT_gE, AllT_gT, AllT_nil, AllT_cons, impB_iff, leI_iff, ltI_iff], rfl, rfl⟩
  | false =>
    have h1 : lenZ n.pw = n.nd := by simpa [neI_eq] using h1
    cases h2 : leI 0 (badLen n.pw n.nd) with
    | true => exact ⟨_, rfl, by simp [AllT_tt, AllT_gE, AllT_gT, AllT_nil, AllT_cons, impB_iff, leI_iff, ltI_iff, hf, h1, eqI_iff], rfl, rfl⟩
    | false => cases leI 0 (badPow n.pw) with
      | true => exact ⟨_, rfl, by simp [AllT_tt, AllT_gE, AllT_gT, AllT_nil, AllT_cons, impB_iff, leI_iff, ltI_iff, hf, h1, h2, eqI_iff, notB_iff], rfl, rfl⟩
      | false => exact ⟨_, rfl, by simp [AllT_tt, AllT_gE, AllT_gT, AllT_nil, AllT_cons, impB_iff, leI_iff, ltI_iff, hf, h1, h2, eqI_iff, notB_iff], rfl, rfl⟩
def t66 (n : Net) (k1 k2 k3 : Option Bool) (i : Int) : Tr Res :=
  let c0 := (getL n.ls i)
  let c1 := (sbI .i64 n.nd 1)
  let c2 := (notB (inB (getN c0 0) 0 c1))
  let c3 := (orB c2 (notB (inB (getN c0 1) 0 c1)))
  let c4 := (orB c3 (eqI (getN c0 0) (getN c0 1)))
  let c5 := (gT c4 (gE (notB c4) (gE (notB c4) (gT (notB c4) (gE (notB c4) (gT (notB c4) (gT (notB c4) (gE (notB c4) (gT (notB c4) (tt 2 (gT c3 (gE (notB c3) (gE (notB c3) (gE (notB c3) (gE
  (notB c3) (gT (notB c3) (gE (notB c3) (gT (notB c3) (tt 2 (gT c2 (gE (notB c2) (gE (notB c2) (gT (notB c2) (gE (notB c2) (gT (notB c2) (gE (notB c2) (gE (notB c2) (gT (notB c2) (gE (notB
  c2) (gT (notB c2) (gE (notB c2) (gT (notB c2) (tt 15 ((leI 0 i) :: ((ltI i (lenZ n.ls)) :: (tt 7 []))))))))))))))))))))))))))))))))))))
  let c6 := (sbI .i64 i 1)
  let c7 := (getL n.ls c6)
  let c8 := (ltI (getN c0 0) (getN c7 0))
  let c9 := (eqI (getN c7 0) (getN c0 0))
  let c10 := (andB (ltI 0 i) (notB c8))
  let c11 := (andB c10 c9)
  let c12 := (ltI c6 (lenZ n.ls))
  let c13 := (gE (ltI 0 i) (gT (notB (ltI 0 i)) (gE (ltI 0 i) (gT (andB (ltI 0 i) c8) (gE c10 (gE c10 (gE c11 (gT (andB c10 (notB c9)) (gE c11 (gE c11 (gE c11 (gT c11 (gE c11 (gE c11 ((impB
  c11 (leI 0 c6)) :: ((impB c11 c12) :: (gE c11 (gE c11 (gE c11 (gT c11 (gT c11 (gE c11 (gT c11 (gE c10 (gE c10 (gE c10 (gE c10 (gT c10 (gE c10 (gE c10 ((impB c10 (leI 0 c6)) :: ((impB c10
  c12) :: (gE c10 (gE c10 (gE c10 (gT c10 (gT c10 (gE c10 (gT c10 (gE (ltI 0 i) (gE (ltI 0 i) (gE (ltI 0 i) (gE (ltI 0 i) (gT (ltI 0 i) (gE (ltI 0 i) (gE (ltI 0 i) ((impB (ltI 0 i) (leI 0
  c6)) :: ((impB (ltI 0 i) c12) :: (gE (ltI 0 i) (gE (ltI 0 i) (gE (ltI 0 i) (gT (ltI 0 i) (gT (ltI 0 i) (gE (ltI 0 i) (gT (ltI 0 i) (tt 6
  c5))))))))))))))))))))))))))))))))))))))))))))))))))))))))
  let c14 := (getL n.pw (getN c0 0))
  let c15 := (tt 8 ((leI 0 (getN c0 1)) :: ((ltI (getN c0 1) (lenZ c14)) :: (tt 5 ((leI 0 (getN c0 0)) :: ((ltI (getN c0 0) (lenZ n.pw)) :: (tt 7 ((leI 0 i) :: ((ltI i (lenZ n.mg)) :: (tt 7
  c13))))))))))
  (.node (orB c4 (notB (inB (getN c0 2) 0 7))) (.leaf (some ⟨(tt 3 c5), (.int .i64 2), [.junk, .junk]⟩)) (.node (andB (ltI 0 i) (orB c8 (andB c9 (leI (getN c0 1) (getN c7 1))))) (.leaf
  (some ⟨(tt 3 c13), (.int .i64 5), [.junk, .junk]⟩)) (.node (notB (inB (getI n.mg i) 0 (getI c14 (getN c0 1)))) (.leaf (some ⟨c15, (.int .i64 2), [.junk, .junk]⟩)) (.leaf (some ⟨c15, (.int
  .i64 0), [.junk, .junk]⟩)))))
theorem t66_eq (n : Net) (k1 k2 k3 : Option Bool) (i : Int) : evFT (cxs [64]) (tb [(64, s64)]) (orcT []) 66 Try.f66 [n.av k1 k2 k3, .int .i64 i] = t66 n k1 k2 k3 i := by kernel_rfl
theorem ok66 : FnOK Try.prog 66 s66 := by
  refine fnK (.cons ok64 .nil) (fs := [64]) rfl Try.func66 rfl (by kernel_rfl) noLoops ?_
  intro bs r h ho
  obtain ⟨n, k1, k2, k3, i, rfl, h⟩ := on2_inv h
  cases h
  have hf : few n = true := ho _ (by simp)
  have hnd := inB_iff.1 (show inB n.nd 2 32 = true from ho _ (by simp))
  have ht := tbl_zero.1 (eqI_iff.1 (show eqI (tbl n) 0 = true from ho _ (by simp)))
  have h0 := leI_iff.1 (show leI 0 i = true from ho _ (by simp))
  have h1 := ltI_iff.1 (show ltI i (lenZ n.ls) = true from ho _ (by simp))
  have h2 := ltI_iff.1 (show ltI i (lenZ n.mg) = true from ho _ (by simp))
  have hl := few_ls hf
  have e1 : sbI .i64 n.nd 1 = n.nd - 1 := sbI_in (by omega) (by omega)
  have e2 : sbI .i64 i 1 = i - 1 := sbI_in (by omega) (by omega)
  refine ⟨by simp, ?_⟩
  rw [t66_eq]
  simp only [t66, Tr.sel, lnk, e1, e2, inB_node, orB_assoc, cmpL_ge, Net.fr, Net.to, Net.lo, Net.pow]
  cases hc1 : orB (notB (nodeB n (getN (getL n.ls i) 0))) (orB (notB (nodeB n (getN (getL n.ls i) 1))) (orB (eqI (getN (getL n.ls i) 0) (getN (getL n.ls i) 1)) (notB (inB (getN (getL n.ls i) 2) 0 7)))) with
  | true => exact ⟨_, rfl, by simp [AllT_tt, AllT_gE, AllT_gT, AllT_nil, AllT_cons, impB_iff, leI_iff, ltI_iff, h0, h1], rfl, rfl⟩
  | false =>
    simp only [andB_iff, orB_iff', notB_iff, andB_false, orB_false, notB_false, eqI_iff, eqI_false, neI_iff, neI_false, ltI_iff, ltI_false, leI_iff, leI_false, inB_iff, nodeB_iff, inB_false, nodeB_false] at hc1
    have r1 : lenZ (getL n.pw (getN (getL n.ls i) 0)) = n.nd := ht.2.1 _ hc1.1.1 hc1.1.2
    cases andB (ltI 0 i) (orB (ltI (getN (getL n.ls i) 0) (getN (getL n.ls (i - 1)) 0)) (andB (eqI (getN (getL n.ls (i - 1)) 0) (getN (getL n.ls i) 0)) (leI (getN (getL n.ls i) 1) (getN (getL n.ls (i - 1)) 1)))) with
    | true => exact ⟨_, rfl, by simp [AllT_tt, AllT_gE, AllT_gT, AllT_nil, AllT_cons, impB_iff, leI_iff, ltI_iff, andB_iff, orB_iff', notB_iff, andB_false, orB_false, notB_false, eqI_iff, eqI_false, neI_iff, neI_false, ltI_iff, ltI_false, leI_iff, leI_false, inB_iff, nodeB_iff, inB_false, nodeB_false, h0, h1]; omega, rfl, rfl⟩
    | false =>
      cases notB (inB (getI n.mg i) 0 (getI (getL n.pw (getN (getL n.ls i) 0)) (getN (getL n.ls i) 1))) with
      | true => exact ⟨_, rfl, by simp [AllT_tt, AllT_gE, AllT_gT, AllT_nil, AllT_cons, impB_iff, leI_iff, ltI_iff, andB_iff, orB_iff', notB_iff, andB_false, orB_false, notB_false, eqI_iff, eqI_false, neI_iff, neI_false, ltI_iff, ltI_false, leI_iff, leI_false, inB_iff, nodeB_iff, inB_false, nodeB_false, h0, h1]; omega, rfl, rfl⟩
      | false => exact ⟨_, rfl, by simp [AllT_tt, AllT_gE, AllT_gT, AllT_nil, AllT_cons, impB_iff, leI_iff, ltI_iff, andB_iff, orB_iff', notB_iff, andB_false, orB_false, notB_false, eqI_iff, eqI_false, neI_iff, neI_false, ltI_iff, ltI_false, leI_iff, leI_false, inB_iff, nodeB_iff, inB_false, nodeB_false, h0, h1]; omega, rfl, rfl⟩
end Go.Sx
