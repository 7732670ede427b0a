/-
  The walks: package network and its reference, part 4: the checks, links found, what is heard. No condition beyond those that each theorem names.
-/
import Derived.Test.YtncjcjaphddlgaaME2
import Derived.Test.YtncjcjaphddlgaaME3
import Derived.Test.YtncjcjaphddlgaaS6
set_option linter.unusedVariables false
set_option linter.unusedSimpArgs false
namespace Go.Sx
open Go Go.Proofs

def t106 (n : Net) (k1 k2 k3 : Option Bool) (a : Int) : Tr Res :=
  (.leaf (some ⟨(tt 2 (gE (leI 0 a) (gT (notB (leI 0 a)) (gE (leI 0 a) (gE (leI 0 a) (gE (leI 0 a) (gT (leI 0 a) (gT (leI 0 a) (tt 5 []))))))))), (.bool (andB (leI 0 a) (ltI a n.nd))),
  [.junk, .junk]⟩))
theorem t106_eq (n : Net) (k1 k2 k3 : Option Bool) (a : Int) : evFT (cxs []) (tb []) (orcT []) 106 Try.f106 [.int .i64 a, .snap (n.cells k1 k2 k3) 0] = t106 n k1 k2 k3 a := by kernel_rfl
theorem ok106 : FnOK Try.prog 106 s106 := by
  refine fnK .nil (fs := []) rfl Try.func106 rfl (by kernel_rfl) noLoops ?_
  intro bs r h ho
  unfold s106 at h
  split at h
  · split at h
    · rename_i n hn
      obtain ⟨k1, k2, k3, rfl⟩ := netC_inv hn
      cases h
      refine ⟨by simp, ?_⟩
      rw [t106_eq]
      exact ⟨_, rfl, by simp [AllT_tt, AllT_gE, AllT_gT, AllT_nil, AllT_cons, impB_iff, leI_iff, ltI_iff], rfl, rfl⟩
    · cases h
  · cases h
def t63 (n : Net) (k1 k2 k3 : Option Bool) (i : Int) : Tr Res :=
  let c0 := (getL n.ls i)
  let c1 := (notB (nodeB n (getN c0 0)))
  let c2 := (orB c1 (notB (nodeB n (getN c0 1))))
  let c3 := (orB c2 (eqI (getN c0 0) (getN c0 1)))
  let c4 := (orB c3 (ltI (getN c0 2) 0))
  let c5 := (gT c4 (gE (notB c4) (gE (notB c4) (gT (notB c4) (gE (notB c4) (gT (notB c4) (tt 2 (gT c3 (gE (notB c3) (gE (notB c3) (gT (notB c3) (gE (notB c3) (gT (notB c3) (tt 2 (gT c2 (gE
  (notB c2) (gE (notB c2) (gE (notB c2) (gE (notB c2) (gT (notB c2) (gE (notB c2) (gT (notB c2) (tt 2 (gT c1 (gE (notB c1) (gE (notB c1) (gE (notB c1) (gE (notB c1) (gE (notB c1) (gT (notB
  c1) (gT (notB c1) (tt 12 ((leI 0 i) :: ((ltI i (lenZ n.ls)) :: (tt 7 [])))))))))))))))))))))))))))))))))))
  let c6 := (sbI .i64 i 1)
  let c7 := (getL n.ls c6)
  let c8 := (gE (ltI 0 i) (gT (notB (ltI 0 i)) (gE (ltI 0 i) (gT (ltI 0 i) (gT (ltI 0 i) (gE (ltI 0 i) (gE (ltI 0 i) (gT (ltI 0 i) (gE (ltI 0 i) ((impB (ltI 0 i) (leI 0 c6)) :: ((impB (ltI
  0 i) (ltI c6 (lenZ n.ls))) :: (gE (ltI 0 i) (gE (ltI 0 i) (gE (ltI 0 i) (gT (ltI 0 i) (gT (ltI 0 i) (gE (ltI 0 i) (gT (ltI 0 i) (tt 7 c5)))))))))))))))))))
  let c9 := (getI n.mg i)
  let c10 := (getL n.pw (getN c0 0))
  let c11 := (notB (ltI c9 0))
  let c12 := (ltI i (lenZ n.mg))
  let c13 := (tt 4 (gT (ltI c9 0) (gE c11 (gE c11 (gE c11 (gE c11 ((impB c11 (leI 0 (getN c0 1))) :: ((impB c11 (ltI (getN c0 1) (lenZ c10))) :: (gE c11 (gE c11 (gE c11 (gT c11 (gE c11
  ((impB c11 (leI 0 (getN c0 0))) :: ((impB c11 (ltI (getN c0 0) (lenZ n.pw))) :: (gE c11 (gE c11 (gE c11 (gT c11 (gE c11 (gT c11 (gE c11 ((impB c11 (leI 0 i)) :: ((impB c11 c12) :: (gE c11
  (gE c11 (gT c11 (gE c11 (gT c11 (tt 4 ((leI 0 i) :: (c12 :: (tt 8 c8)))))))))))))))))))))))))))))))))
  (.node (orB c4 (ltI 7 (getN c0 2))) (.leaf (some ⟨(tt 4 c5), (.int .i64 2), [.junk, .junk]⟩)) (.node (andB (ltI 0 i) (leI 0 (cmpL (getN c7 0) (getN c7 1) (getN c0 0) (getN c0 1)))) (.leaf
  (some ⟨(tt 4 c8), (.int .i64 5), [.junk, .junk]⟩)) (.node (orB (ltI c9 0) (ltI (getI c10 (getN c0 1)) c9)) (.leaf (some ⟨c13, (.int .i64 2), [.junk, .junk]⟩)) (.leaf (some ⟨c13, (.int
  .i64 0), [.junk, .junk]⟩)))))
theorem t63_eq (n : Net) (k1 k2 k3 : Option Bool) (i : Int) : evFT (cxs [106, 107]) (tb [(106, s106), (107, s107)]) (orcT []) 63 Try.f63 [n.av k1 k2 k3, .int .i64 i] = t63 n k1 k2 k3 i := by kernel_rfl
theorem ok63 : FnOK Try.prog 63 s63 := by
  refine fnK (.cons ok106 (.cons ok107 .nil)) (fs := [106, 107]) rfl Try.func63 rfl (by kernel_rfl) noLoops ?_
  intro bs r h ho
  obtain ⟨n, k1, k2, k3, i, rfl, h⟩ := on2_inv h
  cases h
  have hf : few n = true := ho _ (by simp)
  have hnd := inB_iff.1 (show inB n.nd 2 32 = true from ho _ (by simp))
  have ht := tbl_zero.1 (eqI_iff.1 (show eqI (tbl n) 0 = true from ho _ (by simp)))
  have h0 := leI_iff.1 (show leI 0 i = true from ho _ (by simp))
  have h1 := ltI_iff.1 (show ltI i (lenZ n.ls) = true from ho _ (by simp))
  have h2 := ltI_iff.1 (show ltI i (lenZ n.mg) = true from ho _ (by simp))
  have hl := few_ls hf
  have e2 : sbI .i64 i 1 = i - 1 := sbI_in (by omega) (by omega)
  have e3 : orB (ltI (getN (getL n.ls i) 2) 0) (ltI 7 (getN (getL n.ls i) 2)) = notB (inB (getN (getL n.ls i) 2) 0 7) := Beq (by simp only [andB_iff, orB_iff', notB_iff, andB_false, orB_false, notB_false, eqI_iff, eqI_false, neI_iff, neI_false, ltI_iff, ltI_false, leI_iff, leI_false, inB_iff, nodeB_iff, inB_false, nodeB_false]; omega)
  have e4 : ∀ x y : Int, orB (ltI x 0) (ltI y x) = notB (inB x 0 y) := fun x y => Beq (by simp only [andB_iff, orB_iff', notB_iff, andB_false, orB_false, notB_false, eqI_iff, eqI_false, neI_iff, neI_false, ltI_iff, ltI_false, leI_iff, leI_false, inB_iff, nodeB_iff, inB_false, nodeB_false]; omega)
  refine ⟨by simp, ?_⟩
  rw [t63_eq]
  simp only [t63, Tr.sel, lnk, e2, orB_assoc, e4, Net.fr, Net.to, Net.lo, Net.pow]
  cases hc1 : orB (notB (nodeB n (getN (getL n.ls i) 0))) (orB (notB (nodeB n (getN (getL n.ls i) 1))) (orB (eqI (getN (getL n.ls i) 0) (getN (getL n.ls i) 1)) (notB (inB (getN (getL n.ls i) 2) 0 7)))) with
  | true => exact ⟨_, rfl, by simp [AllT_tt, AllT_gE, AllT_gT, AllT_nil, AllT_cons, impB_iff, leI_iff, ltI_iff, h0, h1], rfl, rfl⟩
  | false =>
    simp only [andB_iff, orB_iff', notB_iff, andB_false, orB_false, notB_false, eqI_iff, eqI_false, neI_iff, neI_false, ltI_iff, ltI_false, leI_iff, leI_false, inB_iff, nodeB_iff, inB_false, nodeB_false] at hc1
    have r1 : lenZ (getL n.pw (getN (getL n.ls i) 0)) = n.nd := ht.2.1 _ hc1.1.1 hc1.1.2
    cases andB (ltI 0 i) (leI 0 (cmpL (getN (getL n.ls (i - 1)) 0) (getN (getL n.ls (i - 1)) 1) (getN (getL n.ls i) 0) (getN (getL n.ls i) 1))) with
    | true => exact ⟨_, rfl, by simp [AllT_tt, AllT_gE, AllT_gT, AllT_nil, AllT_cons, impB_iff, leI_iff, ltI_iff, andB_iff, orB_iff', notB_iff, andB_false, orB_false, notB_false, eqI_iff, eqI_false, neI_iff, neI_false, ltI_iff, ltI_false, leI_iff, leI_false, inB_iff, nodeB_iff, inB_false, nodeB_false, h0, h1]; omega, rfl, rfl⟩
    | false =>
      cases notB (inB (getI n.mg i) 0 (getI (getL n.pw (getN (getL n.ls i) 0)) (getN (getL n.ls i) 1))) with
      | true => exact ⟨_, rfl, by simp [AllT_tt, AllT_gE, AllT_gT, AllT_nil, AllT_cons, impB_iff, leI_iff, ltI_iff, andB_iff, orB_iff', notB_iff, andB_false, orB_false, notB_false, eqI_iff, eqI_false, neI_iff, neI_false, ltI_iff, ltI_false, leI_iff, leI_false, inB_iff, nodeB_iff, inB_false, nodeB_false, h0, h1]; omega, rfl, rfl⟩
      | false => exact ⟨_, rfl, by simp [AllT_tt, AllT_gE, AllT_gT, AllT_nil, AllT_cons, impB_iff, leI_iff, ltI_iff, andB_iff, orB_iff', notB_iff, andB_false, orB_false, notB_false, eqI_iff, eqI_false, neI_iff, neI_false, ltI_iff, ltI_false, leI_iff, leI_false, inB_iff, nodeB_iff, inB_false, nodeB_false, h0, h1]; omega, rfl, rfl⟩
def l20 (n : Net) (k1 k2 k3 : Option Bool) (i : Int) : Tr (Ex × St) :=
  let c0 := (ltI i (lenZ n.ls))
  let c1 := ((few n) :: ((inB n.nd 2 32) :: ((eqI (tbl n) 0) :: ((leI 0 i) :: (c0 :: ((ltI i (lenZ n.mg)) :: (tt 12 [])))))))
  (.node c0 (.node (neI (lnk n i) 0) (.leaf (some (.ret , ⟨mkS 48 [(1 , (.ref 1 0)), (2 , (.int .i64 (lnk n i))), (4 , (.int .i64 i))], [(1 , (.box [(.int .i64 n.nd), (.sl k1 (.rows n.pw)),
  (.int .i64 n.ns), (.int .i64 n.th), (.sl k2 (.st 3 n.ls)), (.sl k3 (.i1 n.mg))]))], (tt 7 c1)⟩))) (.leaf (some (.normal , ⟨mkS 48 [(1 , (.ref 1 0)), (4 , (.int .i64 (addI .i64 i 1)))],
  [(1 , (.box [(.int .i64 n.nd), (.sl k1 (.rows n.pw)), (.int .i64 n.ns), (.int .i64 n.th), (.sl k2 (.st 3 n.ls)), (.sl k3 (.i1 n.mg))]))], (tt 9 c1)⟩)))) (.leaf (some ((.exit 0) , ⟨mkS 48
  [(1 , (.ref 1 0)), (4 , (.int .i64 i))], [(1 , (.box [(.int .i64 n.nd), (.sl k1 (.rows n.pw)), (.int .i64 n.ns), (.int .i64 n.th), (.sl k2 (.st 3 n.ls)), (.sl k3 (.i1 n.mg))]))], (tt 7
  [])⟩))))
theorem l20_eq (n : Net) (k1 k2 k3 : Option Bool) (i : Int) : keepT 48 [1, 4, 2] [1] (evT (cxs [66]) (tb [(66, s66)]) (orcT []) (loopB Try.f20 0) ⟨mkS 48 (zip2 [1, 4] [.ref 1 0, .int .i64 i]), zip2 [1] [.box (n.cells k1 k2 k3)], []⟩) = l20 n k1 k2 k3 i := by kernel_rfl
theorem l20_ok (Γ : Env) (π : Nms) : LoopOK Try.prog Γ π 0 (loopB Try.f20 0) ls20 := by
  intro vs obs r h ho ok ok' hok hT
  simp only [ls20] at h
  split at h
  · rename_i cs
    cases hn : netC cs with
    | none => rw [hn] at h; simp [Tr.sel] at h
    | some n =>
    obtain ⟨k1, k2, k3, rfl⟩ := netC_inv hn
    rw [hn] at h
    have hf : few n = true ∧ inB n.nd 2 32 = true ∧ tbl n = 0 ∧ lenZ n.mg = lenZ n.ls := by
      simp only [Tr.sel] at h
      cases hb : leI 0 (badLnk n) <;> rw [hb] at h <;> cases h <;> exact ⟨ho _ (by simp), ho _ (by simp), eqI_iff.1 (ho _ (by simp)), eqI_iff.1 (ho _ (by simp))⟩
    obtain ⟨hf, hnd, ht, hm⟩ := hf
    have hl := few_ls hf
    refine scanK ⟨.cons ok66 .nil, rfl, by kernel_rfl, by kernel_rfl, .nil⟩ (fun i => [.ref 1 0, .int .i64 i]) [.box (n.cells k1 k2 k3)] (fun i => neI (lnk n i) 0) (lenZ n.ls) 0
      (Int.le_refl 0) (by omega) (fun j => ⟨.ret, [(2, .int .i64 (lnk n j))], [], [few n, inB n.nd 2 32, eqI (tbl n) 0, eqI (lenZ n.mg) (lenZ n.ls)]⟩) ⟨.normal, [], [], [few n, inB n.nd 2 32, eqI (tbl n) 0, eqI (lenZ n.mg) (lenZ n.ls)]⟩ (l20 n k1 k2 k3) (l20_eq n k1 k2 k3) ?_ ?_ ?_ ?_ hok hT
    · intro i h0 hlt
      simp only [l20, Tr.sel, hlt]
      exact ⟨_, _, rfl, by simp [AllT_tt, AllT_gE, AllT_gT, AllT_nil, AllT_cons, impB_iff, leI_iff, ltI_iff, h0, hlt], rfl, Fits.k rfl rfl rfl⟩
    · intro i h0 hlt hp
      simp only [l20, Tr.sel, hlt]
      skip
      simp only [hp]
      exact ⟨_, _, rfl, by simp [AllT_tt, AllT_gE, AllT_gT, AllT_nil, AllT_cons, impB_iff, leI_iff, ltI_iff, h0, hlt, hf, hnd, ht, hm, ltI_iff.1 hlt, eqI_iff], rfl, Fits.k rfl rfl rfl⟩
    · intro i h0 hlt hp
      simp only [l20, Tr.sel, hlt]
      skip
      simp only [hp]
      exact ⟨_, rfl, by simp [AllT_tt, AllT_gE, AllT_gT, AllT_nil, AllT_cons, impB_iff, leI_iff, ltI_iff, h0, hlt, hf, hnd, ht, hm, ltI_iff.1 hlt, eqI_iff], Fits.k rfl rfl rfl⟩
    · simp only [Tr.sel] at h
      have e : scan (fun i => neI (lnk n i) 0) (lenZ n.ls - 0).toNat 0 = badLnk n := by simp [lenZ, badLnk]
      rw [e]
      cases hb : leI 0 (badLnk n) <;> rw [hb] at h <;> cases h
      · rw [if_neg (fun c => by rw [leI_iff.2 c] at hb; cases hb)]
      · rw [if_pos (leI_iff.1 hb)]
  · simp [Tr.sel] at h
def t20 (n : Net) (k1 k2 k3 : Option Bool) : Tr Res :=
  let c0 := (inB n.nd 2 32)
  let c1 := ((few n) :: (c0 :: (tt 13 [])))
  let c2 := (notB (inB n.ns 0 68719476736))
  let c3 := (gT c2 (gE (notB c2) (gE (notB c2) (gT (notB c2) (gE (notB c2) (gT (notB c2) (gT (notB c2) (gE (notB c2) (gT (notB c2) (tt 13 c1))))))))))
  let c4 := ((few n) :: (c0 :: ((eqI (tbl n) 0) :: ((eqI (lenZ n.mg) (lenZ n.ls)) :: (tt 18 c3)))))
  (.node (notB c0) (.leaf (some ⟨(tt 11 []), (.int .i64 2), [.junk]⟩)) (.node (neI (tbl n) 0) (.leaf (some ⟨(tt 7 c1), (.int .i64 (tbl n)), [.junk]⟩)) (.node (orB c2 (notB (inB n.th 1000
  100000))) (.leaf (some ⟨(tt 3 c3), (.int .i64 2), [.junk]⟩)) (.node (ltI 128 (lenZ n.ls)) (.leaf (some ⟨(tt 9 c3), (.int .i64 8), [.junk]⟩)) (.node (neI (lenZ n.mg) (lenZ n.ls)) (.leaf
  (some ⟨(tt 18 c3), (.int .i64 11), [.junk]⟩)) (.node (leI 0 (badLnk n)) (.leaf (some ⟨c4, (.int .i64 (lnk n (badLnk n))), [.junk]⟩)) (.leaf (some ⟨(tt 1 c4), (.int .i64 0),
  [.junk]⟩))))))))
theorem t20_eq (n : Net) (k1 k2 k3 : Option Bool) : evFT (cxs [64, 65, 66]) (tb [(64, s64), (65, s65), (66, s66)]) (orcT [(0, ls20)]) 20 Try.f20 [n.av k1 k2 k3] = t20 n k1 k2 k3 := by kernel_rfl
theorem ok20 : FnOK Try.prog 20 s20 := by
  refine fnK (.cons ok64 (.cons ok65 (.cons ok66 .nil))) (fs := [64, 65, 66]) rfl Try.func20 rfl (by kernel_rfl) (fun Γ π => .cons (l20_ok Γ π) .nil) ?_
  intro bs r h ho
  obtain ⟨n, k1, k2, k3, rfl, h⟩ := on1_inv h
  cases h
  have hf : few n = true := ho _ (by simp)
  refine ⟨by simp, ?_⟩
  rw [t20_eq]
  simp only [t20, Tr.sel, chk]
  cases h1 : inB n.nd 2 32 with
  | false => exact ⟨_, rfl, by simp [AllT_tt, AllT_gE, AllT_gT, AllT_nil, AllT_cons, impB_iff, leI_iff, ltI_iff, h1, hf], rfl, rfl⟩
  | true => cases h2 : neI (tbl n) 0 with
    | true => exact ⟨_, rfl, by simp [AllT_tt, AllT_gE, AllT_gT, AllT_nil, AllT_cons, impB_iff, leI_iff, ltI_iff, h1, hf], rfl, rfl⟩
    | false =>
      have h2' := neI_false.1 h2
      cases h3 : orB (notB (inB n.ns 0 68719476736)) (notB (inB n.th 1000 100000)) with
      | true => exact ⟨_, rfl, by simp [AllT_tt, AllT_gE, AllT_gT, AllT_nil, AllT_cons, impB_iff, leI_iff, ltI_iff, h1, hf], rfl, rfl⟩
      | false => cases h4 : ltI 128 (lenZ n.ls) with
        | true => exact ⟨_, rfl, by simp [AllT_tt, AllT_gE, AllT_gT, AllT_nil, AllT_cons, impB_iff, leI_iff, ltI_iff, h1, hf], rfl, rfl⟩
        | false => cases h5 : neI (lenZ n.mg) (lenZ n.ls) with
          | true => exact ⟨_, rfl, by simp [AllT_tt, AllT_gE, AllT_gT, AllT_nil, AllT_cons, impB_iff, leI_iff, ltI_iff, h1, hf], rfl, rfl⟩
          | false =>
            have h5' := neI_false.1 h5
            cases leI 0 (badLnk n) with
            | true => exact ⟨_, rfl, by simp [AllT_tt, AllT_gE, AllT_gT, AllT_nil, AllT_cons, impB_iff, leI_iff, ltI_iff, h1, hf, h2', h5', eqI_iff], rfl, rfl⟩
            | false => exact ⟨_, rfl, by simp [AllT_tt, AllT_gE, AllT_gT, AllT_nil, AllT_cons, impB_iff, leI_iff, ltI_iff, h1, hf, h2', h5', eqI_iff], rfl, rfl⟩
def l19 (n : Net) (k1 k2 k3 : Option Bool) (m i : Int) : Tr (Ex × St) :=
  let c0 := ((few n) :: ((inB n.nd 2 32) :: ((eqI (tbl n) 0) :: ((leI 0 i) :: ((ltI i (lenZ n.ls)) :: ((ltI i (lenZ n.mg)) :: (tt 10 [])))))))
  (.node (ltI i m) (.node (neI (lnk n i) 0) (.leaf (some (.ret , ⟨mkS 64 [(1 , (.ref 1 0)), (2 , (.int .i64 (lnk n i))), (53 , (.int .i64 m)), (54 , (.int .i64 i))], [(1 , (.box [(.int .i64
  n.nd), (.sl k1 (.rows n.pw)), (.int .i64 n.ns), (.int .i64 n.th), (.sl k2 (.st 3 n.ls)), (.sl k3 (.i1 n.mg))]))], (tt 7 c0)⟩))) (.leaf (some (.normal , ⟨mkS 64 [(1 , (.ref 1 0)), (53 ,
  (.int .i64 m)), (54 , (.int .i64 (addI .i64 i 1)))], [(1 , (.box [(.int .i64 n.nd), (.sl k1 (.rows n.pw)), (.int .i64 n.ns), (.int .i64 n.th), (.sl k2 (.st 3 n.ls)), (.sl k3 (.i1
  n.mg))]))], (tt 8 c0)⟩)))) (.leaf (some ((.exit 1) , ⟨mkS 64 [(1 , (.ref 1 0)), (53 , (.int .i64 m)), (54 , (.int .i64 i))], [(1 , (.box [(.int .i64 n.nd), (.sl k1 (.rows n.pw)), (.int
  .i64 n.ns), (.int .i64 n.th), (.sl k2 (.st 3 n.ls)), (.sl k3 (.i1 n.mg))]))], (tt 3 [])⟩))))
theorem l19_eq (n : Net) (k1 k2 k3 : Option Bool) (m i : Int) : keepT 64 [1, 53, 54, 2] [1] (evT (cxs [63]) (tb [(63, s63)]) (orcT []) (loopB Try.f19 1) ⟨mkS 64 (zip2 [1, 53, 54] [.ref 1 0, .int .i64 m, .int .i64 i]), zip2 [1] [.box (n.cells k1 k2 k3)], []⟩) = l19 n k1 k2 k3 m i := by kernel_rfl
theorem l19_ok (Γ : Env) (π : Nms) : LoopOK Try.prog Γ π 1 (loopB Try.f19 1) ls19 := by
  intro vs obs r h ho ok ok' hok hT
  simp only [ls19] at h
  split at h
  · rename_i m cs
    cases hn : netC cs with
    | none => rw [hn] at h; simp [Tr.sel] at h
    | some n =>
    obtain ⟨k1, k2, k3, rfl⟩ := netC_inv hn
    rw [hn] at h
    have hf : m = lenZ n.ls ∧ few n = true ∧ inB n.nd 2 32 = true ∧ tbl n = 0 ∧ lenZ n.mg = lenZ n.ls := by
      simp only [Tr.sel] at h
      cases hb : leI 0 (badLnk n) <;> rw [hb] at h <;> cases h <;> exact ⟨eqI_iff.1 (ho _ (by simp)), ho _ (by simp), ho _ (by simp), eqI_iff.1 (ho _ (by simp)), eqI_iff.1 (ho _ (by simp))⟩
    obtain ⟨rfl, hf, hnd, ht, hm⟩ := hf
    have hl := few_ls hf
    refine scanK ⟨.cons ok63 .nil, rfl, by kernel_rfl, by kernel_rfl, .nil⟩ (fun i => [.ref 1 0, .int .i64 (lenZ n.ls), .int .i64 i]) [.box (n.cells k1 k2 k3)] (fun i => neI (lnk n i) 0) (lenZ n.ls) 0
      (Int.le_refl 0) (by omega) (fun j => ⟨.ret, [(2, .int .i64 (lnk n j))], [], [eqI (lenZ n.ls) (lenZ n.ls), few n, inB n.nd 2 32, eqI (tbl n) 0, eqI (lenZ n.mg) (lenZ n.ls)]⟩) ⟨.normal, [], [], [eqI (lenZ n.ls) (lenZ n.ls), few n, inB n.nd 2 32, eqI (tbl n) 0, eqI (lenZ n.mg) (lenZ n.ls)]⟩ (l19 n k1 k2 k3 (lenZ n.ls)) (l19_eq n k1 k2 k3 (lenZ n.ls)) ?_ ?_ ?_ ?_ hok hT
    · intro i h0 hlt
      simp only [l19, Tr.sel, hlt]
      exact ⟨_, _, rfl, by simp [AllT_tt, AllT_gE, AllT_gT, AllT_nil, AllT_cons, impB_iff, leI_iff, ltI_iff, h0, hlt], rfl, Fits.k rfl rfl rfl⟩
    · intro i h0 hlt hp
      simp only [l19, Tr.sel, hlt]
      skip
      simp only [hp]
      exact ⟨_, _, rfl, by simp [AllT_tt, AllT_gE, AllT_gT, AllT_nil, AllT_cons, impB_iff, leI_iff, ltI_iff, h0, hlt, hf, hnd, ht, hm, ltI_iff.1 hlt, eqI_iff], rfl, Fits.k rfl rfl rfl⟩
    · intro i h0 hlt hp
      simp only [l19, Tr.sel, hlt]
      skip
      simp only [hp]
      exact ⟨_, rfl, by simp [AllT_tt, AllT_gE, AllT_gT, AllT_nil, AllT_cons, impB_iff, leI_iff, ltI_iff, h0, hlt, hf, hnd, ht, hm, ltI_iff.1 hlt, eqI_iff], Fits.k rfl rfl rfl⟩
    · simp only [Tr.sel] at h
      have e : scan (fun i => neI (lnk n i) 0) (lenZ n.ls - 0).toNat 0 = badLnk n := by simp [lenZ, badLnk]
      rw [e]
      cases hb : leI 0 (badLnk n) <;> rw [hb] at h <;> cases h
      · rw [if_neg (fun c => by rw [leI_iff.2 c] at hb; cases hb)]
      · rw [if_pos (leI_iff.1 hb)]
  · simp [Tr.sel] at h
def t19 (n : Net) (k1 k2 k3 : Option Bool) : Tr Res :=
  let c0 := (notB (ltI n.nd 2))
  let c1 := (gT (ltI n.nd 2) (gE c0 (gE c0 (gT c0 (gE c0 (gT c0 (tt 7 [])))))))
  let c2 := ((few n) :: (tt 5 c1))
  let c3 := (orB (ltI n.ns 0) (ltI 68719476736 n.ns))
  let c4 := (orB c3 (ltI n.th 1000))
  let c5 := (notB (ltI n.ns 0))
  let c6 := (gT c4 (gE (notB c4) (gE (notB c4) (gT (notB c4) (gE (notB c4) (gT (notB c4) (tt 2 (gT c3 (gE (notB c3) (gE (notB c3) (gT (notB c3) (gE (notB c3) (gT (notB c3) (tt 2 (gT (ltI
  n.ns 0) (gE c5 (gE c5 (gT c5 (gE c5 (gT c5 (tt 10 c2)))))))))))))))))))))
  let c7 := ((eqI (lenZ n.ls) (lenZ n.ls)) :: ((few n) :: ((inB n.nd 2 32) :: ((eqI (tbl n) 0) :: ((eqI (lenZ n.mg) (lenZ n.ls)) :: (tt 24 c6))))))
  (.node (orB (ltI n.nd 2) (ltI 32 n.nd)) (.leaf (some ⟨(tt 3 c1), (.int .i64 2), [.junk]⟩)) (.node (neI (tbl n) 0) (.leaf (some ⟨(tt 7 c2), (.int .i64 (tbl n)), [.junk]⟩)) (.node (orB c4
  (ltI 100000 n.th)) (.leaf (some ⟨(tt 4 c6), (.int .i64 2), [.junk]⟩)) (.node (ltI 128 (lenZ n.ls)) (.leaf (some ⟨(tt 11 c6), (.int .i64 8), [.junk]⟩)) (.node (neI (lenZ n.mg) (lenZ n.ls))
  (.leaf (some ⟨(tt 21 c6), (.int .i64 11), [.junk]⟩)) (.node (leI 0 (badLnk n)) (.leaf (some ⟨c7, (.int .i64 (lnk n (badLnk n))), [.junk]⟩)) (.leaf (some ⟨(tt 1 c7), (.int .i64 0),
  [.junk]⟩))))))))
theorem t19_eq (n : Net) (k1 k2 k3 : Option Bool) : evFT (cxs [62, 63]) (tb [(62, s62), (63, s63)]) (orcT [(1, ls19)]) 19 Try.f19 [n.av k1 k2 k3] = t19 n k1 k2 k3 := by kernel_rfl
theorem ok19 : FnOK Try.prog 19 s19 := by
  refine fnK (.cons ok62 (.cons ok63 .nil)) (fs := [62, 63]) rfl Try.func19 rfl (by kernel_rfl) (fun Γ π => .cons (l19_ok Γ π) .nil) ?_
  intro bs r h ho
  obtain ⟨n, k1, k2, k3, rfl, h⟩ := on1_inv h
  cases h
  have hf : few n = true := ho _ (by simp)
  have e4 : ∀ x y z : Int, orB (ltI x y) (ltI z x) = notB (inB x y z) := fun x y z => Beq (by simp only [andB_iff, orB_iff', notB_iff, andB_false, orB_false, notB_false, eqI_iff, eqI_false, neI_iff, neI_false, ltI_iff, ltI_false, leI_iff, leI_false, inB_iff, nodeB_iff, inB_false, nodeB_false]; omega)
  refine ⟨by simp, ?_⟩
  rw [t19_eq]
  simp only [t19, Tr.sel, chk, orB_assoc, e4]
  cases h1 : inB n.nd 2 32 with
  | false => exact ⟨_, rfl, by simp [AllT_tt, AllT_gE, AllT_gT, AllT_nil, AllT_cons, impB_iff, leI_iff, ltI_iff, h1, hf], rfl, rfl⟩
  | true => cases h2 : neI (tbl n) 0 with
    | true => exact ⟨_, rfl, by simp [AllT_tt, AllT_gE, AllT_gT, AllT_nil, AllT_cons, impB_iff, leI_iff, ltI_iff, h1, hf], rfl, rfl⟩
    | false =>
      have h2' := neI_false.1 h2
      cases h3 : orB (notB (inB n.ns 0 68719476736)) (notB (inB n.th 1000 100000)) with
      | true => exact ⟨_, rfl, by simp [AllT_tt, AllT_gE, AllT_gT, AllT_nil, AllT_cons, impB_iff, leI_iff, ltI_iff, h1, hf], rfl, rfl⟩
      | false => cases h4 : ltI 128 (lenZ n.ls) with
        | true => exact ⟨_, rfl, by simp [AllT_tt, AllT_gE, AllT_gT, AllT_nil, AllT_cons, impB_iff, leI_iff, ltI_iff, h1, hf], rfl, rfl⟩
        | false => cases h5 : neI (lenZ n.mg) (lenZ n.ls) with
          | true => exact ⟨_, rfl, by simp [AllT_tt, AllT_gE, AllT_gT, AllT_nil, AllT_cons, impB_iff, leI_iff, ltI_iff, h1, hf], rfl, rfl⟩
          | false =>
            have h5' := neI_false.1 h5
            cases leI 0 (badLnk n) with
            | true => exact ⟨_, rfl, by simp [AllT_tt, AllT_gE, AllT_gT, AllT_nil, AllT_cons, impB_iff, leI_iff, ltI_iff, h1, hf, h2', h5', eqI_iff], rfl, rfl⟩
            | false => exact ⟨_, rfl, by simp [AllT_tt, AllT_gE, AllT_gT, AllT_nil, AllT_cons, impB_iff, leI_iff, ltI_iff, h1, hf, h2', h5', eqI_iff], rfl, rfl⟩
def l108 (k : Option Bool) (ls : List (List Int)) (f t l m i j : Int) : Tr (Ex × St) :=
  let c0 := (cvI .i64 (shrI .u64 (cvI .u64 (addI .i64 i j)) 1))
  let c1 := ((leI 0 c0) :: ((ltI c0 (lenZ ls)) :: (tt 7 ((leI 0 1) :: (tt 12 [])))))
  (.node (ltI i j) (.node (ltI (cmpL (getN (getL ls c0) 0) (getN (getL ls c0) 1) f t) 0) (.leaf (some (.normal , ⟨mkS 49 [(0 , (.sl k (.st 3 ls))), (2 , (.clo 107 [])), (4 , (.ref 4 0)), (8
  , (.int .i64 m)), (9 , (.int .i64 (addI .i64 c0 1))), (10 , (.int .i64 j))], [(4 , (.box [(.int .i64 f), (.int .i64 t), (.int .i64 l)]))], (tt 12 c1)⟩))) (.leaf (some (.normal , ⟨mkS 49
  [(0 , (.sl k (.st 3 ls))), (2 , (.clo 107 [])), (4 , (.ref 4 0)), (8 , (.int .i64 m)), (9 , (.int .i64 i)), (10 , (.int .i64 c0))], [(4 , (.box [(.int .i64 f), (.int .i64 t), (.int .i64
  l)]))], (tt 10 c1)⟩)))) (.leaf (some ((.exit 0) , ⟨mkS 49 [(0 , (.sl k (.st 3 ls))), (2 , (.clo 107 [])), (4 , (.ref 4 0)), (8 , (.int .i64 m)), (9 , (.int .i64 i)), (10 , (.int .i64
  j))], [(4 , (.box [(.int .i64 f), (.int .i64 t), (.int .i64 l)]))], (tt 5 [])⟩))))
theorem l108_eq (k : Option Bool) (ls : List (List Int)) (f t l m i j : Int) : keepT 49 [0, 2, 4, 8, 9, 10] [4] (evT (cxs [107]) (tb [(107, s107)]) (orcT []) (loopB Try.f108 0) ⟨mkS 49 (zip2 [0, 2, 4, 8, 9, 10] [.sl k (.st 3 ls), .clo 107 [], .ref 4 0, .int .i64 m, .int .i64 i, .int .i64 j]), zip2 [4] [.box [.int .i64 f, .int .i64 t, .int .i64 l]], []⟩) = l108 k ls f t l m i j := by kernel_rfl
theorem l108_ok (Γ : Env) (π : Nms) : LoopOK Try.prog Γ π 0 (loopB Try.f108 0) ls108 := by
  intro vs obs r h ho ok ok' hok hT
  simp only [ls108] at h
  split at h
  · rename_i k w ls m m' f t l
    cases hw : Nat.beq w 3 <;> rw [hw] at h <;> simp only [cond_true, cond_false, Tr.sel, reduceCtorEq, Option.some.injEq] at h
    have hw := beqT.1 hw
    subst hw h
    have hs : srtd ls = true := ho _ (by simp)
    have hl : lenZ ls ≤ 1000 := leI_iff.1 (ho _ (by simp))
    have hm : m = lenZ ls := eqI_iff.1 (ho _ (by simp))
    have hm' : m' = lenZ ls := eqI_iff.1 (ho _ (by simp))
    subst hm hm'
    have hlen : 0 ≤ lenZ ls := by simp [lenZ]
    refine loopK (X := Int × Int) ⟨.cons ok107 .nil, rfl, by kernel_rfl, by kernel_rfl, .nil⟩ (fun x => [.sl k (.st 3 ls), .clo 107 [], .ref 4 0, .int .i64 (lenZ ls), .int .i64 x.1, .int .i64 x.2]) (fun _ => [.box [.int .i64 f, .int .i64 t, .int .i64 l]])
      (fun x => 0 ≤ x.1 ∧ x.1 ≤ x.2 ∧ x.2 ≤ lenZ ls ∧ (∀ q, 0 ≤ q → q < x.1 → cmpL (getN (getL ls q) 0) (getN (getL ls q) 1) f t < 0) ∧ (x.2 < lenZ ls → ¬ cmpL (getN (getL ls x.2) 0) (getN (getL ls x.2) 1) f t < 0)) (fun x => (x.2 - x.1).toNat)
      ⟨.normal, [(0, .sl k (.st 3 ls)), (2, .clo 107 []), (4, .ref 4 0), (8, .int .i64 (lenZ ls)), (9, .int .i64 (bsI ls f t))], [(4, .box [.int .i64 f, .int .i64 t, .int .i64 l])], [srtd ls, leI (lenZ ls) 1000, eqI (lenZ ls) (lenZ ls), eqI (lenZ ls) (lenZ ls)]⟩
      (fun x => l108 k ls f t l (lenZ ls) x.1 x.2) (fun x => l108_eq k ls f t l (lenZ ls) x.1 x.2) ?_ (x := (0, lenZ ls)) ⟨Int.le_refl 0, hlen, Int.le_refl _, fun q h0 hq => by simp only at hq; omega, fun c => by simp only at c; omega⟩ hok hT
    rintro ⟨i, j⟩ ⟨h0, h1, h2, h3, h4⟩
    simp only at h0 h1 h2 h3 h4
    simp only [l108, Tr.sel]
    cases hij : ltI i j with
    | false =>
      have hij := ltI_false.1 hij
      have e : i = j := by omega
      subst e
      have hb := bsI_is hs h0 h2 h3 h4
      exact ⟨_, _, rfl, by simp [AllT_tt, AllT_gE, AllT_gT, AllT_nil, AllT_cons, impB_iff, leI_iff, ltI_iff], .inr ⟨rfl, Fits.k rfl (by rw [hb]; rfl) rfl⟩⟩
    | true =>
      have hij := ltI_iff.1 hij
      have hc : cvI .i64 (shrI .u64 (cvI .u64 (addI .i64 i j)) 1) = (i + j) / 2 := mid_eq h0 h1 (by omega)
      simp only [hc]
      have a1 : addI .i64 ((i + j) / 2) 1 = (i + j) / 2 + 1 := addI_in (by omega) (by omega)
      have hin : 0 ≤ (i + j) / 2 ∧ (i + j) / 2 < lenZ ls := by omega
      cases hlt : ltI (cmpL (getN (getL ls ((i + j) / 2)) 0) (getN (getL ls ((i + j) / 2)) 1) f t) 0 with
      | true =>
        have hlt := ltI_iff.1 hlt
        refine ⟨_, _, rfl, by simp [AllT_tt, AllT_gE, AllT_gT, AllT_nil, AllT_cons, impB_iff, leI_iff, ltI_iff, hin], .inl ⟨rfl, ((i + j) / 2 + 1, j), ⟨by simp only; omega, by simp only; omega, h2, fun q q0 hq => ?_, h4⟩, by simp only; omega, Fits.k rfl (by rw [a1]; rfl) rfl⟩⟩
        simp only at hq
        by_cases hqe : q = (i + j) / 2
        · rw [hqe]; exact hlt
        · have := srtd_lex hs q0 ((i + j) / 2 - q - 1).toNat (by omega)
          rw [show q + 1 + (((i + j) / 2 - q - 1).toNat : Int) = (i + j) / 2 from by omega] at this
          rw [cmpL_lt] at hlt ⊢
          omega
      | false =>
        have hlt := ltI_false.1 hlt
        exact ⟨_, _, rfl, by simp [AllT_tt, AllT_gE, AllT_gT, AllT_nil, AllT_cons, impB_iff, leI_iff, ltI_iff, hin], .inl ⟨rfl, (i, (i + j) / 2), ⟨h0, by simp only; omega, by simp only; omega, h3, fun _ => hlt⟩, by simp only; omega, Fits.k rfl rfl rfl⟩⟩
  · simp [Tr.sel] at h
def t108 (k : Option Bool) (ls : List (List Int)) (f t l : Int) : Tr Res :=
  let c0 := (ltI (bsI ls f t) (lenZ ls))
  let c1 := (eqI (lenZ ls) (lenZ ls))
  let c2 := (getL ls (bsI ls f t))
  (.leaf (some ⟨(tt 3 (gE c0 (gT (notB c0) (gE c0 (gT c0 (gE c0 (gE c0 (gE c0 (gT c0 (gE c0 ((impB c0 (leI 0 (bsI ls f t))) :: (gE c0 (gE c0 (gE c0 (gT c0 (gT c0 (gT c0 (tt 6 ((srtd ls) ::
  ((leI (lenZ ls) 1000) :: (c1 :: (c1 :: (tt 9 []))))))))))))))))))))))), (.tup [(.int .i64 (bsI ls f t)), (.bool (andB c0 (eqI (cmpL (getN c2 0) (getN c2 1) f t) 0)))]), [.junk, .junk,
  .junk]⟩))
theorem t108_eq (k : Option Bool) (ls : List (List Int)) (f t l : Int) : evFT (cxs [107]) (tb [(107, s107)]) (orcT [(0, ls108)]) 108 Try.f108 [.sl k (.st 3 ls), .agg [.int .i64 f, .int .i64 t, .int .i64 l], .clo 107 []] = t108 k ls f t l := by kernel_rfl
theorem ok108 : FnOK Try.prog 108 s108 := by
  refine fnK (.cons ok107 .nil) (fs := [107]) rfl Try.func108 rfl (by kernel_rfl) (fun Γ π => .cons (l108_ok Γ π) .nil) ?_
  intro bs r h ho
  unfold s108 at h
  split at h
  · rename_i k w ls f t l
    cases hw : Nat.beq w 3 <;> rw [hw] at h <;> simp only [cond_true, cond_false, reduceCtorEq, Option.some.injEq] at h
    have hw := beqT.1 hw
    subst hw h
    have hs : srtd ls = true := ho _ (by simp)
    have hl : lenZ ls ≤ 1000 := leI_iff.1 (ho _ (by simp))
    have hb := bsI_le ls f t
    refine ⟨by simp, ?_⟩
    rw [t108_eq]
    exact ⟨_, rfl, by simp [AllT_tt, AllT_gE, AllT_gT, AllT_nil, AllT_cons, impB_iff, leI_iff, ltI_iff, hs, hl, hb.1, eqI_iff], rfl, rfl⟩
  · cases h
def t67 (n : Net) (k1 k2 k3 : Option Bool) (f t : Int) : Tr Res :=
  let c0 := (bsI n.ls f t)
  let c1 := (getL n.ls c0)
  let c2 := ((srtd n.ls) :: ((leI (lenZ n.ls) 1000) :: (tt 12 [])))
  (.node (notB (andB (ltI c0 (lenZ n.ls)) (eqI (cmpL (getN c1 0) (getN c1 1) f t) 0))) (.leaf (some ⟨(tt 9 c2), (.int .i64 (-1)), [.junk, .junk, .junk]⟩)) (.leaf (some ⟨(tt 10 c2), (.int
  .i64 c0), [.junk, .junk, .junk]⟩)))
theorem t67_eq (n : Net) (k1 k2 k3 : Option Bool) (f t : Int) : evFT (cxs [108]) (tb [(108, s108)]) (orcT []) 67 Try.f67 [n.av k1 k2 k3, .int .i64 f, .int .i64 t] = t67 n k1 k2 k3 f t := by kernel_rfl
theorem ok67 : FnOK Try.prog 67 s67 := by
  refine fnK (.cons ok108 .nil) (fs := [108]) rfl Try.func67 rfl (by kernel_rfl) noLoops ?_
  intro bs r h ho
  obtain ⟨n, k1, k2, k3, f, t, rfl, h⟩ := on3_inv h
  cases h
  have hf : few n = true := ho _ (by simp)
  have hc := chk_zero.1 (eqI_iff.1 (show eqI (chk n) 0 = true from ho _ (by simp)))
  have hl := few_ls hf
  have hs := hc.srtd
  have hb := hc.bsI_fnd f t
  refine ⟨by simp, ?_⟩
  rw [t67_eq]
  simp only [t67, Tr.sel]
  have hl' : lenZ n.ls ≤ 1000 := by omega
  cases hx : andB (ltI (bsI n.ls f t) (lenZ n.ls)) (eqI (cmpL (getN (getL n.ls (bsI n.ls f t)) 0) (getN (getL n.ls (bsI n.ls f t)) 1) f t) 0) with
  | true =>
    simp only [andB_iff, orB_iff', notB_iff, andB_false, orB_false, notB_false, eqI_iff, eqI_false, neI_iff, neI_false, ltI_iff, ltI_false, leI_iff, leI_false, inB_iff, nodeB_iff, inB_false, nodeB_false] at hx
    have hx : bsI n.ls f t < lenZ n.ls ∧ cmpL (n.fr (bsI n.ls f t)) (n.to (bsI n.ls f t)) f t = 0 := hx
    rw [if_pos hx] at hb
    exact ⟨_, rfl, by simp [AllT_tt, AllT_gE, AllT_gT, AllT_nil, AllT_cons, impB_iff, leI_iff, ltI_iff, hs, hl'], by rw [hb], rfl⟩
  | false =>
    have hx : ¬ (bsI n.ls f t < lenZ n.ls ∧ cmpL (n.fr (bsI n.ls f t)) (n.to (bsI n.ls f t)) f t = 0) := fun c => by
      have : andB (ltI (bsI n.ls f t) (lenZ n.ls)) (eqI (cmpL (getN (getL n.ls (bsI n.ls f t)) 0) (getN (getL n.ls (bsI n.ls f t)) 1) f t) 0) = true := andB_iff.2 ⟨ltI_iff.2 c.1, eqI_iff.2 c.2⟩
      rw [hx] at this; cases this
    rw [if_neg hx] at hb
    exact ⟨_, rfl, by simp [AllT_tt, AllT_gE, AllT_gT, AllT_nil, AllT_cons, impB_iff, leI_iff, ltI_iff, hs, hl'], by rw [hb], rfl⟩
def t21 (n : Net) (k1 k2 k3 : Option Bool) (f t : Int) : Tr Res :=
  let c0 := ((few n) :: (tt 5 []))
  (.node (neI (chk n) 0) (.leaf (some ⟨(tt 4 c0), (.int .i64 (-1)), [.junk, .junk, .junk]⟩)) (.leaf (some ⟨(tt 1 ((few n) :: ((eqI (chk n) 0) :: (tt 10 c0)))), (.int .i64 (fnd n f t)),
  [.junk, .junk, .junk]⟩)))
theorem t21_eq (n : Net) (k1 k2 k3 : Option Bool) (f t : Int) : evFT (cxs [19, 67]) (tb [(19, s19), (67, s67)]) (orcT []) 21 Try.f21 [n.av k1 k2 k3, .int .i64 f, .int .i64 t] = t21 n k1 k2 k3 f t := by kernel_rfl
theorem ok21 : FnOK Try.prog 21 s21 := by
  refine fnK (.cons ok19 (.cons ok67 .nil)) (fs := [19, 67]) rfl Try.func21 rfl (by kernel_rfl) noLoops ?_
  intro bs r h ho
  obtain ⟨n, k1, k2, k3, f, t, rfl, h⟩ := on3_inv h
  cases h
  have hf : few n = true := ho _ (by simp)
  refine ⟨by simp, ?_⟩
  rw [t21_eq]
  simp only [t21, Tr.sel, idx]
  cases hx : neI (chk n) 0 with
  | true => exact ⟨_, rfl, by simp [AllT_tt, AllT_gE, AllT_gT, AllT_nil, AllT_cons, impB_iff, leI_iff, ltI_iff, hf], by rw [eqI_false.2 (neI_iff.1 hx)]; rfl, rfl⟩
  | false => exact ⟨_, rfl, by simp [AllT_tt, AllT_gE, AllT_gT, AllT_nil, AllT_cons, impB_iff, leI_iff, ltI_iff, hf, eqI_iff, neI_false.1 hx], by rw [eqI_iff.2 (neI_false.1 hx)]; rfl, rfl⟩
def t22 (n : Net) (k1 k2 k3 : Option Bool) (f t : Int) : Tr Res :=
  let c0 := ((few n) :: (tt 5 []))
  (.node (neI (chk n) 0) (.leaf (some ⟨(tt 4 c0), (.int .i64 (-1)), [.junk, .junk, .junk]⟩)) (.leaf (some ⟨(tt 1 ((few n) :: (tt 10 c0))), (.int .i64 (fnd n f t)), [.junk, .junk, .junk]⟩)))
theorem t22_eq (n : Net) (k1 k2 k3 : Option Bool) (f t : Int) : evFT (cxs [20, 68]) (tb [(20, s20), (68, s68)]) (orcT []) 22 Try.f22 [n.av k1 k2 k3, .int .i64 f, .int .i64 t] = t22 n k1 k2 k3 f t := by kernel_rfl
theorem ok22 : FnOK Try.prog 22 s22 := by
  refine fnK (.cons ok20 (.cons ok68 .nil)) (fs := [20, 68]) rfl Try.func22 rfl (by kernel_rfl) noLoops ?_
  intro bs r h ho
  obtain ⟨n, k1, k2, k3, f, t, rfl, h⟩ := on3_inv h
  cases h
  have hf : few n = true := ho _ (by simp)
  refine ⟨by simp, ?_⟩
  rw [t22_eq]
  simp only [t22, Tr.sel, idx]
  cases hx : neI (chk n) 0 with
  | true => exact ⟨_, rfl, by simp [AllT_tt, AllT_gE, AllT_gT, AllT_nil, AllT_cons, impB_iff, leI_iff, ltI_iff, hf], by rw [eqI_false.2 (neI_iff.1 hx)]; rfl, rfl⟩
  | false => exact ⟨_, rfl, by simp [AllT_tt, AllT_gE, AllT_gT, AllT_nil, AllT_cons, impB_iff, leI_iff, ltI_iff, hf, eqI_iff, neI_false.1 hx], by rw [eqI_iff.2 (neI_false.1 hx)]; rfl, rfl⟩
def t69 (n : Net) (k1 k2 k3 : Option Bool) (s d : Int) : Tr Res :=
  (.leaf (some ⟨(tt 17 []), (.bool (leI (mulI .i64 n.th (addI .i64 n.ns d)) (mulI .i64 s 1000))), [.junk, .junk, .junk]⟩))
theorem t69_eq (n : Net) (k1 k2 k3 : Option Bool) (s d : Int) : evFT (cxs []) (tb []) (orcT []) 69 Try.f69 [n.av k1 k2 k3, .int .i64 s, .int .i64 d] = t69 n k1 k2 k3 s d := by kernel_rfl
theorem ok69 : FnOK Try.prog 69 s69 := by
  refine fnK .nil (fs := []) rfl Try.func69 rfl (by kernel_rfl) noLoops ?_
  intro bs r h ho
  obtain ⟨n, k1, k2, k3, s, d, rfl, h⟩ := on3_inv h
  cases h
  refine ⟨by simp, ?_⟩
  rw [t69_eq]
  exact ⟨_, rfl, by simp [AllT_tt, AllT_gE, AllT_gT, AllT_nil, AllT_cons, impB_iff, leI_iff, ltI_iff], rfl, rfl⟩
def t70 (n : Net) (k1 k2 k3 : Option Bool) (s d : Int) : Tr Res :=
  (.leaf (some ⟨(tt 17 []), (.bool (leI (mulI .i64 n.th (addI .i64 n.ns d)) (mulI .i64 s 1000))), [.junk, .junk, .junk]⟩))
theorem t70_eq (n : Net) (k1 k2 k3 : Option Bool) (s d : Int) : evFT (cxs []) (tb []) (orcT []) 70 Try.f70 [n.av k1 k2 k3, .int .i64 s, .int .i64 d] = t70 n k1 k2 k3 s d := by kernel_rfl
theorem ok70 : FnOK Try.prog 70 s70 := by
  refine fnK .nil (fs := []) rfl Try.func70 rfl (by kernel_rfl) noLoops ?_
  intro bs r h ho
  obtain ⟨n, k1, k2, k3, s, d, rfl, h⟩ := on3_inv h
  cases h
  refine ⟨by simp, ?_⟩
  rw [t70_eq]
  exact ⟨_, rfl, by simp [AllT_tt, AllT_gE, AllT_gT, AllT_nil, AllT_cons, impB_iff, leI_iff, ltI_iff], rfl, rfl⟩
def t71 (n : Net) (k1 k2 k3 : Option Bool) (i : Int) : Tr Res :=
  let c0 := (getL n.ls i)
  let c1 := (fnd n (getN c0 1) (getN c0 0))
  let c2 := (andB (leI 0 c1) (heard n (getI n.mg i) 0))
  let c3 := (ltI i (lenZ n.ls))
  (.leaf (some ⟨(tt 2 (gE c2 (gT (notB c2) (gT c2 (gE c2 (gE c2 (gT c2 (gE c2 ((impB c2 (leI 0 c1)) :: ((impB c2 (ltI c1 (lenZ n.mg))) :: (gE c2 (gE c2 (gT c2 (gE c2 (gT c2 (gT c2 (tt 2 (gE
  (leI 0 c1) (gT (notB (leI 0 c1)) (gT (leI 0 c1) (gE (leI 0 c1) (gE (leI 0 c1) (gT (leI 0 c1) (gE (leI 0 c1) ((impB (leI 0 c1) (leI 0 i)) :: ((impB (leI 0 c1) (ltI i (lenZ n.mg))) :: (gE
  (leI 0 c1) (gE (leI 0 c1) (gT (leI 0 c1) (gE (leI 0 c1) (gT (leI 0 c1) (gT (leI 0 c1) (tt 5 ((few n) :: ((eqI (chk n) 0) :: (tt 6 ((leI 0 i) :: (c3 :: (tt 7 ((leI 0 i) :: (c3 :: (tt 8
  [])))))))))))))))))))))))))))))))))))))))))), (.bool (andB c2 (heard n (getI n.mg c1) 0))), [.junk, .junk]⟩))
theorem t71_eq (n : Net) (k1 k2 k3 : Option Bool) (i : Int) : evFT (cxs [67, 69]) (tb [(67, s67), (69, s69)]) (orcT []) 71 Try.f71 [n.av k1 k2 k3, .int .i64 i] = t71 n k1 k2 k3 i := by kernel_rfl
theorem ok71 : FnOK Try.prog 71 s71 := by
  refine fnK (.cons ok67 (.cons ok69 .nil)) (fs := [67, 69]) rfl Try.func71 rfl (by kernel_rfl) noLoops ?_
  intro bs r h ho
  obtain ⟨n, k1, k2, k3, i, rfl, h⟩ := on2_inv h
  cases h
  have hf : few n = true := ho _ (by simp)
  have hz : chk n = 0 := eqI_iff.1 (ho _ (by simp))
  have hc := chk_zero.1 hz
  have h0 : 0 ≤ i := leI_iff.1 (ho _ (by simp))
  have h1 : i < lenZ n.ls := ltI_iff.1 (ho _ (by simp))
  have hm := hc.mg
  have hq := fnd_cases n (n.to i) (n.fr i)
  have he := hc.fnd_eq h0 h1
  refine ⟨by simp, ?_⟩
  rw [t71_eq]
  simp only [t71, Tr.sel, good, he, Net.fr, Net.to] at hq ⊢
  refine ⟨_, rfl, ?_, ?_, rfl⟩
  · simp [AllT_tt, AllT_gE, AllT_gT, AllT_nil, AllT_cons, impB_iff, leI_iff, ltI_iff, andB_iff, orB_iff', notB_iff, andB_false, orB_false, notB_false, eqI_iff, eqI_false, neI_iff, neI_false, ltI_iff, ltI_false, leI_iff, leI_false, inB_iff, nodeB_iff, inB_false, nodeB_false, hf, hz, h0, h1]; omega
  · have : leI 0 i = true := leI_iff.2 h0
    have he' := he
    simp only [Net.fr, Net.to] at he'
    simp only [he', this]
    cases leI 0 (fnd n (getN (getL n.ls i) 1) (getN (getL n.ls i) 0)) <;> rfl
def t72 (n : Net) (k1 k2 k3 : Option Bool) (f t : Int) : Tr Res :=
  let c0 := (leI 0 (fnd n f t))
  let c1 := (leI 0 (fnd n t f))
  let c2 := (andB (andB c0 c1) (heard n (getI n.mg (fnd n f t)) 0))
  (.leaf (some ⟨(tt 2 (gE c2 (gT (notB c2) (gT c2 (gE c2 (gE c2 (gT c2 (gE c2 ((impB c2 c1) :: ((impB c2 (ltI (fnd n t f) (lenZ n.mg))) :: (gE c2 (gE c2 (gT c2 (gE c2 (gT c2 (gT c2 (tt 2
  (gE (andB c0 c1) (gT (notB (andB c0 c1)) (gT (andB c0 c1) (gE (andB c0 c1) (gE (andB c0 c1) (gT (andB c0 c1) (gE (andB c0 c1) ((impB (andB c0 c1) c0) :: ((impB (andB c0 c1) (ltI (fnd n f
  t) (lenZ n.mg))) :: (gE (andB c0 c1) (gE (andB c0 c1) (gT (andB c0 c1) (gE (andB c0 c1) (gT (andB c0 c1) (gT (andB c0 c1) (tt 2 (gE c0 (gT (notB c0) (gE c0 (gT c0 (gT c0 (tt 6 ((few n) ::
  (tt 7 ((few n) :: (tt 9 []))))))))))))))))))))))))))))))))))))))))))), (.bool (andB c2 (heard n (getI n.mg (fnd n t f)) 0))), [.junk, .junk, .junk]⟩))
theorem t72_eq (n : Net) (k1 k2 k3 : Option Bool) (f t : Int) : evFT (cxs [68, 70]) (tb [(68, s68), (70, s70)]) (orcT []) 72 Try.f72 [n.av k1 k2 k3, .int .i64 f, .int .i64 t] = t72 n k1 k2 k3 f t := by kernel_rfl
theorem ok72 : FnOK Try.prog 72 s72 := by
  refine fnK (.cons ok68 (.cons ok70 .nil)) (fs := [68, 70]) rfl Try.func72 rfl (by kernel_rfl) noLoops ?_
  intro bs r h ho
  obtain ⟨n, k1, k2, k3, f, t, rfl, h⟩ := on3_inv h
  cases h
  have hf : few n = true := ho _ (by simp)
  have hz : chk n = 0 := eqI_iff.1 (ho _ (by simp))
  have hm := (chk_zero.1 hz).mg
  have q1 := fnd_cases n f t
  have q2 := fnd_cases n t f
  refine ⟨by simp, ?_⟩
  rw [t72_eq]
  simp only [t72, Tr.sel, good]
  refine ⟨_, rfl, ?_, ?_, rfl⟩
  · simp [AllT_tt, AllT_gE, AllT_gT, AllT_nil, AllT_cons, impB_iff, leI_iff, ltI_iff, andB_iff, orB_iff', notB_iff, andB_false, orB_false, notB_false, eqI_iff, eqI_false, neI_iff, neI_false, ltI_iff, ltI_false, leI_iff, leI_false, inB_iff, nodeB_iff, inB_false, nodeB_false, hf]; omega
  · cases leI 0 (fnd n f t) <;> cases leI 0 (fnd n t f) <;> rfl
def t23 (n : Net) (k1 k2 k3 : Option Bool) (s d : Int) : Tr Res :=
  let c0 := (neI (chk n) 0)
  let c1 := (orB c0 (ltI (minI s d) 0))
  let c2 := (gT c1 (gE (notB c1) (gE (notB c1) (gT (notB c1) (gE (notB c1) (gE (notB c1) (gT (notB c1) (gT (notB c1) (tt 2 (gT c0 (gE (notB c0) (gE (notB c0) (gT (notB c0) (gE (notB c0) (gE
  (notB c0) (gT (notB c0) (gT (notB c0) (tt 3 ((few n) :: (tt 5 []))))))))))))))))))))
  (.node (orB c1 (ltI 8796093022208 (maxI s d))) (.leaf (some ⟨(tt 3 c2), (.bool false), [.junk, .junk, .junk]⟩)) (.leaf (some ⟨(tt 10 c2), (.bool (heard n s d)), [.junk, .junk, .junk]⟩)))
theorem t23_eq (n : Net) (k1 k2 k3 : Option Bool) (s d : Int) : evFT (cxs [19, 69]) (tb [(19, s19), (69, s69)]) (orcT []) 23 Try.f23 [n.av k1 k2 k3, .int .i64 s, .int .i64 d] = t23 n k1 k2 k3 s d := by kernel_rfl
def t24 (n : Net) (k1 k2 k3 : Option Bool) (s d : Int) : Tr Res :=
  let c0 := (eqI (chk n) 0)
  let c1 := (andB c0 (inB s 0 8796093022208))
  let c2 := (andB c1 (inB d 0 8796093022208))
  (.leaf (some ⟨(tt 2 (gE c2 (gT (notB c2) (gT c2 (gE c2 (gE c2 (gE c2 (gT c2 (gT c2 (gT c2 (tt 2 (gE c1 (gT (notB c1) (gT c1 (gE c1 (gT c1 (gT c1 (gT c1 (tt 2 (gE c0 (gT (notB c0) (gT c0
  (gE c0 (gT c0 (gT c0 (gT c0 (tt 3 ((few n) :: (tt 5 []))))))))))))))))))))))))))))), (.bool (andB c2 (heard n s d))), [.junk, .junk, .junk]⟩))
theorem t24_eq (n : Net) (k1 k2 k3 : Option Bool) (s d : Int) : evFT (cxs [20, 64, 70]) (tb [(20, s20), (64, s64), (70, s70)]) (orcT []) 24 Try.f24 [n.av k1 k2 k3, .int .i64 s, .int .i64 d] = t24 n k1 k2 k3 s d := by kernel_rfl
def t25 (n : Net) (k1 k2 k3 : Option Bool) (i : Int) : Tr Res :=
  let c0 := (eqI (chk n) 0)
  let c1 := (andB c0 (leI 0 i))
  let c2 := (ltI i (lenZ n.ls))
  let c3 := (getL n.ls i)
  (.leaf (some ⟨(tt 2 (gE (andB c1 c2) (gT (notB (andB c1 c2)) ((impB (andB c1 c2) (few n)) :: ((impB (andB c1 c2) c0) :: ((impB (andB c1 c2) (leI 0 i)) :: ((impB (andB c1 c2) c2) :: (gT
  (andB c1 c2) (gE (andB c1 c2) (gE (andB c1 c2) (gT (andB c1 c2) (gT (andB c1 c2) (tt 2 (gE c1 (gT (notB c1) (gE c1 (gE c1 (gE c1 (gE c1 (gT c1 (gT c1 (tt 2 (gE c0 (gT (notB c0) (gE c0 (gT
  c0 (gT c0 (tt 3 ((few n) :: (tt 5 [])))))))))))))))))))))))))))))), (.bool (andB (andB c1 c2) (good n (getN c3 0) (getN c3 1)))), [.junk, .junk]⟩))
theorem t25_eq (n : Net) (k1 k2 k3 : Option Bool) (i : Int) : evFT (cxs [19, 71]) (tb [(19, s19), (71, s71)]) (orcT []) 25 Try.f25 [n.av k1 k2 k3, .int .i64 i] = t25 n k1 k2 k3 i := by kernel_rfl
def t26 (n : Net) (k1 k2 k3 : Option Bool) (i : Int) : Tr Res :=
  let c0 := (eqI (chk n) 0)
  let c1 := (andB c0 (inB i 0 (sbI .i64 (lenZ n.ls) 1)))
  let c2 := (impB c1 (leI 0 i))
  let c3 := (impB c1 (ltI i (lenZ n.ls)))
  let c4 := (getL n.ls i)
  (.leaf (some ⟨(tt 2 (gE c1 (gT (notB c1) ((impB c1 (few n)) :: ((impB c1 c0) :: (gT c1 (gE c1 (gE c1 (gE c1 (gE c1 (gE c1 (c2 :: (c3 :: (gE c1 (gE c1 (gT c1 (gE c1 (gT c1 (gE c1 (gE c1
  (c2 :: (c3 :: (gE c1 (gE c1 (gT c1 (gE c1 (gT c1 (gT c1 (tt 2 (gE c0 (gT (notB c0) (gT c0 (gE c0 (gT c0 (gE c0 (gE c0 (gT c0 (gE c0 (gE c0 (gT c0 (gT c0 (tt 3 ((few n) :: (tt 5
  [])))))))))))))))))))))))))))))))))))))))))))), (.bool (andB c1 (good n (getN c4 0) (getN c4 1)))), [.junk, .junk]⟩))
theorem t26_eq (n : Net) (k1 k2 k3 : Option Bool) (i : Int) : evFT (cxs [20, 64, 72]) (tb [(20, s20), (64, s64), (72, s72)]) (orcT []) 26 Try.f26 [n.av k1 k2 k3, .int .i64 i] = t26 n k1 k2 k3 i := by kernel_rfl
theorem ok23 : FnOK Try.prog 23 s23 := by
  refine fnK (.cons ok19 (.cons ok69 .nil)) (fs := [19, 69]) rfl Try.func23 rfl (by kernel_rfl) noLoops ?_
  intro bs r h ho
  obtain ⟨n, k1, k2, k3, s, d, rfl, h⟩ := on3_inv h
  cases h
  have hf : few n = true := ho _ (by simp)
  refine ⟨by simp, ?_⟩
  rw [t23_eq]
  have hx : orB (orB (neI (chk n) 0) (ltI (minI s d) 0)) (ltI 8796093022208 (maxI s d)) = notB (andB (eqI (chk n) 0) (andB (inB s 0 8796093022208) (inB d 0 8796093022208))) := Beq (by
    simp only [andB_iff, orB_iff', notB_iff, andB_false, orB_false, notB_false, eqI_iff, eqI_false, neI_iff, neI_false, ltI_iff, ltI_false, leI_iff, leI_false, inB_iff, nodeB_iff, inB_false, nodeB_false, minI, maxI]
    split <;> split <;> omega)
  simp only [t23, Tr.sel, hrs, hx]
  cases hy : andB (eqI (chk n) 0) (andB (inB s 0 8796093022208) (inB d 0 8796093022208)) with
  | true =>
    simp only [andB_iff] at hy
    exact ⟨_, rfl, by simp [AllT_tt, AllT_gE, AllT_gT, AllT_nil, AllT_cons, impB_iff, leI_iff, ltI_iff, hf], by rw [hy.1, hy.2.1, hy.2.2]; rfl, rfl⟩
  | false =>
    refine ⟨_, rfl, by simp [AllT_tt, AllT_gE, AllT_gT, AllT_nil, AllT_cons, impB_iff, leI_iff, ltI_iff, hf], ?_, rfl⟩
    rw [← andB_assoc, ← andB_assoc, andB_assoc (a := eqI (chk n) 0), hy]
    rfl
theorem ok24 : FnOK Try.prog 24 s24 := by
  refine fnK (.cons ok20 (.cons ok64 (.cons ok70 .nil))) (fs := [20, 64, 70]) rfl Try.func24 rfl (by kernel_rfl) noLoops ?_
  intro bs r h ho
  obtain ⟨n, k1, k2, k3, s, d, rfl, h⟩ := on3_inv h
  cases h
  have hf : few n = true := ho _ (by simp)
  refine ⟨by simp, ?_⟩
  rw [t24_eq]
  exact ⟨_, rfl, by simp [AllT_tt, AllT_gE, AllT_gT, AllT_nil, AllT_cons, impB_iff, leI_iff, ltI_iff, hf], by simp only [hrs, andB_assoc], rfl⟩
theorem ok25 : FnOK Try.prog 25 s25 := by
  refine fnK (.cons ok19 (.cons ok71 .nil)) (fs := [19, 71]) rfl Try.func25 rfl (by kernel_rfl) noLoops ?_
  intro bs r h ho
  obtain ⟨n, k1, k2, k3, i, rfl, h⟩ := on2_inv h
  cases h
  have hf : few n = true := ho _ (by simp)
  refine ⟨by simp, ?_⟩
  rw [t25_eq]
  exact ⟨_, rfl, by simp [AllT_tt, AllT_gE, AllT_gT, AllT_nil, AllT_cons, impB_iff, leI_iff, ltI_iff, andB_iff, orB_iff', notB_iff, andB_false, orB_false, notB_false, eqI_iff, eqI_false, neI_iff, neI_false, ltI_iff, ltI_false, leI_iff, leI_false, inB_iff, nodeB_iff, inB_false, nodeB_false, hf]; omega, by simp only [usb, andB_assoc, Net.fr, Net.to], rfl⟩
theorem ok26 : FnOK Try.prog 26 s26 := by
  refine fnK (.cons ok20 (.cons ok64 (.cons ok72 .nil))) (fs := [20, 64, 72]) rfl Try.func26 rfl (by kernel_rfl) noLoops ?_
  intro bs r h ho
  obtain ⟨n, k1, k2, k3, i, rfl, h⟩ := on2_inv h
  cases h
  have hf : few n = true := ho _ (by simp)
  have hl := few_ls hf
  have e1 : sbI .i64 (lenZ n.ls) 1 = lenZ n.ls - 1 := sbI_in (by simp only [lenZ]; omega) (by omega)
  have e2 : inB i 0 (lenZ n.ls - 1) = andB (leI 0 i) (ltI i (lenZ n.ls)) := Beq (by simp only [andB_iff, orB_iff', notB_iff, andB_false, orB_false, notB_false, eqI_iff, eqI_false, neI_iff, neI_false, ltI_iff, ltI_false, leI_iff, leI_false, inB_iff, nodeB_iff, inB_false, nodeB_false]; omega)
  refine ⟨by simp, ?_⟩
  rw [t26_eq]
  simp only [t26, Tr.sel, e1, e2]
  exact ⟨_, rfl, by simp [AllT_tt, AllT_gE, AllT_gT, AllT_nil, AllT_cons, impB_iff, leI_iff, ltI_iff, andB_iff, orB_iff', notB_iff, andB_false, orB_false, notB_false, eqI_iff, eqI_false, neI_iff, neI_false, ltI_iff, ltI_false, leI_iff, leI_false, inB_iff, nodeB_iff, inB_false, nodeB_false, hf]; omega, by simp only [usb, andB_assoc, Net.fr, Net.to], rfl⟩
end Go.Sx
