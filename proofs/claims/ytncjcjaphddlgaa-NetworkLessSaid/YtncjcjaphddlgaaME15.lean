/-
  The walks of Without and Weaker, and their references. No condition beyond those that each theorem names.
-/
import Derived.Test.YtncjcjaphddlgaaME14
import Derived.Test.YtncjcjaphddlgaaS6
set_option linter.unusedVariables false
set_option linter.unusedSimpArgs false
set_option maxRecDepth 100000
namespace Go.Sx
open Go Go.Proofs

def t98 (xs : List (List Int)) (i j : Int) : Tr Res :=
  let c0 := (leI j (lenZ xs))
  let c1 := ((leI 0 i) :: ((leI i j) :: (c0 :: ((leI (lenZ xs) (lenZ xs)) :: (tt 10 [])))))
  let c2 := (plZ i (mnZ (lenZ xs) j))
  let c3 := (plZ 0 (lenZ xs))
  let c4 := (catL (catL (subL xs 0 i) (subL xs j (lenZ xs))) (subL xs c2 (lenZ xs)))
  (.node (eqI i j) (.leaf (some ⟨(tt 7 c1), (.osl none (.st 3 xs)), [.junk, .junk, .junk]⟩)) (.leaf (some ⟨(tt 3 ((leI 0 (mnZ c2 0)) :: ((leI (mnZ c2 0) (lenZ xs)) :: ((leI c3 (lenZ c4)) ::
  (tt 8 ((eqI 0 0) :: ((leI c2 (lenZ xs)) :: (tt 2 ((leI 0 j) :: (c0 :: (tt 4 ((leI 0 0) :: ((leI 0 i) :: ((leI i (lenZ xs)) :: (tt 12 c1))))))))))))))), (.osl none (.st 3 (subL (zerL c4
  (plZ 0 (mnZ c2 0)) c3 []) 0 c2))), [.junk, .junk, .junk]⟩)))
theorem t98_eq (xs : List (List Int)) (i j : Int) : evFT (cxs []) (tb []) (orcT []) 98 Try.f98 [.osl none (.st 3 xs), .int .i64 i, .int .i64 j] = t98 xs i j := by kernel_rfl
theorem takeA {α : Type} {A B : List α} {m : Nat} (h : A.length = m) : List.take m (A ++ B) = A := by subst h; simp
theorem subL_take {α : Type} {xs : List α} {i : Int} : subL xs 0 i = xs.take i.toNat := by simp [subL]
theorem subL_drop {α : Type} {xs : List α} {i : Int} (h0 : 0 ≤ i) (h : i ≤ lenZ xs) : subL xs i (lenZ xs) = xs.drop i.toNat := by
  simp only [subL]
  refine List.take_of_length_le ?_
  simp only [lenZ, List.length_drop] at h ⊢
  omega
theorem del_eq {α : Type} {xs : List α} {i j : Int} {z : α} (h0 : 0 ≤ i) (h1 : i < lenZ xs) (hj : j = i + 1) :
    subL (zerL (catL (catL (subL xs 0 i) (subL xs j (lenZ xs))) (subL xs (plZ i (mnZ (lenZ xs) j)) (lenZ xs))) (plZ 0 (mnZ (plZ i (mnZ (lenZ xs) j)) 0)) (plZ 0 (lenZ xs)) z) 0 (plZ i (mnZ (lenZ xs) j)) = delS xs i := by
  subst hj
  have hl : lenZ xs = (xs.length : Int) := rfl
  rw [hl] at h1
  have e1 : plZ i (mnZ (lenZ xs) (i + 1)) = ((xs.length - 1 : Nat) : Int) := by simp only [plZ, mnZ, hl]; omega
  have hd : (delS xs i).length = xs.length - 1 := by simp [delS]; omega
  have ed : catL (subL xs 0 i) (subL xs (i + 1) (lenZ xs)) = delS xs i := by
    rw [subL_take, subL_drop (by omega) (by rw [hl]; omega)]
    simp [catL, delS, show (i + 1).toNat = i.toNat + 1 by omega]
  rw [e1, ed]
  have e2 : plZ 0 (mnZ ((xs.length - 1 : Nat) : Int) 0) = ((xs.length - 1 : Nat) : Int) := by simp only [plZ, mnZ]; omega
  rw [e2]
  simp only [subL, zerL, cpyL, catL]
  rw [show (((xs.length - 1 : Nat) : Int) - 0).toNat = xs.length - 1 by omega, show ((xs.length - 1 : Nat) : Int).toNat = xs.length - 1 by omega]
  simp only [Int.toNat_zero, List.drop_zero, List.append_assoc, takeA hd]
theorem mn1 {n i : Int} : mnZ (plZ i (mnZ n (i + 1))) 0 = n - 1 := by simp only [mnZ, plZ]; omega
theorem pl1 {n i : Int} : plZ i (mnZ n (i + 1)) = n - 1 := by simp only [mnZ, plZ]; omega
theorem catlen {α : Type} {xs : List α} {i : Int} (h0 : 0 ≤ i) (h1 : i < lenZ xs) : lenZ xs ≤ lenZ (catL (catL (subL xs 0 i) (subL xs (i + 1) (lenZ xs))) (subL xs (lenZ xs - 1) (lenZ xs))) := by
  have hl : lenZ xs = (xs.length : Int) := rfl
  rw [hl] at h1
  rw [subL_take, subL_drop (by omega) (by rw [hl]; omega), subL_drop (by rw [hl]; omega) (by rw [hl]; omega)]
  simp only [lenZ, catL, List.length_append, List.length_take, List.length_drop]
  omega
theorem ok98 : FnOK Try.prog 98 s98 := by
  refine fnK .nil (fs := []) rfl Try.func98 rfl (by kernel_rfl) noLoops ?_
  intro bs r h ho
  unfold s98 at h
  split at h
  · rename_i w xs i j
    cases hw : Nat.beq w 3 <;> rw [hw] at h <;> simp only [cond_true, cond_false, reduceCtorEq] at h
    have := beqT.1 hw
    subst this
    cases h
    have h0 : 0 ≤ i := leI_iff.1 (ho (leI 0 i) (by simp))
    have h1 : i < lenZ xs := ltI_iff.1 (ho (ltI i (lenZ xs)) (by simp))
    have h2 : j = i + 1 := eqI_iff.1 (ho (eqI j (plZ i 1)) (by simp))
    have h3 : lenZ xs ≤ 1000 := leI_iff.1 (ho (leI (lenZ xs) 1000) (by simp))
    refine ⟨by simp, ?_⟩
    rw [t98_eq]
    have hne : eqI i j = false := eqI_false.2 (by omega)
    simp only [t98, Tr.sel, hne]
    refine ⟨_, rfl, ?_, by rw [del_eq h0 h1 h2], rfl⟩
    subst h2
    have := catlen h0 h1
    simp only [pl1, mn1] at *
    simp [AllT_tt, AllT_gE, AllT_gT, AllT_nil, AllT_cons, impB_iff, leI_iff, ltI_iff, eqI_rfl, eqLI_rfl, eqRs_rfl, eqBs_rfl, iteB_rfl, AllT_true, plZ, mnZ]
    omega
  · cases h
def t99 (xs : List Int) (i j : Int) : Tr Res :=
  let c0 := (leI j (lenZ xs))
  let c1 := ((leI 0 i) :: ((leI i j) :: (c0 :: ((leI (lenZ xs) (lenZ xs)) :: (tt 10 [])))))
  let c2 := (plZ i (mnZ (lenZ xs) j))
  let c3 := (plZ 0 (lenZ xs))
  let c4 := (catL (catL (subL xs 0 i) (subL xs j (lenZ xs))) (subL xs c2 (lenZ xs)))
  (.node (eqI i j) (.leaf (some ⟨(tt 7 c1), (.osl none (.i1 xs)), [.junk, .junk, .junk]⟩)) (.leaf (some ⟨(tt 3 ((leI 0 (mnZ c2 0)) :: ((leI (mnZ c2 0) (lenZ xs)) :: ((leI c3 (lenZ c4)) ::
  (tt 8 ((eqI 0 0) :: ((leI c2 (lenZ xs)) :: (tt 2 ((leI 0 j) :: (c0 :: (tt 4 ((leI 0 0) :: ((leI 0 i) :: ((leI i (lenZ xs)) :: (tt 12 c1))))))))))))))), (.osl none (.i1 (subL (zerL c4 (plZ
  0 (mnZ c2 0)) c3 0) 0 c2))), [.junk, .junk, .junk]⟩)))
theorem t99_eq (xs : List Int) (i j : Int) : evFT (cxs []) (tb []) (orcT []) 99 Try.f99 [.osl none (.i1 xs), .int .i64 i, .int .i64 j] = t99 xs i j := by kernel_rfl
theorem ok99 : FnOK Try.prog 99 s99 := by
  refine fnK .nil (fs := []) rfl Try.func99 rfl (by kernel_rfl) noLoops ?_
  intro bs r h ho
  unfold s99 at h
  split at h
  · rename_i xs i j
    cases h
    have h0 : 0 ≤ i := leI_iff.1 (ho (leI 0 i) (by simp))
    have h1 : i < lenZ xs := ltI_iff.1 (ho (ltI i (lenZ xs)) (by simp))
    have h2 : j = i + 1 := eqI_iff.1 (ho (eqI j (plZ i 1)) (by simp))
    have h3 : lenZ xs ≤ 1000 := leI_iff.1 (ho (leI (lenZ xs) 1000) (by simp))
    refine ⟨by simp, ?_⟩
    rw [t99_eq]
    have hne : eqI i j = false := eqI_false.2 (by omega)
    simp only [t99, Tr.sel, hne]
    refine ⟨_, rfl, ?_, by rw [del_eq h0 h1 h2], rfl⟩
    subst h2
    have := catlen h0 h1
    simp only [pl1, mn1] at *
    simp [AllT_tt, AllT_gE, AllT_gT, AllT_nil, AllT_cons, impB_iff, leI_iff, ltI_iff, eqI_rfl, eqLI_rfl, eqRs_rfl, eqBs_rfl, iteB_rfl, AllT_true, plZ, mnZ]
    omega
  · cases h
def t52 (n : Net) (f t : Int) : Tr Res :=
  let c0 := ((few n) :: (tt 5 []))
  let c1 := (tt 8 ((few n) :: ((eqI (chk n) 0) :: (tt 10 c0))))
  let c2 := (leI 0 (fnd n f t))
  let c3 := (addI .i64 (fnd n f t) 1)
  let c4 := (eqI c3 (plZ (fnd n f t) 1))
  let c5 := (eqI (fnd n f t) (fnd n f t))
  (.node (neI (chk n) 0) (.leaf (some ⟨(tt 6 c0), (.tup [(.agg [(.int .i64 0), .nils, (.int .i64 0), (.int .i64 0), .nils, .nils]), (.int .i64 1)]), [.junk, .junk, .junk]⟩)) (.node (ltI
  (fnd n f t) 0) (.leaf (some ⟨c1, (.tup [(.agg [(.int .i64 0), .nils, (.int .i64 0), (.int .i64 0), .nils, .nils]), (.int .i64 7)]), [.junk, .junk, .junk]⟩)) (.leaf (some ⟨(tt 9 (c2 ::
  ((ltI (fnd n f t) (lenZ n.mg)) :: (c4 :: ((leI (lenZ n.mg) 1000) :: (tt 5 (c2 :: ((ltI (fnd n f t) (lenZ n.ls)) :: (c4 :: ((leI (lenZ n.ls) 1000) :: (tt 7 (c5 :: (tt 1 (c5 :: (tt 2 ((eqI
  c3 c3) :: (tt 4 (c5 :: (tt 1 (c5 :: (tt 2 ((eqI c3 c3) :: (tt 3 (c5 :: (tt 1 (c5 :: (tt 2 ((eqI c3 c3) :: (tt 2 ((few n) :: c1)))))))))))))))))))))))))))))), (.tup [(.agg [(.int .i64
  n.nd), (.osl (some true) (.rows n.pw)), (.int .i64 n.ns), (.int .i64 n.th), (.osl none (.st 3 (delS n.ls (fnd n f t)))), (.osl none (.i1 (delS n.mg (fnd n f t))))]), (.int .i64 0)]),
  [.junk, .junk, .junk]⟩))))
theorem t52_eq (n : Net) (f t : Int) : evFT (cxs [19, 67, 97, 98, 99]) (tb [(19, s19), (67, s67), (97, s97), (98, s98), (99, s99)]) (orcT []) 52 Try.f52 [n.av none none none, .int .i64 f, .int .i64 t] = t52 n f t := by kernel_rfl
theorem ok52 : FnOK Try.prog 52 s52 := by
  refine FnOK.net3 (a := a52) ?_
  refine fnKw (.cons ok19 (.cons ok67 (.cons ok97 (.cons ok98 (.cons ok99 .nil))))) (fs := [19, 67, 97, 98, 99]) rfl Try.func52 rfl (by kernel_rfl) noLoops ?_
  intro bs r h ho
  obtain ⟨n, f, t, rfl, h⟩ := on3n_inv h
  cases h
  have hf : few n = true := ho (few n) (by simp)
  have hls := few_ls hf
  have hmg := few_mg hf
  refine ⟨by simp, ?_⟩
  rw [t52_eq]
  have hne : neI (chk n) 0 = notB (eqI (chk n) 0) := Beq (by simp only [andB_iff, orB_iff', notB_iff, andB_false, orB_false, notB_false, eqI_iff, eqI_false, neI_iff, neI_false, ltI_iff, ltI_false, leI_iff, leI_false, inB_iff, nodeB_iff, inB_false, nodeB_false])
  have hlt : ltI (fnd n f t) 0 = notB (leI 0 (fnd n f t)) := Beq (by simp only [andB_iff, orB_iff', notB_iff, andB_false, orB_false, notB_false, eqI_iff, eqI_false, neI_iff, neI_false, ltI_iff, ltI_false, leI_iff, leI_false, inB_iff, nodeB_iff, inB_false, nodeB_false]; omega)
  simp only [t52, Tr.sel, hne, hlt]
  cases hc : eqI (chk n) 0 with
  | false => exact ⟨_, rfl, by simp [AllT_tt, AllT_gE, AllT_gT, AllT_nil, AllT_cons, impB_iff, leI_iff, ltI_iff, hf], by simp only [woN, woE, hc, andB_f, cond_false]; (refine LesT.net ?_ _; exact ⟨LesC.refl _, LesC.nils rfl, LesC.refl _, LesC.refl _, LesC.nils rfl, LesC.nils rfl, trivial⟩), rfl⟩
  | true =>
    cases hi : leI 0 (fnd n f t) with
    | false => exact ⟨_, rfl, by simp [AllT_tt, AllT_gE, AllT_gT, AllT_nil, AllT_cons, impB_iff, leI_iff, ltI_iff, hf, eqI_iff.1 hc, eqI_iff], by simp only [woN, woE, hc, hi, andB_t, cond_false, cond_true]; (refine LesT.net ?_ _; exact ⟨LesC.refl _, LesC.nils rfl, LesC.refl _, LesC.refl _, LesC.nils rfl, LesC.nils rfl, trivial⟩), rfl⟩
    | true =>
      have hi0 := leI_iff.1 hi
      have hil : fnd n f t < lenZ n.ls := by rcases fnd_cases n f t with e | e <;> omega
      have hml : lenZ n.mg = lenZ n.ls := (chk_zero.1 (eqI_iff.1 hc)).mg
      have hadd : addI .i64 (fnd n f t) 1 = fnd n f t + 1 := addI_in (by omega) (by omega)
      exact ⟨_, rfl, by simp [AllT_tt, AllT_gE, AllT_gT, AllT_nil, AllT_cons, impB_iff, leI_iff, ltI_iff, eqI_rfl, eqLI_rfl, eqRs_rfl, eqBs_rfl, iteB_rfl, AllT_true, hf, eqI_iff, hadd, plZ]; omega, by simp only [woN, woE, hc, hi, andB_t, cond_true]; (refine LesT.net ?_ _; exact ⟨LesC.refl _, LesC.osl _ _, LesC.refl _, LesC.refl _, LesC.osl _ _, LesC.osl _ _, trivial⟩), rfl⟩
def t53 (n : Net) (f t : Int) : Tr Res :=
  let c0 := ((few n) :: (tt 5 []))
  let c1 := (tt 8 ((few n) :: (tt 10 c0)))
  let c2 := (subL n.mg 0 (fnd n f t))
  let c3 := (addI .i64 (fnd n f t) 1)
  let c4 := (subL n.mg c3 (lenZ n.mg))
  let c5 := (catL (catL [] c2) c4)
  let c6 := (eqLI n.mg n.mg)
  let c7 := (eqI (fnd n f t) (fnd n f t))
  let c8 := (leI c3 (lenZ n.mg))
  let c9 := (leI 0 (fnd n f t))
  let c10 := (leI (fnd n f t) (lenZ n.mg))
  let c11 := (subL n.ls 0 (fnd n f t))
  let c12 := (catL [] c11)
  let c13 := (subL n.ls c3 (lenZ n.ls))
  let c14 := (catL c12 c13)
  let c15 := (eqRs n.ls n.ls)
  let c16 := (leI c3 (lenZ n.ls))
  let c17 := (eqRs c13 c13)
  let c18 := (leI (fnd n f t) (lenZ n.ls))
  let c19 := (eqRs c11 c11)
  (.node (neI (chk n) 0) (.leaf (some ⟨(tt 6 c0), (.tup [(.agg [(.int .i64 0), .nils, (.int .i64 0), (.int .i64 0), .nils, .nils]), (.int .i64 1)]), [.junk, .junk, .junk]⟩)) (.node (ltI
  (fnd n f t) 0) (.leaf (some ⟨c1, (.tup [(.agg [(.int .i64 0), .nils, (.int .i64 0), (.int .i64 0), .nils, .nils]), (.int .i64 7)]), [.junk, .junk, .junk]⟩)) (.leaf (some ⟨(tt 6 ((leI
  (lenZ c5) 1000000000) :: (tt 3 ((leI (lenZ (catL [] c2)) 1000000000) :: (tt 4 (c6 :: (tt 1 (c7 :: (tt 2 ((eqI c3 c3) :: ((leI 0 c3) :: (c8 :: (tt 2 ((eqLI c4 c4) :: (tt 2 (c6 :: (tt 1 (c7
  :: ((leI 0 0) :: (c9 :: (c10 :: (tt 2 ((eqLI c2 c2) :: (tt 2 (c6 :: (tt 1 (c7 :: (tt 2 ((eqI c3 c3) :: ((leI 0 c3) :: (c8 :: (tt 2 ((eqLI c4 c4) :: (tt 2 (c6 :: (tt 1 (c7 :: ((leI 0 0) ::
  (c9 :: (c10 :: (tt 2 ((eqLI c2 c2) :: (tt 2 (c6 :: (tt 1 (c7 :: (tt 2 ((eqI c3 c3) :: ((leI 0 c3) :: (c8 :: (tt 2 ((eqLI c4 c4) :: (tt 2 ((leI (lenZ c14) 1000000000) :: (tt 3 ((leI (lenZ
  c12) 1000000000) :: (tt 4 (c15 :: (tt 1 (c7 :: (tt 2 ((eqI c3 c3) :: ((leI 0 c3) :: (c16 :: (tt 2 (c17 :: (tt 2 (c15 :: (tt 1 (c7 :: ((leI 0 0) :: (c9 :: (c18 :: (tt 2 (c19 :: (tt 2 (c15
  :: (tt 1 (c7 :: (tt 2 ((eqI c3 c3) :: ((leI 0 c3) :: (c16 :: (tt 2 (c17 :: (tt 2 (c15 :: (tt 1 (c7 :: ((leI 0 0) :: (c9 :: (c18 :: (tt 2 (c19 :: (tt 2 (c15 :: (tt 1 (c7 :: (tt 2 ((eqI c3
  c3) :: ((leI 0 c3) :: (c16 :: (tt 2 (c17 :: (tt 2 ((few n) :: c1)))))))))))))))))))))))))))))))))))))))))))))))))))))))))))))))))))))))))))))))))))))))))))))))))))))))))), (.tup [(.agg
  [(.int .i64 n.nd), (.osl (some true) (.rows n.pw)), (.int .i64 n.ns), (.int .i64 n.th), (.osl (some (orB (nonE c13) (impB (nonE c11) true))) (.st 3 c14)), (.osl (some (orB (nonE c4) (impB
  (nonE c2) true))) (.i1 c5))]), (.int .i64 0)]), [.junk, .junk, .junk]⟩))))
theorem t53_eq (n : Net) (f t : Int) : evFT (cxs [20, 51, 68]) (tb [(20, s20), (51, s51), (68, s68)]) (orcT []) 53 Try.f53 [n.av none none none, .int .i64 f, .int .i64 t] = t53 n f t := by kernel_rfl
theorem ok53 : FnOK Try.prog 53 s53 := by
  refine FnOK.net3 (a := a52) ?_
  refine fnKw (.cons ok20 (.cons ok51 (.cons ok68 .nil))) (fs := [20, 51, 68]) rfl Try.func53 rfl (by kernel_rfl) noLoops ?_
  intro bs r h ho
  obtain ⟨n, f, t, rfl, h⟩ := on3n_inv h
  cases h
  have hf : few n = true := ho (few n) (by simp)
  have hls := few_ls hf
  have hmg := few_mg hf
  refine ⟨by simp, ?_⟩
  rw [t53_eq]
  have hne : neI (chk n) 0 = notB (eqI (chk n) 0) := Beq (by simp only [andB_iff, orB_iff', notB_iff, andB_false, orB_false, notB_false, eqI_iff, eqI_false, neI_iff, neI_false, ltI_iff, ltI_false, leI_iff, leI_false, inB_iff, nodeB_iff, inB_false, nodeB_false])
  have hlt : ltI (fnd n f t) 0 = notB (leI 0 (fnd n f t)) := Beq (by simp only [andB_iff, orB_iff', notB_iff, andB_false, orB_false, notB_false, eqI_iff, eqI_false, neI_iff, neI_false, ltI_iff, ltI_false, leI_iff, leI_false, inB_iff, nodeB_iff, inB_false, nodeB_false]; omega)
  simp only [t53, Tr.sel, hne, hlt]
  cases hc : eqI (chk n) 0 with
  | false => exact ⟨_, rfl, by simp [AllT_tt, AllT_gE, AllT_gT, AllT_nil, AllT_cons, impB_iff, leI_iff, ltI_iff, hf], by simp only [woN, woE, hc, andB_f, cond_false]; (refine LesT.net ?_ _; exact ⟨LesC.refl _, LesC.nils rfl, LesC.refl _, LesC.refl _, LesC.nils rfl, LesC.nils rfl, trivial⟩), rfl⟩
  | true =>
    cases hi : leI 0 (fnd n f t) with
    | false => exact ⟨_, rfl, by simp [AllT_tt, AllT_gE, AllT_gT, AllT_nil, AllT_cons, impB_iff, leI_iff, ltI_iff, hf, eqI_iff.1 hc, eqI_iff], by simp only [woN, woE, hc, hi, andB_t, cond_false, cond_true]; (refine LesT.net ?_ _; exact ⟨LesC.refl _, LesC.nils rfl, LesC.refl _, LesC.refl _, LesC.nils rfl, LesC.nils rfl, trivial⟩), rfl⟩
    | true =>
      have hi0 := leI_iff.1 hi
      have hil : fnd n f t < lenZ n.ls := by rcases fnd_cases n f t with e | e <;> omega
      have hml : lenZ n.mg = lenZ n.ls := (chk_zero.1 (eqI_iff.1 hc)).mg
      have hadd : addI .i64 (fnd n f t) 1 = fnd n f t + 1 := addI_in (by omega) (by omega)
      have l1 : lenZ (subL n.ls 0 (fnd n f t)) ≤ 60 := by rw [subL_take]; simp only [lenZ, List.length_take] at hls ⊢; omega
      have l2 : lenZ (subL n.mg 0 (fnd n f t)) ≤ 60 := by rw [subL_take]; simp only [lenZ, List.length_take] at hmg ⊢; omega
      have e1 : catL (catL [] (subL n.ls 0 (fnd n f t))) (subL n.ls (fnd n f t + 1) (lenZ n.ls)) = delS n.ls (fnd n f t) := by
        rw [catL_nil, subL_take, subL_drop (by omega) (by omega)]
        simp [catL, delS, show (fnd n f t + 1).toNat = (fnd n f t).toNat + 1 by omega]
      have e2 : catL (catL [] (subL n.mg 0 (fnd n f t))) (subL n.mg (fnd n f t + 1) (lenZ n.mg)) = delS n.mg (fnd n f t) := by
        rw [catL_nil, subL_take, subL_drop (by omega) (by omega)]
        simp [catL, delS, show (fnd n f t + 1).toNat = (fnd n f t).toNat + 1 by omega]
      have d1 : lenZ (delS n.ls (fnd n f t)) ≤ 60 := by simp only [lenZ, delS, List.length_append, List.length_take, List.length_drop] at hls ⊢; omega
      have d2 : lenZ (delS n.mg (fnd n f t)) ≤ 60 := by simp only [lenZ, delS, List.length_append, List.length_take, List.length_drop] at hmg ⊢; omega
      simp only [hadd, e1, e2]
      refine ⟨_, rfl, ?_, by simp only [woN, woE, hc, hi, andB_t, cond_true]; (refine LesT.net ?_ _; exact ⟨LesC.refl _, LesC.osl _ _, LesC.refl _, LesC.refl _, LesC.osl _ _, LesC.osl _ _, trivial⟩), rfl⟩
      simp only [AllT_tt, AllT_gE, AllT_gT, AllT_nil, AllT_cons, impB_iff, leI_iff, ltI_iff, eqI_rfl, eqLI_rfl, eqRs_rfl, eqBs_rfl, iteB_rfl, AllT_true, hf, catL_nil, true_and, and_true]
      omega
def t54 (n : Net) (f t m : Int) : Tr Res :=
  let c0 := ((few n) :: (tt 5 []))
  let c1 := ((few n) :: ((eqI (chk n) 0) :: (tt 10 c0)))
  let c2 := (getL n.ls (fnd n f t))
  let c3 := (notB (ltI m 0))
  let c4 := (leI 0 (fnd n f t))
  let c5 := (ltI (fnd n f t) (lenZ n.ls))
  let c6 := (tt 5 (gT (ltI m 0) (gE c3 (gE c3 (gE c3 (gT c3 (gE c3 (gE c3 (gE c3 ((impB c3 c4) :: ((impB c3 c5) :: (gE c3 (gE c3 (gT c3 (gE c3 (gT c3 (gT c3 (tt 9 c1))))))))))))))))))
  (.node (neI (chk n) 0) (.leaf (some ⟨(tt 6 c0), (.tup [(.agg [(.int .i64 0), .nils, (.int .i64 0), (.int .i64 0), .nils, .nils]), (.int .i64 1)]), [.junk, .junk, .junk, .junk]⟩)) (.node
  (ltI (fnd n f t) 0) (.leaf (some ⟨(tt 8 c1), (.tup [(.agg [(.int .i64 0), .nils, (.int .i64 0), (.int .i64 0), .nils, .nils]), (.int .i64 7)]), [.junk, .junk, .junk, .junk]⟩)) (.node (orB
  (ltI m 0) (ltI (sbI .i64 7 (getN c2 2)) m)) (.leaf (some ⟨c6, (.tup [(.agg [(.int .i64 0), .nils, (.int .i64 0), (.int .i64 0), .nils, .nils]), (.int .i64 2)]), [.junk, .junk, .junk,
  .junk]⟩)) (.leaf (some ⟨(tt 4 (c4 :: (c5 :: (tt 3 (c4 :: (c5 :: (tt 5 (c4 :: (c5 :: (tt 2 (c4 :: (c5 :: (tt 7 ((few n) :: c6)))))))))))))), (.tup [(.agg [(.int .i64 n.nd), (.osl (some
  true) (.rows n.pw)), (.int .i64 n.ns), (.int .i64 n.th), (.osl none (.st 3 (setL n.ls (fnd n f t) (setN 3 c2 2 (addI .i64 (getN c2 2) m))))), (.osl none (.i1 n.mg))]), (.int .i64 0)]),
  [.junk, .junk, .junk, .junk]⟩)))))
theorem t54_eq (n : Net) (f t m : Int) : evFT (cxs [19, 67, 97]) (tb [(19, s19), (67, s67), (97, s97)]) (orcT []) 54 Try.f54 [n.av none none none, .int .i64 f, .int .i64 t, .int .i64 m] = t54 n f t m := by kernel_rfl
theorem ok54 : FnOK Try.prog 54 s54 := by
  refine FnOK.net4 (a := a54) ?_
  refine fnKw (.cons ok19 (.cons ok67 (.cons ok97 .nil))) (fs := [19, 67, 97]) rfl Try.func54 rfl (by kernel_rfl) noLoops ?_
  intro bs r h ho
  obtain ⟨n, f, t, m, rfl, h⟩ := on4n_inv h
  cases h
  have hf : few n = true := ho (few n) (by simp)
  refine ⟨by simp, ?_⟩
  rw [t54_eq]
  have hne : neI (chk n) 0 = notB (eqI (chk n) 0) := Beq (by simp only [andB_iff, orB_iff', notB_iff, andB_false, orB_false, notB_false, eqI_iff, eqI_false, neI_iff, neI_false, ltI_iff, ltI_false, leI_iff, leI_false, inB_iff, nodeB_iff, inB_false, nodeB_false])
  have hlt : ltI (fnd n f t) 0 = notB (leI 0 (fnd n f t)) := Beq (by simp only [andB_iff, orB_iff', notB_iff, andB_false, orB_false, notB_false, eqI_iff, eqI_false, neI_iff, neI_false, ltI_iff, ltI_false, leI_iff, leI_false, inB_iff, nodeB_iff, inB_false, nodeB_false]; omega)
  simp only [t54, Tr.sel, hne, hlt]
  cases hc : eqI (chk n) 0 with
  | false => exact ⟨_, rfl, by simp [AllT_tt, AllT_gE, AllT_gT, AllT_nil, AllT_cons, impB_iff, leI_iff, ltI_iff, hf], by simp only [weN, weE, hc, andB_f, cond_false]; (refine LesT.net ?_ _; exact ⟨LesC.refl _, LesC.nils rfl, LesC.refl _, LesC.refl _, LesC.nils rfl, LesC.nils rfl, trivial⟩), rfl⟩
  | true =>
    cases hi : leI 0 (fnd n f t) with
    | false => exact ⟨_, rfl, by simp [AllT_tt, AllT_gE, AllT_gT, AllT_nil, AllT_cons, impB_iff, leI_iff, ltI_iff, hf, eqI_iff.1 hc, eqI_iff], by simp only [weN, weE, hc, hi, andB_t, andB_f, cond_false, cond_true]; (refine LesT.net ?_ _; exact ⟨LesC.refl _, LesC.nils rfl, LesC.refl _, LesC.refl _, LesC.nils rfl, LesC.nils rfl, trivial⟩), rfl⟩
    | true =>
      have hi0 := leI_iff.1 hi
      have hil : fnd n f t < lenZ n.ls := by rcases fnd_cases n f t with e | e <;> omega
      have hlo := ((chk_zero.1 (eqI_iff.1 hc)).node _ hi0 hil)
      have hsb : sbI .i64 7 (getN (getL n.ls (fnd n f t)) 2) = 7 - n.lo (fnd n f t) := sbI_in (by simp only [Net.lo] at hlo; omega) (by simp only [Net.lo] at hlo; omega)
      simp only [hsb]
      have hco : orB (ltI m 0) (ltI (7 - n.lo (fnd n f t)) m) = notB (weOk n f t m) := Beq (by simp only [weOk, andB_iff, orB_iff', notB_iff, andB_false, orB_false, notB_false, eqI_iff, eqI_false, neI_iff, neI_false, ltI_iff, ltI_false, leI_iff, leI_false, inB_iff, nodeB_iff, inB_false, nodeB_false]; omega)
      rw [hco]
      cases hw : weOk n f t m with
      | false =>
        refine ⟨_, rfl, ?_, by simp only [weN, weE, hc, hi, hw, andB_t, andB_f, cond_false, cond_true]; (refine LesT.net ?_ _; exact ⟨LesC.refl _, LesC.nils rfl, LesC.refl _, LesC.refl _, LesC.nils rfl, LesC.nils rfl, trivial⟩), rfl⟩
        simp [AllT_tt, AllT_gE, AllT_gT, AllT_nil, AllT_cons, impB_iff, leI_iff, ltI_iff, hf, eqI_iff.1 hc, eqI_iff, hi0, hil]
      | true =>
        have hm := andB_iff.1 hw
        have h1 := leI_iff.1 hm.1
        have h2 := leI_iff.1 hm.2
        have hadd : addI .i64 (getN (getL n.ls (fnd n f t)) 2) m = getN (getL n.ls (fnd n f t)) 2 + m := addI_in (by simp only [Net.lo] at hlo h2; omega) (by simp only [Net.lo] at hlo h2; omega)
        refine ⟨_, rfl, ?_, by simp only [weN, weE, hc, hi, hw, andB_t, cond_true, addL, hadd]; (refine LesT.net ?_ _; exact ⟨LesC.refl _, LesC.osl _ _, LesC.refl _, LesC.refl _, LesC.osl _ _, LesC.osl _ _, trivial⟩), rfl⟩
        simp [AllT_tt, AllT_gE, AllT_gT, AllT_nil, AllT_cons, impB_iff, leI_iff, ltI_iff, hf, eqI_iff.1 hc, eqI_iff, hi0, hil]
def t55 (n : Net) (f t m : Int) : Tr Res :=
  let c0 := ((few n) :: (tt 5 []))
  let c1 := ((few n) :: (tt 10 c0))
  let c2 := (getL n.ls (fnd n f t))
  let c3 := (leI 0 (fnd n f t))
  let c4 := (ltI (fnd n f t) (lenZ n.ls))
  let c5 := (tt 13 (c3 :: (c4 :: (tt 11 c1))))
  (.node (neI (chk n) 0) (.leaf (some ⟨(tt 6 c0), (.tup [(.agg [(.int .i64 0), .nils, (.int .i64 0), (.int .i64 0), .nils, .nils]), (.int .i64 1)]), [.junk, .junk, .junk, .junk]⟩)) (.node
  (ltI (fnd n f t) 0) (.leaf (some ⟨(tt 8 c1), (.tup [(.agg [(.int .i64 0), .nils, (.int .i64 0), (.int .i64 0), .nils, .nils]), (.int .i64 7)]), [.junk, .junk, .junk, .junk]⟩)) (.node
  (notB (inB m 0 (sbI .i64 7 (getN c2 2)))) (.leaf (some ⟨c5, (.tup [(.agg [(.int .i64 0), .nils, (.int .i64 0), (.int .i64 0), .nils, .nils]), (.int .i64 2)]), [.junk, .junk, .junk,
  .junk]⟩)) (.leaf (some ⟨(tt 4 (c3 :: (c4 :: (tt 3 (c3 :: (c4 :: (tt 5 (c3 :: (c4 :: (tt 2 (c3 :: (c4 :: (tt 10 ((few n) :: c5)))))))))))))), (.tup [(.agg [(.int .i64 n.nd), (.osl (some
  true) (.rows n.pw)), (.int .i64 n.ns), (.int .i64 n.th), (.osl (some true) (.st 3 (setL n.ls (fnd n f t) (setN 3 c2 2 (addI .i64 (getN c2 2) m))))), (.osl (some true) (.i1 n.mg))]), (.int
  .i64 0)]), [.junk, .junk, .junk, .junk]⟩)))))
theorem t55_eq (n : Net) (f t m : Int) : evFT (cxs [20, 51, 64, 68]) (tb [(20, s20), (51, s51), (64, s64), (68, s68)]) (orcT []) 55 Try.f55 [n.av none none none, .int .i64 f, .int .i64 t, .int .i64 m] = t55 n f t m := by kernel_rfl
theorem ok55 : FnOK Try.prog 55 s55 := by
  refine FnOK.net4 (a := a54) ?_
  refine fnKw (.cons ok20 (.cons ok51 (.cons ok64 (.cons ok68 .nil)))) (fs := [20, 51, 64, 68]) rfl Try.func55 rfl (by kernel_rfl) noLoops ?_
  intro bs r h ho
  obtain ⟨n, f, t, m, rfl, h⟩ := on4n_inv h
  cases h
  have hf : few n = true := ho (few n) (by simp)
  refine ⟨by simp, ?_⟩
  rw [t55_eq]
  have hne : neI (chk n) 0 = notB (eqI (chk n) 0) := Beq (by simp only [andB_iff, orB_iff', notB_iff, andB_false, orB_false, notB_false, eqI_iff, eqI_false, neI_iff, neI_false, ltI_iff, ltI_false, leI_iff, leI_false, inB_iff, nodeB_iff, inB_false, nodeB_false])
  have hlt : ltI (fnd n f t) 0 = notB (leI 0 (fnd n f t)) := Beq (by simp only [andB_iff, orB_iff', notB_iff, andB_false, orB_false, notB_false, eqI_iff, eqI_false, neI_iff, neI_false, ltI_iff, ltI_false, leI_iff, leI_false, inB_iff, nodeB_iff, inB_false, nodeB_false]; omega)
  simp only [t55, Tr.sel, hne, hlt]
  cases hc : eqI (chk n) 0 with
  | false => exact ⟨_, rfl, by simp [AllT_tt, AllT_gE, AllT_gT, AllT_nil, AllT_cons, impB_iff, leI_iff, ltI_iff, hf], by simp only [weN, weE, hc, andB_f, cond_false]; (refine LesT.net ?_ _; exact ⟨LesC.refl _, LesC.nils rfl, LesC.refl _, LesC.refl _, LesC.nils rfl, LesC.nils rfl, trivial⟩), rfl⟩
  | true =>
    cases hi : leI 0 (fnd n f t) with
    | false => exact ⟨_, rfl, by simp [AllT_tt, AllT_gE, AllT_gT, AllT_nil, AllT_cons, impB_iff, leI_iff, ltI_iff, hf, eqI_iff.1 hc, eqI_iff], by simp only [weN, weE, hc, hi, andB_t, andB_f, cond_false, cond_true]; (refine LesT.net ?_ _; exact ⟨LesC.refl _, LesC.nils rfl, LesC.refl _, LesC.refl _, LesC.nils rfl, LesC.nils rfl, trivial⟩), rfl⟩
    | true =>
      have hi0 := leI_iff.1 hi
      have hil : fnd n f t < lenZ n.ls := by rcases fnd_cases n f t with e | e <;> omega
      have hlo := ((chk_zero.1 (eqI_iff.1 hc)).node _ hi0 hil)
      have hsb : sbI .i64 7 (getN (getL n.ls (fnd n f t)) 2) = 7 - n.lo (fnd n f t) := sbI_in (by simp only [Net.lo] at hlo; omega) (by simp only [Net.lo] at hlo; omega)
      simp only [hsb]
      have hco : notB (inB m 0 (7 - n.lo (fnd n f t))) = notB (weOk n f t m) := Beq (by simp only [weOk, andB_iff, orB_iff', notB_iff, andB_false, orB_false, notB_false, eqI_iff, eqI_false, neI_iff, neI_false, ltI_iff, ltI_false, leI_iff, leI_false, inB_iff, nodeB_iff, inB_false, nodeB_false]; omega)
      rw [hco]
      cases hw : weOk n f t m with
      | false =>
        refine ⟨_, rfl, ?_, by simp only [weN, weE, hc, hi, hw, andB_t, andB_f, cond_false, cond_true]; (refine LesT.net ?_ _; exact ⟨LesC.refl _, LesC.nils rfl, LesC.refl _, LesC.refl _, LesC.nils rfl, LesC.nils rfl, trivial⟩), rfl⟩
        simp [AllT_tt, AllT_gE, AllT_gT, AllT_nil, AllT_cons, impB_iff, leI_iff, ltI_iff, hf, eqI_iff.1 hc, eqI_iff, hi0, hil]
      | true =>
        have hm := andB_iff.1 hw
        have h1 := leI_iff.1 hm.1
        have h2 := leI_iff.1 hm.2
        have hadd : addI .i64 (getN (getL n.ls (fnd n f t)) 2) m = getN (getL n.ls (fnd n f t)) 2 + m := addI_in (by simp only [Net.lo] at hlo h2; omega) (by simp only [Net.lo] at hlo h2; omega)
        refine ⟨_, rfl, ?_, by simp only [weN, weE, hc, hi, hw, andB_t, cond_true, addL, hadd]; (refine LesT.net ?_ _; exact ⟨LesC.refl _, LesC.osl _ _, LesC.refl _, LesC.refl _, LesC.osl _ _, LesC.osl _ _, trivial⟩), rfl⟩
        simp [AllT_tt, AllT_gE, AllT_gT, AllT_nil, AllT_cons, impB_iff, leI_iff, ltI_iff, hf, eqI_iff.1 hc, eqI_iff, hi0, hil]
end Go.Sx
