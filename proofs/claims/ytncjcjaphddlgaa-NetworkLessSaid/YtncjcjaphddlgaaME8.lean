/-
  The walks: the sort of a short list. No condition beyond those that each theorem names.
-/
import Derived.Test.YtncjcjaphddlgaaME7
import Derived.Test.YtncjcjaphddlgaaS6
set_option linter.unusedVariables false
set_option linter.unusedSimpArgs false
namespace Go.Sx
open Go Go.Proofs

def t89 (x y : Int) : Tr Res :=
  (.leaf (some ⟨(tt 21 []), (.bool (ltI x y)), [.junk, .junk]⟩))
theorem t89_eq (x y : Int) : evFT (cxs [119]) (tb [(119, s119)]) (orcT []) 89 Try.f89 [.int .i64 x, .int .i64 y] = t89 x y := by kernel_rfl
theorem ok89 : FnOK Try.prog 89 s89 := by
  refine fnK (.cons ok119 .nil) (fs := [119]) rfl Try.func89 rfl (by kernel_rfl) noLoops ?_
  intro bs r h ho
  unfold s89 at h
  split at h
  · rename_i x y
    cases h
    refine ⟨by simp, ?_⟩
    rw [t89_eq]
    exact ⟨_, rfl, by simp [AllT_tt, AllT_gE, AllT_gT, AllT_nil, AllT_cons, impB_iff, leI_iff, ltI_iff], rfl, rfl⟩
  · cases h
theorem setI_len (xs : List Int) (i v : Int) : lenZ (setI xs i v) = lenZ xs := by simp [lenZ, setI]
theorem sink_len : ∀ (j : Nat) (xs : List Int), lenZ (sink j xs) = lenZ xs
  | 0, xs => rfl
  | j + 1, xs => by
    unfold sink
    cases ltI (getI xs (j + 1 : Nat)) (getI xs (j : Nat)) with
    | true => show lenZ (sink j (swp xs (j + 1 : Nat))) = _; rw [sink_len j]; simp [swp, setI_len]
    | false => rfl
def l141b (b : Bool) (xs : List Int) (n i j : Int) : Tr (Ex × St) :=
  let c0 := (sbI .i64 j 1)
  let c1 := (setI xs j (getI xs c0))
  let c2 := (ltI c0 (lenZ c1))
  let c3 := (ltI j (lenZ xs))
  let c4 := (ltI c0 (lenZ xs))
  let c5 := (impB (ltI 0 j) (leI 0 c0))
  let c6 := (impB (ltI 0 j) c4)
  let c7 := (impB (ltI 0 j) (leI 0 j))
  let c8 := (impB (ltI 0 j) c3)
  let c9 := (gE (ltI 0 j) (gT (notB (ltI 0 j)) (gT (ltI 0 j) (gE (ltI 0 j) (gE (ltI 0 j) (c5 :: (c6 :: (gE (ltI 0 j) (c5 :: (c6 :: (gE (ltI 0 j) (gE (ltI 0 j) (gE (ltI 0 j) (gT (ltI 0 j)
  (gT (ltI 0 j) (gT (ltI 0 j) (c7 :: (c8 :: (gE (ltI 0 j) (c7 :: (c8 :: (gE (ltI 0 j) (gE (ltI 0 j) (gT (ltI 0 j) (gT (ltI 0 j) (tt 5 []))))))))))))))))))))))))))
  (.node (andB (ltI 0 j) (ltI (getI xs j) (getI xs c0))) (.leaf (some (.normal , ⟨mkS 49 [(0 , (.own 500)), (1 , (.int .i64 0)), (2 , (.int .i64 n)), (6 , (.int .i64 i)), (7 , (.int .i64
  c0))], [(500 , (.arr (some b) (.i1 (setI c1 c0 (getI xs j)))))], (tt 4 ((leI 0 c0) :: (c2 :: (tt 2 ((leI 0 c0) :: (c2 :: (tt 2 ((leI 0 j) :: (c3 :: (tt 2 ((leI 0 j) :: (c3 :: (tt 2 ((leI
  0 j) :: (c3 :: (tt 1 ((leI 0 j) :: (c3 :: (tt 4 ((leI 0 c0) :: (c4 :: (tt 1 ((leI 0 c0) :: (c4 :: (tt 14 c9)))))))))))))))))))))))))⟩))) (.leaf (some ((.exit 2) , ⟨mkS 49 [(0 , (.own
  500)), (1 , (.int .i64 0)), (2 , (.int .i64 n)), (6 , (.int .i64 i)), (7 , (.int .i64 j))], [(500 , (.arr (some b) (.i1 xs)))], (tt 2 c9)⟩))))
theorem l141b_eq (b : Bool) (xs : List Int) (n i j : Int) : keepT 49 [0, 1, 2, 6, 7] [500] (evT (cxs [89]) (tb [(89, s89)]) (orcT []) (loopB Try.f141 2) ⟨mkS 49 (zip2 [0, 1, 2, 6, 7] [.own 500, .int .i64 0, .int .i64 n, .int .i64 i, .int .i64 j]), zip2 [500] [.arr (some b) (.i1 xs)], []⟩) = l141b b xs n i j := by kernel_rfl
theorem l141b_ok (Γ : Env) (π : Nms) : LoopOK Try.prog Γ π 2 (loopB Try.f141 2) ls141b := by
  intro vs obs r h ho ok ok' hok hT
  simp only [ls141b] at h
  split at h
  · rename_i n i j b xs
    simp only [Tr.sel, Option.some.injEq] at h
    subst h
    have h0 : 0 ≤ j := leI_iff.1 (ho (leI 0 j) (by simp))
    have h1 : j < lenZ xs := ltI_iff.1 (ho (ltI j (lenZ xs)) (by simp))
    have h2 : lenZ xs ≤ 12 := leI_iff.1 (ho (leI (lenZ xs) 12) (by simp))
    obtain ⟨J, rfl⟩ : ∃ J : Nat, j = J := ⟨j.toNat, by omega⟩
    refine loopK (X := List Int × Nat) ⟨.cons ok89 .nil, rfl, by kernel_rfl, by kernel_rfl, .nil⟩ (fun x => [.own 500, .int .i64 0, .int .i64 n, .int .i64 i, .int .i64 x.2]) (fun x => [.arr (some b) (.i1 x.1)])
      (fun x => lenZ x.1 = lenZ xs ∧ (x.2 : Int) < lenZ xs ∧ sink x.2 x.1 = sink J xs) (fun x => x.2) _ (fun x => l141b b x.1 n i x.2) (fun x => l141b_eq b x.1 n i x.2) ?_ (x := (xs, J)) ⟨rfl, h1, rfl⟩ hok hT
    rintro ⟨ys, k⟩ ⟨hl, hk, hs⟩
    simp only at hl hk hs ⊢
    have hsn : snk (J : Int) xs = sink J xs := by simp [snk]
    rw [hsn]
    cases k with
    | zero =>
      have hc : andB (ltI 0 ((0 : Nat) : Int)) (ltI (getI ys ((0 : Nat) : Int)) (getI ys (sbI .i64 ((0 : Nat) : Int) 1))) = false := rfl
      simp only [l141b, Tr.sel, hc]
      refine ⟨_, _, rfl, by simp [AllT_tt, AllT_gE, AllT_gT, AllT_nil, AllT_cons, impB_iff, leI_iff, ltI_iff], .inr ⟨rfl, Fits.k rfl rfl ?_⟩⟩
      rw [← hs]; rfl
    | succ k =>
      have e : sbI .i64 ((k + 1 : Nat) : Int) 1 = (k : Int) := by rw [sbI_in (by omega) (by omega)]; omega
      have hpos : ltI 0 ((k + 1 : Nat) : Int) = true := ltI_iff.2 (by omega)
      have hlk : (k : Int) < lenZ ys := by omega
      have hlk1 : ((k + 1 : Nat) : Int) < lenZ ys := by omega
      cases hc : ltI (getI ys ((k + 1 : Nat) : Int)) (getI ys (k : Int)) with
      | true =>
        simp only [l141b, Tr.sel, e, hpos, hc, andB]
        refine ⟨_, _, rfl, ?_, .inl ⟨rfl, (swp ys ((k + 1 : Nat) : Int), k), ⟨by simp [swp, setI_len, hl], by simp only; omega, ?_⟩, by simp, Fits.k rfl rfl ?_⟩⟩
        · simp [AllT_tt, AllT_gE, AllT_gT, AllT_nil, AllT_cons, impB_iff, leI_iff, ltI_iff, hlk, setI_len]; omega
        · simp only
          rw [← hs]
          show sink k (swp ys _) = sink (k + 1) ys
          rw [sink]
          simp only [hc]
        · simp only [swp]
          rw [show ((k + 1 : Nat) : Int) - 1 = (k : Int) by omega]
          rfl
      | false =>
        simp only [l141b, Tr.sel, e, hpos, hc, andB]
        refine ⟨_, _, rfl, ?_, .inr ⟨rfl, Fits.k rfl rfl ?_⟩⟩
        · simp [AllT_tt, AllT_gE, AllT_gT, AllT_nil, AllT_cons, impB_iff, leI_iff, ltI_iff, hlk]; omega
        · rw [← hs, sink]
          simp only [hc]
          rfl
  · simp [Tr.sel] at h
def l141 (b : Bool) (xs : List Int) (n i : Int) : Tr (Ex × St) :=
  (.node (ltI i n) (.leaf (some (.normal , ⟨mkS 49 [(0 , (.own 500)), (1 , (.int .i64 0)), (2 , (.int .i64 n)), (6 , (.int .i64 (addI .i64 i 1)))], [(500 , (.arr (some b) (.i1 (snk i
  xs))))], (tt 4 ((leI 0 i) :: ((ltI i (lenZ xs)) :: ((leI (lenZ xs) 12) :: (tt 7 [])))))⟩))) (.leaf (some ((.exit 0) , ⟨mkS 49 [(0 , (.own 500)), (1 , (.int .i64 0)), (2 , (.int .i64 n)),
  (6 , (.int .i64 i))], [(500 , (.arr (some b) (.i1 xs)))], (tt 5 [])⟩))))
theorem l141_eq (b : Bool) (xs : List Int) (n i : Int) : keepT 49 [0, 1, 2, 6] [500] (evT (cxs [89]) (tb [(89, s89)]) (orcT [(2, ls141b)]) (loopB Try.f141 0) ⟨mkS 49 (zip2 [0, 1, 2, 6] [.own 500, .int .i64 0, .int .i64 n, .int .i64 i]), zip2 [500] [.arr (some b) (.i1 xs)], []⟩) = l141 b xs n i := by kernel_rfl
theorem l141_ok (Γ : Env) (π : Nms) : LoopOK Try.prog Γ π 0 (loopB Try.f141 0) ls141 := by
  intro vs obs r h ho ok ok' hok hT
  simp only [ls141] at h
  split at h
  · rename_i n i b xs
    simp only [Tr.sel, Option.some.injEq] at h
    subst h
    have h0 : i = 1 := eqI_iff.1 (ho (eqI i 1) (by simp))
    have h1 : n = lenZ xs := eqI_iff.1 (ho (eqI n (lenZ xs)) (by simp))
    have h2 : lenZ xs ≤ 12 := leI_iff.1 (ho (leI (lenZ xs) 12) (by simp))
    subst h0
    subst h1
    refine loopK (X := List Int × Nat) ⟨.cons ok89 .nil, rfl, by kernel_rfl, by kernel_rfl, .cons (l141b_ok Γ π) .nil⟩ (fun x => [.own 500, .int .i64 0, .int .i64 (lenZ xs), .int .i64 x.2]) (fun x => [.arr (some b) (.i1 x.1)])
      (fun x => lenZ x.1 = lenZ xs ∧ 1 ≤ x.2 ∧ isrt (xs.length - x.2) x.2 x.1 = srt xs) (fun x => xs.length - x.2) _ (fun x => l141 b x.1 (lenZ xs) x.2) (fun x => l141_eq b x.1 (lenZ xs) x.2) ?_ (x := (xs, 1)) ⟨rfl, Nat.le_refl 1, rfl⟩ hok hT
    rintro ⟨ys, k⟩ ⟨hl, hk, hs⟩
    simp only at hl hk hs ⊢
    cases hc : ltI (k : Int) (lenZ xs) with
    | false =>
      simp only [l141, Tr.sel, hc]
      refine ⟨_, _, rfl, by simp [AllT_tt, AllT_gE, AllT_gT, AllT_nil, AllT_cons, impB_iff, leI_iff, ltI_iff], .inr ⟨rfl, Fits.k rfl rfl ?_⟩⟩
      have hz : xs.length - k = 0 := by
        have : ¬ (k : Int) < lenZ xs := fun c => by rw [ltI_iff.2 c] at hc; cases hc
        simp only [lenZ] at this; omega
      rw [← hs, hz]
      rfl
    | true =>
      have hlt := ltI_iff.1 hc
      have hlt' : k < xs.length := by simp only [lenZ] at hlt; omega
      have e : addI .i64 (k : Int) 1 = ((k + 1 : Nat) : Int) := by rw [addI_in (by omega) (by omega)]; omega
      simp only [l141, Tr.sel, hc, e]
      have hsn : snk (k : Int) ys = sink k ys := by simp [snk]
      refine ⟨_, _, rfl, ?_, .inl ⟨rfl, (sink k ys, k + 1), ⟨by simp only [sink_len, hl], by simp only; omega, ?_⟩, by simp only; omega, Fits.k rfl rfl ?_⟩⟩
      · simp [AllT_tt, AllT_gE, AllT_gT, AllT_nil, AllT_cons, impB_iff, leI_iff, ltI_iff]; omega
      · simp only
        rw [← hs, show xs.length - k = (xs.length - (k + 1)) + 1 by omega]
        rfl
      · rw [hsn]; rfl
  · simp [Tr.sel] at h
def t141 (b : Bool) (xs : List Int) (n : Int) : Tr Res :=
  (.leaf (some ⟨((eqI (addI .i64 0 1) 1) :: ((eqI n (lenZ xs)) :: ((leI (lenZ xs) 12) :: (tt 4 [])))), (.tup []), [(.osl (some b) (.i1 (srt xs))), .junk, .junk]⟩))
theorem t141_eq (b : Bool) (xs : List Int) (n : Int) : evFT (cxs [89]) (tb [(89, s89)]) (orcT [(0, ls141)]) 141 Try.f141 [.osl (some b) (.i1 xs), .int .i64 0, .int .i64 n] = t141 b xs n := by kernel_rfl
theorem ok141 : FnOK Try.prog 141 s141 := by
  refine fnK (.cons ok89 .nil) (fs := [89]) rfl Try.func141 rfl (by kernel_rfl) (fun Γ π => .cons (l141_ok Γ π) .nil) ?_
  intro bs r h ho
  unfold s141 at h
  split at h
  · rename_i b xs n
    cases h
    have h1 : n = lenZ xs := eqI_iff.1 (ho (eqI n (lenZ xs)) (by simp))
    have h2 : leI (lenZ xs) 12 = true := ho (leI (lenZ xs) 12) (by simp)
    refine ⟨by simp, ?_⟩
    rw [t141_eq]
    have e : addI .i64 0 1 = 1 := rfl
    exact ⟨_, rfl, by simp [AllT_tt, AllT_gE, AllT_gT, AllT_nil, AllT_cons, impB_iff, leI_iff, ltI_iff, eqI_iff, e, h1, leI_iff.1 h2], rfl, rfl⟩
  · cases h
end Go.Sx
