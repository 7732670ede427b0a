/-
  The walks: the sort, its choice. No condition beyond those that each theorem names.
-/
import Derived.Test.YtncjcjaphddlgaaME8
import Derived.Test.YtncjcjaphddlgaaS6
import Derived.Test.YtncjcjaphddlgaaS7
set_option linter.unusedVariables false
set_option linter.unusedSimpArgs false
namespace Go.Sx
open Go Go.Proofs

def l123 (b : Bool) (xs : List Int) (n m : Int) : Tr (Ex × St) :=
  (.node (leI (sbI .i64 n 0) 12) (.leaf (some (.ret , ⟨mkS 134 [(0 , (.own 500))], [(500 , (.arr (some b) (.i1 (srt xs))))], ((eqI n (lenZ xs)) :: ((leI (lenZ xs) 12) :: (tt 16 [])))⟩)))
  (.node (eqI m 0) (.leaf none) (.node false (.leaf none) (.leaf none))))
theorem l123_eq (b : Bool) (xs : List Int) (n m : Int) : keepT 134 [0] [500] (evT (cxs [141]) (tb [(141, s141)]) (orcT []) (loopB Try.f123 0) ⟨mkS 134 (zip2 [0, 1, 2, 3, 8, 9] [.own 500, .int .i64 0, .int .i64 n, .int .i64 m, .bool true, .bool true]), zip2 [500] [.arr (some b) (.i1 xs)], []⟩) = l123 b xs n m := by kernel_rfl
set_option maxRecDepth 20000 in
theorem l123_ok (Γ : Env) (π : Nms) : LoopOK Try.prog Γ π 0 (loopB Try.f123 0) ls123 := by
  intro vs obs r h ho ok ok' hok hT
  simp only [ls123] at h
  split at h
  · rename_i n m b xs
    simp only [Tr.sel, Option.some.injEq] at h
    subst h
    have h1 : n = lenZ xs := eqI_iff.1 (ho (eqI n (lenZ xs)) (by simp))
    have h2 : lenZ xs ≤ 12 := leI_iff.1 (ho (leI (lenZ xs) 12) (by simp))
    subst h1
    refine loopK (X := Unit) ⟨.cons ok141 .nil, rfl, by kernel_rfl, by kernel_rfl, .nil⟩ (fun _ => [.own 500, .int .i64 0, .int .i64 (lenZ xs), .int .i64 m, .bool true, .bool true]) (fun _ => [.arr (some b) (.i1 xs)])
      (fun _ => True) (fun _ => 0) _ (fun _ => l123 b xs (lenZ xs) m) (fun _ => l123_eq b xs (lenZ xs) m) ?_ (x := ()) trivial hok hT
    intro _ _
    have hl : 0 ≤ lenZ xs := by simp [lenZ]
    have hc : leI (sbI .i64 (lenZ xs) 0) 12 = true := leI_iff.2 (by rw [sbI_in (by omega) (by omega)]; omega)
    simp only [l123, Tr.sel, hc]
    exact ⟨_, _, rfl, by simp [AllT_tt, AllT_gE, AllT_gT, AllT_nil, AllT_cons, impB_iff, leI_iff, ltI_iff, eqI_iff, h2], .inr ⟨rfl, Fits.k rfl rfl rfl⟩⟩
  · simp [Tr.sel] at h
def t123 (b : Bool) (xs : List Int) (n m : Int) : Tr Res :=
  (.leaf (some ⟨((eqI n (lenZ xs)) :: ((leI (lenZ xs) 12) :: (tt 2 []))), (.tup []), [(.osl (some b) (.i1 (srt xs))), .junk, .junk, .junk]⟩))
theorem t123_eq (b : Bool) (xs : List Int) (n m : Int) : evFT (cxs [141]) (tb [(141, s141)]) (orcT [(0, ls123)]) 123 Try.f123 [.osl (some b) (.i1 xs), .int .i64 0, .int .i64 n, .int .i64 m] = t123 b xs n m := by kernel_rfl
theorem ok123 : FnOK Try.prog 123 s123 := by
  refine fnK (.cons ok141 .nil) (fs := [141]) rfl Try.func123 rfl (by kernel_rfl) (fun Γ π => .cons (l123_ok Γ π) .nil) ?_
  intro bs r h ho
  unfold s123 at h
  split at h
  · rename_i b xs n m
    cases h
    have h1 : n = lenZ xs := eqI_iff.1 (ho (eqI n (lenZ xs)) (by simp))
    have h2 : leI (lenZ xs) 12 = true := ho (leI (lenZ xs) 12) (by simp)
    refine ⟨by simp, ?_⟩
    rw [t123_eq]
    exact ⟨_, rfl, by simp [AllT_tt, AllT_gE, AllT_gT, AllT_nil, AllT_cons, impB_iff, leI_iff, ltI_iff, eqI_iff, h1, leI_iff.1 h2], rfl, rfl⟩
  · cases h
theorem ok124 : FnOK Try.prog 124 s124 := by
  intro bs r h ho
  unfold s124 at h
  split at h
  · rename_i x
    cases h
    have h1 := leI_iff.1 (ho (leI 0 x) (by simp))
    have h2 := leI_iff.1 (ho (leI x 12) (by simp))
    have run : ∀ v : Int, runF cx noF (asc fnT) 100 3 124 [.int .u64 x] = some ⟨[], .int .i64 v, [.junk]⟩ → bitL x = v →
        ∀ (w : World) (M : Frz) (vs : List Value) (F : List Nat), M.ok w → RBL M w [.int .u64 x] vs F → F.Nodup → (∀ b, b ∈ F → M b = none) → Calls Try.prog 124 vs.toArray w (returns (After M w F (.int .i64 (bitL x)) [.junk] vs)) := by
      intro v hv he
      rw [he]
      exact runF_ok cx_ok mixed (fun f _ => noF_ok f) fnT_ok 100 3 124 (memN_iff.1 (by kernel_rfl)) [.int .u64 x] _ hv (AllT_nil.2 trivial)
    have : x = 0 ∨ x = 1 ∨ x = 2 ∨ x = 3 ∨ x = 4 ∨ x = 5 ∨ x = 6 ∨ x = 7 ∨ x = 8 ∨ x = 9 ∨ x = 10 ∨ x = 11 ∨ x = 12 := by omega
    rcases this with rfl | rfl | rfl | rfl | rfl | rfl | rfl | rfl | rfl | rfl | rfl | rfl | rfl
    · exact run 0 (by kernel_rfl) rfl
    · exact run 1 (by kernel_rfl) rfl
    · exact run 2 (by kernel_rfl) rfl
    · exact run 2 (by kernel_rfl) rfl
    · exact run 3 (by kernel_rfl) rfl
    · exact run 3 (by kernel_rfl) rfl
    · exact run 3 (by kernel_rfl) rfl
    · exact run 3 (by kernel_rfl) rfl
    · exact run 4 (by kernel_rfl) rfl
    · exact run 4 (by kernel_rfl) rfl
    · exact run 4 (by kernel_rfl) rfl
    · exact run 4 (by kernel_rfl) rfl
    · exact run 4 (by kernel_rfl) rfl
  · cases h
def t87 (b : Bool) (xs : List Int) : Tr Res :=
  let c0 := (cvI .u64 (lenZ xs))
  (.leaf (some ⟨((eqI (lenZ xs) (lenZ xs)) :: ((leI (lenZ xs) 12) :: (tt 5 ((leI 0 c0) :: ((leI c0 12) :: (tt 9 [])))))), (.tup []), [(.osl (some b) (.i1 (srt xs)))]⟩))
theorem t87_eq (b : Bool) (xs : List Int) : evFT (cxs [123, 124]) (tb [(123, s123), (124, s124)]) (orcT []) 87 Try.f87 [.osl (some b) (.i1 xs)] = t87 b xs := by kernel_rfl
theorem ok87 : FnOK Try.prog 87 s87 := by
  refine fnK (.cons ok123 (.cons ok124 .nil)) (fs := [123, 124]) rfl Try.func87 rfl (by kernel_rfl) noLoops ?_
  intro bs r h ho
  unfold s87 at h
  split at h
  · rename_i b xs
    cases h
    have h2 : lenZ xs ≤ 12 := leI_iff.1 (ho (leI (lenZ xs) 12) (by simp))
    have hl : 0 ≤ lenZ xs := by simp [lenZ]
    have hcv : cvI .u64 (lenZ xs) = lenZ xs := by
      unfold cvI IntKind.wrap
      simp only [IntKind.bits, IntKind.signed]
      simp
      omega
    refine ⟨by simp, ?_⟩
    rw [t87_eq]
    exact ⟨_, rfl, by simp [AllT_tt, AllT_gE, AllT_gT, AllT_nil, AllT_cons, impB_iff, leI_iff, ltI_iff, eqI_iff, hcv, h2, hl], rfl, rfl⟩
  · cases h
end Go.Sx
