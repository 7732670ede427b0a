/-
  The walk of the law NetworkBack. No condition beyond those that each theorem names.
-/
import Derived.Test.YtncjcjaphddlgaaME12
import Derived.Test.YtncjcjaphddlgaaS7
import Derived.Test.YtncjcjaphddlgaaS6
set_option linter.unusedVariables false
set_option linter.unusedSimpArgs false
namespace Go.Sx
open Go Go.Proofs

def l43 (k : Option Bool) (xs : List Int) (i : Int) : Tr (Ex × St) :=
  let c0 := (sbI .i64 i 1)
  let c1 := ((leI 0 c0) :: ((ltI c0 (lenZ xs)) :: (tt 7 ((leI 0 i) :: ((ltI i (lenZ xs)) :: (tt 8 []))))))
  (.node (ltI 0 i) (.node (ltI (getI xs i) (getI xs c0)) (.leaf (some (.ret , ⟨mkS 21 [(0 , (.sl k (.i1 xs))), (2 , (.bool false)), (3 , (.int .i64 i))], [], (tt 6 c1)⟩))) (.leaf (some
  (.normal , ⟨mkS 21 [(0 , (.sl k (.i1 xs))), (3 , (.int .i64 c0))], [], (tt 9 c1)⟩)))) (.leaf (some ((.exit 0) , ⟨mkS 21 [(0 , (.sl k (.i1 xs))), (3 , (.int .i64 i))], [], (tt 4 [])⟩))))
theorem l43_eq (k : Option Bool) (xs : List Int) (i : Int) : keepT 21 [0, 3, 2] [] (evT (cxs [89]) (tb [(89, s89)]) (orcT []) (loopB Try.f43 0) ⟨mkS 21 (zip2 [0, 3] [.sl k (.i1 xs), .int .i64 i]), zip2 [] [], []⟩) = l43 k xs i := by kernel_rfl
theorem l43_ok (Γ : Env) (π : Nms) : LoopOK Try.prog Γ π 0 (loopB Try.f43 0) ls43 := by
  intro vs obs r h ho ok ok' hok hT
  simp only [ls43] at h
  split at h
  · rename_i k xs i
    simp only [Tr.sel, Option.some.injEq] at h
    subst h
    have h1 : i < lenZ xs := ltI_iff.1 (ho (ltI i (lenZ xs)) (by simp))
    have h2 : lenZ xs ≤ 1000 := leI_iff.1 (ho (leI (lenZ xs) 1000) (by simp))
    have h3 : ordB xs = true := ho (ordB xs) (by simp)
    refine loopK (X := Int) ⟨.cons ok89 .nil, rfl, by kernel_rfl, by kernel_rfl, .nil⟩ (fun i => [.sl k (.i1 xs), .int .i64 i]) (fun _ => []) (fun i => i < lenZ xs ∧ -1 ≤ i ∨ i < 0 ∧ i = -1 ∨ i ≤ 0) (fun i => i.toNat) _ (fun i => l43 k xs i) (fun i => l43_eq k xs i) ?_ (x := i) (by omega) hok hT
    intro i hi
    cases hc : ltI 0 i with
    | false =>
      simp only [l43, Tr.sel, hc]
      exact ⟨_, _, rfl, by simp [AllT_tt, AllT_gE, AllT_gT, AllT_nil, AllT_cons, impB_iff, leI_iff, ltI_iff], .inr ⟨rfl, Fits.k (by kernel_rfl) (by kernel_rfl) (by kernel_rfl)⟩⟩
    | true =>
      have hp := ltI_iff.1 hc
      have hi' : i < lenZ xs := by omega
      have hs : sbI .i64 i 1 = i - 1 := sbI_in (by omega) (by omega)
      have ho2 := ord_at h3 hp hi'
      simp only [l43, Tr.sel, hc, hs, ho2]
      refine ⟨_, _, rfl, ?_, .inl ⟨rfl, i - 1, by omega, by omega, Fits.k (by kernel_rfl) (by kernel_rfl) (by kernel_rfl)⟩⟩
      simp [AllT_tt, AllT_gE, AllT_gT, AllT_nil, AllT_cons, impB_iff, leI_iff, ltI_iff]; omega
  · simp [Tr.sel] at h
def t43 (k : Option Bool) (xs : List Int) : Tr Res :=
  (.leaf (some ⟨(tt 1 ((ltI (sbI .i64 (lenZ xs) 1) (lenZ xs)) :: ((leI (lenZ xs) 1000) :: ((ordB xs) :: (tt 6 []))))), (.bool true), [.junk]⟩))
theorem t43_eq (k : Option Bool) (xs : List Int) : evFT (cxs [89]) (tb [(89, s89)]) (orcT [(0, ls43)]) 43 Try.f43 [.sl k (.i1 xs)] = t43 k xs := by kernel_rfl
theorem ok43 : FnOK Try.prog 43 s43 := by
  refine fnK (.cons ok89 .nil) (fs := [89]) rfl Try.func43 rfl (by kernel_rfl) (fun Γ π => .cons (l43_ok Γ π) .nil) ?_
  intro bs r h ho
  unfold s43 at h
  split at h
  · rename_i k xs
    cases h
    have h2 : leI (lenZ xs) 1000 = true := ho (leI (lenZ xs) 1000) (by simp)
    have h3 : ordB xs = true := ho (ordB xs) (by simp)
    refine ⟨by simp, ?_⟩
    rw [t43_eq]
    have hl0 : 0 ≤ lenZ xs := by simp [lenZ]
    have e : sbI .i64 (lenZ xs) 1 = lenZ xs - 1 := sbI_in (by omega) (by have := leI_iff.1 h2; omega)
    exact ⟨_, rfl, by simp [AllT_tt, AllT_gE, AllT_gT, AllT_nil, AllT_cons, impB_iff, leI_iff, ltI_iff, e, h3, leI_iff.1 h2]; omega, rfl, rfl⟩
  · cases h
def l8d (n : Net) (k1 k2 k3 : Option Bool) (b b' : Bool) (xs ys : List Int) (a v d i m j m' c : Int) : Tr (Ex × St) :=
  let c0 := (ltI c (lenZ ys))
  let c1 := ((leI (lenZ xs) 1000) :: (tt 6 ((leI 0 c) :: (c0 :: (tt 1 ((leI 0 c) :: (c0 :: (tt 5 []))))))))
  (.node (ltI c m') (.node (notB (leI 0 (idxZ xs (getI ys c)))) (.leaf (some (.ret , ⟨mkS 111 [(1 , (.ref 1 0)), (5 , (.int .i64 a)), (6 , (.own 64)), (8 , (.int .i64 v)), (58 , (.int .i64
  d)), (59 , (.int .i64 i)), (74 , (.own 64)), (75 , (.int .i64 m)), (76 , (.int .i64 j)), (98 , (.own 98)), (99 , (.int .i64 m')), (100 , (.int .i64 c))], [(1 , (.box [(.int .i64 n.nd),
  (.sl k1 (.rows n.pw)), (.int .i64 n.ns), (.int .i64 n.th), (.sl k2 (.st 3 n.ls)), (.sl k3 (.i1 n.mg))])), (64 , (.arr (some b) (.i1 xs))), (98 , (.arr (some b') (.i1 ys)))], (tt 3 c1)⟩)))
  (.leaf (some (.normal , ⟨mkS 111 [(1 , (.ref 1 0)), (5 , (.int .i64 a)), (6 , (.own 64)), (8 , (.int .i64 v)), (58 , (.int .i64 d)), (59 , (.int .i64 i)), (74 , (.own 64)), (75 , (.int
  .i64 m)), (76 , (.int .i64 j)), (98 , (.own 98)), (99 , (.int .i64 m')), (100 , (.int .i64 (addI .i64 c 1)))], [(1 , (.box [(.int .i64 n.nd), (.sl k1 (.rows n.pw)), (.int .i64 n.ns),
  (.int .i64 n.th), (.sl k2 (.st 3 n.ls)), (.sl k3 (.i1 n.mg))])), (64 , (.arr (some b) (.i1 xs))), (98 , (.arr (some b') (.i1 ys)))], (tt 5 c1)⟩)))) (.leaf (some ((.exit 6) , ⟨mkS 111 [(1
  , (.ref 1 0)), (5 , (.int .i64 a)), (6 , (.own 64)), (8 , (.int .i64 v)), (58 , (.int .i64 d)), (59 , (.int .i64 i)), (74 , (.own 64)), (75 , (.int .i64 m)), (76 , (.int .i64 j)), (98 ,
  (.own 98)), (99 , (.int .i64 m')), (100 , (.int .i64 c))], [(1 , (.box [(.int .i64 n.nd), (.sl k1 (.rows n.pw)), (.int .i64 n.ns), (.int .i64 n.th), (.sl k2 (.st 3 n.ls)), (.sl k3 (.i1
  n.mg))])), (64 , (.arr (some b) (.i1 xs))), (98 , (.arr (some b') (.i1 ys)))], (tt 3 [])⟩))))
theorem l8d_eq (n : Net) (k1 k2 k3 : Option Bool) (b b' : Bool) (xs ys : List Int) (a v d i m j m' c : Int) : keepT 111 [1, 5, 6, 8, 58, 59, 74, 75, 76, 98, 99, 100] [1, 64, 98] (evT (cxs [42]) (tb [(42, s42)]) (orcT []) (loopB Try.f8 6) ⟨mkS 111 (zip2 [1, 5, 6, 8, 58, 59, 74, 75, 76, 98, 99, 100] [.ref 1 0, .int .i64 a, .own 64, .int .i64 v, .int .i64 d, .int .i64 i, .own 64, .int .i64 m, .int .i64 j, .own 98, .int .i64 m', .int .i64 c]), zip2 [1, 64, 98] [.box (n.cells k1 k2 k3), .arr (some b) (.i1 xs), .arr (some b') (.i1 ys)], []⟩) = l8d n k1 k2 k3 b b' xs ys a v d i m j m' c := by kernel_rfl
theorem eqLI_iff {xs ys : List Int} : eqLI xs ys = true ↔ xs = ys := by simp [eqLI]
theorem eqLs_iff {xs ys : List (List Int)} : eqLs xs ys = true ↔ xs = ys := by simp [eqLs]
theorem rchL_len2 {n : Net} {v : Int} (hf : few n = true) (hb : rchB n v = true) : lenZ (rchL n v) ≤ 8 := by
  have h1 := rchL_rise hb
  have h3 := rchB_iff.1 hb
  have hnd := nd_le hf (chk_zero.1 h3.1)
  have h2 : (rchL n v).Nodup := h1.imp fun h e => by omega
  have := nodup_len (n := n.nd.toNat) h2 fun x hx => by have := rchB_iff.1 (back_in hf hb hx); omega
  simp only [lenZ]; omega
theorem l8d_ok (Γ : Env) (π : Nms) : LoopOK Try.prog Γ π 6 (loopB Try.f8 6) ls8d := by
  intro vs obs r h ho ok ok' hok hT
  simp only [ls8d] at h
  split at h
  · rename_i a v d i m j m' cs b xs b' ys
    cases hn : netC cs with
    | none => rw [hn] at h; simp [Tr.sel] at h
    | some n =>
    obtain ⟨k1, k2, k3, rfl⟩ := netC_inv hn
    rw [hn] at h
    simp only [Tr.sel, Option.some.injEq] at h
    subst h
    have hx : xs = rchL n a := eqLI_iff.1 (ho (eqLI xs (rchL n a)) (by simp))
    have hb : rchB n a = true := ho (rchB n a) (by simp)
    have hv : leI 0 (idxZ xs v) = true := ho (leI 0 (idxZ xs v)) (by simp)
    have hy : ys = nx n v := eqLI_iff.1 (ho (eqLI ys (nx n v)) (by simp))
    have hm : m' = lenZ ys := eqI_iff.1 (ho (eqI m' (lenZ ys)) (by simp))
    have hf : few n = true := ho (few n) (by simp)
    have hc : chk n = 0 := eqI_iff.1 (ho (eqI (chk n) 0) (by simp))
    subst hm
    have hyl : lenZ ys ≤ 1000 := by rw [hy]; exact nx_len hf
    have hxl : lenZ xs ≤ 8 := by rw [hx]; exact rchL_len2 hf hb
    have hvm : v ∈ rchL n a := by rw [← hx]; exact idxZ_iff.1 hv
    refine allK ⟨.cons ok42 .nil, rfl, by kernel_rfl, by kernel_rfl, .nil⟩ (fun c => [.ref 1 0, .int .i64 a, .own 64, .int .i64 v, .int .i64 d, .int .i64 i, .own 64, .int .i64 m, .int .i64 j, .own 98, .int .i64 (lenZ ys), .int .i64 c])
      [.box (n.cells k1 k2 k3), .arr (some b) (.i1 xs), .arr (some b') (.i1 ys)] (lenZ ys) (by omega) (fun c => l8d n k1 k2 k3 b b' xs ys a v d i m j (lenZ ys) c) (fun c => l8d_eq n k1 k2 k3 b b' xs ys a v d i m j (lenZ ys) c) ?_ ?_ hok hT
    · intro c h0 hlt
      simp only [l8d, Tr.sel, hlt]
      exact ⟨_, _, rfl, by simp [AllT_tt, AllT_gE, AllT_gT, AllT_nil, AllT_cons, impB_iff, leI_iff, ltI_iff], rfl, Fits.k (by kernel_rfl) (by kernel_rfl) (by kernel_rfl)⟩
    · intro c h0 hlt
      have hlt' := ltI_iff.1 hlt
      have hmem : leI 0 (idxZ xs (getI ys c)) = true := by
        rw [hx]
        refine mem_idx (back_next hf hb hvm ?_)
        rw [← hy]
        exact getI_in h0 hlt'
      simp only [l8d, Tr.sel, hlt, hmem, notB, Bool.not_true]
      exact ⟨_, rfl, by simp [AllT_tt, AllT_gE, AllT_gT, AllT_nil, AllT_cons, impB_iff, leI_iff, ltI_iff, h0, hlt', show lenZ xs ≤ 1000 by omega], Fits.k (by kernel_rfl) (by kernel_rfl) (by kernel_rfl)⟩
  · simp [Tr.sel] at h
def l8c (n : Net) (k1 k2 k3 : Option Bool) (b : Bool) (xs : List Int) (a d i m j : Int) : Tr (Ex × St) :=
  let c0 := (ltI (getI xs j) 0)
  let c1 := (orB c0 (leI n.nd (getI xs j)))
  let c2 := (rchL n (getI xs j))
  let c3 := (ltI j (lenZ xs))
  let c4 := (gT c1 (gE (notB c1) (gE (notB c1) ((impB (notB c1) (leI (lenZ c2) 1000)) :: (gT (notB c1) (gE (notB c1) (gE (notB c1) (gT (notB c1) ((impB (notB c1) (few n)) :: (gT (notB c1)
  (gE (notB c1) (gE (notB c1) (gT (notB c1) (gT (notB c1) (tt 2 (gT c0 (gE (notB c0) (gE (notB c0) (gE (notB c0) (gE (notB c0) (gT (notB c0) (gT (notB c0) (tt 5 ((leI 0 j) :: (c3 :: (tt 1
  ((leI 0 j) :: (c3 :: (tt 5 [])))))))))))))))))))))))))))))
  let c5 := (nx n (getI xs j))
  (.node (ltI j m) (.node (orB c1 (notB (andB (eqI (lenZ c2) (lenZ xs)) (notB (leI 0 (difZ c2 xs)))))) (.leaf (some (.ret , ⟨mkS 111 [(1 , (.ref 1 0)), (5 , (.int .i64 a)), (6 , (.own 64)),
  (58 , (.int .i64 d)), (59 , (.int .i64 i)), (74 , (.own 64)), (75 , (.int .i64 m)), (76 , (.int .i64 j))], [(1 , (.box [(.int .i64 n.nd), (.sl k1 (.rows n.pw)), (.int .i64 n.ns), (.int
  .i64 n.th), (.sl k2 (.st 3 n.ls)), (.sl k3 (.i1 n.mg))])), (64 , (.arr (some b) (.i1 xs)))], (tt 3 c4)⟩))) (.leaf (some (.normal , ⟨mkS 111 [(1 , (.ref 1 0)), (5 , (.int .i64 a)), (6 ,
  (.own 64)), (58 , (.int .i64 d)), (59 , (.int .i64 i)), (74 , (.own 64)), (75 , (.int .i64 m)), (76 , (.int .i64 (addI .i64 j 1)))], [(1 , (.box [(.int .i64 n.nd), (.sl k1 (.rows n.pw)),
  (.int .i64 n.ns), (.int .i64 n.th), (.sl k2 (.st 3 n.ls)), (.sl k3 (.i1 n.mg))])), (64 , (.arr (some b) (.i1 xs)))], (tt 3 ((eqLI xs (rchL n a)) :: ((rchB n a) :: ((leI 0 (idxZ xs (getI
  xs j))) :: ((eqLI c5 c5) :: ((eqI (lenZ c5) (lenZ c5)) :: ((few n) :: ((eqI (chk n) 0) :: (tt 2 ((few n) :: (tt 7 c4)))))))))))⟩)))) (.leaf (some ((.exit 4) , ⟨mkS 111 [(1 , (.ref 1 0)),
  (5 , (.int .i64 a)), (6 , (.own 64)), (58 , (.int .i64 d)), (59 , (.int .i64 i)), (74 , (.own 64)), (75 , (.int .i64 m)), (76 , (.int .i64 j))], [(1 , (.box [(.int .i64 n.nd), (.sl k1
  (.rows n.pw)), (.int .i64 n.ns), (.int .i64 n.th), (.sl k2 (.st 3 n.ls)), (.sl k3 (.i1 n.mg))])), (64 , (.arr (some b) (.i1 xs)))], (tt 3 [])⟩))))
theorem l8c_eq (n : Net) (k1 k2 k3 : Option Bool) (b : Bool) (xs : List Int) (a d i m j : Int) : keepT 111 [1, 5, 6, 58, 59, 74, 75, 76] [1, 64] (evT (cxs [37, 38, 40, 42]) (tb [(37, s37), (38, s38), (40, s40), (42, s42)]) (orcT [(6, ls8d)]) (loopB Try.f8 4) ⟨mkS 111 (zip2 [1, 5, 6, 58, 59, 74, 75, 76] [.ref 1 0, .int .i64 a, .own 64, .int .i64 d, .int .i64 i, .own 64, .int .i64 m, .int .i64 j]), zip2 [1, 64] [.box (n.cells k1 k2 k3), .arr (some b) (.i1 xs)], []⟩) = l8c n k1 k2 k3 b xs a d i m j := by kernel_rfl
theorem l8c_ok (Γ : Env) (π : Nms) : LoopOK Try.prog Γ π 4 (loopB Try.f8 4) ls8c := by
  intro vs obs r h ho ok ok' hok hT
  simp only [ls8c] at h
  split at h
  · rename_i a d i m cs b xs
    cases hn : netC cs with
    | none => rw [hn] at h; simp [Tr.sel] at h
    | some n =>
    obtain ⟨k1, k2, k3, rfl⟩ := netC_inv hn
    rw [hn] at h
    simp only [Tr.sel, Option.some.injEq] at h
    subst h
    have hx : xs = rchL n a := eqLI_iff.1 (ho (eqLI xs (rchL n a)) (by simp))
    have hb : rchB n a = true := ho (rchB n a) (by simp)
    have hm : m = lenZ xs := eqI_iff.1 (ho (eqI m (lenZ xs)) (by simp))
    have hf : few n = true := ho (few n) (by simp)
    have hc : chk n = 0 := eqI_iff.1 (ho (eqI (chk n) 0) (by simp))
    subst hm
    have hxl : lenZ xs ≤ 8 := by rw [hx]; exact rchL_len2 hf hb
    refine allK ⟨.cons ok37 (.cons ok38 (.cons ok40 (.cons ok42 .nil))), rfl, by kernel_rfl, by kernel_rfl, .cons (l8d_ok Γ π) .nil⟩ (fun j => [.ref 1 0, .int .i64 a, .own 64, .int .i64 d, .int .i64 i, .own 64, .int .i64 (lenZ xs), .int .i64 j])
      [.box (n.cells k1 k2 k3), .arr (some b) (.i1 xs)] (lenZ xs) (by omega) (fun j => l8c n k1 k2 k3 b xs a d i (lenZ xs) j) (fun j => l8c_eq n k1 k2 k3 b xs a d i (lenZ xs) j) ?_ ?_ hok hT
    · intro c h0 hlt
      simp only [l8c, Tr.sel, hlt]
      exact ⟨_, _, rfl, by simp [AllT_tt, AllT_gE, AllT_gT, AllT_nil, AllT_cons, impB_iff, leI_iff, ltI_iff], rfl, Fits.k (by kernel_rfl) (by kernel_rfl) (by kernel_rfl)⟩
    · intro c h0 hlt
      have hlt' := ltI_iff.1 hlt
      have hmem : getI xs c ∈ xs := getI_in h0 hlt'
      have hbb := back_in hf hb (by rw [← hx]; exact hmem)
      have hno := rchB_iff.1 hbb
      have e1 : ltI (getI xs c) 0 = false := ltI_false.2 (by omega)
      have e2 : leI n.nd (getI xs c) = false := leI_false.2 (by omega)
      have e3 : rchL n (getI xs c) = xs := by rw [hx]; exact back_eq hf hb (by rw [← hx]; exact hmem)
      have e4 : andB (eqI (lenZ xs) (lenZ xs)) (notB (leI 0 (difZ xs xs))) = true := sameL xs
      have e5 : leI 0 (idxZ xs (getI xs c)) = true := mem_idx hmem
      simp only [l8c, Tr.sel, hlt, e1, e2, e3, e4, notB_t, notB_f, andB_t, andB_f, orB_t, orB_f, iteB_t, iteB_f, impB_t, impB_f]
      exact ⟨_, rfl, by simp [AllT_tt, AllT_gE, AllT_gT, AllT_nil, AllT_cons, impB_iff, leI_iff, ltI_iff, h0, hlt', hf, hc, hb, hx.symm, e5, eqI_iff, eqLI_iff, show lenZ xs ≤ 1000 by omega], Fits.k (by kernel_rfl) (by kernel_rfl) (by kernel_rfl)⟩
  · simp [Tr.sel] at h
def l8b (n : Net) (k1 k2 k3 : Option Bool) (d i : Int) : Tr (Ex × St) :=
  let c0 := (notB (leI 0 (idxZ (rchL n i) i)))
  let c1 := (lenZ (rchL n i))
  let c2 := (leI c1 1000)
  let c3 := (gT c0 (gE (notB c0) (gE (notB c0) ((impB (notB c0) c2) :: ((impB (notB c0) (ordB (rchL n i))) :: (gT (notB c0) (gE (notB c0) (gT (notB c0) (tt 2 (c2 :: (tt 6 ((few n) :: (tt 10
  [])))))))))))))
  (.node (ltI i d) (.node (andB c0 true) (.leaf (some (.ret , ⟨mkS 111 [(1 , (.ref 1 0)), (58 , (.int .i64 d)), (59 , (.int .i64 i))], [(1 , (.box [(.int .i64 n.nd), (.sl k1 (.rows n.pw)),
  (.int .i64 n.ns), (.int .i64 n.th), (.sl k2 (.st 3 n.ls)), (.sl k3 (.i1 n.mg))]))], (tt 3 c3)⟩))) (.leaf (some (.normal , ⟨mkS 111 [(1 , (.ref 1 0)), (58 , (.int .i64 d)), (59 , (.int
  .i64 (addI .i64 i 1)))], [(1 , (.box [(.int .i64 n.nd), (.sl k1 (.rows n.pw)), (.int .i64 n.ns), (.int .i64 n.th), (.sl k2 (.st 3 n.ls)), (.sl k3 (.i1 n.mg))]))], (tt 3 ((eqLI (rchL n i)
  (rchL n i)) :: ((rchB n i) :: ((eqI c1 c1) :: ((few n) :: ((eqI (chk n) 0) :: (tt 5 c3)))))))⟩)))) (.leaf (some ((.exit 2) , ⟨mkS 111 [(1 , (.ref 1 0)), (58 , (.int .i64 d)), (59 , (.int
  .i64 i))], [(1 , (.box [(.int .i64 n.nd), (.sl k1 (.rows n.pw)), (.int .i64 n.ns), (.int .i64 n.th), (.sl k2 (.st 3 n.ls)), (.sl k3 (.i1 n.mg))]))], (tt 3 [])⟩))))
theorem l8b_eq (n : Net) (k1 k2 k3 : Option Bool) (d i : Int) : keepT 111 [1, 58, 59] [1] (evT (cxs [40, 42, 43]) (tb [(40, s40), (42, s42), (43, s43)]) (orcT [(4, ls8c)]) (loopB Try.f8 2) ⟨mkS 111 (zip2 [1, 58, 59] [.ref 1 0, .int .i64 d, .int .i64 i]), zip2 [1] [.box (n.cells k1 k2 k3)], []⟩) = l8b n k1 k2 k3 d i := by kernel_rfl
theorem l8b_ok (Γ : Env) (π : Nms) : LoopOK Try.prog Γ π 2 (loopB Try.f8 2) ls8b := by
  intro vs obs r h ho ok ok' hok hT
  simp only [ls8b] at h
  split at h
  · rename_i m cs
    cases hn : netC cs with
    | none => rw [hn] at h; simp [Tr.sel] at h
    | some n =>
    obtain ⟨k1, k2, k3, rfl⟩ := netC_inv hn
    rw [hn] at h
    simp only [Tr.sel, Option.some.injEq] at h
    subst h
    have hm : m = n.nd := eqI_iff.1 (ho (eqI m n.nd) (by simp))
    have hf : few n = true := ho (few n) (by simp)
    have hc : chk n = 0 := eqI_iff.1 (ho (eqI (chk n) 0) (by simp))
    subst hm
    have hnd := (chk_zero.1 hc).nd
    refine allK ⟨.cons ok40 (.cons ok42 (.cons ok43 .nil)), rfl, by kernel_rfl, by kernel_rfl, .cons (l8c_ok Γ π) .nil⟩ (fun j => [.ref 1 0, .int .i64 n.nd, .int .i64 j])
      [.box (n.cells k1 k2 k3)] n.nd (by omega) (fun j => l8b n k1 k2 k3 n.nd j) (fun j => l8b_eq n k1 k2 k3 n.nd j) ?_ ?_ hok hT
    · intro c h0 hlt
      simp only [l8b, Tr.sel, hlt]
      exact ⟨_, _, rfl, by simp [AllT_tt, AllT_gE, AllT_gT, AllT_nil, AllT_cons, impB_iff, leI_iff, ltI_iff], rfl, Fits.k (by kernel_rfl) (by kernel_rfl) (by kernel_rfl)⟩
    · intro c h0 hlt
      have hlt' := ltI_iff.1 hlt
      have hb : rchB n c = true := rchB_iff.2 ⟨hc, h0, hlt'⟩
      have hl := rchL_len2 hf hb
      have e1 : leI 0 (idxZ (rchL n c) c) = true := mem_idx (back_self hf hb)
      simp only [l8b, Tr.sel, hlt, e1, andB, notB, Bool.not_true]
      exact ⟨_, rfl, by simp [AllT_tt, AllT_gE, AllT_gT, AllT_nil, AllT_cons, impB_iff, leI_iff, ltI_iff, hf, hc, hb, eqI_iff, eqLI_iff, rise_ord (rchL_rise hb), show lenZ (rchL n c) ≤ 1000 by omega], Fits.k (by kernel_rfl) (by kernel_rfl) (by kernel_rfl)⟩
  · simp [Tr.sel] at h
def l8a (n : Net) (k1 k2 k3 k4 : Option Bool) (m i : Int) : Tr (Ex × St) :=
  let c0 := (getL n.ls i)
  let c1 := (nx n (getN c0 0))
  let c2 := (notB (usb n i))
  let c3 := (notB (iteB (leI 0 (idxZ c1 (getN c0 1))) (usb n i) c2))
  let c4 := (andB (notB c3) (usb n i))
  let c5 := (impB c4 (few n))
  let c6 := (gT c3 (gE (notB c3) (gE (notB c3) (gE c4 (gT (andB (notB c3) c2) (gE c4 (c5 :: (gT c4 (gE c4 (gE c4 (c5 :: (gT c4 (gE c4 (gE c4 (gE c4 (gE c4 (gT c4 (gE c4 (gT c4 (gT c4 (gT c4
  (gE (notB c3) ((impB (notB c3) (few n)) :: (gT (notB c3) (gE (notB c3) (gE (notB c3) (gT (notB c3) (gT (notB c3) (tt 3 ((leI (lenZ c1) 1000) :: (tt 5 ((few n) :: (tt 6 ((few n) :: (tt 9
  ((leI 0 i) :: ((ltI i (lenZ n.ls)) :: (tt 6 []))))))))))))))))))))))))))))))))))))))
  (.node (ltI i m) (.node (orB c3 (andB (usb n i) (notB (usb n (idx n (getN c0 1) (getN c0 0)))))) (.leaf (some (.ret , ⟨mkS 111 [(1 , (.ref 1 0)), (22 , (.sl k4 (.st 3 n.ls))), (23 , (.int
  .i64 m)), (24 , (.int .i64 i))], [(1 , (.box [(.int .i64 n.nd), (.sl k1 (.rows n.pw)), (.int .i64 n.ns), (.int .i64 n.th), (.sl k2 (.st 3 n.ls)), (.sl k3 (.i1 n.mg))]))], (tt 3 c6)⟩)))
  (.leaf (some (.normal , ⟨mkS 111 [(1 , (.ref 1 0)), (22 , (.sl k4 (.st 3 n.ls))), (23 , (.int .i64 m)), (24 , (.int .i64 (addI .i64 i 1)))], [(1 , (.box [(.int .i64 n.nd), (.sl k1 (.rows
  n.pw)), (.int .i64 n.ns), (.int .i64 n.th), (.sl k2 (.st 3 n.ls)), (.sl k3 (.i1 n.mg))]))], (tt 5 c6)⟩)))) (.leaf (some ((.exit 0) , ⟨mkS 111 [(1 , (.ref 1 0)), (22 , (.sl k4 (.st 3
  n.ls))), (23 , (.int .i64 m)), (24 , (.int .i64 i))], [(1 , (.box [(.int .i64 n.nd), (.sl k1 (.rows n.pw)), (.int .i64 n.ns), (.int .i64 n.th), (.sl k2 (.st 3 n.ls)), (.sl k3 (.i1
  n.mg))]))], (tt 3 [])⟩))))
theorem l8a_eq (n : Net) (k1 k2 k3 k4 : Option Bool) (m i : Int) : keepT 111 [1, 22, 23, 24] [1] (evT (cxs [21, 25, 38, 42]) (tb [(21, s21), (25, s25), (38, s38), (42, s42)]) (orcT []) (loopB Try.f8 0) ⟨mkS 111 (zip2 [1, 22, 23, 24] [.ref 1 0, .sl k4 (.st 3 n.ls), .int .i64 m, .int .i64 i]), zip2 [1] [.box (n.cells k1 k2 k3)], []⟩) = l8a n k1 k2 k3 k4 m i := by kernel_rfl
theorem l8a_ok (Γ : Env) (π : Nms) : LoopOK Try.prog Γ π 0 (loopB Try.f8 0) ls8a := by
  intro vs obs r h ho ok ok' hok hT
  simp only [ls8a] at h
  split at h
  · rename_i k w ls m cs
    cases hn : netC cs with
    | none => rw [hn] at h; simp [Tr.sel] at h
    | some n =>
    obtain ⟨k1, k2, k3, rfl⟩ := netC_inv hn
    rw [hn] at h
    cases hw : Nat.beq w 3 <;> rw [hw] at h <;> simp only [Tr.sel, cond_true, cond_false, reduceCtorEq, Option.some.injEq] at h
    subst h
    have := beqT.1 hw
    subst this
    have hls : ls = n.ls := eqLs_iff.1 (ho (eqLs ls n.ls) (by simp))
    have hm : m = lenZ n.ls := eqI_iff.1 (ho (eqI m (lenZ n.ls)) (by simp))
    have hf : few n = true := ho (few n) (by simp)
    have hc : chk n = 0 := eqI_iff.1 (ho (eqI (chk n) 0) (by simp))
    subst hm
    subst hls
    have hl := few_ls hf
    refine allK ⟨.cons ok21 (.cons ok25 (.cons ok38 (.cons ok42 .nil))), rfl, by kernel_rfl, by kernel_rfl, .nil⟩ (fun j => [.ref 1 0, .sl k (.st 3 n.ls), .int .i64 (lenZ n.ls), .int .i64 j])
      [.box (n.cells k1 k2 k3)] (lenZ n.ls) (by omega) (fun j => l8a n k1 k2 k3 k (lenZ n.ls) j) (fun j => l8a_eq n k1 k2 k3 k (lenZ n.ls) j) ?_ ?_ hok hT
    · intro c h0 hlt
      simp only [l8a, Tr.sel, hlt]
      exact ⟨_, _, rfl, by simp [AllT_tt, AllT_gE, AllT_gT, AllT_nil, AllT_cons, impB_iff, leI_iff, ltI_iff], rfl, Fits.k (by kernel_rfl) (by kernel_rfl) (by kernel_rfl)⟩
    · intro c h0 hlt
      have hlt' := ltI_iff.1 hlt
      have e1 : leI 0 (idxZ (nx n (getN (getL n.ls c) 0)) (getN (getL n.ls c) 1)) = usb n c := (back_usb hc h0 hlt').symm
      have hnl : lenZ (nx n (getN (getL n.ls c) 0)) ≤ 1000 := nx_len hf
      cases hu : usb n c with
      | false =>
        simp only [l8a, Tr.sel, hlt, e1, hu, iteB, orB, andB, notB, Bool.not_true, Bool.not_false]
        exact ⟨_, rfl, by simp [AllT_tt, AllT_gE, AllT_gT, AllT_nil, AllT_cons, impB_iff, leI_iff, ltI_iff, hf, h0, hlt', hnl], Fits.k (by kernel_rfl) (by kernel_rfl) (by kernel_rfl)⟩
      | true =>
        have e2 : usb n (idx n (getN (getL n.ls c) 1) (getN (getL n.ls c) 0)) = true := back_rev hc h0 hlt' hu
        simp only [l8a, Tr.sel, hlt, e1, e2, hu, iteB, orB, andB, notB, Bool.not_true, Bool.not_false]
        exact ⟨_, rfl, by simp [AllT_tt, AllT_gE, AllT_gT, AllT_nil, AllT_cons, impB_iff, leI_iff, ltI_iff, hf, h0, hlt', hnl], Fits.k (by kernel_rfl) (by kernel_rfl) (by kernel_rfl)⟩
  · simp [Tr.sel] at h
def t8 (n : Net) (k1 k2 k3 : Option Bool) : Tr Res :=
  let c0 := (notB (few n))
  let c1 := (gT c0 (gE (notB c0) (gE (notB c0) (gT (notB c0) ((impB (notB c0) (few n)) :: (gT (notB c0) (gE (notB c0) (gT (notB c0) (tt 2 ((leI (lenZ n.pw) 9223372036854775807) :: (tt 8
  [])))))))))))
  let c2 := (eqI (chk n) 0)
  (.node false (.leaf (some ⟨(tt 6 []), (.bool false), [.junk]⟩)) (.node (orB c0 (neI (chk n) 0)) (.leaf (some ⟨(tt 3 c1), (.bool true), [.junk]⟩)) (.leaf (some ⟨(tt 1 ((eqI n.nd n.nd) ::
  ((few n) :: (c2 :: (tt 3 ((eqLs n.ls n.ls) :: ((eqI (lenZ n.ls) (lenZ n.ls)) :: ((few n) :: (c2 :: (tt 6 c1)))))))))), (.bool true), [.junk]⟩))))
theorem t8_eq (n : Net) (k1 k2 k3 : Option Bool) : evFT (cxs [17, 18, 19]) (tb [(17, s17), (18, s18), (19, s19)]) (orcT [(0, ls8a), (2, ls8b)]) 8 Try.f8 [n.av k1 k2 k3] = t8 n k1 k2 k3 := by kernel_rfl
theorem ok8 : FnOK Try.prog 8 s8 := by
  refine fnK (.cons ok17 (.cons ok18 (.cons ok19 .nil))) (fs := [17, 18, 19]) rfl Try.func8 rfl (by kernel_rfl) (fun Γ π => .cons (l8a_ok Γ π) (.cons (l8b_ok Γ π) .nil)) ?_
  intro bs r h ho
  obtain ⟨n, k1, k2, k3, rfl, h⟩ := on1_inv h
  cases h
  have hl : leI (lenZ n.pw) 9223372036854775807 = true := ho _ (by simp)
  refine ⟨by simp, ?_⟩
  rw [t8_eq]
  have hne : neI (chk n) 0 = notB (eqI (chk n) 0) := Beq (by simp only [andB_iff, orB_iff', notB_iff, andB_false, orB_false, notB_false, eqI_iff, eqI_false, neI_iff, neI_false, ltI_iff, ltI_false, leI_iff, leI_false, inB_iff, nodeB_iff, inB_false, nodeB_false])
  simp only [t8, Tr.sel, hne]
  cases hf : few n with
  | false => exact ⟨_, rfl, by simp [AllT_tt, AllT_gE, AllT_gT, AllT_nil, AllT_cons, impB_iff, leI_iff, ltI_iff, leI_iff.1 hl, notB], rfl, rfl⟩
  | true =>
    cases hc : eqI (chk n) 0 with
    | false => exact ⟨_, rfl, by simp [AllT_tt, AllT_gE, AllT_gT, AllT_nil, AllT_cons, impB_iff, leI_iff, ltI_iff, leI_iff.1 hl, notB], rfl, rfl⟩
    | true => exact ⟨_, rfl, by simp [AllT_tt, AllT_gE, AllT_gT, AllT_nil, AllT_cons, impB_iff, leI_iff, ltI_iff, leI_iff.1 hl, notB, eqI_iff, eqLs_iff], rfl, rfl⟩
end Go.Sx
