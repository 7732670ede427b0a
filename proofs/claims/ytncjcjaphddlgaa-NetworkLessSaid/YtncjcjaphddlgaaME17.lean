/-
  The walk of the law NetworkLess. No condition beyond those that each theorem names.
-/
import Derived.Test.YtncjcjaphddlgaaME16
import Derived.Test.YtncjcjaphddlgaaS7
import Derived.Test.YtncjcjaphddlgaaS6
set_option linter.unusedVariables false
set_option linter.unusedSimpArgs false
set_option maxRecDepth 100000
namespace Go.Sx
open Go Go.Proofs

def t58 (n : Net) (k1 k2 k3 : Option Bool) (a b : Int) : Tr Res :=
  (.leaf (some ⟨(tt 2 ((leI (lenZ (rchL n a)) 1000) :: (tt 4 ((few n) :: (tt 6 []))))), (.bool (notB (leI 0 (idxZ (rchL n a) b)))), [.junk, .junk, .junk]⟩))
theorem t58_eq (n : Net) (k1 k2 k3 : Option Bool) (a b : Int) : evFT (cxs [40, 42]) (tb [(40, s40), (42, s42)]) (orcT []) 58 Try.f58 [.int .i64 b, .snap (n.cells k1 k2 k3) 0, .snap [.int .i64 a] 0] = t58 n k1 k2 k3 a b := by kernel_rfl
theorem rchL_le {n : Net} {v : Int} (hf : few n = true) : lenZ (rchL n v) ≤ 1000 := by
  cases hb : rchB n v with
  | true => have := rchL_len2 hf hb; omega
  | false => rw [rchL, hb]; simp [lenZ]
theorem ok58 : FnOK Try.prog 58 s58 := by
  refine fnK (.cons ok40 (.cons ok42 .nil)) (fs := [40, 42]) rfl Try.func58 rfl (by kernel_rfl) noLoops ?_
  intro bs r h ho
  unfold s58 at h
  split at h
  · rename_i b cs a
    cases hn : netC cs with
    | none => rw [hn] at h; cases h
    | some n =>
    obtain ⟨k1, k2, k3, rfl⟩ := netC_inv hn
    rw [hn] at h
    cases h
    have hf : few n = true := ho (few n) (by simp)
    refine ⟨by simp, ?_⟩
    rw [t58_eq]
    exact ⟨_, rfl, by simp [AllT_tt, AllT_gE, AllT_gT, AllT_nil, AllT_cons, impB_iff, leI_iff, ltI_iff, hf, rchL_le hf], rfl, rfl⟩
  · cases h
def l100c (n : Net) (k k1 k2 k3 : Option Bool) (xs : List Int) (a m i : Int) : Tr (Ex × St) :=
  let c0 := ((few n) :: (tt 3 ((leI 0 i) :: ((ltI i (lenZ xs)) :: (tt 10 [])))))
  (.node (ltI i m) (.node (notB (leI 0 (idxZ (rchL n a) (getI xs i)))) (.leaf (some (.ret , ⟨mkS 19 [(0 , (.sl k (.i1 xs))), (1 , (.clo 58 [(.snap [(.int .i64 n.nd), (.sl k1 (.rows n.pw)),
  (.int .i64 n.ns), (.int .i64 n.th), (.sl k2 (.st 3 n.ls)), (.sl k3 (.i1 n.mg))] 0), (.snap [(.int .i64 a)] 0)])), (4 , (.int .i64 i)), (7 , (.int .i64 m)), (8 , (.int .i64 i))], [], (tt 3
  c0)⟩))) (.leaf (some (.normal , ⟨mkS 19 [(0 , (.sl k (.i1 xs))), (1 , (.clo 58 [(.snap [(.int .i64 n.nd), (.sl k1 (.rows n.pw)), (.int .i64 n.ns), (.int .i64 n.th), (.sl k2 (.st 3 n.ls)),
  (.sl k3 (.i1 n.mg))] 0), (.snap [(.int .i64 a)] 0)])), (7 , (.int .i64 m)), (8 , (.int .i64 (addI .i64 i 1)))], [], (tt 4 c0)⟩)))) (.leaf (some ((.exit 0) , ⟨mkS 19 [(0 , (.sl k (.i1
  xs))), (1 , (.clo 58 [(.snap [(.int .i64 n.nd), (.sl k1 (.rows n.pw)), (.int .i64 n.ns), (.int .i64 n.th), (.sl k2 (.st 3 n.ls)), (.sl k3 (.i1 n.mg))] 0), (.snap [(.int .i64 a)] 0)])), (7
  , (.int .i64 m)), (8 , (.int .i64 i))], [], (tt 3 [])⟩))))
theorem l100c_eq (n : Net) (k k1 k2 k3 : Option Bool) (xs : List Int) (a m i : Int) : keepT 19 [0, 1, 7, 8, 4] [] (evT (cxs [58]) (tb [(58, s58)]) (orcT []) (loopB Try.f100 0) ⟨mkS 19 (zip2 [0, 1, 7, 8] [.sl k (.i1 xs), .clo 58 [.snap (n.cells k1 k2 k3) 0, .snap [.int .i64 a] 0], .int .i64 m, .int .i64 i]), zip2 [] [], []⟩) = l100c n k k1 k2 k3 xs a m i := by kernel_rfl
theorem subZ_at {xs ys : List Int} (h : subZ xs ys = true) {i : Int} (h0 : 0 ≤ i) (h1 : i < lenZ xs) : leI 0 (idxZ ys (getI xs i)) = true := by
  rw [subZ, eqI_iff, scan_none (Int.le_refl 0)] at h
  have := h i h0 (by simp only [lenZ] at h1; omega)
  exact notB_false.1 this
theorem subZ_of {xs ys : List Int} (h : ∀ x, x ∈ xs → x ∈ ys) : subZ xs ys = true := by
  rw [subZ, eqI_iff, scan_none (Int.le_refl 0)]
  intro i h0 h1
  exact notB_false.2 (idxZ_iff.2 (h _ (getI_in h0 (by simp only [lenZ]; omega))))
theorem l100c_ok (Γ : Env) (π : Nms) : LoopOK Try.prog Γ π 0 (loopB Try.f100 0) ls100c := by
  intro vs obs r h ho ok ok' hok hT
  simp only [ls100c] at h
  split at h
  · rename_i k xs cs a m
    cases hn : netC cs with
    | none => rw [hn] at h; simp [Tr.sel] at h
    | some n =>
    obtain ⟨k1, k2, k3, rfl⟩ := netC_inv hn
    rw [hn] at h
    simp only [Tr.sel, Option.some.injEq] at h
    subst h
    have hm : m = lenZ xs := eqI_iff.1 (ho (eqI m (lenZ xs)) (by simp))
    have hf : few n = true := ho (few n) (by simp)
    have hl : lenZ xs ≤ 1000 := leI_iff.1 (ho (leI (lenZ xs) 1000) (by simp))
    have hs : subZ xs (rchL n a) = true := ho (subZ xs (rchL n a)) (by simp)
    subst hm
    refine allK ⟨.cons ok58 .nil, rfl, by kernel_rfl, by kernel_rfl, .nil⟩ (fun i => [.sl k (.i1 xs), .clo 58 [.snap (n.cells k1 k2 k3) 0, .snap [.int .i64 a] 0], .int .i64 (lenZ xs), .int .i64 i]) [] (lenZ xs) (by omega)
      (fun i => l100c n k k1 k2 k3 xs a (lenZ xs) i) (fun i => l100c_eq n k k1 k2 k3 xs a (lenZ xs) i) ?_ ?_ hok hT
    · intro i h0 hlt
      simp only [l100c, Tr.sel, hlt]
      exact ⟨_, _, rfl, by simp [AllT_tt, AllT_gE, AllT_gT, AllT_nil, AllT_cons, impB_iff, leI_iff, ltI_iff], rfl, Fits.k (by kernel_rfl) (by kernel_rfl) (by kernel_rfl)⟩
    · intro i h0 hlt
      have hlt' := ltI_iff.1 hlt
      simp only [l100c, Tr.sel, hlt, subZ_at hs h0 hlt', notB_t]
      exact ⟨_, rfl, by simp [AllT_tt, AllT_gE, AllT_gT, AllT_nil, AllT_cons, impB_iff, leI_iff, ltI_iff, h0, hlt', hf], Fits.k (by kernel_rfl) (by kernel_rfl) (by kernel_rfl)⟩
  · simp [Tr.sel] at h
def t100c (n : Net) (k k1 k2 k3 : Option Bool) (xs : List Int) (a : Int) : Tr Res :=
  (.leaf (some ⟨(tt 1 ((eqI (lenZ xs) (lenZ xs)) :: ((few n) :: ((leI (lenZ xs) 1000) :: ((subZ xs (rchL n a)) :: (tt 4 [])))))), (.int .i64 (-1)), [.junk, .junk]⟩))
theorem t100c_eq (n : Net) (k k1 k2 k3 : Option Bool) (xs : List Int) (a : Int) : evFT (cxs [58]) (tb [(58, s58)]) (orcT [(0, ls100c)]) 100 Try.f100 [.sl k (.i1 xs), .clo 58 [.snap (n.cells k1 k2 k3) 0, .snap [.int .i64 a] 0]] = t100c n k k1 k2 k3 xs a := by kernel_rfl
theorem ok100c : FnOK Try.prog 100 s100c := by
  refine fnK (.cons ok58 .nil) (fs := [58]) rfl Try.func100 rfl (by kernel_rfl) (fun Γ π => .cons (l100c_ok Γ π) .nil) ?_
  intro bs r h ho
  unfold s100c at h
  split at h
  · rename_i k xs cs a
    cases hn : netC cs with
    | none => rw [hn] at h; cases h
    | some n =>
    obtain ⟨k1, k2, k3, rfl⟩ := netC_inv hn
    rw [hn] at h
    cases h
    have hf : few n = true := ho (few n) (by simp)
    have hl : leI (lenZ xs) 1000 = true := ho (leI (lenZ xs) 1000) (by simp)
    have hs : subZ xs (rchL n a) = true := ho (subZ xs (rchL n a)) (by simp)
    refine ⟨by simp, ?_⟩
    rw [t100c_eq]
    exact ⟨_, rfl, by simp [AllT_tt, AllT_gE, AllT_gT, AllT_nil, AllT_cons, impB_iff, leI_iff, ltI_iff, eqI_iff, hf, hs, leI_iff.1 hl], rfl, rfl⟩
  · cases h
def t57c (n : Net) (k k1 k2 k3 : Option Bool) (xs : List Int) (a : Int) : Tr Res :=
  (.leaf (some ⟨(tt 3 ((few n) :: ((leI (lenZ xs) 1000) :: ((subZ xs (rchL n a)) :: (tt 6 []))))), (.bool (leI 0 (-1))), [.junk, .junk]⟩))
theorem t57c_eq (n : Net) (k k1 k2 k3 : Option Bool) (xs : List Int) (a : Int) : evFT (cxs [100]) (tb [(100, s100c)]) (orcT []) 57 Try.f57 [.sl k (.i1 xs), .clo 58 [.snap (n.cells k1 k2 k3) 0, .snap [.int .i64 a] 0]] = t57c n k k1 k2 k3 xs a := by kernel_rfl
theorem ok57c : FnOK Try.prog 57 s57c := by
  refine fnK (.cons ok100c .nil) (fs := [100]) rfl Try.func57 rfl (by kernel_rfl) noLoops ?_
  intro bs r h ho
  unfold s57c at h
  split at h
  · rename_i k xs cs a
    cases hn : netC cs with
    | none => rw [hn] at h; cases h
    | some n =>
    obtain ⟨k1, k2, k3, rfl⟩ := netC_inv hn
    rw [hn] at h
    cases h
    have hf : few n = true := ho (few n) (by simp)
    have hl : leI (lenZ xs) 1000 = true := ho (leI (lenZ xs) 1000) (by simp)
    have hs : subZ xs (rchL n a) = true := ho (subZ xs (rchL n a)) (by simp)
    refine ⟨by simp, ?_⟩
    rw [t57c_eq]
    exact ⟨_, rfl, by simp [AllT_tt, AllT_gE, AllT_gT, AllT_nil, AllT_cons, impB_iff, leI_iff, ltI_iff, eqI_iff, hf, hs, leI_iff.1 hl], rfl, rfl⟩
  · cases h
def l14a (n : Net) (k1 k2 k3 : Option Bool) (more i d c f t l nd ns th : Int) (pw ls : List (List Int)) (mg : List Int) : Tr (Ex × St) :=
  let c0 := (rchL ⟨nd, pw, ns, th, ls, mg⟩ c)
  let c1 := ((few n) :: ((leI (lenZ c0) 1000) :: ((subZ c0 (rchL n c)) :: (tt 5 ((few ⟨nd, pw, ns, th, ls, mg⟩) :: (tt 11 []))))))
  (.node (ltI c d) (.node false (.leaf (some (.ret , ⟨mkS 200 [(2 , (.int .u8 more)), (3 , (.ref 3 0)), (7 , (.int .i64 i)), (8 , (.ref 8 0)), (9 , (.ref 9 0)), (89 , (.int .i64 d)), (90 ,
  (.int .i64 c))], [(3 , (.box [(.int .i64 n.nd), (.sl k1 (.rows n.pw)), (.int .i64 n.ns), (.int .i64 n.th), (.sl k2 (.st 3 n.ls)), (.sl k3 (.i1 n.mg))])), (8 , (.box [(.int .i64 f), (.int
  .i64 t), (.int .i64 l)])), (9 , (.box [(.int .i64 nd), (.own 102049), (.int .i64 ns), (.int .i64 th), (.own 105049), (.own 106049)])), (102049 , (.arr none (.rows pw))), (105049 , (.arr
  none (.st 3 ls))), (106049 , (.arr none (.i1 mg)))], (tt 2 c1)⟩))) (.leaf (some (.normal , ⟨mkS 200 [(2 , (.int .u8 more)), (3 , (.ref 3 0)), (7 , (.int .i64 i)), (8 , (.ref 8 0)), (9 ,
  (.ref 9 0)), (89 , (.int .i64 d)), (90 , (.int .i64 (addI .i64 c 1)))], [(3 , (.box [(.int .i64 n.nd), (.sl k1 (.rows n.pw)), (.int .i64 n.ns), (.int .i64 n.th), (.sl k2 (.st 3 n.ls)),
  (.sl k3 (.i1 n.mg))])), (8 , (.box [(.int .i64 f), (.int .i64 t), (.int .i64 l)])), (9 , (.box [(.int .i64 nd), (.own 102049), (.int .i64 ns), (.int .i64 th), (.own 105049), (.own
  106049)])), (102049 , (.arr none (.rows pw))), (105049 , (.arr none (.st 3 ls))), (106049 , (.arr none (.i1 mg)))], (tt 4 c1)⟩)))) (.leaf (some ((.exit 0) , ⟨mkS 200 [(2 , (.int .u8
  more)), (3 , (.ref 3 0)), (7 , (.int .i64 i)), (8 , (.ref 8 0)), (9 , (.ref 9 0)), (89 , (.int .i64 d)), (90 , (.int .i64 c))], [(3 , (.box [(.int .i64 n.nd), (.sl k1 (.rows n.pw)), (.int
  .i64 n.ns), (.int .i64 n.th), (.sl k2 (.st 3 n.ls)), (.sl k3 (.i1 n.mg))])), (8 , (.box [(.int .i64 f), (.int .i64 t), (.int .i64 l)])), (9 , (.box [(.int .i64 nd), (.own 102049), (.int
  .i64 ns), (.int .i64 th), (.own 105049), (.own 106049)])), (102049 , (.arr none (.rows pw))), (105049 , (.arr none (.st 3 ls))), (106049 , (.arr none (.i1 mg)))], (tt 3 [])⟩))))
theorem l14a_eq (n : Net) (k1 k2 k3 : Option Bool) (more i d c f t l nd ns th : Int) (pw ls : List (List Int)) (mg : List Int) : keepT 200 [2, 3, 7, 8, 9, 89, 90] [3, 8, 9, 102049, 105049, 106049] (evT (cxs [40, 57]) (tb [(40, s40), (57, s57c)]) (orcT []) (loopB Try.f14 0) ⟨mkS 200 (zip2 [2, 3, 7, 8, 9, 89, 90] [.int .u8 more, .ref 3 0, .int .i64 i, .ref 8 0, .ref 9 0, .int .i64 d, .int .i64 c]), zip2 [3, 8, 9, 102049, 105049, 106049] [.box (n.cells k1 k2 k3), .box [.int .i64 f, .int .i64 t, .int .i64 l], .box [.int .i64 nd, .own 102049, .int .i64 ns, .int .i64 th, .own 105049, .own 106049], .arr none (.rows pw), .arr none (.st 3 ls), .arr none (.i1 mg)], []⟩) = l14a n k1 k2 k3 more i d c f t l nd ns th pw ls mg := by kernel_rfl
theorem netB_inv {bs : List AV} {x : Int × Int × Int} (h : netB bs = some x) : bs = [.int .i64 x.1, .own 102049, .int .i64 x.2.1, .int .i64 x.2.2, .own 105049, .own 106049] := by
  unfold netB at h
  split at h
  · cases h; rfl
  · cases h
theorem l14a_ok (Γ : Env) (π : Nms) : LoopOK Try.prog Γ π 0 (loopB Try.f14 0) ls14a := by
  intro vs obs r h ho ok ok' hok hT
  simp only [ls14a] at h
  split at h
  · rename_i more i d cs f t l bs pw w ls mg
    cases hn : netC cs with
    | none => rw [hn] at h; simp [Tr.sel] at h
    | some n =>
    cases hb : netB bs with
    | none => rw [hn, hb] at h; simp [Tr.sel] at h
    | some x =>
    obtain ⟨nd, ns, th⟩ := x
    obtain ⟨k1, k2, k3, rfl⟩ := netC_inv hn
    obtain rfl := netB_inv hb
    rw [hn, hb] at h
    cases hw : Nat.beq w 3 <;> rw [hw] at h <;> simp only [Tr.sel, cond_true, cond_false, reduceCtorEq, Option.some.injEq] at h
    have := beqT.1 hw
    subst this
    subst h
    have hf : few n = true := ho (few n) (by simp)
    have hc : chk n = 0 := eqI_iff.1 (ho (eqI (chk n) 0) (by simp))
    have hi : 0 ≤ fnd n f t := leI_iff.1 (ho (leI 0 (fnd n f t)) (by simp))
    have hd : d = n.nd := eqI_iff.1 (ho (eqI d n.nd) (by simp))
    have hM : (⟨nd, pw, ns, th, ls, mg⟩ : Net) = woN n f t := eqN_iff.1 (ho (eqN ⟨nd, pw, ns, th, ls, mg⟩ (woN n f t)) (by simp))
    subst hd
    have hnd := (chk_zero.1 hc).nd
    have hil : fnd n f t < lenZ n.ls := by rcases fnd_cases n f t with e | e <;> omega
    rw [woN_del hc hi] at hM
    refine allK ⟨.cons ok40 (.cons ok57c .nil), rfl, by kernel_rfl, by kernel_rfl, .nil⟩ (fun c => [.int .u8 more, .ref 3 0, .int .i64 i, .ref 8 0, .ref 9 0, .int .i64 n.nd, .int .i64 c])
      [.box (n.cells k1 k2 k3), .box [.int .i64 f, .int .i64 t, .int .i64 l], .box [.int .i64 nd, .own 102049, .int .i64 ns, .int .i64 th, .own 105049, .own 106049], .arr none (.rows pw), .arr none (.st 3 ls), .arr none (.i1 mg)] n.nd (by omega)
      (fun c => l14a n k1 k2 k3 more i n.nd c f t l nd ns th pw ls mg) (fun c => l14a_eq n k1 k2 k3 more i n.nd c f t l nd ns th pw ls mg) ?_ ?_ hok hT
    · intro c h0 hlt
      simp only [l14a, Tr.sel, hlt]
      exact ⟨_, _, rfl, by simp [AllT_tt, AllT_gE, AllT_gT, AllT_nil, AllT_cons, impB_iff, leI_iff, ltI_iff], rfl, Fits.k (by kernel_rfl) (by kernel_rfl) (by kernel_rfl)⟩
    · intro c h0 hlt
      have hsub : subZ (rchL (n.del (fnd n f t)) c) (rchL n c) = true := subZ_of fun b hb => del_sub hf hc hi hil hb
      simp only [l14a, Tr.sel, hlt, hM]
      exact ⟨_, rfl, by simp [AllT_tt, AllT_gE, AllT_gT, AllT_nil, AllT_cons, impB_iff, leI_iff, ltI_iff, hf, del_few hf, rchL_le (del_few hf), hsub], Fits.k (by kernel_rfl) (by kernel_rfl) (by kernel_rfl)⟩
  · simp [Tr.sel] at h
def l14b (n : Net) (k k1 k2 k3 : Option Bool) (more i d c f t l nd ns th : Int) (pw ls : List (List Int)) (mg : List Int) : Tr (Ex × St) :=
  let c0 := (getL n.ls c)
  let c1 := (neI (getN c0 0) t)
  let c2 := (andB (neI c i) (orB c1 (neI (getN c0 1) f)))
  let c3 := (usb ⟨nd, pw, ns, th, ls, mg⟩ (idx ⟨nd, pw, ns, th, ls, mg⟩ (getN c0 0) (getN c0 1)))
  let c4 := (impB c2 (few ⟨nd, pw, ns, th, ls, mg⟩))
  let c5 := (andB (neI c i) (notB c1))
  let c6 := (gE c2 (gT (notB c2) (gE c2 (gE c2 ((impB c2 (few n)) :: (gT c2 (gE c2 (gE c2 (gT c2 (gT c2 (c4 :: (gT c2 (gE c2 (gE c2 (c4 :: (gT c2 (gE c2 (gE c2 (gE c2 (gE c2 (gT c2 (gE c2
  (gT c2 (gT c2 (gT c2 (tt 2 (gE (neI c i) (gT (notB (neI c i)) (gE (neI c i) (gT (andB (neI c i) c1) (gE c5 (gE c5 (gE c5 (gE c5 (gT c5 (gE c5 (gT c5 (gE (neI c i) (gE (neI c i) (gE (neI c
  i) (gE (neI c i) (gT (neI c i) (gE (neI c i) (gT (neI c i) (tt 9 ((leI 0 c) :: ((ltI c (lenZ n.ls)) :: (tt 6 []))))))))))))))))))))))))))))))))))))))))))))))))
  (.node (ltI c d) (.node (andB c2 (notB (iteB (usb n c) c3 (notB c3)))) (.leaf (some (.ret , ⟨mkS 200 [(2 , (.int .u8 more)), (3 , (.ref 3 0)), (7 , (.int .i64 i)), (8 , (.ref 8 0)), (9 ,
  (.ref 9 0)), (100 , (.sl k (.st 3 n.ls))), (101 , (.int .i64 d)), (102 , (.int .i64 c))], [(3 , (.box [(.int .i64 n.nd), (.sl k1 (.rows n.pw)), (.int .i64 n.ns), (.int .i64 n.th), (.sl k2
  (.st 3 n.ls)), (.sl k3 (.i1 n.mg))])), (8 , (.box [(.int .i64 f), (.int .i64 t), (.int .i64 l)])), (9 , (.box [(.int .i64 nd), (.own 102049), (.int .i64 ns), (.int .i64 th), (.own
  105049), (.own 106049)])), (102049 , (.arr none (.rows pw))), (105049 , (.arr none (.st 3 ls))), (106049 , (.arr none (.i1 mg)))], (tt 3 c6)⟩))) (.leaf (some (.normal , ⟨mkS 200 [(2 ,
  (.int .u8 more)), (3 , (.ref 3 0)), (7 , (.int .i64 i)), (8 , (.ref 8 0)), (9 , (.ref 9 0)), (100 , (.sl k (.st 3 n.ls))), (101 , (.int .i64 d)), (102 , (.int .i64 (addI .i64 c 1)))], [(3
  , (.box [(.int .i64 n.nd), (.sl k1 (.rows n.pw)), (.int .i64 n.ns), (.int .i64 n.th), (.sl k2 (.st 3 n.ls)), (.sl k3 (.i1 n.mg))])), (8 , (.box [(.int .i64 f), (.int .i64 t), (.int .i64
  l)])), (9 , (.box [(.int .i64 nd), (.own 102049), (.int .i64 ns), (.int .i64 th), (.own 105049), (.own 106049)])), (102049 , (.arr none (.rows pw))), (105049 , (.arr none (.st 3 ls))),
  (106049 , (.arr none (.i1 mg)))], (tt 5 c6)⟩)))) (.leaf (some ((.exit 2) , ⟨mkS 200 [(2 , (.int .u8 more)), (3 , (.ref 3 0)), (7 , (.int .i64 i)), (8 , (.ref 8 0)), (9 , (.ref 9 0)), (100
  , (.sl k (.st 3 n.ls))), (101 , (.int .i64 d)), (102 , (.int .i64 c))], [(3 , (.box [(.int .i64 n.nd), (.sl k1 (.rows n.pw)), (.int .i64 n.ns), (.int .i64 n.th), (.sl k2 (.st 3 n.ls)),
  (.sl k3 (.i1 n.mg))])), (8 , (.box [(.int .i64 f), (.int .i64 t), (.int .i64 l)])), (9 , (.box [(.int .i64 nd), (.own 102049), (.int .i64 ns), (.int .i64 th), (.own 105049), (.own
  106049)])), (102049 , (.arr none (.rows pw))), (105049 , (.arr none (.st 3 ls))), (106049 , (.arr none (.i1 mg)))], (tt 3 [])⟩))))
theorem l14b_eq (n : Net) (k k1 k2 k3 : Option Bool) (more i d c f t l nd ns th : Int) (pw ls : List (List Int)) (mg : List Int) : keepT 200 [2, 3, 7, 8, 9, 100, 101, 102] [3, 8, 9, 102049, 105049, 106049] (evT (cxs [21, 25]) (tb [(21, s21), (25, s25)]) (orcT []) (loopB Try.f14 2) ⟨mkS 200 (zip2 [2, 3, 7, 8, 9, 100, 101, 102] [.int .u8 more, .ref 3 0, .int .i64 i, .ref 8 0, .ref 9 0, .sl k (.st 3 n.ls), .int .i64 d, .int .i64 c]), zip2 [3, 8, 9, 102049, 105049, 106049] [.box (n.cells k1 k2 k3), .box [.int .i64 f, .int .i64 t, .int .i64 l], .box [.int .i64 nd, .own 102049, .int .i64 ns, .int .i64 th, .own 105049, .own 106049], .arr none (.rows pw), .arr none (.st 3 ls), .arr none (.i1 mg)], []⟩) = l14b n k k1 k2 k3 more i d c f t l nd ns th pw ls mg := by kernel_rfl
theorem l14b_ok (Γ : Env) (π : Nms) : LoopOK Try.prog Γ π 2 (loopB Try.f14 2) ls14b := by
  intro vs obs r h ho ok ok' hok hT
  simp only [ls14b] at h
  split at h
  · rename_i more i k v xs d cs f t l bs pw w ls mg
    cases hn : netC cs with
    | none => rw [hn] at h; simp [Tr.sel] at h
    | some n =>
    cases hb : netB bs with
    | none => rw [hn, hb] at h; simp [Tr.sel] at h
    | some x =>
    obtain ⟨nd, ns, th⟩ := x
    obtain ⟨k1, k2, k3, rfl⟩ := netC_inv hn
    obtain rfl := netB_inv hb
    rw [hn, hb] at h
    cases hw : andB (Nat.beq w 3) (Nat.beq v 3) <;> rw [hw] at h <;> simp only [Tr.sel, cond_true, cond_false, reduceCtorEq, Option.some.injEq] at h
    have e1 := beqT.1 (andB_iff.1 hw).1
    have e2 := beqT.1 (andB_iff.1 hw).2
    subst e1
    subst e2
    subst h
    have hf : few n = true := ho (few n) (by simp)
    have hc : chk n = 0 := eqI_iff.1 (ho (eqI (chk n) 0) (by simp))
    have hi : 0 ≤ fnd n f t := leI_iff.1 (ho (leI 0 (fnd n f t)) (by simp))
    have hii : i = fnd n f t := eqI_iff.1 (ho (eqI i (fnd n f t)) (by simp))
    have hxs : xs = n.ls := eqLs_iff.1 (ho (eqLs xs n.ls) (by simp))
    have hd : d = lenZ n.ls := eqI_iff.1 (ho (eqI d (lenZ n.ls)) (by simp))
    have hM : (⟨nd, pw, ns, th, ls, mg⟩ : Net) = woN n f t := eqN_iff.1 (ho (eqN ⟨nd, pw, ns, th, ls, mg⟩ (woN n f t)) (by simp))
    subst hd
    subst hxs
    have hls := few_ls hf
    have hil : fnd n f t < lenZ n.ls ∧ n.fr (fnd n f t) = f ∧ n.to (fnd n f t) = t := by rcases fnd_cases n f t with e | ⟨_, e1, e2, e3⟩ <;> omega
    rw [woN_del hc hi] at hM
    rw [← hii] at hM hi hil
    obtain ⟨hil, rfl, rfl⟩ := hil
    refine allK ⟨.cons ok21 (.cons ok25 .nil), rfl, by kernel_rfl, by kernel_rfl, .nil⟩ (fun c => [.int .u8 more, .ref 3 0, .int .i64 i, .ref 8 0, .ref 9 0, .sl k (.st 3 n.ls), .int .i64 (lenZ n.ls), .int .i64 c])
      [.box (n.cells k1 k2 k3), .box [.int .i64 (n.fr i), .int .i64 (n.to i), .int .i64 l], .box [.int .i64 nd, .own 102049, .int .i64 ns, .int .i64 th, .own 105049, .own 106049], .arr none (.rows pw), .arr none (.st 3 ls), .arr none (.i1 mg)] (lenZ n.ls) (by omega)
      (fun c => l14b n k k1 k2 k3 more i (lenZ n.ls) c (n.fr i) (n.to i) l nd ns th pw ls mg) (fun c => l14b_eq n k k1 k2 k3 more i (lenZ n.ls) c (n.fr i) (n.to i) l nd ns th pw ls mg) ?_ ?_ hok hT
    · intro c h0 hlt
      simp only [l14b, Tr.sel, hlt]
      exact ⟨_, _, rfl, by simp [AllT_tt, AllT_gE, AllT_gT, AllT_nil, AllT_cons, impB_iff, leI_iff, ltI_iff], rfl, Fits.k (by kernel_rfl) (by kernel_rfl) (by kernel_rfl)⟩
    · intro c h0 hlt
      have hlt' := ltI_iff.1 hlt
      have hfd := del_few (i := i) hf
      simp only [l14b, Tr.sel, hlt, hM]
      have hcond : andB (andB (neI c i) (orB (neI (getN (getL n.ls c) 0) (n.to i)) (neI (getN (getL n.ls c) 1) (n.fr i)))) (notB (iteB (usb n c) (usb (n.del i) (idx (n.del i) (getN (getL n.ls c) 0) (getN (getL n.ls c) 1))) (notB (usb (n.del i) (idx (n.del i) (getN (getL n.ls c) 0) (getN (getL n.ls c) 1)))))) = false := by
        refine andB_false.2 fun hh => ?_
        obtain ⟨hh1, hh2⟩ := andB_iff.1 hh
        have e := del_other hc hi hil h0 hlt' (neI_iff.1 hh1) (fun cc => by
          rcases orB_iff'.1 hh2 with g | g
          · exact neI_iff.1 g cc.1
          · exact neI_iff.1 g cc.2)
        simp only [Net.fr, Net.to] at e
        rw [e, iteB_rfl]
        rfl
      rw [hcond]
      exact ⟨_, rfl, by simp [AllT_tt, AllT_gE, AllT_gT, AllT_nil, AllT_cons, impB_iff, leI_iff, ltI_iff, h0, hlt', hf, hfd], Fits.k (by kernel_rfl) (by kernel_rfl) (by kernel_rfl)⟩
  · simp [Tr.sel] at h
def t14 (n : Net) (k1 k2 k3 : Option Bool) (x y : Int) : Tr Res :=
  let c0 := (notB (few n))
  let c1 := (orB c0 (neI (chk n) 0))
  let c2 := (gT c1 (gE (notB c1) (gE (notB c1) (gT (notB c1) (gE (notB c1) (gE (notB c1) (gT (notB c1) (tt 2 (gT c0 (gE (notB c0) (gE (notB c0) (gT (notB c0) ((impB (notB c0) (few n)) ::
  (gT (notB c0) (gE (notB c0) (gT (notB c0) (tt 2 ((leI (lenZ n.pw) 9223372036854775807) :: (tt 8 [])))))))))))))))))))
  let c3 := (remI (cvI .i64 x) (lenZ n.ls))
  let c4 := (getL n.ls c3)
  let c5 := (neI (woE n (getN c4 0) (getN c4 1)) 0)
  let c6 := (woN n (getN c4 0) (getN c4 1))
  let c7 := (orB c5 (neI (chk c6) 0))
  let c8 := (orB c7 (neI (lenZ (Net.ls c6)) (sbI .i64 (lenZ n.ls) 1)))
  let c9 := (orB c8 (neI (idx c6 (getN c4 0) (getN c4 1)) (-1)))
  let c10 := (impB (notB c9) (few c6))
  let c11 := (gT c9 (gE (notB c9) (c10 :: (gT (notB c9) (gE (notB c9) (gE (notB c9) (c10 :: (gT (notB c9) (gE (notB c9) (gE (notB c9) (gE (notB c9) (gE (notB c9) (gT (notB c9) (gE (notB c9)
  (gT (notB c9) (gT (notB c9) (gT (notB c9) (tt 2 (gT c8 (gE (notB c8) (gE (notB c8) (gT (notB c8) ((impB (notB c8) (few c6)) :: (gT (notB c8) (gE (notB c8) (gE (notB c8) (gE (notB c8) (gE
  (notB c8) (gT (notB c8) (gE (notB c8) (gT (notB c8) (gT (notB c8) (tt 2 (gT c7 (gE (notB c7) (gE (notB c7) (gE (notB c7) (gE (notB c7) (gT (notB c7) (gE (notB c7) (gE (notB c7) (gT (notB
  c7) (gE (notB c7) (gE (notB c7) (gT (notB c7) (tt 2 (gT c5 (gE (notB c5) (gE (notB c5) (gT (notB c5) ((impB (notB c5) (few c6)) :: (gT (notB c5) (gE (notB c5) (gT (notB c5) (tt 10 ((few
  n) :: (tt 12 ((leI 0 c3) :: ((ltI c3 (lenZ n.ls)) :: (tt 6 ((neI (lenZ n.ls) 0) :: (tt 9 c2))))))))))))))))))))))))))))))))))))))))))))))))))))))))))))))
  let c12 := (remI (cvI .i64 y) 9)
  let c13 := (weE n (getN c4 0) (getN c4 1) c12)
  let c14 := (eqI (chk n) 0)
  let c15 := (fnd n (getN c4 0) (getN c4 1))
  let c16 := ((few n) :: (tt 5 ((neI 9 0) :: (tt 9 ((few n) :: (c14 :: ((leI 0 c15) :: ((eqI c3 c15) :: ((eqLs n.ls n.ls) :: ((eqI (lenZ n.ls) (lenZ n.ls)) :: ((eqN c6 c6) :: (tt 4 ((few n)
  :: (c14 :: ((leI 0 c15) :: ((eqI n.nd n.nd) :: ((eqN c6 c6) :: (tt 5 c11))))))))))))))))))
  let c17 := (weN n (getN c4 0) (getN c4 1) c12)
  let c18 := (eqI (chk c17) 0)
  let c19 := (andB c18 (iteB (usb n c3) (usb c17 c3) (notB (usb c17 c3))))
  let c20 := (lenZ (Net.ls c17))
  let c21 := (andB c19 (eqI c20 (lenZ n.ls)))
  let c22 := (impB c21 (leI 0 c3))
  let c23 := (impB c21 (ltI c3 c20))
  (.node false (.leaf (some ⟨(tt 6 []), (.bool false), [.junk, .junk, .junk]⟩)) (.node (orB c1 (eqI (lenZ n.ls) 0)) (.leaf (some ⟨(tt 3 c2), (.bool true), [.junk, .junk, .junk]⟩)) (.node
  (orB c9 (usb c6 (idx c6 (getN c4 1) (getN c4 0)))) (.leaf (some ⟨(tt 3 c11), (.bool false), [.junk, .junk, .junk]⟩)) (.node (neI c13 0) (.leaf (some ⟨(tt 2 (gE (eqI c13 2) (gT (notB (eqI
  c13 2)) (gE (eqI c13 2) (gE (eqI c13 2) (gT (eqI c13 2) (gE (eqI c13 2) (gE (eqI c13 2) (gT (eqI c13 2) ((impB (eqI c13 2) (neI 9 0)) :: (gE (eqI c13 2) (gT (eqI c13 2) (gE (eqI c13 2)
  (gT (eqI c13 2) (tt 14 c16))))))))))))))), (.bool (andB (eqI c13 2) (ltI (sbI .i64 7 (getN c4 2)) c12))), [.junk, .junk, .junk]⟩)) (.leaf (some ⟨(tt 2 (gE c21 (gT (notB c21) (gE c21 (gE
  c21 (gE c21 (gE c21 ((impB c21 (neI 9 0)) :: (gE c21 (gT c21 (gE c21 (gT c21 (gE c21 (gT c21 (c22 :: (c23 :: (gE c21 (gE c21 (c22 :: (c23 :: (gE c21 (gE c21 (gT c21 (gE c21 (gT c21 (tt 2
  (gE c19 (gT (notB c19) (gE c19 (gE c19 (gE c19 (gE c19 (gT c19 (gE c19 (gE c19 (gT c19 (tt 2 (gE c18 (gT (notB c18) (gE c18 (gE c18 ((impB c18 (few n)) :: (gT c18 (gE c18 (gE c18 (gT c18
  (gT c18 ((impB c18 (few c17)) :: (gT c18 (gE c18 (gE c18 (gT c18 (gT c18 (tt 3 ((few c17) :: (tt 13 c16)))))))))))))))))))))))))))))))))))))))))))))))))))))))), (.bool (andB c21 (eqI
  (getN (getL (Net.ls c17) c3) 2) (addI .i64 (getN c4 2) c12)))), [.junk, .junk, .junk]⟩))))))
theorem t14_eq (n : Net) (k1 k2 k3 : Option Bool) (x y : Int) : evFT (cxs [17, 18, 19, 21, 25, 52, 54]) (tb [(17, s17), (18, s18), (19, s19), (21, s21), (25, s25), (52, s52), (54, s54)]) (orcT [(0, ls14a), (2, ls14b)]) 14 Try.f14 [n.av k1 k2 k3, .int .u8 x, .int .u8 y] = t14 n k1 k2 k3 x y := by kernel_rfl
theorem cv8 {x : Int} (h0 : 0 ≤ x) (h1 : x ≤ 255) : cvI .i64 x = x := IntWalk.i64_in _ ⟨by omega, by omega⟩
theorem rem_in {x m : Int} (h0 : 0 ≤ x) (h1 : 0 < m) : 0 ≤ remI x m ∧ remI x m < m := by
  simp only [remI]
  rw [Int.tmod_eq_emod_of_nonneg h0]
  exact ⟨Int.emod_nonneg _ (by omega), Int.emod_lt_of_pos _ h1⟩
theorem ok14 : FnOK Try.prog 14 s14 := by
  refine fnK (.cons ok17 (.cons ok18 (.cons ok19 (.cons ok21 (.cons ok25 (.cons ok52 (.cons ok54 .nil))))))) (fs := [17, 18, 19, 21, 25, 52, 54]) rfl Try.func14 rfl (by kernel_rfl) (fun Γ π => .cons (l14a_ok Γ π) (.cons (l14b_ok Γ π) .nil)) ?_
  intro bs r h ho
  unfold s14 at h
  split at h
  · rename_i a x y
    cases hn : netA a with
    | none => rw [hn] at h; cases h
    | some n =>
    obtain ⟨k1, k2, k3, rfl⟩ := netA_inv hn
    rw [hn] at h
    cases h
    have hl : lenZ n.pw ≤ 9223372036854775807 := leI_iff.1 (ho (leI (lenZ n.pw) 9223372036854775807) (by simp))
    have hx := inB_iff.1 (ho (inB x 0 255) (by simp))
    have hy := inB_iff.1 (ho (inB y 0 255) (by simp))
    refine ⟨by simp, ?_⟩
    rw [t14_eq]
    have hne : neI (chk n) 0 = notB (eqI (chk n) 0) := Beq (by simp only [andB_iff, orB_iff', notB_iff, andB_false, orB_false, notB_false, eqI_iff, eqI_false, neI_iff, neI_false, ltI_iff, ltI_false, leI_iff, leI_false, inB_iff, nodeB_iff, inB_false, nodeB_false])
    simp only [t14, Tr.sel, hne, cv8 hx.1 hx.2, cv8 hy.1 hy.2]
    cases hf : few n with
    | false => exact ⟨_, rfl, by simp [AllT_tt, AllT_gE, AllT_gT, AllT_nil, AllT_cons, impB_iff, leI_iff, ltI_iff, hl, notB], rfl, rfl⟩
    | true =>
    cases hc : eqI (chk n) 0 with
    | false => exact ⟨_, rfl, by simp [AllT_tt, AllT_gE, AllT_gT, AllT_nil, AllT_cons, impB_iff, leI_iff, ltI_iff, hl, notB], rfl, rfl⟩
    | true =>
    cases hz : eqI (lenZ n.ls) 0 with
    | true => exact ⟨_, rfl, by simp [AllT_tt, AllT_gE, AllT_gT, AllT_nil, AllT_cons, impB_iff, leI_iff, ltI_iff, hl, notB], rfl, rfl⟩
    | false =>
    have hc' := eqI_iff.1 hc
    have hz' := eqI_false.1 hz
    have hnn : 0 ≤ lenZ n.ls := by simp [lenZ]
    have hls := few_ls hf
    have hok := chk_zero.1 hc'
    obtain ⟨i0, i1⟩ := rem_in (x := x) (m := lenZ n.ls) hx.1 (by omega)
    obtain ⟨m0, m1⟩ := rem_in (x := y) (m := 9) hy.1 (by omega)
    generalize remI x (lenZ n.ls) = i at i0 i1
    generalize remI y 9 = m at m0 m1
    have hfi : fnd n (getN (getL n.ls i) 0) (getN (getL n.ls i) 1) = i := hok.fnd_eq i0 i1
    have hnode := hok.node i i0 i1
    have ewo : woN n (getN (getL n.ls i) 0) (getN (getL n.ls i) 1) = n.del i := by rw [woN_del hc' (by rw [hfi]; exact i0), hfi]
    have ewe : woE n (getN (getL n.ls i) 0) (getN (getL n.ls i) 1) = 0 := by rw [woE, hc, hfi, leI_iff.2 i0]; rfl
    have ec := del_chk hc' i0 i1
    have elen : lenZ (n.del i).ls = lenZ n.ls - 1 := delS_len i0 i1
    have esb : sbI .i64 (lenZ n.ls) 1 = lenZ n.ls - 1 := sbI_in (by omega) (by omega)
    have eidx : idx (n.del i) (getN (getL n.ls i) 0) (getN (getL n.ls i) 1) = -1 := by rw [idx_fnd ec]; exact del_fnd hok i0 i1
    have erev : usb (n.del i) (idx (n.del i) (getN (getL n.ls i) 1) (getN (getL n.ls i) 0)) = false := del_rev hc' i0 i1
    have efd := del_few (i := i) hf
    simp only [ewo, ewe, ec, elen, esb, eidx, erev, hfi, neI_rfl, orB_f, notB_t, notB_f, andB_t, Bool.not_false, Bool.not_true]
    have ei : leI 0 i = true := leI_iff.2 i0
    cases hw : weOk n (getN (getL n.ls i) 0) (getN (getL n.ls i) 1) m with
    | false =>
      have e2 : weE n (getN (getL n.ls i) 0) (getN (getL n.ls i) 1) m = 2 := by rw [weE, hc, hfi, ei, hw]; rfl
      have hwo : ltI (sbI .i64 7 (getN (getL n.ls i) 2)) m = true := by
        rw [sbI_in (by simp only [Net.lo] at hnode; omega) (by simp only [Net.lo] at hnode; omega)]
        rw [weOk, hfi, andB_false] at hw
        have := leI_false.1 (hw (leI_iff.2 m0))
        simp only [Net.lo] at this
        exact ltI_iff.2 (by omega)
      have en : neI (2 : Int) 0 = true := rfl
      have e22 : eqI (2 : Int) 2 = true := rfl
      simp only [e2, en, e22, hwo, andB_t]
      exact ⟨_, rfl, by simp [AllT_tt, AllT_gE, AllT_gT, AllT_nil, AllT_cons, impB_iff, leI_iff, ltI_iff, eqI_rfl, eqLI_rfl, eqRs_rfl, eqBs_rfl, iteB_rfl, AllT_true, eqLs_rfl, hl, hf, hc, hz', efd, i0, i1, ei, eqN_iff, neI_iff], rfl, rfl⟩
    | true =>
      obtain ⟨w1, w2⟩ := andB_iff.1 hw
      rw [hfi] at w2
      have w2 := leI_iff.1 w2
      have e2 : weE n (getN (getL n.ls i) 0) (getN (getL n.ls i) 1) m = 0 := by rw [weE, hc, hfi, ei, hw]; rfl
      have ewk : weN n (getN (getL n.ls i) 0) (getN (getL n.ls i) 1) m = n.wk i m := by rw [weN_wk hc' (by rw [hfi]; exact i0) hw, hfi]
      have kc : chk (n.wk i m) = 0 := chk_zero.2 (wk_ok hok i0 i1 m0 w2)
      have ku : usb (n.wk i m) i = usb n i := wk_usb hc' i0 i1 m0 w2
      have kl : lenZ (n.wk i m).ls = lenZ n.ls := addL_len
      have kf := wk_few (i := i) (m := m) hf
      have klo : getN (getL (n.wk i m).ls i) 2 = addI .i64 (getN (getL n.ls i) 2) m := by
        have := wk_lo i0 i1 (m := m) i0
        rw [if_pos rfl] at this
        simp only [Net.lo] at this hnode w2
        rw [this, addI_in (by omega) (by omega)]
      simp only [e2, ewk, kc, ku, kl, klo, iteB_rfl, eqI_rfl, neI_rfl, andB_t, notB_t]
      exact ⟨_, rfl, by simp [AllT_tt, AllT_gE, AllT_gT, AllT_nil, AllT_cons, impB_iff, leI_iff, ltI_iff, eqI_rfl, eqLI_rfl, eqRs_rfl, eqBs_rfl, iteB_rfl, AllT_true, eqLs_rfl, hl, hf, hc, hz', efd, kf, i0, i1, ei, eqN_iff, neI_iff], rfl, rfl⟩
  · cases h
end Go.Sx
