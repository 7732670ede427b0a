/-
  The walks: package network and its reference, part 2: the table of powers. No condition beyond those that each theorem names.
-/
import Derived.Test.YtncjcjaphddlgaaME1
import Derived.Test.YtncjcjaphddlgaaS7
import Derived.Test.YtncjcjaphddlgaaS6
set_option linter.unusedVariables false
set_option linter.unusedSimpArgs false
namespace Go.Sx
open Go Go.Proofs

def t119 (x : Int) : Tr Res :=
  (.leaf (some ⟨(tt 6 []), (.bool (neI x x)), [.junk]⟩))
theorem t119_eq (x : Int) : evFT (cxs []) (tb []) (orcT []) 119 Try.f119 [.int .i64 x] = t119 x := by kernel_rfl
theorem ok119 : FnOK Try.prog 119 s119 := by
  refine fnK .nil (fs := []) rfl Try.func119 rfl (by kernel_rfl) noLoops ?_
  intro bs r h ho
  unfold s119 at h
  split at h
  · cases h
    refine ⟨by simp, ?_⟩
    rw [t119_eq]
    exact ⟨_, rfl, by simp only [AllT_tt, AllT_nil], by simp [neI], rfl⟩
  · cases h
def t81 (x y : Int) : Tr Res :=
  (.node false (.node false (.leaf (some ⟨(tt 14 []), (.int .i64 0), [.junk, .junk]⟩)) (.leaf (some ⟨(tt 14 []), (.int .i64 (-1)), [.junk, .junk]⟩))) (.node false (.leaf (some ⟨(tt 14 []),
  (.int .i64 1), [.junk, .junk]⟩)) (.node (ltI x y) (.leaf (some ⟨(tt 19 []), (.int .i64 (-1)), [.junk, .junk]⟩)) (.node (ltI y x) (.leaf (some ⟨(tt 24 []), (.int .i64 1), [.junk, .junk]⟩))
  (.leaf (some ⟨(tt 24 []), (.int .i64 0), [.junk, .junk]⟩))))))
theorem t81_eq (x y : Int) : evFT (cxs [119]) (tb [(119, s119)]) (orcT []) 81 Try.f81 [.int .i64 x, .int .i64 y] = t81 x y := by kernel_rfl
theorem ok81 : FnOK Try.prog 81 s81 := by
  refine fnK (.cons ok119 .nil) (fs := [119]) rfl Try.func81 rfl (by kernel_rfl) noLoops ?_
  intro bs r h ho
  unfold s81 at h
  split at h
  · rename_i x y
    cases h
    refine ⟨by simp, ?_⟩
    rw [t81_eq]
    simp only [t81, Tr.sel, cmpI]
    cases ltI x y with
    | true => exact ⟨_, rfl, by simp only [AllT_tt, AllT_nil], rfl, rfl⟩
    | false => cases ltI y x with
      | true => exact ⟨_, rfl, by simp only [AllT_tt, AllT_nil], rfl, rfl⟩
      | false => exact ⟨_, rfl, by simp only [AllT_tt, AllT_nil], rfl, rfl⟩
  · cases h
def l132 (k : Option Bool) (xs : List Int) (m i : Int) : Tr (Ex × St) :=
  let c0 := ((leI 0 i) :: ((ltI i (lenZ xs)) :: (tt 5 [])))
  (.node (ltI i m) (.node (neI (getI xs i) 0) (.leaf (some (.ret , ⟨mkS 18 [(2 , (.int .i64 (getI xs i))), (3 , (.int .i64 0)), (6 , (.sl k (.i1 xs))), (7 , (.int .i64 m)), (8 , (.int .i64
  i))], [], (tt 9 c0)⟩))) (.leaf (some (.normal , ⟨mkS 18 [(3 , (.int .i64 0)), (6 , (.sl k (.i1 xs))), (7 , (.int .i64 m)), (8 , (.int .i64 (addI .i64 i 1)))], [], (tt 10 c0)⟩)))) (.leaf
  (some ((.exit 0) , ⟨mkS 18 [(3 , (.int .i64 0)), (6 , (.sl k (.i1 xs))), (7 , (.int .i64 m)), (8 , (.int .i64 i))], [], (tt 3 [])⟩))))
theorem l132_eq (k : Option Bool) (xs : List Int) (m i : Int) : keepT 18 [3, 6, 7, 8, 2] [] (evT (cxs []) (tb []) (orcT []) (loopB Try.f132 0) ⟨mkS 18 (zip2 [3, 6, 7, 8] [.int .i64 0, .sl k (.i1 xs), .int .i64 m, .int .i64 i]), zip2 [] [], []⟩) = l132 k xs m i := by kernel_rfl
theorem l132_ok (Γ : Env) (π : Nms) : LoopOK Try.prog Γ π 0 (loopB Try.f132 0) ls132 := by
  intro vs obs r h ho ok ok' hok hT
  simp only [ls132] at h
  split at h
  · rename_i k xs m
    have hm : m = lenZ xs ∧ lenZ xs ≤ 1000 := by
      simp only [Tr.sel] at h
      cases hb : leI 0 (orJ xs) <;> rw [hb] at h <;> cases h <;> exact ⟨eqI_iff.1 (ho _ (by simp)), leI_iff.1 (ho _ (by simp))⟩
    obtain ⟨rfl, hl⟩ := hm
    refine scanK ⟨.nil, rfl, by kernel_rfl, by kernel_rfl, .nil⟩ (fun i => [.int .i64 0, .sl k (.i1 xs), .int .i64 (lenZ xs), .int .i64 i]) [] (fun i => neI (getI xs i) 0) (lenZ xs) 0
      (Int.le_refl 0) (by omega) (fun j => ⟨.ret, [(2, .int .i64 (getI xs j))], [], [eqI (lenZ xs) (lenZ xs), leI (lenZ xs) 1000]⟩) ⟨.normal, [(3, .int .i64 0)], [], [eqI (lenZ xs) (lenZ xs), leI (lenZ xs) 1000]⟩ (l132 k xs (lenZ xs)) (l132_eq k xs (lenZ xs)) ?_ ?_ ?_ ?_ hok hT
    · intro i h0 hlt
      simp only [l132, Tr.sel, hlt]
      exact ⟨_, _, rfl, by simp [AllT_tt, AllT_gE, AllT_gT, AllT_nil, AllT_cons, impB_iff, leI_iff, ltI_iff, h0, hlt], rfl, Fits.k rfl rfl rfl⟩
    · intro i h0 hlt hp
      simp only [l132, Tr.sel, hlt]
      skip
      simp only [hp]
      exact ⟨_, _, rfl, by simp [AllT_tt, AllT_gE, AllT_gT, AllT_nil, AllT_cons, impB_iff, leI_iff, ltI_iff, h0, hlt], rfl, Fits.k rfl rfl rfl⟩
    · intro i h0 hlt hp
      simp only [l132, Tr.sel, hlt]
      skip
      simp only [hp]
      exact ⟨_, rfl, by simp [AllT_tt, AllT_gE, AllT_gT, AllT_nil, AllT_cons, impB_iff, leI_iff, ltI_iff, h0, hlt], Fits.k rfl rfl rfl⟩
    · simp only [Tr.sel] at h
      have e : scan (fun i => neI (getI xs i) 0) (lenZ xs - 0).toNat 0 = orJ xs := by simp [lenZ, orJ]
      rw [e]
      cases hb : leI 0 (orJ xs) <;> rw [hb] at h <;> cases h
      · rw [if_neg (fun c => by rw [leI_iff.2 c] at hb; cases hb)]
      · rw [if_pos (leI_iff.1 hb)]; simp [orL, hb]
  · simp [Tr.sel] at h
def t132 (k : Option Bool) (xs : List Int) : Tr Res :=
  let c0 := ((eqI (lenZ xs) (lenZ xs)) :: ((leI (lenZ xs) 1000) :: (tt 5 [])))
  (.node (leI 0 (orJ xs)) (.leaf (some ⟨c0, (.int .i64 (orL xs)), [.junk]⟩)) (.leaf (some ⟨(tt 2 c0), (.int .i64 0), [.junk]⟩)))
theorem t132_eq (k : Option Bool) (xs : List Int) : evFT (cxs []) (tb []) (orcT [(0, ls132)]) 132 Try.f132 [.sl k (.i1 xs)] = t132 k xs := by kernel_rfl
theorem ok132 : FnOK Try.prog 132 s132 := by
  refine fnK .nil (fs := []) rfl Try.func132 rfl (by kernel_rfl) (fun Γ π => .cons (l132_ok Γ π) .nil) ?_
  intro bs r h ho
  unfold s132 at h
  split at h
  · rename_i k xs
    cases h
    have hl : leI (lenZ xs) 1000 = true := ho _ (by simp)
    refine ⟨by simp, ?_⟩
    rw [t132_eq]
    simp only [t132, Tr.sel]
    cases hb : leI 0 (orJ xs) with
    | true => exact ⟨_, rfl, by simp [AllT_tt, AllT_gE, AllT_gT, AllT_nil, AllT_cons, impB_iff, leI_iff, ltI_iff, eqI_iff, leI_iff.1 hl], rfl, rfl⟩
    | false => exact ⟨_, rfl, by simp [AllT_tt, AllT_gE, AllT_gT, AllT_nil, AllT_cons, impB_iff, leI_iff, ltI_iff, eqI_iff, leI_iff.1 hl], by simp [orL, hb], rfl⟩
  · cases h
def t107 (a b c d e f : Int) : Tr Res :=
  (.leaf (some ⟨(tt 1 ((leI (lenZ [(cmpI a c), (cmpI b d)]) 1000) :: (tt 21 []))), (.int .i64 (orL [(cmpI a c), (cmpI b d)])), [.junk, .junk]⟩))
theorem t107_eq (a b c d e f : Int) : evFT (cxs [81, 132]) (tb [(81, s81), (132, s132)]) (orcT []) 107 Try.f107 [.agg [.int .i64 a, .int .i64 b, .int .i64 e], .agg [.int .i64 c, .int .i64 d, .int .i64 f]] = t107 a b c d e f := by kernel_rfl
theorem orL2 (x y : Int) : orL [x, y] = if x = 0 then y else x := by
  have h : ∀ z : Int, z ≠ 0 → (z != 0) = true := fun z hz => by simp [hz]
  by_cases hx : x = 0
  · by_cases hy : y = 0
    · simp [orL, orJ, scan, getI, neI, leI, hx, hy]
    · simp [orL, orJ, scan, getI, neI, leI, hx, h y hy]
  · simp [orL, orJ, scan, getI, neI, leI, hx, h x hx]
theorem ok107 : FnOK Try.prog 107 s107 := by
  refine fnK (.cons ok81 (.cons ok132 .nil)) (fs := [81, 132]) rfl Try.func107 rfl (by kernel_rfl) noLoops ?_
  intro bs r h ho
  unfold s107 at h
  split at h
  · rename_i a b e c d f
    cases h
    refine ⟨by simp, ?_⟩
    rw [t107_eq]
    refine ⟨_, rfl, ?_, ?_, rfl⟩
    · simp [AllT_tt, AllT_gE, AllT_gT, AllT_nil, AllT_cons, impB_iff, leI_iff, ltI_iff, lenZ]
    · rw [orL2, cmpL, cmpI]
      cases ltI a c <;> cases ltI c a <;> rfl
  · cases h
def t103 (n : Net) (k k1 k2 k3 : Option Bool) (xs : List Int) : Tr Res :=
  (.leaf (some ⟨(tt 8 []), (.bool (neI (lenZ xs) n.nd)), [.junk, .junk]⟩))
theorem t103_eq (n : Net) (k k1 k2 k3 : Option Bool) (xs : List Int) : evFT (cxs []) (tb []) (orcT []) 103 Try.f103 [.sl k (.i1 xs), .snap (n.cells k1 k2 k3) 0] = t103 n k k1 k2 k3 xs := by kernel_rfl
theorem ok103 : FnOK Try.prog 103 s103 := by
  refine fnK .nil (fs := []) rfl Try.func103 rfl (by kernel_rfl) noLoops ?_
  intro bs r h ho
  unfold s103 at h
  split at h
  · split at h
    · rename_i n hn
      obtain ⟨k1, k2, k3, rfl⟩ := netC_inv hn
      cases h
      refine ⟨by simp, ?_⟩
      rw [t103_eq]
      exact ⟨_, rfl, by simp only [AllT_tt, AllT_nil], rfl, rfl⟩
    · cases h
  · cases h
def t104 (x : Int) : Tr Res :=
  let c0 := (notB (ltI x 0))
  (.leaf (some ⟨(tt 2 (gT (ltI x 0) (gE c0 (gE c0 (gT c0 (gT c0 (tt 5 []))))))), (.bool (orB (ltI x 0) (ltI 68719476736 x))), [.junk]⟩))
theorem t104_eq (x : Int) : evFT (cxs []) (tb []) (orcT []) 104 Try.f104 [.int .i64 x] = t104 x := by kernel_rfl
theorem ok104 : FnOK Try.prog 104 s104 := by
  refine fnK .nil (fs := []) rfl Try.func104 rfl (by kernel_rfl) noLoops ?_
  intro bs r h ho
  unfold s104 at h
  split at h
  · rename_i x
    cases h
    refine ⟨by simp, ?_⟩
    rw [t104_eq]
    exact ⟨_, rfl, by simp [AllT_tt, AllT_gE, AllT_gT, AllT_nil, AllT_cons, impB_iff, leI_iff, ltI_iff], by simp [outB, andB_eq, orB_eq, notB_eq, iteB_eq, impB_eq, ltI_eq, leI_eq, eqI_eq, neI_eq], rfl⟩
  · cases h
def l100o (k : Option Bool) (xs : List Int) (m i : Int) : Tr (Ex × St) :=
  let c0 := ((leI 0 i) :: ((ltI i (lenZ xs)) :: (tt 10 [])))
  (.node (ltI i m) (.node (outB (getI xs i)) (.leaf (some (.ret , ⟨mkS 19 [(0 , (.sl k (.i1 xs))), (1 , (.clo 104 [])), (4 , (.int .i64 i)), (7 , (.int .i64 m)), (8 , (.int .i64 i))], [],
  (tt 6 c0)⟩))) (.leaf (some (.normal , ⟨mkS 19 [(0 , (.sl k (.i1 xs))), (1 , (.clo 104 [])), (7 , (.int .i64 m)), (8 , (.int .i64 (addI .i64 i 1)))], [], (tt 7 c0)⟩)))) (.leaf (some
  ((.exit 0) , ⟨mkS 19 [(0 , (.sl k (.i1 xs))), (1 , (.clo 104 [])), (7 , (.int .i64 m)), (8 , (.int .i64 i))], [], (tt 3 [])⟩))))
theorem l100o_eq (k : Option Bool) (xs : List Int) (m i : Int) : keepT 19 [0, 1, 7, 8, 4] [] (evT (cxs [104]) (tb [(104, s104)]) (orcT []) (loopB Try.f100 0) ⟨mkS 19 (zip2 [0, 1, 7, 8] [.sl k (.i1 xs), .clo 104 [], .int .i64 m, .int .i64 i]), zip2 [] [], []⟩) = l100o k xs m i := by kernel_rfl
theorem l100o_ok (Γ : Env) (π : Nms) : LoopOK Try.prog Γ π 0 (loopB Try.f100 0) ls100o := by
  intro vs obs r h ho ok ok' hok hT
  simp only [ls100o] at h
  split at h
  · rename_i k xs m
    have hm : m = lenZ xs ∧ lenZ xs ≤ 1000 := by
      simp only [Tr.sel] at h
      cases hb : leI 0 (outP xs) <;> rw [hb] at h <;> cases h <;> exact ⟨eqI_iff.1 (ho _ (by simp)), leI_iff.1 (ho _ (by simp))⟩
    obtain ⟨rfl, hl⟩ := hm
    refine scanK ⟨.cons ok104 .nil, rfl, by kernel_rfl, by kernel_rfl, .nil⟩ (fun i => [.sl k (.i1 xs), .clo 104 [], .int .i64 (lenZ xs), .int .i64 i]) [] (fun i => outB (getI xs i)) (lenZ xs) 0
      (Int.le_refl 0) (by omega) (fun j => ⟨.ret, [(4, .int .i64 j)], [], [eqI (lenZ xs) (lenZ xs), leI (lenZ xs) 1000]⟩) ⟨.normal, [], [], [eqI (lenZ xs) (lenZ xs), leI (lenZ xs) 1000]⟩ (l100o k xs (lenZ xs)) (l100o_eq k xs (lenZ xs)) ?_ ?_ ?_ ?_ hok hT
    · intro i h0 hlt
      simp only [l100o, Tr.sel, hlt]
      exact ⟨_, _, rfl, by simp [AllT_tt, AllT_gE, AllT_gT, AllT_nil, AllT_cons, impB_iff, leI_iff, ltI_iff, h0, hlt], rfl, Fits.k rfl rfl rfl⟩
    · intro i h0 hlt hp
      simp only [l100o, Tr.sel, hlt]
      skip
      simp only [hp]
      exact ⟨_, _, rfl, by simp [AllT_tt, AllT_gE, AllT_gT, AllT_nil, AllT_cons, impB_iff, leI_iff, ltI_iff, h0, hlt], rfl, Fits.k rfl rfl rfl⟩
    · intro i h0 hlt hp
      simp only [l100o, Tr.sel, hlt]
      skip
      simp only [hp]
      exact ⟨_, rfl, by simp [AllT_tt, AllT_gE, AllT_gT, AllT_nil, AllT_cons, impB_iff, leI_iff, ltI_iff, h0, hlt], Fits.k rfl rfl rfl⟩
    · simp only [Tr.sel] at h
      have e : scan (fun i => outB (getI xs i)) (lenZ xs - 0).toNat 0 = outP xs := by simp [lenZ, outP]
      rw [e]
      cases hb : leI 0 (outP xs) <;> rw [hb] at h <;> cases h
      · rw [if_neg (fun c => by rw [leI_iff.2 c] at hb; cases hb)]
      · rw [if_pos (leI_iff.1 hb)]
  · simp [Tr.sel] at h
def t100o (k : Option Bool) (xs : List Int) : Tr Res :=
  let c0 := ((eqI (lenZ xs) (lenZ xs)) :: ((leI (lenZ xs) 1000) :: (tt 4 [])))
  (.node (leI 0 (outP xs)) (.leaf (some ⟨c0, (.int .i64 (outP xs)), [.junk, .junk]⟩)) (.leaf (some ⟨(tt 1 c0), (.int .i64 (-1)), [.junk, .junk]⟩)))
theorem t100o_eq (k : Option Bool) (xs : List Int) : evFT (cxs [104]) (tb [(104, s104)]) (orcT [(0, ls100o)]) 100 Try.f100 [.sl k (.i1 xs), .clo 104 []] = t100o k xs := by kernel_rfl
theorem ok100o : FnOK Try.prog 100 s100o := by
  refine fnK (.cons ok104 .nil) (fs := [104]) rfl Try.func100 rfl (by kernel_rfl) (fun Γ π => .cons (l100o_ok Γ π) .nil) ?_
  intro bs r h ho
  unfold s100o at h
  split at h
  · rename_i k xs
    cases h
    have hl : leI (lenZ xs) 1000 = true := ho _ (by simp)
    refine ⟨by simp, ?_⟩
    rw [t100o_eq]
    simp only [t100o, Tr.sel]
    cases hb : leI 0 (outP xs) with
    | true => exact ⟨_, rfl, by simp [AllT_tt, AllT_gE, AllT_gT, AllT_nil, AllT_cons, impB_iff, leI_iff, ltI_iff, eqI_iff, leI_iff.1 hl], rfl, rfl⟩
    | false => exact ⟨_, rfl, by simp [AllT_tt, AllT_gE, AllT_gT, AllT_nil, AllT_cons, impB_iff, leI_iff, ltI_iff, eqI_iff, leI_iff.1 hl], by rw [outP, scan_neg (Int.le_refl 0) hb], rfl⟩
  · cases h
def t57o (k : Option Bool) (xs : List Int) : Tr Res :=
  (.leaf (some ⟨(tt 3 ((leI (lenZ xs) 1000) :: (tt 6 []))), (.bool (leI 0 (outP xs))), [.junk, .junk]⟩))
theorem t57o_eq (k : Option Bool) (xs : List Int) : evFT (cxs [100]) (tb [(100, s100o)]) (orcT []) 57 Try.f57 [.sl k (.i1 xs), .clo 104 []] = t57o k xs := by kernel_rfl
theorem ok57o : FnOK Try.prog 57 s57o := by
  refine fnK (.cons ok100o .nil) (fs := [100]) rfl Try.func57 rfl (by kernel_rfl) noLoops ?_
  intro bs r h ho
  unfold s57o at h
  split at h
  · rename_i k xs
    cases h
    have hl : leI (lenZ xs) 1000 = true := ho _ (by simp)
    refine ⟨by simp, ?_⟩
    rw [t57o_eq]
    exact ⟨_, rfl, by simp [AllT_tt, AllT_gE, AllT_gT, AllT_nil, AllT_cons, impB_iff, leI_iff, ltI_iff, leI_iff.1 hl], rfl, rfl⟩
  · cases h
def t105 (k : Option Bool) (xs : List Int) : Tr Res :=
  (.leaf (some ⟨(tt 1 ((leI (lenZ xs) 1000) :: (tt 6 []))), (.bool (leI 0 (outP xs))), [.junk, .junk]⟩))
theorem t105_eq (k : Option Bool) (xs : List Int) : evFT (cxs [57]) (tb [(57, s57o)]) (orcT []) 105 Try.f105 [.sl k (.i1 xs), .snap [.clo 104 []] 0] = t105 k xs := by kernel_rfl
theorem ok105 : FnOK Try.prog 105 s105 := by
  refine fnK (.cons ok57o .nil) (fs := [57]) rfl Try.func105 rfl (by kernel_rfl) noLoops ?_
  intro bs r h ho
  unfold s105 at h
  split at h
  · rename_i k xs
    cases h
    have hl : leI (lenZ xs) 1000 = true := ho _ (by simp)
    refine ⟨by simp, ?_⟩
    rw [t105_eq]
    exact ⟨_, rfl, by simp [AllT_tt, AllT_gE, AllT_gT, AllT_nil, AllT_cons, impB_iff, leI_iff, ltI_iff, leI_iff.1 hl], rfl, rfl⟩
  · cases h
def l131a (n : Net) (k k1 k2 k3 : Option Bool) (pw : List (List Int)) (m i : Int) : Tr (Ex × St) :=
  let c0 := ((leI 0 i) :: ((ltI i (lenZ pw)) :: (tt 10 [])))
  (.node (ltI i m) (.node (neI (lenZ (getL pw i)) n.nd) (.leaf (some (.ret , ⟨mkS 19 [(0 , (.sl k (.rows pw))), (1 , (.clo 103 [(.snap [(.int .i64 n.nd), (.sl k1 (.rows n.pw)), (.int .i64
  n.ns), (.int .i64 n.th), (.sl k2 (.st 3 n.ls)), (.sl k3 (.i1 n.mg))] 0)])), (4 , (.int .i64 i)), (7 , (.int .i64 m)), (8 , (.int .i64 i))], [], (tt 6 c0)⟩))) (.leaf (some (.normal , ⟨mkS
  19 [(0 , (.sl k (.rows pw))), (1 , (.clo 103 [(.snap [(.int .i64 n.nd), (.sl k1 (.rows n.pw)), (.int .i64 n.ns), (.int .i64 n.th), (.sl k2 (.st 3 n.ls)), (.sl k3 (.i1 n.mg))] 0)])), (7 ,
  (.int .i64 m)), (8 , (.int .i64 (addI .i64 i 1)))], [], (tt 7 c0)⟩)))) (.leaf (some ((.exit 0) , ⟨mkS 19 [(0 , (.sl k (.rows pw))), (1 , (.clo 103 [(.snap [(.int .i64 n.nd), (.sl k1
  (.rows n.pw)), (.int .i64 n.ns), (.int .i64 n.th), (.sl k2 (.st 3 n.ls)), (.sl k3 (.i1 n.mg))] 0)])), (7 , (.int .i64 m)), (8 , (.int .i64 i))], [], (tt 3 [])⟩))))
theorem l131a_eq (n : Net) (k k1 k2 k3 : Option Bool) (pw : List (List Int)) (m i : Int) : keepT 19 [0, 1, 7, 8, 4] [] (evT (cxs [103]) (tb [(103, s103)]) (orcT []) (loopB Try.f131 0) ⟨mkS 19 (zip2 [0, 1, 7, 8] [.sl k (.rows pw), .clo 103 [.snap (n.cells k1 k2 k3) 0], .int .i64 m, .int .i64 i]), zip2 [] [], []⟩) = l131a n k k1 k2 k3 pw m i := by kernel_rfl
theorem l131a_ok (Γ : Env) (π : Nms) : LoopOK Try.prog Γ π 0 (loopB Try.f131 0) ls131a := by
  intro vs obs r h ho ok ok' hok hT
  simp only [ls131a] at h
  split at h
  · rename_i k pw cs m
    cases hn : netC cs with
    | none => rw [hn] at h; simp [Tr.sel] at h
    | some n =>
    obtain ⟨k1, k2, k3, rfl⟩ := netC_inv hn
    rw [hn] at h
    have hm : m = lenZ pw ∧ lenZ pw ≤ 1000 := by
      simp only [Tr.sel] at h
      cases hb : leI 0 (badLen pw n.nd) <;> rw [hb] at h <;> cases h <;> exact ⟨eqI_iff.1 (ho _ (by simp)), leI_iff.1 (ho _ (by simp))⟩
    obtain ⟨rfl, hl⟩ := hm
    refine scanK ⟨.cons ok103 .nil, rfl, by kernel_rfl, by kernel_rfl, .nil⟩ (fun i => [.sl k (.rows pw), .clo 103 [.snap (n.cells k1 k2 k3) 0], .int .i64 (lenZ pw), .int .i64 i]) [] (fun i => neI (lenZ (getL pw i)) n.nd) (lenZ pw) 0
      (Int.le_refl 0) (by omega) (fun j => ⟨.ret, [(4, .int .i64 j)], [], [eqI (lenZ pw) (lenZ pw), leI (lenZ pw) 1000]⟩) ⟨.normal, [], [], [eqI (lenZ pw) (lenZ pw), leI (lenZ pw) 1000]⟩ (l131a n k k1 k2 k3 pw (lenZ pw)) (l131a_eq n k k1 k2 k3 pw (lenZ pw)) ?_ ?_ ?_ ?_ hok hT
    · intro i h0 hlt
      simp only [l131a, Tr.sel, hlt]
      exact ⟨_, _, rfl, by simp [AllT_tt, AllT_gE, AllT_gT, AllT_nil, AllT_cons, impB_iff, leI_iff, ltI_iff, h0, hlt], rfl, Fits.k rfl rfl rfl⟩
    · intro i h0 hlt hp
      simp only [l131a, Tr.sel, hlt]
      skip
      simp only [hp]
      exact ⟨_, _, rfl, by simp [AllT_tt, AllT_gE, AllT_gT, AllT_nil, AllT_cons, impB_iff, leI_iff, ltI_iff, h0, hlt], rfl, Fits.k rfl rfl rfl⟩
    · intro i h0 hlt hp
      simp only [l131a, Tr.sel, hlt]
      skip
      simp only [hp]
      exact ⟨_, rfl, by simp [AllT_tt, AllT_gE, AllT_gT, AllT_nil, AllT_cons, impB_iff, leI_iff, ltI_iff, h0, hlt], Fits.k rfl rfl rfl⟩
    · simp only [Tr.sel] at h
      have e : scan (fun i => neI (lenZ (getL pw i)) n.nd) (lenZ pw - 0).toNat 0 = badLen pw n.nd := by simp [lenZ, badLen]
      rw [e]
      cases hb : leI 0 (badLen pw n.nd) <;> rw [hb] at h <;> cases h
      · rw [if_neg (fun c => by rw [leI_iff.2 c] at hb; cases hb)]
      · rw [if_pos (leI_iff.1 hb)]
  · simp [Tr.sel] at h
def t131a (n : Net) (k k1 k2 k3 : Option Bool) (pw : List (List Int)) : Tr Res :=
  let c0 := (badLen pw n.nd)
  let c1 := ((eqI (lenZ pw) (lenZ pw)) :: ((leI (lenZ pw) 1000) :: (tt 4 [])))
  (.node (leI 0 c0) (.leaf (some ⟨c1, (.int .i64 c0), [.junk, .junk]⟩)) (.leaf (some ⟨(tt 1 c1), (.int .i64 (-1)), [.junk, .junk]⟩)))
theorem t131a_eq (n : Net) (k k1 k2 k3 : Option Bool) (pw : List (List Int)) : evFT (cxs [103]) (tb [(103, s103)]) (orcT [(0, ls131a)]) 131 Try.f131 [.sl k (.rows pw), .clo 103 [.snap (n.cells k1 k2 k3) 0]] = t131a n k k1 k2 k3 pw := by kernel_rfl
theorem ok131a : FnOK Try.prog 131 s131a := by
  refine fnK (.cons ok103 .nil) (fs := [103]) rfl Try.func131 rfl (by kernel_rfl) (fun Γ π => .cons (l131a_ok Γ π) .nil) ?_
  intro bs r h ho
  unfold s131a at h
  split at h
  · rename_i k pw cs
    split at h
    · rename_i n hn
      obtain ⟨k1, k2, k3, rfl⟩ := netC_inv hn
      cases h
      have hl : leI (lenZ pw) 1000 = true := ho _ (by simp)
      refine ⟨by simp, ?_⟩
      rw [t131a_eq]
      simp only [t131a, Tr.sel]
      cases hb : leI 0 (badLen pw n.nd) with
      | true => exact ⟨_, rfl, by simp [AllT_tt, AllT_gE, AllT_gT, AllT_nil, AllT_cons, impB_iff, leI_iff, ltI_iff, eqI_iff, leI_iff.1 hl], rfl, rfl⟩
      | false => exact ⟨_, rfl, by simp [AllT_tt, AllT_gE, AllT_gT, AllT_nil, AllT_cons, impB_iff, leI_iff, ltI_iff, eqI_iff, leI_iff.1 hl], by rw [badLen, scan_neg (Int.le_refl 0) hb], rfl⟩
    · cases h
  · cases h
def l131b (k : Option Bool) (pw : List (List Int)) (m i : Int) : Tr (Ex × St) :=
  let c0 := ((leI (lenZ (getL pw i)) 1000) :: (tt 3 ((leI 0 i) :: ((ltI i (lenZ pw)) :: (tt 10 [])))))
  (.node (ltI i m) (.node (leI 0 (outP (getL pw i))) (.leaf (some (.ret , ⟨mkS 19 [(0 , (.sl k (.rows pw))), (1 , (.clo 105 [(.snap [(.clo 104 [])] 0)])), (4 , (.int .i64 i)), (7 , (.int
  .i64 m)), (8 , (.int .i64 i))], [], (tt 3 c0)⟩))) (.leaf (some (.normal , ⟨mkS 19 [(0 , (.sl k (.rows pw))), (1 , (.clo 105 [(.snap [(.clo 104 [])] 0)])), (7 , (.int .i64 m)), (8 , (.int
  .i64 (addI .i64 i 1)))], [], (tt 4 c0)⟩)))) (.leaf (some ((.exit 0) , ⟨mkS 19 [(0 , (.sl k (.rows pw))), (1 , (.clo 105 [(.snap [(.clo 104 [])] 0)])), (7 , (.int .i64 m)), (8 , (.int .i64
  i))], [], (tt 3 [])⟩))))
theorem l131b_eq (k : Option Bool) (pw : List (List Int)) (m i : Int) : keepT 19 [0, 1, 7, 8, 4] [] (evT (cxs [105]) (tb [(105, s105)]) (orcT []) (loopB Try.f131 0) ⟨mkS 19 (zip2 [0, 1, 7, 8] [.sl k (.rows pw), .clo 105 [.snap [.clo 104 []] 0], .int .i64 m, .int .i64 i]), zip2 [] [], []⟩) = l131b k pw m i := by kernel_rfl
theorem l131b_ok (Γ : Env) (π : Nms) : LoopOK Try.prog Γ π 0 (loopB Try.f131 0) ls131b := by
  intro vs obs r h ho ok ok' hok hT
  simp only [ls131b] at h
  split at h
  · rename_i k pw m
    have hm : m = lenZ pw ∧ lenZ pw ≤ 1000 ∧ rowsP pw = true := by
      simp only [Tr.sel] at h
      cases hb : leI 0 (badPow pw) <;> rw [hb] at h <;> cases h <;> exact ⟨eqI_iff.1 (ho _ (by simp)), leI_iff.1 (ho _ (by simp)), ho _ (by simp)⟩
    obtain ⟨rfl, hl, hr⟩ := hm
    have hr' : ∀ i, 0 ≤ i → ltI i (lenZ pw) = true → lenZ (getL pw i) ≤ 1000 := fun i h0 h1 => by have := rowsP_iff.1 hr i h0 (ltI_iff.1 h1); omega
    refine scanK ⟨.cons ok105 .nil, rfl, by kernel_rfl, by kernel_rfl, .nil⟩ (fun i => [.sl k (.rows pw), .clo 105 [.snap [.clo 104 []] 0], .int .i64 (lenZ pw), .int .i64 i]) [] (fun i => leI 0 (outP (getL pw i))) (lenZ pw) 0
      (Int.le_refl 0) (by omega) (fun j => ⟨.ret, [(4, .int .i64 j)], [], [eqI (lenZ pw) (lenZ pw), leI (lenZ pw) 1000, rowsP pw]⟩) ⟨.normal, [], [], [eqI (lenZ pw) (lenZ pw), leI (lenZ pw) 1000, rowsP pw]⟩ (l131b k pw (lenZ pw)) (l131b_eq k pw (lenZ pw)) ?_ ?_ ?_ ?_ hok hT
    · intro i h0 hlt
      simp only [l131b, Tr.sel, hlt]
      exact ⟨_, _, rfl, by simp [AllT_tt, AllT_gE, AllT_gT, AllT_nil, AllT_cons, impB_iff, leI_iff, ltI_iff, h0, hlt], rfl, Fits.k rfl rfl rfl⟩
    · intro i h0 hlt hp
      simp only [l131b, Tr.sel, hlt]
      skip
      simp only [hp]
      exact ⟨_, _, rfl, by simp [AllT_tt, AllT_gE, AllT_gT, AllT_nil, AllT_cons, impB_iff, leI_iff, ltI_iff, h0, hlt, hr' i h0 hlt], rfl, Fits.k rfl rfl rfl⟩
    · intro i h0 hlt hp
      simp only [l131b, Tr.sel, hlt]
      skip
      simp only [hp]
      exact ⟨_, rfl, by simp [AllT_tt, AllT_gE, AllT_gT, AllT_nil, AllT_cons, impB_iff, leI_iff, ltI_iff, h0, hlt, hr' i h0 hlt], Fits.k rfl rfl rfl⟩
    · simp only [Tr.sel] at h
      have e : scan (fun i => leI 0 (outP (getL pw i))) (lenZ pw - 0).toNat 0 = badPow pw := by simp [lenZ, badPow]
      rw [e]
      cases hb : leI 0 (badPow pw) <;> rw [hb] at h <;> cases h
      · rw [if_neg (fun c => by rw [leI_iff.2 c] at hb; cases hb)]
      · rw [if_pos (leI_iff.1 hb)]
  · simp [Tr.sel] at h
def t131b (k : Option Bool) (pw : List (List Int)) : Tr Res :=
  let c0 := ((eqI (lenZ pw) (lenZ pw)) :: ((leI (lenZ pw) 1000) :: ((rowsP pw) :: (tt 4 []))))
  (.node (leI 0 (badPow pw)) (.leaf (some ⟨c0, (.int .i64 (badPow pw)), [.junk, .junk]⟩)) (.leaf (some ⟨(tt 1 c0), (.int .i64 (-1)), [.junk, .junk]⟩)))
theorem t131b_eq (k : Option Bool) (pw : List (List Int)) : evFT (cxs [105]) (tb [(105, s105)]) (orcT [(0, ls131b)]) 131 Try.f131 [.sl k (.rows pw), .clo 105 [.snap [.clo 104 []] 0]] = t131b k pw := by kernel_rfl
theorem ok131b : FnOK Try.prog 131 s131b := by
  refine fnK (.cons ok105 .nil) (fs := [105]) rfl Try.func131 rfl (by kernel_rfl) (fun Γ π => .cons (l131b_ok Γ π) .nil) ?_
  intro bs r h ho
  unfold s131b at h
  split at h
  · rename_i k pw
    cases h
    have hl : leI (lenZ pw) 1000 = true := ho _ (by simp)
    have hr : rowsP pw = true := ho _ (by simp)
    refine ⟨by simp, ?_⟩
    rw [t131b_eq]
    simp only [t131b, Tr.sel]
    cases hb : leI 0 (badPow pw) with
    | true => exact ⟨_, rfl, by simp [AllT_tt, AllT_gE, AllT_gT, AllT_nil, AllT_cons, impB_iff, leI_iff, ltI_iff, eqI_iff, leI_iff.1 hl, hr], rfl, rfl⟩
    | false => exact ⟨_, rfl, by simp [AllT_tt, AllT_gE, AllT_gT, AllT_nil, AllT_cons, impB_iff, leI_iff, ltI_iff, eqI_iff, leI_iff.1 hl, hr], by rw [badPow, scan_neg (Int.le_refl 0) hb], rfl⟩
  · cases h
theorem ok131 : FnOK Try.prog 131 s131 := orF_ok ok131a ok131b
def t102a (n : Net) (k k1 k2 k3 : Option Bool) (pw : List (List Int)) : Tr Res :=
  (.leaf (some ⟨(tt 3 ((leI (lenZ pw) 1000) :: (tt 6 []))), (.bool (leI 0 (badLen pw n.nd))), [.junk, .junk]⟩))
theorem t102a_eq (n : Net) (k k1 k2 k3 : Option Bool) (pw : List (List Int)) : evFT (cxs [131]) (tb [(131, s131)]) (orcT []) 102 Try.f102 [.sl k (.rows pw), .clo 103 [.snap (n.cells k1 k2 k3) 0]] = t102a n k k1 k2 k3 pw := by kernel_rfl
theorem ok102a : FnOK Try.prog 102 s102a := by
  refine fnK (.cons ok131 .nil) (fs := [131]) rfl Try.func102 rfl (by kernel_rfl) noLoops ?_
  intro bs r h ho
  unfold s102a at h
  split at h
  · rename_i k pw cs
    split at h
    · rename_i n hn
      obtain ⟨k1, k2, k3, rfl⟩ := netC_inv hn
      cases h
      have hl : lenZ pw ≤ 1000 := leI_iff.1 (ho _ (by simp))
      refine ⟨by simp, ?_⟩
      rw [t102a_eq]
      exact ⟨_, rfl, by simp [AllT_tt, AllT_gE, AllT_gT, AllT_nil, AllT_cons, impB_iff, leI_iff, ltI_iff, hl], rfl, rfl⟩
    · cases h
  · cases h
def t102b (k : Option Bool) (pw : List (List Int)) : Tr Res :=
  (.leaf (some ⟨(tt 3 ((leI (lenZ pw) 1000) :: ((rowsP pw) :: (tt 6 [])))), (.bool (leI 0 (badPow pw))), [.junk, .junk]⟩))
theorem t102b_eq (k : Option Bool) (pw : List (List Int)) : evFT (cxs [131]) (tb [(131, s131)]) (orcT []) 102 Try.f102 [.sl k (.rows pw), .clo 105 [.snap [.clo 104 []] 0]] = t102b k pw := by kernel_rfl
theorem ok102b : FnOK Try.prog 102 s102b := by
  refine fnK (.cons ok131 .nil) (fs := [131]) rfl Try.func102 rfl (by kernel_rfl) noLoops ?_
  intro bs r h ho
  unfold s102b at h
  split at h
  · rename_i k pw
    cases h
    have hl : leI (lenZ pw) 1000 = true := ho _ (by simp)
    have hr : rowsP pw = true := ho _ (by simp)
    refine ⟨by simp, ?_⟩
    rw [t102b_eq]
    exact ⟨_, rfl, by simp [AllT_tt, AllT_gE, AllT_gT, AllT_nil, AllT_cons, impB_iff, leI_iff, ltI_iff, leI_iff.1 hl, hr], rfl, rfl⟩
  · cases h
theorem ok102 : FnOK Try.prog 102 s102 := orF_ok ok102a ok102b
def t62 (n : Net) (k1 k2 k3 : Option Bool) : Tr Res :=
  let c0 := (neI (lenZ n.pw) n.nd)
  let c1 := (leI (lenZ n.pw) 1000)
  let c2 := (gT c0 (gE (notB c0) ((impB (notB c0) c1) :: (gT (notB c0) (gE (notB c0) (gE (notB c0) (gT (notB c0) (gE (notB c0) (gT (notB c0) (tt 10 []))))))))))
  let c3 := (tt 2 (c1 :: ((rowsP n.pw) :: (tt 10 c2))))
  (.node (orB c0 (leI 0 (badLen n.pw n.nd))) (.leaf (some ⟨(tt 3 c2), (.int .i64 1), [.junk]⟩)) (.node (leI 0 (badPow n.pw)) (.leaf (some ⟨c3, (.int .i64 2), [.junk]⟩)) (.leaf (some ⟨c3,
  (.int .i64 0), [.junk]⟩))))
theorem t62_eq (n : Net) (k1 k2 k3 : Option Bool) : evFT (cxs [102]) (tb [(102, s102)]) (orcT []) 62 Try.f62 [n.av k1 k2 k3] = t62 n k1 k2 k3 := by kernel_rfl
theorem ok62 : FnOK Try.prog 62 s62 := by
  refine fnK (.cons ok102 .nil) (fs := [102]) rfl Try.func62 rfl (by kernel_rfl) noLoops ?_
  intro bs r h ho
  obtain ⟨n, k1, k2, k3, rfl, h⟩ := on1_inv h
  cases h
  have hf : few n = true := ho _ (by simp)
  have hl := few_pw hf
  have hl' : lenZ n.pw ≤ 1000 := by omega
  have hr := (few_iff.1 hf).1
  refine ⟨by simp, ?_⟩
  rw [t62_eq]
  simp only [t62, Tr.sel, tbl]
  cases neI (lenZ n.pw) n.nd with
  | true => exact ⟨_, rfl, by simp [AllT_tt, AllT_gE, AllT_gT, AllT_nil, AllT_cons, impB_iff, leI_iff, ltI_iff, hl', hr], rfl, rfl⟩
  | false => cases leI 0 (badLen n.pw n.nd) with
    | true => exact ⟨_, rfl, by simp [AllT_tt, AllT_gE, AllT_gT, AllT_nil, AllT_cons, impB_iff, leI_iff, ltI_iff, hl', hr], rfl, rfl⟩
    | false => cases leI 0 (badPow n.pw) with
      | true => exact ⟨_, rfl, by simp [AllT_tt, AllT_gE, AllT_gT, AllT_nil, AllT_cons, impB_iff, leI_iff, ltI_iff, hl', hr], rfl, rfl⟩
      | false => exact ⟨_, rfl, by simp [AllT_tt, AllT_gE, AllT_gT, AllT_nil, AllT_cons, impB_iff, leI_iff, ltI_iff, hl', hr], rfl, rfl⟩
end Go.Sx
