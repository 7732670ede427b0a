/-
  The walk of the law NetworkEdits. No condition beyond those that each theorem names.
-/
import Derived.Test.YtncjcjaphddlgaaME15
import Derived.Test.YtncjcjaphddlgaaS6
set_option linter.unusedVariables false
set_option linter.unusedSimpArgs false
set_option maxRecDepth 100000
namespace Go.Sx
open Go Go.Proofs

def l95 (k k' : Option Bool) (xs ys : List Int) (i : Int) : Tr (Ex × St) :=
  let c0 := (ltI i (lenZ xs))
  let c1 := ((leI 0 i) :: ((ltI i (lenZ ys)) :: (tt 5 ((leI 0 i) :: (c0 :: (tt 10 []))))))
  (.node c0 (.node (neI (getI xs i) (getI ys i)) (.leaf (some (.ret , ⟨mkS 26 [(0 , (.sl k (.i1 xs))), (1 , (.sl k' (.i1 ys))), (4 , (.bool false)), (5 , (.int .i64 i))], [], (tt 5 c1)⟩)))
  (.leaf (some (.normal , ⟨mkS 26 [(0 , (.sl k (.i1 xs))), (1 , (.sl k' (.i1 ys))), (5 , (.int .i64 (addI .i64 i 1)))], [], (tt 8 c1)⟩)))) (.leaf (some ((.exit 0) , ⟨mkS 26 [(0 , (.sl k
  (.i1 xs))), (1 , (.sl k' (.i1 ys))), (5 , (.int .i64 i))], [], (tt 6 [])⟩))))
theorem l95_eq (k k' : Option Bool) (xs ys : List Int) (i : Int) : keepT 26 [0, 1, 5, 4] [] (evT (cxs []) (tb []) (orcT []) (loopB Try.f95 0) ⟨mkS 26 (zip2 [0, 1, 5] [.sl k (.i1 xs), .sl k' (.i1 ys), .int .i64 i]), zip2 [] [], []⟩) = l95 k k' xs ys i := by kernel_rfl
theorem l95_ok (Γ : Env) (π : Nms) : LoopOK Try.prog Γ π 0 (loopB Try.f95 0) ls95 := by
  intro vs obs r h ho ok ok' hok hT
  simp only [ls95] at h
  split at h
  · rename_i k xs k' ys
    have hl : lenZ ys = lenZ xs ∧ lenZ xs ≤ 1000 := by
      simp only [Tr.sel] at h
      cases hb : leI 0 (difZ xs ys) <;> rw [hb] at h <;> cases h <;> exact ⟨eqI_iff.1 (ho _ (by simp)), leI_iff.1 (ho (leI (lenZ xs) 1000) (by simp))⟩
    obtain ⟨hl1, hl2⟩ := hl
    refine scanK ⟨.nil, rfl, by kernel_rfl, by kernel_rfl, .nil⟩ (fun i => [.sl k (.i1 xs), .sl k' (.i1 ys), .int .i64 i]) [] (fun i => neI (getI xs i) (getI ys i)) (lenZ xs) 0
      (Int.le_refl 0) (by omega) (fun j => ⟨.ret, [(4, .bool false)], [], [eqI (lenZ ys) (lenZ xs), leI (lenZ xs) 1000]⟩) ⟨.normal, [], [], [eqI (lenZ ys) (lenZ xs), leI (lenZ xs) 1000]⟩ (l95 k k' xs ys) (l95_eq k k' xs ys) ?_ ?_ ?_ ?_ hok hT
    · intro i h0 hlt
      simp only [l95, Tr.sel, hlt]
      exact ⟨_, _, rfl, by simp [AllT_tt, AllT_gE, AllT_gT, AllT_nil, AllT_cons, impB_iff, leI_iff, ltI_iff], rfl, Fits.k (by kernel_rfl) (by kernel_rfl) (by kernel_rfl)⟩
    · intro i h0 hlt hp
      have hlt' := ltI_iff.1 hlt
      simp only [l95, Tr.sel, hlt, hp]
      exact ⟨_, _, rfl, by simp [AllT_tt, AllT_gE, AllT_gT, AllT_nil, AllT_cons, impB_iff, leI_iff, ltI_iff, h0, hlt', hl1], rfl, Fits.k (by kernel_rfl) (by kernel_rfl) (by kernel_rfl)⟩
    · intro i h0 hlt hp
      have hlt' := ltI_iff.1 hlt
      simp only [l95, Tr.sel, hlt, hp]
      exact ⟨_, rfl, by simp [AllT_tt, AllT_gE, AllT_gT, AllT_nil, AllT_cons, impB_iff, leI_iff, ltI_iff, h0, hlt', hl1], Fits.k (by kernel_rfl) (by kernel_rfl) (by kernel_rfl)⟩
    · simp only [Tr.sel] at h
      have e : scan (fun i => neI (getI xs i) (getI ys i)) (lenZ xs - 0).toNat 0 = difZ xs ys := by simp [difZ, lenZ]
      rw [e]
      cases hb : leI 0 (difZ xs ys) <;> rw [hb] at h <;> cases h
      · rw [if_neg (fun c => by rw [leI_iff.2 c] at hb; cases hb)]
      · rw [if_pos (leI_iff.1 hb)]
  · simp [Tr.sel] at h
def t95 (k k' : Option Bool) (xs ys : List Int) : Tr Res :=
  let c0 := ((eqI (lenZ ys) (lenZ xs)) :: ((leI (lenZ xs) 1000) :: (tt 9 [])))
  (.node (neI (lenZ xs) (lenZ ys)) (.leaf (some ⟨(tt 9 []), (.bool false), [.junk, .junk]⟩)) (.node (leI 0 (difZ xs ys)) (.leaf (some ⟨c0, (.bool false), [.junk, .junk]⟩)) (.leaf (some ⟨(tt
  1 c0), (.bool true), [.junk, .junk]⟩))))
theorem t95_eq (k k' : Option Bool) (xs ys : List Int) : evFT (cxs []) (tb []) (orcT [(0, ls95)]) 95 Try.f95 [.sl k (.i1 xs), .sl k' (.i1 ys)] = t95 k k' xs ys := by kernel_rfl
theorem ok95 : FnOK Try.prog 95 s95 := by
  refine fnK .nil (fs := []) rfl Try.func95 rfl (by kernel_rfl) (fun Γ π => .cons (l95_ok Γ π) .nil) ?_
  intro bs r h ho
  unfold s95 at h
  split at h
  · rename_i k xs k' ys
    cases h
    have hl : leI (lenZ xs) 1000 = true := ho _ (by simp)
    refine ⟨by simp, ?_⟩
    rw [t95_eq]
    simp only [t95, Tr.sel]
    have hne : neI (lenZ xs) (lenZ ys) = notB (eqI (lenZ xs) (lenZ ys)) := Beq (by simp only [andB_iff, orB_iff', notB_iff, andB_false, orB_false, notB_false, eqI_iff, eqI_false, neI_iff, neI_false, ltI_iff, ltI_false, leI_iff, leI_false, inB_iff, nodeB_iff, inB_false, nodeB_false])
    rw [hne]
    cases he : eqI (lenZ xs) (lenZ ys) with
    | false => exact ⟨_, rfl, by simp [AllT_tt, AllT_gE, AllT_gT, AllT_nil, AllT_cons, impB_iff, leI_iff, ltI_iff, hl], by simp [andB], rfl⟩
    | true =>
      have he' := eqI_iff.1 he
      have hl2 : lenZ ys ≤ 1000 := by have := leI_iff.1 hl; omega
      cases hb : leI 0 (difZ xs ys) with
      | true => exact ⟨_, rfl, by simp [AllT_tt, AllT_gE, AllT_gT, AllT_nil, AllT_cons, impB_iff, leI_iff, ltI_iff, eqI_iff, hl2, leI_iff, he'], by simp [andB, notB], rfl⟩
      | false => exact ⟨_, rfl, by simp [AllT_tt, AllT_gE, AllT_gT, AllT_nil, AllT_cons, impB_iff, leI_iff, ltI_iff, eqI_iff, hl2, leI_iff, he'], by simp [andB, notB], rfl⟩
  · cases h
def l56a (n : Net) (k1 k2 k3 k4 k5 k6 : Option Bool) (i : Int) : Tr (Ex × St) :=
  let c0 := (ltI i (lenZ n.pw))
  let c1 := (getL n.pw i)
  let c2 := ((leI (lenZ c1) 1000) :: (tt 4 ((leI 0 i) :: (c0 :: (tt 6 ((leI 0 i) :: (c0 :: (tt 12 []))))))))
  (.node c0 (.node (notB (andB (eqI (lenZ c1) (lenZ c1)) (notB (leI 0 (difZ c1 c1))))) (.leaf (some (.ret , ⟨mkS 95 [(2 , (.ref 2 0)), (3 , (.ref 3 0)), (5 , (.int .i64 i))], [(2 , (.box
  [(.int .i64 n.nd), (.sl k1 (.rows n.pw)), (.int .i64 n.ns), (.int .i64 n.th), (.sl k2 (.st 3 n.ls)), (.sl k3 (.i1 n.mg))])), (3 , (.box [(.int .i64 n.nd), (.sl k4 (.rows n.pw)), (.int
  .i64 n.ns), (.int .i64 n.th), (.sl k5 (.st 3 n.ls)), (.sl k6 (.i1 n.mg))]))], (tt 3 c2)⟩))) (.leaf (some (.normal , ⟨mkS 95 [(2 , (.ref 2 0)), (3 , (.ref 3 0)), (5 , (.int .i64 (addI .i64
  i 1)))], [(2 , (.box [(.int .i64 n.nd), (.sl k1 (.rows n.pw)), (.int .i64 n.ns), (.int .i64 n.th), (.sl k2 (.st 3 n.ls)), (.sl k3 (.i1 n.mg))])), (3 , (.box [(.int .i64 n.nd), (.sl k4
  (.rows n.pw)), (.int .i64 n.ns), (.int .i64 n.th), (.sl k5 (.st 3 n.ls)), (.sl k6 (.i1 n.mg))]))], (tt 6 c2)⟩)))) (.leaf (some ((.exit 0) , ⟨mkS 95 [(2 , (.ref 2 0)), (3 , (.ref 3 0)), (5
  , (.int .i64 i))], [(2 , (.box [(.int .i64 n.nd), (.sl k1 (.rows n.pw)), (.int .i64 n.ns), (.int .i64 n.th), (.sl k2 (.st 3 n.ls)), (.sl k3 (.i1 n.mg))])), (3 , (.box [(.int .i64 n.nd),
  (.sl k4 (.rows n.pw)), (.int .i64 n.ns), (.int .i64 n.th), (.sl k5 (.st 3 n.ls)), (.sl k6 (.i1 n.mg))]))], (tt 7 [])⟩))))
theorem l56a_eq (n : Net) (k1 k2 k3 k4 k5 k6 : Option Bool) (i : Int) : keepT 95 [2, 3, 5] [2, 3] (evT (cxs [95]) (tb [(95, s95)]) (orcT []) (loopB Try.f56 0) ⟨mkS 95 (zip2 [2, 3, 5] [.ref 2 0, .ref 3 0, .int .i64 i]), zip2 [2, 3] [.box (n.cells k1 k2 k3), .box (n.cells k4 k5 k6)], []⟩) = l56a n k1 k2 k3 k4 k5 k6 i := by kernel_rfl
theorem eqN_iff {a b : Net} : eqN a b = true ↔ a = b := by
  obtain ⟨a1, a2, a3, a4, a5, a6⟩ := a
  obtain ⟨b1, b2, b3, b4, b5, b6⟩ := b
  simp [eqN, andB_iff, eqI_iff, eqLs_iff, eqLI_iff]
theorem l56a_ok (Γ : Env) (π : Nms) : LoopOK Try.prog Γ π 0 (loopB Try.f56 0) ls56a := by
  intro vs obs r h ho ok ok' hok hT
  simp only [ls56a] at h
  split at h
  · rename_i cs ds
    cases hn : netC cs with
    | none => rw [hn] at h; simp [Tr.sel] at h
    | some n =>
    cases hm : netC ds with
    | none => rw [hn, hm] at h; simp [Tr.sel] at h
    | some m =>
    obtain ⟨k1, k2, k3, rfl⟩ := netC_inv hn
    obtain ⟨k4, k5, k6, rfl⟩ := netC_inv hm
    rw [hn, hm] at h
    simp only [Tr.sel, Option.some.injEq] at h
    subst h
    have he : m = n := (eqN_iff.1 (ho (eqN n m) (by simp))).symm
    have hf : few n = true := ho (few n) (by simp)
    subst he
    have h1 := few_pw hf
    have h2 := few_ls hf
    have hrow := rowsP_iff.1 (few_iff.1 hf).1
    refine allK ⟨.cons ok95 .nil, rfl, by kernel_rfl, by kernel_rfl, .nil⟩ (fun i => [.ref 2 0, .ref 3 0, .int .i64 i]) [.box (m.cells k1 k2 k3), .box (m.cells k4 k5 k6)] (lenZ m.pw) (by omega) (fun i => l56a m k1 k2 k3 k4 k5 k6 i) (fun i => l56a_eq m k1 k2 k3 k4 k5 k6 i) ?_ ?_ hok hT
    · intro i h0 hlt
      simp only [l56a, Tr.sel, hlt]
      exact ⟨_, _, rfl, by simp [AllT_tt, AllT_gE, AllT_gT, AllT_nil, AllT_cons, impB_iff, leI_iff, ltI_iff], rfl, Fits.k (by kernel_rfl) (by kernel_rfl) (by kernel_rfl)⟩
    · intro i h0 hlt
      have hlt' := ltI_iff.1 hlt
      have hr := hrow i h0 hlt'
      simp only [l56a, Tr.sel, hlt, sameL, notB_t]
      exact ⟨_, rfl, by simp [AllT_tt, AllT_gE, AllT_gT, AllT_nil, AllT_cons, impB_iff, leI_iff, ltI_iff, h0, hlt']; omega, Fits.k (by kernel_rfl) (by kernel_rfl) (by kernel_rfl)⟩
  · simp [Tr.sel] at h
def l56b (n : Net) (k1 k2 k3 k4 k5 k6 : Option Bool) (i : Int) : Tr (Ex × St) :=
  let c0 := (ltI i (lenZ n.ls))
  let c1 := (getL n.ls i)
  let c2 := ((leI 0 i) :: (c0 :: (tt 6 ((leI 0 i) :: (c0 :: (tt 12 []))))))
  (.node c0 (.node (notB (eqLI [(getN c1 0), (getN c1 1), (getN c1 2)] [(getN c1 0), (getN c1 1), (getN c1 2)])) (.leaf (some (.ret , ⟨mkS 95 [(2 , (.ref 2 0)), (3 , (.ref 3 0)), (6 , (.int
  .i64 i))], [(2 , (.box [(.int .i64 n.nd), (.sl k1 (.rows n.pw)), (.int .i64 n.ns), (.int .i64 n.th), (.sl k2 (.st 3 n.ls)), (.sl k3 (.i1 n.mg))])), (3 , (.box [(.int .i64 n.nd), (.sl k4
  (.rows n.pw)), (.int .i64 n.ns), (.int .i64 n.th), (.sl k5 (.st 3 n.ls)), (.sl k6 (.i1 n.mg))]))], (tt 5 c2)⟩))) (.leaf (some (.normal , ⟨mkS 95 [(2 , (.ref 2 0)), (3 , (.ref 3 0)), (6 ,
  (.int .i64 (addI .i64 i 1)))], [(2 , (.box [(.int .i64 n.nd), (.sl k1 (.rows n.pw)), (.int .i64 n.ns), (.int .i64 n.th), (.sl k2 (.st 3 n.ls)), (.sl k3 (.i1 n.mg))])), (3 , (.box [(.int
  .i64 n.nd), (.sl k4 (.rows n.pw)), (.int .i64 n.ns), (.int .i64 n.th), (.sl k5 (.st 3 n.ls)), (.sl k6 (.i1 n.mg))]))], (tt 8 c2)⟩)))) (.leaf (some ((.exit 2) , ⟨mkS 95 [(2 , (.ref 2 0)),
  (3 , (.ref 3 0)), (6 , (.int .i64 i))], [(2 , (.box [(.int .i64 n.nd), (.sl k1 (.rows n.pw)), (.int .i64 n.ns), (.int .i64 n.th), (.sl k2 (.st 3 n.ls)), (.sl k3 (.i1 n.mg))])), (3 , (.box
  [(.int .i64 n.nd), (.sl k4 (.rows n.pw)), (.int .i64 n.ns), (.int .i64 n.th), (.sl k5 (.st 3 n.ls)), (.sl k6 (.i1 n.mg))]))], (tt 7 [])⟩))))
theorem l56b_eq (n : Net) (k1 k2 k3 k4 k5 k6 : Option Bool) (i : Int) : keepT 95 [2, 3, 6] [2, 3] (evT (cxs []) (tb []) (orcT []) (loopB Try.f56 2) ⟨mkS 95 (zip2 [2, 3, 6] [.ref 2 0, .ref 3 0, .int .i64 i]), zip2 [2, 3] [.box (n.cells k1 k2 k3), .box (n.cells k4 k5 k6)], []⟩) = l56b n k1 k2 k3 k4 k5 k6 i := by kernel_rfl
theorem l56b_ok (Γ : Env) (π : Nms) : LoopOK Try.prog Γ π 2 (loopB Try.f56 2) ls56b := by
  intro vs obs r h ho ok ok' hok hT
  simp only [ls56b] at h
  split at h
  · rename_i cs ds
    cases hn : netC cs with
    | none => rw [hn] at h; simp [Tr.sel] at h
    | some n =>
    cases hm : netC ds with
    | none => rw [hn, hm] at h; simp [Tr.sel] at h
    | some m =>
    obtain ⟨k1, k2, k3, rfl⟩ := netC_inv hn
    obtain ⟨k4, k5, k6, rfl⟩ := netC_inv hm
    rw [hn, hm] at h
    simp only [Tr.sel, Option.some.injEq] at h
    subst h
    have he : m = n := (eqN_iff.1 (ho (eqN n m) (by simp))).symm
    have hf : few n = true := ho (few n) (by simp)
    subst he
    have h1 := few_pw hf
    have h2 := few_ls hf
    have hrow := rowsP_iff.1 (few_iff.1 hf).1
    refine allK ⟨.nil, rfl, by kernel_rfl, by kernel_rfl, .nil⟩ (fun i => [.ref 2 0, .ref 3 0, .int .i64 i]) [.box (m.cells k1 k2 k3), .box (m.cells k4 k5 k6)] (lenZ m.ls) (by omega) (fun i => l56b m k1 k2 k3 k4 k5 k6 i) (fun i => l56b_eq m k1 k2 k3 k4 k5 k6 i) ?_ ?_ hok hT
    · intro i h0 hlt
      simp only [l56b, Tr.sel, hlt]
      exact ⟨_, _, rfl, by simp [AllT_tt, AllT_gE, AllT_gT, AllT_nil, AllT_cons, impB_iff, leI_iff, ltI_iff], rfl, Fits.k (by kernel_rfl) (by kernel_rfl) (by kernel_rfl)⟩
    · intro i h0 hlt
      have hlt' := ltI_iff.1 hlt
      simp only [l56b, Tr.sel, hlt, eqLI_rfl, notB_t]
      exact ⟨_, rfl, by simp [AllT_tt, AllT_gE, AllT_gT, AllT_nil, AllT_cons, impB_iff, leI_iff, ltI_iff, h0, hlt'], Fits.k (by kernel_rfl) (by kernel_rfl) (by kernel_rfl)⟩
  · simp [Tr.sel] at h
def t56 (n : Net) (k1 k2 k3 k4 k5 k6 : Option Bool) : Tr Res :=
  let c0 := (neI n.nd n.nd)
  let c1 := (orB c0 (neI n.ns n.ns))
  let c2 := (orB c1 (neI n.th n.th))
  let c3 := (orB c2 (neI (lenZ n.pw) (lenZ n.pw)))
  let c4 := (orB c3 (neI (lenZ n.ls) (lenZ n.ls)))
  let c5 := (tt 3 (gT c4 (gE (notB c4) (gE (notB c4) (gE (notB c4) (gE (notB c4) (gE (notB c4) (gT (notB c4) (gE (notB c4) (gE (notB c4) (gT (notB c4) (tt 2 (gT c3 (gE (notB c3) (gE (notB
  c3) (gE (notB c3) (gE (notB c3) (gE (notB c3) (gT (notB c3) (gE (notB c3) (gE (notB c3) (gT (notB c3) (tt 2 (gT c2 (gE (notB c2) (gE (notB c2) (gE (notB c2) (gE (notB c2) (gE (notB c2)
  (gT (notB c2) (gE (notB c2) (gE (notB c2) (gT (notB c2) (tt 2 (gT c1 (gE (notB c1) (gE (notB c1) (gE (notB c1) (gE (notB c1) (gT (notB c1) (gE (notB c1) (gT (notB c1) (tt 2 (gT c0 (gE
  (notB c0) (gE (notB c0) (gE (notB c0) (gE (notB c0) (gT (notB c0) (gE (notB c0) (gT (notB c0) (tt 10 []))))))))))))))))))))))))))))))))))))))))))))))))))))
  (.node (orB c4 (neI (lenZ n.mg) (lenZ n.mg))) (.leaf (some ⟨c5, (.bool false), [.junk, .junk]⟩)) (.leaf (some ⟨(tt 1 ((leI (lenZ n.mg) 1000) :: (tt 7 ((eqN n n) :: ((few n) :: (tt 1 ((eqN
  n n) :: ((few n) :: c5)))))))), (.bool (andB (eqI (lenZ n.mg) (lenZ n.mg)) (notB (leI 0 (difZ n.mg n.mg))))), [.junk, .junk]⟩)))
theorem t56_eq (n : Net) (k1 k2 k3 k4 k5 k6 : Option Bool) : evFT (cxs [95]) (tb [(95, s95)]) (orcT [(0, ls56a), (2, ls56b)]) 56 Try.f56 [n.av k1 k2 k3, n.av k4 k5 k6] = t56 n k1 k2 k3 k4 k5 k6 := by kernel_rfl
theorem neI_rfl {x : Int} : neI x x = false := neI_false.2 rfl
theorem ok56 : FnOK Try.prog 56 s56 := by
  refine fnK (.cons ok95 .nil) (fs := [95]) rfl Try.func56 rfl (by kernel_rfl) (fun Γ π => .cons (l56a_ok Γ π) (.cons (l56b_ok Γ π) .nil)) ?_
  intro bs r h ho
  unfold s56 at h
  split at h
  · rename_i a b
    split at h
    · rename_i n m hn hm
      obtain ⟨k1, k2, k3, rfl⟩ := netA_inv hn
      obtain ⟨k4, k5, k6, rfl⟩ := netA_inv hm
      cases h
      have he : m = n := (eqN_iff.1 (ho (eqN n m) (by simp))).symm
      have hf : few n = true := ho (few n) (by simp)
      subst he
      have h3 := few_mg hf
      refine ⟨by simp, ?_⟩
      rw [t56_eq]
      have e0 : eqN m m = true := eqN_iff.2 rfl
      simp only [t56, Tr.sel, neI_rfl, orB_f, sameL]
      exact ⟨_, rfl, by simp [AllT_tt, AllT_gE, AllT_gT, AllT_nil, AllT_cons, impB_iff, leI_iff, ltI_iff, e0, hf]; omega, rfl, rfl⟩
    · cases h
  · cases h
def t13 (n : Net) (k1 k2 k3 : Option Bool) (f t m : Int) : Tr Res :=
  let c0 := ((leI (lenZ n.pw) 9223372036854775807) :: (tt 8 []))
  let c1 := (eqI (woE n f t) (woE n f t))
  let c2 := (andB c1 true)
  let c3 := (weE n f t m)
  let c4 := (andB c2 (eqI c3 c3))
  let c5 := (andB c4 true)
  let c6 := (weN n f t m)
  (.node false (.leaf (some ⟨(tt 6 []), (.bool false), [.junk, .junk, .junk, .junk]⟩)) (.node (notB (few n)) (.leaf (some ⟨(tt 3 c0), (.bool true), [.junk, .junk, .junk, .junk]⟩)) (.leaf
  (some ⟨(tt 2 (gE c5 (gT (notB c5) ((impB c5 (eqN n n)) :: ((impB c5 (few n)) :: (gT c5 (gE c5 (gE c5 (gT c5 (gT c5 (tt 2 (gE c4 (gT (notB c4) ((impB c4 (eqN c6 c6)) :: ((impB c4 (few c6))
  :: (gT c4 (gE c4 (gE c4 (gT c4 (gT c4 (tt 2 (gE c2 (gT (notB c2) (gE c2 (gE c2 (gT c2 (gT c2 (tt 2 (gE c1 (gT (notB c1) ((impB c1 (eqN (woN n f t) (woN n f t))) :: ((impB c1 (few (woN n f
  t))) :: (gT c1 (gE c1 (gE c1 (gT c1 (gT c1 (tt 11 ((few n) :: (tt 15 ((few n) :: (tt 15 ((few n) :: (tt 13 ((few n) :: (tt 9 ((few n) :: (tt 5
  c0)))))))))))))))))))))))))))))))))))))))))))))))), (.bool (andB c5 true)), [.junk, .junk, .junk, .junk]⟩))))
theorem t13_eq (n : Net) (k1 k2 k3 : Option Bool) (f t m : Int) : evFT (cxs [17, 18, 51, 52, 53, 54, 55, 56]) (tb [(17, s17), (18, s18), (51, s51), (52, s52), (53, s53), (54, s54), (55, s55), (56, s56)]) (orcT []) 13 Try.f13 [n.av k1 k2 k3, .int .i64 f, .int .i64 t, .int .i64 m] = t13 n k1 k2 k3 f t m := by kernel_rfl
theorem few_zN : few zN = true := rfl
theorem few_wo {n : Net} {f t : Int} (hf : few n = true) : few (woN n f t) = true := by
  unfold woN
  cases andB (eqI (chk n) 0) (leI 0 (fnd n f t)) with
  | false => exact few_zN
  | true =>
    simp only [cond_true]
    obtain ⟨h1, h2, h3, h4⟩ := few_iff.1 hf
    refine few_iff.2 ⟨h1, h2, ?_, ?_⟩
    · simp only [lenZ, delS, List.length_append, List.length_take, List.length_drop] at h3 ⊢; omega
    · simp only [lenZ, delS, List.length_append, List.length_take, List.length_drop] at h4 ⊢; omega
theorem few_we {n : Net} {f t m : Int} (hf : few n = true) : few (weN n f t m) = true := by
  unfold weN
  cases andB (eqI (chk n) 0) (andB (leI 0 (fnd n f t)) (weOk n f t m)) with
  | false => exact few_zN
  | true =>
    simp only [cond_true]
    obtain ⟨h1, h2, h3, h4⟩ := few_iff.1 hf
    exact few_iff.2 ⟨h1, h2, by simpa [lenZ, addL, setL] using h3, h4⟩
theorem ok13 : FnOK Try.prog 13 s13 := by
  refine fnK (.cons ok17 (.cons ok18 (.cons ok51 (.cons ok52 (.cons ok53 (.cons ok54 (.cons ok55 (.cons ok56 .nil)))))))) (fs := [17, 18, 51, 52, 53, 54, 55, 56]) rfl Try.func13 rfl (by kernel_rfl) noLoops ?_
  intro bs r h ho
  obtain ⟨n, k1, k2, k3, f, t, m, rfl, h⟩ := on4_inv h
  cases h
  have hl : leI (lenZ n.pw) 9223372036854775807 = true := ho _ (by simp)
  refine ⟨by simp, ?_⟩
  rw [t13_eq]
  have e0 : ∀ x, eqN x x = true := fun x => eqN_iff.2 rfl
  simp only [t13, Tr.sel, eqI_rfl, andB_t, notB_t, notB_f]
  cases hf : few n with
  | false => exact ⟨_, rfl, by simp [AllT_tt, AllT_gE, AllT_gT, AllT_nil, AllT_cons, impB_iff, leI_iff, ltI_iff, leI_iff.1 hl, notB], rfl, rfl⟩
  | true => exact ⟨_, rfl, by simp [AllT_tt, AllT_gE, AllT_gT, AllT_nil, AllT_cons, impB_iff, leI_iff, ltI_iff, leI_iff.1 hl, notB, e0, few_wo hf, few_we hf], rfl, rfl⟩
end Go.Sx
