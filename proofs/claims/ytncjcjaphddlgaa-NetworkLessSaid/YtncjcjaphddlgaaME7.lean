/-
  The walks: package network, part 7: lists, Next. No condition beyond those that each theorem names.
-/
import Derived.Test.YtncjcjaphddlgaaME4
import Derived.Test.YtncjcjaphddlgaaS7
import Derived.Test.YtncjcjaphddlgaaS6
set_option linter.unusedVariables false
set_option linter.unusedSimpArgs false
namespace Go.Sx
open Go Go.Proofs

def l88 (k : Option Bool) (xs : List Int) (x m i : Int) : Tr (Ex × St) :=
  let c0 := ((leI 0 i) :: ((ltI i (lenZ xs)) :: (tt 10 [])))
  (.node (ltI i m) (.node (eqI x (getI xs i)) (.leaf (some (.ret , ⟨mkS 19 [(0 , (.sl k (.i1 xs))), (1 , (.int .i64 x)), (4 , (.int .i64 i)), (7 , (.int .i64 m)), (8 , (.int .i64 i))], [],
  (tt 6 c0)⟩))) (.leaf (some (.normal , ⟨mkS 19 [(0 , (.sl k (.i1 xs))), (1 , (.int .i64 x)), (7 , (.int .i64 m)), (8 , (.int .i64 (addI .i64 i 1)))], [], (tt 7 c0)⟩)))) (.leaf (some
  ((.exit 0) , ⟨mkS 19 [(0 , (.sl k (.i1 xs))), (1 , (.int .i64 x)), (7 , (.int .i64 m)), (8 , (.int .i64 i))], [], (tt 3 [])⟩))))
theorem l88_eq (k : Option Bool) (xs : List Int) (x m i : Int) : keepT 19 [0, 1, 7, 8, 4] [] (evT (cxs []) (tb []) (orcT []) (loopB Try.f88 0) ⟨mkS 19 (zip2 [0, 1, 7, 8] [.sl k (.i1 xs), .int .i64 x, .int .i64 m, .int .i64 i]), zip2 [] [], []⟩) = l88 k xs x m i := by kernel_rfl
theorem l88_ok (Γ : Env) (π : Nms) : LoopOK Try.prog Γ π 0 (loopB Try.f88 0) ls88 := by
  intro vs obs r h ho ok ok' hok hT
  simp only [ls88] at h
  split at h
  · rename_i k xs x m
    have hm : m = lenZ xs ∧ lenZ xs ≤ 1000 := by
      simp only [Tr.sel] at h
      cases hb : leI 0 (idxZ xs x) <;> rw [hb] at h <;> cases h <;> exact ⟨eqI_iff.1 (ho _ (by simp)), leI_iff.1 (ho _ (by simp))⟩
    obtain ⟨rfl, hl⟩ := hm
    refine scanK ⟨.nil, rfl, by kernel_rfl, by kernel_rfl, .nil⟩ (fun i => [.sl k (.i1 xs), .int .i64 x, .int .i64 (lenZ xs), .int .i64 i]) [] (fun i => eqI x (getI xs i)) (lenZ xs) 0
      (Int.le_refl 0) (by omega) (fun j => ⟨.ret, [(4, .int .i64 j)], [], [eqI (lenZ xs) (lenZ xs), leI (lenZ xs) 1000]⟩) ⟨.normal, [], [], [eqI (lenZ xs) (lenZ xs), leI (lenZ xs) 1000]⟩ (l88 k xs x (lenZ xs)) (l88_eq k xs x (lenZ xs)) ?_ ?_ ?_ ?_ hok hT
    · intro i h0 hlt
      simp only [l88, Tr.sel, hlt]
      exact ⟨_, _, rfl, by simp [AllT_tt, AllT_gE, AllT_gT, AllT_nil, AllT_cons, impB_iff, leI_iff, ltI_iff, h0, hlt], rfl, Fits.k rfl rfl rfl⟩
    · intro i h0 hlt hp
      simp only [l88, Tr.sel, hlt]
      skip
      simp only [hp]
      exact ⟨_, _, rfl, by simp [AllT_tt, AllT_gE, AllT_gT, AllT_nil, AllT_cons, impB_iff, leI_iff, ltI_iff, h0, hlt], rfl, Fits.k rfl rfl rfl⟩
    · intro i h0 hlt hp
      simp only [l88, Tr.sel, hlt]
      skip
      simp only [hp]
      exact ⟨_, rfl, by simp [AllT_tt, AllT_gE, AllT_gT, AllT_nil, AllT_cons, impB_iff, leI_iff, ltI_iff, h0, hlt], Fits.k rfl rfl rfl⟩
    · simp only [Tr.sel] at h
      have e : scan (fun i => eqI x (getI xs i)) (lenZ xs - 0).toNat 0 = idxZ xs x := by simp [lenZ, idxZ]
      rw [e]
      cases hb : leI 0 (idxZ xs x) <;> rw [hb] at h <;> cases h
      · rw [if_neg (fun c => by rw [leI_iff.2 c] at hb; cases hb)]
      · rw [if_pos (leI_iff.1 hb)]
  · simp [Tr.sel] at h
def t88 (k : Option Bool) (xs : List Int) (x : Int) : Tr Res :=
  let c0 := ((eqI (lenZ xs) (lenZ xs)) :: ((leI (lenZ xs) 1000) :: (tt 4 [])))
  (.node (leI 0 (idxZ xs x)) (.leaf (some ⟨c0, (.int .i64 (idxZ xs x)), [.junk, .junk]⟩)) (.leaf (some ⟨(tt 1 c0), (.int .i64 (-1)), [.junk, .junk]⟩)))
theorem t88_eq (k : Option Bool) (xs : List Int) (x : Int) : evFT (cxs []) (tb []) (orcT [(0, ls88)]) 88 Try.f88 [.sl k (.i1 xs), .int .i64 x] = t88 k xs x := by kernel_rfl
theorem ok88 : FnOK Try.prog 88 s88 := by
  refine fnK .nil (fs := []) rfl Try.func88 rfl (by kernel_rfl) (fun Γ π => .cons (l88_ok Γ π) .nil) ?_
  intro bs r h ho
  unfold s88 at h
  split at h
  · rename_i k xs x
    cases h
    have hl : leI (lenZ xs) 1000 = true := ho _ (by simp)
    refine ⟨by simp, ?_⟩
    rw [t88_eq]
    simp only [t88, Tr.sel]
    cases hb : leI 0 (idxZ xs x) with
    | true => exact ⟨_, rfl, by simp [AllT_tt, AllT_gE, AllT_gT, AllT_nil, AllT_cons, impB_iff, leI_iff, ltI_iff, hl, eqI_iff], rfl, rfl⟩
    | false =>
      refine ⟨_, rfl, by simp [AllT_tt, AllT_gE, AllT_gT, AllT_nil, AllT_cons, impB_iff, leI_iff, ltI_iff, hl, eqI_iff], ?_, rfl⟩
      have : idxZ xs x = -1 := scan_neg (Int.le_refl 0) hb
      rw [this]
  · cases h
def t42 (k : Option Bool) (xs : List Int) (x : Int) : Tr Res :=
  (.leaf (some ⟨(tt 3 ((leI (lenZ xs) 1000) :: (tt 6 []))), (.bool (leI 0 (idxZ xs x))), [.junk, .junk]⟩))
theorem t42_eq (k : Option Bool) (xs : List Int) (x : Int) : evFT (cxs [88]) (tb [(88, s88)]) (orcT []) 42 Try.f42 [.sl k (.i1 xs), .int .i64 x] = t42 k xs x := by kernel_rfl
theorem ok42 : FnOK Try.prog 42 s42 := by
  refine fnK (.cons ok88 .nil) (fs := [88]) rfl Try.func42 rfl (by kernel_rfl) noLoops ?_
  intro bs r h ho
  unfold s42 at h
  split at h
  · rename_i k xs x
    cases h
    have hl : leI (lenZ xs) 1000 = true := ho _ (by simp)
    refine ⟨by simp, ?_⟩
    rw [t42_eq]
    exact ⟨_, rfl, by simp [AllT_tt, AllT_gE, AllT_gT, AllT_nil, AllT_cons, impB_iff, leI_iff, ltI_iff, hl], rfl, rfl⟩
  · cases h
def l37 (k k' : Option Bool) (xs ys : List Int) (m i : Int) : Tr (Ex × St) :=
  let c0 := ((leI 0 i) :: ((ltI i (lenZ ys)) :: (tt 5 ((leI 0 i) :: ((ltI i (lenZ xs)) :: (tt 9 []))))))
  (.node (ltI i m) (.node (neI (getI xs i) (getI ys i)) (.leaf (some (.ret , ⟨mkS 26 [(0 , (.sl k (.i1 xs))), (1 , (.sl k' (.i1 ys))), (4 , (.bool false)), (12 , (.int .i64 m)), (13 , (.int
  .i64 i))], [], (tt 5 c0)⟩))) (.leaf (some (.normal , ⟨mkS 26 [(0 , (.sl k (.i1 xs))), (1 , (.sl k' (.i1 ys))), (12 , (.int .i64 m)), (13 , (.int .i64 (addI .i64 i 1)))], [], (tt 7
  c0)⟩)))) (.leaf (some ((.exit 0) , ⟨mkS 26 [(0 , (.sl k (.i1 xs))), (1 , (.sl k' (.i1 ys))), (12 , (.int .i64 m)), (13 , (.int .i64 i))], [], (tt 3 [])⟩))))
theorem l37_eq (k k' : Option Bool) (xs ys : List Int) (m i : Int) : keepT 26 [0, 1, 12, 13, 4] [] (evT (cxs []) (tb []) (orcT []) (loopB Try.f37 0) ⟨mkS 26 (zip2 [0, 1, 12, 13] [.sl k (.i1 xs), .sl k' (.i1 ys), .int .i64 m, .int .i64 i]), zip2 [] [], []⟩) = l37 k k' xs ys m i := by kernel_rfl
theorem l37_ok (Γ : Env) (π : Nms) : LoopOK Try.prog Γ π 0 (loopB Try.f37 0) ls37 := by
  intro vs obs r h ho ok ok' hok hT
  simp only [ls37] at h
  split at h
  · rename_i k xs k' ys m
    have hm : m = lenZ xs ∧ lenZ ys = lenZ xs ∧ lenZ xs ≤ 1000 := by
      simp only [Tr.sel] at h
      cases hb : leI 0 (difZ xs ys) <;> rw [hb] at h <;> cases h <;> exact ⟨eqI_iff.1 (ho _ (by simp)), eqI_iff.1 (ho (eqI (lenZ ys) (lenZ xs)) (by simp)), leI_iff.1 (ho (leI (lenZ xs) 1000) (by simp))⟩
    obtain ⟨rfl, hy, hl⟩ := hm
    refine scanK ⟨.nil, rfl, by kernel_rfl, by kernel_rfl, .nil⟩ (fun i => [.sl k (.i1 xs), .sl k' (.i1 ys), .int .i64 (lenZ xs), .int .i64 i]) [] (fun i => neI (getI xs i) (getI ys i)) (lenZ xs) 0
      (Int.le_refl 0) (by omega) (fun j => ⟨.ret, [(4, .bool false)], [], [eqI (lenZ xs) (lenZ xs), eqI (lenZ ys) (lenZ xs), leI (lenZ xs) 1000]⟩) ⟨.normal, [], [], [eqI (lenZ xs) (lenZ xs), eqI (lenZ ys) (lenZ xs), leI (lenZ xs) 1000]⟩ (l37 k k' xs ys (lenZ xs)) (l37_eq k k' xs ys (lenZ xs)) ?_ ?_ ?_ ?_ hok hT
    · intro i h0 hlt
      simp only [l37, Tr.sel, hlt]
      exact ⟨_, _, rfl, by simp [AllT_tt, AllT_gE, AllT_gT, AllT_nil, AllT_cons, impB_iff, leI_iff, ltI_iff, h0, hlt], rfl, Fits.k rfl rfl rfl⟩
    · intro i h0 hlt hp
      simp only [l37, Tr.sel, hlt]
      skip
      simp only [hp]
      exact ⟨_, _, rfl, by simp [AllT_tt, AllT_gE, AllT_gT, AllT_nil, AllT_cons, impB_iff, leI_iff, ltI_iff, h0, hlt, hy], rfl, Fits.k rfl rfl rfl⟩
    · intro i h0 hlt hp
      simp only [l37, Tr.sel, hlt]
      skip
      simp only [hp]
      exact ⟨_, rfl, by simp [AllT_tt, AllT_gE, AllT_gT, AllT_nil, AllT_cons, impB_iff, leI_iff, ltI_iff, h0, hlt, hy], Fits.k rfl rfl rfl⟩
    · simp only [Tr.sel] at h
      have e : scan (fun i => neI (getI xs i) (getI ys i)) (lenZ xs - 0).toNat 0 = difZ xs ys := by simp [lenZ, difZ]
      rw [e]
      cases hb : leI 0 (difZ xs ys) <;> rw [hb] at h <;> cases h
      · rw [if_neg (fun c => by rw [leI_iff.2 c] at hb; cases hb)]
      · rw [if_pos (leI_iff.1 hb)]
  · simp [Tr.sel] at h
def t37 (k k' : Option Bool) (xs ys : List Int) : Tr Res :=
  let c0 := ((eqI (lenZ xs) (lenZ xs)) :: ((eqI (lenZ ys) (lenZ xs)) :: ((leI (lenZ xs) 1000) :: (tt 11 []))))
  (.node (neI (lenZ xs) (lenZ ys)) (.leaf (some ⟨(tt 9 []), (.bool false), [.junk, .junk]⟩)) (.node (leI 0 (difZ xs ys)) (.leaf (some ⟨c0, (.bool false), [.junk, .junk]⟩)) (.leaf (some ⟨(tt
  1 c0), (.bool true), [.junk, .junk]⟩))))
theorem t37_eq (k k' : Option Bool) (xs ys : List Int) : evFT (cxs []) (tb []) (orcT [(0, ls37)]) 37 Try.f37 [.sl k (.i1 xs), .sl k' (.i1 ys)] = t37 k k' xs ys := by kernel_rfl
theorem ok37 : FnOK Try.prog 37 s37 := by
  refine fnK .nil (fs := []) rfl Try.func37 rfl (by kernel_rfl) (fun Γ π => .cons (l37_ok Γ π) .nil) ?_
  intro bs r h ho
  unfold s37 at h
  split at h
  · rename_i k xs k' ys
    cases h
    have hl : leI (lenZ xs) 1000 = true := ho _ (by simp)
    refine ⟨by simp, ?_⟩
    rw [t37_eq]
    simp only [t37, Tr.sel]
    have hne : neI (lenZ xs) (lenZ ys) = notB (eqI (lenZ xs) (lenZ ys)) := Beq (by simp only [andB_iff, orB_iff', notB_iff, andB_false, orB_false, notB_false, eqI_iff, eqI_false, neI_iff, neI_false, ltI_iff, ltI_false, leI_iff, leI_false, inB_iff, nodeB_iff, inB_false, nodeB_false])
    rw [hne]
    cases he : eqI (lenZ xs) (lenZ ys) with
    | false => exact ⟨_, rfl, by simp [AllT_tt, AllT_gE, AllT_gT, AllT_nil, AllT_cons, impB_iff, leI_iff, ltI_iff, hl], by simp [andB], rfl⟩
    | true =>
      have he' := eqI_iff.1 he
      have hl2 : lenZ ys ≤ 1000 := by have := leI_iff.1 hl; omega
      cases hb : leI 0 (difZ xs ys) with
      | true => exact ⟨_, rfl, by simp [AllT_tt, AllT_gE, AllT_gT, AllT_nil, AllT_cons, impB_iff, leI_iff, ltI_iff, eqI_iff, hl2, leI_iff, he'], by simp [andB, notB], rfl⟩
      | false => exact ⟨_, rfl, by simp [AllT_tt, AllT_gE, AllT_gT, AllT_nil, AllT_cons, impB_iff, leI_iff, ltI_iff, eqI_iff, hl2, leI_iff, he'], by simp [andB, notB], rfl⟩
  · cases h
def l86 (n : Net) (k1 k2 k3 : Option Bool) (v m i : Int) (b : Bool) (acc : List Int) : Tr (Ex × St) :=
  let c0 := (getL n.ls i)
  let c1 := (eqI (getN c0 0) v)
  let c2 := (addI .i64 i 1)
  let c3 := (catL acc [(getN c0 1)])
  let c4 := (ltI i (lenZ n.ls))
  let c5 := (gE c1 (gT (notB c1) ((impB c1 (few n)) :: ((impB c1 (eqI (chk n) 0)) :: ((impB c1 (leI 0 i)) :: ((impB c1 c4) :: (gT c1 (gE c1 (gE c1 (gT c1 (gT c1 (tt 6 ((leI 0 i) :: (c4 ::
  (tt 10 [])))))))))))))))
  (.node (ltI i m) (.node (andB c1 (good n (getN c0 0) (getN c0 1))) (.leaf (some (.normal , ⟨mkS 37 [(1 , (.int .i64 v)), (2 , (.ref 2 0)), (5 , (.own 5)), (9 , (.int .i64 m)), (10 , (.int
  .i64 c2))], [(2 , (.box [(.int .i64 n.nd), (.sl k1 (.rows n.pw)), (.int .i64 n.ns), (.int .i64 n.th), (.sl k2 (.st 3 n.ls)), (.sl k3 (.i1 n.mg))])), (5 , (.arr (some (orB (nonE [(getN c0
  1)]) b)) (.i1 c3)))], (tt 4 ((leI (lenZ c3) 1000000000) :: (tt 5 ((leI 0 i) :: (c4 :: (tt 8 c5))))))⟩))) (.leaf (some (.normal , ⟨mkS 37 [(1 , (.int .i64 v)), (2 , (.ref 2 0)), (5 , (.own
  5)), (9 , (.int .i64 m)), (10 , (.int .i64 c2))], [(2 , (.box [(.int .i64 n.nd), (.sl k1 (.rows n.pw)), (.int .i64 n.ns), (.int .i64 n.th), (.sl k2 (.st 3 n.ls)), (.sl k3 (.i1 n.mg))])),
  (5 , (.arr (some b) (.i1 acc)))], (tt 5 c5)⟩)))) (.leaf (some ((.exit 0) , ⟨mkS 37 [(1 , (.int .i64 v)), (2 , (.ref 2 0)), (5 , (.own 5)), (9 , (.int .i64 m)), (10 , (.int .i64 i))], [(2
  , (.box [(.int .i64 n.nd), (.sl k1 (.rows n.pw)), (.int .i64 n.ns), (.int .i64 n.th), (.sl k2 (.st 3 n.ls)), (.sl k3 (.i1 n.mg))])), (5 , (.arr (some b) (.i1 acc)))], (tt 3 [])⟩))))
theorem l86_eq (n : Net) (k1 k2 k3 : Option Bool) (v m i : Int) (b : Bool) (acc : List Int) : keepT 37 [1, 2, 5, 9, 10] [2, 5] (evT (cxs [71]) (tb [(71, s71)]) (orcT []) (loopB Try.f86 0) ⟨mkS 37 (zip2 [1, 2, 5, 9, 10] [.int .i64 v, .ref 2 0, .own 5, .int .i64 m, .int .i64 i]), zip2 [2, 5] [.box (n.cells k1 k2 k3), .arr (some b) (.i1 acc)], []⟩) = l86 n k1 k2 k3 v m i b acc := by kernel_rfl
theorem l86_ok (Γ : Env) (π : Nms) : LoopOK Try.prog Γ π 0 (loopB Try.f86 0) ls86 := by
  intro vs obs r h ho ok ok' hok hT
  simp only [ls86] at h
  split at h
  · rename_i v m cs
    cases hn : netC cs with
    | none => rw [hn] at h; simp [Tr.sel] at h
    | some n =>
    obtain ⟨k1, k2, k3, rfl⟩ := netC_inv hn
    rw [hn] at h
    simp only [Tr.sel, Option.some.injEq] at h
    subst h
    have hf : few n = true := ho (few n) (by simp)
    have hc : chk n = 0 := eqI_iff.1 (ho (eqI (chk n) 0) (by simp))
    have hm : m = lenZ n.ls := eqI_iff.1 (ho (eqI m (lenZ n.ls)) (by simp))
    subst hm
    have hl := few_ls hf
    refine gathK ⟨.cons ok71 .nil, rfl, by kernel_rfl, by kernel_rfl, .nil⟩ (fun i acc => [.int .i64 v, .ref 2 0, .own 5, .int .i64 (lenZ n.ls), .int .i64 i]) (fun acc => [.box (n.cells k1 k2 k3), .arr (some (nonE acc)) (.i1 acc)])
      (fun i => andB (eqI (n.fr i) v) (good n (n.fr i) (n.to i))) n.to (lenZ n.ls) (by omega)
      (fun acc => ⟨.normal, [(5, .own 5)], [(5, .arr (some (nonE acc)) (.i1 acc))], [eqI (lenZ n.ls) (lenZ n.ls), few n, eqI (chk n) 0]⟩)
      (fun i acc => l86 n k1 k2 k3 v (lenZ n.ls) i (nonE acc) acc) (fun i acc => l86_eq n k1 k2 k3 v (lenZ n.ls) i (nonE acc) acc) ?_ ?_ ?_ ?_ hok hT
    · intro i acc h0 hlen hlt
      simp only [l86, Tr.sel, hlt]
      exact ⟨_, _, rfl, by simp [AllT_tt, AllT_gE, AllT_gT, AllT_nil, AllT_cons, impB_iff, leI_iff, ltI_iff], rfl, Fits.k rfl rfl rfl⟩
    · intro i acc h0 hlen hlt hp
      simp only [Net.fr, Net.to] at hp
      have hlt' := ltI_iff.1 hlt
      simp only [l86, Tr.sel, hlt, hp]
      refine ⟨_, rfl, ?_, Fits.k rfl rfl (by cases acc <;> rfl)⟩
      have : lenZ (catL acc [getN (getL n.ls i) 1]) ≤ 1000000000 := by
        simp only [lenZ, catL, List.length_append, List.length_singleton] at hlen hlt' hl ⊢; omega
      simp [AllT_tt, AllT_gE, AllT_gT, AllT_nil, AllT_cons, impB_iff, leI_iff, ltI_iff, hf, hc, eqI_iff, h0, hlt', this]
    · intro i acc h0 hlen hlt hp
      simp only [Net.fr, Net.to] at hp
      have hlt' := ltI_iff.1 hlt
      simp only [l86, Tr.sel, hlt, hp]
      exact ⟨_, rfl, by simp [AllT_tt, AllT_gE, AllT_gT, AllT_nil, AllT_cons, impB_iff, leI_iff, ltI_iff, hf, hc, eqI_iff, h0, hlt'], Fits.k rfl rfl rfl⟩
    · have e : gath (fun i => andB (eqI (n.fr i) v) (good n (n.fr i) (n.to i))) n.to (lenZ n.ls).toNat 0 [] = nxs n v := by simp [lenZ, nxs]
      rw [e]
  · simp [Tr.sel] at h
def t86 (n : Net) (k1 k2 k3 : Option Bool) (v : Int) : Tr Res :=
  (.leaf (some ⟨(tt 2 ((eqI (lenZ n.ls) (lenZ n.ls)) :: ((few n) :: ((eqI (chk n) 0) :: (tt 7 []))))), (.osl (some (nonE (nxs n v))) (.i1 (nxs n v))), [.junk, .junk]⟩))
theorem t86_eq (n : Net) (k1 k2 k3 : Option Bool) (v : Int) : evFT (cxs [71]) (tb [(71, s71)]) (orcT [(0, ls86)]) 86 Try.f86 [n.av k1 k2 k3, .int .i64 v] = t86 n k1 k2 k3 v := by kernel_rfl
theorem ok86 : FnOK Try.prog 86 s86 := by
  refine fnK (.cons ok71 .nil) (fs := [71]) rfl Try.func86 rfl (by kernel_rfl) (fun Γ π => .cons (l86_ok Γ π) .nil) ?_
  intro bs r h ho
  obtain ⟨n, k1, k2, k3, v, rfl, h⟩ := on2_inv h
  cases h
  refine ⟨by simp, ?_⟩
  rw [t86_eq]
  exact ⟨_, rfl, by simp [AllT_tt, AllT_gE, AllT_gT, AllT_nil, AllT_cons, impB_iff, leI_iff, ltI_iff, eqI_iff, ho (few n) (by simp), eqI_iff.1 (ho (eqI (chk n) 0) (by simp))], rfl, rfl⟩
def t38 (n : Net) (k1 k2 k3 : Option Bool) (v : Int) : Tr Res :=
  let c0 := ((few n) :: (tt 5 []))
  (.node (neI (chk n) 0) (.leaf (some ⟨(tt 4 c0), (.osl (some false) (.i1 [])), [.junk, .junk]⟩)) (.leaf (some ⟨(tt 1 ((few n) :: ((eqI (chk n) 0) :: (tt 8 c0)))), (.osl (some (nonE (nxs n
  v))) (.i1 (nxs n v))), [.junk, .junk]⟩)))
theorem t38_eq (n : Net) (k1 k2 k3 : Option Bool) (v : Int) : evFT (cxs [19, 86]) (tb [(19, s19), (86, s86)]) (orcT []) 38 Try.f38 [n.av k1 k2 k3, .int .i64 v] = t38 n k1 k2 k3 v := by kernel_rfl
theorem ok38 : FnOK Try.prog 38 s38 := by
  refine fnK (.cons ok19 (.cons ok86 .nil)) (fs := [19, 86]) rfl Try.func38 rfl (by kernel_rfl) noLoops ?_
  intro bs r h ho
  obtain ⟨n, k1, k2, k3, v, rfl, h⟩ := on2_inv h
  cases h
  have hf : few n = true := ho (few n) (by simp)
  refine ⟨by simp, ?_⟩
  rw [t38_eq]
  simp only [t38, Tr.sel]
  have hne : neI (chk n) 0 = notB (eqI (chk n) 0) := Beq (by simp only [andB_iff, orB_iff', notB_iff, andB_false, orB_false, notB_false, eqI_iff, eqI_false, neI_iff, neI_false, ltI_iff, ltI_false, leI_iff, leI_false, inB_iff, nodeB_iff, inB_false, nodeB_false])
  rw [hne]
  cases he : eqI (chk n) 0 with
  | true => exact ⟨_, rfl, by simp [AllT_tt, AllT_gE, AllT_gT, AllT_nil, AllT_cons, impB_iff, leI_iff, ltI_iff, hf, eqI_iff, eqI_iff.1 he], by simp [nx, he], rfl⟩
  | false => exact ⟨_, rfl, by simp [AllT_tt, AllT_gE, AllT_gT, AllT_nil, AllT_cons, impB_iff, leI_iff, ltI_iff, hf], by simp [nx, he]; rfl, rfl⟩
def l39 (n : Net) (k1 k2 k3 : Option Bool) (v i : Int) (acc : List Int) : Tr (Ex × St) :=
  let c0 := (addI .i64 i 1)
  let c1 := (catL acc [i])
  let c2 := ((few n) :: ((eqI (chk n) 0) :: (tt 13 [])))
  (.node (ltI i n.nd) (.node (good n v i) (.leaf (some (.normal , ⟨mkS 35 [(1 , (.int .i64 v)), (2 , (.ref 2 0)), (5 , (.own 7)), (6 , (.int .i64 c0))], [(2 , (.box [(.int .i64 n.nd), (.sl
  k1 (.rows n.pw)), (.int .i64 n.ns), (.int .i64 n.th), (.sl k2 (.st 3 n.ls)), (.sl k3 (.i1 n.mg))])), (7 , (.arr (some (impB (nonE [i]) true)) (.i1 c1)))], (tt 5 ((leI (lenZ c1)
  1000000000) :: (tt 6 c2)))⟩))) (.leaf (some (.normal , ⟨mkS 35 [(1 , (.int .i64 v)), (2 , (.ref 2 0)), (5 , (.own 7)), (6 , (.int .i64 c0))], [(2 , (.box [(.int .i64 n.nd), (.sl k1 (.rows
  n.pw)), (.int .i64 n.ns), (.int .i64 n.th), (.sl k2 (.st 3 n.ls)), (.sl k3 (.i1 n.mg))])), (7 , (.arr (some true) (.i1 acc)))], (tt 5 c2)⟩)))) (.leaf (some ((.exit 0) , ⟨mkS 35 [(1 ,
  (.int .i64 v)), (2 , (.ref 2 0)), (5 , (.own 7)), (6 , (.int .i64 i))], [(2 , (.box [(.int .i64 n.nd), (.sl k1 (.rows n.pw)), (.int .i64 n.ns), (.int .i64 n.th), (.sl k2 (.st 3 n.ls)),
  (.sl k3 (.i1 n.mg))])), (7 , (.arr (some true) (.i1 acc)))], (tt 6 [])⟩))))
theorem l39_eq (n : Net) (k1 k2 k3 : Option Bool) (v i : Int) (acc : List Int) : keepT 35 [1, 2, 5, 6] [2, 7] (evT (cxs [72]) (tb [(72, s72)]) (orcT []) (loopB Try.f39 0) ⟨mkS 35 (zip2 [1, 2, 5, 6] [.int .i64 v, .ref 2 0, .own 7, .int .i64 i]), zip2 [2, 7] [.box (n.cells k1 k2 k3), .arr (some true) (.i1 acc)], []⟩) = l39 n k1 k2 k3 v i acc := by kernel_rfl
theorem l39_ok (Γ : Env) (π : Nms) : LoopOK Try.prog Γ π 0 (loopB Try.f39 0) ls39 := by
  intro vs obs r h ho ok ok' hok hT
  simp only [ls39] at h
  split at h
  · rename_i v cs
    cases hn : netC cs with
    | none => rw [hn] at h; simp [Tr.sel] at h
    | some n =>
    obtain ⟨k1, k2, k3, rfl⟩ := netC_inv hn
    rw [hn] at h
    simp only [Tr.sel, Option.some.injEq] at h
    subst h
    have hf : few n = true := ho (few n) (by simp)
    have hc : chk n = 0 := eqI_iff.1 (ho (eqI (chk n) 0) (by simp))
    have hnd := (chk_zero.1 hc).nd
    refine gathK ⟨.cons ok72 .nil, rfl, by kernel_rfl, by kernel_rfl, .nil⟩ (fun i acc => [.int .i64 v, .ref 2 0, .own 7, .int .i64 i]) (fun acc => [.box (n.cells k1 k2 k3), .arr (some true) (.i1 acc)])
      (fun j => good n v j) (fun j => j) n.nd (by omega)
      (fun acc => ⟨.normal, [(5, .own 7)], [(7, .arr (some true) (.i1 acc))], [few n, eqI (chk n) 0]⟩)
      (fun i acc => l39 n k1 k2 k3 v i acc) (fun i acc => l39_eq n k1 k2 k3 v i acc) ?_ ?_ ?_ ?_ hok hT
    · intro i acc h0 hlen hlt
      simp only [l39, Tr.sel, hlt]
      exact ⟨_, _, rfl, by simp [AllT_tt, AllT_gE, AllT_gT, AllT_nil, AllT_cons, impB_iff, leI_iff, ltI_iff], rfl, Fits.k rfl rfl rfl⟩
    · intro i acc h0 hlen hlt hp
      have hlt' := ltI_iff.1 hlt
      simp only [l39, Tr.sel, hlt, hp]
      refine ⟨_, rfl, ?_, Fits.k rfl rfl rfl⟩
      have : lenZ (catL acc [i]) ≤ 1000000000 := by
        simp only [lenZ, catL, List.length_append, List.length_singleton] at hlen hlt' ⊢; omega
      simp [AllT_tt, AllT_gE, AllT_gT, AllT_nil, AllT_cons, impB_iff, leI_iff, ltI_iff, hf, hc, eqI_iff, h0, hlt', this]
    · intro i acc h0 hlen hlt hp
      have hlt' := ltI_iff.1 hlt
      simp only [l39, Tr.sel, hlt, hp]
      exact ⟨_, rfl, by simp [AllT_tt, AllT_gE, AllT_gT, AllT_nil, AllT_cons, impB_iff, leI_iff, ltI_iff, hf, hc, eqI_iff, h0, hlt'], Fits.k rfl rfl rfl⟩
    · simp only [rnx]
  · simp [Tr.sel] at h
def t39 (n : Net) (k1 k2 k3 : Option Bool) (v : Int) : Tr Res :=
  let c0 := (neI (chk n) 0)
  let c1 := (gT c0 (gE (notB c0) (gE (notB c0) (gT (notB c0) (gE (notB c0) (gT (notB c0) (gE (notB c0) (gE (notB c0) (gT (notB c0) (gE (notB c0) (gT (notB c0) (gT (notB c0) (tt 3 ((few n)
  :: (tt 6 [])))))))))))))))
  (.node (orB c0 (notB (inB v 0 (sbI .i64 n.nd 1)))) (.leaf (some ⟨(tt 4 c1), (.osl (some true) (.i1 [])), [.junk, .junk]⟩)) (.leaf (some ⟨(tt 2 ((few n) :: ((eqI (chk n) 0) :: (tt 3
  c1)))), (.osl (some true) (.i1 (rnx n v))), [.junk, .junk]⟩)))
theorem t39_eq (n : Net) (k1 k2 k3 : Option Bool) (v : Int) : evFT (cxs [20, 64, 72]) (tb [(20, s20), (64, s64), (72, s72)]) (orcT [(0, ls39)]) 39 Try.f39 [n.av k1 k2 k3, .int .i64 v] = t39 n k1 k2 k3 v := by kernel_rfl
theorem ok39 : FnOK Try.prog 39 s39 := by
  refine fnK (.cons ok20 (.cons ok64 (.cons ok72 .nil))) (fs := [20, 64, 72]) rfl Try.func39 rfl (by kernel_rfl) (fun Γ π => .cons (l39_ok Γ π) .nil) ?_
  intro bs r h ho
  obtain ⟨n, k1, k2, k3, v, rfl, h⟩ := on2_inv h
  cases h
  have hf : few n = true := ho (few n) (by simp)
  refine ⟨by simp, ?_⟩
  rw [t39_eq]
  simp only [t39, Tr.sel]
  have hc : eqI (chk n) 0 = true → sbI .i64 n.nd 1 = n.nd - 1 := fun hc => by
    have hnd := (chk_zero.1 (eqI_iff.1 hc)).nd
    exact sbI_in (by omega) (by omega)
  have hco : orB (neI (chk n) 0) (notB (inB v 0 (sbI .i64 n.nd 1))) = notB (andB (eqI (chk n) 0) (inB v 0 (n.nd - 1))) := by
    have hne : neI (chk n) 0 = notB (eqI (chk n) 0) := Beq (by simp only [andB_iff, orB_iff', notB_iff, andB_false, orB_false, notB_false, eqI_iff, eqI_false, neI_iff, neI_false, ltI_iff, ltI_false, leI_iff, leI_false, inB_iff, nodeB_iff, inB_false, nodeB_false])
    rw [hne]
    cases he : eqI (chk n) 0 with
    | true => rw [hc he]; rfl
    | false => rfl
  rw [hco]
  cases he : andB (eqI (chk n) 0) (inB v 0 (n.nd - 1)) with
  | true =>
    have hc0 := eqI_iff.1 (andB_iff.1 he).1
    exact ⟨_, rfl, by simp [AllT_tt, AllT_gE, AllT_gT, AllT_nil, AllT_cons, impB_iff, leI_iff, ltI_iff, hf, eqI_iff, hc0], by simp [rx, he], rfl⟩
  | false => exact ⟨_, rfl, by simp [AllT_tt, AllT_gE, AllT_gT, AllT_nil, AllT_cons, impB_iff, leI_iff, ltI_iff, hf], by simp [rx, he], rfl⟩
end Go.Sx
