/-
  The walk of the reference of Reach. No condition beyond those that each theorem names.
-/
import Derived.Test.YtncjcjaphddlgaaME10
import Derived.Test.YtncjcjaphddlgaaS6
set_option linter.unusedVariables false
set_option linter.unusedSimpArgs false
namespace Go.Sx
open Go Go.Proofs

theorem setB_len (bs : List Bool) (i : Int) (b : Bool) : lenZ (setB bs i b) = lenZ bs := by simp [lenZ, setB]
theorem rel1_len {n : Net} {i : Int} : ∀ (k : Nat) (j : Int) (bs : List Bool), lenZ (rel1 n i k j bs) = lenZ bs
  | 0, j, bs => rfl
  | k + 1, j, bs => by rw [rel1, rel1_len k, setB_len]
theorem relA_len {n : Net} {i : Int} {bs : List Bool} : lenZ (relA n i bs) = lenZ bs := rel1_len _ _ _
theorem rel2_len {n : Net} : ∀ (k : Nat) (i : Int) (bs : List Bool), lenZ (rel2 n k i bs) = lenZ bs
  | 0, j, bs => rfl
  | k + 1, j, bs => by rw [rel2, rel2_len k, relA_len]
theorem relB_len {n : Net} {bs : List Bool} : lenZ (relB n bs) = lenZ bs := rel2_len _ _ _
theorem rel3_len {n : Net} : ∀ (k : Nat) (bs : List Bool), lenZ (rel3 n k bs) = lenZ bs
  | 0, bs => rfl
  | k + 1, bs => by rw [rel3, rel3_len k, relB_len]
theorem relC_len {n : Net} {bs : List Bool} : lenZ (relC n bs) = lenZ bs := rel3_len _ _
def l41c (n : Net) (k1 k2 k3 : Option Bool) (bs : List Bool) (v r i j : Int) : Tr (Ex × St) :=
  let c0 := (ltI j (lenZ bs))
  let c1 := (notB (getB bs j))
  let c2 := (andB c1 (getB bs i))
  let c3 := (impB c1 (leI 0 i))
  let c4 := (impB c1 (ltI i (lenZ bs)))
  (.node (ltI j n.nd) (.leaf (some (.normal , ⟨mkS 82 [(1 , (.int .i64 v)), (2 , (.ref 2 0)), (5 , (.own 11)), (6 , (.own 26)), (7 , (.int .i64 r)), (8 , (.int .i64 i)), (9 , (.int .i64
  (addI .i64 j 1)))], [(2 , (.box [(.int .i64 n.nd), (.sl k1 (.rows n.pw)), (.int .i64 n.ns), (.int .i64 n.th), (.sl k2 (.st 3 n.ls)), (.sl k3 (.i1 n.mg))])), (11 , (.arr (some true) (.i1
  []))), (26 , (.arr (some true) (.b1 (setB bs j (orB (getB bs j) (andB (getB bs i) (good n i j)))))))], (tt 4 ((leI 0 j) :: (c0 :: (tt 2 ((leI 0 j) :: (c0 :: (tt 3 (gT (getB bs j) (gE c1
  (gE c1 (gE c2 (gT (andB c1 (notB (getB bs i))) ((impB c2 (few n)) :: ((impB c2 (eqI (chk n) 0)) :: (gT c2 (gE c2 (gE c2 (gE c2 (gT c2 (gT c2 (gT c2 (gE c1 (c3 :: (c4 :: (gE c1 (c3 :: (c4
  :: (gE c1 (gE c1 (gT c1 (gT c1 (tt 1 ((leI 0 j) :: (c0 :: (tt 1 ((leI 0 j) :: (c0 :: (tt 12 []))))))))))))))))))))))))))))))))))))))⟩))) (.leaf (some ((.exit 4) , ⟨mkS 82 [(1 , (.int .i64
  v)), (2 , (.ref 2 0)), (5 , (.own 11)), (6 , (.own 26)), (7 , (.int .i64 r)), (8 , (.int .i64 i)), (9 , (.int .i64 j))], [(2 , (.box [(.int .i64 n.nd), (.sl k1 (.rows n.pw)), (.int .i64
  n.ns), (.int .i64 n.th), (.sl k2 (.st 3 n.ls)), (.sl k3 (.i1 n.mg))])), (11 , (.arr (some true) (.i1 []))), (26 , (.arr (some true) (.b1 bs)))], (tt 6 [])⟩))))
theorem l41c_eq (n : Net) (k1 k2 k3 : Option Bool) (bs : List Bool) (v r i j : Int) : keepT 82 [1, 2, 5, 6, 7, 8, 9] [2, 11, 26] (evT (cxs [72]) (tb [(72, s72)]) (orcT []) (loopB Try.f41 4) ⟨mkS 82 (zip2 [1, 2, 5, 6, 7, 8, 9] [.int .i64 v, .ref 2 0, .own 11, .own 26, .int .i64 r, .int .i64 i, .int .i64 j]), zip2 [2, 11, 26] [.box (n.cells k1 k2 k3), .arr (some true) (.i1 []), .arr (some true) (.b1 bs)], []⟩) = l41c n k1 k2 k3 bs v r i j := by kernel_rfl
theorem l41c_ok (Γ : Env) (π : Nms) : LoopOK Try.prog Γ π 4 (loopB Try.f41 4) ls41c := by
  intro vs obs r h ho ok ok' hok hT
  simp only [ls41c] at h
  split at h
  · rename_i v r0 i cs bs
    cases hn : netC cs with
    | none => rw [hn] at h; simp [Tr.sel] at h
    | some n =>
    obtain ⟨k1, k2, k3, rfl⟩ := netC_inv hn
    rw [hn] at h
    simp only [Tr.sel, Option.some.injEq] at h
    subst h
    have hf : few n = true := ho (few n) (by simp)
    have hc : chk n = 0 := eqI_iff.1 (ho (eqI (chk n) 0) (by simp))
    have hl : lenZ bs = n.nd := eqI_iff.1 (ho (eqI (lenZ bs) n.nd) (by simp))
    have hi0 : 0 ≤ i := leI_iff.1 (ho (leI 0 i) (by simp))
    have hi1 : i < n.nd := ltI_iff.1 (ho (ltI i n.nd) (by simp))
    have hnd := (chk_zero.1 hc).nd
    refine cntK (α := List Bool) ⟨.cons ok72 .nil, rfl, by kernel_rfl, by kernel_rfl, .nil⟩ (fun j bs => [.int .i64 v, .ref 2 0, .own 11, .own 26, .int .i64 r0, .int .i64 i, .int .i64 j]) (fun bs => [.box (n.cells k1 k2 k3), .arr (some true) (.i1 []), .arr (some true) (.b1 bs)])
      n.nd (by omega) (fun j bs => setB bs j (orB (getB bs j) (andB (getB bs i) (good n i j)))) (rel1 n i) (fun _ _ => rfl) (fun _ _ _ => rfl) (fun bs => lenZ bs = n.nd)
      (fun bs' => ⟨.normal, [(1, .int .i64 v), (2, .ref 2 0), (5, .own 11), (6, .own 26), (7, .int .i64 r0), (8, .int .i64 i)], [(2, .box (n.cells k1 k2 k3)), (11, .arr (some true) (.i1 [])), (26, .arr (some true) (.b1 bs'))],
        [few n, eqI (chk n) 0, eqI (lenZ bs) n.nd, leI 0 i, ltI i n.nd]⟩)
      (fun j bs => l41c n k1 k2 k3 bs v r0 i j) (fun j bs => l41c_eq n k1 k2 k3 bs v r0 i j) ?_ ?_ hl rfl hok hT
    · intro j bs h0 hb hlt
      simp only [l41c, Tr.sel, hlt]
      exact ⟨_, _, rfl, by simp [AllT_tt, AllT_gE, AllT_gT, AllT_nil, AllT_cons, impB_iff, leI_iff, ltI_iff], rfl, Fits.k rfl rfl rfl⟩
    · intro j bs h0 hb hlt
      have hlt' := ltI_iff.1 hlt
      refine ⟨by rw [setB_len]; exact hb, ?_⟩
      simp only [l41c, Tr.sel, hlt]
      exact ⟨_, rfl, by simp [AllT_tt, AllT_gE, AllT_gT, AllT_nil, AllT_cons, impB_iff, leI_iff, ltI_iff, hf, hc, eqI_iff, h0, hb, hlt', hi0, hi1], Fits.k rfl rfl rfl⟩
  · simp [Tr.sel] at h
def l41b (n : Net) (k1 k2 k3 : Option Bool) (bs : List Bool) (v r i : Int) : Tr (Ex × St) :=
  (.node (ltI i n.nd) (.leaf (some (.normal , ⟨mkS 82 [(1 , (.int .i64 v)), (2 , (.ref 2 0)), (5 , (.own 11)), (6 , (.own 26)), (7 , (.int .i64 r)), (8 , (.int .i64 (addI .i64 i 1)))], [(2
  , (.box [(.int .i64 n.nd), (.sl k1 (.rows n.pw)), (.int .i64 n.ns), (.int .i64 n.th), (.sl k2 (.st 3 n.ls)), (.sl k3 (.i1 n.mg))])), (11 , (.arr (some true) (.i1 []))), (26 , (.arr (some
  true) (.b1 (relA n i bs))))], (tt 4 ((few n) :: ((eqI (chk n) 0) :: ((eqI (lenZ bs) n.nd) :: ((leI 0 i) :: ((ltI i n.nd) :: (tt 7 [])))))))⟩))) (.leaf (some ((.exit 2) , ⟨mkS 82 [(1 ,
  (.int .i64 v)), (2 , (.ref 2 0)), (5 , (.own 11)), (6 , (.own 26)), (7 , (.int .i64 r)), (8 , (.int .i64 i))], [(2 , (.box [(.int .i64 n.nd), (.sl k1 (.rows n.pw)), (.int .i64 n.ns),
  (.int .i64 n.th), (.sl k2 (.st 3 n.ls)), (.sl k3 (.i1 n.mg))])), (11 , (.arr (some true) (.i1 []))), (26 , (.arr (some true) (.b1 bs)))], (tt 6 [])⟩))))
theorem l41b_eq (n : Net) (k1 k2 k3 : Option Bool) (bs : List Bool) (v r i : Int) : keepT 82 [1, 2, 5, 6, 7, 8] [2, 11, 26] (evT (cxs [72]) (tb [(72, s72)]) (orcT [(4, ls41c)]) (loopB Try.f41 2) ⟨mkS 82 (zip2 [1, 2, 5, 6, 7, 8] [.int .i64 v, .ref 2 0, .own 11, .own 26, .int .i64 r, .int .i64 i]), zip2 [2, 11, 26] [.box (n.cells k1 k2 k3), .arr (some true) (.i1 []), .arr (some true) (.b1 bs)], []⟩) = l41b n k1 k2 k3 bs v r i := by kernel_rfl
theorem l41b_ok (Γ : Env) (π : Nms) : LoopOK Try.prog Γ π 2 (loopB Try.f41 2) ls41b := by
  intro vs obs r h ho ok ok' hok hT
  simp only [ls41b] at h
  split at h
  · rename_i v r0 cs bs
    cases hn : netC cs with
    | none => rw [hn] at h; simp [Tr.sel] at h
    | some n =>
    obtain ⟨k1, k2, k3, rfl⟩ := netC_inv hn
    rw [hn] at h
    simp only [Tr.sel, Option.some.injEq] at h
    subst h
    have hf : few n = true := ho (few n) (by simp)
    have hc : chk n = 0 := eqI_iff.1 (ho (eqI (chk n) 0) (by simp))
    have hl : lenZ bs = n.nd := eqI_iff.1 (ho (eqI (lenZ bs) n.nd) (by simp))
    have hnd := (chk_zero.1 hc).nd
    refine cntK (α := List Bool) ⟨.cons ok72 .nil, rfl, by kernel_rfl, by kernel_rfl, .cons (l41c_ok Γ π) .nil⟩ (fun i bs => [.int .i64 v, .ref 2 0, .own 11, .own 26, .int .i64 r0, .int .i64 i]) (fun bs => [.box (n.cells k1 k2 k3), .arr (some true) (.i1 []), .arr (some true) (.b1 bs)])
      n.nd (by omega) (fun i bs => relA n i bs) (rel2 n) (fun _ _ => rfl) (fun _ _ _ => rfl) (fun bs => lenZ bs = n.nd)
      (fun bs' => ⟨.normal, [(1, .int .i64 v), (2, .ref 2 0), (5, .own 11), (6, .own 26), (7, .int .i64 r0)], [(2, .box (n.cells k1 k2 k3)), (11, .arr (some true) (.i1 [])), (26, .arr (some true) (.b1 bs'))],
        [few n, eqI (chk n) 0, eqI (lenZ bs) n.nd]⟩)
      (fun i bs => l41b n k1 k2 k3 bs v r0 i) (fun i bs => l41b_eq n k1 k2 k3 bs v r0 i) ?_ ?_ hl rfl hok hT
    · intro i bs h0 hb hlt
      simp only [l41b, Tr.sel, hlt]
      exact ⟨_, _, rfl, by simp [AllT_tt, AllT_gE, AllT_gT, AllT_nil, AllT_cons, impB_iff, leI_iff, ltI_iff], rfl, Fits.k rfl rfl rfl⟩
    · intro i bs h0 hb hlt
      have hlt' := ltI_iff.1 hlt
      refine ⟨by rw [relA_len]; exact hb, ?_⟩
      simp only [l41b, Tr.sel, hlt]
      exact ⟨_, rfl, by simp [AllT_tt, AllT_gE, AllT_gT, AllT_nil, AllT_cons, impB_iff, leI_iff, ltI_iff, hf, hc, eqI_iff, h0, hb, hlt'], Fits.k rfl rfl rfl⟩
  · simp [Tr.sel] at h
def l41a (n : Net) (k1 k2 k3 : Option Bool) (bs : List Bool) (v r : Int) : Tr (Ex × St) :=
  (.node (ltI r n.nd) (.leaf (some (.normal , ⟨mkS 82 [(1 , (.int .i64 v)), (2 , (.ref 2 0)), (5 , (.own 11)), (6 , (.own 26)), (7 , (.int .i64 (addI .i64 r 1)))], [(2 , (.box [(.int .i64
  n.nd), (.sl k1 (.rows n.pw)), (.int .i64 n.ns), (.int .i64 n.th), (.sl k2 (.st 3 n.ls)), (.sl k3 (.i1 n.mg))])), (11 , (.arr (some true) (.i1 []))), (26 , (.arr (some true) (.b1 (relB n
  bs))))], (tt 4 ((few n) :: ((eqI (chk n) 0) :: ((eqI (lenZ bs) n.nd) :: (tt 7 [])))))⟩))) (.leaf (some ((.exit 0) , ⟨mkS 82 [(1 , (.int .i64 v)), (2 , (.ref 2 0)), (5 , (.own 11)), (6 ,
  (.own 26)), (7 , (.int .i64 r))], [(2 , (.box [(.int .i64 n.nd), (.sl k1 (.rows n.pw)), (.int .i64 n.ns), (.int .i64 n.th), (.sl k2 (.st 3 n.ls)), (.sl k3 (.i1 n.mg))])), (11 , (.arr
  (some true) (.i1 []))), (26 , (.arr (some true) (.b1 bs)))], (tt 6 [])⟩))))
theorem l41a_eq (n : Net) (k1 k2 k3 : Option Bool) (bs : List Bool) (v r : Int) : keepT 82 [1, 2, 5, 6, 7] [2, 11, 26] (evT (cxs [72]) (tb [(72, s72)]) (orcT [(2, ls41b), (4, ls41c)]) (loopB Try.f41 0) ⟨mkS 82 (zip2 [1, 2, 5, 6, 7] [.int .i64 v, .ref 2 0, .own 11, .own 26, .int .i64 r]), zip2 [2, 11, 26] [.box (n.cells k1 k2 k3), .arr (some true) (.i1 []), .arr (some true) (.b1 bs)], []⟩) = l41a n k1 k2 k3 bs v r := by kernel_rfl
theorem l41a_ok (Γ : Env) (π : Nms) : LoopOK Try.prog Γ π 0 (loopB Try.f41 0) ls41a := by
  intro vs obs r h ho ok ok' hok hT
  simp only [ls41a] at h
  split at h
  · rename_i v cs bs
    cases hn : netC cs with
    | none => rw [hn] at h; simp [Tr.sel] at h
    | some n =>
    obtain ⟨k1, k2, k3, rfl⟩ := netC_inv hn
    rw [hn] at h
    simp only [Tr.sel, Option.some.injEq] at h
    subst h
    have hf : few n = true := ho (few n) (by simp)
    have hc : chk n = 0 := eqI_iff.1 (ho (eqI (chk n) 0) (by simp))
    have hl : lenZ bs = n.nd := eqI_iff.1 (ho (eqI (lenZ bs) n.nd) (by simp))
    have hnd := (chk_zero.1 hc).nd
    refine cntK (α := List Bool) ⟨.cons ok72 .nil, rfl, by kernel_rfl, by kernel_rfl, .cons (l41b_ok Γ π) (.cons (l41c_ok Γ π) .nil)⟩ (fun r bs => [.int .i64 v, .ref 2 0, .own 11, .own 26, .int .i64 r]) (fun bs => [.box (n.cells k1 k2 k3), .arr (some true) (.i1 []), .arr (some true) (.b1 bs)])
      n.nd (by omega) (fun _ bs => relB n bs) (fun k _ bs => rel3 n k bs) (fun _ _ => rfl) (fun _ _ _ => rfl) (fun bs => lenZ bs = n.nd)
      (fun bs' => ⟨.normal, [(1, .int .i64 v), (2, .ref 2 0), (5, .own 11), (6, .own 26)], [(2, .box (n.cells k1 k2 k3)), (11, .arr (some true) (.i1 [])), (26, .arr (some true) (.b1 bs'))],
        [few n, eqI (chk n) 0, eqI (lenZ bs) n.nd]⟩)
      (fun r bs => l41a n k1 k2 k3 bs v r) (fun r bs => l41a_eq n k1 k2 k3 bs v r) ?_ ?_ hl rfl hok hT
    · intro i bs h0 hb hlt
      simp only [l41a, Tr.sel, hlt]
      exact ⟨_, _, rfl, by simp [AllT_tt, AllT_gE, AllT_gT, AllT_nil, AllT_cons, impB_iff, leI_iff, ltI_iff], rfl, Fits.k rfl rfl rfl⟩
    · intro i bs h0 hb hlt
      have hlt' := ltI_iff.1 hlt
      refine ⟨by rw [relB_len]; exact hb, ?_⟩
      simp only [l41a, Tr.sel, hlt]
      exact ⟨_, rfl, by simp [AllT_tt, AllT_gE, AllT_gT, AllT_nil, AllT_cons, impB_iff, leI_iff, ltI_iff, hf, hc, eqI_iff, h0, hb, hlt'], Fits.k rfl rfl rfl⟩
  · simp [Tr.sel] at h
def l41d (n : Net) (k1 k2 k3 : Option Bool) (bs : List Bool) (acc : List Int) (v i : Int) : Tr (Ex × St) :=
  let c0 := (addI .i64 i 1)
  let c1 := (catL acc [i])
  let c2 := (ltI i (lenZ bs))
  let c3 := ((leI 0 i) :: (c2 :: (tt 1 ((leI 0 i) :: (c2 :: (tt 10 []))))))
  (.node (ltI i n.nd) (.node (getB bs i) (.leaf (some (.normal , ⟨mkS 82 [(1 , (.int .i64 v)), (2 , (.ref 2 0)), (5 , (.own 11)), (6 , (.own 26)), (10 , (.int .i64 c0))], [(2 , (.box [(.int
  .i64 n.nd), (.sl k1 (.rows n.pw)), (.int .i64 n.ns), (.int .i64 n.th), (.sl k2 (.st 3 n.ls)), (.sl k3 (.i1 n.mg))])), (11 , (.arr (some (impB (nonE [i]) true)) (.i1 c1))), (26 , (.arr
  (some true) (.b1 bs)))], (tt 5 ((leI (lenZ c1) 1000000000) :: (tt 6 c3)))⟩))) (.leaf (some (.normal , ⟨mkS 82 [(1 , (.int .i64 v)), (2 , (.ref 2 0)), (5 , (.own 11)), (6 , (.own 26)), (10
  , (.int .i64 c0))], [(2 , (.box [(.int .i64 n.nd), (.sl k1 (.rows n.pw)), (.int .i64 n.ns), (.int .i64 n.th), (.sl k2 (.st 3 n.ls)), (.sl k3 (.i1 n.mg))])), (11 , (.arr (some true) (.i1
  acc))), (26 , (.arr (some true) (.b1 bs)))], (tt 5 c3)⟩)))) (.leaf (some ((.exit 6) , ⟨mkS 82 [(1 , (.int .i64 v)), (2 , (.ref 2 0)), (5 , (.own 11)), (6 , (.own 26)), (10 , (.int .i64
  i))], [(2 , (.box [(.int .i64 n.nd), (.sl k1 (.rows n.pw)), (.int .i64 n.ns), (.int .i64 n.th), (.sl k2 (.st 3 n.ls)), (.sl k3 (.i1 n.mg))])), (11 , (.arr (some true) (.i1 acc))), (26 ,
  (.arr (some true) (.b1 bs)))], (tt 6 [])⟩))))
theorem l41d_eq (n : Net) (k1 k2 k3 : Option Bool) (bs : List Bool) (acc : List Int) (v i : Int) : keepT 82 [1, 2, 5, 6, 10] [2, 11, 26] (evT (cxs [72]) (tb [(72, s72)]) (orcT []) (loopB Try.f41 6) ⟨mkS 82 (zip2 [1, 2, 5, 6, 10] [.int .i64 v, .ref 2 0, .own 11, .own 26, .int .i64 i]), zip2 [2, 11, 26] [.box (n.cells k1 k2 k3), .arr (some true) (.i1 acc), .arr (some true) (.b1 bs)], []⟩) = l41d n k1 k2 k3 bs acc v i := by kernel_rfl
theorem l41d_ok (Γ : Env) (π : Nms) : LoopOK Try.prog Γ π 6 (loopB Try.f41 6) ls41d := by
  intro vs obs r h ho ok ok' hok hT
  simp only [ls41d] at h
  split at h
  · rename_i v cs bs
    cases hn : netC cs with
    | none => rw [hn] at h; simp [Tr.sel] at h
    | some n =>
    obtain ⟨k1, k2, k3, rfl⟩ := netC_inv hn
    rw [hn] at h
    simp only [Tr.sel, Option.some.injEq] at h
    subst h
    have hnd := inB_iff.1 (ho (inB n.nd 2 32) (by simp))
    have hl : lenZ bs = n.nd := eqI_iff.1 (ho (eqI (lenZ bs) n.nd) (by simp))
    refine gathK ⟨.cons ok72 .nil, rfl, by kernel_rfl, by kernel_rfl, .nil⟩ (fun i acc => [.int .i64 v, .ref 2 0, .own 11, .own 26, .int .i64 i]) (fun acc => [.box (n.cells k1 k2 k3), .arr (some true) (.i1 acc), .arr (some true) (.b1 bs)])
      (fun j => getB bs j) (fun j => j) n.nd (by omega)
      (fun acc => ⟨.normal, [(5, .own 11)], [(11, .arr (some true) (.i1 acc))], [inB n.nd 2 32, eqI (lenZ bs) n.nd]⟩)
      (fun i acc => l41d n k1 k2 k3 bs acc v i) (fun i acc => l41d_eq n k1 k2 k3 bs acc v i) ?_ ?_ ?_ ?_ hok hT
    · intro i acc h0 hlen hlt
      simp only [l41d, Tr.sel, hlt]
      exact ⟨_, _, rfl, by simp [AllT_tt, AllT_gE, AllT_gT, AllT_nil, AllT_cons, impB_iff, leI_iff, ltI_iff], rfl, Fits.k rfl rfl rfl⟩
    · intro i acc h0 hlen hlt hp
      have hlt' := ltI_iff.1 hlt
      simp only [l41d, Tr.sel, hlt, hp]
      refine ⟨_, rfl, ?_, Fits.k rfl rfl rfl⟩
      have : lenZ (catL acc [i]) ≤ 1000000000 := by
        simp only [lenZ, catL, List.length_append, List.length_singleton] at hlen hlt' ⊢; omega
      simp [AllT_tt, AllT_gE, AllT_gT, AllT_nil, AllT_cons, impB_iff, leI_iff, ltI_iff, h0, hlt', hl, this]
    · intro i acc h0 hlen hlt hp
      have hlt' := ltI_iff.1 hlt
      simp only [l41d, Tr.sel, hlt, hp]
      exact ⟨_, rfl, by simp [AllT_tt, AllT_gE, AllT_gT, AllT_nil, AllT_cons, impB_iff, leI_iff, ltI_iff, h0, hlt', hl], Fits.k rfl rfl rfl⟩
    · simp only [pick1]
  · simp [Tr.sel] at h
def t41 (n : Net) (k1 k2 k3 : Option Bool) (v : Int) : Tr Res :=
  let c0 := (neI (chk n) 0)
  let c1 := (gT c0 (gE (notB c0) (gE (notB c0) (gT (notB c0) (gE (notB c0) (gT (notB c0) (gE (notB c0) (gE (notB c0) (gT (notB c0) (gE (notB c0) (gT (notB c0) (gT (notB c0) (tt 3 ((few n)
  :: (tt 6 [])))))))))))))))
  let c2 := (repL n.nd false)
  let c3 := (setB c2 v true)
  let c4 := (ltI v (lenZ c2))
  (.node (orB c0 (notB (inB v 0 (sbI .i64 n.nd 1)))) (.leaf (some ⟨(tt 4 c1), (.osl (some true) (.i1 [])), [.junk, .junk]⟩)) (.leaf (some ⟨(tt 2 ((inB n.nd 2 32) :: ((eqI (lenZ (relC n c3))
  n.nd) :: (tt 1 ((few n) :: ((eqI (chk n) 0) :: ((eqI (lenZ c3) n.nd) :: (tt 1 ((leI 0 v) :: (c4 :: (tt 2 ((leI 0 v) :: (c4 :: (tt 5 ((eqI n.nd n.nd) :: ((leI 0 n.nd) :: ((leI n.nd
  1000000000) :: (tt 6 c1)))))))))))))))))), (.osl (some true) (.i1 (pick1 n (relC n c3)))), [.junk, .junk]⟩)))
theorem t41_eq (n : Net) (k1 k2 k3 : Option Bool) (v : Int) : evFT (cxs [20, 64, 72]) (tb [(20, s20), (64, s64), (72, s72)]) (orcT [(0, ls41a), (2, ls41b), (4, ls41c), (6, ls41d)]) 41 Try.f41 [n.av k1 k2 k3, .int .i64 v] = t41 n k1 k2 k3 v := by kernel_rfl
theorem repL_len {x : Bool} {k : Int} (h : 0 ≤ k) : lenZ (repL k x) = k := by simp [lenZ, repL]; omega
theorem ok41 : FnOK Try.prog 41 s41 := by
  refine fnK (.cons ok20 (.cons ok64 (.cons ok72 .nil))) (fs := [20, 64, 72]) rfl Try.func41 rfl (by kernel_rfl)
    (fun Γ π => .cons (l41a_ok Γ π) (.cons (l41b_ok Γ π) (.cons (l41c_ok Γ π) (.cons (l41d_ok Γ π) .nil)))) ?_
  intro bs r h ho
  obtain ⟨n, k1, k2, k3, v, rfl, h⟩ := on2_inv h
  cases h
  have hf : few n = true := ho (few n) (by simp)
  refine ⟨by simp, ?_⟩
  rw [t41_eq]
  have hco : orB (neI (chk n) 0) (notB (inB v 0 (sbI .i64 n.nd 1))) = notB (rchB n v) := by
    have hne : neI (chk n) 0 = notB (eqI (chk n) 0) := Beq (by simp only [andB_iff, orB_iff', notB_iff, andB_false, orB_false, notB_false, eqI_iff, eqI_false, neI_iff, neI_false, ltI_iff, ltI_false, leI_iff, leI_false, inB_iff, nodeB_iff, inB_false, nodeB_false])
    rw [hne]
    cases he : eqI (chk n) 0 with
    | false => simp only [rchB, he]; rfl
    | true =>
      have hnd := (chk_zero.1 (eqI_iff.1 he)).nd
      have e : sbI .i64 n.nd 1 = n.nd - 1 := sbI_in (by omega) (by omega)
      rw [e]
      have e2 : rchB n v = nodeB n v := by simp only [rchB, he]; rfl
      rw [e2]
      show notB (inB v 0 (n.nd - 1)) = notB (nodeB n v)
      exact Beq (by simp only [andB_iff, orB_iff', notB_iff, andB_false, orB_false, notB_false, eqI_iff, eqI_false, neI_iff, neI_false, ltI_iff, ltI_false, leI_iff, leI_false, inB_iff, nodeB_iff, inB_false, nodeB_false]; omega)
  simp only [t41, Tr.sel, hco]
  cases hb : rchB n v with
  | false => exact ⟨_, rfl, by simp [AllT_tt, AllT_gE, AllT_gT, AllT_nil, AllT_cons, impB_iff, leI_iff, ltI_iff, hf], by simp [rrchL, hb], rfl⟩
  | true =>
    obtain ⟨hb1, hb2⟩ := andB_iff.1 hb
    have hc := eqI_iff.1 hb1
    have hnd := (chk_zero.1 hc).nd
    have hv := nodeB_iff.1 hb2
    have hr : lenZ (repL n.nd false) = n.nd := repL_len (by omega)
    have hs : lenZ (setB (repL n.nd false) v true) = n.nd := by rw [setB_len, hr]
    have hin : inB n.nd 2 32 = true := inB_iff.2 hnd
    refine ⟨_, rfl, ?_, by simp [rrchL, rrch, hb], rfl⟩
    simp [AllT_tt, AllT_gE, AllT_gT, AllT_nil, AllT_cons, impB_iff, leI_iff, ltI_iff, eqI_iff, hf, hc, hr, hs, relC_len, hin, hv.1, hv.2]
    omega
end Go.Sx
