/-
  The walk of Reach. No condition beyond those that each theorem names.
-/
import Derived.Test.YtncjcjaphddlgaaME9
import Derived.Test.YtncjcjaphddlgaaS6
import Derived.Test.YtncjcjaphddlgaaS7
set_option linter.unusedVariables false
set_option linter.unusedSimpArgs false
namespace Go.Sx
open Go Go.Proofs

theorem addZ_len : ∀ (xs acc : List Int), (addZ acc xs).length ≤ acc.length + xs.length
  | [], acc => by simp [addZ]
  | c :: l, acc => by
    unfold addZ
    cases leI 0 (idxZ acc c) with
    | true => have := addZ_len l acc; simp only [List.length_cons]; omega
    | false => have := addZ_len l (acc ++ [c]); simp only [List.length_append, List.length_cons, List.length_nil] at this ⊢; omega
def l40b (n : Net) (k1 k2 k3 : Option Bool) (acc xs : List Int) (b : Bool) (v i m j : Int) : Tr (Ex × St) :=
  let c0 := (addI .i64 j 1)
  let c1 := (catL acc [(getI xs j)])
  let c2 := (ltI j (lenZ xs))
  let c3 := ((leI (lenZ acc) 1000) :: (tt 6 ((leI 0 j) :: (c2 :: (tt 1 ((leI 0 j) :: (c2 :: (tt 5 []))))))))
  (.node (ltI j m) (.node (notB (leI 0 (idxZ acc (getI xs j)))) (.leaf (some (.normal , ⟨mkS 53 [(1 , (.int .i64 v)), (2 , (.ref 2 0)), (5 , (.own 23)), (6 , (.int .i64 i)), (35 , (.own
  35)), (36 , (.int .i64 m)), (37 , (.int .i64 c0))], [(2 , (.box [(.int .i64 n.nd), (.sl k1 (.rows n.pw)), (.int .i64 n.ns), (.int .i64 n.th), (.sl k2 (.st 3 n.ls)), (.sl k3 (.i1
  n.mg))])), (23 , (.arr (some (impB (nonE [(getI xs j)]) true)) (.i1 c1))), (35 , (.arr (some b) (.i1 xs)))], (tt 4 ((leI (lenZ c1) 1000000000) :: (tt 7 c3)))⟩))) (.leaf (some (.normal ,
  ⟨mkS 53 [(1 , (.int .i64 v)), (2 , (.ref 2 0)), (5 , (.own 23)), (6 , (.int .i64 i)), (35 , (.own 35)), (36 , (.int .i64 m)), (37 , (.int .i64 c0))], [(2 , (.box [(.int .i64 n.nd), (.sl
  k1 (.rows n.pw)), (.int .i64 n.ns), (.int .i64 n.th), (.sl k2 (.st 3 n.ls)), (.sl k3 (.i1 n.mg))])), (23 , (.arr (some true) (.i1 acc))), (35 , (.arr (some b) (.i1 xs)))], (tt 5 c3)⟩))))
  (.leaf (some ((.exit 2) , ⟨mkS 53 [(1 , (.int .i64 v)), (2 , (.ref 2 0)), (5 , (.own 23)), (6 , (.int .i64 i)), (35 , (.own 35)), (36 , (.int .i64 m)), (37 , (.int .i64 j))], [(2 , (.box
  [(.int .i64 n.nd), (.sl k1 (.rows n.pw)), (.int .i64 n.ns), (.int .i64 n.th), (.sl k2 (.st 3 n.ls)), (.sl k3 (.i1 n.mg))])), (23 , (.arr (some true) (.i1 acc))), (35 , (.arr (some b) (.i1
  xs)))], (tt 3 [])⟩))))
theorem l40b_eq (n : Net) (k1 k2 k3 : Option Bool) (acc xs : List Int) (b : Bool) (v i m j : Int) : keepT 53 [1, 2, 5, 6, 35, 36, 37] [2, 23, 35] (evT (cxs [42]) (tb [(42, s42)]) (orcT []) (loopB Try.f40 2) ⟨mkS 53 (zip2 [1, 2, 5, 6, 35, 36, 37] [.int .i64 v, .ref 2 0, .own 23, .int .i64 i, .own 35, .int .i64 m, .int .i64 j]), zip2 [2, 23, 35] [.box (n.cells k1 k2 k3), .arr (some true) (.i1 acc), .arr (some b) (.i1 xs)], []⟩) = l40b n k1 k2 k3 acc xs b v i m j := by kernel_rfl
theorem l40b_ok (Γ : Env) (π : Nms) : LoopOK Try.prog Γ π 2 (loopB Try.f40 2) ls40b := by
  intro vs obs r h ho ok ok' hok hT
  simp only [ls40b] at h
  split at h
  · rename_i v i m cs acc b xs
    cases hn : netC cs with
    | none => rw [hn] at h; simp [Tr.sel] at h
    | some n =>
    obtain ⟨k1, k2, k3, rfl⟩ := netC_inv hn
    rw [hn] at h
    simp only [Tr.sel, Option.some.injEq] at h
    subst h
    have hm : m = lenZ xs := eqI_iff.1 (ho (eqI m (lenZ xs)) (by simp))
    have h1 : lenZ acc ≤ 500 := leI_iff.1 (ho (leI (lenZ acc) 500) (by simp))
    have h2 : lenZ xs ≤ 500 := leI_iff.1 (ho (leI (lenZ xs) 500) (by simp))
    subst hm
    refine loopK (X := List Int × Nat) ⟨.cons ok42 .nil, rfl, by kernel_rfl, by kernel_rfl, .nil⟩ (fun x => [.int .i64 v, .ref 2 0, .own 23, .int .i64 i, .own 35, .int .i64 (lenZ xs), .int .i64 x.2]) (fun x => [.box (n.cells k1 k2 k3), .arr (some true) (.i1 x.1), .arr (some b) (.i1 xs)])
      (fun x => x.2 ≤ xs.length ∧ lenZ x.1 ≤ 500 + x.2 ∧ addZ x.1 (xs.drop x.2) = addZ acc xs) (fun x => xs.length - x.2) _ (fun x => l40b n k1 k2 k3 x.1 xs b v i (lenZ xs) x.2) (fun x => l40b_eq n k1 k2 k3 x.1 xs b v i (lenZ xs) x.2) ?_ (x := (acc, 0)) ⟨Nat.zero_le _, by simp only; omega, by simp⟩ hok hT
    rintro ⟨ys, k⟩ ⟨hk, hl, hs⟩
    simp only at hl hk hs ⊢
    cases hc : ltI (k : Int) (lenZ xs) with
    | false =>
      simp only [l40b, Tr.sel, hc]
      refine ⟨_, _, rfl, by simp [AllT_tt, AllT_gE, AllT_gT, AllT_nil, AllT_cons, impB_iff, leI_iff, ltI_iff], .inr ⟨rfl, Fits.k rfl rfl ?_⟩⟩
      have hz : xs.length ≤ k := by
        have : ¬ (k : Int) < lenZ xs := fun c => by rw [ltI_iff.2 c] at hc; cases hc
        simp only [lenZ] at this; omega
      rw [← hs, List.drop_eq_nil_of_le hz]
      rfl
    | true =>
      have hlt := ltI_iff.1 hc
      have hlt' : k < xs.length := by simp only [lenZ] at hlt; omega
      have e : addI .i64 (k : Int) 1 = ((k + 1 : Nat) : Int) := by simp only [lenZ] at h2; rw [addI_in (by omega) (by omega)]; omega
      have hd : xs.drop k = getI xs (k : Int) :: xs.drop (k + 1) := by
        rw [List.drop_eq_getElem_cons hlt']
        simp [getI, List.getD_eq_getElem?_getD, hlt']
      rw [hd, addZ] at hs
      have hl2 : lenZ ys ≤ 1000 := by simp only [lenZ] at h2 hl ⊢; omega
      cases hx : leI 0 (idxZ ys (getI xs (k : Int))) with
      | true =>
        rw [hx] at hs
        simp only [l40b, Tr.sel, hc, hx, e, notB, Bool.not_true]
        exact ⟨_, _, rfl, by simp [AllT_tt, AllT_gE, AllT_gT, AllT_nil, AllT_cons, impB_iff, leI_iff, ltI_iff, hlt, hl2], .inl ⟨rfl, (ys, k + 1), ⟨hlt', by simp only; omega, hs⟩, by simp only; omega, Fits.k rfl rfl rfl⟩⟩
      | false =>
        rw [hx] at hs
        simp only [l40b, Tr.sel, hc, hx, e, notB, Bool.not_false]
        have hl3 : lenZ (catL ys [getI xs (k : Int)]) ≤ 1000000000 := by
          simp only [lenZ, catL, List.length_append, List.length_singleton] at hl2 ⊢; omega
        exact ⟨_, _, rfl, by simp [AllT_tt, AllT_gE, AllT_gT, AllT_nil, AllT_cons, impB_iff, leI_iff, ltI_iff, hlt, hl2, hl3], .inl ⟨rfl, (ys ++ [getI xs (k : Int)], k + 1), ⟨hlt', by simp only [lenZ, List.length_append, List.length_singleton] at hl ⊢; omega, hs⟩, by simp only; omega, Fits.k rfl rfl rfl⟩⟩
  · simp [Tr.sel] at h
def l40 (n : Net) (k1 k2 k3 : Option Bool) (acc : List Int) (v i : Int) : Tr (Ex × St) :=
  let c0 := (ltI i (lenZ acc))
  let c1 := (nxs n (getI acc i))
  (.node c0 (.leaf (some (.normal , ⟨mkS 53 [(1 , (.int .i64 v)), (2 , (.ref 2 0)), (5 , (.own 23)), (6 , (.int .i64 (addI .i64 i 1)))], [(2 , (.box [(.int .i64 n.nd), (.sl k1 (.rows
  n.pw)), (.int .i64 n.ns), (.int .i64 n.th), (.sl k2 (.st 3 n.ls)), (.sl k3 (.i1 n.mg))])), (23 , (.arr (some true) (.i1 (addZ acc c1))))], (tt 4 ((eqI (lenZ c1) (lenZ c1)) :: ((leI (lenZ
  acc) 500) :: ((leI (lenZ c1) 500) :: (tt 2 ((few n) :: ((eqI (chk n) 0) :: (tt 3 ((leI 0 i) :: (c0 :: (tt 1 ((leI 0 i) :: (c0 :: (tt 11 []))))))))))))))⟩))) (.leaf (some ((.exit 0) , ⟨mkS
  53 [(1 , (.int .i64 v)), (2 , (.ref 2 0)), (5 , (.own 23)), (6 , (.int .i64 i))], [(2 , (.box [(.int .i64 n.nd), (.sl k1 (.rows n.pw)), (.int .i64 n.ns), (.int .i64 n.th), (.sl k2 (.st 3
  n.ls)), (.sl k3 (.i1 n.mg))])), (23 , (.arr (some true) (.i1 acc)))], (tt 6 [])⟩))))
theorem l40_eq (n : Net) (k1 k2 k3 : Option Bool) (acc : List Int) (v i : Int) : keepT 53 [1, 2, 5, 6] [2, 23] (evT (cxs [42, 86]) (tb [(42, s42), (86, s86)]) (orcT [(2, ls40b)]) (loopB Try.f40 0) ⟨mkS 53 (zip2 [1, 2, 5, 6] [.int .i64 v, .ref 2 0, .own 23, .int .i64 i]), zip2 [2, 23] [.box (n.cells k1 k2 k3), .arr (some true) (.i1 acc)], []⟩) = l40 n k1 k2 k3 acc v i := by kernel_rfl
theorem nd_le {n : Net} (hf : few n = true) (h : n.Ok) : n.nd ≤ 8 := by have := few_pw hf; have := h.pw; omega
theorem l40_ok (Γ : Env) (π : Nms) : LoopOK Try.prog Γ π 0 (loopB Try.f40 0) ls40 := by
  intro vs obs r h ho ok ok' hok hT
  simp only [ls40] at h
  split at h
  · rename_i v cs v'
    cases hn : netC cs with
    | none => rw [hn] at h; simp [Tr.sel] at h
    | some n =>
    obtain ⟨k1, k2, k3, rfl⟩ := netC_inv hn
    rw [hn] at h
    simp only [Tr.sel, Option.some.injEq] at h
    subst h
    have hv : v' = v := eqI_iff.1 (ho (eqI v' v) (by simp))
    have hf : few n = true := ho (few n) (by simp)
    have hb : rchB n v = true := ho (rchB n v) (by simp)
    subst hv
    obtain ⟨hb1, hb2⟩ := andB_iff.1 hb
    have hc := eqI_iff.1 hb1
    have hok' := chk_zero.1 hc
    have hnd := nd_le hf hok'
    have hvn := nodeB_iff.1 hb2
    have hls := few_ls hf
    refine loopK (X := List Int × Nat) ⟨.cons ok42 (.cons ok86 .nil), rfl, by kernel_rfl, by kernel_rfl, .cons (l40b_ok Γ π) .nil⟩ (fun x => [.int .i64 v', .ref 2 0, .own 23, .int .i64 x.2]) (fun x => [.box (n.cells k1 k2 k3), .arr (some true) (.i1 x.1)])
      (fun x => x.1.Nodup ∧ (∀ y, y ∈ x.1 → 0 ≤ y ∧ y < n.nd) ∧ x.2 ≤ x.1.length ∧ bfs n (9 - x.2) x.2 x.1 = rch n v') (fun x => 9 - x.2) _ (fun x => l40 n k1 k2 k3 x.1 v' x.2) (fun x => l40_eq n k1 k2 k3 x.1 v' x.2) ?_ (x := ([v'], 0))
      ⟨by simp, fun y hy => by simp only [List.mem_singleton] at hy; subst hy; exact hvn, Nat.zero_le _, rfl⟩ hok hT
    rintro ⟨ys, k⟩ ⟨hd, hin, hk, hs⟩
    simp only at hd hin hk hs ⊢
    have hlen : ys.length ≤ 8 := by
      have := nodup_len (n := n.nd.toNat) hd fun x hx => by have := hin x hx; omega
      omega
    have hk9 : 9 - k = (8 - k) + 1 := by omega
    rw [hk9, bfs] at hs
    cases hc2 : ltI (k : Int) (lenZ ys) with
    | false =>
      rw [hc2] at hs
      simp only [l40, Tr.sel, hc2]
      refine ⟨_, _, rfl, by simp [AllT_tt, AllT_gE, AllT_gT, AllT_nil, AllT_cons, impB_iff, leI_iff, ltI_iff], .inr ⟨rfl, Fits.k rfl rfl ?_⟩⟩
      rw [← hs]
      rfl
    | true =>
      rw [hc2] at hs
      have hlt := ltI_iff.1 hc2
      have hlt' : k < ys.length := by simp only [lenZ] at hlt; omega
      have e : addI .i64 (k : Int) 1 = ((k + 1 : Nat) : Int) := by rw [addI_in (by omega) (by omega)]; omega
      have hnl := nxs_len (n := n) (v := getI ys (k : Int))
      simp only [l40, Tr.sel, hc2, e]
      refine ⟨_, _, rfl, ?_, .inl ⟨rfl, (addZ ys (nxs n (getI ys (k : Int))), k + 1), ⟨addZ_nodup hd, fun y hy => ?_, ?_, ?_⟩, by simp only; omega, Fits.k rfl rfl rfl⟩⟩
      · have h5 : lenZ ys ≤ 500 := by simp only [lenZ]; omega
        have h6 : lenZ (nxs n (getI ys (k : Int))) ≤ 500 := by omega
        simp [AllT_tt, AllT_gE, AllT_gT, AllT_nil, AllT_cons, impB_iff, leI_iff, ltI_iff, eqI_iff, h5, h6, hf, hc]
      · rcases mem_addZ.1 hy with h | h
        · exact hin y h
        · exact nxs_in hok' h
      · have := addZ_ge (acc := ys) (xs := nxs n (getI ys (k : Int)))
        simp only; omega
      · simp only
        rw [← hs, show 9 - (k + 1) = 8 - k by omega]
        rfl
  · simp [Tr.sel] at h
def t40 (n : Net) (k1 k2 k3 : Option Bool) (v : Int) : Tr Res :=
  let c0 := (neI (chk n) 0)
  let c1 := (orB c0 (ltI v 0))
  let c2 := (gT c1 (gE (notB c1) (gE (notB c1) (gE (notB c1) (gE (notB c1) (gT (notB c1) (gT (notB c1) (tt 2 (gT c0 (gE (notB c0) (gE (notB c0) (gT (notB c0) (gT (notB c0) (tt 3 ((few n) ::
  (tt 5 []))))))))))))))))
  (.node (orB c1 (leI n.nd v)) (.leaf (some ⟨(tt 3 c2), (.osl (some false) (.i1 [])), [.junk, .junk]⟩)) (.leaf (some ⟨(tt 2 ((leI (lenZ (rch n v)) 12) :: (tt 3 ((eqI v v) :: ((few n) ::
  ((rchB n v) :: (tt 6 c2))))))), (.osl (some true) (.i1 (srt (rch n v)))), [.junk, .junk]⟩)))
theorem t40_eq (n : Net) (k1 k2 k3 : Option Bool) (v : Int) : evFT (cxs [19, 42, 86, 87]) (tb [(19, s19), (42, s42), (86, s86), (87, s87)]) (orcT [(0, ls40)]) 40 Try.f40 [n.av k1 k2 k3, .int .i64 v] = t40 n k1 k2 k3 v := by kernel_rfl
theorem bfs_in {n : Net} (h : n.Ok) : ∀ {k : Nat} {i : Int} {acc : List Int}, acc.Nodup → (∀ y, y ∈ acc → 0 ≤ y ∧ y < n.nd) → (bfs n k i acc).Nodup ∧ ∀ y, y ∈ bfs n k i acc → 0 ≤ y ∧ y < n.nd
  | 0, i, acc, h1, h2 => ⟨h1, h2⟩
  | k + 1, i, acc, h1, h2 => by
    rw [bfs]
    cases ltI i (lenZ acc) with
    | false => exact ⟨h1, h2⟩
    | true => exact bfs_in h (addZ_nodup h1) fun y hy => (mem_addZ.1 hy).elim (h2 y) (nxs_in h)
theorem rch_in {n : Net} {v : Int} (hb : rchB n v = true) : (rch n v).Nodup ∧ ∀ y, y ∈ rch n v → 0 ≤ y ∧ y < n.nd := by
  obtain ⟨hb1, hb2⟩ := andB_iff.1 hb
  refine bfs_in (chk_zero.1 (eqI_iff.1 hb1)) (by simp) fun y hy => ?_
  simp only [List.mem_singleton] at hy; subst hy; exact nodeB_iff.1 hb2
theorem rch_len {n : Net} {v : Int} (hf : few n = true) (hb : rchB n v = true) : lenZ (rch n v) ≤ 8 := by
  obtain ⟨h1, h2⟩ := rch_in hb
  have hnd := nd_le hf (chk_zero.1 (eqI_iff.1 (andB_iff.1 hb).1))
  have := nodup_len (n := n.nd.toNat) h1 fun x hx => by have := h2 x hx; omega
  simp only [lenZ]
  omega
theorem ok40 : FnOK Try.prog 40 s40 := by
  refine fnK (.cons ok19 (.cons ok42 (.cons ok86 (.cons ok87 .nil)))) (fs := [19, 42, 86, 87]) rfl Try.func40 rfl (by kernel_rfl) (fun Γ π => .cons (l40_ok Γ π) .nil) ?_
  intro bs r h ho
  obtain ⟨n, k1, k2, k3, v, rfl, h⟩ := on2_inv h
  cases h
  have hf : few n = true := ho (few n) (by simp)
  refine ⟨by simp, ?_⟩
  rw [t40_eq]
  have hco : orB (orB (neI (chk n) 0) (ltI v 0)) (leI n.nd v) = notB (rchB n v) := Beq (by simp only [rchB, andB_iff, orB_iff', notB_iff, andB_false, orB_false, notB_false, eqI_iff, eqI_false, neI_iff, neI_false, ltI_iff, ltI_false, leI_iff, leI_false, inB_iff, nodeB_iff, inB_false, nodeB_false]; omega)
  simp only [t40, Tr.sel, hco]
  cases hb : rchB n v with
  | false => exact ⟨_, rfl, by simp [AllT_tt, AllT_gE, AllT_gT, AllT_nil, AllT_cons, impB_iff, leI_iff, ltI_iff, hf], by simp [rchL, hb], rfl⟩
  | true =>
    have := rch_len hf hb
    exact ⟨_, rfl, by simp [AllT_tt, AllT_gE, AllT_gT, AllT_nil, AllT_cons, impB_iff, leI_iff, ltI_iff, hf, hb, eqI_iff]; omega, by simp [rchL, hb], rfl⟩
end Go.Sx
