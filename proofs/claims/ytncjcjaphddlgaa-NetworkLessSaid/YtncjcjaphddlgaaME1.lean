/-
  The walks: package network and its reference, part 1. No condition beyond those that each theorem names.
-/
import Derived.Test.YtncjcjaphddlgaaS7
import Derived.Test.YtncjcjaphddlgaaS6
set_option linter.unusedVariables false
set_option linter.unusedSimpArgs false
namespace Go.Sx
open Go Go.Proofs

def t64 (x y z : Int) : Tr Res :=
  (.leaf (some ⟨(tt 2 (gE (leI y x) (gT (notB (leI y x)) (gE (leI y x) (gE (leI y x) (gT (leI y x) (gT (leI y x) (tt 6 [])))))))), (.bool (andB (leI y x) (leI x z))), [.junk, .junk,
  .junk]⟩))
theorem t64_eq (x y z : Int) : evFT (cxs []) (tb []) (orcT []) 64 Try.f64 [.int .i64 x, .int .i64 y, .int .i64 z] = t64 x y z := by kernel_rfl
theorem ok64 : FnOK Try.prog 64 s64 := by
  refine fnK .nil (fs := []) rfl Try.func64 rfl (by kernel_rfl) noLoops ?_
  intro bs r h ho
  unfold s64 at h
  split at h
  · cases h
    refine ⟨by simp, ?_⟩
    rw [t64_eq]
    exact ⟨_, rfl, by simp only [AllT_tt, AllT_gE, AllT_gT, AllT_nil], by simp [inB], rfl⟩
  · cases h
def l68 (n : Net) (k1 k2 k3 : Option Bool) (f t i : Int) : Tr (Ex × St) :=
  let c0 := (ltI i (lenZ n.ls))
  let c1 := (getL n.ls i)
  let c2 := (eqI (getN c1 0) f)
  let c3 := (gE c2 (gT (notB c2) (gE c2 (gE c2 (gT c2 (gE c2 (gE c2 ((impB c2 (leI 0 i)) :: ((impB c2 c0) :: (gE c2 (gE c2 (gT c2 (gE c2 (gT c2 (tt 6 ((leI 0 i) :: (c0 :: (tt 12
  []))))))))))))))))))
  (.node c0 (.node (andB c2 (eqI (getN c1 1) t)) (.leaf (some (.ret , ⟨mkS 34 [(1 , (.int .i64 f)), (2 , (.int .i64 t)), (3 , (.ref 3 0)), (6 , (.int .i64 i)), (7 , (.int .i64 i))], [(3 ,
  (.box [(.int .i64 n.nd), (.sl k1 (.rows n.pw)), (.int .i64 n.ns), (.int .i64 n.th), (.sl k2 (.st 3 n.ls)), (.sl k3 (.i1 n.mg))]))], (tt 4 c3)⟩))) (.leaf (some (.normal , ⟨mkS 34 [(1 ,
  (.int .i64 f)), (2 , (.int .i64 t)), (3 , (.ref 3 0)), (7 , (.int .i64 (addI .i64 i 1)))], [(3 , (.box [(.int .i64 n.nd), (.sl k1 (.rows n.pw)), (.int .i64 n.ns), (.int .i64 n.th), (.sl
  k2 (.st 3 n.ls)), (.sl k3 (.i1 n.mg))]))], (tt 6 c3)⟩)))) (.leaf (some ((.exit 0) , ⟨mkS 34 [(1 , (.int .i64 f)), (2 , (.int .i64 t)), (3 , (.ref 3 0)), (7 , (.int .i64 i))], [(3 , (.box
  [(.int .i64 n.nd), (.sl k1 (.rows n.pw)), (.int .i64 n.ns), (.int .i64 n.th), (.sl k2 (.st 3 n.ls)), (.sl k3 (.i1 n.mg))]))], (tt 7 [])⟩))))
theorem l68_eq (n : Net) (k1 k2 k3 : Option Bool) (f t i : Int) : keepT 34 [1, 2, 3, 7, 6] [3] (evT (cxs []) (tb []) (orcT []) (loopB Try.f68 0) ⟨mkS 34 (zip2 [1, 2, 3, 7] [.int .i64 f, .int .i64 t, .ref 3 0, .int .i64 i]), zip2 [3] [.box (n.cells k1 k2 k3)], []⟩) = l68 n k1 k2 k3 f t i := by kernel_rfl
theorem l68_ok (Γ : Env) (π : Nms) : LoopOK Try.prog Γ π 0 (loopB Try.f68 0) ls68 := by
  intro vs obs r h ho ok ok' hok hT
  simp only [ls68] at h
  split at h
  · rename_i f t cs
    cases hn : netC cs with
    | none => rw [hn] at h; simp [Tr.sel] at h
    | some n =>
    obtain ⟨k1, k2, k3, rfl⟩ := netC_inv hn
    rw [hn] at h
    have hf : few n = true := by
      simp only [Tr.sel] at h
      cases hb : leI 0 (fnd n f t) <;> rw [hb] at h <;> cases h <;> exact ho _ (by simp)
    have hl := few_ls hf
    refine scanK ⟨.nil, rfl, by kernel_rfl, by kernel_rfl, .nil⟩ (fun i => [.int .i64 f, .int .i64 t, .ref 3 0, .int .i64 i]) [.box (n.cells k1 k2 k3)] (fun i => andB (eqI (n.fr i) f) (eqI (n.to i) t)) (lenZ n.ls) 0
      (Int.le_refl 0) (by omega) (fun j => ⟨.ret, [(6, .int .i64 j)], [], [few n]⟩) ⟨.normal, [], [], [few n]⟩ (l68 n k1 k2 k3 f t) (l68_eq n k1 k2 k3 f t) ?_ ?_ ?_ ?_ hok hT
    · intro i h0 hlt
      simp only [l68, Tr.sel, hlt]
      exact ⟨_, _, rfl, by simp only [AllT_tt, AllT_gE, AllT_gT, AllT_nil], rfl, Fits.k rfl rfl rfl⟩
    · intro i h0 hlt hp
      simp only [l68, Tr.sel, hlt, Net.fr, Net.to] at hp ⊢
      simp only [hp]
      exact ⟨_, _, rfl, by simp [AllT_tt, AllT_gE, AllT_gT, AllT_nil, AllT_cons, impB_iff, leI_iff, h0], rfl, Fits.k rfl rfl rfl⟩
    · intro i h0 hlt hp
      simp only [l68, Tr.sel, hlt, Net.fr, Net.to] at hp ⊢
      simp only [hp]
      exact ⟨_, rfl, by simp [AllT_tt, AllT_gE, AllT_gT, AllT_nil, AllT_cons, impB_iff, leI_iff, h0], Fits.k rfl rfl rfl⟩
    · simp only [Tr.sel] at h
      have e : scan (fun i => andB (eqI (n.fr i) f) (eqI (n.to i) t)) (lenZ n.ls - 0).toNat 0 = fnd n f t := by simp [fnd, lenZ]
      rw [e]
      cases hb : leI 0 (fnd n f t) <;> rw [hb] at h <;> cases h
      · rw [if_neg (fun c => by rw [leI_iff.2 c] at hb; cases hb)]
      · rw [if_pos (leI_iff.1 hb)]
  · simp [Tr.sel] at h
def t68 (n : Net) (k1 k2 k3 : Option Bool) (f t : Int) : Tr Res :=
  let c0 := ((few n) :: (tt 3 []))
  (.node (leI 0 (fnd n f t)) (.leaf (some ⟨c0, (.int .i64 (fnd n f t)), [.junk, .junk, .junk]⟩)) (.leaf (some ⟨(tt 1 c0), (.int .i64 (-1)), [.junk, .junk, .junk]⟩)))
theorem t68_eq (n : Net) (k1 k2 k3 : Option Bool) (f t : Int) : evFT (cxs []) (tb []) (orcT [(0, ls68)]) 68 Try.f68 [n.av k1 k2 k3, .int .i64 f, .int .i64 t] = t68 n k1 k2 k3 f t := by kernel_rfl
theorem ok68 : FnOK Try.prog 68 s68 := by
  refine fnK .nil (fs := []) rfl Try.func68 rfl (by kernel_rfl) (fun Γ π => .cons (l68_ok Γ π) .nil) ?_
  intro bs r h ho
  obtain ⟨n, k1, k2, k3, f, t, rfl, h⟩ := on3_inv h
  cases h
  have hf : few n = true := ho _ (by simp)
  refine ⟨by simp, ?_⟩
  rw [t68_eq]
  simp only [t68, Tr.sel]
  cases hb : leI 0 (fnd n f t) with
  | true => exact ⟨_, rfl, by simp only [AllT_tt, AllT_cons, AllT_nil, hf, and_self], rfl, rfl⟩
  | false =>
    refine ⟨_, rfl, by simp only [AllT_tt, AllT_cons, AllT_nil, hf, and_self], ?_, rfl⟩
    rcases scan_ge (p := fun i => andB (eqI (n.fr i) f) (eqI (n.to i) t)) (k := n.ls.length) (i := 0) with e | e
    · rw [fnd, e]
    · have := leI_iff.2 e.1
      rw [← fnd, hb] at this
      cases this
def l18 (n : Net) (k1 k2 k3 : Option Bool) (i : Int) : Tr (Ex × St) :=
  let c0 := (ltI i (lenZ n.pw))
  let c1 := ((leI 0 i) :: (c0 :: (tt 12 [])))
  (.node c0 (.node (ltI 40 (lenZ (getL n.pw i))) (.leaf (some (.ret , ⟨mkS 34 [(1 , (.ref 1 0)), (2 , (.bool false)), (3 , (.int .i64 i))], [(1 , (.box [(.int .i64 n.nd), (.sl k1 (.rows
  n.pw)), (.int .i64 n.ns), (.int .i64 n.th), (.sl k2 (.st 3 n.ls)), (.sl k3 (.i1 n.mg))]))], (tt 6 c1)⟩))) (.leaf (some (.normal , ⟨mkS 34 [(1 , (.ref 1 0)), (3 , (.int .i64 (addI .i64 i
  1)))], [(1 , (.box [(.int .i64 n.nd), (.sl k1 (.rows n.pw)), (.int .i64 n.ns), (.int .i64 n.th), (.sl k2 (.st 3 n.ls)), (.sl k3 (.i1 n.mg))]))], (tt 9 c1)⟩)))) (.leaf (some ((.exit 0) ,
  ⟨mkS 34 [(1 , (.ref 1 0)), (3 , (.int .i64 i))], [(1 , (.box [(.int .i64 n.nd), (.sl k1 (.rows n.pw)), (.int .i64 n.ns), (.int .i64 n.th), (.sl k2 (.st 3 n.ls)), (.sl k3 (.i1 n.mg))]))],
  (tt 7 [])⟩))))
theorem l18_eq (n : Net) (k1 k2 k3 : Option Bool) (i : Int) : keepT 34 [1, 3, 2] [1] (evT (cxs []) (tb []) (orcT []) (loopB Try.f18 0) ⟨mkS 34 (zip2 [1, 3] [.ref 1 0, .int .i64 i]), zip2 [1] [.box (n.cells k1 k2 k3)], []⟩) = l18 n k1 k2 k3 i := by kernel_rfl
theorem l18_ok (Γ : Env) (π : Nms) : LoopOK Try.prog Γ π 0 (loopB Try.f18 0) ls18 := by
  intro vs obs r h ho ok ok' hok hT
  simp only [ls18] at h
  split at h
  · rename_i cs
    cases hn : netC cs with
    | none => rw [hn] at h; simp [Tr.sel] at h
    | some n =>
    obtain ⟨k1, k2, k3, rfl⟩ := netC_inv hn
    rw [hn] at h
    have hl : leI (lenZ n.pw) 9223372036854775807 = true := by
      simp only [Tr.sel] at h
      cases hb : rowsP n.pw <;> rw [hb] at h <;> cases h <;> exact ho _ (by simp)
    refine scanK ⟨.nil, rfl, by kernel_rfl, by kernel_rfl, .nil⟩ (fun i => [.ref 1 0, .int .i64 i]) [.box (n.cells k1 k2 k3)] (fun i => ltI 40 (lenZ (getL n.pw i))) (lenZ n.pw) 0
      (Int.le_refl 0) (leI_iff.1 hl) (fun j => ⟨.ret, [(2, .bool false)], [], [leI (lenZ n.pw) 9223372036854775807]⟩) ⟨.normal, [(1, .ref 1 0)], [(1, .box (n.cells k1 k2 k3))], [leI (lenZ n.pw) 9223372036854775807]⟩ (l18 n k1 k2 k3) (l18_eq n k1 k2 k3) ?_ ?_ ?_ ?_ hok hT
    · intro i h0 hlt
      simp only [l18, Tr.sel, hlt]
      exact ⟨_, _, rfl, by simp only [AllT_tt, AllT_gE, AllT_gT, AllT_nil], rfl, Fits.k rfl rfl rfl⟩
    · intro i h0 hlt hp
      simp only [l18, Tr.sel, hlt] at hp ⊢
      simp only [hp]
      exact ⟨_, _, rfl, by simp [AllT_tt, AllT_gE, AllT_gT, AllT_nil, AllT_cons, impB_iff, leI_iff, h0], rfl, Fits.k rfl rfl rfl⟩
    · intro i h0 hlt hp
      simp only [l18, Tr.sel, hlt] at hp ⊢
      simp only [hp]
      exact ⟨_, rfl, by simp [AllT_tt, AllT_gE, AllT_gT, AllT_nil, AllT_cons, impB_iff, leI_iff, h0], Fits.k rfl rfl rfl⟩
    · simp only [Tr.sel] at h
      have e : scan (fun i => ltI 40 (lenZ (getL n.pw i))) (lenZ n.pw - 0).toNat 0 = scan (fun i => ltI 40 (lenZ (getL n.pw i))) n.pw.length 0 := by simp [lenZ]
      rw [e]
      cases hb : rowsP n.pw <;> rw [hb] at h <;> cases h <;> simp only [rowsP] at hb
      · rw [if_pos]
        rcases scan_ge (p := fun i => ltI 40 (lenZ (getL n.pw i))) (k := n.pw.length) (i := 0) with e | e
        · rw [e] at hb; simp [eqI] at hb
        · exact e.1
      · rw [eqI_iff.1 hb]; rfl
  · simp [Tr.sel] at h
def t18 (n : Net) (k1 k2 k3 : Option Bool) : Tr Res :=
  let c0 := (leI (lenZ n.pw) 8)
  let c1 := (andB c0 (leI (lenZ n.ls) 60))
  let c2 := ((leI (lenZ n.pw) 9223372036854775807) :: (tt 3 []))
  (.node (rowsP n.pw) (.leaf (some ⟨(tt 2 (gE c1 (gT (notB c1) (gE c1 (gT c1 (gE c1 (gE c1 (gT c1 (tt 2 (gE c0 (gT (notB c0) (gE c0 (gT c0 (gE c0 (gE c0 (gT c0 (tt 6 c2))))))))))))))))),
  (.bool (andB c1 (leI (lenZ n.mg) 60))), [.junk]⟩)) (.leaf (some ⟨c2, (.bool false), [.junk]⟩)))
theorem t18_eq (n : Net) (k1 k2 k3 : Option Bool) : evFT (cxs []) (tb []) (orcT [(0, ls18)]) 18 Try.f18 [n.av k1 k2 k3] = t18 n k1 k2 k3 := by kernel_rfl
theorem ok18 : FnOK Try.prog 18 s18 := by
  refine fnK .nil (fs := []) rfl Try.func18 rfl (by kernel_rfl) (fun Γ π => .cons (l18_ok Γ π) .nil) ?_
  intro bs r h ho
  obtain ⟨n, k1, k2, k3, rfl, h⟩ := on1_inv h
  cases h
  have hf : leI (lenZ n.pw) 9223372036854775807 = true := ho _ (by simp)
  refine ⟨by simp, ?_⟩
  rw [t18_eq]
  simp only [t18, Tr.sel]
  cases hb : rowsP n.pw with
  | true => 
    refine ⟨_, rfl, by simp only [AllT_tt, AllT_gE, AllT_gT, AllT_cons, AllT_nil, hf, and_self], ?_, rfl⟩
    simp only [few, hb]
    cases leI (lenZ n.pw) 8 <;> rfl
  | false =>
    exact ⟨_, rfl, by simp only [AllT_tt, AllT_cons, AllT_nil, hf, and_self], by simp only [few, hb]; rfl, rfl⟩
end Go.Sx
