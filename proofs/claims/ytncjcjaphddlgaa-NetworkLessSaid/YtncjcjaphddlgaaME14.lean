/-
  The walks of copies. No condition beyond those that each theorem names.
-/
import Derived.Test.YtncjcjaphddlgaaME13
import Derived.Test.YtncjcjaphddlgaaS7
import Derived.Test.YtncjcjaphddlgaaS6
set_option linter.unusedVariables false
set_option linter.unusedSimpArgs false
set_option maxRecDepth 100000
namespace Go.Sx
open Go Go.Proofs

def t129t (xs : List Int) : Tr Res :=
  (.node false (.leaf (some ⟨(tt 6 []), (.osl (some false) (.i1 [])), [.junk]⟩)) (.leaf (some ⟨(tt 1 ((leI (lenZ (catL [] xs)) 1000000000) :: (tt 8 []))), (.osl (some (impB (nonE xs) true))
  (.i1 (catL [] xs))), [.junk]⟩)))
theorem t129t_eq (xs : List Int) : evFT (cxs []) (tb []) (orcT []) 129 Try.f129 [.sl (some true) (.i1 xs)] = t129t xs := by kernel_rfl
def t129f (xs : List Int) : Tr Res :=
  (.node true (.leaf (some ⟨(tt 6 []), (.osl (some false) (.i1 [])), [.junk]⟩)) (.leaf (some ⟨(tt 1 ((leI (lenZ (catL [] xs)) 1000000000) :: (tt 8 []))), (.osl (some (impB (nonE xs) true))
  (.i1 (catL [] xs))), [.junk]⟩)))
theorem t129f_eq (xs : List Int) : evFT (cxs []) (tb []) (orcT []) 129 Try.f129 [.sl (some false) (.i1 xs)] = t129f xs := by kernel_rfl
def t130t (xs : List (List Int)) : Tr Res :=
  (.node false (.leaf (some ⟨(tt 6 []), (.osl (some false) (.st 3 [])), [.junk]⟩)) (.leaf (some ⟨(tt 1 ((leI (lenZ (catL [] xs)) 1000000000) :: (tt 8 []))), (.osl (some (impB (nonE xs)
  true)) (.st 3 (catL [] xs))), [.junk]⟩)))
theorem t130t_eq (xs : List (List Int)) : evFT (cxs []) (tb []) (orcT []) 130 Try.f130 [.sl (some true) (.st 3 xs)] = t130t xs := by kernel_rfl
def t130f (xs : List (List Int)) : Tr Res :=
  (.node true (.leaf (some ⟨(tt 6 []), (.osl (some false) (.st 3 [])), [.junk]⟩)) (.leaf (some ⟨(tt 1 ((leI (lenZ (catL [] xs)) 1000000000) :: (tt 8 []))), (.osl (some (impB (nonE xs)
  true)) (.st 3 (catL [] xs))), [.junk]⟩)))
theorem t130f_eq (xs : List (List Int)) : evFT (cxs []) (tb []) (orcT []) 130 Try.f130 [.sl (some false) (.st 3 xs)] = t130f xs := by kernel_rfl
theorem nonE_t {b : Bool} : impB b true = true := by cases b <;> rfl
theorem catL_nil {α : Type} {xs : List α} : catL [] xs = xs := rfl
theorem ok129b : FnOK Try.prog 129 s129b := by
  refine fnK .nil (fs := []) rfl Try.func129 rfl (by kernel_rfl) noLoops ?_
  intro bs r h ho
  unfold s129b at h
  split at h
  · rename_i b xs
    cases b with
    | true =>
      cases h
      refine ⟨by simp, ?_⟩
      rw [t129t_eq]
      have hl : leI (lenZ xs) 1000000000 = true := ho _ (by simp)
      exact ⟨_, rfl, by simp [AllT_tt, AllT_gE, AllT_gT, AllT_nil, AllT_cons, impB_iff, leI_iff, ltI_iff, leI_iff.1 hl, catL_nil], by simp [nonE_t, catL_nil], rfl⟩
    | false =>
      cases h
      refine ⟨by simp, ?_⟩
      rw [t129f_eq]
      exact ⟨_, rfl, by simp [AllT_tt, AllT_gE, AllT_gT, AllT_nil, AllT_cons, impB_iff, leI_iff, ltI_iff], rfl, rfl⟩
  · cases h
theorem ok129 : FnOK Try.prog 129 s129 := by
  refine ok129b.open1 fun bs r h ho => ?_
  unfold s129 at h
  split at h
  · rename_i nk xs
    cases h
    refine ⟨nk, .i1 xs, rfl, fun b hb => ?_⟩
    cases b with
    | true => exact ⟨_, rfl, ho, LesT.osl _ _, rfl⟩
    | false =>
      have hx : xs = [] := List.eq_nil_of_length_eq_zero (hb rfl)
      subst hx
      exact ⟨_, rfl, by simp [AllT_cons, AllT_nil, eqI, lenZ], LesT.osl _ _, rfl⟩
  · cases h
theorem ok130b : FnOK Try.prog 130 s130b := by
  refine fnK .nil (fs := []) rfl Try.func130 rfl (by kernel_rfl) noLoops ?_
  intro bs r h ho
  unfold s130b at h
  split at h
  · rename_i b w xs
    cases hw : Nat.beq w 3 <;> rw [hw] at h <;> simp only [cond_true, cond_false, reduceCtorEq] at h
    have := beqT.1 hw
    subst this
    cases b with
    | true =>
      cases h
      refine ⟨by simp, ?_⟩
      rw [t130t_eq]
      have hl : leI (lenZ xs) 1000000000 = true := ho _ (by simp)
      exact ⟨_, rfl, by simp [AllT_tt, AllT_gE, AllT_gT, AllT_nil, AllT_cons, impB_iff, leI_iff, ltI_iff, leI_iff.1 hl, catL_nil], by simp [nonE_t, catL_nil], rfl⟩
    | false =>
      cases h
      refine ⟨by simp, ?_⟩
      rw [t130f_eq]
      exact ⟨_, rfl, by simp [AllT_tt, AllT_gE, AllT_gT, AllT_nil, AllT_cons, impB_iff, leI_iff, ltI_iff], rfl, rfl⟩
  · cases h
theorem ok130 : FnOK Try.prog 130 s130 := by
  refine ok130b.open1 fun bs r h ho => ?_
  unfold s130 at h
  split at h
  · rename_i nk w xs
    cases hw : Nat.beq w 3 <;> rw [hw] at h <;> simp only [cond_true, cond_false, reduceCtorEq] at h
    have := beqT.1 hw
    subst this
    cases h
    refine ⟨nk, .st 3 xs, rfl, fun b hb => ?_⟩
    cases b with
    | true => exact ⟨_, rfl, ho, LesT.osl _ _, rfl⟩
    | false =>
      have hx : xs = [] := List.eq_nil_of_length_eq_zero (hb rfl)
      subst hx
      exact ⟨_, rfl, by simp [AllT_cons, AllT_nil, eqI, lenZ], LesT.osl _ _, rfl⟩
  · cases h
def l97 (n : Net) (rs : List (List Int)) (m i : Int) : Tr (Ex × St) :=
  let c0 := (getL n.pw i)
  let c1 := (ltI i (lenZ rs))
  (.node (ltI i m) (.leaf (some (.normal , ⟨mkS 35 [(1 , (.ref 1 0)), (2 , (.ref 2 0)), (3 , (.own 9)), (11 , (.sl none (.rows n.pw))), (12 , (.int .i64 m)), (13 , (.int .i64 (addI .i64 i
  1)))], [(1 , (.box [(.int .i64 n.nd), (.sl none (.rows n.pw)), (.int .i64 n.ns), (.int .i64 n.th), (.sl none (.st 3 n.ls)), (.sl none (.i1 n.mg))])), (2 , (.box [(.int .i64 0), (.own
  2002), (.int .i64 0), (.int .i64 0), (.own 5002), (.own 6002)])), (9 , (.arr (some true) (.rows (setL rs i c0))))], (tt 3 ((leI 0 i) :: (c1 :: (tt 2 ((leI 0 i) :: (c1 :: (tt 2 ((leI (lenZ
  c0) 1000000000) :: (tt 8 ((leI 0 i) :: ((ltI i (lenZ n.pw)) :: (tt 6 []))))))))))))⟩))) (.leaf (some ((.exit 0) , ⟨mkS 35 [(1 , (.ref 1 0)), (2 , (.ref 2 0)), (3 , (.own 9)), (11 , (.sl
  none (.rows n.pw))), (12 , (.int .i64 m)), (13 , (.int .i64 i))], [(1 , (.box [(.int .i64 n.nd), (.sl none (.rows n.pw)), (.int .i64 n.ns), (.int .i64 n.th), (.sl none (.st 3 n.ls)), (.sl
  none (.i1 n.mg))])), (2 , (.box [(.int .i64 0), (.own 2002), (.int .i64 0), (.int .i64 0), (.own 5002), (.own 6002)])), (9 , (.arr (some true) (.rows rs)))], (tt 3 [])⟩))))
theorem l97_eq (n : Net) (rs : List (List Int)) (m i : Int) : keepT 35 [1, 2, 3, 11, 12, 13] [1, 2, 9] (evT (cxs [129]) (tb [(129, s129)]) (orcT []) (loopB Try.f97 0) ⟨mkS 35 (zip2 [1, 2, 3, 11, 12, 13] [.ref 1 0, .ref 2 0, .own 9, .sl none (.rows n.pw), .int .i64 m, .int .i64 i]), zip2 [1, 2, 9] [.box (n.cells none none none),  .box [.int .i64 0, .own 2002, .int .i64 0, .int .i64 0, .own 5002, .own 6002], .arr (some true) (.rows rs)], []⟩) = l97 n rs m i := by kernel_rfl
theorem eqLs_rfl {x : List (List Int)} : eqLs x x = true := by simp [eqLs]
theorem setL_len (xs : List (List Int)) (i : Int) (v : List Int) : (setL xs i v).length = xs.length := by simp [setL]
theorem l97_ok (Γ : Env) (π : Nms) : LoopOK Try.prog Γ π 0 (loopB Try.f97 0) ls97 := by
  intro vs obs r h ho ok ok' hok hT
  simp only [ls97] at h
  split at h
  · rename_i pw m cs rs
    cases hn : netN cs with
    | none => rw [hn] at h; simp [Tr.sel] at h
    | some n =>
    obtain rfl := netN_inv hn
    rw [hn] at h
    simp only [Tr.sel, Option.some.injEq] at h
    subst h
    have hp : pw = n.pw := eqLs_iff.1 (ho (eqLs pw n.pw) (by simp))
    have hm : m = lenZ n.pw := eqI_iff.1 (ho (eqI m (lenZ n.pw)) (by simp))
    have hr : lenR rs = lenZ n.pw := eqI_iff.1 (ho (eqI (lenR rs) (lenZ n.pw)) (by simp))
    have hf : few n = true := ho (few n) (by simp)
    subst hm
    subst hp
    have hl := few_pw hf
    have hrow := rowsP_iff.1 (few_iff.1 hf).1
    simp only [lenR, lenZ] at hr
    have hr' : rs.length = n.pw.length := by omega
    refine loopK (X := List (List Int) × Nat) ⟨.cons ok129 .nil, rfl, by kernel_rfl, by kernel_rfl, .nil⟩ (fun x => [.ref 1 0, .ref 2 0, .own 9, .sl none (.rows n.pw), .int .i64 (lenZ n.pw), .int .i64 x.2]) (fun x => [.box (n.cells none none none), .box [.int .i64 0, .own 2002, .int .i64 0, .int .i64 0, .own 5002, .own 6002], .arr (some true) (.rows x.1)])
      (fun x => x.1.length = n.pw.length ∧ x.2 ≤ n.pw.length ∧ ∀ j, j < x.2 → x.1[j]? = n.pw[j]?) (fun x => n.pw.length - x.2) _ (fun x => l97 n x.1 (lenZ n.pw) x.2) (fun x => l97_eq n x.1 (lenZ n.pw) x.2) ?_ (x := (rs, 0)) ⟨hr', Nat.zero_le _, fun j hj => absurd hj (Nat.not_lt_zero j)⟩ hok hT
    rintro ⟨ys, k⟩ ⟨h1, h2, h3⟩
    simp only at h1 h2 h3 ⊢
    cases hc : ltI (k : Int) (lenZ n.pw) with
    | false =>
      have hk : n.pw.length ≤ k := by
        have : ¬ (k : Int) < lenZ n.pw := fun c => by rw [ltI_iff.2 c] at hc; cases hc
        simp only [lenZ] at this; omega
      have he : ys = n.pw := by
        refine List.ext_getElem? fun j => ?_
        by_cases hj : j < k
        · exact h3 j hj
        · rw [List.getElem?_eq_none (by omega), List.getElem?_eq_none (by omega)]
      subst he
      simp only [l97, Tr.sel, hc]
      exact ⟨_, _, rfl, by simp [AllT_tt, AllT_gE, AllT_gT, AllT_nil, AllT_cons, impB_iff, leI_iff, ltI_iff], .inr ⟨rfl, Fits.k (by kernel_rfl) (by kernel_rfl) (by kernel_rfl)⟩⟩
    | true =>
      have hlt := ltI_iff.1 hc
      have hlt' : k < n.pw.length := by simp only [lenZ] at hlt; omega
      have hys : (k : Int) < lenZ ys := by simp only [lenZ]; omega
      have e : addI .i64 (k : Int) 1 = ((k + 1 : Nat) : Int) := by simp only [lenZ] at hl; rw [addI_in (by omega) (by omega)]; omega
      have hrl : lenZ (getL n.pw (k : Int)) ≤ 40 := hrow _ (by omega) hlt
      simp only [l97, Tr.sel, hc, e]
      refine ⟨_, _, rfl, ?_, .inl ⟨rfl, (setL ys (k : Int) (getL n.pw (k : Int)), k + 1), ⟨by simp only [setL_len, h1], hlt', fun j hj => ?_⟩, by simp only; omega, Fits.k (by kernel_rfl) (by kernel_rfl) (by kernel_rfl)⟩⟩
      · simp [AllT_tt, AllT_gE, AllT_gT, AllT_nil, AllT_cons, impB_iff, leI_iff, ltI_iff, hys, hlt]; omega
      · simp only [setL, Int.toNat_natCast]
        by_cases hjk : j = k
        · subst hjk
          rw [List.getElem?_set_self (by omega)]
          simp [getL, List.getD_eq_getElem?_getD, hlt']
        · rw [List.getElem?_set_ne (by omega)]
          exact h3 j (by omega)
  · simp [Tr.sel] at h
def t97 (n : Net) : Tr Res :=
  let c0 := (eqI (lenZ n.pw) (lenZ n.pw))
  (.leaf (some ⟨(tt 12 ((leI (lenZ n.mg) 1000000000) :: (tt 4 ((leI (lenZ n.ls) 1000000000) :: (tt 5 ((eqLs n.pw n.pw) :: (c0 :: ((eqI (lenR (repL (lenZ n.pw) [])) (lenZ n.pw)) :: ((few n)
  :: (tt 5 (c0 :: ((leI 0 (lenZ n.pw)) :: ((leI (lenZ n.pw) 1000000000) :: (tt 6 [])))))))))))))), (.agg [(.int .i64 n.nd), (.osl (some true) (.rows n.pw)), (.int .i64 n.ns), (.int .i64
  n.th), (.osl none (.st 3 n.ls)), (.osl none (.i1 n.mg))]), [.junk]⟩))
theorem t97_eq (n : Net) : evFT (cxs [129, 130]) (tb [(129, s129), (130, s130)]) (orcT [(0, ls97)]) 97 Try.f97 [n.av none none none] = t97 n := by kernel_rfl
theorem ok97 : FnOK Try.prog 97 s97 := by
  refine FnOK.net1 (a := a97) ?_
  refine fnK (.cons ok129 (.cons ok130 .nil)) (fs := [129, 130]) rfl Try.func97 rfl (by kernel_rfl) (fun Γ π => .cons (l97_ok Γ π) .nil) ?_
  intro bs r h ho
  obtain ⟨n, rfl, h⟩ := on1n_inv h
  cases h
  have hf : few n = true := ho (few n) (by simp)
  refine ⟨by simp, ?_⟩
  rw [t97_eq]
  have h1 := few_pw hf
  have h2 := few_ls hf
  have h3 := few_mg hf
  have h0 : 0 ≤ lenZ n.pw := by simp [lenZ]
  have h4 : lenR (repL (lenZ n.pw) []) = lenZ n.pw := by simp [lenR, lenZ, repL]
  refine ⟨_, rfl, ?_, rfl, rfl⟩
  simp only [AllT_tt, AllT_gE, AllT_gT, AllT_nil, AllT_cons, impB_iff, leI_iff, ltI_iff, eqI_rfl, eqLI_rfl, eqRs_rfl, eqBs_rfl, iteB_rfl, AllT_true, eqLs_rfl, hf, h4, true_and, and_true]
  omega
def l51 (n : Net) (rs : List (List Int)) (i : Int) : Tr (Ex × St) :=
  let c0 := (ltI i (lenZ n.pw))
  let c1 := (getL n.pw i)
  let c2 := (catL rs [(catL [] c1)])
  let c3 := (eqRs n.pw n.pw)
  (.node c0 (.leaf (some (.normal , ⟨mkS 38 [(1 , (.ref 1 0)), (2 , (.ref 2 0)), (3 , (.ref 3 0)), (4 , (.int .i64 (addI .i64 i 1)))], [(1 , (.box [(.int .i64 n.nd), (.sl none (.rows
  n.pw)), (.int .i64 n.ns), (.int .i64 n.th), (.sl none (.st 3 n.ls)), (.sl none (.i1 n.mg))])), (2 , (.box [(.int .i64 0), (.own 2002), (.int .i64 0), (.int .i64 0), (.own 5002), (.own
  6002)])), (3 , (.box [(.int .i64 n.nd), (.own 6), (.int .i64 n.ns), (.int .i64 n.th), (.sl none (.st 3 n.ls)), (.sl none (.i1 n.mg))])), (6 , (.arr (some (impB (nonE [(catL [] c1)])
  true)) (.rows c2)))], (tt 6 ((leI (lenZ c2) 1000000000) :: (tt 6 ((leI (lenZ (catL [] c1)) 1000000000) :: (tt 8 (c3 :: (tt 1 ((eqI i i) :: ((leI 0 i) :: (c0 :: (tt 2 (c3 :: ((eqI i i) ::
  (tt 1 ((eqLI c1 c1) :: (tt 4 (c3 :: (tt 1 ((eqI i i) :: ((leI 0 i) :: (c0 :: (tt 2 (c3 :: ((eqI i i) :: (tt 1 ((eqLI c1 c1) :: (tt 7 [])))))))))))))))))))))))))))⟩))) (.leaf (some ((.exit
  0) , ⟨mkS 38 [(1 , (.ref 1 0)), (2 , (.ref 2 0)), (3 , (.ref 3 0)), (4 , (.int .i64 i))], [(1 , (.box [(.int .i64 n.nd), (.sl none (.rows n.pw)), (.int .i64 n.ns), (.int .i64 n.th), (.sl
  none (.st 3 n.ls)), (.sl none (.i1 n.mg))])), (2 , (.box [(.int .i64 0), (.own 2002), (.int .i64 0), (.int .i64 0), (.own 5002), (.own 6002)])), (3 , (.box [(.int .i64 n.nd), (.own 6),
  (.int .i64 n.ns), (.int .i64 n.th), (.sl none (.st 3 n.ls)), (.sl none (.i1 n.mg))])), (6 , (.arr (some true) (.rows rs)))], (tt 7 [])⟩))))
theorem l51_eq (n : Net) (rs : List (List Int)) (i : Int) : keepT 38 [1, 2, 3, 4] [1, 2, 3, 6] (evT (cxs []) (tb []) (orcT []) (loopB Try.f51 0) ⟨mkS 38 (zip2 [1, 2, 3, 4] [.ref 1 0, .ref 2 0, .ref 3 0, .int .i64 i]), zip2 [1, 2, 3, 6] [.box (n.cells none none none),  .box [.int .i64 0, .own 2002, .int .i64 0, .int .i64 0, .own 5002, .own 6002], .box [.int .i64 n.nd, .own 6, .int .i64 n.ns, .int .i64 n.th, .sl none (.st 3 n.ls), .sl none (.i1 n.mg)], .arr (some true) (.rows rs)], []⟩) = l51 n rs i := by kernel_rfl
theorem l51_ok (Γ : Env) (π : Nms) : LoopOK Try.prog Γ π 0 (loopB Try.f51 0) ls51 := by
  intro vs obs r h ho ok ok' hok hT
  simp only [ls51] at h
  split at h
  · rename_i cs nd ns th w ls mg
    cases hn : netN cs with
    | none => rw [hn] at h; simp [Tr.sel] at h
    | some n =>
    obtain rfl := netN_inv hn
    rw [hn] at h
    cases hw : Nat.beq w 3 <;> rw [hw] at h <;> simp only [Tr.sel, cond_true, cond_false, reduceCtorEq, Option.some.injEq] at h
    have := beqT.1 hw
    subst this
    subst h
    have e1 : nd = n.nd := eqI_iff.1 (ho (eqI nd n.nd) (by simp))
    have e2 : ns = n.ns := eqI_iff.1 (ho (eqI ns n.ns) (by simp))
    have e3 : th = n.th := eqI_iff.1 (ho (eqI th n.th) (by simp))
    have e4 : ls = n.ls := eqLs_iff.1 (ho (eqLs ls n.ls) (by simp))
    have e5 : mg = n.mg := eqLI_iff.1 (ho (eqLI mg n.mg) (by simp))
    have hf : few n = true := ho (few n) (by simp)
    subst e1 e2 e3 e4 e5
    have hl := few_pw hf
    have hrow := rowsP_iff.1 (few_iff.1 hf).1
    refine loopK (X := List (List Int) × Nat) ⟨.nil, rfl, by kernel_rfl, by kernel_rfl, .nil⟩ (fun x => [.ref 1 0, .ref 2 0, .ref 3 0, .int .i64 x.2])
      (fun x => [.box (n.cells none none none), .box [.int .i64 0, .own 2002, .int .i64 0, .int .i64 0, .own 5002, .own 6002], .box [.int .i64 n.nd, .own 6, .int .i64 n.ns, .int .i64 n.th, .sl none (.st 3 n.ls), .sl none (.i1 n.mg)], .arr (some true) (.rows x.1)])
      (fun x => x.2 ≤ n.pw.length ∧ x.1 = n.pw.take x.2) (fun x => n.pw.length - x.2) _ (fun x => l51 n x.1 x.2) (fun x => l51_eq n x.1 x.2) ?_ (x := ([], 0)) ⟨Nat.zero_le _, rfl⟩ hok hT
    rintro ⟨ys, k⟩ ⟨h2, h3⟩
    simp only at h2 h3 ⊢
    cases hc : ltI (k : Int) (lenZ n.pw) with
    | false =>
      have hk : n.pw.length ≤ k := by
        have : ¬ (k : Int) < lenZ n.pw := fun c => by rw [ltI_iff.2 c] at hc; cases hc
        simp only [lenZ] at this; omega
      have he : ys = n.pw := by rw [h3, List.take_of_length_le hk]
      clear h3
      subst he
      simp only [l51, Tr.sel, hc]
      exact ⟨_, _, rfl, by simp [AllT_tt, AllT_gE, AllT_gT, AllT_nil, AllT_cons, impB_iff, leI_iff, ltI_iff], .inr ⟨rfl, Fits.k (by kernel_rfl) (by kernel_rfl) (by kernel_rfl)⟩⟩
    | true =>
      have hlt := ltI_iff.1 hc
      have hlt' : k < n.pw.length := by simp only [lenZ] at hlt; omega
      have e : addI .i64 (k : Int) 1 = ((k + 1 : Nat) : Int) := by simp only [lenZ] at hl; rw [addI_in (by omega) (by omega)]; omega
      have hrl : lenZ (getL n.pw (k : Int)) ≤ 40 := hrow _ (by omega) hlt
      have hne : impB (nonE [catL [] (getL n.pw (k : Int))]) true = true := nonE_t
      have hyl : lenZ (catL ys [catL [] (getL n.pw (k : Int))]) ≤ 1000000000 := by
        have : ys.length ≤ n.pw.length := by rw [h3]; simp; omega
        simp only [lenZ, catL, List.length_append, List.length_singleton] at hl ⊢; omega
      have hcat : lenZ (catL [] (getL n.pw (k : Int))) ≤ 1000000000 := by rw [catL_nil]; omega
      simp only [l51, Tr.sel, hc, e, hne]
      refine ⟨_, _, rfl, ?_, .inl ⟨rfl, (catL ys [catL [] (getL n.pw (k : Int))], k + 1), ⟨hlt', ?_⟩, by simp only; omega, Fits.k (by kernel_rfl) (by kernel_rfl) (by kernel_rfl)⟩⟩
      · have i0 : leI 0 (k : Int) = true := leI_iff.2 (by omega)
        have i1 : leI (lenZ (catL ys [catL [] (getL n.pw (k : Int))])) 1000000000 = true := leI_iff.2 hyl
        have i2 : leI (lenZ (catL [] (getL n.pw (k : Int)))) 1000000000 = true := leI_iff.2 hcat
        simp only [eqI_rfl, eqLI_rfl, eqRs_rfl, eqBs_rfl, iteB_rfl, AllT_true, iteB_t, i0, i1, i2, AllT_tt, AllT_gE, AllT_gT, AllT_nil]
      · rw [h3, List.take_add_one, catL_nil]
        simp [catL, getL, List.getD_eq_getElem?_getD, hlt']
  · simp [Tr.sel] at h
def t51 (n : Net) : Tr Res :=
  let c0 := (catL [] n.mg)
  let c1 := (catL [] n.ls)
  (.leaf (some ⟨(tt 6 ((leI (lenZ c0) 1000000000) :: (tt 7 ((leI (lenZ c1) 1000000000) :: (tt 4 ((eqI n.nd n.nd) :: ((eqI n.ns n.ns) :: ((eqI n.th n.th) :: ((eqLs n.ls n.ls) :: ((eqLI n.mg
  n.mg) :: ((few n) :: (tt 8 [])))))))))))), (.agg [(.int .i64 n.nd), (.osl (some true) (.rows n.pw)), (.int .i64 n.ns), (.int .i64 n.th), (.osl (some (impB (nonE n.ls) true)) (.st 3 c1)),
  (.osl (some (impB (nonE n.mg) true)) (.i1 c0))]), [.junk]⟩))
theorem t51_eq (n : Net) : evFT (cxs []) (tb []) (orcT [(0, ls51)]) 51 Try.f51 [n.av none none none] = t51 n := by kernel_rfl
theorem ok51 : FnOK Try.prog 51 s51 := by
  refine FnOK.net1 (a := a51) ?_
  refine fnK .nil (fs := []) rfl Try.func51 rfl (by kernel_rfl) (fun Γ π => .cons (l51_ok Γ π) .nil) ?_
  intro bs r h ho
  obtain ⟨n, rfl, h⟩ := on1n_inv h
  cases h
  have hf : few n = true := ho (few n) (by simp)
  refine ⟨by simp, ?_⟩
  rw [t51_eq]
  have h2 := few_ls hf
  have h3 := few_mg hf
  refine ⟨_, rfl, ?_, by simp [nonE_t, catL_nil]; rfl, rfl⟩
  simp only [AllT_tt, AllT_gE, AllT_gT, AllT_nil, AllT_cons, impB_iff, leI_iff, ltI_iff, eqI_rfl, eqLI_rfl, eqRs_rfl, eqBs_rfl, iteB_rfl, AllT_true, eqLs_rfl, hf, catL_nil, true_and, and_true]
  omega
end Go.Sx
