/-
  The law NetworkReaches returns true at every network and number. No condition beyond those that each theorem names.
-/
import Derived.Test.YtncjcjaphddlgaaME11
import Derived.Test.YtncjcjaphddlgaaS7
import Derived.Test.YtncjcjaphddlgaaS6
set_option linter.unusedVariables false
set_option linter.unusedSimpArgs false
namespace Go.Sx
open Go Go.Proofs

def s7 : List AV → Option Res := on2 fun n v => some ⟨[leI (lenZ n.pw) 9223372036854775807], .bool true, [.junk, .junk]⟩
def t7 (n : Net) (k1 k2 k3 : Option Bool) (v : Int) : Tr Res :=
  let c0 := ((leI (lenZ n.pw) 9223372036854775807) :: (tt 8 []))
  let c1 := (lenZ (nx n v))
  let c2 := (andB (eqI c1 (lenZ (rx n v))) (notB (leI 0 (difZ (nx n v) (rx n v)))))
  let c3 := (lenZ (rchL n v))
  let c4 := (impB c2 (few n))
  (.node false (.leaf (some ⟨(tt 6 []), (.bool false), [.junk, .junk]⟩)) (.node (notB (few n)) (.leaf (some ⟨(tt 3 c0), (.bool true), [.junk, .junk]⟩)) (.leaf (some ⟨(tt 2 (gE c2 (gT (notB
  c2) ((impB c2 (leI c3 1000)) :: (gT c2 (gE c2 (gE c2 (c4 :: (gT c2 (gE c2 (gE c2 (gT c2 (gT c2 (c4 :: (gT c2 (gE c2 (gE c2 (gT c2 (gT c2 (tt 1 ((leI c1 1000) :: (tt 3 ((few n) :: (tt 5
  ((few n) :: (tt 7 c0)))))))))))))))))))))))))), (.bool (andB c2 (andB (eqI c3 (lenZ (rrchL n v))) (notB (leI 0 (difZ (rchL n v) (rrchL n v))))))), [.junk, .junk]⟩))))
theorem t7_eq (n : Net) (k1 k2 k3 : Option Bool) (v : Int) : evFT (cxs [17, 18, 37, 38, 39, 40, 41]) (tb [(17, s17), (18, s18), (37, s37), (38, s38), (39, s39), (40, s40), (41, s41)]) (orcT []) 7 Try.f7 [n.av k1 k2 k3, .int .i64 v] = t7 n k1 k2 k3 v := by kernel_rfl
theorem nx_len {n : Net} {v : Int} (hf : few n = true) : lenZ (nx n v) ≤ 1000 := by
  have := few_ls hf
  unfold nx
  cases eqI (chk n) 0 with
  | true => have := nxs_len (n := n) (v := v); show lenZ (nxs n v) ≤ 1000; omega
  | false => show lenZ ([] : List Int) ≤ 1000; simp [lenZ]
theorem rchL_len {n : Net} {v : Int} (hf : few n = true) : lenZ (rrchL n v) ≤ 1000 := by
  unfold rrchL
  cases hb : rchB n v with
  | true =>
    have h := chk_zero.1 (eqI_iff.1 (andB_iff.1 hb).1)
    have hnd := h.nd
    have := gath_len (p := fun j => getB (relC n (setB (repL n.nd false) v true)) j) (g := fun j => j) (k := n.nd.toNat) (i := 0) (acc := [])
    simp only [List.length_nil] at this
    show lenZ (pick1 n _) ≤ 1000
    simp only [lenZ, pick1]
    omega
  | false => show lenZ ([] : List Int) ≤ 1000; simp [lenZ]
theorem ok7 : FnOK Try.prog 7 s7 := by
  refine fnK (.cons ok17 (.cons ok18 (.cons ok37 (.cons ok38 (.cons ok39 (.cons ok40 (.cons ok41 .nil))))))) (fs := [17, 18, 37, 38, 39, 40, 41]) rfl Try.func7 rfl (by kernel_rfl) noLoops ?_
  intro bs r h ho
  obtain ⟨n, k1, k2, k3, v, rfl, h⟩ := on2_inv h
  cases h
  have hl : leI (lenZ n.pw) 9223372036854775807 = true := ho _ (by simp)
  refine ⟨by simp, ?_⟩
  rw [t7_eq]
  simp only [t7, Tr.sel]
  cases hf : few n with
  | false => exact ⟨_, rfl, by simp [AllT_tt, AllT_gE, AllT_gT, AllT_nil, AllT_cons, impB_iff, leI_iff, ltI_iff, leI_iff.1 hl], rfl, rfl⟩
  | true =>
    have e1 : nx n v = rx n v := nx_rx
    have e2 : rchL n v = rrchL n v := rchL_eq hf
    have l1 := nx_len (v := v) hf
    rw [e1] at l1
    have l2 := rchL_len (v := v) hf
    have hn : notB true = false := rfl
    simp only [hn, e1, e2, sameL]
    refine ⟨_, rfl, ?_, rfl, rfl⟩
    simp [AllT_tt, AllT_gE, AllT_gT, AllT_nil, AllT_cons, impB_iff, leI_iff, ltI_iff, leI_iff.1 hl, hf, l1, l2]
end Go.Sx
