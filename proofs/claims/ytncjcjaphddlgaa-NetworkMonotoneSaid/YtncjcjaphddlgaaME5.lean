/-
  The laws NetworkChecks, NetworkHears, NetworkMonotone return true at every network. No condition beyond those that each theorem names.
-/
import Derived.Test.YtncjcjaphddlgaaME4
import Derived.Test.YtncjcjaphddlgaaS7
import Derived.Test.YtncjcjaphddlgaaS6
set_option linter.unusedVariables false
set_option linter.unusedSimpArgs false
namespace Go.Sx
open Go Go.Proofs

def sT (n : Net) (k : Nat) : Option Res := some ⟨[leI (lenZ n.pw) 9223372036854775807], .bool true, juns k⟩
def s3 : List AV → Option Res := on3 fun n x y => sT n 3
def t3 (n : Net) (k1 k2 k3 : Option Bool) (x y : Int) : Tr Res :=
  let c0 := ((leI (lenZ n.pw) 9223372036854775807) :: (tt 8 []))
  let c1 := (eqI (chk n) (chk n))
  let c2 := (impB c1 (few n))
  (.node false (.leaf (some ⟨(tt 6 []), (.bool false), [.junk, .junk, .junk]⟩)) (.node (notB (few n)) (.leaf (some ⟨(tt 3 c0), (.bool true), [.junk, .junk, .junk]⟩)) (.leaf (some ⟨(tt 2 (gE
  c1 (gT (notB c1) (gE c1 (gE c1 (c2 :: (gT c1 (gE c1 (gE c1 (gE c1 (gT c1 (gT c1 (gT c1 (c2 :: (gT c1 (gE c1 (gE c1 (gE c1 (gT c1 (gT c1 (gT c1 (tt 3 ((few n) :: (tt 3 ((few n) :: (tt 5
  c0)))))))))))))))))))))))))), (.bool (andB c1 (eqI (idx n x y) (idx n x y)))), [.junk, .junk, .junk]⟩))))
theorem t3_eq (n : Net) (k1 k2 k3 : Option Bool) (x y : Int) : evFT (cxs [17, 18, 19, 20, 21, 22]) (tb [(17, s17), (18, s18), (19, s19), (20, s20), (21, s21), (22, s22)]) (orcT []) 3 Try.f3 [n.av k1 k2 k3, .int .i64 x, .int .i64 y] = t3 n k1 k2 k3 x y := by kernel_rfl
theorem ok3 : FnOK Try.prog 3 s3 := by
  refine fnK (.cons ok17 (.cons ok18 (.cons ok19 (.cons ok20 (.cons ok21 (.cons ok22 .nil)))))) (fs := [17, 18, 19, 20, 21, 22]) rfl Try.func3 rfl (by kernel_rfl) noLoops ?_
  intro bs r h ho
  obtain ⟨n, k1, k2, k3, x, y, rfl, h⟩ := on3_inv h
  cases h
  have hl : leI (lenZ n.pw) 9223372036854775807 = true := ho _ (by simp)
  refine ⟨by simp, ?_⟩
  rw [t3_eq]
  simp only [t3, Tr.sel]
  cases hf : few n with
  | false => exact ⟨_, rfl, by simp only [AllT_tt, AllT_gE, AllT_gT, AllT_cons, AllT_nil, hl, and_self], rfl, rfl⟩
  | true => exact ⟨_, rfl, by simp only [AllT_tt, AllT_gE, AllT_gT, AllT_cons, AllT_nil, hl, hf, impB_iff, implies_true, and_self], by simp [eqI, andB], rfl⟩
def s4 : List AV → Option Res
  | [a, .int .i64 s, .int .i64 d, .int .i64 i] => match netA a with
    | some n => sT n 4
    | none => none
  | _ => none
def t4 (n : Net) (k1 k2 k3 : Option Bool) (s d i : Int) : Tr Res :=
  let c0 := ((leI (lenZ n.pw) 9223372036854775807) :: (tt 8 []))
  let c1 := (iteB (hrs n s d) (hrs n s d) (notB (hrs n s d)))
  let c2 := (impB c1 (few n))
  (.node false (.leaf (some ⟨(tt 6 []), (.bool false), [.junk, .junk, .junk, .junk]⟩)) (.node (notB (few n)) (.leaf (some ⟨(tt 3 c0), (.bool true), [.junk, .junk, .junk, .junk]⟩)) (.leaf
  (some ⟨(tt 2 (gE c1 (gT (notB c1) (gE c1 (gE c1 (c2 :: (gT c1 (gE c1 (gE c1 (gT c1 (gT c1 (c2 :: (gT c1 (gE c1 (gE c1 (gT c1 (gT c1 (tt 3 ((few n) :: (tt 7 ((few n) :: (tt 9
  c0)))))))))))))))))))))), (.bool (andB c1 (iteB (usb n i) (usb n i) (notB (usb n i))))), [.junk, .junk, .junk, .junk]⟩))))
theorem t4_eq (n : Net) (k1 k2 k3 : Option Bool) (s d i : Int) : evFT (cxs [17, 18, 23, 24, 25, 26]) (tb [(17, s17), (18, s18), (23, s23), (24, s24), (25, s25), (26, s26)]) (orcT []) 4 Try.f4 [n.av k1 k2 k3, .int .i64 s, .int .i64 d, .int .i64 i] = t4 n k1 k2 k3 s d i := by kernel_rfl
theorem eqB_self (a : Bool) : eqB a a = true := by cases a <;> rfl
theorem ok4 : FnOK Try.prog 4 s4 := by
  refine fnK (.cons ok17 (.cons ok18 (.cons ok23 (.cons ok24 (.cons ok25 (.cons ok26 .nil)))))) (fs := [17, 18, 23, 24, 25, 26]) rfl Try.func4 rfl (by kernel_rfl) noLoops ?_
  intro bs r h ho
  unfold s4 at h
  split at h
  · rename_i a s d i
    split at h
    · rename_i n hn
      obtain ⟨k1, k2, k3, rfl⟩ := netA_inv hn
      cases h
      have hl : leI (lenZ n.pw) 9223372036854775807 = true := ho _ (by simp)
      refine ⟨by simp, ?_⟩
      rw [t4_eq]
      simp only [t4, Tr.sel]
      cases hf : few n with
      | false => exact ⟨_, rfl, by simp only [AllT_tt, AllT_gE, AllT_gT, AllT_cons, AllT_nil, hl, and_self], rfl, rfl⟩
      | true => exact ⟨_, rfl, by simp only [AllT_tt, AllT_gE, AllT_gT, AllT_cons, AllT_nil, hl, hf, impB_iff, implies_true, and_self], by cases hrs n s d <;> cases usb n i <;> rfl, rfl⟩
    · cases h
  · cases h
end Go.Sx
