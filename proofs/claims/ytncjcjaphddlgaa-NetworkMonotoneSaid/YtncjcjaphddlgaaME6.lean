/-
  The law NetworkMonotone returns true at every network and four numbers of 32 bits. No condition beyond those that each theorem names.
-/
import Derived.Test.YtncjcjaphddlgaaME5
import Derived.Test.YtncjcjaphddlgaaS6
set_option linter.unusedVariables false
set_option linter.unusedSimpArgs false
namespace Go.Sx
open Go Go.Proofs

def s5 : List AV → Option Res
  | [a, .int .u32 s, .int .u32 d, .int .u32 m, .int .u32 l] => match netA a with
    | some n => some ⟨[leI (lenZ n.pw) 9223372036854775807, inB s 0 4294967295, inB d 0 4294967295, inB m 0 4294967295, inB l 0 4294967295], .bool true, juns 5⟩
    | none => none
  | _ => none
def t5 (n : Net) (k1 k2 k3 : Option Bool) (s d m l : Int) : Tr Res :=
  let c0 := (notB (few n))
  let c1 := (gT c0 (gE (notB c0) (gE (notB c0) (gT (notB c0) ((impB (notB c0) (few n)) :: (gT (notB c0) (gE (notB c0) (gT (notB c0) (tt 2 ((leI (lenZ n.pw) 9223372036854775807) :: (tt 8
  [])))))))))))
  let c2 := ((few n) :: (tt 19 ((few n) :: (tt 15 c1))))
  let c3 := (hrs n (addI .i64 (cvI .i64 s) (cvI .i64 m)) (maxI 0 (sbI .i64 (cvI .i64 d) (cvI .i64 l))))
  let c4 := (andB c3 (leI n.ns (cvI .i64 s)))
  (.node false (.leaf (some ⟨(tt 6 []), (.bool false), [.junk, .junk, .junk, .junk, .junk]⟩)) (.node (orB c0 (neI (chk n) 0)) (.leaf (some ⟨(tt 3 c1), (.bool true), [.junk, .junk, .junk,
  .junk, .junk]⟩)) (.node (notB (hrs n (cvI .i64 s) (cvI .i64 d))) (.leaf (some ⟨(tt 2 c2), (.bool (notB (hrs n (maxI 0 (sbI .i64 (cvI .i64 s) (cvI .i64 m))) (addI .i64 (cvI .i64 d) (cvI
  .i64 l))))), [.junk, .junk, .junk, .junk, .junk]⟩)) (.leaf (some ⟨(tt 2 (gE c4 (gT (notB c4) (gE c4 (gE c4 (gT c4 (gT c4 (tt 2 (gE c3 (gT (notB c3) (gE c3 (gE c3 (gE c3 (gT c3 (gT c3 (tt
  1 c2)))))))))))))))), (.bool (andB c4 (leI (cvI .i64 d) (cvI .i64 s)))), [.junk, .junk, .junk, .junk, .junk]⟩)))))
theorem t5_eq (n : Net) (k1 k2 k3 : Option Bool) (s d m l : Int) : evFT (cxs [17, 18, 19, 23]) (tb [(17, s17), (18, s18), (19, s19), (23, s23)]) (orcT []) 5 Try.f5 [n.av k1 k2 k3, .int .u32 s, .int .u32 d, .int .u32 m, .int .u32 l] = t5 n k1 k2 k3 s d m l := by kernel_rfl
theorem cv_u32 {x : Int} (h : inB x 0 4294967295 = true) : cvI .i64 x = x := by
  have := inB_iff.1 h
  exact IntWalk.i64_in _ ⟨by omega, by omega⟩
/-- what is heard, without wrapping -/
theorem heard_iff {n : Net} (h : n.Ok) {s d : Int} (hs : 0 ≤ s) (hs' : s ≤ 8796093022208) (hd : 0 ≤ d) (hd' : d ≤ 8796093022208) : heard n s d = true ↔ n.th * (n.ns + d) ≤ s * 1000 := by
  have h1 := h.ns
  have h2 := h.th
  have e1 : addI .i64 n.ns d = n.ns + d := addI_in (by omega) (by omega)
  have b1 : n.th * (n.ns + d) ≤ 100000 * (68719476736 + 8796093022208) := Int.mul_le_mul h2.2 (by omega) (by omega) (by omega)
  have b2 : 0 ≤ n.th * (n.ns + d) := Int.mul_nonneg (by omega) (by omega)
  have e2 : mulI .i64 n.th (n.ns + d) = n.th * (n.ns + d) := mulI_in (by omega) (by omega)
  have e3 : mulI .i64 s 1000 = s * 1000 := mulI_in (by omega) (by omega)
  rw [heard, e1, e2, e3, leI_iff]
theorem hrs_iff {n : Net} (h : n.Ok) {s d : Int} : hrs n s d = true ↔ (0 ≤ s ∧ s ≤ 8796093022208) ∧ (0 ≤ d ∧ d ≤ 8796093022208) ∧ n.th * (n.ns + d) ≤ s * 1000 := by
  rw [hrs, andB_iff, andB_iff, andB_iff, eqI_iff, inB_iff, inB_iff]
  constructor
  · intro ⟨_, h1, h2, h3⟩
    exact ⟨h1, h2, (heard_iff h h1.1 h1.2 h2.1 h2.2).1 h3⟩
  · intro ⟨h1, h2, h3⟩
    exact ⟨chk_zero.2 h, h1, h2, (heard_iff h h1.1 h1.2 h2.1 h2.2).2 h3⟩
theorem ok5 : FnOK Try.prog 5 s5 := by
  refine fnK (.cons ok17 (.cons ok18 (.cons ok19 (.cons ok23 .nil)))) (fs := [17, 18, 19, 23]) rfl Try.func5 rfl (by kernel_rfl) noLoops ?_
  intro bs r h ho
  unfold s5 at h
  split at h
  · rename_i a s d m l
    split at h
    · rename_i n hn
      obtain ⟨k1, k2, k3, rfl⟩ := netA_inv hn
      cases h
      have hl : leI (lenZ n.pw) 9223372036854775807 = true := ho _ (by simp)
      have bs : inB s 0 4294967295 = true := ho _ (by simp)
      have bd : inB d 0 4294967295 = true := ho _ (by simp)
      have bm : inB m 0 4294967295 = true := ho _ (by simp)
      have bl : inB l 0 4294967295 = true := ho _ (by simp)
      refine ⟨by simp, ?_⟩
      rw [t5_eq]
      simp only [t5, Tr.sel, cv_u32 bs, cv_u32 bd, cv_u32 bm, cv_u32 bl]
      have bs := inB_iff.1 bs
      have bd := inB_iff.1 bd
      have bm := inB_iff.1 bm
      have bl := inB_iff.1 bl
      have e1 : sbI .i64 s m = s - m := sbI_in (by omega) (by omega)
      have e2 : addI .i64 d l = d + l := addI_in (by omega) (by omega)
      have e3 : addI .i64 s m = s + m := addI_in (by omega) (by omega)
      have e4 : sbI .i64 d l = d - l := sbI_in (by omega) (by omega)
      simp only [e1, e2, e3, e4]
      cases hf : few n with
      | false => exact ⟨_, rfl, by simp [AllT_tt, AllT_gE, AllT_gT, AllT_nil, AllT_cons, impB_iff, leI_iff, ltI_iff, hl, hf, leI_iff.1 hl, notB], rfl, rfl⟩
      | true =>
        cases hc : neI (chk n) 0 with
        | true => exact ⟨_, rfl, by simp [AllT_tt, AllT_gE, AllT_gT, AllT_nil, AllT_cons, impB_iff, leI_iff, ltI_iff, hl, hf, leI_iff.1 hl], rfl, rfl⟩
        | false =>
          have hok := chk_zero.1 (neI_false.1 hc)
          have hth := hok.th
          have hns := hok.ns
          cases hh : hrs n s d with
          | false =>
            have hno : hrs n (maxI 0 (s - m)) (d + l) = false := by
              cases hx : hrs n (maxI 0 (s - m)) (d + l) with
              | false => rfl
              | true =>
                have hx := (hrs_iff hok).1 hx
                have : hrs n s d = true := (hrs_iff hok).2 ⟨by omega, by omega, by
                  have b1 : n.th * (n.ns + d) ≤ n.th * (n.ns + (d + l)) := Int.mul_le_mul_of_nonneg_left (by omega) (by omega)
                  have b2 : maxI 0 (s - m) ≤ s := by unfold maxI; split <;> omega
                  omega⟩
                rw [hh] at this; cases this
            exact ⟨_, rfl, by simp [AllT_tt, AllT_gE, AllT_gT, AllT_nil, AllT_cons, impB_iff, leI_iff, ltI_iff, hl, hf, leI_iff.1 hl], by rw [hno]; rfl, rfl⟩
          | true =>
            have hh' := (hrs_iff hok).1 hh
            have b0 : 0 ≤ maxI 0 (d - l) ∧ maxI 0 (d - l) ≤ d := by unfold maxI; split <;> omega
            have hyes : hrs n (s + m) (maxI 0 (d - l)) = true := (hrs_iff hok).2 ⟨by omega, by omega, by
              have b1 : n.th * (n.ns + maxI 0 (d - l)) ≤ n.th * (n.ns + d) := Int.mul_le_mul_of_nonneg_left (by omega) (by omega)
              omega⟩
            have b2 : 1000 * (n.ns + d) ≤ n.th * (n.ns + d) := Int.mul_le_mul_of_nonneg_right (by omega) (by omega)
            have h1 : leI n.ns s = true := leI_iff.2 (by omega)
            have h2 : leI d s = true := leI_iff.2 (by omega)
            exact ⟨_, rfl, by simp [AllT_tt, AllT_gE, AllT_gT, AllT_nil, AllT_cons, impB_iff, leI_iff, ltI_iff, hl, hf, leI_iff.1 hl], by simp [hyes, h1, h2, andB], rfl⟩
    · cases h
  · cases h
end Go.Sx
