/- The law of function 7: every station leads to its end. -/
import Derived.Test.YtijieojklndakaaHfS0
import Derived.Test.YtijieojklndakaaHfS1
import Derived.Test.YtijieojklndakaaHfS2
import Derived.Test.YtijieojklndakaaHfS3
import Derived.Test.YtijieojklndakaaHfS4
import Derived.Test.YtijieojklndakaaHfS5
import Derived.Test.YtijieojklndakaaHfS6
namespace Go.Proofs.Ytijieojklndakaa.law7
open Go Go.Ns
abbrev G (t : Stn) : Prop := Go.Ns.Good Try.prog 166 body 4 t
theorem g32 : G s32 := stage_ok mixed call2_ok t32 (by simp)
theorem g31 : G s31 := stage_ok mixed call2_ok t31 (by simp)
theorem g30 : G s30 := stage_ok mixed call2_ok t30 (by simp)
theorem g29 : G s29 := stage_ok mixed call2_ok t29 (by simp)
theorem g28 : G s28 := stage_ok mixed call2_ok t28 (by simp)
theorem g27 : G s27 := stage_ok mixed call2_ok t27 (by simp)
theorem g26 : G s26 := stage_ok mixed call2_ok t26 (by simp)
theorem g25 : G s25 := stage_ok mixed call2_ok t25 (by
  intro t ht
  simp only [List.mem_cons, List.not_mem_nil, or_false] at ht
  subst ht; exact g32)
theorem g24 : G s24 := stage_ok mixed call2_ok t24 (by
  intro t ht
  simp only [List.mem_cons, List.not_mem_nil, or_false] at ht
  subst ht; exact g31)
theorem g23 : G s23 := stage_ok mixed call2_ok t23 (by
  intro t ht
  simp only [List.mem_cons, List.not_mem_nil, or_false] at ht
  subst ht; exact g30)
theorem g22 : G s22 := stage_ok mixed call2_ok t22 (by
  intro t ht
  simp only [List.mem_cons, List.not_mem_nil, or_false] at ht
  subst ht; exact g29)
theorem g21 : G s21 := stage_ok mixed call2_ok t21 (by
  intro t ht
  simp only [List.mem_cons, List.not_mem_nil, or_false] at ht
  subst ht; exact g28)
theorem g20 : G s20 := stage_ok mixed call2_ok t20 (by
  intro t ht
  simp only [List.mem_cons, List.not_mem_nil, or_false] at ht
  subst ht; exact g27)
theorem g19 : G s19 := stage_ok mixed call2_ok t19 (by
  intro t ht
  simp only [List.mem_cons, List.not_mem_nil, or_false] at ht
  subst ht; exact g26)
theorem g18 : G s18 := stage_ok mixed call2_ok t18 (by
  intro t ht
  simp only [List.mem_cons, List.not_mem_nil, or_false] at ht
  rcases ht with rfl | rfl | rfl | rfl | rfl | rfl | rfl
  · exact g19
  · exact g20
  · exact g21
  · exact g22
  · exact g23
  · exact g24
  · exact g25
)
theorem g17 : G s17 := stage_ok mixed call2_ok t17 (by
  intro t ht
  simp only [List.mem_cons, List.not_mem_nil, or_false] at ht
  subst ht; exact g18)
theorem g16 : G s16 := stage_ok mixed call2_ok t16 (by
  intro t ht
  simp only [List.mem_cons, List.not_mem_nil, or_false] at ht
  subst ht; exact g17)
theorem g15 : G s15 := stage_ok mixed call2_ok t15 (by
  intro t ht
  simp only [List.mem_cons, List.not_mem_nil, or_false] at ht
  subst ht; exact g16)
theorem g14 : G s14 := stage_ok mixed call2_ok t14 (by
  intro t ht
  simp only [List.mem_cons, List.not_mem_nil, or_false] at ht
  subst ht; exact g15)
theorem g13 : G s13 := stage_ok mixed call2_ok t13 (by
  intro t ht
  simp only [List.mem_cons, List.not_mem_nil, or_false] at ht
  subst ht; exact g14)
theorem g12 : G s12 := stage_ok mixed call2_ok t12 (by
  intro t ht
  simp only [List.mem_cons, List.not_mem_nil, or_false] at ht
  subst ht; exact g13)
theorem g11 : G s11 := stage_ok mixed call2_ok t11 (by
  intro t ht
  simp only [List.mem_cons, List.not_mem_nil, or_false] at ht
  subst ht; exact g12)
theorem g10 : G s10 := stage_ok mixed call2_ok t10 (by
  intro t ht
  simp only [List.mem_cons, List.not_mem_nil, or_false] at ht
  subst ht; exact g11)
theorem g9 : G s9 := stage_ok mixed call2_ok t9 (by
  intro t ht
  simp only [List.mem_cons, List.not_mem_nil, or_false] at ht
  subst ht; exact g10)
theorem g8 : G s8 := stage_ok mixed call2_ok t8 (by
  intro t ht
  simp only [List.mem_cons, List.not_mem_nil, or_false] at ht
  subst ht; exact g9)
theorem g7 : G s7 := stage_ok mixed call2_ok t7 (by
  intro t ht
  simp only [List.mem_cons, List.not_mem_nil, or_false] at ht
  subst ht; exact g8)
theorem g6 : G s6 := stage_ok mixed call2_ok t6 (by
  intro t ht
  simp only [List.mem_cons, List.not_mem_nil, or_false] at ht
  subst ht; exact g7)
theorem g5 : G s5 := stage_ok mixed call2_ok t5 (by
  intro t ht
  simp only [List.mem_cons, List.not_mem_nil, or_false] at ht
  subst ht; exact g6)
theorem g4 : G s4 := stage_ok mixed call2_ok t4 (by
  intro t ht
  simp only [List.mem_cons, List.not_mem_nil, or_false] at ht
  subst ht; exact g5)
theorem g3 : G s3 := stage_ok mixed call2_ok t3 (by
  intro t ht
  simp only [List.mem_cons, List.not_mem_nil, or_false] at ht
  subst ht; exact g4)
theorem g2 : G s2 := stage_ok mixed call2_ok t2 (by
  intro t ht
  simp only [List.mem_cons, List.not_mem_nil, or_false] at ht
  subst ht; exact g3)
theorem g1 : G s1 := stage_ok mixed call2_ok t1 (by
  intro t ht
  simp only [List.mem_cons, List.not_mem_nil, or_false] at ht
  subst ht; exact g2)
theorem g0 : G s0 := stage_ok mixed call2_ok t0 (by
  intro t ht
  simp only [List.mem_cons, List.not_mem_nil, or_false] at ht
  subst ht; exact g1)
end Go.Proofs.Ytijieojklndakaa.law7
