/- The law of function 4: every station leads to its end. -/
import Derived.Test.YtijieojklndakaaHlS0
import Derived.Test.YtijieojklndakaaHlS1
import Derived.Test.YtijieojklndakaaHlS2
import Derived.Test.YtijieojklndakaaHlS3
namespace Go.Proofs.Ytijieojklndakaa.law4
open Go Go.Ns
abbrev G (t : Stn) : Prop := Go.Ns.Good Try.prog 164 body 6 t
theorem g22 : G s22 := stage_ok mixed call2_ok t22 (by simp)
theorem g21 : G s21 := stage_ok mixed call2_ok t21 (by
  intro t ht
  simp only [List.mem_cons, List.not_mem_nil, or_false] at ht
  subst ht; exact g22)
theorem g20 : G s20 := stage_ok mixed call2_ok t20 (by
  intro t ht
  simp only [List.mem_cons, List.not_mem_nil, or_false] at ht
  subst ht; exact g22)
theorem g19 : G s19 := stage_ok mixed call2_ok t19 (by
  intro t ht
  simp only [List.mem_cons, List.not_mem_nil, or_false] at ht
  subst ht; exact g22)
theorem g18 : G s18 := stage_ok mixed call2_ok t18 (by
  intro t ht
  simp only [List.mem_cons, List.not_mem_nil, or_false] at ht
  rcases ht with rfl | rfl | rfl
  · exact g19
  · exact g20
  · exact g21
)
theorem g17 : G s17 := stage_ok mixed call2_ok t17 (by
  intro t ht
  simp only [List.mem_cons, List.not_mem_nil, or_false] at ht
  subst ht; exact g18)
theorem g16 : G s16 := stage_ok mixed call2_ok t16 (by
  intro t ht
  simp only [List.mem_cons, List.not_mem_nil, or_false] at ht
  subst ht; exact g17)
theorem g15 : G s15 := stage_ok mixed call2_ok t15 (by
  intro t ht
  simp only [List.mem_cons, List.not_mem_nil, or_false] at ht
  subst ht; exact g16)
theorem g14 : G s14 := stage_ok mixed call2_ok t14 (by
  intro t ht
  simp only [List.mem_cons, List.not_mem_nil, or_false] at ht
  subst ht; exact g15)
theorem g13 : G s13 := stage_ok mixed call2_ok t13 (by
  intro t ht
  simp only [List.mem_cons, List.not_mem_nil, or_false] at ht
  subst ht; exact g14)
theorem g12 : G s12 := stage_ok mixed call2_ok t12 (by
  intro t ht
  simp only [List.mem_cons, List.not_mem_nil, or_false] at ht
  subst ht; exact g13)
theorem g11 : G s11 := stage_ok mixed call2_ok t11 (by
  intro t ht
  simp only [List.mem_cons, List.not_mem_nil, or_false] at ht
  subst ht; exact g12)
theorem g10 : G s10 := stage_ok mixed call2_ok t10 (by
  intro t ht
  simp only [List.mem_cons, List.not_mem_nil, or_false] at ht
  subst ht; exact g11)
theorem g9 : G s9 := stage_ok mixed call2_ok t9 (by
  intro t ht
  simp only [List.mem_cons, List.not_mem_nil, or_false] at ht
  subst ht; exact g10)
theorem g8 : G s8 := stage_ok mixed call2_ok t8 (by
  intro t ht
  simp only [List.mem_cons, List.not_mem_nil, or_false] at ht
  subst ht; exact g9)
theorem g7 : G s7 := stage_ok mixed call2_ok t7 (by
  intro t ht
  simp only [List.mem_cons, List.not_mem_nil, or_false] at ht
  subst ht; exact g8)
theorem g6 : G s6 := stage_ok mixed call2_ok t6 (by
  intro t ht
  simp only [List.mem_cons, List.not_mem_nil, or_false] at ht
  subst ht; exact g7)
theorem g5 : G s5 := stage_ok mixed call2_ok t5 (by
  intro t ht
  simp only [List.mem_cons, List.not_mem_nil, or_false] at ht
  subst ht; exact g6)
theorem g4 : G s4 := stage_ok mixed call2_ok t4 (by
  intro t ht
  simp only [List.mem_cons, List.not_mem_nil, or_false] at ht
  subst ht; exact g5)
theorem g3 : G s3 := stage_ok mixed call2_ok t3 (by
  intro t ht
  simp only [List.mem_cons, List.not_mem_nil, or_false] at ht
  subst ht; exact g4)
theorem g2 : G s2 := stage_ok mixed call2_ok t2 (by
  intro t ht
  simp only [List.mem_cons, List.not_mem_nil, or_false] at ht
  subst ht; exact g3)
theorem g1 : G s1 := stage_ok mixed call2_ok t1 (by
  intro t ht
  simp only [List.mem_cons, List.not_mem_nil, or_false] at ht
  subst ht; exact g2)
theorem g0 : G s0 := stage_ok mixed call2_ok t0 (by
  intro t ht
  simp only [List.mem_cons, List.not_mem_nil, or_false] at ht
  subst ht; exact g1)
end Go.Proofs.Ytijieojklndakaa.law4
