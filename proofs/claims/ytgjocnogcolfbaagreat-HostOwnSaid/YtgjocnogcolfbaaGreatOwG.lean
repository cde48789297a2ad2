/- The law of function 3: every station leads to its end. -/
import Derived.Test.YtgjocnogcolfbaaGreatOwS0
import Derived.Test.YtgjocnogcolfbaaGreatOwS1
import Derived.Test.YtgjocnogcolfbaaGreatOwS2
import Derived.Test.YtgjocnogcolfbaaGreatOwS3
namespace Go.Proofs.YtgjocnogcolfbaaGreat.law3
open Go Go.Ns
abbrev G (t : Stn) : Prop := Go.Ns.Good Tryz.prog 77 body 4 t
theorem g11 : G s11 := stage_ok mixed call_ok t11 (by simp)
theorem g10 : G s10 := stage_ok mixed call_ok t10 (by
  intro t ht
  simp only [List.mem_cons, List.not_mem_nil, or_false] at ht
  subst ht; exact g11)
theorem g9 : G s9 := stage_ok mixed call_ok t9 (by
  intro t ht
  simp only [List.mem_cons, List.not_mem_nil, or_false] at ht
  subst ht; exact g10)
theorem g8 : G s8 := stage_ok mixed call_ok t8 (by
  intro t ht
  simp only [List.mem_cons, List.not_mem_nil, or_false] at ht
  subst ht; exact g9)
theorem g7 : G s7 := stage_ok mixed call_ok t7 (by
  intro t ht
  simp only [List.mem_cons, List.not_mem_nil, or_false] at ht
  subst ht; exact g8)
theorem g6 : G s6 := stage_ok mixed call_ok t6 (by
  intro t ht
  simp only [List.mem_cons, List.not_mem_nil, or_false] at ht
  subst ht; exact g7)
theorem g5 : G s5 := stage_ok mixed call_ok t5 (by
  intro t ht
  simp only [List.mem_cons, List.not_mem_nil, or_false] at ht
  subst ht; exact g6)
theorem g4 : G s4 := stage_ok mixed call_ok t4 (by
  intro t ht
  simp only [List.mem_cons, List.not_mem_nil, or_false] at ht
  subst ht; exact g5)
theorem g3 : G s3 := stage_ok mixed call_ok t3 (by
  intro t ht
  simp only [List.mem_cons, List.not_mem_nil, or_false] at ht
  subst ht; exact g4)
theorem g2 : G s2 := stage_ok mixed call_ok t2 (by
  intro t ht
  simp only [List.mem_cons, List.not_mem_nil, or_false] at ht
  subst ht; exact g3)
theorem g1 : G s1 := stage_ok mixed call_ok t1 (by
  intro t ht
  simp only [List.mem_cons, List.not_mem_nil, or_false] at ht
  subst ht; exact g2)
theorem g0 : G s0 := stage_ok mixed call_ok t0 (by
  intro t ht
  simp only [List.mem_cons, List.not_mem_nil, or_false] at ht
  subst ht; exact g1)
end Go.Proofs.YtgjocnogcolfbaaGreat.law3
