/- The table of the sums, more rounds. -/
import Derived.Test.YtokdkmlpfkeeaaaCrcT2
set_option maxRecDepth 100000
set_option maxHeartbeats 4000000
set_option linter.unusedVariables false
set_option linter.unusedSimpArgs false
namespace Go.Fx
open Go.Proofs
namespace Crc
theorem t85 : fol CK Try.prog ST scr (T.evQ CK Try.prog (tabQ 85) .done) = .ask (tabQ (85 + 1)) tabA (.done tabA) := by kernel_rfl
theorem q85 : QOk Try.prog CK (tabQ 85) tabA := step t85 q86
theorem t84 : fol CK Try.prog ST scr (T.evQ CK Try.prog (tabQ 84) .done) = .ask (tabQ (84 + 1)) tabA (.done tabA) := by kernel_rfl
theorem q84 : QOk Try.prog CK (tabQ 84) tabA := step t84 q85
theorem t83 : fol CK Try.prog ST scr (T.evQ CK Try.prog (tabQ 83) .done) = .ask (tabQ (83 + 1)) tabA (.done tabA) := by kernel_rfl
theorem q83 : QOk Try.prog CK (tabQ 83) tabA := step t83 q84
theorem t82 : fol CK Try.prog ST scr (T.evQ CK Try.prog (tabQ 82) .done) = .ask (tabQ (82 + 1)) tabA (.done tabA) := by kernel_rfl
theorem q82 : QOk Try.prog CK (tabQ 82) tabA := step t82 q83
theorem t81 : fol CK Try.prog ST scr (T.evQ CK Try.prog (tabQ 81) .done) = .ask (tabQ (81 + 1)) tabA (.done tabA) := by kernel_rfl
theorem q81 : QOk Try.prog CK (tabQ 81) tabA := step t81 q82
theorem t80 : fol CK Try.prog ST scr (T.evQ CK Try.prog (tabQ 80) .done) = .ask (tabQ (80 + 1)) tabA (.done tabA) := by kernel_rfl
theorem q80 : QOk Try.prog CK (tabQ 80) tabA := step t80 q81
theorem t79 : fol CK Try.prog ST scr (T.evQ CK Try.prog (tabQ 79) .done) = .ask (tabQ (79 + 1)) tabA (.done tabA) := by kernel_rfl
theorem q79 : QOk Try.prog CK (tabQ 79) tabA := step t79 q80
theorem t78 : fol CK Try.prog ST scr (T.evQ CK Try.prog (tabQ 78) .done) = .ask (tabQ (78 + 1)) tabA (.done tabA) := by kernel_rfl
theorem q78 : QOk Try.prog CK (tabQ 78) tabA := step t78 q79
theorem t77 : fol CK Try.prog ST scr (T.evQ CK Try.prog (tabQ 77) .done) = .ask (tabQ (77 + 1)) tabA (.done tabA) := by kernel_rfl
theorem q77 : QOk Try.prog CK (tabQ 77) tabA := step t77 q78
theorem t76 : fol CK Try.prog ST scr (T.evQ CK Try.prog (tabQ 76) .done) = .ask (tabQ (76 + 1)) tabA (.done tabA) := by kernel_rfl
theorem q76 : QOk Try.prog CK (tabQ 76) tabA := step t76 q77
theorem t75 : fol CK Try.prog ST scr (T.evQ CK Try.prog (tabQ 75) .done) = .ask (tabQ (75 + 1)) tabA (.done tabA) := by kernel_rfl
theorem q75 : QOk Try.prog CK (tabQ 75) tabA := step t75 q76
theorem t74 : fol CK Try.prog ST scr (T.evQ CK Try.prog (tabQ 74) .done) = .ask (tabQ (74 + 1)) tabA (.done tabA) := by kernel_rfl
theorem q74 : QOk Try.prog CK (tabQ 74) tabA := step t74 q75
theorem t73 : fol CK Try.prog ST scr (T.evQ CK Try.prog (tabQ 73) .done) = .ask (tabQ (73 + 1)) tabA (.done tabA) := by kernel_rfl
theorem q73 : QOk Try.prog CK (tabQ 73) tabA := step t73 q74
theorem t72 : fol CK Try.prog ST scr (T.evQ CK Try.prog (tabQ 72) .done) = .ask (tabQ (72 + 1)) tabA (.done tabA) := by kernel_rfl
theorem q72 : QOk Try.prog CK (tabQ 72) tabA := step t72 q73
theorem t71 : fol CK Try.prog ST scr (T.evQ CK Try.prog (tabQ 71) .done) = .ask (tabQ (71 + 1)) tabA (.done tabA) := by kernel_rfl
theorem q71 : QOk Try.prog CK (tabQ 71) tabA := step t71 q72
theorem t70 : fol CK Try.prog ST scr (T.evQ CK Try.prog (tabQ 70) .done) = .ask (tabQ (70 + 1)) tabA (.done tabA) := by kernel_rfl
theorem q70 : QOk Try.prog CK (tabQ 70) tabA := step t70 q71
theorem t69 : fol CK Try.prog ST scr (T.evQ CK Try.prog (tabQ 69) .done) = .ask (tabQ (69 + 1)) tabA (.done tabA) := by kernel_rfl
theorem q69 : QOk Try.prog CK (tabQ 69) tabA := step t69 q70
theorem t68 : fol CK Try.prog ST scr (T.evQ CK Try.prog (tabQ 68) .done) = .ask (tabQ (68 + 1)) tabA (.done tabA) := by kernel_rfl
theorem q68 : QOk Try.prog CK (tabQ 68) tabA := step t68 q69
theorem t67 : fol CK Try.prog ST scr (T.evQ CK Try.prog (tabQ 67) .done) = .ask (tabQ (67 + 1)) tabA (.done tabA) := by kernel_rfl
theorem q67 : QOk Try.prog CK (tabQ 67) tabA := step t67 q68
theorem t66 : fol CK Try.prog ST scr (T.evQ CK Try.prog (tabQ 66) .done) = .ask (tabQ (66 + 1)) tabA (.done tabA) := by kernel_rfl
theorem q66 : QOk Try.prog CK (tabQ 66) tabA := step t66 q67
theorem t65 : fol CK Try.prog ST scr (T.evQ CK Try.prog (tabQ 65) .done) = .ask (tabQ (65 + 1)) tabA (.done tabA) := by kernel_rfl
theorem q65 : QOk Try.prog CK (tabQ 65) tabA := step t65 q66
theorem t64 : fol CK Try.prog ST scr (T.evQ CK Try.prog (tabQ 64) .done) = .ask (tabQ (64 + 1)) tabA (.done tabA) := by kernel_rfl
theorem q64 : QOk Try.prog CK (tabQ 64) tabA := step t64 q65
theorem t63 : fol CK Try.prog ST scr (T.evQ CK Try.prog (tabQ 63) .done) = .ask (tabQ (63 + 1)) tabA (.done tabA) := by kernel_rfl
theorem q63 : QOk Try.prog CK (tabQ 63) tabA := step t63 q64
theorem t62 : fol CK Try.prog ST scr (T.evQ CK Try.prog (tabQ 62) .done) = .ask (tabQ (62 + 1)) tabA (.done tabA) := by kernel_rfl
theorem q62 : QOk Try.prog CK (tabQ 62) tabA := step t62 q63
theorem t61 : fol CK Try.prog ST scr (T.evQ CK Try.prog (tabQ 61) .done) = .ask (tabQ (61 + 1)) tabA (.done tabA) := by kernel_rfl
theorem q61 : QOk Try.prog CK (tabQ 61) tabA := step t61 q62
theorem t60 : fol CK Try.prog ST scr (T.evQ CK Try.prog (tabQ 60) .done) = .ask (tabQ (60 + 1)) tabA (.done tabA) := by kernel_rfl
theorem q60 : QOk Try.prog CK (tabQ 60) tabA := step t60 q61
theorem t59 : fol CK Try.prog ST scr (T.evQ CK Try.prog (tabQ 59) .done) = .ask (tabQ (59 + 1)) tabA (.done tabA) := by kernel_rfl
theorem q59 : QOk Try.prog CK (tabQ 59) tabA := step t59 q60
theorem t58 : fol CK Try.prog ST scr (T.evQ CK Try.prog (tabQ 58) .done) = .ask (tabQ (58 + 1)) tabA (.done tabA) := by kernel_rfl
theorem q58 : QOk Try.prog CK (tabQ 58) tabA := step t58 q59
theorem t57 : fol CK Try.prog ST scr (T.evQ CK Try.prog (tabQ 57) .done) = .ask (tabQ (57 + 1)) tabA (.done tabA) := by kernel_rfl
theorem q57 : QOk Try.prog CK (tabQ 57) tabA := step t57 q58
theorem t56 : fol CK Try.prog ST scr (T.evQ CK Try.prog (tabQ 56) .done) = .ask (tabQ (56 + 1)) tabA (.done tabA) := by kernel_rfl
theorem q56 : QOk Try.prog CK (tabQ 56) tabA := step t56 q57
theorem t55 : fol CK Try.prog ST scr (T.evQ CK Try.prog (tabQ 55) .done) = .ask (tabQ (55 + 1)) tabA (.done tabA) := by kernel_rfl
theorem q55 : QOk Try.prog CK (tabQ 55) tabA := step t55 q56
theorem t54 : fol CK Try.prog ST scr (T.evQ CK Try.prog (tabQ 54) .done) = .ask (tabQ (54 + 1)) tabA (.done tabA) := by kernel_rfl
theorem q54 : QOk Try.prog CK (tabQ 54) tabA := step t54 q55
theorem t53 : fol CK Try.prog ST scr (T.evQ CK Try.prog (tabQ 53) .done) = .ask (tabQ (53 + 1)) tabA (.done tabA) := by kernel_rfl
theorem q53 : QOk Try.prog CK (tabQ 53) tabA := step t53 q54
theorem t52 : fol CK Try.prog ST scr (T.evQ CK Try.prog (tabQ 52) .done) = .ask (tabQ (52 + 1)) tabA (.done tabA) := by kernel_rfl
theorem q52 : QOk Try.prog CK (tabQ 52) tabA := step t52 q53
theorem t51 : fol CK Try.prog ST scr (T.evQ CK Try.prog (tabQ 51) .done) = .ask (tabQ (51 + 1)) tabA (.done tabA) := by kernel_rfl
theorem q51 : QOk Try.prog CK (tabQ 51) tabA := step t51 q52
theorem t50 : fol CK Try.prog ST scr (T.evQ CK Try.prog (tabQ 50) .done) = .ask (tabQ (50 + 1)) tabA (.done tabA) := by kernel_rfl
theorem q50 : QOk Try.prog CK (tabQ 50) tabA := step t50 q51
theorem t49 : fol CK Try.prog ST scr (T.evQ CK Try.prog (tabQ 49) .done) = .ask (tabQ (49 + 1)) tabA (.done tabA) := by kernel_rfl
theorem q49 : QOk Try.prog CK (tabQ 49) tabA := step t49 q50
theorem t48 : fol CK Try.prog ST scr (T.evQ CK Try.prog (tabQ 48) .done) = .ask (tabQ (48 + 1)) tabA (.done tabA) := by kernel_rfl
theorem q48 : QOk Try.prog CK (tabQ 48) tabA := step t48 q49
theorem t47 : fol CK Try.prog ST scr (T.evQ CK Try.prog (tabQ 47) .done) = .ask (tabQ (47 + 1)) tabA (.done tabA) := by kernel_rfl
theorem q47 : QOk Try.prog CK (tabQ 47) tabA := step t47 q48
theorem t46 : fol CK Try.prog ST scr (T.evQ CK Try.prog (tabQ 46) .done) = .ask (tabQ (46 + 1)) tabA (.done tabA) := by kernel_rfl
theorem q46 : QOk Try.prog CK (tabQ 46) tabA := step t46 q47
theorem t45 : fol CK Try.prog ST scr (T.evQ CK Try.prog (tabQ 45) .done) = .ask (tabQ (45 + 1)) tabA (.done tabA) := by kernel_rfl
theorem q45 : QOk Try.prog CK (tabQ 45) tabA := step t45 q46
theorem t44 : fol CK Try.prog ST scr (T.evQ CK Try.prog (tabQ 44) .done) = .ask (tabQ (44 + 1)) tabA (.done tabA) := by kernel_rfl
theorem q44 : QOk Try.prog CK (tabQ 44) tabA := step t44 q45
theorem t43 : fol CK Try.prog ST scr (T.evQ CK Try.prog (tabQ 43) .done) = .ask (tabQ (43 + 1)) tabA (.done tabA) := by kernel_rfl
theorem q43 : QOk Try.prog CK (tabQ 43) tabA := step t43 q44
theorem t42 : fol CK Try.prog ST scr (T.evQ CK Try.prog (tabQ 42) .done) = .ask (tabQ (42 + 1)) tabA (.done tabA) := by kernel_rfl
theorem q42 : QOk Try.prog CK (tabQ 42) tabA := step t42 q43
theorem t41 : fol CK Try.prog ST scr (T.evQ CK Try.prog (tabQ 41) .done) = .ask (tabQ (41 + 1)) tabA (.done tabA) := by kernel_rfl
theorem q41 : QOk Try.prog CK (tabQ 41) tabA := step t41 q42
theorem t40 : fol CK Try.prog ST scr (T.evQ CK Try.prog (tabQ 40) .done) = .ask (tabQ (40 + 1)) tabA (.done tabA) := by kernel_rfl
theorem q40 : QOk Try.prog CK (tabQ 40) tabA := step t40 q41
theorem t39 : fol CK Try.prog ST scr (T.evQ CK Try.prog (tabQ 39) .done) = .ask (tabQ (39 + 1)) tabA (.done tabA) := by kernel_rfl
theorem q39 : QOk Try.prog CK (tabQ 39) tabA := step t39 q40
theorem t38 : fol CK Try.prog ST scr (T.evQ CK Try.prog (tabQ 38) .done) = .ask (tabQ (38 + 1)) tabA (.done tabA) := by kernel_rfl
theorem q38 : QOk Try.prog CK (tabQ 38) tabA := step t38 q39
theorem t37 : fol CK Try.prog ST scr (T.evQ CK Try.prog (tabQ 37) .done) = .ask (tabQ (37 + 1)) tabA (.done tabA) := by kernel_rfl
theorem q37 : QOk Try.prog CK (tabQ 37) tabA := step t37 q38
theorem t36 : fol CK Try.prog ST scr (T.evQ CK Try.prog (tabQ 36) .done) = .ask (tabQ (36 + 1)) tabA (.done tabA) := by kernel_rfl
theorem q36 : QOk Try.prog CK (tabQ 36) tabA := step t36 q37
theorem t35 : fol CK Try.prog ST scr (T.evQ CK Try.prog (tabQ 35) .done) = .ask (tabQ (35 + 1)) tabA (.done tabA) := by kernel_rfl
theorem q35 : QOk Try.prog CK (tabQ 35) tabA := step t35 q36
theorem t34 : fol CK Try.prog ST scr (T.evQ CK Try.prog (tabQ 34) .done) = .ask (tabQ (34 + 1)) tabA (.done tabA) := by kernel_rfl
theorem q34 : QOk Try.prog CK (tabQ 34) tabA := step t34 q35
theorem t33 : fol CK Try.prog ST scr (T.evQ CK Try.prog (tabQ 33) .done) = .ask (tabQ (33 + 1)) tabA (.done tabA) := by kernel_rfl
theorem q33 : QOk Try.prog CK (tabQ 33) tabA := step t33 q34
theorem t32 : fol CK Try.prog ST scr (T.evQ CK Try.prog (tabQ 32) .done) = .ask (tabQ (32 + 1)) tabA (.done tabA) := by kernel_rfl
theorem q32 : QOk Try.prog CK (tabQ 32) tabA := step t32 q33
theorem t31 : fol CK Try.prog ST scr (T.evQ CK Try.prog (tabQ 31) .done) = .ask (tabQ (31 + 1)) tabA (.done tabA) := by kernel_rfl
theorem q31 : QOk Try.prog CK (tabQ 31) tabA := step t31 q32
theorem t30 : fol CK Try.prog ST scr (T.evQ CK Try.prog (tabQ 30) .done) = .ask (tabQ (30 + 1)) tabA (.done tabA) := by kernel_rfl
theorem q30 : QOk Try.prog CK (tabQ 30) tabA := step t30 q31
theorem t29 : fol CK Try.prog ST scr (T.evQ CK Try.prog (tabQ 29) .done) = .ask (tabQ (29 + 1)) tabA (.done tabA) := by kernel_rfl
theorem q29 : QOk Try.prog CK (tabQ 29) tabA := step t29 q30
theorem t28 : fol CK Try.prog ST scr (T.evQ CK Try.prog (tabQ 28) .done) = .ask (tabQ (28 + 1)) tabA (.done tabA) := by kernel_rfl
theorem q28 : QOk Try.prog CK (tabQ 28) tabA := step t28 q29
theorem t27 : fol CK Try.prog ST scr (T.evQ CK Try.prog (tabQ 27) .done) = .ask (tabQ (27 + 1)) tabA (.done tabA) := by kernel_rfl
theorem q27 : QOk Try.prog CK (tabQ 27) tabA := step t27 q28
theorem t26 : fol CK Try.prog ST scr (T.evQ CK Try.prog (tabQ 26) .done) = .ask (tabQ (26 + 1)) tabA (.done tabA) := by kernel_rfl
theorem q26 : QOk Try.prog CK (tabQ 26) tabA := step t26 q27
theorem t25 : fol CK Try.prog ST scr (T.evQ CK Try.prog (tabQ 25) .done) = .ask (tabQ (25 + 1)) tabA (.done tabA) := by kernel_rfl
theorem q25 : QOk Try.prog CK (tabQ 25) tabA := step t25 q26
theorem t24 : fol CK Try.prog ST scr (T.evQ CK Try.prog (tabQ 24) .done) = .ask (tabQ (24 + 1)) tabA (.done tabA) := by kernel_rfl
theorem q24 : QOk Try.prog CK (tabQ 24) tabA := step t24 q25
theorem t23 : fol CK Try.prog ST scr (T.evQ CK Try.prog (tabQ 23) .done) = .ask (tabQ (23 + 1)) tabA (.done tabA) := by kernel_rfl
theorem q23 : QOk Try.prog CK (tabQ 23) tabA := step t23 q24
theorem t22 : fol CK Try.prog ST scr (T.evQ CK Try.prog (tabQ 22) .done) = .ask (tabQ (22 + 1)) tabA (.done tabA) := by kernel_rfl
theorem q22 : QOk Try.prog CK (tabQ 22) tabA := step t22 q23
theorem t21 : fol CK Try.prog ST scr (T.evQ CK Try.prog (tabQ 21) .done) = .ask (tabQ (21 + 1)) tabA (.done tabA) := by kernel_rfl
theorem q21 : QOk Try.prog CK (tabQ 21) tabA := step t21 q22
theorem t20 : fol CK Try.prog ST scr (T.evQ CK Try.prog (tabQ 20) .done) = .ask (tabQ (20 + 1)) tabA (.done tabA) := by kernel_rfl
theorem q20 : QOk Try.prog CK (tabQ 20) tabA := step t20 q21
theorem t19 : fol CK Try.prog ST scr (T.evQ CK Try.prog (tabQ 19) .done) = .ask (tabQ (19 + 1)) tabA (.done tabA) := by kernel_rfl
theorem q19 : QOk Try.prog CK (tabQ 19) tabA := step t19 q20
theorem t18 : fol CK Try.prog ST scr (T.evQ CK Try.prog (tabQ 18) .done) = .ask (tabQ (18 + 1)) tabA (.done tabA) := by kernel_rfl
theorem q18 : QOk Try.prog CK (tabQ 18) tabA := step t18 q19
theorem t17 : fol CK Try.prog ST scr (T.evQ CK Try.prog (tabQ 17) .done) = .ask (tabQ (17 + 1)) tabA (.done tabA) := by kernel_rfl
theorem q17 : QOk Try.prog CK (tabQ 17) tabA := step t17 q18
theorem t16 : fol CK Try.prog ST scr (T.evQ CK Try.prog (tabQ 16) .done) = .ask (tabQ (16 + 1)) tabA (.done tabA) := by kernel_rfl
theorem q16 : QOk Try.prog CK (tabQ 16) tabA := step t16 q17
theorem t15 : fol CK Try.prog ST scr (T.evQ CK Try.prog (tabQ 15) .done) = .ask (tabQ (15 + 1)) tabA (.done tabA) := by kernel_rfl
theorem q15 : QOk Try.prog CK (tabQ 15) tabA := step t15 q16
theorem t14 : fol CK Try.prog ST scr (T.evQ CK Try.prog (tabQ 14) .done) = .ask (tabQ (14 + 1)) tabA (.done tabA) := by kernel_rfl
theorem q14 : QOk Try.prog CK (tabQ 14) tabA := step t14 q15
theorem t13 : fol CK Try.prog ST scr (T.evQ CK Try.prog (tabQ 13) .done) = .ask (tabQ (13 + 1)) tabA (.done tabA) := by kernel_rfl
theorem q13 : QOk Try.prog CK (tabQ 13) tabA := step t13 q14
theorem t12 : fol CK Try.prog ST scr (T.evQ CK Try.prog (tabQ 12) .done) = .ask (tabQ (12 + 1)) tabA (.done tabA) := by kernel_rfl
theorem q12 : QOk Try.prog CK (tabQ 12) tabA := step t12 q13
theorem t11 : fol CK Try.prog ST scr (T.evQ CK Try.prog (tabQ 11) .done) = .ask (tabQ (11 + 1)) tabA (.done tabA) := by kernel_rfl
theorem q11 : QOk Try.prog CK (tabQ 11) tabA := step t11 q12
theorem t10 : fol CK Try.prog ST scr (T.evQ CK Try.prog (tabQ 10) .done) = .ask (tabQ (10 + 1)) tabA (.done tabA) := by kernel_rfl
theorem q10 : QOk Try.prog CK (tabQ 10) tabA := step t10 q11
theorem t9 : fol CK Try.prog ST scr (T.evQ CK Try.prog (tabQ 9) .done) = .ask (tabQ (9 + 1)) tabA (.done tabA) := by kernel_rfl
theorem q9 : QOk Try.prog CK (tabQ 9) tabA := step t9 q10
theorem t8 : fol CK Try.prog ST scr (T.evQ CK Try.prog (tabQ 8) .done) = .ask (tabQ (8 + 1)) tabA (.done tabA) := by kernel_rfl
theorem q8 : QOk Try.prog CK (tabQ 8) tabA := step t8 q9
theorem t7 : fol CK Try.prog ST scr (T.evQ CK Try.prog (tabQ 7) .done) = .ask (tabQ (7 + 1)) tabA (.done tabA) := by kernel_rfl
theorem q7 : QOk Try.prog CK (tabQ 7) tabA := step t7 q8
theorem t6 : fol CK Try.prog ST scr (T.evQ CK Try.prog (tabQ 6) .done) = .ask (tabQ (6 + 1)) tabA (.done tabA) := by kernel_rfl
theorem q6 : QOk Try.prog CK (tabQ 6) tabA := step t6 q7
theorem t5 : fol CK Try.prog ST scr (T.evQ CK Try.prog (tabQ 5) .done) = .ask (tabQ (5 + 1)) tabA (.done tabA) := by kernel_rfl
theorem q5 : QOk Try.prog CK (tabQ 5) tabA := step t5 q6
theorem t4 : fol CK Try.prog ST scr (T.evQ CK Try.prog (tabQ 4) .done) = .ask (tabQ (4 + 1)) tabA (.done tabA) := by kernel_rfl
theorem q4 : QOk Try.prog CK (tabQ 4) tabA := step t4 q5
theorem t3 : fol CK Try.prog ST scr (T.evQ CK Try.prog (tabQ 3) .done) = .ask (tabQ (3 + 1)) tabA (.done tabA) := by kernel_rfl
theorem q3 : QOk Try.prog CK (tabQ 3) tabA := step t3 q4
theorem t2 : fol CK Try.prog ST scr (T.evQ CK Try.prog (tabQ 2) .done) = .ask (tabQ (2 + 1)) tabA (.done tabA) := by kernel_rfl
theorem q2 : QOk Try.prog CK (tabQ 2) tabA := step t2 q3
theorem t1 : fol CK Try.prog ST scr (T.evQ CK Try.prog (tabQ 1) .done) = .ask (tabQ (1 + 1)) tabA (.done tabA) := by kernel_rfl
theorem q1 : QOk Try.prog CK (tabQ 1) tabA := step t1 q2
theorem t0 : fol CK Try.prog ST scr (T.evQ CK Try.prog (tabQ 0) .done) = .ask (tabQ (0 + 1)) tabA (.done tabA) := by kernel_rfl
theorem q0 : QOk Try.prog CK (tabQ 0) tabA := step t0 q1
theorem tC46 : fol CK Try.prog ST (An.a (An.d (An.d (An.d An.e)))) (T.evQ CK Try.prog (.call 73 [] []) .done) = .ask (tabQ 0) tabA (.done ⟨.ret, [TabV], []⟩) := by kernel_rfl
theorem c46 : QOk Try.prog CK (.call 73 [] []) ⟨.ret, [TabV], []⟩ := tree_i hP tC46 ⟨q0, rfl⟩
end Crc
end Go.Fx
