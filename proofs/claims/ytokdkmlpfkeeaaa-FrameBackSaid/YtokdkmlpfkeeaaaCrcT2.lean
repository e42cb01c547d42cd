/- The table of the sums, more rounds. -/
import Derived.Test.YtokdkmlpfkeeaaaCrcT1
set_option maxRecDepth 100000
set_option maxHeartbeats 4000000
set_option linter.unusedVariables false
set_option linter.unusedSimpArgs false
namespace Go.Fx
open Go.Proofs
namespace Crc
theorem t170 : fol CK Try.prog ST scr (T.evQ CK Try.prog (tabQ 170) .done) = .ask (tabQ (170 + 1)) tabA (.done tabA) := by kernel_rfl
theorem q170 : QOk Try.prog CK (tabQ 170) tabA := step t170 q171
theorem t169 : fol CK Try.prog ST scr (T.evQ CK Try.prog (tabQ 169) .done) = .ask (tabQ (169 + 1)) tabA (.done tabA) := by kernel_rfl
theorem q169 : QOk Try.prog CK (tabQ 169) tabA := step t169 q170
theorem t168 : fol CK Try.prog ST scr (T.evQ CK Try.prog (tabQ 168) .done) = .ask (tabQ (168 + 1)) tabA (.done tabA) := by kernel_rfl
theorem q168 : QOk Try.prog CK (tabQ 168) tabA := step t168 q169
theorem t167 : fol CK Try.prog ST scr (T.evQ CK Try.prog (tabQ 167) .done) = .ask (tabQ (167 + 1)) tabA (.done tabA) := by kernel_rfl
theorem q167 : QOk Try.prog CK (tabQ 167) tabA := step t167 q168
theorem t166 : fol CK Try.prog ST scr (T.evQ CK Try.prog (tabQ 166) .done) = .ask (tabQ (166 + 1)) tabA (.done tabA) := by kernel_rfl
theorem q166 : QOk Try.prog CK (tabQ 166) tabA := step t166 q167
theorem t165 : fol CK Try.prog ST scr (T.evQ CK Try.prog (tabQ 165) .done) = .ask (tabQ (165 + 1)) tabA (.done tabA) := by kernel_rfl
theorem q165 : QOk Try.prog CK (tabQ 165) tabA := step t165 q166
theorem t164 : fol CK Try.prog ST scr (T.evQ CK Try.prog (tabQ 164) .done) = .ask (tabQ (164 + 1)) tabA (.done tabA) := by kernel_rfl
theorem q164 : QOk Try.prog CK (tabQ 164) tabA := step t164 q165
theorem t163 : fol CK Try.prog ST scr (T.evQ CK Try.prog (tabQ 163) .done) = .ask (tabQ (163 + 1)) tabA (.done tabA) := by kernel_rfl
theorem q163 : QOk Try.prog CK (tabQ 163) tabA := step t163 q164
theorem t162 : fol CK Try.prog ST scr (T.evQ CK Try.prog (tabQ 162) .done) = .ask (tabQ (162 + 1)) tabA (.done tabA) := by kernel_rfl
theorem q162 : QOk Try.prog CK (tabQ 162) tabA := step t162 q163
theorem t161 : fol CK Try.prog ST scr (T.evQ CK Try.prog (tabQ 161) .done) = .ask (tabQ (161 + 1)) tabA (.done tabA) := by kernel_rfl
theorem q161 : QOk Try.prog CK (tabQ 161) tabA := step t161 q162
theorem t160 : fol CK Try.prog ST scr (T.evQ CK Try.prog (tabQ 160) .done) = .ask (tabQ (160 + 1)) tabA (.done tabA) := by kernel_rfl
theorem q160 : QOk Try.prog CK (tabQ 160) tabA := step t160 q161
theorem t159 : fol CK Try.prog ST scr (T.evQ CK Try.prog (tabQ 159) .done) = .ask (tabQ (159 + 1)) tabA (.done tabA) := by kernel_rfl
theorem q159 : QOk Try.prog CK (tabQ 159) tabA := step t159 q160
theorem t158 : fol CK Try.prog ST scr (T.evQ CK Try.prog (tabQ 158) .done) = .ask (tabQ (158 + 1)) tabA (.done tabA) := by kernel_rfl
theorem q158 : QOk Try.prog CK (tabQ 158) tabA := step t158 q159
theorem t157 : fol CK Try.prog ST scr (T.evQ CK Try.prog (tabQ 157) .done) = .ask (tabQ (157 + 1)) tabA (.done tabA) := by kernel_rfl
theorem q157 : QOk Try.prog CK (tabQ 157) tabA := step t157 q158
theorem t156 : fol CK Try.prog ST scr (T.evQ CK Try.prog (tabQ 156) .done) = .ask (tabQ (156 + 1)) tabA (.done tabA) := by kernel_rfl
theorem q156 : QOk Try.prog CK (tabQ 156) tabA := step t156 q157
theorem t155 : fol CK Try.prog ST scr (T.evQ CK Try.prog (tabQ 155) .done) = .ask (tabQ (155 + 1)) tabA (.done tabA) := by kernel_rfl
theorem q155 : QOk Try.prog CK (tabQ 155) tabA := step t155 q156
theorem t154 : fol CK Try.prog ST scr (T.evQ CK Try.prog (tabQ 154) .done) = .ask (tabQ (154 + 1)) tabA (.done tabA) := by kernel_rfl
theorem q154 : QOk Try.prog CK (tabQ 154) tabA := step t154 q155
theorem t153 : fol CK Try.prog ST scr (T.evQ CK Try.prog (tabQ 153) .done) = .ask (tabQ (153 + 1)) tabA (.done tabA) := by kernel_rfl
theorem q153 : QOk Try.prog CK (tabQ 153) tabA := step t153 q154
theorem t152 : fol CK Try.prog ST scr (T.evQ CK Try.prog (tabQ 152) .done) = .ask (tabQ (152 + 1)) tabA (.done tabA) := by kernel_rfl
theorem q152 : QOk Try.prog CK (tabQ 152) tabA := step t152 q153
theorem t151 : fol CK Try.prog ST scr (T.evQ CK Try.prog (tabQ 151) .done) = .ask (tabQ (151 + 1)) tabA (.done tabA) := by kernel_rfl
theorem q151 : QOk Try.prog CK (tabQ 151) tabA := step t151 q152
theorem t150 : fol CK Try.prog ST scr (T.evQ CK Try.prog (tabQ 150) .done) = .ask (tabQ (150 + 1)) tabA (.done tabA) := by kernel_rfl
theorem q150 : QOk Try.prog CK (tabQ 150) tabA := step t150 q151
theorem t149 : fol CK Try.prog ST scr (T.evQ CK Try.prog (tabQ 149) .done) = .ask (tabQ (149 + 1)) tabA (.done tabA) := by kernel_rfl
theorem q149 : QOk Try.prog CK (tabQ 149) tabA := step t149 q150
theorem t148 : fol CK Try.prog ST scr (T.evQ CK Try.prog (tabQ 148) .done) = .ask (tabQ (148 + 1)) tabA (.done tabA) := by kernel_rfl
theorem q148 : QOk Try.prog CK (tabQ 148) tabA := step t148 q149
theorem t147 : fol CK Try.prog ST scr (T.evQ CK Try.prog (tabQ 147) .done) = .ask (tabQ (147 + 1)) tabA (.done tabA) := by kernel_rfl
theorem q147 : QOk Try.prog CK (tabQ 147) tabA := step t147 q148
theorem t146 : fol CK Try.prog ST scr (T.evQ CK Try.prog (tabQ 146) .done) = .ask (tabQ (146 + 1)) tabA (.done tabA) := by kernel_rfl
theorem q146 : QOk Try.prog CK (tabQ 146) tabA := step t146 q147
theorem t145 : fol CK Try.prog ST scr (T.evQ CK Try.prog (tabQ 145) .done) = .ask (tabQ (145 + 1)) tabA (.done tabA) := by kernel_rfl
theorem q145 : QOk Try.prog CK (tabQ 145) tabA := step t145 q146
theorem t144 : fol CK Try.prog ST scr (T.evQ CK Try.prog (tabQ 144) .done) = .ask (tabQ (144 + 1)) tabA (.done tabA) := by kernel_rfl
theorem q144 : QOk Try.prog CK (tabQ 144) tabA := step t144 q145
theorem t143 : fol CK Try.prog ST scr (T.evQ CK Try.prog (tabQ 143) .done) = .ask (tabQ (143 + 1)) tabA (.done tabA) := by kernel_rfl
theorem q143 : QOk Try.prog CK (tabQ 143) tabA := step t143 q144
theorem t142 : fol CK Try.prog ST scr (T.evQ CK Try.prog (tabQ 142) .done) = .ask (tabQ (142 + 1)) tabA (.done tabA) := by kernel_rfl
theorem q142 : QOk Try.prog CK (tabQ 142) tabA := step t142 q143
theorem t141 : fol CK Try.prog ST scr (T.evQ CK Try.prog (tabQ 141) .done) = .ask (tabQ (141 + 1)) tabA (.done tabA) := by kernel_rfl
theorem q141 : QOk Try.prog CK (tabQ 141) tabA := step t141 q142
theorem t140 : fol CK Try.prog ST scr (T.evQ CK Try.prog (tabQ 140) .done) = .ask (tabQ (140 + 1)) tabA (.done tabA) := by kernel_rfl
theorem q140 : QOk Try.prog CK (tabQ 140) tabA := step t140 q141
theorem t139 : fol CK Try.prog ST scr (T.evQ CK Try.prog (tabQ 139) .done) = .ask (tabQ (139 + 1)) tabA (.done tabA) := by kernel_rfl
theorem q139 : QOk Try.prog CK (tabQ 139) tabA := step t139 q140
theorem t138 : fol CK Try.prog ST scr (T.evQ CK Try.prog (tabQ 138) .done) = .ask (tabQ (138 + 1)) tabA (.done tabA) := by kernel_rfl
theorem q138 : QOk Try.prog CK (tabQ 138) tabA := step t138 q139
theorem t137 : fol CK Try.prog ST scr (T.evQ CK Try.prog (tabQ 137) .done) = .ask (tabQ (137 + 1)) tabA (.done tabA) := by kernel_rfl
theorem q137 : QOk Try.prog CK (tabQ 137) tabA := step t137 q138
theorem t136 : fol CK Try.prog ST scr (T.evQ CK Try.prog (tabQ 136) .done) = .ask (tabQ (136 + 1)) tabA (.done tabA) := by kernel_rfl
theorem q136 : QOk Try.prog CK (tabQ 136) tabA := step t136 q137
theorem t135 : fol CK Try.prog ST scr (T.evQ CK Try.prog (tabQ 135) .done) = .ask (tabQ (135 + 1)) tabA (.done tabA) := by kernel_rfl
theorem q135 : QOk Try.prog CK (tabQ 135) tabA := step t135 q136
theorem t134 : fol CK Try.prog ST scr (T.evQ CK Try.prog (tabQ 134) .done) = .ask (tabQ (134 + 1)) tabA (.done tabA) := by kernel_rfl
theorem q134 : QOk Try.prog CK (tabQ 134) tabA := step t134 q135
theorem t133 : fol CK Try.prog ST scr (T.evQ CK Try.prog (tabQ 133) .done) = .ask (tabQ (133 + 1)) tabA (.done tabA) := by kernel_rfl
theorem q133 : QOk Try.prog CK (tabQ 133) tabA := step t133 q134
theorem t132 : fol CK Try.prog ST scr (T.evQ CK Try.prog (tabQ 132) .done) = .ask (tabQ (132 + 1)) tabA (.done tabA) := by kernel_rfl
theorem q132 : QOk Try.prog CK (tabQ 132) tabA := step t132 q133
theorem t131 : fol CK Try.prog ST scr (T.evQ CK Try.prog (tabQ 131) .done) = .ask (tabQ (131 + 1)) tabA (.done tabA) := by kernel_rfl
theorem q131 : QOk Try.prog CK (tabQ 131) tabA := step t131 q132
theorem t130 : fol CK Try.prog ST scr (T.evQ CK Try.prog (tabQ 130) .done) = .ask (tabQ (130 + 1)) tabA (.done tabA) := by kernel_rfl
theorem q130 : QOk Try.prog CK (tabQ 130) tabA := step t130 q131
theorem t129 : fol CK Try.prog ST scr (T.evQ CK Try.prog (tabQ 129) .done) = .ask (tabQ (129 + 1)) tabA (.done tabA) := by kernel_rfl
theorem q129 : QOk Try.prog CK (tabQ 129) tabA := step t129 q130
theorem t128 : fol CK Try.prog ST scr (T.evQ CK Try.prog (tabQ 128) .done) = .ask (tabQ (128 + 1)) tabA (.done tabA) := by kernel_rfl
theorem q128 : QOk Try.prog CK (tabQ 128) tabA := step t128 q129
theorem t127 : fol CK Try.prog ST scr (T.evQ CK Try.prog (tabQ 127) .done) = .ask (tabQ (127 + 1)) tabA (.done tabA) := by kernel_rfl
theorem q127 : QOk Try.prog CK (tabQ 127) tabA := step t127 q128
theorem t126 : fol CK Try.prog ST scr (T.evQ CK Try.prog (tabQ 126) .done) = .ask (tabQ (126 + 1)) tabA (.done tabA) := by kernel_rfl
theorem q126 : QOk Try.prog CK (tabQ 126) tabA := step t126 q127
theorem t125 : fol CK Try.prog ST scr (T.evQ CK Try.prog (tabQ 125) .done) = .ask (tabQ (125 + 1)) tabA (.done tabA) := by kernel_rfl
theorem q125 : QOk Try.prog CK (tabQ 125) tabA := step t125 q126
theorem t124 : fol CK Try.prog ST scr (T.evQ CK Try.prog (tabQ 124) .done) = .ask (tabQ (124 + 1)) tabA (.done tabA) := by kernel_rfl
theorem q124 : QOk Try.prog CK (tabQ 124) tabA := step t124 q125
theorem t123 : fol CK Try.prog ST scr (T.evQ CK Try.prog (tabQ 123) .done) = .ask (tabQ (123 + 1)) tabA (.done tabA) := by kernel_rfl
theorem q123 : QOk Try.prog CK (tabQ 123) tabA := step t123 q124
theorem t122 : fol CK Try.prog ST scr (T.evQ CK Try.prog (tabQ 122) .done) = .ask (tabQ (122 + 1)) tabA (.done tabA) := by kernel_rfl
theorem q122 : QOk Try.prog CK (tabQ 122) tabA := step t122 q123
theorem t121 : fol CK Try.prog ST scr (T.evQ CK Try.prog (tabQ 121) .done) = .ask (tabQ (121 + 1)) tabA (.done tabA) := by kernel_rfl
theorem q121 : QOk Try.prog CK (tabQ 121) tabA := step t121 q122
theorem t120 : fol CK Try.prog ST scr (T.evQ CK Try.prog (tabQ 120) .done) = .ask (tabQ (120 + 1)) tabA (.done tabA) := by kernel_rfl
theorem q120 : QOk Try.prog CK (tabQ 120) tabA := step t120 q121
theorem t119 : fol CK Try.prog ST scr (T.evQ CK Try.prog (tabQ 119) .done) = .ask (tabQ (119 + 1)) tabA (.done tabA) := by kernel_rfl
theorem q119 : QOk Try.prog CK (tabQ 119) tabA := step t119 q120
theorem t118 : fol CK Try.prog ST scr (T.evQ CK Try.prog (tabQ 118) .done) = .ask (tabQ (118 + 1)) tabA (.done tabA) := by kernel_rfl
theorem q118 : QOk Try.prog CK (tabQ 118) tabA := step t118 q119
theorem t117 : fol CK Try.prog ST scr (T.evQ CK Try.prog (tabQ 117) .done) = .ask (tabQ (117 + 1)) tabA (.done tabA) := by kernel_rfl
theorem q117 : QOk Try.prog CK (tabQ 117) tabA := step t117 q118
theorem t116 : fol CK Try.prog ST scr (T.evQ CK Try.prog (tabQ 116) .done) = .ask (tabQ (116 + 1)) tabA (.done tabA) := by kernel_rfl
theorem q116 : QOk Try.prog CK (tabQ 116) tabA := step t116 q117
theorem t115 : fol CK Try.prog ST scr (T.evQ CK Try.prog (tabQ 115) .done) = .ask (tabQ (115 + 1)) tabA (.done tabA) := by kernel_rfl
theorem q115 : QOk Try.prog CK (tabQ 115) tabA := step t115 q116
theorem t114 : fol CK Try.prog ST scr (T.evQ CK Try.prog (tabQ 114) .done) = .ask (tabQ (114 + 1)) tabA (.done tabA) := by kernel_rfl
theorem q114 : QOk Try.prog CK (tabQ 114) tabA := step t114 q115
theorem t113 : fol CK Try.prog ST scr (T.evQ CK Try.prog (tabQ 113) .done) = .ask (tabQ (113 + 1)) tabA (.done tabA) := by kernel_rfl
theorem q113 : QOk Try.prog CK (tabQ 113) tabA := step t113 q114
theorem t112 : fol CK Try.prog ST scr (T.evQ CK Try.prog (tabQ 112) .done) = .ask (tabQ (112 + 1)) tabA (.done tabA) := by kernel_rfl
theorem q112 : QOk Try.prog CK (tabQ 112) tabA := step t112 q113
theorem t111 : fol CK Try.prog ST scr (T.evQ CK Try.prog (tabQ 111) .done) = .ask (tabQ (111 + 1)) tabA (.done tabA) := by kernel_rfl
theorem q111 : QOk Try.prog CK (tabQ 111) tabA := step t111 q112
theorem t110 : fol CK Try.prog ST scr (T.evQ CK Try.prog (tabQ 110) .done) = .ask (tabQ (110 + 1)) tabA (.done tabA) := by kernel_rfl
theorem q110 : QOk Try.prog CK (tabQ 110) tabA := step t110 q111
theorem t109 : fol CK Try.prog ST scr (T.evQ CK Try.prog (tabQ 109) .done) = .ask (tabQ (109 + 1)) tabA (.done tabA) := by kernel_rfl
theorem q109 : QOk Try.prog CK (tabQ 109) tabA := step t109 q110
theorem t108 : fol CK Try.prog ST scr (T.evQ CK Try.prog (tabQ 108) .done) = .ask (tabQ (108 + 1)) tabA (.done tabA) := by kernel_rfl
theorem q108 : QOk Try.prog CK (tabQ 108) tabA := step t108 q109
theorem t107 : fol CK Try.prog ST scr (T.evQ CK Try.prog (tabQ 107) .done) = .ask (tabQ (107 + 1)) tabA (.done tabA) := by kernel_rfl
theorem q107 : QOk Try.prog CK (tabQ 107) tabA := step t107 q108
theorem t106 : fol CK Try.prog ST scr (T.evQ CK Try.prog (tabQ 106) .done) = .ask (tabQ (106 + 1)) tabA (.done tabA) := by kernel_rfl
theorem q106 : QOk Try.prog CK (tabQ 106) tabA := step t106 q107
theorem t105 : fol CK Try.prog ST scr (T.evQ CK Try.prog (tabQ 105) .done) = .ask (tabQ (105 + 1)) tabA (.done tabA) := by kernel_rfl
theorem q105 : QOk Try.prog CK (tabQ 105) tabA := step t105 q106
theorem t104 : fol CK Try.prog ST scr (T.evQ CK Try.prog (tabQ 104) .done) = .ask (tabQ (104 + 1)) tabA (.done tabA) := by kernel_rfl
theorem q104 : QOk Try.prog CK (tabQ 104) tabA := step t104 q105
theorem t103 : fol CK Try.prog ST scr (T.evQ CK Try.prog (tabQ 103) .done) = .ask (tabQ (103 + 1)) tabA (.done tabA) := by kernel_rfl
theorem q103 : QOk Try.prog CK (tabQ 103) tabA := step t103 q104
theorem t102 : fol CK Try.prog ST scr (T.evQ CK Try.prog (tabQ 102) .done) = .ask (tabQ (102 + 1)) tabA (.done tabA) := by kernel_rfl
theorem q102 : QOk Try.prog CK (tabQ 102) tabA := step t102 q103
theorem t101 : fol CK Try.prog ST scr (T.evQ CK Try.prog (tabQ 101) .done) = .ask (tabQ (101 + 1)) tabA (.done tabA) := by kernel_rfl
theorem q101 : QOk Try.prog CK (tabQ 101) tabA := step t101 q102
theorem t100 : fol CK Try.prog ST scr (T.evQ CK Try.prog (tabQ 100) .done) = .ask (tabQ (100 + 1)) tabA (.done tabA) := by kernel_rfl
theorem q100 : QOk Try.prog CK (tabQ 100) tabA := step t100 q101
theorem t99 : fol CK Try.prog ST scr (T.evQ CK Try.prog (tabQ 99) .done) = .ask (tabQ (99 + 1)) tabA (.done tabA) := by kernel_rfl
theorem q99 : QOk Try.prog CK (tabQ 99) tabA := step t99 q100
theorem t98 : fol CK Try.prog ST scr (T.evQ CK Try.prog (tabQ 98) .done) = .ask (tabQ (98 + 1)) tabA (.done tabA) := by kernel_rfl
theorem q98 : QOk Try.prog CK (tabQ 98) tabA := step t98 q99
theorem t97 : fol CK Try.prog ST scr (T.evQ CK Try.prog (tabQ 97) .done) = .ask (tabQ (97 + 1)) tabA (.done tabA) := by kernel_rfl
theorem q97 : QOk Try.prog CK (tabQ 97) tabA := step t97 q98
theorem t96 : fol CK Try.prog ST scr (T.evQ CK Try.prog (tabQ 96) .done) = .ask (tabQ (96 + 1)) tabA (.done tabA) := by kernel_rfl
theorem q96 : QOk Try.prog CK (tabQ 96) tabA := step t96 q97
theorem t95 : fol CK Try.prog ST scr (T.evQ CK Try.prog (tabQ 95) .done) = .ask (tabQ (95 + 1)) tabA (.done tabA) := by kernel_rfl
theorem q95 : QOk Try.prog CK (tabQ 95) tabA := step t95 q96
theorem t94 : fol CK Try.prog ST scr (T.evQ CK Try.prog (tabQ 94) .done) = .ask (tabQ (94 + 1)) tabA (.done tabA) := by kernel_rfl
theorem q94 : QOk Try.prog CK (tabQ 94) tabA := step t94 q95
theorem t93 : fol CK Try.prog ST scr (T.evQ CK Try.prog (tabQ 93) .done) = .ask (tabQ (93 + 1)) tabA (.done tabA) := by kernel_rfl
theorem q93 : QOk Try.prog CK (tabQ 93) tabA := step t93 q94
theorem t92 : fol CK Try.prog ST scr (T.evQ CK Try.prog (tabQ 92) .done) = .ask (tabQ (92 + 1)) tabA (.done tabA) := by kernel_rfl
theorem q92 : QOk Try.prog CK (tabQ 92) tabA := step t92 q93
theorem t91 : fol CK Try.prog ST scr (T.evQ CK Try.prog (tabQ 91) .done) = .ask (tabQ (91 + 1)) tabA (.done tabA) := by kernel_rfl
theorem q91 : QOk Try.prog CK (tabQ 91) tabA := step t91 q92
theorem t90 : fol CK Try.prog ST scr (T.evQ CK Try.prog (tabQ 90) .done) = .ask (tabQ (90 + 1)) tabA (.done tabA) := by kernel_rfl
theorem q90 : QOk Try.prog CK (tabQ 90) tabA := step t90 q91
theorem t89 : fol CK Try.prog ST scr (T.evQ CK Try.prog (tabQ 89) .done) = .ask (tabQ (89 + 1)) tabA (.done tabA) := by kernel_rfl
theorem q89 : QOk Try.prog CK (tabQ 89) tabA := step t89 q90
theorem t88 : fol CK Try.prog ST scr (T.evQ CK Try.prog (tabQ 88) .done) = .ask (tabQ (88 + 1)) tabA (.done tabA) := by kernel_rfl
theorem q88 : QOk Try.prog CK (tabQ 88) tabA := step t88 q89
theorem t87 : fol CK Try.prog ST scr (T.evQ CK Try.prog (tabQ 87) .done) = .ask (tabQ (87 + 1)) tabA (.done tabA) := by kernel_rfl
theorem q87 : QOk Try.prog CK (tabQ 87) tabA := step t87 q88
theorem t86 : fol CK Try.prog ST scr (T.evQ CK Try.prog (tabQ 86) .done) = .ask (tabQ (86 + 1)) tabA (.done tabA) := by kernel_rfl
theorem q86 : QOk Try.prog CK (tabQ 86) tabA := step t86 q87
end Crc
end Go.Fx
