/- The table of the sums, round by round. -/
import Derived.Test.YtokdkmlpfkeeaaaCrcS
set_option maxRecDepth 100000
set_option maxHeartbeats 4000000
set_option linter.unusedVariables false
set_option linter.unusedSimpArgs false
namespace Go.Fx
open Go.Proofs
namespace Crc
def u32s (l : List Nat) : List CV := l.map fun n : Nat => CV.p (PV.v (Value.int IntKind.u32 (Int.ofNat n)))
def tabL : List Nat := (List.range 256).map stp8
abbrev TabV : AV := .agg (u32s tabL)
/-- The table behind k of its rounds. -/
def tabTo (k : Nat) : List Nat := (List.range k).map stp8 ++ List.replicate (256 - k) 0
def tabH (k : Nat) : Hp := [.box (u32s (List.replicate 256 0)) true, .box (u32s (tabTo k)) true]
def tabQ (k : Nat) : Qry := .loop 73 0 [1, 1, 0, 1, 0] [.c (.ptr 0 0), .c (.ptr 1 0), I (Int.ofNat k)] (tabH k)
def tabA : Ans := ⟨.exit 0, [.c (.ptr 0 0), .c (.ptr 1 0), I 256], tabH 256⟩
def ST : Qry → Option Sa := fun q => match q with
  | .loop _ _ p _ _ => match Nat.beq p.length 5 with
    | true => some (.one tabA)
    | false => none
  | _ => none
def stpI (n : Int) : Int := Int.ofNat (stp n.toNat)
def sStp : List AV → Option AV
  | [.c (.p (.v (.int _ n)))] => some (U32 (stpI n))
  | _ => none
def sTab : List AV → Option AV := fun _ => some TabV
def tabI : List Int := tabL.map Int.ofNat

def scr : An := (An.l (An.i (An.l (An.d (An.i (An.l (An.d (An.i (An.l (An.d (An.i (An.l (An.d (An.i (An.l (An.d (An.i (An.l (An.d (An.i (An.l (An.d (An.i (An.l (An.d (An.i (An.l (An.d (An.d (An.a An.e))))))))))))))))))))))))))))))
theorem step {k : Nat} (t : fol CK Try.prog ST scr (T.evQ CK Try.prog (tabQ k) .done) = .ask (tabQ (k + 1)) tabA (.done tabA)) (q : QOk Try.prog CK (tabQ (k + 1)) tabA) : QOk Try.prog CK (tabQ k) tabA := tree_i hP t ⟨q, rfl⟩
theorem o256 : fol CK Try.prog ST (An.l An.e) (T.evQ CK Try.prog (tabQ 256) .done) = .done tabA := by kernel_rfl
theorem q256 : QOk Try.prog CK (tabQ 256) tabA := tree_i hP o256 rfl
theorem t255 : fol CK Try.prog ST scr (T.evQ CK Try.prog (tabQ 255) .done) = .ask (tabQ (255 + 1)) tabA (.done tabA) := by kernel_rfl
theorem q255 : QOk Try.prog CK (tabQ 255) tabA := step t255 q256
theorem t254 : fol CK Try.prog ST scr (T.evQ CK Try.prog (tabQ 254) .done) = .ask (tabQ (254 + 1)) tabA (.done tabA) := by kernel_rfl
theorem q254 : QOk Try.prog CK (tabQ 254) tabA := step t254 q255
theorem t253 : fol CK Try.prog ST scr (T.evQ CK Try.prog (tabQ 253) .done) = .ask (tabQ (253 + 1)) tabA (.done tabA) := by kernel_rfl
theorem q253 : QOk Try.prog CK (tabQ 253) tabA := step t253 q254
theorem t252 : fol CK Try.prog ST scr (T.evQ CK Try.prog (tabQ 252) .done) = .ask (tabQ (252 + 1)) tabA (.done tabA) := by kernel_rfl
theorem q252 : QOk Try.prog CK (tabQ 252) tabA := step t252 q253
theorem t251 : fol CK Try.prog ST scr (T.evQ CK Try.prog (tabQ 251) .done) = .ask (tabQ (251 + 1)) tabA (.done tabA) := by kernel_rfl
theorem q251 : QOk Try.prog CK (tabQ 251) tabA := step t251 q252
theorem t250 : fol CK Try.prog ST scr (T.evQ CK Try.prog (tabQ 250) .done) = .ask (tabQ (250 + 1)) tabA (.done tabA) := by kernel_rfl
theorem q250 : QOk Try.prog CK (tabQ 250) tabA := step t250 q251
theorem t249 : fol CK Try.prog ST scr (T.evQ CK Try.prog (tabQ 249) .done) = .ask (tabQ (249 + 1)) tabA (.done tabA) := by kernel_rfl
theorem q249 : QOk Try.prog CK (tabQ 249) tabA := step t249 q250
theorem t248 : fol CK Try.prog ST scr (T.evQ CK Try.prog (tabQ 248) .done) = .ask (tabQ (248 + 1)) tabA (.done tabA) := by kernel_rfl
theorem q248 : QOk Try.prog CK (tabQ 248) tabA := step t248 q249
theorem t247 : fol CK Try.prog ST scr (T.evQ CK Try.prog (tabQ 247) .done) = .ask (tabQ (247 + 1)) tabA (.done tabA) := by kernel_rfl
theorem q247 : QOk Try.prog CK (tabQ 247) tabA := step t247 q248
theorem t246 : fol CK Try.prog ST scr (T.evQ CK Try.prog (tabQ 246) .done) = .ask (tabQ (246 + 1)) tabA (.done tabA) := by kernel_rfl
theorem q246 : QOk Try.prog CK (tabQ 246) tabA := step t246 q247
theorem t245 : fol CK Try.prog ST scr (T.evQ CK Try.prog (tabQ 245) .done) = .ask (tabQ (245 + 1)) tabA (.done tabA) := by kernel_rfl
theorem q245 : QOk Try.prog CK (tabQ 245) tabA := step t245 q246
theorem t244 : fol CK Try.prog ST scr (T.evQ CK Try.prog (tabQ 244) .done) = .ask (tabQ (244 + 1)) tabA (.done tabA) := by kernel_rfl
theorem q244 : QOk Try.prog CK (tabQ 244) tabA := step t244 q245
theorem t243 : fol CK Try.prog ST scr (T.evQ CK Try.prog (tabQ 243) .done) = .ask (tabQ (243 + 1)) tabA (.done tabA) := by kernel_rfl
theorem q243 : QOk Try.prog CK (tabQ 243) tabA := step t243 q244
theorem t242 : fol CK Try.prog ST scr (T.evQ CK Try.prog (tabQ 242) .done) = .ask (tabQ (242 + 1)) tabA (.done tabA) := by kernel_rfl
theorem q242 : QOk Try.prog CK (tabQ 242) tabA := step t242 q243
theorem t241 : fol CK Try.prog ST scr (T.evQ CK Try.prog (tabQ 241) .done) = .ask (tabQ (241 + 1)) tabA (.done tabA) := by kernel_rfl
theorem q241 : QOk Try.prog CK (tabQ 241) tabA := step t241 q242
theorem t240 : fol CK Try.prog ST scr (T.evQ CK Try.prog (tabQ 240) .done) = .ask (tabQ (240 + 1)) tabA (.done tabA) := by kernel_rfl
theorem q240 : QOk Try.prog CK (tabQ 240) tabA := step t240 q241
theorem t239 : fol CK Try.prog ST scr (T.evQ CK Try.prog (tabQ 239) .done) = .ask (tabQ (239 + 1)) tabA (.done tabA) := by kernel_rfl
theorem q239 : QOk Try.prog CK (tabQ 239) tabA := step t239 q240
theorem t238 : fol CK Try.prog ST scr (T.evQ CK Try.prog (tabQ 238) .done) = .ask (tabQ (238 + 1)) tabA (.done tabA) := by kernel_rfl
theorem q238 : QOk Try.prog CK (tabQ 238) tabA := step t238 q239
theorem t237 : fol CK Try.prog ST scr (T.evQ CK Try.prog (tabQ 237) .done) = .ask (tabQ (237 + 1)) tabA (.done tabA) := by kernel_rfl
theorem q237 : QOk Try.prog CK (tabQ 237) tabA := step t237 q238
theorem t236 : fol CK Try.prog ST scr (T.evQ CK Try.prog (tabQ 236) .done) = .ask (tabQ (236 + 1)) tabA (.done tabA) := by kernel_rfl
theorem q236 : QOk Try.prog CK (tabQ 236) tabA := step t236 q237
theorem t235 : fol CK Try.prog ST scr (T.evQ CK Try.prog (tabQ 235) .done) = .ask (tabQ (235 + 1)) tabA (.done tabA) := by kernel_rfl
theorem q235 : QOk Try.prog CK (tabQ 235) tabA := step t235 q236
theorem t234 : fol CK Try.prog ST scr (T.evQ CK Try.prog (tabQ 234) .done) = .ask (tabQ (234 + 1)) tabA (.done tabA) := by kernel_rfl
theorem q234 : QOk Try.prog CK (tabQ 234) tabA := step t234 q235
theorem t233 : fol CK Try.prog ST scr (T.evQ CK Try.prog (tabQ 233) .done) = .ask (tabQ (233 + 1)) tabA (.done tabA) := by kernel_rfl
theorem q233 : QOk Try.prog CK (tabQ 233) tabA := step t233 q234
theorem t232 : fol CK Try.prog ST scr (T.evQ CK Try.prog (tabQ 232) .done) = .ask (tabQ (232 + 1)) tabA (.done tabA) := by kernel_rfl
theorem q232 : QOk Try.prog CK (tabQ 232) tabA := step t232 q233
theorem t231 : fol CK Try.prog ST scr (T.evQ CK Try.prog (tabQ 231) .done) = .ask (tabQ (231 + 1)) tabA (.done tabA) := by kernel_rfl
theorem q231 : QOk Try.prog CK (tabQ 231) tabA := step t231 q232
theorem t230 : fol CK Try.prog ST scr (T.evQ CK Try.prog (tabQ 230) .done) = .ask (tabQ (230 + 1)) tabA (.done tabA) := by kernel_rfl
theorem q230 : QOk Try.prog CK (tabQ 230) tabA := step t230 q231
theorem t229 : fol CK Try.prog ST scr (T.evQ CK Try.prog (tabQ 229) .done) = .ask (tabQ (229 + 1)) tabA (.done tabA) := by kernel_rfl
theorem q229 : QOk Try.prog CK (tabQ 229) tabA := step t229 q230
theorem t228 : fol CK Try.prog ST scr (T.evQ CK Try.prog (tabQ 228) .done) = .ask (tabQ (228 + 1)) tabA (.done tabA) := by kernel_rfl
theorem q228 : QOk Try.prog CK (tabQ 228) tabA := step t228 q229
theorem t227 : fol CK Try.prog ST scr (T.evQ CK Try.prog (tabQ 227) .done) = .ask (tabQ (227 + 1)) tabA (.done tabA) := by kernel_rfl
theorem q227 : QOk Try.prog CK (tabQ 227) tabA := step t227 q228
theorem t226 : fol CK Try.prog ST scr (T.evQ CK Try.prog (tabQ 226) .done) = .ask (tabQ (226 + 1)) tabA (.done tabA) := by kernel_rfl
theorem q226 : QOk Try.prog CK (tabQ 226) tabA := step t226 q227
theorem t225 : fol CK Try.prog ST scr (T.evQ CK Try.prog (tabQ 225) .done) = .ask (tabQ (225 + 1)) tabA (.done tabA) := by kernel_rfl
theorem q225 : QOk Try.prog CK (tabQ 225) tabA := step t225 q226
theorem t224 : fol CK Try.prog ST scr (T.evQ CK Try.prog (tabQ 224) .done) = .ask (tabQ (224 + 1)) tabA (.done tabA) := by kernel_rfl
theorem q224 : QOk Try.prog CK (tabQ 224) tabA := step t224 q225
theorem t223 : fol CK Try.prog ST scr (T.evQ CK Try.prog (tabQ 223) .done) = .ask (tabQ (223 + 1)) tabA (.done tabA) := by kernel_rfl
theorem q223 : QOk Try.prog CK (tabQ 223) tabA := step t223 q224
theorem t222 : fol CK Try.prog ST scr (T.evQ CK Try.prog (tabQ 222) .done) = .ask (tabQ (222 + 1)) tabA (.done tabA) := by kernel_rfl
theorem q222 : QOk Try.prog CK (tabQ 222) tabA := step t222 q223
theorem t221 : fol CK Try.prog ST scr (T.evQ CK Try.prog (tabQ 221) .done) = .ask (tabQ (221 + 1)) tabA (.done tabA) := by kernel_rfl
theorem q221 : QOk Try.prog CK (tabQ 221) tabA := step t221 q222
theorem t220 : fol CK Try.prog ST scr (T.evQ CK Try.prog (tabQ 220) .done) = .ask (tabQ (220 + 1)) tabA (.done tabA) := by kernel_rfl
theorem q220 : QOk Try.prog CK (tabQ 220) tabA := step t220 q221
theorem t219 : fol CK Try.prog ST scr (T.evQ CK Try.prog (tabQ 219) .done) = .ask (tabQ (219 + 1)) tabA (.done tabA) := by kernel_rfl
theorem q219 : QOk Try.prog CK (tabQ 219) tabA := step t219 q220
theorem t218 : fol CK Try.prog ST scr (T.evQ CK Try.prog (tabQ 218) .done) = .ask (tabQ (218 + 1)) tabA (.done tabA) := by kernel_rfl
theorem q218 : QOk Try.prog CK (tabQ 218) tabA := step t218 q219
theorem t217 : fol CK Try.prog ST scr (T.evQ CK Try.prog (tabQ 217) .done) = .ask (tabQ (217 + 1)) tabA (.done tabA) := by kernel_rfl
theorem q217 : QOk Try.prog CK (tabQ 217) tabA := step t217 q218
theorem t216 : fol CK Try.prog ST scr (T.evQ CK Try.prog (tabQ 216) .done) = .ask (tabQ (216 + 1)) tabA (.done tabA) := by kernel_rfl
theorem q216 : QOk Try.prog CK (tabQ 216) tabA := step t216 q217
theorem t215 : fol CK Try.prog ST scr (T.evQ CK Try.prog (tabQ 215) .done) = .ask (tabQ (215 + 1)) tabA (.done tabA) := by kernel_rfl
theorem q215 : QOk Try.prog CK (tabQ 215) tabA := step t215 q216
theorem t214 : fol CK Try.prog ST scr (T.evQ CK Try.prog (tabQ 214) .done) = .ask (tabQ (214 + 1)) tabA (.done tabA) := by kernel_rfl
theorem q214 : QOk Try.prog CK (tabQ 214) tabA := step t214 q215
theorem t213 : fol CK Try.prog ST scr (T.evQ CK Try.prog (tabQ 213) .done) = .ask (tabQ (213 + 1)) tabA (.done tabA) := by kernel_rfl
theorem q213 : QOk Try.prog CK (tabQ 213) tabA := step t213 q214
theorem t212 : fol CK Try.prog ST scr (T.evQ CK Try.prog (tabQ 212) .done) = .ask (tabQ (212 + 1)) tabA (.done tabA) := by kernel_rfl
theorem q212 : QOk Try.prog CK (tabQ 212) tabA := step t212 q213
theorem t211 : fol CK Try.prog ST scr (T.evQ CK Try.prog (tabQ 211) .done) = .ask (tabQ (211 + 1)) tabA (.done tabA) := by kernel_rfl
theorem q211 : QOk Try.prog CK (tabQ 211) tabA := step t211 q212
theorem t210 : fol CK Try.prog ST scr (T.evQ CK Try.prog (tabQ 210) .done) = .ask (tabQ (210 + 1)) tabA (.done tabA) := by kernel_rfl
theorem q210 : QOk Try.prog CK (tabQ 210) tabA := step t210 q211
theorem t209 : fol CK Try.prog ST scr (T.evQ CK Try.prog (tabQ 209) .done) = .ask (tabQ (209 + 1)) tabA (.done tabA) := by kernel_rfl
theorem q209 : QOk Try.prog CK (tabQ 209) tabA := step t209 q210
theorem t208 : fol CK Try.prog ST scr (T.evQ CK Try.prog (tabQ 208) .done) = .ask (tabQ (208 + 1)) tabA (.done tabA) := by kernel_rfl
theorem q208 : QOk Try.prog CK (tabQ 208) tabA := step t208 q209
theorem t207 : fol CK Try.prog ST scr (T.evQ CK Try.prog (tabQ 207) .done) = .ask (tabQ (207 + 1)) tabA (.done tabA) := by kernel_rfl
theorem q207 : QOk Try.prog CK (tabQ 207) tabA := step t207 q208
theorem t206 : fol CK Try.prog ST scr (T.evQ CK Try.prog (tabQ 206) .done) = .ask (tabQ (206 + 1)) tabA (.done tabA) := by kernel_rfl
theorem q206 : QOk Try.prog CK (tabQ 206) tabA := step t206 q207
theorem t205 : fol CK Try.prog ST scr (T.evQ CK Try.prog (tabQ 205) .done) = .ask (tabQ (205 + 1)) tabA (.done tabA) := by kernel_rfl
theorem q205 : QOk Try.prog CK (tabQ 205) tabA := step t205 q206
theorem t204 : fol CK Try.prog ST scr (T.evQ CK Try.prog (tabQ 204) .done) = .ask (tabQ (204 + 1)) tabA (.done tabA) := by kernel_rfl
theorem q204 : QOk Try.prog CK (tabQ 204) tabA := step t204 q205
theorem t203 : fol CK Try.prog ST scr (T.evQ CK Try.prog (tabQ 203) .done) = .ask (tabQ (203 + 1)) tabA (.done tabA) := by kernel_rfl
theorem q203 : QOk Try.prog CK (tabQ 203) tabA := step t203 q204
theorem t202 : fol CK Try.prog ST scr (T.evQ CK Try.prog (tabQ 202) .done) = .ask (tabQ (202 + 1)) tabA (.done tabA) := by kernel_rfl
theorem q202 : QOk Try.prog CK (tabQ 202) tabA := step t202 q203
theorem t201 : fol CK Try.prog ST scr (T.evQ CK Try.prog (tabQ 201) .done) = .ask (tabQ (201 + 1)) tabA (.done tabA) := by kernel_rfl
theorem q201 : QOk Try.prog CK (tabQ 201) tabA := step t201 q202
theorem t200 : fol CK Try.prog ST scr (T.evQ CK Try.prog (tabQ 200) .done) = .ask (tabQ (200 + 1)) tabA (.done tabA) := by kernel_rfl
theorem q200 : QOk Try.prog CK (tabQ 200) tabA := step t200 q201
theorem t199 : fol CK Try.prog ST scr (T.evQ CK Try.prog (tabQ 199) .done) = .ask (tabQ (199 + 1)) tabA (.done tabA) := by kernel_rfl
theorem q199 : QOk Try.prog CK (tabQ 199) tabA := step t199 q200
theorem t198 : fol CK Try.prog ST scr (T.evQ CK Try.prog (tabQ 198) .done) = .ask (tabQ (198 + 1)) tabA (.done tabA) := by kernel_rfl
theorem q198 : QOk Try.prog CK (tabQ 198) tabA := step t198 q199
theorem t197 : fol CK Try.prog ST scr (T.evQ CK Try.prog (tabQ 197) .done) = .ask (tabQ (197 + 1)) tabA (.done tabA) := by kernel_rfl
theorem q197 : QOk Try.prog CK (tabQ 197) tabA := step t197 q198
theorem t196 : fol CK Try.prog ST scr (T.evQ CK Try.prog (tabQ 196) .done) = .ask (tabQ (196 + 1)) tabA (.done tabA) := by kernel_rfl
theorem q196 : QOk Try.prog CK (tabQ 196) tabA := step t196 q197
theorem t195 : fol CK Try.prog ST scr (T.evQ CK Try.prog (tabQ 195) .done) = .ask (tabQ (195 + 1)) tabA (.done tabA) := by kernel_rfl
theorem q195 : QOk Try.prog CK (tabQ 195) tabA := step t195 q196
theorem t194 : fol CK Try.prog ST scr (T.evQ CK Try.prog (tabQ 194) .done) = .ask (tabQ (194 + 1)) tabA (.done tabA) := by kernel_rfl
theorem q194 : QOk Try.prog CK (tabQ 194) tabA := step t194 q195
theorem t193 : fol CK Try.prog ST scr (T.evQ CK Try.prog (tabQ 193) .done) = .ask (tabQ (193 + 1)) tabA (.done tabA) := by kernel_rfl
theorem q193 : QOk Try.prog CK (tabQ 193) tabA := step t193 q194
theorem t192 : fol CK Try.prog ST scr (T.evQ CK Try.prog (tabQ 192) .done) = .ask (tabQ (192 + 1)) tabA (.done tabA) := by kernel_rfl
theorem q192 : QOk Try.prog CK (tabQ 192) tabA := step t192 q193
theorem t191 : fol CK Try.prog ST scr (T.evQ CK Try.prog (tabQ 191) .done) = .ask (tabQ (191 + 1)) tabA (.done tabA) := by kernel_rfl
theorem q191 : QOk Try.prog CK (tabQ 191) tabA := step t191 q192
theorem t190 : fol CK Try.prog ST scr (T.evQ CK Try.prog (tabQ 190) .done) = .ask (tabQ (190 + 1)) tabA (.done tabA) := by kernel_rfl
theorem q190 : QOk Try.prog CK (tabQ 190) tabA := step t190 q191
theorem t189 : fol CK Try.prog ST scr (T.evQ CK Try.prog (tabQ 189) .done) = .ask (tabQ (189 + 1)) tabA (.done tabA) := by kernel_rfl
theorem q189 : QOk Try.prog CK (tabQ 189) tabA := step t189 q190
theorem t188 : fol CK Try.prog ST scr (T.evQ CK Try.prog (tabQ 188) .done) = .ask (tabQ (188 + 1)) tabA (.done tabA) := by kernel_rfl
theorem q188 : QOk Try.prog CK (tabQ 188) tabA := step t188 q189
theorem t187 : fol CK Try.prog ST scr (T.evQ CK Try.prog (tabQ 187) .done) = .ask (tabQ (187 + 1)) tabA (.done tabA) := by kernel_rfl
theorem q187 : QOk Try.prog CK (tabQ 187) tabA := step t187 q188
theorem t186 : fol CK Try.prog ST scr (T.evQ CK Try.prog (tabQ 186) .done) = .ask (tabQ (186 + 1)) tabA (.done tabA) := by kernel_rfl
theorem q186 : QOk Try.prog CK (tabQ 186) tabA := step t186 q187
theorem t185 : fol CK Try.prog ST scr (T.evQ CK Try.prog (tabQ 185) .done) = .ask (tabQ (185 + 1)) tabA (.done tabA) := by kernel_rfl
theorem q185 : QOk Try.prog CK (tabQ 185) tabA := step t185 q186
theorem t184 : fol CK Try.prog ST scr (T.evQ CK Try.prog (tabQ 184) .done) = .ask (tabQ (184 + 1)) tabA (.done tabA) := by kernel_rfl
theorem q184 : QOk Try.prog CK (tabQ 184) tabA := step t184 q185
theorem t183 : fol CK Try.prog ST scr (T.evQ CK Try.prog (tabQ 183) .done) = .ask (tabQ (183 + 1)) tabA (.done tabA) := by kernel_rfl
theorem q183 : QOk Try.prog CK (tabQ 183) tabA := step t183 q184
theorem t182 : fol CK Try.prog ST scr (T.evQ CK Try.prog (tabQ 182) .done) = .ask (tabQ (182 + 1)) tabA (.done tabA) := by kernel_rfl
theorem q182 : QOk Try.prog CK (tabQ 182) tabA := step t182 q183
theorem t181 : fol CK Try.prog ST scr (T.evQ CK Try.prog (tabQ 181) .done) = .ask (tabQ (181 + 1)) tabA (.done tabA) := by kernel_rfl
theorem q181 : QOk Try.prog CK (tabQ 181) tabA := step t181 q182
theorem t180 : fol CK Try.prog ST scr (T.evQ CK Try.prog (tabQ 180) .done) = .ask (tabQ (180 + 1)) tabA (.done tabA) := by kernel_rfl
theorem q180 : QOk Try.prog CK (tabQ 180) tabA := step t180 q181
theorem t179 : fol CK Try.prog ST scr (T.evQ CK Try.prog (tabQ 179) .done) = .ask (tabQ (179 + 1)) tabA (.done tabA) := by kernel_rfl
theorem q179 : QOk Try.prog CK (tabQ 179) tabA := step t179 q180
theorem t178 : fol CK Try.prog ST scr (T.evQ CK Try.prog (tabQ 178) .done) = .ask (tabQ (178 + 1)) tabA (.done tabA) := by kernel_rfl
theorem q178 : QOk Try.prog CK (tabQ 178) tabA := step t178 q179
theorem t177 : fol CK Try.prog ST scr (T.evQ CK Try.prog (tabQ 177) .done) = .ask (tabQ (177 + 1)) tabA (.done tabA) := by kernel_rfl
theorem q177 : QOk Try.prog CK (tabQ 177) tabA := step t177 q178
theorem t176 : fol CK Try.prog ST scr (T.evQ CK Try.prog (tabQ 176) .done) = .ask (tabQ (176 + 1)) tabA (.done tabA) := by kernel_rfl
theorem q176 : QOk Try.prog CK (tabQ 176) tabA := step t176 q177
theorem t175 : fol CK Try.prog ST scr (T.evQ CK Try.prog (tabQ 175) .done) = .ask (tabQ (175 + 1)) tabA (.done tabA) := by kernel_rfl
theorem q175 : QOk Try.prog CK (tabQ 175) tabA := step t175 q176
theorem t174 : fol CK Try.prog ST scr (T.evQ CK Try.prog (tabQ 174) .done) = .ask (tabQ (174 + 1)) tabA (.done tabA) := by kernel_rfl
theorem q174 : QOk Try.prog CK (tabQ 174) tabA := step t174 q175
theorem t173 : fol CK Try.prog ST scr (T.evQ CK Try.prog (tabQ 173) .done) = .ask (tabQ (173 + 1)) tabA (.done tabA) := by kernel_rfl
theorem q173 : QOk Try.prog CK (tabQ 173) tabA := step t173 q174
theorem t172 : fol CK Try.prog ST scr (T.evQ CK Try.prog (tabQ 172) .done) = .ask (tabQ (172 + 1)) tabA (.done tabA) := by kernel_rfl
theorem q172 : QOk Try.prog CK (tabQ 172) tabA := step t172 q173
theorem t171 : fol CK Try.prog ST scr (T.evQ CK Try.prog (tabQ 171) .done) = .ask (tabQ (171 + 1)) tabA (.done tabA) := by kernel_rfl
theorem q171 : QOk Try.prog CK (tabQ 171) tabA := step t171 q172
end Crc
end Go.Fx
