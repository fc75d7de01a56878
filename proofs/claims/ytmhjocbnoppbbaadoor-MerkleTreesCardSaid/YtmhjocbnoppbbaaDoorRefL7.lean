/- The reference's Sum: the loop of the rounds. -/
import Derived.Test.YtmhjocbnoppbbaaDoorRefL
import Derived.BigRegion
import Derived.BigQuiet
namespace Go.Proofs.YtmhjocbnoppbbaaDoor.Sha
open Go.RowKit
set_option linter.unusedVariables false
set_option linter.unusedSimpArgs false
set_option maxHeartbeats 8000000 in
set_option maxRecDepth 1000000 in
theorem sum_loop7 {Q0 : Exit → Act → World → Prop} (S ws : List Nat) (hS8 : S.length = 8) (hSw : Words S) (hws : Words ws) (hwl : ws.length = 64) (kb kc gw wc : Nat) (W1 wq0 : World)
    (HK : Hid (IR W1 kb (.slice (some ⟨kb, 0, none⟩) 64 kc) K64)) (HWS : Hid (IR W1 gw (.slice (some ⟨gw, 0, none⟩) 64 wc) ws))
    (row : Value) (HV0 : Hid (OI wq0 W1.heap.size row S)) (HB0 : Hid (Below W1.heap.size W1 wq0))
    (c0 c2 c3 c4 c5 c6 c7 c8 c9 c10 c11 c12 c13 c15 c16 c17 c18 c19 c20 c23 c24 c25 c26 c27 c28 c29 c30 c31 c32 c33 c34 c35 c36 c37 c38 c39 c40 c41 c42 c43
                    c44 c45 c46 c47 c48 c49 c50 c51 c52 c53 c54 c55 c56 c57 c58 c59 c60 c61 c62 c63 c64 c65 c66 c67 c68 c69 c70 c71 c72 c73 c74 c75 c76 c77 c78 c79 c80 c81 c82 c83
                    c84 c85 c86 c87 c88 c89 c90 c91 c92 c93 c94 c95 c96 c97 c98 c99 c100 c101 c102 c103 c104 c105 c106 c107 c108 c109 c110 c111 c112 c113 c114 c115 c116 c117 c118 c119 c120 c121 c122 c123
                    c124 c125 c126 c127 c128 c129 c130 c131 c132 c133 c134 c135 c136 c137 c138 c139 c140 c141 c142 c143 c144 c145 c146 c147 c148 c149 c150 c151 c152 c153 c154 c155 c156 c157 c158 c159 c160 c161 c162 c163
                    c164 c165 c166 c167 c168 c169 c170 c171 c172 c173 c174 c175 c176 c177 c178 c179 c180 c181 c182 c183 c184 c185 c186 c187 c188 c189 c190 c191 c192 c193 c194 c195 c196 c197 c198 c199 c200 c201 c202 c203
                    c204 c205 c206 c207 c208 c209 c210 c211 c212 c213 c214 c215 c216 c217 c218 c219 c220 c221 c222 c223 c224 c225 c226 c227 c228 c229 c230 c231 c232 c233 c234 c235 c236 c237 c238 c239 c240 c241 c242 c243
                    c244 c245 c246 c247 c248 c249 c250 c251 c252 c253 c254 c255 c256 c257 c258 c259 c260 c261 c262 c263 c264 c265 c266 c267 c268 c269 c270 c271 c272 c273 c274 c275 c276 c277 c278 c279 c280 c281 c282 c283
                    c284 c285 c286 c287 c288 c289 c290 c291 c292 c293 c294 c295 c296 c297 c298 c299 c300 c301 c302 c303 c304 c305 c306 c307 c308 c309 c310 c311 c312 c313 c314 c315 c316 c317 c318 c319 c320 c321 c322 c323
                    c324 c325 c326 c327 c328 c329 c330 c331 c332 c333 c334 c335 c336 c337 c338 c339 c340 c341 c342 c343 c344 c345 c346 c347 c348 c349 c350 c351 c352 c353 : Value)
    (hexit : Hid (∀ (u21 u22 u23 u24 u25 u26 u27 u28 u180 u181 u182 u183 u184 u185 u186 u187 u188 u189 u190 u191 u192 u193 u194 u195 u196 u197 u198 u199 u200 u201 u202 u203 u204 u205 u206 u207 u208 u209 u210 u211 u212
                    u213 u214 u215 u216 u217 u218 u219 u220 u221 u222 u223 u224 u225 u226 u227 u228 u229 u230 u231 u232 u233 u234 u235 u236 u237 u238 u239 u240 u241 u242 u243 u244 u245 u246 u247 u248 u249 u250 u251 u252
                    u253 u254 u255 u256 u257 u258 u259 u260 u261 u262 u263 u264 u265 u266 u267 u268 u269 u270 u271 u272 u273 u274 u275 u276 u277 u278 u279 u280 u281 u282 u283 u284 u285 u286 u287 u288 u289 u290 u291 u292
                    u293 u294 u295 u296 u297 u298 u299 u300 u301 : Value) (w' : World), Hid (OI w' W1.heap.size u21 (roundsW S K64 ws 64)) → Hid (Below W1.heap.size W1 w') →
      Q0 (.exit 12) ⟨List.toArray (c0 :: .slice (some ⟨kb, 0, none⟩) 64 kc :: c2 :: c3 :: c4 :: c5 :: c6 :: c7 :: c8 :: c9 :: c10 :: c11 :: c12 :: c13 :: .slice (some ⟨gw, 0, none⟩) 64 wc :: c15 :: c16 :: c17 :: c18 :: c19 :: c20 :: u21 :: u22 :: u23 :: u24 :: u25 :: u26 :: u27 :: u28 :: c29 :: c30 :: c31 :: c32 :: c33 :: c34 :: c35 :: c36 :: c37 :: c38 :: c39 ::
                    c40 :: c41 :: c42 :: c43 :: c44 :: c45 :: c46 :: c47 :: c48 :: c49 :: c50 :: c51 :: c52 :: c53 :: c54 :: c55 :: c56 :: c57 :: c58 :: c59 :: c60 :: c61 :: c62 :: c63 :: c64 :: c65 :: c66 :: c67 :: c68 :: c69 :: c70 :: c71 :: c72 :: c73 :: c74 :: c75 :: c76 :: c77 :: c78 :: c79 ::
                    c80 :: c81 :: c82 :: c83 :: c84 :: c85 :: c86 :: c87 :: c88 :: c89 :: c90 :: c91 :: c92 :: c93 :: c94 :: c95 :: c96 :: c97 :: c98 :: c99 :: c100 :: c101 :: c102 :: c103 :: c104 :: c105 :: c106 :: c107 :: c108 :: c109 :: c110 :: c111 :: c112 :: c113 :: c114 :: c115 :: c116 :: c117 :: c118 :: c119 ::
                    c120 :: c121 :: c122 :: c123 :: c124 :: c125 :: c126 :: c127 :: c128 :: c129 :: c130 :: c131 :: c132 :: c133 :: c134 :: c135 :: c136 :: c137 :: c138 :: c139 :: c140 :: c141 :: c142 :: c143 :: c144 :: c145 :: c146 :: c147 :: c148 :: c149 :: c150 :: c151 :: c152 :: c153 :: c154 :: c155 :: c156 :: c157 :: c158 :: c159 ::
                    c160 :: c161 :: c162 :: c163 :: c164 :: c165 :: c166 :: c167 :: c168 :: c169 :: c170 :: c171 :: c172 :: c173 :: c174 :: c175 :: c176 :: c177 :: c178 :: c179 :: u180 :: u181 :: u182 :: u183 :: u184 :: u185 :: u186 :: u187 :: u188 :: u189 :: u190 :: u191 :: u192 :: u193 :: u194 :: u195 :: u196 :: u197 :: u198 :: u199 ::
                    u200 :: u201 :: u202 :: u203 :: u204 :: u205 :: u206 :: u207 :: u208 :: u209 :: u210 :: u211 :: u212 :: u213 :: u214 :: u215 :: u216 :: u217 :: u218 :: u219 :: u220 :: u221 :: u222 :: u223 :: u224 :: u225 :: u226 :: u227 :: u228 :: u229 :: u230 :: u231 :: u232 :: u233 :: u234 :: u235 :: u236 :: u237 :: u238 :: u239 ::
                    u240 :: u241 :: u242 :: u243 :: u244 :: u245 :: u246 :: u247 :: u248 :: u249 :: u250 :: u251 :: u252 :: u253 :: u254 :: u255 :: u256 :: u257 :: u258 :: u259 :: u260 :: u261 :: u262 :: u263 :: u264 :: u265 :: u266 :: u267 :: u268 :: u269 :: u270 :: u271 :: u272 :: u273 :: u274 :: u275 :: u276 :: u277 :: u278 :: u279 ::
                    u280 :: u281 :: u282 :: u283 :: u284 :: u285 :: u286 :: u287 :: u288 :: u289 :: u290 :: u291 :: u292 :: u293 :: u294 :: u295 :: u296 :: u297 :: u298 :: u299 :: u300 :: u301 :: c302 :: c303 :: c304 :: c305 :: c306 :: c307 :: c308 :: c309 :: c310 :: c311 :: c312 :: c313 :: c314 :: c315 :: c316 :: c317 :: c318 :: c319 ::
                    c320 :: c321 :: c322 :: c323 :: c324 :: c325 :: c326 :: c327 :: c328 :: c329 :: c330 :: c331 :: c332 :: c333 :: c334 :: c335 :: c336 :: c337 :: c338 :: c339 :: c340 :: c341 :: c342 :: c343 :: c344 :: c345 :: c346 :: c347 :: c348 :: c349 :: c350 :: c351 :: c352 :: c353 :: []), []⟩ w')) :
    Code.wp Tryd.prog (Code.loop (sumLoop 6)) Q0 ⟨List.toArray (c0 :: .slice (some ⟨kb, 0, none⟩) 64 kc :: c2 :: c3 :: c4 :: c5 :: c6 :: c7 :: c8 :: c9 :: c10 :: c11 :: c12 :: c13 :: .slice (some ⟨gw, 0, none⟩) 64 wc :: c15 :: c16 :: c17 :: c18 :: c19 :: c20 :: row :: .int .i64 0 :: c23 :: c24 :: c25 :: c26 :: c27 :: c28 :: c29 :: c30 :: c31 :: c32 :: c33 :: c34 :: c35 :: c36 :: c37 :: c38 :: c39 ::
                    c40 :: c41 :: c42 :: c43 :: c44 :: c45 :: c46 :: c47 :: c48 :: c49 :: c50 :: c51 :: c52 :: c53 :: c54 :: c55 :: c56 :: c57 :: c58 :: c59 :: c60 :: c61 :: c62 :: c63 :: c64 :: c65 :: c66 :: c67 :: c68 :: c69 :: c70 :: c71 :: c72 :: c73 :: c74 :: c75 :: c76 :: c77 :: c78 :: c79 ::
                    c80 :: c81 :: c82 :: c83 :: c84 :: c85 :: c86 :: c87 :: c88 :: c89 :: c90 :: c91 :: c92 :: c93 :: c94 :: c95 :: c96 :: c97 :: c98 :: c99 :: c100 :: c101 :: c102 :: c103 :: c104 :: c105 :: c106 :: c107 :: c108 :: c109 :: c110 :: c111 :: c112 :: c113 :: c114 :: c115 :: c116 :: c117 :: c118 :: c119 ::
                    c120 :: c121 :: c122 :: c123 :: c124 :: c125 :: c126 :: c127 :: c128 :: c129 :: c130 :: c131 :: c132 :: c133 :: c134 :: c135 :: c136 :: c137 :: c138 :: c139 :: c140 :: c141 :: c142 :: c143 :: c144 :: c145 :: c146 :: c147 :: c148 :: c149 :: c150 :: c151 :: c152 :: c153 :: c154 :: c155 :: c156 :: c157 :: c158 :: c159 ::
                    c160 :: c161 :: c162 :: c163 :: c164 :: c165 :: c166 :: c167 :: c168 :: c169 :: c170 :: c171 :: c172 :: c173 :: c174 :: c175 :: c176 :: c177 :: c178 :: c179 :: c180 :: c181 :: c182 :: c183 :: c184 :: c185 :: c186 :: c187 :: c188 :: c189 :: c190 :: c191 :: c192 :: c193 :: c194 :: c195 :: c196 :: c197 :: c198 :: c199 ::
                    c200 :: c201 :: c202 :: c203 :: c204 :: c205 :: c206 :: c207 :: c208 :: c209 :: c210 :: c211 :: c212 :: c213 :: c214 :: c215 :: c216 :: c217 :: c218 :: c219 :: c220 :: c221 :: c222 :: c223 :: c224 :: c225 :: c226 :: c227 :: c228 :: c229 :: c230 :: c231 :: c232 :: c233 :: c234 :: c235 :: c236 :: c237 :: c238 :: c239 ::
                    c240 :: c241 :: c242 :: c243 :: c244 :: c245 :: c246 :: c247 :: c248 :: c249 :: c250 :: c251 :: c252 :: c253 :: c254 :: c255 :: c256 :: c257 :: c258 :: c259 :: c260 :: c261 :: c262 :: c263 :: c264 :: c265 :: c266 :: c267 :: c268 :: c269 :: c270 :: c271 :: c272 :: c273 :: c274 :: c275 :: c276 :: c277 :: c278 :: c279 ::
                    c280 :: c281 :: c282 :: c283 :: c284 :: c285 :: c286 :: c287 :: c288 :: c289 :: c290 :: c291 :: c292 :: c293 :: c294 :: c295 :: c296 :: c297 :: c298 :: c299 :: c300 :: c301 :: c302 :: c303 :: c304 :: c305 :: c306 :: c307 :: c308 :: c309 :: c310 :: c311 :: c312 :: c313 :: c314 :: c315 :: c316 :: c317 :: c318 :: c319 ::
                    c320 :: c321 :: c322 :: c323 :: c324 :: c325 :: c326 :: c327 :: c328 :: c329 :: c330 :: c331 :: c332 :: c333 :: c334 :: c335 :: c336 :: c337 :: c338 :: c339 :: c340 :: c341 :: c342 :: c343 :: c344 :: c345 :: c346 :: c347 :: c348 :: c349 :: c350 :: c351 :: c352 :: c353 :: []), []⟩ wq0 := by
  conv => arg 2; arg 1; whnf
  have HS8 := Lib.hid hS8
  have HSW := Lib.hid hSw
  have HWW := Lib.hid hws
  have HWL := Lib.hid hwl
  clear hS8 hSw hws hwl
  go_loopw [21, 22] (fun u i w' => ∃ (j : Nat), i = .int .i64 (j : Int) ∧ j ≤ 64 ∧ Hid (OI w' W1.heap.size u (roundsW S K64 ws j)) ∧ Hid (Below W1.heap.size W1 w')) (fun _ i _ => (64 - intOf i).toNat)
  case atStart => exact ⟨0, rfl, by omega, HV0, HB0⟩
  case round =>
    clear HV0 HB0
    obtain ⟨j, rfl, hj, HV, HBq⟩ := hrel
    rename World => wq
    have hbq := HBq.out.size
    by_cases hlt : j < 64
    · have hl8 := roundsW_length HS8.out K64 ws j
      have hw8 := roundsW_words HSW.out K64 ws j
      have hnext : roundsW S K64 ws (j + 1) = roundW (roundsW S K64 ws j) (K64.getD j 0) (ws.getD j 0) := rfl
      generalize roundsW S K64 ws j = st at HV hl8 hw8 hnext
      obtain ⟨a, b, c, d, e, f, g, hh, rfl, la, lb, lc, ld, le, lf, lg, lh⟩ := eight hl8 hw8
      obtain ⟨gv, cv, hv, hgb, hgl, hcv, hcv2, hcell⟩ := HV.out.open_ (n := 8) rfl (by omega)
      subst hv
      have q0 := hcell 0 (by simp)
      have q1 := hcell 1 (by simp)
      have q2 := hcell 2 (by simp)
      have q3 := hcell 3 (by simp)
      have q4 := hcell 4 (by simp)
      have q5 := hcell 5 (by simp)
      have q6 := hcell 6 (by simp)
      have q7 := hcell 7 (by simp)
      simp only [List.getD_cons_zero, List.getD_cons_succ] at q0 q1 q2 q3 q4 q5 q6 q7
      have lk : K64.getD j 0 < 4294967296 := getD_lt32 K64_words j
      have lw : ws.getD j 0 < 4294967296 := getD_lt32 HWW.out j
      have qk := (IR.later HK.out HBq.out).cell j (by rw [K64_length]; exact hlt)
      have qw := (IR.later HWS.out HBq.out).cell j (by rw [HWL.out]; exact hlt)
      generalize K64.getD j 0 = kk at lk qk hnext
      generalize ws.getD j 0 = ww at lw qw hnext
      have b1 := big1_bitsI e le
      have b2 := ch_bitsI e f g le lf lg
      have b3 := big0_bitsI a la
      have b4 := maj_bitsI a b c la lb lc
      have m1 := big1_lt le
      have m2 := chW_lt' e f g le
      have m3 := big0_lt la
      have m4 : majW a b c < 4294967296 := majW_lt la lb
      have m5 := t1W_lt e f g hh kk ww
      have m6 := t2W_lt a b c
      have b5 : ((hh : Int) + ((big1 e : Nat) : Int) + ((chW e f g : Nat) : Int) + (kk : Int) + (ww : Int)) % 4294967296 = ((t1W e f g hh kk ww : Nat) : Int) := t1_sumI e f g hh kk ww
      have b6 : (((big0 a : Nat) : Int) + ((majW a b c : Nat) : Int)) % 4294967296 = ((t2W a b c : Nat) : Int) := t2_sumI a b c
      have hrw : roundW [a, b, c, d, e, f, g, hh] kk ww = [(t1W e f g hh kk ww + t2W a b c) % 4294967296, a, b, c, (d + t1W e f g hh kk ww) % 4294967296, e, f, g] := rfl
      rw [hrw] at hnext
      clear hrw
      generalize t1W e f g hh kk ww = T1 at b5 m5 hnext
      generalize t2W a b c = T2 at b6 m6 hnext
      generalize big1 e = B1 at b1 b5 m1
      generalize chW e f g = C1 at b2 b5 m2
      generalize big0 a = B0 at b3 b6 m3
      generalize majW a b c = M0 at b4 b6 m4
      have HN := Lib.hid hnext
      have HT1 := Lib.hid b1
      have HT2 := Lib.hid b2
      have HT3 := Lib.hid b3
      have HT4 := Lib.hid b4
      have HT5 := Lib.hid b5
      have HT6 := Lib.hid b6
      clear b1 b2 b3 b4 b5 b6
      have e0 : (0 : Int) ≤ (j : Int) := by omega
      have e1 : (j : Int) < 64 := by omega
      clear hnext hw8 hl8 hcell hlt
      go_upto_region 37 with (fail)
      go_quiet ((go_at_call 76; first | exact Calls.quiet_of (turnI _ _ _ (by assumption) (by omega) (by omega)) | exact quiet_of_add (turnI _ _ _ (by assumption) (by omega) (by omega))))
      rw [HT1.out]
      go_upto_region 38 with (fail)
      go_quiet (fail)
      rw [HT2.out]
      go_upto_region 39 with (fail)
      go_quiet (fail)
      rw [HT5.out]
      go_upto_region 40 with (fail)
      go_quiet ((go_at_call 76; first | exact Calls.quiet_of (turnI _ _ _ (by assumption) (by omega) (by omega)) | exact quiet_of_add (turnI _ _ _ (by assumption) (by omega) (by omega))))
      rw [HT3.out]
      go_upto_region 41 with (fail)
      go_quiet (fail)
      rw [HT4.out]
      go_upto_region 43 with (fail)
      rw [HT6.out]
      have HXV := Lib.hid (show #[Value.int .i64 (((T1 : Int) + (T2 : Int)) % 4294967296), .int .i64 (a : Int), .int .i64 (b : Int), .int .i64 (c : Int), .int .i64 (((d : Int) + (T1 : Int)) % 4294967296), .int .i64 (e : Int), .int .i64 (f : Int), .int .i64 (g : Int)] = ([(T1 + T2) % 4294967296, a, b, c, (d + T1) % 4294967296, e, f, g].map iv).toArray by simp [iv])
      have s1 : IntKind.i64.wrap ((T1 : Int) + (T2 : Int)) = (T1 : Int) + (T2 : Int) := IntWalk.i64_in _ (by omega)
      have s2 : IntKind.i64.wrap ((d : Int) + (T1 : Int)) = (d : Int) + (T1 : Int) := IntWalk.i64_in _ (by omega)
      go_region_held3 (fun w' => w'.cell? ⟨gv, 0, none⟩ = some (.int .i64 (a : Int)) ∧ w'.cell? ⟨gv, 1, none⟩ = some (.int .i64 (b : Int)) ∧ w'.cell? ⟨gv, 2, none⟩ = some (.int .i64 (c : Int)) ∧ w'.cell? ⟨gv, 3, none⟩ = some (.int .i64 (d : Int)) ∧ w'.cell? ⟨gv, 4, none⟩ = some (.int .i64 (e : Int)) ∧ w'.cell? ⟨gv, 5, none⟩ = some (.int .i64 (f : Int)) ∧ w'.cell? ⟨gv, 6, none⟩ = some (.int .i64 (g : Int)))
        (first | (go_keep; done) | exact ⟨keep2 q0 hgl _, keep2 q1 hgl _, keep2 q2 hgl _, keep2 q3 hgl _, keep2 q4 hgl _, keep2 q5 hgl _, keep2 q6 hgl _⟩)
        (fail)
      go_wp2
      go_roundw
      case rel =>
        refine ⟨j + 1, by go_num, by omega, ?_, Lib.hid ((below_drewN HBq.out _).drew.alloc (by simp; omega) _)⟩
        rw [HN.out]
        exact Lib.hid (OI.lit _ W1.heap.size (by simp; omega) _ _ HXV.out 8 rfl (by simp))
      case measure => simp [intOf]; omega
    · obtain rfl : j = 64 := by omega
      clear hlt hj
      go_wp2
      refine hexit.out _ _ _ _ _ _ _ _ _ _ _ _ _ _ _ _ _ _ _ _ _ _ _ _ _ _ _ _ _ _ _ _ _ _ _ _ _ _ _ _
                    _ _ _ _ _ _ _ _ _ _ _ _ _ _ _ _ _ _ _ _ _ _ _ _ _ _ _ _ _ _ _ _ _ _ _ _ _ _ _ _
                    _ _ _ _ _ _ _ _ _ _ _ _ _ _ _ _ _ _ _ _ _ _ _ _ _ _ _ _ _ _ _ _ _ _ _ _ _ _ _ _
                    _ _ _ _ _ _ _ _ _ _ _ ?_ ?_
      · exact HV
      · exact HBq
end Go.Proofs.YtmhjocbnoppbbaaDoor.Sha
