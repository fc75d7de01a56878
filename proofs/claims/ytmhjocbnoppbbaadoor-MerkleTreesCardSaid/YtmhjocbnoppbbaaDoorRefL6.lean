/- The reference's Sum: the loop that makes a piece's other words. -/
import Derived.Test.YtmhjocbnoppbbaaDoorRefL
import Derived.BigRegion
import Derived.BigQuiet
namespace Go.Proofs.YtmhjocbnoppbbaaDoor.Sha
open Go.RowKit
set_option linter.unusedVariables false
set_option linter.unusedSimpArgs false
set_option maxHeartbeats 8000000 in
set_option maxRecDepth 1000000 in
theorem sum_loop6 {Q0 : Exit → Act → World → Prop} (bs : List UInt8) (W1 wq0 : World)
    (row : Value) (HW0 : Hid (OI wq0 W1.heap.size row (sched bs 0))) (HB0 : Hid (Below W1.heap.size W1 wq0))
    (c0 c1 c2 c3 c4 c5 c6 c7 c8 c9 c10 c11 c12 c13 c15 c17 c18 c19 c20 c21 c22 c23 c24 c25 c26 c27 c28 c29 c30 c31 c32 c33 c34 c35 c36 c37 c38 c39 c40 c41
                    c42 c43 c44 c45 c46 c47 c48 c49 c50 c51 c52 c53 c54 c55 c56 c57 c58 c59 c60 c61 c62 c63 c64 c65 c66 c67 c68 c69 c70 c71 c72 c73 c74 c75 c76 c77 c78 c79 c80 c81
                    c82 c83 c84 c85 c86 c87 c88 c89 c90 c91 c92 c93 c94 c95 c96 c97 c98 c99 c100 c101 c102 c103 c104 c105 c106 c107 c108 c109 c110 c111 c112 c113 c114 c115 c116 c117 c118 c119 c120 c121
                    c122 c123 c124 c125 c126 c127 c128 c129 c130 c131 c132 c133 c134 c135 c136 c137 c138 c139 c140 c141 c142 c143 c144 c145 c146 c147 c148 c149 c150 c151 c152 c153 c154 c155 c156 c157 c158 c159 c160 c161
                    c162 c163 c164 c165 c166 c167 c168 c169 c170 c171 c172 c173 c174 c175 c176 c177 c178 c179 c180 c181 c182 c183 c184 c185 c186 c187 c188 c189 c190 c191 c192 c193 c194 c195 c196 c197 c198 c199 c200 c201
                    c202 c203 c204 c205 c206 c207 c208 c209 c210 c211 c212 c213 c214 c215 c216 c217 c218 c219 c220 c221 c222 c223 c224 c225 c226 c227 c228 c229 c230 c231 c232 c233 c234 c235 c236 c237 c238 c239 c240 c241
                    c242 c243 c244 c245 c246 c247 c248 c249 c250 c251 c252 c253 c254 c255 c256 c257 c258 c259 c260 c261 c262 c263 c264 c265 c266 c267 c268 c269 c270 c271 c272 c273 c274 c275 c276 c277 c278 c279 c280 c281
                    c282 c283 c284 c285 c286 c287 c288 c289 c290 c291 c292 c293 c294 c295 c296 c297 c298 c299 c300 c301 c302 c303 c304 c305 c306 c307 c308 c309 c310 c311 c312 c313 c314 c315 c316 c317 c318 c319 c320 c321
                    c322 c323 c324 c325 c326 c327 c328 c329 c330 c331 c332 c333 c334 c335 c336 c337 c338 c339 c340 c341 c342 c343 c344 c345 c346 c347 c348 c349 c350 c351 c352 c353 : Value)
    (hexit : Hid (∀ (u14 u16 u17 u18 u19 u20 u128 u129 u130 u131 u132 u133 u134 u135 u136 u137 u138 u139 u140 u141 u142 u143 u144 u145 u146 u147 u148 u149 u150 u151 u152 u153 u154 u155 u156 u157 u158 u159 u160 u161 u162
                    u163 u164 u165 u166 u167 u168 u169 u170 u171 u172 u173 u174 u175 u176 : Value) (w' : World), Hid (OI w' W1.heap.size u14 (sched bs 48)) → Hid (Below W1.heap.size W1 w') →
      Q0 (.exit 10) ⟨List.toArray (c0 :: c1 :: c2 :: c3 :: c4 :: c5 :: c6 :: c7 :: c8 :: c9 :: c10 :: c11 :: c12 :: c13 :: u14 :: c15 :: u16 :: u17 :: u18 :: u19 :: u20 :: c21 :: c22 :: c23 :: c24 :: c25 :: c26 :: c27 :: c28 :: c29 :: c30 :: c31 :: c32 :: c33 :: c34 :: c35 :: c36 :: c37 :: c38 :: c39 ::
                    c40 :: c41 :: c42 :: c43 :: c44 :: c45 :: c46 :: c47 :: c48 :: c49 :: c50 :: c51 :: c52 :: c53 :: c54 :: c55 :: c56 :: c57 :: c58 :: c59 :: c60 :: c61 :: c62 :: c63 :: c64 :: c65 :: c66 :: c67 :: c68 :: c69 :: c70 :: c71 :: c72 :: c73 :: c74 :: c75 :: c76 :: c77 :: c78 :: c79 ::
                    c80 :: c81 :: c82 :: c83 :: c84 :: c85 :: c86 :: c87 :: c88 :: c89 :: c90 :: c91 :: c92 :: c93 :: c94 :: c95 :: c96 :: c97 :: c98 :: c99 :: c100 :: c101 :: c102 :: c103 :: c104 :: c105 :: c106 :: c107 :: c108 :: c109 :: c110 :: c111 :: c112 :: c113 :: c114 :: c115 :: c116 :: c117 :: c118 :: c119 ::
                    c120 :: c121 :: c122 :: c123 :: c124 :: c125 :: c126 :: c127 :: u128 :: u129 :: u130 :: u131 :: u132 :: u133 :: u134 :: u135 :: u136 :: u137 :: u138 :: u139 :: u140 :: u141 :: u142 :: u143 :: u144 :: u145 :: u146 :: u147 :: u148 :: u149 :: u150 :: u151 :: u152 :: u153 :: u154 :: u155 :: u156 :: u157 :: u158 :: u159 ::
                    u160 :: u161 :: u162 :: u163 :: u164 :: u165 :: u166 :: u167 :: u168 :: u169 :: u170 :: u171 :: u172 :: u173 :: u174 :: u175 :: u176 :: c177 :: c178 :: c179 :: c180 :: c181 :: c182 :: c183 :: c184 :: c185 :: c186 :: c187 :: c188 :: c189 :: c190 :: c191 :: c192 :: c193 :: c194 :: c195 :: c196 :: c197 :: c198 :: c199 ::
                    c200 :: c201 :: c202 :: c203 :: c204 :: c205 :: c206 :: c207 :: c208 :: c209 :: c210 :: c211 :: c212 :: c213 :: c214 :: c215 :: c216 :: c217 :: c218 :: c219 :: c220 :: c221 :: c222 :: c223 :: c224 :: c225 :: c226 :: c227 :: c228 :: c229 :: c230 :: c231 :: c232 :: c233 :: c234 :: c235 :: c236 :: c237 :: c238 :: c239 ::
                    c240 :: c241 :: c242 :: c243 :: c244 :: c245 :: c246 :: c247 :: c248 :: c249 :: c250 :: c251 :: c252 :: c253 :: c254 :: c255 :: c256 :: c257 :: c258 :: c259 :: c260 :: c261 :: c262 :: c263 :: c264 :: c265 :: c266 :: c267 :: c268 :: c269 :: c270 :: c271 :: c272 :: c273 :: c274 :: c275 :: c276 :: c277 :: c278 :: c279 ::
                    c280 :: c281 :: c282 :: c283 :: c284 :: c285 :: c286 :: c287 :: c288 :: c289 :: c290 :: c291 :: c292 :: c293 :: c294 :: c295 :: c296 :: c297 :: c298 :: c299 :: c300 :: c301 :: c302 :: c303 :: c304 :: c305 :: c306 :: c307 :: c308 :: c309 :: c310 :: c311 :: c312 :: c313 :: c314 :: c315 :: c316 :: c317 :: c318 :: c319 ::
                    c320 :: c321 :: c322 :: c323 :: c324 :: c325 :: c326 :: c327 :: c328 :: c329 :: c330 :: c331 :: c332 :: c333 :: c334 :: c335 :: c336 :: c337 :: c338 :: c339 :: c340 :: c341 :: c342 :: c343 :: c344 :: c345 :: c346 :: c347 :: c348 :: c349 :: c350 :: c351 :: c352 :: c353 :: []), []⟩ w')) :
    Code.wp Tryd.prog (Code.loop (sumLoop 5)) Q0 ⟨List.toArray (c0 :: c1 :: c2 :: c3 :: c4 :: c5 :: c6 :: c7 :: c8 :: c9 :: c10 :: c11 :: c12 :: c13 :: row :: c15 :: .int .i64 16 :: c17 :: c18 :: c19 :: c20 :: c21 :: c22 :: c23 :: c24 :: c25 :: c26 :: c27 :: c28 :: c29 :: c30 :: c31 :: c32 :: c33 :: c34 :: c35 :: c36 :: c37 :: c38 :: c39 ::
                    c40 :: c41 :: c42 :: c43 :: c44 :: c45 :: c46 :: c47 :: c48 :: c49 :: c50 :: c51 :: c52 :: c53 :: c54 :: c55 :: c56 :: c57 :: c58 :: c59 :: c60 :: c61 :: c62 :: c63 :: c64 :: c65 :: c66 :: c67 :: c68 :: c69 :: c70 :: c71 :: c72 :: c73 :: c74 :: c75 :: c76 :: c77 :: c78 :: c79 ::
                    c80 :: c81 :: c82 :: c83 :: c84 :: c85 :: c86 :: c87 :: c88 :: c89 :: c90 :: c91 :: c92 :: c93 :: c94 :: c95 :: c96 :: c97 :: c98 :: c99 :: c100 :: c101 :: c102 :: c103 :: c104 :: c105 :: c106 :: c107 :: c108 :: c109 :: c110 :: c111 :: c112 :: c113 :: c114 :: c115 :: c116 :: c117 :: c118 :: c119 ::
                    c120 :: c121 :: c122 :: c123 :: c124 :: c125 :: c126 :: c127 :: c128 :: c129 :: c130 :: c131 :: c132 :: c133 :: c134 :: c135 :: c136 :: c137 :: c138 :: c139 :: c140 :: c141 :: c142 :: c143 :: c144 :: c145 :: c146 :: c147 :: c148 :: c149 :: c150 :: c151 :: c152 :: c153 :: c154 :: c155 :: c156 :: c157 :: c158 :: c159 ::
                    c160 :: c161 :: c162 :: c163 :: c164 :: c165 :: c166 :: c167 :: c168 :: c169 :: c170 :: c171 :: c172 :: c173 :: c174 :: c175 :: c176 :: c177 :: c178 :: c179 :: c180 :: c181 :: c182 :: c183 :: c184 :: c185 :: c186 :: c187 :: c188 :: c189 :: c190 :: c191 :: c192 :: c193 :: c194 :: c195 :: c196 :: c197 :: c198 :: c199 ::
                    c200 :: c201 :: c202 :: c203 :: c204 :: c205 :: c206 :: c207 :: c208 :: c209 :: c210 :: c211 :: c212 :: c213 :: c214 :: c215 :: c216 :: c217 :: c218 :: c219 :: c220 :: c221 :: c222 :: c223 :: c224 :: c225 :: c226 :: c227 :: c228 :: c229 :: c230 :: c231 :: c232 :: c233 :: c234 :: c235 :: c236 :: c237 :: c238 :: c239 ::
                    c240 :: c241 :: c242 :: c243 :: c244 :: c245 :: c246 :: c247 :: c248 :: c249 :: c250 :: c251 :: c252 :: c253 :: c254 :: c255 :: c256 :: c257 :: c258 :: c259 :: c260 :: c261 :: c262 :: c263 :: c264 :: c265 :: c266 :: c267 :: c268 :: c269 :: c270 :: c271 :: c272 :: c273 :: c274 :: c275 :: c276 :: c277 :: c278 :: c279 ::
                    c280 :: c281 :: c282 :: c283 :: c284 :: c285 :: c286 :: c287 :: c288 :: c289 :: c290 :: c291 :: c292 :: c293 :: c294 :: c295 :: c296 :: c297 :: c298 :: c299 :: c300 :: c301 :: c302 :: c303 :: c304 :: c305 :: c306 :: c307 :: c308 :: c309 :: c310 :: c311 :: c312 :: c313 :: c314 :: c315 :: c316 :: c317 :: c318 :: c319 ::
                    c320 :: c321 :: c322 :: c323 :: c324 :: c325 :: c326 :: c327 :: c328 :: c329 :: c330 :: c331 :: c332 :: c333 :: c334 :: c335 :: c336 :: c337 :: c338 :: c339 :: c340 :: c341 :: c342 :: c343 :: c344 :: c345 :: c346 :: c347 :: c348 :: c349 :: c350 :: c351 :: c352 :: c353 :: []), []⟩ wq0 := by
  conv => arg 2; arg 1; whnf
  go_loopw [14, 16] (fun u i w' => ∃ (I : Nat), i = .int .i64 (I : Int) ∧ 16 ≤ I ∧ I ≤ 64 ∧ Hid (OI w' W1.heap.size u (sched bs (I - 16))) ∧ Hid (Below W1.heap.size W1 w')) (fun _ i _ => (64 - intOf i).toNat)
  case atStart => exact ⟨16, rfl, by omega, by omega, HW0, HB0⟩
  case round =>
    clear HW0 HB0
    obtain ⟨I, rfl, h16, h64, HW, HBq⟩ := hrel
    rename World => wq
    have hbq := HBq.out.size
    by_cases hlt : I < 64
    · have hlen : (sched bs (I - 16)).length = I := by rw [sched_length]; omega
      have hsn : sched bs (I + 1 - 16) = sched bs (I - 16) ++ [((sched bs (I - 16)).getD (I - 16) 0 + sml0 ((sched bs (I - 16)).getD (I - 15) 0) + (sched bs (I - 16)).getD (I - 7) 0 + sml1 ((sched bs (I - 16)).getD (I - 2) 0)) % 4294967296] := by
        rw [show I + 1 - 16 = (I - 16) + 1 by omega]
        show _ ++ [nextW _] = _
        unfold nextW
        rw [hlen]
      obtain ⟨gw, cw, hv, hgb, hgl, hcw, hcw2, hcell⟩ := HW.out.open_ hlen (by omega)
      subst hv
      have q16 := hcell (I - 16) (by omega)
      have q15 := hcell (I - 15) (by omega)
      have q7 := hcell (I - 7) (by omega)
      have q2 := hcell (I - 2) (by omega)
      have l16 := getD_lt32 (sched_lt bs (I - 16)) (I - 16)
      have l15 := getD_lt32 (sched_lt bs (I - 16)) (I - 15)
      have l7 := getD_lt32 (sched_lt bs (I - 16)) (I - 7)
      have l2 := getD_lt32 (sched_lt bs (I - 16)) (I - 2)
      generalize (sched bs (I - 16)).getD (I - 16) 0 = x16 at q16 l16 hsn
      generalize (sched bs (I - 16)).getD (I - 15) 0 = x15 at q15 l15 hsn
      generalize (sched bs (I - 16)).getD (I - 7) 0 = x7 at q7 l7 hsn
      generalize (sched bs (I - 16)).getD (I - 2) 0 = x2 at q2 l2 hsn
      have HSN := Lib.hid hsn
      have HLEN := Lib.hid hlen
      have e1 : (I : Int) < 64 := by omega
      have e0 : (16 : Int) ≤ (I : Int) := by omega
      have t16 : ((I : Int) - 16).toNat = I - 16 := by omega
      have t15 : ((I : Int) - 15).toNat = I - 15 := by omega
      have t7 : ((I : Int) - 7).toNat = I - 7 := by omega
      have t2 : ((I : Int) - 2).toNat = I - 2 := by omega
      have w16 : IntKind.i64.wrap ((I : Int) - 16) = (I : Int) - 16 := IntWalk.i64_in _ (by omega)
      have w15 : IntKind.i64.wrap ((I : Int) - 15) = (I : Int) - 15 := IntWalk.i64_in _ (by omega)
      have wr7 : IntKind.i64.wrap ((I : Int) - 7) = (I : Int) - 7 := IntWalk.i64_in _ (by omega)
      have w2 : IntKind.i64.wrap ((I : Int) - 2) = (I : Int) - 2 := IntWalk.i64_in _ (by omega)
      have z15 : (0 : Int) ≤ (I : Int) - 15 := by omega
      have z2 : (0 : Int) ≤ (I : Int) - 2 := by omega
      have z16 : (0 : Int) ≤ (I : Int) - 16 := by omega
      have e07 : (7 : Int) ≤ (I : Int) := by omega
      have z7 : (0 : Int) ≤ (I : Int) - 7 := by omega
      have y15 : (I : Int) - 15 < (I : Int) := by omega
      have y2 : (I : Int) - 2 < (I : Int) := by omega
      have y16 : (I : Int) - 16 < (I : Int) := by omega
      have y7 : (I : Int) - 7 < (I : Int) := by omega
      have b0 := sml0_bits x15 l15
      have b1 := sml1_bits x2 l2
      have HB0 := Lib.hid b0
      have HB1 := Lib.hid b1
      have m0 := sml0_lt l15
      have m1 := sml1_lt l2
      clear hlen hlt hcell b0 b1 HSN HB0 HB1
      have b0 := sml0_bits x15 l15
      have b1 := sml1_bits x2 l2
      generalize sml0 x15 = y0 at hsn b0 m0
      generalize sml1 x2 = y1 at hsn b1 m1
      have HSN := Lib.hid hsn
      have HB0 := Lib.hid b0
      have HB1 := Lib.hid b1
      clear hsn b0 b1
      go_upto_region 29 with (fail)
      go_quiet (fail)
      go_upto_region 31 with (first
        | (go_at_call 76; refine (turnI _ _ _ (by assumption) (by omega) (by omega)).mono ?_; rintro e w' ⟨rfl, m, rfl⟩)
        | (go_at_call 77; refine (halfI _ _ _ (by assumption) (by omega) (by omega)).mono ?_; rintro e w' ⟨rfl, m, rfl⟩))
      rw [HB0.out]
      go_upto_region 32 with (first
        | (go_at_call 76; refine (turnI _ _ _ (by assumption) (by omega) (by omega)).mono ?_; rintro e w' ⟨rfl, m, rfl⟩)
        | (go_at_call 77; refine (halfI _ _ _ (by assumption) (by omega) (by omega)).mono ?_; rintro e w' ⟨rfl, m, rfl⟩))
      rw [HB1.out]
      have s1 : IntKind.i64.wrap ((x16 : Int) + (y0 : Int)) = (x16 : Int) + (y0 : Int) := IntWalk.i64_in _ (by omega)
      have s2 : IntKind.i64.wrap ((x16 : Int) + (y0 : Int) + (x7 : Int)) = (x16 : Int) + (y0 : Int) + (x7 : Int) := IntWalk.i64_in _ (by omega)
      have s3 : IntKind.i64.wrap ((x16 : Int) + (y0 : Int) + (x7 : Int) + (y1 : Int)) = (x16 : Int) + (y0 : Int) + (x7 : Int) + (y1 : Int) := IntWalk.i64_in _ (by omega)
      have HXV := Lib.hid (show #[Value.int .i64 (((x16 : Int) + (y0 : Int) + (x7 : Int) + (y1 : Int)) % 4294967296)] = ([(x16 + y0 + x7 + y1) % 4294967296].map iv).toArray by simp [iv])
      go_region_held3 (fun w' => w'.cell? ⟨gw, I - 16, none⟩ = some (.int .i64 (x16 : Int)) ∧ w'.cell? ⟨gw, I - 7, none⟩ = some (.int .i64 (x7 : Int)))
        (first | (go_keep; done) | exact ⟨keep2 q16 hgl _, keep2 q7 hgl _⟩ | exact ⟨(k7 _ (by rw [HLEN.out]; omega)).trans (keep2 q16 hgl _), (k7 _ (by rw [HLEN.out]; omega)).trans (keep2 q7 hgl _)⟩)
        ((refine OI.append_wp2 (ops := _) (base := W1.heap.size) (OI.alloc (HW.out.drewN _) _) (IR.lit _ [(x16 + y0 + x7 + y1) % 4294967296] _ HXV.out 1 rfl (by simp)) (by simp) rfl _ _ (by rfl) (by rfl) (by rfl) (by simp; omega) (by rw [HLEN.out]; simp; omega) ?_; intro v7 w7 h7 hg7 k7))
      go_wp2
      go_roundw
      case rel =>
        refine ⟨I + 1, by go_num, by omega, by omega, ?_, Lib.hid (((below_drewN HBq.out _).drew.alloc (by simp; omega) _).grown hg7 (by simp; omega) (fun k hk => by injection hk with hk; omega))⟩
        rw [HSN.out]
        exact h7
      case measure => simp [intOf]; omega
    · obtain rfl : I = 64 := by omega
      clear hlt h16 h64
      go_wp2
      refine hexit.out _ _ _ _ _ _ _ _ _ _ _ _ _ _ _ _ _ _ _ _ _ _ _ _ _ _ _ _ _ _ _ _ _ _ _ _ _ _ _ _
                    _ _ _ _ _ _ _ _ _ _ _ _ _ _ _ _ ?_ ?_
      · exact HW
      · exact HBq
end Go.Proofs.YtmhjocbnoppbbaaDoor.Sha
