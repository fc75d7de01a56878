/- The reference's Sum: the loop that reads a piece's sixteen words. -/
import Derived.Test.YtmhjocbnoppbbaaDoorRefL
namespace Go.Proofs.YtmhjocbnoppbbaaDoor.Sha
open Go.RowKit
set_option linter.unusedVariables false
set_option linter.unusedSimpArgs false
set_option maxHeartbeats 8000000 in
set_option maxRecDepth 1000000 in
theorem sum_loop5 {Q0 : Exit → Act → World → Prop} (gb NB cb P r : Nat) (bs : List UInt8) (W1 wq0 : World) (HRB4 : Hid (IR W1 gb (.slice (some ⟨gb, 0, none⟩) NB cb) (nums bs))) (HBL : Hid (bs.length = NB)) (HP : Hid (P = 64 * r)) (hP2 : P + 64 ≤ NB) (hNB2 : NB ≤ 1280000)
    (row : Value) (HW0 : Hid (OI wq0 W1.heap.size row [])) (HB0 : Hid (Below W1.heap.size W1 wq0))
    (c0 c1 c2 c3 c4 c5 c6 c8 c9 c10 c11 c12 c16 c17 c18 c19 c20 c21 c22 c23 c24 c25 c26 c27 c28 c29 c30 c31 c32 c33 c34 c35 c36 c37 c38 c39 c40 c41 c42 c43
                    c44 c45 c46 c47 c48 c49 c50 c51 c52 c53 c54 c55 c56 c57 c58 c59 c60 c61 c62 c63 c64 c65 c66 c67 c68 c69 c70 c71 c72 c73 c74 c75 c76 c77 c78 c79 c80 c81 c82 c83
                    c84 c85 c86 c87 c88 c89 c90 c91 c92 c93 c94 c95 c96 c97 c98 c99 c100 c101 c102 c103 c104 c105 c106 c107 c108 c109 c110 c111 c112 c113 c114 c115 c116 c117 c118 c119 c120 c121 c122 c123
                    c124 c125 c126 c127 c128 c129 c130 c131 c132 c133 c134 c135 c136 c137 c138 c139 c140 c141 c142 c143 c144 c145 c146 c147 c148 c149 c150 c151 c152 c153 c154 c155 c156 c157 c158 c159 c160 c161 c162 c163
                    c164 c165 c166 c167 c168 c169 c170 c171 c172 c173 c174 c175 c176 c177 c178 c179 c180 c181 c182 c183 c184 c185 c186 c187 c188 c189 c190 c191 c192 c193 c194 c195 c196 c197 c198 c199 c200 c201 c202 c203
                    c204 c205 c206 c207 c208 c209 c210 c211 c212 c213 c214 c215 c216 c217 c218 c219 c220 c221 c222 c223 c224 c225 c226 c227 c228 c229 c230 c231 c232 c233 c234 c235 c236 c237 c238 c239 c240 c241 c242 c243
                    c244 c245 c246 c247 c248 c249 c250 c251 c252 c253 c254 c255 c256 c257 c258 c259 c260 c261 c262 c263 c264 c265 c266 c267 c268 c269 c270 c271 c272 c273 c274 c275 c276 c277 c278 c279 c280 c281 c282 c283
                    c284 c285 c286 c287 c288 c289 c290 c291 c292 c293 c294 c295 c296 c297 c298 c299 c300 c301 c302 c303 c304 c305 c306 c307 c308 c309 c310 c311 c312 c313 c314 c315 c316 c317 c318 c319 c320 c321 c322 c323
                    c324 c325 c326 c327 c328 c329 c330 c331 c332 c333 c334 c335 c336 c337 c338 c339 c340 c341 c342 c343 c344 c345 c346 c347 c348 c349 c350 c351 c352 c353 : Value)
    (hexit : Hid (∀ (u14 u15 u84 u85 u86 u87 u88 u89 u90 u91 u92 u93 u94 u95 u96 u97 u98 u99 u100 u101 u102 u103 u104 u105 u106 u107 u108 u109 u110 u111 u112 u113 u114 u115 u116 u117 u118 u119 u120 u121 u122 u123
                    u124 u125 u126 u127 : Value) (w' : World), Hid (OI w' W1.heap.size u14 (sched (bs.drop (64 * r)) 0)) → Hid (Below W1.heap.size W1 w') →
      Q0 (.exit 8) ⟨List.toArray (c0 :: c1 :: c2 :: c3 :: c4 :: c5 :: c6 :: .slice (some ⟨gb, 0, none⟩) NB cb :: c8 :: c9 :: c10 :: c11 :: c12 :: .int .i64 (P : Int) :: u14 :: u15 :: c16 :: c17 :: c18 :: c19 :: c20 :: c21 :: c22 :: c23 :: c24 :: c25 :: c26 :: c27 :: c28 :: c29 :: c30 :: c31 :: c32 :: c33 :: c34 :: c35 :: c36 :: c37 :: c38 :: c39 ::
                    c40 :: c41 :: c42 :: c43 :: c44 :: c45 :: c46 :: c47 :: c48 :: c49 :: c50 :: c51 :: c52 :: c53 :: c54 :: c55 :: c56 :: c57 :: c58 :: c59 :: c60 :: c61 :: c62 :: c63 :: c64 :: c65 :: c66 :: c67 :: c68 :: c69 :: c70 :: c71 :: c72 :: c73 :: c74 :: c75 :: c76 :: c77 :: c78 :: c79 ::
                    c80 :: c81 :: c82 :: c83 :: u84 :: u85 :: u86 :: u87 :: u88 :: u89 :: u90 :: u91 :: u92 :: u93 :: u94 :: u95 :: u96 :: u97 :: u98 :: u99 :: u100 :: u101 :: u102 :: u103 :: u104 :: u105 :: u106 :: u107 :: u108 :: u109 :: u110 :: u111 :: u112 :: u113 :: u114 :: u115 :: u116 :: u117 :: u118 :: u119 ::
                    u120 :: u121 :: u122 :: u123 :: u124 :: u125 :: u126 :: u127 :: c128 :: c129 :: c130 :: c131 :: c132 :: c133 :: c134 :: c135 :: c136 :: c137 :: c138 :: c139 :: c140 :: c141 :: c142 :: c143 :: c144 :: c145 :: c146 :: c147 :: c148 :: c149 :: c150 :: c151 :: c152 :: c153 :: c154 :: c155 :: c156 :: c157 :: c158 :: c159 ::
                    c160 :: c161 :: c162 :: c163 :: c164 :: c165 :: c166 :: c167 :: c168 :: c169 :: c170 :: c171 :: c172 :: c173 :: c174 :: c175 :: c176 :: c177 :: c178 :: c179 :: c180 :: c181 :: c182 :: c183 :: c184 :: c185 :: c186 :: c187 :: c188 :: c189 :: c190 :: c191 :: c192 :: c193 :: c194 :: c195 :: c196 :: c197 :: c198 :: c199 ::
                    c200 :: c201 :: c202 :: c203 :: c204 :: c205 :: c206 :: c207 :: c208 :: c209 :: c210 :: c211 :: c212 :: c213 :: c214 :: c215 :: c216 :: c217 :: c218 :: c219 :: c220 :: c221 :: c222 :: c223 :: c224 :: c225 :: c226 :: c227 :: c228 :: c229 :: c230 :: c231 :: c232 :: c233 :: c234 :: c235 :: c236 :: c237 :: c238 :: c239 ::
                    c240 :: c241 :: c242 :: c243 :: c244 :: c245 :: c246 :: c247 :: c248 :: c249 :: c250 :: c251 :: c252 :: c253 :: c254 :: c255 :: c256 :: c257 :: c258 :: c259 :: c260 :: c261 :: c262 :: c263 :: c264 :: c265 :: c266 :: c267 :: c268 :: c269 :: c270 :: c271 :: c272 :: c273 :: c274 :: c275 :: c276 :: c277 :: c278 :: c279 ::
                    c280 :: c281 :: c282 :: c283 :: c284 :: c285 :: c286 :: c287 :: c288 :: c289 :: c290 :: c291 :: c292 :: c293 :: c294 :: c295 :: c296 :: c297 :: c298 :: c299 :: c300 :: c301 :: c302 :: c303 :: c304 :: c305 :: c306 :: c307 :: c308 :: c309 :: c310 :: c311 :: c312 :: c313 :: c314 :: c315 :: c316 :: c317 :: c318 :: c319 ::
                    c320 :: c321 :: c322 :: c323 :: c324 :: c325 :: c326 :: c327 :: c328 :: c329 :: c330 :: c331 :: c332 :: c333 :: c334 :: c335 :: c336 :: c337 :: c338 :: c339 :: c340 :: c341 :: c342 :: c343 :: c344 :: c345 :: c346 :: c347 :: c348 :: c349 :: c350 :: c351 :: c352 :: c353 :: []), []⟩ w')) :
    Code.wp Tryd.prog (Code.loop (sumLoop 4)) Q0 ⟨List.toArray (c0 :: c1 :: c2 :: c3 :: c4 :: c5 :: c6 :: .slice (some ⟨gb, 0, none⟩) NB cb :: c8 :: c9 :: c10 :: c11 :: c12 :: .int .i64 (P : Int) :: row :: .int .i64 0 :: c16 :: c17 :: c18 :: c19 :: c20 :: c21 :: c22 :: c23 :: c24 :: c25 :: c26 :: c27 :: c28 :: c29 :: c30 :: c31 :: c32 :: c33 :: c34 :: c35 :: c36 :: c37 :: c38 :: c39 ::
                    c40 :: c41 :: c42 :: c43 :: c44 :: c45 :: c46 :: c47 :: c48 :: c49 :: c50 :: c51 :: c52 :: c53 :: c54 :: c55 :: c56 :: c57 :: c58 :: c59 :: c60 :: c61 :: c62 :: c63 :: c64 :: c65 :: c66 :: c67 :: c68 :: c69 :: c70 :: c71 :: c72 :: c73 :: c74 :: c75 :: c76 :: c77 :: c78 :: c79 ::
                    c80 :: c81 :: c82 :: c83 :: c84 :: c85 :: c86 :: c87 :: c88 :: c89 :: c90 :: c91 :: c92 :: c93 :: c94 :: c95 :: c96 :: c97 :: c98 :: c99 :: c100 :: c101 :: c102 :: c103 :: c104 :: c105 :: c106 :: c107 :: c108 :: c109 :: c110 :: c111 :: c112 :: c113 :: c114 :: c115 :: c116 :: c117 :: c118 :: c119 ::
                    c120 :: c121 :: c122 :: c123 :: c124 :: c125 :: c126 :: c127 :: c128 :: c129 :: c130 :: c131 :: c132 :: c133 :: c134 :: c135 :: c136 :: c137 :: c138 :: c139 :: c140 :: c141 :: c142 :: c143 :: c144 :: c145 :: c146 :: c147 :: c148 :: c149 :: c150 :: c151 :: c152 :: c153 :: c154 :: c155 :: c156 :: c157 :: c158 :: c159 ::
                    c160 :: c161 :: c162 :: c163 :: c164 :: c165 :: c166 :: c167 :: c168 :: c169 :: c170 :: c171 :: c172 :: c173 :: c174 :: c175 :: c176 :: c177 :: c178 :: c179 :: c180 :: c181 :: c182 :: c183 :: c184 :: c185 :: c186 :: c187 :: c188 :: c189 :: c190 :: c191 :: c192 :: c193 :: c194 :: c195 :: c196 :: c197 :: c198 :: c199 ::
                    c200 :: c201 :: c202 :: c203 :: c204 :: c205 :: c206 :: c207 :: c208 :: c209 :: c210 :: c211 :: c212 :: c213 :: c214 :: c215 :: c216 :: c217 :: c218 :: c219 :: c220 :: c221 :: c222 :: c223 :: c224 :: c225 :: c226 :: c227 :: c228 :: c229 :: c230 :: c231 :: c232 :: c233 :: c234 :: c235 :: c236 :: c237 :: c238 :: c239 ::
                    c240 :: c241 :: c242 :: c243 :: c244 :: c245 :: c246 :: c247 :: c248 :: c249 :: c250 :: c251 :: c252 :: c253 :: c254 :: c255 :: c256 :: c257 :: c258 :: c259 :: c260 :: c261 :: c262 :: c263 :: c264 :: c265 :: c266 :: c267 :: c268 :: c269 :: c270 :: c271 :: c272 :: c273 :: c274 :: c275 :: c276 :: c277 :: c278 :: c279 ::
                    c280 :: c281 :: c282 :: c283 :: c284 :: c285 :: c286 :: c287 :: c288 :: c289 :: c290 :: c291 :: c292 :: c293 :: c294 :: c295 :: c296 :: c297 :: c298 :: c299 :: c300 :: c301 :: c302 :: c303 :: c304 :: c305 :: c306 :: c307 :: c308 :: c309 :: c310 :: c311 :: c312 :: c313 :: c314 :: c315 :: c316 :: c317 :: c318 :: c319 ::
                    c320 :: c321 :: c322 :: c323 :: c324 :: c325 :: c326 :: c327 :: c328 :: c329 :: c330 :: c331 :: c332 :: c333 :: c334 :: c335 :: c336 :: c337 :: c338 :: c339 :: c340 :: c341 :: c342 :: c343 :: c344 :: c345 :: c346 :: c347 :: c348 :: c349 :: c350 :: c351 :: c352 :: c353 :: []), []⟩ wq0 := by
  conv => arg 2; arg 1; whnf
  go_loopw [14, 15] (fun u i w' => ∃ (j : Nat), i = .int .i64 (j : Int) ∧ j ≤ 16 ∧ Hid (OI w' W1.heap.size u ((List.range j).map (word4 (bs.drop (64 * r))))) ∧ Hid (Below W1.heap.size W1 w')) (fun _ i _ => (16 - intOf i).toNat)
  case atStart => exact ⟨0, rfl, by omega, HW0, HB0⟩
  case round =>
    clear HW0 HB0
    obtain ⟨j, rfl, hj, HW, HBq⟩ := hrel
    rename World => wq
    have hbq := HBq.out.size
    by_cases hlt : j < 16
    · have hrb := IR.later HRB4.out HBq.out
      obtain ⟨A6, c6, hv6, hc61, hc62, hrb6⟩ := hrb
      obtain ⟨hA6, hgbq, hcell⟩ := hrb6 (by rw [nums_length, HBL.out]; omega)
      clear hv6 hA6 hrb6 hc61 hc62
      have cb' : ∀ m, m < 4 → wq.cell? ⟨gb, P + 4 * j + m, none⟩ = some (.int .i64 ((byt (bs.drop (64 * r)) (4 * j + m) : Nat) : Int)) := fun m hm => by
        rw [hcell (P + 4 * j + m) (by rw [nums_length, HBL.out]; omega), nums_getD, byt_drop, HP.out, Nat.add_assoc]
      have c0 := cb' 0 (by omega)
      have c1 := cb' 1 (by omega)
      have c2 := cb' 2 (by omega)
      have c3 := cb' 3 (by omega)
      rw [Nat.add_zero] at c0
      rw [Nat.add_zero] at c0
      have hwd : (List.range (j + 1)).map (word4 (bs.drop (64 * r))) = (List.range j).map (word4 (bs.drop (64 * r))) ++ [byt (bs.drop (64 * r)) (4 * j) * 16777216 + byt (bs.drop (64 * r)) (4 * j + 1) * 65536 + byt (bs.drop (64 * r)) (4 * j + 2) * 256 + byt (bs.drop (64 * r)) (4 * j + 3)] := by
        rw [List.range_succ, List.map_append]; rfl
      have d0 := byt_lt (bs.drop (64 * r)) (4 * j)
      have d1 := byt_lt (bs.drop (64 * r)) (4 * j + 1)
      have d2 := byt_lt (bs.drop (64 * r)) (4 * j + 2)
      have d3 := byt_lt (bs.drop (64 * r)) (4 * j + 3)
      generalize byt (bs.drop (64 * r)) (4 * j) = x0 at c0 hwd d0
      generalize byt (bs.drop (64 * r)) (4 * j + 1) = x1 at c1 hwd d1
      generalize byt (bs.drop (64 * r)) (4 * j + 2) = x2 at c2 hwd d2
      generalize byt (bs.drop (64 * r)) (4 * j + 3) = x3 at c3 hwd d3
      have HWD := Lib.hid hwd
      have hS : ∀ w', Below W1.heap.size W1 w' → w'.cell? ⟨gb, P + 4 * j, none⟩ = some (.int .i64 (x0 : Int)) ∧ w'.cell? ⟨gb, P + 4 * j + 1, none⟩ = some (.int .i64 (x1 : Int)) ∧ w'.cell? ⟨gb, P + 4 * j + 2, none⟩ = some (.int .i64 (x2 : Int)) ∧ w'.cell? ⟨gb, P + 4 * j + 3, none⟩ = some (.int .i64 (x3 : Int)) := fun w' h => by
        have hg := HRB4.out.lt (by rw [nums_length, HBL.out]; omega)
        have e : ∀ m, w'.cell? ⟨gb, m, none⟩ = wq.cell? ⟨gb, m, none⟩ := fun m => (h.cell (p := ⟨gb, m, none⟩) hg).trans (HBq.out.cell (p := ⟨gb, m, none⟩) hg).symm
        exact ⟨(e _).trans c0, (e _).trans c1, (e _).trans c2, (e _).trans c3⟩
      have HS := Lib.hid hS
      have e0 : (0 : Int) ≤ (j : Int) := by omega
      have e1 : (j : Int) < 16 := by omega
      have e2 : (P : Int) + 4 * (j : Int) + 3 < (NB : Int) := by omega
      have e3 : (0 : Int) ≤ (P : Int) := by omega
      have e4 : (NB : Int) ≤ 1280000 := by omega
      have t0 : ((P : Int) + 4 * (j : Int)).toNat = P + 4 * j := by omega
      have t1 : ((P : Int) + 4 * (j : Int) + 1).toNat = P + 4 * j + 1 := by omega
      have t2 : ((P : Int) + 4 * (j : Int) + 2).toNat = P + 4 * j + 2 := by omega
      have t3 : ((P : Int) + 4 * (j : Int) + 3).toNat = P + 4 * j + 3 := by omega
      have wa : IntKind.i64.wrap (4 * (j : Int)) = 4 * (j : Int) := IntWalk.i64_in _ (by omega)
      have wb0 : IntKind.i64.wrap ((P : Int) + 4 * (j : Int)) = (P : Int) + 4 * (j : Int) := IntWalk.i64_in _ (by omega)
      have wb1 : IntKind.i64.wrap ((P : Int) + 4 * (j : Int) + 1) = (P : Int) + 4 * (j : Int) + 1 := IntWalk.i64_in _ (by omega)
      have wb2 : IntKind.i64.wrap ((P : Int) + 4 * (j : Int) + 2) = (P : Int) + 4 * (j : Int) + 2 := IntWalk.i64_in _ (by omega)
      have wb3 : IntKind.i64.wrap ((P : Int) + 4 * (j : Int) + 3) = (P : Int) + 4 * (j : Int) + 3 := IntWalk.i64_in _ (by omega)
      have u0 : (0 : Int) ≤ (P : Int) + 4 * (j : Int) := by omega
      have u1 : (P : Int) + 4 * (j : Int) < (NB : Int) := by omega
      have u2 : (0 : Int) ≤ (P : Int) + 4 * (j : Int) + 1 := by omega
      have u3 : (P : Int) + 4 * (j : Int) + 1 < (NB : Int) := by omega
      have u4 : (0 : Int) ≤ (P : Int) + 4 * (j : Int) + 2 := by omega
      have u5 : (P : Int) + 4 * (j : Int) + 2 < (NB : Int) := by omega
      have u6 : (0 : Int) ≤ (P : Int) + 4 * (j : Int) + 3 := by omega
      have s0 : IntKind.i64.wrap ((x0 : Int) * 16777216) = (x0 : Int) * 16777216 := IntWalk.i64_in _ (by omega)
      have s1 : IntKind.i64.wrap ((x1 : Int) * 65536) = (x1 : Int) * 65536 := IntWalk.i64_in _ (by omega)
      have s2 : IntKind.i64.wrap ((x2 : Int) * 256) = (x2 : Int) * 256 := IntWalk.i64_in _ (by omega)
      have s3 : IntKind.i64.wrap ((x0 : Int) * 16777216 + (x1 : Int) * 65536) = (x0 : Int) * 16777216 + (x1 : Int) * 65536 := IntWalk.i64_in _ (by omega)
      have s4 : IntKind.i64.wrap ((x0 : Int) * 16777216 + (x1 : Int) * 65536 + (x2 : Int) * 256) = (x0 : Int) * 16777216 + (x1 : Int) * 65536 + (x2 : Int) * 256 := IntWalk.i64_in _ (by omega)
      have s5 : IntKind.i64.wrap ((x0 : Int) * 16777216 + (x1 : Int) * 65536 + (x2 : Int) * 256 + (x3 : Int)) = (x0 : Int) * 16777216 + (x1 : Int) * 65536 + (x2 : Int) * 256 + (x3 : Int) := IntWalk.i64_in _ (by omega)
      have HXV := Lib.hid (show #[Value.int .i64 ((x0 : Int) * 16777216 + (x1 : Int) * 65536 + (x2 : Int) * 256 + (x3 : Int))] = ([x0 * 16777216 + x1 * 65536 + x2 * 256 + x3].map iv).toArray by simp [iv])
      have hwl : ((List.range j).map (word4 (bs.drop (64 * r)))).length ≤ 64 := by simp; omega
      have HWL := Lib.hid hwl
      clear cb' hcell hwd hlt hwl hS
      go_upto_region 25 with (fail)
      go_region_held3 (fun w' => w'.cell? ⟨gb, P + 4 * j, none⟩ = some (.int .i64 (x0 : Int)) ∧ w'.cell? ⟨gb, P + 4 * j + 1, none⟩ = some (.int .i64 (x1 : Int)) ∧ w'.cell? ⟨gb, P + 4 * j + 2, none⟩ = some (.int .i64 (x2 : Int)) ∧ w'.cell? ⟨gb, P + 4 * j + 3, none⟩ = some (.int .i64 (x3 : Int))) (first | (go_keep; done) | exact HS.out _ ((HBq.out.drew.alloc (by simp; omega) _).grown hg7 (by simp; omega) (OI.base HW.out)) | exact HS.out _ ((HBq.out.alloc (by simp; omega) _).grown hg7 (by simp; omega) (OI.base HW.out)))
        ((refine OI.append_wp (ops := _) (base := W1.heap.size) (OI.alloc HW.out _) (IR.lit _ [x0 * 16777216 + x1 * 65536 + x2 * 256 + x3] _ HXV.out 1 rfl (by simp)) rfl _ _ (by rfl) (by rfl) (by rfl) (by simp; omega) (by have := HWL.out; simp; omega) ?_; intro v7 w7 h7 hg7))
      go_wp2
      go_roundw
      case rel =>
        refine ⟨j + 1, by go_num, by omega, ?_, Lib.hid ((HBq.out.drew.alloc (by simp; omega) _).grown hg7 (by simp; omega) (OI.base HW.out))⟩
        rw [HWD.out]
        exact h7
      case measure => simp [intOf]; omega
    · obtain rfl : j = 16 := by omega
      clear hlt hj
      go_wp2
      refine hexit.out _ _ _ _ _ _ _ _ _ _ _ _ _ _ _ _ _ _ _ _ _ _ _ _ _ _ _ _ _ _ _ _ _ _ _ _ _ _ _ _
                    _ _ _ _ _ _ _ ?_ ?_
      · exact HW
      · exact HBq
end Go.Proofs.YtmhjocbnoppbbaaDoor.Sha
