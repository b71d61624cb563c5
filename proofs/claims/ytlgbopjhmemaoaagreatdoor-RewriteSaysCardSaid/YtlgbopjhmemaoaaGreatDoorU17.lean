import Derived.Test.YtlgbopjhmemaoaaGreatDoorU16
set_option maxRecDepth 100000
set_option maxHeartbeats 40000000
namespace Go.Proofs.YtlgbopjhmemaoaaGreatDoor
open Go.RowKit
/-- The loops of a body, in the order of the text. -/
def loopsOf:Code→List Code
 | .loop c=>c :: loopsOf c
 | .seq a b=>loopsOf a ++ loopsOf b
 | .block _ c=>loopsOf c
 | .scope c=>loopsOf c
 | .cond _ a b=>loopsOf a ++ loopsOf b
 | _=>[]
noncomputable def rlBody:Code:=((Tryz.f46.body.map loopsOf).getD []).getD 3 .skip
theorem rl_attrs (A:Option Addr) (n cc g p1:Nat) (l:List UInt8) (RA:Option (List UInt8 × List LinkD)) (wt:World) (hM:MaxLenOk wt) (hbx:BoxS wt g l) (h4:l.length≤4000) (hp1:p1≤l.length) (hRA:AL l.length (l.drop p1) [] []=RA)
 (c1 c2 c3 c4 c10 c13 c14 c15 c16 c17 c18 c19 c20 c21 c22 c23 c24 c25 c26 c27 c28 c29 c30 c31 c32 c33 c34 c35 c36 c37 c38 c39 c40 c41 c42 c43 c44 c45 c46 c47 c48 c49 c50 c51 c52 c53 c54 c55 c56 c57 c58 c59 c60 c61 c62 c63 c64 c65 c66 c67 c68 c69 c70 c71 c72 c73 c74 c75 c76 c77 c78 c79 c80 c81 c82 c83 c84 c85 c86 c87 c88 c89 c90 c91 c92 c93 c94 c95 c96 c97 c98 c99 c100 c101 c102 c103 c104 c105 c106 c107 c108 c109 c110 c111 c112 c113 c114 c115 c116 c117 c118 c119 c120 c121 c122 c123 c124 c125 c126 c127 c128 c129 c130 c131 c132 c133 c134 c135 c136 c137 c138 c139 c140 c141 c142 c143 c144 c145 c146 c147 c148 c149 c150 c151 c152 c153 c154 c155 c156 c157 c158 c159 c160 c161 c162 c163 c164 c165 c166 c167 c168 c169 c170 c171 c172 c173 c174 c175 c176 c177 c178 c179 c180 c181 c182 c183 c184 c185 c186 c187 c188 c189 c190 c191 c192 c193 c194 c195 c196 c197 c198 c199 c200 c201 c202 c203 c204 c205 c206 c207 c208 c209 c210 c211 c212 c213 c214 c215 c216 c217 c218 c219 c220 c221 c222 c223 c224 c225 c226 c227 c228 c229 c230 c231 c232 c233 c234 c235 c236 c237 c238 c239 c240 c241 c242 c243 c244 c245 c246 c247 c248 c249 c250 c251 c252 c253 c254 c255 c256 c257 c258 c259 c260 c261 c262 c263 c264 c265 c266 c267 c268 c269 c270 c271 c272 c273 c274 c275 c276 c277 c278 c279 c280 c281 c282 c283 c284 c285 c286 c287 c288 c289 c290 c291 c292 c293 c294 c295 c296 c297 c298 c299 c300 c301 c302 c303 c304 c305 c306 c307 c308 c309 c310 c311 c312 c313 c314 c315 c316 c317 c318 c319 c320 c321 c322 c323 c324 c325 c326:Value) (Q0:Exit→Act→World→Prop)
 (hexit:∀ (v9 v11 v12 u13 u14 u15 u16 u115 u116 u117 u118 u119 u120 u121 u122 u123 u124 u125 u126 u127 u128 u129 u130 u131 u132 u133 u134 u135 u136 u137 u138 u139 u140 u141 u142 u143 u144 u145 u146 u147 u148 u149 u150 u151 u152 u153 u154 u155 u156 u157 u158 u159 u160 u161 u162 u163 u164 u165 u166 u167 u168 u169 u170 u171 u172 u173 u174 u175 u176 u177 u178 u179 u180 u181 u182 u183 u184 u185 u186 u187 u188 u189 u190 u191 u192 u193 u194 u195 u196 u197 u198 u199 u200 u201 u202 u203 u204 u205 u206 u207 u208 u209 u210 u211 u212 u213 u214 u215 u216 u217 u218 u219 u220 u221 u222 u223 u224 u225 u226 u227 u228 u229 u230 u231 u232 u233 u234 u235 u236 u237 u238 u239 u240 u241 u242 u243 u244 u245 u246 u247 u248 u249 u250 u251 u252 u253 u254 u255 u256 u257 u258 u259 u260 u261 u262 u263 u264 u265 u266 u267 u268 u269 u270 u271 u272 u273 u274 u275 u276 u277 u278 u279 u280 u281 u282 u283 u284 u285 u286 u287 u288 u289 u290 u291 u292 u293 u294 u295 u296 u297 u298 u299 u300 u301 u302 u303 u304 u305 u306 u307 u308 u309 u310 u311:Value) (wr:World),AtRel wt l.length p1 l RA v9 v11 v12 wr→(∀ i:Nat,v9 = .int .i64 (i:Nat)→i=l.length∨nth l i=62)→Q0 (.exit 6) ⟨List.toArray (.slice A n cc :: c1 :: c2 :: c3 :: c4 :: .pointer (some ⟨g,0,none⟩) :: .func (.func 81) #[] #[.pointer (some ⟨g,0,none⟩)] :: .func (.func 83) #[] #[.pointer (some ⟨g,0,none⟩)] :: .func (.func 86) #[] #[.pointer (some ⟨g,0,none⟩)] :: v9 :: c10 :: v11 :: v12 :: u13 :: u14 :: u15 :: u16 :: c17 :: c18 :: c19 :: c20 :: c21 :: c22 :: c23 :: c24 :: c25 :: c26 :: c27 :: c28 :: c29 :: c30 :: c31 :: c32 :: c33 :: c34 :: c35 :: c36 :: c37 :: c38 :: c39 :: c40 :: c41 :: c42 :: c43 :: c44 :: c45 :: c46 :: c47 :: c48 :: c49 :: c50 :: c51 :: c52 :: c53 :: c54 :: c55 :: c56 :: c57 :: c58 :: c59 :: c60 :: c61 :: c62 :: c63 :: c64 :: c65 :: c66 :: c67 :: c68 :: c69 :: c70 :: c71 :: c72 :: c73 :: c74 :: c75 :: c76 :: c77 :: c78 :: c79 :: c80 :: c81 :: c82 :: c83 :: c84 :: c85 :: c86 :: c87 :: c88 :: c89 :: c90 :: c91 :: c92 :: c93 :: c94 :: c95 :: c96 :: c97 :: c98 :: c99 :: c100 :: c101 :: c102 :: c103 :: c104 :: c105 :: c106 :: c107 :: c108 :: c109 :: c110 :: c111 :: c112 :: c113 :: c114 :: u115 :: u116 :: u117 :: u118 :: u119 :: u120 :: u121 :: u122 :: u123 :: u124 :: u125 :: u126 :: u127 :: u128 :: u129 :: u130 :: u131 :: u132 :: u133 :: u134 :: u135 :: u136 :: u137 :: u138 :: u139 :: u140 :: u141 :: u142 :: u143 :: u144 :: u145 :: u146 :: u147 :: u148 :: u149 :: u150 :: u151 :: u152 :: u153 :: u154 :: u155 :: u156 :: u157 :: u158 :: u159 :: u160 :: u161 :: u162 :: u163 :: u164 :: u165 :: u166 :: u167 :: u168 :: u169 :: u170 :: u171 :: u172 :: u173 :: u174 :: u175 :: u176 :: u177 :: u178 :: u179 :: u180 :: u181 :: u182 :: u183 :: u184 :: u185 :: u186 :: u187 :: u188 :: u189 :: u190 :: u191 :: u192 :: u193 :: u194 :: u195 :: u196 :: u197 :: u198 :: u199 :: u200 :: u201 :: u202 :: u203 :: u204 :: u205 :: u206 :: u207 :: u208 :: u209 :: u210 :: u211 :: u212 :: u213 :: u214 :: u215 :: u216 :: u217 :: u218 :: u219 :: u220 :: u221 :: u222 :: u223 :: u224 :: u225 :: u226 :: u227 :: u228 :: u229 :: u230 :: u231 :: u232 :: u233 :: u234 :: u235 :: u236 :: u237 :: u238 :: u239 :: u240 :: u241 :: u242 :: u243 :: u244 :: u245 :: u246 :: u247 :: u248 :: u249 :: u250 :: u251 :: u252 :: u253 :: u254 :: u255 :: u256 :: u257 :: u258 :: u259 :: u260 :: u261 :: u262 :: u263 :: u264 :: u265 :: u266 :: u267 :: u268 :: u269 :: u270 :: u271 :: u272 :: u273 :: u274 :: u275 :: u276 :: u277 :: u278 :: u279 :: u280 :: u281 :: u282 :: u283 :: u284 :: u285 :: u286 :: u287 :: u288 :: u289 :: u290 :: u291 :: u292 :: u293 :: u294 :: u295 :: u296 :: u297 :: u298 :: u299 :: u300 :: u301 :: u302 :: u303 :: u304 :: u305 :: u306 :: u307 :: u308 :: u309 :: u310 :: u311 :: c312 :: c313 :: c314 :: c315 :: c316 :: c317 :: c318 :: c319 :: c320 :: c321 :: c322 :: c323 :: c324 :: c325 :: c326 :: []),[]⟩ wr) :
 Code.wp Tryz.prog (Code.loop rlBody) Q0 ⟨List.toArray (.slice A n cc :: c1 :: c2 :: c3 :: c4 :: .pointer (some ⟨g,0,none⟩) :: .func (.func 81) #[] #[.pointer (some ⟨g,0,none⟩)] :: .func (.func 83) #[] #[.pointer (some ⟨g,0,none⟩)] :: .func (.func 86) #[] #[.pointer (some ⟨g,0,none⟩)] :: .int .i64 (p1:Nat) :: c10 :: .slice none 0 0 :: .slice none 0 0 :: c13 :: c14 :: c15 :: c16 :: c17 :: c18 :: c19 :: c20 :: c21 :: c22 :: c23 :: c24 :: c25 :: c26 :: c27 :: c28 :: c29 :: c30 :: c31 :: c32 :: c33 :: c34 :: c35 :: c36 :: c37 :: c38 :: c39 :: c40 :: c41 :: c42 :: c43 :: c44 :: c45 :: c46 :: c47 :: c48 :: c49 :: c50 :: c51 :: c52 :: c53 :: c54 :: c55 :: c56 :: c57 :: c58 :: c59 :: c60 :: c61 :: c62 :: c63 :: c64 :: c65 :: c66 :: c67 :: c68 :: c69 :: c70 :: c71 :: c72 :: c73 :: c74 :: c75 :: c76 :: c77 :: c78 :: c79 :: c80 :: c81 :: c82 :: c83 :: c84 :: c85 :: c86 :: c87 :: c88 :: c89 :: c90 :: c91 :: c92 :: c93 :: c94 :: c95 :: c96 :: c97 :: c98 :: c99 :: c100 :: c101 :: c102 :: c103 :: c104 :: c105 :: c106 :: c107 :: c108 :: c109 :: c110 :: c111 :: c112 :: c113 :: c114 :: c115 :: c116 :: c117 :: c118 :: c119 :: c120 :: c121 :: c122 :: c123 :: c124 :: c125 :: c126 :: c127 :: c128 :: c129 :: c130 :: c131 :: c132 :: c133 :: c134 :: c135 :: c136 :: c137 :: c138 :: c139 :: c140 :: c141 :: c142 :: c143 :: c144 :: c145 :: c146 :: c147 :: c148 :: c149 :: c150 :: c151 :: c152 :: c153 :: c154 :: c155 :: c156 :: c157 :: c158 :: c159 :: c160 :: c161 :: c162 :: c163 :: c164 :: c165 :: c166 :: c167 :: c168 :: c169 :: c170 :: c171 :: c172 :: c173 :: c174 :: c175 :: c176 :: c177 :: c178 :: c179 :: c180 :: c181 :: c182 :: c183 :: c184 :: c185 :: c186 :: c187 :: c188 :: c189 :: c190 :: c191 :: c192 :: c193 :: c194 :: c195 :: c196 :: c197 :: c198 :: c199 :: c200 :: c201 :: c202 :: c203 :: c204 :: c205 :: c206 :: c207 :: c208 :: c209 :: c210 :: c211 :: c212 :: c213 :: c214 :: c215 :: c216 :: c217 :: c218 :: c219 :: c220 :: c221 :: c222 :: c223 :: c224 :: c225 :: c226 :: c227 :: c228 :: c229 :: c230 :: c231 :: c232 :: c233 :: c234 :: c235 :: c236 :: c237 :: c238 :: c239 :: c240 :: c241 :: c242 :: c243 :: c244 :: c245 :: c246 :: c247 :: c248 :: c249 :: c250 :: c251 :: c252 :: c253 :: c254 :: c255 :: c256 :: c257 :: c258 :: c259 :: c260 :: c261 :: c262 :: c263 :: c264 :: c265 :: c266 :: c267 :: c268 :: c269 :: c270 :: c271 :: c272 :: c273 :: c274 :: c275 :: c276 :: c277 :: c278 :: c279 :: c280 :: c281 :: c282 :: c283 :: c284 :: c285 :: c286 :: c287 :: c288 :: c289 :: c290 :: c291 :: c292 :: c293 :: c294 :: c295 :: c296 :: c297 :: c298 :: c299 :: c300 :: c301 :: c302 :: c303 :: c304 :: c305 :: c306 :: c307 :: c308 :: c309 :: c310 :: c311 :: c312 :: c313 :: c314 :: c315 :: c316 :: c317 :: c318 :: c319 :: c320 :: c321 :: c322 :: c323 :: c324 :: c325 :: c326 :: []),[]⟩ wt:=by
 have HM:=Lib.hid hM
 have Hbx:=Lib.hid hbx
 have HRA:=Lib.hid hRA
 have Hexit:=Lib.hid hexit
 clear hM hbx hRA hexit
 conv=>arg 2;arg 1;whnf
 go_loopw [9,11,12] (fun v9 v11 v12 wr=>AtRel wt l.length p1 l RA v9 v11 v12 wr) (fun v9 _ _ _=>l.length - (intOf v9).toNat)
 case atStart=>exact⟨p1,0,0,0,0,none,none,[],[],rfl,rfl,rfl,Nat.le_refl _,hp1,Nat.zero_le _,Nat.zero_le _,Lib.hid ⟨rfl,rfl,HRA.out⟩,World.ownsRow_nil _ _ _ _,World.ownsRow_nil _ _ _ _,Below.refl _ _⟩
 case round =>
  obtain⟨i,m,cS,k,cN,S,S2,ls,names,rfl,rfl,rfl,hi0,hi,hm,hk,hst,hown,hown2,hbel⟩:=hrel
  have hbx:=Hbx.out.below hbel
  have x0:=hbx.1
  have Hbxr:=Lib.hid hbx
  have Hown:=Lib.hid hown
  have Hown2:=Lib.hid hown2
  have Hbel:=Lib.hid hbel
  clear hbx hown hown2 hbel
  by_cases hin:i < l.length
  · have i0:(0:Int)≤(i:Int):=by omega
    have i1:(i:Int) < (l.length:Int):=by omega
    by_cases h62:nth l i=62
    · have d62:(((nth l i:Nat):Int) == 62)=true:=by simp;omega
      have e62:(((nth l i:Nat):Int) != 62)=false:=by simp;omega
      go_wp2_with fail
      exact Hexit.out _ _ _ _ _ _ _ _ _ _ _ _ _ _ _ _ _ _ _ _ _ _ _ _ _ _ _ _ _ _ _ _ _ _ _ _ _ _ _ _ _ _ _ _ _ _ _ _ _ _ _ _ _ _ _ _ _ _ _ _ _ _ _ _ _ _ _ _ _ _ _ _ _ _ _ _ _ _ _ _ _ _ _ _ _ _ _ _ _ _ _ _ _ _ _ _ _ _ _ _ _ _ _ _ _ _ _ _ _ _ _ _ _ _ _ _ _ _ _ _ _ _ _ _ _ _ _ _ _ _ _ _ _ _ _ _ _ _ _ _ _ _ _ _ _ _ _ _ _ _ _ _ _ _ _ _ _ _ _ _ _ _ _ _ _ _ _ _ _ _ _ _ _ _ _ _ _ _ _ _ _ _ _ _ _ _ _ _ _ _ _ _ _ _ _ _ _ _ _ _ _ _ _ _ _ ⟨_,_,_,_,_,_,_,_,_,rfl,rfl,rfl,hi0,hi,hm,hk,hst,Hown.out,Hown2.out,Hbel.out⟩ (fun j hj=>.inr (by injection hj with _ hj;have hji:j=i:=(by omega);rw [hji];exact h62))
    · have d62:(((nth l i:Nat):Int) == 62)=false:=by simp;omega
      have e62:(((nth l i:Nat):Int) != 62)=true:=by simp;omega
      have hs:=rl_space l g i wr Hbxr.out hin
      cases hsp:isSp (nth l i) with
      | true =>
       rw [hsp] at hs
       have Hs:=Lib.hid hs
       have hst2:Hid (ls.length=m∧names.length=k∧AL l.length (l.drop (i+1)) names.reverse ls=RA):=⟨hst.out.1,hst.out.2.1,by rw [← AL_skip hin (by simp [pAttr,hsp])];exact hst.out.2.2⟩
       clear hs hsp h62
       go_wp2_with fail
       refine Hs.out.mono ?_
       rintro e _ ⟨rfl,rfl⟩
       go_wp2_with fail
       refine⟨⟨i+1,m,cS,k,cN,S,S2,ls,names,by go_num,rfl,rfl,by omega,by omega,by omega,by omega,hst2,Hown.out,Hown2.out,Hbel.out⟩,by simp [intOf];omega⟩
      | false =>
       rw [hsp] at hs
       have Hs:=Lib.hid hs
       clear hs
       by_cases h47:nth l i=47
       · have d47:(((nth l i:Nat):Int) == 47)=true:=by simp;omega
         have e47:(((nth l i:Nat):Int) != 47)=false:=by simp;omega
         have hst2:Hid (ls.length=m∧names.length=k∧AL l.length (l.drop (i+1)) names.reverse ls=RA):=⟨hst.out.1,hst.out.2.1,by rw [← AL_skip hin (by simp [pAttr,h47])];exact hst.out.2.2⟩
         clear hsp h62 h47
         go_wp2_with fail
         refine Hs.out.mono ?_
         rintro e _ ⟨rfl,rfl⟩
         go_wp2_with fail
         refine⟨⟨i+1,m,cS,k,cN,S,S2,ls,names,by go_num,rfl,rfl,by omega,by omega,by omega,by omega,hst2,Hown.out,Hown2.out,Hbel.out⟩,by simp [intOf];omega⟩
       · have d47:(((nth l i:Nat):Int) == 47)=false:=by simp;omega
         have e47:(((nth l i:Nat):Int) != 47)=true:=by simp;omega
         have hpa:pAttr (nth l i)=true:=by simp [pAttr,hsp,h47]
         have Hpa:=Lib.hid hpa
         have H62:=Lib.hid h62
         clear hsp h47 h62 hpa
         go_wp2_with fail
         refine Hs.out.mono ?_
         rintro e _ ⟨rfl,rfl⟩
         obtain⟨j,hj⟩:∃ j,toP pEq l (i+1)=j:=⟨_,rfl⟩
         have hjl:=toP_le pEq l (i+1) (by omega)
         rw [hj] at hjl
         have Hj:=Lib.hid hj
         clear hj
         go_upto_region 28 with fail
         clear d62 e62 d47 e47
         go_upto_block 8 with fail
         go_cut [9] from 115 to 311 (fun sv wx=>sv = .int .i64 (j:Nat)∧wr=wx)
         case first=>as_aux_lemma =>
          go_wp2_with fail
          go_loop [9] (fun v=>∃ q:Nat,v = .int .i64 (q:Nat)∧q≤l.length∧i+1≤q∧Hid (toP pEq l q=j)) (fun v=>l.length - (intOf v).toNat)
          case atStart=>exact⟨i+1,by go_num,by omega,by omega,Hj⟩
          case round =>
           obtain⟨q,rfl,hq,hq0,HQ⟩:=hrel
           by_cases hqn:q < l.length
           · have q0:(0:Int)≤(q:Int):=by omega
             have q1:(q:Int) < (l.length:Int):=by omega
             have hs:=rl_space l g q wr Hbxr.out hqn
             cases hsp:isSp (nth l q) with
             | true =>
              rw [hsp] at hs
              have Hs:=Lib.hid hs
              have hT:Hid (q=j):=by
               have h1:=toP_at pEq l q hqn (by simp [pEq,hsp])
               rw [HQ.out] at h1
               exact h1.symm
              clear hs hsp
              go_wp2_with fail
              refine Hs.out.mono ?_
              rintro e _ ⟨rfl,rfl⟩
              go_wp2_with fail
              go_meet
              exact⟨by rw [hT.out],rfl⟩
             | false =>
              rw [hsp] at hs
              have Hs:=Lib.hid hs
              clear hs
              by_cases h47:nth l q=47
              · have d47:(((nth l q:Nat):Int) == 47)=true:=by simp;omega
                have e47:(((nth l q:Nat):Int) != 47)=false:=by simp;omega
                have hT:Hid (q=j):=by
                 have h1:=toP_at pEq l q hqn (by simp [pEq,h47])
                 rw [HQ.out] at h1
                 exact h1.symm
                clear hsp h47
                go_wp2_with fail
                refine Hs.out.mono ?_
                rintro e _ ⟨rfl,rfl⟩
                go_wp2_with fail
                go_meet
                exact⟨by rw [hT.out],rfl⟩
              · have d47:(((nth l q:Nat):Int) == 47)=false:=by simp;omega
                have e47:(((nth l q:Nat):Int) != 47)=true:=by simp;omega
                by_cases h62:nth l q=62
                · have d62:(((nth l q:Nat):Int) == 62)=true:=by simp;omega
                  have e62:(((nth l q:Nat):Int) != 62)=false:=by simp;omega
                  have hT:Hid (q=j):=by
                   have h1:=toP_at pEq l q hqn (by simp [pEq,h62])
                   rw [HQ.out] at h1
                   exact h1.symm
                  clear hsp h62
                  go_wp2_with fail
                  refine Hs.out.mono ?_
                  rintro e _ ⟨rfl,rfl⟩
                  go_wp2_with fail
                  go_meet
                  exact⟨by rw [hT.out],rfl⟩
                · have d62:(((nth l q:Nat):Int) == 62)=false:=by simp;omega
                  have e62:(((nth l q:Nat):Int) != 62)=true:=by simp;omega
                  by_cases h61:nth l q=61
                  · have d61:(((nth l q:Nat):Int) == 61)=true:=by simp;omega
                    have e61:(((nth l q:Nat):Int) != 61)=false:=by simp;omega
                    have hT:Hid (q=j):=by
                     have h1:=toP_at pEq l q hqn (by simp [pEq,h61])
                     rw [HQ.out] at h1
                     exact h1.symm
                    clear hsp h61
                    go_wp2_with fail
                    refine Hs.out.mono ?_
                    rintro e _ ⟨rfl,rfl⟩
                    go_wp2_with fail
                    go_meet
                    exact⟨by rw [hT.out],rfl⟩
                  · have d61:(((nth l q:Nat):Int) == 61)=false:=by simp;omega
                    have e61:(((nth l q:Nat):Int) != 61)=true:=by simp;omega
                    have hT:Hid (toP pEq l (q+1)=j):=by
                     have h1:=toP_step pEq l q hqn (by simp [pEq,hsp,h47,h62,h61])
                     show _=_
                     rw [← h1]
                     exact HQ.out
                    clear hsp
                    go_wp2_with fail
                    refine Hs.out.mono ?_
                    rintro e _ ⟨rfl,rfl⟩
                    go_wp2_with fail
                    go_round
                    case rel=>exact⟨q+1,by go_num,by omega,by omega,hT⟩
                    case measure=>simp [intOf];omega
           · obtain rfl:q=l.length:=by omega
             have hT:Hid (l.length=j):=by
              have h1:=toP_end pEq l
              rw [HQ.out] at h1
              exact h1.symm
             have hqf:decide (l.length < l.length)=false:=by simp
             go_wp2_with fail
             go_meet
             exact⟨by rw [hT.out],rfl⟩
         case rest=>as_aux_lemma =>
          obtain⟨rfl,rfl⟩:=hcut
          have a0:(i:Int)≤(j:Int):=by omega
          have a1:(j:Int)≤(l.length:Int):=by omega
          have hsm:=small_any ((l.take j).drop i) wr (by rw [List.length_drop,List.length_take];unfold maxLen;omega)
          obtain⟨nm,hnm⟩:∃ nm,nm=lowL ((l.take j).drop i):=⟨_,rfl⟩
          rw [← hnm] at hsm
          have Hsm:=Lib.hid hsm
          have Hnm:=Lib.hid hnm
          clear hsm hnm
          go_wp2_with fail
          refine Hsm.out.mono ?_
          rintro e w1 ⟨rfl,hb1⟩
          have hbx1:=Hbxr.out.below hb1
          have x1:=hbx1.1
          have Hbx1:=Lib.hid hbx1
          have Hb1:=Lib.hid hb1
          clear hb1 hbx1 x0 Hsm
          obtain⟨kk,hkk⟩:∃ k,toP pNotSp l j=k:=⟨_,rfl⟩
          have hkl:=toP_le pNotSp l j (by omega)
          rw [hkk] at hkl
          have Hkk:=Lib.hid hkk
          clear hkk
          go_upto_block 10 with fail
          go_cut [15] from 115 to 311 (fun sv wx=>sv = .int .i64 (kk:Nat)∧w1=wx)
          case first=>as_aux_lemma =>
           go_wp2_with fail
           go_loop [15] (fun v=>∃ q:Nat,v = .int .i64 (q:Nat)∧q≤l.length∧j≤q∧Hid (toP pNotSp l q=kk)) (fun v=>l.length - (intOf v).toNat)
           case atStart=>exact⟨j,rfl,by omega,by omega,Hkk⟩
           case round =>
            obtain⟨q,rfl,hq,hq0,HQ⟩:=hrel
            by_cases hqn:q < l.length
            · have q0:(0:Int)≤(q:Int):=by omega
              have q1:(q:Int) < (l.length:Int):=by omega
              have hs:=rl_space l g q w1 Hbx1.out hqn
              cases hsp:isSp (nth l q) with
              | true =>
               rw [hsp] at hs
               have Hs:=Lib.hid hs
               have hT:Hid (toP pNotSp l (q+1)=kk):=by
                have h1:=toP_step pNotSp l q hqn (by simp [pNotSp,hsp])
                show _=_
                rw [← h1]
                exact HQ.out
               clear hs hsp
               go_wp2_with fail
               refine Hs.out.mono ?_
               rintro e _ ⟨rfl,rfl⟩
               go_wp2_with fail
               go_round
               case rel=>exact⟨q+1,by go_num,by omega,by omega,hT⟩
               case measure=>simp [intOf];omega
              | false =>
               rw [hsp] at hs
               have Hs:=Lib.hid hs
               have hT:Hid (q=kk):=by
                have h1:=toP_at pNotSp l q hqn (by simp [pNotSp,hsp])
                rw [HQ.out] at h1
                exact h1.symm
               clear hs hsp
               go_wp2_with fail
               refine Hs.out.mono ?_
               rintro e _ ⟨rfl,rfl⟩
               go_wp2_with fail
               go_meet
               exact⟨by rw [hT.out],rfl⟩
            · obtain rfl:q=l.length:=by omega
              have hT:Hid (l.length=kk):=by
               have h1:=toP_end pNotSp l
               rw [HQ.out] at h1
               exact h1.symm
              have hqf:decide (l.length < l.length)=false:=by simp
              go_wp2_with fail
              go_meet
              exact⟨by rw [hT.out],rfl⟩
          case rest=>as_aux_lemma =>
           obtain⟨rfl,rfl⟩:=hcut
           obtain⟨gl,hgl⟩:∃ gl,gl=w1.heap.size:=⟨_,rfl⟩
           obtain⟨W2,hW2⟩:∃ X,X=w1.alloc (.cells #[.int .i64 (-1),.int .i64 0,str []] 42):=⟨_,rfl⟩
           have hB2:BoxL W2 gl (-1) 0 []:=by rw [hW2,hgl];exact heap_alloc_new w1 _
           have hb2:Below w1.heap.size w1 W2:=by rw [hW2];exact(Below.refl _ w1).alloc (Nat.le_refl _) _
           have hgs:w1.heap.size≤gl:=by omega
           have Hgs:=Lib.hid hgs
           have HgL:=Lib.hid hgl
           have HB2:=Lib.hid hB2
           have Hb2:=Lib.hid hb2
           have HW2:=Lib.hid hW2
           have Hbx2:=Lib.hid (Hbx1.out.below hb2)
           clear hB2 hb2 hW2 hgs hgl
           go_upto_region 36 with fail
           generalize hWg:w1.alloc _=Wz
           obtain rfl:W2=Wz:=by rw [← hWg,HW2.out];rfl
           clear hWg
           rw [← HgL.out]
           have x2:=Hbx2.out.1
           clear x1
           obtain⟨bq,hbq⟩:∃ b,b=(decide (kk < l.length) && nth l kk == 61):=⟨_,rfl⟩
           have Hbq:=Lib.hid hbq
           clear hbq
           go_cut [196] from 115 to 311 (fun sv wx=>sv = .bool bq∧W2=wx)
           case first=>as_aux_lemma =>
            by_cases hk1:kk < l.length
            · have k0:(0:Int)≤(kk:Int):=by omega
              have k1:(kk:Int) < (l.length:Int):=by omega
              by_cases h61:nth l kk=61
              · have d61:(((nth l kk:Nat):Int) == 61)=true:=by simp;omega
                have e61:(((nth l kk:Nat):Int) != 61)=false:=by simp;omega
                have hb:Hid (bq=true):=by show _=_;rw [Hbq.out];simp [hk1,h61]
                clear h61
                go_wp2_with fail
                go_meet
                exact⟨by rw [hb.out],rfl⟩
              · have d61:(((nth l kk:Nat):Int) == 61)=false:=by simp;omega
                have e61:(((nth l kk:Nat):Int) != 61)=true:=by simp;omega
                have hb:Hid (bq=false):=by show _=_;rw [Hbq.out];simp [h61]
                clear h61
                go_wp2_with fail
                go_meet
                exact⟨by rw [hb.out],rfl⟩
            · have hkf:decide (kk < l.length)=false:=by simpa using hk1
              have hb:Hid (bq=false):=by show _=_;rw [Hbq.out,hkf];rfl
              clear hk1
              go_wp2_with fail
              go_meet
              exact⟨by rw [hb.out],rfl⟩
           case rest=>as_aux_lemma =>
            obtain⟨rfl,rfl⟩:=hcut
            go_upto_if 196 with (fail)
            go_cut [9] from 115 to 311 (fun s9 wx=>∃ (i2:Nat) (fr tl:Int),s9 = .int .i64 (i2:Nat)∧BoxL wx gl fr tl []∧Below w1.heap.size w1 wx∧Hid (NextL l i nm i2 fr tl))
            case first=>as_aux_lemma =>
             cases bq with
             | false =>
              go_wp2_with fail
              go_meet
              exact⟨j,-1,0,rfl,HB2.out,Hb2.out,Lib.hid (by rw [Hnm.out];exact NextL.bare hin Hpa.out H62.out Hj.out Hkk.out Hbq.out.symm)⟩
             | true =>
              have hk1:kk < l.length∧nth l kk=61:=by
               have:=Hbq.out.symm
               simpa using this
              obtain⟨hk1,h61⟩:=hk1
              obtain⟨k2,hk2⟩:∃ k,toP pNotSp l (kk+1)=k:=⟨_,rfl⟩
              have hk2l:=toP_le pNotSp l (kk+1) (by omega)
              rw [hk2] at hk2l
              have Hk2:=Lib.hid hk2
              have H61:=Lib.hid h61
              clear hk2 h61
              go_upto_block 12 with fail
              go_cut [15] from 115 to 311 (fun sv wx=>sv = .int .i64 (k2:Nat)∧W2=wx)
              case first=>as_aux_lemma =>
               go_wp2_with fail
               go_loop [15] (fun v=>∃ q:Nat,v = .int .i64 (q:Nat)∧q≤l.length∧kk+1≤q∧Hid (toP pNotSp l q=k2)) (fun v=>l.length - (intOf v).toNat)
               case atStart=>exact⟨kk+1,by go_num,by omega,by omega,Hk2⟩
               case round =>
                obtain⟨q,rfl,hq,hq0,HQ⟩:=hrel
                by_cases hqn:q < l.length
                · have q0:(0:Int)≤(q:Int):=by omega
                  have q1:(q:Int) < (l.length:Int):=by omega
                  have hs:=rl_space l g q W2 Hbx2.out hqn
                  cases hsp:isSp (nth l q) with
                  | true =>
                   rw [hsp] at hs
                   have Hs:=Lib.hid hs
                   have hT:Hid (toP pNotSp l (q+1)=k2):=by
                    have h1:=toP_step pNotSp l q hqn (by simp [pNotSp,hsp])
                    show _=_
                    rw [← h1]
                    exact HQ.out
                   clear hs hsp
                   go_wp2_with fail
                   refine Hs.out.mono ?_
                   rintro e _ ⟨rfl,rfl⟩
                   go_wp2_with fail
                   go_round
                   case rel=>exact⟨q+1,by go_num,by omega,by omega,hT⟩
                   case measure=>simp [intOf];omega
                  | false =>
                   rw [hsp] at hs
                   have Hs:=Lib.hid hs
                   have hT:Hid (q=k2):=by
                    have h1:=toP_at pNotSp l q hqn (by simp [pNotSp,hsp])
                    rw [HQ.out] at h1
                    exact h1.symm
                   clear hs hsp
                   go_wp2_with fail
                   refine Hs.out.mono ?_
                   rintro e _ ⟨rfl,rfl⟩
                   go_wp2_with fail
                   go_meet
                   exact⟨by rw [hT.out],rfl⟩
                · obtain rfl:q=l.length:=by omega
                  have hT:Hid (l.length=k2):=by
                   have h1:=toP_end pNotSp l
                   rw [HQ.out] at h1
                   exact h1.symm
                  have hqf:decide (l.length < l.length)=false:=by simp
                  go_wp2_with fail
                  go_meet
                  exact⟨by rw [hT.out],rfl⟩
              case rest=>as_aux_lemma =>
               obtain⟨rfl,rfl⟩:=hcut
               obtain⟨bw,hbw⟩:∃ b,b=(decide (k2 < l.length) && (nth l k2 == 34 || nth l k2 == 39)):=⟨_,rfl⟩
               have Hbw:=Lib.hid hbw
               clear hbw
               go_upto_region 40 with fail
               go_cut [225] from 115 to 311 (fun sv wx=>sv = .bool bw∧W2=wx)
               case first=>as_aux_lemma =>
                by_cases hkl2:k2 < l.length
                · have k0:(0:Int)≤(k2:Int):=by omega
                  have k1:(k2:Int) < (l.length:Int):=by omega
                  by_cases h34:nth l k2=34
                  · have d34:(((nth l k2:Nat):Int) == 34)=true:=by simp;omega
                    have e34:(((nth l k2:Nat):Int) != 34)=false:=by simp;omega
                    have hb:Hid (bw=true):=by show _=_;rw [Hbw.out];simp [hkl2,h34]
                    clear h34
                    go_wp2_with fail
                    go_meet
                    exact⟨by rw [hb.out],rfl⟩
                  · have d34:(((nth l k2:Nat):Int) == 34)=false:=by simp;omega
                    have e34:(((nth l k2:Nat):Int) != 34)=true:=by simp;omega
                    by_cases h39:nth l k2=39
                    · have d39:(((nth l k2:Nat):Int) == 39)=true:=by simp;omega
                      have e39:(((nth l k2:Nat):Int) != 39)=false:=by simp;omega
                      have hb:Hid (bw=true):=by show _=_;rw [Hbw.out];simp [hkl2,h39]
                      clear h34 h39
                      go_wp2_with fail
                      go_meet
                      exact⟨by rw [hb.out],rfl⟩
                    · have d39:(((nth l k2:Nat):Int) == 39)=false:=by simp;omega
                      have e39:(((nth l k2:Nat):Int) != 39)=true:=by simp;omega
                      have hb:Hid (bw=false):=by show _=_;rw [Hbw.out];simp [h34,h39]
                      clear h34 h39
                      go_wp2_with fail
                      go_meet
                      exact⟨by rw [hb.out],rfl⟩
                · have hkf:decide (k2 < l.length)=false:=by simpa using hkl2
                  have hb:Hid (bw=false):=by show _=_;rw [Hbw.out,hkf];rfl
                  clear hkl2
                  go_wp2_with fail
                  go_meet
                  exact⟨by rw [hb.out],rfl⟩
               case rest=>as_aux_lemma =>
                obtain⟨rfl,rfl⟩:=hcut
                have⟨b0,b1,b2⟩:=HB2.out.cells
                have f0:=HB2.out.fz 0
                have f1:=HB2.out.fz 1
                have f2:=HB2.out.fz 2
                cases bw with
                | true =>
                 have hq:k2 < l.length∧(nth l k2=34∨nth l k2=39):=by
                  have:=Hbw.out.symm
                  simpa using this
                 obtain⟨hkl2,hq⟩:=hq
                 obtain⟨T,hT⟩:∃ T,toP (pIs (nth l k2)) l (k2+1)=T:=⟨_,rfl⟩
                 have hTl:=toP_le (pIs (nth l k2)) l (k2+1) (by omega)
                 rw [hT] at hTl
                 obtain⟨W3,hW3⟩:∃ X,X=W2.setCell ⟨gl,0,none⟩ (.int .i64 ((k2:Int)+1)):=⟨_,rfl⟩
                 have hB3:BoxL W3 gl ((k2:Int)+1) 0 []:=by rw [hW3];exact HB2.out.set0 _
                 have hb3:Below w1.heap.size w1 W3:=by rw [hW3];exact Hb2.out.setCell (by exact Hgs.out) _
                 have hidx:=index_quo l (k2+1) (nth l k2) (nth_lt l k2) (by omega)
                 rw [hT] at hidx
                 obtain⟨d,hd⟩:∃ d,d=T - (k2+1):=⟨_,rfl⟩
                 rw [← hd] at hidx
                 have hone:=one_at l k2 hkl2
                 have hI:∀ W,MaxLenOk W→Calls Tryz.prog 76 #[str (l.drop (k2+1) ++ (l.take (k2+1)).drop k2),str ((l.take (k2+1)).drop k2)] W fun e w'=>e = .returned (.int .i64 (d:Nat))∧w'=W:=by
                  intro W hW
                  have h:=Index_any (l.drop (k2+1) ++ [UInt8.ofNat (nth l k2)]) [UInt8.ofNat (nth l k2)] W hW (by rw [List.length_append,List.length_drop];simp;omega)
                  rw [hidx] at h
                  rw [hone]
                  exact h
                 have hTd:(k2:Int)+1+(d:Int)=(T:Int):=by omega
                 have HTd:=Lib.hid hTd
                 have HI:=Lib.hid hI
                 have HB3:=Lib.hid hB3
                 have Hb3:=Lib.hid hb3
                 have HW3:=Lib.hid hW3
                 have Hbx3:=Lib.hid (Hbx1.out.below hb3)
                 have hM3:=HM.out.below (Hbel.out.trans ((Hb1.out.trans (hb3.mono Hb1.out.size)).mono Hbel.out.size))
                 have HM3:=Lib.hid hM3
                 have Hnx:=Lib.hid (NextL.quo hin Hpa.out H62.out Hj.out Hkk.out hk1 H61.out Hk2.out hkl2 hq hT)
                 clear hT hB3 hb3 hidx hd hone hI hTd hW3 hM3 hq
                 have q0:(0:Int)≤(k2:Int)+1:=by omega
                 have q1:(k2:Int)+1≤(l.length:Int):=by omega
                 have q2:(k2:Int)≤(k2:Int)+1:=by omega
                 have q3:(0:Int)≤(k2:Int):=by omega
                 have hd4:d≤5000:=by have:=HTd.out;omega
                 go_upto_region 42 with fail
                 generalize hWg:W2.setCell _ _=Wz
                 obtain rfl:W3=Wz:=by rw [← hWg,HW3.out]
                 clear hWg b0 b1 b2 f0 f1 f2 x2
                 have x3:=Hbx3.out.1
                 have⟨b0,b1,b2⟩:=HB3.out.cells
                 have g1:IntKind.i64.wrap ((k2:Int)+1)=(k2:Int)+1:=IntWalk.i64_in _ (by omega)
                 have g2:((k2:Int)+1).toNat=k2+1:=by omega
                 have g3:l.length - (k2+1)+(min (k2+1) l.length - k2)≤9223372036854775807:=by omega
                 go_wp2_with fail
                 have hIc:=HI.out W3.drew HM3.out
                 have HIc:=Lib.hid hIc
                 have g4:IntKind.i64.wrap ((k2:Int)+1+(d:Int))=(k2:Int)+1+(d:Int):=IntWalk.i64_in _ (by omega)
                 clear hIc
                 refine wp_region_still_tail 20 (by kernel_rfl) (by kernel_rfl) ?_
                 simp only [List.take_succ_cons,List.take_zero,List.drop_succ_cons,List.drop_zero]
                 repeat still_step
                 still_call HIc.out
                 repeat still_step
                 refine wpStill_nil ?_
                 change wpList _ _ _ _ _ W3.drew
                 clear g1 g2 g3 g4
                 generalize hWg:World.drew W3=W4
                 have hB4:BoxL W4 gl ((k2:Int)+1) 0 []:=by rw [← hWg];exact HB3.out
                 have hb4:Below w1.heap.size w1 W4:=by rw [← hWg];exact Hb3.out.drew
                 clear hWg b0 b1 b2 x3
                 have⟨b0,b1,b2⟩:=hB4.cells
                 have f0:=hB4.fz 0
                 have f1:=hB4.fz 1
                 have f2:=hB4.fz 2
                 obtain⟨W5,hW5⟩:∃ X,X=W4.setCell ⟨gl,1,none⟩ (.int .i64 ((k2:Int)+1+(d:Int))):=⟨_,rfl⟩
                 have hB5:BoxL W5 gl ((k2:Int)+1) ((k2:Int)+1+(d:Int)) []:=by rw [hW5];exact hB4.set1 _
                 have hb5:Below w1.heap.size w1 W5:=by rw [hW5];exact hb4.setCell (by exact Hgs.out) _
                 have HB5:=Lib.hid hB5
                 have Hb5:=Lib.hid hb5
                 have HW5:=Lib.hid hW5
                 have Hbx5:=Lib.hid (Hbx1.out.below hb5)
                 clear hB4 hb4 hW5 hB5 hb5
                 go_upto_region 43 with fail
                 generalize hWg:W4.setCell _ _=Wz
                 obtain rfl:W5=Wz:=by rw [← hWg,HW5.out]
                 clear hWg b0 b1 b2 f0 f1 f2
                 have x5:=Hbx5.out.1
                 have⟨b0,b1,b2⟩:=HB5.out.cells
                 go_wp2_with fail
                 go_meet
                 exact⟨min (T+1) l.length,_,_,by have:=HTd.out;congr 1;omega,HB5.out,Hb5.out,Lib.hid (by rw [Hnm.out];have:=Hnx.out;rw [HTd.out];exact this)⟩
                | false =>
                 obtain⟨T,hT⟩:∃ T,toP pVal l k2=T:=⟨_,rfl⟩
                 have hTl:=toP_le pVal l k2 (by omega)
                 rw [hT] at hTl
                 have HT:=Lib.hid hT
                 obtain⟨W3,hW3⟩:∃ X,X=W2.setCell ⟨gl,0,none⟩ (.int .i64 (k2:Int)):=⟨_,rfl⟩
                 have hB3:BoxL W3 gl (k2:Int) 0 []:=by rw [hW3];exact HB2.out.set0 _
                 have hb3:Below w1.heap.size w1 W3:=by rw [hW3];exact Hb2.out.setCell (by exact Hgs.out) _
                 have HB3:=Lib.hid hB3
                 have Hb3:=Lib.hid hb3
                 have HW3:=Lib.hid hW3
                 have Hbx3:=Lib.hid (Hbx1.out.below hb3)
                 have Hnx:=Lib.hid (NextL.val hin Hpa.out H62.out Hj.out Hkk.out hk1 H61.out Hk2.out Hbw.out.symm hT)
                 clear hT hB3 hb3 hW3
                 go_upto_region 45 with fail
                 generalize hWg:W2.setCell _ _=Wz
                 obtain rfl:W3=Wz:=by rw [← hWg,HW3.out]
                 clear hWg b0 b1 b2 f0 f1 f2 x2
                 have x3:=Hbx3.out.1
                 go_upto_block 14 with fail
                 go_cut [9] from 115 to 311 (fun sv wx=>sv = .int .i64 (T:Nat)∧W3=wx)
                 case first=>as_aux_lemma =>
                  go_wp2_with fail
                  go_loop [9] (fun v=>∃ q:Nat,v = .int .i64 (q:Nat)∧q≤l.length∧k2≤q∧Hid (toP pVal l q=T)) (fun v=>l.length - (intOf v).toNat)
                  case atStart=>exact⟨k2,rfl,by omega,by omega,HT⟩
                  case round =>
                   obtain⟨q,rfl,hq,hq0,HQ⟩:=hrel
                   by_cases hqn:q < l.length
                   · have q0:(0:Int)≤(q:Int):=by omega
                     have q1:(q:Int) < (l.length:Int):=by omega
                     have hs:=rl_space l g q W3 Hbx3.out hqn
                     cases hsp:isSp (nth l q) with
                     | true =>
                      rw [hsp] at hs
                      have Hs:=Lib.hid hs
                      have hT:Hid (q=T):=by
                       have h1:=toP_at pVal l q hqn (by simp [pVal,hsp])
                       rw [HQ.out] at h1
                       exact h1.symm
                      clear hs hsp
                      go_wp2_with fail
                      refine Hs.out.mono ?_
                      rintro e _ ⟨rfl,rfl⟩
                      go_wp2_with fail
                      go_meet
                      exact⟨by rw [hT.out],rfl⟩
                     | false =>
                      rw [hsp] at hs
                      have Hs:=Lib.hid hs
                      clear hs
                      by_cases h62:nth l q=62
                      · have d62:(((nth l q:Nat):Int) == 62)=true:=by simp;omega
                        have e62:(((nth l q:Nat):Int) != 62)=false:=by simp;omega
                        have hT:Hid (q=T):=by
                         have h1:=toP_at pVal l q hqn (by simp [pVal,h62])
                         rw [HQ.out] at h1
                         exact h1.symm
                        clear hsp h62
                        go_wp2_with fail
                        refine Hs.out.mono ?_
                        rintro e _ ⟨rfl,rfl⟩
                        go_wp2_with fail
                        go_meet
                        exact⟨by rw [hT.out],rfl⟩
                      · have d62:(((nth l q:Nat):Int) == 62)=false:=by simp;omega
                        have e62:(((nth l q:Nat):Int) != 62)=true:=by simp;omega
                        have hT:Hid (toP pVal l (q+1)=T):=by
                         have h1:=toP_step pVal l q hqn (by simp [pVal,hsp,h62])
                         show _=_
                         rw [← h1]
                         exact HQ.out
                        clear hsp
                        go_wp2_with fail
                        refine Hs.out.mono ?_
                        rintro e _ ⟨rfl,rfl⟩
                        go_wp2_with fail
                        go_round
                        case rel=>exact⟨q+1,by go_num,by omega,by omega,hT⟩
                        case measure=>simp [intOf];omega
                   · obtain rfl:q=l.length:=by omega
                     have hT:Hid (l.length=T):=by
                      have h1:=toP_end pVal l
                      rw [HQ.out] at h1
                      exact h1.symm
                     have hqf:decide (l.length < l.length)=false:=by simp
                     go_wp2_with fail
                     go_meet
                     exact⟨by rw [hT.out],rfl⟩
                 case rest=>as_aux_lemma =>
                  obtain⟨rfl,rfl⟩:=hcut
                  have⟨b0,b1,b2⟩:=HB3.out.cells
                  have f0:=HB3.out.fz 0
                  have f1:=HB3.out.fz 1
                  have f2:=HB3.out.fz 2
                  have HB5:=Lib.hid (HB3.out.set1 (T:Int))
                  have hb5:Below w1.heap.size w1 (W3.setCell ⟨gl,1,none⟩ (.int .i64 (T:Int))):=Hb3.out.setCell (by exact Hgs.out) _
                  have Hb5:=Lib.hid hb5
                  clear hb5
                  go_wp2_with fail
                  go_meet
                  exact⟨T,_,_,rfl,HB5.out,Hb5.out,Lib.hid (by rw [Hnm.out];exact Hnx.out)⟩
            case rest=>as_aux_lemma =>
             obtain⟨i2,fr,tl,rfl,hB3,hb3,Hnx⟩:=hcut
             obtain⟨w3,rfl⟩:∃ x,x=wc:=⟨_,rfl⟩
             have Hbx3:=Lib.hid (Hbx1.out.below hb3)
             have HB3:=Lib.hid hB3
             have Hb3:=Lib.hid hb3
             have hownA:=own_below (own_below Hown.out Hb1.out) hb3
             have hownB:=own_below (own_below Hown2.out Hb1.out) hb3
             have HoA:=Lib.hid hownA
             have HoB:=Lib.hid hownB
             obtain⟨kb,hkb⟩:∃ b,b=(leadsB nm && (decide (0≤fr) && !names.contains nm)):=⟨_,rfl⟩
             have Hkb:=Lib.hid hkb
             have hbelw:=Hbel.out.trans ((Hb1.out.trans (hb3.mono Hb1.out.size)).mono Hbel.out.size)
             have Hbw3:=Lib.hid hbelw
             have x3:=Hbx3.out.1
             have⟨b0,b1,b2⟩:=hB3.cells
             clear hB3 hb3 hownA hownB hkb hbelw x2
             go_upto_region 49 with fail
             go_cut [294] from 115 to 311 (fun sv wx=>sv = .bool kb∧w3=wx)
             case first=>as_aux_lemma =>
              by_cases h1:nm = [104,114,101,102]
              · have e1:(nm == [104,114,101,102])=true:=by rw [h1];rfl
                have hld:leadsB nm=true:=by unfold leadsB;rw [e1];rfl
                clear h1
                by_cases hfr:0≤fr
                · have dfr:decide (0≤fr)=true:=by simpa using hfr
                  have hct:=Contains_strs names nm S2 k cN w3.heap.size w3 (Sl.of_own HoB.out) (by omega)
                  cases hcb:names.contains nm with
                  | true =>
                   rw [hcb] at hct
                   have Hct:=Lib.hid hct
                   have hb:Hid (kb=false):=by show _=_;rw [Hkb.out,hcb];simp
                   clear hct hcb hld hfr
                   go_wp2_with fail
                   refine Hct.out.mono ?_
                   rintro e _ ⟨rfl,rfl⟩
                   go_wp2_with fail
                   go_meet
                   exact⟨by rw [hb.out],rfl⟩
                  | false =>
                   rw [hcb] at hct
                   have Hct:=Lib.hid hct
                   have hb:Hid (kb=true):=by show _=_;rw [Hkb.out,hcb,hld,dfr];rfl
                   clear hct hcb hld hfr
                   go_wp2_with fail
                   refine Hct.out.mono ?_
                   rintro e _ ⟨rfl,rfl⟩
                   go_wp2_with fail
                   go_meet
                   exact⟨by rw [hb.out],rfl⟩
                · have dfr:decide (0≤fr)=false:=by simpa using hfr
                  have hb:Hid (kb=false):=by show _=_;rw [Hkb.out,dfr];simp
                  clear hld hfr
                  go_wp2_with fail
                  go_meet
                  exact⟨by rw [hb.out],rfl⟩
              · have e1:(nm == [104,114,101,102])=false:=by simpa using h1
                by_cases h2:nm = [115,114,99]
                · have e2:(nm == [115,114,99])=true:=by rw [h2];rfl
                  have hld:leadsB nm=true:=by unfold leadsB;rw [e2,Bool.or_true]
                  clear h1 h2
                  by_cases hfr:0≤fr
                  · have dfr:decide (0≤fr)=true:=by simpa using hfr
                    have hct:=Contains_strs names nm S2 k cN w3.heap.size w3 (Sl.of_own HoB.out) (by omega)
                    cases hcb:names.contains nm with
                    | true =>
                     rw [hcb] at hct
                     have Hct:=Lib.hid hct
                     have hb:Hid (kb=false):=by show _=_;rw [Hkb.out,hcb];simp
                     clear hct hcb hld hfr
                     go_wp2_with fail
                     refine Hct.out.mono ?_
                     rintro e _ ⟨rfl,rfl⟩
                     go_wp2_with fail
                     go_meet
                     exact⟨by rw [hb.out],rfl⟩
                    | false =>
                     rw [hcb] at hct
                     have Hct:=Lib.hid hct
                     have hb:Hid (kb=true):=by show _=_;rw [Hkb.out,hcb,hld,dfr];rfl
                     clear hct hcb hld hfr
                     go_wp2_with fail
                     refine Hct.out.mono ?_
                     rintro e _ ⟨rfl,rfl⟩
                     go_wp2_with fail
                     go_meet
                     exact⟨by rw [hb.out],rfl⟩
                  · have dfr:decide (0≤fr)=false:=by simpa using hfr
                    have hb:Hid (kb=false):=by show _=_;rw [Hkb.out,dfr];simp
                    clear hld hfr
                    go_wp2_with fail
                    go_meet
                    exact⟨by rw [hb.out],rfl⟩
                · have e2:(nm == [115,114,99])=false:=by simpa using h2
                  have hld:leadsB nm=false:=by unfold leadsB;rw [e1,e2];rfl
                  have hb:Hid (kb=false):=by show _=_;rw [Hkb.out,hld];rfl
                  clear h1 h2 hld
                  go_wp2_with fail
                  go_meet
                  exact⟨by rw [hb.out],rfl⟩
             case rest=>as_aux_lemma =>
              obtain⟨rfl,rfl⟩:=hcut
              obtain⟨hlt,hle,hor⟩:=Hnx.out
              have f0:=HB3.out.fz 0
              have f1:=HB3.out.fz 1
              have f2:=HB3.out.fz 2
              obtain⟨i0,hi0',hz0,hz1,hz2⟩:=info_parts infoLink
              obtain⟨j0,hj0,hy0,hy1,hy2⟩:=info_parts infoStrR
              have HI0:=Lib.hid (And.intro hi0' (And.intro hz0 (And.intro hz1 hz2)))
              have HJ0:=Lib.hid (And.intro hj0 (And.intro hy0 (And.intro hy1 hy2)))
              clear hi0' hz0 hz1 hz2 hj0 hy0 hy1 hy2
              cases kb with
              | false =>
               have hAL:Hid (AL l.length (l.drop i2) (nm :: names.reverse) ls=RA):=by
                show _=_
                have h0:=hst.out.2.2
                rcases hor with ⟨_,h⟩ | ⟨a,z,rfl,rfl,_,_,h⟩
                · rw [← h,h0]
                · have hk:=Hkb.out.symm
                  have hd:decide (0≤((a:Nat):Int))=true:=by simp
                  rw [hd,Bool.true_and] at hk
                  have h1:=h names.reverse ls
                  rw [cont_rev,hk,if_neg (by simp)] at h1
                  rw [← h1,h0]
               clear hor b0 b1 b2 f0 f1 f2
               obtain⟨w6,hw6⟩:∃ x,x=w3:=⟨_,rfl⟩
               have HoA6:=Lib.hid HoA.out
               have HoB6:=Lib.hid HoB.out
               have Hbw6:=Lib.hid Hbw3.out
               rw [← hw6] at HoA6 HoB6 Hbw6 ⊢
               obtain⟨m6,hm6⟩:∃ x,x=m:=⟨_,rfl⟩
               clear hw6
               have hone1:∀ v∈[str nm],v.oneCell'=true:=by intro v hv;simp at hv;subst hv;rfl
               have Hone1:=Lib.hid hone1
               have h63:k+1≤maxLen:=by unfold maxLen;omega
               have h47:(k+1) * 16≤140737488355328:=by omega
               have hbase:wt.heap.size≤w6.heap.size:=Hbw6.out.size
               obtain⟨hj0,hy0,hy1,hy2⟩:=HJ0.out
               clear hone1
               go_wp2_with (at_builtin;refine wpList_app2 rfl _ _ 40 rfl wt.heap.size 9 j0 _ 1 16 Tryz.underlying40 hj0 hy0 hy1 hy2 rfl (by decide) S2 k cN (names.map str) rfl (HoB6.out.alloc _) _ _ 1 1 [str nm] rfl (Sl.row _ _ 1 1 _ rfl) Hone1.out h63 h47 ?c3 ?_)
               case c3=>simp;omega
               intro S8 c8 w8 hown8 hb8 hgr8 hat8
               have hoA8:=(HoA6.out.alloc (.cells [str nm].toArray 9)).kept hgr8 (own_types (HoA6.out.alloc (.cells [str nm].toArray 9)) (HoB6.out.alloc (.cells [str nm].toArray 9)) (by decide))
               have hbw8:=(Hbw6.out.alloc hbase (.cells [str nm].toArray 9)).trans hb8
               have hnm8:names.map str ++ [str nm]=(names ++ [nm]).map str:=by simp
               rw [hnm8] at hown8
               have Hfin:=Lib.hid (And.intro hown8 (And.intro hoA8 hbw8))
               clear hown8 hb8 hgr8 hat8 hoA8 hbw8 hnm8 hj0 hy0 hy1 hy2 hbase h63 h47
               go_wp2_with fail
               refine⟨⟨i2,m,cS,k+1,c8,S,S8,ls,names ++ [nm],rfl,rfl,rfl,by omega,by omega,by omega,by omega,Lib.hid ⟨hst.out.1,by rw [List.length_append,hst.out.2.1];rfl,by rw [List.reverse_append];exact hAL.out⟩,Hfin.out.2.1,Hfin.out.1,Hfin.out.2.2⟩,by simp [intOf];omega⟩
              | true =>
               have hk:=Hkb.out.symm
               rw [Bool.and_eq_true,Bool.and_eq_true,decide_eq_true_eq] at hk
               obtain⟨hk1,hk2,hk3⟩:=hk
               rcases hor with ⟨h,_⟩ | ⟨a,z,rfl,rfl,haz,hz,h⟩
               · exact absurd hk2 (by omega)
               · have hAL:Hid (AL l.length (l.drop i2) (nm :: names.reverse) (ls ++ [⟨a,z,unamp ((l.take z).drop a)⟩])=RA):=by
                  show _=_
                  have h1:=h names.reverse ls
                  rw [cont_rev,hk1,hk3,if_pos (by simp)] at h1
                  rw [← h1,hst.out.2.2]
                 obtain⟨t,ht⟩:∃ t,t=(l.take z).drop a:=⟨_,rfl⟩
                 rw [← ht] at hAL
                 have htl:t.length≤4000:=by rw [ht,List.length_drop,List.length_take];omega
                 have s0:(0:Int)≤(a:Int):=by omega
                 have s1:(a:Int)≤(z:Int):=by omega
                 have s2:(z:Int)≤(l.length:Int):=by omega
                 have hM3:=HM.out.below Hbw3.out
                 have hsp:=SplitAmp t w3 hM3 (by omega)
                 have hsl:=split_len t
                 have Hsp:=Lib.hid hsp
                 have Ht:=Lib.hid ht
                 have Hhor:=Lib.hid hk1
                 clear h hk1 hk2 hk3 ht hM3 hsp
                 go_wp2_with fail
                 rw [← Ht.out]
                 refine Hsp.out.mono ?_
                 rintro e w4 ⟨SP,cP,rfl,hslP,hcP,hb4⟩
                 have hjn:=JoinS_any (Lib.split t ampB) [38] SP cP w4.heap.size w4 hslP (Nat.le_refl _) hcP (by omega) (by rw [unampJ];have:=unamp_le t;omega)
                 rw [unampJ] at hjn
                 have Hjn:=Lib.hid hjn
                 have Hb4:=Lib.hid hb4
                 clear hjn hslP hcP hb4 hsl
                 go_wp2_with fail
                 refine Hjn.out.mono ?_
                 rintro e w5 ⟨rfl,hb5⟩
                 have hb35:=Hb4.out.trans (hb5.mono Hb4.out.size)
                 have hB5:=HB3.out.below hb35
                 obtain⟨u,hu⟩:∃ u,u=unamp t:=⟨_,rfl⟩
                 rw [← hu] at hAL ⊢
                 obtain⟨W6,hW6⟩:∃ X,X=w5.setCell ⟨gl,2,none⟩ (str u):=⟨_,rfl⟩
                 have hB6:BoxL W6 gl (a:Int) (z:Int) u:=by rw [hW6];exact hB5.set2 _
                 have hb6:Below w1.heap.size w1 W6:=by rw [hW6];exact(Hb3.out.trans (hb35.mono Hb3.out.size)).setCell (by exact Hgs.out) _
                 have HB6:=Lib.hid hB6
                 have Hb6:=Lib.hid hb6
                 have HW6:=Lib.hid hW6
                 clear b0 b1 b2 f0 f1 f2
                 have⟨b0,b1,b2⟩:=hB5.cells
                 have f0:=hB5.fz 0
                 have f1:=hB5.fz 1
                 have f2:=hB5.fz 2
                 clear hb5 hb35 hB5 hu hB6 hb6 hW6
                 go_upto_region 51 with fail
                 generalize hWg:w5.setCell _ _=Wz
                 obtain rfl:W6=Wz:=by rw [← hWg,HW6.out]
                 clear hWg b0 b1 b2 f0 f1 f2
                 have⟨b0,b1,b2⟩:=HB6.out.cells
                 have hoA:=own_below (own_below Hown.out Hb1.out) Hb6.out
                 have hoB:=own_below (own_below Hown2.out Hb1.out) Hb6.out
                 have HoA6:=Lib.hid hoA
                 have HoB6:=Lib.hid hoB
                 have hbw6:=Hbel.out.trans ((Hb1.out.trans (Hb6.out.mono Hb1.out.size)).mono Hbel.out.size)
                 have Hbw6:=Lib.hid hbw6
                 have hone:∀ v∈linkC [⟨a,z,u⟩],v.oneCell'=true:=linkC_one _
                 have Hone:=Lib.hid hone
                 have h63:m+1≤maxLen:=by unfold maxLen;omega
                 have h47:(m+1) * 32≤140737488355328:=by omega
                 have hbase:wt.heap.size≤W6.heap.size:=hbw6.size
                 obtain⟨hi0',hz0,hz1,hz2⟩:=HI0.out
                 clear hoA hoB hbw6 hone
                 go_wp2_with (at_builtin;refine wpList_app2 rfl _ _ 65 rfl wt.heap.size 42 i0 _ 3 32 Tryz.underlying65 hi0' hz0 hz1 hz2 rfl (by decide) S m cS (linkC ls) rfl (HoA6.out.alloc _) _ _ 1 1 (linkC [⟨a,z,u⟩]) rfl (Sl.row _ _ 3 1 _ rfl) Hone.out h63 h47 ?c2 ?_)
                 case c2=>simp;omega
                 intro S7 c7 w7 hown7 hb7 hgr7 hat7
                 rw [← linkC_app] at hown7
                 have HoA7:=Lib.hid hown7
                 have hoB7:=(HoB6.out.alloc (.cells (linkC [⟨a,z,u⟩]).toArray 42)).kept hgr7 (own_types (HoB6.out.alloc (.cells (linkC [⟨a,z,u⟩]).toArray 42)) (HoA6.out.alloc (.cells (linkC [⟨a,z,u⟩]).toArray 42)) (by decide))
                 have HoB7:=Lib.hid hoB7
                 have hbw7:=(Hbw6.out.alloc hbase (.cells (linkC [⟨a,z,u⟩]).toArray 42)).trans hb7
                 have Hbw7:=Lib.hid hbw7
                 clear hown7 hb7 hgr7 hat7 hoB7 hbw7 hi0' hz0 hz1 hz2 b0 b1 b2 hbase h63 h47
                 obtain⟨w6,hw6⟩:∃ x,x=w7:=⟨_,rfl⟩
                 have HoA6:=Lib.hid HoA7.out
                 have HoB6:=Lib.hid HoB7.out
                 have Hbw6:=Lib.hid Hbw7.out
                 rw [← hw6] at HoA6 HoB6 Hbw6 ⊢
                 clear hw6 HoA7 HoB7 Hbw7
                 have hlen:Hid ((ls ++ [(⟨a,z,u⟩:LinkD)]).length=m+1):=by show _=_;rw [List.length_append,hst.out.1];rfl
                 have hone1:∀ v∈[str nm],v.oneCell'=true:=by intro v hv;simp at hv;subst hv;rfl
                 have Hone1:=Lib.hid hone1
                 have h63:k+1≤maxLen:=by unfold maxLen;omega
                 have h47:(k+1) * 16≤140737488355328:=by omega
                 have hbase:wt.heap.size≤w6.heap.size:=Hbw6.out.size
                 obtain⟨hj0,hy0,hy1,hy2⟩:=HJ0.out
                 clear hone1
                 go_wp2_with (at_builtin;refine wpList_app2 rfl _ _ 40 rfl wt.heap.size 9 j0 _ 1 16 Tryz.underlying40 hj0 hy0 hy1 hy2 rfl (by decide) S2 k cN (names.map str) rfl (HoB6.out.alloc _) _ _ 1 1 [str nm] rfl (Sl.row _ _ 1 1 _ rfl) Hone1.out h63 h47 ?c3 ?_)
                 case c3=>simp;omega
                 intro S8 c8 w8 hown8 hb8 hgr8 hat8
                 have hoA8:=(HoA6.out.alloc (.cells [str nm].toArray 9)).kept hgr8 (own_types (HoA6.out.alloc (.cells [str nm].toArray 9)) (HoB6.out.alloc (.cells [str nm].toArray 9)) (by decide))
                 have hbw8:=(Hbw6.out.alloc hbase (.cells [str nm].toArray 9)).trans hb8
                 have hnm8:names.map str ++ [str nm]=(names ++ [nm]).map str:=by simp
                 rw [hnm8] at hown8
                 have Hfin:=Lib.hid (And.intro hown8 (And.intro hoA8 hbw8))
                 clear hown8 hb8 hgr8 hat8 hoA8 hbw8 hnm8 hj0 hy0 hy1 hy2 hbase h63 h47
                 go_wp2_with fail
                 refine⟨⟨i2,(m+1),c7,k+1,c8,S7,S8,(ls ++ [⟨a,z,u⟩]),names ++ [nm],rfl,rfl,rfl,by omega,by omega,by omega,by omega,Lib.hid ⟨hlen.out,by rw [List.length_append,hst.out.2.1];rfl,by rw [List.reverse_append];exact hAL.out⟩,Hfin.out.2.1,Hfin.out.1,Hfin.out.2.2⟩,by simp [intOf];omega⟩
  · obtain rfl:i=l.length:=by omega
    have hqf:decide (l.length < l.length)=false:=by simp
    go_wp2_with fail
    exact Hexit.out _ _ _ _ _ _ _ _ _ _ _ _ _ _ _ _ _ _ _ _ _ _ _ _ _ _ _ _ _ _ _ _ _ _ _ _ _ _ _ _ _ _ _ _ _ _ _ _ _ _ _ _ _ _ _ _ _ _ _ _ _ _ _ _ _ _ _ _ _ _ _ _ _ _ _ _ _ _ _ _ _ _ _ _ _ _ _ _ _ _ _ _ _ _ _ _ _ _ _ _ _ _ _ _ _ _ _ _ _ _ _ _ _ _ _ _ _ _ _ _ _ _ _ _ _ _ _ _ _ _ _ _ _ _ _ _ _ _ _ _ _ _ _ _ _ _ _ _ _ _ _ _ _ _ _ _ _ _ _ _ _ _ _ _ _ _ _ _ _ _ _ _ _ _ _ _ _ _ _ _ _ _ _ _ _ _ _ _ _ _ _ _ _ _ _ _ _ _ _ _ _ _ _ _ _ ⟨_,_,_,_,_,_,_,_,_,rfl,rfl,rfl,hi0,hi,hm,hk,hst,Hown.out,Hown2.out,Hbel.out⟩ (fun j hj=>.inl (by injection hj with _ hj;omega))
end Go.Proofs.YtlgbopjhmemaoaaGreatDoor
