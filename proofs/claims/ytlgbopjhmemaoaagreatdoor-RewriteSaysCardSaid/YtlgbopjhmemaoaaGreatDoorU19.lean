import Derived.Test.YtlgbopjhmemaoaaGreatDoorU15
import Derived.Test.YtlgbopjhmemaoaaGreatDoorU10
import Derived.Test.YtlgbopjhmemaoaaGreatDoorU18
import Derived.Test.YtlgbopjhmemaoaaGreatDoorU11
import Derived.Test.YtlgbopjhmemaoaaGreatDoorU2
import Derived.Test.YtlgbopjhmemaoaaGreatDoorU5
import Derived.Shelf.Strings.SlTrimAscii
import Derived.Test.YtlgbopjhmemaoaaGreatDoorU3
set_option maxRecDepth 100000
set_option maxHeartbeats 40000000
namespace Go.Proofs.YtlgbopjhmemaoaaGreatDoor
open Go.RowKit
theorem run_toBytesA {P:Program} (w:World) (src dst e:TypeId) (l:List UInt8) (hs:P.underlying src=some .string) (hd:P.underlying dst=some (.slice e)) (he:P.underlying e=some (.int .u8)) :
 ∃ c w',(convert src dst (str l)).run P w = .ok (.slice (some ⟨w.heap.size,0,none⟩) l.length c) w'∧By w' w'.heap.size (some ⟨w.heap.size,0,none⟩) l.length l∧Below w.heap.size w w':=by
 refine⟨_,_,run_bytes_of_string w src dst e ⟨l.toArray⟩ hs hd he,?_,?_⟩
 · refine Sl.of_block (g:=w.heap.size) (heap_alloc_new w.drew _) (by simp [Lib.byteCells]) fun j u hu=>?_
   rw [Nat.zero_add]
   have hj:j < l.length:=by
    rcases Nat.lt_or_ge j l.length with h | h
    · exact h
    · simp [Lib.byteCells,List.getElem?_eq_none h] at hu
   rw [bytesRow_at ⟨l.toArray⟩ _ j (by simpa using hj)]
   simp [Lib.byteCells,hj] at hu
   simpa using hu
 · exact(Below.drew (Below.refl _ w)).alloc (Nat.le_refl _) _
theorem okB_bad:∀ b:Fin 256,okB 33 126 [34,39,60,62,38,61] b.val = !(badPut b.val):=by decide +kernel
theorem between_put (t:List UInt8):t.all (fun b=>okB 33 126 [34,39,60,62,38,61] b.toNat) = !(t.any fun c=>badPut c.toNat):=by
 rw [List.all_eq_not_any_not]
 congr 2
 funext b
 rw [okB_bad ⟨b.toNat,b.toNat_lt⟩,Bool.not_not]
theorem repL_pos (b:List UInt8) (hb:b≠[]):∀ (ls:List LinkD) (ts:List (List UInt8)),repL b ls ts≠[]
 | [],_=>by rw [repL];exact hb
 | _ :: _,[]=>by rw [repL];exact hb
 | x :: ls,t :: ts=>by
  rw [repL]
  unfold repB
  split
  · exact repL_pos b hb ls ts
  · rename_i ht
    intro h
    have h1:=congrArg List.length h
    rw [List.length_append,List.length_append,List.length_nil] at h1
    have h2:t.length=0:=by omega
    exact ht (List.eq_nil_of_length_eq_zero h2)
def PtRel (w2:World) (tn:Nat) (ts:List (List UInt8)) (iv:Value) (wr:World):Prop:=
 ∃ i:Nat,iv = .int .i64 (i:Nat)∧i≤tn∧wr=w2∧Hid ((ts.take i).any (fun t=>t.any fun c=>badPut c.toNat)=false)
def DnRel (w1:World) (m:Nat) (l:List UInt8) (ls:List LinkD) (ts:List (List UInt8)) (ov sv:Value) (wr:World):Prop:=
 ∃ (k no co:Nat) (So:Option Addr) (out:List UInt8),sv = .int .i64 ((k:Int) - 1)∧k≤m∧ov = .slice So no co∧Hid (no=out.length)∧wr.ownsRow w1.heap.size 5 1 (.slice So no co) no (Lib.byteCells out)∧Below w1.heap.size w1 wr ∧
  Hid (out=repL l (ls.drop k) (ts.drop k))
theorem PutIn_any (A TA:Option Addr) (n c tn tc:Nat) (l:List UInt8) (ts:List (List UInt8)) (w:World) (hM:MaxLenOk w) (hb:By w w.heap.size A n l) (h4:n≤4000) (hts:Sl w w.heap.size 1 TA tn (ts.map str)) (hT:sumL ts≤1000000000000) :
 Calls Tryz.prog 22 #[.slice A n c,.slice TA tn tc] w (PutOut (putE l ts) w):=by
 obtain⟨i0,hi0,hz0,hz1,hz2⟩:=info_parts infoByte
 have Hi0:=Lib.hid hi0
 clear hi0
 have hnl:=hb.len
 have htn:ts.length=tn:=by have:=hts.1;simpa using this
 have hfind:=LinksOf_any A n c l w hM hb h4
 have he0:=fun h=>(putE_none (l:=l) (ts:=ts) h)
 have he1:=fun h=>(putE_some (l:=l) (ts:=ts) h)
 unfold FindOut at hfind
 generalize findE l=F at hfind he0 he1
 obtain⟨ls,fe⟩:=F
 simp only at hfind he0 he1
 by_cases hfe:fe=0
 · subst hfe
   obtain⟨e1,e2,e3⟩:=he1 rfl
   have hok:=LOk.find e1
   have hm60:=findB_len e1
   have Hfind:=Lib.hid hfind
   clear he0 he1 hfind
   obtain⟨m,hm⟩:∃ m,m=ls.length:=⟨_,rfl⟩
   rw [← hm] at e3 hm60
   have Hm:=Lib.hid hm
   have Htn:=Lib.hid htn
   rw [htn] at e3
   by_cases hlen:tn=m
   · have hne:((m:Int) != (tn:Int))=false:=by simp;omega
     rw [if_neg (by omega),put_repL e1 ts (by omega)] at e3
     obtain⟨R,hR⟩:∃ R,R=repL l ls ts:=⟨_,rfl⟩
     obtain⟨bad,hbad⟩:∃ bad,bad=ts.any (fun t=>t.any fun c=>badPut c.toNat):=⟨_,rfl⟩
     rw [← hR,← hbad] at e3
     have hpos:0 < m→l≠[]:=by
      intro h0 hl0
      subst hl0
      have:findB []=some []:=rfl
      rw [this] at e1
      have e1:=Option.some.inj e1
      rw [hm,← e1] at h0
      simp at h0
     have htl:∀ t∈ts,t.length≤1000000000000:=by
      intro t ht
      obtain⟨j,hj,rfl⟩:=List.getElem_of_mem ht
      have h1:sumL ts=sumL (ts.take j)+(ts[j].length+sumL (ts.drop (j+1))):=by
       conv=>lhs;rw [← List.take_append_drop j ts,List.drop_eq_getElem_cons hj]
       unfold sumL
       rw [List.map_append,List.sum_append,List.map_cons,List.sum_cons]
      omega
     have htn60:tn≤60:=by omega
     have HT:=Lib.hid hT
     have Hnl:=Lib.hid hnl
     have HR:=Lib.hid hR
     have Hbad:=Lib.hid hbad
     have Hlen:=Lib.hid hlen
     have E3:=Lib.hid e3
     have E1:=Lib.hid e1
     have Hok:=Lib.hid hok
     have Hpos:=Lib.hid hpos
     have Htl:=Lib.hid htl
     have HM:=Lib.hid hM
     have Hts:=Lib.hid hts
     have Hb:=Lib.hid hb
     clear hR hbad hlen e1 e2 e3 hm htn hnl hok hpos htl hT hM hts hb
     go_enter Tryz.func22,Tryz.ntmps22
     go_wp2_with fail
     refine Hfind.out.mono ?_
     rw [← Hm.out]
     rintro e w1 ⟨S,cS,rfl,hown1,hb1⟩
     have hsz1:=hb1.size
     have Hb1:=Lib.hid hb1
     have hsl:=Sl.of_own hown1
     have Hsl:=Lib.hid hsl
     have hone:=oneCell_byteCells l
     have h63:0+n≤maxLen:=by unfold maxLen;omega
     have h47:(0+n) * 1≤140737488355328:=by omega
     have hbs:By (w1.alloc (.cells #[] 5)) w.heap.size A n l:=(Hb.out.below hb1).alloc hsz1 _
     have Hbs:=Lib.hid hbs
     have hmk:=World.ownsRow_made (base:=w1.heap.size) (e:=5) (size:=1) w1 #[] 0 (Nat.le_refl _) (Nat.zero_le _) rfl
     have Hmk:=Lib.hid hmk
     clear hown1 Hfind hsl hb1 hbs hmk
     go_wp2_with (at_builtin;refine wpList_app rfl _ _ 22 rfl w1.heap.size 5 i0 _ 1 1 Tryz.underlying22 Hi0.out hz0 hz1 hz2 rfl (by decide) (some ⟨w1.heap.size,0,none⟩) 0 0 [] rfl Hmk.out _ A n c (Lib.byteCells l) rfl Hbs.out hone h63 h47 (by simp) ?_)
     intro S2 c2 w2 hown2 hb2 hg2
     have hbel2:Below w1.heap.size w1 w2:=((Below.refl _ w1).alloc (Nat.le_refl _) _).trans hb2
     have hn0:n=l.length:=Hnl.out.symm
     have Hown2:=Lib.hid hown2
     have Hbel2:=Lib.hid hbel2
     have Hn0:=Lib.hid hn0
     have htW:=(Hts.out.below Hb1.out).belowN hbel2 hsz1
     have HtW:=Lib.hid htW
     clear hown2 hb2 hg2 hbel2 hn0 htW
     go_wp2_with fail
     go_loopw [4,5,30] (fun v4 v5 iv wr=>v4 = .slice none 0 0∧v5 = .int .i64 0∧PtRel w2 tn ts iv wr) (fun _ _ iv _=>tn - (intOf iv).toNat)
     case atStart=>exact⟨rfl,rfl,0,rfl,Nat.zero_le _,rfl,Lib.hid rfl⟩
     case round=>as_aux_lemma =>
      obtain⟨rfl,rfl,i,rfl,hi,rfl,hz⟩:=hrel
      by_cases hin:i < tn
      · obtain⟨tb,toff,u,hTA,htb,hu,htc⟩:=HtW.out.at_ (k:=i) hin
        subst hTA
        have hil:i < ts.length:=by have:=Htn.out;omega
        obtain⟨t,ht⟩:∃ t,t=ts[i]:=⟨_,rfl⟩
        have hut:u=str t:=by
         rw [List.getElem?_map,List.getElem?_eq_getElem hil,← ht] at hu
         simpa using hu.symm
        subst hut
        have htlen:=Htl.out t (by rw [ht];exact List.getElem_mem hil)
        have hbt:=between_any t 33 126 ⟨#[34,39,60,62,38,61]⟩ wr (by unfold maxLen;omega) (by omega) (by omega)
        rw [show t.all (fun b=>okB 33 126 (⟨#[34,39,60,62,38,61]⟩:ByteArray).data.toList b.toNat) = !(t.any fun c=>badPut c.toNat) from between_put t] at hbt
        have hzt:Hid ((ts.take (i+1)).any (fun t=>t.any fun c=>badPut c.toNat)=(t.any fun c=>badPut c.toNat)):=by
         show _=_
         rw [List.take_add_one,List.getElem?_eq_getElem hil,← ht,List.any_append,hz.out]
         simp
        have hbb:(t.any fun c=>badPut c.toNat)=true→bad=true:=by
         intro hbt
         rw [Hbad.out,List.any_eq_true]
         exact⟨t,by rw [ht];exact List.getElem_mem hil,hbt⟩
        have Hbt:=Lib.hid hbt
        have Hbb:=Lib.hid hbb
        clear hu ht hbt hbb
        generalize (t.any fun c=>badPut c.toNat)=bt at Hbt hzt Hbb
        cases bt with
        | true =>
         have hb1:=Hbb.out rfl
         have Hbb1:=Lib.hid hb1
         clear hb1
         go_wp2_with fail
         refine Hbt.out.mono ?_
         rintro e w3 ⟨rfl,hw3⟩
         subst hw3
         go_wp2_with fail
         go_ret2
         rw [E3.out,Hbb1.out]
         exact⟨none,0,rfl,World.ownsRow_nil _ _ _ _,Hb1.out.trans (Hbel2.out.mono hsz1)⟩
        | false =>
         go_wp2_with fail
         refine Hbt.out.mono ?_
         rintro e w3 ⟨rfl,hw3⟩
         subst hw3
         go_wp2_with fail
         exact⟨⟨rfl,rfl,i+1,by go_num,by omega,rfl,hzt⟩,by simp [intOf];omega⟩
      · obtain rfl:tn=i:=by omega
        have hb0:bad=false:=by
         rw [Hbad.out]
         have h:=hz.out
         rw [List.take_of_length_le (by have:=Htn.out;omega)] at h
         exact h
        have Hb0:=Lib.hid hb0
        have w13:IntKind.i64.wrap ((m:Int) - 1)=(m:Int) - 1:=by rw [IntKind.wrap_i64];omega
        clear hb0 hz
        go_wp2_with fail
        go_loopw [8,11] (fun ov sv wr=>DnRel w1 m l ls ts ov sv wr) (fun _ sv _=>(intOf sv+1).toNat)
        case atStart =>
         refine⟨m,n,c2,S2,l,rfl,Nat.le_refl _,rfl,Hn0,Hown2.out,Hbel2.out,Lib.hid ?_⟩
         rw [List.drop_of_length_le (by rw [← Hm.out];exact Nat.le_refl _),repL]
        case round=>as_aux_lemma =>
         obtain⟨k,no,co,So,out,rfl,hkm,rfl,hno,hown,hbel,hout⟩:=hrel
         have Hown:=Lib.hid hown
         have Hbel:=Lib.hid hbel
         clear hown
         cases k with
         | zero=>as_aux_lemma =>
          have d0:decide ((0:Int)≤((0:Nat):Int) - 1)=false:=by decide
          have hRo:R=out:=by rw [HR.out,hout.out,List.drop_zero,List.drop_zero]
          have HRo:=Lib.hid hRo
          have hbelF:Below w.heap.size w wr:=Hb1.out.trans (hbel.mono hsz1)
          have HbelF:=Lib.hid hbelF
          clear hRo hbel hbelF
          by_cases h4:4000 < no
          · go_wp2_with fail
            go_ret2
            rw [E3.out,Hb0.out,if_neg (by simp),if_pos (by rw [HRo.out,← hno.out];exact h4)]
            exact⟨none,0,rfl,World.ownsRow_nil _ _ _ _,HbelF.out⟩
          · go_wp2_with fail
            go_ret2
            rw [E3.out,Hb0.out,if_neg (by simp),if_neg (by rw [HRo.out,← hno.out];exact h4),HRo.out]
            have h:=Hown.out.mono (base':=w.heap.size) hsz1
            rw [hno.out] at h
            exact⟨So,co,by rw [hno.out];rfl,h,HbelF.out⟩
         | succ i=>as_aux_lemma =>
          have e1:(((i+1:Nat):Int) - 1)=((i:Nat):Int):=by omega
          simp only [e1]
          have him:i < m:=by omega
          have hitn:i < tn:=by have:=Hlen.out;omega
          have j0:(0:Int)≤(i:Int):=by omega
          have d0:decide ((0:Int)≤((i:Nat):Int))=true:=by simp
          have w11:IntKind.i64.wrap ((i:Int) - 1)=(i:Int) - 1:=by rw [IntKind.wrap_i64];omega
          obtain⟨x,t,hd1,hd2,hx1,ht1,hrep,hx2,hx3,hx4⟩:=repL_step (b:=l) (ts:=ts) Hok.out (by have:=Htn.out;have:=Hlen.out;have:=Hm.out;omega) i (by have:=Hm.out;omega)
          rw [← hout.out] at hrep hx3 hx4
          obtain⟨b,off,x',hS,hbS,hdx,x0,x1,x2⟩:=(Hsl.out.belowN hbel (Nat.le_refl _)).link i him
          subst hS
          have hxx:x'=x:=by
           rw [hd1] at hdx
           injection hdx with hdx
           exact hdx.symm
          subst hxx
          obtain⟨tb,toff,u,hTA,htb,hu,htc⟩:=((Hts.out.below Hb1.out).belowN hbel hsz1).at_ (k:=i) hitn
          subst hTA
          have hut:u=str t:=by
           rw [List.getElem?_map,ht1] at hu
           simpa using hu.symm
          subst hut
          have htlen:=Htl.out t (List.mem_of_getElem? ht1)
          have hop:0 < no:=by
           have h1:=repL_pos l (Hpos.out (by omega)) (ls.drop (i+1)) (ts.drop (i+1))
           rw [← hout.out] at h1
           have:=List.length_pos_iff.2 h1
           rw [hno.out];exact this
          have Hrep:=Lib.hid hrep
          have Hlx:=Lib.hid hx4
          have hxno:x'.til≤no:=by rw [hno.out];exact hx3
          clear e1 hd1 hd2 hx1 ht1 hrep hdx hu hx3 hx4 x2
          by_cases ht0:t = []
          · have b0:(t == ([]:List UInt8))=true:=by rw [ht0];rfl
            have Ht0:=Lib.hid ht0
            clear ht0
            go_wp2_with fail
            refine⟨⟨i,no,co,So,out,rfl,by omega,rfl,hno,Hown.out,hbel,Lib.hid ?_⟩,by simp [intOf]⟩
            rw [Hrep.out]
            unfold repB
            rw [if_pos Ht0.out]
          · have b0:(t == ([]:List UInt8))=false:=by simpa using ht0
            have Ht0:=Lib.hid ht0
            have htp:0 < t.length:=List.length_pos_iff.2 ht0
            clear ht0
            obtain⟨g,cur,hSo,hbf,hgb,hnco,hcom,hcl,htk⟩:=own_bf Hown.out hop
            subst hSo
            have hglt:=hbf.lt
            obtain⟨c9,w9,hrun,hby9,hb9⟩:=run_toBytesA (P:=Tryz.prog) (World.drew wr) 9 22 5 t Tryz.underlying9 Tryz.underlying22 Tryz.underlying5
            have hs9:(World.drew wr).heap.size=wr.heap.size:=rfl
            rw [hs9] at hrun hby9
            have hri:RepIn w9 w1.heap.size g no co x'.frm wr.heap.size 0 t.length cur out t:=by
             refine⟨?_,hgb,hnco,hcom,hcl,htk,hno.out.symm,by omega,htp,rfl,?_,by omega,?_⟩
             · exact(hb9.block g hglt).trans hbf
             · obtain⟨b',off',e9,_,hc9⟩:=hby9.2 htp
               injection e9 with e9
               injection e9 with e9 e10
               subst e9;subst e10
               intro j v hj
               exact hc9 j v hj
             · have:=Hlx.out
               have:=Hnl.out
               have:=HT.out
               have h1:=hno.out
               omega
            have hrp:=Replace_any w1.heap.size g no co x'.frm x'.til wr.heap.size 0 t.length c9 cur out t w9 hri hx2 hxno
            unfold RepOut at hrp
            obtain⟨nxt,hnxt⟩:∃ nxt,nxt=out.take x'.frm ++ (t ++ out.drop x'.til):=⟨_,rfl⟩
            rw [← hnxt] at hrp
            obtain⟨N,hN⟩:∃ N,N=nxt.length:=⟨_,rfl⟩
            rw [← hN] at hrp
            have hnx:nxt=repL l (ls.drop i) (ts.drop i):=by
             rw [Hrep.out,hnxt]
             unfold repB
             rw [if_neg Ht0.out]
            have Hnx:=Lib.hid hnx
            have HN:=Lib.hid hN
            have Hrp:=Lib.hid hrp
            clear hnxt hN hnx
            have hS3:(World.drew wr).cell? ⟨b,off+i * 3,none⟩=some (.int .i64 (x'.frm:Nat))∧(World.drew wr).cell? ⟨b,off+i * 3+1,none⟩=some (.int .i64 (x'.til:Nat))∧(World.drew wr).cell? ⟨tb,toff+i,none⟩=some (str t):=⟨x0,x1,htc⟩
            have hbelD:Below w1.heap.size w1 w9:=hbel.trans (Below.mono (Below.drew (Below.refl wr.heap.size wr)) hbel.size |>.trans (hb9.mono hbel.size))
            have hbl3:b < wr.heap.size:=by have:=hbel.size;omega
            have htb3:tb < wr.heap.size:=by have:=hbel.size;omega
            have hS9:w9.cell? ⟨b,off+i * 3,none⟩=some (.int .i64 (x'.frm:Nat))∧w9.cell? ⟨b,off+i * 3+1,none⟩=some (.int .i64 (x'.til:Nat))∧w9.cell? ⟨tb,toff+i,none⟩=some (str t):=
             ⟨(hb9.cell (p:=⟨b,_,none⟩) hbl3).trans x0,(hb9.cell (p:=⟨b,_,none⟩) hbl3).trans x1,(hb9.cell (p:=⟨tb,_,none⟩) htb3).trans htc⟩
            have HbelD:=Lib.hid hbelD
            have HS9:=Lib.hid hS9
            clear hri hrp hbf hcl htk hby9 hbelD hS9
            go_upto_region 17 with fail
            clear x0 x1 htc
            refine wp_region_held (S:=fun W'=>W'.cell? ⟨b,off+i * 3,none⟩=some (.int .i64 (x'.frm:Nat))∧W'.cell? ⟨b,off+i * 3+1,none⟩=some (.int .i64 (x'.til:Nat))∧W'.cell? ⟨tb,toff+i,none⟩=some (str t)) (by kernel_rfl) ?_
            change wpAnyH _ _ _ _ _ _ _ _ (World.drew wr)
            refine tkH (i:=0) (v:=?_) rfl ?_ hS3 ?_
            rotate_left 1
            · rintro W' ⟨q0,q1,q2⟩;go_simp;try exact rfl
            refine tkH (i:=1) (v:=?_) rfl ?_ hS3 ?_
            rotate_left 1
            · rintro W' ⟨q0,q1,q2⟩;go_simp;try exact rfl
            refine tkH (i:=2) (v:=?_) rfl ?_ hS3 ?_
            rotate_left 1
            · rintro W' ⟨q0,q1,q2⟩;go_simp;try exact rfl
            refine tkH (i:=3) (v:=?_) rfl ?_ hS3 ?_
            rotate_left 1
            · rintro W' ⟨q0,q1,q2⟩;go_simp;try exact rfl
            refine tkH (i:=4) (v:=?_) rfl ?_ hS3 ?_
            rotate_left 1
            · rintro W' ⟨q0,q1,q2⟩;go_simp;try exact rfl
            go_simp
            refine tkH (i:=5) (v:=?_) rfl ?_ hS3 ?_
            rotate_left 1
            · rintro W' ⟨q0,q1,q2⟩;go_simp;try exact rfl
            refine tkH (i:=6) (v:=?_) rfl ?_ hS3 ?_
            rotate_left 1
            · rintro W' ⟨q0,q1,q2⟩;go_simp;try exact rfl
            refine tkH (i:=7) (v:=?_) rfl ?_ hS3 ?_
            rotate_left 1
            · rintro W' ⟨q0,q1,q2⟩;go_simp;try exact rfl
            refine tkH (i:=8) (v:=?_) rfl ?_ hS3 ?_
            rotate_left 1
            · rintro W' ⟨q0,q1,q2⟩;go_simp;try exact rfl
            refine tkH (i:=9) (v:=?_) rfl ?_ hS3 ?_
            rotate_left 1
            · rintro W' ⟨q0,q1,q2⟩;go_simp;try exact rfl
            go_simp
            refine tkH (i:=10) (v:=?_) rfl ?_ hS3 ?_
            rotate_left 1
            · rintro W' ⟨q0,q1,q2⟩;go_simp;try exact rfl
            refine tkH (i:=11) (v:=?_) rfl ?_ hS3 ?_
            rotate_left 1
            · rintro W' ⟨q0,q1,q2⟩;go_simp;try exact rfl
            refine tkH (i:=12) (v:=?_) rfl ?_ hS3 ?_
            rotate_left 1
            · rintro W' ⟨q0,q1,q2⟩;go_simp;try exact rfl
            refine tkH (i:=13) (v:=?_) rfl ?_ hS3 ?_
            rotate_left 1
            · rintro W' ⟨q0,q1,q2⟩;go_simp;try exact rfl
            refine tkH (i:=14) (v:=?_) rfl ?_ hS3 ?_
            rotate_left 1
            · rintro W' ⟨q0,q1,q2⟩;go_simp;try exact rfl
            go_simp
            refine wpAnyH_all (rs:=[15]) (by kernel_rfl) (by simp) ?_
            intro kk hkk
            simp only [List.mem_singleton] at hkk
            subst hkk
            go_simp
            refine wpOp_runv rfl (by kernel_rfl) (.slice (some ⟨wr.heap.size,0,none⟩) t.length c9) w9 (by go_simp) ?_
            refine⟨HS9.out,?_⟩
            refine wpAnyH_all (rs:=[16]) (by kernel_rfl) (by simp) ?_
            intro kk hkk
            simp only [List.mem_singleton] at hkk
            subst hkk
            go_simp
            refine wpOp_callP rfl (by kernel_rfl) 50 #[.slice (some ⟨g,0,none⟩) no co,.int .i64 (x'.frm:Nat),.int .i64 (x'.til:Nat),.slice (some ⟨wr.heap.size,0,none⟩) t.length c9] (by go_simp;try rfl) _ Hrp.out ?_
            rintro e w10 ⟨S',c',rfl,ho10,hb10⟩
            refine⟨_,rfl,?_⟩
            have hS10:w10.cell? ⟨b,off+i * 3,none⟩=some (.int .i64 (x'.frm:Nat))∧w10.cell? ⟨b,off+i * 3+1,none⟩=some (.int .i64 (x'.til:Nat))∧w10.cell? ⟨tb,toff+i,none⟩=some (str t):=
             ⟨(hb10.cell (p:=⟨b,_,none⟩) hbS).trans HS9.out.1,(hb10.cell (p:=⟨b,_,none⟩) hbS).trans HS9.out.2.1,(hb10.cell (p:=⟨tb,_,none⟩) (Nat.lt_of_lt_of_le htb hsz1)).trans HS9.out.2.2⟩
            refine⟨hS10,?_⟩
            refine wpAnyH_all (rs:=[17]) (by kernel_rfl) (by simp) ?_
            intro kk hkk
            simp only [List.mem_singleton] at hkk
            subst hkk
            go_simp
            refine wpOp_val rfl rfl (.slice S' N c') (by rfl) ?_
            refine⟨hS10,?_⟩
            refine wpAnyH_done (by kernel_rfl) ?_ _
            have hbelE:=HbelD.out.trans hb10
            have Hfin:=Lib.hid (And.intro ho10 hbelE)
            clear ho10 hb10 hbelE hS10 hS3
            go_simp
            go_wp2_with fail
            refine⟨⟨i,N,c',S',nxt,rfl,by omega,rfl,HN,Hfin.out.1,Hfin.out.2,Hnx⟩,by simp [intOf]⟩
   · have hne:((m:Int) != (tn:Int))=true:=by simp;omega
     have hR:putE l ts=([],4):=by rw [e3,if_pos hlen]
     rw [hR]
     clear hR e3 e1 hlen hm htn
     go_enter Tryz.func22,Tryz.ntmps22
     go_wp2_with fail
     refine Hfind.out.mono ?_
     rw [← Hm.out]
     rintro e w1 ⟨S,cS,rfl,hown1,hb1⟩
     go_wp2_with fail
     go_ret2
     exact⟨none,0,rfl,World.ownsRow_nil _ _ _ _,hb1⟩
 · obtain⟨hR,rfl⟩:=he0 hfe
   rw [hR]
   have Hfind:=Lib.hid hfind
   clear hR he0 he1 hfe hfind hnl htn
   go_enter Tryz.func22,Tryz.ntmps22
   go_wp2_with fail
   refine Hfind.out.mono ?_
   rintro e w1 ⟨S,cS,rfl,hown1,hb1⟩
   go_wp2_with fail
   go_ret2
   exact⟨none,0,rfl,World.ownsRow_nil _ _ _ _,hb1⟩
def meW (loc a:List UInt8):List UInt8:=if loc = [] then fromG a else ledB (fromG a) loc
mutual
def walkW:PartD→List UInt8→List (List UInt8)
 | ⟨_,_,_,loc,_,_,parts⟩,a=>meW loc a :: walksW parts (meW loc a)
def walksW:List PartD→List UInt8→List (List UInt8)
 | [],_=>[]
 | p :: ps,a=>walkW p a ++ walksW ps a
end
mutual
theorem walkW_len:∀ (p:PartD) (a:List UInt8),(walkW p a).length=(flatD p).length
 | ⟨t,cs,id,loc,how,body,parts⟩,a=>by rw [walkW,flatD,List.length_cons,List.length_cons,walksW_len parts]
theorem walksW_len:∀ (ps:List PartD) (a:List UInt8),(walksW ps a).length=(flatsD ps).length
 | [],_=>by rw [walksW,flatsD];rfl
 | p :: ps,a=>by rw [walksW,flatsD,List.length_append,List.length_append,walkW_len p,walksW_len ps]
end
def aheadW (out:List (List UInt8)) (me:Int):List UInt8:=if 0≤me then out.getD me.toNat [] else []
theorem step_me (out:List (List UInt8)) (loc:List UInt8) (me:Int):stepW out loc me=meW loc (aheadW out me):=by
 have h:fromW out me=fromG (aheadW out me):=by
  unfold fromW fromG aheadW
  by_cases h0:0≤me
  · simp only [h0,true_and,if_true]
    by_cases h1:out.getD me.toNat [] = []
    · rw [if_neg (by simpa using h1),if_pos h1]
    · rw [if_pos h1,if_neg h1]
  · simp [h0]
 unfold stepW meW
 rw [h]
mutual
theorem where_walk:∀ (p:PartD) (F:List PartD) (T:List Int) (out:List (List UInt8)) (me:Int),whereF (flatD p ++ F) (wthD p out.length me ++ T) out=whereF F T (out ++ walkW p (aheadW out me))
 | ⟨t,cs,id,loc,how,body,parts⟩,F,T,out,me=>by
  rw [flatD,wthD,walkW,List.cons_append,List.cons_append,whereF]
  simp only
  rw [step_me]
  have hl:(out ++ [meW loc (aheadW out me)]).length=out.length+1:=by simp
  have h:=where_walks parts F T (out ++ [meW loc (aheadW out me)]) out.length (by omega)
  rw [hl] at h
  rw [h]
  have e:(out ++ [meW loc (aheadW out me)]).getD out.length []=meW loc (aheadW out me):=by simp [List.getD]
  rw [e,List.append_assoc]
  rfl
theorem where_walks:∀ (ps:List PartD) (F:List PartD) (T:List Int) (out:List (List UInt8)) (me:Nat),me < out.length→whereF (flatsD ps ++ F) (wthsD ps out.length me ++ T) out=whereF F T (out ++ walksW ps (out.getD me []))
 | [],F,T,out,me,_=>by rw [flatsD,wthsD,walksW];simp
 | p :: ps,F,T,out,me,h=>by
  rw [flatsD,wthsD,walksW,List.append_assoc,List.append_assoc,where_walk p]
  have ea:aheadW out (me:Int)=out.getD me []:=by unfold aheadW;rw [if_pos (by omega),Int.toNat_natCast]
  rw [ea]
  have hl:(out ++ walkW p (out.getD me [])).length=out.length+(flatD p).length:=by rw [List.length_append,walkW_len]
  have h2:=where_walks ps F T (out ++ walkW p (out.getD me [])) me (by omega)
  rw [hl] at h2
  rw [h2]
  have e:(out ++ walkW p (out.getD me [])).getD me []=out.getD me []:=by
   simp only [List.getD]
   rw [List.getElem?_append_left h]
  rw [e,List.append_assoc]
end
theorem whereD_walk (p:PartD):whereD p=walkW p []:=by
 have h:=where_walk p [] [] [] (-1)
 simp only [List.append_nil,List.length_nil,List.nil_append] at h
 unfold whereD
 rw [h]
 unfold aheadW
 rw [if_neg (by omega)]
 cases walkW p [] <;> rfl
def notS (but:List UInt8):List UInt8:=[34,60,62,92,94,96,123,124,125] ++ but
theorem ok_host:∀ x:Fin 256,okB 33 126 (notS ([47,63,35] ++ capsL)) x.val=(!badU [47,63,35] x.val && !(decide (65≤x.val) && decide (x.val≤90))):=by decide +kernel
theorem ok_path:∀ x:Fin 256,okB 33 126 (notS [63,35]) x.val = !badU [63,35] x.val:=by decide +kernel
theorem ok_frag:∀ x:Fin 256,okB 33 126 (notS [35]) x.val = !badU [35] x.val:=by decide +kernel
theorem wordU_all (l but:List UInt8):wordU l but=l.all (fun b=>!badU but b.toNat):=by
 unfold wordU
 rw [List.all_eq_not_any_not]
 simp
theorem between_path (l:List UInt8):l.all (fun b=>okB 33 126 (notS [63,35]) b.toNat)=wordU l [63,35]:=by
 rw [wordU_all]
 congr 1
 funext b
 exact ok_path ⟨b.toNat,b.toNat_lt⟩
theorem between_frag (l:List UInt8):l.all (fun b=>okB 33 126 (notS [35]) b.toNat)=wordU l [35]:=by
 rw [wordU_all]
 congr 1
 funext b
 exact ok_frag ⟨b.toNat,b.toNat_lt⟩
theorem low_all (l:List UInt8):(l == lowL l)=l.all (fun b=>!(decide (65≤b.toNat) && decide (b.toNat≤90))):=by
 induction l with
 | nil=>rfl
 | cons a l ih =>
  rw [List.all_cons,← ih,Bool.eq_iff_iff]
  simp only [lowL,List.map_cons,beq_iff_eq,List.cons.injEq,Bool.and_eq_true,Bool.not_eq_true',Bool.and_eq_false_iff,decide_eq_false_iff_not]
  constructor
  · rintro⟨h1,h2⟩
    refine⟨?_,h2⟩
    have:=congrArg UInt8.toNat h1
    rw [lowB_nat] at this
    split at this <;> omega
  · rintro⟨h1,h2⟩
    exact⟨(lowB_same (by omega)).symm,h2⟩
theorem all_and (l:List UInt8) (p q:UInt8→Bool):l.all (fun b=>p b && q b)=(l.all p && l.all q):=by
 induction l with
 | nil=>rfl
 | cons a l ih =>
  rw [List.all_cons,List.all_cons,List.all_cons,ih]
  cases p a <;> cases q a <;> cases l.all p <;> rfl
theorem between_host (l:List UInt8):l.all (fun b=>okB 33 126 (notS ([47,63,35] ++ capsL)) b.toNat)=(wordU l [47,63,35] && (l == lowL l)):=by
 rw [wordU_all,low_all,← all_and]
 congr 1
 funext b
 exact ok_host ⟨b.toNat,b.toNat_lt⟩
def schS2:List UInt8:=[97,98,99,100,101,102,103,104,105,106,107,108,109,110,111,112,113,114,115,116,117,118,119,120,121,122,48,49,50,51,52,53,54,55,56,57,43,45,46]
theorem sch_set:∀ x:Fin 256,schS2.contains (UInt8.ofNat x.val)=schC x.val:=by decide +kernel
theorem trim_all (l cs:List UInt8):(Lib.trimS l cs == [])=l.all (fun b=>cs.contains b):=by
 have h1:∀ l:List UInt8,(l.dropWhile (cs.contains ·) == [])=l.all (fun b=>cs.contains b):=by
  intro l
  induction l with
  | nil=>rfl
  | cons a l ih =>
   rw [List.dropWhile_cons,List.all_cons]
   cases h:cs.contains a
   · rfl
   · rw [if_pos rfl,Bool.true_and];exact ih
 have h2:(Lib.trimRightS l cs).all (fun b=>cs.contains b)=l.all (fun b=>cs.contains b):=by
  unfold Lib.trimRightS
  rw [List.all_reverse]
  have h3:∀ l:List UInt8,(l.dropWhile (cs.contains ·)).all (fun b=>cs.contains b)=l.all (fun b=>cs.contains b):=by
   intro l
   induction l with
   | nil=>rfl
   | cons a l ih =>
    rw [List.dropWhile_cons,List.all_cons]
    cases h:cs.contains a
    · rw [if_neg (by simp),List.all_cons,h]
    · rw [if_pos rfl,Bool.true_and];exact ih
  rw [h3,List.all_reverse]
 unfold Lib.trimS Lib.trimLeftS
 rw [h1,h2]
theorem Trim_sch (l:List UInt8) (w:World) (hl:l.length≤maxLen):Calls Tryz.prog 25 #[str l,.string ⟨schS2.toArray⟩] w fun e w'=>e = .returned (str (Lib.trimS l schS2))∧Below w.heap.size w w':=
 Any.strings_Trim_laid Go.Proofs.Tryz.lays160 (by kernel_rfl) ⟨l.toArray⟩ ⟨schS2.toArray⟩ w (by unfold maxLen at hl;simpa [ByteArray.size] using hl) (by decide) (ascii_of_all (by decide))
theorem isScheme_any (l:List UInt8) (w:World) (hl:l.length≤maxLen):Calls Tryz.prog 138 #[str l] w fun e w'=>e = .returned (.bool (schemeU l))∧Below w.heap.size w w':=by
 by_cases h0:l = []
 · subst h0
   go_enter Tryz.func138,Tryz.ntmps138
   go_wp2_with fail
   go_ret
   exact⟨rfl,Below.refl _ _⟩
 · have e0:(l == [])=false:=by simpa using h0
   have hp:0 < l.length:=List.length_pos_iff.2 h0
   have hT:∀ W,Calls Tryz.prog 25 #[str l,.string ⟨#[97,98,99,100,101,102,103,104,105,106,107,108,109,110,111,112,113,114,115,116,117,118,119,120,121,122,48,49,50,51,52,53,54,55,56,57,43,45,46]⟩] W fun e w'=>e = .returned (str (Lib.trimS l schS2))∧Below W.heap.size W w':=fun W=>Trim_sch l W hl
   have hc:=trim_all l schS2
   have hall:l.all (fun b=>schS2.contains b)=l.all (fun b=>schC b.toNat):=by
    congr 1
    funext b
    have:=sch_set ⟨b.toNat,b.toNat_lt⟩
    rw [ofNat_toNat8] at this
    exact this
   rw [hall] at hc
   have hsU:schemeU l=(l.all (fun b=>schC b.toNat) && (false || schA (nth l 0))):=by rw [lowC_scheme,e0]
   generalize l.all (fun b=>schC b.toNat)=q at hc hsU
   generalize Lib.trimS l schS2=t at hT hc
   obtain⟨R,hR⟩:∃ R,R=schemeU l:=⟨_,rfl⟩
   rw [← hR] at hsU ⊢
   have HT:=Lib.hid hT
   have HS:=Lib.hid hsU
   have H0:=Lib.hid h0
   clear hT hsU hR hall h0
   cases q
   · go_enter Tryz.func138,Tryz.ntmps138
     go_wp2_with fail
     refine(HT.out _).mono ?_
     rintro e w1 ⟨rfl,hb1⟩
     go_wp2_with fail
     go_ret
     exact⟨by rw [HS.out];rfl,hb1⟩
   · by_cases c1:97≤nth l 0
     · by_cases c2:nth l 0≤122
       · have HA:=Lib.hid (show schA (nth l 0)=true by simp [schA,c1,c2])
         have d2:decide (((nth l 0:Nat):Int)≤122)=true:=decide_eq_true (by omega)
         go_enter Tryz.func138,Tryz.ntmps138
         go_wp2_with fail
         refine(HT.out _).mono ?_
         rintro e w1 ⟨rfl,hb1⟩
         go_wp2_with fail
         go_ret
         exact⟨by rw [HS.out,HA.out];rfl,hb1⟩
       · have HA:=Lib.hid (show schA (nth l 0)=false by simp [schA,c2])
         have d2:decide (((nth l 0:Nat):Int)≤122)=false:=decide_eq_false (by omega)
         go_enter Tryz.func138,Tryz.ntmps138
         go_wp2_with fail
         refine(HT.out _).mono ?_
         rintro e w1 ⟨rfl,hb1⟩
         go_wp2_with fail
         go_ret
         exact⟨by rw [HS.out,HA.out];rfl,hb1⟩
     · have HA:=Lib.hid (show schA (nth l 0)=false by simp [schA,c1])
       go_enter Tryz.func138,Tryz.ntmps138
       go_wp2_with fail
       refine(HT.out _).mono ?_
       rintro e w1 ⟨rfl,hb1⟩
       go_wp2_with fail
       go_ret
       exact⟨by rw [HS.out,HA.out];rfl,hb1⟩
/-- A variable that holds a list of texts of the call's own. -/
def TxtAt (L:Nat) (W:World) (l:List (List UInt8)):Prop:=
 ∃ S c,W.cell? ⟨L,0,none⟩=some (.slice S l.length c)∧W.frozen? ⟨L,0,none⟩=false∧W.ownsRow (L+1) 9 1 (.slice S l.length c) l.length (l.map str)
theorem TxtAt.lt {L:Nat} {W:World} {l:List (List UInt8)} (h:TxtAt L W l):L < W.heap.size:=by
 obtain⟨S,c,h1,_⟩:=h
 rcases Nat.lt_or_ge L W.heap.size with h' | h'
 · exact h'
 · simp [World.cell?,Array.getElem?_eq_none h'] at h1
theorem TxtAt.below {L:Nat} {W W':World} {l:List (List UInt8)} (h:TxtAt L W l) (hb:Below W.heap.size W W'):TxtAt L W' l:=by
 have hlt:=h.lt
 obtain⟨S,c,h1,h2,h3⟩:=h
 exact⟨S,c,(hb.cell (p:=⟨L,0,none⟩) hlt).trans h1,(hb.frozen (p:=⟨L,0,none⟩) hlt).trans h2,own_below h3 hb⟩
theorem addT_any (ok:Bool) (L:Nat) (l xs:List (List UInt8)) (A:Option Addr) (n c B:Nat) (W:World) (h:TxtAt L W l) (hx:Sl W B 1 A n (xs.map str)) (hl:l.length≤100) (hn:n≤100) :
 Calls Tryz.prog 143 #[.bool ok,.slice A n c,.pointer (some ⟨L,0,none⟩)] W fun e W'=>e = .returned (.tuple #[])∧TxtAt L W' (if ok then l ++ xs else l)∧Below L W W':=by
 obtain⟨i0,hi0,hz0,hz1,hz2⟩:=info_parts infoStrU
 have hlt:=h.lt
 have hxl:xs.length=n:=by have:=hx.len;simpa using this
 have hq:=h
 obtain⟨S,cS,h1,h2,h3⟩:=h
 cases ok
 · go_enter Tryz.func143,Tryz.ntmps143
   go_wp2_with fail
   go_end0
   exact⟨rfl,hq,Below.refl _ _⟩
 · have h63:l.length+n≤maxLen:=by unfold maxLen;omega
   have h47:(l.length+n) * 16≤140737488355328:=by omega
   have hbase:L+1≤W.heap.size:=hlt
   have Hxl:=Lib.hid hxl
   have Hq:=Lib.hid hq
   clear hq hxl
   go_enter Tryz.func143,Tryz.ntmps143
   go_wp2_with (at_builtin;refine wpList_app rfl _ _ 40 rfl (L+1) 9 i0 (.string ⟨#[]⟩) 1 16 Tryz.underlying40 hi0 hz0 hz1 hz2 rfl (by decide) S l.length cS (l.map str) rfl h3 B A n c (xs.map str) rfl hx (one_str xs) h63 h47 hbase ?_)
   intro S' c' w2 hown2 hb2 _
   have y0:w2.cell? ⟨L,0,none⟩=some (.slice S l.length cS):=(hb2.cell (p:=⟨L,0,none⟩) (Nat.lt_succ_self L)).trans h1
   have f0:w2.frozen? ⟨L,0,none⟩=false:=(hb2.frozen (p:=⟨L,0,none⟩) (Nat.lt_succ_self L)).trans h2
   have hne:(Value.slice S' (l.length+n) c').ownBlock=none∨(Value.slice S' (l.length+n) c').ownBlock≠some L:=by
    cases hS:(Value.slice S' (l.length+n) c').ownBlock with
    | none=>exact .inl rfl
    | some k=>have:=(hown2.lt k hS).1;right;intro e;injection e with e;omega
   have hown3:=hown2.kept (grown_set w2 L 0 (.slice S' (l.length+n) c')) hne
   have hT:TxtAt L (w2.setCell ⟨L,0,none⟩ (.slice S' (l.length+n) c')) (l ++ xs):=by
    have e:(l ++ xs).length=l.length+n:=by rw [List.length_append,Hxl.out]
    refine⟨S',c',?_,?_,?_⟩
    · rw [e];exact World.cell?_setCell_same w2 _ _ y0
    · rw [← f0];simp [World.frozen?,World.setCell,Array.getElem?_modify];cases w2.heap[L]? with
      | none=>rfl
      | some o=>cases o <;> rfl
    · rw [e,List.map_append];exact hown3
   have hBl:Below L W (w2.setCell ⟨L,0,none⟩ (.slice S' (l.length+n) c')):=(hb2.mono (Nat.le_succ L)).setCell (Nat.le_refl _) _
   have HT:=Lib.hid hT
   have HB:=Lib.hid hBl
   clear hT hBl hown2 hown3 hb2 hne
   go_wp2_with fail
   go_end0
   exact⟨rfl,HT.out,HB.out⟩
theorem join_flat:∀ L:List (List UInt8),Lib.join L []=L.flatten
 | []=>rfl
 | [x]=>by rw [Lib.join_one];simp
 | x :: y :: r=>by
  have ih:=join_flat (y :: r)
  rw [List.flatten_cons,← ih]
  simp [Lib.join,List.intercalate,List.intersperse]
theorem Join_flat (L:List (List UInt8)) (S:Option Addr) (c:Nat) (w:World) (base:Nat) (ho:w.ownsRow base 9 1 (.slice S L.length c) L.length (L.map str)) (h0:0 < L.length) (hN:L.length≤1000000) (hl:L.flatten.length≤1000000) :
 Calls Tryz.prog 88 #[.slice S L.length c,.string ⟨#[]⟩] w fun e w'=>e = .returned (str L.flatten)∧Below w.heap.size w w':=by
 have hc:=own_cap ho
 obtain⟨b,off,hS,hb,hcell⟩:=(Sl.of_own ho).2 h0
 subst hS
 have hd:(L.map (fun l=>(⟨l.toArray⟩:ByteArray))).map (·.data.toList)=L:=by
  rw [List.map_map]
  conv=>rhs;rw [← List.map_id L]
  exact List.map_congr_left fun x _=>rfl
 have hj:Lib.join ((L.map (fun l=>(⟨l.toArray⟩:ByteArray))).map (·.data.toList)) (⟨#[]⟩:ByteArray).data.toList=L.flatten:=by
  rw [hd];exact join_flat L
 have h:=Go.Proofs.Tryz.strings_Join b off c (L.map fun l=>(⟨l.toArray⟩:ByteArray)) ⟨#[]⟩ w (fun j x hx=>by
  rw [List.getElem?_map] at hx
  cases hg:L[j]? with
  | none=>rw [hg] at hx;cases hx
  | some y =>
   rw [hg] at hx
   simp only [Option.map_some,Option.some.injEq] at hx
   rw [← hx]
   exact hcell j (str y) (by rw [List.getElem?_map,hg];rfl)) hb (by rw [List.length_map];omega) (by rw [List.length_map];exact hc) (by rw [hj];omega)
 rw [hj,List.length_map] at h
 exact h
theorem Sl.two (w:World) (t:TypeId) (a b:List UInt8):Sl (w.alloc (.cells #[str a,str b] t)) (w.heap.size+1) 1 (some ⟨w.heap.size,0,none⟩) 2 ([a,b].map str):=Sl.row w t 1 2 [str a,str b] rfl
theorem Sl.onS (w:World) (t:TypeId) (a:List UInt8):Sl (w.alloc (.cells #[str a] t)) (w.heap.size+1) 1 (some ⟨w.heap.size,0,none⟩) 1 ([a].map str):=Sl.row w t 1 1 [str a] rfl
def app1 (ok:Bool) (l xs:List (List UInt8)):List (List UInt8):=if ok then l ++ xs else l
theorem app1_len (ok:Bool) (l xs:List (List UInt8)):(app1 ok l xs).length≤l.length+xs.length:=by
 unfold app1;split
 · rw [List.length_append];exact Nat.le_refl _
 · omega
theorem text_parts (u:UrlD):textU u=(app1 u.hasFrag (app1 u.hasQuery (app1 true (app1 u.hasHost (app1 (!u.scheme.isEmpty) [] [u.scheme,[58]]) [[47,47],u.host]) [u.path]) [[63],u.query]) [[35],u.frag]).flatten:=by
 obtain⟨sc,hh,ho,pa,hq,qu,hf,fr⟩:=u
 unfold textU app1
 by_cases h:sc = []
 · subst h
   cases hh <;> cases hq <;> cases hf <;> simp
 · have:sc.isEmpty=false:=by simpa using h
   rw [this]
   cases hh <;> cases hq <;> cases hf <;> simp [h]
theorem RText_any (sc ho pa qu fr:List UInt8) (hh hq hf:Bool) (w:World) (l0:sc.length≤1000) (l1:ho.length≤1000) (l2:pa.length≤1000) (l3:qu.length≤1000) (l4:fr.length≤1000) :
 Calls Tryz.prog 91 #[.agg #[str sc,.bool hh,str ho,str pa,.bool hq,str qu,.bool hf,str fr]] w fun e w'=>e = .returned (str (textU ⟨sc,hh,ho,pa,hq,qu,hf,fr⟩))∧Below w.heap.size w w':=by
 have htx:=text_parts ⟨sc,hh,ho,pa,hq,qu,hf,fr⟩
 simp only at htx
 have hlen:(textU ⟨sc,hh,ho,pa,hq,qu,hf,fr⟩).length≤10000:=by
  unfold textU
  simp only [List.length_append]
  have a1:(if sc = [] then [] else sc ++ [58]:List UInt8).length≤1001:=by split <;> simp <;> omega
  have a2:(if hh=true then [47,47] ++ ho else []:List UInt8).length≤1002:=by split <;> simp <;> omega
  have a3:(if hq=true then 63 :: qu else []:List UInt8).length≤1001:=by split <;> simp <;> omega
  have a4:(if hf=true then 35 :: fr else []:List UInt8).length≤1001:=by split <;> simp <;> omega
  omega
 obtain⟨q1,hq1⟩:∃ q,q=app1 (!sc.isEmpty) [] [sc,[58]]:=⟨_,rfl⟩
 rw [← hq1] at htx
 obtain⟨q2,hq2⟩:∃ q,q=app1 hh q1 [[47,47],ho]:=⟨_,rfl⟩
 rw [← hq2] at htx
 obtain⟨q3,hq3⟩:∃ q,q=app1 true q2 [pa]:=⟨_,rfl⟩
 rw [← hq3] at htx
 obtain⟨q4,hq4⟩:∃ q,q=app1 hq q3 [[63],qu]:=⟨_,rfl⟩
 rw [← hq4] at htx
 obtain⟨q5,hq5⟩:∃ q,q=app1 hf q4 [[35],fr]:=⟨_,rfl⟩
 rw [← hq5] at htx
 have n1:q1.length≤2:=by have:=app1_len (!sc.isEmpty) [] [sc,[58]];rw [hq1];simpa using this
 have n2:q2.length≤4:=by have:=app1_len hh q1 [[47,47],ho];rw [hq2];simp only [List.length_cons,List.length_nil] at this;omega
 have n3:q3.length≤5:=by have:=app1_len true q2 [pa];rw [hq3];simp only [List.length_cons,List.length_nil] at this;omega
 have n3':0 < q3.length:=by rw [hq3];unfold app1;rw [if_pos rfl,List.length_append];simp
 have n4:q4.length≤7:=by have:=app1_len hq q3 [[63],qu];rw [hq4];simp only [List.length_cons,List.length_nil] at this;omega
 have n4':0 < q4.length:=by rw [hq4];unfold app1;split;rw [List.length_append];omega;exact n3'
 have n5:q5.length≤9:=by have:=app1_len hf q4 [[35],fr];rw [hq5];simp only [List.length_cons,List.length_nil] at this;omega
 have n5':0 < q5.length:=by rw [hq5];unfold app1;split;rw [List.length_append];omega;exact n4'
 rw [htx] at hlen ⊢
 clear htx
 obtain⟨R,hR⟩:∃ R,R=q5.flatten:=⟨_,rfl⟩
 rw [← hR]
 have HR:=Lib.hid hR
 have Hq1:=Lib.hid hq1
 have Hq2:=Lib.hid hq2
 have Hq3:=Lib.hid hq3
 have Hq4:=Lib.hid hq4
 have Hq5:=Lib.hid hq5
 have Hlen:=Lib.hid hlen
 clear hR hq1 hq2 hq3 hq4 hq5 hlen
 obtain⟨wA,hwA⟩:∃ W,W=w.alloc (.cells #[str sc,.bool hh,str ho,str pa,.bool hq,str qu,.bool hf,str fr] 103):=⟨_,rfl⟩
 obtain⟨W,hW⟩:∃ W,W=wA.alloc (.cells #[.slice none 0 0] 40):=⟨_,rfl⟩
 have hbA:Below w.heap.size w wA:=by rw [hwA];exact(Below.refl _ w).alloc (Nat.le_refl _) _
 have hbx:UB wA w.heap.size ⟨sc,hh,ho,pa,hq,qu,hf,fr⟩:=by rw [hwA];exact UB.new w ⟨sc,hh,ho,pa,hq,qu,hf,fr⟩
 have sA:wA.heap.size=w.heap.size+1:=by rw [hwA];simp
 have hbW:Below wA.heap.size wA W:=by rw [hW];exact(Below.refl _ wA).alloc (Nat.le_refl _) _
 have hu:UB W w.heap.size ⟨sc,hh,ho,pa,hq,qu,hf,fr⟩:=hbx.below hbW
 have hT0:TxtAt (w.heap.size+1) W []:=by
  refine⟨none,0,?_,?_,World.ownsRow_nil _ _ _ _⟩
  · rw [hW,← sA,Go.Joins.cell_of_block (heap_alloc_new wA _)];rfl
  · rw [hW,← sA];exact World.frozen?_alloc_new wA _ _ 0
 have hbel:Below w.heap.size w W:=hbA.trans (hbW.mono hbA.size)
 have sW:W.heap.size=w.heap.size+1+1:=by rw [hW];simp [sA]
 have hWW:W=(w.alloc (.cells #[str sc,.bool hh,str ho,str pa,.bool hq,str qu,.bool hf,str fr] 103)).alloc (.cells #[.slice none 0 0] 40):=by rw [hW,hwA]
 clear hwA hW hbA hbx sA hbW
 have step:∀ (X X':World) (l:List (List UInt8)),UB X w.heap.size ⟨sc,hh,ho,pa,hq,qu,hf,fr⟩→Below w.heap.size w X→Below (w.heap.size+1) X X'→UB X' w.heap.size ⟨sc,hh,ho,pa,hq,qu,hf,fr⟩∧Below w.heap.size w X':=fun X X' l h1 h2 h3=>⟨(h3.block w.heap.size (Nat.lt_succ_self _)).trans h1,h2.trans (h3.mono (Nat.le_succ _))⟩
 have Hstep:=Lib.hid step
 clear step
 obtain⟨c0,c1,c2,c3,c4,c5,c6,c7⟩:=hu.box
 go_enter Tryz.func91,Tryz.ntmps91
 go_wp2_with fail
 rw [← hWW]
 clear hWW
 have hu0:=hu
 have hbel0:=hbel
 clear hu hbel
 have hT0:TxtAt (w.heap.size+1) W ([]:List (List UInt8)):=hT0
 have hw1:Below W.heap.size W (W.alloc (.cells #[str sc,.string ⟨#[58]⟩] 9)):=(Below.refl _ W).alloc (Nat.le_refl _) _
 have hA1:=addT_any (!sc.isEmpty) (w.heap.size+1) [] [sc,[58]] (some ⟨W.heap.size,0,none⟩) 2 2 (W.heap.size+1) _ (hT0.below hw1) (Sl.two W _ (sc) ([58])) (by simp) (by omega)
 rw [sW] at hA1
 refine hA1.mono ?_
 rintro e w1 ⟨rfl,hT1',hb1⟩
 clear hA1
 have hT1:TxtAt (w.heap.size+1) w1 q1:=by rw [Hq1.out];exact hT1'
 obtain⟨hu1,hbel1⟩:=Hstep.out W w1 [] hu0 hbel0 ((hw1.mono (by omega)).trans hb1)
 obtain⟨c0,c1,c2,c3,c4,c5,c6,c7⟩:=hu1.box
 clear hT1' hb1 hw1
 have z1:=hT1.lt
 go_wp2_with fail
 have hw2:Below w1.heap.size w1 (w1.alloc (.cells #[.string ⟨#[47,47]⟩,str ho] 9)):=(Below.refl _ w1).alloc (Nat.le_refl _) _
 have hA2:=addT_any hh (w.heap.size+1) q1 [[47,47],ho] (some ⟨w1.heap.size,0,none⟩) 2 2 (w1.heap.size+1) _ (hT1.below hw2) (Sl.two w1 _ ([47,47]) (ho)) (by omega) (by omega)
 refine hA2.mono ?_
 rintro e w2 ⟨rfl,hT2',hb2⟩
 clear hA2
 have hT2:TxtAt (w.heap.size+1) w2 q2:=by rw [Hq2.out];exact hT2'
 obtain⟨hu2,hbel2⟩:=Hstep.out w1 w2 [] hu1 hbel1 ((hw2.mono (by omega)).trans hb2)
 obtain⟨c0,c1,c2,c3,c4,c5,c6,c7⟩:=hu2.box
 clear hT2' hb2 hw2
 have z2:=hT2.lt
 go_wp2_with fail
 have hw3:Below w2.heap.size w2 (w2.alloc (.cells #[str pa] 9)):=(Below.refl _ w2).alloc (Nat.le_refl _) _
 have hA3:=addT_any true (w.heap.size+1) q2 [pa] (some ⟨w2.heap.size,0,none⟩) 1 1 (w2.heap.size+1) _ (hT2.below hw3) (Sl.onS w2 _ (pa)) (by omega) (by omega)
 refine hA3.mono ?_
 rintro e w3 ⟨rfl,hT3',hb3⟩
 clear hA3
 have hT3:TxtAt (w.heap.size+1) w3 q3:=by rw [Hq3.out];exact hT3'
 obtain⟨hu3,hbel3⟩:=Hstep.out w2 w3 [] hu2 hbel2 ((hw3.mono (by omega)).trans hb3)
 obtain⟨c0,c1,c2,c3,c4,c5,c6,c7⟩:=hu3.box
 clear hT3' hb3 hw3
 have z3:=hT3.lt
 go_wp2_with fail
 have hw4:Below w3.heap.size w3 (w3.alloc (.cells #[.string ⟨#[63]⟩,str qu] 9)):=(Below.refl _ w3).alloc (Nat.le_refl _) _
 have hA4:=addT_any hq (w.heap.size+1) q3 [[63],qu] (some ⟨w3.heap.size,0,none⟩) 2 2 (w3.heap.size+1) _ (hT3.below hw4) (Sl.two w3 _ ([63]) (qu)) (by omega) (by omega)
 refine hA4.mono ?_
 rintro e w4 ⟨rfl,hT4',hb4⟩
 clear hA4
 have hT4:TxtAt (w.heap.size+1) w4 q4:=by rw [Hq4.out];exact hT4'
 obtain⟨hu4,hbel4⟩:=Hstep.out w3 w4 [] hu3 hbel3 ((hw4.mono (by omega)).trans hb4)
 obtain⟨c0,c1,c2,c3,c4,c5,c6,c7⟩:=hu4.box
 clear hT4' hb4 hw4
 have z4:=hT4.lt
 go_wp2_with fail
 have hw5:Below w4.heap.size w4 (w4.alloc (.cells #[.string ⟨#[35]⟩,str fr] 9)):=(Below.refl _ w4).alloc (Nat.le_refl _) _
 have hA5:=addT_any hf (w.heap.size+1) q4 [[35],fr] (some ⟨w4.heap.size,0,none⟩) 2 2 (w4.heap.size+1) _ (hT4.below hw5) (Sl.two w4 _ ([35]) (fr)) (by omega) (by omega)
 refine hA5.mono ?_
 rintro e w5 ⟨rfl,hT5',hb5⟩
 clear hA5
 have hT5:TxtAt (w.heap.size+1) w5 q5:=by rw [Hq5.out];exact hT5'
 obtain⟨hu5,hbel5⟩:=Hstep.out w4 w5 [] hu4 hbel4 ((hw5.mono (by omega)).trans hb5)
 obtain⟨c0,c1,c2,c3,c4,c5,c6,c7⟩:=hu5.box
 clear hT5' hb5 hw5
 obtain⟨S,cS,y0,_,ho5⟩:=hT5
 have hJ:=Join_flat q5 S cS w5 _ ho5 n5' (by omega) (by have:=Hlen.out;omega)
 rw [← HR.out] at hJ
 have HJ:=Lib.hid hJ
 clear hJ ho5 n1 n2 n3 n3' n4 n4' n5 n5' c0 c1 c2 c3 c4 c5 c6 c7
 go_wp2_with fail
 refine HJ.out.mono ?_
 rintro e w6 ⟨rfl,hb6⟩
 go_wp2_with fail
 go_ret
 exact⟨rfl,hbel5.trans (hb6.mono hbel5.size)⟩
end Go.Proofs.YtlgbopjhmemaoaaGreatDoor
namespace Go.Proofs.YtlgbopjhmemaoaaGreatDoor
open Go.RowKit
def undStep (last:Bool) (out:List (List UInt8)) (s:List UInt8):List (List UInt8):=
 if s = [46] then (if last then out ++ [[]] else out)
 else if s = [46,46] then (if last then out.dropLast ++ [[]] else out.dropLast)
 else out ++ [s]
def undF:List (List UInt8)→List (List UInt8)→List (List UInt8)
 | [],out=>out
 | s :: r,out=>undF r (undStep r.isEmpty out s)
theorem und_step (last:Bool) (out:List (List UInt8)) (s:List UInt8):dotStep last ([] :: out) s = [] :: undStep last out s:=by
 unfold dotStep undStep
 have hp:popU ([] :: out) = [] :: out.dropLast:=by
  unfold popU
  cases out with
  | nil=>simp
  | cons a r=>simp
 rw [hp]
 split
 · cases last <;> rfl
 · split
   · cases last <;> rfl
   · rfl
theorem und_dots:∀ (L out:List (List UInt8)),dotsF L ([] :: out) = [] :: undF L out
 | [],_=>rfl
 | s :: r,out=>by
  unfold dotsF undF
  rw [und_step,und_dots r]
/-- The two agree on what has a path from the root. -/
theorem dots_und (p:List UInt8) (hp:Lib.hasPrefix p [47]=true):dotsU p=47 :: joinC 47 (undF (splitC 47 p).tail []):=by
 obtain⟨h0,h1⟩:=prefix_one.1 hp
 cases p with
 | nil=>exact absurd rfl h0
 | cons a t =>
  have ha:a=47:=UInt8.toNat_inj.1 h1
  subst ha
  have hs:splitC 47 (47 :: t) = [] :: splitC 47 t:=by rw [splitC,if_pos rfl]
  unfold dotsU
  rw [if_neg (by simp),hs,List.tail_cons]
  have h2:dotsF ([] :: splitC 47 t) [] = [] :: undF (splitC 47 t) []:=by
   rw [dotsF,← und_dots]
   rfl
  rw [h2]
  unfold slashU
  rw [hp]
  cases undF (splitC 47 t) [] with
  | nil=>rfl
  | cons x r=>rw [joinC_cons];rfl
theorem und_wt:∀ (L out:List (List UInt8)),wtU (undF L out)≤wtU L+wtU out
 | [],out=>by simp [undF]
 | s :: r,out=>by
  have ih:=und_wt r (undStep r.isEmpty out s)
  have hd:wtU out.dropLast≤wtU out:=by
   rcases List.eq_nil_or_concat out with h | ⟨x,y,h⟩
   · rw [h];simp
   · rw [h,List.concat_eq_append,List.dropLast_concat,wtU_app];omega
  have hs:wtU (undStep r.isEmpty out s)≤wtU out+(s.length+1):=by
   have h1:wtU [[]]=1:=rfl
   unfold undStep
   split
   · split
     · rw [wtU_app];omega
     · omega
   · split
     · split
       · rw [wtU_app];omega
       · omega
     · rw [wtU_app];simp [wtU]
  unfold undF
  have h3:wtU (s :: r)=(s.length+1)+wtU r:=by simp [wtU]
  omega
attribute [local go_sem high] upto_str
def UndRel (w1:World) (R:List (List UInt8)) (L:List (List UInt8)) (s4 iv:Value) (wr:World):Prop:=
 ∃ (i:Nat) (out:List (List UInt8)) (S:Option Addr) (c:Nat),iv = .int .i64 i∧i≤L.length∧s4 = .slice S out.length c∧out.length≤i∧wr.ownsRow w1.heap.size 9 1 (.slice S out.length c) out.length (out.map str)∧Below w1.heap.size w1 wr∧Hid (undF (L.drop i) out=R)
theorem undotted_any (p:List UInt8) (w:World) (hM:MaxLenOk w) (hp:p.length≤1000) (h:p = []∨Lib.hasPrefix p [47]=true):Calls Tryz.prog 142 #[str p] w fun e w'=>e = .returned (str (dotsU p))∧Below w.heap.size w w':=by
 obtain⟨i0,hi0,hz0,hz1,hz2⟩:=info_parts infoStrU
 by_cases h0:p = []
 · subst h0
   go_enter Tryz.func142,Tryz.ntmps142
   go_wp2_with fail
   go_ret
   exact⟨rfl,Below.refl _ _⟩
 · have h1:Lib.hasPrefix p [47]=true:=h.resolve_left h0
   rw [dots_und p h1]
   have e0:(p == [])=false:=by simpa using h0
   have hS:=Split_one p w hM (by omega)
   have hLl:=splitC_len 47 p
   have hw0:=joinC_wt 47 (splitC 47 p) (splitC_ne 47 p)
   rw [join_split] at hw0
   obtain⟨K,hK⟩:∃ K,K=splitC 47 p:=⟨_,rfl⟩
   obtain⟨k0,L,hKL⟩:∃ k0 L,K=k0 :: L:=by
    cases hh:K with
    | nil=>rw [hh] at hK;exact absurd hK.symm (splitC_ne 47 p)
    | cons a r=>exact⟨a,r,rfl⟩
   rw [← hK,hKL] at hS hLl hw0 ⊢
   have hL0:L≠[]:=by
    intro e
    obtain⟨g0,g1⟩:=prefix_one.1 h1
    cases p with
    | nil=>exact g0 rfl
    | cons a t =>
     have ha:a=47:=UInt8.toNat_inj.1 g1
     subst ha
     rw [splitC,if_pos rfl] at hK
     rw [hKL,e] at hK
     injection hK with _ hK
     exact splitC_ne 47 t hK.symm
   have hw3:wtU (k0 :: L)=(k0.length+1)+wtU L:=by simp [wtU]
   rw [List.tail_cons]
   obtain⟨R,hR⟩:∃ R,R=undF L []:=⟨_,rfl⟩
   rw [← hR]
   have hRl:(joinC 47 R).length≤p.length+1:=by
    have a1:=joinC_le 47 R
    have a2:=und_wt L []
    rw [← hR] at a2
    have:wtU []=0:=rfl
    omega
   obtain⟨X,hX⟩:∃ X,X=47 :: joinC 47 R:=⟨_,rfl⟩
   rw [← hX]
   have HX:=Lib.hid hX
   clear hX
   have HR:=Lib.hid hR
   clear hR hw0 hw3 hK hKL h1 h h0
   obtain⟨N,hN⟩:∃ N,N=L.length:=⟨_,rfl⟩
   rw [List.length_cons,← hN] at hS hLl
   have hN0:0 < N:=by rw [hN];exact List.length_pos_iff.2 hL0
   have HN:=Lib.hid hN
   obtain⟨w1,hw1⟩:∃ w1,w1=w.alloc (.cells ((k0 :: L).map str).toArray 9):=⟨_,rfl⟩
   rw [← hw1] at hS
   have hb1:Below w.heap.size w w1:=by rw [hw1];exact(Below.refl _ w).alloc (Nat.le_refl _) _
   have hsz1:w1.heap.size=w.heap.size+1:=by rw [hw1];simp
   have hcell:∀ j,(hj:j < N)→w1.cell? ⟨w.heap.size,1+j,none⟩=some (str (L[j]'(by rw [← HN.out];exact hj))):=by
    intro j hj
    have hjl:j < L.length:=by rw [← HN.out];exact hj
    unfold World.cell?
    rw [hw1,heap_alloc_new,Nat.add_comm 1 j]
    simp [hjl]
   have hcut:∀ X:World,(Instr.slice 40 (.slice (some ⟨w.heap.size,0,none⟩) (N+1) (N+1)) (some (.int .i64 1)) none none).run Tryz.prog X = .ok (.slice (some ⟨w.heap.size,1,none⟩) N N) X:=fun X=>by
    rw [run_cut X _ _ 1 Tryz.underlying40 (Tryz.sizeOf9 X) _ _ _ .i64 1 (by omega) (by omega)]
    unfold cutA
    rw [if_neg (by show ¬ N+1=1;omega)]
    rfl
   have HS:=Lib.hid hS
   have Hcell:=Lib.hid hcell
   have Hsz1:=Lib.hid hsz1
   have Hcut:=Lib.hid hcut
   clear hS hcell hsz1 hw1 hN hM hL0
   go_enter Tryz.func142,Tryz.ntmps142
   go_wp2_with fail
   refine HS.out.mono ?_
   rintro e w1 ⟨rfl,rfl⟩
   go_wp2_with fail
   go_loopw [4,14] (fun s4 iv wr=>UndRel w1 R L s4 iv wr) (fun _ iv _=>N - (intOf iv).toNat)
   case atStart=>exact⟨0,[],none,0,rfl,Nat.zero_le _,rfl,Nat.le_refl _,World.ownsRow_nil _ _ _ _,Below.refl _ _,HR.out.symm⟩
   case round =>
    obtain⟨i,out,S,c,rfl,hi,rfl,hol,hown,hbel,hD⟩:=hrel
    rw [← HN.out] at hi
    by_cases hiN:i < N
    · have hil:i < L.length:=by rw [← HN.out];exact hiN
      have hcel0:=(hbel.cell (p:=⟨w.heap.size,1+i,none⟩) (by rw [Hsz1.out];simp)).trans (Hcell.out i hiN)
      have hstep:undF (L.drop (i+1)) (undStep (L.drop (i+1)).isEmpty out (L[i]'hil))=R:=by
       have:=hD.out
       rw [List.drop_eq_getElem_cons hil] at this
       exact this
      generalize L[i]'hil=s at hcel0 hstep
      clear hD
      by_cases h1:s = [46]
      · subst h1
        by_cases hl:i+1=N
        · skip
          have hlast:i+1=N:=hl
          have e7:((i:Int) == (N:Int) - 1)=true:=by rw [beq_iff_eq];omega
          have hem:(L.drop (i+1)).isEmpty=true:=by rw [List.drop_of_length_le (by rw [← HN.out];omega)];rfl
          rw [hem] at hstep
          clear hem hl hlast
          have Hst:Hid (undF (L.drop (i+1)) (out ++ [[]])=R):=by
           show _=R
           rw [← hstep]
           unfold undStep
           rw [if_pos rfl]
           rfl
          clear hstep
          have h63:out.length+1≤maxLen:=by unfold maxLen;omega
          have h47:(out.length+1) * 16≤140737488355328:=by omega
          go_wp2_with (at_builtin;refine wpList_app rfl _ _ 40 rfl w1.heap.size 9 i0 (.string ⟨#[]⟩) 1 16 Tryz.underlying40 hi0 hz0 hz1 hz2 rfl (by decide) _ out.length _ (out.map str) rfl (hown.alloc _) _ _ 1 1 [str []] rfl (Sl.one _ _ _) (by intro u hu;simp only [List.mem_singleton] at hu;subst hu;rfl) h63 h47 ?c2 ?_)
          case c2=>have:=hbel.size;simp;omega
          intro S2 c2 w2 hown2 hb2 _
          have hbel2:=(hbel.alloc hbel.size _).trans hb2
          go_wp2_with fail
          refine⟨⟨i+1,out ++ [[]],S2,c2,by go_num,by omega,by rw [List.length_append];rfl,by rw [List.length_append];simp only [List.length_singleton];omega,by rw [List.length_append,List.map_append];first | exact hown2 | (rw [List.map_take];exact hown2),hbel2,Hst.out⟩,by simp [intOf];omega⟩
        · skip
          have e7:((i:Int) == (N:Int) - 1)=false:=by rw [beq_eq_false_iff_ne];omega
          have hem:(L.drop (i+1)).isEmpty=false:=by
           cases h:L.drop (i+1) with
           | nil=>have:=congrArg List.length h;rw [List.length_drop,← HN.out] at this;simp at this;omega
           | cons _ _=>rfl
          rw [hem] at hstep
          clear hem hl
          have Hst:Hid (undF (L.drop (i+1)) out=R):=by
           show _=R
           rw [← hstep]
           unfold undStep
           rw [if_pos rfl]
           rfl
          clear hstep
          go_wp2_with fail
          refine⟨⟨i+1,out,S,c,by go_num,by omega,rfl,by(try rw [hpl]);(try simp only [List.length_nil]);omega,by(try rw [hpl]);exact hown,hbel,Hst.out⟩,by simp [intOf];omega⟩
      · by_cases h2:s = [46,46]
        · subst h2
          clear h1
          by_cases hn0:0 < out.length
          · skip
            have hpop:out.dropLast=out.take (out.length - 1):=List.dropLast_eq_take
            have hpl:(out.take (out.length - 1)).length=out.length - 1:=by rw [List.length_take];omega
            have hcap:=own_cap hown
            have hownP:wr.ownsRow w1.heap.size 9 1 (.slice (cutA S c 0 1) (out.length - 1) c) (out.length - 1) ((out.take (out.length - 1)).map str):=by
             have h:=own_shrink hown (k:=out.length - 1) (by omega)
             rw [cutA_zero hown,List.map_take]
             rw [Nat.mul_one] at h
             exact h
            have d1:decide (0 < (out.length:Int))=true:=decide_eq_true (by omega)
            have q1:(0:Int)≤(out.length:Int) - 1:=by omega
            have q2:(out.length:Int) - 1≤(out.length:Int):=by omega
            have q4:((out.length:Int) - 1).toNat=out.length - 1:=by omega
            have q5:(1:Int)≤(out.length:Int):=by omega
            have HP:=Lib.hid hpop
            have HL:=Lib.hid hpl
            by_cases hl:i+1=N
            · skip
              have hlast:i+1=N:=hl
              have e7:((i:Int) == (N:Int) - 1)=true:=by rw [beq_iff_eq];omega
              have hem:(L.drop (i+1)).isEmpty=true:=by rw [List.drop_of_length_le (by rw [← HN.out];omega)];rfl
              rw [hem] at hstep
              clear hem hl hlast
              have Hst:Hid (undF (L.drop (i+1)) ((out.take (out.length - 1)) ++ [[]])=R):=by
               show _=R
               rw [← hstep]
               unfold undStep
               rw [if_neg (by decide),if_pos rfl,hpop]
               rfl
              clear hstep
              have h63:(out.length - 1)+1≤maxLen:=by unfold maxLen;omega
              have h47:((out.length - 1)+1) * 16≤140737488355328:=by omega
              go_wp2_with (at_builtin;refine wpList_app rfl _ _ 40 rfl w1.heap.size 9 i0 (.string ⟨#[]⟩) 1 16 Tryz.underlying40 hi0 hz0 hz1 hz2 rfl (by decide) _ (out.length - 1) _ ((out.take (out.length - 1)).map str) rfl (hownP.alloc _) _ _ 1 1 [str []] rfl (Sl.one _ _ _) (by intro u hu;simp only [List.mem_singleton] at hu;subst hu;rfl) h63 h47 ?c2 ?_)
              case c2=>have:=hbel.size;simp;omega
              intro S2 c2 w2 hown2 hb2 _
              have hbel2:=(hbel.alloc hbel.size _).trans hb2
              go_wp2_with fail
              refine⟨⟨i+1,(out.take (out.length - 1)) ++ [[]],S2,c2,by go_num,by omega,by rw [List.length_append,hpl];rfl,by rw [List.length_append,hpl];simp only [List.length_singleton];omega,by rw [List.length_append,hpl,List.map_append];first | exact hown2 | (rw [List.map_take];exact hown2),hbel2,Hst.out⟩,by simp [intOf];omega⟩
            · skip
              have e7:((i:Int) == (N:Int) - 1)=false:=by rw [beq_eq_false_iff_ne];omega
              have hem:(L.drop (i+1)).isEmpty=false:=by
               cases h:L.drop (i+1) with
               | nil=>have:=congrArg List.length h;rw [List.length_drop,← HN.out] at this;simp at this;omega
               | cons _ _=>rfl
              rw [hem] at hstep
              clear hem hl
              have Hst:Hid (undF (L.drop (i+1)) (out.take (out.length - 1))=R):=by
               show _=R
               rw [← hstep]
               unfold undStep
               rw [if_neg (by decide),if_pos rfl,hpop]
               rfl
              clear hstep
              go_wp2_with fail
              refine⟨⟨i+1,(out.take (out.length - 1)),cutA S c 0 1,c,by go_num,by omega,by rw [hpl],by(try rw [hpl]);(try simp only [List.length_nil]);omega,by(try rw [hpl]);exact hownP,hbel,Hst.out⟩,by simp [intOf];omega⟩
          · skip
            obtain rfl:out = []:=List.eq_nil_of_length_eq_zero (by omega)
            simp only [List.length_nil] at hown hol ⊢
            by_cases hl:i+1=N
            · skip
              have hlast:i+1=N:=hl
              have e7:((i:Int) == (N:Int) - 1)=true:=by rw [beq_iff_eq];omega
              have hem:(L.drop (i+1)).isEmpty=true:=by rw [List.drop_of_length_le (by rw [← HN.out];omega)];rfl
              rw [hem] at hstep
              clear hem hl hlast
              have Hst:Hid (undF (L.drop (i+1)) (([]:List (List UInt8)) ++ [[]])=R):=by
               show _=R
               rw [← hstep]
               unfold undStep
               rw [if_neg (by decide),if_pos rfl]
               rfl
              clear hstep
              have h63:0+1≤maxLen:=by unfold maxLen;omega
              have h47:(0+1) * 16≤140737488355328:=by omega
              go_wp2_with (at_builtin;refine wpList_app rfl _ _ 40 rfl w1.heap.size 9 i0 (.string ⟨#[]⟩) 1 16 Tryz.underlying40 hi0 hz0 hz1 hz2 rfl (by decide) _ 0 _ ([]) rfl (hown.alloc _) _ _ 1 1 [str []] rfl (Sl.one _ _ _) (by intro u hu;simp only [List.mem_singleton] at hu;subst hu;rfl) h63 h47 ?c2 ?_)
              case c2=>have:=hbel.size;simp;omega
              intro S2 c2 w2 hown2 hb2 _
              have hbel2:=(hbel.alloc hbel.size _).trans hb2
              go_wp2_with fail
              refine⟨⟨i+1,([]:List (List UInt8)) ++ [[]],S2,c2,by go_num,by omega,by rw [List.length_append];rfl,by rw [List.length_append];simp only [List.length_singleton];omega,by rw [List.length_append,List.map_append];first | exact hown2 | (rw [List.map_take];exact hown2),hbel2,Hst.out⟩,by simp [intOf];omega⟩
            · skip
              have e7:((i:Int) == (N:Int) - 1)=false:=by rw [beq_eq_false_iff_ne];omega
              have hem:(L.drop (i+1)).isEmpty=false:=by
               cases h:L.drop (i+1) with
               | nil=>have:=congrArg List.length h;rw [List.length_drop,← HN.out] at this;simp at this;omega
               | cons _ _=>rfl
              rw [hem] at hstep
              clear hem hl
              have Hst:Hid (undF (L.drop (i+1)) ([]:List (List UInt8))=R):=by
               show _=R
               rw [← hstep]
               unfold undStep
               rw [if_neg (by decide),if_pos rfl]
               rfl
              clear hstep
              go_wp2_with fail
              refine⟨⟨i+1,([]:List (List UInt8)),S,c,by go_num,by omega,rfl,by(try rw [hpl]);(try simp only [List.length_nil]);omega,by(try rw [hpl]);exact hown,hbel,Hst.out⟩,by simp [intOf];omega⟩
        · skip
          have e1:(s == [46])=false:=by simpa using h1
          have e2:(s == [46,46])=false:=by simpa using h2
          have hst:Hid (undF (L.drop (i+1)) (out ++ [s])=R):=by
           show _=R
           rw [← hstep]
           unfold undStep
           rw [if_neg h1,if_neg h2]
          have Hst:=hst
          clear hst hstep
          have h63:out.length+1≤maxLen:=by unfold maxLen;omega
          have h47:(out.length+1) * 16≤140737488355328:=by omega
          go_wp2_with (at_builtin;refine wpList_app rfl _ _ 40 rfl w1.heap.size 9 i0 (.string ⟨#[]⟩) 1 16 Tryz.underlying40 hi0 hz0 hz1 hz2 rfl (by decide) S out.length c (out.map str) rfl (hown.alloc _) _ _ 1 1 [str s] rfl (Sl.one _ _ _) (by intro u hu;simp only [List.mem_singleton] at hu;subst hu;rfl) h63 h47 ?c2 ?_)
          case c2=>have:=hbel.size;simp;omega
          intro S2 c2 w2 hown2 hb2 _
          have hbel2:=(hbel.alloc hbel.size _).trans hb2
          go_wp2_with fail
          refine⟨⟨i+1,out ++ [s],S2,c2,by go_num,by omega,by rw [List.length_append];rfl,by rw [List.length_append];simp only [List.length_singleton];omega,by rw [List.length_append,List.map_append];exact hown2,hbel2,Hst.out⟩,by simp [intOf];omega⟩
    · obtain rfl:i=N:=by omega
      have hRo:R=out:=by
       have:=hD.out
       rw [List.drop_of_length_le (by rw [← HN.out];exact Nat.le_refl _)] at this
       exact this.symm
      have hJ2:=Join_any out S c wr _ hown (by omega) (by rw [← hRo];omega)
      have hbw:Below w.heap.size w wr:=hb1.trans (hbel.mono hb1.size)
      rw [← hRo] at hJ2
      have hX:=HX.out
      generalize joinC 47 R=q at hJ2 hRl hX
      have HX2:=Lib.hid hX
      clear hX
      rw [hRo] at hJ2
      have HJ:=Lib.hid hJ2
      clear hJ2 hRo hD HR
      have hq:1+q.length≤9223372036854775807:=by omega
      go_wp2_with fail
      refine HJ.out.mono ?_
      rintro e w2 ⟨rfl,hb2⟩
      have hbw2:=hbw.trans (hb2.mono hbw.size)
      go_wp2_with fail
      go_ret
      exact⟨by rw [HX2.out];rfl,hbw2⟩
end Go.Proofs.YtlgbopjhmemaoaaGreatDoor
namespace Go.Proofs.YtlgbopjhmemaoaaGreatDoor
theorem host_root {u:UrlD} (h:checkU u=0) (hh:u.hasHost=true):u.path = []∨Lib.hasPrefix u.path [47]=true:=by
 obtain⟨_,_,_,h1,_⟩:=check_ok h
 unfold formB at h1
 rw [hh] at h1
 simp only [if_true,Bool.and_eq_false_iff,Bool.not_eq_false',beq_iff_eq] at h1
 by_cases e:u.path = []
 · exact .inl e
 · rcases h1 with h1 | h1
   · exact absurd h1 e
   · exact .inr (prefix_one.2 ⟨e,h1⟩)
theorem prefix_app {a b:List UInt8} (h:Lib.hasPrefix a [47]=true):Lib.hasPrefix (a ++ b) [47]=true:=by
 obtain⟨h0,h1⟩:=prefix_one.1 h
 cases a with
 | nil=>exact absurd rfl h0
 | cons x r=>exact prefix_one.2 ⟨by simp,h1⟩
theorem prefix_takeU {a:List UInt8} {n:Nat} (h:Lib.hasPrefix a [47]=true) (hn:0 < n):Lib.hasPrefix (a.take n) [47]=true:=by
 obtain⟨h0,h1⟩:=prefix_one.1 h
 cases a with
 | nil=>exact absurd rfl h0
 | cons x r =>
  cases n with
  | zero=>omega
  | succ n=>exact prefix_one.2 ⟨by simp,h1⟩
theorem lastIdx_root {x:List UInt8} (h:Lib.hasPrefix x [47]=true):0≤Lib.lastIndexByte ⟨x.toArray⟩ 47:=by
 obtain⟨h0,h1⟩:=prefix_one.1 h
 rcases Lib.lastIndexByte_spec ⟨x.toArray⟩ 47 with ⟨e,hn⟩ | ⟨i,_,e,_⟩
 · exfalso
   cases x with
   | nil=>exact h0 rfl
   | cons a r =>
    have:=hn 0 (by simp [ByteArray.size])
    apply this
    have h2:nth (a :: r) 0=a.toNat:=rfl
    rw [h2] at h1
    simp [h1]
 · omega
theorem merged_root {b:UrlD} (p:List UInt8) (h:checkU b=0) (hh:b.hasHost=true):Lib.hasPrefix (mergedU b p) [47]=true:=by
 unfold mergedU
 rw [hh]
 rcases host_root h hh with e | e
 · rw [e]
   exact prefix_one.2 ⟨by simp,rfl⟩
 · have h0:b.path≠[]:=(prefix_one.1 e).1
   have hb:(b.path == [])=false:=by simpa using h0
   rw [hb]
   have:=lastIdx_root e
   exact prefix_app (prefix_takeU e (by omega))
theorem led_root {b u:UrlD} (hb:checkU b=0) (hu:checkU u=0) (hh:(ledU b u).hasHost=true):(ledU b u).path = []∨Lib.hasPrefix (ledU b u).path [47]=true:=by
 unfold ledU at hh ⊢
 by_cases h1:u.scheme≠[]
 · rw [if_pos h1] at hh ⊢;exact host_root (u:=u) hu hh
 · rw [if_neg h1] at hh ⊢
   by_cases h2:u.hasHost=true
   · rw [if_pos h2] at hh ⊢;exact host_root (u:=u) hu hh
   · rw [if_neg h2] at hh ⊢
     by_cases h3:u.path = []
     · rw [if_pos h3] at hh ⊢
       by_cases h4:u.hasQuery=true
       · rw [if_pos h4] at hh ⊢;exact host_root (u:=b) hb hh
       · rw [if_neg h4] at hh ⊢;exact host_root (u:=b) hb hh
     · rw [if_neg h3] at hh ⊢
       by_cases h5:nth u.path 0=47
       · rw [if_pos h5] at hh ⊢;exact .inr (prefix_one.2 ⟨h3,h5⟩)
       · rw [if_neg h5] at hh ⊢;exact .inr (merged_root _ hb hh)
theorem end_ref (o:UrlD):endU o=if checkU o=0 then (o,0) else (zeroU,if (!o.hasHost && Lib.hasPrefix o.path [47,47])=true then 4 else checkU o):=by
 by_cases h:checkU o=0
 · rw [if_pos h,end_same h]
 · rw [if_neg h]
   unfold endU
   by_cases h2:(!o.hasHost && Lib.hasPrefix o.path [47,47])=true
   · rw [if_pos h2,if_pos h2]
   · rw [if_neg h2,if_neg h2,if_neg h]
theorem merged_dir (b:UrlD) (p:List UInt8):(if (b.hasHost && b.path == [])=true then [47] else b.path.take (Lib.lastIndexByte ⟨b.path.toArray⟩ 47+1).toNat) ++ p=mergedU b p:=by
 unfold mergedU
 split <;> rfl
end Go.Proofs.YtlgbopjhmemaoaaGreatDoor
