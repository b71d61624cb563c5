import Derived.Test.YtlgbopjhmemaoaaGreatDoorU22
import Derived.Test.YtlgbopjhmemaoaaGreatDoorU8
import Derived.Test.YtlgbopjhmemaoaaGreatDoorU5
import Derived.Test.YtlgbopjhmemaoaaGreatDoorU2
import Derived.Test.YtlgbopjhmemaoaaGreatDoorU1
set_option maxRecDepth 100000
set_option maxHeartbeats 40000000
namespace Go.Proofs.YtlgbopjhmemaoaaGreatDoor
open Go.RowKit
theorem renamed2_any (wB:World) (HMB:MaxLenOk wB) (bt bm bn be bw base:Nat) (ns:List NameD) (gs:List GoalD) (hgood:∀ n∈ns,nameB n.name=true) (hgl:gs.length≤720) (HT:TxB wB bt bm ns gs) (L0:Nat) (hL0:L0≤wB.heap.size) (k:Nat) :
 ∀ (p:PartD) (v:List Value) (i e:Nat) (w:World),(flatD p).length≤k→PartAt (· < L0) wB p v→(∀ q∈flatD p,q.body.length≤4000)→i+(flatD p).length≤1000→RB wB w bt bn be bw base i e →
 Calls Tryz.prog 21 #[.agg v.toArray,.pointer (some ⟨bt,0,none⟩),.pointer (some ⟨bn,0,none⟩),.pointer (some ⟨be,0,none⟩),.pointer (some ⟨bw,0,none⟩)] w fun en w'=>∃ v':List Value,en = .returned (.agg v'.toArray)∧PartAt (OldNew L0 w.heap.size w') w' (renD ns gs p i e).1 v' ∧
  RB wB w' bt bn be bw base (i+(flatD p).length) (renD ns gs p i e).2∧Kp2 bn be w w':=by
 induction k with
 | zero=>intro p v i e w h;rw [flatD_eq] at h;simp at h
 | succ k ih =>
  intro p v i e w hk hp hbod hil hR
  obtain⟨A,c,A2,c2,rfl,hbd,hby,hbc,hcm,hP,hc2,hcm2⟩:=hp.open
  obtain⟨W,hW⟩:∃ W,W=(w.alloc (.cells #[str p.type,str p.cs,str p.id,str p.loc,.int .i64 p.how,.slice A p.body.length c,.slice A2 p.parts.length c2] 25)).alloc (.cells #[.string ⟨#[]⟩,.string ⟨#[]⟩,.string ⟨#[]⟩,.string ⟨#[]⟩,.int .i64 0,.slice none 0 0,.slice none 0 0] 25):=⟨_,rfl⟩
  have hbW:Below w.heap.size w W:=by rw [hW];exact((Below.refl _ w).alloc (Nat.le_refl _) _).alloc (by simp) _
  have hsW:W.heap.size=w.heap.size+2:=by rw [hW];simp
  have hx1:BoxF W w.heap.size (str p.type) (str p.cs) (str p.id) (str p.loc) (.int .i64 p.how) (.slice A p.body.length c) (.slice A2 p.parts.length c2):=by
   refine BoxF.of_block (t:=25) ?_
   rw [hW,Lib.alloc_old _ _ _ (by simp)]
   exact heap_alloc_new w _
  have hx2:BoxF W (w.heap.size+1) (.string ⟨#[]⟩) (.string ⟨#[]⟩) (.string ⟨#[]⟩) (.string ⟨#[]⟩) (.int .i64 0) (.slice none 0 0) (.slice none 0 0):=by
   refine BoxF.of_block (t:=25) ?_
   rw [hW]
   have:=heap_alloc_new (w.alloc (.cells #[str p.type,str p.cs,str p.id,str p.loc,.int .i64 p.how,.slice A p.body.length c,.slice A2 p.parts.length c2] 25)) (.cells #[.string ⟨#[]⟩,.string ⟨#[]⟩,.string ⟨#[]⟩,.string ⟨#[]⟩,.int .i64 0,.slice none 0 0,.slice none 0 0] 25)
   simpa using this
  have hRW:=hR.below hbW
  obtain⟨_,_,_,hBW,n1,n2,n3,n4,n5,n6,n7,n8,n9,n10⟩:=hRW
  have hbs:base≤w.heap.size:=hR.2.2.2.2.2.2.2.2.2.2.1
  have hRW:=hR.below hbW
  obtain⟨htc,tl1,tl2,m,f,hmap,hf⟩:=HT
  obtain⟨S,cS,hfi,hSl⟩:=hf i
  have hBs:=hBW.size
  have hlk:=(hmap.below hBW tl2).look Tryz.underlying58 (zeroStrs W) (i:Int) (by omega) (by omega)
  rw [hfi] at hlk
  have htc':=(hBW.cell (p:=⟨bt,0,none⟩) tl1).trans htc
  have hSlW:=(Sl.below hSl hBW).more hBs
  have hby1:=Sl.below hby (hBW.mono hL0)
  have hbyW:=hby1.more (Nat.le_trans hL0 hBs)
  have hMW:MaxLenOk W:=HMB.below hBW
  have hRE:=renD_eq ns gs p i e
  obtain⟨tx,htx⟩:∃ tx,tx=textsN ns gs i:=⟨_,rfl⟩
  have hb4:p.body.length≤4000:=hbod p (by rw [flatD_eq];simp)
  have hbN:bodyN ns gs p i=if tx = [] then (p.body,0) else putE p.body tx:=by unfold bodyN;rw [← htx]
  obtain⟨B1,f1,hB1⟩:∃ B1 f1,bodyN ns gs p i=(B1,f1):=⟨_,_,rfl⟩
  rw [hB1] at hRE hbN
  simp only at hRE
  obtain⟨E1,hE1⟩:∃ E1,E1=firstE e f1:=⟨_,rfl⟩
  rw [← hE1] at hRE
  rw [← htx] at hlk hSlW
  have htl:sumL tx≤1000000000000:=by
   have h1:=sumL_le tx (fun t ht=>by
    rw [htx] at ht
    obtain⟨g,_,rfl⟩:=List.mem_map.1 ht
    exact ofN_len hgood _)
   have h2:tx.length≤720:=by
    rw [htx]
    unfold textsN
    rw [List.length_map]
    exact Nat.le_trans (List.length_filter_le _ _) hgl
   omega
  have htl2:tx.length≤720:=by
   rw [htx]
   unfold textsN
   rw [List.length_map]
   exact Nat.le_trans (List.length_filter_le _ _) hgl
  obtain⟨tn,htn⟩:∃ tn,tn=tx.length:=⟨_,rfl⟩
  rw [← htn] at hlk hSlW htl2
  have KP:=PutIn_any A S p.body.length c tn cS p.body tx W hMW hbyW hb4 hSlW htl
  have⟨⟨r1,r1f⟩,⟨r2,r2f⟩,r3⟩:=hRW.cells
  have⟨⟨x0,x1,x2,x3,x4,x5,x6⟩,xf⟩:=hx1
  have hfp:(flatD p).length=(flatsD p.parts).length+1:=by rw [flatD_eq];simp
  have hpl:p.parts.length≤1000:=by have:=flatsD_len p.parts;omega
  have hbod2:∀ (j:Nat) (q:PartD),p.parts[j]? = some q→(∀ x∈flatD q,x.body.length≤4000)∧(flatD q).length≤k:=by
   intro j q hq
   refine⟨fun x hx=>hbod x ?_,?_⟩
   · rw [flatD_eq]
     have hj:j < p.parts.length:=(List.getElem?_eq_some_iff.1 hq).1
     exact List.mem_cons_of_mem _ (flats_mem p.parts j q hq x hx)
   · have:=flats_bound p.parts j q hq
     omega
  have Hbod2:=Lib.hid hbod2
  have HKP:=Lib.hid KP
  have Hih:=Lib.hid ih
  have HRE:=Lib.hid hRE
  have HbN:=Lib.hid hbN
  have HE1:=Lib.hid hE1
  have Htn:=Lib.hid htn
  have HRW:=Lib.hid hRW
  have Hx1:=Lib.hid hx1
  have Hx2:=Lib.hid hx2
  have HbW:=Lib.hid hbW
  have HP:=Lib.hid hP
  have Hby:=Lib.hid hby
  have Hby1:=Lib.hid hby1
  have Hbd:=Lib.hid hbd
  have HsW:=Lib.hid hsW
  have hltW:w.heap.size+1 < W.heap.size:=by omega
  have hR0:=Lib.hid hR
  clear HMB hbod hbod2 KP hMW ih hRE hbN hE1 htn htx hRW hx1 hx2 hbW hP hp hby hby1 hbyW hbd hB1 hSlW htl hsW hR hfi hSl hf hmap htc hgood hgl hBW
  have eg:=enters_of Tryz.func21 (by kernel_rfl) rfl
  go_enter Tryz.func21,Tryz.ntmps21
  go_upto_region 1 with fail
  rw [← hW]
  clear hW
  obtain⟨q0,hq0⟩:∃ q,decide (0 < tn)=q:=⟨_,rfl⟩
  go_upto_if 18 with fail
  have Hq0:=Lib.hid hq0
  clear hq0 hlk
  go_cut [7] from 8 to 30 (fun s7 wx=>∃ A' c',BoxF wx w.heap.size (str p.type) (str p.cs) (str p.id) (str p.loc) (.int .i64 p.how) (.slice A' B1.length c') (.slice A2 p.parts.length c2)∧BoxF wx (w.heap.size+1) (.string ⟨#[]⟩) (.string ⟨#[]⟩) (.string ⟨#[]⟩) (.string ⟨#[]⟩) (.int .i64 0) (.slice none 0 0) (.slice none 0 0)∧SlS (OldNew L0 W.heap.size wx) wx 1 A' B1.length (Lib.byteCells B1)∧B1.length≤c'∧c'≤maxLen∧RB wB wx bt bn be bw base i E1∧Kp2 bn be w wx∧W.heap.size≤wx.heap.size)
  case first =>
   cases q0 with
   | false =>
    have h0:tn=0:=by have:=Hq0.out;simp at this;omega
    have ht:tx = []:=List.eq_nil_of_length_eq_zero (by rw [← Htn.out];exact h0)
    have hb:=HbN.out
    rw [if_pos ht] at hb
    obtain⟨rfl,rfl⟩:=Prod.mk.inj hb
    have he1:E1=e:=by rw [HE1.out];unfold firstE;split <;> omega
    have He:=Lib.hid he1
    clear hb ht h0 he1
    go_wp2_with fail
    go_meet
    exact⟨A,c,Hx1.out,Hx2.out,SlS.change (Hby1.out.sls) (fun b hb=>.inl hb) (fun _ _=>rfl),hbc,hcm,by rw [He.out];exact HRW.out,Kp2.of_below HbW.out,Nat.le_refl _⟩
   | true =>
    have h0:tx≠[]:=fun h=>by have h2:=Hq0.out;have h3:=Htn.out;rw [h] at h3;simp at h2 h3;omega
    have hb:=HbN.out
    rw [if_neg h0] at hb
    have hkp:=HKP.out
    rw [← hb] at hkp
    unfold PutOut at hkp
    simp only at hkp
    have Hkp:=Lib.hid hkp
    clear hb h0 hkp HKP
    go_wp2_with fail
    refine Hkp.out.mono ?_
    rintro en w2 ⟨S2,c2x,rfl,hown2,hb2⟩
    obtain⟨bl,hbl⟩:∃ bl,bl=B1.length:=⟨_,rfl⟩
    rw [← hbl] at hown2 ⊢
    have hR2:=HRW.out.below hb2
    have hX1:=Hx1.out.below hb2 (by omega)
    have hX2:=Hx2.out.below hb2 (by omega)
    have hK2:Kp2 bn be w w2:=(Kp2.of_below HbW.out).below hb2
    have hsz2:=hb2.size
    have Hown2:=Lib.hid hown2
    have HX1:=Lib.hid hX1
    have HX2:=Lib.hid hX2
    have HR2:=Lib.hid hR2
    have HK2:=Lib.hid hK2
    have Hbl:=Lib.hid hbl
    have⟨⟨r1',r1f'⟩,⟨r2',r2f'⟩,r3'⟩:=hR2.cells
    clear hbl r1 r1f r2 r2f r3 x0 x1 x2 x3 x4 x5 x6 xf htc' hown2 hX1 hX2 hR2 hK2 hb2
    by_cases he:e=0
    · obtain⟨w3,hw3⟩:∃ w3,w3=w2.setCell ⟨be,0,none⟩ (.int .i64 (f1:Nat)):=⟨_,rfl⟩
      obtain⟨hR3,hK3⟩:=HR2.out.setE f1
      rw [← hw3] at hR3 hK3
      have hX13:BoxF w3 w.heap.size (str p.type) (str p.cs) (str p.id) (str p.loc) (.int .i64 p.how) (.slice A p.body.length c) (.slice A2 p.parts.length c2):=by rw [hw3];exact HX1.out.setFar (by show be≠w.heap.size;omega) _
      have hX23:BoxF w3 (w.heap.size+1) (.string ⟨#[]⟩) (.string ⟨#[]⟩) (.string ⟨#[]⟩) (.string ⟨#[]⟩) (.int .i64 0) (.slice none 0 0) (.slice none 0 0):=by rw [hw3];exact HX2.out.setFar (by show be≠w.heap.size+1;omega) _
      have hown3:w3.ownsRow W.heap.size 5 1 (.slice S2 bl c2x) bl (Lib.byteCells B1):=by rw [hw3];exact own_setFar Hown2.out (by intro e2;have:=(Hown2.out.lt _ e2).1;simp only at this;omega) _
      have hsz3:w2.heap.size≤w3.heap.size:=hK3.1
      have dee:((e:Int) == 0)=true:=by rw [he];rfl
      have he1:E1=f1:=by rw [HE1.out,he];rfl
      have Hee:=Lib.hid (And.intro he he1)
      have Hst:=Lib.hid (And.intro hR3 (And.intro (HK2.out.trans hK3) (And.intro hX13 (And.intro hX23 hown3))))
      clear he he1 hR3 hK3 hX13 hX23 hown3
      go_upto_region 6 with fail
      rw [← hw3]
      clear hw3 r1' r1f' r2' r2f' r3'
      obtain⟨hR3,hK3,hX13,hX23,hown3⟩:=Hst.out
      have⟨⟨y0,y1,y2,y3,y4,y5,y6⟩,yf⟩:=hX13
      clear hR3 hK3 hX13 hX23 hown3
      go_wp2_with fail
      go_meet
      obtain⟨hR3,hK3,hX13,hX23,hown3⟩:=Hst.out
      refine⟨S2,c2x,?_,hX23.setFar (by show w.heap.size≠w.heap.size+1;omega) _,?_,?_,own_capmax hown3,?_,hK3.far (Nat.le_refl _) _ _,?_⟩
      · rw [← Hbl.out];exact hX13.s5 _
      · rw [← Hbl.out]
        exact SlS.change (own_sls hown3) (fun b hb=>.inr ⟨hb.1,by simpa [World.setCell] using hb.2⟩) (fun p hp=>World.cell?_of_block (Below.heap_setCell _ _ _ _ (by have:=hp.1;show p.block≠w.heap.size;omega)))
      · rw [← Hbl.out];exact own_cap hown3
      · rw [Hee.out.2];exact hR3.far hbs _ _
      · simp [World.setCell];omega
    · have dee:((e:Int) == 0)=false:=by simp;omega
      have he1:E1=e:=by rw [HE1.out];unfold firstE;rw [if_neg he]
      have Hee:=Lib.hid (And.intro he he1)
      have⟨⟨y0,y1,y2,y3,y4,y5,y6⟩,yf⟩:=HX1.out
      clear he he1
      go_wp2_with fail
      go_meet
      refine⟨S2,c2x,?_,HX2.out.setFar (by show w.heap.size≠w.heap.size+1;omega) _,?_,?_,own_capmax Hown2.out,?_,HK2.out.far (Nat.le_refl _) _ _,?_⟩
      · rw [← Hbl.out];exact HX1.out.s5 _
      · rw [← Hbl.out]
        exact SlS.change (own_sls Hown2.out) (fun b hb=>.inr ⟨hb.1,by simpa [World.setCell] using hb.2⟩) (fun p hp=>World.cell?_of_block (Below.heap_setCell _ _ _ _ (by have:=hp.1;show p.block≠w.heap.size;omega)))
      · rw [← Hbl.out];exact own_cap Hown2.out
      · rw [Hee.out.2];exact HR2.out.far hbs _ _
      · simp [World.setCell];omega
  case rest =>
   obtain⟨A',c',hX1,hX2,hbs1,hbc1,hbm1,hR1,hK1,hWx⟩:=hcut
   clear htc' r1 r1f r2 r2f r3 x0 x1 x2 x3 x4 x5 x6 xf HKP HbN HRW Hx1 Hx2 HbW Hby Hby1 Hq0 Htn
   obtain⟨w3,hw3⟩:∃ w3,w3=wc.setCell ⟨bn,0,none⟩ (.int .i64 ((i:Int)+1)):=⟨_,rfl⟩
   obtain⟨hR3,hK3⟩:=hR1.setN (i+1)
   rw [show((i+1:Nat):Int)=(i:Int)+1 from by omega,← hw3] at hR3 hK3
   have hX13:BoxF w3 w.heap.size (str p.type) (str p.cs) (str p.id) (str p.loc) (.int .i64 p.how) (.slice A' B1.length c') (.slice A2 p.parts.length c2):=by rw [hw3];exact hX1.setFar (by show bn≠w.heap.size;omega) _
   have hX23:BoxF w3 (w.heap.size+1) (.string ⟨#[]⟩) (.string ⟨#[]⟩) (.string ⟨#[]⟩) (.string ⟨#[]⟩) (.int .i64 0) (.slice none 0 0) (.slice none 0 0):=by rw [hw3];exact hX2.setFar (by show bn≠w.heap.size+1;omega) _
   have hb3:SlS (OldNew L0 W.heap.size w3) w3 1 A' B1.length (Lib.byteCells B1):=by
    refine SlS.change hbs1 (fun b hb=>?_) (fun q hq=>?_)
    · rcases hb with hb | hb
      · exact .inl hb
      · exact .inr ⟨hb.1,by have:=hK3.1;omega⟩
    · rw [hw3]
      exact World.cell?_of_block (Below.heap_setCell _ _ _ _ (by show q.block≠bn;rcases hq with hq | hq <;> omega))
   have hK13:=hK1.trans hK3
   have hsz3:wc.heap.size≤w3.heap.size:=hK3.1
   have⟨⟨r1,r1f⟩,_,_⟩:=hR1.cells
   have HX13:=Lib.hid hX13
   have HX23:=Lib.hid hX23
   have Hb3:=Lib.hid hb3
   have HR3:=Lib.hid hR3
   have HK13:=Lib.hid hK13
   have Hbcm:=Lib.hid (And.intro hbc1 hbm1)
   clear hX1 hX2 hbs1 hbc1 hbm1 hR1 hK1 hK3 hX13 hX23 hb3 hR3 hK13
   go_upto_region 8 with fail
   rw [← hw3]
   clear hw3 r1 r1f
   obtain⟨RR,hRR⟩:∃ RR,RR=rensD ns gs p.parts (i+1) E1:=⟨_,rfl⟩
   have hRE:=HRE.out
   rw [← hRR] at hRE
   have HRE:=Lib.hid hRE
   have HRR:=Lib.hid hRR
   have⟨⟨x0,x1,x2,x3,x4,x5,x6⟩,xf⟩:=HX13.out
   clear hRE hRR
   go_wp2_with fail
   clear x0 x1 x2 x3 x4 x5 x6 xf
   go_loopw [10,36] (RnRel L0 wB w3 bt bn be bw base (i+(flatD p).length) ns gs p.parts RR) (fun _ iv _=>p.parts.length - (intOf iv).toNat)
   case atStart =>
    exact⟨0,0,i+1,E1,none,[],[],rfl,rfl,Nat.zero_le _,World.ownsRow_nil _ _ _ _,rfl,HR3.out,Kp2.refl _ _ _,Lib.hid (by rw [List.drop_zero,HRR.out];rfl),by rw [List.drop_zero];omega⟩
   case round =>
    obtain⟨j,cj,ij,ej,Sj,rows,out,rfl,rfl,hj,hown,hrows,hrb,hkp,hEE,hT⟩:=hrel
    by_cases hin:j < p.parts.length
    · obtain⟨b,off,q,Aq,nq,cq,Aq2,nq2,cq2,hS3,hbS,hdq,hqa,t0,t1,t2,t3,t4,t5,t6⟩:=HP.out.cells7 hin
      subst hS3
      have hqi:p.parts[j]? = some q:=by have:=congrArg List.head? hdq;simpa [List.head?_drop] using this
      obtain⟨hqb,hqk⟩:=Hbod2.out j q hqi
      have hBr:Below wB.heap.size wB wr:=hrb.2.2.2.1
      have hbS':b < wB.heap.size:=Nat.lt_of_lt_of_le hbS hL0
      have v0:=(hBr.cell (p:=⟨b,_,none⟩) hbS').trans t0
      have v1:=(hBr.cell (p:=⟨b,_,none⟩) hbS').trans t1
      have v2:=(hBr.cell (p:=⟨b,_,none⟩) hbS').trans t2
      have v3:=(hBr.cell (p:=⟨b,_,none⟩) hbS').trans t3
      have v4:=(hBr.cell (p:=⟨b,_,none⟩) hbS').trans t4
      have v5:=(hBr.cell (p:=⟨b,_,none⟩) hbS').trans t5
      have v6:=(hBr.cell (p:=⟨b,_,none⟩) hbS').trans t6
      have hfl:=hT
      rw [hdq,flatsD,List.length_append] at hfl
      have hEE2:=hEE.out
      rw [hdq,rensD_step] at hEE2
      obtain⟨W8,hW8⟩:∃ X,X=wr.alloc (.cells #[str q.type,str q.cs,str q.id,str q.loc,.int .i64 q.how,.slice Aq nq cq,.slice Aq2 nq2 cq2] 25):=⟨_,rfl⟩
      have hb8:Below wr.heap.size wr W8:=by rw [hW8];exact(Below.refl _ _).alloc (Nat.le_refl _) _
      have hs8:wr.heap.size < W8.heap.size:=by rw [hW8];simp
      have hbx8:Box7 W8 wr.heap.size (str q.type) (str q.cs) (str q.id) (str q.loc) (.int .i64 q.how) (.slice Aq nq cq) (.slice Aq2 nq2 cq2):=by rw [hW8];exact Box7.new wr _ _ _ _ _ _ _ _
      have hrb8:=hrb.below hb8
      have hrec:=Hih.out q _ ij ej W8 hqk hqa hqb (by omega) hrb8
      obtain⟨r,er,hr⟩:∃ r er,renD ns gs q ij ej=(r,er):=⟨_,_,rfl⟩
      rw [hr] at hrec hEE2
      simp only at hrec hEE2
      have hfun:W8.cell? ⟨bw,0,none⟩=some (.func (.func 21) #[] #[.pointer (some ⟨bt,0,none⟩),.pointer (some ⟨bn,0,none⟩),.pointer (some ⟨be,0,none⟩),.pointer (some ⟨bw,0,none⟩)]):=hrb8.cells.2.2
      have hown8:=own_below hown hb8
      have hkp8:=hkp.below hb8
      have hnn:∀ b,OldNewB L0 w3.heap.size (.slice Sj j cj) wr b→b < wr.heap.size∧b≠bn∧b≠be:=by
       intro b hb
       have:=hBr.size
       rcases hb with hb | hb <;> omega
      have hrows8:PartsAt (OldNewB L0 w3.heap.size (.slice Sj j cj) W8) W8 out rows:=PartsAt.change (fun b hb=>by rcases hb with hb | hb;exact .inl hb;exact .inr ⟨hb.1,Nat.lt_of_lt_of_le hb.2.1 hb8.size,hb.2.2⟩) (fun q hq=>hb8.cell (hnn _ hq).1) _ _ hrows
      have hnn8:∀ b,OldNewB L0 w3.heap.size (.slice Sj j cj) W8 b→b < W8.heap.size∧b≠bn∧b≠be:=by
       intro b hb
       have:=hBr.size
       rcases hb with hb | hb <;> omega
      have Hrec:=Lib.hid hrec
      have HE2:=Lib.hid hEE2
      have Hown8:=Lib.hid hown8
      have Hkp8:=Lib.hid hkp8
      have Hrows8:=Lib.hid hrows8
      have Hnn8:=Lib.hid hnn8
      have Hfl:=Lib.hid hfl
      have hszB:=Nat.le_trans hBr.size hb8.size
      have h38:w3.heap.size≤W8.heap.size:=hkp8.1
      clear t0 t1 t2 t3 t4 t5 t6 hrec hEE2 hEE hown hkp hrows hrb hrb8 hb8 hBr hdq hqa hqi hqb hqk hr hown8 hkp8 hrows8 hnn hnn8 hT hfl
      go_upto_region 12 with fail
      rw [← hW8]
      clear hW8 v0 v1 v2 v3 v4 v5 v6
      have⟨x0,x1,x2,x3,x4,x5,x6⟩:=hbx8
      clear hbx8
      go_wp2_with fail
      refine Hrec.out.mono ?_
      rintro en w1 ⟨vr,rfl,hpt,hrb1,hkp1⟩
      obtain⟨Ar,cr,Ar2,cr2,rfl,_⟩:=hpt.open
      obtain⟨nr,hnr⟩:∃ y,y=r.body.length:=⟨_,rfl⟩
      obtain⟨nr2,hnr2⟩:∃ y,y=r.parts.length:=⟨_,rfl⟩
      rw [← hnr,← hnr2] at hpt ⊢
      have hown1:w1.ownsRow w3.heap.size 25 7 (.slice Sj j cj) j rows.flatten:=own_same Hown8.out fun k hk=>by
       have:=Hown8.out.lt k hk
       exact hkp1.2 k this.2 (by omega) (by omega)
      have hsz1:W8.heap.size≤w1.heap.size:=hkp1.1
      have hrows1:PartsAt (OldNewB L0 w3.heap.size (.slice Sj j cj) w1) w1 out rows:=PartsAt.change (fun b hb=>by rcases hb with hb | hb;exact .inl hb;exact .inr ⟨hb.1,Nat.lt_of_lt_of_le hb.2.1 hsz1,hb.2.2⟩) (fun q hq=>hkp1.cell (Hnn8.out _ hq).1 (Hnn8.out _ hq).2.1 (Hnn8.out _ hq).2.2) _ _ Hrows8.out
      have hpt1:PartAt (OldNewB L0 w3.heap.size (.slice Sj j cj) w1) w1 r [str r.type,str r.cs,str r.id,str r.loc,.int .i64 r.how,.slice Ar nr cr,.slice Ar2 nr2 cr2]:=PartAt.change (fun b hb=>by rcases hb with hb | hb;exact .inl hb;exact .inr ⟨by omega,hb.2,by intro e2;have:=(Hown8.out.lt _ e2).2;omega⟩) (fun _ _=>rfl) _ _ hpt
      have hkpA:Kp2 bn be w3 w1:=Hkp8.out.trans hkp1
      obtain⟨W3,hW3⟩:∃ W3,W3=w1.alloc (.cells #[str r.type,str r.cs,str r.id,str r.loc,.int .i64 r.how,.slice Ar nr cr,.slice Ar2 nr2 cr2] 25):=⟨_,rfl⟩
      have hbA:Below w1.heap.size w1 W3:=by rw [hW3];exact(Below.refl _ w1).alloc (Nat.le_refl _) _
      have hsz3':W3.heap.size=w1.heap.size+1:=by rw [hW3];simp
      have hrow3:Sl W3 W3.heap.size 7 (some ⟨w1.heap.size,0,none⟩) 1 [str r.type,str r.cs,str r.id,str r.loc,.int .i64 r.how,.slice Ar nr cr,.slice Ar2 nr2 cr2]:=by
       rw [hW3]
       exact(Sl.row w1 25 7 1 _ rfl).more (by simp)
      have hown3:=own_below hown1 hbA
      have hrb3:=hrb1.below hbA
      have hkp3:=hkpA.below hbA
      have hlt1:∀ b,OldNewB L0 w3.heap.size (.slice Sj j cj) w1 b→b < w1.heap.size:=by
       intro b hb
       rcases hb with hb | hb <;> omega
      have hrows3:PartsAt (OldNewB L0 w3.heap.size (.slice Sj j cj) W3) W3 out rows:=PartsAt.change (fun b hb=>by rcases hb with hb | hb;exact .inl hb;exact .inr ⟨hb.1,Nat.lt_of_lt_of_le hb.2.1 hbA.size,hb.2.2⟩) (fun q hq=>hbA.cell (hlt1 _ hq)) _ _ hrows1
      have hpt3:PartAt (OldNewB L0 w3.heap.size (.slice Sj j cj) W3) W3 r [str r.type,str r.cs,str r.id,str r.loc,.int .i64 r.how,.slice Ar nr cr,.slice Ar2 nr2 cr2]:=PartAt.change (fun b hb=>by rcases hb with hb | hb;exact .inl hb;exact .inr ⟨hb.1,Nat.lt_of_lt_of_le hb.2.1 hbA.size,hb.2.2⟩) (fun q hq=>hbA.cell (hlt1 _ hq)) _ _ hpt1
      have hone:=hpt3.one
      obtain⟨i0,hi0,hz0,hz1,hz2⟩:=info_parts catInfoPart
      have Hone:=Lib.hid hone
      have HW3:=Lib.hid hW3
      have Hsv:=Lib.hid (And.intro hrb3 (And.intro hkp3 (And.intro hrows3 hpt3)))
      have hown3':=hown3
      have hrow3':=hrow3
      rw [HW3.out] at hown3' hrow3'
      have hsS3':w3.heap.size≤(w1.alloc (.cells #[str r.type,str r.cs,str r.id,str r.loc,.int .i64 r.how,.slice Ar nr cr,.slice Ar2 nr2 cr2] 25)).heap.size:=by rw [← HW3.out];exact hkp3.1
      have hsz3'':w1.heap.size+1≤W3.heap.size:=by omega
      have Hszz:=Lib.hid hsz3'
      clear hown1 hrows1 hpt1 hkpA hbA hrb3 hkp3 hrows3 hpt3 hone hown3 hrow3 hlt1 hpt hrb1 hkp1 hW3 hnr hnr2 x0 x1 x2 x3 x4 x5 x6 hfun Hrows8 Hkp8 Hown8 Hrec hsz3'
      go_wp2_with (at_builtin;refine wpList_app2 rfl _ _ 23 rfl w3.heap.size 25 i0 (Value.agg #[.string ⟨#[]⟩,.string ⟨#[]⟩,.string ⟨#[]⟩,.string ⟨#[]⟩,.int .i64 0,.slice none 0 0,.slice none 0 0]) 7 120 Tryz.underlying23 hi0 hz0 hz1 hz2 rfl (by decide) Sj j cj rows.flatten rfl hown3' _ _ 1 1 [str r.type,str r.cs,str r.id,str r.loc,.int .i64 r.how,.slice Ar nr cr,.slice Ar2 nr2 cr2] rfl hrow3' Hone.out (by unfold maxLen;omega) (by omega) hsS3' ?_)
      intro S' c'' w4 hown4 hb4 hgr4 hat4
      rw [← HW3.out] at hb4 hgr4
      obtain⟨hrb3,hkp3,hrows3,hpt3⟩:=Hsv.out
      have hrb4:=hrb3.belowB (by omega:base≤w3.heap.size) hb4
      have hkp4:Kp2 bn be w3 w4:=⟨Nat.le_trans hkp3.1 hb4.size,fun j hj h1 h2=>(hb4.block j hj).trans (hkp3.2 j hj h1 h2)⟩
      have hnew:∀ z,OldNewB L0 w3.heap.size (.slice Sj j cj) W3 z→OldNewB L0 w3.heap.size (.slice S' (j+1) c'') w4 z:=by
       intro z hz
       rcases hz with hz | hz
       · exact .inl hz
       · refine .inr ⟨hz.1,Nat.lt_of_lt_of_le hz.2.1 hb4.size,?_⟩
         rcases hat4 with e2 | e2
         · rw [e2];exact hz.2.2
         · rw [e2];intro e3;injection e3 with e3;have:=hz.2.1;have:=Hszz.out;omega
      have hcell:∀ a:Addr,OldNewB L0 w3.heap.size (.slice Sj j cj) W3 a.block→w4.cell? a=W3.cell? a:=fun a ha=>by
       rcases ha with ha | ha
       · exact hb4.cell (by omega)
       · exact World.cell?_of_block (hgr4.block _ ha.2.1 (fun e2=>ha.2.2 e2.symm))
      have hrows4:=PartsAt.app _ _ [r] [[str r.type,str r.cs,str r.id,str r.loc,.int .i64 r.how,.slice Ar nr cr,.slice Ar2 nr2 cr2]] (PartsAt.change hnew hcell _ _ hrows3) ⟨_,_,rfl,PartAt.change hnew hcell _ _ hpt3,rfl⟩
      have hown4':w4.ownsRow w3.heap.size 25 7 (.slice S' (j+1) c'') (j+1) (rows ++ [[str r.type,str r.cs,str r.id,str r.loc,.int .i64 r.how,.slice Ar nr cr,.slice Ar2 nr2 cr2]]).flatten:=by rw [List.flatten_append];simpa using hown4
      have Hend:=Lib.hid (And.intro hown4' (And.intro hrows4 (And.intro hrb4 hkp4)))
      clear hown4 hb4 hgr4 hat4 hrb3 hkp3 hrows3 hpt3 hrb4 hkp4 hnew hcell hrows4 hown4' hown3' hrow3'
      go_wp2_with fail
      obtain⟨b1,b2,b3,b4⟩:=Hend.out
      refine⟨⟨j+1,c'',ij+(flatD q).length,er,S',_,out ++ [r],rfl,by go_num,by omega,b1,b2,b3,b4,HE2,by have:=Hfl.out;omega⟩,by simp [intOf];omega⟩
    · obtain rfl:j=p.parts.length:=by omega
      have hE:=hEE.out
      rw [List.drop_of_length_le (Nat.le_refl _),rensD] at hE
      simp only [List.append_nil] at hE
      rw [List.drop_of_length_le (Nat.le_refl _),flatsD] at hT
      obtain⟨n5,hn5⟩:∃ n5,n5=p.parts.length:=⟨_,rfl⟩
      have hRE:=HRE.out
      rw [← hE] at hRE
      have HRE:=Lib.hid hRE
      have hX1:BoxF wr w.heap.size (str p.type) (str p.cs) (str p.id) (str p.loc) (.int .i64 p.how) (.slice A' B1.length c') (.slice A2 p.parts.length c2):=HX13.out.keep (hkp.2 _ (by omega) (by omega) (by omega))
      have hX2:BoxF wr (w.heap.size+1) (.string ⟨#[]⟩) (.string ⟨#[]⟩) (.string ⟨#[]⟩) (.string ⟨#[]⟩) (.int .i64 0) (.slice none 0 0) (.slice none 0 0):=HX23.out.keep (hkp.2 _ (by omega) (by omega) (by omega))
      obtain⟨w5,hw5⟩:∃ w5,w5=wr.setCell ⟨w.heap.size,6,none⟩ (.slice Sj p.parts.length cj):=⟨_,rfl⟩
      have hX15:BoxF w5 w.heap.size (str p.type) (str p.cs) (str p.id) (str p.loc) (.int .i64 p.how) (.slice A' B1.length c') (.slice Sj p.parts.length cj):=by rw [hw5];exact hX1.s6 _
      have hX25:BoxF w5 (w.heap.size+1) (.string ⟨#[]⟩) (.string ⟨#[]⟩) (.string ⟨#[]⟩) (.string ⟨#[]⟩) (.int .i64 0) (.slice none 0 0) (.slice none 0 0):=by rw [hw5];exact hX2.setFar (by show w.heap.size≠w.heap.size+1;omega) _
      obtain⟨w6,hw6⟩:∃ w6,w6=((((((w5.setCell ⟨w.heap.size+1,0,none⟩ (str p.type)).setCell ⟨w.heap.size+1,1,none⟩ (str p.cs)).setCell ⟨w.heap.size+1,2,none⟩ (str p.id)).setCell ⟨w.heap.size+1,3,none⟩ (str p.loc)).setCell ⟨w.heap.size+1,4,none⟩ (.int .i64 p.how)).setCell ⟨w.heap.size+1,5,none⟩ (.slice A' B1.length c')).setCell ⟨w.heap.size+1,6,none⟩ (.slice Sj p.parts.length cj):=⟨_,rfl⟩
      have hX26:Box7 w6 (w.heap.size+1) (str p.type) (str p.cs) (str p.id) (str p.loc) (.int .i64 p.how) (.slice A' B1.length c') (.slice Sj p.parts.length cj):=by rw [hw6];exact hX25.set7 _ _ _ _ _ _ _
      have hbk6:∀ x,x≠w.heap.size→x≠w.heap.size+1→w6.heap[x]? = wr.heap[x]?:=by
       intro x h1 h2
       rw [hw6,hw5]
       repeat rw [Below.heap_setCell _ _ _ _ (by assumption)]
      have hsz6:w6.heap.size=wr.heap.size:=by rw [hw6,hw5];simp [World.setCell]
      have hrb6:RB wB w6 bt bn be bw base ij ej:=by rw [hw6,hw5];exact(((((((hrb.far hbs _ _).far (by omega) _ _).far (by omega) _ _).far (by omega) _ _).far (by omega) _ _).far (by omega) _ _).far (by omega) _ _).far (by omega) _ _
      have hkp6:Kp2 bn be w w6:=⟨by have:=hkp.1;omega,fun x hx h1 h2=>(hbk6 x (by omega) (by omega)).trans ((HK13.out.trans hkp).2 x hx h1 h2)⟩
      have hszr:=hkp.1
      have hmr:∀ b,OldNewB L0 w3.heap.size (.slice Sj p.parts.length cj) wr b→OldNew L0 w.heap.size w6 b:=by
       intro b hb
       rcases hb with hb | hb
       · exact .inl hb
       · exact .inr ⟨by omega,by omega⟩
      have hmb:∀ b,OldNew L0 W.heap.size w3 b→OldNew L0 w.heap.size w6 b:=by
       intro b hb
       rcases hb with hb | hb
       · exact .inl hb
       · exact .inr ⟨by omega,by omega⟩
      have hsl6:SlS (OldNew L0 w.heap.size w6) w6 7 Sj p.parts.length rows.flatten:=SlS.change (own_sls hown) (fun b hb=>.inr ⟨by omega,by omega⟩) (fun a ha=>World.cell?_of_block (hbk6 _ (by omega) (by omega)))
      have hrows6:PartsAt (OldNew L0 w.heap.size w6) w6 out rows:=PartsAt.change hmr (fun a ha=>World.cell?_of_block (hbk6 _ (by rcases ha with ha | ha <;> omega) (by rcases ha with ha | ha <;> omega))) _ _ hrows
      have hb6:SlS (OldNew L0 w.heap.size w6) w6 1 A' B1.length (Lib.byteCells B1):=SlS.change Hb3.out hmb (fun a ha=>(World.cell?_of_block (hbk6 _ (by rcases ha with ha | ha <;> omega) (by rcases ha with ha | ha <;> omega))).trans (hkp.cell (by rcases ha with ha | ha <;> omega) (by rcases ha with ha | ha <;> omega) (by rcases ha with ha | ha <;> omega)))
      have hcj:=own_cap hown
      have hcjm:=own_capmax hown
      have hpt6:PartAt (OldNew L0 w.heap.size w6) w6 ⟨p.type,p.cs,p.id,p.loc,p.how,B1,out⟩ [str p.type,str p.cs,str p.id,str p.loc,.int .i64 p.how,.slice A' B1.length c',.slice Sj p.parts.length cj]:=
       ⟨A',B1.length,c',Sj,p.parts.length,cj,rows,rfl,Hbd.out,hb6,Hbcm.out.1,Hbcm.out.2,hsl6,hcj,hcjm,hrows6⟩
      have Hfin:=Lib.hid (And.intro hpt6 (And.intro hrb6 (And.intro hkp6 hT)))
      clear hpt6 hrb6 hkp6 hcj hcjm hb6 hrows6 hsl6 hmb hmr hsz6 hbk6 hrb hkp hown hrows hEE hE hRE hT hn5
      have⟨⟨x0,x1,x2,x3,x4,x5,x6⟩,xf⟩:=hX1
      have⟨⟨z0,z1,z2,z3,z4,z5,z6⟩,zf⟩:=hX25
      have HX15:=Lib.hid hX15
      have HX26:=Lib.hid hX26
      clear hX1 hX2 hX15 hX25 hX26
      go_upto_region 15 with fail
      rw [← hw5]
      clear hw5 x0 x1 x2 x3 x4 x5 x6 xf
      have⟨⟨x0,x1,x2,x3,x4,x5,x6⟩,xf⟩:=HX15.out
      go_wp2_with fail
      rw [← hw6]
      obtain⟨c0,c1,c2,c3,c4,c5,c6⟩:=HX26.out
      refine bodyPost_ret (v:=.agg #[str p.type,str p.cs,str p.id,str p.loc,.int .i64 p.how,.slice A' B1.length c',.slice Sj p.parts.length cj]) (by simp [results,Tryz.results21,go_sem,c0,c1,c2,c3,c4,c5,c6]) rfl ?_
      obtain⟨f1',f2',f3',f4'⟩:=Hfin.out
      rw [HRE.out]
      refine⟨_,rfl,f1',?_,f3'⟩
      have hij:ij=i+((flatsD p.parts).length+1):=by simp at f4';omega
      rw [hij] at f2'
      first | exact f2' | (rw [hfp];exact f2')
/-- The document's WhereAll. -/
theorem RWhere_any (p:PartD) (v:List Value) (w:World) (hM:MaxLenOk w) (hp:PartAt (· < w.heap.size) w p v) (hl:(flatD p).length≤1000) :
 Calls Tryz.prog 43 #[.agg v.toArray] w fun e w'=>∃ S c,e = .returned (.slice S (flatD p).length c)∧Sl w' w'.heap.size 1 S (flatD p).length ((whereD p).map str)∧Below w.heap.size w w':=by
 have hp0:=hp
 obtain⟨A,c,A2,c2,rfl,_⟩:=hp.open
 obtain⟨W1,hW1⟩:∃ X,X=w.alloc (.cells #[str p.type,str p.cs,str p.id,str p.loc,.int .i64 p.how,.slice A p.body.length c,.slice A2 p.parts.length c2] 25):=⟨_,rfl⟩
 obtain⟨W2,hW2⟩:∃ X,X=W1.alloc (.cells #[.slice none 0 0] 40):=⟨_,rfl⟩
 obtain⟨W3,hW3⟩:∃ X,X=W2.alloc (.cells #[.func (.func 79) #[] #[.pointer (some ⟨w.heap.size+1,0,none⟩),.pointer (some ⟨w.heap.size+1+1,0,none⟩)]] 118):=⟨_,rfl⟩
 have s1:W1.heap.size=w.heap.size+1:=by rw [hW1];simp
 have s2:W2.heap.size=w.heap.size+1+1:=by rw [hW2];simp [s1]
 have s3:W3.heap.size=w.heap.size+1+1+1:=by rw [hW3];simp [s2]
 have b1:Below w.heap.size w W1:=by rw [hW1];exact(Below.refl _ w).alloc (Nat.le_refl _) _
 have b2:Below W1.heap.size W1 W2:=by rw [hW2];exact(Below.refl _ _).alloc (Nat.le_refl _) _
 have b3:Below W2.heap.size W2 W3:=by rw [hW3];exact(Below.refl _ _).alloc (Nat.le_refl _) _
 have b12:=b2.trans (b3.mono b2.size)
 have b13:=b1.trans (b12.mono b1.size)
 have hbx:Box7 W1 w.heap.size (str p.type) (str p.cs) (str p.id) (str p.loc) (.int .i64 p.how) (.slice A p.body.length c) (.slice A2 p.parts.length c2):=by rw [hW1];exact Box7.new w _ _ _ _ _ _ _ _
 have⟨x0,x1,x2,x3,x4,x5,x6⟩:=hbx.below b12
 have e1:W2.heap[w.heap.size+1]? = some (.cells #[.slice none 0 0] 40 (0,0)):=by have:=heap_alloc_new W1 (.cells #[.slice none 0 0] 40);rw [s1] at this;rw [hW2];exact this
 have e2:W3.heap[w.heap.size+1+1]? = some (.cells #[.func (.func 79) #[] #[.pointer (some ⟨w.heap.size+1,0,none⟩),.pointer (some ⟨w.heap.size+1+1,0,none⟩)]] 118 (0,0)):=by
  have:=heap_alloc_new W2 (.cells #[.func (.func 79) #[] #[.pointer (some ⟨w.heap.size+1,0,none⟩),.pointer (some ⟨w.heap.size+1+1,0,none⟩)]] 118)
  rw [s2] at this;rw [hW3];exact this
 have e1':=(b3.block (w.heap.size+1) (by omega)).trans e1
 have hWB:WB w W3 (w.heap.size+1+1+1) (w.heap.size+1) (w.heap.size+1+1) []:=
  ⟨none,0,e1',e2,World.ownsRow_nil _ _ _ _,b13,by omega,by omega,by omega,by omega,by omega,by omega⟩
 have hrec:=walk_any w hM (w.heap.size+1+1+1) (w.heap.size+1) (w.heap.size+1+1) _ p _ [] [] W3 (Nat.le_refl _) hp0 (by decide) (by simpa using hl) hWB
 have hfun:W3.cell? ⟨w.heap.size+1+1,0,none⟩=some (.func (.func 79) #[] #[.pointer (some ⟨w.heap.size+1,0,none⟩),.pointer (some ⟨w.heap.size+1+1,0,none⟩)]):=by
  unfold World.cell?
  rw [e2]
  rfl
 rw [List.nil_append,← whereD_walk] at hrec
 have hlen:(whereD p).length=(flatD p).length:=by rw [whereD_walk,walkW_len]
 have eg:=enters_of Tryz.func79 (by kernel_rfl) rfl
 have Hrec:=Lib.hid hrec
 clear hrec hWB e1 e1' e2 b1 b2 b3 b12 hbx hp hp0
 go_enter Tryz.func43,Tryz.ntmps43
 go_upto_region 4 with fail
 rw [← hW1,← hW2,← hW3]
 clear hW1 hW2 hW3
 go_wp2_with fail
 refine Hrec.out.mono ?_
 rintro e w9 ⟨rfl,hW9⟩
 obtain⟨S,cS,h1,h2,h3,h4,h5,h6,h7,h8,h9,h10⟩:=hW9
 have⟨y0,y1⟩:=cellOW h1
 rw [hlen] at y0 h3
 have H3:=Lib.hid h3
 have H4:=Lib.hid h4
 clear h1 h2 h3 h4
 go_wp2_with fail
 go_ret
 exact⟨S,cS,rfl,Sl.of_own H3.out,H4.out⟩
theorem split_headG (c:UInt8):∀ l:List UInt8,∃ r,splitC c l=l.takeWhile (fun b=>b != c) :: r
 | []=>⟨[],rfl⟩
 | b :: l=>by
  obtain⟨r,hr⟩:=split_headG c l
  rw [splitC]
  by_cases h:b=c
  · rw [if_pos h]
    exact⟨_,by rw [List.takeWhile_cons_of_neg (by simp [h])]⟩
  · rw [if_neg h,hr]
    exact⟨r,by rw [List.takeWhile_cons_of_pos (by simp [h])];rfl⟩
theorem take_twG (c:UInt8):∀ l:List UInt8,l.take (l.takeWhile (fun b=>b != c)).length=l.takeWhile (fun b=>b != c)
 | []=>rfl
 | b :: l=>by
  rw [List.takeWhile_cons]
  split
  · rw [List.length_cons,List.take_succ_cons,take_twG c l]
  · rfl
theorem tw_noneG (c:UInt8):∀ l:List UInt8,c ∉ l→l.takeWhile (fun b=>b != c)=l
 | [],_=>rfl
 | b :: l,h=>by
  have h1:b≠c:=fun e=>h (by simp [e])
  rw [List.takeWhile_cons_of_pos (by simp [h1]),tw_noneG c l (fun hc=>h (by simp [hc]))]
theorem cut_twC (c:UInt8) (l:List UInt8):(Lib.cut l [c]).1=l.takeWhile (fun b=>b != c):=by
 have hi:=indexByte_tw l c
 by_cases h:c∈l
 · rw [if_pos h] at hi
   rw [cut_one_yes hi]
   exact take_twG c l
 · rw [if_neg h] at hi
   rw [cut_one_no (by rw [hi];decide)]
   exact(tw_noneG c l h).symm
theorem SplitH (l:List UInt8) (w:World) (hM:MaxLenOk w) (hl:l.length≤1000000):Calls Tryz.prog 45 #[str l,.string ⟨#[35]⟩] w fun e w'=>e = .returned (.slice (some ⟨w.heap.size,0,none⟩) (splitC 35 l).length (splitC 35 l).length)∧w'=w.alloc (.cells ((splitC 35 l).map str).toArray 9):=by
 obtain⟨m,hm⟩:=hM
 have hsz:(⟨l.toArray⟩:ByteArray).size=l.length:=by simp [ByteArray.size]
 refine(Go.Proofs.Tryz.strings_Split ⟨l.toArray⟩ ⟨#[35]⟩ m w (by rw [hsz];omega) hm (by decide)).mono ?_
 rintro e w' ⟨rfl,rfl⟩
 obtain⟨h1,h2⟩:=splitB_split 35 l
 rw [h1,h2]
 exact⟨rfl,rfl⟩
theorem no_any (s:List UInt8) (w:World) (hM:MaxLenOk w) (hs:s.length≤1000000) :
 Calls Tryz.prog 44 #[str s] w fun e w'=>e = .returned (str (bareB s))∧Below w.heap.size w w':=by
 have hb:bareB s=s.takeWhile (fun b=>b != 35):=by unfold bareB;exact cut_twC 35 s
 obtain⟨r,hr⟩:=split_headG 35 s
 rw [← hb] at hr
 have hc:=SplitH s w hM hs
 rw [hr] at hc
 have HC:=Lib.hid hc
 generalize bareB s=q at *
 clear hc hM hs hb hr
 go_enter Tryz.func44,Tryz.ntmps44
 go_wp2_with fail
 refine HC.out.mono ?_
 rintro e w1 ⟨rfl,hw1⟩
 have hb1:Below w.heap.size w w1:=by rw [hw1];exact(Below.refl _ _).alloc (Nat.le_refl _) _
 have hcell:w1.cell? ⟨w.heap.size,0,none⟩=some (str q):=by
  have:=heap_alloc_new w (.cells ((q :: r).map str).toArray 9)
  rw [hw1]
  unfold World.cell?
  rw [this]
  rfl
 have hn:(0:Int) < (((q :: r).length:Nat):Int):=by simp
 generalize (q :: r).length=N at hn ⊢
 clear hw1
 go_wp2_with fail
 go_ret
 exact⟨rfl,hb1⟩
def FlatRel (B:Nat) (parts all:List PartD) (n2:Nat) (w0 W:World) (lv iv:Value) (wr:World):Prop:=
 ∃ i m c S done rows,lv = .slice S m c∧iv = .int .i64 (i:Nat)∧i≤n2∧wr.ownsRow w0.heap.size 25 7 (.slice S m c) m rows.flatten∧PartsAt (· < B) wr done rows ∧
  Hid (done ++ flatsD (parts.drop i)=all∧done.length=m)∧1≤m∧Below W.heap.size W wr
theorem Flat_any (k:Nat):∀ (p:PartD) (v:List Value) (B:Nat) (w:World),(flatD p).length≤k→k≤1000→B≤w.heap.size→PartAt (· < B) w p v →
 Calls Tryz.prog 19 #[.agg v.toArray] w (AllRes B (flatD p) w):=by
 induction k with
 | zero=>intro p v B w h;rw [flatD_eq] at h;simp at h
 | succ k ih =>
  intro p v B w hk hk1 hB hp
  obtain⟨A,c,A2,c2,rfl,_,_,_,_,hP,hc2,hcm⟩:=hp.open
  have hall:=flatD_eq p
  have hrow:PartsAt (· < B) w [p] [[str p.type,str p.cs,str p.id,str p.loc,.int .i64 p.how,.slice A p.body.length c,.slice A2 p.parts.length c2]]:=⟨_,_,rfl,hp,rfl⟩
  obtain⟨n2,hn2⟩:∃ n2,n2=p.parts.length:=⟨_,rfl⟩
  rw [← hn2] at hP hrow hc2 ⊢
  obtain⟨L,hL⟩:∃ L,L=flatD p:=⟨_,rfl⟩
  rw [← hL] at hall hk ⊢
  have hn2m:n2≤9223372036854775807:=by unfold maxLen at hcm;omega
  have Hall:=Lib.hid hall
  have Hn2:=Lib.hid hn2
  have Hih:=Lib.hid ih
  have hk1000:L.length≤1000:=by omega
  have Hk:=Lib.hid hk
  obtain⟨W,hW⟩:∃ W,W=(w.alloc (.cells #[str p.type,str p.cs,str p.id,str p.loc,.int .i64 p.how,.slice A p.body.length c,.slice A2 n2 c2] 25)).alloc (.cells #[str p.type,str p.cs,str p.id,str p.loc,.int .i64 p.how,.slice A p.body.length c,.slice A2 n2 c2] 25):=⟨_,rfl⟩
  have hbW:Below w.heap.size w W:=by rw [hW];exact((Below.refl _ w).alloc (Nat.le_refl _) _).alloc (by simp) _
  have hbx:Box7 W w.heap.size (str p.type) (str p.cs) (str p.id) (str p.loc) (.int .i64 p.how) (.slice A p.body.length c) (.slice A2 n2 c2):=by
   rw [hW];exact(Box7.new w _ _ _ _ _ _ _ _).below ((Below.refl _ _).alloc (Nat.le_refl _) _)
  have hown0:W.ownsRow w.heap.size 25 7 (.slice (some ⟨w.heap.size+1,0,none⟩) 1 1) 1 [[str p.type,str p.cs,str p.id,str p.loc,.int .i64 p.how,.slice A p.body.length c,.slice A2 n2 c2]].flatten:=
   ⟨rfl,.inr ⟨w.heap.size+1,1,_,rfl,Nat.le_succ _,by
    rw [hW]
    have:=heap_alloc_new (w.alloc (.cells #[str p.type,str p.cs,str p.id,str p.loc,.int .i64 p.how,.slice A p.body.length c,.slice A2 n2 c2] 25)) (.cells #[str p.type,str p.cs,str p.id,str p.loc,.int .i64 p.how,.slice A p.body.length c,.slice A2 n2 c2] 25);simpa using this,Nat.le_refl _,by unfold maxLen;omega,rfl,rfl⟩⟩
  have Hown0:=Lib.hid hown0
  clear hall hL hn2 ih hk hcm hp hown0
  go_enter Tryz.func19,Tryz.ntmps19
  go_wp2_with fail
  rw [← hW]
  clear hW
  go_loopw [3,4] (FlatRel B p.parts L n2 w W) (fun _ iv _=>n2 - (intOf iv).toNat)
  case atStart=>exact⟨0,1,1,some ⟨w.heap.size+1,0,none⟩,[p],_,rfl,rfl,Nat.zero_le _,Hown0.out,PartsAt.change (fun _ h=>h) (fun a ha=>hbW.cell (Nat.lt_of_lt_of_le ha hB)) _ _ hrow,⟨Hall.out.symm,rfl⟩,Nat.le_refl _,Below.refl _ _⟩
  case round =>
   clear Hown0
   obtain⟨i,m,cl,S,done,rows,rfl,rfl,hi,hown,hrows,hE,hm1,hbelW⟩:=hrel
   have hbel:=hbW.trans (hbelW.mono hbW.size)
   have⟨y0,y1,y2,y3,y4,y5,y6⟩:=hbx.below hbelW
   clear y0 y1 y2 y3 y4 y5
   by_cases hin:i < n2
   · have hPr:=hP.belowN hbel hB
     obtain⟨b,off,q,A',n',c',A2',n2',c2',rfl,hbS,hq,hqa,x0,x1,x2,x3,x4,x5,x6⟩:=hPr.cells7 hin
     have hE1:=hE.out.1
     rw [hq,flatsD] at hE1
     have hlq:(flatD q).length≤k∧m+(flatD q).length≤1000:=by
      have h1:=congrArg List.length hE1
      have h2:=Hk.out
      have h3:=hE.out.2
      simp only [List.length_append] at h1
      omega
     have hcl:=Hih.out q _ B wr hlq.1 (by omega) (Nat.le_trans hB hbel.size) hqa
     have hE2:Hid ((done ++ flatD q) ++ flatsD (p.parts.drop (i+1))=L∧(done ++ flatD q).length=m+(flatD q).length):=⟨by rw [List.append_assoc];exact hE1,by rw [List.length_append,hE.out.2]⟩
     generalize flatD q=F at hcl hE2 hlq
     have Hcl:=Lib.hid hcl
     have Hown:=Lib.hid hown
     have Hrows:=Lib.hid hrows
     clear hE hE1 hq hqa hcl hPr hown hrows
     go_wp2_with fail
     clear x0 x1 x2 x3 x4 x5 x6 y6
     refine Hcl.out.mono ?_
     rintro e w1 ⟨S2,c2,rows2,rfl,hown2,hrows2,hb1⟩
     have hown1:=own_below Hown.out hb1
     have hrows1:=PartsAt.change (fun _ h=>h) (fun a ha=>hb1.cell (Nat.lt_of_lt_of_le ha (Nat.le_trans hB hbel.size))) _ _ Hrows.out
     have hbel1:=hbel.trans (hb1.mono hbel.size)
     have hbelW1:=hbelW.trans (hb1.mono hbelW.size)
     have hone1:=PartsAt.one _ _ hrows1
     have hone2:=PartsAt.one _ _ hrows2
     have hsl1:=Sl.of_own hown1
     have hsl2:=Sl.of_own hown2
     clear Hcl Hown Hrows hown1 hown2 hb1 hbelW hbel
     go_wp2_with fail
     have hbA:=(Below.refl w1.heap.size w1).alloc (Nat.le_refl _) (.cells #[.slice S m cl,.slice S2 F.length c2] 23)
     have hszA:(w1.alloc (.cells #[.slice S m cl,.slice S2 F.length c2] 23)).heap.size=w1.heap.size+1:=by simp
     have hSl:=Sl.row w1 23 1 2 [.slice S m cl,.slice S2 F.length c2] rfl
     have hcat:=Concat_Part (some ⟨w1.heap.size,0,none⟩) S S2 2 m cl F.length c2 rows.flatten rows2.flatten (w1.alloc (.cells #[.slice S m cl,.slice S2 F.length c2] 23)) (by rw [hszA];exact hSl) ((hsl1.below hbA).more hbA.size) ((hsl2.below hbA).more hbA.size) hone1 hone2 (by omega)
     refine hcat.mono ?_
     clear hcat hSl hsl1 hsl2 hone1 hone2
     rintro e w4 ⟨S4,c4,rfl,hown4,hb4⟩
     have hb14:=hbA.trans (hb4.mono hbA.size)
     have hbel4:=hbel1.trans (hb14.mono hbel1.size)
     have hbelW4:=hbelW1.trans (hb14.mono hbelW1.size)
     have hr1:=PartsAt.change (fun _ h=>h) (fun a ha=>hb14.cell (Nat.lt_of_lt_of_le ha (Nat.le_trans hB hbel1.size))) _ _ hrows1
     have hr2:=PartsAt.change (fun _ h=>h) (fun a ha=>hb14.cell (Nat.lt_of_lt_of_le ha (Nat.le_trans hB hbel1.size))) _ _ hrows2
     have hs1:=hbel1.size
     have hown5:=own_base (base':=w.heap.size) hown4 (by rw [hszA];omega)
     clear hrows1 hrows2 hown4 hb4 hb14
     go_wp2_with fail
     exact⟨⟨i+1,m+F.length,c4,S4,done ++ F,rows ++ rows2,rfl,by go_num,by omega,by rw [List.flatten_append];exact hown5,PartsAt.app _ _ _ _ hr1 hr2,hE2,by omega,hbelW4⟩,by simp [intOf];omega⟩
   · have hE1:Hid (done=L∧L.length=m):=by
      have h1:=hE.out.1
      rw [List.drop_of_length_le (by rw [hP.len];omega),flatsD,List.append_nil] at h1
      exact⟨h1,by rw [← h1];exact hE.out.2⟩
     clear hE
     go_wp2_with fail
     go_ret
     obtain⟨rfl,rfl⟩:=hE1.out
     exact⟨S,cl,rows,rfl,hown,hrows,hbel⟩
def okP (lo hi:Nat) (but:List UInt8) (x:Nat):Bool:=!(decide (x < lo) || decide (hi < x) || decide (0≤Lib.indexByte but (x:Int).toNat.toUInt8))
theorem all_missP (l:List UInt8) (p:Nat→Bool) (k:Nat) (hk:k < l.length) (h:p (nth l k)=false):l.all (fun b=>p b.toNat)=false:=by
 rw [List.all_eq_false]
 exact⟨l[k],List.getElem_mem hk,by rw [← nth_of l k hk,h];simp⟩
theorem all_hitP (l:List UInt8) (p:Nat→Bool) (h:∀ j,j < l.length→p (nth l j)=true):l.all (fun b=>p b.toNat)=true:=by
 rw [List.all_eq_true]
 intro x hx
 obtain⟨j,hj,rfl⟩:=List.getElem_of_mem hx
 rw [← nth_of l j hj,h j hj]
theorem betweenP_any (l:List UInt8) (lo hi:Nat) (but:ByteArray) (w:World) (hl:l.length≤maxLen) (_h1:lo < 256) (_h2:hi < 256) :
 Calls Tryz.prog 49 #[str l,.int .u8 (lo:Nat),.int .u8 (hi:Nat),.string but] w fun e w'=>e = .returned (.bool (l.all (fun b=>okP lo hi but.data.toList b.toNat)))∧w'=w:=by
 unfold maxLen at hl
 have hm:=fun k=>all_missP l (okP lo hi but.data.toList) k
 have ha:=all_hitP l (okP lo hi but.data.toList)
 generalize l.all (fun b=>okP lo hi but.data.toList b.toNat)=r at hm ha ⊢
 obtain⟨n,hn⟩:∃ n,n=l.length:=⟨_,rfl⟩
 rw [← hn] at hm ha hl
 have Hn:=Lib.hid hn
 have Hm:=Lib.hid hm
 have Ha:=Lib.hid ha
 clear hn hm ha
 go_enter Tryz.func49,Tryz.ntmps49
 go_wp2_with fail
 rw [← Hn.out]
 go_loopw [12] (fun iv wr=>∃ k:Nat,k≤n∧iv = .int .i64 k∧wr=w∧Hid (∀ j,j < k→okP lo hi but.data.toList (nth l j)=true)) (fun iv _=>n - (intOf iv).toNat)
 case atStart=>exact⟨0,by omega,rfl,rfl,Lib.hid fun j hj=>absurd hj (by omega)⟩
 case round =>
  obtain⟨k,hk,rfl,rfl,hz⟩:=hrel
  by_cases hkn:k < n
  · have hkl:k < l.length:=by rw [← Hn.out];exact hkn
    have hmk:=Hm.out k hkn
    have hx:nth l k < 256:=nth_lt l k
    by_cases c1:nth l k < lo
    · have d1:decide (((nth l k:Nat):Int) < lo)=true:=by simp;omega
      have hr:Hid (r=false):=hmk (by simp [okP,c1])
      clear hmk
      go_wp2_with fail
      go_ret
      exact⟨by rw [hr.out];rfl,rfl⟩
    · have d1:decide (((nth l k:Nat):Int) < lo)=false:=by simp;omega
      by_cases c2:hi < nth l k
      · have d2:decide ((hi:Int) < (nth l k:Nat))=true:=by simp;omega
        have hr:Hid (r=false):=hmk (by simp [okP,c2])
        clear hmk
        go_wp2_with fail
        go_ret
        exact⟨by rw [hr.out];rfl,rfl⟩
      · have d2:decide ((hi:Int) < (nth l k:Nat))=false:=by simp;omega
        have hib:=fun W=>Go.Proofs.Tryz.strings_IndexByte but (nth l k:Nat) W
        have hok:okP lo hi but.data.toList (nth l k) = !decide (0≤Lib.indexByte but.data.toList ((nth l k:Nat):Int).toNat.toUInt8):=by simp [okP,c1,c2]
        generalize Lib.indexByte but.data.toList ((nth l k:Nat):Int).toNat.toUInt8=z at hib hok
        have Hib:=Lib.hid hib
        have Hok:=Lib.hid hok
        clear hib hok
        by_cases c3:0≤z
        · have d3:decide (0≤z)=true:=by simpa using c3
          have hr:Hid (r=false):=hmk (by rw [Hok.out,d3];rfl)
          clear hmk
          go_wp2_with fail
          refine(Hib.out _).mono ?_
          rintro e w1 ⟨rfl,rfl⟩
          go_wp2_with fail
          go_ret
          exact⟨by rw [hr.out];rfl,rfl⟩
        · have d3:decide (0≤z)=false:=by simpa using c3
          clear hmk
          go_wp2_with fail
          refine(Hib.out _).mono ?_
          rintro e w1 ⟨rfl,rfl⟩
          go_wp2_with fail
          refine⟨⟨k+1,by omega,by go_num,trivial,Lib.hid fun j hj=>?_⟩,by simp [intOf];omega⟩
          rcases Nat.lt_or_ge j k with h | h
          · exact hz.out j h
          · rw [show j=k from by omega,Hok.out,d3];rfl
  · have hr:Hid (r=true):=Ha.out fun j hj=>hz.out j (by omega)
    go_wp2_with fail
    go_ret
    exact⟨by rw [hr.out];rfl,rfl⟩
theorem okP_tok (x:Nat) (hx:x < 256):okP 33 126 tspec x = !badTok x:=by
 unfold okP badTok idxB
 rw [show(x:Int).toNat.toUInt8=UInt8.ofNat x from rfl]
 congr 3
 simp;omega
theorem all_not (l:List UInt8) (p q:Nat→Bool) (h:∀ x,x < 256→p x = !q x):l.all (fun b=>p b.toNat) = !l.any (fun b=>q b.toNat):=by
 induction l with
 | nil=>rfl
 | cons a l ih=>rw [List.all_cons,List.any_cons,ih,h _ a.toNat_lt];simp
theorem IsToken_any (l:List UInt8) (w:World) (hl:l.length≤maxLen):Calls Tryz.prog 40 #[str l] w fun e w'=>e = .returned (.bool (tokB l))∧w'=w:=by
 have hb:=betweenP_any l 33 126 ⟨#[40,41,60,62,64,44,59,58,92,34,47,91,93,63,61]⟩ w hl (by omega) (by omega)
 rw [show(ByteArray.mk #[40,41,60,62,64,44,59,58,92,34,47,91,93,63,61]).data.toList=tspec from rfl,all_not l (okP 33 126 tspec) badTok okP_tok] at hb
 have ht:tokB l=(decide (1≤l.length) && decide (l.length≤30) && !l.any (fun b=>badTok b.toNat)):=by
  unfold tokB
  cases l <;> simp
 rw [ht]
 generalize l.any (fun b=>badTok b.toNat)=r at hb ⊢
 have Hb:=Lib.hid hb
 unfold maxLen at hl
 clear hb ht
 go_enter Tryz.func40,Tryz.ntmps40
 go_wp2_with fail
 case' _ =>
  refine Hb.out.mono ?_
  rintro e w1 ⟨rfl,rfl⟩
  go_wp2_with fail
  go_ret
  have e1:decide (1≤l.length)=true:=by simp;omega
  have e2:decide (l.length≤30)=true:=by simp;omega
  exact⟨by rw [e1,e2];simp,rfl⟩
 case' _ =>
  go_ret
  have e2:decide (l.length≤30)=false:=by simp;omega
  exact⟨by rw [e2];simp,rfl⟩
 go_ret
 have e1:decide (1≤l.length)=false:=by rw [decide_eq_false_iff_not];omega
 exact⟨by rw [e1];simp,rfl⟩
theorem okP_word (x:Nat) (hx:x < 256):okP 33 126 [34,60,62] x = !badWord x:=by
 revert hx;revert x;decide +kernel
theorem IsWord_any (l:List UInt8) (w:World) (hl:l.length≤maxLen):Calls Tryz.prog 41 #[str l] w fun e w'=>e = .returned (.bool (wordB l))∧w'=w:=by
 have hb:=betweenP_any l 33 126 ⟨#[34,60,62]⟩ w hl (by omega) (by omega)
 rw [show(ByteArray.mk #[34,60,62]).data.toList = [34,60,62] from rfl,all_not l (okP 33 126 [34,60,62]) badWord okP_word] at hb
 unfold wordB
 generalize l.any (fun b=>badWord b.toNat)=r at hb ⊢
 have Hb:=Lib.hid hb
 unfold maxLen at hl
 clear hb
 go_enter Tryz.func41,Tryz.ntmps41
 go_wp2_with fail
 case' _ =>
  refine Hb.out.mono ?_
  rintro e w1 ⟨rfl,rfl⟩
  go_wp2_with fail
  go_ret
  have e2:decide (l.length≤120)=true:=by simp;omega
  exact⟨by rw [e2];simp,rfl⟩
 go_ret
 have e1:decide (l.length≤120)=false:=by rw [decide_eq_false_iff_not];omega
 exact⟨by rw [e1];simp,rfl⟩
theorem many_take (l:List UInt8):manyB l=(List.take 10 l == [109,117,108,116,105,112,97,114,116,47]):=by
 unfold manyB Lib.hasPrefix
 rw [Bool.eq_iff_iff,List.isPrefixOf_iff_prefix,List.prefix_iff_eq_take,beq_iff_eq]
 exact eq_comm
theorem IsMany_any (l:List UInt8) (w:World) (hl:l.length≤maxLen):Calls Tryz.prog 38 #[str l] w fun e w'=>e = .returned (.bool (manyB l))∧w'=w:=by
 unfold maxLen at hl
 by_cases h10:10≤l.length
 · have i1:(10:Int)≤l.length:=by omega
   have i0:(0:Int)≤10:=by omega
   go_enter Tryz.func38,Tryz.ntmps38
   go_wp2_with fail
   go_ret
   exact⟨by rw [many_take];rfl,rfl⟩
 · go_enter Tryz.func38,Tryz.ntmps38
   go_wp2_with fail
   go_ret
   refine⟨?_,rfl⟩
   have:manyB l=false:=by
    unfold manyB Lib.hasPrefix
    rw [Bool.eq_false_iff]
    intro h
    have:=(List.isPrefixOf_iff_prefix.1 h).length_le
    simp at this
    omega
   rw [this];rfl
end Go.Proofs.YtlgbopjhmemaoaaGreatDoor
