import Derived.Test.YtlgbopjhmemaoaaGreatDoorU13
import Derived.Test.YtlgbopjhmemaoaaGreatDoorU11
import Derived.Test.YtlgbopjhmemaoaaGreatDoorU12
import Derived.Test.YtlgbopjhmemaoaaGreatDoorU6
import Derived.Test.YtlgbopjhmemaoaaGreatDoorU9
import Derived.Lib.AppendZerosOnto
import Derived.Lib.Overlaps
import Derived.Lib.SliceRun
import Derived.Laws.CopyOwn
import Derived.Laws.IdiomCopy
import Derived.Deep.RegionLaw
set_option maxRecDepth 100000
set_option maxHeartbeats 40000000
namespace Go.Proofs.YtlgbopjhmemaoaaGreatDoor
open Go.RowKit
theorem infoStr3:(Tryz.prog.info? 9).map (fun i=>(i.zero,i.size,i.bytes))=some (some (.string ⟨#[]⟩),1,16):=by kernel_rfl
theorem infoBs3:(Tryz.prog.info? 22).map (fun i=>(i.zero,i.size,i.bytes))=some (some (.slice none 0 0),1,24):=by kernel_rfl
def NamesOut (p:PartD) (ns:List NameD) (w:World) (e:Ending) (w':World):Prop:=
 ∃ v:List Value,e = .returned (.tuple #[.agg v.toArray,.int .i64 ((namesE p ns).2:Nat)])∧PartAt (fun b=>w.heap.size≤b∧b < w'.heap.size) w' (namesE p ns).1 v∧Below w.heap.size w w'
theorem zero_cells {S:Nat→Prop} (w:World):PartAt S w zeroP [.string ⟨#[]⟩,.string ⟨#[]⟩,.string ⟨#[]⟩,.string ⟨#[]⟩,.int .i64 0,.slice none 0 0,.slice none 0 0]:=
 ⟨none,0,0,none,0,0,[],rfl,by refine⟨?_,?_,?_,?_,?_,?_⟩ <;> decide,⟨rfl,fun h=>absurd h (by simp)⟩,Nat.le_refl _,Nat.zero_le _,⟨rfl,fun h=>absurd h (by omega)⟩,Nat.le_refl _,Nat.zero_le _,rfl⟩
theorem below_seven {C:Nat} {w0 w:World} {b:Nat} (h:Below C w0 w) (hC:C≤b) (v0 v1 v2 v3 v4 v5 v6:Value):Below C w0 (((((((w.setCell ⟨b,0,none⟩ v0).setCell ⟨b,1,none⟩ v1).setCell ⟨b,2,none⟩ v2).setCell ⟨b,3,none⟩ v3).setCell ⟨b,4,none⟩ v4).setCell ⟨b,5,none⟩ v5).setCell ⟨b,6,none⟩ v6):=
 ((((((h.setCell hC _).setCell hC _).setCell hC _).setCell hC _).setCell hC _).setCell hC _).setCell hC _
/-- The bodies' row under way. -/
def BodRow (L:Nat) (w:World) (i c:Nat) (S:Option Addr) (vs:List Value) (out:List (List UInt8)):Prop:=
 ∀ j v,vs[j]? = some v→∃ A d,v = .slice A (out.getD j []).length d∧SlS (fun b=>L≤b∧b < w.heap.size∧Value.ownBlock (.slice S i c)≠some b) w 1 A (out.getD j []).length (Lib.byteCells (out.getD j []))∧(out.getD j []).length≤d∧d≤maxLen
theorem BodRow.below {L:Nat} {w w':World} {i c:Nat} {S:Option Addr} {vs:List Value} {out:List (List UInt8)} (h:BodRow L w i c S vs out) (hb:Below w.heap.size w w'):BodRow L w' i c S vs out:=by
 intro j v hv
 obtain⟨A,d,h1,h2,h3,h4⟩:=h j v hv
 exact⟨A,d,h1,SlS.change h2 (fun b hx=>⟨hx.1,by have:=hb.size;omega,hx.2.2⟩) (fun q hq=>hb.cell hq.2.1),h3,h4⟩
theorem BodRow.app {L:Nat} {w w':World} {i c c':Nat} {S S':Option Addr} {vs:List Value} {out:List (List UInt8)} (h:BodRow L w i c S vs out) (hvl:vs.length=i) (hol:out.length=i) (A:Option Addr) (d:Nat) (x:List UInt8)
 (hx:SlS (fun b=>L≤b∧b < w.heap.size∧Value.ownBlock (.slice S i c)≠some b) w 1 A x.length (Lib.byteCells x)) (h1:x.length≤d) (h2:d≤maxLen)
 (hgr:w.grownBy w' (Value.ownBlock (.slice S i c))) (hat:Value.ownBlock (.slice S' (i+1) c')=Value.ownBlock (.slice S i c)∨Value.ownBlock (.slice S' (i+1) c')=some w.heap.size):BodRow L w' (i+1) c' S' (vs ++ [.slice A x.length d]) (out ++ [x]):=by
 have hch:∀ (A:Option Addr) (y:List UInt8),SlS (fun b=>L≤b∧b < w.heap.size∧Value.ownBlock (.slice S i c)≠some b) w 1 A y.length (Lib.byteCells y)→SlS (fun b=>L≤b∧b < w'.heap.size∧Value.ownBlock (.slice S' (i+1) c')≠some b) w' 1 A y.length (Lib.byteCells y):=by
  intro A y hy
  refine SlS.change hy (fun b hb=>⟨hb.1,by have:=hgr.size;omega,?_⟩) (fun q hq=>World.cell?_of_block (hgr.block _ hq.2.1 (fun e=>hq.2.2 e.symm)))
  rcases hat with e | e
  · rw [e];exact hb.2.2
  · rw [e]
    intro e2
    injection e2 with e2
    omega
 intro j v hv
 rcases Nat.lt_or_ge j i with hj | hj
 · rw [List.getElem?_append_left (by omega)] at hv
   obtain⟨A',d',g1,g2,g3,g4⟩:=h j v hv
   have e:(out ++ [x]).getD j []=out.getD j []:=by rw [List.getD_eq_getElem?_getD,List.getD_eq_getElem?_getD,List.getElem?_append_left (by omega)]
   rw [e]
   exact⟨A',d',g1,hch _ _ g2,g3,g4⟩
 · rw [List.getElem?_append_right (by omega),hvl] at hv
   have hj0:j - i=0:=by
    rcases Nat.eq_zero_or_pos (j - i) with h' | h'
    · exact h'
    · rw [List.getElem?_eq_none (by simp;omega)] at hv;cases hv
   rw [hj0] at hv
   have hv:=Option.some.inj hv
   subst hv
   have e:(out ++ [x]).getD j []=x:=by rw [List.getD_eq_getElem?_getD,List.getElem?_append_right (by omega),hol,hj0];rfl
   rw [e]
   exact⟨A,d,rfl,hch _ _ hx,h1,h2⟩
def BoRel (n:Nat) (F:List PartD) (ns:List NameD) (gs:List GoalD) (RB:List (List UInt8) × Nat) (w3:World) (rv ev ov iv:Value) (wr:World):Prop:=
 ∃ (i c:Nat) (S:Option Addr) (vs:List Value) (out:List (List UInt8)),rv = .int .i64 0∧ev = .int .i64 0∧iv = .int .i64 (i:Nat)∧i≤n∧ov = .slice S i c∧out.length=i ∧
  wr.ownsRow w3.heap.size 22 1 (.slice S i c) i vs∧BodRow w3.heap.size wr i c S vs out∧Below w3.heap.size w3 wr∧Hid (bodiesF ns gs (F.drop i) i out=RB)
theorem textsN_nil (ns:List NameD) (i:Nat):textsN ns [] i = []:=rfl
theorem textsN_cons (ns:List NameD) (g:GoalD) (r:List GoalD) (i:Nat):textsN ns (g :: r) i=if g.part=i then ofN ns g.find :: textsN ns r i else textsN ns r i:=by
 unfold textsN
 by_cases h:g.part=i
 · rw [if_pos h,List.filter_cons_of_pos (by simpa using h),List.map_cons]
 · rw [if_neg h,List.filter_cons_of_neg (by simpa using h)]
theorem ofN_len {ns:List NameD} (h:∀ n∈ns,nameB n.name=true) (k:Int):(ofN ns k).length≤30:=by
 induction ns with
 | nil=>exact Nat.zero_le _
 | cons x r ih =>
  rw [ofN]
  split
  · have:=h x (by simp)
    unfold nameB at this
    simp only [Bool.and_eq_true,decide_eq_true_eq] at this
    exact this.2.1
  · exact ih (fun n hn=>h n (by simp [hn]))
theorem sumL_le (ts:List (List UInt8)) (h:∀ t∈ts,t.length≤30):sumL ts≤ts.length * 30:=by
 induction ts with
 | nil=>exact Nat.zero_le _
 | cons x r ih =>
  have h1:=h x (by simp)
  have h2:=ih (fun t ht=>h t (by simp [ht]))
  simp only [sumL,List.map_cons,List.sum_cons,List.length_cons] at h2 ⊢
  omega
def TxRel (gn i:Nat) (ns:List NameD) (gs:List GoalD) (wa:World) (tv jv:Value) (wx:World):Prop:=
 ∃ (j m c:Nat) (S:Option Addr) (txt:List (List UInt8)),jv = .int .i64 (j:Nat)∧j≤gn∧tv = .slice S m c∧m=txt.length∧m≤j∧wx.ownsRow wa.heap.size 9 1 (.slice S m c) m (txt.map str)∧Below wa.heap.size wa wx ∧
  Hid (txt ++ textsN ns (gs.drop j) i=textsN ns gs i)∧Hid (∀ t∈txt,t.length≤30)
theorem Names_any (p:PartD) (v:List Value) (NA:Option Addr) (nn nc:Nat) (ns:List NameD) (w:World) (hM:MaxLenOk w) (hp:PartAt (· < w.heap.size) w p v) (hns:Sl w w.heap.size 2 NA nn (nameC ns)) (hnn:nn≤nc) (hnc:nc≤maxLen) (hok0:NamesOk ns) :
 Calls Tryz.prog 4 #[.agg v.toArray,.slice NA nn nc] w (NamesOut p ns w):=by
 have hok:=checkD_ok p
 have hal:=fun W h=>All_any p v W h
 have hgl:=fun W hM h=>Goals_any p v W hM h
 have hcp:=fun W h1 h2 h=>Copy_tree 1000 p v W h1 (Nat.le_refl _) h2 h
 have hck:=fun(W:World) h=>CheckNames_any NA nn nc ns ((flatD p).length:Nat) W h hnn hnc hok0
 have hof:=fun(W:World) k h=>of_any NA nn nc ns k W h (by omega)
 unfold AllOut at hal
 unfold GoalsOut at hgl
 unfold NamesOut
 have hgz:=goalsE_zero (p:=p)
 obtain⟨R,hR⟩:∃ R,R=namesE p ns:=⟨_,rfl⟩
 rw [← hR]
 unfold namesE at hR
 have hnl:ns.length=nn:=by have:=hns.1;rw [nameC_len] at this;omega
 obtain⟨A,c,A2,c2,rfl,_⟩:=hp.open
 obtain⟨W,hW⟩:∃ W,W=(w.alloc (.cells #[str p.type,str p.cs,str p.id,str p.loc,.int .i64 p.how,.slice A p.body.length c,.slice A2 p.parts.length c2] 25)).alloc (.cells #[.string ⟨#[]⟩,.string ⟨#[]⟩,.string ⟨#[]⟩,.string ⟨#[]⟩,.int .i64 0,.slice none 0 0,.slice none 0 0] 25):=⟨_,rfl⟩
 have hbW:Below w.heap.size w W:=by rw [hW];exact((Below.refl _ w).alloc (Nat.le_refl _) _).alloc (by simp) _
 have hsW:W.heap.size=w.heap.size+2:=by rw [hW];simp
 have hx1:BoxF W w.heap.size (str p.type) (str p.cs) (str p.id) (str p.loc) (.int .i64 p.how) (.slice A p.body.length c) (.slice A2 p.parts.length c2):=by
  refine BoxF.of_block (t:=25) ?_
  rw [hW,Lib.alloc_old _ _ _ (by simp)]
  exact heap_alloc_new w _
 have hx2:BoxF W (w.heap.size+1) (.string ⟨#[]⟩) (.string ⟨#[]⟩) (.string ⟨#[]⟩) (.string ⟨#[]⟩) (.int .i64 0) (.slice none 0 0) (.slice none 0 0):=by
  refine BoxF.of_block (t:=25) ?_
  rw [hW]
  have:=heap_alloc_new (w.alloc (.cells #[str p.type,str p.cs,str p.id,str p.loc,.int .i64 p.how,.slice A p.body.length c,.slice A2 p.parts.length c2] 25)) (.cells #[.string ⟨#[]⟩,.string ⟨#[]⟩,.string ⟨#[]⟩,.string ⟨#[]⟩,.int .i64 0,.slice none 0 0,.slice none 0 0] 25)
  simpa using this
 have Hal:=Lib.hid hal
 have Hgl:=Lib.hid hgl
 have Hcp:=Lib.hid hcp
 have Hck:=Lib.hid hck
 have Hof:=Lib.hid hof
 have Hp:=Lib.hid hp
 have HM:=Lib.hid hM
 have Hns:=Lib.hid hns
 have Hgz:=Lib.hid hgz
 have Hok0:=Lib.hid hok0
 have Hnl:=Lib.hid hnl
 have HgoodN:=Lib.hid (fun h=>namesF_good (flatD p).length ns [] h)
 have Hgf:=Lib.hid (show goalsD p=goalsF (flatD p) (whereD p) (flatD p) (whereD p) 0 [] from rfl)
 clear hal hgl hcp hck hof hp hM hns hgz hok0 hnl
 obtain⟨n,hn⟩:∃ n,n=(flatD p).length:=⟨_,rfl⟩
 rw [← hn] at Hal Hck Hcp HgoodN hR
 have HW:=Lib.hid hW
 clear hW
 by_cases hK:checkD p=0
 · rw [hK] at Hal
   simp only [if_true] at Hal
   obtain⟨h12,hch⟩:=hok hK
   rw [← hn] at h12
   have hbod:∀ q∈flatD p,q.body.length≤4000:=fun q hq=>chk_body q (hch q hq)
   have Hbod:=Lib.hid hbod
   have Hn:=Lib.hid hn
   have HK:=Lib.hid hK
   rw [if_neg (by simpa using hK)] at hR
   have hE2:=goalsE_zero (p:=p) hK
   obtain⟨K2,hK2⟩:∃ K2,K2=namesF n [] ns:=⟨_,rfl⟩
   obtain⟨gs,gK,hgE⟩:∃ gs gK,goalsE p=(gs,gK):=⟨_,_,rfl⟩
   rw [hgE] at Hgl hR hE2
   rw [← hK2] at Hck hR
   simp only at Hgl hR hE2
   have HR:=Lib.hid hR
   have HE2:=Lib.hid hE2
   have HK2:=Lib.hid hK2
   clear hR hE2 hK2 hgE hK hn hok hch hbod
   have⟨⟨x0,x1,x2,x3,x4,x5,x6⟩,_⟩:=hx1
   go_enter Tryz.func4,Tryz.ntmps4
   go_upto_region 1 with fail
   rw [← HW.out]
   go_wp2_with fail
   refine(Hal.out W ((Hp.out.below hbW).more hbW.size)).mono ?_
   rintro e w1 ⟨S1,c1,rfl,hs1,hc1,hm1,hb1⟩
   have hbel1:=hbW.trans (hb1.mono hbW.size)
   have hy1:=hx1.below hb1 (by omega)
   have hy2:=hx2.below hb1 (by omega)
   have hz1:w.heap.size+2≤w1.heap.size:=by rw [← hsW];exact hb1.size
   clear x0 x1 x2 x3 x4 x5 x6 hx1 hx2 hb1 hbW hsW Hal
   unfold maxLen at hm1
   have HckW:=Hck.out w1 ((Sl.below Hns.out hbel1).more hbel1.size)
   have HckH:=Lib.hid HckW
   have Hs1:=Lib.hid hs1
   clear HckW hs1
   go_wp2_with fail
   refine HckH.out.mono ?_
   rintro e w2 ⟨rfl,hb2⟩
   have hbel2:=hbel1.trans (hb2.mono hbel1.size)
   have hx1:=hy1.below hb2 (by omega)
   have hx2:=hy2.below hb2 (by omega)
   have hz2:w.heap.size+2≤w2.heap.size:=Nat.le_trans hz1 hb2.size
   have Hs2:=Lib.hid ((Hs1.out.below hb2).more hb2.size)
   clear hb2 hy1 hy2 hbel1 hz1 HckH Hs1
   by_cases hk2:K2=0
   · subst hk2
     have hgood:=HgoodN.out HK2.out.symm
     have Hgood:=Lib.hid hgood
     have HglW:=Lib.hid (Hgl.out w2 (HM.out.below hbel2) ((Hp.out.below hbel2).more hbel2.size))
     have⟨⟨x0,x1,x2,x3,x4,x5,x6⟩,_⟩:=hx1
     clear hgood
     go_wp2_with fail
     refine HglW.out.mono ?_
     rintro e w3 ⟨S2,cg,rfl,hown3,hb3⟩
     have hbel3:=hbel2.trans (hb3.mono hbel2.size)
     have hy1:=hx1.below hb3 (by omega)
     have hy2:=hx2.below hb3 (by omega)
     have hz3:w.heap.size+2≤w3.heap.size:=Nat.le_trans hz2 hb3.size
     have Hs1:=Lib.hid ((Hs2.out.below hb3).more hb3.size)
     have HsG:=Lib.hid (Sl.of_own hown3)
     clear x0 x1 x2 x3 x4 x5 x6 hx1 hx2 hb3 hown3 hbel2 hz2 HglW Hs2 Hgl Hck
     by_cases hgk:gK=0
     · subst hgk
       have hgd:=HE2.out rfl
       have hgcap:gs.length≤720:=by
        rw [Hgf.out] at hgd
        have:=goalsF_len _ _ _ _ _ _ _ hgd
        simp only [List.length_nil,← Hn.out] at this
        omega
       obtain⟨gn,hgn⟩:∃ gn,gn=gs.length:=⟨_,rfl⟩
       rw [← hgn] at HsG hgcap ⊢
       have Hgn:=Lib.hid hgn
       obtain⟨RB,hRB⟩:∃ RB,RB=bodiesF ns gs (flatD p) 0 []:=⟨_,rfl⟩
       have hr:=HR.out
       rw [if_neg (by simp),if_neg (by simp),← hRB] at hr
       have HRR:=Lib.hid hr
       have HRB:=Lib.hid hRB
       have HbX:=Lib.hid hy1
       have HbY:=Lib.hid hy2
       have Hbel3:=Lib.hid hbel3
       obtain⟨i0,hi0,hi1,hi2,hi3⟩:=info_parts infoStr3
       have HI0:=Lib.hid (And.intro hi0 (And.intro hi1 (And.intro hi2 hi3)))
       obtain⟨i1,hj0,hj1,hj2,hj3⟩:=info_parts infoBs3
       have HI1:=Lib.hid (And.intro hj0 (And.intro hj1 (And.intro hj2 hj3)))
       clear hr hRB hgn hgd hbel3 hy1 hy2 hi0 hi1 hi2 hi3 hj0 hj1 hj2 hj3 HR HE2
       go_wp2_with fail
       go_loopw [5,7,10,46] (BoRel n (flatD p) ns gs RB w3) (fun _ _ _ iv _=>n - (intOf iv).toNat)
       case atStart=>exact⟨0,0,none,[],[],rfl,rfl,rfl,Nat.zero_le _,rfl,rfl,World.ownsRow_nil _ _ _ _,fun j v hv=>by simp at hv,Below.refl _ _,Lib.hid (by rw [List.drop_zero];exact HRB.out.symm)⟩
       case round =>
        obtain⟨i,cb,S,vs,out,rfl,rfl,rfl,hi,rfl,hol,hown,hbr,hbel,HS⟩:=hrel
        by_cases hin:i < n
        · obtain⟨b,off,q1,A',n',c',A2',n2',c2'',hS1,hbS,hq1,hqa,y0,y1,y2,y3,y4,y5,y6⟩:=(Hs1.out.below hbel).cells7 hin
          subst hS1
          have hqd:∃ q,(flatD p).drop i=q :: (flatD p).drop (i+1)∧q1=bareD q∧q∈flatD p:=by
           have hiF:i < (flatD p).length:=by rw [← Hn.out];exact hin
           have h1:=List.drop_eq_getElem_cons (l:=flatD p) (i:=i) hiF
           rw [← List.map_drop,h1,List.map_cons] at hq1
           injection hq1 with hq1 _
           exact⟨_,h1,hq1.symm,List.getElem_mem _⟩
          obtain⟨q,hq,hqq,hqm⟩:=hqd
          have hbody:=Hbod.out q hqm
          subst hqq
          have hby:By wr w3.heap.size A' q.body.length q.body∧n'=q.body.length∧q.body.length≤c'∧c'≤maxLen:=by
           obtain⟨A3,c3,A4,c4,hv,_,hb3,hc3,hm3,_⟩:=hqa.open
           simp only [List.cons.injEq,and_true] at hv
           obtain⟨_,_,_,_,_,h5,_⟩:=hv
           injection h5 with h5 h6 h7
           subst h5
           subst h7
           exact⟨hb3.sl,h6,hc3,hm3⟩
          obtain⟨hby,rfl,hbc,hbm⟩:=hby
          have hstep:=HS.out
          rw [hq,bodiesF] at hstep
          have Hstep:=Lib.hid hstep
          have Hown:=Lib.hid hown
          have Hbr:=Lib.hid hbr
          have Hol:=Lib.hid hol
          have hrs:=hbel.size
          simp only [bareD] at y0 y1 y2 y3 y4 y5 y6
          clear hstep hown hbr hol HS hq hqm hq1 hqa
          obtain⟨W1,hW1⟩:∃ W1,W1=wr.alloc (.cells #[str q.type,str q.cs,str q.id,str q.loc,.int .i64 q.how,.slice A' q.body.length c',.slice A2' n2' c2''] 25):=⟨_,rfl⟩
          have hbA:Below wr.heap.size wr W1:=by rw [hW1];exact(Below.refl _ _).alloc (Nat.le_refl _) _
          have hX:Box7 W1 wr.heap.size (str q.type) (str q.cs) (str q.id) (str q.loc) (.int .i64 q.how) (.slice A' q.body.length c') (.slice A2' n2' c2''):=by rw [hW1];exact Box7.new wr _ _ _ _ _ _ _ _
          go_upto_region 14 with fail
          rw [← hW1]
          clear hW1 y0 y1 y2 y3 y4 y5 y6
          have hbel1:=hbel.trans (hbA.mono hbel.size)
          have hby1:=Sl.below hby (hbA.mono hbel.size)
          have Hbel1:=Lib.hid hbel1
          have Hby1:=Lib.hid hby1
          have Hown1:=Lib.hid (own_below Hown.out hbA)
          have Hbr1:=Lib.hid (BodRow.below Hbr.out hbA)
          have HX:=Lib.hid hX
          clear hbel1 hby1 hbA hX hby Hown Hbr
          go_wp2_with fail
          go_loopw [13,53] (TxRel gn i ns gs W1) (fun _ jv _=>gn - (intOf jv).toNat)
          case atStart=>exact⟨0,0,0,none,[],rfl,Nat.zero_le _,rfl,rfl,Nat.le_refl _,World.ownsRow_nil _ _ _ _,Below.refl _ _,Lib.hid (by rw [List.drop_zero];rfl),Lib.hid (fun t ht=>by simp at ht)⟩
          case round =>
           obtain⟨j,m,ct,St,txt,rfl,hj,rfl,hm,hmj,hownt,hbelt,HT,HTl⟩:=hrel
           have Hownt:=Lib.hid hownt
           have Hm:=Lib.hid hm
           have hbw:Below w3.heap.size w3 wr:=Hbel1.out.trans (hbelt.mono Hbel1.out.size)
           have Hbw:=Lib.hid hbw
           have Hbelt:=Lib.hid hbelt
           have hszt:=hbelt.size
           clear hownt hm hbw hbelt
           by_cases hjn:j < gn
           · obtain⟨bg,offg,x,hS2,hbg,hxg,g0,g1,g2,g3,g4,g5⟩:=(Sl.below HsG.out Hbw.out).goal6 j hjn
             subst hS2
             have hdg:gs.drop j=x :: gs.drop (j+1):=by
              have hjl:j < gs.length:=by rw [← Hgn.out];exact hjn
              rw [List.drop_eq_getElem_cons hjl]
              rw [List.getElem?_eq_getElem hjl] at hxg
              rw [Option.some.inj hxg]
             have ht:=HT.out
             rw [hdg,textsN_cons] at ht
             obtain⟨W2,hW2⟩:∃ W2,W2=wr.alloc (.cells #[.int .i64 (x.part:Nat),.int .i64 (x.l.frm:Nat),.int .i64 (x.l.til:Nat),str x.l.text,str x.goal,.int .i64 x.find] 44):=⟨_,rfl⟩
             have hbB:Below wr.heap.size wr W2:=by rw [hW2];exact(Below.refl _ _).alloc (Nat.le_refl _) _
             have gb:GB W2 wr.heap.size x:=by rw [hW2];exact heap_alloc_new wr _
             go_upto_region 18 with fail
             rw [← hW2]
             clear hW2 g0 g1 g2 g3 g4 g5 hdg hxg
             have⟨g0,g1,g2,g3,g4,g5⟩:=gb.box
             have HbB:=Lib.hid hbB
             have hszB:=hbB.size
             clear gb hbB
             by_cases hxi:x.part=i
             · have e1:(((x.part:Nat):Int) == ((i:Nat):Int))=true:=by rw [hxi];simp
               rw [if_pos hxi] at ht
               have hofW:=Hof.out W2 x.find (by
                have hb:=Hbel3.out.trans ((Hbw.out.trans (HbB.out.mono Hbw.out.size)).mono Hbel3.out.size)
                exact(Sl.below Hns.out hb).more hb.size)
               have HofW:=Lib.hid hofW
               have Ht:=Lib.hid ht
               clear ht hofW hxi
               go_wp2_with fail
               refine HofW.out.mono ?_
               rintro e w4 ⟨rfl,hb4⟩
               have hl30:=ofN_len Hgood.out x.find
               obtain⟨nx,hnx⟩:∃ nx,nx=ofN ns x.find:=⟨_,rfl⟩
               rw [← hnx] at hl30 Ht ⊢
               have hb14:Below wr.heap.size wr w4:=HbB.out.trans (hb4.mono HbB.out.size)
               have hown4:w4.ownsRow W1.heap.size 9 1 (.slice St m ct) m (txt.map str):=own_below Hownt.out hb14
               have hbel4:Below W1.heap.size W1 w4:=Hbelt.out.trans (hb14.mono Hbelt.out.size)
               have Hown4:=Lib.hid hown4
               have Hbel4:=Lib.hid hbel4
               have h63:m+1≤maxLen:=by unfold maxLen;omega
               have h47:(m+1) * 16≤140737488355328:=by omega
               have hbase:W1.heap.size≤w4.heap.size:=hbel4.size
               obtain⟨hi0,hi1,hi2,hi3⟩:=HI0.out
               clear hnx hb4 hb14 hown4 hbel4 g0 g1 g2 g3 g4 g5
               go_wp2_with (at_builtin;refine wpList_app2 rfl _ _ 40 rfl W1.heap.size 9 i0 _ 1 16 Tryz.underlying40 hi0 hi1 hi2 hi3 rfl (by decide) St m ct (txt.map str) rfl (Hown4.out.alloc _) _ _ 1 1 [str nx] rfl (Sl.row _ _ 1 1 _ rfl) (by intro u hu;rw [List.mem_singleton.1 hu];rfl) h63 h47 ?c2 ?_)
               case c2=>simp;omega
               intro S5 c5 w5 hown5 hb5 hgr5 hat5
               have hbel5:=(Hbel4.out.alloc hbase (.cells #[str nx] 9)).trans hb5
               rw [show txt.map str ++ [str nx]=(txt ++ [nx]).map str from by simp] at hown5
               have Hfin:=Lib.hid (And.intro hown5 hbel5)
               clear hown5 hb5 hgr5 hat5 hbel5 hi0 hi1 hi2 hi3
               go_wp2_with fail
               refine⟨⟨j+1,m+1,c5,S5,txt ++ [nx],by go_num,by omega,rfl,by simp [Hm.out],by omega,Hfin.out.1,Hfin.out.2,Lib.hid ?_,Lib.hid ?_⟩,by simp [intOf];omega⟩
               · rw [← Ht.out,List.append_assoc];rfl
               · intro t ht
                 rcases List.mem_append.1 ht with ht | ht
                 · exact HTl.out t ht
                 · rw [List.mem_singleton.1 ht];exact hl30
             · have e1:(((x.part:Nat):Int) == ((i:Nat):Int))=false:=by simp;omega
               rw [if_neg hxi] at ht
               have Ht:=Lib.hid ht
               clear ht hxi
               go_wp2_with fail
               exact⟨⟨j+1,m,ct,St,txt,by go_num,by omega,rfl,Hm.out,by omega,own_below Hownt.out HbB.out,Hbelt.out.trans (HbB.out.mono Hbelt.out.size),Ht,HTl⟩,by simp [intOf];omega⟩
           · obtain rfl:j=gn:=by omega
             have ht:=HT.out
             rw [List.drop_of_length_le (by rw [← Hgn.out];exact Nat.le_refl _),textsN_nil,List.append_nil] at ht
             have Ht:=Lib.hid ht
             clear ht HT
             have hbX:=HX.out.below Hbelt.out
             have⟨x0,x1,x2,x3,x4,x5,x6⟩:=hbX
             have hcl:=Clone_byte A' q.body.length c' w3.heap.size _ wr (Sl.below Hby1.out (Hbelt.out.mono Hbel1.out.size)) Hbw.out.size (oneCell_byteCells _) (by omega)
             have Hcl:=Lib.hid hcl
             have HbX4:=Lib.hid hbX
             clear hcl hbX
             by_cases hm0:m=0
             · subst hm0
               have hst:=Hstep.out
               have hbn:bodyN ns gs q i=(q.body,0):=by
                unfold bodyN
                rw [← Ht.out,List.eq_nil_of_length_eq_zero Hm.out.symm,if_pos rfl]
               rw [hbn,if_pos rfl] at hst
               have Hst:=Lib.hid hst
               clear hst hbn
               go_wp2_with fail
               refine Hcl.out.mono ?_
               rintro e w4 ⟨Sx,dx,rfl,hownx,hbx4⟩
               have hbc:=Hbelt.out.trans (hbx4.mono Hbelt.out.size)
               have hss:SlS (fun b=>w3.heap.size≤b∧b < w4.heap.size∧Value.ownBlock (.slice S i cb)≠some b) w4 1 Sx q.body.length (Lib.byteCells q.body):=SlS.change (own_sls hownx) (fun b hb=>⟨by have:=Hbw.out.size;omega,hb.2,fun e=>by have:=(Hown1.out.lt b e).2;omega⟩) (fun _ _=>rfl)
               have hdx:=own_cap hownx
               have hdm:=own_capmax hownx
               have Hbc:=Lib.hid hbc
               have Hss:=Lib.hid hss
               clear hbc hss hownx hbx4 x0 x1 x2 x3 x4 x5 x6
               have hbel4:Below w3.heap.size w3 w4:=Hbel1.out.trans (Hbc.out.mono Hbel1.out.size)
               have hown4:w4.ownsRow w3.heap.size 22 1 (.slice S i cb) i vs:=own_below Hown1.out Hbc.out
               have hbr4:=BodRow.below Hbr1.out Hbc.out
               have hbase:=hbel4.size
               have Hown4:=Lib.hid hown4
               have Hbel4:=Lib.hid hbel4
               have Hbr4:=Lib.hid hbr4
               have h63:i+1≤maxLen:=by unfold maxLen;omega
               have h47:(i+1) * 24≤140737488355328:=by omega
               obtain⟨hj0,hj1,hj2,hj3⟩:=HI1.out
               clear hbel4 hown4 hbr4
               go_upto_region 26 with fail
               go_wp2_with (at_builtin;refine wpList_app2 rfl _ _ 39 rfl w3.heap.size 22 i1 _ 1 24 Tryz.underlying39 hj0 hj1 hj2 hj3 rfl (by decide) S i cb vs rfl (Hown4.out.alloc _) _ _ 1 1 [.slice Sx q.body.length dx] rfl (Sl.row _ _ 1 1 _ rfl) (by intro u hu;rw [List.mem_singleton.1 hu];rfl) h63 h47 ?c2 ?_)
               case c2=>simp;omega
               intro S5 c5 w9 hown5 hb5 hgr5 hat5
               have hal:=(Below.refl w4.heap.size w4).alloc (Nat.le_refl _) (.cells #[.slice Sx q.body.length dx] 22)
               have hbr5:=BodRow.app (BodRow.below Hbr4.out hal) (by have:=Hown4.out.1;simpa using this) Hol.out Sx dx q.body (SlS.change Hss.out (fun b hb=>⟨hb.1,by simp;omega,hb.2.2⟩) (fun p hp=>hal.cell hp.2.1)) hdx hdm hgr5 (by rw [World.size_alloc];exact hat5)
               have hbel5:=(Hbel4.out.alloc hbase (.cells #[.slice Sx q.body.length dx] 22)).trans hb5
               have Hfin:=Lib.hid (And.intro hown5 (And.intro hbr5 hbel5))
               clear hown5 hb5 hgr5 hat5 hbel5 hbr5 hal hj0 hj1 hj2 hj3
               go_wp2_with fail
               exact⟨⟨i+1,c5,S5,vs ++ [.slice Sx q.body.length dx],out ++ [q.body],rfl,rfl,by go_num,by omega,rfl,by simp [Hol.out],Hfin.out.1,Hfin.out.2.1,Hfin.out.2.2,Hst⟩,by simp [intOf];omega⟩
             · have hmp:(0:Int) < m:=by omega
               have hmd:decide ((0:Int) < m)=true:=by simp;omega
               have hst:=Hstep.out
               have hbn:bodyN ns gs q i=putE q.body txt:=by
                unfold bodyN
                rw [← Ht.out,if_neg (by intro e;have:=Hm.out;rw [e] at this;exact hm0 this)]
               rw [hbn] at hst
               clear hbn
               obtain⟨tb,te,hT⟩:∃ tb te,putE q.body txt=(tb,te):=⟨_,_,rfl⟩
               rw [hT] at hst
               have Hst0:=Lib.hid hst
               have hpt:=fun(W':World) h1 h2 h3 h4=>Put_any A' St q.body.length c' m ct q.body txt W' h1 h2 hbc hbm h3 h4
               rw [hT] at hpt
               unfold PutOut at hpt
               simp only at hpt
               have Hpt:=Lib.hid hpt
               have hsum:sumL txt≤1000000000000:=by
                have:=sumL_le txt HTl.out
                have:=Hm.out
                omega
               clear hst hT hpt
               go_wp2_with fail
               refine Hcl.out.mono ?_
               rintro e w4 ⟨Sx,dx,rfl,hownx,hbx4⟩
               have hb14:=Hbelt.out.trans (hbx4.mono Hbelt.out.size)
               have hb34:=Hbel1.out.trans (hb14.mono Hbel1.out.size)
               have hb04:=Hbel3.out.trans (hb34.mono Hbel3.out.size)
               have hptW:=Hpt.out w4 (HM.out.below hb04) (Sl.more (Sl.below Hby1.out (hb14.mono Hbel1.out.size)) hb34.size) ((Sl.below (Sl.of_own Hownt.out) hbx4).more hbx4.size) hsum
               have HptW:=Lib.hid hptW
               have hbX:=HbX4.out.below hbx4
               clear x0 x1 x2 x3 x4 x5 x6
               have⟨x0,x1,x2,x3,x4,x5,x6⟩:=hbX
               have Hb14:=Lib.hid hb14
               clear hb14 hb34 hb04 hptW hbX hownx
               go_wp2_with fail
               refine HptW.out.mono ?_
               rintro e w5 ⟨Sp,dp,rfl,hownp,hbp⟩
               have hbc5:=Hb14.out.trans (hbp.mono Hb14.out.size)
               by_cases hte:te=0
               · subst hte
                 have hst:=Hst0.out
                 rw [if_pos rfl] at hst
                 have Hst:=Lib.hid hst
                 have hss:SlS (fun b=>w3.heap.size≤b∧b < w5.heap.size∧Value.ownBlock (.slice S i cb)≠some b) w5 1 Sp tb.length (Lib.byteCells tb):=SlS.change (own_sls hownp) (fun b hb=>⟨by have:=Hbw.out.size;have:=hbx4.size;omega,hb.2,fun e=>by have:=(Hown1.out.lt b e).2;have:=Hb14.out.size;omega⟩) (fun _ _=>rfl)
                 have hdx:=own_cap hownp
                 have hdm:=own_capmax hownp
                 have Hbc:=Lib.hid hbc5
                 have Hss:=Lib.hid hss
                 clear hst hbc5 hss hownp hbp hbx4 x0 x1 x2 x3 x4 x5 x6
                 have hbel4:Below w3.heap.size w3 w5:=Hbel1.out.trans (Hbc.out.mono Hbel1.out.size)
                 have hown4:w5.ownsRow w3.heap.size 22 1 (.slice S i cb) i vs:=own_below Hown1.out Hbc.out
                 have hbr4:=BodRow.below Hbr1.out Hbc.out
                 have hbase:=hbel4.size
                 have Hown4:=Lib.hid hown4
                 have Hbel4:=Lib.hid hbel4
                 have Hbr4:=Lib.hid hbr4
                 have h63:i+1≤maxLen:=by unfold maxLen;omega
                 have h47:(i+1) * 24≤140737488355328:=by omega
                 obtain⟨hj0,hj1,hj2,hj3⟩:=HI1.out
                 clear hbel4 hown4 hbr4
                 go_upto_region 26 with fail
                 go_wp2_with (at_builtin;refine wpList_app2 rfl _ _ 39 rfl w3.heap.size 22 i1 _ 1 24 Tryz.underlying39 hj0 hj1 hj2 hj3 rfl (by decide) S i cb vs rfl (Hown4.out.alloc _) _ _ 1 1 [.slice Sp tb.length dp] rfl (Sl.row _ _ 1 1 _ rfl) (by intro u hu;rw [List.mem_singleton.1 hu];rfl) h63 h47 ?c2 ?_)
                 case c2=>simp;omega
                 intro S5 c5 w9 hown5 hb5 hgr5 hat5
                 have hal:=(Below.refl w5.heap.size w5).alloc (Nat.le_refl _) (.cells #[.slice Sp tb.length dp] 22)
                 have hbr5:=BodRow.app (BodRow.below Hbr4.out hal) (by have:=Hown4.out.1;simpa using this) Hol.out Sp dp tb (SlS.change Hss.out (fun b hb=>⟨hb.1,by simp;omega,hb.2.2⟩) (fun p hp=>hal.cell hp.2.1)) hdx hdm hgr5 (by rw [World.size_alloc];exact hat5)
                 have hbel5:=(Hbel4.out.alloc hbase (.cells #[.slice Sp tb.length dp] 22)).trans hb5
                 have Hfin:=Lib.hid (And.intro hown5 (And.intro hbr5 hbel5))
                 clear hown5 hb5 hgr5 hat5 hbel5 hbr5 hal hj0 hj1 hj2 hj3
                 go_wp2_with fail
                 exact⟨⟨i+1,c5,S5,vs ++ [.slice Sp tb.length dp],out ++ [tb],rfl,rfl,by go_num,by omega,rfl,by simp [Hol.out],Hfin.out.1,Hfin.out.2.1,Hfin.out.2.2,Hst⟩,by simp [intOf];omega⟩
               · have hK1:((te:Int) != 0)=true:=by simp;omega
                 have hb35:=Hbel1.out.trans (hbc5.mono Hbel1.out.size)
                 have hbe:=Hbel3.out.trans (hb35.mono Hbel3.out.size)
                 have hy2:=HbY.out.below hb35 (by omega)
                 have HbR:=Lib.hid hy2
                 have Hbe:=Lib.hid hbe
                 have hst:=Hst0.out
                 rw [if_neg hte] at hst
                 have hr:=HRR.out
                 rw [← hst,if_pos hte] at hr
                 have Hr:=Lib.hid hr
                 obtain⟨⟨y0,y1,y2,y3,y4,y5,y6⟩,yf⟩:=hy2
                 have f0:=yf 0
                 have f1:=yf 1
                 have f2:=yf 2
                 have f3:=yf 3
                 have f4:=yf 4
                 have f5:=yf 5
                 have f6:=yf 6
                 clear hr hst hte yf hbe hb35 hbc5 hownp hbp hbx4 x0 x1 x2 x3 x4 x5 x6
                 go_wp2_with fail
                 generalize hw9:((((((((w5).setCell ⟨w.heap.size+1,0,none⟩ (.string ⟨#[]⟩)).setCell ⟨w.heap.size+1,1,none⟩ (.string ⟨#[]⟩)).setCell ⟨w.heap.size+1,2,none⟩ (.string ⟨#[]⟩)).setCell ⟨w.heap.size+1,3,none⟩ (.string ⟨#[]⟩)).setCell ⟨w.heap.size+1,4,none⟩ (.int .i64 0)).setCell ⟨w.heap.size+1,5,none⟩ (.slice none 0 0)).setCell ⟨w.heap.size+1,6,none⟩ (.slice none 0 0))=w9
                 have hbx9:=BoxF.set7 (w:=w5) (b:=w.heap.size+1) HbR.out (.string ⟨#[]⟩) (.string ⟨#[]⟩) (.string ⟨#[]⟩) (.string ⟨#[]⟩) (.int .i64 0) (.slice none 0 0) (.slice none 0 0)
                 have hbel9:=below_seven Hbe.out (C:=w.heap.size) (b:=w.heap.size+1) (by omega) (.string ⟨#[]⟩) (.string ⟨#[]⟩) (.string ⟨#[]⟩) (.string ⟨#[]⟩) (.int .i64 0) (.slice none 0 0) (.slice none 0 0)
                 rw [hw9] at hbx9 hbel9
                 clear hw9
                 obtain⟨c0,c1,c2',c3,c4,c5,c6⟩:=hbx9
                 refine bodyPost_ret (v:=.tuple #[.agg #[.string ⟨#[]⟩,.string ⟨#[]⟩,.string ⟨#[]⟩,.string ⟨#[]⟩,.int .i64 0,.slice none 0 0,.slice none 0 0],.int .i64 (te:Nat)]) (by simp [results,Tryz.results4,go_sem,c0,c1,c2',c3,c4,c5,c6]) rfl ?_
                 rw [Hr.out]
                 exact⟨_,rfl,zero_cells _,hbel9⟩
        · obtain rfl:i=n:=by omega
          have hfin:=HS.out
          rw [List.drop_of_length_le (by rw [← Hn.out];exact Nat.le_refl _),bodiesF] at hfin
          have hr:=HRR.out
          rw [← hfin,if_neg (by simp)] at hr
          have Hr:=Lib.hid hr
          have hbods0:BodsAt w3.heap.size wr.heap.size wr S i out:=⟨hol,vs,Sl.of_own hown,fun j v hv=>by
           obtain⟨A9,d9,g1,g2,g3,g4⟩:=hbr j v hv
           exact⟨A9,d9,g1,SlS.change g2 (fun b hb=>⟨hb.1,hb.2.1⟩) (fun _ _=>rfl),g3,g4⟩⟩
          obtain⟨WA,hWA⟩:∃ WA,WA=wr.alloc (.cells #[.int .i64 0] 3):=⟨_,rfl⟩
          have hbA:Below wr.heap.size wr WA:=by rw [hWA];exact(Below.refl _ _).alloc (Nat.le_refl _) _
          have hcnt:CntAt WA wr.heap.size 0:=by rw [hWA];exact heap_alloc_new wr _
          have hsA:WA.heap.size=wr.heap.size+1:=by rw [hWA];simp
          have hbods:BodsAt w3.heap.size wr.heap.size WA S i out:=hbods0.keep (fun p hp=>hbA.cell hp)
          have hb3A:=hbel.trans (hbA.mono hbel.size)
          have hb0A:=Hbel3.out.trans (hb3A.mono Hbel3.out.size)
          have hX:=HbX.out.below hb3A (by omega)
          have hY:=HbY.out.below hb3A (by omega)
          have hcpW:=Hcp.out WA (by omega) Hbod.out ((Hp.out.below hb0A).more hb0A.size)
          have HcpW:=Lib.hid hcpW
          have Hbods:=Lib.hid hbods
          have Hcnt:=Lib.hid hcnt
          have HY:=Lib.hid hY
          have Hb0A:=Lib.hid hb0A
          have HsA:=Lib.hid hsA
          have Hn12:=Lib.hid h12
          have hwr3:=hbel.size
          go_upto_region 29 with fail
          rw [← hWA]
          clear hWA hfin hr hbods0 hbA hcnt hsA hbods hb3A hb0A hY hcpW hown hbr hbel HS hol
          have⟨⟨x0,x1,x2,x3,x4,x5,x6⟩,_⟩:=hX
          go_wp2_with fail
          refine HcpW.out.mono ?_
          rintro e w5 ⟨v5,rfl,htr5,hb5⟩
          have hput:=putT_any out w3.heap.size wr.heap.size i cb wr.heap.size S (by have:=Hn12.out;omega) (Nat.le_refl _) 1000 p v5 WA.heap.size w5.heap.size 0 w5 (by rw [← Hn.out];have:=Hn12.out;omega) (Nat.le_refl _) htr5 (by have:=HsA.out;omega) (Nat.le_refl _) (by have:=HsA.out;omega) (Hcnt.out.keep (hb5.block _ (by have:=HsA.out;omega))) (Hbods.out.keep (fun p hp=>hb5.cell (by have:=HsA.out;show p.block < _;omega))) (by rw [← Hn.out];omega)
          have Hput:=Lib.hid hput
          have Hb5:=Lib.hid hb5
          clear hput htr5 hb5 x0 x1 x2 x3 x4 x5 x6
          go_wp2_with fail
          refine Hput.out.mono ?_
          rintro e w6 ⟨v6,rfl,hpa6,hcn6,hfr6⟩
          obtain⟨qq,hqq⟩:∃ qq,qq=putD p (out.drop 0):=⟨_,rfl⟩
          rw [← hqq] at hpa6
          have Hqq:=Lib.hid hqq
          clear hqq hcn6
          obtain⟨A6,d6,A7,d7,rfl,_⟩:=hpa6.open
          have hs65:WA.heap.size≤w5.heap.size:=Hb5.out.size
          have hs66:w5.heap.size≤w6.heap.size:=hfr6.2.2.2.1
          have hsA:=HsA.out
          have hold:∀ b,b < wr.heap.size→w6.heap[b]? = WA.heap[b]?:=fun b hb=>(hfr6.2.2.2.2 b (by omega) (by omega) (by omega)).trans (Hb5.out.block b (by omega))
          have hY6:=HY.out.keep (hold (w.heap.size+1) (by omega))
          have hbe6:Below w.heap.size w w6:=by
           have h0:=Hb0A.out.trans (Hb5.out.mono Hb0A.out.size)
           exact⟨hfr6.1.trans h0.os,hfr6.2.1.trans h0.tape,hfr6.2.2.1.trans h0.output,Nat.le_trans h0.size hs66,fun b hb=>(hold b (by omega)).trans (Hb0A.out.block b hb)⟩
          obtain⟨⟨y0,y1,y2,y3,y4,y5,y6⟩,yf⟩:=hY6
          have f0:=yf 0
          have f1:=yf 1
          have f2:=yf 2
          have f3:=yf 3
          have f4:=yf 4
          have f5:=yf 5
          have f6:=yf 6
          have Hpa6:=Lib.hid hpa6
          have Hbe6:=Lib.hid hbe6
          have Hyf:=Lib.hid yf
          clear hpa6 hbe6 yf hold hfr6 hX
          go_wp2_with fail
          have hbx9:=BoxF.set7 (w:=w6) (b:=w.heap.size+1) ⟨⟨y0,y1,y2,y3,y4,y5,y6⟩,Hyf.out⟩ (str qq.type) (str qq.cs) (str qq.id) (str qq.loc) (.int .i64 qq.how) (.slice A6 qq.body.length d6) (.slice A7 qq.parts.length d7)
          have hbel9:=below_seven Hbe6.out (C:=w.heap.size) (b:=w.heap.size+1) (by omega) (str qq.type) (str qq.cs) (str qq.id) (str qq.loc) (.int .i64 qq.how) (.slice A6 qq.body.length d6) (.slice A7 qq.parts.length d7)
          have far9:∀ b,b≠w.heap.size+1→(((((((w6.setCell ⟨w.heap.size+1,0,none⟩ (str qq.type)).setCell ⟨w.heap.size+1,1,none⟩ (str qq.cs)).setCell ⟨w.heap.size+1,2,none⟩ (str qq.id)).setCell ⟨w.heap.size+1,3,none⟩ (str qq.loc)).setCell ⟨w.heap.size+1,4,none⟩ (.int .i64 qq.how)).setCell ⟨w.heap.size+1,5,none⟩ (.slice A6 qq.body.length d6)).setCell ⟨w.heap.size+1,6,none⟩ (.slice A7 qq.parts.length d7)).heap[b]? = w6.heap[b]?:=by
           intro b hb
           simp only [World.setCell,Array.getElem?_modify]
           simp [Ne.symm hb]
          have hsz9:(((((((w6.setCell ⟨w.heap.size+1,0,none⟩ (str qq.type)).setCell ⟨w.heap.size+1,1,none⟩ (str qq.cs)).setCell ⟨w.heap.size+1,2,none⟩ (str qq.id)).setCell ⟨w.heap.size+1,3,none⟩ (str qq.loc)).setCell ⟨w.heap.size+1,4,none⟩ (.int .i64 qq.how)).setCell ⟨w.heap.size+1,5,none⟩ (.slice A6 qq.body.length d6)).setCell ⟨w.heap.size+1,6,none⟩ (.slice A7 qq.parts.length d7)).heap.size=w6.heap.size:=by simp
          generalize (((((((w6.setCell ⟨w.heap.size+1,0,none⟩ (str qq.type)).setCell ⟨w.heap.size+1,1,none⟩ (str qq.cs)).setCell ⟨w.heap.size+1,2,none⟩ (str qq.id)).setCell ⟨w.heap.size+1,3,none⟩ (str qq.loc)).setCell ⟨w.heap.size+1,4,none⟩ (.int .i64 qq.how)).setCell ⟨w.heap.size+1,5,none⟩ (.slice A6 qq.body.length d6)).setCell ⟨w.heap.size+1,6,none⟩ (.slice A7 qq.parts.length d7))=w9 at hbx9 hbel9 far9 hsz9 ⊢
          obtain⟨c0,c1,c2',c3,c4,c5,c6⟩:=hbx9
          refine bodyPost_ret (v:=.tuple #[.agg #[str qq.type,str qq.cs,str qq.id,str qq.loc,.int .i64 qq.how,.slice A6 qq.body.length d6,.slice A7 qq.parts.length d7],.int .i64 0]) (by simp [results,Tryz.results4,go_sem,c0,c1,c2',c3,c4,c5,c6]) rfl ?_
          rw [Hr.out]
          refine⟨_,rfl,?_,hbel9⟩
          have hq9:=Hqq.out
          rw [List.drop_zero] at hq9
          show PartAt _ w9 (putD p out) _
          rw [← hq9]
          refine PartAt.change (fun b hb=>?_) (fun b hb=>World.cell?_of_block (far9 _ ?_)) _ _ Hpa6.out
          · rcases hb with hb | hb <;> omega
          · rcases hb with hb | hb <;> omega
     · have hK1:((gK:Int) != 0)=true:=by simp;omega
       have HbR:=Lib.hid hy2
       have Hbe:=Lib.hid hbel3
       have hr:=HR.out
       rw [if_neg (by simp),if_pos hgk] at hr
       have Hr:=Lib.hid hr
       obtain⟨⟨y0,y1,y2,y3,y4,y5,y6⟩,yf⟩:=hy2
       have f0:=yf 0
       have f1:=yf 1
       have f2:=yf 2
       have f3:=yf 3
       have f4:=yf 4
       have f5:=yf 5
       have f6:=yf 6
       clear hr hgk yf hy1 hbel3
       go_wp2_with fail
       generalize hw9:((((((((w3).setCell ⟨w.heap.size+1,0,none⟩ (.string ⟨#[]⟩)).setCell ⟨w.heap.size+1,1,none⟩ (.string ⟨#[]⟩)).setCell ⟨w.heap.size+1,2,none⟩ (.string ⟨#[]⟩)).setCell ⟨w.heap.size+1,3,none⟩ (.string ⟨#[]⟩)).setCell ⟨w.heap.size+1,4,none⟩ (.int .i64 0)).setCell ⟨w.heap.size+1,5,none⟩ (.slice none 0 0)).setCell ⟨w.heap.size+1,6,none⟩ (.slice none 0 0))=w9
       have hbx9:=BoxF.set7 (w:=w3) (b:=w.heap.size+1) HbR.out (.string ⟨#[]⟩) (.string ⟨#[]⟩) (.string ⟨#[]⟩) (.string ⟨#[]⟩) (.int .i64 0) (.slice none 0 0) (.slice none 0 0)
       have hbel9:=below_seven Hbe.out (C:=w.heap.size) (b:=w.heap.size+1) (by omega) (.string ⟨#[]⟩) (.string ⟨#[]⟩) (.string ⟨#[]⟩) (.string ⟨#[]⟩) (.int .i64 0) (.slice none 0 0) (.slice none 0 0)
       rw [hw9] at hbx9 hbel9
       clear hw9
       obtain⟨c0,c1,c2',c3,c4,c5,c6⟩:=hbx9
       refine bodyPost_ret (v:=.tuple #[.agg #[.string ⟨#[]⟩,.string ⟨#[]⟩,.string ⟨#[]⟩,.string ⟨#[]⟩,.int .i64 0,.slice none 0 0,.slice none 0 0],.int .i64 (gK:Nat)]) (by simp [results,Tryz.results4,go_sem,c0,c1,c2',c3,c4,c5,c6]) rfl ?_
       rw [Hr.out]
       exact⟨_,rfl,zero_cells _,hbel9⟩
   · have hK1:((K2:Int) != 0)=true:=by simp;omega
     have HbR:=Lib.hid hx2
     have Hbe:=Lib.hid hbel2
     have hr:=HR.out
     rw [if_pos hk2] at hr
     have Hr:=Lib.hid hr
     obtain⟨⟨y0,y1,y2,y3,y4,y5,y6⟩,yf⟩:=hx2
     have f0:=yf 0
     have f1:=yf 1
     have f2:=yf 2
     have f3:=yf 3
     have f4:=yf 4
     have f5:=yf 5
     have f6:=yf 6
     clear hr hk2 yf hx1 hbel2
     go_wp2_with fail
     generalize hw9:((((((((w2).setCell ⟨w.heap.size+1,0,none⟩ (.string ⟨#[]⟩)).setCell ⟨w.heap.size+1,1,none⟩ (.string ⟨#[]⟩)).setCell ⟨w.heap.size+1,2,none⟩ (.string ⟨#[]⟩)).setCell ⟨w.heap.size+1,3,none⟩ (.string ⟨#[]⟩)).setCell ⟨w.heap.size+1,4,none⟩ (.int .i64 0)).setCell ⟨w.heap.size+1,5,none⟩ (.slice none 0 0)).setCell ⟨w.heap.size+1,6,none⟩ (.slice none 0 0))=w9
     have hbx9:=BoxF.set7 (w:=w2) (b:=w.heap.size+1) HbR.out (.string ⟨#[]⟩) (.string ⟨#[]⟩) (.string ⟨#[]⟩) (.string ⟨#[]⟩) (.int .i64 0) (.slice none 0 0) (.slice none 0 0)
     have hbel9:=below_seven Hbe.out (C:=w.heap.size) (b:=w.heap.size+1) (by omega) (.string ⟨#[]⟩) (.string ⟨#[]⟩) (.string ⟨#[]⟩) (.string ⟨#[]⟩) (.int .i64 0) (.slice none 0 0) (.slice none 0 0)
     rw [hw9] at hbx9 hbel9
     clear hw9
     obtain⟨c0,c1,c2',c3,c4,c5,c6⟩:=hbx9
     refine bodyPost_ret (v:=.tuple #[.agg #[.string ⟨#[]⟩,.string ⟨#[]⟩,.string ⟨#[]⟩,.string ⟨#[]⟩,.int .i64 0,.slice none 0 0,.slice none 0 0],.int .i64 (K2:Nat)]) (by simp [results,Tryz.results4,go_sem,c0,c1,c2',c3,c4,c5,c6]) rfl ?_
     rw [Hr.out]
     exact⟨_,rfl,zero_cells _,hbel9⟩
 · have hK1:((checkD p:Int) != 0)=true:=by simp;omega
   have hk9:checkD p≠0:=hK
   rw [if_pos hk9] at hR
   simp only [if_neg hK] at Hal
   have HR:=Lib.hid hR
   obtain⟨K,hKK⟩:∃ K,K=checkD p:=⟨_,rfl⟩
   rw [← hKK] at Hal hK1 HR
   have Hkk:=Lib.hid hKK
   clear hok hK hR hk9 hKK
   have⟨⟨x0,x1,x2,x3,x4,x5,x6⟩,_⟩:=hx1
   go_enter Tryz.func4,Tryz.ntmps4
   go_upto_region 1 with fail
   rw [← HW.out]
   go_wp2_with fail
   refine(Hal.out W ((Hp.out.below hbW).more hbW.size)).mono ?_
   rintro e w1 ⟨S1,c1,rfl,hs1,hc1,hm1,hb1⟩
   have hbel1:=hbW.trans (hb1.mono hbW.size)
   have hbR:=hx2.below hb1 (by omega)
   have HbR:=Lib.hid hbR
   have Hbe:=Lib.hid hbel1
   obtain⟨⟨y0,y1,y2,y3,y4,y5,y6⟩,yf⟩:=hbR
   have f0:=yf 0
   have f1:=yf 1
   have f2:=yf 2
   have f3:=yf 3
   have f4:=yf 4
   have f5:=yf 5
   have f6:=yf 6
   clear yf hx1 hx2 hb1 hbW Hal hs1 x0 x1 x2 x3 x4 x5 x6 hbel1
   go_wp2_with fail
   generalize hw9:((((((((w1).setCell ⟨w.heap.size+1,0,none⟩ (.string ⟨#[]⟩)).setCell ⟨w.heap.size+1,1,none⟩ (.string ⟨#[]⟩)).setCell ⟨w.heap.size+1,2,none⟩ (.string ⟨#[]⟩)).setCell ⟨w.heap.size+1,3,none⟩ (.string ⟨#[]⟩)).setCell ⟨w.heap.size+1,4,none⟩ (.int .i64 0)).setCell ⟨w.heap.size+1,5,none⟩ (.slice none 0 0)).setCell ⟨w.heap.size+1,6,none⟩ (.slice none 0 0))=w9
   have hbx9:=BoxF.set7 (w:=w1) (b:=w.heap.size+1) HbR.out (.string ⟨#[]⟩) (.string ⟨#[]⟩) (.string ⟨#[]⟩) (.string ⟨#[]⟩) (.int .i64 0) (.slice none 0 0) (.slice none 0 0)
   have hbel9:=below_seven Hbe.out (C:=w.heap.size) (b:=w.heap.size+1) (by omega) (.string ⟨#[]⟩) (.string ⟨#[]⟩) (.string ⟨#[]⟩) (.string ⟨#[]⟩) (.int .i64 0) (.slice none 0 0) (.slice none 0 0)
   rw [hw9] at hbx9 hbel9
   clear hw9
   obtain⟨c0,c1,c2',c3,c4,c5,c6⟩:=hbx9
   refine bodyPost_ret (v:=.tuple #[.agg #[.string ⟨#[]⟩,.string ⟨#[]⟩,.string ⟨#[]⟩,.string ⟨#[]⟩,.int .i64 0,.slice none 0 0,.slice none 0 0],.int .i64 (K:Nat)]) (by simp [results,Tryz.results4,go_sem,c0,c1,c2',c3,c4,c5,c6]) rfl ?_
   rw [HR.out]
   exact⟨_,rfl,zero_cells _,hbel9⟩
end Go.Proofs.YtlgbopjhmemaoaaGreatDoor
namespace Go.Proofs.YtlgbopjhmemaoaaGreatDoor
def repB (out:List UInt8) (l:LinkD) (t:List UInt8):List UInt8:=if t = [] then out else out.take l.frm ++ (t ++ out.drop l.til)
def repL (b:List UInt8):List LinkD→List (List UInt8)→List UInt8
 | l :: ls,t :: ts=>repB (repL b ls ts) l t
 | [],_=>b
 | _ :: _,[]=>b
theorem repL_eq:∀ (l:List (List UInt8 × List UInt8)) (ts:List (List UInt8)) (pre b:List UInt8),ts.length=l.length→b=pre ++ weaveL l (l.map (·.1))→repL b (linksL pre.length l) ts=pre ++ weaveL l (picks l ts)
 | [],ts,pre,b,h,hb=>by
  rw [linksL,repL,hb]
  cases ts <;> rfl
 | x :: l,[],pre,b,h,_=>by simp at h
 | x :: l,t :: ts,pre,b,h,hb=>by
  have e:b=(pre ++ x.1 ++ x.2) ++ weaveL l (l.map (·.1)):=by rw [hb,List.map_cons,weaveL];simp
  have ih:=repL_eq l ts (pre ++ x.1 ++ x.2) b (by simpa using h) e
  have hl:(pre ++ x.1 ++ x.2).length=pre.length+x.1.length+x.2.length:=by simp;omega
  rw [hl] at ih
  rw [linksL,repL,ih,picks,weaveL]
  unfold repB pick
  by_cases ht:t = []
  · rw [if_pos ht,if_pos ht];simp
  · rw [if_neg ht,if_neg ht]
    simp only
    have e2:pre ++ x.1 ++ x.2 ++ weaveL l (picks l ts)=pre ++ (x.1 ++ (x.2 ++ weaveL l (picks l ts))):=by simp
    rw [e2,List.take_left]
    have e3:pre ++ (x.1 ++ (x.2 ++ weaveL l (picks l ts)))=(pre ++ x.1) ++ (x.2 ++ weaveL l (picks l ts)):=by simp
    rw [e3,List.drop_left' (by simp)]
theorem repL_put (b:List UInt8) (ts:List (List UInt8)) (h:ts.length=(pcs b).2.length):repL b (links 0 (pcs b)) ts=putL b 0 [] (links 0 (pcs b)) ts:=by
 rw [putL_weave b ts h]
 have:=repL_eq (pcs b).2 ts (pcs b).1 b h (pcs_app b)
 unfold links
 rw [Nat.zero_add,this]
 rfl
end Go.Proofs.YtlgbopjhmemaoaaGreatDoor
namespace Go.Proofs.YtlgbopjhmemaoaaGreatDoor
open Go.RowKit
theorem sumL_cons (t:List UInt8) (ts:List (List UInt8)):sumL (t :: ts)=t.length+sumL ts:=by simp [sumL]
theorem repB_len (out:List UInt8) (x:LinkD) (t:List UInt8) (h:x.frm≤x.til) (h2:x.til≤out.length):(repB out x t).length≤out.length+t.length:=by
 unfold repB
 split
 · omega
 · rw [List.length_append,List.length_append,List.length_take,List.length_drop]
   omega
theorem repL_long (b:List UInt8):∀ (ls:List LinkD) (ts:List (List UInt8)) (at_:Nat),ts.length=ls.length→LOk at_ b.length ls→at_≤(repL b ls ts).length
 | [],_,at_,_,h=>by rw [repL];exact h
 | x :: ls,[],at_,hl,h=>by simp at hl
 | x :: ls,t :: ts,at_,hl,h=>by
  obtain⟨h1,h2,h3⟩:=h
  have ih:=repL_long b ls ts x.til (by simpa using hl) h3
  rw [repL]
  unfold repB
  split
  · omega
  · rw [List.length_append,List.length_take]
    omega
theorem repL_len (b:List UInt8):∀ (ls:List LinkD) (ts:List (List UInt8)) (at_:Nat),ts.length=ls.length→LOk at_ b.length ls→(repL b ls ts).length≤b.length+sumL ts
 | [],_,at_,_,h=>by rw [repL];omega
 | x :: ls,[],at_,hl,h=>by simp at hl
 | x :: ls,t :: ts,at_,hl,h=>by
  obtain⟨h1,h2,h3⟩:=h
  have ih:=repL_len b ls ts x.til (by simpa using hl) h3
  have il:=repL_long b ls ts x.til (by simpa using hl) h3
  have:=repB_len (repL b ls ts) x t h2 il
  rw [repL,sumL_cons]
  omega
theorem LOk.drop:∀ (ls:List LinkD) (i at_ n:Nat),LOk at_ n ls→∃ at2,LOk at2 n (ls.drop i)
 | _ls,0,at_,_n,h=>⟨at_,h⟩
 | [],_i+1,at_,_n,h=>⟨at_,h⟩
 | x :: ls,i+1,_at_,n,h=>LOk.drop ls i x.til n h.2.2
/-- One round of the loop, which goes down. -/
theorem repL_step {b:List UInt8} {ls:List LinkD} {ts:List (List UInt8)} {at_:Nat} (hok:LOk at_ b.length ls) (hl:ts.length=ls.length) (i:Nat) (hi:i < ls.length) :
 ∃ x t,ls.drop i=x :: ls.drop (i+1)∧ts.drop i=t :: ts.drop (i+1)∧ls[i]? = some x∧ts[i]? = some t ∧
  repL b (ls.drop i) (ts.drop i)=repB (repL b (ls.drop (i+1)) (ts.drop (i+1))) x t∧x.frm≤x.til∧x.til≤(repL b (ls.drop (i+1)) (ts.drop (i+1))).length∧(repL b (ls.drop (i+1)) (ts.drop (i+1))).length≤b.length+sumL ts:=by
 have hd:=List.drop_eq_getElem_cons hi
 have hi2:i < ts.length:=by omega
 have hd2:=List.drop_eq_getElem_cons hi2
 refine⟨ls[i],ts[i],hd,hd2,List.getElem?_eq_getElem hi,List.getElem?_eq_getElem hi2,?_,?_,?_,?_⟩
 · rw [hd,hd2,repL]
 · obtain⟨a2,h⟩:=LOk.drop ls i at_ _ hok
   rw [hd] at h
   exact h.2.1
 · obtain⟨a2,h⟩:=LOk.drop ls i at_ _ hok
   rw [hd] at h
   exact repL_long b _ _ _ (by simp;omega) h.2.2
 · obtain⟨a2,h⟩:=LOk.drop ls (i+1) at_ _ hok
   have h1:=repL_len b _ (ts.drop (i+1)) _ (by simp;omega) h
   have h2:sumL ts=sumL (ts.take (i+1))+sumL (ts.drop (i+1)):=by
    conv=>lhs;rw [← List.take_append_drop (i+1) ts]
    unfold sumL
    rw [List.map_append,List.sum_append]
   omega
theorem put_repL {l:List UInt8} {ls:List LinkD} (h:findB l=some ls) (ts:List (List UInt8)) (hl:ts.length=ls.length):putL l 0 [] ls ts=repL l ls ts:=by
 rw [findB_eq] at h
 split at h
 · cases h
 · have h:=Option.some.inj h
   subst h
   rw [links_len] at hl
   exact(repL_put l ts hl).symm
/-- A block of bytes. -/
def Bf (w:World) (g:Nat) (cur:List Value):Prop:=w.heap[g]? = some (.cells cur.toArray 5 (0,0))
theorem Bf.lt {w:World} {g:Nat} {cur:List Value} (h:Bf w g cur):g < w.heap.size:=(Array.getElem?_eq_some_iff.1 h).1
theorem Bf.cell {w:World} {g:Nat} {cur:List Value} (h:Bf w g cur) (j:Nat):w.cell? ⟨g,j,none⟩=cur[j]?:=by
 unfold Bf at h
 simp [World.cell?,h]
theorem Bf.fz {w:World} {g:Nat} {cur:List Value} (h:Bf w g cur) (j:Nat):w.frozen? ⟨g,j,none⟩=false:=by
 unfold Bf at h
 simp [World.frozen?,h]
theorem Bf.drew {w:World} {g:Nat} {cur:List Value} (h:Bf w g cur):Bf w.drew g cur:=h
theorem Bf.own {w:World} {g base n c:Nat} {cur:List Value} {l:List UInt8} (h:Bf w g cur) (hb:base≤g) (hn:n≤c) (hc:c≤maxLen) (hs:cur.length=c) (ht:cur.take n=Lib.byteCells l) (hl:l.length=n) :
 w.ownsRow base 5 1 (.slice (some ⟨g,0,none⟩) n c) n (Lib.byteCells l):=
 ⟨by rw [Nat.mul_one];simpa [Lib.byteCells] using hl,.inr ⟨g,c,cur.toArray,rfl,hb,h,hn,hc,by simp;omega,by rw [Nat.mul_one];exact ht⟩⟩
theorem own_bf {w:World} {base n c:Nat} {S:Option Addr} {l:List UInt8} (h:w.ownsRow base 5 1 (.slice S n c) n (Lib.byteCells l)) (hn:0 < n) :
 ∃ g cur,S=some ⟨g,0,none⟩∧Bf w g cur∧base≤g∧n≤c∧c≤maxLen∧cur.length=c∧cur.take n=Lib.byteCells l:=by
 rcases h.2 with ⟨h1,h2⟩ | ⟨g,cap,cur,h1,h2,h3,h4,h5,h6,h7⟩
 · omega
 · injection h1 with h1 _ h8
   subst h1;subst h8
   refine⟨g,cur.toList,rfl,?_,h2,h4,h5,by simp;omega,by rw [Nat.mul_one] at h7;exact h7⟩
   unfold Bf
   rw [Array.toArray_toList]
   exact h3
theorem Bf.set {w:World} {g:Nat} {cur cs:List Value} (h:Bf w g cur):Bf (w.setRow g cs.toArray) g cs:=setRow_heap w g cur.toArray cs.toArray 5 (0,0) h
theorem Bf.cellSet {w:World} {g:Nat} {cur:List Value} (h:Bf w g cur) (o:Nat) (v:Value):Bf (w.setCell ⟨g,o,none⟩ v) g (cur.set o v):=by
 unfold Bf at h ⊢
 simp only [World.setCell,Array.getElem?_modify,if_pos,h,Option.map_some]
 simp
theorem Bf.sets {g:Nat}:∀ (vs:List Value) (o:Nat) (w:World) (cur:List Value),Bf w g cur→o+vs.length≤cur.length→Bf (w.setCells g o vs) g (cur.take o ++ vs ++ cur.drop (o+vs.length))
 | [],o,w,cur,h,_=>by simpa [World.setCells] using h
 | v :: vs,o,w,cur,h,hl=>by
  rw [List.length_cons] at hl
  have ih:=Bf.sets vs (o+1) (w.setCell ⟨g,o,none⟩ v) _ (h.cellSet o v) (by simp;omega)
  rw [World.setCells]
  have e:(cur.set o v).take (o+1) ++ vs ++ (cur.set o v).drop (o+1+vs.length)=cur.take o ++ (v :: vs) ++ cur.drop (o+(v :: vs).length):=by
   have h1:(cur.set o v).take (o+1)=cur.take o ++ [v]:=by
    rw [List.take_add_one,List.take_set_of_le (Nat.le_refl _)]
    simp [show o < cur.length by omega]
   have h2:(cur.set o v).drop (o+1+vs.length)=cur.drop (o+(v :: vs).length):=by
    rw [List.drop_set_of_lt (by omega),List.length_cons]
    congr 1
    omega
   rw [h1,h2]
   simp
  rw [← e]
  exact ih
theorem below_sets {B g:Nat} (hB:B≤g):∀ (vs:List Value) (o:Nat) (w0 w:World),Below B w0 w→Below B w0 (w.setCells g o vs)
 | [],_,_,_,h=>by rw [World.setCells];exact h
 | v :: vs,o,w0,w,h=>by rw [World.setCells];exact below_sets hB vs (o+1) w0 _ (h.setCell hB v)
theorem infoByteR:(Tryz.prog.info? 5).map (·.size)=some 1:=by kernel_rfl
/-- copy into the block. -/
theorem copyB {w:World} {g:Nat} {cur:List Value} (h:Bf w g cur) (ty:TypeId) (o dLen dCap:Nat) (a:Addr) (sLen sCap:Nat) (cs:List Value) (hn:cs.length=Nat.min sLen dLen) (hsrc:∀ j v,cs[j]? = some v→w.cell? (a.add j)=some v)
 (hfit:o+cs.length≤cur.length) (h1:∀ v∈cs,v.oneCell'=true) :
 (Builtin.copy_ #[22,22] ty #[.slice (some ⟨g,o,none⟩) dLen dCap,.slice (some a) sLen sCap]).run Tryz.prog w = .ok (goInt cs.length) (w.setRow g (cur.take o ++ cs ++ cur.drop (o+cs.length)).toArray):=
 run_copy_row (P:=Tryz.prog) w 22 22 ty 5 g o dLen dCap a sLen sCap cur.toArray 5 cs Tryz.underlying22 infoByteR h hn hsrc (by simpa using hfit) h1
/-- The model's overlaps: the second slice lies in plain memory of another block. -/
theorem overlaps_second {P:Program} (w:World) (tS tR e:TypeId) (ht:P.underlying tS=some (.slice e)) (size:Nat) (hz:∀ w,(Go.sizeOf e).run P w = .ok size w)
 (a b:Addr) (la ca lb cb:Nat) (hne:a.block≠b.block) (tA tB:TypeId) (kA kB:Nat)
 (hsa:w.shape? a.block=some (tA,kA)) (hsb:w.shape? b.block=some (tB,kB)) (hkA:kA≠0)
 (hfb:w.frozen? b=false) (hfe:w.frozen? { block:=b.block,off:=kB } = false) :
 (Extern.SlicesOverlaps.overlaps #[tS,tS] #[tR] #[.slice (some a) la ca,.slice (some b) lb cb]).run P w = .ok (.bool false) w:=by
 have hnb:(a.block != b.block)=true:=by simpa using hne
 have hnb':(a.block == b.block)=false:=by simpa using hne
 conv=>lhs;arg 2;whnf
 have e0:∀ (α:Type) (k:Program→Sem α),Sem.run P (Sem.program k) w=Sem.run P (k P) w:=fun _ _=>rfl
 rw [e0]
 simp only [Sem.run_bind',Sem.run_pure',Result.andThen_ok]
 have ht2:P.underlying (#[tS,tS][0])=some (TypeDesc.slice e):=ht
 rw [ht2]
 simp only [Sem.run_pure,Result.andThen_ok]
 by_cases h0:la=0∨lb=0∨size=0
 · simp [hz,h0]
 · cases kA with
   | zero=>exact absurd rfl hkA
   | succ kA =>
    simp [hz,h0,hnb,hnb',frozen,noView,viewAt,mayBeOne,stringish,shape,Sem.run,hsa,hsb,hfb,hfe]
theorem step_copyR {ops:Array Oper} {o:Oper} {a:Act} {w:World} {K:Act→World→Prop} {Q:Exit→Act→World→Prop} {E:Prop}
 (hg:o.guard=none) (d x:Operand) (dT sT:TypeId) (hop:o.op=Op.call { callee:=Callee.builtin Builtin.copy,args:=#[d,x],argTypes:=#[dT,sT] })
 (v u:Value) (hd:a.eval d=v) (hx:a.eval x=u) {v':Value} {w':World} (hr:(Builtin.copy_ #[dT,sT] o.type #[v,u]).run Tryz.prog w = .ok v' w') (hK:K (a.put o.dst v') w') :
 if Region.wanted o (yielded ops a.tmps)=true then Oper.wp Tryz.prog o a w K Q else E:=by
 have hw:Region.wanted o (yielded ops a.tmps)=true:=by simp [Region.wanted,hg]
 rw [if_pos hw]
 unfold Oper.wp
 simp [execOp,hop,resolve,invoke,builtin,hd,hx,hr,Result.andThen]
 exact hK
theorem byteCells_take (l:List UInt8) (k:Nat):Lib.byteCells (l.take k)=(Lib.byteCells l).take k:=by simp [Lib.byteCells,List.map_take]
theorem byteCells_drop (l:List UInt8) (k:Nat):Lib.byteCells (l.drop k)=(Lib.byteCells l).drop k:=by simp [Lib.byteCells,List.map_drop]
/-- What the block holds ahead of its end. -/
theorem cur_at {cur:List Value} {l:List UInt8} {n:Nat} (h:cur.take n=Lib.byteCells l) (_hl:l.length=n) (k j:Nat) (v:Value) (hv:(Lib.byteCells (l.drop k))[j]? = some v):cur[k+j]? = some v:=by
 rw [byteCells_drop,List.getElem?_drop,← h,List.getElem?_take] at hv
 split at hv
 · exact hv
 · cases hv
theorem cur_take {cur:List Value} {l:List UInt8} {n:Nat} (h:cur.take n=Lib.byteCells l) (k:Nat) (hk:k≤n):cur.take k=Lib.byteCells (l.take k):=by
 rw [byteCells_take,← h,List.take_take,Nat.min_eq_left hk]
/-- First what lies behind, then what is put in. -/
theorem back_then {cur:List Value} {l t r:List UInt8} {n i k:Nat} (h:cur.take n=Lib.byteCells l) (hi:i≤n) (hin:n≤cur.length) (hk:k=i+t.length) (hf:k+r.length≤cur.length) :
 let cur1:=cur.take k ++ Lib.byteCells r ++ cur.drop (k+(Lib.byteCells r).length)
 let cur2:=cur1.take i ++ Lib.byteCells t ++ cur1.drop (i+(Lib.byteCells t).length)
 cur1.length=cur.length∧cur2.length=cur.length∧cur2.take (k+r.length)=Lib.byteCells (l.take i ++ (t ++ r)):=by
 subst hk
 simp only [byteCells_len]
 have e1:(cur.take (i+t.length)).length=i+t.length:=by rw [List.length_take];omega
 have hl1:(cur.take (i+t.length) ++ Lib.byteCells r ++ cur.drop (i+t.length+r.length)).length=cur.length:=by
  rw [List.length_append,List.length_append,e1,byteCells_len,List.length_drop];omega
 have e2:(cur.take (i+t.length) ++ Lib.byteCells r ++ cur.drop (i+t.length+r.length)).take i=Lib.byteCells (l.take i):=by
  rw [List.append_assoc,List.take_append_of_le_length (by omega),List.take_take,Nat.min_eq_left (by omega),cur_take h i hi]
 have e3:(cur.take (i+t.length) ++ Lib.byteCells r ++ cur.drop (i+t.length+r.length)).drop (i+t.length)=Lib.byteCells r ++ cur.drop (i+t.length+r.length):=by
  rw [List.append_assoc,List.drop_left' e1]
 have hli:(Lib.byteCells (l.take i)).length=i:=by rw [← cur_take h i hi,List.length_take];omega
 refine⟨hl1,?_,?_⟩
 · rw [e2,e3,List.length_append,List.length_append,List.length_append,hli,byteCells_len,byteCells_len,List.length_drop];omega
 · rw [e2,e3]
   have e4:Lib.byteCells (l.take i) ++ Lib.byteCells t ++ (Lib.byteCells r ++ cur.drop (i+t.length+r.length))=Lib.byteCells (l.take i ++ (t ++ r)) ++ cur.drop (i+t.length+r.length):=by
    simp [Lib.byteCells]
   have e5:i+t.length+r.length=(Lib.byteCells (l.take i ++ (t ++ r))).length:=by
    rw [byteCells_len] at hli
    rw [byteCells_len,List.length_append,List.length_append,hli];omega
   rw [e4,e5,List.take_left]
/-- First what is put in, then what lies behind. -/
theorem front_then {cur:List Value} {l t r:List UInt8} {n i:Nat} (h:cur.take n=Lib.byteCells l) (hi:i≤n) (_hin:n≤cur.length) (hf:i+t.length+r.length≤cur.length) :
 let cur1:=cur.take i ++ Lib.byteCells t ++ cur.drop (i+(Lib.byteCells t).length)
 let cur2:=cur1.take (i+t.length) ++ Lib.byteCells r ++ cur1.drop (i+t.length+(Lib.byteCells r).length)
 cur1.length=cur.length∧cur2.length=cur.length∧cur2.take (i+t.length+r.length)=Lib.byteCells (l.take i ++ (t ++ r))∧cur1.drop (i+t.length)=cur.drop (i+t.length):=by
 simp only [byteCells_len]
 have hli:(cur.take i).length=i:=by rw [List.length_take];omega
 have hl0:(cur.take i ++ Lib.byteCells t).length=i+t.length:=by rw [List.length_append,hli,byteCells_len]
 have hl1:(cur.take i ++ Lib.byteCells t ++ cur.drop (i+t.length)).length=cur.length:=by
  rw [List.length_append,hl0,List.length_drop];omega
 have e2:(cur.take i ++ Lib.byteCells t ++ cur.drop (i+t.length)).take (i+t.length)=cur.take i ++ Lib.byteCells t:=List.take_left' hl0
 have e3:(cur.take i ++ Lib.byteCells t ++ cur.drop (i+t.length)).drop (i+t.length)=cur.drop (i+t.length):=List.drop_left' hl0
 refine⟨hl1,?_,?_,e3⟩
 · rw [e2,List.length_append,List.length_append,hl0,byteCells_len,List.length_drop,hl1];omega
 · rw [e2,cur_take h i hi]
   have e4:Lib.byteCells (l.take i) ++ Lib.byteCells t ++ Lib.byteCells r=Lib.byteCells (l.take i ++ (t ++ r)):=by simp [Lib.byteCells]
   rw [e4]
   refine List.take_left' ?_
   rw [← e4,List.length_append,← cur_take h i hi,hl0,byteCells_len]
theorem overlaps_any (w:World) (a b:Addr) (la ca lb cb:Nat) (hne:a.block≠b.block) (tA tB:TypeId) (kA kB:Nat)
 (hsa:w.shape? a.block=some (tA,kA)) (hsb:w.shape? b.block=some (tB,kB)) (hkA:kA≠0) (hfb:w.frozen? b=false) (hfe:w.frozen? { block:=b.block,off:=kB } = false) :
 (callFunc 94 #[.slice (some a) la ca,.slice (some b) lb cb]).run Tryz.prog w = .ok (.value (.bool false)) w:=by
 rw [run_callFunc_extern Tryz.func94 (by kernel_rfl) (by kernel_rfl) (by kernel_rfl) (e:=Extern.SlicesOverlaps.overlaps #[22,22] #[4]) (by kernel_rfl),
  overlaps_second w 22 4 5 Tryz.underlying22 1 (fun w=>by kernel_rfl) a b la ca lb cb hne tA tB kA kB hsa hsb hkA hfb hfe]
 rfl
theorem Bf.shape {w:World} {g:Nat} {cur:List Value} (h:Bf w g cur):w.shape? g=some (5,cur.length):=by
 unfold Bf at h
 unfold World.shape?
 simp [h]
theorem shape_of_cell {w:World} {b o:Nat} {v:Value} (h:w.cell? ⟨b,o,none⟩=some v):∃ t k,w.shape? b=some (t,k)∧k≠0:=by
 unfold World.cell? at h
 unfold World.shape?
 cases hb:w.heap[b]? with
 | none=>simp [hb] at h
 | some ob =>
  simp only [hb] at h ⊢
  cases ob with
  | cells cs t fr =>
   refine⟨t,cs.size,by simp,?_⟩
   intro e
   have:cs = #[]:=Array.size_eq_zero_iff.1 e
   subst this
   simp at h
  | _=>simp at h
/-- What is asked of slices.Insert, slices.Replace at bytes. -/
structure RepIn (w:World) (base g n c i vb voff m:Nat) (cur:List Value) (l t:List UInt8):Prop where
 buf:Bf w g cur
 bas:base≤g
 nc:n≤c
 cm:c≤maxLen
 cl:cur.length=c
 tk:cur.take n=Lib.byteCells l
 ln:l.length=n
 i_n:i≤n
 m0:0 < m
 tl:t.length=m
 val:∀ j v,(Lib.byteCells t)[j]? = some v→w.cell? ⟨vb,voff+j,none⟩=some v
 ne:vb≠g
 big:n+m≤70368744177664
def RepOut (w:World) (base:Nat) (r:List UInt8) (e:Ending) (w':World):Prop:=
 ∃ S' c',e = .returned (.slice S' r.length c')∧w'.ownsRow base 5 1 (.slice S' r.length c') r.length (Lib.byteCells r)∧Below base w w'
theorem zeroU8 (w:World):(zeroValue 5).run Tryz.prog w = .ok (.int .u8 0) w:=by kernel_rfl
theorem zeros_list (n:Nat):Builtin.zeroCells (Value.int .u8 0).cells n=(List.replicate n (Value.int .u8 0)).toArray:=by
 apply Array.ext
 · simp [Builtin.zeroCells,Value.cells]
 · intro i h1 h2
   simp [Builtin.zeroCells,Value.cells,Nat.mod_one]
/-- A new row of bytes: what stood ahead, then zeros. -/
theorem growZ {w:World} {g:Nat} {cur:List Value} (hb:Bf w g cur) (base i c tot:Nat) (kv:Int) (hbase:base≤w.heap.size) (hc:cur.length=c) (hi:i≤c) (hit:i < tot) (hgt:c < tot) (hk:kv=(tot:Int) - (i:Int)) (hbig:tot≤70368744177664) :
 ∃ (C:Nat) (cur0:List Value) (W0:World),(∀ ty,(Builtin.append_ #[22,3] ty #[.slice (some ⟨g,0,none⟩) i c,.int .i64 kv]).run Tryz.prog w = .ok (.slice (some ⟨w.heap.size,0,none⟩) tot C) W0)∧Bf W0 w.heap.size cur0∧cur0.length=C∧tot≤C∧C≤maxLen ∧
  cur0.take i=cur.take i∧Below base w W0∧(∀ a:Addr,a.block < w.heap.size→W0.cell? a=w.cell? a):=by
 obtain⟨i0,hi0,hz0,hz1,hz2⟩:=info_parts infoByte
 have hlt:(cur.take i).length=i:=by rw [List.length_take];omega
 have hold:(Builtin.firstCells i0.size i (.slice (some ⟨g,0,none⟩) i c)).run Tryz.prog w.drew = .ok (cur.take i).toArray w.drew:=by
  rw [hz1]
  exact run_firstCells_some w.drew 1 i ⟨g,0,none⟩ i c (cur.take i) (by omega) (fun j v hj=>by
   rw [Addr.add_lit,Nat.zero_add]
   show w.cell? _=_
   rw [hb.cell,← hj,List.getElem?_take]
   split
   · rfl
   · rename_i hn
     rw [List.getElem?_take,if_neg hn] at hj
     cases hj)
 have hik:i+(tot - i)=tot:=by omega
 have hkk:kv=((tot - i:Nat):Int):=by omega
 obtain⟨C,hC⟩:∃ C,C=grownCap w tot c 5:=⟨_,rfl⟩
 have hC1:tot≤C:=by rw [hC];exact grownCap_ge w _ _ _
 have hC2:C≤maxLen:=by rw [hC];exact grownCap_le_maxLen w tot c _ (by unfold maxLen;omega)
 refine⟨C,cur.take i ++ List.replicate (tot - i) (.int .u8 0) ++ List.replicate (C - tot) (.int .u8 0),w.drew.alloc (.cells (cur.take i ++ List.replicate (tot - i) (Value.int .u8 0) ++ List.replicate (C - tot) (Value.int .u8 0)).toArray 5),fun ty=>?_,?_,?_,hC1,hC2,?_,?_,?_⟩
 · have h:=Lib.run_append_grow_zeros w 22 3 ty 5 i0 _ .i64 .i64 Tryz.underlying22 Tryz.underlying3 hi0 hz0 (some ⟨g,0,none⟩) i c (cur.take i) hold (tot - i) (by omega) (by omega) (by omega) (by omega) (by rw [hz2];omega) (by rw [hz2,hik];exact growslice_fits hgt (by omega))
   rw [hik,← hC,zeros_list,zeros_list] at h
   rw [hkk,h,List.append_toArray,List.append_toArray]
 · exact heap_alloc_new w.drew _
 · rw [List.length_append,List.length_append,hlt,List.length_replicate,List.length_replicate];omega
 · rw [List.append_assoc,List.take_left' hlt]
 · exact(Below.refl _ w).drew.alloc hbase _
 · intro a ha
   exact World.cell?_alloc_lt w.drew _ a ha
theorem Insert_any (base g n c i vb voff m vc:Nat) (cur:List Value) (l t:List UInt8) (w:World) (h:RepIn w base g n c i vb voff m cur l t) :
 Calls Tryz.prog 93 #[.slice (some ⟨g,0,none⟩) n c,.int .i64 (i:Nat),.slice (some ⟨vb,voff,none⟩) m vc] w (RepOut w base (l.take i ++ (t ++ l.drop i))):=by
 obtain⟨hb,hbase,hnc,hcm,hcl,htk,hln,hin,hm,htl,hval,hne,hbig⟩:=h
 obtain⟨i0,hi0,hz0,hz1,hz2⟩:=info_parts infoByte
 unfold RepOut
 have hrl:(l.take i ++ (t ++ l.drop i)).length=n+m:=by simp;omega
 rw [hrl]
 have hown:=hb.own hbase hnc hcm hcl htk hln
 have hsl:Sl w (vb+1) 1 (some ⟨vb,voff,none⟩) m (Lib.byteCells t):=⟨by rw [byteCells_len];omega,fun _=>⟨vb,voff,rfl,by omega,hval⟩⟩
 have hone:=oneCell_byteCells t
 have h63:n+m≤maxLen:=by unfold maxLen;omega
 have h47:(n+m) * 1≤140737488355328:=by omega
 have hbw:base≤w.heap.size:=by have:=hb.lt;omega
 have hz1':¬ ((m:Int)=0):=by omega
 have i0':(0:Int)≤(i:Int):=by omega
 have i1':(i:Int)≤(n:Int):=by omega
 have hcm':c≤9223372036854775807:=by unfold maxLen at hcm;omega
 by_cases hie:i=n
 · subst hie
   have he:l.take i ++ (t ++ l.drop i)=l ++ t:=by rw [List.take_of_length_le (by omega),List.drop_of_length_le (by omega),List.append_nil]
   rw [he]
   have Hown:=Lib.hid hown
   have Hsl:=Lib.hid hsl
   clear hown hsl hval htk hb hcl hrl he
   go_enter Tryz.func93,Tryz.ntmps93
   go_wp2_with (at_builtin;refine wpList_app rfl _ _ 22 rfl base 5 i0 _ 1 1 Tryz.underlying22 hi0 hz0 hz1 hz2 rfl (by decide) (some ⟨g,0,none⟩) i c (Lib.byteCells l) rfl Hown.out _ _ m vc (Lib.byteCells t) rfl Hsl.out hone h63 h47 hbw ?_)
   all_goals (intro S' c' w' hown' hb' hg';go_wp2_with fail;go_ret;refine⟨S',c',rfl,?_,hb'⟩;rw [byteCells_append];exact hown')
 · have hlt:i < n:=by omega
   have hz2':¬ ((i:Int)=(n:Int)):=by omega
   have hci:¬ (c=i):=by omega
   have wadd:IntKind.i64.wrap ((n:Int)+(m:Int))=(n:Int)+(m:Int):=by rw [IntKind.wrap_i64];omega
   have wim:IntKind.i64.wrap ((i:Int)+(m:Int))=(i:Int)+(m:Int):=by rw [IntKind.wrap_i64];omega
   have tim:((i:Int)+(m:Int)).toNat=i+m:=by omega
   have im0:(0:Int)≤(i:Int)+(m:Int):=by omega
   have im1:(i:Int)+(m:Int)≤(n:Int)+(m:Int):=by omega
   have tnm:((n:Int)+(m:Int)).toNat=n+m:=by omega
   have nm0:(0:Int)≤(n:Int)+(m:Int):=by omega
   have in1:(i:Int)≤(n:Int)+(m:Int):=by omega
   have hdl:(Lib.byteCells (l.drop i)).length=n - i:=by rw [byteCells_len,List.length_drop,hln]
   have htc:(Lib.byteCells t).length=m:=by rw [byteCells_len,htl]
   by_cases hroom:n+m≤c
   · have nm1:(n:Int)+(m:Int)≤(c:Int):=by omega
     have dgt:decide ((c:Int) < (n:Int)+(m:Int))=false:=by simp;omega
     have ngt:¬ ((c:Int) < (n:Int)+(m:Int)):=by omega
     have hcim:¬ (c=i+m):=by omega
     obtain⟨hl1,hl2,hl3⟩:=back_then (t:=t) (r:=l.drop i) htk hin (by omega) (k:=i+m) (by omega) (by rw [List.length_drop];omega)
     obtain⟨cur1,hc1⟩:∃ x,x=cur.take (i+m) ++ Lib.byteCells (l.drop i) ++ cur.drop (i+m+(Lib.byteCells (l.drop i)).length):=⟨_,rfl⟩
     rw [← hc1] at hl1 hl2 hl3
     obtain⟨cur2,hc2⟩:∃ x,x=cur1.take i ++ Lib.byteCells t ++ cur1.drop (i+(Lib.byteCells t).length):=⟨_,rfl⟩
     rw [← hc2] at hl2 hl3
     obtain⟨W1,hW1⟩:∃ W1,W1=w.drew.setRow g cur1.toArray:=⟨_,rfl⟩
     have hbd:Bf w.drew g cur:=hb
     have hb1:Bf W1 g cur1:=by rw [hW1];exact hbd.set
     have hcp1:∀ ty dc sc,(Builtin.copy_ #[22,22] ty #[.slice (some ⟨g,i+m,none⟩) (n+m - (i+m)) dc,.slice (some ⟨g,i,none⟩) (n+m - i) sc]).run Tryz.prog w.drew = .ok (goInt (Lib.byteCells (l.drop i)).length) W1:=fun ty dc sc=>by
      rw [hW1,hc1]
      exact copyB hbd ty (i+m) _ dc ⟨g,i,none⟩ _ sc _ (by rw [hdl];simp only [Nat.min_def];split <;> omega) (fun j v hj=>by rw [Addr.add_lit,hbd.cell];exact cur_at htk hln i j v hj) (by rw [hdl];omega) (oneCell_byteCells _)
     obtain⟨W2,hW2⟩:∃ W2,W2=W1.setRow g cur2.toArray:=⟨_,rfl⟩
     have hb2:Bf W2 g cur2:=by rw [hW2];exact hb1.set
     have hcp2:∀ ty dc,(Builtin.copy_ #[22,22] ty #[.slice (some ⟨g,i,none⟩) (n+m - i) dc,.slice (some ⟨vb,voff,none⟩) m vc]).run Tryz.prog W1 = .ok (goInt (Lib.byteCells t).length) W2:=fun ty dc=>by
      rw [hW2,hc2]
      exact copyB hb1 ty i _ dc ⟨vb,voff,none⟩ _ vc _ (by rw [htc];simp only [Nat.min_def];split <;> omega) (fun j v hj=>by rw [Addr.add_lit,hW1,cell_setRow_other _ _ _ _ (by exact hne)];exact hval j v hj) (by rw [htc,hl1];omega) (oneCell_byteCells _)
     have hv0:∃ v,w.cell? ⟨vb,voff,none⟩=some v:=by
      have:=hval 0 ((Lib.byteCells t)[0]'(by omega)) (List.getElem?_eq_getElem (by omega))
      exact⟨_,by simpa using this⟩
     obtain⟨v0,hv0⟩:=hv0
     obtain⟨tA,kA,hsa,hkA⟩:=shape_of_cell hv0
     have hov:∀ la ca lb cb,(callFunc 94 #[.slice (some ⟨vb,voff,none⟩) la ca,.slice (some ⟨g,i+m,none⟩) lb cb]).run Tryz.prog w = .ok (.value (.bool false)) w:=fun la ca lb cb =>
      overlaps_any w ⟨vb,voff,none⟩ ⟨g,i+m,none⟩ la ca lb cb hne tA 5 kA cur.length hsa hb.shape hkA (hb.fz _) (hb.fz _)
     have hfin:W2.ownsRow base 5 1 (.slice (some ⟨g,0,none⟩) (n+m) c) (n+m) (Lib.byteCells (l.take i ++ (t ++ l.drop i))):=
      hb2.own hbase hroom hcm (by omega) (by rw [← hl3];congr 1;rw [List.length_drop];omega) hrl
     have hbel:Below base w W2:=by
      rw [hW2,hW1]
      exact below_setRow (below_setRow (Below.refl _ _).drew hbase _) hbase _
     have Hfin:=Lib.hid (And.intro hfin hbel)
     have mixed:Tryz.prog.follows Departure.mixedOrders=true:=by kernel_rfl
     clear hfin hbel hown hsl hval htk hb hbd hb1 hb2 hc1 hc2 hW1 hW2 hl1 hl2 hl3 hv0 hsa
     go_enter Tryz.func93,Tryz.ntmps93
     go_wp2_with (simp only [hov])
     go_region_law_o (refine step_copyR rfl _ _ 22 22 rfl _ _ (by simp [Act.eval,Act.put]) (by simp [Act.eval,Act.put]) (hcp1 _ _ _) ?_)
     go_wp2_with fail
     go_ret
     exact⟨_,_,rfl,Hfin.out.1,Hfin.out.2⟩
   · have hgt:c < n+m:=by omega
     have dgt:decide ((c:Int) < (n:Int)+(m:Int))=true:=by simp;omega
     have ngt:(c:Int) < (n:Int)+(m:Int):=by omega
     have wsub:IntKind.i64.wrap ((n:Int)+(m:Int) - (i:Int))=(n:Int)+(m:Int) - (i:Int):=by rw [IntKind.wrap_i64];omega
     obtain⟨C,cur0,W0,hrz,hb0,hcl0,hC1,hC2,htk0,hbel0,hold⟩:=growZ hb base i c (n+m) ((n:Int)+(m:Int) - (i:Int)) hbw hcl (by omega) (by omega) hgt (by omega) hbig
     have hvw:vb < w.heap.size:=by
      have:=hval 0 ((Lib.byteCells t)[0]'(by omega)) (List.getElem?_eq_getElem (by omega))
      exact World.block_lt_of_cell? _ _ this
     have hgw:=hb.lt
     have htk1:cur0.take i=Lib.byteCells (l.take i):=by rw [htk0];exact cur_take htk i hin
     obtain⟨hl1,hl2,hl3,_⟩:=front_then (t:=t) (r:=l.drop i) htk1 (Nat.le_refl _) (by omega) (by rw [List.length_drop];omega)
     rw [htl,List.take_take,Nat.min_self] at hl3
     rw [htl] at hl2
     obtain⟨cur1,hc1⟩:∃ x,x=cur0.take i ++ Lib.byteCells t ++ cur0.drop (i+(Lib.byteCells t).length):=⟨_,rfl⟩
     rw [← hc1] at hl1 hl2 hl3
     obtain⟨cur2,hc2⟩:∃ x,x=cur1.take (i+m) ++ Lib.byteCells (l.drop i) ++ cur1.drop (i+m+(Lib.byteCells (l.drop i)).length):=⟨_,rfl⟩
     rw [← hc2] at hl2 hl3
     obtain⟨G,hG⟩:∃ G,G=w.heap.size:=⟨_,rfl⟩
     rw [← hG] at hrz hb0 hold hvw hgw
     obtain⟨W1,hW1⟩:∃ W1,W1=W0.setRow G cur1.toArray:=⟨_,rfl⟩
     have hb1:Bf W1 G cur1:=by rw [hW1];exact hb0.set
     have hcp1:∀ ty dc,(Builtin.copy_ #[22,22] ty #[.slice (some ⟨G,i,none⟩) (n+m - i) dc,.slice (some ⟨vb,voff,none⟩) m vc]).run Tryz.prog W0 = .ok (goInt (Lib.byteCells t).length) W1:=fun ty dc=>by
      rw [hW1,hc1]
      exact copyB hb0 ty i _ dc ⟨vb,voff,none⟩ _ vc _ (by rw [htc];simp only [Nat.min_def];split <;> omega) (fun j v hj=>by rw [Addr.add_lit,hold _ hvw];exact hval j v hj) (by rw [htc,hcl0];omega) (oneCell_byteCells _)
     obtain⟨W2,hW2⟩:∃ W2,W2=W1.drew.setRow G cur2.toArray:=⟨_,rfl⟩
     have hb1d:Bf W1.drew G cur1:=hb1
     have hb2:Bf W2 G cur2:=by rw [hW2];exact hb1d.set
     have hcp2:∀ ty dc sc,(Builtin.copy_ #[22,22] ty #[.slice (some ⟨G,i+m,none⟩) (n+m - (i+m)) dc,.slice (some ⟨g,i,none⟩) (n - i) sc]).run Tryz.prog W1.drew = .ok (goInt (Lib.byteCells (l.drop i)).length) W2:=fun ty dc sc=>by
      rw [hW2,hc2]
      exact copyB hb1d ty (i+m) _ dc ⟨g,i,none⟩ _ sc _ (by rw [hdl];simp only [Nat.min_def];split <;> omega) (fun j v hj=>by
       rw [Addr.add_lit]
       have e:W1.drew.cell? ⟨g,i+j,none⟩=w.cell? ⟨g,i+j,none⟩:=by
        show W1.cell? _=_
        rw [hW1,cell_setRow_other _ _ _ _ (by show g≠G;omega)]
        exact hold _ hgw
       rw [e,hb.cell]
       exact cur_at htk hln i j v hj) (by rw [hdl,hl1,hcl0];omega) (oneCell_byteCells _)
     have hCi:¬ (C=i):=by omega
     have hCim:¬ (C=i+m):=by omega
     have hC3:C≤9223372036854775807:=by unfold maxLen at hC2;omega
     have hfin:W2.ownsRow base 5 1 (.slice (some ⟨G,0,none⟩) (n+m) C) (n+m) (Lib.byteCells (l.take i ++ (t ++ l.drop i))):=
      hb2.own (by omega) hC1 hC2 (by rw [hl2,hcl0]) (by rw [← hl3];congr 1;rw [List.length_drop];omega) hrl
     have hbel:Below base w W2:=by
      rw [hW2,hW1]
      exact below_setRow (below_setRow hbel0 (by omega) _).drew (by omega) _
     have Hfin:=Lib.hid (And.intro hfin hbel)
     have mixed:Tryz.prog.follows Departure.mixedOrders=true:=by kernel_rfl
     clear hfin hbel hbel0 hown hsl hval htk htk0 htk1 hb hb0 hb1 hb1d hb2 hc1 hc2 hW1 hW2 hl1 hl2 hl3 hold hG
     go_enter Tryz.func93,Tryz.ntmps93
     go_wp2_with (at_builtin;refine Lib.wpList_append_run _ rfl _ _ _ _ rfl _ _ rfl rfl _ _ (hrz _) ?_)
     go_region_law_o (refine step_copyR rfl _ _ 22 22 rfl _ _ (by simp [Act.eval,Act.put]) (by simp [Act.eval,Act.put]) (hcp2 _ _ _) ?_)
     go_wp2_with fail
     go_ret
     exact⟨_,_,rfl,Hfin.out.1,Hfin.out.2⟩
end Go.Proofs.YtlgbopjhmemaoaaGreatDoor
