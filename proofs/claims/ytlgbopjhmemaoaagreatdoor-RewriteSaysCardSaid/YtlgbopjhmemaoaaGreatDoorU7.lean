import Derived.Test.YtlgbopjhmemaoaaGreatDoorU2
import Derived.Test.YtlgbopjhmemaoaaGreatDoorU6
import Derived.Deep.RegionWith
import Derived.Test.YtlgbopjhmemaoaaGreatDoorU1
import Derived.Laws.EntriesVeiled
set_option maxRecDepth 100000
set_option maxHeartbeats 40000000
namespace Go.Proofs.YtlgbopjhmemaoaaGreatDoor
open Go.RowKit
def CopyRes (p:PartD) (w:World) (e:Ending) (w':World):Prop:=
 ∃ v:List Value,e = .returned (.agg v.toArray)∧PartAt (fun b=>w.heap.size≤b∧b < w'.heap.size) w' p v∧Below w.heap.size w w'
/-- Memory that the copy made: behind its two boxes, but for the row of its parts. -/
def NewS (B:Nat) (row:Option Nat) (w:World) (b:Nat):Prop:=B≤b∧b < w.heap.size∧row≠some b
def CopyRel (p:PartD) (rows:List (List Value)) (n2 h:Nat) (S1 S2:Option Addr) (d1 d2:Nat) (w0:World) (iv:Value) (wr:World):Prop:=
 ∃ i done,iv = .int .i64 (i:Nat)∧i≤n2∧done.length=i∧wr.ownsRow (h+2) 25 7 (.slice S2 n2 d2) n2 (done ++ rows.drop i).flatten ∧
  PartsAt (NewS (h+2) (Value.ownBlock (.slice S2 n2 d2)) wr) wr (p.parts.take i) done∧SlS (NewS (h+2) (Value.ownBlock (.slice S2 n2 d2)) wr) wr 1 S1 p.body.length (Lib.byteCells p.body) ∧
  BoxF wr h (str p.type) (str p.cs) (str p.id) (str p.loc) (.int .i64 p.how) (.slice S1 p.body.length d1) (.slice S2 n2 d2) ∧
  (∃ v0 v1 v2 v3 v4 v5 v6,BoxF wr (h+1) v0 v1 v2 v3 v4 v5 v6)∧Below h w0 wr∧h+2≤wr.heap.size
theorem Copy_any (k:Nat):∀ (p:PartD) (v:List Value) (w:World),(flatD p).length≤k→k≤1000→(∀ q∈flatD p,q.body.length≤4000)→PartAt (· < w.heap.size) w p v →
 Calls Tryz.prog 16 #[.agg v.toArray] w (CopyRes p w):=by
 induction k with
 | zero=>intro p v w h;rw [flatD_eq] at h;simp at h
 | succ k ih =>
  intro p v w hk hk1 hbod hp
  obtain⟨A,c,A2,c2,rfl,hbds,hby,hnc,hcm,hP,hc2,hcm2⟩:=hp.open
  obtain⟨W,hW⟩:∃ W,W=(w.alloc (.cells #[str p.type,str p.cs,str p.id,str p.loc,.int .i64 p.how,.slice A p.body.length c,.slice A2 p.parts.length c2] 25)).alloc (.cells #[.string ⟨#[]⟩,.string ⟨#[]⟩,.string ⟨#[]⟩,.string ⟨#[]⟩,.int .i64 0,.slice none 0 0,.slice none 0 0] 25):=⟨_,rfl⟩
  have hbW:Below w.heap.size w W:=by rw [hW];exact((Below.refl _ w).alloc (Nat.le_refl _) _).alloc (by simp) _
  have hsW:W.heap.size=w.heap.size+2:=by rw [hW];simp
  have hx1:BoxF W w.heap.size (str p.type) (str p.cs) (str p.id) (str p.loc) (.int .i64 p.how) (.slice A p.body.length c) (.slice A2 p.parts.length c2):=by
   refine BoxF.of_block (t:=25) ?_
   rw [hW,Lib.alloc_old _ _ _ (by simp)]
   exact heap_alloc_new w _
  have hx2:BoxF W (w.heap.size+1) (.string ⟨#[]⟩) (.string ⟨#[]⟩) (.string ⟨#[]⟩) (.string ⟨#[]⟩) (.int .i64 0) (.slice none 0 0) (.slice none 0 0):=by
   refine BoxF.of_block (t:=25) ?_
   rw [hW]
   have:=heap_alloc_new (w.alloc (.cells #[str p.type,str p.cs,str p.id,str p.loc,.int .i64 p.how,.slice A p.body.length c,.slice A2 p.parts.length c2] 25)) (.cells #[.string ⟨#[]⟩,.string ⟨#[]⟩,.string ⟨#[]⟩,.string ⟨#[]⟩,.int .i64 0,.slice none 0 0,.slice none 0 0] 25)
   simpa using this
  have hnb:p.body.length≤1000000000:=by have:=hbod p (by rw [flatD_eq];simp);omega
  have hfl:(flatsD p.parts).length≤k:=by rw [flatD_eq,List.length_cons] at hk;omega
  have hnp:p.parts.length≤1000000000:=by have:=flatsD_len p.parts;omega
  obtain⟨rows,hrs,hrp⟩:=hP
  have hc1:∀ W',Below w.heap.size w W'→Calls Tryz.prog 13 #[.slice A p.body.length c] W' (CloResbyte (Lib.byteCells p.body) p.body.length W'):=
   fun W' hb=>Clone_byte A _ c w.heap.size _ W' (Sl.below hby hb) hb.size (oneCell_byteCells _) hnb
  have hc2:∀ W',Below w.heap.size w W'→Calls Tryz.prog 36 #[.slice A2 p.parts.length c2] W' (CloResPart rows.flatten p.parts.length W'):=
   fun W' hb=>Clone_Part A2 _ c2 w.heap.size _ W' (Sl.below hrs hb) hb.size (PartsAt.one _ _ hrp) hnp
  have Hc1:=Lib.hid hc1
  have Hc2:=Lib.hid hc2
  have Hx1:=Lib.hid (show BoxF W.drew _ _ _ _ _ _ _ _ from hx1)
  have Hx2:=Lib.hid (show BoxF W.drew _ _ _ _ _ _ _ _ from hx2)
  have HsW:=Lib.hid hsW
  have hszW:w.heap.size+2≤W.drew.heap.size:=by show _≤W.heap.size;omega
  have Hby:=Lib.hid hby
  have Hrs:=Lib.hid hrs
  have Hrp:=Lib.hid hrp
  have Hih:=Lib.hid ih
  have Hbod:=Lib.hid hbod
  clear hc1 hc2 hsW hx2 hby hrs hrp ih hbod hp
  obtain⟨⟨x0,x1,x2,x3,x4,x5,x6⟩,hf⟩:=hx1
  go_enter Tryz.func16,Tryz.ntmps16
  go_wp2_with fail
  rw [← hW]
  clear hW
  go_region_with (first
   | (go_at_call 13;refine(Hc1.out _ hbW.drew).mono ?_;rintro e w1 ⟨S1,d1,rfl,hown1,hb1⟩;have hbel1:=hbW.drew.trans (hb1.mono hbW.drew.size);have hB1:=hb1.mono hszW;obtain⟨⟨y0,y1,y2,y3,y4,y5,y6⟩,yf⟩:=Hx1.out.below hB1 (by omega))
   | (go_at_call 36;refine(Hc2.out _ hbel1).mono ?_;rintro e w2 ⟨S2,d2,rfl,hown2,hb2⟩;have hbel2:=hbel1.trans (hb2.mono hbel1.size);have hB2:=hB1.trans (hb2.mono (Nat.le_trans hszW hb1.size));obtain⟨⟨z0,z1,z2,z3,z4,z5,z6⟩,zf⟩:=Hx1.out.below hB2 (by omega)))
  all_goals
   generalize hW3:(w2.setCell ⟨w.heap.size,5,none⟩ (Value.slice S1 p.body.length d1)).setCell ⟨w.heap.size,6,none⟩ (Value.slice S2 p.parts.length d2)=w3
   have hrel0:CopyRel p rows p.parts.length w.heap.size S1 S2 d1 d2 w (.int .i64 0) w3:=by
    have hne:Value.ownBlock (.slice S2 p.parts.length d2)≠some w.heap.size:=fun e=>by have:=(hown2.lt _ e).1;have:=hb1.size;omega
    have hsz3:w3.heap.size=w2.heap.size:=by rw [← hW3];simp
    have hz1:=hb1.size
    have hz2:=hb2.size
    refine⟨0,[],rfl,Nat.zero_le _,rfl,?_,rfl,?_,?_,?_,?_,by omega⟩
    · rw [← hW3]
      exact own_setFar (own_setFar (own_base hown2 (by omega)) hne _) hne _
    · refine SlS.change (own_sls hown1) (fun b hb=>⟨Nat.le_trans hszW hb.1,by have:=hb.2;omega,fun e=>?_⟩) (fun a ha=>?_)
      · have:=(hown2.lt _ e).1
        have:=hb.2
        omega
      · rw [← hW3]
        have h1:=ha.1
        rw [World.cell?_setCell_other _ _ _ _ (by rintro rfl;have h1':w.heap.size+2≤w.heap.size:=Nat.le_trans hszW h1;omega),World.cell?_setCell_other _ _ _ _ (by rintro rfl;have h1':w.heap.size+2≤w.heap.size:=Nat.le_trans hszW h1;omega)]
        exact hb2.cell ha.2
    · rw [← hW3]
      exact BoxF.set56 (Hx1.out.below hB2 (by omega)) _ _
    · rw [← hW3]
      exact⟨_,_,_,_,_,_,_,((Hx2.out.below hB2 (by omega)).setFar (by simp) _).setFar (by simp) _⟩
    · rw [← hW3]
      exact(hbel2.setCell (Nat.le_refl _) _).setCell (Nat.le_refl _) _
   have hdd:p.body.length≤d1∧d1≤maxLen∧p.parts.length≤d2∧d2≤maxLen:=⟨own_cap hown1,own_capmax hown1,own_cap hown2,own_capmax hown2⟩
   have Hdd:=Lib.hid hdd
   have Hrel0:=Lib.hid hrel0
   have hx6:w3.cell? ⟨w.heap.size,6,none⟩=some (.slice S2 p.parts.length d2):=by
    obtain⟨i,done,_,_,_,_,_,_,hbx,_⟩:=hrel0
    exact hbx.1.2.2.2.2.2.2
   clear hW3 hrel0 hdd hown1 hown2 y0 y1 y2 y3 y4 y5 y6 yf z0 z1 z2 z3 z4 z5 z6 zf x0 x1 x2 x3 x4 x5 x6 hf
   clear hb1 hb2 hbel1 hbel2 hB1 hB2
   go_wp2_with fail
   go_loopw [16] (CopyRel p rows p.parts.length w.heap.size S1 S2 d1 d2 w) (fun iv _=>p.parts.length - (intOf iv).toNat)
   case atStart=>exact Hrel0.out
   case round =>
    obtain⟨i,done,rfl,hi,hdl,hown,hpd,hs1,hbx,hb1x,hbel,hsz⟩:=hrel
    by_cases hin:i < p.parts.length
    · obtain⟨g,cap,hv,hgb,hgl⟩:=hown.form (by omega)
      injection hv with hS2 _ hcap
      subst hS2
      subst hcap
      obtain⟨r,hr,hpr⟩:=PartsAt.get _ _ Hrp.out i hin
      have hri:i < rows.length:=by rw [PartsAt.len _ _ Hrp.out];exact hin
      have hrd:rows.drop i=r :: rows.drop (i+1):=by
       rw [List.drop_eq_getElem_cons hri]
       rw [List.getElem?_eq_getElem hri] at hr
       injection hr with hr
       rw [hr]
      have hpd7:=PartsAt.rows _ _ hpd
      have hrw7:∀ x∈done ++ rows.drop i,x.length=7:=by
       intro x hx
       rcases List.mem_append.1 hx with hx | hx
       · exact hpd7 x hx
       · exact PartsAt.rows _ _ Hrp.out x (List.mem_of_mem_drop hx)
      have hcell:∀ k u,k < 7→r[k]? = some u→wr.cell? ⟨g,i * 7+k,none⟩=some u:=by
       intro k u hk hu
       rw [hown.cellAt _ (by omega),flat7_at _ hrw7 i k r ?_ hk]
       · exact hu
       · rw [List.getElem?_append_right (by omega),hdl,Nat.sub_self,hrd];rfl
      generalize hq:p.parts[i]=q at hpr
      obtain⟨A',c',A2',c2',rfl,_⟩:=hpr.open
      have q0:=hcell 0 _ (by omega) rfl
      have q1:=hcell 1 _ (by omega) rfl
      have q2:=hcell 2 _ (by omega) rfl
      have q3:=hcell 3 _ (by omega) rfl
      have q4:=hcell 4 _ (by omega) rfl
      have q5:=hcell 5 _ (by omega) rfl
      have q6:=hcell 6 _ (by omega) rfl
      simp only [Nat.add_zero] at q0
      obtain⟨W5,hW5⟩:∃ W5,W5=wr.alloc (.cells #[str q.type,str q.cs,str q.id,str q.loc,.int .i64 q.how,.slice A' q.body.length c',.slice A2' q.parts.length c2'] 25):=⟨_,rfl⟩
      have hbA:Below wr.heap.size wr W5:=by rw [hW5];exact(Below.refl _ wr).alloc (Nat.le_refl _) _
      have hbel5:Below w.heap.size w W5:=hbel.trans (hbA.mono hbel.size)
      have hbx5:BoxF W5 w.heap.size _ _ _ _ _ _ _:=hbx.below hbA (by omega)
      have hk5:BoxF W5 wr.heap.size (str q.type) (str q.cs) (str q.id) (str q.loc) (.int .i64 q.how) (.slice A' q.body.length c') (.slice A2' q.parts.length c2'):=by
       refine BoxF.of_block (t:=25) ?_
       rw [hW5];exact heap_alloc_new wr _
      have hs5:W5.heap.size=wr.heap.size+1:=by rw [hW5];simp
      have hr5:Row7 W5.drew g (i * 7) (str q.type) (str q.cs) (str q.id) (str q.loc) (.int .i64 q.how) (.slice A' q.body.length c') (.slice A2' q.parts.length c2'):=Row7.below (w:=wr) ⟨q0,q1,q2,q3,q4,q5,q6⟩ hbA.drew hgl
      have Hr5:=Lib.hid hr5
      have hgl5:g < W5.drew.heap.size:=by show g < W5.heap.size;omega
      have Hbx5:=Lib.hid (show BoxF W5.drew _ _ _ _ _ _ _ _ from hbx5)
      have hh5:w.heap.size < W5.drew.heap.size:=by show w.heap.size < W5.heap.size;omega
      obtain⟨⟨_,_,_,_,_,_,x6⟩,_⟩:=hbx5
      obtain⟨⟨k0,k1,k2,k3,k4,k5,k6⟩,_⟩:=hk5
      have hflq:(flatD q).length≤k∧∀ x∈flatD q,x.body.length≤4000:=by
       have h1:=flatsD_get p.parts i hin
       rw [hq] at h1
       exact⟨by omega,fun x hx=>Hbod.out x (by rw [flatD_eq];exact List.mem_cons_of_mem _ (h1.2 x hx))⟩
      have hcl:=Hih.out q _ W5.drew hflq.1 (by omega) hflq.2 ((hpr.belowN (w':=W5.drew) hbel5.drew (Nat.le_refl _)).more hbel5.size)
      have hown5:=own_below hown hbA
      have Hcl:=Lib.hid hcl
      have Hown:=Lib.hid hown5
      have Hq:=Lib.hid hq
      have Hpd:=Lib.hid hpd
      have Hs1:=Lib.hid hs1
      have Hbx:=Lib.hid hbx
      have Hb1x:=Lib.hid hb1x
      have Hdl:=Lib.hid hdl
      have Hs5:=Lib.hid hs5
      have Hrd:=Lib.hid hrd
      have Hpd7:=Lib.hid hpd7
      have hin1:(i:Int) < p.parts.length:=by omega
      have hin0:0≤(i:Int):=by omega
      clear hr5 hcl hown5 hown hq hpd hs1 hbx hb1x hdl hs5 hrd hrw7 hpd7 hcell hr hri hpr hflq
      go_wp2_with fail
      rw [← hW5]
      clear hW5 q0 q1 q2 q3 q4 q5 q6
      go_region_with (first
       | (go_at_call 16;refine Hcl.out.mono ?_;rintro e w6 ⟨v6,rfl,hpv,hb6⟩;obtain⟨A6,d6,A7,d7,rfl,_⟩:=hpv.open;have hown6:=own_below (show World.ownsRow W5.drew _ _ _ _ _ _ from Hown.out) hb6;have f6:∀ j,w6.frozen? ⟨g,j,none⟩=false:=fun j=>hown6.frozenAt j;obtain⟨c0,c1,c2,c3,c4,c5,c6⟩:=Hr5.out.below hb6 hgl5;obtain⟨⟨_,_,_,_,_,_,y6⟩,_⟩:=Hbx5.out.below hb6 hh5;have Hown6:=Lib.hid hown6;have Hpv:=Lib.hid hpv;clear hown6 hpv))
      all_goals
       generalize hW7:(((((((w6.setCell ⟨g,i * 7,none⟩ (str q.type)).setCell ⟨g,i * 7+1,none⟩ (str q.cs)).setCell ⟨g,i * 7+2,none⟩ (str q.id)).setCell ⟨g,i * 7+3,none⟩ (str q.loc)).setCell ⟨g,i * 7+4,none⟩ (.int .i64 q.how)).setCell ⟨g,i * 7+5,none⟩ (.slice A6 q.body.length d6)).setCell ⟨g,i * 7+6,none⟩ (.slice A7 q.parts.length d7))=w7
       have HW7:=Lib.hid hW7
       clear hW7
       go_wp2_with fail
       refine⟨?_,by simp [intOf];omega⟩
       have hs5:=Hs5.out
       have hb65:Below W5.heap.size W5 w6:=⟨hb6.os,hb6.tape,hb6.output,hb6.size,hb6.block⟩
       have hgb6:W5.heap.size≤w6.heap.size:=hb65.size
       have hbr6:Below wr.heap.size wr w6:=hbA.trans (hb65.mono hbA.size)
       have hd7:=Hpd7.out
       have hown7:=own_set7 (g:=g) (i:=i) (done:=done) (rest:=rows.drop (i+1)) (by have:=Hown6.out;rw [Hrd.out] at this;exact this) hd7 Hdl.out (str q.type) (str q.cs) (str q.id) (str q.loc) (.int .i64 q.how) (.slice A6 q.body.length d6) (.slice A7 q.parts.length d7)
       rw [HW7.out] at hown7
       have hsz7:w7.heap.size=w6.heap.size:=by rw [← HW7.out];simp
       have far7:∀ a:Addr,a.block≠g→w7.cell? a=w6.cell? a:=fun a ha=>by rw [← HW7.out];exact set7_far _ _ _ _ _ _ _ ha
       have old7:∀ a:Addr,NewS (w.heap.size+2) (Value.ownBlock (.slice (some ⟨g,0,none⟩) p.parts.length d2)) wr a.block→w7.cell? a=wr.cell? a:=fun a ha=>by
        rw [far7 a (fun e=>ha.2.2 (by rw [e];rfl))];exact hbr6.cell ha.2.1
       have in7:∀ b,NewS (w.heap.size+2) (Value.ownBlock (.slice (some ⟨g,0,none⟩) p.parts.length d2)) wr b→NewS (w.heap.size+2) (Value.ownBlock (.slice (some ⟨g,0,none⟩) p.parts.length d2)) w7 b:=fun b hb=>⟨hb.1,by have:=hb.2.1;omega,hb.2.2⟩
       refine⟨i+1,done ++ [[str q.type,str q.cs,str q.id,str q.loc,.int .i64 q.how,.slice A6 q.body.length d6,.slice A7 q.parts.length d7]],by go_num,by omega,by simp [Hdl.out],by rw [List.append_assoc];exact hown7,?_,?_,?_,?_,?_,by omega⟩
       · have ht:p.parts.take (i+1)=p.parts.take i ++ [q]:=by rw [List.take_succ_eq_append_getElem hin,Hq.out]
         rw [ht]
         refine PartsAt.app _ _ _ _ (PartsAt.change in7 old7 _ _ Hpd.out) ⟨_,_,rfl,PartAt.change ?_ ?_ _ _ Hpv.out,rfl⟩
         · intro b hb
           have h1:W5.heap.size≤b:=hb.1
           have h2:=hb.2
           refine⟨by omega,by omega,fun e=>?_⟩
           have:g=b:=Option.some.inj e
           omega
         · intro a ha
           have h1:W5.heap.size≤a.block:=ha.1
           exact far7 a (by omega)
       · exact SlS.change Hs1.out in7 old7
       · have h1:=Hbx5.out.below hb6 hh5
         rw [← HW7.out]
         exact((((((h1.setFar (by simp;omega) _).setFar (by simp;omega) _).setFar (by simp;omega) _).setFar (by simp;omega) _).setFar (by simp;omega) _).setFar (by simp;omega) _).setFar (by simp;omega) _
       · obtain⟨v0,v1,v2,v3,v4,v5,v6,hbr⟩:=Hb1x.out
         have h1:=hbr.below hbr6 (by omega)
         rw [← HW7.out]
         exact⟨_,_,_,_,_,_,_,((((((h1.setFar (by simp;omega) _).setFar (by simp;omega) _).setFar (by simp;omega) _).setFar (by simp;omega) _).setFar (by simp;omega) _).setFar (by simp;omega) _).setFar (by simp;omega) _⟩
       · rw [← HW7.out]
         exact set7_below (hbel5.trans (hb65.mono hbel5.size)) (by omega) _ _ _ _ _ _ _
    · obtain rfl:i=p.parts.length:=by omega
      obtain⟨⟨x0,x1,x2,x3,x4,x5,x6⟩,_⟩:=id hbx
      obtain⟨r0,r1,r2,r3,r4,r5,r6,⟨y0,y1,y2,y3,y4,y5,y6⟩,yf⟩:=hb1x
      have hdr:rows.drop p.parts.length = []:=List.drop_of_length_le (by rw [PartsAt.len _ _ Hrp.out];exact Nat.le_refl _)
      rw [hdr,List.append_nil] at hown
      rw [List.take_length] at hpd
      have Hown:=Lib.hid hown
      have Hpd:=Lib.hid hpd
      have Hs1:=Lib.hid hs1
      have Hdl:=Lib.hid hdl
      clear hown hpd hs1 hdl hdr
      go_wp2_with fail
      have hbx9:=BoxF.set7 (w:=wr) (b:=w.heap.size+1) ⟨⟨y0,y1,y2,y3,y4,y5,y6⟩,yf⟩ (str p.type) (str p.cs) (str p.id) (str p.loc) (.int .i64 p.how) (.slice S1 p.body.length d1) (.slice S2 p.parts.length d2)
      have far9:∀ a:Addr,a.block≠w.heap.size+1→(((((((wr.setCell ⟨w.heap.size+1,0,none⟩ (str p.type)).setCell ⟨w.heap.size+1,1,none⟩ (str p.cs)).setCell ⟨w.heap.size+1,2,none⟩ (str p.id)).setCell ⟨w.heap.size+1,3,none⟩ (str p.loc)).setCell ⟨w.heap.size+1,4,none⟩ (.int .i64 p.how)).setCell ⟨w.heap.size+1,5,none⟩ (.slice S1 p.body.length d1)).setCell ⟨w.heap.size+1,6,none⟩ (.slice S2 p.parts.length d2)).cell? a=wr.cell? a:=by
       intro a ha
       have h:∀ (w':World) k u,(w'.setCell ⟨w.heap.size+1,k,none⟩ u).cell? a=w'.cell? a:=fun w' k u=>World.cell?_setCell_other _ _ _ _ (by rintro rfl;exact ha rfl)
       rw [h,h,h,h,h,h,h]
      have hbel9:Below w.heap.size w (((((((wr.setCell ⟨w.heap.size+1,0,none⟩ (str p.type)).setCell ⟨w.heap.size+1,1,none⟩ (str p.cs)).setCell ⟨w.heap.size+1,2,none⟩ (str p.id)).setCell ⟨w.heap.size+1,3,none⟩ (str p.loc)).setCell ⟨w.heap.size+1,4,none⟩ (.int .i64 p.how)).setCell ⟨w.heap.size+1,5,none⟩ (.slice S1 p.body.length d1)).setCell ⟨w.heap.size+1,6,none⟩ (.slice S2 p.parts.length d2)):=
       ((((((hbel.setCell (Nat.le_succ _) _).setCell (Nat.le_succ _) _).setCell (Nat.le_succ _) _).setCell (Nat.le_succ _) _).setCell (Nat.le_succ _) _).setCell (Nat.le_succ _) _).setCell (Nat.le_succ _) _
      have hsz9:(((((((wr.setCell ⟨w.heap.size+1,0,none⟩ (str p.type)).setCell ⟨w.heap.size+1,1,none⟩ (str p.cs)).setCell ⟨w.heap.size+1,2,none⟩ (str p.id)).setCell ⟨w.heap.size+1,3,none⟩ (str p.loc)).setCell ⟨w.heap.size+1,4,none⟩ (.int .i64 p.how)).setCell ⟨w.heap.size+1,5,none⟩ (.slice S1 p.body.length d1)).setCell ⟨w.heap.size+1,6,none⟩ (.slice S2 p.parts.length d2)).heap.size=wr.heap.size:=by simp
      generalize (((((((wr.setCell ⟨w.heap.size+1,0,none⟩ (str p.type)).setCell ⟨w.heap.size+1,1,none⟩ (str p.cs)).setCell ⟨w.heap.size+1,2,none⟩ (str p.id)).setCell ⟨w.heap.size+1,3,none⟩ (str p.loc)).setCell ⟨w.heap.size+1,4,none⟩ (.int .i64 p.how)).setCell ⟨w.heap.size+1,5,none⟩ (.slice S1 p.body.length d1)).setCell ⟨w.heap.size+1,6,none⟩ (.slice S2 p.parts.length d2))=w9 at hbx9 far9 hbel9 hsz9 ⊢
      obtain⟨c0,c1,c2,c3,c4,c5,c6⟩:=hbx9
      refine bodyPost_ret (v:=.agg #[str p.type,str p.cs,str p.id,str p.loc,.int .i64 p.how,.slice S1 p.body.length d1,.slice S2 p.parts.length d2]) (by simp [results,Tryz.results16,go_sem,c0,c1,c2,c3,c4,c5,c6]) rfl ?_
      have inN:∀ b,NewS (w.heap.size+2) (Value.ownBlock (.slice S2 p.parts.length d2)) wr b→w.heap.size≤b∧b < w9.heap.size:=fun b hb=>⟨by have:=hb.1;omega,by have:=hb.2.1;omega⟩
      have oldN:∀ a:Addr,NewS (w.heap.size+2) (Value.ownBlock (.slice S2 p.parts.length d2)) wr a.block→w9.cell? a=wr.cell? a:=fun a ha=>far9 a (by have:=ha.1;omega)
      have hrw:=SlS.change (own_sls Hown.out) (S':=fun b=>w.heap.size≤b∧b < w9.heap.size) (w':=w9) (fun b hb=>⟨by have:=hb.1;omega,by have:=hb.2;omega⟩) (fun a ha=>far9 a (by have:=ha.1;omega))
      have hpp:=PartsAt.change inN oldN _ _ Hpd.out
      have hss:=SlS.change Hs1.out inN oldN
      obtain⟨hb1,hb2,hb3,hb4,hb5,hb6⟩:=hbds
      have hbnd:p.body.length≤d1∧d1≤maxLen∧p.parts.length≤d2∧d2≤maxLen:=Hdd.out
      refine⟨_,rfl,?_,hbel9⟩
      obtain⟨t,cs,id,loc,how,body,parts⟩:=p
      exact⟨S1,_,d1,S2,_,d2,done,rfl,⟨hb1,hb2,hb3,hb4,hb5,hb6⟩,hss,hbnd.1,hbnd.2.1,hrw,hbnd.2.2.1,hbnd.2.2.2,hpp⟩
/-- What is checked is small. -/
theorem chk_body (q:PartD) (h:chkD q=0):q.body.length≤4000:=by
 unfold chkD chkB at h
 split at h
 · cases h
 · split at h
   · cases h
   · split at h
     · cases h
     · rename_i h1;simp at h1;omega
theorem firstErr_all:∀ (L:List PartD),firstErr L=0→∀ q∈L,chkD q=0
 | [],_=>by simp
 | x :: L,h=>by
  unfold firstErr at h
  split at h
  · rename_i h0
    intro q hq
    rcases List.mem_cons.1 hq with rfl | hq
    · exact h0
    · exact firstErr_all L h q hq
  · rename_i h0;exact absurd h h0
theorem checkD_ok (p:PartD) (h:checkD p=0):(flatD p).length≤12∧(∀ q∈flatD p,chkD q=0):=by
 cases hc:cntD 3 p with
 | none=>rw [checkD_none p hc] at h;cases h
 | some c =>
  rw [checkD_some p c hc] at h
  have:=cntD_flat 3 p c hc
  have:=cntD_le 3 p c hc
  exact⟨by omega,firstErr_all _ h⟩
def bareD (q:PartD):PartD:={ q with parts:=[] }
theorem bare_at {S:Nat→Prop} {w:World} {q:PartD} {v0 v1 v2 v3 v4 v5 v6:Value} (h:PartAt S w q [v0,v1,v2,v3,v4,v5,v6]):PartAt S w (bareD q) [v0,v1,v2,v3,v4,v5,.slice none 0 0]:=by
 obtain⟨t,cs,id,loc,how,body,parts⟩:=q
 obtain⟨A,n,c,A2,n2,c2,rows,hv,h1,h2,h3,h4,_⟩:=h
 simp only [List.cons.injEq,and_true] at hv
 obtain⟨rfl,rfl,rfl,rfl,rfl,rfl,_⟩:=hv
 exact⟨A,n,c,none,0,0,[],rfl,h1,h2,h3,h4,⟨rfl,fun h=>absurd h (by omega)⟩,Nat.le_refl _,Nat.zero_le _,rfl⟩
theorem flat7_set6 (done:List (List Value)) (hd:∀ r∈done,r.length=7) (r0 r1 r2 r3 r4 r5 r6 u6:Value) (rest:List (List Value)) :
 (done ++ [r0,r1,r2,r3,r4,r5,r6] :: rest).flatten.set (done.length * 7+6) u6=(done ++ [[r0,r1,r2,r3,r4,r5,u6]] ++ rest).flatten:=by
 have hl:=flat7_len done hd
 rw [← hl,List.append_assoc]
 simp only [List.flatten_append,List.flatten_cons]
 generalize done.flatten=D
 rw [List.set_append_right _ _ (by omega),Nat.add_sub_cancel_left]
 rfl
/-- What part.All leaves. -/
def AllOut (p:PartD) (w:World) (e:Ending) (w':World):Prop:=
 ∃ S c,e = .returned (.tuple #[.slice S (if checkD p=0 then (flatD p).length else 0) c,.int .i64 (checkD p:Nat)])∧SlP (· < w'.heap.size) w' S (if checkD p=0 then (flatD p).length else 0) (if checkD p=0 then (flatD p).map bareD else []) ∧
  (if checkD p=0 then (flatD p).length else 0)≤c∧c≤maxLen∧Below w.heap.size w w'
def AllRel2 (L:List PartD) (B n:Nat) (S:Option Addr) (c:Nat) (w1:World) (iv:Value) (wr:World):Prop:=
 ∃ i done rest,iv = .int .i64 (i:Nat)∧i≤n∧done.length=i∧wr.ownsRow w1.heap.size 25 7 (.slice S n c) n (done ++ rest).flatten∧PartsAt (· < B) wr ((L.take i).map bareD) done∧PartsAt (· < B) wr (L.drop i) rest∧Below w1.heap.size w1 wr
theorem All_any (p:PartD) (v:List Value) (w:World) (hp:PartAt (· < w.heap.size) w p v) :
 Calls Tryz.prog 10 #[.agg v.toArray] w (AllOut p w):=by
 have hok:=checkD_ok p
 have hck:=PCheck_any p v
 obtain⟨A,c,A2,c2,rfl,_⟩:=hp.open
 obtain⟨W,hW⟩:∃ W,W=w.alloc (.cells #[str p.type,str p.cs,str p.id,str p.loc,.int .i64 p.how,.slice A p.body.length c,.slice A2 p.parts.length c2] 25):=⟨_,rfl⟩
 have hbW:Below w.heap.size w W:=by rw [hW];exact(Below.refl _ w).alloc (Nat.le_refl _) _
 have hbx:Box7 W w.heap.size (str p.type) (str p.cs) (str p.id) (str p.loc) (.int .i64 p.how) (.slice A p.body.length c) (.slice A2 p.parts.length c2):=by rw [hW];exact Box7.new w _ _ _ _ _ _ _ _
 have hpW:=hp.below hbW
 have hcW:=hck W (hpW.more hbW.size)
 unfold AllOut
 generalize checkD p=R at hcW hok ⊢
 obtain⟨n2,hn2⟩:∃ n2,n2=p.parts.length:=⟨_,rfl⟩
 obtain⟨n1,hn1⟩:∃ n1,n1=p.body.length:=⟨_,rfl⟩
 have HcW:=Lib.hid hcW
 have Hp:=Lib.hid hp
 clear hck hcW hpW hp
 by_cases hR:R=0
 · subst hR
   obtain⟨hl12,hch⟩:=hok rfl
   have Hch:=Lib.hid hch
   simp only [if_true]
   clear hok hch
   go_enter Tryz.func10,Tryz.ntmps10
   go_wp2_with fail
   rw [← hW]
   clear hW
   refine HcW.out.mono ?_
   clear HcW
   rintro e w1 ⟨rfl,hb1⟩
   have hbel1:=hbW.trans (hb1.mono hbW.size)
   have hbx1:=hbx.below hb1
   have⟨x0,x1,x2,x3,x4,x5,x6⟩:=hbx1
   have hcp:=Copy_any 12 p _ w1 hl12 (by omega) (fun q hq=>chk_body q (Hch.out q hq)) ((Hp.out.below hbel1).more hbel1.size)
   have Hcp:=Lib.hid hcp
   clear hbx hbx1 hcp hb1 hbW
   go_wp2_with fail
   refine Hcp.out.mono ?_
   clear Hcp x0 x1 x2 x3 x4 x5 x6
   rintro e w2 ⟨v2,rfl,hpv,hb2⟩
   have hbel2:=hbel1.trans (hb2.mono hbel1.size)
   have hpv2:PartAt (· < w2.heap.size) w2 p v2:=PartAt.change (fun b hb=>hb.2) (fun _ _=>rfl) _ _ hpv
   have hal:=all_any 12 p v2 w2.heap.size w2 hl12 (by omega) (Nat.le_refl _) hpv2
   have Hal:=Lib.hid hal
   clear hal hpv hpv2
   go_wp2_with fail
   refine Hal.out.mono ?_
   clear Hal
   generalize hL:flatD p=L
   rintro e w3 ⟨S,c3,rows,rfl,hown,hrows,hb3⟩
   have hbel3:=hbel2.trans (hb3.mono hbel2.size)
   have hn12:L.length≤12:=by rw [← hL];exact hl12
   have hc3:=own_cap hown
   have hcm3:=own_capmax hown
   obtain⟨n,hn⟩:∃ n,n=L.length:=⟨_,rfl⟩
   rw [← hn] at hown hn12 hc3 ⊢
   have Hn:=Lib.hid hn
   have Hown:=Lib.hid hown
   have Hrows:=Lib.hid hrows
   have Hcm3:=Lib.hid hcm3
   have HL:=Lib.hid hL
   clear hown hrows hL hn hb2 hbel1 hcm3
   go_wp2_with fail
   go_loopw [17] (AllRel2 L w2.heap.size n S c3 w2) (fun iv _=>n - (intOf iv).toNat)
   case atStart=>exact⟨0,[],rows,rfl,Nat.zero_le _,rfl,Hown.out,rfl,Hrows.out,hb3⟩
   case round =>
    obtain⟨i,done,rest,rfl,hi,hdl,hown,hpd,hpr,hbel⟩:=hrel
    by_cases hin:i < n
    · obtain⟨g,cap,hv,hgb,hgl⟩:=hown.form (by omega)
      injection hv with hS2 _ hcap
      subst hS2
      subst hcap
      have hiL:i < L.length:=by rw [← Hn.out];exact hin
      rw [List.drop_eq_getElem_cons hiL] at hpr
      obtain⟨r,rs,rfl,hpq,hprs⟩:=hpr
      have hpd7:=PartsAt.rows _ _ hpd
      have ht:(L.take (i+1)).map bareD=(L.take i).map bareD ++ [bareD L[i]]:=by rw [List.take_succ_eq_append_getElem hiL,List.map_append];rfl
      generalize L[i]=q at hpq ht
      obtain⟨A',c',A2',c2',rfl,_⟩:=hpq.open
      have hrw7:∀ x∈done ++ [str q.type,str q.cs,str q.id,str q.loc,.int .i64 q.how,.slice A' q.body.length c',.slice A2' q.parts.length c2'] :: rs,x.length=7:=by
       intro x hx
       rcases List.mem_append.1 hx with hx | hx
       · exact hpd7 x hx
       · rcases List.mem_cons.1 hx with rfl | hx
         · rfl
         · exact PartsAt.rows _ _ hprs x hx
      have q6:wr.cell? ⟨g,i * 7+6,none⟩=some (.slice A2' q.parts.length c2'):=by
       rw [hown.cellAt _ (by omega),flat7_at _ hrw7 i 6 _ (by rw [List.getElem?_append_right (by omega),hdl,Nat.sub_self];rfl) (by omega)]
       rfl
      have f6:wr.frozen? ⟨g,i * 7+6,none⟩=false:=hown.frozenAt _
      have hown7:=(hown.stored (i * 7+6) (.slice none 0 0)).1
      have hfs:=flat7_set6 done hpd7 (str q.type) (str q.cs) (str q.id) (str q.loc) (.int .i64 q.how) (.slice A' q.body.length c') (.slice A2' q.parts.length c2') (.slice none 0 0) rs
      rw [hdl] at hfs
      rw [hfs] at hown7
      have hbel7:=hbel.setCell (p:=⟨g,i * 7+6,none⟩) hgb (.slice none 0 0)
      have far:∀ a:Addr,a.block < w2.heap.size→(wr.setCell ⟨g,i * 7+6,none⟩ (.slice none 0 0)).cell? a=wr.cell? a:=fun a ha=>World.cell?_setCell_other _ _ _ _ (by rintro rfl;simp at ha;omega)
      have h1:=PartsAt.change (fun _ h=>h) far _ _ hpd
      have h2:=PartsAt.change (fun _ h=>h) far _ _ hprs
      have h3:=PartAt.change (fun _ h=>h) far _ _ (bare_at hpq)
      have Ht:=Lib.hid ht
      have Hown7:=Lib.hid hown7
      have Hdl:=Lib.hid hdl
      clear hfs hown hpd hpq hprs ht hown7 hdl hrw7
      go_wp2_with fail
      refine⟨⟨i+1,done ++ [[str q.type,str q.cs,str q.id,str q.loc,.int .i64 q.how,.slice A' q.body.length c',.slice none 0 0]],rs,by go_num,by omega,by simp [Hdl.out],Hown7.out,?_,h2,hbel7⟩,by simp [intOf];omega⟩
      rw [Ht.out]
      exact PartsAt.app _ _ _ _ h1 ⟨_,_,rfl,h3,rfl⟩
    · obtain rfl:i=n:=by omega
      have Hown2:=Lib.hid hown
      have Hpd2:=Lib.hid hpd
      have Hpr2:=Lib.hid hpr
      clear hown hpd hpr
      go_wp2_with fail
      go_ret2
      have hn:=Hn.out
      subst hn
      have hpr:=Hpr2.out
      rw [List.drop_length] at hpr
      obtain rfl:rest = []:=hpr
      have hpd:=Hpd2.out
      rw [List.take_length] at hpd
      have hown:=Hown2.out
      rw [List.append_nil] at hown
      have hL:=HL.out
      subst hL
      exact⟨S,c3,rfl,⟨done,Sl.of_own hown,PartsAt.change (fun b hb=>Nat.lt_of_lt_of_le hb hbel.size) (fun _ _=>rfl) _ _ hpd⟩,hc3,Hcm3.out,hbel2.trans (hbel.mono hbel2.size)⟩
 · have hR1:((R:Int) != 0)=true:=by simp;omega
   simp only [if_neg hR]
   clear hok
   go_enter Tryz.func10,Tryz.ntmps10
   go_wp2_with fail
   rw [← hW]
   clear hW
   refine HcW.out.mono ?_
   clear HcW hR
   rintro e w1 ⟨rfl,hb1⟩
   go_wp2_with fail
   go_ret2
   exact⟨none,0,rfl,SlP.nil_ _ _ _,Nat.le_refl _,Nat.zero_le _,hbW.trans (hb1.mono hbW.size)⟩
end Go.Proofs.YtlgbopjhmemaoaaGreatDoor
namespace Go.Proofs.YtlgbopjhmemaoaaGreatDoor
mutual
/-- part.Within, where n numbers stand already: of a part that is in number inn. -/
def wthD:PartD→Nat→Int→List Int
 | ⟨_,_,_,_,_,_,parts⟩,n,inn=>inn :: wthsD parts (n+1) n
def wthsD:List PartD→Nat→Nat→List Int
 | [],_,_=>[]
 | p :: ps,n,me=>wthD p n (me:Int) ++ wthsD ps (n+(flatD p).length) me
end
mutual
theorem wthD_len:∀ (p:PartD) (n:Nat) (inn:Int),(wthD p n inn).length=(flatD p).length
 | ⟨t,cs,id,loc,how,body,parts⟩,n,inn=>by rw [wthD,flatD,List.length_cons,List.length_cons,wthsD_len parts]
theorem wthsD_len:∀ (ps:List PartD) (n me:Nat),(wthsD ps n me).length=(flatsD ps).length
 | [],_,_=>by rw [wthsD,flatsD];rfl
 | p :: ps,n,me=>by rw [wthsD,flatsD,List.length_append,List.length_append,wthD_len p,wthsD_len ps]
end
theorem wthD_eq (p:PartD) (n:Nat) (inn:Int):wthD p n inn=inn :: wthsD p.parts (n+1) n:=by cases p;rw [wthD]
/-- What the numbers say: of a forest whose parts lie from n on, all in number me. -/
theorem wths_facts:∀ (ps:List PartD) (n me:Nat),me < n →
 (∀ (j:Nat) (x:Int),(wthsD ps n me)[j]? = some x→x=(me:Int)∨((n:Int)≤x∧x < (n:Int)+j∧∃ q,(flatsD ps)[(x - n).toNat]? = some q∧q.parts≠[])) ∧
 (∀ (j:Nat) q,(flatsD ps)[j]? = some q→q.parts≠[]→((n+j:Nat):Int)∈wthsD ps n me)∧(ps≠[]→(me:Int)∈wthsD ps n me):=by
 have key:∀ (k:Nat) (ps:List PartD),(flatsD ps).length≤k→∀ (n me:Nat),me < n →
  (∀ (j:Nat) (x:Int),(wthsD ps n me)[j]? = some x→x=(me:Int)∨((n:Int)≤x∧x < (n:Int)+j∧∃ q,(flatsD ps)[(x - n).toNat]? = some q∧q.parts≠[])) ∧
  (∀ (j:Nat) q,(flatsD ps)[j]? = some q→q.parts≠[]→((n+j:Nat):Int)∈wthsD ps n me)∧(ps≠[]→(me:Int)∈wthsD ps n me):=by
  intro k
  induction k with
  | zero =>
   intro ps hk n me hm
   cases ps with
   | nil=>simp [wthsD,flatsD]
   | cons p ps=>rw [flatsD,flatD_eq] at hk;simp at hk
  | succ k ih =>
   intro ps hk n me hm
   cases ps with
   | nil=>simp [wthsD,flatsD]
   | cons p ps =>
    have hfl:(flatsD (p :: ps)).length=1+(flatsD p.parts).length+(flatsD ps).length:=by
     rw [flatsD,flatD_eq,List.length_append,List.length_cons];omega
    obtain⟨a1,a2,a3⟩:=ih p.parts (by omega) (n+1) n (by omega)
    obtain⟨b1,b2,b3⟩:=ih ps (by omega) (n+(flatD p).length) me (by omega)
    have hlp:(flatD p).length=1+(flatsD p.parts).length:=by rw [flatD_eq,List.length_cons];omega
    have hwl:=wthsD_len p.parts (n+1) n
    have e:wthsD (p :: ps) n me=(me:Int) :: (wthsD p.parts (n+1) n ++ wthsD ps (n+(flatD p).length) me):=by rw [wthsD,wthD_eq];rfl
    have f:flatsD (p :: ps)=p :: (flatsD p.parts ++ flatsD ps):=by rw [flatsD,flatD_eq];rfl
    rw [e,f]
    refine⟨?_,?_,fun _=>by simp⟩
    · intro j x hx
      cases j with
      | zero=>left;simpa using hx.symm
      | succ j =>
       rw [List.getElem?_cons_succ] at hx
       rcases Nat.lt_or_ge j (wthsD p.parts (n+1) n).length with h | h
       · rw [List.getElem?_append_left h] at hx
         rcases a1 j x hx with rfl | ⟨h1,h2,q,hq,hqp⟩
         · right
           refine⟨by omega,by omega,p,by simp,?_⟩
           intro hp
           rw [hp] at h
           simp [wthsD] at h
         · right
           refine⟨by omega,by omega,q,?_,hqp⟩
           have e2:(x - (n:Int)).toNat=(x - ((n+1:Nat):Int)).toNat+1:=by omega
           rw [e2,List.getElem?_cons_succ,List.getElem?_append_left]
           · exact hq
           · exact(List.getElem?_eq_some_iff.1 hq).1
       · rw [List.getElem?_append_right h] at hx
         rcases b1 _ x hx with rfl | ⟨h1,h2,q,hq,hqp⟩
         · exact .inl rfl
         · right
           refine⟨by omega,by omega,q,?_,hqp⟩
           have e2:(x - (n:Int)).toNat=(x - ((n+(flatD p).length:Nat):Int)).toNat+(flatsD p.parts).length+1:=by omega
           rw [e2,List.getElem?_cons_succ,List.getElem?_append_right (by omega),Nat.add_sub_cancel]
           exact hq
    · intro j q hq hqp
      cases j with
      | zero =>
       simp at hq
       subst hq
       have:=a3 hqp
       simp only [Nat.add_zero]
       exact List.mem_cons_of_mem _ (List.mem_append.2 (.inl this))
      | succ j =>
       rw [List.getElem?_cons_succ] at hq
       rcases Nat.lt_or_ge j (flatsD p.parts).length with h | h
       · rw [List.getElem?_append_left h] at hq
         have:=a2 j q hq hqp
         rw [show n+(j+1)=n+1+j from by omega]
         exact List.mem_cons_of_mem _ (List.mem_append.2 (.inl this))
       · rw [List.getElem?_append_right h] at hq
         have:=b2 _ q hq hqp
         rw [show n+(j+1)=n+(flatD p).length+(j - (flatsD p.parts).length) from by omega]
         exact List.mem_cons_of_mem _ (List.mem_append.2 (.inr this))
 intro ps n me hm
 exact key _ ps (Nat.le_refl _) n me hm
/-- .. of one part with all in it, the first. -/
theorem wth_facts (p:PartD) :
 (wthD p 0 (-1))[0]? = some (-1) ∧
 (∀ (j:Nat) (x:Int),(wthD p 0 (-1))[j+1]? = some x→0≤x∧x≤j∧∃ q,(flatD p)[x.toNat]? = some q∧q.parts≠[]) ∧
 (∀ (j:Nat) q,(flatD p)[j]? = some q→q.parts≠[]→((j:Nat):Int)∈wthD p 0 (-1)):=by
 obtain⟨a1,a2,a3⟩:=wths_facts p.parts 1 0 (by omega)
 rw [wthD_eq,flatD_eq]
 refine⟨rfl,?_,?_⟩
 · intro j x hx
   rw [List.getElem?_cons_succ] at hx
   rcases a1 j x hx with rfl | ⟨h1,h2,q,hq,hqp⟩
   · refine⟨by omega,by omega,p,by simp,?_⟩
     intro hp
     rw [hp] at hx
     simp [wthsD] at hx
   · refine⟨by omega,by omega,q,?_,hqp⟩
     have e2:x.toNat=(x - ((1:Nat):Int)).toNat+1:=by omega
     rw [e2,List.getElem?_cons_succ]
     exact hq
 · intro j q hq hqp
   cases j with
   | zero=>simp at hq;subst hq;exact List.mem_cons_of_mem _ (a3 hqp)
   | succ j =>
    rw [List.getElem?_cons_succ] at hq
    have:=a2 j q hq hqp
    rw [show((j+1:Nat):Int)=((1+j:Nat):Int) from by omega]
    exact List.mem_cons_of_mem _ this
end Go.Proofs.YtlgbopjhmemaoaaGreatDoor
namespace Go.Proofs.YtlgbopjhmemaoaaGreatDoor
open Go.RowKit
/-- The cells of a list of ints. -/
def iCells (l:List Int):List Value:=l.map fun x=>Value.int .i64 x
theorem infoInt2:(Tryz.prog.info? 3).map (fun i=>(i.zero,i.size,i.bytes))=some (some (.int .i64 0),1,8):=by kernel_rfl
theorem iCells_app (a b:List Int):iCells (a ++ b)=iCells a ++ iCells b:=by simp [iCells]
theorem iCells_one (l:List Int):∀ u∈iCells l,u.oneCell'=true:=by
 intro u hu;simp [iCells] at hu;obtain⟨x,_,rfl⟩:=hu;rfl
theorem Sl.one2 (w:World) (o:Obj) (t:TypeId) (v:Value):Sl ((w.alloc o).alloc (.cells #[v] t)) (w.heap.size+2) 1 (some ⟨w.heap.size+1,0,none⟩) 1 [v]:=by
 have:=Sl.one (w.alloc o) t v
 simpa using this
/-- What the closure of part.Within works on: the list in block b, itself in block b + 1. -/
def WCtx (b:Nat) (w:World) (l:List Int):Prop:=
 ∃ S m c,w.cell? ⟨b,0,none⟩=some (.slice S m c)∧w.frozen? ⟨b,0,none⟩=false∧w.cell? ⟨b+1,0,none⟩=some (.func (.func 104) #[] #[.pointer (some ⟨b,0,none⟩),.pointer (some ⟨b+1,0,none⟩)]) ∧
  w.ownsRow (b+2) 3 1 (.slice S m c) m (iCells l)∧l.length=m∧b+2≤w.heap.size
theorem WCtx.below {b:Nat} {w w':World} {l:List Int} (h:WCtx b w l) (hb:Below w.heap.size w w'):WCtx b w' l:=by
 obtain⟨S,m,c,h1,h2,h3,h4,h5,h6⟩:=h
 exact⟨S,m,c,(hb.cell (p:=⟨b,0,none⟩) (by show b < _;omega)).trans h1,(hb.frozen (p:=⟨b,0,none⟩) (by show b < _;omega)).trans h2,(hb.cell (p:=⟨b+1,0,none⟩) (by show b+1 < _;omega)).trans h3,own_below h4 hb,h5,Nat.le_trans h6 hb.size⟩
def WRel (b n2 me:Nat) (parts:List PartD) (T:List Int) (w0:World) (iv:Value) (wr:World):Prop:=
 ∃ i done,iv = .int .i64 (i:Nat)∧i≤n2∧WCtx b wr done∧Hid (done ++ wthsD (parts.drop i) done.length me=T)∧Below b w0 wr
theorem Within1_any (b:Nat) (k:Nat):∀ (p:PartD) (v:List Value) (inn:Int) (l:List Int) (w:World) (B:Nat),(flatD p).length≤k→l.length+(flatD p).length≤1000→-1≤inn→inn≤1000→B≤b→PartAt (· < B) w p v→WCtx b w l →
 Calls Tryz.prog 104 #[.agg v.toArray,.int .i64 inn,.pointer (some ⟨b,0,none⟩),.pointer (some ⟨b+1,0,none⟩)] w
  fun e w'=>e = .returned (.tuple #[])∧WCtx b w' (l ++ wthD p l.length inn)∧Below b w w':=by
 obtain⟨i0,hi0,hz0,hz1,hz2⟩:=info_parts infoInt2
 induction k with
 | zero=>intro p v inn l w B h;rw [flatD_eq] at h;simp at h
 | succ k ih =>
  intro p v inn l w B hk hk1 hinn1 hinn2 hB hp hctx
  obtain⟨A,c,A2,c2,rfl,_,_,_,_,hP,hc2,hcm⟩:=hp.open
  obtain⟨W,hW⟩:∃ W,W=w.alloc (.cells #[str p.type,str p.cs,str p.id,str p.loc,.int .i64 p.how,.slice A p.body.length c,.slice A2 p.parts.length c2] 25):=⟨_,rfl⟩
  have hbW:Below w.heap.size w W:=by rw [hW];exact(Below.refl _ w).alloc (Nat.le_refl _) _
  have hbx:Box7 W w.heap.size (str p.type) (str p.cs) (str p.id) (str p.loc) (.int .i64 p.how) (.slice A p.body.length c) (.slice A2 p.parts.length c2):=by rw [hW];exact Box7.new w _ _ _ _ _ _ _ _
  have hctxW:=hctx.below hbW
  have hszb:b+2≤w.heap.size:=by obtain⟨_,_,_,_,_,_,_,_,h⟩:=hctx;exact h
  have hbel0:Below b w W:=hbW.mono (by omega)
  obtain⟨n2,hn2⟩:∃ n2,n2=p.parts.length:=⟨_,rfl⟩
  have hT:=wthD_eq p l.length inn
  obtain⟨T,hTd⟩:∃ T,T=l ++ wthD p l.length inn:=⟨_,rfl⟩
  have hTl:T.length=l.length+(flatD p).length:=by rw [hTd,List.length_append,wthD_len]
  rw [hT] at hTd
  rw [show l ++ wthD p l.length inn=T from by rw [hT,hTd]]
  have hPW:=hP.below (hbW.mono (by omega:B≤w.heap.size))
  rw [← hn2] at hPW hc2 hW hbx ⊢
  have HT:=Lib.hid hTd
  have HTl:=Lib.hid hTl
  have Hn2:=Lib.hid hn2
  have Hih:=Lib.hid ih
  have Hk:=Lib.hid hk
  have hn2m:n2≤9223372036854775807:=by unfold maxLen at hcm;omega
  have hl1000:l.length≤1000:=by omega
  obtain⟨S,m,cS,y0,yf,y1,hown,hlm,_⟩:=hctxW
  have hne:Value.ownBlock (.slice S m cS)≠some w.heap.size:=by
   obtain⟨S0,m0,c0,e0,_,_,hown0,_⟩:=hctx
   have e1:=(hbW.cell (p:=⟨b,0,none⟩) (by show b < _;omega)).trans e0
   rw [y0] at e1
   injection e1 with e1
   rw [e1]
   intro e
   have:=(hown0.lt _ e).2
   omega
  have hP0:SlP (· < B) w A2 n2 p.parts:=by rw [hn2];exact hP
  have Hne:=Lib.hid hne
  have hm1000:m≤1000:=by omega
  have Hlm:=Lib.hid hlm
  have h63:m+1≤maxLen:=by unfold maxLen;omega
  have h47:(m+1) * 8≤140737488355328:=by omega
  have⟨x0,x1,x2,x3,x4,x5,x6⟩:=hbx
  have hsW:b+2≤W.heap.size:=Nat.le_trans hszb hbW.size
  have hownA:=hown
  clear hT hTd hTl hn2 ih hk hP hp hctx hcm hlm
  subst hW
  go_enter Tryz.func104,Tryz.ntmps104
  go_wp2_with (at_builtin;refine wpList_app rfl _ _ 93 rfl (b+2) 3 i0 (.int .i64 0) 1 8 Tryz.underlying93 hi0 hz0 hz1 hz2 rfl (by decide) S m cS (iCells l) rfl (hown.alloc _) _ _ 1 1 [.int .i64 inn] rfl (Sl.one2 w _ _ _) (iCells_one [inn]) h63 h47 (by simp only [World.size_alloc];omega) ?_)
  intro S' c' w4 hown4 hb4 hg4
  have hbA:=((Below.refl (b+2) (w.alloc (.cells #[str p.type,str p.cs,str p.id,str p.loc,.int .i64 p.how,.slice A p.body.length c,.slice A2 n2 c2] 25))).alloc hsW (.cells #[.int .i64 inn] 3)).trans hb4
  have hb40:Below b w w4:=hbel0.trans (hbA.mono (by omega))
  have z0:=(hbA.cell (p:=⟨b,0,none⟩) (by show b < b+2;omega)).trans y0
  have zf:=(hbA.frozen (p:=⟨b,0,none⟩) (by show b < b+2;omega)).trans yf
  have z1:=(hbA.cell (p:=⟨b+1,0,none⟩) (by show b+1 < b+2;omega)).trans y1
  have hbk:w4.heap[w.heap.size]? = some (.cells #[str p.type,str p.cs,str p.id,str p.loc,.int .i64 p.how,.slice A p.body.length c,.slice A2 n2 c2] 25):=by
   rw [hg4.block w.heap.size (by simp <;> omega) (fun e=>Hne.out e.symm),Lib.alloc_old _ _ _ (by simp)]
   exact heap_alloc_new w _
  have u6:w4.cell? ⟨w.heap.size,6,none⟩=some (.slice A2 n2 c2):=by unfold World.cell?;rw [hbk];rfl
  have hne4:Value.ownBlock (.slice S' (m+1) c')≠some b:=fun e=>by have:=(hown4.lt _ e).1;omega
  have hctx5:WCtx b (w4.setCell ⟨b,0,none⟩ (.slice S' (m+1) c')) (l ++ [inn]):=by
   refine⟨S',m+1,c',World.cell?_setCell_same _ _ _ z0,by simpa using zf,?_,?_,by simp [Hlm.out],by have h1:=hb4.size;have h2:=hbA.size;simp only [World.size_setCell];simp only [World.size_alloc] at h1;omega⟩
   · rw [World.cell?_setCell_other _ _ _ _ (by simp)];exact z1
   · rw [iCells_app];exact own_setFar hown4 hne4 _
  have hbel5:Below b w (w4.setCell ⟨b,0,none⟩ (.slice S' (m+1) c')):=hb40.setCell (Nat.le_refl _) _
  have u6':(w4.setCell ⟨b,0,none⟩ (.slice S' (m+1) c')).cell? ⟨w.heap.size,6,none⟩=some (.slice A2 n2 c2):=by
   rw [World.cell?_setCell_other _ _ _ _ (by simp <;> omega)];exact u6
  have Hctx5:=Lib.hid hctx5
  clear hown hownA hown4 hb4 hg4 hbA hb40 y0 yf y1 hbk u6 hne4 hctx5 x0 x1 x2 x3 x4 x5 x6 z1 hbx hbel0 hbW hPW
  go_wp2_with fail
  go_loopw [18] (WRel b n2 m p.parts T w) (fun iv _=>n2 - (intOf iv).toNat)
  case atStart =>
   refine⟨0,l ++ [inn],rfl,Nat.zero_le _,Hctx5.out,?_,hbel5⟩
   show _=T
   rw [HT.out,List.drop_zero,List.length_append,Hlm.out]
   simp
  case round =>
   obtain⟨i,done,rfl,hi,hctx,hE,hbel⟩:=hrel
   by_cases hin:i < n2
   · have hPr:=hP0.belowN hbel hB
     obtain⟨b',off,q,A',n',c',A2',n2',c2',rfl,hbS,hq,hqa,x0,x1,x2,x3,x4,x5,x6⟩:=hPr.cells7 hin
     have hE1:=hE.out
     rw [hq,wthsD] at hE1
     have hqf:(flatD q).length≤k∧done.length+(flatD q).length≤1000:=by
      have h1:=congrArg List.length hE1
      simp only [List.length_append,wthD_len] at h1
      have h2:=HTl.out
      refine⟨?_,by omega⟩
      have hqi:i < p.parts.length:=by rw [← Hn2.out];exact hin
      have h3:=flatsD_get p.parts i hqi
      have h4:p.parts[i]=q:=by rw [List.drop_eq_getElem_cons hqi] at hq;injection hq
      rw [h4] at h3
      have h5:=Hk.out
      rw [flatD_eq,List.length_cons] at h5
      omega
     obtain⟨W,hW⟩:∃ W,W=wr.alloc (.cells #[str q.type,str q.cs,str q.id,str q.loc,.int .i64 q.how,.slice A' n' c',.slice A2' n2' c2'] 25):=⟨_,rfl⟩
     have hbW:Below wr.heap.size wr W:=by rw [hW];exact(Below.refl _ wr).alloc (Nat.le_refl _) _
     have hszr:b+2≤wr.heap.size:=by obtain⟨_,_,_,_,_,_,_,_,h⟩:=hctx;exact h
     have hctxW:=hctx.below hbW
     have y1:W.cell? ⟨b+1,0,none⟩=some (.func (.func 104) #[] #[.pointer (some ⟨b,0,none⟩),.pointer (some ⟨b+1,0,none⟩)]):=by obtain⟨_,_,_,_,_,h,_⟩:=hctxW;exact h
     have hcl:=Hih.out q _ (m:Int) done W B hqf.1 hqf.2 (by omega) (by omega) hB (hqa.belowN hbW (by omega)) hctxW
     have hbelW:=hbel.trans (hbW.mono (by omega))
     have hE2:Hid ((done ++ wthD q done.length (m:Int)) ++ wthsD (p.parts.drop (i+1)) (done ++ wthD q done.length (m:Int)).length m=T):=by
      show _=T
      rw [List.length_append,wthD_len,List.append_assoc]
      exact hE1
     generalize done ++ wthD q done.length (m:Int)=done2 at hcl hE2
     have Hcl:=Lib.hid hcl
     clear hcl hE hE1 hq hPr hqa hctx hctxW hbW hbel
     subst hW
     go_wp2_with fail
     refine Hcl.out.mono ?_
     rintro e w6 ⟨rfl,hctx6,hb6⟩
     clear x0 x1 x2 x3 x4 x5 x6 y1
     go_wp2_with fail
     exact⟨⟨i+1,done2,by go_num,by omega,hctx6,hE2,hbelW.trans hb6⟩,by simp [intOf];omega⟩
   · have hE1:Hid (done=T):=by
      have:=hE.out
      rw [List.drop_of_length_le (by rw [← Hn2.out];omega),wthsD,List.append_nil] at this
      exact this
     clear hE
     have Hctx:=Lib.hid hctx
     clear hctx
     go_wp2_with fail
     go_end0
     obtain rfl:=hE1.out
     exact⟨rfl,Hctx.out,hbel⟩
theorem WCtx.new (w:World) (t1 t2:TypeId):WCtx w.heap.size ((w.alloc (.cells #[.slice none 0 0] t1)).alloc (.cells #[.func (.func 104) #[] #[.pointer (some ⟨w.heap.size,0,none⟩),.pointer (some ⟨w.heap.size+1,0,none⟩)]] t2)) []:=by
 have h0:((w.alloc (.cells #[.slice none 0 0] t1)).alloc (.cells #[.func (.func 104) #[] #[.pointer (some ⟨w.heap.size,0,none⟩),.pointer (some ⟨w.heap.size+1,0,none⟩)]] t2)).heap[w.heap.size]? = some (.cells #[.slice none 0 0] t1):=by
  rw [Lib.alloc_old _ _ _ (by simp)];exact heap_alloc_new w _
 have h1:((w.alloc (.cells #[.slice none 0 0] t1)).alloc (.cells #[.func (.func 104) #[] #[.pointer (some ⟨w.heap.size,0,none⟩),.pointer (some ⟨w.heap.size+1,0,none⟩)]] t2)).heap[w.heap.size+1]? = some (.cells #[.func (.func 104) #[] #[.pointer (some ⟨w.heap.size,0,none⟩),.pointer (some ⟨w.heap.size+1,0,none⟩)]] t2):=by
  have:=heap_alloc_new (w.alloc (.cells #[.slice none 0 0] t1)) (.cells #[.func (.func 104) #[] #[.pointer (some ⟨w.heap.size,0,none⟩),.pointer (some ⟨w.heap.size+1,0,none⟩)]] t2)
  simpa using this
 refine⟨none,0,0,?_,Lib.frozen_of_heap h0 0,?_,World.ownsRow_nil _ _ _ _,rfl,by simp⟩
 · unfold World.cell?;rw [h0];rfl
 · unfold World.cell?;rw [h1];rfl
/-- What part.Within leaves. -/
def WthOut (p:PartD) (w:World) (e:Ending) (w':World):Prop:=
 ∃ S c,e = .returned (.tuple #[.slice S (if checkD p=0 then (flatD p).length else 0) c,.int .i64 (checkD p:Nat)])∧Sl w' w'.heap.size 1 S (if checkD p=0 then (flatD p).length else 0) (iCells (if checkD p=0 then wthD p 0 (-1) else [])) ∧
  (if checkD p=0 then (flatD p).length else 0)≤c∧c≤maxLen∧Below w.heap.size w w'
theorem Within_any (p:PartD) (v:List Value) (w:World) (hp:PartAt (· < w.heap.size) w p v) :
 Calls Tryz.prog 62 #[.agg v.toArray] w (WthOut p w):=by
 have hok:=checkD_ok p
 have hck:=PCheck_any p v
 obtain⟨A,c,A2,c2,rfl,_⟩:=hp.open
 obtain⟨W,hW⟩:∃ W,W=w.alloc (.cells #[str p.type,str p.cs,str p.id,str p.loc,.int .i64 p.how,.slice A p.body.length c,.slice A2 p.parts.length c2] 25):=⟨_,rfl⟩
 have hbW:Below w.heap.size w W:=by rw [hW];exact(Below.refl _ w).alloc (Nat.le_refl _) _
 have hbx:Box7 W w.heap.size (str p.type) (str p.cs) (str p.id) (str p.loc) (.int .i64 p.how) (.slice A p.body.length c) (.slice A2 p.parts.length c2):=by rw [hW];exact Box7.new w _ _ _ _ _ _ _ _
 have hpW:=hp.below hbW
 have hcW:=hck W (hpW.more hbW.size)
 unfold WthOut
 generalize checkD p=R at hcW hok ⊢
 have HcW:=Lib.hid hcW
 have Hp:=Lib.hid hp
 clear hck hcW hpW hp
 by_cases hR:R=0
 · subst hR
   obtain⟨hl12,hch⟩:=hok rfl
   simp only [if_true]
   have hwl:=wthD_len p 0 (-1)
   clear hok hch
   obtain⟨T,hT⟩:∃ T,T=wthD p 0 (-1):=⟨_,rfl⟩
   rw [← hT,← hwl,← hT]
   rw [← hT] at hwl
   have Hwl:=Lib.hid hwl
   have HT:=Lib.hid hT
   clear hwl hT
   go_enter Tryz.func62,Tryz.ntmps62
   go_wp2_with fail
   rw [← hW]
   clear hW
   refine HcW.out.mono ?_
   clear HcW
   rintro e w1 ⟨rfl,hb1⟩
   have hbel1:=hbW.trans (hb1.mono hbW.size)
   have hbx1:=hbx.below hb1
   have⟨x0,x1,x2,x3,x4,x5,x6⟩:=hbx1
   have hl1:=hbx1.lt
   clear hbx hbx1 hb1 hbW
   go_wp2_with fail
   have hbelx:=(hbel1.alloc hbel1.size (.cells #[.slice none 0 0] 93)).alloc (by simp;have:=hbel1.size;omega) (.cells #[.func (.func 104) #[] #[.pointer (some ⟨w1.heap.size,0,none⟩),.pointer (some ⟨w1.heap.size+1,0,none⟩)]] 132)
   refine(Within1_any w1.heap.size 12 p _ (-1) [] _ w.heap.size hl12 (by simp;omega) (by omega) (by omega) hbel1.size (Hp.out.below hbelx) (WCtx.new w1 _ _)).mono ?_
   rw [List.nil_append,List.length_nil,← HT.out]
   rintro e w2 ⟨rfl,hctx,hb2⟩
   have hbel2:=hbelx.trans (hb2.mono hbel1.size)
   obtain⟨S,m,cS,y0,yf,y1,hown,hlm,_⟩:=hctx
   have hsl:=Sl.of_own hown
   have hcap:=own_cap hown
   have hcm:=own_capmax hown
   subst hlm
   clear x0 x1 x2 x3 x4 x5 x6 yf y1 hown hbelx hb2
   go_wp2_with fail
   go_ret2
   exact⟨S,cS,rfl,hsl,hcap,hcm,hbel2⟩
 · have hR1:((R:Int) != 0)=true:=by simp;omega
   simp only [if_neg hR]
   clear hok
   go_enter Tryz.func62,Tryz.ntmps62
   go_wp2_with fail
   rw [← hW]
   clear hW
   refine HcW.out.mono ?_
   clear HcW hR
   rintro e w1 ⟨rfl,hb1⟩
   go_wp2_with fail
   go_ret2
   exact⟨none,0,rfl,Sl.nil_ _ _ _ _,Nat.le_refl _,Nat.zero_le _,hbW.trans (hb1.mono hbW.size)⟩
theorem chk_many (q:PartD) (h:chkD q=0):manyB q.type=decide (0 < q.parts.length):=by
 unfold chkD chkB at h
 split at h
 · cases h
 · split at h
   · cases h
   · split at h
     · cases h
     · split at h
       · cases h
       · rename_i h1
         simp only [Bool.or_eq_true,not_or] at h1
         have:=h1.1
         simpa using this
/-- What the law asks, of what part.All and part.Within say. -/
theorem tree_facts (p:PartD) (hch:∀ q∈flatD p,chkD q=0) :
 (wthD p 0 (-1))[0]? = some (-1) ∧
 (∀ j,j+1 < (flatD p).length→∃ (k:Nat) (q:PartD),(wthD p 0 (-1))[j+1]? = some (k:Int)∧k≤j∧(flatD p)[k]? = some q∧manyB q.type=true) ∧
 (∀ (j:Nat) (q:PartD),(flatD p)[j]? = some q→manyB q.type=(wthD p 0 (-1)).contains (j:Int)):=by
 obtain⟨a0,a1,a2⟩:=wth_facts p
 have hl:=wthD_len p 0 (-1)
 refine⟨a0,fun j hj=>?_,fun j q hq=>?_⟩
 · have hx:(wthD p 0 (-1))[j+1]? = some (wthD p 0 (-1))[j+1]:=List.getElem?_eq_getElem (by omega)
   obtain⟨h1,h2,q,hq,hqp⟩:=a1 j _ hx
   obtain⟨k,hk⟩:=Int.eq_ofNat_of_zero_le h1
   rw [hk] at hx h2 hq
   refine⟨k,q,hx,by omega,by simpa using hq,?_⟩
   rw [chk_many q (hch q (List.mem_of_getElem? hq))]
   have:0 < q.parts.length:=List.length_pos_iff.2 hqp
   simpa using this
 · rw [chk_many q (hch q (List.mem_of_getElem? hq)),Bool.eq_iff_iff,decide_eq_true_eq,List.contains_iff_mem]
   constructor
   · intro h
     exact a2 j q hq (List.length_pos_iff.1 h)
   · intro h
     obtain⟨i,hi,he⟩:=List.getElem_of_mem h
     have hx:(wthD p 0 (-1))[i]? = some (j:Int):=by rw [List.getElem?_eq_getElem hi,he]
     cases i with
     | zero=>rw [a0] at hx;injection hx with hx;omega
     | succ i =>
      obtain⟨_,_,q',hq',hqp⟩:=a1 i _ hx
      rw [Int.toNat_natCast,hq] at hq'
      injection hq' with hq'
      subst hq'
      exact List.length_pos_iff.2 hqp
/-- Where a part is of which nothing is said. -/
def outW:List UInt8:=[116,104,105,115,109,101,115,115,97,103,101,58,47]
def fromW (out:List (List UInt8)) (k:Int):List UInt8:=if 0≤k∧out.getD k.toNat []≠[] then out.getD k.toNat [] else outW
def stepW (out:List (List UInt8)) (loc:List UInt8) (k:Int):List UInt8:=if loc = [] then fromW out k else ledB (fromW out k) loc
def whereF:List PartD→List Int→List (List UInt8)→List (List UInt8)
 | x :: xs,k :: ks,out=>whereF xs ks (out ++ [stepW out x.loc k])
 | [],_,out=>out
 | _ :: _,[],out=>out
def whereD (p:PartD):List (List UInt8):=whereF (flatD p) (wthD p 0 (-1)) []
theorem whereF_len:∀ (F:List PartD) (T:List Int) (out:List (List UInt8)),F.length=T.length→(whereF F T out).length=out.length+F.length
 | [],_,out,_=>by simp [whereF]
 | x :: xs,[],out,h=>by simp at h
 | x :: xs,k :: ks,out,h=>by
  rw [whereF,whereF_len xs ks _ (by simpa using h)]
  simp
  omega
theorem printU_len (u:UrlD):(printU u).1.length≤605:=by
 unfold printU
 split
 · rename_i h
   simp only
   obtain⟨h1,h2,h3,h4,h5⟩:=check_text h
   unfold textU
   have e1:(if u.scheme = [] then [] else u.scheme ++ [58]).length≤121:=by split <;> simp <;> omega
   have e2:(if u.hasHost then [47,47] ++ u.host else []).length≤122:=by split <;> simp <;> omega
   have e3:(if u.hasQuery then 63 :: u.query else []).length≤121:=by split <;> simp <;> omega
   have e4:(if u.hasFrag then 35 :: u.frag else []).length≤121:=by split <;> simp <;> omega
   simp only [List.length_append]
   omega
 · simp
theorem ledB_len (f t:List UInt8):(ledB f t).length≤605:=by
 unfold ledB
 split
 · simp
 · split
   · simp
   · split
     · simp
     · exact printU_len _
theorem fromW_len {out:List (List UInt8)} (h:∀ s∈out,s.length≤605) (k:Int):(fromW out k).length≤605:=by
 unfold fromW
 split
 · rename_i h1
   rw [List.getD_eq_getElem?_getD]
   cases hx:out[k.toNat]? with
   | none=>simp
   | some s=>exact h s (List.mem_of_getElem? hx)
 · decide
theorem stepW_len {out:List (List UInt8)} (h:∀ s∈out,s.length≤605) (loc:List UInt8) (k:Int):(stepW out loc k).length≤605:=by
 unfold stepW
 split
 · exact fromW_len h k
 · exact ledB_len _ _
theorem chk_loc (q:PartD) (h:chkD q=0):q.loc.length≤120:=by
 unfold chkD chkB at h
 split at h
 · cases h
 · rename_i h1
   cases hw:wordB q.loc with
   | false=>rw [hw] at h1;simp at h1
   | true =>
    unfold wordB at hw
    simp only [Bool.and_eq_true,decide_eq_true_eq] at hw
    exact hw.1
theorem madeStrW (n:Nat):(madeCells (Value.string ⟨#[]⟩).cells (n * 1)).toList=(List.replicate n ([]:List UInt8)).map str:=by
 rw [Nat.mul_one]
 unfold madeCells
 rw [Array.toList_map,Array.toList_range,List.map_replicate]
 induction n with
 | zero=>rfl
 | succ n ih =>
  rw [List.range_succ,List.map_append,ih,List.replicate_succ']
  congr 1
  show [(#[Value.string ⟨#[]⟩]:Array Value)[n % 1]!]=_
  rw [Nat.mod_one]
  rfl
/-- What part.Within says at a place. -/
theorem wth_at (p:PartD) (hch:∀ q∈flatD p,chkD q=0) (i:Nat) (hi:i < (flatD p).length):∃ k:Int,(wthD p 0 (-1)).drop i=k :: (wthD p 0 (-1)).drop (i+1)∧(wthD p 0 (-1))[i]? = some k∧-1≤k∧k < i:=by
 obtain⟨f0,f1,_⟩:=tree_facts p hch
 have hl:=wthD_len p 0 (-1)
 have hd:=List.drop_eq_getElem_cons (l:=wthD p 0 (-1)) (i:=i) (by omega)
 have hg:(wthD p 0 (-1))[i]? = some ((wthD p 0 (-1))[i]'(by omega)):=List.getElem?_eq_getElem (by omega)
 refine⟨_,hd,hg,?_⟩
 cases i with
 | zero=>rw [f0] at hg;injection hg with hg;omega
 | succ i =>
  obtain⟨k,q,h1,h2,_⟩:=f1 i hi
  rw [h1] at hg
  injection hg with hg
  omega
/-- A row of texts, the first of which are written. -/
def OB (w:World) (g n:Nat) (out:List (List UInt8)):Prop:=w.heap[g]? = some (.cells ((out ++ List.replicate (n - out.length) []).map str).toArray 9 (0,0))
section
variable {w w':World} {g n:Nat} {out:List (List UInt8)}
theorem OB.lt (h:OB w g n out):g < w.heap.size:=by
 rcases Nat.lt_or_ge g w.heap.size with h' | h'
 · exact h'
 · unfold OB at h;rw [Array.getElem?_eq_none h'] at h;cases h
theorem OB.fz (h:OB w g n out) (i:Nat):w.frozen? ⟨g,i,none⟩=false:=by
 unfold OB at h
 unfold World.frozen?
 rw [h]
 simp
theorem OB.below (h:OB w g n out) (hb:Below w.heap.size w w'):OB w' g n out:=(hb.block g h.lt).trans h
theorem OB.cell (h:OB w g n out) {k:Nat} (hk:k < out.length):w.cell? ⟨g,k,none⟩=some (str (out.getD k [])):=by
 unfold OB at h
 unfold World.cell?
 rw [h]
 simp only [List.getElem?_toArray,List.getElem?_map]
 rw [List.getElem?_append_left hk,List.getElem?_eq_getElem hk]
 simp [List.getD_eq_getElem?_getD,List.getElem?_eq_getElem hk]
theorem OB.slot (h:OB w g n out) (i:Nat) (hi:i < n):∃ old,w.cell? ⟨g,i,none⟩=some old:=by
 unfold OB at h
 unfold World.cell?
 rw [h]
 simp only
 rw [Array.getElem?_eq_getElem (by simp;omega)]
 exact⟨_,rfl⟩
theorem OB.set (h:OB w g n out) (hn:out.length < n) (x:List UInt8):OB (w.setCell ⟨g,out.length,none⟩ (str x)) g n (out ++ [x]):=by
 unfold OB at h ⊢
 simp only [World.setCell,Array.getElem?_modify,if_pos,h,Option.map_some]
 have:List.replicate (n - out.length) ([]:List UInt8) = [] :: List.replicate (n - (out ++ [x]).length) []:=by
  rw [List.length_append,List.length_singleton,show n - out.length=(n - (out.length+1))+1 by omega,List.replicate_succ]
 rw [this]
 simp
theorem OB.sl (h:OB w g n out) (hn:out.length=n):Sl w w.heap.size 1 (some ⟨g,0,none⟩) n (out.map str):=by
 unfold OB at h
 refine Sl.of_block h (by simp [hn]) (fun j u hu=>?_)
 rw [hn,Nat.sub_self,List.replicate_zero,List.append_nil,Nat.zero_add]
 simpa using hu
end
def WhereOut (p:PartD) (w:World) (e:Ending) (w':World):Prop:=
 ∃ S c,e = .returned (.tuple #[.slice S (if checkD p=0 then (flatD p).length else 0) c,.int .i64 (checkD p:Nat)])∧Sl w' w'.heap.size 1 S (if checkD p=0 then (flatD p).length else 0) ((if checkD p=0 then whereD p else []).map str) ∧
  (if checkD p=0 then (flatD p).length else 0)≤c∧c≤maxLen∧Below w.heap.size w w'
def WhRel (n:Nat) (F:List PartD) (T:List Int) (R:List (List UInt8)) (g:Nat) (w1:World) (iv:Value) (wr:World):Prop:=
 ∃ (i:Nat) (out:List (List UInt8)),iv = .int .i64 i∧i≤n∧out.length=i∧OB wr g n out∧Below w1.heap.size w1 wr∧(∀ s∈out,s.length≤605)∧Hid (whereF (F.drop i) (T.drop i) out=R)
theorem Where_any (p:PartD) (v:List Value) (w:World) (hM:MaxLenOk w) (hp:PartAt (· < w.heap.size) w p v) :
 Calls Tryz.prog 29 #[.agg v.toArray] w (WhereOut p w):=by
 have hok:=checkD_ok p
 have hat:=wth_at p
 have hal:=fun W h=>All_any p v W h
 have hwt:=fun W h=>Within_any p v W h
 unfold AllOut at hal
 unfold WthOut at hwt
 unfold WhereOut
 obtain⟨R,hR⟩:∃ R,R=whereD p:=⟨_,rfl⟩
 rw [← hR]
 unfold whereD at hR
 have hwl:=wthD_len p 0 (-1)
 obtain⟨A,c,A2,c2,rfl,_⟩:=hp.open
 obtain⟨W,hW⟩:∃ W,W=w.alloc (.cells #[str p.type,str p.cs,str p.id,str p.loc,.int .i64 p.how,.slice A p.body.length c,.slice A2 p.parts.length c2] 25):=⟨_,rfl⟩
 have hbW:Below w.heap.size w W:=by rw [hW];exact(Below.refl _ w).alloc (Nat.le_refl _) _
 have hbx:Box7 W w.heap.size (str p.type) (str p.cs) (str p.id) (str p.loc) (.int .i64 p.how) (.slice A p.body.length c) (.slice A2 p.parts.length c2):=by rw [hW];exact Box7.new w _ _ _ _ _ _ _ _
 have Hal:=Lib.hid hal
 have Hwt:=Lib.hid hwt
 have Hp:=Lib.hid hp
 have HM:=Lib.hid hM
 clear hal hwt hp hM
 generalize checkD p=K at *
 generalize wthD p 0 (-1)=T at *
 generalize flatD p=F at *
 by_cases hK:K=0
 · subst hK
   simp only [if_true] at Hal Hwt ⊢
   obtain⟨h12,hch⟩:=hok rfl
   have Hat:=Lib.hid (hat hch)
   have hlocs:∀ q∈F,q.loc.length≤120:=fun q hq=>chk_loc q (hch q hq)
   have Hlocs:=Lib.hid hlocs
   obtain⟨n,hn⟩:∃ n,n=F.length:=⟨_,rfl⟩
   rw [← hn] at Hal Hwt h12 hwl ⊢
   have HR:=Lib.hid hR
   have Hn:=Lib.hid hn
   have Hwl:=Lib.hid hwl
   clear hok hch hat hlocs hR hn hwl
   obtain⟨i0,hi0,hz0,hz1,hz2⟩:=info_parts infoStrU
   have Hi0:=Lib.hid hi0
   have hi1:(Tryz.prog.info? 9).map (·.size)=some 1:=by rw [hi0];simp [hz1]
   clear hi0
   go_enter Tryz.func29,Tryz.ntmps29
   go_wp2_with fail
   rw [← hW]
   clear hW
   refine(Hal.out W ((Hp.out.below hbW).more hbW.size)).mono ?_
   rintro e w1 ⟨S1,c1,rfl,hs1,hc1,hm1,hb1⟩
   have hbel1:=hbW.trans (hb1.mono hbW.size)
   have hbx1:=hbx.below hb1
   have⟨x0,x1,x2,x3,x4,x5,x6⟩:=hbx1
   clear hbx hbx1 hb1 hbW Hal
   go_wp2_with fail
   refine(Hwt.out w1 ((Hp.out.below hbel1).more hbel1.size)).mono ?_
   rintro e w2 ⟨S2,c2',rfl,hs2,hc2,hm2,hb2⟩
   have hbel2:=hbel1.trans (hb2.mono hbel1.size)
   have hs1b:=(hs1.below hb2).more hb2.size
   clear hs1 hb2 x0 x1 x2 x3 x4 x5 x6 Hwt
   obtain⟨wm,hrunm,hownm,hgm⟩:=run_make_full (P:=Tryz.prog) w2 w2.heap.size 40 9 i0 _ 1 Tryz.underlying40 Hi0.out hz0 hz1 .i64 .i64 n (by rw [hz2];omega) (by unfold maxLen;omega) (Nat.le_refl _)
   rw [madeStrW] at hownm
   have hbm:Below w2.heap.size w2 wm:=(Below.refl _ w2).grown hgm (Nat.le_refl _) (fun k hk=>by cases hk)
   have hbelm:=hbel2.trans (hbm.mono hbel2.size)
   obtain⟨g,hg⟩:∃ g,g=w2.heap.size:=⟨_,rfl⟩
   rw [← hg] at hrunm hownm
   have hblk:OB wm g n []:=by
    unfold OB
    rcases hownm.2 with ⟨hv,_⟩ | ⟨g',cap,cur,hv,_,h2,h3,h4,h5,h6⟩
    · cases hv
    · injection hv with hv _ hcap
      injection hv with hv
      injection hv with hv
      subst hv
      rw [h2]
      congr 2
      rw [List.nil_append,List.length_nil,Nat.sub_zero,← h6,List.take_of_length_le (by simp [h5];omega)]
   unfold maxLen at hm1 hm2
   have Hs1:=Lib.hid hs1b
   have Hs2:=Lib.hid hs2
   have Hg:=Lib.hid hg
   have Hbel2:=Lib.hid hbel2
   clear hs1b hs2 hownm hgm hg hbel2 hbel1 hbelm
   go_wp2_with fail
   clear hrunm
   go_loopw [30] (WhRel n F T R g w2) (fun iv _=>n - (intOf iv).toNat)
   case atStart=>exact⟨0,[],rfl,Nat.zero_le _,rfl,hblk,hbm,by simp,by rw [List.drop_zero,List.drop_zero];exact HR.out.symm⟩
   case round =>
    obtain⟨i,out,rfl,hi,hol,hOB,hbel,hsm,HS⟩:=hrel
    by_cases hin:i < n
    · obtain⟨b,off,q1,A',n',c',A2',n2',c2'',hS1,hbS,hq1,hqa,y0,y1,y2,y3,y4,y5,y6⟩:=(Hs1.out.below hbel).cells7 hin
      subst hS1
      obtain⟨k,hkd,hkg,hk0,hki⟩:=Hat.out i (by rw [← Hn.out];exact hin)
      have hqd:∃ q,F.drop i=q :: F.drop (i+1)∧q1.loc=q.loc∧q∈F:=by
       have hiF:i < F.length:=by rw [← Hn.out];exact hin
       have h1:=List.drop_eq_getElem_cons (l:=F) (i:=i) hiF
       rw [← List.map_drop,h1,List.map_cons] at hq1
       injection hq1 with hq1 _
       exact⟨_,h1,by rw [← hq1];rfl,List.getElem_mem _⟩
      obtain⟨q,hq,hql,hqm⟩:=hqd
      have hloc:=Hlocs.out q hqm
      rw [← hql] at hloc
      have hstep:whereF (F.drop (i+1)) (T.drop (i+1)) (out ++ [stepW out q1.loc k])=R:=by
       have:=HS.out
       rw [hq,hkd,whereF,← hql] at this
       exact this
      have Hstep:=Lib.hid hstep
      clear hstep hql hq hqm HS hq1
      have hT:∃ bt offt,S2=some ⟨bt,offt,none⟩∧∀ wx,Below w2.heap.size w2 wx→wx.cell? ⟨bt,offt+i,none⟩=some (.int .i64 k):=by
       obtain⟨bt,offt,u,h1,hbt,h3,h4⟩:=Hs2.out.at_ hin
       rw [iCells,List.getElem?_map,hkg] at h3
       injection h3 with h3
       exact⟨bt,offt,h1,fun wx hx=>by rw [hx.cell (by exact hbt),h4,← h3]⟩
      obtain⟨bt,offt,hS2,hz0⟩:=hT
      subst hS2
      go_upto_region 10 with fail
      obtain⟨W1,hW1⟩:∃ W1,W1=wr.alloc (.cells #[str q1.type,str q1.cs,str q1.id,str q1.loc,.int .i64 q1.how,.slice A' n' c',.slice A2' n2' c2''] 25):=⟨_,rfl⟩
      have hbA:Below wr.heap.size wr W1:=by rw [hW1];exact(Below.refl _ _).alloc (Nat.le_refl _) _
      have hX:=Box7.new wr 25 (str q1.type) (str q1.cs) (str q1.id) (str q1.loc) (.int .i64 q1.how) (.slice A' n' c') (.slice A2' n2' c2'')
      rw [← hW1] at hX
      rw [← hW1]
      clear hW1
      have⟨x0,x1,x2,x3,x4,x5,x6⟩:=hX
      have hOB1:=hOB.below hbA
      have hbel1:=hbel.trans (hbA.mono hbel.size)
      have hbelw:=Hbel2.out.trans (hbel1.mono Hbel2.out.size)
      have hgw:w2.heap.size≤g:=by rw [Hg.out];exact Nat.le_refl _
      have z0:=hz0 W1 hbel1
      clear hOB y0 y1 y2 y3 y4 y5 y6 hqa hz0
      by_cases hk:0≤k
      · obtain⟨j,rfl⟩:=Int.eq_ofNat_of_zero_le hk
        have hj:j < out.length:=by omega
        have hcj:=hOB1.cell hj
        have hmem:(out.getD j [])∈out:=by rw [List.getD_eq_getElem?_getD,List.getElem?_eq_getElem hj];exact List.getElem_mem _
        have hsj:=hsm _ hmem
        obtain⟨s0,hs0⟩:∃ s0,s0=out.getD j []:=⟨_,rfl⟩
        rw [← hs0] at hcj hsj
        have Hs0:=Lib.hid hs0
        have d0:decide ((0:Int)≤(j:Int))=true:=by simp
        have d1:(j:Int) < n:=by omega
        clear hmem hs0
        by_cases he:s0 = []
        · have e1:(s0 == [])=true:=by rw [he];rfl
          have Hse:=Lib.hid he
          clear he
          have hfr:fromW out (j:Int)=outW:=by unfold fromW;rw [if_neg (by rw [Int.toNat_natCast,← Hs0.out,Hse.out];simp)]
          have hfrl:(outW:List UInt8).length≤605:=by decide
          have Hfr:=Lib.hid hfr
          have Hfrl:=Lib.hid hfrl
          clear hfr hfrl
          by_cases hl:q1.loc = []
          · have hl2:(q1.loc == [])=true:=by rw [hl];rfl
            have hR2:whereF (F.drop (i+1)) (T.drop (i+1)) (out ++ [outW])=R:=by
             have:=Hstep.out
             rw [stepW,if_pos hl,Hfr.out] at this
             exact this
            have HR2:=Lib.hid hR2
            have HS1:=Lib.hid (hOB1.set (by omega) outW)
            have HB1:=Lib.hid (hbel1.setCell (p:=⟨g,out.length,none⟩) hgw (str outW))
            have hfz:=hOB1.fz i
            obtain⟨old,hsl⟩:=hOB1.slot i hin
            rw [hol] at HS1 HB1
            clear hl hR2 hX
            go_wp2_with fail
            exact⟨⟨i+1,out ++ [outW],by go_num,by omega,by simp [hol],HS1.out,HB1.out,fun s hs=>by rcases List.mem_append.1 hs with h | h;exact hsm s h;rw [List.mem_singleton.1 h];exact Hfrl.out,HR2⟩,by simp [intOf];omega⟩
          · have hl2:(q1.loc == [])=false:=by simpa using hl
            have hR2:whereF (F.drop (i+1)) (T.drop (i+1)) (out ++ [ledB outW q1.loc])=R:=by
             have:=Hstep.out
             rw [stepW,if_neg hl,Hfr.out] at this
             exact this
            have HR2:=Lib.hid hR2
            have KL:=Lib.hid (fun X (h:MaxLenOk X)=>Led_any outW q1.loc X h (by have:=Hfrl.out;unfold maxLen;omega) (by unfold maxLen;omega))
            have HLL:=Lib.hid (ledB_len outW q1.loc)
            generalize ledB outW q1.loc=LL at *
            clear hl hR2 hX
            go_wp2_with fail
            refine(KL.out _ (HM.out.below hbelw)).mono ?_
            rintro e w5 ⟨rfl,hb5⟩
            have hOB5:=hOB1.below hb5
            have hbel5:=hbel1.trans (hb5.mono hbel1.size)
            have HS1:=Lib.hid (hOB5.set (by omega) LL)
            have HB1:=Lib.hid (hbel5.setCell (p:=⟨g,out.length,none⟩) hgw (str LL))
            have hfz:=hOB5.fz i
            obtain⟨old,hsl⟩:=hOB5.slot i hin
            rw [hol] at HS1 HB1
            clear x0 x1 x2 x3 x4 x5 x6 hb5
            go_wp2_with fail
            exact⟨⟨i+1,out ++ [LL],by go_num,by omega,by simp [hol],HS1.out,HB1.out,fun s hs=>by rcases List.mem_append.1 hs with h | h;exact hsm s h;rw [List.mem_singleton.1 h];exact HLL.out,HR2⟩,by simp [intOf];omega⟩
        · have e1:(s0 == [])=false:=by simpa using he
          have Hse:=Lib.hid he
          clear he
          have hfr:fromW out (j:Int)=s0:=by unfold fromW;rw [if_pos ⟨by omega,by rw [Int.toNat_natCast,← Hs0.out];exact Hse.out⟩,Int.toNat_natCast,← Hs0.out]
          have hfrl:(s0:List UInt8).length≤605:=hsj
          have Hfr:=Lib.hid hfr
          have Hfrl:=Lib.hid hfrl
          clear hfr hfrl
          by_cases hl:q1.loc = []
          · have hl2:(q1.loc == [])=true:=by rw [hl];rfl
            have hR2:whereF (F.drop (i+1)) (T.drop (i+1)) (out ++ [s0])=R:=by
             have:=Hstep.out
             rw [stepW,if_pos hl,Hfr.out] at this
             exact this
            have HR2:=Lib.hid hR2
            have HS1:=Lib.hid (hOB1.set (by omega) s0)
            have HB1:=Lib.hid (hbel1.setCell (p:=⟨g,out.length,none⟩) hgw (str s0))
            have hfz:=hOB1.fz i
            obtain⟨old,hsl⟩:=hOB1.slot i hin
            rw [hol] at HS1 HB1
            clear hl hR2 hX
            go_wp2_with fail
            exact⟨⟨i+1,out ++ [s0],by go_num,by omega,by simp [hol],HS1.out,HB1.out,fun s hs=>by rcases List.mem_append.1 hs with h | h;exact hsm s h;rw [List.mem_singleton.1 h];exact Hfrl.out,HR2⟩,by simp [intOf];omega⟩
          · have hl2:(q1.loc == [])=false:=by simpa using hl
            have hR2:whereF (F.drop (i+1)) (T.drop (i+1)) (out ++ [ledB s0 q1.loc])=R:=by
             have:=Hstep.out
             rw [stepW,if_neg hl,Hfr.out] at this
             exact this
            have HR2:=Lib.hid hR2
            have KL:=Lib.hid (fun X (h:MaxLenOk X)=>Led_any s0 q1.loc X h (by have:=Hfrl.out;unfold maxLen;omega) (by unfold maxLen;omega))
            have HLL:=Lib.hid (ledB_len s0 q1.loc)
            generalize ledB s0 q1.loc=LL at *
            clear hl hR2 hX
            go_wp2_with fail
            refine(KL.out _ (HM.out.below hbelw)).mono ?_
            rintro e w5 ⟨rfl,hb5⟩
            have hOB5:=hOB1.below hb5
            have hbel5:=hbel1.trans (hb5.mono hbel1.size)
            have HS1:=Lib.hid (hOB5.set (by omega) LL)
            have HB1:=Lib.hid (hbel5.setCell (p:=⟨g,out.length,none⟩) hgw (str LL))
            have hfz:=hOB5.fz i
            obtain⟨old,hsl⟩:=hOB5.slot i hin
            rw [hol] at HS1 HB1
            clear x0 x1 x2 x3 x4 x5 x6 hb5
            go_wp2_with fail
            exact⟨⟨i+1,out ++ [LL],by go_num,by omega,by simp [hol],HS1.out,HB1.out,fun s hs=>by rcases List.mem_append.1 hs with h | h;exact hsm s h;rw [List.mem_singleton.1 h];exact HLL.out,HR2⟩,by simp [intOf];omega⟩
      · obtain rfl:k = -1:=by omega
        clear hk
        have hfr:fromW out (-1)=outW:=by unfold fromW;rw [if_neg (by omega)]
        have hfrl:(outW:List UInt8).length≤605:=by decide
        have Hfr:=Lib.hid hfr
        have Hfrl:=Lib.hid hfrl
        clear hfr hfrl
        by_cases hl:q1.loc = []
        · have hl2:(q1.loc == [])=true:=by rw [hl];rfl
          have hR2:whereF (F.drop (i+1)) (T.drop (i+1)) (out ++ [outW])=R:=by
           have:=Hstep.out
           rw [stepW,if_pos hl,Hfr.out] at this
           exact this
          have HR2:=Lib.hid hR2
          have HS1:=Lib.hid (hOB1.set (by omega) outW)
          have HB1:=Lib.hid (hbel1.setCell (p:=⟨g,out.length,none⟩) hgw (str outW))
          have hfz:=hOB1.fz i
          obtain⟨old,hsl⟩:=hOB1.slot i hin
          rw [hol] at HS1 HB1
          clear hl hR2 hX
          go_wp2_with fail
          exact⟨⟨i+1,out ++ [outW],by go_num,by omega,by simp [hol],HS1.out,HB1.out,fun s hs=>by rcases List.mem_append.1 hs with h | h;exact hsm s h;rw [List.mem_singleton.1 h];exact Hfrl.out,HR2⟩,by simp [intOf];omega⟩
        · have hl2:(q1.loc == [])=false:=by simpa using hl
          have hR2:whereF (F.drop (i+1)) (T.drop (i+1)) (out ++ [ledB outW q1.loc])=R:=by
           have:=Hstep.out
           rw [stepW,if_neg hl,Hfr.out] at this
           exact this
          have HR2:=Lib.hid hR2
          have KL:=Lib.hid (fun X (h:MaxLenOk X)=>Led_any outW q1.loc X h (by have:=Hfrl.out;unfold maxLen;omega) (by unfold maxLen;omega))
          have HLL:=Lib.hid (ledB_len outW q1.loc)
          generalize ledB outW q1.loc=LL at *
          clear hl hR2 hX
          go_wp2_with fail
          refine(KL.out _ (HM.out.below hbelw)).mono ?_
          rintro e w5 ⟨rfl,hb5⟩
          have hOB5:=hOB1.below hb5
          have hbel5:=hbel1.trans (hb5.mono hbel1.size)
          have HS1:=Lib.hid (hOB5.set (by omega) LL)
          have HB1:=Lib.hid (hbel5.setCell (p:=⟨g,out.length,none⟩) hgw (str LL))
          have hfz:=hOB5.fz i
          obtain⟨old,hsl⟩:=hOB5.slot i hin
          rw [hol] at HS1 HB1
          clear x0 x1 x2 x3 x4 x5 x6 hb5
          go_wp2_with fail
          exact⟨⟨i+1,out ++ [LL],by go_num,by omega,by simp [hol],HS1.out,HB1.out,fun s hs=>by rcases List.mem_append.1 hs with h | h;exact hsm s h;rw [List.mem_singleton.1 h];exact HLL.out,HR2⟩,by simp [intOf];omega⟩
    · obtain rfl:i=n:=by omega
      have hS:=hOB.sl hol
      have hfin:out=R:=by
       have:=HS.out
       rw [List.drop_eq_nil_of_le (by rw [← Hn.out];exact Nat.le_refl _)] at this
       simpa [whereF] using this
      have Hfin:=Lib.hid hfin
      have hb:=Hbel2.out.trans (hbel.mono Hbel2.out.size)
      clear hfin
      go_wp2_with fail
      go_ret2
      rw [Hfin.out] at hS
      exact⟨_,_,rfl,hS,Nat.le_refl _,by unfold maxLen;omega,hb⟩
 · have hK1:((K:Int) != 0)=true:=by simp;omega
   simp only [if_neg hK] at Hal ⊢
   clear hok hK hat
   go_enter Tryz.func29,Tryz.ntmps29
   go_wp2_with fail
   rw [← hW]
   clear hW
   refine(Hal.out W ((Hp.out.below hbW).more hbW.size)).mono ?_
   rintro e w1 ⟨S1,c1,rfl,hs1,hc1,hm1,hb1⟩
   have hbel1:=hbW.trans (hb1.mono hbW.size)
   clear hbx hb1 hbW Hal hs1
   go_wp2_with fail
   go_ret2
   exact⟨none,0,rfl,Sl.nil_ _ _ _ _,Nat.le_refl _,by unfold maxLen;omega,hbel1⟩
end Go.Proofs.YtlgbopjhmemaoaaGreatDoor
