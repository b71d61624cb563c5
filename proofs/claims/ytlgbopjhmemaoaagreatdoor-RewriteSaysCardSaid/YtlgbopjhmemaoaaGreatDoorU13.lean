import Derived.Test.YtlgbopjhmemaoaaGreatDoorU12
import Derived.Test.YtlgbopjhmemaoaaGreatDoorU7
import Derived.Test.YtlgbopjhmemaoaaGreatDoorU10
set_option maxRecDepth 100000
set_option maxHeartbeats 40000000
namespace Go.Proofs.YtlgbopjhmemaoaaGreatDoor
open Go.RowKit
def CopyRes2 (p:PartD) (w:World) (e:Ending) (w':World):Prop:=
 ∃ v:List Value,e = .returned (.agg v.toArray)∧TrAt w' w.heap.size w'.heap.size p v∧Below w.heap.size w w'
def CopyRel2 (p:PartD) (rows:List (List Value)) (n2 h lo2:Nat) (S1 S2:Option Addr) (d1 d2:Nat) (w0:World) (iv:Value) (wr:World):Prop:=
 ∃ i done,iv = .int .i64 (i:Nat)∧i≤n2∧done.length=i∧wr.ownsRow (h+2) 25 7 (.slice S2 n2 d2) n2 (done ++ rows.drop i).flatten ∧
  TrsAt wr lo2 wr.heap.size (p.parts.take i) done∧lo2≤wr.heap.size ∧
  BoxF wr h (str p.type) (str p.cs) (str p.id) (str p.loc) (.int .i64 p.how) (.slice S1 p.body.length d1) (.slice S2 n2 d2) ∧
  (∃ v0 v1 v2 v3 v4 v5 v6,BoxF wr (h+1) v0 v1 v2 v3 v4 v5 v6)∧Below h w0 wr∧h+2≤wr.heap.size
theorem Copy_tree (k:Nat):∀ (p:PartD) (v:List Value) (w:World),(flatD p).length≤k→k≤1000→(∀ q∈flatD p,q.body.length≤4000)→PartAt (· < w.heap.size) w p v →
 Calls Tryz.prog 16 #[.agg v.toArray] w (CopyRes2 p w):=by
 induction k with
 | zero=>intro p v w h;rw [flatD_eq] at h;simp at h
 | succ k ih =>
  intro p v w hk hk1 hbod hp
  obtain⟨A,c,A2,c2,rfl,hbds,hby,hnc,hcm,hP,hc2,hcm2⟩:=hp.open
  obtain⟨W,hW⟩:∃ W,W=(w.alloc (.cells #[str p.type,str p.cs,str p.id,str p.loc,.int .i64 p.how,.slice A p.body.length c,.slice A2 p.parts.length c2] 25)).alloc (.cells #[.string ⟨#[]⟩,.string ⟨#[]⟩,.string ⟨#[]⟩,.string ⟨#[]⟩,.int .i64 0,.slice none 0 0,.slice none 0 0] 25):=⟨_,rfl⟩
  have hbW:Below w.heap.size w W:=by rw [hW];exact((Below.refl _ w).alloc (Nat.le_refl _) _).alloc (by simp) _
  have hsW:W.heap.size=w.heap.size+2:=by rw [hW];simp
  have hx1:BoxF W w.heap.size (str p.type) (str p.cs) (str p.id) (str p.loc) (.int .i64 p.how) (.slice A p.body.length c) (.slice A2 p.parts.length c2):=by
   refine BoxF.of_block (t:=25) ?_
   rw [hW,Lib.alloc_old _ _ _ (by simp)]
   exact heap_alloc_new w _
  have hx2:BoxF W (w.heap.size+1) (.string ⟨#[]⟩) (.string ⟨#[]⟩) (.string ⟨#[]⟩) (.string ⟨#[]⟩) (.int .i64 0) (.slice none 0 0) (.slice none 0 0):=by
   refine BoxF.of_block (t:=25) ?_
   rw [hW]
   have:=heap_alloc_new (w.alloc (.cells #[str p.type,str p.cs,str p.id,str p.loc,.int .i64 p.how,.slice A p.body.length c,.slice A2 p.parts.length c2] 25)) (.cells #[.string ⟨#[]⟩,.string ⟨#[]⟩,.string ⟨#[]⟩,.string ⟨#[]⟩,.int .i64 0,.slice none 0 0,.slice none 0 0] 25)
   simpa using this
  have hnb:p.body.length≤1000000000:=by have:=hbod p (by rw [flatD_eq];simp);omega
  have hfl:(flatsD p.parts).length≤k:=by rw [flatD_eq,List.length_cons] at hk;omega
  have hnp:p.parts.length≤1000000000:=by have:=flatsD_len p.parts;omega
  obtain⟨rows,hrs,hrp⟩:=hP
  have hc1:∀ W',Below w.heap.size w W'→Calls Tryz.prog 13 #[.slice A p.body.length c] W' (CloResbyte (Lib.byteCells p.body) p.body.length W'):=
   fun W' hb=>Clone_byte A _ c w.heap.size _ W' (Sl.below hby hb) hb.size (oneCell_byteCells _) hnb
  have hc2:∀ W',Below w.heap.size w W'→Calls Tryz.prog 36 #[.slice A2 p.parts.length c2] W' (CloResPart rows.flatten p.parts.length W'):=
   fun W' hb=>Clone_Part A2 _ c2 w.heap.size _ W' (Sl.below hrs hb) hb.size (PartsAt.one _ _ hrp) hnp
  have Hc1:=Lib.hid hc1
  have Hc2:=Lib.hid hc2
  have Hx1:=Lib.hid (show BoxF W.drew _ _ _ _ _ _ _ _ from hx1)
  have Hx2:=Lib.hid (show BoxF W.drew _ _ _ _ _ _ _ _ from hx2)
  have HsW:=Lib.hid hsW
  have hszW:w.heap.size+2≤W.drew.heap.size:=by show _≤W.heap.size;omega
  have Hby:=Lib.hid hby
  have Hrs:=Lib.hid hrs
  have Hrp:=Lib.hid hrp
  have Hih:=Lib.hid ih
  have Hbod:=Lib.hid hbod
  have Hbds:=Lib.hid hbds
  clear hbds
  clear hc1 hc2 hsW hx2 hby hrs hrp ih hbod hp
  obtain⟨⟨x0,x1,x2,x3,x4,x5,x6⟩,hf⟩:=hx1
  go_enter Tryz.func16,Tryz.ntmps16
  go_wp2_with fail
  rw [← hW]
  clear hW
  go_region_with (first
   | (go_at_call 13;refine(Hc1.out _ hbW.drew).mono ?_;rintro e w1 ⟨S1,d1,rfl,hown1,hb1⟩;have hbel1:=hbW.drew.trans (hb1.mono hbW.drew.size);have hB1:=hb1.mono hszW;obtain⟨⟨y0,y1,y2,y3,y4,y5,y6⟩,yf⟩:=Hx1.out.below hB1 (by omega))
   | (go_at_call 36;refine(Hc2.out _ hbel1).mono ?_;rintro e w2 ⟨S2,d2,rfl,hown2,hb2⟩;have hbel2:=hbel1.trans (hb2.mono hbel1.size);have hB2:=hB1.trans (hb2.mono (Nat.le_trans hszW hb1.size));obtain⟨⟨z0,z1,z2,z3,z4,z5,z6⟩,zf⟩:=Hx1.out.below hB2 (by omega)))
  all_goals
   generalize hW3:(w2.setCell ⟨w.heap.size,5,none⟩ (Value.slice S1 p.body.length d1)).setCell ⟨w.heap.size,6,none⟩ (Value.slice S2 p.parts.length d2)=w3
   have hsz3:w3.heap.size=w2.heap.size:=by rw [← hW3];simp
   have hz1:=hb1.size
   have hz2:=hb2.size
   have hown2b:=own_base hown2 (show w.heap.size+2≤_ by omega)
   have hlo2:∀ g,Value.ownBlock (.slice S2 p.parts.length d2)=some g→g < w3.heap.size:=fun g hg=>by rw [hsz3];exact(hown2.lt g hg).2
   obtain⟨lo2,hlo⟩:∃ lo2,lo2=w3.heap.size:=⟨_,rfl⟩
   rw [← hlo] at hlo2
   have hrel0:CopyRel2 p rows p.parts.length w.heap.size lo2 S1 S2 d1 d2 w (.int .i64 0) w3:=by
    have hne:Value.ownBlock (.slice S2 p.parts.length d2)≠some w.heap.size:=fun e=>by have:=(hown2.lt _ e).1;have:=hb1.size;omega
    refine⟨0,[],rfl,Nat.zero_le _,rfl,?_,⟨rfl,by rw [hlo];exact Nat.le_refl _⟩,by rw [hlo];exact Nat.le_refl _,?_,?_,?_,by omega⟩
    · rw [← hW3]
      exact own_setFar (own_setFar hown2b hne _) hne _
    · rw [← hW3]
      exact BoxF.set56 (Hx1.out.below hB2 (by omega)) _ _
    · rw [← hW3]
      exact⟨_,_,_,_,_,_,_,((Hx2.out.below hB2 (by omega)).setFar (by simp) _).setFar (by simp) _⟩
    · rw [← hW3]
      exact(hbel2.setCell (Nat.le_refl _) _).setCell (Nat.le_refl _) _
   have hloh:w.heap.size+2≤lo2:=by rw [hlo];omega
   have Hlo2:=Lib.hid hlo2
   have hdd:p.body.length≤d1∧d1≤maxLen∧p.parts.length≤d2∧d2≤maxLen:=⟨own_cap hown1,own_capmax hown1,own_cap hown2,own_capmax hown2⟩
   have Hdd:=Lib.hid hdd
   have Hrel0:=Lib.hid hrel0
   have hx6:w3.cell? ⟨w.heap.size,6,none⟩=some (.slice S2 p.parts.length d2):=by
    obtain⟨i,done,_,_,_,_,_,_,hbx,_⟩:=hrel0
    exact hbx.1.2.2.2.2.2.2
   clear hW3 hrel0 hdd hown1 hown2 hown2b hlo hlo2 hsz3 hz1 hz2 y0 y1 y2 y3 y4 y5 y6 yf z0 z1 z2 z3 z4 z5 z6 zf x0 x1 x2 x3 x4 x5 x6 hf
   clear hb1 hb2 hbel1 hbel2 hB1 hB2
   go_wp2_with fail
   go_loopw [16] (CopyRel2 p rows p.parts.length w.heap.size lo2 S1 S2 d1 d2 w) (fun iv _=>p.parts.length - (intOf iv).toNat)
   case atStart=>exact Hrel0.out
   case round =>
    obtain⟨i,done,rfl,hi,hdl,hown,hpd,hs1,hbx,hb1x,hbel,hsz⟩:=hrel
    have hgl2:=Hlo2.out
    by_cases hin:i < p.parts.length
    · obtain⟨g,cap,hv,hgb,hgl⟩:=hown.form (by omega)
      injection hv with hS2 _ hcap
      subst hS2
      subst hcap
      obtain⟨r,hr,hpr⟩:=PartsAt.get _ _ Hrp.out i hin
      have hri:i < rows.length:=by rw [PartsAt.len _ _ Hrp.out];exact hin
      have hrd:rows.drop i=r :: rows.drop (i+1):=by
       rw [List.drop_eq_getElem_cons hri]
       rw [List.getElem?_eq_getElem hri] at hr
       injection hr with hr
       rw [hr]
      have hpd7:=TrsAt.rows7 _ _ _ _ hpd
      have hrw7:∀ x∈done ++ rows.drop i,x.length=7:=by
       intro x hx
       rcases List.mem_append.1 hx with hx | hx
       · exact hpd7 x hx
       · exact PartsAt.rows _ _ Hrp.out x (List.mem_of_mem_drop hx)
      have hcell:∀ k u,k < 7→r[k]? = some u→wr.cell? ⟨g,i * 7+k,none⟩=some u:=by
       intro k u hk hu
       rw [hown.cellAt _ (by omega),flat7_at _ hrw7 i k r ?_ hk]
       · exact hu
       · rw [List.getElem?_append_right (by omega),hdl,Nat.sub_self,hrd];rfl
      generalize hq:p.parts[i]=q at hpr
      obtain⟨A',c',A2',c2',rfl,_⟩:=hpr.open
      have q0:=hcell 0 _ (by omega) rfl
      have q1:=hcell 1 _ (by omega) rfl
      have q2:=hcell 2 _ (by omega) rfl
      have q3:=hcell 3 _ (by omega) rfl
      have q4:=hcell 4 _ (by omega) rfl
      have q5:=hcell 5 _ (by omega) rfl
      have q6:=hcell 6 _ (by omega) rfl
      simp only [Nat.add_zero] at q0
      obtain⟨W5,hW5⟩:∃ W5,W5=wr.alloc (.cells #[str q.type,str q.cs,str q.id,str q.loc,.int .i64 q.how,.slice A' q.body.length c',.slice A2' q.parts.length c2'] 25):=⟨_,rfl⟩
      have hbA:Below wr.heap.size wr W5:=by rw [hW5];exact(Below.refl _ wr).alloc (Nat.le_refl _) _
      have hbel5:Below w.heap.size w W5:=hbel.trans (hbA.mono hbel.size)
      have hbx5:BoxF W5 w.heap.size _ _ _ _ _ _ _:=hbx.below hbA (by omega)
      have hk5:BoxF W5 wr.heap.size (str q.type) (str q.cs) (str q.id) (str q.loc) (.int .i64 q.how) (.slice A' q.body.length c') (.slice A2' q.parts.length c2'):=by
       refine BoxF.of_block (t:=25) ?_
       rw [hW5];exact heap_alloc_new wr _
      have hs5:W5.heap.size=wr.heap.size+1:=by rw [hW5];simp
      have hr5:Row7 W5.drew g (i * 7) (str q.type) (str q.cs) (str q.id) (str q.loc) (.int .i64 q.how) (.slice A' q.body.length c') (.slice A2' q.parts.length c2'):=Row7.below (w:=wr) ⟨q0,q1,q2,q3,q4,q5,q6⟩ hbA.drew hgl
      have Hr5:=Lib.hid hr5
      have hgl5:g < W5.drew.heap.size:=by show g < W5.heap.size;omega
      have Hbx5:=Lib.hid (show BoxF W5.drew _ _ _ _ _ _ _ _ from hbx5)
      have hh5:w.heap.size < W5.drew.heap.size:=by show w.heap.size < W5.heap.size;omega
      obtain⟨⟨_,_,_,_,_,_,x6⟩,_⟩:=hbx5
      obtain⟨⟨k0,k1,k2,k3,k4,k5,k6⟩,_⟩:=hk5
      have hflq:(flatD q).length≤k∧∀ x∈flatD q,x.body.length≤4000:=by
       have h1:=flatsD_get p.parts i hin
       rw [hq] at h1
       exact⟨by omega,fun x hx=>Hbod.out x (by rw [flatD_eq];exact List.mem_cons_of_mem _ (h1.2 x hx))⟩
      have hcl:=Hih.out q _ W5.drew hflq.1 (by omega) hflq.2 ((hpr.belowN (w':=W5.drew) hbel5.drew (Nat.le_refl _)).more hbel5.size)
      have hown5:=own_below hown hbA
      have Hcl:=Lib.hid hcl
      have Hown:=Lib.hid hown5
      have Hq:=Lib.hid hq
      have Hpd:=Lib.hid hpd
      have Hs1:=Lib.hid hs1
      have Hbx:=Lib.hid hbx
      have Hb1x:=Lib.hid hb1x
      have Hdl:=Lib.hid hdl
      have Hs5:=Lib.hid hs5
      have Hrd:=Lib.hid hrd
      have Hpd7:=Lib.hid hpd7
      have hin1:(i:Int) < p.parts.length:=by omega
      have hin0:0≤(i:Int):=by omega
      clear hr5 hcl hown5 hown hq hpd hs1 hbx hb1x hdl hs5 hrd hrw7 hpd7 hcell hr hri hpr hflq
      go_wp2_with fail
      rw [← hW5]
      clear hW5 q0 q1 q2 q3 q4 q5 q6
      go_region_with (first
       | (go_at_call 16;refine Hcl.out.mono ?_;rintro e w6 ⟨v6,rfl,hpv,hb6⟩;obtain⟨A6,d6,A7,d7,rows6,lo6,rfl,_⟩:=hpv.open;have hown6:=own_below (show World.ownsRow W5.drew _ _ _ _ _ _ from Hown.out) hb6;have f6:∀ j,w6.frozen? ⟨g,j,none⟩=false:=fun j=>hown6.frozenAt j;obtain⟨c0,c1,c2,c3,c4,c5,c6⟩:=Hr5.out.below hb6 hgl5;obtain⟨⟨_,_,_,_,_,_,y6⟩,_⟩:=Hbx5.out.below hb6 hh5;have Hown6:=Lib.hid hown6;have Hpv:=Lib.hid hpv;clear hown6 hpv))
      all_goals
       generalize hW7:(((((((w6.setCell ⟨g,i * 7,none⟩ (str q.type)).setCell ⟨g,i * 7+1,none⟩ (str q.cs)).setCell ⟨g,i * 7+2,none⟩ (str q.id)).setCell ⟨g,i * 7+3,none⟩ (str q.loc)).setCell ⟨g,i * 7+4,none⟩ (.int .i64 q.how)).setCell ⟨g,i * 7+5,none⟩ (.slice A6 q.body.length d6)).setCell ⟨g,i * 7+6,none⟩ (.slice A7 q.parts.length d7))=w7
       have HW7:=Lib.hid hW7
       clear hW7
       go_wp2_with fail
       refine⟨?_,by simp [intOf];omega⟩
       have hs5:=Hs5.out
       have hb65:Below W5.heap.size W5 w6:=⟨hb6.os,hb6.tape,hb6.output,hb6.size,hb6.block⟩
       have hgb6:W5.heap.size≤w6.heap.size:=hb65.size
       have hbr6:Below wr.heap.size wr w6:=hbA.trans (hb65.mono hbA.size)
       have hd7:=Hpd7.out
       have hown7:=own_set7 (g:=g) (i:=i) (done:=done) (rest:=rows.drop (i+1)) (by have:=Hown6.out;rw [Hrd.out] at this;exact this) hd7 Hdl.out (str q.type) (str q.cs) (str q.id) (str q.loc) (.int .i64 q.how) (.slice A6 q.body.length d6) (.slice A7 q.parts.length d7)
       rw [HW7.out] at hown7
       have hsz7:w7.heap.size=w6.heap.size:=by rw [← HW7.out];simp
       have far7:∀ a:Addr,a.block≠g→w7.cell? a=w6.cell? a:=fun a ha=>by rw [← HW7.out];exact set7_far _ _ _ _ _ _ _ ha
       have hg2:g < lo2:=Hlo2.out g rfl
       have hblk7:∀ b,b≠g→w7.heap[b]? = w6.heap[b]?:=by
        intro b hb
        rw [← HW7.out]
        simp only [World.setCell,Array.getElem?_modify]
        simp [Ne.symm hb]
       have keep7:∀ b,lo2≤b→b < wr.heap.size→w7.heap[b]? = wr.heap[b]?:=fun b h1 h2=>(hblk7 b (by omega)).trans (hbr6.block b h2)
       refine⟨i+1,done ++ [[str q.type,str q.cs,str q.id,str q.loc,.int .i64 q.how,.slice A6 q.body.length d6,.slice A7 q.parts.length d7]],by go_num,by omega,by simp [Hdl.out],by rw [List.append_assoc];exact hown7,?_,by have:=Hs1.out;omega,?_,?_,?_,by omega⟩
       · have ht:p.parts.take (i+1)=p.parts.take i ++ [q]:=by rw [List.take_succ_eq_append_getElem hin,Hq.out]
         rw [ht]
         refine TrsAt.snoc _ _ _ _ _ _ _ _ (TrsAt.keep _ _ _ _ keep7 Hpd.out) (show wr.heap.size≤W5.heap.size by omega) (by omega) (TrAt.keep (w:=w6) _ _ _ _ (fun b h1 h2=>?_) (TrAt.wide _ _ _ _ W5.heap.size w7.heap.size (Nat.le_refl _) (by omega) Hpv.out))
         have h1':W5.heap.size≤b:=h1
         have:=Hs1.out
         exact hblk7 b (by omega)
       · have h1:=Hbx5.out.below hb6 hh5
         rw [← HW7.out]
         exact((((((h1.setFar (by simp;omega) _).setFar (by simp;omega) _).setFar (by simp;omega) _).setFar (by simp;omega) _).setFar (by simp;omega) _).setFar (by simp;omega) _).setFar (by simp;omega) _
       · obtain⟨v0,v1,v2,v3,v4,v5,v6,hbr⟩:=Hb1x.out
         have h1:=hbr.below hbr6 (by omega)
         rw [← HW7.out]
         exact⟨_,_,_,_,_,_,_,((((((h1.setFar (by simp;omega) _).setFar (by simp;omega) _).setFar (by simp;omega) _).setFar (by simp;omega) _).setFar (by simp;omega) _).setFar (by simp;omega) _).setFar (by simp;omega) _⟩
       · rw [← HW7.out]
         exact set7_below (hbel5.trans (hb65.mono hbel5.size)) (by omega) _ _ _ _ _ _ _
    · obtain rfl:i=p.parts.length:=by omega
      obtain⟨⟨x0,x1,x2,x3,x4,x5,x6⟩,_⟩:=id hbx
      obtain⟨r0,r1,r2,r3,r4,r5,r6,⟨y0,y1,y2,y3,y4,y5,y6⟩,yf⟩:=hb1x
      have hdr:rows.drop p.parts.length = []:=List.drop_of_length_le (by rw [PartsAt.len _ _ Hrp.out];exact Nat.le_refl _)
      rw [hdr,List.append_nil] at hown
      rw [List.take_length] at hpd
      have Hown:=Lib.hid hown
      have Hpd:=Lib.hid hpd
      have Hs1:=Lib.hid hs1
      have Hdl:=Lib.hid hdl
      clear hown hpd hs1 hdl hdr hgl2
      go_wp2_with fail
      have hbx9:=BoxF.set7 (w:=wr) (b:=w.heap.size+1) ⟨⟨y0,y1,y2,y3,y4,y5,y6⟩,yf⟩ (str p.type) (str p.cs) (str p.id) (str p.loc) (.int .i64 p.how) (.slice S1 p.body.length d1) (.slice S2 p.parts.length d2)
      have far9:∀ a:Addr,a.block≠w.heap.size+1→(((((((wr.setCell ⟨w.heap.size+1,0,none⟩ (str p.type)).setCell ⟨w.heap.size+1,1,none⟩ (str p.cs)).setCell ⟨w.heap.size+1,2,none⟩ (str p.id)).setCell ⟨w.heap.size+1,3,none⟩ (str p.loc)).setCell ⟨w.heap.size+1,4,none⟩ (.int .i64 p.how)).setCell ⟨w.heap.size+1,5,none⟩ (.slice S1 p.body.length d1)).setCell ⟨w.heap.size+1,6,none⟩ (.slice S2 p.parts.length d2)).cell? a=wr.cell? a:=by
       intro a ha
       have h:∀ (w':World) k u,(w'.setCell ⟨w.heap.size+1,k,none⟩ u).cell? a=w'.cell? a:=fun w' k u=>World.cell?_setCell_other _ _ _ _ (by rintro rfl;exact ha rfl)
       rw [h,h,h,h,h,h,h]
      have hbel9:Below w.heap.size w (((((((wr.setCell ⟨w.heap.size+1,0,none⟩ (str p.type)).setCell ⟨w.heap.size+1,1,none⟩ (str p.cs)).setCell ⟨w.heap.size+1,2,none⟩ (str p.id)).setCell ⟨w.heap.size+1,3,none⟩ (str p.loc)).setCell ⟨w.heap.size+1,4,none⟩ (.int .i64 p.how)).setCell ⟨w.heap.size+1,5,none⟩ (.slice S1 p.body.length d1)).setCell ⟨w.heap.size+1,6,none⟩ (.slice S2 p.parts.length d2)):=
       ((((((hbel.setCell (Nat.le_succ _) _).setCell (Nat.le_succ _) _).setCell (Nat.le_succ _) _).setCell (Nat.le_succ _) _).setCell (Nat.le_succ _) _).setCell (Nat.le_succ _) _).setCell (Nat.le_succ _) _
      have hsz9:(((((((wr.setCell ⟨w.heap.size+1,0,none⟩ (str p.type)).setCell ⟨w.heap.size+1,1,none⟩ (str p.cs)).setCell ⟨w.heap.size+1,2,none⟩ (str p.id)).setCell ⟨w.heap.size+1,3,none⟩ (str p.loc)).setCell ⟨w.heap.size+1,4,none⟩ (.int .i64 p.how)).setCell ⟨w.heap.size+1,5,none⟩ (.slice S1 p.body.length d1)).setCell ⟨w.heap.size+1,6,none⟩ (.slice S2 p.parts.length d2)).heap.size=wr.heap.size:=by simp
      have hblk9:∀ b,b≠w.heap.size+1→(((((((wr.setCell ⟨w.heap.size+1,0,none⟩ (str p.type)).setCell ⟨w.heap.size+1,1,none⟩ (str p.cs)).setCell ⟨w.heap.size+1,2,none⟩ (str p.id)).setCell ⟨w.heap.size+1,3,none⟩ (str p.loc)).setCell ⟨w.heap.size+1,4,none⟩ (.int .i64 p.how)).setCell ⟨w.heap.size+1,5,none⟩ (.slice S1 p.body.length d1)).setCell ⟨w.heap.size+1,6,none⟩ (.slice S2 p.parts.length d2)).heap[b]? = wr.heap[b]?:=by
       intro b hb
       simp only [World.setCell,Array.getElem?_modify]
       simp [Ne.symm hb]
      have HB9:=Lib.hid hblk9
      clear hblk9
      generalize (((((((wr.setCell ⟨w.heap.size+1,0,none⟩ (str p.type)).setCell ⟨w.heap.size+1,1,none⟩ (str p.cs)).setCell ⟨w.heap.size+1,2,none⟩ (str p.id)).setCell ⟨w.heap.size+1,3,none⟩ (str p.loc)).setCell ⟨w.heap.size+1,4,none⟩ (.int .i64 p.how)).setCell ⟨w.heap.size+1,5,none⟩ (.slice S1 p.body.length d1)).setCell ⟨w.heap.size+1,6,none⟩ (.slice S2 p.parts.length d2))=w9 at hbx9 far9 hbel9 hsz9 HB9 ⊢
      obtain⟨c0,c1,c2,c3,c4,c5,c6⟩:=hbx9
      refine bodyPost_ret (v:=.agg #[str p.type,str p.cs,str p.id,str p.loc,.int .i64 p.how,.slice S1 p.body.length d1,.slice S2 p.parts.length d2]) (by simp [results,Tryz.results16,go_sem,c0,c1,c2,c3,c4,c5,c6]) rfl ?_
      have hblk9:∀ b,b≠w.heap.size+1→w9.heap[b]? = wr.heap[b]?:=HB9.out
      obtain⟨hd1,hd2,hd3,hd4⟩:=Hdd.out
      refine⟨_,rfl,?_,hbel9⟩
      have hown9:=own_keep (w':=w9) Hown.out (fun g hg=>hblk9 g (by have:=(Hown.out.lt g hg).1;omega))
      have htr9:=TrsAt.keep (w':=w9) _ _ _ _ (fun b h1 h2=>hblk9 b (by omega)) Hpd.out
      have hbb:=Hbds.out
      have hll:=Hlo2.out
      have hle:=Hs1.out
      obtain⟨t,cs,id,loc,how,body,parts⟩:=p
      exact⟨S1,d1,S2,d2,done,lo2,rfl,hbb,hd3,hd4,own_base hown9 (by omega),hll,by omega,by omega,by rw [hsz9];exact htr9⟩
theorem BoxF.s5 {w:World} {b:Nat} {v0 v1 v2 v3 v4 v5 v6:Value} (h:BoxF w b v0 v1 v2 v3 v4 v5 v6) (u:Value):BoxF (w.setCell ⟨b,5,none⟩ u) b v0 v1 v2 v3 v4 u v6:=by
 obtain⟨⟨h0,h1,h2,h3,h4,h5,h6⟩,hf⟩:=h
 have far:∀ k v,k≠5→w.cell? ⟨b,k,none⟩=some v→(w.setCell ⟨b,5,none⟩ u).cell? ⟨b,k,none⟩=some v:=fun k v h5 h=>by
  rw [World.cell?_setCell_other _ _ _ _ (by simp <;> omega)];exact h
 exact⟨⟨far 0 _ (by omega) h0,far 1 _ (by omega) h1,far 2 _ (by omega) h2,far 3 _ (by omega) h3,far 4 _ (by omega) h4,World.cell?_setCell_same _ _ _ h5,far 6 _ (by omega) h6⟩,fun k=>by simpa using hf k⟩
theorem BoxF.s6 {w:World} {b:Nat} {v0 v1 v2 v3 v4 v5 v6:Value} (h:BoxF w b v0 v1 v2 v3 v4 v5 v6) (u:Value):BoxF (w.setCell ⟨b,6,none⟩ u) b v0 v1 v2 v3 v4 v5 u:=by
 obtain⟨⟨h0,h1,h2,h3,h4,h5,h6⟩,hf⟩:=h
 have far:∀ k v,k≠6→w.cell? ⟨b,k,none⟩=some v→(w.setCell ⟨b,6,none⟩ u).cell? ⟨b,k,none⟩=some v:=fun k v h5 h=>by
  rw [World.cell?_setCell_other _ _ _ _ (by simp <;> omega)];exact h
 exact⟨⟨far 0 _ (by omega) h0,far 1 _ (by omega) h1,far 2 _ (by omega) h2,far 3 _ (by omega) h3,far 4 _ (by omega) h4,far 5 _ (by omega) h5,World.cell?_setCell_same _ _ _ h6⟩,fun k=>by simpa using hf k⟩
/-- What changes: blocks from lo to hi, and one more. -/
def PutFr (lo hi atb:Nat) (w w':World):Prop:=w'.os=w.os∧w'.tape=w.tape∧w'.output=w.output∧w.heap.size≤w'.heap.size∧∀ b,b < w.heap.size→b≠atb→¬ (lo≤b∧b < hi)→w'.heap[b]? = w.heap[b]?
theorem PutFr.refl (lo hi atb:Nat) (w:World):PutFr lo hi atb w w:=⟨rfl,rfl,rfl,Nat.le_refl _,fun _ _ _ _=>rfl⟩
theorem PutFr.below {lo hi atb:Nat} {w w':World} {C:Nat} (h:Below C w w') (hC:w.heap.size≤C):PutFr lo hi atb w w':=⟨h.os,h.tape,h.output,h.size,fun b hb _ _=>h.block b (by omega)⟩
theorem PutFr.trans {lo hi lo' hi' atb:Nat} {w w' w'':World} (h:PutFr lo hi atb w w') (h':PutFr lo' hi' atb w' w'') (h1:lo≤lo') (h2:hi'≤hi):PutFr lo hi atb w w'':=by
 obtain⟨a1,a2,a3,a4,a5⟩:=h
 obtain⟨b1,b2,b3,b4,b5⟩:=h'
 refine⟨b1.trans a1,b2.trans a2,b3.trans a3,by omega,fun b hb hne hn=>?_⟩
 rw [b5 b (by omega) hne (by omega)]
 exact a5 b hb hne hn
theorem PutFr.set {lo hi atb:Nat} {w w':World} (h:PutFr lo hi atb w w') {p:Addr} (hp:w.heap.size≤p.block∨p.block=atb∨(lo≤p.block∧p.block < hi)) (u:Value):PutFr lo hi atb w (w'.setCell p u):=by
 obtain⟨a1,a2,a3,a4,a5⟩:=h
 refine⟨a1,a2,a3,by simpa using a4,fun b hb hne hn=>?_⟩
 rw [← a5 b hb hne hn]
 simp only [World.setCell,Array.getElem?_modify]
 rw [if_neg (by rintro rfl;rcases hp with h | h | h;omega;exact hne h;exact hn h)]
theorem PutFr.drew {lo hi atb:Nat} {w w':World} (h:PutFr lo hi atb w w'):PutFr lo hi atb w w'.drew:=h
def CntAt (w:World) (atb a:Nat):Prop:=w.heap[atb]? = some (.cells #[.int .i64 (a:Nat)] 3 (0,0))
theorem CntAt.keep {w w':World} {atb a:Nat} (h:CntAt w atb a) (hk:w'.heap[atb]? = w.heap[atb]?):CntAt w' atb a:=hk.trans h
theorem CntAt.cell {w:World} {atb a:Nat} (h:CntAt w atb a):w.cell? ⟨atb,0,none⟩=some (.int .i64 (a:Nat))∧w.frozen? ⟨atb,0,none⟩=false∧atb < w.heap.size:=by
 unfold CntAt at h
 refine⟨by unfold World.cell?;rw [h];rfl,by unfold World.frozen?;rw [h];simp,?_⟩
 rcases Nat.lt_or_ge atb w.heap.size with h' | h'
 · exact h'
 · rw [Array.getElem?_eq_none h'] at h;cases h
theorem CntAt.set {w:World} {atb a:Nat} (h:CntAt w atb a) (b:Nat):CntAt (w.setCell ⟨atb,0,none⟩ (.int .i64 (b:Nat))) atb b:=by
 unfold CntAt at h ⊢
 simp only [World.setCell,Array.getElem?_modify,if_pos,h,Option.map_some]
 rfl
theorem CntAt.far {w:World} {atb a:Nat} (h:CntAt w atb a) {p:Addr} (hp:p.block≠atb) (u:Value):CntAt (w.setCell p u) atb a:=by
 refine h.keep ?_
 simp only [World.setCell,Array.getElem?_modify]
 rw [if_neg hp]
theorem BoxF.keep {w w':World} {b:Nat} {v0 v1 v2 v3 v4 v5 v6:Value} (h:BoxF w b v0 v1 v2 v3 v4 v5 v6) (hk:w'.heap[b]? = w.heap[b]?):BoxF w' b v0 v1 v2 v3 v4 v5 v6:=by
 have hc:∀ k,w'.cell? ⟨b,k,none⟩=w.cell? ⟨b,k,none⟩:=fun k=>World.cell?_of_block hk
 have hf:∀ k,w'.frozen? ⟨b,k,none⟩=w.frozen? ⟨b,k,none⟩:=fun k=>World.frozen?_of_block hk
 obtain⟨⟨h0,h1,h2,h3,h4,h5,h6⟩,hz⟩:=h
 exact⟨⟨(hc 0).trans h0,(hc 1).trans h1,(hc 2).trans h2,(hc 3).trans h3,(hc 4).trans h4,(hc 5).trans h5,(hc 6).trans h6⟩,fun k=>(hf k).trans (hz k)⟩
theorem flats_take_le:∀ (ps:List PartD) (i:Nat),(flatsD (ps.take i)).length≤(flatsD ps).length
 | [],i=>by simp
 | p :: ps,0=>by rw [List.take_zero,show flatsD [] = [] from by rw [flatsD]];simp
 | p :: ps,i+1=>by
  rw [List.take_succ_cons,flatsD,flatsD,List.length_append,List.length_append]
  have:=flats_take_le ps i
  omega
/-- The bodies that are to be put in. -/
def BodsAt (L B0:Nat) (w:World) (Sb:Option Addr) (nb:Nat) (bs:List (List UInt8)):Prop:=
 bs.length=nb∧∃ vs:List Value,Sl w B0 1 Sb nb vs∧∀ j v,vs[j]? = some v→∃ A c,v = .slice A (bs.getD j []).length c∧SlS (fun b=>L≤b∧b < B0) w 1 A (bs.getD j []).length (Lib.byteCells (bs.getD j []))∧(bs.getD j []).length≤c∧c≤maxLen
theorem BodsAt.keep {L B0:Nat} {w w':World} {Sb:Option Addr} {nb:Nat} {bs:List (List UInt8)} (h:BodsAt L B0 w Sb nb bs) (hk:∀ p:Addr,p.block < B0→w'.cell? p=w.cell? p):BodsAt L B0 w' Sb nb bs:=by
 obtain⟨h1,vs,h2,h3⟩:=h
 refine⟨h1,vs,h2.keep hk,fun j v hv=>?_⟩
 obtain⟨A,c,g1,g2,g3,g4⟩:=h3 j v hv
 exact⟨A,c,g1,SlS.change g2 (fun _ h=>h) (fun p hp=>hk p hp.2),g3,g4⟩
def PutTRes (p:PartD) (bs:List (List UInt8)) (L B0 lo hi atb a:Nat) (w:World) (e:Ending) (w':World):Prop:=
 ∃ v:List Value,e = .returned (.agg v.toArray)∧PartAt (fun b=>(L≤b∧b < B0)∨(lo≤b∧b < hi)) w' (putD p (bs.drop a)) v∧CntAt w' atb (a+(flatD p).length)∧PutFr lo hi atb w w'
def PutTRel (p:PartD) (bs:List (List UInt8)) (rows:List (List Value)) (n2 L B0 lo lo2 hi atb a h:Nat) (A2:Option Addr) (c2:Nat) (S1:Option Addr) (n1 d1:Nat) (w0:World) (iv:Value) (wr:World):Prop:=
 ∃ (i mid:Nat) (done:List (List Value)),iv = .int .i64 (i:Nat)∧i≤n2∧done.length=i∧wr.ownsRow lo 25 7 (.slice A2 n2 c2) n2 (done ++ rows.drop i).flatten ∧
  PartsAt (fun b=>(L≤b∧b < B0)∨(lo2≤b∧b < mid)) wr (putsD (p.parts.take i) (bs.drop (a+1))) done∧TrsAt wr mid hi (p.parts.drop i) (rows.drop i)∧lo2≤mid∧mid≤hi ∧
  BoxF wr h (str p.type) (str p.cs) (str p.id) (str p.loc) (.int .i64 p.how) (.slice S1 n1 d1) (.slice A2 n2 c2)∧(∃ v0 v1 v2 v3 v4 v5 v6,BoxF wr (h+1) v0 v1 v2 v3 v4 v5 v6) ∧
  CntAt wr atb (a+1+(flatsD (p.parts.take i)).length)∧PutFr lo hi atb w0 wr∧h+2≤wr.heap.size
theorem putsD_app:∀ (ps qs:List PartD) (bs:List (List UInt8)),putsD (ps ++ qs) bs=putsD ps bs ++ putsD qs (bs.drop (flatsD ps).length)
 | [],qs,bs=>by rw [List.nil_append,show putsD [] bs = [] from by rw [putsD],show flatsD [] = [] from by rw [flatsD]];simp
 | p :: ps,qs,bs=>by
  rw [List.cons_append,putsD,putsD,putsD_app ps qs,flatsD,List.length_append,List.drop_drop,List.cons_append]
theorem flatsD_take (ps:List PartD) (i:Nat) (q:PartD) (h:ps[i]? = some q):(flatsD (ps.take (i+1))).length=(flatsD (ps.take i)).length+(flatD q).length:=by
 rw [List.take_add_one,h]
 show(flatsD (ps.take i ++ [q])).length=_
 have:∀ a b:List PartD,flatsD (a ++ b)=flatsD a ++ flatsD b:=by
  intro a b
  induction a with
  | nil=>rw [List.nil_append,show flatsD [] = [] from by rw [flatsD],List.nil_append]
  | cons x a ih=>rw [List.cons_append,flatsD,flatsD,ih,List.append_assoc]
 rw [this,List.length_append,show flatsD [q]=flatD q ++ [] from by rw [flatsD,show flatsD [] = [] from by rw [flatsD]],List.append_nil]
theorem putT_any (bs:List (List UInt8)) (L B0 nb cb atb:Nat) (Sb:Option Addr) (hnb:nb≤1000) (hB0:B0≤atb) (k:Nat):∀ (p:PartD) (v:List Value) (lo hi a:Nat) (w:World),(flatD p).length≤k→k≤1000→TrAt w lo hi p v→B0≤lo→hi≤w.heap.size →
 ¬ (lo≤atb∧atb < hi)→CntAt w atb a→BodsAt L B0 w Sb nb bs→a+(flatD p).length≤nb →
 Calls Tryz.prog 15 #[.agg v.toArray,.slice Sb nb cb,.pointer (some ⟨atb,0,none⟩)] w (PutTRes p bs L B0 lo hi atb a w):=by
 induction k with
 | zero=>intro p v lo hi a w h;rw [flatD_eq] at h;simp at h
 | succ k ih =>
  intro p v lo hi a w hk hk1 htr hlo hhi hat hcnt hbods hroom
  obtain⟨A,c,A2,c2,rows,lo2,rfl,hbds,hc2,hcm2,hown,hlo2,h1,h2,htrs⟩:=htr.open
  obtain⟨hcc,hcf,hclt⟩:=hcnt.cell
  have hfp:(flatD p).length=(flatsD p.parts).length+1:=by rw [flatD_eq,List.length_cons]
  have hnp:p.parts.length≤1000:=by have:=flatsD_len p.parts;omega
  obtain⟨hbl,vs,hvs,hvb⟩:=hbods
  have hav:a < nb:=by omega
  obtain⟨bb,offb,u,hSb,hbb,hu,hcu⟩:=hvs.at_ hav
  obtain⟨Ab,cb',rfl,hbyb,hbc1,hbc2⟩:=hvb a u hu
  subst hSb
  obtain⟨x,hx⟩:∃ x,x=bs.getD a []:=⟨_,rfl⟩
  rw [← hx] at hbyb hbc1 hcu
  obtain⟨W,hW⟩:∃ W,W=(w.alloc (.cells #[str p.type,str p.cs,str p.id,str p.loc,.int .i64 p.how,.slice A p.body.length c,.slice A2 p.parts.length c2] 25)).alloc (.cells #[.string ⟨#[]⟩,.string ⟨#[]⟩,.string ⟨#[]⟩,.string ⟨#[]⟩,.int .i64 0,.slice none 0 0,.slice none 0 0] 25):=⟨_,rfl⟩
  have hbW:Below w.heap.size w W:=by rw [hW];exact((Below.refl _ w).alloc (Nat.le_refl _) _).alloc (by simp) _
  have hsW:W.heap.size=w.heap.size+2:=by rw [hW];simp
  have hx1:BoxF W w.heap.size (str p.type) (str p.cs) (str p.id) (str p.loc) (.int .i64 p.how) (.slice A p.body.length c) (.slice A2 p.parts.length c2):=by
   refine BoxF.of_block (t:=25) ?_
   rw [hW,Lib.alloc_old _ _ _ (by simp)]
   exact heap_alloc_new w _
  have hx2:BoxF W (w.heap.size+1) (.string ⟨#[]⟩) (.string ⟨#[]⟩) (.string ⟨#[]⟩) (.string ⟨#[]⟩) (.int .i64 0) (.slice none 0 0) (.slice none 0 0):=by
   refine BoxF.of_block (t:=25) ?_
   rw [hW]
   have:=heap_alloc_new (w.alloc (.cells #[str p.type,str p.cs,str p.id,str p.loc,.int .i64 p.how,.slice A p.body.length c,.slice A2 p.parts.length c2] 25)) (.cells #[.string ⟨#[]⟩,.string ⟨#[]⟩,.string ⟨#[]⟩,.string ⟨#[]⟩,.int .i64 0,.slice none 0 0,.slice none 0 0] 25)
   simpa using this
  have hcW:CntAt W atb a:=hcnt.keep (hbW.block atb hclt)
  obtain⟨d0,d1,_⟩:=hcW.cell
  have d2:W.cell? ⟨bb,offb+a,none⟩=some (.slice Ab x.length cb'):=by rw [hbW.cell (by show bb < _;omega)];exact hcu
  have hpos:(a:Int) < nb:=by omega
  have hatne:atb≠w.heap.size:=by omega
  -- the world behind the first two statements
  obtain⟨w2,hw2⟩:∃ w2,w2=(W.setCell ⟨w.heap.size,5,none⟩ (.slice Ab x.length cb')).setCell ⟨atb,0,none⟩ (.int .i64 ((a:Int)+1)):=⟨_,rfl⟩
  have hbx2:BoxF w2 w.heap.size (str p.type) (str p.cs) (str p.id) (str p.loc) (.int .i64 p.how) (.slice Ab x.length cb') (.slice A2 p.parts.length c2):=by
   rw [hw2]
   exact(hx1.s5 _).setFar hatne _
  have hbr2:BoxF w2 (w.heap.size+1) (.string ⟨#[]⟩) (.string ⟨#[]⟩) (.string ⟨#[]⟩) (.string ⟨#[]⟩) (.int .i64 0) (.slice none 0 0) (.slice none 0 0):=by
   rw [hw2]
   exact(hx2.setFar (by simp) _).setFar (by simp;omega) _
  have hcn2:CntAt w2 atb (a+1):=by
   rw [hw2]
   have:=(hcW.far (p:=⟨w.heap.size,5,none⟩) (Ne.symm hatne) (.slice Ab x.length cb')).set (a+1)
   exact this
  have hfr2:PutFr lo hi atb w w2:=by
   rw [hw2]
   exact((PutFr.below hbW (Nat.le_refl _)).set (.inl (Nat.le_refl _)) _).set (.inr (.inl rfl)) _
  have hsz2:w.heap.size+2≤w2.heap.size:=by rw [hw2];simp;omega
  have hblk2:∀ b,b < w.heap.size→b≠atb→w2.heap[b]? = w.heap[b]?:=by
   intro b hb hne
   rw [hw2]
   simp only [World.setCell,Array.getElem?_modify]
   rw [if_neg (Ne.symm hne),if_neg (by omega)]
   exact hbW.block b hb
  have hown2:w2.ownsRow lo 25 7 (.slice A2 p.parts.length c2) p.parts.length rows.flatten:=own_keep hown (fun g hg=>hblk2 g (by have:=hlo2 g hg;omega) (by rintro rfl;have:=(hown.lt _ hg).1;have:=hlo2 _ hg;omega))
  have htr2:TrsAt w2 lo2 hi p.parts rows:=TrsAt.keep _ _ _ _ (fun b h3 h4=>hblk2 b (by omega) (by rintro rfl;exact hat ⟨by omega,h4⟩)) htrs
  have hrel0:PutTRel p bs rows p.parts.length L B0 lo lo2 hi atb a w.heap.size A2 c2 Ab x.length cb' w (.int .i64 0) w2:=
   ⟨0,lo2,[],rfl,Nat.zero_le _,rfl,by simpa using hown2,by rw [List.take_zero,show putsD [] (bs.drop (a+1)) = [] from by rw [putsD]];rfl,by simpa using htr2,Nat.le_refl _,h2,hbx2,⟨_,_,_,_,_,_,_,hbr2⟩,by rw [List.take_zero,show flatsD [] = [] from by rw [flatsD]];exact hcn2,hfr2,hsz2⟩
  have hkeepB:∀ wx,PutFr lo hi atb w wx→∀ p:Addr,p.block < B0→wx.cell? p=w.cell? p:=by
   intro wx hfx q hq
   exact World.cell?_of_block (hfx.2.2.2.2 q.block (by omega) (by omega) (by omega))
  have hBods:∀ wx,PutFr lo hi atb w wx→BodsAt L B0 wx (some ⟨bb,offb,none⟩) nb bs:=fun wx hfx=>BodsAt.keep ⟨hbl,vs,hvs,hvb⟩ (hkeepB wx hfx)
  have HBods:=Lib.hid hBods
  have HkeepB:=Lib.hid hkeepB
  have Hrel0:=Lib.hid hrel0
  have Hih:=Lib.hid ih
  have Hbds:=Lib.hid hbds
  have Hfp:=Lib.hid hfp
  have Hx:=Lib.hid hx
  have Hbyb:=Lib.hid hbyb
  have Hhlo2:=Lib.hid hlo2
  obtain⟨⟨x0,x1,x2,x3,x4,x5,x6⟩,xf⟩:=hx1
  have xf5:=xf 5
  have hx6:=hbx2.1.2.2.2.2.2.2
  clear hrel0 ih hbds hx hbyb hlo2 hkeepB hBods hx2 hcW hbx2 hbr2 hcn2 hfr2 hown2 htr2 hvs hvb hu hcu htr htrs hown hblk2 xf hcc hcf hfp hsW hbW hcnt
  go_enter Tryz.func15,Tryz.ntmps15
  go_upto_region 1 with fail
  rw [← hW]
  clear hW
  go_upto_region 3 with fail
  rw [← hw2]
  clear hw2 x0 x1 x2 x3 x4 x5 x6 xf5 d0 d1 d2
  go_wp2_with fail
  go_loopw [24] (PutTRel p bs rows p.parts.length L B0 lo lo2 hi atb a w.heap.size A2 c2 Ab x.length cb' w) (fun iv _=>p.parts.length - (intOf iv).toNat)
  case atStart=>exact Hrel0.out
  case round =>
   obtain⟨i,mid,done,rfl,hi',hdl,hown,hpd,htr,hm1,hm2,hbx,hb1x,hcn,hfr,hsz⟩:=hrel
   by_cases hin:i < p.parts.length
   · have hgl2:=Hhlo2.out
     obtain⟨g,cap,hv,hgb,hgl⟩:=hown.form (by omega)
     injection hv with hA2 _ hcap
     subst hA2
     subst hcap
     have hg2:g < lo2:=hgl2 g rfl
     have hiq:=List.getElem?_eq_getElem hin
     have hdrop:=List.drop_eq_getElem_cons hin
     obtain⟨q,hq⟩:∃ q,q=p.parts[i]:=⟨_,rfl⟩
     rw [← hq] at hiq hdrop
     rw [hdrop] at htr
     obtain⟨r,rs,mid',hrr,hm3,hm4,hq1,hq2⟩:=htr
     have hrs:rs=rows.drop (i+1):=by
      have:=congrArg (List.drop 1) hrr
      rw [List.drop_drop] at this
      simpa [Nat.add_comm] using this.symm
     rw [hrs] at hrr hq2
     have hpd7:=PartsAt.rows _ _ hpd
     have hrw7:∀ x∈done ++ rows.drop i,x.length=7:=by
      intro x hx
      rcases List.mem_append.1 hx with hx | hx
      · exact hpd7 x hx
      · rw [hrr] at hx
        rcases List.mem_cons.1 hx with rfl | hx
        · exact hq1.row7
        · exact TrsAt.rows7 _ _ _ _ hq2 x hx
     have hcell:∀ k u,k < 7→r[k]? = some u→wr.cell? ⟨g,i * 7+k,none⟩=some u:=by
      intro k u hk hu
      rw [hown.cellAt _ (by omega),flat7_at _ hrw7 i k r ?_ hk]
      · exact hu
      · rw [List.getElem?_append_right (by omega),hdl,Nat.sub_self,hrr];rfl
     have hrow:=hown
     rw [hrr] at hrow
     obtain⟨A',c',A2',c2',rows',lo',rfl,_⟩:=hq1.open
     have q0:=hcell 0 _ (by omega) rfl
     have q1:=hcell 1 _ (by omega) rfl
     have q2:=hcell 2 _ (by omega) rfl
     have q3:=hcell 3 _ (by omega) rfl
     have q4:=hcell 4 _ (by omega) rfl
     have q5:=hcell 5 _ (by omega) rfl
     have q6:=hcell 6 _ (by omega) rfl
     simp only [Nat.add_zero] at q0
     have hfl:=flatsD_take p.parts i q hiq
     have hfl2:=flats_take_le p.parts (i+1)
     have hfpp:=Hfp.out
     have hghi:g < hi:=by omega
     have hgat:g≠atb:=by rintro rfl;exact hat ⟨hgb,by omega⟩
     obtain⟨W5,hW5⟩:∃ W5,W5=wr.alloc (.cells #[str q.type,str q.cs,str q.id,str q.loc,.int .i64 q.how,.slice A' q.body.length c',.slice A2' q.parts.length c2'] 25):=⟨_,rfl⟩
     have hbA:Below wr.heap.size wr W5:=by rw [hW5];exact(Below.refl _ wr).alloc (Nat.le_refl _) _
     have hs5:W5.heap.size=wr.heap.size+1:=by rw [hW5];simp
     have hk5:Box7 W5 wr.heap.size (str q.type) (str q.cs) (str q.id) (str q.loc) (.int .i64 q.how) (.slice A' q.body.length c') (.slice A2' q.parts.length c2'):=by rw [hW5];exact Box7.new wr _ _ _ _ _ _ _ _
     have hsw:=hfr.2.2.2.1
     have hfr5:PutFr lo hi atb w (World.drew W5):=(hfr.trans (PutFr.below (lo:=lo) (hi:=hi) (atb:=atb) hbA (Nat.le_refl _)) (Nat.le_refl _) (Nat.le_refl _)).drew
     have hb5:∀ b,b < wr.heap.size→(World.drew W5).heap[b]? = wr.heap[b]?:=fun b hb=>hbA.block b hb
     have hatw:atb < wr.heap.size:=hcn.cell.2.2
     have hcl:=Hih.out q _ mid mid' (a+1+(flatsD (p.parts.take i)).length) (World.drew W5) (by omega) (by omega)
      (TrAt.keep (w:=wr) (w':=World.drew W5) _ _ _ _ (fun b h3 h4=>hb5 b (by omega)) hq1) (by omega) (show mid'≤W5.heap.size by omega) (fun h=>hat ⟨by omega,by omega⟩) (hcn.keep (hb5 atb hatw)) (HBods.out _ hfr5) (by omega)
     have Hcl:=Lib.hid hcl
     have Hown:=Lib.hid hrow
     have Hq2:=Lib.hid hq2
     have Hpd:=Lib.hid hpd
     have Hbx:=Lib.hid hbx
     have Hb1x:=Lib.hid hb1x
     have Hdl:=Lib.hid hdl
     have Hiq:=Lib.hid hiq
     have Hfl:=Lib.hid hfl
     have Hfr5:=Lib.hid hfr5
     have Hb5:=Lib.hid hb5
     have Hpd7:=Lib.hid hpd7
     have hin1:(i:Int) < p.parts.length:=by omega
     have hin0:0≤(i:Int):=by omega
     have⟨z0,z1,z2,z3,z4,z5,z6⟩:=hk5
     have hS:(fun W':World=>W'.cell? ⟨w.heap.size,6,none⟩=some (.slice (some ⟨g,0,none⟩) p.parts.length c2)∧Box7 W' wr.heap.size (str q.type) (str q.cs) (str q.id) (str q.loc) (.int .i64 q.how) (.slice A' q.body.length c') (.slice A2' q.parts.length c2')) (World.drew W5):=⟨((hbA.cell (p:=⟨w.heap.size,6,none⟩) (by show w.heap.size < _;omega)).trans hbx.1.2.2.2.2.2.2),hk5⟩
     clear hcl hown hrow hq1 hq2 hpd hbx hb1x hdl hiq hfl hfl2 hfpp hcell hrw7 hpd7 hq hdrop hrs hcn hk5 hfr5 hb5 hbA hfr
     go_upto_region 6 with fail
     rw [← hW5]
     clear hW5 q0 q1 q2 q3 q4 q5 q6 z0 z1 z2 z3 z4 z5 z6
     refine wp_region_held (S:=(fun W':World=>W'.cell? ⟨w.heap.size,6,none⟩=some (.slice (some ⟨g,0,none⟩) p.parts.length c2)∧Box7 W' wr.heap.size (str q.type) (str q.cs) (str q.id) (str q.loc) (.int .i64 q.how) (.slice A' q.body.length c') (.slice A2' q.parts.length c2'))) (by kernel_rfl) ?_
     change wpAnyH _ _ _ _ _ _ _ _ (World.drew W5)
     refine tkH (i:=0) (v:=?_) rfl ?_ hS ?_
     rotate_left 1
     · intro W' hb';go_simp;try exact rfl
     refine tkH (i:=1) (v:=?_) rfl ?_ hS ?_
     rotate_left 1
     · intro W' hb';have q0:W'.cell? ⟨w.heap.size,6,none⟩=some (.slice (some ⟨g,0,none⟩) p.parts.length c2):=hb'.1;have⟨z0,z1,z2,z3,z4,z5,z6⟩:=hb'.2;go_simp;try exact rfl
     refine tkH (i:=2) (v:=?_) rfl ?_ hS ?_
     rotate_left 1
     · intro W' hb';go_simp;try exact rfl
     refine tkH (i:=3) (v:=?_) rfl ?_ hS ?_
     rotate_left 1
     · intro W' hb';have q0:W'.cell? ⟨w.heap.size,6,none⟩=some (.slice (some ⟨g,0,none⟩) p.parts.length c2):=hb'.1;have⟨z0,z1,z2,z3,z4,z5,z6⟩:=hb'.2;go_simp;try exact rfl
     refine tkH (i:=4) (v:=?_) rfl ?_ hS ?_
     rotate_left 1
     · intro W' hb';go_simp;try exact rfl
     refine tkH (i:=5) (v:=?_) rfl ?_ hS ?_
     rotate_left 1
     · intro W' hb';go_simp;try exact rfl
     refine wpAnyH_all (rs:=[6]) (by kernel_rfl) (by simp) ?_
     intro kk hkk
     simp only [List.mem_singleton] at hkk
     subst hkk
     go_simp
     refine wpOp_callP rfl (by kernel_rfl) 15 #[.agg #[str q.type,str q.cs,str q.id,str q.loc,.int .i64 q.how,.slice A' q.body.length c',.slice A2' q.parts.length c2'],.slice (some ⟨bb,offb,none⟩) nb cb,.pointer (some ⟨atb,0,none⟩)] (by go_simp;try rfl) _ Hcl.out ?_
     rintro e w6 ⟨v6,rfl,hpv,hcn6,hfr6⟩
     refine⟨_,rfl,?_⟩
     obtain⟨qq,hqq⟩:∃ qq,qq=putD q (bs.drop (a+1+(flatsD (p.parts.take i)).length)):=⟨_,rfl⟩
     rw [← hqq] at hpv
     have Hqq:=Lib.hid hqq
     clear hqq
     obtain⟨A6,d6,A7,d7,rfl,_⟩:=hpv.open
     have hs56:W5.heap.size≤w6.heap.size:=hfr6.2.2.2.1
     have hb6:∀ b,b < wr.heap.size+1→b≠atb→¬ (mid≤b∧b < mid')→w6.heap[b]? = W5.heap[b]?:=fun b h3 h4 h5=>hfr6.2.2.2.2 b (show b < W5.heap.size by omega) h4 h5
     have hbr6:∀ b,b < wr.heap.size→b≠atb→¬ (mid≤b∧b < mid')→w6.heap[b]? = wr.heap[b]?:=fun b h3 h4 h5=>(hb6 b (by omega) h4 h5).trans (Hb5.out b h3)
     have hS:(fun W':World=>W'.cell? ⟨w.heap.size,6,none⟩=some (.slice (some ⟨g,0,none⟩) p.parts.length c2)∧Box7 W' wr.heap.size (str q.type) (str q.cs) (str q.id) (str q.loc) (.int .i64 q.how) (.slice A' q.body.length c') (.slice A2' q.parts.length c2')) w6:=by
      obtain⟨s0,s1,s2,s3,s4,s5,s6,s7⟩:=hS
      have e1:∀ k,w6.cell? ⟨w.heap.size,k,none⟩=W5.cell? ⟨w.heap.size,k,none⟩:=fun k=>World.cell?_of_block (hb6 w.heap.size (by omega) (Ne.symm hatne) (by omega))
      have e2:∀ k,w6.cell? ⟨wr.heap.size,k,none⟩=W5.cell? ⟨wr.heap.size,k,none⟩:=fun k=>World.cell?_of_block (hb6 wr.heap.size (by omega) (by omega) (by omega))
      exact⟨(e1 6).trans s0,(e2 0).trans s1,(e2 1).trans s2,(e2 2).trans s3,(e2 3).trans s4,(e2 4).trans s5,(e2 5).trans s6,(e2 6).trans s7⟩
     refine⟨hS,?_⟩
     refine tkH (i:=7) (v:=?_) rfl ?_ hS ?_
     rotate_left 1
     · intro W' hb';go_simp;try exact rfl
     refine wpAnyH_all (rs:=[8]) (by kernel_rfl) (by simp) ?_
     intro kk hkk
     simp only [List.mem_singleton] at hkk
     subst hkk
     go_simp
     have hown6:w6.ownsRow lo 25 7 (.slice (some ⟨g,0,none⟩) p.parts.length c2) p.parts.length (done ++ [str q.type,str q.cs,str q.id,str q.loc,.int .i64 q.how,.slice A' q.body.length c',.slice A2' q.parts.length c2'] :: rows.drop (i+1)).flatten:=
      own_keep Hown.out (fun g' hg'=>by have hgg:g=g':=Option.some.inj hg';rw [← hgg];exact hbr6 g hgl hgat (by omega))
     have hrw6:∀ x∈done ++ [str q.type,str q.cs,str q.id,str q.loc,.int .i64 q.how,.slice A' q.body.length c',.slice A2' q.parts.length c2'] :: rows.drop (i+1),x.length=7:=by
      intro x hx
      rcases List.mem_append.1 hx with hx | hx
      · exact Hpd7.out x hx
      · rcases List.mem_cons.1 hx with rfl | hx
        · rfl
        · exact TrsAt.rows7 _ _ _ _ Hq2.out x hx
     have hcell6:∀ k u,k < 7→[str q.type,str q.cs,str q.id,str q.loc,.int .i64 q.how,.slice A' q.body.length c',.slice A2' q.parts.length c2'][k]? = some u→w6.cell? ⟨g,i * 7+k,none⟩=some u:=by
      intro k u hk hu
      rw [hown6.cellAt _ (by omega),flat7_at _ hrw6 i k _ ?_ hk]
      · exact hu
      · rw [List.getElem?_append_right (by rw [Hdl.out];exact Nat.le_refl _),Hdl.out,Nat.sub_self];rfl
     have q0:=hcell6 0 _ (by omega) rfl
     have q1:=hcell6 1 _ (by omega) rfl
     have q2:=hcell6 2 _ (by omega) rfl
     have q3:=hcell6 3 _ (by omega) rfl
     have q4:=hcell6 4 _ (by omega) rfl
     have q5:=hcell6 5 _ (by omega) rfl
     have q6:=hcell6 6 _ (by omega) rfl
     simp only [Nat.add_zero] at q0
     have f0:=hown6.frozenAt (i * 7)
     have f1:=hown6.frozenAt (i * 7+1)
     have f2:=hown6.frozenAt (i * 7+2)
     have f3:=hown6.frozenAt (i * 7+3)
     have f4:=hown6.frozenAt (i * 7+4)
     have f5:=hown6.frozenAt (i * 7+5)
     have f6:=hown6.frozenAt (i * 7+6)
     have Hown6:=Lib.hid hown6
     have Hpv:=Lib.hid hpv
     have Hcn6:=Lib.hid hcn6
     have Hfr6:=Lib.hid hfr6
     have Hbr6:=Lib.hid hbr6
     have Hb6:=Lib.hid hb6
     have HS:=Lib.hid hS
     clear hown6 hrw6 hcell6 hpv hcn6 hfr6 hbr6 hb6 hS
     refine wpOp_store rfl (by kernel_rfl) (((((((w6.setCell ⟨g,i * 7,none⟩ (str qq.type)).setCell ⟨g,i * 7+1,none⟩ (str qq.cs)).setCell ⟨g,i * 7+2,none⟩ (str qq.id)).setCell ⟨g,i * 7+3,none⟩ (str qq.loc)).setCell ⟨g,i * 7+4,none⟩ (.int .i64 qq.how)).setCell ⟨g,i * 7+5,none⟩ (.slice A6 qq.body.length d6)).setCell ⟨g,i * 7+6,none⟩ (.slice A7 qq.parts.length d7)) (by go_simp;try rfl) ?_
     clear q0 q1 q2 q3 q4 q5 q6 f0 f1 f2 f3 f4 f5 f6
     have far7:∀ b,b≠g→(((((((w6.setCell ⟨g,i * 7,none⟩ (str qq.type)).setCell ⟨g,i * 7+1,none⟩ (str qq.cs)).setCell ⟨g,i * 7+2,none⟩ (str qq.id)).setCell ⟨g,i * 7+3,none⟩ (str qq.loc)).setCell ⟨g,i * 7+4,none⟩ (.int .i64 qq.how)).setCell ⟨g,i * 7+5,none⟩ (.slice A6 qq.body.length d6)).setCell ⟨g,i * 7+6,none⟩ (.slice A7 qq.parts.length d7)).heap[b]? = w6.heap[b]?:=by
      intro b hb
      simp only [World.setCell,Array.getElem?_modify]
      simp [Ne.symm hb]
     have hown7:=own_set7 (g:=g) (i:=i) (done:=done) (rest:=rows.drop (i+1)) Hown6.out Hpd7.out Hdl.out (str qq.type) (str qq.cs) (str qq.id) (str qq.loc) (.int .i64 qq.how) (.slice A6 qq.body.length d6) (.slice A7 qq.parts.length d7)
     have hfr7:PutFr lo hi atb w (((((((w6.setCell ⟨g,i * 7,none⟩ (str qq.type)).setCell ⟨g,i * 7+1,none⟩ (str qq.cs)).setCell ⟨g,i * 7+2,none⟩ (str qq.id)).setCell ⟨g,i * 7+3,none⟩ (str qq.loc)).setCell ⟨g,i * 7+4,none⟩ (.int .i64 qq.how)).setCell ⟨g,i * 7+5,none⟩ (.slice A6 qq.body.length d6)).setCell ⟨g,i * 7+6,none⟩ (.slice A7 qq.parts.length d7)):=by
      have h0:PutFr lo hi atb w w6:=Hfr5.out.trans Hfr6.out (by omega) hm4
      exact((((((h0.set (.inr (.inr ⟨hgb,hghi⟩)) _).set (.inr (.inr ⟨hgb,hghi⟩)) _).set (.inr (.inr ⟨hgb,hghi⟩)) _).set (.inr (.inr ⟨hgb,hghi⟩)) _).set (.inr (.inr ⟨hgb,hghi⟩)) _).set (.inr (.inr ⟨hgb,hghi⟩)) _).set (.inr (.inr ⟨hgb,by omega⟩)) _
     have hsz7:(((((((w6.setCell ⟨g,i * 7,none⟩ (str qq.type)).setCell ⟨g,i * 7+1,none⟩ (str qq.cs)).setCell ⟨g,i * 7+2,none⟩ (str qq.id)).setCell ⟨g,i * 7+3,none⟩ (str qq.loc)).setCell ⟨g,i * 7+4,none⟩ (.int .i64 qq.how)).setCell ⟨g,i * 7+5,none⟩ (.slice A6 qq.body.length d6)).setCell ⟨g,i * 7+6,none⟩ (.slice A7 qq.parts.length d7)).heap.size=w6.heap.size:=by simp
     have hS:(fun W':World=>W'.cell? ⟨w.heap.size,6,none⟩=some (.slice (some ⟨g,0,none⟩) p.parts.length c2)∧Box7 W' wr.heap.size (str q.type) (str q.cs) (str q.id) (str q.loc) (.int .i64 q.how) (.slice A' q.body.length c') (.slice A2' q.parts.length c2')) (((((((w6.setCell ⟨g,i * 7,none⟩ (str qq.type)).setCell ⟨g,i * 7+1,none⟩ (str qq.cs)).setCell ⟨g,i * 7+2,none⟩ (str qq.id)).setCell ⟨g,i * 7+3,none⟩ (str qq.loc)).setCell ⟨g,i * 7+4,none⟩ (.int .i64 qq.how)).setCell ⟨g,i * 7+5,none⟩ (.slice A6 qq.body.length d6)).setCell ⟨g,i * 7+6,none⟩ (.slice A7 qq.parts.length d7)):=by
      obtain⟨s0,s1,s2,s3,s4,s5,s6,s7⟩:=HS.out
      have e1:∀ k,(((((((w6.setCell ⟨g,i * 7,none⟩ (str qq.type)).setCell ⟨g,i * 7+1,none⟩ (str qq.cs)).setCell ⟨g,i * 7+2,none⟩ (str qq.id)).setCell ⟨g,i * 7+3,none⟩ (str qq.loc)).setCell ⟨g,i * 7+4,none⟩ (.int .i64 qq.how)).setCell ⟨g,i * 7+5,none⟩ (.slice A6 qq.body.length d6)).setCell ⟨g,i * 7+6,none⟩ (.slice A7 qq.parts.length d7)).cell? ⟨w.heap.size,k,none⟩=w6.cell? ⟨w.heap.size,k,none⟩:=fun k=>World.cell?_of_block (far7 w.heap.size (by omega))
      have e2:∀ k,(((((((w6.setCell ⟨g,i * 7,none⟩ (str qq.type)).setCell ⟨g,i * 7+1,none⟩ (str qq.cs)).setCell ⟨g,i * 7+2,none⟩ (str qq.id)).setCell ⟨g,i * 7+3,none⟩ (str qq.loc)).setCell ⟨g,i * 7+4,none⟩ (.int .i64 qq.how)).setCell ⟨g,i * 7+5,none⟩ (.slice A6 qq.body.length d6)).setCell ⟨g,i * 7+6,none⟩ (.slice A7 qq.parts.length d7)).cell? ⟨wr.heap.size,k,none⟩=w6.cell? ⟨wr.heap.size,k,none⟩:=fun k=>World.cell?_of_block (far7 wr.heap.size (by omega))
      exact⟨(e1 6).trans s0,(e2 0).trans s1,(e2 1).trans s2,(e2 2).trans s3,(e2 3).trans s4,(e2 4).trans s5,(e2 5).trans s6,(e2 6).trans s7⟩
     refine⟨hS,?_⟩
     clear hS
     refine wpAnyH_done (by kernel_rfl) ?_ _
     generalize (((((((w6.setCell ⟨g,i * 7,none⟩ (str qq.type)).setCell ⟨g,i * 7+1,none⟩ (str qq.cs)).setCell ⟨g,i * 7+2,none⟩ (str qq.id)).setCell ⟨g,i * 7+3,none⟩ (str qq.loc)).setCell ⟨g,i * 7+4,none⟩ (.int .i64 qq.how)).setCell ⟨g,i * 7+5,none⟩ (.slice A6 qq.body.length d6)).setCell ⟨g,i * 7+6,none⟩ (.slice A7 qq.parts.length d7))=w7 at far7 hown7 hfr7 hsz7 ⊢
     have hfin:PutTRel p bs rows p.parts.length L B0 lo lo2 hi atb a w.heap.size (some ⟨g,0,none⟩) c2 Ab x.length cb' w (.int .i64 ((i:Int)+1)) w7:=by
      have old7:∀ b,b < wr.heap.size→b≠atb→b≠g→¬ (mid≤b∧b < mid')→w7.heap[b]? = wr.heap[b]?:=fun b h3 h4 h5 h6=>(far7 b h5).trans (Hbr6.out b h3 h4 h6)
      refine⟨i+1,mid',done ++ [[str qq.type,str qq.cs,str qq.id,str qq.loc,.int .i64 qq.how,.slice A6 qq.body.length d6,.slice A7 qq.parts.length d7]],by go_num,by omega,by simp [Hdl.out],by rw [List.append_assoc];exact hown7,?_,?_,by omega,hm4,?_,?_,?_,hfr7,by omega⟩
      · have ht:putsD (p.parts.take (i+1)) (bs.drop (a+1))=putsD (p.parts.take i) (bs.drop (a+1)) ++ [qq]:=by
         rw [List.take_add_one,Hiq.out]
         show putsD (p.parts.take i ++ [q]) _=_
         rw [putsD_app,List.drop_drop,putsD,show ∀ l,putsD [] l = [] from fun l=>by rw [putsD],Hqq.out]
        rw [ht]
        refine PartsAt.app _ _ _ _ (PartsAt.change (fun b hb=>?_) (fun b hb=>?_) _ _ Hpd.out) ⟨_,_,rfl,PartAt.change (fun b hb=>?_) (fun b hb=>?_) _ _ Hpv.out,rfl⟩
        · rcases hb with hb | hb
          · exact .inl hb
          · exact .inr ⟨hb.1,by omega⟩
        · refine World.cell?_of_block (old7 _ ?_ ?_ ?_ ?_)
          · rcases hb with hb | hb <;> omega
          · rcases hb with hb | hb
            · omega
            · rintro e;exact hat ⟨by omega,by omega⟩
          · rcases hb with hb | hb <;> omega
          · rcases hb with hb | hb <;> omega
        · rcases hb with hb | hb
          · exact .inl hb
          · exact .inr ⟨by omega,hb.2⟩
        · refine World.cell?_of_block (far7 _ ?_)
          rcases hb with hb | hb <;> omega
      · exact TrsAt.keep _ _ _ _ (fun b h3 h4=>old7 b (by omega) (by rintro rfl;exact hat ⟨by omega,h4⟩) (by omega) (by omega)) Hq2.out
      · exact Hbx.out.keep (old7 w.heap.size (by omega) (Ne.symm hatne) (by omega) (by omega))
      · obtain⟨v0,v1,v2,v3,v4,v5,v6,hbr⟩:=Hb1x.out
        exact⟨_,_,_,_,_,_,_,hbr.keep (old7 (w.heap.size+1) (by omega) (by omega) (by omega) (by omega))⟩
      · have h3:=Hcn6.out.keep (far7 atb (Ne.symm hgat))
        rw [Hfl.out,← Nat.add_assoc]
        exact h3
     have Hfin:=Lib.hid hfin
     clear hfin hown7 hfr7 far7 hsz7
     go_simp
     go_wp2_with fail
     exact⟨Hfin.out,by simp [intOf];omega⟩
   · obtain rfl:i=p.parts.length:=by omega
     obtain⟨⟨x0,x1,x2,x3,x4,x5,x6⟩,_⟩:=id hbx
     obtain⟨r0,r1,r2,r3,r4,r5,r6,⟨y0,y1,y2,y3,y4,y5,y6⟩,yf⟩:=hb1x
     have hdr:rows.drop p.parts.length = []:=by
      rw [List.drop_of_length_le (Nat.le_refl _)] at htr
      exact htr.1
     rw [hdr,List.append_nil] at hown
     rw [List.take_length] at hpd hcn
     have Hown:=Lib.hid hown
     have Hpd:=Lib.hid hpd
     have Hcn:=Lib.hid hcn
     have Hfr:=Lib.hid hfr
     have Hdl:=Lib.hid hdl
     clear hown hpd hcn hfr hdl hdr htr hbx
     go_wp2_with fail
     have hbx9:=BoxF.set7 (w:=wr) (b:=w.heap.size+1) ⟨⟨y0,y1,y2,y3,y4,y5,y6⟩,yf⟩ (str p.type) (str p.cs) (str p.id) (str p.loc) (.int .i64 p.how) (.slice Ab x.length cb') (.slice A2 p.parts.length c2)
     have far9:∀ b,b≠w.heap.size+1→(((((((wr.setCell ⟨w.heap.size+1,0,none⟩ (str p.type)).setCell ⟨w.heap.size+1,1,none⟩ (str p.cs)).setCell ⟨w.heap.size+1,2,none⟩ (str p.id)).setCell ⟨w.heap.size+1,3,none⟩ (str p.loc)).setCell ⟨w.heap.size+1,4,none⟩ (.int .i64 p.how)).setCell ⟨w.heap.size+1,5,none⟩ (.slice Ab x.length cb')).setCell ⟨w.heap.size+1,6,none⟩ (.slice A2 p.parts.length c2)).heap[b]? = wr.heap[b]?:=by
      intro b hb
      simp only [World.setCell,Array.getElem?_modify]
      simp [Ne.symm hb]
     have hfr9:PutFr lo hi atb w (((((((wr.setCell ⟨w.heap.size+1,0,none⟩ (str p.type)).setCell ⟨w.heap.size+1,1,none⟩ (str p.cs)).setCell ⟨w.heap.size+1,2,none⟩ (str p.id)).setCell ⟨w.heap.size+1,3,none⟩ (str p.loc)).setCell ⟨w.heap.size+1,4,none⟩ (.int .i64 p.how)).setCell ⟨w.heap.size+1,5,none⟩ (.slice Ab x.length cb')).setCell ⟨w.heap.size+1,6,none⟩ (.slice A2 p.parts.length c2)):=
      ((((((Hfr.out.set (.inl (Nat.le_succ _)) _).set (.inl (Nat.le_succ _)) _).set (.inl (Nat.le_succ _)) _).set (.inl (Nat.le_succ _)) _).set (.inl (Nat.le_succ _)) _).set (.inl (Nat.le_succ _)) _).set (.inl (Nat.le_succ _)) _
     generalize (((((((wr.setCell ⟨w.heap.size+1,0,none⟩ (str p.type)).setCell ⟨w.heap.size+1,1,none⟩ (str p.cs)).setCell ⟨w.heap.size+1,2,none⟩ (str p.id)).setCell ⟨w.heap.size+1,3,none⟩ (str p.loc)).setCell ⟨w.heap.size+1,4,none⟩ (.int .i64 p.how)).setCell ⟨w.heap.size+1,5,none⟩ (.slice Ab x.length cb')).setCell ⟨w.heap.size+1,6,none⟩ (.slice A2 p.parts.length c2))=w9 at hbx9 far9 hfr9 ⊢
     obtain⟨c0,c1,c2',c3,c4,c5,c6⟩:=hbx9
     refine bodyPost_ret (v:=.agg #[str p.type,str p.cs,str p.id,str p.loc,.int .i64 p.how,.slice Ab x.length cb',.slice A2 p.parts.length c2]) (by simp [results,Tryz.results15,go_sem,c0,c1,c2',c3,c4,c5,c6]) rfl ?_
     have hkB:=HkeepB.out w9 hfr9
     have hgl2:=Hhlo2.out
     have hown9:=own_keep (w':=w9) Hown.out (fun g hg=>far9 g (by have:=hgl2 g hg;omega))
     have hpd9:=PartsAt.change (S':=fun b=>(L≤b∧b < B0)∨(lo≤b∧b < hi)) (w':=w9) (fun b hb=>by rcases hb with hb | hb;exact .inl hb;exact .inr ⟨by omega,by omega⟩) (fun b hb=>World.cell?_of_block (far9 _ (by rcases hb with hb | hb <;> omega))) _ _ Hpd.out
     have hbyb:SlS (fun b=>(L≤b∧b < B0)∨(lo≤b∧b < hi)) w9 1 Ab x.length (Lib.byteCells x):=by
      refine⟨Hbyb.out.1,fun hn=>?_⟩
      obtain⟨b1,o1,e1,e2,e3⟩:=Hbyb.out.2 hn
      exact⟨b1,o1,e1,.inl e2,fun j u hu=>(hkB _ e2.2).trans (e3 j u hu)⟩
     have hrow9:SlS (fun b=>(L≤b∧b < B0)∨(lo≤b∧b < hi)) w9 7 A2 p.parts.length (List.flatten done):=by
      have h0:=own_sls hown9
      refine⟨h0.1,fun hn=>?_⟩
      obtain⟨b1,o1,e1,e2,e3⟩:=h0.2 hn
      subst e1
      exact⟨b1,o1,rfl,.inr ⟨e2.1,by have:=hgl2 b1 rfl;omega⟩,e3⟩
     have hcn9:CntAt w9 atb (a+(flatD p).length):=by
      have:=Hcn.out.keep (far9 atb (by have:=Hcn.out.cell.2.2;omega))
      rw [Hfp.out,show a+((flatsD p.parts).length+1)=a+1+(flatsD p.parts).length by omega]
      exact this
     refine⟨_,rfl,?_,hcn9,hfr9⟩
     have hxx:=Hx.out
     have hbb:=Hbds.out
     have hhd:(bs.drop a).headD []=x:=by
      rw [hxx,List.headD_eq_head?_getD,List.head?_drop,List.getD_eq_getElem?_getD]
     have hdd:(bs.drop a).drop 1=bs.drop (a+1):=by rw [List.drop_drop]
     obtain⟨t,cs,id,loc,how,body,parts⟩:=p
     rw [putD,hhd,hdd]
     simp only at hpd9 hrow9 hbb ⊢
     exact⟨Ab,_,cb',A2,_,c2,done,rfl,hbb,hbyb,hbc1,hbc2,hrow9,hc2,hcm2,hpd9⟩
end Go.Proofs.YtlgbopjhmemaoaaGreatDoor
