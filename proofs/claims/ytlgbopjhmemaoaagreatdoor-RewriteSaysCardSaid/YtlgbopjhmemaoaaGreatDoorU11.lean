import Derived.Test.YtlgbopjhmemaoaaGreatDoorU2
import Derived.Test.YtlgbopjhmemaoaaGreatDoorU10
import Derived.Deep.CutRange
import Derived.Test.YtlgbopjhmemaoaaGreatDoorU7
import Derived.Lib.SlBytesConst
import Derived.Test.YtlgbopjhmemaoaaGreatDoorU1
import Derived.Test.YtlgbopjhmemaoaaGreatDoorRows
import Derived.ProofKit
import Derived.OpenShut
import Derived.ShutString
import Derived.ChangeOld
import Derived.Below
import Derived.Deep.Slices
import Derived.Deep.Fields
import Derived.Lib.SmallJoins
import Derived.Test.YtlgbopjhmemaoaaGreatDoorU3
import Derived.Test.YtlgbopjhmemaoaaGreatDoorCards
import Derived.Test.YtlgbopjhmemaoaaGreatDoorTie
import Derived.Deep.DeepHandedRow
import Derived.Lay
import Derived.Deep.DeepWitnessRowRef
import Derived.Shelf.Strings.CaseAny
import Derived.LaidSub
import Derived.LaidMore
import Derived.MakeChecks
import Derived.Lib.LaidU8T
import Derived.Test.YtlgbopjhmemaoaaGreatDoorU9
set_option maxRecDepth 100000
set_option maxHeartbeats 40000000
namespace Go.Proofs.YtlgbopjhmemaoaaGreatDoor
open Go.RowKit
theorem infoGoal:(Tryz.prog.info? 44).map (fun i=>(i.zero,i.size,i.bytes))=some (some (.agg #[.int .i64 0,.int .i64 0,.int .i64 0,.string ⟨#[]⟩,.string ⟨#[]⟩,.int .i64 0]),6,64):=by kernel_rfl
theorem findE_two2 (l:List UInt8):(findE l).2=0∨(findE l)=([],2):=by
 unfold findE
 split
 · exact .inr rfl
 · cases findB l with
   | none=>exact .inr rfl
   | some ls=>exact .inl rfl
theorem findL_len60 (n:Nat):∀ (f:Nat) (r:List UInt8) (out:List LinkD),out.length≤60→∀ ls,findL n f r out=some ls→ls.length≤60
 | 0,r,out,ho,ls,h=>by
  rw [findL] at h
  injection h with h
  exact h ▸ ho
 | f+1,r,out,ho,ls,h=>by
  rw [findL] at h
  split at h
  · injection h with h
    exact h ▸ ho
  · split at h
    · cases h
    · exact findL_len60 n f _ _ (by omega) ls h
theorem findE_len (l:List UInt8):(findE l).1.length≤60:=by
 unfold findE
 split
 · exact Nat.zero_le _
 · cases h:findB l with
   | none=>exact Nat.zero_le _
   | some ls=>exact findL_len60 _ _ _ _ (by simp) ls h
/-- A block that holds a goal. -/
def GB (w:World) (g:Nat) (x:GoalD):Prop:=w.heap[g]? = some (.cells (goalCells x).toArray 44 (0,0))
theorem GB.lt {w:World} {g:Nat} {x:GoalD} (h:GB w g x):g < w.heap.size:=by
 rcases Nat.lt_or_ge g w.heap.size with h' | h'
 · exact h'
 · unfold GB at h;rw [Array.getElem?_eq_none h'] at h;cases h
theorem GB.box {w:World} {g:Nat} {x:GoalD} (h:GB w g x):w.cell? ⟨g,0,none⟩=some (.int .i64 (x.part:Nat))∧w.cell? ⟨g,1,none⟩=some (.int .i64 (x.l.frm:Nat))∧w.cell? ⟨g,2,none⟩=some (.int .i64 (x.l.til:Nat))∧w.cell? ⟨g,3,none⟩=some (str x.l.text)∧w.cell? ⟨g,4,none⟩=some (str x.goal)∧w.cell? ⟨g,5,none⟩=some (.int .i64 x.find):=by
 unfold GB goalCells at h
 refine⟨?_,?_,?_,?_,?_,?_⟩ <;> (unfold World.cell?;rw [h];rfl)
theorem GB.fz {w:World} {g:Nat} {x:GoalD} (h:GB w g x):∀ i,w.frozen? ⟨g,i,none⟩=false:=by
 intro i
 unfold GB at h
 unfold World.frozen?
 rw [h]
 simp
theorem GB.below {w w':World} {g:Nat} {x:GoalD} (h:GB w g x) (hb:Below w.heap.size w w'):GB w' g x:=(hb.block g h.lt).trans h
theorem GB.set5 {w:World} {g:Nat} {x:GoalD} (h:GB w g x) (k:Int):GB (w.setCell ⟨g,5,none⟩ (.int .i64 k)) g { x with find:=k }:=by
 unfold GB at h ⊢
 simp only [World.setCell,Array.getElem?_modify,if_pos,h,Option.map_some]
 rfl
theorem GB.fill {w:World} {g:Nat} {z:GoalD} (h:GB w g z) (x:GoalD):GB ((((((w.setCell ⟨g,0,none⟩ (.int .i64 (x.part:Nat))).setCell ⟨g,1,none⟩ (.int .i64 (x.l.frm:Nat))).setCell ⟨g,2,none⟩ (.int .i64 (x.l.til:Nat))).setCell ⟨g,3,none⟩ (str x.l.text)).setCell ⟨g,4,none⟩ (str x.goal)).setCell ⟨g,5,none⟩ (.int .i64 x.find)) g x:=by
 unfold GB goalCells at h ⊢
 simp only [World.setCell,Array.getElem?_modify,if_pos,h,Option.map_some]
 rfl
theorem below_six {C:Nat} {w0 w:World} {b:Nat} (h:Below C w0 w) (hC:C≤b) (v0 v1 v2 v3 v4 v5:Value) (k0 k1 k2 k3 k4 k5:Nat):Below C w0 ((((((w.setCell ⟨b,k0,none⟩ v0).setCell ⟨b,k1,none⟩ v1).setCell ⟨b,k2,none⟩ v2).setCell ⟨b,k3,none⟩ v3).setCell ⟨b,k4,none⟩ v4).setCell ⟨b,k5,none⟩ v5):=
 (((((h.setCell hC _).setCell hC _).setCell hC _).setCell hC _).setCell hC _).setCell hC _
def GoRel2 (F:List PartD) (L:List (List UInt8)) (i m m3:Nat) (ff:List UInt8) (ls:List LinkD) (out:List GoalD) (S3:Option Addr) (w2 w3:World) (ov jv:Value) (wx:World):Prop:=
 ∃ (j m' c':Nat) (S':Option Addr) (out':List GoalD),jv = .int .i64 j∧j≤m3∧ov = .slice S' m' c'∧m'=out'.length∧m'=m+j∧Hid (out'=out ++ (ls.take j).map (goalOf F L i ff))∧wx.ownsRow w2.heap.size 44 6 (.slice S' m' c') m' (goalC out')∧Below w2.heap.size w2 wx ∧
  Sl wx w3.heap.size 3 S3 m3 (linkC ls)∧w3.heap.size≤wx.heap.size∧Apart S3 (.slice S' m' c')
theorem findF_bare:∀ (F:List PartD) (L:List (List UInt8)) (t:List UInt8) (i:Nat),findF (F.map bareD) L t i=findF F L t i
 | [],_,_,_=>by rw [List.map_nil]
 | x :: xs,[],t,i=>by rw [List.map_cons,findF,findF]
 | x :: xs,h :: hs,t,i=>by
  rw [List.map_cons,findF,findF,findF_bare xs hs t (i+1)]
  rfl
theorem goals_next {α β:Type} (f:α→β) (ls:List α) (j:Nat) (x:α) (h:ls.drop j=x :: ls.drop (j+1)) (out:List β):(out ++ (ls.take j).map f) ++ [f x]=out ++ (ls.take (j+1)).map f:=by
 have hj:j < ls.length:=by
  rcases Nat.lt_or_ge j ls.length with h' | h'
  · exact h'
  · rw [List.drop_eq_nil_of_le h'] at h;cases h
 have hx:ls[j]=x:=by rw [List.drop_eq_getElem_cons hj] at h;injection h
 rw [List.take_succ_eq_append_getElem hj,hx,List.map_append,List.append_assoc]
 rfl
def GoRel (n:Nat) (F0:List PartD) (W0:List (List UInt8)) (R:Option (List GoalD)) (_w w2:World) (av bv ov iv:Value) (wr:World):Prop:=
 ∃ (i m c:Nat) (S:Option Addr) (out:List GoalD),av = .slice none 0 0∧bv = .int .i64 0∧iv = .int .i64 i∧i≤n∧ov = .slice S m c∧m=out.length∧m≤i * 60∧wr.ownsRow w2.heap.size 44 6 (.slice S m c) m (goalC out)∧Below w2.heap.size w2 wr∧Hid (goalsF F0 W0 (F0.drop i) (W0.drop i) i out=R)
theorem Goals_any (p:PartD) (v:List Value) (w:World) (hM:MaxLenOk w) (hp:PartAt (· < w.heap.size) w p v) :
 Calls Tryz.prog 11 #[.agg v.toArray] w (GoalsOut p w):=by
 have hok:=checkD_ok p
 have hal:=fun W h=>All_any p v W h
 have hwh:=fun W hM h=>Where_any p v W hM h
 unfold AllOut at hal
 unfold WhereOut at hwh
 unfold GoalsOut
 obtain⟨R,hR⟩:∃ R,R=goalsE p:=⟨_,rfl⟩
 rw [← hR]
 unfold goalsE goalsD at hR
 have hwl:=whereD_len p
 have hws:=whereD_small p
 obtain⟨A,c,A2,c2,rfl,_⟩:=hp.open
 obtain⟨W,hW⟩:∃ W,W=w.alloc (.cells #[str p.type,str p.cs,str p.id,str p.loc,.int .i64 p.how,.slice A p.body.length c,.slice A2 p.parts.length c2] 25):=⟨_,rfl⟩
 have hbW:Below w.heap.size w W:=by rw [hW];exact(Below.refl _ w).alloc (Nat.le_refl _) _
 have hbx:Box7 W w.heap.size (str p.type) (str p.cs) (str p.id) (str p.loc) (.int .i64 p.how) (.slice A p.body.length c) (.slice A2 p.parts.length c2):=by rw [hW];exact Box7.new w _ _ _ _ _ _ _ _
 have Hal:=Lib.hid hal
 have Hwh:=Lib.hid hwh
 have Hp:=Lib.hid hp
 have HM:=Lib.hid hM
 clear hal hwh hp hM
 generalize checkD p=K at *
 generalize whereD p=L at *
 generalize flatD p=F at *
 by_cases hK:K=0
 · subst hK
   simp only [if_true] at Hal Hwh hR
   obtain⟨h12,hch⟩:=hok rfl
   have hbod:∀ q∈F,q.body.length≤4000:=fun q hq=>chk_body q (hch q hq)
   have Hbod:=Lib.hid hbod
   obtain⟨n,hn⟩:∃ n,n=F.length:=⟨_,rfl⟩
   rw [← hn] at Hal Hwh h12 hwl
   have HR:=Lib.hid hR
   have Hn:=Lib.hid hn
   have Hwl:=Lib.hid hwl
   have Hws:=Lib.hid hws
   clear hok hch hbod hR hn hwl hws
   obtain⟨i0,hi0,hz0,hz1,hz2⟩:=info_parts infoGoal
   have HI0:=Lib.hid (And.intro hi0 (And.intro hz0 (And.intro hz1 hz2)))
   clear hi0 hz0 hz1 hz2
   go_enter Tryz.func11,Tryz.ntmps11
   go_wp2_with fail
   rw [← hW]
   clear hW
   refine(Hal.out W ((Hp.out.below hbW).more hbW.size)).mono ?_
   rintro e w1 ⟨S1,c1',rfl,hs1,hc1,hm1,hb1⟩
   have hbel1:=hbW.trans (hb1.mono hbW.size)
   have hbx1:=hbx.below hb1
   have⟨x0,x1,x2,x3,x4,x5,x6⟩:=hbx1
   clear hbx hbx1 hb1 hbW Hal
   go_wp2_with fail
   refine(Hwh.out w1 (HM.out.below hbel1) ((Hp.out.below hbel1).more hbel1.size)).mono ?_
   rintro e w2 ⟨S2,c2',rfl,hs2,hc2,hm2,hb2⟩
   have hbel2:=hbel1.trans (hb2.mono hbel1.size)
   have hs1b:=(hs1.below hb2).more hb2.size
   clear hs1 hb2 x0 x1 x2 x3 x4 x5 x6 Hwh
   unfold maxLen at hm1 hm2
   have Hs1:=Lib.hid hs1b
   have Hs2:=Lib.hid hs2
   have Hbel2:=Lib.hid hbel2
   clear hs1b hs2 hbel2 hbel1
   go_wp2_with fail
   obtain⟨RR,hRR⟩:∃ RR,RR=goalsF F L F L 0 []:=⟨_,rfl⟩
   have HRR:=Lib.hid hRR
   clear hRR
   go_loopw [2,3,8,32] (GoRel n F L RR w w2) (fun _ _ _ iv _=>n - (intOf iv).toNat)
   case atStart=>exact⟨0,0,0,none,[],rfl,rfl,rfl,Nat.zero_le _,rfl,rfl,Nat.zero_le _,World.ownsRow_nil _ _ _ _,Below.refl _ _,Lib.hid (by rw [List.drop_zero,List.drop_zero];exact HRR.out.symm)⟩
   case round =>
    obtain⟨i,m,c,S,out,rfl,rfl,rfl,hi,rfl,hm,hm60,hown,hbel,HS⟩:=hrel
    have Hm:=Lib.hid hm
    clear hm
    by_cases hin:i < n
    · obtain⟨b,off,q1,A',n',c',A2',n2',c2'',hS1,hbS,hq1,hqa,y0,y1,y2,y3,y4,y5,y6⟩:=(Hs1.out.below hbel).cells7 hin
      subst hS1
      have hqd:∃ q,F.drop i=q :: F.drop (i+1)∧q1=bareD q∧q∈F:=by
       have hiF:i < F.length:=by rw [← Hn.out];exact hin
       have h1:=List.drop_eq_getElem_cons (l:=F) (i:=i) hiF
       rw [← List.map_drop,h1,List.map_cons] at hq1
       injection hq1 with hq1 _
       exact⟨_,h1,hq1.symm,List.getElem_mem _⟩
      obtain⟨q,hq,hqq,hqm⟩:=hqd
      have hbody:=Hbod.out q hqm
      subst hqq
      have hby:By wr w2.heap.size A' q.body.length q.body∧n'=q.body.length∧q.body.length≤c'∧c'≤maxLen:=by
       obtain⟨A3,c3,A4,c4,hv,_,hb3,hc3,hm3,_⟩:=hqa.open
       simp only [List.cons.injEq,and_true] at hv
       obtain⟨_,_,_,_,_,h5,_⟩:=hv
       injection h5 with h5 h6 h7
       subst h5
       subst h7
       exact⟨hb3.sl,h6,hc3,hm3⟩
      obtain⟨hby,rfl,hbc,hbm⟩:=hby
      obtain⟨bt,offt,u,hS2,hbt,hu,hcu⟩:=Hs2.out.at_ hin
      subst hS2
      have hiL:i < L.length:=by rw [Hwl.out];exact hin
      have hdL:=List.drop_eq_getElem_cons (l:=L) (i:=i) hiL
      rw [List.getElem?_map,List.getElem?_eq_getElem hiL] at hu
      injection hu with hu
      have hsl:=Hws.out _ (List.getElem_mem hiL)
      obtain⟨h,hh⟩:∃ h,h=L[i]:=⟨_,rfl⟩
      rw [← hh] at hdL hu hsl
      subst hu
      have hstep:(if q.type=htmlB then (if (findE q.body).2=0 then goalsF F L (F.drop (i+1)) (L.drop (i+1)) (i+1) (out ++ (findE q.body).1.map (goalOf F L i (fromG h))) else none) else goalsF F L (F.drop (i+1)) (L.drop (i+1)) (i+1) out)=RR:=by
       have:=HS.out
       rw [hq,hdL,goalsF] at this
       exact this
      have Hstep:=Lib.hid hstep
      have Hhs:=Lib.hid hsl
      simp only [bareD] at y0 y1 y2 y3 y4 y5 y6
      clear hstep hq hqm hdL hh HS hq1 hqa hsl
      go_upto_region 9 with fail
      obtain⟨W1,hW1⟩:∃ W1,W1=wr.alloc (.cells #[str q.type,str q.cs,str q.id,str q.loc,.int .i64 q.how,.slice A' q.body.length c',.slice A2' n2' c2''] 25):=⟨_,rfl⟩
      have hbA:Below wr.heap.size wr W1:=by rw [hW1];exact(Below.refl _ _).alloc (Nat.le_refl _) _
      have hX:=Box7.new wr 25 (str q.type) (str q.cs) (str q.id) (str q.loc) (.int .i64 q.how) (.slice A' q.body.length c') (.slice A2' n2' c2'')
      have hown1:=own_below hown hbA
      rw [← hW1] at hX
      rw [← hW1]
      clear hW1
      have⟨x0,x1,x2,x3,x4,x5,x6⟩:=hX
      have hbel1:=hbel.trans (hbA.mono hbel.size)
      have hby1:=(hby.below (hbA.mono hbel.size)).more hbel1.size
      clear y0 y1 y2 y3 y4 y5 y6 hbA hX hbel hown hby
      by_cases ht:q.type=htmlB
      · have ht1:(q.type == [116,101,120,116,47,104,116,109,108])=true:=by rw [ht];rfl
        have hFn:=Find_any A' q.body.length c' q.body W1 (HM.out.below (Hbel2.out.trans (hbel1.mono Hbel2.out.size))) hby1 hbc hbm
        have HFn:=Lib.hid hFn
        have Ht:=Lib.hid ht
        clear hFn ht hby1
        go_wp2_with fail
        refine HFn.out.mono ?_
        rintro e w3 ⟨S3,c3,rfl,hown3,hb3⟩
        have hlk:=findE_text q.body
        have h2:=findE_two2 q.body
        have hbel3:=hbel1.trans (hb3.mono hbel1.size)
        have hown3b:=own_below hown1 hb3
        have hown1s:=Lib.hid hown1
        have hst:=Hstep.out
        rw [if_pos Ht.out] at hst
        have hl60:=findE_len q.body
        generalize findE q.body=T at *
        obtain⟨ls,fe⟩:=T
        simp only at hown3 h2 hlk hst hl60 ⊢
        have Hlk:=Lib.hid hlk
        have Hown3b:=Lib.hid hown3b
        clear x0 x1 x2 x3 x4 x5 x6 HFn hlk hb3 hown1 hown3b
        by_cases he:fe=0
        · subst he
          rw [if_pos rfl] at hst
          have Hst:=Lib.hid hst
          clear hst h2
          obtain⟨m3,hm3⟩:∃ m3,m3=ls.length:=⟨_,rfl⟩
          rw [← hm3] at hown3 hl60
          have z0:w3.cell? ⟨bt,offt+i,none⟩=some (str h):=by rw [hbel3.cell (by exact hbt)];exact hcu
          have hap0:Apart S3 (.slice S m c):=by
           intro b off e
           subst e
           intro e2
           have h1:=(hown3.lt b rfl).1
           have h2:=(hown1s.out.lt b e2).2
           omega
          have Hap:=Lib.hid hap0
          clear hap0
          have Hl3:=Lib.hid hown3
          have Hm3:=Lib.hid hm3
          rw [← hm3]
          clear hown3 hm3
          obtain⟨ff,hff⟩:∃ ff,ff=fromG h:=⟨_,rfl⟩
          have hffl:ff.length≤605:=by
           rw [hff]
           unfold fromG
           split
           · decide
           · exact Hhs.out
          rw [← hff] at Hst
          have Hff:=Lib.hid hff
          clear hff
          obtain⟨bb,hbb⟩:∃ bb,bb=(h == []):=⟨_,rfl⟩
          have hbr:=hbb.symm
          have Hbb:=Lib.hid hbb
          clear hbb
          go_upto_if 54 with (fail)
          clear hbr
          go_cut [13] (fun s13 wx=>s13=str ff∧w3=wx)
          case first =>
           have hf:=Hff.out
           have hbb:=Hbb.out
           unfold fromG at hf
           by_cases hh:h = []
           · rw [if_pos hh] at hf
             obtain rfl:bb=true:=by rw [hbb,hh];rfl
             have Hf:=Lib.hid hf
             have Hh:=Lib.hid hh
             clear hh hf hbb
             go_wp2_with fail
             go_meet
             exact⟨by rw [Hf.out];rfl,rfl⟩
           · rw [if_neg hh] at hf
             obtain rfl:bb=false:=by rw [hbb];simpa using hh
             have Hf:=Lib.hid hf
             have Hh:=Lib.hid hh
             clear hh hf hbb
             go_wp2_with fail
             go_meet
             exact⟨by rw [Hf.out],rfl⟩
          case rest =>
           obtain⟨rfl,rfl⟩:=hcut
           go_wp2_with fail
           go_loopw [8,57] (GoRel2 F L i m m3 ff ls out S3 w2 w3) (fun _ jv _=>m3 - (intOf jv).toNat)
           case atStart=>exact⟨0,m,c,S,out,rfl,Nat.zero_le _,rfl,Hm.out,rfl,Lib.hid (by simp),Hown3b.out,hbel3,Sl.of_own Hl3.out,Nat.le_refl _,Hap.out⟩
           case round =>
            obtain⟨j,m',c',S',out',rfl,hj,rfl,hm',hmj,HO,hown',hbelx,hsl3,hsz3,hap⟩:=hrel
            have Hm':=Lib.hid hm'
            have Hmj:=Lib.hid hmj
            have Hsl3:=Lib.hid hsl3
            have Hap':=Lib.hid hap
            clear hm' hmj hsl3 hap
            by_cases hjm:j < m3
            · obtain⟨bl,offl,x,hS3,hbl,hdl,l0,l1,l2⟩:=Sl.link Hsl3.out j hjm
              subst hS3
              have hxm:x∈ls:=List.mem_of_mem_drop (by rw [hdl];simp)
              have hxt:=Hlk.out x hxm
              have k0:=l0
              have k1:=l1
              have k2:=l2
              have Hdl:=Lib.hid hdl
              clear l0 l1 l2 hxm hdl
              go_upto_region 19 with fail
              obtain⟨W3,hW3⟩:∃ W3,W3=wr.alloc (.cells #[.int .i64 (x.frm:Nat),.int .i64 (x.til:Nat),str x.text] 42):=⟨_,rfl⟩
              have hbA:Below wr.heap.size wr W3:=by rw [hW3];exact(Below.refl _ _).alloc (Nat.le_refl _) _
              have hxb:W3.heap[wr.heap.size]? = some (.cells #[.int .i64 (x.frm:Nat),.int .i64 (x.til:Nat),str x.text] 42):=by rw [hW3];exact heap_alloc_new wr _
              rw [← hW3]
              clear hW3
              have hbl3:wr.heap.size < W3.heap.size:=by
               rcases Nat.lt_or_ge wr.heap.size W3.heap.size with h' | h'
               · exact h'
               · rw [Array.getElem?_eq_none h'] at hxb;cases hxb
              have c0:W3.cell? ⟨wr.heap.size,0,none⟩=some (.int .i64 (x.frm:Nat)):=by unfold World.cell?;rw [hxb];rfl
              have c1:W3.cell? ⟨wr.heap.size,1,none⟩=some (.int .i64 (x.til:Nat)):=by unfold World.cell?;rw [hxb];rfl
              have c2:W3.cell? ⟨wr.heap.size,2,none⟩=some (str x.text):=by unfold World.cell?;rw [hxb];rfl
              clear k0 k1 k2 hxb
              have KL:=Lib.hid (fun X (hx:MaxLenOk X)=>Led_any ff x.text X hx (by unfold maxLen;omega) (by unfold maxLen;omega))
              have hLLn:(ledB ff x.text).length≤605:=ledB_len _ _
              obtain⟨LL,hLL⟩:∃ LL,LL=ledB ff x.text:=⟨_,rfl⟩
              rw [← hLL] at KL hLLn
              have HLL:=Lib.hid hLL
              clear hLL
              have hM3:MaxLenOk W3.drew:=HM.out.below (Hbel2.out.trans ((hbelx.trans (hbA.mono hbelx.size)).mono Hbel2.out.size)).drew
              go_cut [16] from 61 to 67 (fun s16 wx=>∃ gbl,s16 = .pointer (some ⟨gbl,0,none⟩)∧wr.heap.size≤gbl∧GB wx gbl ⟨i,x,LL,-1⟩∧Below wr.heap.size wr wx)
              case first =>
               have hS:(fun W':World=>W'.cell? ⟨wr.heap.size,0,none⟩=some (.int .i64 (x.frm:Nat))∧W'.cell? ⟨wr.heap.size,1,none⟩=some (.int .i64 (x.til:Nat))∧W'.cell? ⟨wr.heap.size,2,none⟩=some (str x.text)) (World.drew W3):=⟨c0,c1,c2⟩
               refine wp_region_held (S:=(fun W':World=>W'.cell? ⟨wr.heap.size,0,none⟩=some (.int .i64 (x.frm:Nat))∧W'.cell? ⟨wr.heap.size,1,none⟩=some (.int .i64 (x.til:Nat))∧W'.cell? ⟨wr.heap.size,2,none⟩=some (str x.text))) (by kernel_rfl) ?_
               change wpAnyH _ _ _ _ _ _ _ _ (World.drew W3)
               refine tkH (i:=0) (v:=?_) rfl ?_ hS ?_
               rotate_left 1
               · intro W' hb';go_simp;try exact rfl
               refine tkH (i:=1) (v:=?_) rfl ?_ hS ?_
               rotate_left 1
               · intro W' hb';have q0:=hb'.1;have q1:=hb'.2.1;have q2:=hb'.2.2;go_simp;try exact rfl
               refine tkH (i:=2) (v:=?_) rfl ?_ hS ?_
               rotate_left 1
               · intro W' hb';go_simp;try exact rfl
               refine tkH (i:=3) (v:=?_) rfl ?_ hS ?_
               rotate_left 1
               · intro W' hb';go_simp;try exact rfl
               refine tkH (i:=4) (v:=?_) rfl ?_ hS ?_
               rotate_left 1
               · intro W' hb';have q0:=hb'.1;have q1:=hb'.2.1;have q2:=hb'.2.2;go_simp;try exact rfl
               refine wpAnyH_all (rs:=[5,7]) (by kernel_rfl) (by simp) ?_
               intro kk hkk
               simp only [List.mem_cons,List.not_mem_nil,or_false] at hkk
               rcases hkk with rfl | rfl
               · go_simp
                 refine wpOp_callF rfl (by kernel_rfl) 31 #[str ff,str x.text] (by go_simp;try rfl) _ _ (KL.out _ hM3) ?_
                 intro wd hbc
                 have hblc:wr.heap.size < wd.heap.size:=Nat.lt_of_lt_of_le hbl3 hbc.size
                 have hS:=And.intro ((hbc.cell (p:=⟨wr.heap.size,0,none⟩) hbl3).trans c0) (And.intro ((hbc.cell (p:=⟨wr.heap.size,1,none⟩) hbl3).trans c1) ((hbc.cell (p:=⟨wr.heap.size,2,none⟩) hbl3).trans c2))
                 have hSc:=hS
                 refine⟨hS,?_⟩
                 refine tkH (i:=6) (v:=?_) rfl ?_ hS ?_
                 rotate_left 1
                 · intro W' hb';go_simp;try exact rfl
                 refine wpAnyH_all (rs:=[7]) (by kernel_rfl) (by simp) ?_
                 intro kk hkk
                 simp only [List.mem_singleton] at hkk
                 subst hkk
                 go_simp
                 refine wpOp_runv rfl (by kernel_rfl) (.pointer (some ⟨wd.heap.size,0,none⟩)) (wd.alloc (.cells #[.int .i64 0,.int .i64 0,.int .i64 0,.string ⟨#[]⟩,.string ⟨#[]⟩,.int .i64 0] 44)) (by go_simp) ?_
                 have hS:=And.intro ((World.cell?_alloc_lt wd (.cells #[.int .i64 0,.int .i64 0,.int .i64 0,.string ⟨#[]⟩,.string ⟨#[]⟩,.int .i64 0] 44) ⟨wr.heap.size,0,none⟩ hblc).trans hS.1) (And.intro ((World.cell?_alloc_lt wd (.cells #[.int .i64 0,.int .i64 0,.int .i64 0,.string ⟨#[]⟩,.string ⟨#[]⟩,.int .i64 0] 44) ⟨wr.heap.size,1,none⟩ hblc).trans hS.2.1) ((World.cell?_alloc_lt wd (.cells #[.int .i64 0,.int .i64 0,.int .i64 0,.string ⟨#[]⟩,.string ⟨#[]⟩,.int .i64 0] 44) ⟨wr.heap.size,2,none⟩ hblc).trans hS.2.2))
                 refine⟨hS,?_⟩
                 refine wpAnyH_all (rs:=[8]) (by kernel_rfl) (by simp) ?_
                 intro kk hkk
                 simp only [List.mem_singleton] at hkk
                 subst hkk
                 go_simp
                 have hbcg:=(Below.refl wd.heap.size wd).alloc (Nat.le_refl _) (.cells #[.int .i64 (i:Nat),.int .i64 (x.frm:Nat),.int .i64 (x.til:Nat),str x.text,str LL,.int .i64 (-1)] 44)
                 have gb:GB (wd.alloc (.cells #[.int .i64 (i:Nat),.int .i64 (x.frm:Nat),.int .i64 (x.til:Nat),str x.text,str LL,.int .i64 (-1)] 44)) wd.heap.size ⟨i,x,LL,-1⟩:=heap_alloc_new wd _
                 refine wpOp_store rfl (by kernel_rfl) (wd.alloc (.cells #[.int .i64 (i:Nat),.int .i64 (x.frm:Nat),.int .i64 (x.til:Nat),str x.text,str LL,.int .i64 (-1)] 44)) (by go_simp;try rfl) ?_
                 have hS:=And.intro ((World.cell?_alloc_lt wd (.cells #[.int .i64 (i:Nat),.int .i64 (x.frm:Nat),.int .i64 (x.til:Nat),str x.text,str LL,.int .i64 (-1)] 44) ⟨wr.heap.size,0,none⟩ hblc).trans hSc.1) (And.intro ((World.cell?_alloc_lt wd (.cells #[.int .i64 (i:Nat),.int .i64 (x.frm:Nat),.int .i64 (x.til:Nat),str x.text,str LL,.int .i64 (-1)] 44) ⟨wr.heap.size,1,none⟩ hblc).trans hSc.2.1) ((World.cell?_alloc_lt wd (.cells #[.int .i64 (i:Nat),.int .i64 (x.frm:Nat),.int .i64 (x.til:Nat),str x.text,str LL,.int .i64 (-1)] 44) ⟨wr.heap.size,2,none⟩ hblc).trans hSc.2.2))
                 refine⟨hS,?_⟩
                 refine wpAnyH_done (by kernel_rfl) ?_ _
                 have hbyB:Below wr.heap.size wr (wd.alloc (.cells #[.int .i64 (i:Nat),.int .i64 (x.frm:Nat),.int .i64 (x.til:Nat),str x.text,str LL,.int .i64 (-1)] 44)):=hbA.drew.trans ((hbc.trans (hbcg.mono hbc.size)).mono hbA.size)
                 have Hfin:=Lib.hid (And.intro (Nat.le_of_lt hblc) (And.intro gb hbyB))
                 clear gb hbyB hbcg hS hSc
                 go_simp
                 go_wp2_with fail
                 go_meet
                 exact⟨_,rfl,Hfin.out⟩
               · go_simp
                 refine wpOp_runv rfl (by kernel_rfl) (.pointer (some ⟨W3.heap.size,0,none⟩)) ((World.drew W3).alloc (.cells #[.int .i64 0,.int .i64 0,.int .i64 0,.string ⟨#[]⟩,.string ⟨#[]⟩,.int .i64 0] 44)) (by go_simp;try rfl) ?_
                 have hS:=And.intro ((World.cell?_alloc_lt (World.drew W3) (.cells #[.int .i64 0,.int .i64 0,.int .i64 0,.string ⟨#[]⟩,.string ⟨#[]⟩,.int .i64 0] 44) ⟨wr.heap.size,0,none⟩ hbl3).trans hS.1) (And.intro ((World.cell?_alloc_lt (World.drew W3) (.cells #[.int .i64 0,.int .i64 0,.int .i64 0,.string ⟨#[]⟩,.string ⟨#[]⟩,.int .i64 0] 44) ⟨wr.heap.size,1,none⟩ hbl3).trans hS.2.1) ((World.cell?_alloc_lt (World.drew W3) (.cells #[.int .i64 0,.int .i64 0,.int .i64 0,.string ⟨#[]⟩,.string ⟨#[]⟩,.int .i64 0] 44) ⟨wr.heap.size,2,none⟩ hbl3).trans hS.2.2))
                 have gb:GB ((World.drew W3).alloc (.cells #[.int .i64 0,.int .i64 0,.int .i64 0,.string ⟨#[]⟩,.string ⟨#[]⟩,.int .i64 0] 44)) W3.heap.size ⟨0,⟨0,0,[]⟩,[],0⟩:=heap_alloc_new (World.drew W3) _
                 have hbB:Below wr.heap.size wr ((World.drew W3).alloc (.cells #[.int .i64 0,.int .i64 0,.int .i64 0,.string ⟨#[]⟩,.string ⟨#[]⟩,.int .i64 0] 44)):=hbA.drew.alloc hbA.size _
                 have hM4:MaxLenOk ((World.drew W3).alloc (.cells #[.int .i64 0,.int .i64 0,.int .i64 0,.string ⟨#[]⟩,.string ⟨#[]⟩,.int .i64 0] 44)):=hM3.below ((Below.refl _ _).alloc (Nat.le_refl _) _)
                 refine⟨hS,?_⟩
                 generalize (World.drew W3).alloc (.cells #[.int .i64 0,.int .i64 0,.int .i64 0,.string ⟨#[]⟩,.string ⟨#[]⟩,.int .i64 0] 44)=W4 at hS gb hbB hM4 ⊢
                 have hbl4:wr.heap.size < W4.heap.size:=Nat.lt_trans hbl3 gb.lt
                 refine wpAnyH_all (rs:=[5]) (by kernel_rfl) (by simp) ?_
                 intro kk hkk
                 simp only [List.mem_singleton] at hkk
                 subst hkk
                 go_simp
                 refine wpOp_callF rfl (by kernel_rfl) 31 #[str ff,str x.text] (by go_simp;try rfl) _ _ (KL.out _ hM4) ?_
                 intro wd hbc
                 have hS:=And.intro ((hbc.cell (p:=⟨wr.heap.size,0,none⟩) hbl4).trans hS.1) (And.intro ((hbc.cell (p:=⟨wr.heap.size,1,none⟩) hbl4).trans hS.2.1) ((hbc.cell (p:=⟨wr.heap.size,2,none⟩) hbl4).trans hS.2.2))
                 have gbd:=gb.below hbc
                 have hbD:=hbB.trans (hbc.mono hbB.size)
                 refine⟨hS,?_⟩
                 refine tkH (i:=6) (v:=?_) rfl ?_ hS ?_
                 rotate_left 1
                 · intro W' hb';go_simp;try exact rfl
                 refine wpAnyH_all (rs:=[8]) (by kernel_rfl) (by simp) ?_
                 intro kk hkk
                 simp only [List.mem_singleton] at hkk
                 subst hkk
                 go_simp
                 have⟨g0,g1,g2,g3,g4,g5⟩:=gbd.box
                 have f0:=gbd.fz 0
                 have f1:=gbd.fz 1
                 have f2:=gbd.fz 2
                 have f3:=gbd.fz 3
                 have f4:=gbd.fz 4
                 have f5:=gbd.fz 5
                 have hfar:∀ (X:World) (k k':Nat) (u:Value),(X.setCell ⟨W3.heap.size,k,none⟩ u).cell? ⟨wr.heap.size,k',none⟩=X.cell? ⟨wr.heap.size,k',none⟩:=fun X k k' u=>World.cell?_setCell_other _ _ _ _ (by intro e;injection e with e;omega)
                 have Hfar:=Lib.hid hfar
                 clear hfar
                 refine wpOp_store rfl (by kernel_rfl) ((((((wd.setCell ⟨W3.heap.size,0,none⟩ (.int .i64 (i:Nat))).setCell ⟨W3.heap.size,1,none⟩ (.int .i64 (x.frm:Nat))).setCell ⟨W3.heap.size,2,none⟩ (.int .i64 (x.til:Nat))).setCell ⟨W3.heap.size,3,none⟩ (str x.text)).setCell ⟨W3.heap.size,4,none⟩ (str LL)).setCell ⟨W3.heap.size,5,none⟩ (.int .i64 (-1))) (by go_simp;try rfl) ?_
                 clear g0 g1 g2 g3 g4 g5 f0 f1 f2 f3 f4 f5
                 have hF:=Hfar.out
                 refine⟨⟨by rw [hF,hF,hF,hF,hF,hF];exact hS.1,by rw [hF,hF,hF,hF,hF,hF];exact hS.2.1,by rw [hF,hF,hF,hF,hF,hF];exact hS.2.2⟩,?_⟩
                 clear hF
                 refine wpAnyH_done (by kernel_rfl) ?_ _
                 have hf1:=gbd.fill ⟨i,x,LL,-1⟩
                 have hf2:=below_six hbD (Nat.le_of_lt hbl3) (.int .i64 (i:Nat)) (.int .i64 (x.frm:Nat)) (.int .i64 (x.til:Nat)) (str x.text) (str LL) (.int .i64 (-1)) 0 1 2 3 4 5
                 simp only at hf1
                 have Hfin:=Lib.hid (And.intro (Nat.le_of_lt hbl3) (And.intro hf1 hf2))
                 clear hf1 hf2 hS
                 go_simp
                 go_wp2_with fail
                 go_meet
                 exact⟨_,rfl,Hfin.out⟩
              case rest =>
               obtain⟨gbl,rfl,hgw,gb,hbyB⟩:=hcut
               obtain⟨bb2,hbb2⟩:∃ b,b=(LL == []):=⟨_,rfl⟩
               have hbr2:=hbb2.symm
               have Hbb2:=Lib.hid hbb2
               have Hgb:=Lib.hid gb
               have HbyB:=Lib.hid hbyB
               have HownX:=Lib.hid hown'
               have Hbelx:=Lib.hid hbelx
               have⟨g0,g1,g2,g3,g4,g5⟩:=gb.box
               clear hbb2 gb hown' c0 c1 c2 KL hM3
               go_upto_if 70 with (fail)
               clear hbr2 g0 g1 g2 g3 g4 g5
               go_cut [] from 68 to 76 (fun wx=>GB wx gbl (goalOf F L i ff x)∧Below wr.heap.size wr wx)
               case first =>
                have hll:=HLL.out
                have hbb2:=Hbb2.out
                by_cases hl0:LL = []
                · obtain rfl:bb2=true:=by rw [hbb2,hl0];rfl
                  have hg:goalOf F L i ff x=⟨i,x,LL,-1⟩:=by unfold goalOf;rw [← hll,if_pos hl0]
                  have Hg:=Lib.hid hg
                  clear hg hl0 hll hbb2
                  go_wp2_with fail
                  go_meet
                  rw [Hg.out]
                  exact⟨Hgb.out,HbyB.out⟩
                · obtain rfl:bb2=false:=by rw [hbb2];simpa using hl0
                  have hg:goalOf F L i ff x=⟨i,x,LL,findG F L LL⟩:=by unfold goalOf;rw [← hll,if_neg hl0]
                  have hbely:=Hbelx.out.trans (HbyB.out.mono Hbelx.out.size)
                  have KN:=find_any n c1' c2' (some ⟨b,off,none⟩) (some ⟨bt,offt,none⟩) (F.map bareD) L LL wc ((Hs1.out.below hbely).more hbely.size) ((Sl.below Hs2.out hbely).more hbely.size) (by omega) (by unfold maxLen;omega) Hws.out
                  rw [show findG (F.map bareD) L LL=findG F L LL from findF_bare _ _ _ _] at KN
                  obtain⟨fd,hfd⟩:∃ fd,fd=findG F L LL:=⟨_,rfl⟩
                  rw [← hfd] at KN hg
                  have Hg:=Lib.hid hg
                  have⟨g0,g1,g2,g3,g4,g5⟩:=Hgb.out.box
                  have KNh:=Lib.hid KN
                  clear hg hl0 hfd KN hll hbb2 hbely
                  go_wp2_with fail
                  refine KNh.out.mono ?_
                  rintro e wf ⟨rfl,hbf⟩
                  have gbf:=Hgb.out.below hbf
                  have gfz:=gbf.fz 5
                  clear g0 g1 g2 g3 g4 g5
                  have⟨_,_,_,_,_,g5⟩:=gbf.box
                  have gb5:=gbf.set5 fd
                  have hbz5:=(HbyB.out.trans (hbf.mono HbyB.out.size)).setCell (p:=⟨gbl,5,none⟩) hgw (.int .i64 fd)
                  simp only at gb5
                  have Hfin:=Lib.hid (And.intro gb5 hbz5)
                  clear gb5 hbz5 gbf hbf
                  go_wp2_with fail
                  go_meet
                  rw [Hg.out]
                  exact Hfin.out
               case rest =>
                obtain⟨gb,hbyB⟩:=hcut
                have hown4:wc.ownsRow w2.heap.size 44 6 (.slice S' m' c') m' (goalC out'):=own_below HownX.out hbyB
                have hbel4:=hbelx.trans (hbyB.mono hbelx.size)
                have hsl4:=(Sl.below Hsl3.out (hbyB.mono hsz3))
                have hsz4:=Nat.le_trans hsz3 hbyB.size
                obtain⟨gx,hgx⟩:∃ gx,gx=goalOf F L i ff x:=⟨_,rfl⟩
                rw [← hgx] at gb
                have Hgx:=Lib.hid hgx
                have⟨g0,g1,g2,g3,g4,g5⟩:=gb.box
                have hone:∀ u∈goalCells gx,u.oneCell'=true:=by
                 intro u hu
                 exact goalC_one [gx] u (by simpa [goalC] using hu)
                have Hone:=Lib.hid hone
                have hmb:m'≤800:=by have:=Hmj.out;omega
                have h63:m'+1≤maxLen:=by unfold maxLen;omega
                have h47:(m'+1) * 64≤140737488355328:=by omega
                have hbase:w2.heap.size≤wc.heap.size:=hbel4.size
                have Hown4:=Lib.hid hown4
                have Hsl4:=Lib.hid hsl4
                have Hbel4:=Lib.hid hbel4
                obtain⟨hi0,hz0,hz1,hz2⟩:=HI0.out
                clear hgx hone HownX hown4 hsl4 hbel4 hbelx hbyB gb
                go_upto_region 22 with fail
                go_wp2_with (at_builtin;refine wpList_app2 rfl _ _ 36 rfl w2.heap.size 44 i0 _ 6 64 Tryz.underlying36 hi0 hz0 hz1 hz2 rfl (by decide) S' m' c' (goalC out') rfl (Hown4.out.alloc _) _ _ 1 1 (goalCells gx) rfl (Sl.row _ _ 6 1 _ rfl) Hone.out h63 h47 ?c2 ?_)
                case c2=>simp;omega
                intro S5 c5 w5 hown5 hb5 hgr5 hat5
                have hal:=Hsl4.out.alloc hsz4 (.cells (goalCells gx).toArray 44)
                have hsl5:=Sl.grown2 hal (by simp;omega) hgr5 Hap'.out
                have hap5:=Apart.next Hap'.out hal (by simp;omega) (by omega) (by rw [World.size_alloc];exact hat5)
                have hbel5:=(Hbel4.out.alloc hbase (.cells (goalCells gx).toArray 44)).trans hb5
                have hsz5:w3.heap.size≤w5.heap.size:=by
                 have:=hgr5.size
                 simp at this
                 omega
                rw [show goalC out' ++ goalCells gx=goalC (out' ++ [gx]) from by rw [goalC_app];simp [goalC]] at hown5
                have Hfin:=Lib.hid (And.intro hown5 (And.intro hbel5 (And.intro hsl5 (And.intro hsz5 hap5))))
                clear hown5 hbel5 hsl5 hap5 hal hb5 hgr5 hat5 g0 g1 g2 g3 g4 g5 hi0 hz0 hz1 hz2
                go_wp2_with fail
                obtain⟨e1,e2,e3,e4,e5⟩:=Hfin.out
                refine⟨⟨j+1,m'+1,c5,S5,out' ++ [gx],by go_num,by omega,rfl,by simp [Hm'.out],by have:=Hmj.out;omega,Lib.hid ?_,e1,e2,e3,e4,e5⟩,by simp [intOf];omega⟩
                rw [HO.out,Hgx.out]
                exact goals_next _ ls j x Hdl.out out
            · obtain rfl:j=m3:=by omega
              have hbelx':=Lib.hid hbelx
              have HownX:=Lib.hid hown'
              clear hbelx hown'
              go_wp2_with fail
              refine⟨⟨i+1,m',c',S',out',rfl,rfl,by go_num,by omega,rfl,Hm'.out,by have:=Hmj.out;omega,HownX.out,hbelx'.out,Lib.hid ?_⟩,by simp [intOf];omega⟩
              have h1:=HO.out
              rw [List.take_of_length_le (by rw [← Hm3.out];exact Nat.le_refl _)] at h1
              rw [h1]
              exact Hst.out
        · have hfe:ls = []∧fe=2:=by rcases h2 with h2 | h2;exact absurd h2 he;injection h2 with h2 h3;exact⟨h2,h3⟩
          obtain⟨rfl,rfl⟩:=hfe
          rw [if_neg (by decide)] at hst
          have Hst:=Lib.hid hst
          clear hst h2 he
          go_wp2_with fail
          go_ret2
          have hr:=HR.out
          rw [← HRR.out,← Hst.out] at hr
          rw [hr]
          exact⟨none,0,rfl,World.ownsRow_nil _ _ _ _,Hbel2.out.trans (hbel3.mono Hbel2.out.size)⟩
      · have ht1:(q.type == [116,101,120,116,47,104,116,109,108])=false:=by simpa [htmlB] using ht
        have hst:=Hstep.out
        rw [if_neg ht] at hst
        have Hst:=Lib.hid hst
        have Hown:=Lib.hid hown1
        clear hst ht hown1
        go_wp2_with fail
        exact⟨⟨i+1,m,c,S,out,rfl,rfl,by go_num,by omega,rfl,Hm.out,by omega,Hown.out,hbel1,Hst⟩,by simp [intOf];omega⟩
    · obtain rfl:i=n:=by omega
      have hfin:=HS.out
      rw [List.drop_eq_nil_of_le (by rw [← Hn.out];exact Nat.le_refl _),goalsF] at hfin
      have Hfin:=Lib.hid hfin
      have Hown:=Lib.hid hown
      have Hbel:=Lib.hid hbel
      clear hfin hown hbel HS
      go_wp2_with fail
      go_ret2
      have hr:=HR.out
      rw [← HRR.out,← Hfin.out] at hr
      rw [hr]
      obtain rfl:=Hm.out
      have hb:=Hbel2.out
      exact⟨_,_,rfl,own_base Hown.out hb.size,hb.trans (Hbel.out.mono hb.size)⟩
 · have hK1:((K:Int) != 0)=true:=by simp;omega
   simp only [if_neg hK] at Hal hR
   have HR:=Lib.hid hR
   clear hok hK hR
   go_enter Tryz.func11,Tryz.ntmps11
   go_wp2_with fail
   rw [← hW]
   clear hW
   refine(Hal.out W ((Hp.out.below hbW).more hbW.size)).mono ?_
   rintro e w1 ⟨S1,c1,rfl,hs1,hc1,hm1,hb1⟩
   have hbel1:=hbW.trans (hb1.mono hbW.size)
   clear hbx hb1 hbW Hal hs1
   go_wp2_with fail
   go_ret2
   rw [HR.out]
   exact⟨none,0,rfl,World.ownsRow_nil _ _ _ _,hbel1⟩
def pageD:PartD:={ type:=[116,101,120,116,47,104,116,109,108],cs:=[117,116,102,45,56],id:=[],loc:=[],how:=2,body:=[60,97,32,104,114,101,102,61,39,99,39,62,60,105,109,103,32,83,82,67,61,99,105,100,58,120,62,60,97,32,104,114,101,102,61,35,100,62],parts:=[] }
def pictD:PartD:={ type:=[105,109,97,103,101,47,112,110,103],cs:=[],id:=[120],loc:=[99],how:=1,body:=[1,2,3],parts:=[] }
def smallD:PartD:={ type:=[109,117,108,116,105,112,97,114,116,47,114,101,108,97,116,101,100],cs:=[],id:=[],loc:=[104,116,116,112,58,47,47,104,47,97,47,98],how:=0,body:=[],parts:=[pageD,pictD] }
theorem sl_block {w:World} {g n size:Nat} {t:TypeId} {fr:Nat × Nat} (xs:List Value) (hg:w.heap[g]? = some (.cells xs.toArray t fr)) (hl:xs.length=n * size):SlS (· < w.heap.size) w size (some ⟨g,0,none⟩) n xs:=
 Sl.of_block hg hl (fun j u hu=>by rw [Nat.zero_add];simpa using hu)
theorem leaf_at {w:World} (p:PartD) (hp:p.parts = []) (A:Option Addr) (c:Nat) (hb:SlS (· < w.heap.size) w 1 A p.body.length (Lib.byteCells p.body)) (hc:p.body.length≤c) (hm:c≤1000) (h1:p.type.length≤1000) (h2:p.cs.length≤1000) (h3:p.id.length≤1000) (h4:p.loc.length≤1000) (h5:0≤p.how) (h6:p.how≤2) :
 PartAt (· < w.heap.size) w p [str p.type,str p.cs,str p.id,str p.loc,.int .i64 p.how,.slice A p.body.length c,.slice none 0 0]:=by
 obtain⟨t,cs,id,loc,how,body,parts⟩:=p
 simp only at hp hb hc h1 h2 h3 h4 h5 h6
 subst hp
 refine⟨A,_,c,none,0,0,[],rfl,?_,hb,hc,by unfold maxLen;omega,⟨rfl,fun h=>absurd h (by omega)⟩,Nat.le_refl _,Nat.zero_le _,rfl⟩
 unfold maxLen
 omega
def SmallRes (w:World) (e:Ending) (w':World):Prop:=∃ v:List Value,e = .returned (.agg v.toArray)∧PartAt (· < w'.heap.size) w' smallD v∧Below w.heap.size w w'
theorem smallP_any (w:World):Calls Tryz.prog 23 #[] w (SmallRes w):=by
 have kc:∀ (w:World) (o:Obj) (C:Array Value) (n c:Nat),(convert 22 22 (.slice (some ⟨w.heap.size+1,0,none⟩) n c)).run Tryz.prog ((w.alloc o).alloc (.cells C 5)) = .ok (.slice (some ⟨w.heap.size+1,0,none⟩) n c) ((w.alloc o).alloc (.cells C 5 (C.size,C.size+1))):=by
  intro w o C n c
  have:=Lib.run_convert_bytes_const (P:=Tryz.prog) (w.alloc o) 22 5 C n c Tryz.underlying22 Tryz.underlying5
  simpa using this
 go_enter Tryz.func23,Tryz.ntmps23
 go_wp2_with fail
 generalize hW:((((w.alloc _).alloc _).alloc _).alloc _:World)=W
 have hb:Below w.heap.size w W:=by
  rw [← hW]
  exact((((Below.refl _ w).alloc (Nat.le_refl _) _).alloc (by simp) _).alloc (by simp <;> omega) _).alloc (by simp <;> omega) _
 have hsz:W.heap.size=w.heap.size+4:=by rw [← hW];simp
 have g0:W.heap[w.heap.size]? = some (.cells #[str smallD.type,str smallD.cs,str smallD.id,str smallD.loc,.int .i64 0,.slice none 0 0,.slice (some ⟨w.heap.size+1+1+1,0,none⟩) 2 2] 25):=by
  rw [← hW,Lib.alloc_old _ _ _ (by simp <;> omega),Lib.alloc_old _ _ _ (by simp <;> omega),Lib.alloc_old _ _ _ (by simp)]
  exact heap_alloc_new w _
 have g1:W.heap[w.heap.size+1]? = some (.cells (Lib.byteCells pageD.body).toArray 5 (38,39)):=by
  rw [← hW,Lib.alloc_old _ _ _ (by simp <;> omega),Lib.alloc_old _ _ _ (by simp)]
  have:=fun o=>heap_alloc_new (w.alloc o)
  simp only [World.size_alloc] at this
  exact this _ _
 have g2:W.heap[w.heap.size+1+1]? = some (.cells (Lib.byteCells pictD.body).toArray 5):=by
  rw [← hW,Lib.alloc_old _ _ _ (by simp)]
  have:=fun o o'=>heap_alloc_new ((w.alloc o).alloc o')
  simp only [World.size_alloc] at this
  exact this _ _ _
 have g3:W.heap[w.heap.size+1+1+1]? = some (.cells ([[str pageD.type,str pageD.cs,str pageD.id,str pageD.loc,.int .i64 2,.slice (some ⟨w.heap.size+1,0,none⟩) 38 38,.slice none 0 0],[str pictD.type,str pictD.cs,str pictD.id,str pictD.loc,.int .i64 1,.slice (some ⟨w.heap.size+1+1,0,none⟩) 3 3,.slice none 0 0]]:List (List Value)).flatten.toArray 25):=by
  rw [← hW]
  have:=fun o o' o''=>heap_alloc_new (((w.alloc o).alloc o').alloc o'')
  simp only [World.size_alloc] at this
  exact this _ _ _ _
 clear hW
 have h1:=leaf_at pageD rfl _ 38 (sl_block (n:=38) _ g1 rfl) (by decide) (by omega) (by decide) (by decide) (by decide) (by decide) (by decide) (by decide)
 have h2:=leaf_at pictD rfl _ 3 (sl_block (n:=3) _ g2 rfl) (by decide) (by omega) (by decide) (by decide) (by decide) (by decide) (by decide) (by decide)
 obtain⟨c0,c1,c2,c3,c4,c5,c6⟩:=(BoxF.of_block g0).1
 refine bodyPost_ret (v:=.agg #[str smallD.type,str smallD.cs,str smallD.id,str smallD.loc,.int .i64 0,.slice none 0 0,.slice (some ⟨w.heap.size+1+1+1,0,none⟩) 2 2]) (by simp [results,Tryz.results23,go_sem,c0,c1,c2,c3,c4,c5,c6]) rfl ⟨[str smallD.type,str smallD.cs,str smallD.id,str smallD.loc,.int .i64 0,.slice none 0 0,.slice (some ⟨w.heap.size+1+1+1,0,none⟩) 2 2],rfl,?_,hb⟩
 exact⟨none,0,0,_,2,2,_,rfl,by refine⟨?_,?_,?_,?_,?_,?_⟩ <;> decide,⟨rfl,fun h=>absurd h (by omega)⟩,Nat.le_refl _,Nat.zero_le _,sl_block (n:=2) (size:=7) _ g3 rfl,Nat.le_refl _,by unfold maxLen;omega,⟨_,_,rfl,h1,_,_,rfl,h2,rfl⟩⟩
theorem Sl.goal {w:World} {B n:Nat} {A:Option Addr} {gs:List GoalD} (h:Sl w B 6 A n (goalC gs)) (i:Nat) (hi:i < n) :
 ∃ b off x,A=some ⟨b,off,none⟩∧b < B∧gs[i]? = some x∧∀ k u,(goalCells x)[k]? = some u→w.cell? ⟨b,off+(i * 6+k),none⟩=some u:=by
 obtain⟨b,off,hA,hb,hc⟩:=h.2 (by omega)
 have hl:gs.length=n:=by have:=h.1;rw [goalC_len] at this;omega
 have hil:i < gs.length:=by omega
 have hd:=List.drop_eq_getElem_cons hil
 have hsplit:goalC gs=goalC (gs.take i) ++ goalC (gs.drop i):=by rw [← goalC_app,List.take_append_drop]
 refine⟨b,off,gs[i],hA,hb,List.getElem?_eq_getElem hil,fun k u hu=>hc _ u ?_⟩
 have hk:k < 6:=by
  rcases Nat.lt_or_ge k 6 with h' | h'
  · exact h'
  · rw [List.getElem?_eq_none (by simpa [goalCells] using h')] at hu;cases hu
 have e:(goalC (gs.take i)).length=i * 6:=by rw [goalC_len,List.length_take,Nat.min_eq_left (by omega)]
 rw [hsplit,List.getElem?_append_right (by omega),e,Nat.add_sub_cancel_left,hd]
 show(goalC (gs[i] :: gs.drop (i+1)))[k]? = _
 rw [show goalC (gs[i] :: gs.drop (i+1))=goalCells gs[i] ++ goalC (gs.drop (i+1)) from rfl,List.getElem?_append_left (by simpa [goalCells] using hk)]
 exact hu
theorem goalsF_len (F0:List PartD) (W0:List (List UInt8)):∀ (F:List PartD) (W:List (List UInt8)) (i:Nat) (out G:List GoalD),goalsF F0 W0 F W i out=some G→G.length≤out.length+60 * F.length
 | [],_,i,out,G,h=>by
  rw [goalsF] at h
  injection h with h
  subst h
  simp
 | _ :: _,[],i,out,G,h=>by
  rw [goalsF] at h
  injection h with h
  subst h
  omega
 | x :: xs,s :: ss,i,out,G,h=>by
  rw [goalsF] at h
  rw [List.length_cons]
  split at h
  · split at h
    · have h1:=goalsF_len F0 W0 xs ss (i+1) _ G h
      have h2:=findE_len x.body
      rw [List.length_append,List.length_map] at h1
      omega
    · cases h
  · have h1:=goalsF_len F0 W0 xs ss (i+1) out G h
    omega
theorem Sl.goal6 {w:World} {B n:Nat} {A:Option Addr} {gs:List GoalD} (h:Sl w B 6 A n (goalC gs)) (i:Nat) (hi:i < n) :
 ∃ b off x,A=some ⟨b,off,none⟩∧b < B∧gs[i]? = some x∧w.cell? ⟨b,off+i * 6,none⟩=some (.int .i64 (x.part:Nat))∧w.cell? ⟨b,off+i * 6+1,none⟩=some (.int .i64 (x.l.frm:Nat))∧w.cell? ⟨b,off+i * 6+2,none⟩=some (.int .i64 (x.l.til:Nat)) ∧
  w.cell? ⟨b,off+i * 6+3,none⟩=some (str x.l.text)∧w.cell? ⟨b,off+i * 6+4,none⟩=some (str x.goal)∧w.cell? ⟨b,off+i * 6+5,none⟩=some (.int .i64 x.find):=by
 obtain⟨b,off,x,hA,hb,hx,hc⟩:=Sl.goal h i hi
 exact⟨b,off,x,hA,hb,hx,hc 0 _ rfl,hc 1 _ rfl,hc 2 _ rfl,hc 3 _ rfl,hc 4 _ rfl,hc 5 _ rfl⟩
end Go.Proofs.YtlgbopjhmemaoaaGreatDoor
namespace Go.Proofs.YtlgbopjhmemaoaaGreatDoor
open Go.ChangeShapes Go.WideShapes Go.ChangeAt Go.RowKit
open Go.ChangeMaps (open_string shut_string)
theorem own:ownKnob Tryz.prog.godebug=none:=by kernel_rfl
theorem laidOut:laidOutB Tryz.prog=true:=by kernel_rfl
/-- What the walk is told of a slice of integers that came in. -/
def IsRow (k:IntKind) (w:World) (a:Option Addr) (len cap:Nat) (zs:List Int):Prop:=
 (a=none∧len=0∧cap=0∧zs = []) ∨
 ∃ x,a=some x∧len≤cap∧cap≤maxLen∧zs.length=cap∧(∀ i,i < zs.length→w.cell? (x.add i)=some (.int k (zs.getD i 0)))∧∀ n∈zs,(Lit.int k n).wf=true
theorem cell_lt {w:World} {a:Addr} {v:Value} (h:w.cell? a=some v):a.block < w.heap.size:=by
 rcases Nat.lt_or_ge a.block w.heap.size with h' | h'
 · exact h'
 · simp [World.cell?,Array.getElem?_eq_none h'] at h
/-- A slice of bytes that came in, as a list of bytes. -/
theorem IsRow.toBy {w:World} {a:Option Addr} {len cap:Nat} {zs:List Int} (h:IsRow .u8 w a len cap zs):∃ l,By w w.heap.size a len l∧len≤cap∧cap≤maxLen:=by
 rcases h with ⟨rfl,rfl,rfl,rfl⟩ | ⟨x,rfl,hl,hm,hz,hcell,hwf⟩
 · exact⟨[],By.nil_ _ _ _,Nat.le_refl _,Nat.zero_le _⟩
 · refine⟨(zs.take len).map fun z=>UInt8.ofNat z.toNat,⟨by simp [Lib.byteCells];omega,fun h0=>?_⟩,hl,hm⟩
   obtain⟨b,off,rfl,hc⟩:=ints_at hcell (by omega)
   refine⟨b,off,rfl,?_,fun j u hu=>?_⟩
   · exact cell_lt (hc 0 (by omega))
   · have hj:j < len:=by
      rcases Nat.lt_or_ge j len with h' | h'
      · exact h'
      · rw [List.getElem?_eq_none (by simp [Lib.byteCells];omega)] at hu;cases hu
     have hjz:j < zs.length:=by omega
     rw [hc j hjz]
     have hmem:zs[j]∈zs:=List.getElem_mem hjz
     have hb:=bounds_u8 (hwf _ hmem)
     have e:((UInt8.ofNat zs[j].toNat).toNat:Int)=zs[j]:=by rw [UInt8.toNat_ofNat'];omega
     have e2:(Lib.byteCells ((zs.take len).map fun z=>UInt8.ofNat z.toNat))[j]? = some (.int .u8 ((UInt8.ofNat zs[j].toNat).toNat:Int)):=by
      simp [Lib.byteCells,hj,hjz]
     rw [e2] at hu
     rw [← hu,e]
     simp [List.getD,hjz]
end Go.Proofs.YtlgbopjhmemaoaaGreatDoor
namespace Go.Proofs.YtlgbopjhmemaoaaGreatDoor
open Go.ChangeShapes Go.WideShapes Go.ChangeAt Go.RowKit Go.Deep
theorem partStruct:Tryz.prog.cellsOf 25=7:=by kernel_rfl
theorem cell_lt' {w:World} {b o:Nat} {v:Value} (h:w.cell? ⟨b,o,none⟩=some v):b < w.heap.size:=cell_lt (a:=⟨b,o,none⟩) h
theorem plain_at {w:World} {a:Addr} {v:Value} (h:w.cell? (a.add 0)=some v):∃ b off,a=⟨b,off,none⟩:=by
 obtain⟨b,off,spot⟩:=a
 have hspot:spot=none:=by
  simpa [Addr.add] using World.cell?_spot h
 subst hspot
 exact⟨b,off,rfl⟩
section
variable {H:Type} {enc:TypeId × Value→H} {w:World} {base:Nat} {held:Bool}
theorem part_of_trod:∀ (k fuel:Nat) (cs:List Value) (x:DataW H × List MemPlace),fuel≤k→DataW.trod enc Tryz.prog w base (fun _=>true) held fuel 25 cs=some x→∃ p,PartAt (· < w.heap.size) w p cs:=by
 intro k
 induction k with
 | zero =>
  intro fuel cs x hk h
  have:fuel=0:=by omega
  subst this
  simp [DataW.trod] at h
 | succ k ih =>
  intro fuel cs x hk h
  obtain⟨xs,n,hfu,_,hl,hxl,hf⟩:=DataW.trod_struct Tryz.underlying25 h
  rw [partStruct] at hl
  match cs,hl with
  | [c0,c1,c2,c3,c4,c5,c6],_ =>
   match xs,hxl with
   | [x0,x1,x2,x3,x4,x5,x6],_ =>
    have h0:DataW.trod enc Tryz.prog w base (fun _=>true) held n 9 [c0]=some x0:=hf 0 _ rfl
    have h1:DataW.trod enc Tryz.prog w base (fun _=>true) held n 9 [c1]=some x1:=hf 1 _ rfl
    have h2:DataW.trod enc Tryz.prog w base (fun _=>true) held n 9 [c2]=some x2:=hf 2 _ rfl
    have h3:DataW.trod enc Tryz.prog w base (fun _=>true) held n 9 [c3]=some x3:=hf 3 _ rfl
    have h4:DataW.trod enc Tryz.prog w base (fun _=>true) held n 3 [c4]=some x4:=hf 4 _ rfl
    have h5:DataW.trod enc Tryz.prog w base (fun _=>true) held n 22 [c5]=some x5:=hf 5 _ rfl
    have h6:DataW.trod enc Tryz.prog w base (fun _=>true) held n 23 [c6]=some x6:=hf 6 _ rfl
    obtain⟨s0,e0,_,b0⟩:=DataW.trod_string Tryz.underlying9 h0
    obtain⟨s1,e1,_,b1⟩:=DataW.trod_string Tryz.underlying9 h1
    obtain⟨s2,e2,_,b2⟩:=DataW.trod_string Tryz.underlying9 h2
    obtain⟨s3,e3,_,b3⟩:=DataW.trod_string Tryz.underlying9 h3
    obtain⟨i4,e4,_,b4⟩:=DataW.trod_int Tryz.underlying3 h4
    simp only [List.cons.injEq,and_true] at e0 e1 e2 e3 e4
    subst e0 e1 e2 e3 e4
    obtain⟨hlo,hhi⟩:=bounds_i64 b4
    have hby:∃ A n c l,c5 = .slice A n c∧By w w.heap.size A n l∧n≤c∧c≤maxLen:=by
     rcases open_ints Tryz.underlying22 Tryz.underlying5 (by kernel_rfl) h5 with ⟨hcs,_⟩ | ⟨y,l,c,zs,hcs,_,hl,hm,hz,_,hcell,hwz⟩
     · simp only [List.cons.injEq,and_true] at hcs
       exact⟨none,0,0,[],hcs,By.nil_ _ _ _,Nat.le_refl _,Nat.zero_le _⟩
     · simp only [List.cons.injEq,and_true] at hcs
       have hr:IsRow .u8 w (some y) l c zs:=.inr ⟨y,rfl,hl,hm,by simpa using hz,hcell,hwz⟩
       obtain⟨bl,hb,hle,hmx⟩:=hr.toBy
       exact⟨some y,l,c,bl,hcs,hb,hle,hmx⟩
    have hps:∃ A n c ps rows,c6 = .slice A n c∧SlS (· < w.heap.size) w 7 A n rows.flatten∧PartsAt (· < w.heap.size) w ps rows∧n≤c∧c≤maxLen:=by
     rcases DataW.trod_slice Tryz.underlying23 h6 with ⟨hcs,_⟩ | ⟨a,len,cap,elems,rest,n',hfu',hcs,_,hb,hl,hm,hlen,hel,hsp,hns⟩
     · simp only [List.cons.injEq,and_true] at hcs
       exact⟨none,0,0,[],[],hcs,⟨rfl,fun h=>absurd h (by omega)⟩,rfl,Nat.le_refl _,Nat.zero_le _⟩
     · simp only [List.cons.injEq,and_true] at hcs
       have hone:∀ i,i < len→∃ (q:PartD × List Value),w.cells? base (a.add (i * 7)) 7=some q.2∧PartAt (· < w.heap.size) w q.1 q.2:=by
        intro i hi
        have h1:=hel i hi
        rw [partStruct,List.getElem?_eq_getElem (by omega)] at h1
        obtain⟨cs',hc',ht'⟩:=Option.bind_eq_some_iff.1 h1
        obtain⟨p,hp⟩:=ih n' cs' _ (by omega) ht'
        exact⟨(p,cs'),hc',hp⟩
       haveI:Inhabited (PartD × List Value):=⟨(⟨[],[],[],[],0,[],[]⟩,[])⟩
       obtain⟨f,hfp⟩:=choose_lt hone
       refine⟨some a,len,cap,(List.range len).map (fun i=>(f i).1),(List.range len).map (fun i=>(f i).2),hcs,?_,?_,hl,hm⟩
       · have h7:∀ r∈(List.range len).map (fun i=>(f i).2),r.length=7:=by
          intro r hr
          obtain⟨i,hi,rfl⟩:=List.mem_map.1 hr
          exact(hfp i (List.mem_range.1 hi)).2.row
         refine⟨by rw [flat7_len _ h7];simp,fun h0=>?_⟩
         obtain⟨_,hl0,hat0⟩:=World.cells?_some (hfp 0 h0).1
         have hx0:=hat0 0 (by omega)
         rw [List.getElem?_eq_getElem (by omega)] at hx0
         obtain⟨b,off,hab⟩:∃ b off,a=⟨b,off,none⟩:=by
          have e:(a.add (0 * 7)).add 0=a.add 0:=by rw [Go.Deep.add_add]
          rw [e] at hx0
          exact plain_at hx0
         subst hab
         refine⟨b,off,rfl,?_,fun j u hu=>?_⟩
         · have e:((⟨b,off,none⟩:Addr).add (0 * 7)).add 0=⟨b,off,none⟩:=by rw [Go.Deep.add_add];simp [Addr.add]
           rw [e] at hx0
           exact cell_lt' hx0
         · have hj:j < len * 7:=by
            rcases Nat.lt_or_ge j (len * 7) with h | h
            · exact h
            · rw [List.getElem?_eq_none (by rw [flat7_len _ h7];simp;omega)] at hu;cases hu
           have hi:j / 7 < len:=by omega
           have hjj:j=j / 7 * 7+j % 7:=by omega
           obtain⟨_,hli,hati⟩:=World.cells?_some (hfp (j / 7) hi).1
           have hx:=hati (j % 7) (by omega)
           rw [Go.Deep.add_add,← hjj] at hx
           rw [hjj,flat7_at _ h7 (j / 7) (j % 7) (f (j / 7)).2 (by simp [hi]) (by omega)] at hu
           rw [hu] at hx
           have e:(⟨b,off,none⟩:Addr).add j=⟨b,off+j,none⟩:=Go.WideShapes.add_plain ..
           rw [e] at hx
           exact hx
       · refine PartsAt.mk _ _ (by simp) fun i hi=>?_
         have hi':i < len:=by simpa using hi
         refine⟨(f i).2,by simp [hi'],?_⟩
         simpa using (hfp i hi').2
    obtain⟨A,n1,c1',l,rfl,hb1,hb2,hb3⟩:=hby
    obtain⟨A2,n2,c2',ps,rows,rfl,hp1,hp2,hp3,hp4⟩:=hps
    exact⟨⟨s0.data.toList,s1.data.toList,s2.data.toList,s3.data.toList,i4,l,ps⟩,A,n1,c1',A2,n2,c2',rows,rfl,⟨b0,b1,b2,b3,hlo,hhi⟩,hb1,hb2,hb3,hp1,hp3,hp4,hp2⟩
theorem open_part {r:Reach} {b0:Nat} {v:Value} {d:DataW H} {pl:List MemPlace} (hv:Value.okWide Tryz.prog w r b0 25 v) (h:DataW.Trod enc Tryz.prog w base (fun _=>true) held 25 v d pl):∃ p cs,v = .agg cs.toArray∧PartAt (· < w.heap.size) w p cs:=by
 obtain⟨cs,rfl,hsz⟩:=okWide_struct Tryz.underlying25 hv
 obtain⟨l⟩:=cs
 obtain⟨fuel,hf⟩:=h
 obtain⟨p,hp⟩:=part_of_trod fuel fuel _ _ (Nat.le_refl _) hf
 exact⟨p,l,rfl,hp⟩
end
end Go.Proofs.YtlgbopjhmemaoaaGreatDoor
namespace Go.Proofs.YtlgbopjhmemaoaaGreatDoor
open Go.ChangeShapes Go.WideShapes Go.ChangeAt Go.RowKit
theorem maxLen_of_shaped {W:World} (h:W.ShapedOpen Tryz.prog):MaxLenOk W:=Go.Proofs.Tryz.laysM219.s1_3 W h
end Go.Proofs.YtlgbopjhmemaoaaGreatDoor
namespace Go.Proofs.YtlgbopjhmemaoaaGreatDoor
open Go.RowKit
/-- What the package variables of the library's decoder hold. -/
def U8Ok (w:World):Prop:=Lib.Utf8Tabs 1 2 w
theorem U8Ok.below {w w':World} (h:U8Ok w) (hb:Below w.heap.size w w'):U8Ok w':=Utf8Tabs_below h hb
theorem U8Ok.drewN {w:World} (h:U8Ok w) (n:Nat):U8Ok (w.drewN n):=h
def lowR (x:Int):Int:=if 65≤x∧x≤90 then x+32 else x
theorem lowR_byte:∀ i:Fin 128,Lib.encodeRune (lowR (i.val:Int)) = [lowB (UInt8.ofNat i.val)]:=by decide
theorem mapD_low:∀ (l:List UInt8),(∀ b∈l,b.toNat < 128)→Lib.mapD lowR l=lowL l
 | [],_=>rfl
 | b :: t,ha=>by
  have hb:=ha b List.mem_cons_self
  have ih:=mapD_low t (fun x hx=>ha x (List.mem_cons_of_mem _ hx))
  rw [Lib.mapD_step lowR (b :: t) (by simp),Lib.decodeL_ascii b t hb]
  dsimp only
  have h0:0≤lowR (b.toNat:Int):=by unfold lowR;split <;> omega
  rw [if_pos h0,lowR_byte ⟨b.toNat,hb⟩,List.drop_succ_cons,List.drop_zero,ih]
  simp [lowL]
theorem small1_any (x:Nat) (hx:x≤1114111) (w:World):Calls Tryz.prog 129 #[.int .i32 (x:Int)] w fun e w'=>e = .returned (.int .i32 (lowR x))∧w'=w:=by
 unfold lowR
 by_cases h1:(65:Int)≤x
 · by_cases h2:(x:Int)≤90
   · have i1:IntKind.i32.wrap ((x:Int)+32)=(x:Int)+32:=by rw [IntKind.wrap_i32];omega
     go_enter Tryz.func129,Tryz.ntmps129
     go_wp2_with fail
     go_ret
     exact⟨rfl,rfl⟩
   · go_enter Tryz.func129,Tryz.ntmps129
     go_wp2_with fail
     go_ret
     exact⟨rfl,rfl⟩
 · go_enter Tryz.func129,Tryz.ntmps129
   go_wp2_with fail
   go_ret
   exact⟨rfl,rfl⟩
theorem Small_ascii (l:List UInt8) (w:World) (hl:l.length≤1000000) (ha:∀ b∈l,b.toNat < 128) (hT:U8Ok w) :
 Calls Tryz.prog 77 #[str l] w fun e w'=>e = .returned (str (lowL l))∧Below w.heap.size w w':=by
 have h:=Go.Proofs.Tryz.strings_Map_runes 129 #[] (enters_of Tryz.func129 (by kernel_rfl) rfl) lowR ⟨l.toArray⟩ w (by simp [ByteArray.size];omega)
  (fun W x hx _=>(small1_any x hx W).mono fun e w' ⟨h1,h2⟩=>⟨h1,0,h2⟩) (fun x hx=>by unfold lowR;split <;> omega) hT
 rw [show(⟨l.toArray⟩:ByteArray).data.toList=l from rfl,mapD_low l ha] at h
 have H:=Lib.hid h
 clear h
 go_enter Tryz.func77,Tryz.ntmps77
 go_wp2_with fail
 refine H.out.mono ?_
 rintro e w1 ⟨rfl,hb⟩
 go_wp2_with fail
 go_ret
 exact⟨rfl,hb⟩
end Go.Proofs.YtlgbopjhmemaoaaGreatDoor
namespace Go.Proofs.YtlgbopjhmemaoaaGreatDoor
open Go.ChangeShapes Go.WideShapes Go.ChangeAt Go.RowKit
def u8Names (x : String × DataW Unit) : Bool := x.1 == "unicode/utf8.first" || x.1 == "unicode/utf8.acceptRanges"
/-- What a row's laid table gives. -/
theorem u8Ok_of_laid {W : World} {laid : List (String × DataW Unit)} (h : laidMetH Tryz.prog laid W) (e : laid.filter u8Names = [("unicode/utf8.acceptRanges", Lib.acceptData), ("unicode/utf8.first", Lib.firstData)]) : U8Ok W := by
 have h1:=h.filter u8Names
 rw [e,MakeChecks.laidMetH_plain _ _ _ (by kernel_rfl)] at h1
 exact utf8Tabs_of_readsT (U8Types.of260 Go.Proofs.Tryz.lays260) ⟨by kernel_rfl,by kernel_rfl,by kernel_rfl,by kernel_rfl,by kernel_rfl,by kernel_rfl,by kernel_rfl⟩ (Lib.laidMet.reads h1 (.tail _ (.head _))) (Lib.laidMet.reads h1 (.head _))
end Go.Proofs.YtlgbopjhmemaoaaGreatDoor
namespace Go.Proofs.YtlgbopjhmemaoaaGreatDoor
open Go.RowKit
theorem findF_range:∀ (F:List PartD) (L:List (List UInt8)) (t:List UInt8) (i:Nat),-1≤findF F L t i∧findF F L t i < ((i+F.length:Nat):Int)
 | [],_,t,i=>by rw [findF];omega
 | _ :: _,[],t,i=>by rw [findF];omega
 | x :: xs,h :: hs,t,i=>by
  rw [findF]
  have:=findF_range xs hs t (i+1)
  rw [List.length_cons]
  split <;> omega
end Go.Proofs.YtlgbopjhmemaoaaGreatDoor
namespace Go.Proofs.YtlgbopjhmemaoaaGreatDoor
theorem no60 {b:List UInt8} (h:b.any (fun c=>c == 60)=false):∀ x∈b,pIs 60 x.toNat=false:=by
 intro x hx
 have:=List.any_eq_false.1 h x hx
 simp only [beq_iff_eq] at this
 simp only [pIs,beq_eq_false_iff_ne]
 intro e
 exact this (UInt8.toNat_inj.1 e)
theorem pcs_step (r:List UInt8) (h:r≠[]):pcs r=prep (stopT (pIs 60) r) (catP (stepP (stopD (pIs 60) r)).1 (pcs (stepP (stopD (pIs 60) r)).2)):=by
 have h1:=pcs_find r (r.length+1) (by omega)
 have hlt:=stepP_round r h
 unfold findP at h1
 rw [if_neg h,pcs_find _ r.length (by omega)] at h1
 exact(Option.some.inj h1).symm
theorem pcs_nil:pcs []=raw []:=rfl
theorem pcs_ahead (b c:List UInt8) (h:b.any (fun c=>c == 60)=false):pcs (b ++ c)=prep b (pcs c):=by
 have hb:=no60 h
 have hp:=stopD_pre (pIs 60) b c hb
 by_cases hbc:b ++ c = []
 · have h1:b = []:=by cases b with | nil=>rfl | cons a b=>simp at hbc
   subst h1
   rw [List.nil_append]
   rfl
 · rw [pcs_step _ hbc,hp.1,hp.2]
   by_cases hc:c = []
   · subst hc
     rw [pcs_nil]
     have e:stopD (pIs 60) [] = []:=rfl
     have e2:stopT (pIs 60) [] = []:=rfl
     rw [e,e2,stepP_nil,pcs_nil]
     simp [prep,catP,catL,raw]
   · rw [pcs_step c hc]
     simp [prep]
end Go.Proofs.YtlgbopjhmemaoaaGreatDoor
