import Derived.Test.YtlgbopjhmemaoaaGreatDoorU25
import Derived.Deep.RegionHeld
import Derived.Test.YtlgbopjhmemaoaaGreatDoorU11
import Derived.Test.YtlgbopjhmemaoaaGreatDoorU12
set_option maxRecDepth 100000
set_option maxHeartbeats 40000000
namespace Go.Proofs.YtlgbopjhmemaoaaGreatDoor
open Go.RowKit
theorem boxes2 (w:World) (v0 v1 v2 v3 v4 v5 v6 u0 u1 u2 u3 u4 u5 u6:Value) :
 Box7 ((w.alloc (.cells #[v0,v1,v2,v3,v4,v5,v6] 25)).alloc (.cells #[u0,u1,u2,u3,u4,u5,u6] 25)) (w.heap.size+1) u0 u1 u2 u3 u4 u5 u6:=by
 have:=Box7.new (w.alloc (.cells #[v0,v1,v2,v3,v4,v5,v6] 25)) 25 u0 u1 u2 u3 u4 u5 u6
 rw [show(w.alloc (.cells #[v0,v1,v2,v3,v4,v5,v6] 25)).heap.size=w.heap.size+1 by simp] at this
 exact this
def SamRel (f:PartD→PartD→Bool) (ps qs:List PartD) (n:Nat) (W:World) (iv:Value) (wr:World):Prop:=
 ∃ i:Nat,iv = .int .i64 (i:Nat)∧i≤n∧Below W.heap.size W wr∧Hid (∀ (j:Nat) (p q:PartD),j < i→ps[j]? = some p→qs[j]? = some q→f p q=true)
theorem SamePart_any (k:Nat):∀ (p q:PartD) (v u:List Value) (w:World),(flatD p).length≤k→PartAt (· < w.heap.size) w p v→PartAt (· < w.heap.size) w q u →
 Calls Tryz.prog 9 #[.agg v.toArray,.agg u.toArray] w fun e w'=>e = .returned (.bool (sameD p q))∧Below w.heap.size w w':=by
 induction k with
 | zero=>intro p q v u w h;rw [flatD_eq] at h;simp at h
 | succ k ih =>
  intro p q v u w hk hp hq
  have hs:=sameD_eq p q
  have hfl:∀ x∈p.parts,(flatD x).length≤k:=by
   intro x hx
   obtain⟨i,hi,rfl⟩:=List.getElem_of_mem hx
   have h1:=(flatsD_get p.parts i hi).1
   rw [flatD_eq] at hk
   simp at hk
   omega
  obtain⟨A,c,A2,c2,rfl,hbd,hby,hbc,hcm,hP,hc2,hcm2⟩:=hp.open
  obtain⟨A',c',A2',c2',rfl,hbd',hby',hbc',hcm',hP',hc2',hcm2'⟩:=hq.open
  obtain⟨W,hW⟩:∃ W,W=(w.alloc (.cells #[str p.type,str p.cs,str p.id,str p.loc,.int .i64 p.how,.slice A p.body.length c,.slice A2 p.parts.length c2] 25)).alloc (.cells #[str q.type,str q.cs,str q.id,str q.loc,.int .i64 q.how,.slice A' q.body.length c',.slice A2' q.parts.length c2'] 25):=⟨_,rfl⟩
  have hbW:Below w.heap.size w W:=by rw [hW];exact((Below.refl _ w).alloc (Nat.le_refl _) _).alloc (by simp) _
  have hx:Box7 W w.heap.size (str p.type) (str p.cs) (str p.id) (str p.loc) (.int .i64 p.how) (.slice A p.body.length c) (.slice A2 p.parts.length c2):=by
   rw [hW];exact(Box7.new w _ _ _ _ _ _ _ _).below ((Below.refl _ _).alloc (Nat.le_refl _) _)
  have hy:Box7 W (w.heap.size+1) (str q.type) (str q.cs) (str q.id) (str q.loc) (.int .i64 q.how) (.slice A' q.body.length c') (.slice A2' q.parts.length c2'):=by
   rw [hW];exact boxes2 w _ _ _ _ _ _ _ _ _ _ _ _ _ _
  have cE:=Equal_bytes A A' p.body.length c q.body.length c' w.heap.size w.heap.size p.body q.body W (Sl.below hby hbW) (Sl.below hby' hbW) (Nat.le_trans hbc hcm)
  have a1:=all2_len sameD p.parts q.parts
  have a2:=all2_miss sameD p.parts q.parts
  have a3:=all2_hit sameD p.parts q.parts
  rw [hs]
  unfold oneSame
  generalize all2 sameD p.parts q.parts=r7 at a1 a2 a3 ⊢
  obtain⟨n,hn⟩:∃ n,n=p.parts.length:=⟨_,rfl⟩
  obtain⟨n',hn'⟩:∃ n',n'=q.parts.length:=⟨_,rfl⟩
  rw [← hn,← hn'] at a1
  rw [← hn] at hx hP hc2 hW ⊢
  rw [← hn'] at hy hP' hc2' hW ⊢
  have hnm:n≤9223372036854775807:=by unfold maxLen at hcm2;omega
  generalize h6:(p.body == q.body)=r6 at cE
  have CE:=Lib.hid cE
  have A2H:=Lib.hid a2
  have A3H:=Lib.hid a3
  have Hih:=Lib.hid ih
  have Hfl:=Lib.hid hfl
  have HP:=Lib.hid hP
  have HP':=Lib.hid hP'
  have Hn:=Lib.hid hn
  have Hn':=Lib.hid hn'
  have H6:=Lib.hid h6
  have⟨x0,x1,x2,x3,x4,x5,x6⟩:=hx
  have⟨y0,y1,y2,y3,y4,y5,y6⟩:=hy
  clear ih hfl hk hs cE hp hq hP hP' hby hby' hbd hbd' a2 a3 hn hn' h6
  cases e1:(p.type == q.type)
  case false =>
   clear CE A2H A3H Hih Hfl HP HP' hx hy H6
   go_enter Tryz.func9,Tryz.ntmps9
   go_wp2_with fail
   go_ret
   rw [← hW]
   exact⟨by simp,hbW⟩
  case true =>
   cases e2:(p.cs == q.cs)
   case false =>
    clear CE A2H A3H Hih Hfl HP HP' hx hy H6
    go_enter Tryz.func9,Tryz.ntmps9
    go_wp2_with fail
    go_ret
    rw [← hW]
    exact⟨by simp,hbW⟩
   case true =>
    cases e3:(p.id == q.id)
    case false =>
     clear CE A2H A3H Hih Hfl HP HP' hx hy H6
     go_enter Tryz.func9,Tryz.ntmps9
     go_wp2_with fail
     go_ret
     rw [← hW]
     exact⟨by simp,hbW⟩
    case true =>
     cases e4:(p.loc == q.loc)
     case false =>
      clear CE A2H A3H Hih Hfl HP HP' hx hy H6
      go_enter Tryz.func9,Tryz.ntmps9
      go_wp2_with fail
      go_ret
      rw [← hW]
      exact⟨by simp,hbW⟩
     case true =>
      cases e5:(p.how == q.how)
      case false =>
       have e5b:(p.how != q.how)=true:=by rw [bne,e5];rfl
       clear CE A2H A3H Hih Hfl HP HP' hx hy H6
       go_enter Tryz.func9,Tryz.ntmps9
       go_wp2_with fail
       go_ret
       rw [← hW]
       exact⟨by simp,hbW⟩
      case true =>
       have e5b:(p.how != q.how)=false:=by rw [bne,e5];rfl
       cases r6
       case false =>
        clear A2H A3H Hih Hfl HP HP' hx hy H6
        go_enter Tryz.func9,Tryz.ntmps9
        go_wp2_with fail
        rw [← hW]
        clear hW
        refine CE.out.mono ?_
        rintro e w1 ⟨rfl,q1,rfl⟩
        go_wp2_with fail
        go_ret
        exact⟨by simp,belN hbW q1⟩
       case true =>
        by_cases hnn:n=n'
        · subst hnn
          have hne:((n:Int) != n)=false:=by simp
          have h3:Hid ((∀ (i:Nat) (p_1 q_1:PartD),p.parts[i]? = some p_1→q.parts[i]? = some q_1→sameD p_1 q_1=true)→r7=true):=A3H.out (by rw [← Hn.out,← Hn'.out])
          clear A3H a1 H6
          go_enter Tryz.func9,Tryz.ntmps9
          go_wp2_with fail
          rw [← hW]
          refine CE.out.mono ?_
          rintro e w1 ⟨rfl,q1,rfl⟩
          have hb1:=belN (Below.refl W.heap.size W) q1
          have hbel1:=belN hbW q1
          generalize W.drewN q1=W1 at hb1 hbel1 ⊢
          have hx1:=hx.below hb1
          have hy1:=hy.below hb1
          clear x0 x1 x2 x3 x4 x5 x6 y0 y1 y2 y3 y4 y5 y6 hx hy hW CE hbW hb1
          have⟨x0,x1,x2,x3,x4,x5,x6⟩:=hx1
          have⟨y0,y1,y2,y3,y4,y5,y6⟩:=hy1
          go_wp2_with fail
          clear x0 x1 x2 x3 x4 x5 x6 y0 y1 y2 y3 y4 y5 y6
          go_loopw [60] (SamRel sameD p.parts q.parts n W1) (fun iv _=>n - (intOf iv).toNat)
          case atStart=>exact⟨0,rfl,Nat.zero_le _,Below.refl _ _,Lib.hid fun j p q h=>absurd h (by omega)⟩
          case round =>
           obtain⟨i,rfl,hi,hbel,hz⟩:=hrel
           have hbw:=hbel1.trans (hbel.mono hbel1.size)
           by_cases hin:i < n
           · have hPr:=HP.out.below hbw
             obtain⟨b,off,k1,B1,m1,d1,B2,m2,d2,rfl,hbS,hk1,hk1a,z0,z1,z2,z3,z4,z5,z6⟩:=hPr.cells7 hin
             have hbA:=(Below.refl wr.heap.size wr).alloc (Nat.le_refl _) (.cells #[str k1.type,str k1.cs,str k1.id,str k1.loc,.int .i64 k1.how,.slice B1 m1 d1,.slice B2 m2 d2] 25)
             have hbwA:=hbw.trans (hbA.mono hbw.size)
             have hQr:=HP'.out.below hbwA
             obtain⟨b',off',k2,B3,m3,d3,B4,m4,d4,rfl,hbS',hk2,hk2a,y0,y1,y2,y3,y4,y5,y6⟩:=hQr.cells7 hin
             have hk1:=drop_get hk1
             have hk2:=drop_get hk2
             have hbx:=Box7.new wr 25 (str k1.type) (str k1.cs) (str k1.id) (str k1.loc) (.int .i64 k1.how) (.slice B1 m1 d1) (.slice B2 m2 d2)
             have hyA:=(hy1.below hbel).below hbA
             obtain⟨_,_,_,_,_,_,q6⟩:=hyA
             have hcl:=Hih.out k1 k2 _ _ (wr.alloc (.cells #[str k1.type,str k1.cs,str k1.id,str k1.loc,.int .i64 k1.how,.slice B1 m1 d1,.slice B2 m2 d2] 25)).drew (Hfl.out k1 (List.mem_of_getElem? hk1)) ((hk1a.belowN hbA.drew hbw.size).more (Nat.le_trans hbw.size hbA.size)) ((hk2a.below (Below.refl _ _).drew).more (Nat.le_trans hbw.size hbA.size))
             have hmiss:=A2H.out i k1 k2 hk1 hk2
             have hi0:(0:Int)≤i:=by omega
             have hi1:(i:Int) < n:=by omega
             generalize hss:sameD k1 k2=ss at hcl hmiss
             have Hcl:=Lib.hid hcl
             have Hk1:=Lib.hid hk1
             have Hk2:=Lib.hid hk2
             have Hss:=Lib.hid hss
             clear hcl hk1 hk2 hk1a hk2a hPr hQr hss
             go_wp2_with fail
             clear z0 z1 z2 z3 z4 z5 z6
             have⟨x0,x1,x2,x3,x4,x5,x6⟩:=hbx
             have hbelA:=(hbel.alloc hbel.size (.cells #[str k1.type,str k1.cs,str k1.id,str k1.loc,.int .i64 k1.how,.slice B1 m1 d1,.slice B2 m2 d2] 25)).drew
             go_region_with (go_at_call 9;refine Hcl.out.mono ?_;rintro e w1 ⟨rfl,hb1⟩;have hbelA1:=hbelA.trans (hb1.mono hbelA.size))
             all_goals
              clear q6 x0 x1 x2 x3 x4 x5 x6 y0 y1 y2 y3 y4 y5 y6
              cases ss
              · have hr:Hid (r7=false):=hmiss rfl
                go_wp2_with fail
                go_ret
                exact⟨by first | rfl | (rw [hr.out];rfl) | (rw [hr.out];simp),hbel1.trans (hbelA1.mono hbel1.size)⟩
              · clear hmiss
                go_wp2_with fail
                refine⟨⟨i+1,by go_num,by omega,hbelA1,Lib.hid fun j a b hj ha hb=>?_⟩,by simp [intOf];omega⟩
                rcases Nat.lt_or_ge j i with h | h
                · exact hz.out j a b h ha hb
                · obtain rfl:j=i:=by omega
                  rw [Hk1.out] at ha
                  rw [Hk2.out] at hb
                  injection ha with ha
                  injection hb with hb
                  rw [← ha,← hb];exact Hss.out
           · obtain rfl:i=n:=by omega
             have hr:Hid (r7=true):=h3.out fun j a b ha hb=>hz.out j a b (by
              rcases Nat.lt_or_ge j p.parts.length with h | h
              · rw [← Hn.out] at h;exact h
              · rw [List.getElem?_eq_none h] at ha;cases ha) ha hb
             go_wp2_with fail
             go_ret
             exact⟨by first | rfl | (rw [hr.out];rfl) | (rw [hr.out];simp),hbw⟩
        · have hr:Hid (r7=false):=a1 hnn
          have hne:((n:Int) != n')=true:=by simp;omega
          clear A2H A3H Hih Hfl HP HP' hx hy H6 a1
          go_enter Tryz.func9,Tryz.ntmps9
          go_wp2_with fail
          rw [← hW]
          clear hW
          refine CE.out.mono ?_
          rintro e w1 ⟨rfl,q1,rfl⟩
          go_wp2_with fail
          go_ret
          exact⟨by first | rfl | (rw [hr.out];rfl) | (rw [hr.out];simp),belN hbW q1⟩
theorem rewriteSays_walk (p:PartD) (v:List Value) (NA:Option Addr) (nn nc:Nat) (ns:List NameD) (parts:Int) (w:World) (hM:MaxLenOk w) (hU:U8Ok w) (hp:PartAt (· < w.heap.size) w p v) (hns:Sl w w.heap.size 2 NA nn (nameC ns)) (hnn:nn≤nc) (hnc:nc≤maxLen) (hok0:NamesOk ns) :
 Calls Tryz.prog 3 #[.agg v.toArray,.slice NA nn nc,.int .i64 parts] w fun e w'=>e = .returned (.bool true)∧Below w.heap.size w w':=by
 have KN:=Lib.hid (fun X (h:Below w.heap.size w X)=>Names_any p v NA nn nc ns X (hM.below h) ((hp.below h).more h.size) ((Sl.below hns h).more h.size) hnn hnc hok0)
 have KR:=Lib.hid (fun X (h:Below w.heap.size w X)=>Renamed_any p v NA nn nc ns X (hM.below h) (hU.below h) ((hp.below h).more h.size) ((Sl.below hns h).more h.size) hnn hnc hok0)
 have KD:=Lib.hid (fun X (h:Below w.heap.size w X)=>renamed_any X (hM.below h))
 have KC:=Lib.hid (fun X (h:Below w.heap.size w X)=>CheckNames_any NA nn nc ns parts X ((Sl.below hns h).more h.size) hnn hnc hok0)
 have KE:=Lib.hid (fun X (h:Below w.heap.size w X)=>RCheckNames_any NA nn nc ns parts X ((Sl.below hns h).more h.size) hnn hnc hok0)
 unfold NamesOut at KN
 unfold RNamesOut at KR
 obtain⟨A,c,B,d,rfl,_⟩:=hp.open
 obtain⟨W,hW⟩:∃ W,W=w.alloc (.cells #[str p.type,str p.cs,str p.id,str p.loc,.int .i64 p.how,.slice A p.body.length c,.slice B p.parts.length d] 25):=⟨_,rfl⟩
 have hbW:Below w.heap.size w W:=by rw [hW];exact(Below.refl _ w).alloc (Nat.le_refl _) _
 have hbx:Box7 W w.heap.size (str p.type) (str p.cs) (str p.id) (str p.loc) (.int .i64 p.how) (.slice A p.body.length c) (.slice B p.parts.length d):=by rw [hW];exact Box7.new w _ _ _ _ _ _ _ _
 have Hbx:=Lib.hid hbx
 have hsW:w.heap.size < W.heap.size:=by rw [hW];simp
 generalize namesF parts [] ns=kc at KC KE
 obtain⟨q,qe,hq⟩:∃ q qe,namesE p ns=(q,qe):=⟨_,_,rfl⟩
 rw [hq] at KN KR
 simp only at KN KR
 have dkc:((kc:Int) == (kc:Int))=true:=by simp
 have dqe:((qe:Int) == (qe:Int))=true:=by simp
 have hsm:sameD q q=true:=sameD_refl q
 clear hM hU hp hns hok0 hbx hq
 go_enter Tryz.func3,Tryz.ntmps3
 have⟨x0,x1,x2,x3,x4,x5,x6⟩:=Hbx.out
 go_wp2_with fail
 rw [← hW]
 clear hW
 refine(KN.out W hbW).mono ?_
 rintro e w1 ⟨v1,rfl,hp1,hb1⟩
 obtain⟨A1,c1,B1,d1,rfl,_⟩:=hp1.open
 have hbel1:=hbW.trans (hb1.mono hbW.size)
 have Hbx1:=Lib.hid (Hbx.out.below hb1)
 obtain⟨W2,hW2⟩:∃ W2,W2=w1.alloc (.cells #[str q.type,str q.cs,str q.id,str q.loc,.int .i64 q.how,.slice A1 q.body.length c1,.slice B1 q.parts.length d1] 25):=⟨_,rfl⟩
 have hbA:Below w1.heap.size w1 W2:=by rw [hW2];exact(Below.refl _ _).alloc (Nat.le_refl _) _
 have hbx2:Box7 W2 w1.heap.size (str q.type) (str q.cs) (str q.id) (str q.loc) (.int .i64 q.how) (.slice A1 q.body.length c1) (.slice B1 q.parts.length d1):=by rw [hW2];exact Box7.new w1 _ _ _ _ _ _ _ _
 have hbel2:=hbel1.trans (hbA.mono hbel1.size)
 have Hbx2:=Lib.hid (Hbx1.out.below hbA)
 have hp2:PartAt (· < W2.heap.size) W2 q [str q.type,str q.cs,str q.id,str q.loc,.int .i64 q.how,.slice A1 q.body.length c1,.slice B1 q.parts.length d1]:=((PartAt.change (S':=fun b=>b < w1.heap.size) (fun b hb=>hb.2) (fun _ _=>rfl) _ _ hp1).below hbA).more hbA.size
 have Hp2:=Lib.hid hp2
 have Hby2:=Lib.hid hbx2
 clear hb1 hbA hbx2 hp2 hp1 x0 x1 x2 x3 x4 x5 x6 Hbx
 go_upto_region 2 with fail
 rw [← hW2]
 clear hW2
 have⟨x0,x1,x2,x3,x4,x5,x6⟩:=Hbx2.out
 go_wp2_with fail
 refine(KR.out W2 hbel2).mono ?_
 rintro e w3 ⟨v3,rfl,hp3,hb3⟩
 obtain⟨A3,c3,B3,d3,rfl,_⟩:=hp3.open
 have hbel3:=hbel2.trans (hb3.mono hbel2.size)
 have Hby3:=Lib.hid (Hby2.out.below hb3)
 have hp23:=(Hp2.out.below hb3).more hb3.size
 obtain⟨W4,hW4⟩:∃ W4,W4=w3.alloc (.cells #[str q.type,str q.cs,str q.id,str q.loc,.int .i64 q.how,.slice A3 q.body.length c3,.slice B3 q.parts.length d3] 25):=⟨_,rfl⟩
 have hbA:Below w3.heap.size w3 W4:=by rw [hW4];exact(Below.refl _ _).alloc (Nat.le_refl _) _
 have hbz4:Box7 W4 w3.heap.size (str q.type) (str q.cs) (str q.id) (str q.loc) (.int .i64 q.how) (.slice A3 q.body.length c3) (.slice B3 q.parts.length d3):=by rw [hW4];exact Box7.new w3 _ _ _ _ _ _ _ _
 have hbel4:=hbel3.trans (hbA.mono hbel3.size)
 have Hby4:=Lib.hid (Hby3.out.below hbA)
 have hp4:PartAt (· < W4.heap.size) W4 q [str q.type,str q.cs,str q.id,str q.loc,.int .i64 q.how,.slice A3 q.body.length c3,.slice B3 q.parts.length d3]:=(hp3.below hbA).more hbA.size
 have hp24:=(hp23.below hbA).more hbA.size
 have Hp4:=Lib.hid hp4
 have Hp24:=Lib.hid hp24
 have Hbz4:=Lib.hid hbz4
 clear hb3 hbA hbz4 hp4 hp24 hp23 hp3 x0 x1 x2 x3 x4 x5 x6 Hbx2
 go_upto_region 3 with fail
 rw [← hW4]
 clear hW4
 go_wp2_with fail
 refine(KD.out W4 hbel4).mono ?_
 rintro e w5 ⟨rfl,hb5⟩
 have hbel5:=hbel4.trans (hb5.mono hbel4.size)
 have Hby5:=Lib.hid (Hby4.out.below hb5)
 have Hbz5:=Lib.hid (Hbz4.out.below hb5)
 have Hp5:=Lib.hid ((Hp4.out.below hb5).more hb5.size)
 have Hp25:=Lib.hid ((Hp24.out.below hb5).more hb5.size)
 clear hb5
 go_wp2_with fail
 refine(KC.out w5 hbel5).mono ?_
 rintro e w6 ⟨rfl,hb6⟩
 have hbel6:=hbel5.trans (hb6.mono hbel5.size)
 have Hby6:=Lib.hid (Hby5.out.below hb6)
 have Hbz6:=Lib.hid (Hbz5.out.below hb6)
 have Hp6:=Lib.hid ((Hp5.out.below hb6).more hb6.size)
 have Hp26:=Lib.hid ((Hp25.out.below hb6).more hb6.size)
 clear hb6
 go_wp2_with fail
 refine(KE.out w6 hbel6).mono ?_
 rintro e w7 ⟨rfl,hb7⟩
 have hbel7:=hbel6.trans (hb7.mono hbel6.size)
 have hby7:=Hby6.out.below hb7
 have hbz7:=Hbz6.out.below hb7
 have hsp:=SamePart_any (flatD q).length q q _ _ w7 (Nat.le_refl _) ((Hp26.out.below hb7).more hb7.size) ((Hp6.out.below hb7).more hb7.size)
 rw [hsm] at hsp
 have Hsp:=Lib.hid hsp
 have⟨x0,x1,x2,x3,x4,x5,x6⟩:=hby7
 have⟨y0,y1,y2,y3,y4,y5,y6⟩:=hbz7
 clear hb7 hby7 hbz7 hsp hsm
 go_wp2_with fail
 refine Hsp.out.mono ?_
 rintro e w8 ⟨rfl,hb8⟩
 go_wp2_with fail
 go_ret
 exact⟨rfl,hbel7.trans (hb8.mono hbel7.size)⟩
end Go.Proofs.YtlgbopjhmemaoaaGreatDoor
namespace Go.Proofs.YtlgbopjhmemaoaaGreatDoor
open Go.ChangeShapes Go.WideShapes Go.ChangeAt Go.RowKit
open Go.ChangeMaps (open_string shut_string)
theorem rewriteSays_contract (H:Type) (enc:TypeId × Value→H) (W:World) (base:Nat) (args:Array Value) (ds gs:List (DataW H)) (before:List MemPlace)
 (hval0:∀ (j:Nat) t v,Tryz.f3.params[j]? = some t→args[j]? = some v→Value.okWide Tryz.prog W .any base t v)
 (hW:DataW.Whole enc Tryz.prog Tryz.f3.params.toList Rows.rewriteSaysSpec.vars false W args.toList ds gs before) (hsz:(DataW.weightsEach Tryz.prog ([25,26,3] ++ []) (ds ++ gs)).all (·≤reachBytes)=true) (hL:laidMetH Tryz.prog Rows.rewriteSaysRow.laid W) (hsh:W.ShapedOpen Tryz.prog) :
 Calls Tryz.prog 3 args W fun e W'=>∃ v,e = .returned v∧Rows.rewriteSaysSpec.post enc Tryz.prog Tryz.f3 false true false false W args v W':=by
 have hMx:MaxLenOk W:=maxLen_of_shaped hsh
 have _hL:=hL
 have hval:∀ (j:Nat) t v,Tryz.f3.params[j]? = some t→args[j]? = some v→Value.okWide Tryz.prog W .any base t v:=hval0
 have hW':=hW
 obtain⟨p,q,hA0,hV,rfl,hfz,hnd⟩:=hW
 have hA:DataW.TrodAll enc Tryz.prog W 0 (fun _=>true) true Tryz.f3.params.toList args.toList ds p:=hA0
 rw [Tryz.params3] at hA hval
 obtain⟨v0,vs0,d0,ds0,p0,q0,hargs,rfl,rfl,h0,r0⟩:=trodAll_cons hA
 obtain⟨v1,vs1,d1,ds1,p1,q1,rfl,rfl,rfl,h1,r1⟩:=trodAll_cons r0
 obtain⟨v2,vs2,d2,ds2,p2,q2,rfl,rfl,rfl,h2,r2⟩:=trodAll_cons r1
 obtain⟨rfl,rfl,rfl⟩:=trodAll_nil r2
 obtain rfl:args = #[v0,v1,v2]:=by cases args;simp_all
 obtain⟨rfl,rfl⟩:=trodVars_none hV
 have k0:=h0
 have lt0:∀ x∈p0,x.block < W.heap.size:=by obtain⟨m,hm⟩:=k0;exact DataW.trod_lt m _ _ _ hm
 obtain⟨pd0,pv0,rfl,w0⟩:=open_part (hval 0 25 v0 rfl rfl) h0
 have k1:=h1
 have lt1:∀ x∈p1,x.block < W.heap.size:=by obtain⟨m,hm⟩:=k1;exact DataW.trod_lt m _ _ _ hm
 obtain⟨a1,len1,cap1,ns1,rfl,b1,le1,mx1,sm1⟩:=open_names (hval 1 26 v1 rfl rfl) h1
 have rch1:=reach_names (j:=1) hsz rfl rfl k1
 obtain⟨n2,rfl,rfl,rfl,w2⟩:=open_int Tryz.underlying3 (hval 2 3 v2 rfl rfl) h2
 clear hA0 hval0
 refine(rewriteSays_walk pd0 pv0 a1 len1 cap1 ns1 n2 W hMx (u8Ok_of_laid hL (by kernel_rfl)) w0 b1 le1 mx1 sm1).mono fun e W' ⟨he,bel⟩=>?_
 subst he
 exact⟨_,rfl,_,_,_,[],_,[],hW',trodAll_mk1 (shut_bool Tryz.underlying4 _),(trodAll_cons_mk (Below.trod laidOut (by kernel_rfl) (of_decide_eq_true (by kernel_rfl)) k0 bel lt0) (trodAll_cons_mk (Below.trod laidOut (by kernel_rfl) (of_decide_eq_true (by kernel_rfl)) k1 bel lt1) (trodAll_cons_mk (shut_int Tryz.underlying3 w2) trodAll_mk0))),rfl,bel.frame _,fun h=>by cases h⟩
theorem rewriteSays_laidMet (os:Os):laidMet Tryz.prog Rows.rewriteSaysRow.laid ((World.laidAll Tryz.prog os Rows.rewriteSaysRow.laid).forCall (fun _ _=>0) ⟨#[],#[.agg #[.string ⟨#[]⟩,.string ⟨#[]⟩,.string ⟨#[]⟩,.string ⟨#[]⟩,.int .i64 0,.slice none 0 0,.slice none 0 0],.slice none 0 0,.int .i64 0],[]⟩).memory:=
 laidMet_laidAll _ (by kernel_rfl) (by kernel_rfl)
theorem rewriteSays_reads (os:Os) {H:Type} (enc:TypeId × Value→H):∃ places,DataW.whole enc Tryz.prog ((World.laidAll Tryz.prog os Rows.rewriteSaysRow.laid).forCall (fun _ _=>0) ⟨#[],#[.agg #[.string ⟨#[]⟩,.string ⟨#[]⟩,.string ⟨#[]⟩,.string ⟨#[]⟩,.int .i64 0,.slice none 0 0,.slice none 0 0],.slice none 0 0,.int .i64 0],[]⟩).memory Tryz.f3.params.toList Rows.rewriteSaysSpec.vars false (#[.agg #[.string ⟨#[]⟩,.string ⟨#[]⟩,.string ⟨#[]⟩,.string ⟨#[]⟩,.int .i64 0,.slice none 0 0,.slice none 0 0],.slice none 0 0,.int .i64 0]:Array Value).toList 8=some ([.agg [.lit (.string []),.lit (.string []),.lit (.string []),.lit (.string []),.lit (.int .i64 0),.nil,.nil],.nil,.lit (.int .i64 0)],[],places):=
 ⟨[],by kernel_rfl⟩
theorem rewriteSays_lifted (os:Os) (started:os.Started) (H:Type) (enc:TypeId × Value→H) (F:Stop.Interp) :
 ReturnsInHanded {} Tryz.checked os 3 .any ((OpenSpec.ofChange Rows.rewriteSaysSpec).preRow enc Tryz.prog Tryz.f3 Rows.rewriteSaysRow.domain false Rows.rewriteSaysRow.laid) (((OpenSpec.ofChange Rows.rewriteSaysSpec).at F).post enc Tryz.prog Tryz.f3 false true false false):=by
 obtain⟨places,hx⟩:=rewriteSays_reads os enc
 refine returnsInHanded_of_row (C:=Tryz.checked) (s:=OpenSpec.ofChange Rows.rewriteSaysSpec) own started (by kernel_rfl) Tryz.func3
  (witness_row_atRef (enc:=enc) (C:=Tryz.checked) false (World.laidAll Tryz.prog os Rows.rewriteSaysRow.laid) #[.agg #[.string ⟨#[]⟩,.string ⟨#[]⟩,.string ⟨#[]⟩,.string ⟨#[]⟩,.int .i64 0,.slice none 0 0,.slice none 0 0],.slice none 0 0,.int .i64 0] (World.laidAll_os _ _ _) (by kernel_rfl) (by kernel_rfl) (by kernel_rfl)
    (OpenSpec.preRow_of_cond 8 hx (by kernel_rfl) (fun k hk=>by cases hk) (by kernel_rfl) (rewriteSays_laidMet os))) ?_
 intro W base args ds gs before hval hW _ _ hsz hL hsh _
 exact rewriteSays_contract H enc W base args ds gs before hval hW hsz hL hsh
theorem rewriteSays_closed:joinedFacts Tryz.pinned.checked.prog 3 Tryz.f3 (OpenSpec.ofChange Rows.rewriteSaysSpec).bare Rows.rewriteSaysRow=true:=by
 delta joinedFacts
 simp only [Bool.and_eq_true]
 refine⟨⟨⟨⟨⟨⟨⟨⟨⟨⟨⟨⟨⟨⟨⟨⟨⟨⟨⟨⟨⟨⟨⟨⟨⟨⟨⟨⟨⟨⟨⟨?_,?_⟩,?_⟩,?_⟩,?_⟩,?_⟩,?_⟩,?_⟩,?_⟩,?_⟩,?_⟩,?_⟩,?_⟩,?_⟩,?_⟩,?_⟩,?_⟩,?_⟩,?_⟩,?_⟩,?_⟩,?_⟩,?_⟩,?_⟩,?_⟩,?_⟩,?_⟩,?_⟩,?_⟩,?_⟩,?_⟩,?_⟩
 all_goals (as_aux_lemma=>kernel_rfl)
theorem rewriteSays_said:Rows.RewriteSaysSaid:=
 OpenClaim.holds_of_cond 3 Tryz.f3 rfl rfl rfl rfl rfl rfl rfl ⟨rfl,rfl,rfl,rfl,rfl⟩ rfl rfl rfl rfl rfl (by kernel_rfl) Tryz.func3 rewriteSays_closed
  (of_decide_eq_true (by kernel_rfl)) (by unfold Func.isWrapper;first | (rw [if_pos (by decide +kernel)];kernel_rfl) | (rw [if_neg (by decide +kernel)];exact⟨rfl,rfl⟩))
  (fun os started H enc _ F=>by rw [OpenClaim.pre_eq_preRow];exact rewriteSays_lifted os started H enc F)
end Go.Proofs.YtlgbopjhmemaoaaGreatDoor
