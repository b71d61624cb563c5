import Derived.Test.YtlgbopjhmemaoaaGreatDoorU11
import Derived.Test.YtlgbopjhmemaoaaGreatDoorU23
import Derived.Test.YtlgbopjhmemaoaaGreatDoorU18
import Derived.Deep.CutBlock
import Derived.Test.YtlgbopjhmemaoaaGreatDoorU1
set_option maxRecDepth 100000
set_option maxHeartbeats 40000000
namespace Go.Proofs.YtlgbopjhmemaoaaGreatDoor
open Go.RowKit
theorem AllRes.sl {B:Nat} {ps:List PartD} {w w':World} {S:Option Addr} {c:Nat} {rows:List (List Value)} (h:w'.ownsRow w.heap.size 25 7 (.slice S ps.length c) ps.length rows.flatten) (hr:PartsAt (· < B) w' ps rows) (hB:B≤w'.heap.size):SlP (· < w'.heap.size) w' S ps.length ps:=
 ⟨rows,Sl.of_own h,PartsAt.change (fun _ hb=>Nat.lt_of_lt_of_le hb hB) (fun _ _=>rfl) _ _ hr⟩
theorem findF_down (F:List PartD) (L:List (List UInt8)) (t:List UInt8) (k:Nat) (x:PartD) (h:List UInt8) (hF:F.drop k=x :: F.drop (k+1)) (hL:L.drop k=h :: L.drop (k+1)) :
 findF (F.drop k) (L.drop k) t k=if isB t x h then (k:Int) else findF (F.drop (k+1)) (L.drop (k+1)) t (k+1):=by rw [hF,hL,findF]
theorem cid_is (t id:List UInt8) (h:Lib.hasPrefix t [99,105,100,58]=true):((99 :: 105 :: 100 :: 58 :: id) == t)=(id == t.drop 4):=by
 have hp:=List.isPrefixOf_iff_prefix.1 h
 obtain⟨r,rfl⟩:=hp
 rw [Bool.eq_iff_iff]
 simp
theorem chk_idG (q:PartD) (h:chkD q=0):q.id.length≤120:=by
 unfold chkD chkB at h
 split at h
 · cases h
 · rename_i h1
   cases hw:wordB q.id with
   | false=>rw [hw] at h1;simp at h1
   | true =>
    unfold wordB at hw
    simp only [Bool.and_eq_true,decide_eq_true_eq] at hw
    exact hw.1
def DownRel (F:List PartD) (L:List (List UInt8)) (n i gbl:Nat) (x:LinkD) (LL:List UInt8) (wL:World) (sv:Value) (wx:World):Prop:=
 ∃ k:Nat,sv = .int .i64 ((k:Int) - 1)∧k≤n∧(LL = []→k=n)∧GB wx gbl ⟨i,x,LL,if LL = [] then -1 else findF (F.drop k) (L.drop k) (bareB LL) k⟩∧Below wL.heap.size wL wx
theorem RGoals_any (p:PartD) (v:List Value) (w:World) (hM:MaxLenOk w) (hp:PartAt (· < w.heap.size) w p v) (hK:checkD p=0) :
 Calls Tryz.prog 20 #[.agg v.toArray] w (GoalsOut p w):=by
 obtain⟨h12,hch⟩:=checkD_ok p hK
 have hfl:=fun W h1 h2=>Flat_any (flatD p).length p v w.heap.size W (Nat.le_refl _) (by omega) h1 h2
 have hwh:=fun W h1 h2=>RWhere_any p v W h1 h2 (by omega)
 unfold GoalsOut
 obtain⟨R,hR⟩:∃ R,R=goalsE p:=⟨_,rfl⟩
 rw [← hR]
 unfold goalsE goalsD at hR
 rw [if_pos hK] at hR
 have hwl:=whereD_len p
 have hws:=whereD_small p
 obtain⟨A,c,A2,c2,rfl,_⟩:=hp.open
 obtain⟨W,hW⟩:∃ W,W=w.alloc (.cells #[str p.type,str p.cs,str p.id,str p.loc,.int .i64 p.how,.slice A p.body.length c,.slice A2 p.parts.length c2] 25):=⟨_,rfl⟩
 have hbW:Below w.heap.size w W:=by rw [hW];exact(Below.refl _ w).alloc (Nat.le_refl _) _
 have hbx:Box7 W w.heap.size (str p.type) (str p.cs) (str p.id) (str p.loc) (.int .i64 p.how) (.slice A p.body.length c) (.slice A2 p.parts.length c2):=by rw [hW];exact Box7.new w _ _ _ _ _ _ _ _
 have hHF:∀ W',Below W.heap.size W W'→Calls Tryz.prog 19 #[.agg #[str p.type,str p.cs,str p.id,str p.loc,.int .i64 p.how,.slice A p.body.length c,.slice A2 p.parts.length c2]] W' fun e w'=>∃ S c,e = .returned (.slice S (flatD p).length c)∧SlP (· < w'.heap.size) w' S (flatD p).length (flatD p)∧Below W'.heap.size W' w':=by
  intro W' hb
  have hbb:=hbW.trans (hb.mono hbW.size)
  refine(hfl W' hbb.size (hp.below hbb)).mono ?_
  rintro e w' ⟨S,c',rows,rfl,ho,hr,hb'⟩
  exact⟨S,c',rfl,AllRes.sl ho hr (Nat.le_trans hbb.size hb'.size),hb'⟩
 have hHW:∀ W',Below W.heap.size W W'→Calls Tryz.prog 43 #[.agg #[str p.type,str p.cs,str p.id,str p.loc,.int .i64 p.how,.slice A p.body.length c,.slice A2 p.parts.length c2]] W' fun e w'=>∃ S c,e = .returned (.slice S (flatD p).length c)∧Sl w' w'.heap.size 1 S (flatD p).length ((whereD p).map str)∧Below W'.heap.size W' w':=by
  intro W' hb
  have hbb:=hbW.trans (hb.mono hbW.size)
  exact hwh W' (hM.below hbb) ((hp.below hbb).more hbb.size)
 have hbod:∀ q∈flatD p,q.body.length≤4000:=fun q hq=>chk_body q (hch q hq)
 have Hbod:=Lib.hid hbod
 have hids:∀ q∈flatD p,q.id.length≤120:=fun q hq=>chk_idG q (hch q hq)
 have Hids:=Lib.hid hids
 have HHF:=Lib.hid hHF
 have HHW:=Lib.hid hHW
 have HM:=Lib.hid hM
 have HbW:=Lib.hid hbW
 clear hfl hwh hHF hHW hp hM hch hbod hids hK
 generalize whereD p=L at *
 generalize flatD p=F at *
 obtain⟨n,hn⟩:∃ n,n=F.length:=⟨_,rfl⟩
 rw [← hn] at HHF HHW h12 hwl
 have HR:=Lib.hid hR
 have Hn:=Lib.hid hn
 have Hwl:=Lib.hid hwl
 have Hws:=Lib.hid hws
 clear hR hn hwl hws hbW
 obtain⟨i0,hi0,hz0,hz1,hz2⟩:=info_parts infoGoal
 have HI0:=Lib.hid (And.intro hi0 (And.intro hz0 (And.intro hz1 hz2)))
 clear hi0 hz0 hz1 hz2
 have eg:=enters_of Tryz.func44 (by kernel_rfl) rfl
 go_enter Tryz.func20,Tryz.ntmps20
 go_upto_region 1 with fail
 rw [← hW]
 clear hW
 go_cut [4,5] from 19 to 23 (fun s4 s5 wx=>∃ S1 c1' S2 c2',s4 = .slice S1 n c1'∧s5 = .slice S2 n c2'∧SlP (· < wx.heap.size) wx S1 n F∧Sl wx wx.heap.size 1 S2 n (L.map str)∧Below W.heap.size W wx)
 case first=>as_aux_lemma =>
  have hbc:Below W.heap.size W W.drew:=(Below.refl _ W).drew
  have hbx:Box7 W.drew w.heap.size (str p.type) (str p.cs) (str p.id) (str p.loc) (.int .i64 p.how) (.slice A p.body.length c) (.slice A2 p.parts.length c2):=hbx
  go_region_held (fun w'=>(w'.cell? ⟨w.heap.size,0,none⟩=some (str p.type)∧w'.cell? ⟨w.heap.size,1,none⟩=some (str p.cs)∧w'.cell? ⟨w.heap.size,2,none⟩=some (str p.id)∧w'.cell? ⟨w.heap.size,3,none⟩=some (str p.loc)∧w'.cell? ⟨w.heap.size,4,none⟩=some (.int .i64 p.how)∧w'.cell? ⟨w.heap.size,5,none⟩=some (.slice A p.body.length c)∧w'.cell? ⟨w.heap.size,6,none⟩=some (.slice A2 p.parts.length c2)) ) (exact hbx) ((first
   | (go_at_call 19;refine(HHF.out _ hbc).mono ?_;rintro e wf ⟨S1,c1',rfl,hs1,hb⟩;have hbx:=hbx.below hb;have hbc:=hbc.trans (hb.mono hbc.size);(try have hs2:=(Sl.below hs2 hb).more hb.size);clear hb)
   | (go_at_call 43;refine(HHW.out _ hbc).mono ?_;rintro e wg ⟨S2,c2',rfl,hs2,hb⟩;have hbx:=hbx.below hb;have hbc:=hbc.trans (hb.mono hbc.size);(try have hs1:=(hs1.below hb).more hb.size);clear hb)))
  all_goals (have Hs1:=Lib.hid hs1;have Hs2:=Lib.hid hs2;clear hs1 hs2 hbx;go_wp2_with fail;go_meet;exact⟨_,_,_,_,rfl,rfl,Hs1.out,Hs2.out,hbc⟩)
 case rest =>
  obtain⟨S1,c1',S2,c2',rfl,rfl,hs1,hs2,hbc⟩:=hcut
  obtain⟨w2,rfl⟩:∃ w2,w2=wc:=⟨_,rfl⟩
  have hbel2:=HbW.out.trans (hbc.mono HbW.out.size)
  have Hs1:=Lib.hid hs1
  have Hs2:=Lib.hid hs2
  have Hbel2:=Lib.hid hbel2
  clear hs1 hs2 hbc hbel2 hbx HHF HHW HbW
  go_wp2_with fail
  obtain⟨RR,hRR⟩:∃ RR,RR=goalsF F L F L 0 []:=⟨_,rfl⟩
  have HRR:=Lib.hid hRR
  clear hRR
  go_loopw [2,3,7,25] (GoRel n F L RR w w2) (fun _ _ _ iv _=>n - (intOf iv).toNat)
  case atStart=>exact⟨0,0,0,none,[],rfl,rfl,rfl,Nat.zero_le _,rfl,rfl,Nat.zero_le _,World.ownsRow_nil _ _ _ _,Below.refl _ _,Lib.hid (by rw [List.drop_zero,List.drop_zero];exact HRR.out.symm)⟩
  case round =>
   obtain⟨i,m,c,S,out,rfl,rfl,rfl,hi,rfl,hm,hm60,hown,hbel,HS⟩:=hrel
   have Hm:=Lib.hid hm
   clear hm
   by_cases hin:i < n
   · obtain⟨b,off,q,A',n',c',A2',n2',c2'',hS1,hbS,hq,hqa,y0,y1,y2,y3,y4,y5,y6⟩:=(Hs1.out.below hbel).cells7 hin
     subst hS1
     have hqm:q∈F:=List.mem_of_mem_drop (i:=i) (by rw [hq];simp)
     have hbody:=Hbod.out q hqm
     have hby:By wr w2.heap.size A' q.body.length q.body∧n'=q.body.length∧q.body.length≤c'∧c'≤maxLen:=by
      obtain⟨A3,c3,A4,c4,hv,_,hb3,hc3,hm3,_⟩:=hqa.open
      simp only [List.cons.injEq,and_true] at hv
      obtain⟨_,_,_,_,_,h5,_⟩:=hv
      injection h5 with h5 h6 h7
      subst h5
      subst h7
      exact⟨hb3.sl,h6,hc3,hm3⟩
     obtain⟨hby,rfl,hbc,hbm⟩:=hby
     obtain⟨bt,offt,u,hS2,hbt,hu,hcu⟩:=Hs2.out.at_ hin
     subst hS2
     have hiL:i < L.length:=by rw [Hwl.out];exact hin
     have hdL:=List.drop_eq_getElem_cons (l:=L) (i:=i) hiL
     rw [List.getElem?_map,List.getElem?_eq_getElem hiL] at hu
     injection hu with hu
     have hsl:=Hws.out _ (List.getElem_mem hiL)
     obtain⟨h,hh⟩:∃ h,h=L[i]:=⟨_,rfl⟩
     rw [← hh] at hdL hu hsl
     subst hu
     have hstep:(if q.type=htmlB then (if (findE q.body).2=0 then goalsF F L (F.drop (i+1)) (L.drop (i+1)) (i+1) (out ++ (findE q.body).1.map (goalOf F L i (fromG h))) else none) else goalsF F L (F.drop (i+1)) (L.drop (i+1)) (i+1) out)=RR:=by
      have:=HS.out
      rw [hq,hdL,goalsF] at this
      exact this
     have Hstep:=Lib.hid hstep
     have Hhs:=Lib.hid hsl
     clear hstep hq hqm hdL hh HS hqa hsl
     go_upto_region 7 with fail
     obtain⟨W1,hW1⟩:∃ W1,W1=wr.alloc (.cells #[str q.type,str q.cs,str q.id,str q.loc,.int .i64 q.how,.slice A' q.body.length c',.slice A2' n2' c2''] 25):=⟨_,rfl⟩
     have hbA:Below wr.heap.size wr W1:=by rw [hW1];exact(Below.refl _ _).alloc (Nat.le_refl _) _
     have hX:=Box7.new wr 25 (str q.type) (str q.cs) (str q.id) (str q.loc) (.int .i64 q.how) (.slice A' q.body.length c') (.slice A2' n2' c2'')
     have hown1:=own_below hown hbA
     rw [← hW1] at hX
     rw [← hW1]
     clear hW1
     have⟨x0,x1,x2,x3,x4,x5,x6⟩:=hX
     have hbel1:=hbel.trans (hbA.mono hbel.size)
     have hby1:=(hby.below (hbA.mono hbel.size)).more hbel1.size
     clear y0 y1 y2 y3 y4 y5 y6 hbA hX hbel hown hby
     by_cases ht:q.type=htmlB
     · have ht1:(q.type == [116,101,120,116,47,104,116,109,108])=true:=by rw [ht];rfl
       have hFn:=LinksOf_any A' q.body.length c' q.body W1 (HM.out.below (Hbel2.out.trans (hbel1.mono Hbel2.out.size))) hby1 hbody
       have HFn:=Lib.hid hFn
       have Ht:=Lib.hid ht
       clear hFn ht hby1
       go_wp2_with fail
       refine HFn.out.mono ?_
       rintro e w3 ⟨S3,c3,rfl,hown3,hb3⟩
       have hlk:=findE_text q.body
       have h2:=findE_two2 q.body
       have hbel3:=hbel1.trans (hb3.mono hbel1.size)
       have hown3b:=own_below hown1 hb3
       have hown1s:=Lib.hid hown1
       have hst:=Hstep.out
       rw [if_pos Ht.out] at hst
       have hl60:=findE_len q.body
       generalize findE q.body=T at *
       obtain⟨ls,fe⟩:=T
       simp only at hown3 h2 hlk hst hl60 ⊢
       have Hlk:=Lib.hid hlk
       have Hown3b:=Lib.hid hown3b
       clear x0 x1 x2 x3 x4 x5 x6 HFn hlk hb3 hown1 hown3b
       by_cases he:fe=0
       · subst he
         rw [if_pos rfl] at hst
         have Hst:=Lib.hid hst
         clear hst h2
         obtain⟨m3,hm3⟩:∃ m3,m3=ls.length:=⟨_,rfl⟩
         rw [← hm3] at hown3 hl60
         have z0:w3.cell? ⟨bt,offt+i,none⟩=some (str h):=by rw [hbel3.cell (by exact hbt)];exact hcu
         have hap0:Apart S3 (.slice S m c):=by
          intro b off e
          subst e
          intro e2
          have h1:=(hown3.lt b rfl).1
          have h2:=(hown1s.out.lt b e2).2
          omega
         have Hap:=Lib.hid hap0
         clear hap0
         have Hl3:=Lib.hid hown3
         have Hm3:=Lib.hid hm3
         rw [← hm3]
         clear hown3 hm3
         obtain⟨ff,hff⟩:∃ ff,ff=fromG h:=⟨_,rfl⟩
         have hffl:ff.length≤605:=by
          rw [hff]
          unfold fromG
          split
          · decide
          · exact Hhs.out
         rw [← hff] at Hst
         have Hff:=Lib.hid hff
         clear hff
         obtain⟨bb,hbb⟩:∃ bb,bb=(h == []):=⟨_,rfl⟩
         have hbr:=hbb.symm
         have Hbb:=Lib.hid hbb
         clear hbb
         go_upto_if 47 with (fail)
         clear hbr
         go_cut [12] (fun s12 wx=>s12=str ff∧w3=wx)
         case first =>
          have hf:=Hff.out
          have hbb:=Hbb.out
          unfold fromG at hf
          by_cases hh:h = []
          · rw [if_pos hh] at hf
            obtain rfl:bb=true:=by rw [hbb,hh];rfl
            have Hf:=Lib.hid hf
            have Hh:=Lib.hid hh
            clear hh hf hbb
            go_wp2_with fail
            go_meet
            exact⟨by rw [Hf.out];rfl,rfl⟩
          · rw [if_neg hh] at hf
            obtain rfl:bb=false:=by rw [hbb];simpa using hh
            have Hf:=Lib.hid hf
            have Hh:=Lib.hid hh
            clear hh hf hbb
            go_wp2_with fail
            go_meet
            exact⟨by rw [Hf.out],rfl⟩
         case rest =>
          obtain⟨rfl,rfl⟩:=hcut
          go_wp2_with fail
          go_loopw [7,50] (GoRel2 F L i m m3 ff ls out S3 w2 w3) (fun _ jv _=>m3 - (intOf jv).toNat)
          case atStart=>exact⟨0,m,c,S,out,rfl,Nat.zero_le _,rfl,Hm.out,rfl,Lib.hid (by simp),Hown3b.out,hbel3,Sl.of_own Hl3.out,Nat.le_refl _,Hap.out⟩
          case round =>
           obtain⟨j,m',c',S',out',rfl,hj,rfl,hm',hmj,HO,hown',hbelx,hsl3,hsz3,hap⟩:=hrel
           have Hm':=Lib.hid hm'
           have Hmj:=Lib.hid hmj
           have Hsl3:=Lib.hid hsl3
           have Hap':=Lib.hid hap
           clear hm' hmj hsl3 hap
           by_cases hjm:j < m3
           · obtain⟨bl,offl,x,hS3,hbl,hdl,l0,l1,l2⟩:=Sl.link Hsl3.out j hjm
             subst hS3
             have hxm:x∈ls:=List.mem_of_mem_drop (by rw [hdl];simp)
             have hxt:=Hlk.out x hxm
             have k0:=l0
             have k1:=l1
             have k2:=l2
             have Hdl:=Lib.hid hdl
             clear l0 l1 l2 hxm hdl
             go_upto_region 17 with fail
             obtain⟨W3,hW3⟩:∃ W3,W3=wr.alloc (.cells #[.int .i64 (x.frm:Nat),.int .i64 (x.til:Nat),str x.text] 42):=⟨_,rfl⟩
             have hbA:Below wr.heap.size wr W3:=by rw [hW3];exact(Below.refl _ _).alloc (Nat.le_refl _) _
             have hxb:W3.heap[wr.heap.size]? = some (.cells #[.int .i64 (x.frm:Nat),.int .i64 (x.til:Nat),str x.text] 42):=by rw [hW3];exact heap_alloc_new wr _
             rw [← hW3]
             clear hW3
             have hbl3:wr.heap.size < W3.heap.size:=by
              rcases Nat.lt_or_ge wr.heap.size W3.heap.size with h' | h'
              · exact h'
              · rw [Array.getElem?_eq_none h'] at hxb;cases hxb
             have c0:W3.cell? ⟨wr.heap.size,0,none⟩=some (.int .i64 (x.frm:Nat)):=by unfold World.cell?;rw [hxb];rfl
             have c1:W3.cell? ⟨wr.heap.size,1,none⟩=some (.int .i64 (x.til:Nat)):=by unfold World.cell?;rw [hxb];rfl
             have c2:W3.cell? ⟨wr.heap.size,2,none⟩=some (str x.text):=by unfold World.cell?;rw [hxb];rfl
             clear k0 k1 k2 hxb
             have KL:=Lib.hid (fun X (hx:MaxLenOk X)=>RLed_any ff x.text X hx (by unfold maxLen;omega) (by unfold maxLen;omega))
             have hLLn:(ledB ff x.text).length≤605:=ledB_len _ _
             obtain⟨LL,hLL⟩:∃ LL,LL=ledB ff x.text:=⟨_,rfl⟩
             rw [← hLL] at KL hLLn
             have HLL:=Lib.hid hLL
             clear hLL
             have hM3:MaxLenOk W3.drew:=HM.out.below (Hbel2.out.trans ((hbelx.trans (hbA.mono hbelx.size)).mono Hbel2.out.size)).drew
             go_cut [15] from 54 to 61 (fun s15 wx=>∃ gbl,s15 = .pointer (some ⟨gbl,0,none⟩)∧wr.heap.size≤gbl∧GB wx gbl ⟨i,x,LL,-1⟩∧Below wr.heap.size wr wx)
             case first =>
              have hS:(fun W':World=>W'.cell? ⟨wr.heap.size,0,none⟩=some (.int .i64 (x.frm:Nat))∧W'.cell? ⟨wr.heap.size,1,none⟩=some (.int .i64 (x.til:Nat))∧W'.cell? ⟨wr.heap.size,2,none⟩=some (str x.text)) (World.drew W3):=⟨c0,c1,c2⟩
              refine wp_region_held (S:=(fun W':World=>W'.cell? ⟨wr.heap.size,0,none⟩=some (.int .i64 (x.frm:Nat))∧W'.cell? ⟨wr.heap.size,1,none⟩=some (.int .i64 (x.til:Nat))∧W'.cell? ⟨wr.heap.size,2,none⟩=some (str x.text))) (by kernel_rfl) ?_
              change wpAnyH _ _ _ _ _ _ _ _ (World.drew W3)
              refine tkH (i:=0) (v:=?_) rfl ?_ hS ?_
              rotate_left 1
              · intro W' hb';go_simp;try exact rfl
              refine tkH (i:=1) (v:=?_) rfl ?_ hS ?_
              rotate_left 1
              · intro W' hb';have q0:=hb'.1;have q1:=hb'.2.1;have q2:=hb'.2.2;go_simp;try exact rfl
              refine tkH (i:=2) (v:=?_) rfl ?_ hS ?_
              rotate_left 1
              · intro W' hb';go_simp;try exact rfl
              refine tkH (i:=3) (v:=?_) rfl ?_ hS ?_
              rotate_left 1
              · intro W' hb';go_simp;try exact rfl
              refine tkH (i:=4) (v:=?_) rfl ?_ hS ?_
              rotate_left 1
              · intro W' hb';have q0:=hb'.1;have q1:=hb'.2.1;have q2:=hb'.2.2;go_simp;try exact rfl
              refine wpAnyH_all (rs:=[5,7]) (by kernel_rfl) (by simp) ?_
              intro kk hkk
              simp only [List.mem_cons,List.not_mem_nil,or_false] at hkk
              rcases hkk with rfl | rfl
              · go_simp
                refine wpOp_callF rfl (by kernel_rfl) 47 #[str ff,str x.text] (by go_simp;try rfl) _ _ (KL.out _ hM3) ?_
                intro wd hbc
                have hblc:wr.heap.size < wd.heap.size:=Nat.lt_of_lt_of_le hbl3 hbc.size
                have hS:=And.intro ((hbc.cell (p:=⟨wr.heap.size,0,none⟩) hbl3).trans c0) (And.intro ((hbc.cell (p:=⟨wr.heap.size,1,none⟩) hbl3).trans c1) ((hbc.cell (p:=⟨wr.heap.size,2,none⟩) hbl3).trans c2))
                have hSc:=hS
                refine⟨hS,?_⟩
                refine tkH (i:=6) (v:=?_) rfl ?_ hS ?_
                rotate_left 1
                · intro W' hb';go_simp;try exact rfl
                refine wpAnyH_all (rs:=[7]) (by kernel_rfl) (by simp) ?_
                intro kk hkk
                simp only [List.mem_singleton] at hkk
                subst hkk
                go_simp
                refine wpOp_runv rfl (by kernel_rfl) (.pointer (some ⟨wd.heap.size,0,none⟩)) (wd.alloc (.cells #[.int .i64 0,.int .i64 0,.int .i64 0,.string ⟨#[]⟩,.string ⟨#[]⟩,.int .i64 0] 44)) (by go_simp) ?_
                have hS:=And.intro ((World.cell?_alloc_lt wd (.cells #[.int .i64 0,.int .i64 0,.int .i64 0,.string ⟨#[]⟩,.string ⟨#[]⟩,.int .i64 0] 44) ⟨wr.heap.size,0,none⟩ hblc).trans hS.1) (And.intro ((World.cell?_alloc_lt wd (.cells #[.int .i64 0,.int .i64 0,.int .i64 0,.string ⟨#[]⟩,.string ⟨#[]⟩,.int .i64 0] 44) ⟨wr.heap.size,1,none⟩ hblc).trans hS.2.1) ((World.cell?_alloc_lt wd (.cells #[.int .i64 0,.int .i64 0,.int .i64 0,.string ⟨#[]⟩,.string ⟨#[]⟩,.int .i64 0] 44) ⟨wr.heap.size,2,none⟩ hblc).trans hS.2.2))
                refine⟨hS,?_⟩
                refine wpAnyH_all (rs:=[8]) (by kernel_rfl) (by simp) ?_
                intro kk hkk
                simp only [List.mem_singleton] at hkk
                subst hkk
                go_simp
                have hbcg:=(Below.refl wd.heap.size wd).alloc (Nat.le_refl _) (.cells #[.int .i64 (i:Nat),.int .i64 (x.frm:Nat),.int .i64 (x.til:Nat),str x.text,str LL,.int .i64 (-1)] 44)
                have gb:GB (wd.alloc (.cells #[.int .i64 (i:Nat),.int .i64 (x.frm:Nat),.int .i64 (x.til:Nat),str x.text,str LL,.int .i64 (-1)] 44)) wd.heap.size ⟨i,x,LL,-1⟩:=heap_alloc_new wd _
                refine wpOp_store rfl (by kernel_rfl) (wd.alloc (.cells #[.int .i64 (i:Nat),.int .i64 (x.frm:Nat),.int .i64 (x.til:Nat),str x.text,str LL,.int .i64 (-1)] 44)) (by go_simp;try rfl) ?_
                have hS:=And.intro ((World.cell?_alloc_lt wd (.cells #[.int .i64 (i:Nat),.int .i64 (x.frm:Nat),.int .i64 (x.til:Nat),str x.text,str LL,.int .i64 (-1)] 44) ⟨wr.heap.size,0,none⟩ hblc).trans hSc.1) (And.intro ((World.cell?_alloc_lt wd (.cells #[.int .i64 (i:Nat),.int .i64 (x.frm:Nat),.int .i64 (x.til:Nat),str x.text,str LL,.int .i64 (-1)] 44) ⟨wr.heap.size,1,none⟩ hblc).trans hSc.2.1) ((World.cell?_alloc_lt wd (.cells #[.int .i64 (i:Nat),.int .i64 (x.frm:Nat),.int .i64 (x.til:Nat),str x.text,str LL,.int .i64 (-1)] 44) ⟨wr.heap.size,2,none⟩ hblc).trans hSc.2.2))
                refine⟨hS,?_⟩
                refine wpAnyH_done (by kernel_rfl) ?_ _
                have hbyB:Below wr.heap.size wr (wd.alloc (.cells #[.int .i64 (i:Nat),.int .i64 (x.frm:Nat),.int .i64 (x.til:Nat),str x.text,str LL,.int .i64 (-1)] 44)):=hbA.drew.trans ((hbc.trans (hbcg.mono hbc.size)).mono hbA.size)
                have Hfin:=Lib.hid (And.intro (Nat.le_of_lt hblc) (And.intro gb hbyB))
                clear gb hbyB hbcg hS hSc
                go_simp
                go_wp2_with fail
                go_meet
                exact⟨_,rfl,Hfin.out⟩
              · go_simp
                refine wpOp_runv rfl (by kernel_rfl) (.pointer (some ⟨W3.heap.size,0,none⟩)) ((World.drew W3).alloc (.cells #[.int .i64 0,.int .i64 0,.int .i64 0,.string ⟨#[]⟩,.string ⟨#[]⟩,.int .i64 0] 44)) (by go_simp;try rfl) ?_
                have hS:=And.intro ((World.cell?_alloc_lt (World.drew W3) (.cells #[.int .i64 0,.int .i64 0,.int .i64 0,.string ⟨#[]⟩,.string ⟨#[]⟩,.int .i64 0] 44) ⟨wr.heap.size,0,none⟩ hbl3).trans hS.1) (And.intro ((World.cell?_alloc_lt (World.drew W3) (.cells #[.int .i64 0,.int .i64 0,.int .i64 0,.string ⟨#[]⟩,.string ⟨#[]⟩,.int .i64 0] 44) ⟨wr.heap.size,1,none⟩ hbl3).trans hS.2.1) ((World.cell?_alloc_lt (World.drew W3) (.cells #[.int .i64 0,.int .i64 0,.int .i64 0,.string ⟨#[]⟩,.string ⟨#[]⟩,.int .i64 0] 44) ⟨wr.heap.size,2,none⟩ hbl3).trans hS.2.2))
                have gb:GB ((World.drew W3).alloc (.cells #[.int .i64 0,.int .i64 0,.int .i64 0,.string ⟨#[]⟩,.string ⟨#[]⟩,.int .i64 0] 44)) W3.heap.size ⟨0,⟨0,0,[]⟩,[],0⟩:=heap_alloc_new (World.drew W3) _
                have hbB:Below wr.heap.size wr ((World.drew W3).alloc (.cells #[.int .i64 0,.int .i64 0,.int .i64 0,.string ⟨#[]⟩,.string ⟨#[]⟩,.int .i64 0] 44)):=hbA.drew.alloc hbA.size _
                have hM4:MaxLenOk ((World.drew W3).alloc (.cells #[.int .i64 0,.int .i64 0,.int .i64 0,.string ⟨#[]⟩,.string ⟨#[]⟩,.int .i64 0] 44)):=hM3.below ((Below.refl _ _).alloc (Nat.le_refl _) _)
                refine⟨hS,?_⟩
                generalize (World.drew W3).alloc (.cells #[.int .i64 0,.int .i64 0,.int .i64 0,.string ⟨#[]⟩,.string ⟨#[]⟩,.int .i64 0] 44)=W4 at hS gb hbB hM4 ⊢
                have hbl4:wr.heap.size < W4.heap.size:=Nat.lt_trans hbl3 gb.lt
                refine wpAnyH_all (rs:=[5]) (by kernel_rfl) (by simp) ?_
                intro kk hkk
                simp only [List.mem_singleton] at hkk
                subst hkk
                go_simp
                refine wpOp_callF rfl (by kernel_rfl) 47 #[str ff,str x.text] (by go_simp;try rfl) _ _ (KL.out _ hM4) ?_
                intro wd hbc
                have hS:=And.intro ((hbc.cell (p:=⟨wr.heap.size,0,none⟩) hbl4).trans hS.1) (And.intro ((hbc.cell (p:=⟨wr.heap.size,1,none⟩) hbl4).trans hS.2.1) ((hbc.cell (p:=⟨wr.heap.size,2,none⟩) hbl4).trans hS.2.2))
                have gbd:=gb.below hbc
                have hbD:=hbB.trans (hbc.mono hbB.size)
                refine⟨hS,?_⟩
                refine tkH (i:=6) (v:=?_) rfl ?_ hS ?_
                rotate_left 1
                · intro W' hb';go_simp;try exact rfl
                refine wpAnyH_all (rs:=[8]) (by kernel_rfl) (by simp) ?_
                intro kk hkk
                simp only [List.mem_singleton] at hkk
                subst hkk
                go_simp
                have⟨g0,g1,g2,g3,g4,g5⟩:=gbd.box
                have f0:=gbd.fz 0
                have f1:=gbd.fz 1
                have f2:=gbd.fz 2
                have f3:=gbd.fz 3
                have f4:=gbd.fz 4
                have f5:=gbd.fz 5
                have hfar:∀ (X:World) (k k':Nat) (u:Value),(X.setCell ⟨W3.heap.size,k,none⟩ u).cell? ⟨wr.heap.size,k',none⟩=X.cell? ⟨wr.heap.size,k',none⟩:=fun X k k' u=>World.cell?_setCell_other _ _ _ _ (by intro e;injection e with e;omega)
                have Hfar:=Lib.hid hfar
                clear hfar
                refine wpOp_store rfl (by kernel_rfl) ((((((wd.setCell ⟨W3.heap.size,0,none⟩ (.int .i64 (i:Nat))).setCell ⟨W3.heap.size,1,none⟩ (.int .i64 (x.frm:Nat))).setCell ⟨W3.heap.size,2,none⟩ (.int .i64 (x.til:Nat))).setCell ⟨W3.heap.size,3,none⟩ (str x.text)).setCell ⟨W3.heap.size,4,none⟩ (str LL)).setCell ⟨W3.heap.size,5,none⟩ (.int .i64 (-1))) (by go_simp;try rfl) ?_
                clear g0 g1 g2 g3 g4 g5 f0 f1 f2 f3 f4 f5
                have hF:=Hfar.out
                refine⟨⟨by rw [hF,hF,hF,hF,hF,hF];exact hS.1,by rw [hF,hF,hF,hF,hF,hF];exact hS.2.1,by rw [hF,hF,hF,hF,hF,hF];exact hS.2.2⟩,?_⟩
                clear hF
                refine wpAnyH_done (by kernel_rfl) ?_ _
                have hf1:=gbd.fill ⟨i,x,LL,-1⟩
                have hf2:=below_six hbD (Nat.le_of_lt hbl3) (.int .i64 (i:Nat)) (.int .i64 (x.frm:Nat)) (.int .i64 (x.til:Nat)) (str x.text) (str LL) (.int .i64 (-1)) 0 1 2 3 4 5
                simp only at hf1
                have Hfin:=Lib.hid (And.intro (Nat.le_of_lt hbl3) (And.intro hf1 hf2))
                clear hf1 hf2 hS
                go_simp
                go_wp2_with fail
                go_meet
                exact⟨_,rfl,Hfin.out⟩
             case rest =>
              obtain⟨gbl,rfl,hgw,gb,hbyB⟩:=hcut
              have Hgb:=Lib.hid gb
              have HbyB:=Lib.hid hbyB
              have HownX:=Lib.hid hown'
              have Hbelx:=Lib.hid hbelx
              obtain⟨wL,rfl⟩:∃ wL,wL=wr:=⟨_,rfl⟩
              obtain⟨wg,rfl⟩:∃ wg,wg=wc:=⟨_,rfl⟩
              clear gb hbyB hown' c0 c1 c2 KL hM3
              have w63:IntKind.i64.wrap ((n:Int) - 1)=(n:Int) - 1:=by rw [IntKind.wrap_i64];omega
              go_upto_region 18 with fail
              go_upto_block 4 with fail
              go_cut [16,17,18] from 64 to 123 (fun s16 s17 s18 wx=>GB wx gbl (goalOf F L i ff x)∧Below wL.heap.size wL wx)
              case first=>as_aux_lemma =>
               go_wp2_with fail
               go_loopw [16] (fun sv wx=>DownRel F L n i gbl x LL wL sv wx) (fun sv _=>(intOf sv+1).toNat)
               case atStart =>
                refine⟨n,rfl,Nat.le_refl _,fun _=>rfl,?_,HbyB.out⟩
                have e:(if LL = [] then (-1:Int) else findF (F.drop n) (L.drop n) (bareB LL) n) = -1:=by
                 split
                 · rfl
                 · rw [List.drop_of_length_le (by rw [← Hn.out];exact Nat.le_refl _),findF]
                rw [e]
                exact Hgb.out
               case round=>as_aux_lemma =>
                obtain⟨k,rfl,hkn,hk0,gb,hbyD⟩:=hrel
                have⟨g0,g1,g2,g3,g4,g5⟩:=gb.box
                have Hgbr:=Lib.hid gb
                have HbyD:=Lib.hid hbyD
                have Hk0:=Lib.hid hk0
                clear gb hbyD hk0
                cases k with
                | zero=>as_aux_lemma =>
                 have d0:decide ((0:Int)≤((0:Nat):Int) - 1)=false:=by decide
                 have hgo:goalOf F L i ff x=⟨i,x,LL,if LL = [] then -1 else findF (F.drop 0) (L.drop 0) (bareB LL) 0⟩:=by
                  unfold goalOf findG
                  rw [← HLL.out,List.drop_zero,List.drop_zero]
                 rw [← hgo] at Hgbr
                 clear hgo g0 g1 g2 g3 g4 g5
                 go_wp2_with fail
                 go_meet
                 exact⟨Hgbr.out,HbyD.out⟩
                | succ m =>
                 have e1:(((m+1:Nat):Int) - 1)=((m:Nat):Int):=by omega
                 simp only [e1]
                 have hmn:m < n:=by omega
                 have i0:(0:Int)≤(m:Int):=by omega
                 have d0:decide ((0:Int)≤((m:Nat):Int))=true:=by simp
                 clear e1
                 by_cases hLL:LL = []
                 · have hb0:(LL == [])=true:=by rw [hLL];rfl
                   have hgo:goalOf F L i ff x=⟨i,x,LL,if LL = [] then -1 else findF (F.drop (m+1)) (L.drop (m+1)) (bareB LL) (m+1)⟩:=by
                    unfold goalOf
                    rw [← HLL.out,if_pos hLL,if_pos hLL]
                   rw [← hgo] at Hgbr
                   clear hgo hLL
                   go_wp2_with fail
                   go_meet
                   exact⟨Hgbr.out,HbyD.out⟩
                 · have hb0:(LL == [])=false:=by simpa using hLL
                   have HLN:=Lib.hid hLL
                   have hbw:=Hbelx.out.trans (HbyD.out.mono Hbelx.out.size)
                   obtain⟨b3,off3,q3,A5,n5,c5',A6,n6,c6,hS5,hbS5,hq3,hqa3,y0,y1,y2,y3,y4,y5,y6⟩:=(Hs1.out.below hbw).cells7 hmn
                   injection hS5 with hS5
                   injection hS5 with hS5 hS6
                   subst hS5
                   subst hS6
                   obtain⟨A7,c7,A8,c8,hv7,hbd7,_⟩:=hqa3.open
                   obtain⟨bt3,offt3,u3,hS7,hbt3,hu3,hcu3⟩:=Hs2.out.at_ hmn
                   injection hS7 with hS7
                   injection hS7 with hS7 hS8
                   subst hS7
                   subst hS8
                   have hmL:m < L.length:=by rw [Hwl.out];exact hmn
                   have hdL3:=List.drop_eq_getElem_cons (l:=L) (i:=m) hmL
                   rw [List.getElem?_map,List.getElem?_eq_getElem hmL] at hu3
                   injection hu3 with hu3
                   have hsl3:=Hws.out _ (List.getElem_mem hmL)
                   obtain⟨h3,hh3⟩:∃ h,h=L[m]:=⟨_,rfl⟩
                   rw [← hh3] at hdL3 hu3 hsl3
                   subst hu3
                   have hdn:=findF_down F L (bareB LL) m q3 h3 hq3 hdL3
                   have Hdn:=Lib.hid hdn
                   have Hsl3b:=Lib.hid hsl3
                   have Hbw:=Lib.hid hbw
                   have hty:q3.type.length≤maxLen:=hbd7.1
                   have hid1:q3.id.length≤120:=Hids.out q3 (List.mem_of_mem_drop (i:=m) (by rw [hq3];simp))
                   have KM:=Lib.hid (fun X=>IsMany_any q3.type X hty)
                   have z0:wr.cell? ⟨bt,offt+m,none⟩=some (str h3):=by rw [hbw.cell (by exact hbt)];exact hcu3
                   clear hLL hdn hq3 hqa3 hv7 hbd7 hdL3 hh3 hbw hty
                   go_upto_region 22 with fail
                   obtain⟨W4,hW4⟩:∃ W4,W4=wr.alloc (.cells #[str q3.type,str q3.cs,str q3.id,str q3.loc,.int .i64 q3.how,.slice A5 n5 c5',.slice A6 n6 c6] 25):=⟨_,rfl⟩
                   have hb4:Below wr.heap.size wr W4:=by rw [hW4];exact(Below.refl _ _).alloc (Nat.le_refl _) _
                   have hX4:=Box7.new wr 25 (str q3.type) (str q3.cs) (str q3.id) (str q3.loc) (.int .i64 q3.how) (.slice A5 n5 c5') (.slice A6 n6 c6)
                   rw [← hW4] at hX4
                   have hbt4:bt < wr.heap.size:=by have:=Hbw.out.size;omega
                   have hgl4:gbl < wr.heap.size:=Hgbr.out.lt
                   have hS4:Box7 W4 wr.heap.size (str q3.type) (str q3.cs) (str q3.id) (str q3.loc) (.int .i64 q3.how) (.slice A5 n5 c5') (.slice A6 n6 c6)∧W4.cell? ⟨bt,offt+m,none⟩=some (str h3)∧GB W4 gbl ⟨i,x,LL,if LL = [] then -1 else findF (F.drop (m+1)) (L.drop (m+1)) (bareB LL) (m+1)⟩:=
                    ⟨hX4,(hb4.cell (p:=⟨bt,offt+m,none⟩) hbt4).trans z0,Hgbr.out.below hb4⟩
                   have HS4:=Lib.hid hS4
                   have Hb4:=Lib.hid hb4
                   have hM4:∀ W',Below W4.heap.size W4 W'→MaxLenOk W':=fun W' h=>HM.out.below (((Hbel2.out.trans (Hbw.out.mono Hbel2.out.size)).trans (hb4.mono (Hbel2.out.trans (Hbw.out.mono Hbel2.out.size)).size)).trans (h.mono ((Hbel2.out.trans (Hbw.out.mono Hbel2.out.size)).trans (hb4.mono (Hbel2.out.trans (Hbw.out.mono Hbel2.out.size)).size)).size))
                   have KN1:=Lib.hid (fun W' (h:Below W4.heap.size W4 W')=>no_any h3 W' (hM4 W' h) (by omega))
                   have KN2:=Lib.hid (fun W' (h:Below W4.heap.size W4 W')=>no_any LL W' (hM4 W' h) (by omega))
                   obtain⟨mm,hmm⟩:∃ mm,mm=manyB q3.type:=⟨_,rfl⟩
                   rw [← hmm] at KM
                   obtain⟨tb,htb⟩:∃ tb,tb=bareB LL:=⟨_,rfl⟩
                   rw [← htb] at KN2
                   obtain⟨hb,hhb⟩:∃ hb,hb=bareB h3:=⟨_,rfl⟩
                   rw [← hhb] at KN1
                   have Hmm:=Lib.hid hmm
                   have Htb:=Lib.hid htb
                   have Hhb:=Lib.hid hhb
                   rw [← hW4]
                   have⟨x0,x1,x2,x3,x4,x5,x6⟩:=hX4
                   clear hW4 hS4 hb4 hM4 hmm htb hhb y0 y1 y2 y3 y4 y5 y6 z0 g0 g1 g2 g3 g4 g5 hX4 hcu3
                   have hw1:IntKind.i64.wrap ((m:Int) - 1)=(m:Int) - 1:=by rw [IntKind.wrap_i64];omega
                   cases mm with
                   | true=>as_aux_lemma =>
                    go_upto_region 20 with fail
                    refine(KM.out _).mono ?_
                    rintro e wM ⟨rfl,rfl⟩
                    go_wp2_with fail
                    refine⟨⟨m,rfl,by omega,fun h=>absurd h HLN.out,?_,HbyD.out.trans (Hb4.out.mono HbyD.out.size)⟩,by simp [intOf] <;> omega⟩
                    rw [if_neg HLN.out]
                    have h1:=HS4.out.2.2
                    rw [if_neg HLN.out] at h1
                    rw [Hdn.out]
                    have h2:isB (bareB LL) q3 h3=false:=by unfold isB;rw [← Hmm.out];rfl
                    rw [h2]
                    simpa using h1
                   | false =>
                    go_upto_region 23 with fail
                    refine(KM.out _).mono ?_
                    rintro e wM ⟨rfl,hwM⟩
                    rw [hwM]
                    clear hwM
                    go_upto_region 23 with fail
                    obtain⟨l0,hl0⟩:∃ b,(q3.loc == [])=b:=⟨_,rfl⟩
                    obtain⟨h0,hh0⟩:∃ b,(h3 == [])=b:=⟨_,rfl⟩
                    obtain⟨eb,heb⟩:∃ b,(hb == tb)=b:=⟨_,rfl⟩
                    obtain⟨cid,hcid⟩:∃ b,b=Lib.hasPrefix tb [99,105,100,58]:=⟨_,rfl⟩
                    obtain⟨j0,hj0⟩:∃ b,(q3.id == [])=b:=⟨_,rfl⟩
                    obtain⟨je,hje⟩:∃ b,((99 :: 105 :: 100 :: 58 :: q3.id) == tb)=b:=⟨_,rfl⟩
                    have hp24:=HasPrefix_any tb [99,105,100,58]
                    rw [← hcid] at hp24
                    have hIs:isB tb q3 h3=if cid then !j0 && je else !l0 && (!h0 && eb):=by
                     unfold isB
                     rw [← Hmm.out,← hcid,← Hhb.out,hl0,hh0,heb,hj0]
                     cases cid with
                     | true =>
                      have h1:=cid_is tb q3.id hcid.symm
                      have h2:((99 :: 105 :: 100 :: 58 :: q3.id) == tb)=(q3.id == tb.drop 4):=h1
                      rw [← h2,hje]
                      rfl
                     | false=>rfl
                    have HIs:=Lib.hid hIs
                    have Hp24:=Lib.hid hp24
                    have Hl0:=Lib.hid hl0
                    have Hh0:=Lib.hid hh0
                    have Heb:=Lib.hid heb
                    have Hj0:=Lib.hid hj0
                    have Hje:=Lib.hid hje
                    have hcatl:q3.id.length+4≤9223372036854775807:=by omega
                    clear hcid hp24 hIs hl0 hh0 heb hj0 hje KM
                    go_cut [18] from 80 to 103 (fun s18 wx=>s18 = .bool (!l0 && (!h0 && eb))∧Below W4.heap.size W4 wx)
                    case first=>as_aux_lemma =>
                     have hs0:=Hl0.out
                     have hs1:=Hh0.out
                     have hs2:=Heb.out
                     have⟨_,z0,gbz⟩:=HS4.out
                     have⟨g0,g1,g2,g3,g4,g5⟩:=gbz.box
                     simp only at g4
                     cases l0 with
                     | true =>
                      go_quiet (fail)
                      go_wp2_with fail
                      go_meet
                      exact⟨by simp,belN (Below.refl _ _) _⟩
                     | false =>
                      cases h0 with
                      | true =>
                       go_quiet (fail)
                       go_wp2_with fail
                       go_meet
                       exact⟨by simp,belN (Below.refl _ _) _⟩
                      | false =>
                       have hbc:Below W4.heap.size W4 W4.drew:=(Below.refl _ W4).drew
                       have hS:Box7 W4.drew wr.heap.size (str q3.type) (str q3.cs) (str q3.id) (str q3.loc) (.int .i64 q3.how) (.slice A5 n5 c5') (.slice A6 n6 c6)∧W4.drew.cell? ⟨bt,offt+m,none⟩=some (str h3)∧W4.drew.cell? ⟨gbl,4,none⟩=some (str LL):=⟨HS4.out.1,z0,g4⟩
                       have hlt4:=HS4.out.1.lt
                       have hkp:∀ W' W'':World,Below W4.heap.size W4 W'→Below W'.heap.size W' W''→(Box7 W' wr.heap.size (str q3.type) (str q3.cs) (str q3.id) (str q3.loc) (.int .i64 q3.how) (.slice A5 n5 c5') (.slice A6 n6 c6)∧W'.cell? ⟨bt,offt+m,none⟩=some (str h3)∧W'.cell? ⟨gbl,4,none⟩=some (str LL))→(Box7 W'' wr.heap.size (str q3.type) (str q3.cs) (str q3.id) (str q3.loc) (.int .i64 q3.how) (.slice A5 n5 c5') (.slice A6 n6 c6)∧W''.cell? ⟨bt,offt+m,none⟩=some (str h3)∧W''.cell? ⟨gbl,4,none⟩=some (str LL)):=by
                        rintro W' W'' h1 h2 ⟨h3,h4,h5⟩
                        exact⟨h3.below h2,(h2.cell (p:=⟨bt,offt+m,none⟩) (by have:=h1.size;show bt < _;omega)).trans h4,(h2.cell (p:=⟨gbl,4,none⟩) (by have:=h1.size;show gbl < _;omega)).trans h5⟩
                       have Hkp:=Lib.hid hkp
                       clear hkp g0 g1 g2 g3 g5 z0 g4 x0 x1 x2 x3 x4 x5 x6 gbz
                       go_region_held (fun w'=>(w'.cell? ⟨wr.heap.size,0,none⟩=some (str q3.type)∧w'.cell? ⟨wr.heap.size,1,none⟩=some (str q3.cs)∧w'.cell? ⟨wr.heap.size,2,none⟩=some (str q3.id)∧w'.cell? ⟨wr.heap.size,3,none⟩=some (str q3.loc)∧w'.cell? ⟨wr.heap.size,4,none⟩=some (.int .i64 q3.how)∧w'.cell? ⟨wr.heap.size,5,none⟩=some (.slice A5 n5 c5')∧w'.cell? ⟨wr.heap.size,6,none⟩=some (.slice A6 n6 c6))∧w'.cell? ⟨bt,offt+m,none⟩=some (str h3)∧w'.cell? ⟨gbl,4,none⟩=some (str LL)) (exact hS) ((first
                        | (go_at_call 44;(with_reducible refine(KN1.out _ hbc).mono ?_);rintro e wn ⟨rfl,hb⟩;have hS:=Hkp.out _ _ hbc hb hS;have hbc:=hbc.trans (hb.mono hbc.size);clear hb)
                        | (go_at_call 44;(with_reducible refine(KN2.out _ hbc).mono ?_);rintro e wo ⟨rfl,hb⟩;have hS:=Hkp.out _ _ hbc hb hS;have hbc:=hbc.trans (hb.mono hbc.size);clear hb)))
                       all_goals (go_wp2_with fail;go_meet;exact⟨by simp,hbc⟩)
                    case rest=>as_aux_lemma =>
                     obtain⟨rfl,hbc⟩:=hcut
                     obtain⟨w5,rfl⟩:∃ w5,w5=wc:=⟨_,rfl⟩
                     have hbx5:=HS4.out.1.below hbc
                     have gb5:=HS4.out.2.2.below hbc
                     have⟨g0,g1,g2,g3,g4,g5⟩:=gb5.box
                     simp only at g4
                     have Hbx5:=Lib.hid hbx5
                     have Hgb5:=Lib.hid gb5
                     have Hbc5:=Lib.hid hbc
                     have hlt5:wr.heap.size < w5.heap.size:=hbx5.lt
                     have hlg5:gbl < w5.heap.size:=gb5.lt
                     clear hbx5 gb5 hbc g0 g1 g2 g3 g5 x0 x1 x2 x3 x4 x5 x6
                     go_upto_if 107 with fail
                     refine(KN2.out w5 Hbc5.out).mono ?_
                     rintro e w6 ⟨rfl,hb6⟩
                     clear g4
                     go_upto_if 107 with fail
                     refine(Hp24.out w6).mono ?_
                     rintro e _ ⟨rfl,rfl⟩
                     go_upto_if 107 with fail
                     have hbc6:=Hbc5.out.trans (hb6.mono Hbc5.out.size)
                     have hbx6:=Hbx5.out.below hb6
                     have gb6:=Hgb5.out.below hb6
                     have Hbx6:=Lib.hid hbx6
                     have Hgb6:=Lib.hid gb6
                     have Hbc6:=Lib.hid hbc6
                     have hlt6:wr.heap.size < w6.heap.size:=hbx6.lt
                     have hlg6:gbl < w6.heap.size:=gb6.lt
                     clear hb6 hbc6 hbx6 gb6
                     go_cut [18] from 108 to 121 (fun s18 wx=>s18 = .bool (if cid then !j0 && je else !l0 && (!h0 && eb))∧Below w6.heap.size w6 wx)
                     case first=>as_aux_lemma =>
                      cases cid with
                      | false =>
                       go_wp2_with fail
                       go_meet
                       exact⟨by simp,Below.refl _ _⟩
                      | true =>
                       have hs0:=Hj0.out
                       have hs1:=Hje.out
                       have hbx6:=Hbx6.out
                       have⟨x0,x1,x2,x3,x4,x5,x6⟩:=hbx6
                       have⟨g0,g1,g2,g3,g4,g5⟩:=Hgb6.out.box
                       simp only at g4
                       cases j0 with
                       | true =>
                        go_wp2_with fail
                        go_quiet (fail)
                        go_wp2_with fail
                        go_meet
                        exact⟨by simp,belN (Below.refl _ _) _⟩
                       | false =>
                        have hbc:Below w6.heap.size w6 w6.drew:=(Below.refl _ w6).drew
                        have hS:Box7 w6.drew wr.heap.size (str q3.type) (str q3.cs) (str q3.id) (str q3.loc) (.int .i64 q3.how) (.slice A5 n5 c5') (.slice A6 n6 c6)∧w6.drew.cell? ⟨gbl,4,none⟩=some (str LL):=⟨hbx6,g4⟩
                        have hkp:∀ W' W'':World,Below w6.heap.size w6 W'→Below W'.heap.size W' W''→(Box7 W' wr.heap.size (str q3.type) (str q3.cs) (str q3.id) (str q3.loc) (.int .i64 q3.how) (.slice A5 n5 c5') (.slice A6 n6 c6)∧W'.cell? ⟨gbl,4,none⟩=some (str LL))→(Box7 W'' wr.heap.size (str q3.type) (str q3.cs) (str q3.id) (str q3.loc) (.int .i64 q3.how) (.slice A5 n5 c5') (.slice A6 n6 c6)∧W''.cell? ⟨gbl,4,none⟩=some (str LL)):=by
                         rintro W' W'' h1 h2 ⟨h3,h5⟩
                         exact⟨h3.below h2,(h2.cell (p:=⟨gbl,4,none⟩) (by have:=h1.size;show gbl < _;omega)).trans h5⟩
                        have Hkp:=Lib.hid hkp
                        clear hkp g0 g1 g2 g3 g5 g4 x0 x1 x2 x3 x4 x5 x6 hbx6
                        go_wp2_with fail
                        go_region_held (fun w'=>(w'.cell? ⟨wr.heap.size,0,none⟩=some (str q3.type)∧w'.cell? ⟨wr.heap.size,1,none⟩=some (str q3.cs)∧w'.cell? ⟨wr.heap.size,2,none⟩=some (str q3.id)∧w'.cell? ⟨wr.heap.size,3,none⟩=some (str q3.loc)∧w'.cell? ⟨wr.heap.size,4,none⟩=some (.int .i64 q3.how)∧w'.cell? ⟨wr.heap.size,5,none⟩=some (.slice A5 n5 c5')∧w'.cell? ⟨wr.heap.size,6,none⟩=some (.slice A6 n6 c6))∧w'.cell? ⟨gbl,4,none⟩=some (str LL)) (exact hS) ((go_at_call 44;(with_reducible refine(KN2.out _ (Hbc6.out.trans (hbc.mono Hbc6.out.size))).mono ?_);rintro e wo ⟨rfl,hb⟩;have hS:=Hkp.out _ _ hbc hb hS;have hbc:=hbc.trans (hb.mono hbc.size);clear hb))
                        all_goals (go_wp2_with fail;go_meet;exact⟨by simp,hbc⟩)
                     case rest=>as_aux_lemma =>
                      obtain⟨rfl,hb7⟩:=hcut
                      obtain⟨w7,rfl⟩:∃ w7,w7=wc:=⟨_,rfl⟩
                      have hbc7:=Hbc6.out.trans (hb7.mono Hbc6.out.size)
                      have gb7:=Hgb6.out.below hb7
                      have hbb7:=(HbyD.out.trans (Hb4.out.mono HbyD.out.size)).trans (hbc7.mono (HbyD.out.trans (Hb4.out.mono HbyD.out.size)).size)
                      obtain⟨isb,hisb⟩:∃ b,b=(if cid then !j0 && je else !l0 && (!h0 && eb)):=⟨_,rfl⟩
                      rw [← hisb] at HIs ⊢
                      have⟨g0,g1,g2,g3,g4,g5⟩:=gb7.box
                      have gfz:=gb7.fz 5
                      rw [if_neg HLN.out] at gb7
                      have gs7:=gb7.set5 (m:Int)
                      have hbs7:=hbb7.setCell (p:=⟨gbl,5,none⟩) hgw (.int .i64 (m:Int))
                      have Hgb7:=Lib.hid gb7
                      have Hbb7:=Lib.hid hbb7
                      have Hgs7:=Lib.hid (And.intro gs7 hbs7)
                      clear hisb hb7 hbc7 gb7 hbb7 gs7 hbs7 g0 g1 g2 g3 g4
                      cases isb with
                      | false =>
                       go_wp2_with fail
                       refine⟨⟨m,rfl,by omega,fun h=>absurd h HLN.out,?_,Hbb7.out⟩,by simp [intOf] <;> omega⟩
                       rw [if_neg HLN.out,Hdn.out,← Htb.out,HIs.out]
                       have:=Hgb7.out
                       rw [← Htb.out] at this
                       simpa using this
                      | true =>
                       go_wp2_with fail
                       refine⟨⟨m,rfl,by omega,fun h=>absurd h HLN.out,?_,Hgs7.out.2⟩,by simp [intOf] <;> omega⟩
                       rw [if_neg HLN.out,Hdn.out,← Htb.out,HIs.out]
                       exact Hgs7.out.1
              case rest =>
               obtain⟨gb,hbyB⟩:=hcut
               obtain⟨wd,rfl⟩:∃ wd,wd=wc:=⟨_,rfl⟩
               have hown4:wd.ownsRow w2.heap.size 44 6 (.slice S' m' c') m' (goalC out'):=own_below HownX.out hbyB
               have hbel4:=hbelx.trans (hbyB.mono hbelx.size)
               have hsl4:=(Sl.below Hsl3.out (hbyB.mono hsz3))
               have hsz4:=Nat.le_trans hsz3 hbyB.size
               obtain⟨gx,hgx⟩:∃ gx,gx=goalOf F L i ff x:=⟨_,rfl⟩
               rw [← hgx] at gb
               have Hgx:=Lib.hid hgx
               have⟨g0,g1,g2,g3,g4,g5⟩:=gb.box
               have hone:∀ u∈goalCells gx,u.oneCell'=true:=by
                intro u hu
                exact goalC_one [gx] u (by simpa [goalC] using hu)
               have Hone:=Lib.hid hone
               have hmb:m'≤800:=by have:=Hmj.out;omega
               have h63:m'+1≤maxLen:=by unfold maxLen;omega
               have h47:(m'+1) * 64≤140737488355328:=by omega
               have hbase:w2.heap.size≤wd.heap.size:=hbel4.size
               have Hown4:=Lib.hid hown4
               have Hsl4:=Lib.hid hsl4
               have Hbel4:=Lib.hid hbel4
               obtain⟨hi0,hz0,hz1,hz2⟩:=HI0.out
               clear hgx hone HownX hown4 hsl4 hbel4 hbelx hbyB gb
               go_upto_region 28 with fail
               clear w63 hgw hbA hbl3 z0 hcu hbel3 ht1 hbody hbc hbm hbt hbS hffl hxt hLLn hsz3
               go_wp2_with (at_builtin;refine wpList_app2 rfl _ _ 36 rfl w2.heap.size 44 i0 _ 6 64 Tryz.underlying36 hi0 hz0 hz1 hz2 rfl (by decide) S' m' c' (goalC out') rfl (Hown4.out.alloc _) _ _ 1 1 (goalCells gx) rfl (Sl.row _ _ 6 1 _ rfl) Hone.out h63 h47 ?c2 ?_)
               case c2=>simp;omega
               intro S5 c5 w5 hown5 hb5 hgr5 hat5
               have hal:=Hsl4.out.alloc hsz4 (.cells (goalCells gx).toArray 44)
               have hsl5:=Sl.grown2 hal (by simp;omega) hgr5 Hap'.out
               have hap5:=Apart.next Hap'.out hal (by simp;omega) (by omega) (by rw [World.size_alloc];exact hat5)
               have hbel5:=(Hbel4.out.alloc hbase (.cells (goalCells gx).toArray 44)).trans hb5
               have hsz5:w3.heap.size≤w5.heap.size:=by
                have:=hgr5.size
                simp at this
                omega
               rw [show goalC out' ++ goalCells gx=goalC (out' ++ [gx]) from by rw [goalC_app];simp [goalC]] at hown5
               have Hfin:=Lib.hid (And.intro hown5 (And.intro hbel5 (And.intro hsl5 (And.intro hsz5 hap5))))
               clear hown5 hbel5 hsl5 hap5 hal hb5 hgr5 hat5 g0 g1 g2 g3 g4 g5 hi0 hz0 hz1 hz2
               go_wp2_with fail
               obtain⟨e1,e2,e3,e4,e5⟩:=Hfin.out
               refine⟨⟨j+1,m'+1,c5,S5,out' ++ [gx],by go_num,by omega,rfl,by simp [Hm'.out],by have:=Hmj.out;omega,Lib.hid ?_,e1,e2,e3,e4,e5⟩,by simp [intOf];omega⟩
               rw [HO.out,Hgx.out]
               exact goals_next _ ls j x Hdl.out out
           · obtain rfl:j=m3:=by omega
             have hbelx':=Lib.hid hbelx
             have HownX:=Lib.hid hown'
             clear hbelx hown'
             go_wp2_with fail
             refine⟨⟨i+1,m',c',S',out',rfl,rfl,by go_num,by omega,rfl,Hm'.out,by have:=Hmj.out;omega,HownX.out,hbelx'.out,Lib.hid ?_⟩,by simp [intOf];omega⟩
             have h1:=HO.out
             rw [List.take_of_length_le (by rw [← Hm3.out];exact Nat.le_refl _)] at h1
             rw [h1]
             exact Hst.out
       · have hfe:ls = []∧fe=2:=by rcases h2 with h2 | h2;exact absurd h2 he;injection h2 with h2 h3;exact⟨h2,h3⟩
         obtain⟨rfl,rfl⟩:=hfe
         rw [if_neg (by decide)] at hst
         have Hst:=Lib.hid hst
         clear hst h2 he
         go_wp2_with fail
         go_ret2
         have hr:=HR.out
         rw [← HRR.out,← Hst.out] at hr
         rw [hr]
         exact⟨none,0,rfl,World.ownsRow_nil _ _ _ _,Hbel2.out.trans (hbel3.mono Hbel2.out.size)⟩
     · have ht1:(q.type == [116,101,120,116,47,104,116,109,108])=false:=by simpa [htmlB] using ht
       have hst:=Hstep.out
       rw [if_neg ht] at hst
       have Hst:=Lib.hid hst
       have Hown:=Lib.hid hown1
       clear hst ht hown1
       go_wp2_with fail
       exact⟨⟨i+1,m,c,S,out,rfl,rfl,by go_num,by omega,rfl,Hm.out,by omega,Hown.out,hbel1,Hst⟩,by simp [intOf];omega⟩
   · obtain rfl:i=n:=by omega
     have hfin:=HS.out
     rw [List.drop_eq_nil_of_le (by rw [← Hn.out];exact Nat.le_refl _),goalsF] at hfin
     have Hfin:=Lib.hid hfin
     have Hown:=Lib.hid hown
     have Hbel:=Lib.hid hbel
     clear hfin hown hbel HS
     go_wp2_with fail
     go_ret2
     have hr:=HR.out
     rw [← HRR.out,← Hfin.out] at hr
     rw [hr]
     obtain rfl:=Hm.out
     have hb:=Hbel2.out
     exact⟨_,_,rfl,own_base Hown.out hb.size,hb.trans (Hbel.out.mono hb.size)⟩
theorem low_same_iff:∀ (l:List UInt8),(lowL l == l) = !l.any (fun b=>upR b.toNat)
 | []=>rfl
 | b :: l=>by
  have ih:=low_same_iff l
  unfold lowL at ih ⊢
  rw [List.map_cons,List.any_cons,List.cons_beq_cons,ih,Bool.not_or]
  congr 1
  rw [Bool.eq_iff_iff,beq_iff_eq,← UInt8.toNat_inj,lowB_nat]
  simp only [upR,Bool.not_eq_true',Bool.and_eq_false_iff,decide_eq_false_iff_not]
  split <;> omega
theorem Index_chr1 (l:List UInt8) (c:UInt8) (w:World):Calls Tryz.prog 76 #[str l,.string ⟨#[c]⟩] w fun e w'=>e = .returned (.int .i64 (Lib.indexByte l c))∧w=w':=
 (Go.Proofs.Tryz.strings_Index_one ⟨l.toArray⟩ c w).mono fun _ _ ⟨h1,h2⟩=>⟨h1,h2.symm⟩
theorem IsType_any (l:List UInt8) (w:World) (hl:l.length≤maxLen) (hT:U8Ok w):Calls Tryz.prog 39 #[str l] w fun e w'=>e = .returned (.bool (typB l))∧Below w.heap.size w w':=by
 have hidx:=Index_chr1 l 47 w
 have hasc:=typ_ascii l
 have hls:=low_same_iff l
 have htt:tokB (Lib.cut l [47]).1=true→tokB (Lib.cut l [47]).2.1=true→(Lib.cut l [47]).2.2=true→l.length≤1000:=by
  intro h1 h2 h0
  have e:=cut_backT l 47 h0
  have l1:(Lib.cut l [47]).1.length≤30:=by simp [tokB] at h1;omega
  have l2:(Lib.cut l [47]).2.1.length≤30:=by simp [tokB] at h2;omega
  rw [e,List.length_append,List.length_cons]
  omega
 have hge:=Lib.indexByte_ge l 47
 unfold typB
 by_cases h0:0≤Lib.indexByte l 47
 · obtain⟨k,hk⟩:=Int.eq_ofNat_of_zero_le h0
   have hlt:k < l.length:=by
    have:=(Lib.indexByte_some hk).1
    rcases Nat.lt_or_ge k l.length with h | h
    · exact h
    · rw [List.getElem?_eq_none h] at this;cases this
   rw [cut_one_yes hk] at hasc htt ⊢
   rw [hk] at hidx
   simp only at hasc htt ⊢
   have hta:=fun W=>IsToken_any (l.take k) W (by simp;omega)
   have htb:=fun W=>IsToken_any (l.drop (k+1)) W (by simp;omega)
   generalize hA:tokB (l.take k)=ta at hta hasc htt
   generalize hB:tokB (l.drop (k+1))=tb at htb hasc htt
   have hkl:(k:Int)≤l.length:=by omega
   have hk1:IntKind.i64.wrap ((k:Int)+1)=(k:Int)+1:=IntWalk.i64_in _ (by unfold maxLen at hl;omega)
   have hk2:(k:Int)+1≤l.length:=by omega
   have hk3:(0:Int)≤(k:Int)+1:=by omega
   have hk4:((k:Int)+1).toNat=k+1:=by omega
   have Hidx:=Lib.hid hidx
   have Hta:=Lib.hid hta
   have Htb:=Lib.hid htb
   have Hls:=Lib.hid hls
   unfold maxLen at hl
   cases ta
   · clear hidx hta htb hasc hA hB hls htt h0 hge hk
     go_enter Tryz.func39,Tryz.ntmps39
     go_wp2_with fail
     refine Hidx.out.mono ?_
     rintro e w1 ⟨rfl,rfl⟩
     go_wp2_with fail
     refine(Hta.out _).mono ?_
     rintro e w1 ⟨rfl,rfl⟩
     go_wp2_with fail
     go_ret
     exact⟨by simp,Below.refl _ _⟩
   · cases tb
     · clear hidx hta htb hasc hA hB hls htt h0 hge hk
       go_enter Tryz.func39,Tryz.ntmps39
       go_wp2_with fail
       refine Hidx.out.mono ?_
       rintro e w1 ⟨rfl,rfl⟩
       go_wp2_with fail
       refine(Hta.out _).mono ?_
       rintro e w1 ⟨rfl,rfl⟩
       go_wp2_with fail
       refine(Htb.out _).mono ?_
       rintro e w1 ⟨rfl,rfl⟩
       go_wp2_with fail
       go_ret
       exact⟨by simp,Below.refl _ _⟩
     · have hsm:=fun W h=>Small_ascii l W (by have:=htt (by trivial) (by trivial) (by trivial);omega) (hasc (by trivial) (by trivial) (by trivial)) h
       have Hsm:=Lib.hid hsm
       clear hidx hta htb hasc hA hB hls htt h0 hge hk hsm
       go_enter Tryz.func39,Tryz.ntmps39
       go_wp2_with fail
       refine Hidx.out.mono ?_
       rintro e w1 ⟨rfl,rfl⟩
       go_wp2_with fail
       refine(Hta.out _).mono ?_
       rintro e w1 ⟨rfl,rfl⟩
       go_wp2_with fail
       refine(Htb.out _).mono ?_
       rintro e w1 ⟨rfl,rfl⟩
       go_wp2_with fail
       refine(Hsm.out _ hT).mono ?_
       rintro e w1 ⟨rfl,hb⟩
       go_wp2_with fail
       go_ret
       exact⟨by rw [Hls.out];simp,hb⟩
 · rw [cut_one_no (by omega)]
   rw [show Lib.indexByte l 47 = -1 from by omega] at hidx
   have Hidx:=Lib.hid hidx
   clear hidx hasc hls htt h0 hge
   go_enter Tryz.func39,Tryz.ntmps39
   go_wp2_with fail
   refine Hidx.out.mono ?_
   rintro e w1 ⟨rfl,rfl⟩
   go_wp2_with fail
   go_ret
   exact⟨by simp,Below.refl _ _⟩
end Go.Proofs.YtlgbopjhmemaoaaGreatDoor
namespace Go.Proofs.YtlgbopjhmemaoaaGreatDoor
mutual
/-- sized, where so deep may still be gone. -/
def sizedD:Nat→PartD→Nat × Nat
 | 0,_=>(0,99)
 | k+1,⟨_,_,_,_,_,_,parts⟩=>sizedsD k 1 0 parts
/-- Its loop. -/
def sizedsD (k:Nat):Nat→Nat→List PartD→Nat × Nat
 | many,deep,[]=>(many,deep+1)
 | many,deep,p :: ps=>if 100 < many+(sizedD k p).1∨50 < max deep (sizedD k p).2 then (100,99) else sizedsD k (many+(sizedD k p).1) (max deep (sizedD k p).2) ps
end
def overD (k:Nat) (r:Nat × Nat):Prop:=12 < r.1∨k < r.2
theorem sizedsD_over (k:Nat) (_hk:k≤50):∀ (ps:List PartD) (many deep:Nat),(12 < many∨k < deep)→overD (k+1) (sizedsD k many deep ps):=by
 intro ps
 induction ps with
 | nil =>
  intro many deep h
  rw [sizedsD]
  rcases h with h | h
  · exact .inl h
  · exact .inr (Nat.succ_lt_succ h)
 | cons p ps ih =>
  intro many deep h
  rw [sizedsD]
  split
  · exact .inl (by show 12 < 100;omega)
  · exact ih _ _ (by omega)
/-- What the two say of each other. -/
def LawSz (k:Nat) (p:PartD):Prop:=(cntD k p=none→overD k (sizedD k p))∧∀ c,cntD k p=some c→∃ d,sizedD k p=(c,d)∧d≤k
theorem sizeds_law (k:Nat) (hk:k≤50) (ihp:∀ p,LawSz k p):∀ (ps:List PartD) (n deep:Nat),n≤12→deep≤k →
 (cntsD k n ps=none→overD (k+1) (sizedsD k n deep ps))∧∀ c,cntsD k n ps=some c→∃ d,sizedsD k n deep ps=(c,d)∧d≤k+1:=by
 intro ps
 induction ps with
 | nil =>
  intro n deep hn hd
  rw [cntsD,sizedsD]
  refine⟨fun h=>(by cases h),fun c h=>?_⟩
  injection h with h
  subst h
  exact⟨_,rfl,by omega⟩
 | cons p ps ih =>
  intro n deep hn hd
  obtain⟨l1,l2⟩:=ihp p
  rw [cntsD_cons,sizedsD]
  cases hc:cntD k p with
  | none =>
   have ho:=l1 hc
   unfold overD at ho
   refine⟨fun _=>?_,fun c h=>(by cases h)⟩
   split
   · exact .inl (by show 12 < 100;omega)
   · exact sizedsD_over k hk _ _ _ (by omega)
  | some c =>
   obtain⟨d,hs,hdk⟩:=l2 c hc
   rw [hs]
   have hc12:=(cntD_le k p c hc).2
   show(cntNext k n ps (some c)=none→_)∧∀ c',cntNext k n ps (some c)=some c'→_
   unfold cntNext
   have hmax:max deep d≤k:=Nat.max_le.2 ⟨hd,hdk⟩
   rw [if_neg (by simp only;omega)]
   simp only
   by_cases h12:12 < n+c
   · rw [if_pos h12]
     exact⟨fun _=>sizedsD_over k hk _ _ _ (.inl h12),fun c' h=>(by cases h)⟩
   · rw [if_neg h12]
     exact ih (n+c) (max deep d) (by omega) hmax
theorem sized_law:∀ (k:Nat),k≤50→∀ p,LawSz k p:=by
 intro k
 induction k with
 | zero =>
  intro _ p
  refine⟨fun _=>?_,fun c h=>?_⟩
  · rw [sizedD];exact .inr (by show 0 < 99;omega)
  · rw [cntD] at h;cases h
 | succ k ih =>
  intro hk p
  obtain⟨t,cs,id,loc,how,body,parts⟩:=p
  unfold LawSz
  rw [cntD,sizedD]
  exact sizeds_law k (by omega) (ih (by omega)) parts 1 0 (by omega) (by omega)
theorem sizedD_succ (k:Nat) (p:PartD):sizedD (k+1) p=sizedsD k 1 0 p.parts:=by cases p;rw [sizedD]
theorem checkD_sized (p:PartD):checkD p=if 12 < (sizedD 3 p).1∨3 < (sizedD 3 p).2 then 2 else firstErr (flatD p):=by
 obtain⟨l1,l2⟩:=sized_law 3 (by omega) p
 cases hc:cntD 3 p with
 | none=>have h:=l1 hc;unfold overD at h;rw [checkD_none p hc,if_pos h]
 | some c =>
  obtain⟨d,hs,hd⟩:=l2 c hc
  have:=(cntD_le 3 p c hc).2
  rw [checkD_some p c hc,hs,if_neg (by simp only;omega)]
/-- It stays small. -/
theorem sizedsD_small (k:Nat):∀ (ps:List PartD) (many deep:Nat),many≤100→deep≤50→(sizedsD k many deep ps).1≤100∧(sizedsD k many deep ps).2≤99:=by
 intro ps
 induction ps with
 | nil=>intro many deep h1 h2;rw [sizedsD];exact⟨h1,by show deep+1≤99;omega⟩
 | cons p ps ih =>
  intro many deep h1 h2
  rw [sizedsD]
  split
  · exact⟨by show 100≤100;omega,by show 99≤99;omega⟩
  · exact ih _ _ (by omega) (by omega)
theorem sizedD_small (k:Nat) (p:PartD):(sizedD k p).1≤100∧(sizedD k p).2≤99:=by
 cases k with
 | zero=>rw [sizedD];exact⟨by show 0≤100;omega,by show 99≤99;omega⟩
 | succ k=>rw [sizedD_succ];exact sizedsD_small k _ 1 0 (by omega) (by omega)
end Go.Proofs.YtlgbopjhmemaoaaGreatDoor
namespace Go.Proofs.YtlgbopjhmemaoaaGreatDoor
open Go.RowKit
def szVal (r:Nat × Nat):Value:=.tuple #[.int .i64 (r.1:Nat),.int .i64 (r.2:Nat)]
def SzRel (k n2:Nat) (ps:List PartD) (R:Nat × Nat) (w0:World) (mv dv iv:Value) (wr:World):Prop:=
 ∃ i m d:Nat,mv = .int .i64 (m:Nat)∧dv = .int .i64 (d:Nat)∧iv = .int .i64 (i:Nat)∧i≤n2∧m≤100∧d≤50∧Hid (sizedsD k m d (ps.drop i)=R)∧Below w0.heap.size w0 wr
theorem sizedsD_cons (k m d:Nat) (p:PartD) (ps:List PartD):sizedsD k m d (p :: ps)=if 100 < m+(sizedD k p).1∨50 < max d (sizedD k p).2 then (100,99) else sizedsD k (m+(sizedD k p).1) (max d (sizedD k p).2) ps:=by rw [sizedsD]
theorem sized_any (k:Nat):∀ (p:PartD) (v:List Value) (w:World),k≤3→PartAt (· < w.heap.size) w p v →
 Calls Tryz.prog 37 #[.agg v.toArray,.int .i64 (k:Nat)] w fun e w'=>e = .returned (szVal (sizedD k p))∧Below w.heap.size w w':=by
 induction k with
 | zero =>
  intro p v w hk hp
  obtain⟨t,cs,id,loc,how,body,parts⟩:=p
  obtain⟨A,n,c,A2,n2,c2,rows,rfl,_⟩:=hp
  have e:sizedD 0 ⟨t,cs,id,loc,how,body,parts⟩=(0,99):=by rw [sizedD]
  rw [e]
  clear e
  go_enter Tryz.func37,Tryz.ntmps37
  go_wp2_with fail
  go_ret2
  exact⟨rfl,(Below.refl _ _).alloc (Nat.le_refl _) _⟩
 | succ k ih =>
  intro p v w hk hp
  obtain⟨t,cs,id,loc,how,body,parts⟩:=p
  obtain⟨A,n,c,A2,n2,c2,rows,rfl,_,_,_,_,hsl,hnc,hcm,hps⟩:=hp
  have hP:SlP (· < w.heap.size) w A2 n2 parts:=⟨rows,hsl,hps⟩
  have e:sizedD (k+1) ⟨t,cs,id,loc,how,body,parts⟩=sizedsD k 1 0 parts:=by rw [sizedD]
  rw [e]
  obtain⟨R,hR⟩:∃ R,sizedsD k 1 0 parts=R:=⟨_,rfl⟩
  rw [hR]
  have HR:=Lib.hid hR
  have Hih:=Lib.hid ih
  have hk1:(((k+1:Nat):Int) == 0)=false:=by simp;omega
  have hk2:IntKind.i64.wrap (((k+1:Nat):Int) - 1)=(k:Int):=by rw [IntKind.wrap_i64];omega
  have hn2:n2≤9223372036854775807:=by unfold maxLen at hcm;omega
  obtain⟨k1,hk3⟩:∃ k1:Int,k1=((k+1:Nat):Int):=⟨_,rfl⟩
  rw [← hk3] at hk1 hk2 ⊢
  clear hsl hps e hR ih hcm hk3
  go_enter Tryz.func37,Tryz.ntmps37
  go_wp2_with fail
  go_loopw [4,5,15] (SzRel k n2 parts R w) (fun _ _ iv _=>n2 - (intOf iv).toNat)
  case atStart=>exact⟨0,1,0,rfl,rfl,rfl,by omega,by omega,by omega,HR.out,(Below.refl _ w).alloc (Nat.le_refl _) _⟩
  case round =>
   clear HR
   obtain⟨i,m,d,rfl,rfl,rfl,hi,hm,hd,hE,hbel⟩:=hrel
   by_cases hin:i < n2
   · have hPr:=hP.below hbel
     obtain⟨b,off,q,A',n',c',A2',n2',c2',rfl,hbS,hq,hqa,x0,x1,x2,x3,x4,x5,x6⟩:=hPr.cells7 hin
     have hE2:Hid (sizedsD k m d (q :: parts.drop (i+1))=R):=by show _=R;rw [← hE.out,hq]
     clear hq hPr hP hE
     go_wp2_with fail
     have hqa2:=(hqa.below ((Below.refl w.heap.size wr).alloc hbel.size (.cells #[str q.type,str q.cs,str q.id,str q.loc,.int .i64 q.how,.slice A' n' c',.slice A2' n2' c2'] 25))).more (C:=(wr.alloc (.cells #[str q.type,str q.cs,str q.id,str q.loc,.int .i64 q.how,.slice A' n' c',.slice A2' n2' c2'] 25)).heap.size) (by have:=hbel.size;simp;omega)
     have hb0:=hbel.alloc hbel.size (.cells #[str q.type,str q.cs,str q.id,str q.loc,.int .i64 q.how,.slice A' n' c',.slice A2' n2' c2'] 25)
     have hsm:=sizedD_small k q
     have hcl:=Hih.out q _ _ (by omega) hqa2
     have hE3:Hid (R=if 100 < m+(sizedD k q).1∨50 < max d (sizedD k q).2 then (100,99) else sizedsD k (m+(sizedD k q).1) (max d (sizedD k q).2) (parts.drop (i+1))):=by show R=_;rw [← hE2.out,sizedsD_cons]
     generalize sizedD k q=o at hcl hsm hE3
     obtain⟨om,od⟩:=o
     simp only [szVal] at hcl hsm hE3
     clear x0 x1 x2 x3 x4 x5 x6 hqa hqa2 hE2
     have hmax:max (d:Int) (od:Int)=((max d od:Nat):Int):=by omega
     obtain⟨d2,hd2⟩:∃ d2,d2=max d od:=⟨_,rfl⟩
     rw [← hd2] at hmax hE3
     have hd99:d2≤99:=by omega
     have Hd2:=Lib.hid hd2
     clear hd2
     by_cases h1:100 < m+om
     · obtain rfl:R=(100,99):=by rw [hE3.out,if_pos (.inl h1)]
       have d1:decide ((100:Int) < (m:Int)+om)=true:=by simp;omega
       refine hcl.mono ?_
       clear hcl hE3
       rintro e w1 ⟨rfl,hb1⟩
       have hbel1:=hb0.trans (hb1.mono hb0.size)
       go_wp2_with fail
       go_ret2
       exact⟨rfl,hbel1⟩
     · have d1:decide ((100:Int) < (m:Int)+om)=false:=by simp;omega
       by_cases h2:50 < d2
       · obtain rfl:R=(100,99):=by rw [hE3.out,if_pos (.inr h2)]
         have d3:decide ((50:Int) < (d2:Int))=true:=by simp;omega
         refine hcl.mono ?_
         clear hcl hE3
         rintro e w1 ⟨rfl,hb1⟩
         have hbel1:=hb0.trans (hb1.mono hb0.size)
         go_wp2_with fail
         go_ret2
         exact⟨rfl,hbel1⟩
       · have d3:decide ((50:Int) < (d2:Int))=false:=by simp;omega
         have hE4:Hid (sizedsD k (m+om) d2 (parts.drop (i+1))=R):=by show _=R;rw [hE3.out,if_neg (by omega)]
         refine hcl.mono ?_
         clear hcl hE3
         rintro e w1 ⟨rfl,hb1⟩
         have hbel1:=hb0.trans (hb1.mono hb0.size)
         go_wp2_with fail
         exact⟨⟨i+1,m+om,d2,by go_num,by rfl,by go_num,by omega,by omega,by omega,hE4,hbel1⟩,by simp [intOf];omega⟩
   · have hR:(m,d+1)=R:=by rw [← hE.out,List.drop_of_length_le (by rw [hP.len];omega),sizedsD]
     subst hR
     clear hE
     go_wp2_with fail
     go_ret2
     exact⟨rfl,hbel⟩
def DocRel (L:List PartD) (R:Nat) (w1:World) (iv:Value) (wr:World):Prop:=
 ∃ i:Nat,iv = .int .i64 (i:Nat)∧i≤L.length∧Hid (firstErr (L.drop i)=R)∧Below w1.heap.size w1 wr
/-- What stands behind one part's test. -/
def thenErr (e f:Nat):Nat:=if e=0 then f else e
theorem firstErr_cons (q:PartD) (L:List PartD):firstErr (q :: L)=thenErr (chkD q) (firstErr L):=rfl
theorem CheckPart_any (p:PartD) (v:List Value) (w:World) (hp:PartAt (· < w.heap.size) w p v) (hT:U8Ok w) :
 Calls Tryz.prog 18 #[.agg v.toArray] w fun e w'=>e = .returned (.int .i64 (checkD p:Nat))∧Below w.heap.size w w':=by
 have hck:=checkD_sized p
 have hsl:=sized_law 3 (by omega) p
 have hfl:=cntD_flat 3 p
 have hcle:=cntD_le 3 p
 have hsm:=sizedD_small 3 p
 obtain⟨A,c,A2,c2,rfl,_⟩:=hp.open
 obtain⟨W,hW⟩:∃ W,W=w.alloc (.cells #[str p.type,str p.cs,str p.id,str p.loc,.int .i64 p.how,.slice A p.body.length c,.slice A2 p.parts.length c2] 25):=⟨_,rfl⟩
 have hbW:Below w.heap.size w W:=by rw [hW];exact(Below.refl _ w).alloc (Nat.le_refl _) _
 have hbx:Box7 W w.heap.size (str p.type) (str p.cs) (str p.id) (str p.loc) (.int .i64 p.how) (.slice A p.body.length c) (.slice A2 p.parts.length c2):=by rw [hW];exact Box7.new w _ _ _ _ _ _ _ _
 have hpW:=hp.below hbW
 have hct:=sized_any 3 p _ W (by omega) (hpW.more hbW.size)
 obtain⟨n2,hn2⟩:∃ n2,n2=p.parts.length:=⟨_,rfl⟩
 obtain⟨n1,hn1⟩:∃ n1,n1=p.body.length:=⟨_,rfl⟩
 have Hp:=Lib.hid hp
 have HT:=Lib.hid hT
 have⟨x0,x1,x2,x3,x4,x5,x6⟩:=hbx
 obtain⟨l1,l2⟩:=hsl
 generalize checkD p=R at hck ⊢
 rcases hsz:sizedD 3 p with ⟨many,deep⟩
 rw [hsz] at hct hck l1 l2 hsm
 simp only [szVal] at hct
 simp only at hck hsm
 by_cases hov:12 < many∨3 < deep
 · obtain rfl:R=2:=by rw [hck,if_pos hov]
   have Hct:=Lib.hid hct
   clear hct hck l1 l2 hfl hcle hpW hp hn1 hn2 hsz hT
   by_cases hm:12 < many
   · have d1:decide ((12:Int) < (many:Int))=true:=by simp;omega
     clear hov
     go_enter Tryz.func18,Tryz.ntmps18
     go_wp2_with fail
     rw [← hW]
     clear hW
     refine Hct.out.mono ?_
     rintro e w1 ⟨rfl,hb1⟩
     clear x0 x1 x2 x3 x4 x5 x6
     go_wp2_with fail
     go_ret
     exact⟨rfl,hbW.trans (hb1.mono hbW.size)⟩
   · have d1:decide ((12:Int) < (many:Int))=false:=by simp;omega
     have d2:decide ((3:Int) < (deep:Int))=true:=by simp;omega
     clear hov
     go_enter Tryz.func18,Tryz.ntmps18
     go_wp2_with fail
     rw [← hW]
     clear hW
     refine Hct.out.mono ?_
     rintro e w1 ⟨rfl,hb1⟩
     clear x0 x1 x2 x3 x4 x5 x6
     go_wp2_with fail
     go_ret
     exact⟨rfl,hbW.trans (hb1.mono hbW.size)⟩
 · have d1:decide ((12:Int) < (many:Int))=false:=by simp;omega
   have d2:decide ((3:Int) < (deep:Int))=false:=by simp;omega
   have hR:R=firstErr (flatD p):=by rw [hck,if_neg hov]
   have hlen:(flatD p).length≤12:=by
    cases hc:cntD 3 p with
    | none=>have:=l1 hc;unfold overD at this;simp only at this;omega
    | some c0=>have h1:=hfl c0 hc;have h2:=hcle c0 hc;omega
   obtain⟨L,hL⟩:∃ L,L=flatD p:=⟨_,rfl⟩
   rw [← hL] at hR hlen
   have HR:=Lib.hid hR
   have HL:=Lib.hid hL
   have Hct:=Lib.hid hct
   clear hct hck l1 l2 hfl hcle hpW hp hn1 hn2 hsz hov hR hL hT
   go_enter Tryz.func18,Tryz.ntmps18
   go_wp2_with fail
   rw [← hW]
   clear hW
   refine Hct.out.mono ?_
   clear Hct
   rintro e w1 ⟨rfl,hb1⟩
   have hbx1:=hbx.below hb1
   have hbel1:=hbW.trans (hb1.mono hbW.size)
   have hp1:=Hp.out.below hbel1
   have hal:=Flat_any 12 p _ w.heap.size w1 (by rw [← HL.out];exact hlen) (by omega) hbel1.size hp1
   rw [← HL.out] at hal
   have Hal:=Lib.hid hal
   clear x0 x1 x2 x3 x4 x5 x6
   have⟨x0,x1,x2,x3,x4,x5,x6⟩:=hbx1
   clear hbx hbx1 hp1 hal hb1 hbW
   go_wp2_with fail
   refine Hal.out.mono ?_
   clear Hal x0 x1 x2 x3 x4 x5 x6
   rintro e w2 ⟨S,c3,rows,rfl,hown,hrows,hb2⟩
   have hbel2:=hbel1.trans (hb2.mono hbel1.size)
   have hP:=AllRes.slp hown hrows hbel2.size
   clear hown hrows
   go_wp2_with fail
   go_loopw [22] (DocRel L R w2) (fun iv _=>L.length - (intOf iv).toNat)
   case atStart=>exact⟨0,rfl,Nat.zero_le _,HR.out.symm,Below.refl _ _⟩
   case round =>
    obtain⟨i,rfl,hi,hE,hbel⟩:=hrel
    by_cases hin:i < L.length
    · have hPr:=hP.below hbel
      obtain⟨b,off,q,A',n',c',A2',n2',c2',rfl,hbS,hq,hqa,x0,x1,x2,x3,x4,x5,x6⟩:=hPr.cells7 hin
      obtain⟨A9,c9,A8,c8,hv,⟨b1,b2,b3,b4,b5,b6⟩,_,b7,b8,_,b9,b10⟩:=hqa.open
      simp only [List.cons.injEq,Value.slice.injEq,and_true,true_and] at hv
      obtain⟨⟨rfl,rfl,rfl⟩,rfl,rfl,rfl⟩:=hv
      have hE2:Hid (R=thenErr (chkD q) (firstErr (L.drop (i+1)))):=by show R=_;rw [← hE.out,hq,firstErr_cons]
      unfold chkD at hE2
      have h1:=fun W=>IsMany_any q.type W b1
      have h2:=fun W h=>IsType_any q.type W b1 h
      have h3:=fun W=>IsToken_any q.cs W b2
      have h4:=fun W=>IsWord_any q.id W b3
      have h5:=fun W=>IsWord_any q.loc W b4
      generalize typB q.type=ty at h2 hE2
      generalize tokB q.cs=tk at h3 hE2
      generalize wordB q.id=wi at h4 hE2
      generalize wordB q.loc=wl at h5 hE2
      generalize manyB q.type=m at h1 hE2
      generalize hce:(q.cs == ([]:List UInt8))=ce at hE2
      have HCE:=Lib.hid hce
      have H1:=Lib.hid h1
      have H2:=Lib.hid h2
      have H3:=Lib.hid h3
      have H4:=Lib.hid h4
      have H5:=Lib.hid h5
      have hn4:q.body.length≤9223372036854775807:=by unfold maxLen at b8;omega
      have hn5:q.parts.length≤9223372036854775807:=by unfold maxLen at b10;omega
      generalize q.body.length=n at *
      generalize q.parts.length=n2 at *
      have hbA:=hbel.alloc hbel.size (.cells #[str q.type,str q.cs,str q.id,str q.loc,.int .i64 q.how,.slice A' n c',.slice A2' n2 c2'] 25)
      have hTA:U8Ok (wr.alloc (.cells #[str q.type,str q.cs,str q.id,str q.loc,.int .i64 q.how,.slice A' n c',.slice A2' n2 c2'] 25)):=HT.out.below (hbel2.trans (hbA.mono hbel2.size))
      have hbx:=Box7.new wr 25 (str q.type) (str q.cs) (str q.id) (str q.loc) (.int .i64 q.how) (.slice A' n c') (.slice A2' n2 c2')
      clear hq hqa hPr hE h1 h2 h3 h4 h5 hce b7 b8 b9 b10 hbel
      go_wp2_with fail
      refine(H1.out _).mono ?_
      rintro e w3 ⟨rfl,rfl⟩
      clear x0 x1 x2 x3 x4 x5 x6
      have⟨x0,x1,x2,x3,x4,x5,x6⟩:=hbx
      go_wp2_with fail
      refine(H2.out _ hTA).mono ?_
      rintro e w4 ⟨rfl,hb4⟩
      have hbel4:=hbA.trans (hb4.mono hbA.size)
      have hbx4:=hbx.below hb4
      clear hbx hbA hb4 x0 x1 x2 x3 x4 x5 x6 H1 H2
      have⟨x0,x1,x2,x3,x4,x5,x6⟩:=hbx4
      have E:=hE2
      clear hE2
      have hbelX:=hbel2.trans (hbel4.mono hbel2.size)
      cases ty
      · have E1:Hid (R=1):=by show R=1;rw [E.out];simp [chkB,thenErr]
        clear E
        go_wp2_with fail
        go_ret
        exact⟨ret_nat E1.out.symm,hbelX⟩
      · cases ce
        case' true =>
         have hce:=HCE.out
         go_wp2_with fail
         clear hce
        case' false =>
         have hce:=HCE.out
         go_wp2_with fail
         refine(H3.out _).mono ?_
         rintro e w5 ⟨rfl,rfl⟩
         cases tk
         · have E1:Hid (R=1):=by show R=1;rw [E.out];simp [chkB,thenErr]
           clear E
           go_wp2_with fail
           go_ret
           exact⟨ret_nat E1.out.symm,hbelX⟩
         go_wp2_with fail
         clear hce
        all_goals
         refine(H4.out _).mono ?_
         rintro e w6 ⟨rfl,rfl⟩
         cases wi
         · have E1:Hid (R=1):=by show R=1;rw [E.out];simp [chkB,thenErr]
           clear E
           go_wp2_with fail
           go_ret
           exact⟨ret_nat E1.out.symm,hbelX⟩
         · go_wp2_with fail
           refine(H5.out _).mono ?_
           rintro e w7 ⟨rfl,rfl⟩
           cases wl
           · have E1:Hid (R=1):=by show R=1;rw [E.out];simp [chkB,thenErr]
             clear E
             go_wp2_with fail
             go_ret
             exact⟨ret_nat E1.out.symm,hbelX⟩
           · by_cases hh0:q.how < 0
             · have d0:decide (q.how < 0)=true:=by simpa using hh0
               have E1:Hid (R=3):=by show R=3;rw [E.out];simp [chkB,thenErr,hh0]
               clear E
               go_wp2_with fail
               go_ret
               exact⟨ret_nat E1.out.symm,hbelX⟩
             · have d0:decide (q.how < 0)=false:=by simpa using hh0
               by_cases hh2:2 < q.how
               · have d2:decide (2 < q.how)=true:=by simpa using hh2
                 have E1:Hid (R=3):=by show R=3;rw [E.out];simp [chkB,thenErr,hh0,hh2]
                 clear E
                 go_wp2_with fail
                 go_ret
                 exact⟨ret_nat E1.out.symm,hbelX⟩
               · have d2:decide (2 < q.how)=false:=by simpa using hh2
                 by_cases hn4':4000 < n
                 · have E1:Hid (R=2):=by show R=2;rw [E.out];simp [chkB,thenErr,hh0,hh2,hn4']
                   clear E
                   go_wp2_with fail
                   go_ret
                   exact⟨ret_nat E1.out.symm,hbelX⟩
                 · have hce:=HCE.out
                   have E2:=E.out
                   have hhow:∃ hz,hz=q.how:=⟨_,rfl⟩
                   rcases(by omega:0 < n2∨n2=0) with hn0 | rfl <;> rcases(by omega:0 < n∨n=0) with hnn | rfl <;> rcases Decidable.em (q.how=0) with hz | hz <;> cases m
                   all_goals
                    first
                    | have E1:Hid (R=4):=by show R=4;rw [E2];simp [chkB,thenErr, *];done
                      have E0:True:=trivial
                    | have E1:Hid (R=firstErr (L.drop (i+1))):=by show R=_;rw [E2];simp [chkB,thenErr, *];done
                      have E9:True:=trivial
                    clear E E2
                    first
                    | have e0:decide ((0:Int) < n2)=true:=by simp;omega
                      have e0b:((n2:Int) == 0)=false:=by simp;omega
                    | have e0:True:=trivial
                    first
                    | have e1:decide ((0:Int) < n)=true:=by simp;omega
                    | have e1:True:=trivial
                    first
                    | have e2:(q.how != 0)=true:=by simpa using hz
                    | have e2:(q.how != 0)=false:=by simpa using hz
                    go_wp2_with fail
                    first
                    | go_ret
                      exact⟨ret_nat E1.out.symm,hbelX⟩
                    | exact⟨⟨i+1,by go_num,by omega,E1.out.symm,hbel4⟩,by simp [intOf];omega⟩
    · obtain rfl:0=R:=by rw [← hE.out,List.drop_of_length_le (by omega)];rfl
      clear hE
      go_wp2_with fail
      go_ret
      exact⟨rfl,hbel2.trans (hbel.mono hbel2.size)⟩
end Go.Proofs.YtlgbopjhmemaoaaGreatDoor
