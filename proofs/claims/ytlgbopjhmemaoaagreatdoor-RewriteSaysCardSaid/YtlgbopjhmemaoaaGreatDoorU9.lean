import Derived.Test.YtlgbopjhmemaoaaGreatDoorU8
import Derived.StillTailTactics
set_option maxRecDepth 100000
set_option maxHeartbeats 40000000
namespace Go.Proofs.YtlgbopjhmemaoaaGreatDoor
open Go.RowKit
attribute [local go_sem high] cut_u8 mid_u8
def linkC (l:List LinkD):List Value:=l.flatMap fun x=>[.int .i64 (x.frm:Nat),.int .i64 (x.til:Nat),str x.text]
theorem linkC_len (l:List LinkD):(linkC l).length=l.length * 3:=by
 induction l with
 | nil=>rfl
 | cons a l ih=>unfold linkC at ih ⊢;rw [List.flatMap_cons,List.length_append,ih];simp;omega
theorem linkC_app (a b:List LinkD):linkC (a ++ b)=linkC a ++ linkC b:=by simp [linkC]
theorem linkC_one (l:List LinkD):∀ u∈linkC l,u.oneCell'=true:=by
 intro u hu
 simp only [linkC,List.mem_flatMap,List.mem_cons,List.not_mem_nil,or_false] at hu
 obtain⟨x,_,rfl | rfl | rfl⟩:=hu <;> rfl
theorem infoLink:(Tryz.prog.info? 42).map (fun i=>(i.zero,i.size,i.bytes))=some (some (.agg #[.int .i64 0,.int .i64 0,.string ⟨#[]⟩]),3,32):=by kernel_rfl
section
variable {n f:Nat} {r:List UInt8} {seen:List (List UInt8)} {ls:List LinkD} {c:UInt8} {r2:List UInt8}
theorem attrsL_nil (h:stopD pAttr r = []):attrsL n (f+1) r seen ls=none:=by unfold attrsL;rw [h]
theorem attrsL_gt (h:stopD pAttr r=62 :: r2):attrsL n (f+1) r seen ls=some (r2,ls):=by unfold attrsL;rw [h];rfl
theorem attrsL_go (h:stopD pAttr r=c :: r2) (hc:c≠62) (h1:(stopD pNotSp (stopD pEq r2)).head?≠some 61):attrsL n (f+1) r seen ls=attrsL n f (stopD pEq r2) (lowL (c :: stopT pEq r2) :: seen) ls:=by
 conv=>lhs;unfold attrsL
 rw [h]
 simp only
 rw [if_neg hc,if_neg h1]
theorem attrsL_is {r4:List UInt8} (h:stopD pAttr r=c :: r2) (hc:c≠62) (h1:stopD pNotSp (stopD pEq r2)=61 :: r4):attrsL n (f+1) r seen ls=attrsL n f (valueR r4).2.2 (lowL (c :: stopT pEq r2) :: seen) (addLink n (lowL (c :: stopT pEq r2)) seen (valueR r4) ls):=by
 conv=>lhs;unfold attrsL
 rw [h]
 simp only
 rw [if_neg hc,if_pos (by rw [h1];rfl),h1]
 rfl
end
theorem grown_new {w a b:World} {s:Nat} {row:Option Nat} (h:w.grownBy a (some s)) (k:a.grownBy b row) (hr:∀ g,row=some g→w.heap.size≤g):w.grownBy b (some s):=
 ⟨k.os.trans h.os,k.tape.trans h.tape,k.output.trans h.output,Nat.le_trans h.size k.size,fun j hj hne=>(k.block j (Nat.lt_of_lt_of_le hj h.size) (fun e=>by have:=hr j e.symm;omega)).trans (h.block j hj hne)⟩
def TagSt (w:World) (s mb:Nat) (v out:Value) (at_:Nat) (seen:List (List UInt8)) (lv:Value) (m:Nat) (ls:List LinkD) (wr:World):Prop:=
 ScanIs wr s v at_ out∧SeenIs wr mb seen∧wr.ownsRow w.heap.size 42 3 lv m (linkC ls)∧w.grownBy wr (some s)∧s < w.heap.size∧w.heap.size≤mb
theorem own_ne_scan {w:World} {s at_ base n:Nat} {v out x:Value} {xs:List Value} (h:ScanIs w s v at_ out) (ho:w.ownsRow base 42 3 x n xs):x.ownBlock≠some s:=by
 rcases ho.2 with ⟨rfl,_⟩ | ⟨g,cap,cur,rfl,_,hg,_⟩
 · intro e;cases e
 · intro e
   injection e with e
   simp only at e
   subst e
   unfold ScanIs at h
   rw [h] at hg
   injection hg with hg
   injection hg with _ hg _
   exact absurd hg (by decide)
theorem own_ne_map {w:World} {b base n:Nat} {seen:List (List UInt8)} {x:Value} {xs:List Value} (h:SeenIs w b seen) (ho:w.ownsRow base 42 3 x n xs):x.ownBlock≠some b:=by
 rcases ho.2 with ⟨rfl,_⟩ | ⟨g,cap,cur,rfl,_,hg,_⟩
 · intro e;cases e
 · intro e
   injection e with e
   simp only at e
   subst e
   obtain⟨n,D,_,⟨es,clock,hb,_⟩,_⟩:=h
   rw [hb] at hg
   cases hg
section
variable {w wr w2:World} {s mb at_:Nat} {v out lv:Value} {seen:List (List UInt8)} {m:Nat} {ls:List LinkD}
theorem TagSt.drewN (h:TagSt w s mb v out at_ seen lv m ls wr) (k:Nat):TagSt w s mb v out at_ seen lv m ls (wr.drewN k):=
 ⟨h.1.drewN k,h.2.1.drewN k,h.2.2.1,grown_drewN h.2.2.2.1 k,h.2.2.2.2⟩
theorem TagSt.moved (h:TagSt w s mb v out at_ seen lv m ls wr) {at2:Nat} {out2:Value} (hS:ScanIs w2 s v at2 out2) (hg:wr.grownBy w2 (some s)):TagSt w s mb v out2 at2 seen lv m ls w2:=by
 obtain⟨h1,h2,h3,h4,h5,h6⟩:=h
 exact⟨hS,h2.kept hg (by intro e;injection e with e;omega),h3.kept hg (.inr (own_ne_scan h1 h3)),grown_tr h4 hg,h5,h6⟩
theorem TagSt.set1 (h:TagSt w s mb v out at_ seen lv m ls wr) (x:Nat):TagSt w s mb v out x seen lv m ls (wr.setCell ⟨s,1,none⟩ (.int .i64 (x:Nat))):=
 h.moved (h.1.set1 x) (grown_set wr s 1 _)
theorem TagSt.below (h:TagSt w s mb v out at_ seen lv m ls wr) (hb:Below wr.heap.size wr w2):TagSt w s mb v out at_ seen lv m ls w2:=by
 obtain⟨h1,h2,h3,h4,h5,h6⟩:=h
 exact⟨h1.below hb,h2.below hb,own_below h3 hb,grown_below h4 hb,h5,h6⟩
theorem TagSt.put (h:TagSt w s mb v out at_ seen lv m ls wr) (name:List UInt8) (hS:SeenIs w2 mb (name :: seen)) (hg:wr.grownBy w2 (some mb)):TagSt w s mb v out at_ (name :: seen) lv m ls w2:=by
 obtain⟨h1,h2,h3,h4,h5,h6⟩:=h
 exact⟨h1.keep (hg.block s h1.lt (by intro e;injection e with e;omega)),hS,h3.kept hg (.inr (own_ne_map h2 h3)),grown_new h4 hg (fun g e=>by injection e with e;omega),h5,h6⟩
theorem TagSt.app (h:TagSt w s mb v out at_ seen lv m ls wr) {lv2:Value} {m2:Nat} {ls2:List LinkD} (hr:w2.ownsRow w.heap.size 42 3 lv2 m2 (linkC ls2)) (hg:wr.grownBy w2 lv.ownBlock):TagSt w s mb v out at_ seen lv2 m2 ls2 w2:=by
 obtain⟨h1,h2,h3,h4,h5,h6⟩:=h
 exact⟨h1.keep (hg.block s h1.lt (fun e=>own_ne_scan h1 h3 e.symm)),h2.kept hg (fun e=>own_ne_map h2 h3 e.symm),hr,grown_new h4 hg (fun g e=>(h3.lt g e).1),h5,h6⟩
end
def TagRel (w:World) (s mb:Nat) (v out:Value) (n:Nat) (l:List UInt8) (R:Option (List UInt8 × List LinkD)) (lv:Value) (wr:World):Prop:=
 ∃ (r:List UInt8) (f:Nat) (seen:List (List UInt8)) (ls:List LinkD) (S:Option Addr) (m cS:Nat),lv = .slice S m cS∧m=ls.length∧r <:+ l∧TagSt w s mb v out (n - r.length) seen (.slice S m cS) m ls wr ∧
  Hid (attrsL n f r seen ls=R)∧r.length < f∧ls.length+r.length≤5000∧seen.length+r.length≤5000
def TagOut (Bf s:Nat) (v:Value) (n:Nat) (T:List UInt8 × List LinkD) (w:World) (e:Ending) (w':World):Prop:=
 e = .returned (.tuple #[])∧∃ S c,ScanIs w' s v (n - T.1.length) (.slice S T.2.length c)∧w'.ownsRow Bf 42 3 (.slice S T.2.length c) T.2.length (linkC T.2)∧Below Bf w w'
theorem valueR_in (r:List UInt8):(valueR r).1 <:+ r∧(valueR r).2.2 <:+ r∧∃ x,(valueR r).1=x ++ (valueR r).2.1:=by
 rcases h:stopD pNotSp r with _ | ⟨c,r2⟩
 · rw [valueR_nil' h]
   exact⟨List.nil_suffix,List.nil_suffix,[],rfl⟩
 · have h1:c :: r2 <:+ r:=h ▸ stopD_suffix pNotSp r
   have h2:r2 <:+ r:=(List.suffix_cons c r2).trans h1
   by_cases hc:c=34∨c=39
   · rw [valueR_quo h hc]
     exact⟨h2,((List.drop_suffix _ _).trans (stopD_suffix _ _)).trans h2,stopT (pIs c.toNat) r2,(stop_app _ _).symm⟩
   · rw [valueR_bare h hc]
     exact⟨h1,(stopD_suffix _ _).trans h1,stopT pVal (c :: r2),(stop_app _ _).symm⟩
def tagEnd (R:Option (List UInt8 × List LinkD)) (shut:Bool) (os:List LinkD):List UInt8 × List LinkD:=
 match R with | none=>([],os) | some (r',ls)=>(r',if shut then os else os ++ ls)
theorem tag_any (s:Nat) (A:Option Addr) (n c Bf:Nat) (So:Option Addr) (mo co:Nat) (os:List LinkD) (l r:List UInt8) (shut:Bool) (w:World) (hM:MaxLenOk w)
 (hs:ScanIs w s (.slice A n c) (n - r.length) (.slice So mo co)) (hmo:mo=os.length) (hown:w.ownsRow Bf 42 3 (.slice So mo co) mo (linkC os)) (hos:os.length≤1000) (hr:r <:+ l) (hb:By w Bf A n l) (hBs:Bf≤s) (hBw:Bf≤w.heap.size) (hn:n≤4000) (hc:n≤c) :
 Calls Tryz.prog 67 #[.pointer (some ⟨s,0,none⟩),.bool shut] w (TagOut Bf s (.slice A n c) n (tagL n r shut os) w):=by
 obtain⟨i0,hi0,hz0,hz1,hz2⟩:=info_parts infoLink
 have Hi0:=Lib.hid hi0
 clear hi0
 have hnl:=hb.len
 have hmm:=@run_makeMap Tryz.prog
 have hsl:=hs.lt
 have ht0:=till_rest 105 #[] (enters_of Tryz.func105 (by kernel_rfl) rfl) pName _ predName s A n c Bf (.slice So mo co) l r w hs hr hb hBs (by omega) (fun _ _=>trivial)
 have hr0:stopD pName r <:+ l:=(stopD_suffix pName r).trans hr
 have hr0n:(stopD pName r).length≤n:=by have:=hr0.length_le;omega
 obtain⟨R,hR⟩:∃ R,R=attrsL n ((stopD pName r).length+1) (stopD pName r) [] []:=⟨_,rfl⟩
 have hT:tagL n r shut os=tagEnd R shut os:=by rw [hR];rfl
 rw [hT]
 generalize stopD pName r=r0 at ht0 hr0 hR hr0n
 have Ht0:=Lib.hid ht0
 have HR:=Lib.hid hR
 have Hmo:=Lib.hid hmo
 have Hnl:=Lib.hid hnl
 have Hown:=Lib.hid hown
 have Hs:=Lib.hid hs
 clear ht0 hR hmo hnl hown hs hT
 go_enter Tryz.func67,Tryz.ntmps67
 go_wp2_with fail
 refine Ht0.out.mono ?_
 clear Ht0
 rintro e w1 ⟨rfl,hS1,hg1⟩
 have HS1:=Lib.hid hS1
 clear hS1
 go_wp2_with fail
 obtain⟨mb,hmb⟩:∃ mb,mb=w1.heap.size:=⟨_,rfl⟩
 rw [← hmb]
 have hmw:w.heap.size≤mb:=by rw [hmb];exact hg1.size
 have hms:mb≠s:=by omega
 have Hmb:=Lib.hid hmb
 clear hmb
 go_loopw [4] (fun lv wr=>TagRel w s mb (.slice A n c) (.slice So mo co) n l R lv wr) (fun _ wr=>n - atOf wr s)
 case atStart =>
  refine⟨r0,r0.length+1,[],[],none,0,0,rfl,rfl,hr0,⟨HS1.out.below ((Below.refl _ w1).alloc (Nat.le_refl _) _),by rw [Hmb.out];exact SeenIs.made w1,World.ownsRow_nil _ _ _ _,?_,hsl,hmw⟩,HR.out.symm,by omega,by simp;omega,by simp;omega⟩
  exact grown_below hg1 ((Below.refl _ w1).alloc (Nat.le_refl _) _)
 case round =>
  obtain⟨r,f,seen,ls,S,m,cS,rfl,hm,hr,hT,hE,hf,hb1,hb2⟩:=hrel
  clear hr0 hr0n
  have hby:=hb.grown hT.2.2.2.1 hBs hBw
  have ht:=till_rest 107 #[] (enters_of Tryz.func107 (by kernel_rfl) rfl) pAttr _ predAttr s A n c Bf (.slice So mo co) l r wr hT.1 hr hby hBs (by omega) (fun _ _=>trivial)
  have hr1:stopD pAttr r <:+ l:=(stopD_suffix pAttr r).trans hr
  have hr1n:=stopD_len pAttr r
  have Hat:=Lib.hid (scan_at hT.1)
  have Hm:=Lib.hid hm
  have HT:=Lib.hid hT
  obtain⟨f',rfl⟩:∃ f',f=f'+1:=⟨f - 1,by omega⟩
  clear hm hT
  rcases hd:stopD pAttr r with _ | ⟨c0,r2⟩
  · have hRn:R=none:=by rw [← hE.out,attrsL_nil hd]
    rw [hd] at ht
    simp only [List.length_nil,Nat.sub_zero] at ht
    have Ht:=Lib.hid ht
    have HRn:=Lib.hid hRn
    clear ht hd hRn hE
    go_wp2_with fail
    refine Ht.out.mono ?_
    clear Ht
    rintro e w2 ⟨rfl,hS2,hg2⟩
    have T2:=Lib.hid (HT.out.moved hS2 hg2)
    have y0:=hS2.c0
    have y1:=hS2.c1
    clear hS2 hg2
    go_wp2_with fail
    go_quiet (fail)
    go_wp2_with fail
    refine bodyPost_ret (results_none rfl _ _ _) rfl ?_
    have hgg:=grown_drewN T2.out.2.2.2.1 nq
    rw [HRn.out]
    refine⟨rfl,So,co,?_,?_,(Below.refl _ w).grown hgg hBw (fun k hk=>by injection hk with hk;omega)⟩
    · have:=T2.out.1.drewN nq
      rw [Hmo.out] at this
      exact this
    · have:=Hown.out.kept hgg (.inr (own_ne_scan Hs.out Hown.out))
      rw [Hmo.out] at this
      exact this
  · rw [hd] at ht hr1 hr1n
    simp only [List.length_cons] at hr1n
    obtain⟨f1,f2,f3⟩:=hby.rest hr1
    obtain⟨a1,ha1⟩:∃ a1,a1=n - (c0 :: r2).length:=⟨_,rfl⟩
    rw [← ha1] at f1 f2 f3 ht
    obtain⟨q,hq⟩:∃ q,q=c0.toNat:=⟨_,rfl⟩
    rw [← hq] at f2
    have hq256:q < 256:=by rw [hq];exact c0.toNat_lt
    have Ht:=Lib.hid ht
    have Ha1:=Lib.hid ha1
    have F2:=Lib.hid f2
    have F3:=Lib.hid f3
    have Hq:=Lib.hid hq
    have dn:((a1:Int) == (n:Int))=false:=by rw [beq_eq_false_iff_ne];omega
    clear ht ha1 f2 f3 hq hby
    by_cases h62:c0=62
    · subst h62
      have hRs:R=some (r2,ls):=by rw [← hE.out,attrsL_gt hd]
      have HRs:=Lib.hid hRs
      have d62:((q:Int) == 62)=true:=by rw [Hq.out];rfl
      clear hd hRs hE
      go_wp2_with fail
      refine Ht.out.mono ?_
      clear Ht
      rintro e w2 ⟨rfl,hS2,hg2⟩
      have T2:=Lib.hid (HT.out.moved hS2 hg2)
      have y0:=hS2.c0
      have y1:=hS2.c1
      have hb2:=hb.grown T2.out.2.2.2.1 hBs hBw
      obtain⟨b,off,rfl,hbB,-⟩:=hb2.opn (by omega)
      have hcell:=by_new hb2 a1 f1
      rw [F2.out] at hcell
      clear hS2 hg2 hb2
      go_wp2_with fail
      go_quiet (fail)
      go_wp2_with fail
      go_quiet (fail)
      generalize hw3:(w2.drewN _).drewN _=w3
      have T3:TagSt w s mb (.slice (some ⟨b,off,none⟩) n c) (.slice So mo co) a1 seen (.slice S m cS) m ls w3:=by rw [← hw3];exact(T2.out.drewN _).drewN _
      clear hw3 y0 y1 hcell
      have z1:=T3.1.c1
      have zf:=T3.1.fz 1
      have T4:TagSt w s mb (.slice (some ⟨b,off,none⟩) n c) (.slice So mo co) (a1+1) seen (.slice S m cS) m ls (w3.setCell ⟨s,1,none⟩ (.int .i64 ((a1:Int)+1))):=T3.set1 (a1+1)
      have hown4:=Hown.out.kept T4.2.2.2.1 (.inr (own_ne_scan Hs.out Hown.out))
      have x2:=T4.1.c2
      have HT4:=Lib.hid T4
      have Hown4:=Lib.hid hown4
      clear T3 T4 hown4
      cases shut with
      | true =>
       go_wp2_with fail
       refine bodyPost_ret (results_none rfl _ _ _) rfl ?_
       rw [HRs.out]
       refine⟨rfl,So,co,?_,?_,(Below.refl _ w).grown HT4.out.2.2.2.1 hBw (fun k hk=>by injection hk with hk;omega)⟩
       · have:=HT4.out.1
         rw [← F3.out,Hmo.out] at this
         exact this
       · have:=Hown4.out
         rw [Hmo.out] at this
         exact this
      | false =>
       have hsl4:=Sl.of_own HT4.out.2.2.1
       have hmb1:m≤5000:=by have:=Hm.out;omega
       have hmob:mo≤1000:=by have:=Hmo.out;omega
       have h63:mo+m≤maxLen:=by unfold maxLen;omega
       have h47:(mo+m) * 32≤140737488355328:=by omega
       have hbase:Bf≤(w3.setCell ⟨s,1,none⟩ (.int .i64 ((a1:Int)+1))).heap.size:=Nat.le_trans hBw HT4.out.2.2.2.1.size
       go_wp2_with (at_builtin;refine wpList_app rfl _ _ 65 rfl Bf 42 i0 _ 3 32 Tryz.underlying65 Hi0.out hz0 hz1 hz2 rfl (by decide) So mo co (linkC os) rfl Hown4.out _ S m cS (linkC ls) rfl hsl4 (linkC_one ls) h63 h47 hbase ?_)
       intro S' c' w5 hown5 hb5 hg5
       have hS5:ScanIs w5 s (.slice (some ⟨b,off,none⟩) n c) (a1+1) (.slice So mo co):=HT4.out.1.keep (hg5.block s HT4.out.1.lt (fun e=>own_ne_scan HT4.out.1 Hown4.out e.symm))
       have u2:=hS5.c2
       have uf:=hS5.fz 2
       have HS5:=Lib.hid hS5
       have Hown5:=Lib.hid hown5
       clear hS5 hown5 hg5 x2 z1 zf
       go_wp2_with fail
       refine bodyPost_ret (results_none rfl _ _ _) rfl ?_
       have hown6:=Hown5.out.kept (grown_set w5 s 2 (.slice S' (mo+m) c')) (.inr (own_ne_scan HS5.out Hown5.out))
       rw [HRs.out]
       have hlen:mo+m=(os ++ ls).length:=by rw [List.length_append,← Hmo.out,← Hm.out]
       refine⟨rfl,S',c',?_,?_,?_⟩
       · have:=HS5.out.set2 (.slice S' (mo+m) c')
         rw [← F3.out,hlen] at this
         rw [hlen]
         exact this
       · rw [hlen,← linkC_app] at hown6
         rw [hlen]
         exact hown6
       · exact((((Below.refl Bf w).grown HT4.out.2.2.2.1 hBw (fun k hk=>by injection hk with hk;omega))).trans hb5).setCell (by show Bf≤s;omega) _
    · have d62:((q:Int) == 62)=false:=by
       rw [beq_eq_false_iff_ne];intro e
       have:c0.toNat=62:=by rw [← Hq.out];omega
       exact h62 (UInt8.toNat_inj.1 this)
      have hhere:stopD pEq r2 <:+ l:=(stopD_suffix pEq r2).trans ((List.suffix_cons c0 r2).trans hr1)
      have hr2:r2 <:+ l:=(List.suffix_cons c0 r2).trans hr1
      have hxy:c0 :: r2=(c0 :: stopT pEq r2) ++ stopD pEq r2:=by rw [List.cons_append,stop_app]
      have hgo:=fun(n f:Nat) (seen:List (List UInt8)) (ls:List LinkD)=>attrsL_go (n:=n) (f:=f) (seen:=seen) (ls:=ls) hd h62
      have his:=fun(n f:Nat) (seen:List (List UInt8)) (ls:List LinkD) (r4:List UInt8)=>attrsL_is (n:=n) (f:=f) (seen:=seen) (ls:=ls) (r4:=r4) hd h62
      have hherelen:=stopD_len pEq r2
      obtain⟨here,hhereE⟩:∃ here,here=stopD pEq r2:=⟨_,rfl⟩
      obtain⟨name0,hname0⟩:∃ name0,name0=c0 :: stopT pEq r2:=⟨_,rfl⟩
      rw [← hhereE,← hname0] at hxy
      rw [← hhereE] at hhere hgo his hherelen
      rw [← hname0] at hgo his
      have hn0len:name0.length≤4000:=by have:=congrArg List.length hxy;have:=hr1.length_le;simp only [List.length_append,List.length_cons] at *;have:=Hnl.out;omega
      obtain⟨a5,ha5⟩:∃ a5,a5=n - here.length:=⟨_,rfl⟩
      have ha15:a1≤a5:=by have:=Ha1.out;simp only [List.length_cons] at this;omega
      have ha5n:a5≤n:=by omega
      have Hgo:=Lib.hid hgo
      have His:=Lib.hid his
      have HhereE:=Lib.hid hhereE
      have Ha5:=Lib.hid ha5
      have Hxy:=Lib.hid hxy
      have HE:=Lib.hid hE
      have H62:=Lib.hid h62
      clear hgo his hhereE ha5 hxy hE hname0 hd h62
      go_wp2_with fail
      refine Ht.out.mono ?_
      clear Ht
      rintro e w2 ⟨rfl,hS2,hg2⟩
      have T2:=Lib.hid (HT.out.moved hS2 hg2)
      have y0:=hS2.c0
      have y1:=hS2.c1
      have hb2:=hb.grown T2.out.2.2.2.1 hBs hBw
      obtain⟨b,off,rfl,hbB,-⟩:=hb2.opn (by omega)
      have hcell:=by_new hb2 a1 f1
      rw [F2.out] at hcell
      clear hS2 hg2 hb2
      go_wp2_with fail
      go_quiet (fail)
      go_wp2_with fail
      go_quiet (fail)
      generalize hw3:(w2.drewN _).drewN _=w3
      have T3:TagSt w s mb (.slice (some ⟨b,off,none⟩) n c) (.slice So mo co) a1 seen (.slice S m cS) m ls w3:=by rw [← hw3];exact(T2.out.drewN _).drewN _
      clear hw3 y0 y1 hcell
      have z1:=T3.1.c1
      have zf:=T3.1.fz 1
      have T4:TagSt w s mb (.slice (some ⟨b,off,none⟩) n c) (.slice So mo co) (a1+1) seen (.slice S m cS) m ls (w3.setCell ⟨s,1,none⟩ (.int .i64 ((a1:Int)+1))):=T3.set1 (a1+1)
      have hb4:=hb.grown T4.2.2.2.1 hBs hBw
      have ht5:=till_rest 108 #[] (enters_of Tryz.func108 (by kernel_rfl) rfl) pEq _ predEq s (some ⟨b,off,none⟩) n c Bf (.slice So mo co) l r2 (w3.setCell ⟨s,1,none⟩ (.int .i64 ((a1:Int)+1))) (by rw [F3.out];exact T4.1) hr2 hb4 hBs (by omega) (fun _ _=>trivial)
      rw [← HhereE.out,← Ha5.out] at ht5
      have Ht5:=Lib.hid ht5
      have HT4:=Lib.hid T4
      clear T3 T4 hb4 ht5
      go_wp2_with fail
      refine Ht5.out.mono ?_
      clear Ht5 z1 zf
      rintro e w5 ⟨rfl,hS5,hg5⟩
      have T5:=Lib.hid (HT4.out.moved hS5 hg5)
      have y0:=hS5.c0
      have y1:=hS5.c1
      have hb5:=hb.grown T5.out.2.2.2.1 hBs hBw
      have hmid:=hb5.midR hr1 hc Hxy.out
      rw [← Ha1.out,← Ha5.out] at hmid
      have hts:=run_toStr (P:=Tryz.prog) w5.drew 22 9 5 _ (cutA (some ⟨b,off,none⟩) c a1 1) (a5 - a1) (c - a1) name0 hmid Tryz.underlying22 Tryz.underlying5 Tryz.underlying9
      have Hmid:=Lib.hid hmid
      clear hS5 hg5 hb5 hmid HT4
      go_wp2_with fail
      go_still_tail 11,(by kernel_rfl)
      change wpList _ _ _ _ _ w5.drew
      generalize hw6:w5.drew=w6
      have T6:TagSt w s mb (.slice (some ⟨b,off,none⟩) n c) (.slice So mo co) a5 seen (.slice S m cS) m ls w6:=by rw [← hw6];exact T5.out.drewN 1
      clear hw6 y0 y1 hts
      have HT6:=Lib.hid T6
      clear T6
      go_wp2_with fail
      refine(lower_any name0 w6 (by unfold maxLen;omega)).mono ?_
      rintro e w7 ⟨rfl,hb7⟩
      have T7:=HT6.out.below hb7
      have y1:=T7.1.c1
      have hb7':=hb.grown T7.2.2.2.1 hBs hBw
      have ht8:=blanks_any s (some ⟨b,off,none⟩) n c Bf (.slice So mo co) l here w7 (by rw [← Ha5.out];exact T7.1) hhere hb7' hBs (by omega)
      have Ht8:=Lib.hid ht8
      have HT7:=Lib.hid T7
      clear T7 ht8 hb7 hb7' HT6 T5 T2
      obtain⟨name,hname⟩:∃ name,name=lowL name0:=⟨_,rfl⟩
      rw [← hname]
      have Hname:=Lib.hid hname
      clear hname
      go_wp2_with fail
      refine Ht8.out.mono ?_
      clear Ht8
      rintro e w8 ⟨rfl,hS8,hg8⟩
      have hb8:=hb.grown (grown_tr HT7.out.2.2.2.1 hg8) hBs hBw
      clear y1
      have hr3:stopD pNotSp here <:+ l:=(stopD_suffix pNotSp here).trans hhere
      have hr3len:=stopD_len pNotSp here
      rcases hd3:stopD pNotSp here with _ | ⟨d,r4⟩
      · rw [hd3] at hS8
        simp only [List.length_nil,Nat.sub_zero] at hS8
        have T8:=Lib.hid (HT7.out.moved hS8 hg8)
        have y0:=hS8.c0
        have y1:=hS8.c1
        have Hd3:=Lib.hid hd3
        clear hS8 hg8 hb8 hd3
        go_wp2_with fail
        go_quiet (fail)
        generalize hw9:w8.drewN _=w9
        have T9:TagSt w s mb (.slice (some ⟨b,off,none⟩) n c) (.slice So mo co) n seen (.slice S m cS) m ls w9:=by rw [← hw9];exact T8.out.drewN _
        clear hw9 y0 y1
        have z1:=T9.1.c1
        have zf:=T9.1.fz 1
        have T10:=T9.set1 a5
        obtain⟨w11,hrun,hseen11,hg11⟩:=T10.2.1.put name (by rw [Hname.out];unfold lowL;rw [List.length_map];unfold maxLen;omega) (by unfold maxLen;omega)
        have T11:=T10.put name hseen11 hg11
        have HT11:=Lib.hid T11
        have Hat2:=Lib.hid (scan_at T11.1)
        clear T9 T10 T11 hseen11 hg11 T8 HT7
        go_wp2_with fail
        refine⟨⟨here,f',name :: seen,ls,S,m,cS,rfl,Hm.out,hhere,by rw [← Ha5.out];exact HT11.out,?_,by omega,by omega,by simp only [List.length_cons];omega⟩,?_⟩
        · show _=R
          rw [Hname.out,← Hgo.out n f' seen ls (by rw [Hd3.out];simp)]
          exact HE.out
        · rw [Hat2.out,Hat.out,Ha5.out]
          have:=hr.length_le
          have:=Hnl.out
          omega
      · rw [hd3] at hS8 hr3 hr3len
        simp only [List.length_cons] at hr3len
        obtain⟨f1',f2',f3'⟩:=hb8.rest hr3
        obtain⟨a7,ha7⟩:∃ a7,a7=n - (d :: r4).length:=⟨_,rfl⟩
        rw [← ha7] at f1' f2' f3' hS8
        have hcell':=by_new hb8 a7 f1'
        obtain⟨q',hq'⟩:∃ q',q'=d.toNat:=⟨_,rfl⟩
        rw [f2',← hq'] at hcell'
        have hq256':q' < 256:=by rw [hq'];exact d.toNat_lt
        have dn':((a7:Int) == (n:Int))=false:=by rw [beq_eq_false_iff_ne];omega
        have T8:=Lib.hid (HT7.out.moved hS8 hg8)
        have y0:=hS8.c0
        have y1:=hS8.c1
        have Hd3:=Lib.hid hd3
        have Ha7:=Lib.hid ha7
        have F3':=Lib.hid f3'
        have Hq':=Lib.hid hq'
        clear hS8 hg8 hb8 hd3 ha7 f2' f3' hq'
        by_cases h61:d=61
        · have d61:((q':Int) != 61)=false:=by rw [Hq'.out,h61];rfl
          have H61:=Lib.hid h61
          clear h61
          go_wp2_with fail
          go_quiet (fail)
          clear hcell'
          generalize hw9:w8.drewN _=w9
          have T9:TagSt w s mb (.slice (some ⟨b,off,none⟩) n c) (.slice So mo co) a7 seen (.slice S m cS) m ls w9:=by rw [← hw9];exact T8.out.drewN _
          clear hw9 y0 y1
          have z1:=T9.1.c1
          have zf:=T9.1.fz 1
          have T10:TagSt w s mb (.slice (some ⟨b,off,none⟩) n c) (.slice So mo co) (a7+1) seen (.slice S m cS) m ls (w9.setCell ⟨s,1,none⟩ (.int .i64 ((a7:Int)+1))):=T9.set1 (a7+1)
          have hr4:r4 <:+ l:=(List.suffix_cons d r4).trans hr3
          have hb10:=hb.grown T10.2.2.2.1 hBs hBw
          have hv:=value_any s (some ⟨b,off,none⟩) n c Bf (.slice So mo co) l r4 (w9.setCell ⟨s,1,none⟩ (.int .i64 ((a7:Int)+1))) (by rw [F3'.out];exact T10.1) hr4 hb10 hBs (by omega)
          obtain⟨hV1,hV2,x,hVx⟩:=valueR_in r4
          have hV1n:=hV1.length_le
          have hV2n:=hV2.length_le
          have hVxn:=congrArg List.length hVx
          rw [List.length_append] at hVxn
          have hV1:=hV1.trans hr4
          have hV2:=hV2.trans hr4
          obtain⟨fa,hfa⟩:∃ fa,fa=n - (valueR r4).1.length:=⟨_,rfl⟩
          obtain⟨fz,hfz⟩:∃ fz,fz=n - (valueR r4).2.1.length:=⟨_,rfl⟩
          obtain⟨fn,hfn⟩:∃ fn,fn=n - (valueR r4).2.2.length:=⟨_,rfl⟩
          unfold ValOut at hv
          rw [← hfa,← hfz,← hfn] at hv
          have hfaz:fa≤fz:=by omega
          have hfzn:fz≤n:=by omega
          have hnl4:name.length≤maxLen:=by rw [Hname.out];unfold lowL;rw [List.length_map];unfold maxLen;omega
          have hld:=fun W=>leads_any name W
          have Hv:=Lib.hid hv
          have HT10:=Lib.hid T10
          have Hfa:=Lib.hid hfa
          have Hfz:=Lib.hid hfz
          have Hfn:=Lib.hid hfn
          have HVx:=Lib.hid hVx
          clear T8 HT7 T9 T10 hb10 hv hfa hfz hfn hVx hVxn hV1n
          go_wp2_with fail
          refine Hv.out.mono ?_
          clear Hv z1 zf
          rintro e w11 ⟨rfl,hS11,hg11⟩
          have T11:=Lib.hid (HT10.out.moved hS11 hg11)
          have y0:=hS11.c0
          clear hS11 hg11
          have hld:=hld w11
          by_cases hlead:leadsB name=true
          · rw [hlead] at hld
            have Hld:=Lib.hid hld
            by_cases hcon:seen.contains name=true
            · have hlk:=T11.out.2.1.look name hnl4
              rw [hcon] at hlk
              have Hno:Hid ((leadsB name && !seen.contains name)=false):=by show _=_;rw [hcon];simp
              clear hlead hcon hld
              obtain⟨w12,hrun,hseen12,hg12⟩:=T11.out.2.1.put name hnl4 (by unfold maxLen;omega)
              have T12:=T11.out.put name hseen12 hg12
              have HT12:=Lib.hid T12
              have Hat2:=Lib.hid (scan_at T12.1)
              clear T12 hseen12 hg12
              go_wp2_with fail
              refine Hld.out.mono ?_
              rintro e w1x ⟨rfl,rfl⟩
              go_wp2_with fail
              refine⟨⟨(valueR r4).2.2,f',name :: seen,ls,S,m,cS,rfl,Hm.out,hV2,by rw [← Hfn.out];exact HT12.out,?_,by omega,by omega,by simp only [List.length_cons];omega⟩,?_⟩
              · show _=R
                have h:=His.out n f' seen ls r4 (by rw [Hd3.out,H61.out])
                rw [← Hname.out] at h
                rw [← HE.out,h]
                congr 1
                unfold addLink
                rw [Hno.out]
                rfl
              · rw [Hat2.out,Hat.out,Hfn.out]
                have:=hr.length_le
                have:=Hnl.out
                omega
            · have hcf:seen.contains name=false:=by simpa using hcon
              have hlk:=T11.out.2.1.look name hnl4
              rw [hcf] at hlk
              have Hyes:Hid ((leadsB name && !seen.contains name)=true):=by show _=_;rw [hcf,hlead];rfl
              have hb11:=hb.grown T11.out.2.2.2.1 hBs hBw
              have hmid:=hb11.midR hV1 hc HVx.out
              rw [← Hfa.out,← Hfz.out] at hmid
              have hts:=run_toStr (P:=Tryz.prog) w11 22 9 5 _ (cutA (some ⟨b,off,none⟩) c fa 1) (fz - fa) (c - fa) x hmid Tryz.underlying22 Tryz.underlying5 Tryz.underlying9
              clear hlead hcon hcf hld hb11 hmid
              go_wp2_with fail
              refine Hld.out.mono ?_
              rintro e w1x ⟨rfl,rfl⟩
              go_wp2_with fail
              obtain⟨ux,hux⟩:∃ ux,ux=unamp x:=⟨_,rfl⟩
              have hun:=unamp_any x w11 (hM.grown T11.out.2.2.2.1 Hs.out.c0 (by intro m e;cases e)) (by have:=hV1.length_le;have:=congrArg List.length HVx.out;rw [List.length_append] at this;have:=Hnl.out;omega)
              rw [← hux] at hun
              have Hux:=Lib.hid hux
              clear hux
              refine hun.mono ?_
              clear hun
              rintro e w12 ⟨rfl,hb12⟩
              have T12:=Lib.hid (T11.out.below hb12)
              have TA:TagSt w s mb (.slice (some ⟨b,off,none⟩) n c) (.slice So mo co) fn seen (.slice S m cS) m ls (w12.alloc (.cells #[.int .i64 (fa:Nat),.int .i64 (fz:Nat),str ux] 42)):=T12.out.below ((Below.refl _ w12).alloc (Nat.le_refl _) _)
              have hslA:Sl (w12.alloc (.cells #[.int .i64 (fa:Nat),.int .i64 (fz:Nat),str ux] 42)) (w12.heap.size+1) 3 (some ⟨w12.heap.size,0,none⟩) 1 [.int .i64 (fa:Nat),.int .i64 (fz:Nat),str ux]:=Sl.row w12 42 3 1 [.int .i64 (fa:Nat),.int .i64 (fz:Nat),str ux] rfl
              have h1A:=linkC_one [⟨fa,fz,ux⟩]
              have hmb1:m≤5000:=by have:=Hm.out;omega
              have h63:m+1≤maxLen:=by unfold maxLen;omega
              have h47:(m+1) * 32≤140737488355328:=by omega
              have hbase:w.heap.size≤(w12.alloc (.cells #[.int .i64 (fa:Nat),.int .i64 (fz:Nat),str ux] 42)).heap.size:=TA.2.2.2.1.size
              have HTA:=Lib.hid TA
              clear TA hb12 y0 hts
              go_wp2_with (at_builtin;refine wpList_app rfl _ _ 65 rfl w.heap.size 42 i0 _ 3 32 Tryz.underlying65 Hi0.out hz0 hz1 hz2 rfl (by decide) S m cS (linkC ls) rfl HTA.out.2.2.1 _ (some ⟨w12.heap.size,0,none⟩) 1 1 [.int .i64 (fa:Nat),.int .i64 (fz:Nat),str ux] rfl hslA h1A h63 h47 hbase ?_)
              intro S' c' w13 hown13 hb13 hg13
              have T13:TagSt w s mb (.slice (some ⟨b,off,none⟩) n c) (.slice So mo co) fn seen (.slice S' (m+1) c') (m+1) (ls ++ [⟨fa,fz,ux⟩]) w13:=HTA.out.app (by rw [linkC_app];exact hown13) hg13
              obtain⟨w14,hrun,hseen14,hg14⟩:=T13.2.1.put name hnl4 (by unfold maxLen;omega)
              have T14:=T13.put name hseen14 hg14
              have HT14:=Lib.hid T14
              have Hat2:=Lib.hid (scan_at T14.1)
              clear T13 T14 hseen14 hg14 hg13 hown13 hb13 HTA hslA
              go_wp2_with fail
              refine⟨⟨(valueR r4).2.2,f',name :: seen,ls ++ [⟨fa,fz,ux⟩],S',m+1,c',rfl,by rw [Hm.out];simp,hV2,by rw [← Hfn.out];exact HT14.out,?_,by omega,by rw [List.length_append,List.length_singleton];omega,by simp only [List.length_cons];omega⟩,?_⟩
              · show _=R
                have h:=His.out n f' seen ls r4 (by rw [Hd3.out,H61.out])
                rw [← Hname.out] at h
                rw [← HE.out,h]
                congr 1
                unfold addLink
                rw [Hyes.out]
                have e1:(valueR r4).1.take ((valueR r4).1.length - (valueR r4).2.1.length)=x:=by
                 rw [HVx.out,List.length_append,Nat.add_sub_cancel,List.take_left]
                rw [e1,← Hux.out,← Hfa.out,← Hfz.out]
                rfl
              · rw [Hat2.out,Hat.out,Hfn.out]
                have:=hr.length_le
                have:=Hnl.out
                omega
          · have hlf:leadsB name=false:=by simpa using hlead
            rw [hlf] at hld
            have Hld:=Lib.hid hld
            have Hno:Hid ((leadsB name && !seen.contains name)=false):=by show _=_;rw [hlf];rfl
            clear hlead hlf hld
            obtain⟨w12,hrun,hseen12,hg12⟩:=T11.out.2.1.put name hnl4 (by unfold maxLen;omega)
            have T12:=T11.out.put name hseen12 hg12
            have HT12:=Lib.hid T12
            have Hat2:=Lib.hid (scan_at T12.1)
            clear T12 hseen12 hg12
            go_wp2_with fail
            refine Hld.out.mono ?_
            rintro e w1x ⟨rfl,rfl⟩
            go_wp2_with fail
            refine⟨⟨(valueR r4).2.2,f',name :: seen,ls,S,m,cS,rfl,Hm.out,hV2,by rw [← Hfn.out];exact HT12.out,?_,by omega,by omega,by simp only [List.length_cons];omega⟩,?_⟩
            · show _=R
              have h:=His.out n f' seen ls r4 (by rw [Hd3.out,H61.out])
              rw [← Hname.out] at h
              rw [← HE.out,h]
              congr 1
              unfold addLink
              rw [Hno.out]
              rfl
            · rw [Hat2.out,Hat.out,Hfn.out]
              have:=hr.length_le
              have:=Hnl.out
              omega
        · have d61:((q':Int) != 61)=true:=by
           rw [bne_iff_ne];intro e
           have:d.toNat=61:=by rw [← Hq'.out];omega
           exact h61 (UInt8.toNat_inj.1 this)
          have H61:=Lib.hid h61
          clear h61
          go_wp2_with fail
          go_quiet (fail)
          clear hcell'
          generalize hw9:w8.drewN _=w9
          have T9:TagSt w s mb (.slice (some ⟨b,off,none⟩) n c) (.slice So mo co) a7 seen (.slice S m cS) m ls w9:=by rw [← hw9];exact T8.out.drewN _
          clear hw9 y0 y1
          have z1:=T9.1.c1
          have zf:=T9.1.fz 1
          have T10:=T9.set1 a5
          obtain⟨w11,hrun,hseen11,hg11⟩:=T10.2.1.put name (by rw [Hname.out];unfold lowL;rw [List.length_map];unfold maxLen;omega) (by unfold maxLen;omega)
          have T11:=T10.put name hseen11 hg11
          have HT11:=Lib.hid T11
          have Hat2:=Lib.hid (scan_at T11.1)
          clear T9 T10 T11 hseen11 hg11 T8 HT7
          go_wp2_with fail
          refine⟨⟨here,f',name :: seen,ls,S,m,cS,rfl,Hm.out,hhere,by rw [← Ha5.out];exact HT11.out,?_,by omega,by omega,by simp only [List.length_cons];omega⟩,?_⟩
          · show _=R
            rw [Hname.out,← Hgo.out n f' seen ls (by rw [Hd3.out];simp only [List.head?_cons,ne_eq,Option.some.injEq];exact H61.out)]
            exact HE.out
          · rw [Hat2.out,Hat.out,Ha5.out]
            have:=hr.length_le
            have:=Hnl.out
            omega
end Go.Proofs.YtlgbopjhmemaoaaGreatDoor
namespace Go.Proofs.YtlgbopjhmemaoaaGreatDoor
theorem stepP_nil:stepP []=(raw [],[]):=by
 unfold stepP
 rfl
theorem findP_nil (f:Nat):findP f []=some (raw []):=by cases f <;> rfl
theorem tagP_2_len (r:List UInt8) (shut:Bool):(tagP r shut).2.length≤r.length:=by
 have:=congrArg List.length (tagP_app r shut)
 rw [List.length_append] at this
 omega
theorem pastL_len (t r:List UInt8):(pastL t r).length≤r.length:=(pastL_suffix t r).length_le
theorem stepP_lt (c:UInt8) (r:List UInt8):(stepP (c :: r)).2.length≤r.length:=by
 unfold stepP
 split
 · have:=pastL_len [45,45,62] ((c :: r).drop 4)
   simp only [List.length_drop,List.length_cons] at this ⊢
   omega
 · split
   · show(pastL [62] (c :: r)).length≤_
     unfold pastL
     split
     · simp
     · rw [List.length_drop];simp only [List.length_cons,List.length_nil];omega
   · split
     · have:=tagP_2_len ((c :: r).drop 1) false
       simpa using this
     · split
       · have:=tagP_2_len ((c :: r).drop 2) true
         simp only [List.length_drop,List.length_cons] at this ⊢
         omega
       · simp
theorem stepP_round (r:List UInt8) (h:r≠[]):(stepP (stopD (pIs 60) r)).2.length < r.length:=by
 have hl:=stopD_len (pIs 60) r
 have hr:0 < r.length:=by cases r with | nil=>exact absurd rfl h | cons a r=>simp
 rcases hd:stopD (pIs 60) r with _ | ⟨c,y⟩
 · rw [stepP_nil];simpa using hr
 · rw [hd] at hl
   have:=stepP_lt c y
   simp only [List.length_cons] at hl
   omega
theorem findP_some:∀ (f:Nat) (r:List UInt8),r.length≤f→∃ P,findP f r=some P∧∀ f',r.length≤f'→findP f' r=some P:=by
 intro f
 induction f with
 | zero =>
  intro r h
  have:r = []:=List.eq_nil_of_length_eq_zero (by omega)
  subst this
  exact⟨raw [],rfl,fun f' _=>findP_nil f'⟩
 | succ f ih =>
  intro r h
  by_cases hr:r = []
  · subst hr;exact⟨raw [],findP_nil _,fun f' _=>findP_nil f'⟩
  · have hlt:=stepP_round r hr
    obtain⟨Q,hQ,hQ2⟩:=ih (stepP (stopD (pIs 60) r)).2 (by omega)
    refine⟨prep (stopT (pIs 60) r) (catP (stepP (stopD (pIs 60) r)).1 Q),by unfold findP;rw [if_neg hr,hQ];rfl,fun f' hf'=>?_⟩
    obtain⟨g,rfl⟩:∃ g,f'=g+1:=⟨f' - 1,by omega⟩
    unfold findP
    rw [if_neg hr,hQ2 g (by omega)]
    rfl
/-- A page in pieces. -/
def pcs (b:List UInt8):Pcs:=(findP b.length b).getD (raw [])
theorem pcs_find (b:List UInt8) (f:Nat) (h:b.length≤f):findP f b=some (pcs b):=by
 obtain⟨P,h1,h2⟩:=findP_some b.length b (Nat.le_refl _)
 rw [h2 f h,pcs,h1]
 rfl
theorem pcs_app (b:List UInt8):b=weave (pcs b) (vals (pcs b)):=findP_app _ _ _ (pcs_find b b.length (Nat.le_refl _))
def linksL:Nat→List (List UInt8 × List UInt8)→List LinkD
 | _,[]=>[]
 | pos,x :: l=>⟨pos,pos+x.1.length,unamp x.1⟩ :: linksL (pos+x.1.length+x.2.length) l
def links (pos:Nat) (P:Pcs):List LinkD:=linksL (pos+P.1.length) P.2
theorem linksL_len:∀ (l:List (List UInt8 × List UInt8)) (pos:Nat),(linksL pos l).length=l.length
 | [],_=>rfl
 | x :: l,pos=>by simp [linksL,linksL_len l]
theorem links_len (pos:Nat) (P:Pcs):(links pos P).length=P.2.length:=linksL_len _ _
theorem links_prep (pos:Nat) (x:List UInt8) (P:Pcs):links pos (prep x P)=links (pos+x.length) P:=by
 unfold links prep;rw [List.length_append,Nat.add_assoc]
theorem links_cat:∀ (l:List (List UInt8 × List UInt8)) (pos:Nat) (p:List UInt8) (Q:Pcs),links pos (catL p l Q)=linksL (pos+p.length) l ++ links (pos+(p ++ weaveL l (l.map (·.1))).length) Q
 | [],pos,p,Q=>by simp [catL,links_prep,linksL,weaveL]
 | x :: l,pos,p,Q=>by
  have:=links_cat l (pos+p.length+x.1.length) x.2 Q
  unfold links at this ⊢
  simp only [catL,linksL,List.map_cons,weaveL,List.length_append,List.cons_append] at this ⊢
  rw [this]
  congr 2
  simp only [Nat.add_assoc,Nat.add_left_comm,Nat.add_comm]
theorem links_catP (pos:Nat) (P Q:Pcs):links pos (catP P Q)=links pos P ++ links (pos+(weave P (vals P)).length) Q:=links_cat P.2 pos P.1 Q
end Go.Proofs.YtlgbopjhmemaoaaGreatDoor
namespace Go.Proofs.YtlgbopjhmemaoaaGreatDoor
theorem valueR_nil {t:List UInt8} (h:stopD pNotSp t = []):valueR t=([],[],[]):=by unfold valueR;rw [h]
theorem valueR_cons {r:List UInt8} {c:UInt8} {r2:List UInt8} (h:stopD pNotSp r=c :: r2):valueR r=if c=34∨c=39 then (r2,stopD (pIs c.toNat) r2,(stopD (pIs c.toNat) r2).drop 1) else (c :: r2,stopD pVal (c :: r2),stopD pVal (c :: r2)):=by
 show(match stopD pNotSp r with | []=>_ | c :: r2=>_)=_
 rw [h]
theorem valueR_valP (t:List UInt8):(valueR t).2.2=(valP t).2.2.2∧(valueR t).1=(valP t).2.1 ++ ((valP t).2.2.1 ++ (valP t).2.2.2)∧(valueR t).2.1=(valP t).2.2.1 ++ (valP t).2.2.2:=by
 rcases h:stopD pNotSp t with _ | ⟨c,r2⟩
 · rw [valueR_nil h,valP_nil h];exact⟨rfl,rfl,rfl⟩
 · rw [valueR_cons h,valP_cons h]
   split
   · refine⟨rfl,?_,?_⟩
     · show r2=_ ++ (_ ++ _)
       rw [List.take_append_drop,stop_app]
     · show stopD _ r2=_
       rw [List.take_append_drop]
   · refine⟨rfl,?_,rfl⟩
     show c :: r2=stopT pVal (c :: r2) ++ ([] ++ stopD pVal (c :: r2))
     rw [List.nil_append,stop_app]
theorem attrsL_eq (n:Nat):∀ (f:Nat) (r:List UInt8) (seen:List (List UInt8)) (ls:List LinkD) (pos:Nat),pos+r.length=n →
 attrsL n f r seen ls=(attrsP f r seen).map fun q=>(q.2,ls ++ links pos q.1):=by
 intro f
 induction f with
 | zero=>intro r seen ls pos h;rfl
 | succ f ih =>
  intro r seen ls pos h
  unfold attrsL attrsP
  have h0:=stop_app pAttr r
  rcases hc:stopD pAttr r with _ | ⟨c,r2⟩
  · rfl
  · rw [hc] at h0
    simp only
    have h1:=stop_app pEq r2
    split
    · simp [links,linksL]
    · split
      · rename_i h61
        have h4:=stop_app pNotSp (stopD pEq r2)
        have h5:stopD pNotSp (stopD pEq r2)=61 :: (stopD pNotSp (stopD pEq r2)).tail:=by
         cases hd:stopD pNotSp (stopD pEq r2) with
         | nil=>rw [hd] at h61;cases h61
         | cons d x=>rw [hd] at h61;simp at h61;rw [h61];rfl
        rw [h5] at h4
        obtain⟨v1,v2,v3⟩:=valueR_valP (stopD pNotSp (stopD pEq r2)).tail
        have h6:=valP_app (stopD pNotSp (stopD pEq r2)).tail
        generalize (stopD pNotSp (stopD pEq r2)).tail=V at *
        have L0:=congrArg List.length h0
        have L1:=congrArg List.length h1
        have L4:=congrArg List.length h4
        have L6:=congrArg List.length h6
        simp only [List.length_append,List.length_cons] at L0 L1 L4 L6
        rw [v1,ih _ _ _ (n - (valP V).2.2.2.length) (by omega),Option.map_map]
        congr 1
        funext q
        simp only [Function.comp]
        congr 1
        have hpos:n - (valP V).2.2.2.length=pos+(stopT pAttr r ++ (c :: stopT pEq r2) ++ stopT pNotSp (stopD pEq r2) ++ [61] ++ (valP V).1 ++ (valP V).2.1 ++ (valP V).2.2.1).length:=by
         simp only [List.length_append,List.length_cons,List.length_nil]
         omega
        unfold addLink
        split
        · have hf:n - (valueR V).1.length=pos+(stopT pAttr r ++ (c :: stopT pEq r2) ++ stopT pNotSp (stopD pEq r2) ++ [61] ++ (valP V).1).length:=by
           rw [v2]
           simp only [List.length_append,List.length_cons,List.length_nil]
           omega
          have ht:n - (valueR V).2.1.length=pos+(stopT pAttr r ++ (c :: stopT pEq r2) ++ stopT pNotSp (stopD pEq r2) ++ [61] ++ (valP V).1).length+(valP V).2.1.length:=by
           rw [v3]
           simp only [List.length_append,List.length_cons,List.length_nil]
           omega
          have hx:(valueR V).1.take ((valueR V).1.length - (valueR V).2.1.length)=(valP V).2.1:=by
           rw [v2,v3]
           have:((valP V).2.1 ++ ((valP V).2.2.1 ++ (valP V).2.2.2)).length - ((valP V).2.2.1 ++ (valP V).2.2.2).length=(valP V).2.1.length:=by simp only [List.length_append];omega
           rw [this,List.take_left]
          rw [hf,ht,hx,hpos,List.append_assoc]
          unfold links
          have e:(pos+(stopT pAttr r ++ (c :: stopT pEq r2) ++ stopT pNotSp (stopD pEq r2) ++ [61] ++ (valP V).1 ++ (valP V).2.1 ++ (valP V).2.2.1).length)+q.1.1.length=(pos+(stopT pAttr r ++ (c :: stopT pEq r2) ++ stopT pNotSp (stopD pEq r2) ++ [61] ++ (valP V).1).length)+(valP V).2.1.length+((valP V).2.2.1 ++ q.1.1).length:=by
           simp only [List.length_append]
           omega
          rw [e]
          rfl
        · rw [links_prep,hpos]
      · have L0:=congrArg List.length h0
        have L1:=congrArg List.length h1
        simp only [List.length_append,List.length_cons] at L0 L1
        rw [ih _ _ _ (n - (stopD pEq r2).length) (by omega),Option.map_map]
        congr 1
        funext q
        simp only [Function.comp,links_prep]
        congr 3
        simp only [List.length_append,List.length_cons]
        omega
theorem tagL_eq (n:Nat) (r:List UInt8) (shut:Bool) (out:List LinkD) (pos:Nat) (h:pos+r.length=n):tagL n r shut out=((tagP r shut).2,out ++ links pos (tagP r shut).1):=by
 have h0:=congrArg List.length (stop_app pName r)
 rw [List.length_append] at h0
 have e:=attrsL_eq n ((stopD pName r).length+1) (stopD pName r) [] [] (pos+(stopT pName r).length) (by omega)
 unfold tagL
 rcases ha:attrsP ((stopD pName r).length+1) (stopD pName r) [] with _ | ⟨P,r'⟩
 · rw [ha] at e
   rw [e,tagP_none shut ha]
   simp [links,raw,linksL]
 · rw [ha] at e
   rw [e]
   cases shut with
   | false=>rw [tagP_open ha];simp [links_prep]
   | true=>rw [tagP_shut ha];simp [links,raw,linksL]
theorem stepL_eq (n:Nat) (r:List UInt8) (out:List LinkD) (pos:Nat) (h:pos+r.length=n):stepL n r out=((stepP r).2,out ++ links pos (stepP r).1):=by
 have hraw:∀ (x:List UInt8),links pos (raw x) = []:=fun x=>rfl
 unfold stepL stepP
 split
 · rw [hraw,List.append_nil]
 · split
   · rw [hraw,List.append_nil]
   · split
     · rename_i h3
       simp only [Bool.and_eq_true,decide_eq_true_eq] at h3
       rw [tagL_eq n _ _ _ (pos+1) (by rw [List.length_drop];omega)]
       show _=(_,out ++ links pos (prep (r.take 1) _))
       rw [links_prep,List.length_take]
       congr 3
       omega
     · split
       · rename_i h3
         simp only [Bool.and_eq_true,decide_eq_true_eq] at h3
         rw [tagL_eq n _ _ _ (pos+2) (by rw [List.length_drop];omega)]
         show _=(_,out ++ links pos (prep (r.take 2) _))
         rw [links_prep,List.length_take]
         congr 3
         omega
       · rw [hraw,List.append_nil]
theorem findL_eq (n:Nat):∀ (f:Nat) (r:List UInt8) (out:List LinkD) (pos:Nat) (P:Pcs),pos+r.length=n→findP f r=some P→out.length≤60 →
 findL n f r out=if 60 < (out ++ links pos P).length then none else some (out ++ links pos P):=by
 intro f
 induction f with
 | zero =>
  intro r out pos P h hP ho
  unfold findP at hP
  split at hP
  · injection hP with hP
    subst hP
    unfold findL
    rw [show links pos (raw []) = [] from rfl,List.append_nil,if_neg (by omega)]
  · cases hP
 | succ f ih =>
  intro r out pos P h hP ho
  unfold findP at hP
  unfold findL
  split at hP
  · rename_i hr
    injection hP with hP
    subst hP
    rw [if_pos hr,show links pos (raw []) = [] from rfl,List.append_nil,if_neg (by omega)]
  · rename_i hr
    rw [if_neg hr]
    obtain⟨Q,hQ,rfl⟩:=Option.map_eq_some_iff.1 hP
    have h0:=congrArg List.length (stop_app (pIs 60) r)
    have h1:=congrArg List.length (stepP_app (stopD (pIs 60) r))
    simp only [List.length_append] at h0 h1
    rw [stepL_eq n _ _ (pos+(stopT (pIs 60) r).length) (by omega)]
    have e:links pos (prep (stopT (pIs 60) r) (catP (stepP (stopD (pIs 60) r)).1 Q))=links (pos+(stopT (pIs 60) r).length) (stepP (stopD (pIs 60) r)).1 ++ links (n - (stepP (stopD (pIs 60) r)).2.length) Q:=by
     rw [links_prep,links_catP]
     congr 2
     omega
    rw [e,← List.append_assoc]
    simp only
    split
    · rw [if_pos (by rw [List.length_append];omega)]
    · exact ih _ _ _ Q (by omega) hQ (by omega)
theorem findB_eq (b:List UInt8):findB b=if 60 < (pcs b).2.length then none else some (links 0 (pcs b)):=by
 have h:=findL_eq b.length b.length b [] 0 (pcs b) (by omega) (pcs_find b _ (Nat.le_refl _)) (by simp)
 rw [List.nil_append,links_len] at h
 exact h
def badPut (x:Nat):Bool:=decide (x≤32) || decide (126 < x) || x == 34 || x == 39 || x == 60 || x == 62 || x == 38 || x == 61
def pick (v t:List UInt8):List UInt8:=if t = [] then v else t
def picks:List (List UInt8 × List UInt8)→List (List UInt8)→List (List UInt8)
 | x :: l,t :: ts=>pick x.1 t :: picks l ts
 | _,_=>[]
/-- Put's loop: from 'at' on, with what is out already. -/
def putL (b:List UInt8):Nat→List UInt8→List LinkD→List (List UInt8)→List UInt8
 | at_,out,x :: l,t :: ts=>if t = [] then putL b at_ out l ts else putL b x.til (out ++ (b.take x.frm).drop at_ ++ t) l ts
 | at_,out,_,_=>out ++ b.drop at_
/-- link.Put, its answer and its error. -/
def putB (b:List UInt8) (ts:List (List UInt8)):List UInt8 × Nat:=
 match findB b with
 | none=>([],2)
 | some l=>if ts.length≠l.length then ([],4) else if ts.any (fun t=>t.any fun c=>badPut c.toNat) then ([],1) else if 4000 < (putL b 0 [] l ts).length then ([],2) else (putL b 0 [] l ts,0)
theorem putL_eq:∀ (l:List (List UInt8 × List UInt8)) (ts:List (List UInt8)) (pre out:List UInt8) (b:List UInt8) (at_:Nat),ts.length=l.length→b=pre ++ weaveL l (l.map (·.1))→at_≤pre.length →
 putL b at_ out (linksL pre.length l) ts=out ++ (pre.drop at_ ++ weaveL l (picks l ts))
 | [],[],pre,out,b,at_,_,hb,h=>by
  subst hb
  simp [linksL,putL,weaveL]
 | [],t :: ts,_,_,_,_,h,_,_=>by simp at h
 | x :: l,[],_,_,_,_,h,_,_=>by simp at h
 | x :: l,t :: ts,pre,out,b,at_,hl,hb,h=>by
  have hb':b=(pre ++ x.1 ++ x.2) ++ weaveL l (l.map (·.1)):=by rw [hb];simp [weaveL]
  have hlen:(pre ++ x.1 ++ x.2).length=pre.length+x.1.length+x.2.length:=by simp;omega
  simp only [linksL,putL,picks,pick]
  split
  · rename_i ht
    have:=putL_eq l ts (pre ++ x.1 ++ x.2) out b at_ (by simpa using hl) hb' (by rw [hlen];omega)
    rw [hlen] at this
    rw [this,List.append_assoc pre,List.drop_append_of_le_length h]
    simp [weaveL]
  · rename_i ht
    have:=putL_eq l ts (pre ++ x.1 ++ x.2) (out ++ (b.take pre.length).drop at_ ++ t) b (pre.length+x.1.length) (by simpa using hl) hb' (by rw [hlen];omega)
    rw [hlen] at this
    rw [this]
    have e1:(b.take pre.length).drop at_=pre.drop at_:=by rw [hb,List.take_left]
    have e2:(pre ++ x.1 ++ x.2).drop (pre.length+x.1.length)=x.2:=by
     have:pre.length+x.1.length=(pre ++ x.1).length:=by simp
     rw [this,List.drop_left]
    rw [e1,e2]
    simp [weaveL]
theorem putL_weave (b:List UInt8) (ts:List (List UInt8)) (h:ts.length=(pcs b).2.length):putL b 0 [] (links 0 (pcs b)) ts=weave (pcs b) (picks (pcs b).2 ts):=by
 have:=putL_eq (pcs b).2 ts (pcs b).1 [] b 0 h (pcs_app b) (Nat.zero_le _)
 unfold links
 rw [Nat.zero_add,this]
 rfl
end Go.Proofs.YtlgbopjhmemaoaaGreatDoor
