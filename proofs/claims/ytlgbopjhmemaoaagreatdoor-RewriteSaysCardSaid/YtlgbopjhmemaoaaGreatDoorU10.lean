import Derived.Test.YtlgbopjhmemaoaaGreatDoorU9
import Derived.Lib.IndexMore
import Derived.Test.YtlgbopjhmemaoaaGreatDoorU8
import Derived.Test.YtlgbopjhmemaoaaGreatDoorU5
import Derived.Deep.RegionHeld
import Derived.Test.YtlgbopjhmemaoaaGreatDoorU1
set_option maxRecDepth 100000
set_option maxHeartbeats 40000000
namespace Go.Proofs.YtlgbopjhmemaoaaGreatDoor
open Go.RowKit
attribute [local go_sem high] cut_u8 mid_u8
/-- link.Find: its links, its error. -/
def findEnd:Option (List LinkD)→List LinkD × Nat
 | none=>([],2)
 | some ls=>(ls,0)
def findE (l:List UInt8):List LinkD × Nat:=if 4000 < l.length then ([],2) else findEnd (findB l)
def FindOut (T:List LinkD × Nat) (w:World) (e:Ending) (w':World):Prop:=
 ∃ S c,e = .returned (.tuple #[.slice S T.1.length c,.int .i64 (T.2:Nat)])∧w'.ownsRow w.heap.size 42 3 (.slice S T.1.length c) T.1.length (linkC T.1)∧Below w.heap.size w w'
def FindRel (w:World) (s:Nat) (v:Value) (n:Nat) (l:List UInt8) (R:Option (List LinkD)) (wr:World):Prop:=
 ∃ (r:List UInt8) (f:Nat) (os:List LinkD) (S:Option Addr) (m c:Nat),r <:+ l∧m=os.length∧ScanIs wr s v (n - r.length) (.slice S m c)∧wr.ownsRow w.heap.size 42 3 (.slice S m c) m (linkC os)∧Below w.heap.size w wr ∧
  Hid (findL n f r os=R)∧r.length≤f∧os.length≤60
theorem findL_none {n f:Nat} {r:List UInt8} {os:List LinkD} (hr:r≠[]) (h:60 < (stepL n (stopD (pIs 60) r) os).2.length):findL n (f+1) r os=none:=by
 conv=>lhs;unfold findL
 rw [if_neg hr,if_pos h]
theorem findL_more {n f:Nat} {r:List UInt8} {os:List LinkD} (hr:r≠[]) (h:¬ 60 < (stepL n (stopD (pIs 60) r) os).2.length):findL n (f+1) r os=findL n f (stepL n (stopD (pIs 60) r) os).1 (stepL n (stopD (pIs 60) r) os).2:=by
 conv=>lhs;unfold findL
 rw [if_neg hr,if_neg h]
theorem tagL_len (n:Nat) (r:List UInt8) (shut:Bool) (out:List LinkD) (pos:Nat) (h:pos+r.length=n):(tagL n r shut out).1.length≤r.length∧(tagL n r shut out).1 <:+ r:=by
 rw [tagL_eq n r shut out pos h]
 have:=tagP_app r shut
 refine⟨tagP_2_len r shut,?_⟩
 show(tagP r shut).2 <:+ r
 conv=>rhs;rw [this]
 exact List.suffix_append _ _
theorem Find_any (A:Option Addr) (n c:Nat) (l:List UInt8) (w:World) (hM:MaxLenOk w) (hb:By w w.heap.size A n l) (hc:n≤c) (_hcm:c≤maxLen) :
 Calls Tryz.prog 30 #[.slice A n c] w (FindOut (findE l) w):=by
 have hnl:=hb.len
 by_cases h4:4000 < n
 · have hR:findE l=([],2):=by unfold findE;rw [if_pos (by omega)]
   rw [hR]
   clear hR
   go_enter Tryz.func30,Tryz.ntmps30
   go_wp2_with fail
   go_ret2
   exact⟨none,0,rfl,World.ownsRow_nil _ _ _ _,Below.refl _ _⟩
 · obtain⟨R,hR⟩:∃ R,R=findL n n l []:=⟨_,rfl⟩
   have hT:findE l=findEnd R:=by
    unfold findE findB
    rw [if_neg (by omega),hnl,hR]
   rw [hT]
   have HR:=Lib.hid hR
   have Hnl:=Lib.hid hnl
   have hM0:=hM
   clear hR hT hnl hM
   go_enter Tryz.func30,Tryz.ntmps30
   go_wp2_with fail
   obtain⟨s,hs⟩:∃ s,s=w.heap.size:=⟨_,rfl⟩
   rw [← hs]
   have Hs:=Lib.hid hs
   clear hs
   go_loopw [] (fun wr=>FindRel w s (.slice A n c) n l R wr) (fun wr=>n - atOf wr s)
   case atStart =>
    refine⟨l,n,[],none,0,0,List.suffix_refl l,rfl,?_,World.ownsRow_nil _ _ _ _,(Below.refl _ w).alloc (Nat.le_refl _) _,HR.out.symm,by have:=Hnl.out;omega,by simp⟩
    rw [Hs.out,Hnl.out,Nat.sub_self]
    exact heap_alloc_new w _
   case round =>
    obtain⟨r,f,os,S,m,cS,hr,hm,hS,hrow,hbel,hE,hf,h60⟩:=hrel
    have hat:=scan_at hS
    have hrn:r.length≤n:=by have:=hr.length_le;have:=Hnl.out;omega
    by_cases hr0:r = []
    · have hRs:R=some os:=by
       rw [← hE.out,hr0];cases f <;> rfl
      rw [hr0] at hS
      simp only [List.length_nil,Nat.sub_zero] at hS
      have y0:=hS.c0
      have y1:=hS.c1
      have y2:=hS.c2
      have HRs:=Lib.hid hRs
      have Hm:=Lib.hid hm
      clear hRs hr0 hE hat hm hS
      go_wp2_with fail
      go_ret2
      rw [HRs.out]
      refine⟨S,cS,by rw [Hm.out];rfl,?_,hbel⟩
      rw [Hm.out] at hrow
      exact hrow
    · have hpos:0 < r.length:=List.length_pos_iff.2 hr0
      obtain⟨f',rfl⟩:∃ f',f=f'+1:=⟨f - 1,by omega⟩
      have hnone:=findL_none (n:=n) (f:=f') (r:=r) (os:=os) hr0
      have hmore:=findL_more (n:=n) (f:=f') (r:=r) (os:=os) hr0
      have hby:=hb.below hbel
      have hsB:w.heap.size≤s:=by rw [Hs.out];exact Nat.le_refl _
      have ht:=till_rest 64 #[] (enters_of Tryz.func64 (by kernel_rfl) rfl) (pIs 60) _ predFind s A n c w.heap.size (.slice S m cS) l r wr hS hr hby hsB (by omega) (fun _ _=>trivial)
      have hr1:stopD (pIs 60) r <:+ l:=(stopD_suffix _ r).trans hr
      have hr1n:=stopD_len (pIs 60) r
      obtain⟨r1,hr1E⟩:∃ r1,r1=stopD (pIs 60) r:=⟨_,rfl⟩
      rw [← hr1E] at ht hnone hmore hr1 hr1n
      obtain⟨a1,ha1⟩:∃ a1,a1=n - r1.length:=⟨_,rfl⟩
      rw [← ha1] at ht
      have ha1n:a1≤n:=by omega
      have ha0:∃ a0,a0=n - r.length:=⟨_,rfl⟩
      obtain⟨a0,ha0⟩:=ha0
      rw [← ha0] at hS hat
      have ha0n:a0 < n:=by omega
      have y0:=hS.c0
      have y1:=hS.c1
      have Ht:=Lib.hid ht
      have HS:=Lib.hid hS
      have Hrow:=Lib.hid hrow
      have Hm:=Lib.hid hm
      have Hnone:=Lib.hid hnone
      have Hmore:=Lib.hid hmore
      have Ha1:=Lib.hid ha1
      have Ha0:=Lib.hid ha0
      have Hat:=Lib.hid hat
      have HE:=Lib.hid hE
      have Hr1E:=Lib.hid hr1E
      have hbelsz:=hbel.size
      clear ht hS hrow hm hnone hmore ha1 ha0 hat hE hr1E hr0 hby
      go_wp2_with fail
      refine Ht.out.mono ?_
      clear Ht y0 y1
      rintro e w2 ⟨rfl,hS2,hg2⟩
      have hbel2:Below w.heap.size w w2:=hbel.grown hg2 hbelsz (fun k hk=>by injection hk with hk;omega)
      have hrow2:=Hrow.out.kept hg2 (.inr (own_ne_scan HS.out Hrow.out))
      have hM2:MaxLenOk w2:=hM0.below hbel2
      have hb2:=hb.below hbel2
      have y0:=hS2.c0
      have y1:=hS2.c1
      have yf:=hS2.fz 1
      have y2:=hS2.c2
      have hcut:=hb2.cutR hr1 hc
      rw [← Ha1.out] at hcut
      have hts:=run_toStr (P:=Tryz.prog) w2 22 9 5 _ (cutA A c a1 1) (n - a1) (c - a1) r1 hcut Tryz.underlying22 Tryz.underlying5 Tryz.underlying9
      have HS2:=Lib.hid hS2
      have Hrow2:=Lib.hid hrow2
      have HM2:=Lib.hid hM2
      have hsz2:=hbel2.size
      have hm60:m≤60:=by have:=Hm.out;omega
      have hst:∃ Q,Q=stepL n r1 os:=⟨_,rfl⟩
      clear hS2 hg2 hrow2 hM2 hcut HS Hrow
      have p1:=fun W=>HasPrefix_any r1 [60,33,45,45] W
      have p2:=fun W=>HasPrefix_any r1 [60,33] W
      have p3:=fun W=>HasPrefix_any r1 [60,63] W
      have hr1l:r1.length≤n:=by omega
      by_cases c1:Lib.hasPrefix r1 [60,33,45,45]=true
      · have h4l:4≤r1.length:=(List.isPrefixOf_iff_prefix.1 c1).length_le
        have hst:stepL n r1 os=(pastL [45,45,62] (r1.drop 4),os):=by unfold stepL;rw [if_pos c1]
        rw [c1] at p1
        have P1:=Lib.hid p1
        have hS3:ScanIs (w2.setCell ⟨s,1,none⟩ (.int .i64 ((a1:Int)+4))) s (.slice A n c) (n - (r1.drop 4).length) (.slice S m cS):=by
         have h:=HS2.out.set1 (a1+4)
         have e:n - (r1.drop 4).length=a1+4:=by rw [List.length_drop];have:=Ha1.out;omega
         rw [e]
         exact h
        have hg3:=grown_set w2 s 1 (.int .i64 ((a1:Int)+4))
        have hbel3:=hbel2.setCell (p:=⟨s,1,none⟩) hsB (.int .i64 ((a1:Int)+4))
        have hrow3:=Hrow2.out.kept hg3 (.inr (own_ne_scan HS2.out Hrow2.out))
        have hp:=past_any [45,45,62] s A n c w.heap.size (.slice S m cS) l (r1.drop 4) _ (hM0.below hbel3) (by decide) hS3 ((List.drop_suffix 4 r1).trans hr1) (hb.below hbel3) hsB (by omega) hc
        have Hp:=Lib.hid hp
        have HS3:=Lib.hid hS3
        have Hrow3:=Lib.hid hrow3
        have Hst0:=Lib.hid hst
        have ha14:a1+4≤n:=by have:=Ha1.out;omega
        clear hp hS3 hg3 hrow3 hst c1 p1 p2 p3
        go_wp2_with fail
        refine(P1.out _).mono ?_
        rintro e w2x ⟨rfl,rfl⟩
        go_wp2_with fail
        refine Hp.out.mono ?_
        clear Hp
        rintro e w9 ⟨rfl,hS9,hg9⟩
        have hbel9:Below w.heap.size w w9:=hbel3.grown hg9 hbel3.size (fun k hk=>by injection hk with hk;omega)
        have hrow9:=Hrow3.out.kept hg9 (.inr (own_ne_scan HS3.out Hrow3.out))
        obtain⟨rr,hrrE⟩:∃ rr,rr=pastL [45,45,62] (r1.drop 4):=⟨_,rfl⟩
        obtain⟨os9,m9,S9,c9,hm9,hos9,hm9E,hS9E,hc9E⟩:∃ os9 m9 S9 c9,m9=os9.length∧os9=os∧m9=m∧S9=S∧c9=cS:=⟨os,m,S,cS,Hm.out,rfl,rfl,rfl,rfl⟩
        have hst:stepL n r1 os=(rr,os9):=by rw [Hst0.out,hrrE,hos9]
        have hrr:rr <:+ l:=by rw [hrrE];exact((pastL_suffix _ _).trans (List.drop_suffix 4 r1)).trans hr1
        have hrrlt:rr.length < r.length:=by rw [hrrE];have:=(pastL_suffix [45,45,62] (r1.drop 4)).length_le;rw [List.length_drop] at this;omega
        rw [← hrrE,← hS9E,← hm9E,← hc9E] at hS9
        rw [← hS9E,← hm9E,← hc9E,← hos9] at hrow9
        clear hrrE hos9 hm9E hS9E hc9E HS3 Hrow3 hg9 y0 y1 y2 yf
        -- behind the switch
        have hbel9:Below w.heap.size w w9:=hbel9
        have y2:=hS9.c2
        have HS9:=Lib.hid hS9
        have Hrow9:=Lib.hid hrow9
        have Hm9:=Lib.hid hm9
        have Hst:=Lib.hid hst
        have Hat9:=Lib.hid (scan_at hS9)
        have hrr:rr <:+ l:=hrr
        have hrrlt:rr.length < r.length:=hrrlt
        clear hS9 hrow9 hm9 hst
        by_cases h60':60 < m9
        · go_wp2_with fail
          go_ret2
          have hRn:R=none:=by
           rw [← HE.out]
           exact Hnone.out (by rw [Hst.out,← Hm9.out];exact h60')
          rw [hRn]
          exact⟨none,0,rfl,World.ownsRow_nil _ _ _ _,hbel9⟩
        · go_wp2_with fail
          refine⟨⟨rr,f',os9,S9,m9,c9,hrr,Hm9.out,HS9.out,Hrow9.out,hbel9,?_,by omega,by have:=Hm9.out;omega⟩,?_⟩
          · show _=R
            rw [← HE.out,Hmore.out (by rw [Hst.out,← Hm9.out];exact h60'),Hst.out]
          · rw [Hat9.out,Hat.out,Ha0.out]
            omega
      · have c1f:Lib.hasPrefix r1 [60,33,45,45]=false:=by simpa using c1
        rw [c1f] at p1
        have P1:=Lib.hid p1
        by_cases c2:(Lib.hasPrefix r1 [60,33] || Lib.hasPrefix r1 [60,63])=true
        · have h2l:2≤r1.length:=by
           rcases Bool.or_eq_true_iff.1 c2 with h | h
           · exact(List.isPrefixOf_iff_prefix.1 h).length_le
           · exact(List.isPrefixOf_iff_prefix.1 h).length_le
          have hst:stepL n r1 os=(pastL [62] r1,os):=by unfold stepL;rw [if_neg c1,if_pos c2]
          have hp:=past_any [62] s A n c w.heap.size (.slice S m cS) l r1 w2 HM2.out (by decide) (by rw [← Ha1.out];exact HS2.out) hr1 hb2 hsB (by omega) hc
          have Hp:=Lib.hid hp
          have Hst0:=Lib.hid hst
          have hlt:(pastL [62] r1).length < r1.length:=by
           unfold pastL
           split
           · simp;omega
           · rw [List.length_drop];simp only [List.length_singleton];omega
          have Hlt:=Lib.hid hlt
          by_cases c2a:Lib.hasPrefix r1 [60,33]=true
          case' pos =>
           rw [c2a] at p2
           have P2:=Lib.hid p2
           clear hp hst c1 c1f c2 c2a p1 p2 p3 hlt
           go_wp2_with fail
           refine(P1.out _).mono ?_
           rintro e w2x ⟨rfl,rfl⟩
           go_wp2_with fail
           refine(P2.out _).mono ?_
           rintro e w2x ⟨rfl,rfl⟩
           go_wp2_with fail
          case' neg =>
           have c2f:Lib.hasPrefix r1 [60,33]=false:=by simpa using c2a
           have c3:Lib.hasPrefix r1 [60,63]=true:=by rw [c2f,Bool.false_or] at c2;exact c2
           rw [c2f] at p2
           rw [c3] at p3
           have P2:=Lib.hid p2
           have P3:=Lib.hid p3
           clear hp hst c1 c1f c2 c2a c2f c3 p1 p2 p3 hlt
           go_wp2_with fail
           refine(P1.out _).mono ?_
           rintro e w2x ⟨rfl,rfl⟩
           go_wp2_with fail
           refine(P2.out _).mono ?_
           rintro e w2x ⟨rfl,rfl⟩
           go_wp2_with fail
           refine(P3.out _).mono ?_
           rintro e w2x ⟨rfl,rfl⟩
           go_wp2_with fail
          all_goals
           refine Hp.out.mono ?_
           clear Hp
           rintro e w9 ⟨rfl,hS9,hg9⟩
           have hbel9:Below w.heap.size w w9:=hbel2.grown hg9 hbel2.size (fun k hk=>by injection hk with hk;omega)
           have hrow9:=Hrow2.out.kept hg9 (.inr (own_ne_scan HS2.out Hrow2.out))
           obtain⟨rr,hrrE⟩:∃ rr,rr=pastL [62] r1:=⟨_,rfl⟩
           obtain⟨os9,m9,S9,c9,hm9,hos9,hm9E,hS9E,hc9E⟩:∃ os9 m9 S9 c9,m9=os9.length∧os9=os∧m9=m∧S9=S∧c9=cS:=⟨os,m,S,cS,Hm.out,rfl,rfl,rfl,rfl⟩
           have hst:stepL n r1 os=(rr,os9):=by rw [Hst0.out,hrrE,hos9]
           have hrr:rr <:+ l:=by rw [hrrE];exact(pastL_suffix _ _).trans hr1
           have hrrlt:rr.length < r.length:=by rw [hrrE];have:=Hlt.out;omega
           rw [← hrrE,← hS9E,← hm9E,← hc9E] at hS9
           rw [← hS9E,← hm9E,← hc9E,← hos9] at hrow9
           clear hrrE hos9 hm9E hS9E hc9E hg9 y0 y1 y2 yf
           -- behind the switch
           have hbel9:Below w.heap.size w w9:=hbel9
           have y2:=hS9.c2
           have HS9:=Lib.hid hS9
           have Hrow9:=Lib.hid hrow9
           have Hm9:=Lib.hid hm9
           have Hst:=Lib.hid hst
           have Hat9:=Lib.hid (scan_at hS9)
           have hrr:rr <:+ l:=hrr
           have hrrlt:rr.length < r.length:=hrrlt
           clear hS9 hrow9 hm9 hst
           by_cases h60':60 < m9
           · go_wp2_with fail
             go_ret2
             have hRn:R=none:=by
              rw [← HE.out]
              exact Hnone.out (by rw [Hst.out,← Hm9.out];exact h60')
             rw [hRn]
             exact⟨none,0,rfl,World.ownsRow_nil _ _ _ _,hbel9⟩
           · go_wp2_with fail
             refine⟨⟨rr,f',os9,S9,m9,c9,hrr,Hm9.out,HS9.out,Hrow9.out,hbel9,?_,by omega,by have:=Hm9.out;omega⟩,?_⟩
             · show _=R
               rw [← HE.out,Hmore.out (by rw [Hst.out,← Hm9.out];exact h60'),Hst.out]
             · rw [Hat9.out,Hat.out,Ha0.out]
               omega
        · have c2f:Lib.hasPrefix r1 [60,33]=false∧Lib.hasPrefix r1 [60,63]=false:=by
           cases h:Lib.hasPrefix r1 [60,33] <;> cases h':Lib.hasPrefix r1 [60,63] <;> simp_all
          rw [c2f.1] at p2
          rw [c2f.2] at p3
          have P2:=Lib.hid p2
          have P3:=Lib.hid p3
          clear p1 p2 p3 c1f c2f
          have hL1:=fun W=>letter_any (nth r1 1) (nth_lt r1 1) W
          have hL2:=fun W=>letter_any (nth r1 2) (nth_lt r1 2) W
          have hos1000:os.length≤1000:=by omega
          by_cases q1:1 < r1.length
          · by_cases q2:isLet (nth r1 1)=true
            · rw [q2] at hL1
              have HL1:=Lib.hid hL1
              have hst:stepL n r1 os=tagL n (r1.drop 1) false os:=by unfold stepL;rw [if_neg c1,if_neg c2,if_pos (by rw [q2];simpa using q1)]
              have hS3:ScanIs (w2.setCell ⟨s,1,none⟩ (.int .i64 ((a1:Int)+1))) s (.slice A n c) (n - (r1.drop 1).length) (.slice S m cS):=by
               have h:=HS2.out.set1 (a1+1)
               have e:n - (r1.drop 1).length=a1+1:=by rw [List.length_drop];have:=Ha1.out;omega
               rw [e]
               exact h
              have hg3:=grown_set w2 s 1 (.int .i64 ((a1:Int)+1))
              have hbel3:=hbel2.setCell (p:=⟨s,1,none⟩) hsB (.int .i64 ((a1:Int)+1))
              have hrow3:=Hrow2.out.kept hg3 (.inr (own_ne_scan HS2.out Hrow2.out))
              have hdl:(r1.drop 1).length=r1.length - 1:=List.length_drop ..
              have htag:=tag_any s A n c w.heap.size S m cS os l (r1.drop 1) false _ (hM0.below hbel3) hS3 Hm.out hrow3 hos1000 ((List.drop_suffix 1 r1).trans hr1) (hb.below hbel3) hsB hbel3.size (by omega) hc
              have htl:=tagL_len n (r1.drop 1) false os (n - (r1.drop 1).length) (by omega)
              have Htag:=Lib.hid htag
              have Hst0:=Lib.hid hst
              have Htl:=Lib.hid htl
              have Hdl:=Lib.hid hdl
              have ha14:a1+1≤n:=by have:=Ha1.out;omega
              clear htag hS3 hg3 hrow3 hst htl hdl
              clear c1 c2 hL1 hL2
              go_wp2_with fail
              refine(P1.out _).mono ?_
              rintro e w2x ⟨rfl,rfl⟩
              go_wp2_with fail
              refine(P2.out _).mono ?_
              rintro e w2x ⟨rfl,rfl⟩
              go_wp2_with fail
              refine(P3.out _).mono ?_
              rintro e w2x ⟨rfl,rfl⟩
              go_wp2_with fail
              refine(HL1.out _).mono ?_
              rintro e w2x ⟨rfl,rfl⟩
              go_wp2_with fail
              refine Htag.out.mono ?_
              clear Htag
              rintro e w9 ⟨rfl,S9,c9,hS9,hrow9,hb9⟩
              have hbel9:Below w.heap.size w w9:=hbel3.trans hb9
              obtain⟨rr,hrrE⟩:∃ rr,rr=(tagL n (r1.drop 1) false os).1:=⟨_,rfl⟩
              obtain⟨os9,hos9⟩:∃ os9,os9=(tagL n (r1.drop 1) false os).2:=⟨_,rfl⟩
              obtain⟨m9,hm9⟩:∃ m9,m9=os9.length:=⟨_,rfl⟩
              have hst:stepL n r1 os=(rr,os9):=by rw [Hst0.out,hrrE,hos9]
              have hrr:rr <:+ l:=by rw [hrrE];exact(Htl.out.2.trans (List.drop_suffix 1 r1)).trans hr1
              have hrrlt:rr.length < r.length:=by rw [hrrE];have:=Htl.out.1;have:=Hdl.out;omega
              rw [← hrrE,← hos9,← hm9] at hS9
              rw [← hos9,← hm9] at hrow9
              clear hrrE hos9 hb9 y0 y1 y2 yf
              -- behind the switch
              have hbel9:Below w.heap.size w w9:=hbel9
              have y2:=hS9.c2
              have HS9:=Lib.hid hS9
              have Hrow9:=Lib.hid hrow9
              have Hm9:=Lib.hid hm9
              have Hst:=Lib.hid hst
              have Hat9:=Lib.hid (scan_at hS9)
              have hrr:rr <:+ l:=hrr
              have hrrlt:rr.length < r.length:=hrrlt
              clear hS9 hrow9 hm9 hst
              by_cases h60':60 < m9
              · go_wp2_with fail
                go_ret2
                have hRn:R=none:=by
                 rw [← HE.out]
                 exact Hnone.out (by rw [Hst.out,← Hm9.out];exact h60')
                rw [hRn]
                exact⟨none,0,rfl,World.ownsRow_nil _ _ _ _,hbel9⟩
              · go_wp2_with fail
                refine⟨⟨rr,f',os9,S9,m9,c9,hrr,Hm9.out,HS9.out,Hrow9.out,hbel9,?_,by omega,by have:=Hm9.out;omega⟩,?_⟩
                · show _=R
                  rw [← HE.out,Hmore.out (by rw [Hst.out,← Hm9.out];exact h60'),Hst.out]
                · rw [Hat9.out,Hat.out,Ha0.out]
                  omega
            · have q2f:isLet (nth r1 1)=false:=by simpa using q2
              rw [q2f] at hL1
              have HL1:=Lib.hid hL1
              by_cases q3:2 < r1.length
              · by_cases q4:nth r1 1=47
                · have d47:(((nth r1 1:Nat):Int) == 47)=true:=by rw [q4];rfl
                  by_cases q5:isLet (nth r1 2)=true
                  · rw [q5] at hL2
                    have HL2:=Lib.hid hL2
                    have hst:stepL n r1 os=tagL n (r1.drop 2) true os:=by unfold stepL;rw [if_neg c1,if_neg c2,if_neg (by rw [q2f];simp),if_pos (by rw [q5,q4];simpa using q3)]
                    have Hst9:=Lib.hid hst
                    clear hst q4
                    have hst:stepL n r1 os=tagL n (r1.drop 2) true os:=Hst9.out
                    have hS3:ScanIs (w2.setCell ⟨s,1,none⟩ (.int .i64 ((a1:Int)+2))) s (.slice A n c) (n - (r1.drop 2).length) (.slice S m cS):=by
                     have h:=HS2.out.set1 (a1+2)
                     have e:n - (r1.drop 2).length=a1+2:=by rw [List.length_drop];have:=Ha1.out;omega
                     rw [e]
                     exact h
                    have hg3:=grown_set w2 s 1 (.int .i64 ((a1:Int)+2))
                    have hbel3:=hbel2.setCell (p:=⟨s,1,none⟩) hsB (.int .i64 ((a1:Int)+2))
                    have hrow3:=Hrow2.out.kept hg3 (.inr (own_ne_scan HS2.out Hrow2.out))
                    have hdl:(r1.drop 2).length=r1.length - 2:=List.length_drop ..
                    have htag:=tag_any s A n c w.heap.size S m cS os l (r1.drop 2) true _ (hM0.below hbel3) hS3 Hm.out hrow3 hos1000 ((List.drop_suffix 2 r1).trans hr1) (hb.below hbel3) hsB hbel3.size (by omega) hc
                    have htl:=tagL_len n (r1.drop 2) true os (n - (r1.drop 2).length) (by omega)
                    have Htag:=Lib.hid htag
                    have Hst0:=Lib.hid hst
                    have Htl:=Lib.hid htl
                    have Hdl:=Lib.hid hdl
                    have ha14:a1+2≤n:=by have:=Ha1.out;omega
                    clear htag hS3 hg3 hrow3 hst htl hdl
                    clear c1 c2 hL1 hL2
                    go_wp2_with fail
                    refine(P1.out _).mono ?_
                    rintro e w2x ⟨rfl,rfl⟩
                    go_wp2_with fail
                    refine(P2.out _).mono ?_
                    rintro e w2x ⟨rfl,rfl⟩
                    go_wp2_with fail
                    refine(P3.out _).mono ?_
                    rintro e w2x ⟨rfl,rfl⟩
                    go_wp2_with fail
                    refine(HL1.out _).mono ?_
                    rintro e w2x ⟨rfl,rfl⟩
                    go_wp2_with fail
                    refine(HL2.out _).mono ?_
                    rintro e w2x ⟨rfl,rfl⟩
                    go_wp2_with fail
                    refine Htag.out.mono ?_
                    clear Htag
                    rintro e w9 ⟨rfl,S9,c9,hS9,hrow9,hb9⟩
                    have hbel9:Below w.heap.size w w9:=hbel3.trans hb9
                    obtain⟨rr,hrrE⟩:∃ rr,rr=(tagL n (r1.drop 2) true os).1:=⟨_,rfl⟩
                    obtain⟨os9,hos9⟩:∃ os9,os9=(tagL n (r1.drop 2) true os).2:=⟨_,rfl⟩
                    obtain⟨m9,hm9⟩:∃ m9,m9=os9.length:=⟨_,rfl⟩
                    have hst:stepL n r1 os=(rr,os9):=by rw [Hst0.out,hrrE,hos9]
                    have hrr:rr <:+ l:=by rw [hrrE];exact(Htl.out.2.trans (List.drop_suffix 2 r1)).trans hr1
                    have hrrlt:rr.length < r.length:=by rw [hrrE];have:=Htl.out.1;have:=Hdl.out;omega
                    rw [← hrrE,← hos9,← hm9] at hS9
                    rw [← hos9,← hm9] at hrow9
                    clear hrrE hos9 hb9 y0 y1 y2 yf
                    -- behind the switch
                    have hbel9:Below w.heap.size w w9:=hbel9
                    have y2:=hS9.c2
                    have HS9:=Lib.hid hS9
                    have Hrow9:=Lib.hid hrow9
                    have Hm9:=Lib.hid hm9
                    have Hst:=Lib.hid hst
                    have Hat9:=Lib.hid (scan_at hS9)
                    have hrr:rr <:+ l:=hrr
                    have hrrlt:rr.length < r.length:=hrrlt
                    clear hS9 hrow9 hm9 hst
                    by_cases h60':60 < m9
                    · go_wp2_with fail
                      go_ret2
                      have hRn:R=none:=by
                       rw [← HE.out]
                       exact Hnone.out (by rw [Hst.out,← Hm9.out];exact h60')
                      rw [hRn]
                      exact⟨none,0,rfl,World.ownsRow_nil _ _ _ _,hbel9⟩
                    · go_wp2_with fail
                      refine⟨⟨rr,f',os9,S9,m9,c9,hrr,Hm9.out,HS9.out,Hrow9.out,hbel9,?_,by omega,by have:=Hm9.out;omega⟩,?_⟩
                      · show _=R
                        rw [← HE.out,Hmore.out (by rw [Hst.out,← Hm9.out];exact h60'),Hst.out]
                      · rw [Hat9.out,Hat.out,Ha0.out]
                        omega
                  · have q5f:isLet (nth r1 2)=false:=by simpa using q5
                    rw [q5f] at hL2
                    have HL2:=Lib.hid hL2
                    have hst:stepL n r1 os=(r1.drop 1,os):=by unfold stepL;rw [if_neg c1,if_neg c2,if_neg (by rw [q2f];simp),if_neg (by rw [q5f];simp)]
                    have Hst9:=Lib.hid hst
                    clear hst q4
                    have hst:stepL n r1 os=(r1.drop 1,os):=Hst9.out
                    have b0:(r1 == ([]:List UInt8))=false:=by cases r1 with | nil=>simp at q1 | cons _ _=>rfl
                    have hl1:1≤r1.length:=by cases r1 with | nil=>cases b0 | cons _ _=>simp
                    obtain⟨rr,hrrE⟩:∃ rr,rr=r1.drop 1:=⟨_,rfl⟩
                    have hrrl:rr.length=r1.length - 1:=by rw [hrrE,List.length_drop]
                    have ha14:a1+1≤n:=by have:=Ha1.out;omega
                    have hS9:ScanIs (w2.setCell ⟨s,1,none⟩ (.int .i64 ((a1:Int)+1))) s (.slice A n c) (n - rr.length) (.slice S m cS):=by
                     have h:=HS2.out.set1 (a1+1)
                     have e:n - rr.length=a1+1:=by rw [hrrl];have:=Ha1.out;omega
                     rw [e]
                     exact h
                    have hbel9:=hbel2.setCell (p:=⟨s,1,none⟩) hsB (.int .i64 ((a1:Int)+1))
                    have hrow9:=Hrow2.out.kept (grown_set w2 s 1 (.int .i64 ((a1:Int)+1))) (.inr (own_ne_scan HS2.out Hrow2.out))
                    obtain⟨os9,m9,S9,c9,hm9,hos9,hm9E,hS9E,hc9E⟩:∃ os9 m9 S9 c9,m9=os9.length∧os9=os∧m9=m∧S9=S∧c9=cS:=⟨os,m,S,cS,Hm.out,rfl,rfl,rfl,rfl⟩
                    have hst:stepL n r1 os=(rr,os9):=by rw [hst,hrrE,hos9]
                    have hrr:rr <:+ l:=by rw [hrrE];exact(List.drop_suffix 1 r1).trans hr1
                    have hrrlt:rr.length < r.length:=by omega
                    subst hos9 hm9E hS9E hc9E
                    clear hrrE hrrl
                    clear c1 c2 hL1 hL2
                    go_wp2_with fail
                    refine(P1.out _).mono ?_
                    rintro e w2x ⟨rfl,rfl⟩
                    go_wp2_with fail
                    refine(P2.out _).mono ?_
                    rintro e w2x ⟨rfl,rfl⟩
                    go_wp2_with fail
                    refine(P3.out _).mono ?_
                    rintro e w2x ⟨rfl,rfl⟩
                    go_wp2_with fail
                    refine(HL1.out _).mono ?_
                    rintro e w2x ⟨rfl,rfl⟩
                    go_wp2_with fail
                    refine(HL2.out _).mono ?_
                    rintro e w2x ⟨rfl,rfl⟩
                    -- behind the switch
                    have hbel9:Below w.heap.size w (w2.setCell ⟨s,1,none⟩ (.int .i64 ((a1:Int)+1))):=hbel9
                    have y2:=hS9.c2
                    have HS9:=Lib.hid hS9
                    have Hrow9:=Lib.hid hrow9
                    have Hm9:=Lib.hid hm9
                    have Hst:=Lib.hid hst
                    have Hat9:=Lib.hid (scan_at hS9)
                    have hrr:rr <:+ l:=hrr
                    have hrrlt:rr.length < r.length:=hrrlt
                    clear hS9 hrow9 hm9 hst
                    by_cases h60':60 < m9
                    · exact absurd h60' (by omega)
                    · go_wp2_with fail
                      refine⟨⟨rr,f',os9,S9,m9,c9,hrr,Hm9.out,HS9.out,Hrow9.out,hbel9,?_,by omega,by have:=Hm9.out;omega⟩,?_⟩
                      · show _=R
                        rw [← HE.out,Hmore.out (by rw [Hst.out,← Hm9.out];exact h60'),Hst.out]
                      · rw [Hat9.out,Hat.out,Ha0.out]
                        omega
                · have d47:(((nth r1 1:Nat):Int) == 47)=false:=by rw [beq_eq_false_iff_ne];omega
                  have q4b:(nth r1 1 == 47)=false:=by simpa using q4
                  have hst:stepL n r1 os=(r1.drop 1,os):=by unfold stepL;rw [if_neg c1,if_neg c2,if_neg (by rw [q2f];simp),if_neg (by rw [q4b];simp)]
                  have Hst9:=Lib.hid hst
                  clear hst q4 q4b
                  have hst:stepL n r1 os=(r1.drop 1,os):=Hst9.out
                  have b0:(r1 == ([]:List UInt8))=false:=by cases r1 with | nil=>simp at q1 | cons _ _=>rfl
                  have hl1:1≤r1.length:=by cases r1 with | nil=>cases b0 | cons _ _=>simp
                  obtain⟨rr,hrrE⟩:∃ rr,rr=r1.drop 1:=⟨_,rfl⟩
                  have hrrl:rr.length=r1.length - 1:=by rw [hrrE,List.length_drop]
                  have ha14:a1+1≤n:=by have:=Ha1.out;omega
                  have hS9:ScanIs (w2.setCell ⟨s,1,none⟩ (.int .i64 ((a1:Int)+1))) s (.slice A n c) (n - rr.length) (.slice S m cS):=by
                   have h:=HS2.out.set1 (a1+1)
                   have e:n - rr.length=a1+1:=by rw [hrrl];have:=Ha1.out;omega
                   rw [e]
                   exact h
                  have hbel9:=hbel2.setCell (p:=⟨s,1,none⟩) hsB (.int .i64 ((a1:Int)+1))
                  have hrow9:=Hrow2.out.kept (grown_set w2 s 1 (.int .i64 ((a1:Int)+1))) (.inr (own_ne_scan HS2.out Hrow2.out))
                  obtain⟨os9,m9,S9,c9,hm9,hos9,hm9E,hS9E,hc9E⟩:∃ os9 m9 S9 c9,m9=os9.length∧os9=os∧m9=m∧S9=S∧c9=cS:=⟨os,m,S,cS,Hm.out,rfl,rfl,rfl,rfl⟩
                  have hst:stepL n r1 os=(rr,os9):=by rw [hst,hrrE,hos9]
                  have hrr:rr <:+ l:=by rw [hrrE];exact(List.drop_suffix 1 r1).trans hr1
                  have hrrlt:rr.length < r.length:=by omega
                  subst hos9 hm9E hS9E hc9E
                  clear hrrE hrrl
                  clear c1 c2 hL1 hL2
                  go_wp2_with fail
                  refine(P1.out _).mono ?_
                  rintro e w2x ⟨rfl,rfl⟩
                  go_wp2_with fail
                  refine(P2.out _).mono ?_
                  rintro e w2x ⟨rfl,rfl⟩
                  go_wp2_with fail
                  refine(P3.out _).mono ?_
                  rintro e w2x ⟨rfl,rfl⟩
                  go_wp2_with fail
                  refine(HL1.out _).mono ?_
                  rintro e w2x ⟨rfl,rfl⟩
                  -- behind the switch
                  have hbel9:Below w.heap.size w (w2.setCell ⟨s,1,none⟩ (.int .i64 ((a1:Int)+1))):=hbel9
                  have y2:=hS9.c2
                  have HS9:=Lib.hid hS9
                  have Hrow9:=Lib.hid hrow9
                  have Hm9:=Lib.hid hm9
                  have Hst:=Lib.hid hst
                  have Hat9:=Lib.hid (scan_at hS9)
                  have hrr:rr <:+ l:=hrr
                  have hrrlt:rr.length < r.length:=hrrlt
                  clear hS9 hrow9 hm9 hst
                  by_cases h60':60 < m9
                  · exact absurd h60' (by omega)
                  · go_wp2_with fail
                    refine⟨⟨rr,f',os9,S9,m9,c9,hrr,Hm9.out,HS9.out,Hrow9.out,hbel9,?_,by omega,by have:=Hm9.out;omega⟩,?_⟩
                    · show _=R
                      rw [← HE.out,Hmore.out (by rw [Hst.out,← Hm9.out];exact h60'),Hst.out]
                    · rw [Hat9.out,Hat.out,Ha0.out]
                      omega
              · have q3f:¬ ((decide (2 < r1.length) && nth r1 1 == 47 && isLet (nth r1 2))=true):=by
                 have:decide (2 < r1.length)=false:=by simpa using q3
                 rw [this];simp
                have hst:stepL n r1 os=(r1.drop 1,os):=by unfold stepL;rw [if_neg c1,if_neg c2,if_neg (by rw [q2f];simp),if_neg q3f]
                have Hst9:=Lib.hid hst
                clear hst q3f
                have hst:stepL n r1 os=(r1.drop 1,os):=Hst9.out
                have b0:(r1 == ([]:List UInt8))=false:=by cases r1 with | nil=>simp at q1 | cons _ _=>rfl
                have hl1:1≤r1.length:=by cases r1 with | nil=>cases b0 | cons _ _=>simp
                obtain⟨rr,hrrE⟩:∃ rr,rr=r1.drop 1:=⟨_,rfl⟩
                have hrrl:rr.length=r1.length - 1:=by rw [hrrE,List.length_drop]
                have ha14:a1+1≤n:=by have:=Ha1.out;omega
                have hS9:ScanIs (w2.setCell ⟨s,1,none⟩ (.int .i64 ((a1:Int)+1))) s (.slice A n c) (n - rr.length) (.slice S m cS):=by
                 have h:=HS2.out.set1 (a1+1)
                 have e:n - rr.length=a1+1:=by rw [hrrl];have:=Ha1.out;omega
                 rw [e]
                 exact h
                have hbel9:=hbel2.setCell (p:=⟨s,1,none⟩) hsB (.int .i64 ((a1:Int)+1))
                have hrow9:=Hrow2.out.kept (grown_set w2 s 1 (.int .i64 ((a1:Int)+1))) (.inr (own_ne_scan HS2.out Hrow2.out))
                obtain⟨os9,m9,S9,c9,hm9,hos9,hm9E,hS9E,hc9E⟩:∃ os9 m9 S9 c9,m9=os9.length∧os9=os∧m9=m∧S9=S∧c9=cS:=⟨os,m,S,cS,Hm.out,rfl,rfl,rfl,rfl⟩
                have hst:stepL n r1 os=(rr,os9):=by rw [hst,hrrE,hos9]
                have hrr:rr <:+ l:=by rw [hrrE];exact(List.drop_suffix 1 r1).trans hr1
                have hrrlt:rr.length < r.length:=by omega
                subst hos9 hm9E hS9E hc9E
                clear hrrE hrrl
                clear c1 c2 hL1 hL2
                go_wp2_with fail
                refine(P1.out _).mono ?_
                rintro e w2x ⟨rfl,rfl⟩
                go_wp2_with fail
                refine(P2.out _).mono ?_
                rintro e w2x ⟨rfl,rfl⟩
                go_wp2_with fail
                refine(P3.out _).mono ?_
                rintro e w2x ⟨rfl,rfl⟩
                go_wp2_with fail
                refine(HL1.out _).mono ?_
                rintro e w2x ⟨rfl,rfl⟩
                -- behind the switch
                have hbel9:Below w.heap.size w (w2.setCell ⟨s,1,none⟩ (.int .i64 ((a1:Int)+1))):=hbel9
                have y2:=hS9.c2
                have HS9:=Lib.hid hS9
                have Hrow9:=Lib.hid hrow9
                have Hm9:=Lib.hid hm9
                have Hst:=Lib.hid hst
                have Hat9:=Lib.hid (scan_at hS9)
                have hrr:rr <:+ l:=hrr
                have hrrlt:rr.length < r.length:=hrrlt
                clear hS9 hrow9 hm9 hst
                by_cases h60':60 < m9
                · exact absurd h60' (by omega)
                · go_wp2_with fail
                  refine⟨⟨rr,f',os9,S9,m9,c9,hrr,Hm9.out,HS9.out,Hrow9.out,hbel9,?_,by omega,by have:=Hm9.out;omega⟩,?_⟩
                  · show _=R
                    rw [← HE.out,Hmore.out (by rw [Hst.out,← Hm9.out];exact h60'),Hst.out]
                  · rw [Hat9.out,Hat.out,Ha0.out]
                    omega
          · have q1f:¬ ((decide (1 < r1.length) && isLet (nth r1 1))=true):=by
             have:decide (1 < r1.length)=false:=by simpa using q1
             rw [this];simp
            have q3f:¬ ((decide (2 < r1.length) && nth r1 1 == 47 && isLet (nth r1 2))=true):=by
             have:decide (2 < r1.length)=false:=by simp;omega
             rw [this];simp
            have q3:¬ 2 < r1.length:=by omega
            by_cases q0:r1 = []
            · have b0:(r1 == ([]:List UInt8))=true:=by rw [q0];rfl
              have hst:stepL n r1 os=([],os):=by unfold stepL;rw [if_neg c1,if_neg c2,if_neg q1f,if_neg q3f,q0];rfl
              obtain⟨rr,hrrE⟩:∃ rr:List UInt8,rr = []:=⟨_,rfl⟩
              have hS9:ScanIs w2 s (.slice A n c) (n - rr.length) (.slice S m cS):=by
               have h:=HS2.out
               have e:n - rr.length=a1:=by rw [hrrE,Ha1.out,q0]
               rw [e]
               exact h
              have hbel9:=hbel2
              have hrow9:=Hrow2.out
              obtain⟨os9,m9,S9,c9,hm9,hos9,hm9E,hS9E,hc9E⟩:∃ os9 m9 S9 c9,m9=os9.length∧os9=os∧m9=m∧S9=S∧c9=cS:=⟨os,m,S,cS,Hm.out,rfl,rfl,rfl,rfl⟩
              have hst:stepL n r1 os=(rr,os9):=by rw [hst,hrrE,hos9]
              have hrr:rr <:+ l:=by rw [hrrE];exact List.nil_suffix
              have hrrlt:rr.length < r.length:=by rw [hrrE];exact hpos
              have HQ0:=Lib.hid q0
              subst hos9 hm9E hS9E hc9E
              clear hrrE q0
              clear c1 c2 hL1 hL2
              go_wp2_with fail
              refine(P1.out _).mono ?_
              rintro e w2x ⟨rfl,rfl⟩
              go_wp2_with fail
              refine(P2.out _).mono ?_
              rintro e w2x ⟨rfl,rfl⟩
              go_wp2_with fail
              refine(P3.out _).mono ?_
              rintro e w2x ⟨rfl,rfl⟩
              -- behind the switch
              have hbel9:Below w.heap.size w w2:=hbel9
              have y2:=hS9.c2
              have HS9:=Lib.hid hS9
              have Hrow9:=Lib.hid hrow9
              have Hm9:=Lib.hid hm9
              have Hst:=Lib.hid hst
              have Hat9:=Lib.hid (scan_at hS9)
              have hrr:rr <:+ l:=hrr
              have hrrlt:rr.length < r.length:=hrrlt
              clear hS9 hrow9 hm9 hst
              by_cases h60':60 < m9
              · exact absurd h60' (by omega)
              · go_wp2_with fail
                refine⟨⟨rr,f',os9,S9,m9,c9,hrr,Hm9.out,HS9.out,Hrow9.out,hbel9,?_,by omega,by have:=Hm9.out;omega⟩,?_⟩
                · show _=R
                  rw [← HE.out,Hmore.out (by rw [Hst.out,← Hm9.out];exact h60'),Hst.out]
                · rw [Hat9.out,Hat.out,Ha0.out]
                  omega
            · have b0:(r1 == ([]:List UInt8))=false:=by simpa using q0
              have hst:stepL n r1 os=(r1.drop 1,os):=by unfold stepL;rw [if_neg c1,if_neg c2,if_neg q1f,if_neg q3f]
              have Hst9:=Lib.hid hst
              clear hst q1f q3f q0
              have hst:stepL n r1 os=(r1.drop 1,os):=Hst9.out
              have hl1:1≤r1.length:=by cases r1 with | nil=>cases b0 | cons _ _=>simp
              obtain⟨rr,hrrE⟩:∃ rr,rr=r1.drop 1:=⟨_,rfl⟩
              have hrrl:rr.length=r1.length - 1:=by rw [hrrE,List.length_drop]
              have ha14:a1+1≤n:=by have:=Ha1.out;omega
              have hS9:ScanIs (w2.setCell ⟨s,1,none⟩ (.int .i64 ((a1:Int)+1))) s (.slice A n c) (n - rr.length) (.slice S m cS):=by
               have h:=HS2.out.set1 (a1+1)
               have e:n - rr.length=a1+1:=by rw [hrrl];have:=Ha1.out;omega
               rw [e]
               exact h
              have hbel9:=hbel2.setCell (p:=⟨s,1,none⟩) hsB (.int .i64 ((a1:Int)+1))
              have hrow9:=Hrow2.out.kept (grown_set w2 s 1 (.int .i64 ((a1:Int)+1))) (.inr (own_ne_scan HS2.out Hrow2.out))
              obtain⟨os9,m9,S9,c9,hm9,hos9,hm9E,hS9E,hc9E⟩:∃ os9 m9 S9 c9,m9=os9.length∧os9=os∧m9=m∧S9=S∧c9=cS:=⟨os,m,S,cS,Hm.out,rfl,rfl,rfl,rfl⟩
              have hst:stepL n r1 os=(rr,os9):=by rw [hst,hrrE,hos9]
              have hrr:rr <:+ l:=by rw [hrrE];exact(List.drop_suffix 1 r1).trans hr1
              have hrrlt:rr.length < r.length:=by omega
              subst hos9 hm9E hS9E hc9E
              clear hrrE hrrl
              clear c1 c2 hL1 hL2
              go_wp2_with fail
              refine(P1.out _).mono ?_
              rintro e w2x ⟨rfl,rfl⟩
              go_wp2_with fail
              refine(P2.out _).mono ?_
              rintro e w2x ⟨rfl,rfl⟩
              go_wp2_with fail
              refine(P3.out _).mono ?_
              rintro e w2x ⟨rfl,rfl⟩
              -- behind the switch
              have hbel9:Below w.heap.size w (w2.setCell ⟨s,1,none⟩ (.int .i64 ((a1:Int)+1))):=hbel9
              have y2:=hS9.c2
              have HS9:=Lib.hid hS9
              have Hrow9:=Lib.hid hrow9
              have Hm9:=Lib.hid hm9
              have Hst:=Lib.hid hst
              have Hat9:=Lib.hid (scan_at hS9)
              have hrr:rr <:+ l:=hrr
              have hrrlt:rr.length < r.length:=hrrlt
              clear hS9 hrow9 hm9 hst
              by_cases h60':60 < m9
              · exact absurd h60' (by omega)
              · go_wp2_with fail
                refine⟨⟨rr,f',os9,S9,m9,c9,hrr,Hm9.out,HS9.out,Hrow9.out,hbel9,?_,by omega,by have:=Hm9.out;omega⟩,?_⟩
                · show _=R
                  rw [← HE.out,Hmore.out (by rw [Hst.out,← Hm9.out];exact h60'),Hst.out]
                · rw [Hat9.out,Hat.out,Ha0.out]
                  omega
end Go.Proofs.YtlgbopjhmemaoaaGreatDoor
namespace Go.Proofs.YtlgbopjhmemaoaaGreatDoor
open Go.RowKit
/-- What a link says is no longer than the page. -/
theorem replaceK_le {old new:List UInt8} (h:new.length≤old.length):∀ (k:Nat) (s:List UInt8),(Lib.replaceK old new k s).length≤s.length
 | 0,s=>by rw [Lib.replaceK];exact Nat.le_refl _
 | k+1,s=>by
  rw [Lib.replaceK]
  split
  · exact Nat.le_refl _
  · rename_i hm
    have h0:=Lib.index_ge s old
    have h1:0≤Lib.index s old:=by
     have:Lib.index s old≠-1:=fun e=>hm (by rw [e];rfl)
     omega
    have h2:=Lib.index_room s old h1
    have ih:=replaceK_le h k (s.drop ((Lib.index s old).toNat+old.length))
    simp only [List.length_append,List.length_take,List.length_drop] at ih ⊢
    omega
theorem unamp_le (s:List UInt8):(unamp s).length≤s.length:=by
 unfold unamp Lib.replaceAll Lib.replace
 split
 · exact Nat.le_refl _
 · exact replaceK_le (by decide) _ _
def TextLe (N:Nat) (ls:List LinkD):Prop:=∀ x∈ls,x.text.length≤N
theorem addLink_text {N n:Nat} {name:List UInt8} {seen:List (List UInt8)} {v:List UInt8 × List UInt8 × List UInt8} {ls:List LinkD} (h:TextLe N ls) (hv:v.1.length≤N):TextLe N (addLink n name seen v ls):=by
 unfold addLink
 split
 · intro x hx
   rcases List.mem_append.1 hx with hx | hx
   · exact h x hx
   · rw [List.mem_singleton.1 hx]
     refine Nat.le_trans (unamp_le _) ?_
     rw [List.length_take]
     omega
 · exact h
theorem attrsL_text (N n:Nat):∀ (f:Nat) (r:List UInt8) (seen:List (List UInt8)) (ls:List LinkD),r.length≤N→TextLe N ls→∀ r' ls',attrsL n f r seen ls=some (r',ls')→r'.length≤N∧TextLe N ls'
 | 0,_,_,_,_,_,r',ls',h=>by simp [attrsL] at h
 | f+1,r,seen,ls,hr,hl,r',ls',h=>by
  unfold attrsL at h
  have hs:=stopD_len pAttr r
  cases hc:stopD pAttr r with
  | nil=>rw [hc] at h;simp at h
  | cons c r2 =>
   rw [hc] at h hs
   simp only [List.length_cons] at hs
   simp only at h
   have h2:=stopD_len pEq r2
   have h3:=stopD_len pNotSp (stopD pEq r2)
   split at h
   · injection h with h
     injection h with e1 e2
     subst e1;subst e2
     exact⟨by omega,hl⟩
   · split at h
     · obtain⟨v1,v2,_⟩:=valueR_in (stopD pNotSp (stopD pEq r2)).tail
       have l1:=v1.length_le
       have l2:=v2.length_le
       rw [List.length_tail] at l1 l2
       exact attrsL_text N n f _ _ _ (by omega) (addLink_text hl (by omega)) r' ls' h
     · exact attrsL_text N n f _ _ _ (by omega) hl r' ls' h
theorem tagL_text {N n:Nat} {r:List UInt8} {shut:Bool} {out:List LinkD} (hr:r.length≤N) (ho:TextLe N out):(tagL n r shut out).1.length≤N∧TextLe N (tagL n r shut out).2:=by
 unfold tagL
 have hs:=stopD_len pName r
 cases h:attrsL n ((stopD pName r).length+1) (stopD pName r) [] [] with
 | none=>exact⟨Nat.zero_le _,ho⟩
 | some x =>
  obtain⟨r',ls⟩:=x
  obtain⟨h1,h2⟩:=attrsL_text N n _ _ _ _ (by omega) (fun x hx=>by simp at hx) r' ls h
  refine⟨h1,?_⟩
  simp only
  split
  · exact ho
  · intro x hx
    rcases List.mem_append.1 hx with hx | hx
    · exact ho x hx
    · exact h2 x hx
theorem stepL_text {N n:Nat} {r:List UInt8} {out:List LinkD} (hr:r.length≤N) (ho:TextLe N out):(stepL n r out).1.length≤N∧TextLe N (stepL n r out).2:=by
 unfold stepL
 have h4:=(pastL_suffix [45,45,62] (r.drop 4)).length_le
 have h5:=(pastL_suffix [62] r).length_le
 rw [List.length_drop] at h4
 split
 · exact⟨by simp only;omega,ho⟩
 · split
   · exact⟨by simp only;omega,ho⟩
   · split
     · exact tagL_text (by rw [List.length_drop];omega) ho
     · split
       · exact tagL_text (by rw [List.length_drop];omega) ho
       · exact⟨by simp only [List.length_drop];omega,ho⟩
theorem findL_text {N n:Nat}:∀ (f:Nat) (r:List UInt8) (out:List LinkD),r.length≤N→TextLe N out→∀ ls,findL n f r out=some ls→TextLe N ls
 | 0,r,out,hr,ho,ls,h=>by
  rw [findL] at h
  injection h with h
  exact h ▸ ho
 | f+1,r,out,hr,ho,ls,h=>by
  rw [findL] at h
  split at h
  · injection h with h
    exact h ▸ ho
  · split at h
    · cases h
    · have hs:=stopD_len (pIs 60) r
      obtain⟨h1,h2⟩:=stepL_text (n:=n) (r:=stopD (pIs 60) r) (by omega) ho
      exact findL_text f _ _ h1 h2 ls h
theorem findE_text (b:List UInt8):TextLe b.length (findE b).1:=by
 unfold findE
 split
 · intro x hx;cases hx
 · cases h:findB b with
   | none=>intro x hx;cases hx
   | some ls=>exact findL_text _ _ _ (Nat.le_refl _) (fun x hx=>by simp at hx) ls h
structure GoalD where
 part:Nat
 l:LinkD
 goal:List UInt8
 find:Int
def goalCells (g:GoalD):List Value:=[.int .i64 (g.part:Nat),.int .i64 (g.l.frm:Nat),.int .i64 (g.l.til:Nat),str g.l.text,str g.goal,.int .i64 g.find]
def goalC (gs:List GoalD):List Value:=gs.flatMap goalCells
theorem goalC_app (a b:List GoalD):goalC (a ++ b)=goalC a ++ goalC b:=by simp [goalC]
theorem goalC_len (l:List GoalD):(goalC l).length=l.length * 6:=by
 induction l with
 | nil=>rfl
 | cons g l ih =>
  have:goalC (g :: l)=goalCells g ++ goalC l:=rfl
  rw [this,List.length_append,ih]
  simp [goalCells]
  omega
theorem goalC_one (l:List GoalD):∀ u∈goalC l,u.oneCell'=true:=by
 intro u hu
 obtain⟨g,_,hg⟩:=List.mem_flatMap.1 hu
 simp only [goalCells,List.mem_cons,List.not_mem_nil,or_false] at hg
 rcases hg with rfl | rfl | rfl | rfl | rfl | rfl <;> rfl
def htmlB:List UInt8:=[116,101,120,116,47,104,116,109,108]
def goalOf (F:List PartD) (W:List (List UInt8)) (i:Nat) (f:List UInt8) (k:LinkD):GoalD:=
 ⟨i,k,ledB f k.text,if ledB f k.text = [] then -1 else findG F W (ledB f k.text)⟩
def fromG (h:List UInt8):List UInt8:=if h = [] then outW else h
def goalsF (F:List PartD) (W:List (List UInt8)):List PartD→List (List UInt8)→Nat→List GoalD→Option (List GoalD)
 | x :: xs,h :: hs,i,out =>
  if x.type=htmlB then (if (findE x.body).2=0 then goalsF F W xs hs (i+1) (out ++ (findE x.body).1.map (goalOf F W i (fromG h))) else none)
  else goalsF F W xs hs (i+1) out
 | [],_,_,out=>some out
 | _ :: _,[],_,out=>some out
def goalsD (p:PartD):Option (List GoalD):=goalsF (flatD p) (whereD p) (flatD p) (whereD p) 0 []
/-- What bundle.Goals answers. -/
def goalsE (p:PartD):List GoalD × Nat:=if checkD p=0 then (match goalsD p with | none=>([],2) | some g=>(g,0)) else ([],checkD p)
theorem whereD_len (p:PartD):(whereD p).length=(flatD p).length:=by
 unfold whereD
 rw [whereF_len _ _ _ (wthD_len p 0 (-1)).symm]
 simp
theorem whereF_small:∀ (F:List PartD) (T:List Int) (out:List (List UInt8)),(∀ s∈out,s.length≤605)→∀ s∈whereF F T out,s.length≤605
 | [],_,out,h=>by rw [whereF];exact h
 | _ :: _,[],out,h=>by rw [whereF];exact h
 | x :: xs,k :: ks,out,h=>by
  rw [whereF]
  refine whereF_small xs ks _ (fun s hs=>?_)
  rcases List.mem_append.1 hs with hs | hs
  · exact h s hs
  · rw [List.mem_singleton.1 hs]
    exact stepW_len h _ _
theorem whereD_small (p:PartD):∀ s∈whereD p,s.length≤605:=whereF_small _ _ _ (by simp)
def GoalsOut (p:PartD) (w:World) (e:Ending) (w':World):Prop:=
 ∃ S c,e = .returned (.tuple #[.slice S (goalsE p).1.length c,.int .i64 ((goalsE p).2:Nat)])∧w'.ownsRow w.heap.size 44 6 (.slice S (goalsE p).1.length c) (goalsE p).1.length (goalC (goalsE p).1)∧Below w.heap.size w w'
end Go.Proofs.YtlgbopjhmemaoaaGreatDoor
namespace Go.Proofs.YtlgbopjhmemaoaaGreatDoor
open Go.RowKit
variable {P:Program}
theorem wpOp_runv {k:Nat} {K:Act→World→Prop} {w:World} {ops:Array Oper} {o:Oper} {a:Act} {Q:Exit→Act→World→Prop} (hi:ops[k]? = some o) (hw:Region.wanted o (yielded ops a.tmps)=true) (v:Value) (w':World) (hv:(execOp a.eval o).run P w = .ok (.value v) w') (h:K (a.put o.dst v) w'):wpOp P ops Q k K a w:=by
 unfold wpOp
 simp only [hi,hw,if_true]
 refine .inl ?_
 unfold Oper.wp
 simp only [hv,Oper.upon]
 exact h
theorem wpOp_appRun {k:Nat} {K:Act→World→Prop} {w:World} {ops:Array Oper} {o:Oper} {a:Act} {Q:Exit→Act→World→Prop} (hi:ops[k]? = some o) (hw:Region.wanted o (yielded ops a.tmps)=true) (s x:Operand) (t:TypeId)
 (ho:o.op = .call { callee:=.builtin .append,args:=#[s,x],argTypes:=#[t,t] }) (v1 v2:Value) (hs:a.eval s=v1) (hx:a.eval x=v2) (v:Value) (w':World) (hrun:(Builtin.append_ #[t,t] o.type #[v1,v2]).run P w = .ok v w') (h:K (a.put o.dst v) w'):wpOp P ops Q k K a w:=by
 unfold wpOp
 simp only [hi,hw,if_true]
 refine .inl ?_
 unfold Oper.wp execOp
 simp only [ho,resolve,invoke,builtin,Sem.run_bind,Sem.run_pure,Result.andThen_ok,List.map_toArray,List.map_cons,List.map_nil,hs,hx,hrun]
 exact h
theorem wpOp_callF {k:Nat} {K:Act→World→Prop} {w:World} {ops:Array Oper} {o:Oper} {a:Act} {Q:Exit→Act→World→Prop} (hi:ops[k]? = some o) (hw:Region.wanted o (yielded ops a.tmps)=true) (f:FuncId) (args:Array Value)
 (hrun:(execOp a.eval o).run P w = .ok (.enter f args) w) (v:Value) (R:World→Prop) (hc:Calls P f args w fun e w'=>e = .returned v∧R w') (h:∀ w',R w'→K (a.put o.dst v) w'):wpOp P ops Q k K a w:=by
 unfold wpOp
 simp only [hi,hw,if_true]
 refine .inl ?_
 unfold Oper.wp
 rw [hrun,Oper.upon_enter]
 refine hc.mono fun e w'' hh=>?_
 obtain⟨rfl,hr⟩:=hh
 exact h w'' hr
theorem wpOp_callP {k:Nat} {K:Act→World→Prop} {w:World} {ops:Array Oper} {o:Oper} {a:Act} {Q:Exit→Act→World→Prop} (hi:ops[k]? = some o) (hw:Region.wanted o (yielded ops a.tmps)=true) (f:FuncId) (args:Array Value)
 (hrun:(execOp a.eval o).run P w = .ok (.enter f args) w) (Post:Ending→World→Prop) (hc:Calls P f args w Post) (h:∀ e w',Post e w'→∃ v,e = .returned v∧K (a.put o.dst v) w'):wpOp P ops Q k K a w:=by
 unfold wpOp
 simp only [hi,hw,if_true]
 refine .inl ?_
 unfold Oper.wp
 rw [hrun,Oper.upon_enter]
 refine hc.mono fun e w'' hh=>?_
 obtain⟨v,rfl,hk⟩:=h e w'' hh
 exact hk
/-- As wpList_app, and where the new slice lies. -/
theorem wpList_app2 {w:World} {ops:Array Oper} {rest:List Oper} {o:Oper} {a:Act} {Q:Exit→Act→World→Prop} (hgd:o.guard=none) (s x:Operand) (t:TypeId)
 (ho:o.op = .call { callee:=.builtin .append,args:=#[s,x],argTypes:=#[t,t] })
 (base:Nat) (e:TypeId) (i:TypeInfo) (z:Value) (size bytes:Nat) (ht:P.underlying t=some (.slice e)) (hi:P.info? e=some i) (hz:i.zero=some z)
 (hsize:i.size=size) (hby:i.bytes=bytes) (hzs:z.cells.size=size) (hsz:0 < size)
 (S:Option Addr) (n cs:Nat) (xs:List Value) (hs:a.eval s = .slice S n cs) (hown:w.ownsRow base e size (.slice S n cs) n xs)
 (B:Nat) (A:Option Addr) (m c:Nat) (news:List Value) (hx:a.eval x = .slice A m c) (hr:Sl w B size A m news) (h1:∀ u∈news,u.oneCell'=true)
 (h63:n+m≤maxLen) (hbytes:(n+m) * bytes≤140737488355328) (hbase:base≤w.heap.size)
 (h:∀ S' c' w',w'.ownsRow base e size (.slice S' (n+m) c') (n+m) (xs ++ news)→Below base w w'→w.grownBy w' (Value.ownBlock (.slice S n cs))→(Value.ownBlock (.slice S' (n+m) c')=Value.ownBlock (.slice S n cs)∨Value.ownBlock (.slice S' (n+m) c')=some w.heap.size)→wpList P ops Q rest (a.put o.dst (.slice S' (n+m) c')) w'):wpList P ops Q (o :: rest) a w:=by
 refine wpList_plain hgd fun K hK=>?_
 obtain⟨S',c',w',hrun,h2,h3,h4⟩:=run_app (P:=P) w base t o.type e i z size bytes ht hi hz hsize hby hzs hsz S n cs xs hown B A m c news hr h1 h63 hbytes hbase
 unfold Oper.wp execOp
 simp only [ho,resolve,invoke,builtin,Sem.run_bind,Sem.run_pure,Result.andThen_ok,List.map_toArray,List.map_cons,List.map_nil,hs,hx,hrun]
 exact hK _ _ (h S' c' w' h2 ((Below.refl base w).grown h3 hbase (fun k hk=>(hown.lt k hk).1)) h3 h4)
/-- A slice's block isn't a value's own. -/
def Apart (A:Option Addr) (v:Value):Prop:=∀ b off,A=some ⟨b,off,none⟩→v.ownBlock≠some b
theorem Sl.grown2 {w w':World} {B size n:Nat} {A:Option Addr} {xs:List Value} (h:Sl w B size A n xs) (hB:B≤w.heap.size) {v:Value} (hg:w.grownBy w' v.ownBlock) (hr:Apart A v):Sl w' B size A n xs:=by
 refine⟨h.1,fun hn=>?_⟩
 obtain⟨b,off,e,hb,hc⟩:=h.2 hn
 exact⟨b,off,e,hb,fun j u hu=>(World.cell?_of_block (hg.block b (by omega) (fun e'=>hr b off e e'.symm))).trans (hc j u hu)⟩
theorem Apart.next {w:World} {B size n:Nat} {A:Option Addr} {xs:List Value} {v v':Value} (h:Apart A v) (hS:Sl w B size A n xs) (hB:B≤w.heap.size) (hn:0 < n) (hv:v'.ownBlock=v.ownBlock∨v'.ownBlock=some w.heap.size):Apart A v':=by
 intro b off e
 rcases hv with hv | hv
 · rw [hv];exact h b off e
 · obtain⟨b',off',e',hb',_⟩:=hS.2 hn
   rw [e] at e'
   injection e' with e'
   injection e' with e1 e2
   rw [hv]
   intro e3
   injection e3 with e3
   omega
end Go.Proofs.YtlgbopjhmemaoaaGreatDoor
namespace Go.Proofs.YtlgbopjhmemaoaaGreatDoor
open Go.RowKit
/-- What may not be put, of runes. -/
def badPutR (r:Nat):Bool:=decide (r≤32) || decide (126 < r) || decide (0≤Lib.indexByte [34,39,60,62,38,61] (UInt8.ofNat r))
theorem badPut_eq:∀ x:Fin 256,badPutR x.val=badPut x.val:=by decide +kernel
theorem badPut_any (l:List UInt8):l.any (fun b=>badPutR b.toNat)=l.any (fun b=>badPut b.toNat):=by
 congr 1
 funext b
 exact badPut_eq ⟨b.toNat,b.toNat_lt⟩
theorem ContainsRune_put (r:Nat) (hr:r < 128) (w:World):Calls Tryz.prog 35 #[.string ⟨#[34,39,60,62,38,61]⟩,.int .i32 (r:Int)] w fun e w'=>e = .returned (.bool (decide (0≤Lib.indexByte [34,39,60,62,38,61] (UInt8.ofNat r))))∧w'=w:=by
 have h:=Go.Proofs.Tryz.strings_IndexRune_ascii ⟨#[34,39,60,62,38,61]⟩ (r:Int) w (by omega) (by omega)
 have e:((r:Int)).toNat.toUInt8=UInt8.ofNat r:=rfl
 rw [e] at h
 have h2:(⟨#[34,39,60,62,38,61]⟩:ByteArray).data.toList = [34,39,60,62,38,61]:=rfl
 rw [h2] at h
 generalize Lib.indexByte [34,39,60,62,38,61] (UInt8.ofNat r)=z at h ⊢
 have H:=Lib.hid h
 clear h e h2
 go_enter Tryz.func35,Tryz.ntmps35
 go_wp2_with fail
 refine H.out.mono ?_
 rintro e w1 ⟨rfl,rfl⟩
 go_wp2_with fail
 go_ret
 exact⟨rfl,rfl⟩
theorem put1_any (x:Nat) (hx:x≤1114111) (w:World):Calls Tryz.prog 34 #[.int .i32 (x:Int)] w fun e w'=>e = .returned (.bool (badPutR x))∧w'=w:=by
 by_cases h1:x≤32
 · rw [show badPutR x=true by simp [badPutR,h1]]
   go_enter Tryz.func34,Tryz.ntmps34
   go_wp2_with fail
   go_ret
   exact⟨rfl,rfl⟩
 · by_cases h2:126 < x
   · rw [show badPutR x=true by simp [badPutR,h2]]
     go_enter Tryz.func34,Tryz.ntmps34
     go_wp2_with fail
     go_ret
     exact⟨rfl,rfl⟩
   · have hc:=ContainsRune_put x (by omega) w
     rw [show badPutR x=decide (0≤Lib.indexByte [34,39,60,62,38,61] (UInt8.ofNat x)) by simp [badPutR,h1,h2]]
     generalize decide (0≤Lib.indexByte [34,39,60,62,38,61] (UInt8.ofNat x))=z at hc ⊢
     have Hc:=Lib.hid hc
     have d1:decide ((x:Int)≤32)=false:=by simp;omega
     have d2:decide ((126:Int) < x)=false:=by simp;omega
     clear hc
     go_enter Tryz.func34,Tryz.ntmps34
     go_wp2_with fail
     refine Hc.out.mono ?_
     rintro e w1 ⟨rfl,rfl⟩
     go_wp2_with fail
     all_goals
      go_ret
      exact⟨rfl,rfl⟩
theorem containsPut_any (l:List UInt8) (w:World):Calls Tryz.prog 33 #[str l,.func (.func 34) #[] #[]] w fun e w'=>e = .returned (.bool (l.any (fun b=>badPut b.toNat)))∧Below w.heap.size w w':=by
 have h:=Go.Proofs.Tryz.strings_ContainsFunc_runes 34 #[] (enters_of Tryz.func34 (by kernel_rfl) rfl) badPutR ⟨l.toArray⟩ w
  (fun W x hx _=>(put1_any x hx W).mono fun e w' ⟨h1,h2⟩=>⟨h1,0,h2⟩)
 rw [idxFunc_any badPutR l (.inl fun r hr=>by simp [badPutR];omega),badPut_any] at h
 exact h
def LOk:Nat→Nat→List LinkD→Prop
 | at_,n,[]=>at_≤n
 | at_,n,x :: l=>at_≤x.frm∧x.frm≤x.til∧LOk x.til n l
theorem LOk.le:∀ {l:List LinkD} {at_ n:Nat},LOk at_ n l→at_≤n
 | [],_,_,h=>h
 | _ :: _,_,_,h=>Nat.le_trans h.1 (Nat.le_trans h.2.1 h.2.2.le)
theorem LOk.links:∀ (l:List (List UInt8 × List UInt8)) (at_ pos n:Nat),at_≤pos→pos+(weaveL l (l.map (·.1))).length≤n→LOk at_ n (linksL pos l)
 | [],at_,pos,n,h,hn=>by simp only [linksL,LOk];simp [weaveL] at hn;omega
 | x :: l,at_,pos,n,h,hn=>by
  simp only [linksL,LOk]
  simp only [List.map_cons,weaveL,List.length_append] at hn
  exact⟨h,by omega,LOk.links l _ _ n (by omega) (by omega)⟩
theorem LOk.find {l:List UInt8} {ls:List LinkD} (h:findB l=some ls):LOk 0 l.length ls:=by
 rw [findB_eq] at h
 split at h
 · cases h
 · have h:=Option.some.inj h
   rw [← h]
   refine LOk.links (pcs l).2 0 (0+(pcs l).1.length) l.length (Nat.zero_le _) ?_
   have:=congrArg List.length (pcs_app l)
   unfold weave at this
   rw [List.length_append] at this
   unfold vals at this
   omega
theorem Sl.link {w:World} {B n:Nat} {A:Option Addr} {ls:List LinkD} (h:Sl w B 3 A n (linkC ls)) (i:Nat) (hi:i < n) :
 ∃ b off x,A=some ⟨b,off,none⟩∧b < B∧ls.drop i=x :: ls.drop (i+1)∧w.cell? ⟨b,off+i * 3,none⟩=some (.int .i64 (x.frm:Nat))∧w.cell? ⟨b,off+i * 3+1,none⟩=some (.int .i64 (x.til:Nat))∧w.cell? ⟨b,off+i * 3+2,none⟩=some (str x.text):=by
 obtain⟨b,off,hA,hb,hc⟩:=h.2 (by omega)
 have hl:ls.length=n:=by have:=h.1;rw [linkC_len] at this;omega
 have hil:i < ls.length:=by omega
 have hd:=List.drop_eq_getElem_cons hil
 have hsplit:linkC ls=linkC (ls.take i) ++ linkC (ls.drop i):=by rw [← linkC_app,List.take_append_drop]
 have hat:∀ k,k < 3→(linkC ls)[i * 3+k]? = [Value.int .i64 ((ls[i].frm:Nat):Int),.int .i64 ((ls[i].til:Nat):Int),str ls[i].text][k]?:=by
  intro k hk
  have e:(linkC (ls.take i)).length=i * 3:=by rw [linkC_len,List.length_take,Nat.min_eq_left (by omega)]
  rw [hsplit,List.getElem?_append_right (by omega),e,Nat.add_sub_cancel_left,hd]
  show((linkC (ls[i] :: ls.drop (i+1))))[k]? = _
  rw [show linkC (ls[i] :: ls.drop (i+1)) = [Value.int .i64 ((ls[i].frm:Nat):Int),.int .i64 ((ls[i].til:Nat):Int),str ls[i].text] ++ linkC (ls.drop (i+1)) from rfl,List.getElem?_append_left (by simpa using hk)]
 exact⟨b,off,ls[i],hA,hb,hd,hc _ _ (hat 0 (by omega)),hc _ _ (hat 1 (by omega)),hc _ _ (hat 2 (by omega))⟩
end Go.Proofs.YtlgbopjhmemaoaaGreatDoor
