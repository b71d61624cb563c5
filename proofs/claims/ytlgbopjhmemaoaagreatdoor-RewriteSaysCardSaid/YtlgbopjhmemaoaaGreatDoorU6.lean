import Derived.Test.YtlgbopjhmemaoaaGreatDoorU5
import Derived.Test.YtlgbopjhmemaoaaGreatDoorU3
import Derived.Test.YtlgbopjhmemaoaaGreatDoorU1
import Derived.WalkSpells
set_option maxRecDepth 100000
set_option maxHeartbeats 40000000
namespace Go.Proofs.YtlgbopjhmemaoaaGreatDoor
open Go.RowKit
def hostU (r:List UInt8) (u:UrlD):UrlD:={ u with hasHost:=(hostP r).1,host:=(hostP r).2.1,path:=(hostP r).2.2 }
def finU (r:List UInt8) (u:UrlD):UrlD × Nat:=if checkU (hostU r u)=0 then (hostU r u,0) else (zeroU,checkU (hostU r u))
theorem readU_fin {s s1 s2 fr qu sc r:List UInt8} {hf hq:Bool} (hl:¬ 120 < s.length) (h1:Lib.cut s [35]=(s1,fr,hf)) (h2:Lib.cut s1 [63]=(s2,qu,hq)) (h3:schemeP s2=some (sc,r)) :
 readU s=finU r ⟨sc,false,[],[],hq,qu,hf,fr⟩:=by
 unfold readU
 rw [if_neg hl]
 have:partsU s=some (hostU r ⟨sc,false,[],[],hq,qu,hf,fr⟩):=by
  unfold partsU
  rw [h1]
  simp only
  rw [h2]
  simp only
  rw [h3]
  rfl
 rw [this]
 rfl
theorem readU_none {s s1 s2 fr qu:List UInt8} {hf hq:Bool} (hl:¬ 120 < s.length) (h1:Lib.cut s [35]=(s1,fr,hf)) (h2:Lib.cut s1 [63]=(s2,qu,hq)) (h3:schemeP s2=none):readU s=(zeroU,1):=by
 unfold readU
 rw [if_neg hl]
 have:partsU s=none:=by
  unfold partsU
  rw [h1]
  simp only
  rw [h2]
  simp only
  rw [h3]
 rw [this]
theorem CutPrefix_two (l:List UInt8) (w:World):Calls Tryz.prog 72 #[str l,.string ⟨#[47,47]⟩] w fun e w'=>e = .returned (.tuple #[str (if Lib.hasPrefix l [47,47] then l.drop 2 else l),.bool (Lib.hasPrefix l [47,47])])∧w=w':=by
 refine(Go.Proofs.Tryz.strings_CutPrefix ⟨l.toArray⟩ ⟨#[47,47]⟩ w).mono ?_
 rintro e w1 ⟨rfl,rfl⟩
 exact⟨rfl,rfl⟩
theorem Parse_any (s:List UInt8) (w:World) (hs:s.length≤maxLen) :
 Calls Tryz.prog 68 #[str s] w fun e w'=>e = .returned (.tuple #[(readU s).1.val,.int .i64 ((readU s).2:Nat)])∧Below w.heap.size w w':=by
 by_cases hl:120 < s.length
 · have hr:readU s=(zeroU,2):=by unfold readU;rw [if_pos hl]
   rw [hr]
   have d0:decide (120 < (s.length:Int))=true:=decide_eq_true (by omega)
   clear hl
   go_enter Tryz.func68,Tryz.ntmps68
   go_wp2_with fail
   refine bodyPost_ret (v:=.tuple #[zeroU.val,.int .i64 2]) (by simp [results,Tryz.results68,go_sem];rfl) rfl ⟨rfl,?_⟩
   exact(Below.refl _ w).alloc (Nat.le_refl _) _
 · have d0:decide (120 < (s.length:Int))=false:=decide_eq_false (by omega)
   have k1:=fun W=>Cut_one s 35 W hs
   have hl1:(Lib.cut s [35]).1.length≤s.length:=by rw [cut_tw];exact(List.takeWhile_sublist _).length_le
   rcases h1:Lib.cut s [35] with ⟨s1,fr,hf⟩
   rw [h1] at k1 hl1
   have hs1:s1.length≤maxLen:=by unfold maxLen at hs ⊢;simp only at hl1;omega
   have k2:=fun W=>Cut_one s1 63 W hs1
   have hl2:(Lib.cut s1 [63]).1.length≤s1.length:=by rw [cut_tw];exact(List.takeWhile_sublist _).length_le
   rcases h2:Lib.cut s1 [63] with ⟨s2,qu,hq⟩
   rw [h2] at k2 hl2
   have K1:=Lib.hid k1
   have K2:=Lib.hid k2
   have H1:=Lib.hid h1
   have H2:=Lib.hid h2
   clear k1 k2 h1 h2
   obtain⟨rr,hrr⟩:∃ rr,rr=readU s:=⟨_,rfl⟩
   rw [← hrr]
   have HRR:=Lib.hid hrr
   clear hrr
   go_enter Tryz.func68,Tryz.ntmps68
   go_wp2_with fail
   obtain⟨W,hW⟩:∃ W,W=(w.alloc (.cells #[.string ⟨#[]⟩,.bool false,.string ⟨#[]⟩,.string ⟨#[]⟩,.bool false,.string ⟨#[]⟩,.bool false,.string ⟨#[]⟩] 103)).alloc (.cells #[.string ⟨#[]⟩,.bool false,.string ⟨#[]⟩,.string ⟨#[]⟩,.bool false,.string ⟨#[]⟩,.bool false,.string ⟨#[]⟩] 103):=⟨_,rfl⟩
   rw [← hW]
   have hP:PB w W zeroU zeroU:=by
    rw [hW]
    have hb:Below w.heap.size w ((w.alloc (.cells #[.string ⟨#[]⟩,.bool false,.string ⟨#[]⟩,.string ⟨#[]⟩,.bool false,.string ⟨#[]⟩,.bool false,.string ⟨#[]⟩] 103))):=(Below.refl _ w).alloc (Nat.le_refl _) _
    refine⟨hb.alloc (by simp) _,(UB.new w zeroU).below ((Below.refl _ _).alloc (Nat.le_refl _) _),?_⟩
    have:=UB.new (w.alloc (.cells #[.string ⟨#[]⟩,.bool false,.string ⟨#[]⟩,.string ⟨#[]⟩,.bool false,.string ⟨#[]⟩,.bool false,.string ⟨#[]⟩] 103)) zeroU
    rw [show(w.alloc (.cells #[.string ⟨#[]⟩,.bool false,.string ⟨#[]⟩,.string ⟨#[]⟩,.bool false,.string ⟨#[]⟩,.bool false,.string ⟨#[]⟩] 103)).heap.size=w.heap.size+1 by simp] at this
    exact this
   clear hW
   refine(K1.out _).mono ?_
   rintro e w1 ⟨rfl,q,rfl⟩
   have hP1:=hP.drewN q
   have y7:=hP1.own.box.2.2.2.2.2.2.2
   have f7:=hP1.own.fz 7
   have y6:=hP1.own.box.2.2.2.2.2.2.1
   have f6:=(hP1.s7 fr).own.fz 6
   have y6:=(hP1.s7 fr).own.box.2.2.2.2.2.2.1
   have HP2:=Lib.hid ((hP1.s7 fr).s6 hf)
   clear hP hP1
   go_wp2_with fail
   clear y6 y7 f6 f7
   generalize hw2:World.setCell _ _ _=w2
   have hP2:=HP2.out
   rw [hw2] at hP2
   clear hw2 HP2
   refine(K2.out _).mono ?_
   rintro e w3 ⟨rfl,q3,rfl⟩
   have hP3:=hP2.drewN q3
   have y5:=hP3.own.box.2.2.2.2.2.1
   have f5:=hP3.own.fz 5
   have f4:=(hP3.s5 qu).own.fz 4
   have y4:=(hP3.s5 qu).own.box.2.2.2.2.1
   have HP4:=Lib.hid ((hP3.s5 qu).s4 hq)
   clear hP2 hP3
   go_wp2_with fail
   clear y4 y5 f4 f5
   generalize hw4:World.setCell _ _ _=w4
   have hP4:=HP4.out
   rw [hw4] at hP4
   clear hw4 HP4
   have hl3:s2.length≤120:=by have a1:s1.length≤s.length:=hl1;have a2:s2.length≤s1.length:=hl2;omega
   obtain⟨u1,hu1⟩:∃ u1:UrlD,u1=⟨[],false,[],[],hq,qu,hf,fr⟩:=⟨_,rfl⟩
   have hP5:PB w w4 zeroU u1:=by rw [hu1];exact hP4
   clear hP4
   have kA:=IndexAny_cs s2 w4 (by omega)
   rw [indexAny_tw] at kA
   have HL:=Lib.hid hl
   have Hu1:=Lib.hid hu1
   clear hl hu1 hl1 hl2 hs1 hs
   by_cases hd:(s2.dropWhile stopCS).head? = some 58
   · obtain⟨r,hr⟩:∃ r,s2.dropWhile stopCS=58 :: r:=by
      cases h:s2.dropWhile stopCS with
      | nil=>rw [h] at hd;cases hd
      | cons a t=>rw [h] at hd;injection hd with hd;subst hd;exact⟨t,rfl⟩
     obtain⟨p1,p2,p3,p4⟩:=place_cs hr
     rw [hr,if_neg (by simp)] at kA
     have hsP:schemeP s2=(if (s2.takeWhile stopCS) = []∨schemeU (lowL (s2.takeWhile stopCS))=false then none else some (lowL (s2.takeWhile stopCS),r)):=by
      unfold schemeP
      rw [if_pos hd,hr]
      rfl
     generalize hk:(s2.takeWhile stopCS).length=k at p1 p2 p3 p4 kA
     generalize s2.takeWhile stopCS=tw at p3 hsP hk
     have e58:((nth s2 k:Int) == 58)=true:=by rw [p2];rfl
     have KA:=Lib.hid kA
     have P4:=Lib.hid p4
     have HsP:=Lib.hid hsP
     clear kA p2 p4 hsP hr hd
     refine KA.out.mono ?_
     rintro e w5 ⟨rfl,hb5⟩
     have hP6:=hP5.below hb5
     clear hP5 hb5 KA
     by_cases hk0:k=0
     · have ek:((k:Int) == 0)=true:=by simp [hk0]
       have hR:=HRR.out.trans (readU_none HL.out H1.out H2.out (by rw [HsP.out,if_pos (.inl (List.eq_nil_of_length_eq_zero (by rw [hk,hk0])))]))
       have HR:=Lib.hid hR
       clear hR hk0 hk p3
       obtain⟨y0,y1,y2,y3,y4,y5,y6,y7⟩:=hP6.res.box
       obtain⟨f0,f1,f2,f3,f4,f5,f6,f7⟩:=hP6.fzr
       have HF:=Lib.hid (hP6.fill zeroU)
       clear hP6
       go_wp2_with fail
       clear y0 y1 y2 y3 y4 y5 y6 y7 f0 f1 f2 f3 f4 f5 f6 f7
       generalize hwz:World.setCell _ _ _=wz
       have hPz:=HF.out
       have hPz2:PB w wz zeroU u1:=by rw [← hwz];exact hPz
       obtain⟨c0,c1,c2,c3,c4,c5,c6,c7⟩:=hPz2.res.box
       have hrr:=HR.out
       subst hrr
       refine bodyPost_ret (v:=.tuple #[zeroU.val,.int .i64 1]) (by simp [results,Tryz.results68,go_sem,c0,c1,c2,c3,c4,c5,c6,c7];try rfl) rfl ⟨rfl,hPz2.bel⟩
     · have ek:((k:Int) == 0)=false:=by simp;omega
       have hne:tw≠[]:=fun e=>hk0 (by rw [← hk,e];rfl)
       have kL:∀ W,Calls Tryz.prog 117 #[str (s2.take k)] W fun e w'=>e = .returned (str (lowL tw))∧Below W.heap.size W w':=fun W=>by
        have h:=lowerU_any (s2.take k) W (by rw [List.length_take];unfold maxLen;omega)
        rw [show lowL (s2.take k)=lowL tw by rw [p3]] at h
        exact h
       have kS:=fun W=>schemeU_any (lowL (s2.take k)) W (by simp only [lowL,List.length_map,List.length_take];unfold maxLen;omega)
       rw [p3] at kS
       have KL:=Lib.hid kL
       have P3:=Lib.hid p3
       have k1:k≤s2.length:=by omega
       have Hne:=Lib.hid hne
       clear hne hk0 hk kL p3
       cases hsc:schemeU (lowL tw)
       · rw [hsc] at kS
         have hR:=HRR.out.trans (readU_none HL.out H1.out H2.out (by rw [HsP.out,if_pos (.inr hsc)]))
         have HR:=Lib.hid hR
         have KS:=Lib.hid kS
         clear hR kS hsc
         go_wp2_with fail
         refine(KL.out _).mono ?_
         rintro e w6 ⟨rfl,hb6⟩
         have hP7:=hP6.below hb6
         clear hP6 hb6
         go_wp2_with fail
         refine(KS.out _).mono ?_
         rintro e w7 ⟨rfl,hb7⟩
         have hP6:=hP7.below hb7
         clear hP7 hb7
         obtain⟨y0,y1,y2,y3,y4,y5,y6,y7⟩:=hP6.res.box
         obtain⟨f0,f1,f2,f3,f4,f5,f6,f7⟩:=hP6.fzr
         have HF:=Lib.hid (hP6.fill zeroU)
         clear hP6
         go_wp2_with fail
         clear y0 y1 y2 y3 y4 y5 y6 y7 f0 f1 f2 f3 f4 f5 f6 f7
         generalize hwz:World.setCell _ _ _=wz
         have hPz:=HF.out
         have hPz2:PB w wz zeroU u1:=by rw [← hwz];exact hPz
         obtain⟨c0,c1,c2,c3,c4,c5,c6,c7⟩:=hPz2.res.box
         have hrr:=HR.out
         subst hrr
         refine bodyPost_ret (v:=.tuple #[zeroU.val,.int .i64 1]) (by simp [results,Tryz.results68,go_sem,c0,c1,c2,c3,c4,c5,c6,c7];try rfl) rfl ⟨rfl,hPz2.bel⟩
       · rw [hsc] at kS
         have hR:=HRR.out.trans (readU_fin HL.out H1.out H2.out (show schemeP s2=some (lowL tw,r) by rw [HsP.out,if_neg (by rw [hsc];simp [Hne.out])]))
         have KS:=Lib.hid kS
         have HR:=Lib.hid hR
         clear kS hsc hR
         go_wp2_with fail
         refine(KL.out _).mono ?_
         rintro e w6 ⟨rfl,hb6⟩
         have hP7:=hP6.below hb6
         clear hP6 hb6
         go_wp2_with fail
         refine(KS.out _).mono ?_
         rintro e w7 ⟨rfl,hb7⟩
         have hP6:=hP7.below hb7
         clear hP7 hb7
         go_wp2_with fail
         have k0:(0:Int)≤(k:Int):=Int.natCast_nonneg _
         have k2:(k:Int)≤(s2.length:Int):=by omega
         have k3:IntKind.i64.wrap ((k:Int)+1)=(k:Int)+1:=IntWalk.i64_in _ (by omega)
         have k4:(0:Int)≤(k:Int)+1:=by omega
         have k5:((k:Int)+1).toNat=k+1:=by omega
         have k6:(k:Int)+1≤(s2.length:Int):=by omega
         refine wp_region_held (S:=fun W'=>∃ u,PB w W' zeroU u) (by kernel_rfl) ?_
         change wpAnyH _ _ _ _ _ _ _ _ (World.drew w7)
         have hQ:PB w (World.drew w7) zeroU u1:=hP6.drew
         have hS:∃ u,PB w (World.drew w7) zeroU u:=⟨_,hQ⟩
         refine tkH (i:=0) (v:=?_) rfl ?_ hS ?_
         rotate_left 1
         · intro W' hb;go_simp;try exact rfl
         refine tkH (i:=1) (v:=?_) rfl ?_ hS ?_
         rotate_left 1
         · intro W' hb;go_simp;try exact rfl
         refine tkH (i:=2) (v:=?_) rfl ?_ hS ?_
         rotate_left 1
         · intro W' hb;go_simp;try exact rfl
         refine tkH (i:=4) (v:=?_) rfl ?_ hS ?_
         rotate_left 1
         · intro W' hb;go_simp;try exact rfl
         refine tkH (i:=5) (v:=?_) rfl ?_ hS ?_
         rotate_left 1
         · intro W' hb;go_simp;try exact rfl
         refine tkH (i:=6) (v:=?_) rfl ?_ hS ?_
         rotate_left 1
         · intro W' hb;go_simp;try exact rfl
         refine tkH (i:=7) (v:=?_) rfl ?_ hS ?_
         rotate_left 1
         · intro W' hb;go_simp;try exact rfl
         refine wpAnyH_all (rs:=[3]) (by kernel_rfl) (by simp) ?_
         intro kk hkk
         simp only [List.mem_singleton] at hkk
         subst hkk
         go_simp
         refine wpOp_call rfl (by kernel_rfl) 117 #[str (s2.take k)] (by go_simp) _ _ (KL.out _) ?_
         intro w8 hb8
         have hQ:=hQ.below hb8
         have hS:∃ u,PB w w8 zeroU u:=⟨_,hQ⟩
         clear hb8
         refine⟨hS,?_⟩
         refine tkH (i:=8) (v:=?_) rfl ?_ hS ?_
         rotate_left 1
         · intro W' hb;go_simp;try exact rfl
         refine wpAnyH_all (rs:=[9]) (by kernel_rfl) (by simp) ?_
         intro kk hkk
         simp only [List.mem_singleton] at hkk
         subst hkk
         go_simp
         have y0:=hQ.own.box.1
         have f0:=hQ.own.fz 0
         refine wpOp_store rfl (by kernel_rfl) (w8.setCell ⟨w.heap.size+1,0,none⟩ (str (lowL tw))) (by go_simp) ?_
         have hQ:=hQ.s0 (lowL tw)
         have hS:∃ u,PB w (w8.setCell ⟨w.heap.size+1,0,none⟩ (str (lowL tw))) zeroU u:=⟨_,hQ⟩
         clear y0 f0
         refine⟨hS,?_⟩
         refine tkH (i:=10) (v:=?_) rfl ?_ hS ?_
         rotate_left 1
         · intro W' hb;go_simp;try exact rfl
         refine wpAnyH_done (by kernel_rfl) ?_ _
         go_simp
         go_wp2_with fail
         rw [P4.out]
         generalize hwA:World.setCell _ _ _=wA
         rw [hwA] at hQ
         obtain⟨uA,huA⟩:∃ uA:UrlD,uA=⟨lowL tw,false,[],[],hq,qu,hf,fr⟩:=⟨_,rfl⟩
         have hPA:PB w wA zeroU uA:=by rw [huA];rw [Hu1.out] at hQ;exact hQ
         have hR:=HR.out
         rw [← huA] at hR
         have HU:Hid (uA.hasHost=false∧uA.host = []):=by rw [huA];exact⟨rfl,rfl⟩
         have hrl:r.length≤120:=by rw [← P4.out,List.length_drop];omega
         have HR:=Lib.hid hR
         clear hwA hQ hS hP6 huA hR k0 k1 k2 k3 k4 k5 k6 KL KS P3 P4 HsP Hne ek e58 p1 Hu1
         cases hp:Lib.hasPrefix r [47,47]
         · skip
           have kC:=CutPrefix_two r wA
           rw [hp] at kC
           simp only [Bool.false_eq_true,if_false] at kC
           have hH:hostU r uA = { uA with path:=r }:=by
            obtain⟨h1,h2⟩:=HU.out
            unfold hostU hostP
            rw [hp]
            simp only [Bool.false_eq_true,if_false]
            rw [← h1,← h2]
           have hR2:rr=(if checkU { uA with path:=r } = 0 then ({ uA with path:=r },0) else (zeroU,checkU { uA with path:=r })):=by
            rw [HR.out]
            unfold finU
            rw [hH]
           have HR2:=Lib.hid hR2
           clear hH hR2 hp
           refine kC.mono ?_
           rintro e wx ⟨rfl,rfl⟩
           clear kC
           obtain⟨y0,y1,y2,y3,y4,y5,y6,y7⟩:=hPA.own.box
           have f3:=hPA.own.fz 3
           have HQ:=Lib.hid (hPA.s3 r)
           clear hPA
           go_wp2_with fail
           clear y0 y1 y2 y3 y4 y5 y6 y7 f3
           generalize hwB:World.setCell _ _ _=wB
           have hPB:=HQ.out
           rw [hwB] at hPB
           have kK:=Check_any { uA with path:=r } wB
           have hR2:=HR2.out
           obtain⟨uB,huB⟩:∃ uB:UrlD,uB = { uA with path:=r }:=⟨_,rfl⟩
           have kK:Calls Tryz.prog 118 #[.agg #[str uA.scheme,.bool uA.hasHost,str uA.host,str r,.bool uA.hasQuery,str uA.query,.bool uA.hasFrag,str uA.frag]] wB fun e w'=>e = .returned (.int .i64 (checkU uB:Nat))∧Below wB.heap.size wB w':=by rw [huB];exact kK
           rw [← huB] at hPB hR2
           clear HQ HR2 hwB huB
           by_cases hc:checkU uB=0
           · skip
             have KK:=Lib.hid hc
             have hR3:=hR2.trans (if_pos hc)
             rw [hc] at kK
             have HR3:=Lib.hid hR3
             clear hc hR2 hR3
             refine kK.mono ?_
             rintro e wC ⟨rfl,hbC⟩
             have hPC:=hPB.below hbC
             clear hPB hbC kK
             obtain⟨c0,c1,c2,c3,c4,c5,c6,c7⟩:=hPC.own.box
             obtain⟨y0,y1,y2,y3,y4,y5,y6,y7⟩:=hPC.res.box
             obtain⟨f0,f1,f2,f3,f4,f5,f6,f7⟩:=hPC.fzr
             have HF:=Lib.hid (hPC.fill uB)
             clear hPC
             go_wp2_with fail
             clear y0 y1 y2 y3 y4 y5 y6 y7 f0 f1 f2 f3 f4 f5 f6 f7 c0 c1 c2 c3 c4 c5 c6 c7
             generalize hwz:World.setCell _ _ _=wz
             have hPz:=HF.out
             rw [hwz] at hPz
             obtain⟨c0,c1,c2,c3,c4,c5,c6,c7⟩:=hPz.res.box
             have hrr:=HR3.out
             subst hrr
             refine bodyPost_ret (v:=.tuple #[uB.val,.int .i64 0]) (by simp [results,Tryz.results68,go_sem,c0,c1,c2,c3,c4,c5,c6,c7];try rfl) rfl ⟨rfl,hPz.bel⟩
           · skip
             have hR3:=hR2.trans (if_neg hc)
             generalize checkU uB=kk at kK hc hR3
             have ekk:((kk:Int) != 0)=true:=by simp;omega
             have HR3:=Lib.hid hR3
             clear hc hR2 hR3
             refine kK.mono ?_
             rintro e wC ⟨rfl,hbC⟩
             have hPC:=hPB.below hbC
             clear hPB hbC kK
             obtain⟨y0,y1,y2,y3,y4,y5,y6,y7⟩:=hPC.res.box
             obtain⟨f0,f1,f2,f3,f4,f5,f6,f7⟩:=hPC.fzr
             have HF:=Lib.hid (hPC.fill zeroU)
             clear hPC
             go_wp2_with fail
             clear y0 y1 y2 y3 y4 y5 y6 y7 f0 f1 f2 f3 f4 f5 f6 f7
             generalize hwz:World.setCell _ _ _=wz
             have hPz:=HF.out
             unfold zeroU at hPz
             have hPz2:PB w wz zeroU uB:=by rw [← hwz];exact hPz
             obtain⟨c0,c1,c2,c3,c4,c5,c6,c7⟩:=hPz2.res.box
             have hrr:=HR3.out
             subst hrr
             refine bodyPost_ret (v:=.tuple #[zeroU.val,.int .i64 (kk:Nat)]) (by simp [results,Tryz.results68,go_sem,c0,c1,c2,c3,c4,c5,c6,c7];try rfl) rfl ⟨rfl,hPz2.bel⟩
         · skip
           have kC:=CutPrefix_two r wA
           rw [hp] at kC
           simp only [if_true] at kC
           obtain⟨rest,hrest⟩:∃ rest,rest=r.drop 2:=⟨_,rfl⟩
           rw [← hrest] at kC
           have hrl:rest.length≤120:=by rw [hrest,List.length_drop];omega
           have hH:hostU r uA = { uA with hasHost:=true,host:=lowL (rest.takeWhile not47),path:=rest.dropWhile not47 }:=by
            unfold hostU hostP
            rw [hp,hrest]
            simp only [if_true]
           have hR2:rr=(if checkU (hostU r uA)=0 then (hostU r uA,0) else (zeroU,checkU (hostU r uA))):=HR.out
           rw [hH] at hR2
           have HR2:=Lib.hid hR2
           have ix:=not47_stop rest
           obtain⟨tk,dk⟩:=tw_take not47 rest
           have hkl:(rest.takeWhile not47).length≤rest.length:=(List.takeWhile_sublist _).length_le
           have hall:rest.dropWhile not47 = []→(rest.takeWhile not47).length=rest.length:=by
            intro h
            have:=congrArg List.length (List.takeWhile_append_dropWhile (p:=not47) (l:=rest))
            rw [h,List.append_nil] at this
            exact this
           clear hH hR2 hp hrest
           refine kC.mono ?_
           rintro e wx ⟨rfl,rfl⟩
           clear kC
           have kX:∀ W,Calls Tryz.prog 82 #[str rest,.int .u8 47] W fun e w'=>e = .returned (.int .i64 (Lib.indexByte rest 47))∧W=w':=fun W=>IndexByte_any rest 47 W
           rw [ix] at kX
           have y1:=hPA.own.box.2.1
           have f1:=hPA.own.fz 1
           have HQ:=Lib.hid (hPA.s1 true)
           clear hPA ix
           generalize hdw:rest.dropWhile not47=dw at dk hall HR2 kX
           generalize hth:lowL (rest.takeWhile not47)=th at HR2
           have kT:∀ W,Calls Tryz.prog 117 #[str (rest.take (rest.takeWhile not47).length)] W fun e w'=>e = .returned (str th)∧Below W.heap.size W w':=fun W=>by
            have h:=lowerU_any (rest.take (rest.takeWhile not47).length) W (by rw [List.length_take];unfold maxLen;omega)
            rw [show lowL (rest.take (rest.takeWhile not47).length)=th by rw [tk,hth]] at h
            exact h
           clear hth hdw tk
           generalize (rest.takeWhile not47).length=kh at kT dk hkl hall kX
           by_cases hn:dw = []
           case' pos =>
            rw [if_pos hn] at kX
            have hkh:=hall hn
            have KX:=Lib.hid kX
            have KT:=Lib.hid kT
            have DK:=Lib.hid dk
            clear kX kT dk hall hn
            go_wp2_with fail
            refine(KX.out _).mono ?_
            rintro e wx ⟨rfl,rfl⟩
            go_wp2_with fail
            rw [← hkh]
            clear hkh
           case' neg =>
            rw [if_neg hn] at kX
            have KX:=Lib.hid kX
            have KT:=Lib.hid kT
            have DK:=Lib.hid dk
            clear kX kT dk hall hn
            go_wp2_with fail
            refine(KX.out _).mono ?_
            rintro e wx ⟨rfl,rfl⟩
            go_wp2_with fail
           all_goals
            clear y1 f1
            generalize hwH:World.setCell _ _ _=wH
            have hPH:=HQ.out
            rw [hwH] at hPH
            clear hwH HQ
            have k0:(0:Int)≤(kh:Int):=Int.natCast_nonneg _
            have k2:(kh:Int)≤(rest.length:Int):=by omega
            refine wp_region_held (S:=fun W'=>∃ u,PB w W' zeroU u) (by kernel_rfl) ?_
            change wpAnyH _ _ _ _ _ _ _ _ (World.drew wH)
            have hQ:=hPH.drew
            have hS:∃ u,PB w (World.drew wH) zeroU u:=⟨_,hQ⟩
            refine tkH (i:=0) (v:=?_) rfl ?_ hS ?_
            rotate_left 1
            · intro W' hb;go_simp;try exact rfl
            refine tkH (i:=1) (v:=?_) rfl ?_ hS ?_
            rotate_left 1
            · intro W' hb;go_simp;try exact rfl
            refine tkH (i:=2) (v:=?_) rfl ?_ hS ?_
            rotate_left 1
            · intro W' hb;go_simp;try exact rfl
            refine tkH (i:=4) (v:=?_) rfl ?_ hS ?_
            rotate_left 1
            · intro W' hb;go_simp;try exact rfl
            refine tkH (i:=5) (v:=?_) rfl ?_ hS ?_
            rotate_left 1
            · intro W' hb;go_simp;try exact rfl
            refine tkH (i:=6) (v:=?_) rfl ?_ hS ?_
            rotate_left 1
            · intro W' hb;go_simp;try exact rfl
            refine wpAnyH_all (rs:=[3]) (by kernel_rfl) (by simp) ?_
            intro kk hkk
            simp only [List.mem_singleton] at hkk
            subst hkk
            go_simp
            refine wpOp_call rfl (by kernel_rfl) 117 #[str (rest.take kh)] (by go_simp) _ _ (KT.out _) ?_
            intro w8 hb8
            have hQ:=hQ.below hb8
            have hS:∃ u,PB w w8 zeroU u:=⟨_,hQ⟩
            clear hb8
            refine⟨hS,?_⟩
            refine tkH (i:=7) (v:=?_) rfl ?_ hS ?_
            rotate_left 1
            · intro W' hb;go_simp;try exact rfl
            refine wpAnyH_all (rs:=[8]) (by kernel_rfl) (by simp) ?_
            intro kk hkk
            simp only [List.mem_singleton] at hkk
            subst hkk
            go_simp
            have y2:=hQ.own.box.2.2.1
            have f2:=hQ.own.fz 2
            refine wpOp_store rfl (by kernel_rfl) (w8.setCell ⟨w.heap.size+1,2,none⟩ (str th)) (by go_simp) ?_
            have hQ:=hQ.s2 th
            have hS:∃ u,PB w (w8.setCell ⟨w.heap.size+1,2,none⟩ (str th)) zeroU u:=⟨_,hQ⟩
            clear y2 f2
            refine⟨hS,?_⟩
            refine tkH (i:=9) (v:=?_) rfl ?_ hS ?_
            rotate_left 1
            · intro W' hb;go_simp;try exact rfl
            refine wpAnyH_done (by kernel_rfl) ?_ _
            go_simp
            rw [DK.out]
            generalize hw9:World.setCell _ _ _=w9
            have hQ9:=hQ
            rw [hw9] at hQ9
            clear hw9 hQ hS
            obtain⟨y0,y1,y2,y3,y4,y5,y6,y7⟩:=hQ9.own.box
            have f3:=hQ9.own.fz 3
            have HQ:=Lib.hid (hQ9.s3 dw)
            clear hQ9 hPH
            go_wp2_with fail
            clear y0 y1 y2 y3 y4 y5 y6 y7 f3
            generalize hwB:World.setCell _ _ _=wB
            have hPB:=HQ.out
            rw [hwB] at hPB
            have kK:=Check_any { uA with hasHost:=true,host:=th,path:=dw } wB
            have hR2:=HR2.out
            obtain⟨uB,huB⟩:∃ uB:UrlD,uB = { uA with hasHost:=true,host:=th,path:=dw }:=⟨_,rfl⟩
            have kK:Calls Tryz.prog 118 #[.agg #[str uA.scheme,.bool true,str th,str dw,.bool uA.hasQuery,str uA.query,.bool uA.hasFrag,str uA.frag]] wB fun e w'=>e = .returned (.int .i64 (checkU uB:Nat))∧Below wB.heap.size wB w':=by rw [huB];exact kK
            rw [← huB] at hPB hR2
            clear HQ HR2 hwB huB
            by_cases hc:checkU uB=0
            · skip
              have KK:=Lib.hid hc
              have hR3:=hR2.trans (if_pos hc)
              rw [hc] at kK
              have HR3:=Lib.hid hR3
              clear hc hR2 hR3
              refine kK.mono ?_
              rintro e wC ⟨rfl,hbC⟩
              have hPC:=hPB.below hbC
              clear hPB hbC kK
              obtain⟨c0,c1,c2,c3,c4,c5,c6,c7⟩:=hPC.own.box
              obtain⟨y0,y1,y2,y3,y4,y5,y6,y7⟩:=hPC.res.box
              obtain⟨f0,f1,f2,f3,f4,f5,f6,f7⟩:=hPC.fzr
              have HF:=Lib.hid (hPC.fill uB)
              clear hPC
              go_wp2_with fail
              clear y0 y1 y2 y3 y4 y5 y6 y7 f0 f1 f2 f3 f4 f5 f6 f7 c0 c1 c2 c3 c4 c5 c6 c7
              generalize hwz:World.setCell _ _ _=wz
              have hPz:=HF.out
              rw [hwz] at hPz
              obtain⟨c0,c1,c2,c3,c4,c5,c6,c7⟩:=hPz.res.box
              have hrr:=HR3.out
              subst hrr
              refine bodyPost_ret (v:=.tuple #[uB.val,.int .i64 0]) (by simp [results,Tryz.results68,go_sem,c0,c1,c2,c3,c4,c5,c6,c7];try rfl) rfl ⟨rfl,hPz.bel⟩
            · skip
              have hR3:=hR2.trans (if_neg hc)
              generalize checkU uB=kk at kK hc hR3
              have ekk:((kk:Int) != 0)=true:=by simp;omega
              have HR3:=Lib.hid hR3
              clear hc hR2 hR3
              refine kK.mono ?_
              rintro e wC ⟨rfl,hbC⟩
              have hPC:=hPB.below hbC
              clear hPB hbC kK
              obtain⟨y0,y1,y2,y3,y4,y5,y6,y7⟩:=hPC.res.box
              obtain⟨f0,f1,f2,f3,f4,f5,f6,f7⟩:=hPC.fzr
              have HF:=Lib.hid (hPC.fill zeroU)
              clear hPC
              go_wp2_with fail
              clear y0 y1 y2 y3 y4 y5 y6 y7 f0 f1 f2 f3 f4 f5 f6 f7
              generalize hwz:World.setCell _ _ _=wz
              have hPz:=HF.out
              unfold zeroU at hPz
              have hPz2:PB w wz zeroU uB:=by rw [← hwz];exact hPz
              obtain⟨c0,c1,c2,c3,c4,c5,c6,c7⟩:=hPz2.res.box
              have hrr:=HR3.out
              subst hrr
              refine bodyPost_ret (v:=.tuple #[zeroU.val,.int .i64 (kk:Nat)]) (by simp [results,Tryz.results68,go_sem,c0,c1,c2,c3,c4,c5,c6,c7];try rfl) rfl ⟨rfl,hPz2.bel⟩
   · have hsP:schemeP s2=some ([],s2):=by unfold schemeP;rw [if_neg hd]
     have hR:=HRR.out.trans (readU_fin HL.out H1.out H2.out hsP)
     rw [← Hu1.out] at hR
     have HU:Hid (u1.hasHost=false∧u1.host = []):=by rw [Hu1.out];exact⟨rfl,rfl⟩
     have HR:=Lib.hid hR
     clear hsP hR Hu1
     by_cases hn:s2.dropWhile stopCS = []
     case' pos =>
      rw [if_pos hn] at kA
      have KA:=Lib.hid kA
      clear kA hn hd
      refine KA.out.mono ?_
      rintro e w5 ⟨rfl,hb5⟩
      have hPA:=hP5.below hb5
      clear hP5 hb5 KA
      go_wp2_with fail
     case' neg =>
      obtain⟨c,r0,hr⟩:∃ c r0,s2.dropWhile stopCS=c :: r0:=by
       cases h:s2.dropWhile stopCS with
       | nil=>exact absurd h hn
       | cons a t=>exact⟨a,t,rfl⟩
      obtain⟨p1,p2,p3,p4⟩:=place_cs hr
      rw [if_neg hn] at kA
      generalize (s2.takeWhile stopCS).length=k at p1 p2 p3 p4 kA
      have e58:((nth s2 k:Int) == 58)=false:=by
       rw [beq_eq_false_iff_ne,p2]
       intro e
       refine hd ?_
       rw [hr]
       have:c=58:=UInt8.toNat_inj.1 (by show c.toNat=58;omega)
       rw [this];rfl
      have KA:=Lib.hid kA
      clear kA hn hd p2 p3 p4 hr
      refine KA.out.mono ?_
      rintro e w5 ⟨rfl,hb5⟩
      have hPA:=hP5.below hb5
      clear hP5 hb5 KA
      go_wp2_with fail
      clear p1 e58
     all_goals
      generalize w5=wA at hPA ⊢
      generalize u1=uA at hPA HR HU
      generalize s2=r at HR hl3 ⊢
      have hrl:r.length≤120:=hl3
      clear hl3
      cases hp:Lib.hasPrefix r [47,47]
      · skip
        have kC:=CutPrefix_two r wA
        rw [hp] at kC
        simp only [Bool.false_eq_true,if_false] at kC
        have hH:hostU r uA = { uA with path:=r }:=by
         obtain⟨h1,h2⟩:=HU.out
         unfold hostU hostP
         rw [hp]
         simp only [Bool.false_eq_true,if_false]
         rw [← h1,← h2]
        have hR2:rr=(if checkU { uA with path:=r } = 0 then ({ uA with path:=r },0) else (zeroU,checkU { uA with path:=r })):=by
         rw [HR.out]
         unfold finU
         rw [hH]
        have HR2:=Lib.hid hR2
        clear hH hR2 hp
        refine kC.mono ?_
        rintro e wx ⟨rfl,rfl⟩
        clear kC
        obtain⟨y0,y1,y2,y3,y4,y5,y6,y7⟩:=hPA.own.box
        have f3:=hPA.own.fz 3
        have HQ:=Lib.hid (hPA.s3 r)
        clear hPA
        go_wp2_with fail
        clear y0 y1 y2 y3 y4 y5 y6 y7 f3
        generalize hwB:World.setCell _ _ _=wB
        have hPB:=HQ.out
        rw [hwB] at hPB
        have kK:=Check_any { uA with path:=r } wB
        have hR2:=HR2.out
        obtain⟨uB,huB⟩:∃ uB:UrlD,uB = { uA with path:=r }:=⟨_,rfl⟩
        have kK:Calls Tryz.prog 118 #[.agg #[str uA.scheme,.bool uA.hasHost,str uA.host,str r,.bool uA.hasQuery,str uA.query,.bool uA.hasFrag,str uA.frag]] wB fun e w'=>e = .returned (.int .i64 (checkU uB:Nat))∧Below wB.heap.size wB w':=by rw [huB];exact kK
        rw [← huB] at hPB hR2
        clear HQ HR2 hwB huB
        by_cases hc:checkU uB=0
        · skip
          have KK:=Lib.hid hc
          have hR3:=hR2.trans (if_pos hc)
          rw [hc] at kK
          have HR3:=Lib.hid hR3
          clear hc hR2 hR3
          refine kK.mono ?_
          rintro e wC ⟨rfl,hbC⟩
          have hPC:=hPB.below hbC
          clear hPB hbC kK
          obtain⟨c0,c1,c2,c3,c4,c5,c6,c7⟩:=hPC.own.box
          obtain⟨y0,y1,y2,y3,y4,y5,y6,y7⟩:=hPC.res.box
          obtain⟨f0,f1,f2,f3,f4,f5,f6,f7⟩:=hPC.fzr
          have HF:=Lib.hid (hPC.fill uB)
          clear hPC
          go_wp2_with fail
          clear y0 y1 y2 y3 y4 y5 y6 y7 f0 f1 f2 f3 f4 f5 f6 f7 c0 c1 c2 c3 c4 c5 c6 c7
          generalize hwz:World.setCell _ _ _=wz
          have hPz:=HF.out
          rw [hwz] at hPz
          obtain⟨c0,c1,c2,c3,c4,c5,c6,c7⟩:=hPz.res.box
          have hrr:=HR3.out
          subst hrr
          refine bodyPost_ret (v:=.tuple #[uB.val,.int .i64 0]) (by simp [results,Tryz.results68,go_sem,c0,c1,c2,c3,c4,c5,c6,c7];try rfl) rfl ⟨rfl,hPz.bel⟩
        · skip
          have hR3:=hR2.trans (if_neg hc)
          generalize checkU uB=kk at kK hc hR3
          have ekk:((kk:Int) != 0)=true:=by simp;omega
          have HR3:=Lib.hid hR3
          clear hc hR2 hR3
          refine kK.mono ?_
          rintro e wC ⟨rfl,hbC⟩
          have hPC:=hPB.below hbC
          clear hPB hbC kK
          obtain⟨y0,y1,y2,y3,y4,y5,y6,y7⟩:=hPC.res.box
          obtain⟨f0,f1,f2,f3,f4,f5,f6,f7⟩:=hPC.fzr
          have HF:=Lib.hid (hPC.fill zeroU)
          clear hPC
          go_wp2_with fail
          clear y0 y1 y2 y3 y4 y5 y6 y7 f0 f1 f2 f3 f4 f5 f6 f7
          generalize hwz:World.setCell _ _ _=wz
          have hPz:=HF.out
          unfold zeroU at hPz
          have hPz2:PB w wz zeroU uB:=by rw [← hwz];exact hPz
          obtain⟨c0,c1,c2,c3,c4,c5,c6,c7⟩:=hPz2.res.box
          have hrr:=HR3.out
          subst hrr
          refine bodyPost_ret (v:=.tuple #[zeroU.val,.int .i64 (kk:Nat)]) (by simp [results,Tryz.results68,go_sem,c0,c1,c2,c3,c4,c5,c6,c7];try rfl) rfl ⟨rfl,hPz2.bel⟩
      · skip
        have kC:=CutPrefix_two r wA
        rw [hp] at kC
        simp only [if_true] at kC
        obtain⟨rest,hrest⟩:∃ rest,rest=r.drop 2:=⟨_,rfl⟩
        rw [← hrest] at kC
        have hrl:rest.length≤120:=by rw [hrest,List.length_drop];omega
        have hH:hostU r uA = { uA with hasHost:=true,host:=lowL (rest.takeWhile not47),path:=rest.dropWhile not47 }:=by
         unfold hostU hostP
         rw [hp,hrest]
         simp only [if_true]
        have hR2:rr=(if checkU (hostU r uA)=0 then (hostU r uA,0) else (zeroU,checkU (hostU r uA))):=HR.out
        rw [hH] at hR2
        have HR2:=Lib.hid hR2
        have ix:=not47_stop rest
        obtain⟨tk,dk⟩:=tw_take not47 rest
        have hkl:(rest.takeWhile not47).length≤rest.length:=(List.takeWhile_sublist _).length_le
        have hall:rest.dropWhile not47 = []→(rest.takeWhile not47).length=rest.length:=by
         intro h
         have:=congrArg List.length (List.takeWhile_append_dropWhile (p:=not47) (l:=rest))
         rw [h,List.append_nil] at this
         exact this
        clear hH hR2 hp hrest
        refine kC.mono ?_
        rintro e wx ⟨rfl,rfl⟩
        clear kC
        have kX:∀ W,Calls Tryz.prog 82 #[str rest,.int .u8 47] W fun e w'=>e = .returned (.int .i64 (Lib.indexByte rest 47))∧W=w':=fun W=>IndexByte_any rest 47 W
        rw [ix] at kX
        have y1:=hPA.own.box.2.1
        have f1:=hPA.own.fz 1
        have HQ:=Lib.hid (hPA.s1 true)
        clear hPA ix
        generalize hdw:rest.dropWhile not47=dw at dk hall HR2 kX
        generalize hth:lowL (rest.takeWhile not47)=th at HR2
        have kT:∀ W,Calls Tryz.prog 117 #[str (rest.take (rest.takeWhile not47).length)] W fun e w'=>e = .returned (str th)∧Below W.heap.size W w':=fun W=>by
         have h:=lowerU_any (rest.take (rest.takeWhile not47).length) W (by rw [List.length_take];unfold maxLen;omega)
         rw [show lowL (rest.take (rest.takeWhile not47).length)=th by rw [tk,hth]] at h
         exact h
        clear hth hdw tk
        generalize (rest.takeWhile not47).length=kh at kT dk hkl hall kX
        by_cases hn:dw = []
        case' pos =>
         rw [if_pos hn] at kX
         have hkh:=hall hn
         have KX:=Lib.hid kX
         have KT:=Lib.hid kT
         have DK:=Lib.hid dk
         clear kX kT dk hall hn
         go_wp2_with fail
         refine(KX.out _).mono ?_
         rintro e wx ⟨rfl,rfl⟩
         go_wp2_with fail
         rw [← hkh]
         clear hkh
        case' neg =>
         rw [if_neg hn] at kX
         have KX:=Lib.hid kX
         have KT:=Lib.hid kT
         have DK:=Lib.hid dk
         clear kX kT dk hall hn
         go_wp2_with fail
         refine(KX.out _).mono ?_
         rintro e wx ⟨rfl,rfl⟩
         go_wp2_with fail
        all_goals
         clear y1 f1
         generalize hwH:World.setCell _ _ _=wH
         have hPH:=HQ.out
         rw [hwH] at hPH
         clear hwH HQ
         have k0:(0:Int)≤(kh:Int):=Int.natCast_nonneg _
         have k2:(kh:Int)≤(rest.length:Int):=by omega
         refine wp_region_held (S:=fun W'=>∃ u,PB w W' zeroU u) (by kernel_rfl) ?_
         change wpAnyH _ _ _ _ _ _ _ _ (World.drew wH)
         have hQ:=hPH.drew
         have hS:∃ u,PB w (World.drew wH) zeroU u:=⟨_,hQ⟩
         refine tkH (i:=0) (v:=?_) rfl ?_ hS ?_
         rotate_left 1
         · intro W' hb;go_simp;try exact rfl
         refine tkH (i:=1) (v:=?_) rfl ?_ hS ?_
         rotate_left 1
         · intro W' hb;go_simp;try exact rfl
         refine tkH (i:=2) (v:=?_) rfl ?_ hS ?_
         rotate_left 1
         · intro W' hb;go_simp;try exact rfl
         refine tkH (i:=4) (v:=?_) rfl ?_ hS ?_
         rotate_left 1
         · intro W' hb;go_simp;try exact rfl
         refine tkH (i:=5) (v:=?_) rfl ?_ hS ?_
         rotate_left 1
         · intro W' hb;go_simp;try exact rfl
         refine tkH (i:=6) (v:=?_) rfl ?_ hS ?_
         rotate_left 1
         · intro W' hb;go_simp;try exact rfl
         refine wpAnyH_all (rs:=[3]) (by kernel_rfl) (by simp) ?_
         intro kk hkk
         simp only [List.mem_singleton] at hkk
         subst hkk
         go_simp
         refine wpOp_call rfl (by kernel_rfl) 117 #[str (rest.take kh)] (by go_simp) _ _ (KT.out _) ?_
         intro w8 hb8
         have hQ:=hQ.below hb8
         have hS:∃ u,PB w w8 zeroU u:=⟨_,hQ⟩
         clear hb8
         refine⟨hS,?_⟩
         refine tkH (i:=7) (v:=?_) rfl ?_ hS ?_
         rotate_left 1
         · intro W' hb;go_simp;try exact rfl
         refine wpAnyH_all (rs:=[8]) (by kernel_rfl) (by simp) ?_
         intro kk hkk
         simp only [List.mem_singleton] at hkk
         subst hkk
         go_simp
         have y2:=hQ.own.box.2.2.1
         have f2:=hQ.own.fz 2
         refine wpOp_store rfl (by kernel_rfl) (w8.setCell ⟨w.heap.size+1,2,none⟩ (str th)) (by go_simp) ?_
         have hQ:=hQ.s2 th
         have hS:∃ u,PB w (w8.setCell ⟨w.heap.size+1,2,none⟩ (str th)) zeroU u:=⟨_,hQ⟩
         clear y2 f2
         refine⟨hS,?_⟩
         refine tkH (i:=9) (v:=?_) rfl ?_ hS ?_
         rotate_left 1
         · intro W' hb;go_simp;try exact rfl
         refine wpAnyH_done (by kernel_rfl) ?_ _
         go_simp
         rw [DK.out]
         generalize hw9:World.setCell _ _ _=w9
         have hQ9:=hQ
         rw [hw9] at hQ9
         clear hw9 hQ hS
         obtain⟨y0,y1,y2,y3,y4,y5,y6,y7⟩:=hQ9.own.box
         have f3:=hQ9.own.fz 3
         have HQ:=Lib.hid (hQ9.s3 dw)
         clear hQ9 hPH
         go_wp2_with fail
         clear y0 y1 y2 y3 y4 y5 y6 y7 f3
         generalize hwB:World.setCell _ _ _=wB
         have hPB:=HQ.out
         rw [hwB] at hPB
         have kK:=Check_any { uA with hasHost:=true,host:=th,path:=dw } wB
         have hR2:=HR2.out
         obtain⟨uB,huB⟩:∃ uB:UrlD,uB = { uA with hasHost:=true,host:=th,path:=dw }:=⟨_,rfl⟩
         have kK:Calls Tryz.prog 118 #[.agg #[str uA.scheme,.bool true,str th,str dw,.bool uA.hasQuery,str uA.query,.bool uA.hasFrag,str uA.frag]] wB fun e w'=>e = .returned (.int .i64 (checkU uB:Nat))∧Below wB.heap.size wB w':=by rw [huB];exact kK
         rw [← huB] at hPB hR2
         clear HQ HR2 hwB huB
         by_cases hc:checkU uB=0
         · skip
           have KK:=Lib.hid hc
           have hR3:=hR2.trans (if_pos hc)
           rw [hc] at kK
           have HR3:=Lib.hid hR3
           clear hc hR2 hR3
           refine kK.mono ?_
           rintro e wC ⟨rfl,hbC⟩
           have hPC:=hPB.below hbC
           clear hPB hbC kK
           obtain⟨c0,c1,c2,c3,c4,c5,c6,c7⟩:=hPC.own.box
           obtain⟨y0,y1,y2,y3,y4,y5,y6,y7⟩:=hPC.res.box
           obtain⟨f0,f1,f2,f3,f4,f5,f6,f7⟩:=hPC.fzr
           have HF:=Lib.hid (hPC.fill uB)
           clear hPC
           go_wp2_with fail
           clear y0 y1 y2 y3 y4 y5 y6 y7 f0 f1 f2 f3 f4 f5 f6 f7 c0 c1 c2 c3 c4 c5 c6 c7
           generalize hwz:World.setCell _ _ _=wz
           have hPz:=HF.out
           rw [hwz] at hPz
           obtain⟨c0,c1,c2,c3,c4,c5,c6,c7⟩:=hPz.res.box
           have hrr:=HR3.out
           subst hrr
           refine bodyPost_ret (v:=.tuple #[uB.val,.int .i64 0]) (by simp [results,Tryz.results68,go_sem,c0,c1,c2,c3,c4,c5,c6,c7];try rfl) rfl ⟨rfl,hPz.bel⟩
         · skip
           have hR3:=hR2.trans (if_neg hc)
           generalize checkU uB=kk at kK hc hR3
           have ekk:((kk:Int) != 0)=true:=by simp;omega
           have HR3:=Lib.hid hR3
           clear hc hR2 hR3
           refine kK.mono ?_
           rintro e wC ⟨rfl,hbC⟩
           have hPC:=hPB.below hbC
           clear hPB hbC kK
           obtain⟨y0,y1,y2,y3,y4,y5,y6,y7⟩:=hPC.res.box
           obtain⟨f0,f1,f2,f3,f4,f5,f6,f7⟩:=hPC.fzr
           have HF:=Lib.hid (hPC.fill zeroU)
           clear hPC
           go_wp2_with fail
           clear y0 y1 y2 y3 y4 y5 y6 y7 f0 f1 f2 f3 f4 f5 f6 f7
           generalize hwz:World.setCell _ _ _=wz
           have hPz:=HF.out
           unfold zeroU at hPz
           have hPz2:PB w wz zeroU uB:=by rw [← hwz];exact hPz
           obtain⟨c0,c1,c2,c3,c4,c5,c6,c7⟩:=hPz2.res.box
           have hrr:=HR3.out
           subst hrr
           refine bodyPost_ret (v:=.tuple #[zeroU.val,.int .i64 (kk:Nat)]) (by simp [results,Tryz.results68,go_sem,c0,c1,c2,c3,c4,c5,c6,c7];try rfl) rfl ⟨rfl,hPz2.bel⟩
/-- Where one address leads from another; nothing, where it can't be told. -/
def ledB (f t:List UInt8):List UInt8:=
 if (readU f).2≠0 then [] else if (readU t).2≠0 then [] else if (leadU (readU f).1 (readU t).1).2≠0 then [] else (printU (leadU (readU f).1 (readU t).1).1).1
theorem PrintV (u:UrlD) (w:World):Calls Tryz.prog 70 #[u.val] w fun e w'=>e = .returned (.tuple #[str (printU u).1,.int .i64 ((printU u).2:Nat)])∧Below w.heap.size w w':=
 Print_any u.scheme u.host u.path u.query u.frag u.hasHost u.hasQuery u.hasFrag w
/-- A block with two addresses. -/
def AB (w:World) (b:Nat) (u v:UrlD):Prop:=w.heap[b]? = some (.cells #[str u.scheme,.bool u.hasHost,str u.host,str u.path,.bool u.hasQuery,str u.query,.bool u.hasFrag,str u.frag,str v.scheme,.bool v.hasHost,str v.host,str v.path,.bool v.hasQuery,str v.query,.bool v.hasFrag,str v.frag] 104 (0,0))
section
variable {w w':World} {b:Nat} {u v:UrlD}
theorem AB.lt (h:AB w b u v):b < w.heap.size:=by
 rcases Nat.lt_or_ge b w.heap.size with h' | h'
 · exact h'
 · unfold AB at h;rw [Array.getElem?_eq_none h'] at h;cases h
theorem AB.box (h:AB w b u v):Box8 w b (str u.scheme) (.bool u.hasHost) (str u.host) (str u.path) (.bool u.hasQuery) (str u.query) (.bool u.hasFrag) (str u.frag):=by
 unfold AB at h
 refine⟨?_,?_,?_,?_,?_,?_,?_,?_⟩ <;> (unfold World.cell?;rw [h];rfl)
theorem AB.box2 (h:AB w b u v):w.cell? ⟨b,8,none⟩=some (str v.scheme)∧w.cell? ⟨b,9,none⟩=some (.bool v.hasHost)∧w.cell? ⟨b,10,none⟩=some (str v.host)∧w.cell? ⟨b,11,none⟩=some (str v.path)∧w.cell? ⟨b,12,none⟩=some (.bool v.hasQuery)∧w.cell? ⟨b,13,none⟩=some (str v.query)∧w.cell? ⟨b,14,none⟩=some (.bool v.hasFrag)∧w.cell? ⟨b,15,none⟩=some (str v.frag):=by
 unfold AB at h
 refine⟨?_,?_,?_,?_,?_,?_,?_,?_⟩ <;> (unfold World.cell?;rw [h];rfl)
theorem AB.fz (h:AB w b u v):∀ i,w.frozen? ⟨b,i,none⟩=false:=by
 intro i
 unfold AB at h
 unfold World.frozen?
 rw [h]
 simp
theorem AB.below (h:AB w b u v) (hb:Below w.heap.size w w'):AB w' b u v:=(hb.block b h.lt).trans h
theorem AB.new (w:World) (u v:UrlD):AB (w.alloc (.cells #[str u.scheme,.bool u.hasHost,str u.host,str u.path,.bool u.hasQuery,str u.query,.bool u.hasFrag,str u.frag,str v.scheme,.bool v.hasHost,str v.host,str v.path,.bool v.hasQuery,str v.query,.bool v.hasFrag,str v.frag] 104)) w.heap.size u v:=heap_alloc_new w _
theorem AB.put (h:AB w b u v) (k:Nat) (x:Value):(w.setCell ⟨b,k,none⟩ x).heap[b]? = some (.cells ((#[str u.scheme,.bool u.hasHost,str u.host,str u.path,.bool u.hasQuery,str u.query,.bool u.hasFrag,str u.frag,str v.scheme,.bool v.hasHost,str v.host,str v.path,.bool v.hasQuery,str v.query,.bool v.hasFrag,str v.frag]:Array Value).setIfInBounds k x) 104 (0,0)):=by
 unfold AB at h
 simp only [World.setCell,Array.getElem?_modify,if_pos,h,Option.map_some]
 rfl
theorem AB.s0 (h:AB w b u v) (x:List UInt8):AB (w.setCell ⟨b,0,none⟩ (str x)) b { u with scheme:=x } v:=h.put 0 _
theorem AB.s1 (h:AB w b u v) (x:Bool):AB (w.setCell ⟨b,1,none⟩ (.bool x)) b { u with hasHost:=x } v:=h.put 1 _
theorem AB.s2 (h:AB w b u v) (x:List UInt8):AB (w.setCell ⟨b,2,none⟩ (str x)) b { u with host:=x } v:=h.put 2 _
theorem AB.s3 (h:AB w b u v) (x:List UInt8):AB (w.setCell ⟨b,3,none⟩ (str x)) b { u with path:=x } v:=h.put 3 _
theorem AB.s4 (h:AB w b u v) (x:Bool):AB (w.setCell ⟨b,4,none⟩ (.bool x)) b { u with hasQuery:=x } v:=h.put 4 _
theorem AB.s5 (h:AB w b u v) (x:List UInt8):AB (w.setCell ⟨b,5,none⟩ (str x)) b { u with query:=x } v:=h.put 5 _
theorem AB.s6 (h:AB w b u v) (x:Bool):AB (w.setCell ⟨b,6,none⟩ (.bool x)) b { u with hasFrag:=x } v:=h.put 6 _
theorem AB.s7 (h:AB w b u v) (x:List UInt8):AB (w.setCell ⟨b,7,none⟩ (str x)) b { u with frag:=x } v:=h.put 7 _
theorem AB.fill1 (h:AB w b u v) (x:UrlD):AB ((((((((w.setCell ⟨b,0,none⟩ (str x.scheme)).setCell ⟨b,1,none⟩ (.bool x.hasHost)).setCell ⟨b,2,none⟩ (str x.host)).setCell ⟨b,3,none⟩ (str x.path)).setCell ⟨b,4,none⟩ (.bool x.hasQuery)).setCell ⟨b,5,none⟩ (str x.query)).setCell ⟨b,6,none⟩ (.bool x.hasFrag)).setCell ⟨b,7,none⟩ (str x.frag)) b x v:=((((((((h.s0 x.scheme).s1 x.hasHost).s2 x.host).s3 x.path).s4 x.hasQuery).s5 x.query).s6 x.hasFrag).s7 x.frag)
theorem AB.t0 (h:AB w b u v) (x:List UInt8):AB (w.setCell ⟨b,8,none⟩ (str x)) b u { v with scheme:=x }:=h.put 8 _
theorem AB.t1 (h:AB w b u v) (x:Bool):AB (w.setCell ⟨b,9,none⟩ (.bool x)) b u { v with hasHost:=x }:=h.put 9 _
theorem AB.t2 (h:AB w b u v) (x:List UInt8):AB (w.setCell ⟨b,10,none⟩ (str x)) b u { v with host:=x }:=h.put 10 _
theorem AB.t3 (h:AB w b u v) (x:List UInt8):AB (w.setCell ⟨b,11,none⟩ (str x)) b u { v with path:=x }:=h.put 11 _
theorem AB.t4 (h:AB w b u v) (x:Bool):AB (w.setCell ⟨b,12,none⟩ (.bool x)) b u { v with hasQuery:=x }:=h.put 12 _
theorem AB.t5 (h:AB w b u v) (x:List UInt8):AB (w.setCell ⟨b,13,none⟩ (str x)) b u { v with query:=x }:=h.put 13 _
theorem AB.t6 (h:AB w b u v) (x:Bool):AB (w.setCell ⟨b,14,none⟩ (.bool x)) b u { v with hasFrag:=x }:=h.put 14 _
theorem AB.t7 (h:AB w b u v) (x:List UInt8):AB (w.setCell ⟨b,15,none⟩ (str x)) b u { v with frag:=x }:=h.put 15 _
theorem AB.fill2 (h:AB w b u v) (x:UrlD):AB ((((((((w.setCell ⟨b,8,none⟩ (str x.scheme)).setCell ⟨b,9,none⟩ (.bool x.hasHost)).setCell ⟨b,10,none⟩ (str x.host)).setCell ⟨b,11,none⟩ (str x.path)).setCell ⟨b,12,none⟩ (.bool x.hasQuery)).setCell ⟨b,13,none⟩ (str x.query)).setCell ⟨b,14,none⟩ (.bool x.hasFrag)).setCell ⟨b,15,none⟩ (str x.frag)) b u x:=((((((((h.t0 x.scheme).t1 x.hasHost).t2 x.host).t3 x.path).t4 x.hasQuery).t5 x.query).t6 x.hasFrag).t7 x.frag)
theorem AB.other (h:AB w b u v) {c k:Nat} (hne:c≠b) (x:Value):AB (w.setCell ⟨c,k,none⟩ x) b u v:=by
 unfold AB at h ⊢
 rw [← h]
 simp only [World.setCell,Array.getElem?_modify]
 rw [if_neg hne]
end
theorem below_fill1 {C:Nat} {w0 w:World} {b:Nat} (h:Below C w0 w) (hC:C≤b) (v0 v1 v2 v3 v4 v5 v6 v7:Value) (k0 k1 k2 k3 k4 k5 k6 k7:Nat):Below C w0 ((((((((w.setCell ⟨b,k0,none⟩ v0).setCell ⟨b,k1,none⟩ v1).setCell ⟨b,k2,none⟩ v2).setCell ⟨b,k3,none⟩ v3).setCell ⟨b,k4,none⟩ v4).setCell ⟨b,k5,none⟩ v5).setCell ⟨b,k6,none⟩ v6).setCell ⟨b,k7,none⟩ v7):=
 (((((((h.setCell hC _).setCell hC _).setCell hC _).setCell hC _).setCell hC _).setCell hC _).setCell hC _).setCell hC _
def LedRes (r:List UInt8) (w:World) (e:Ending) (w':World):Prop:=e = .returned (str r)∧Below w.heap.size w w'
theorem Led_any (f t:List UInt8) (w:World) (hM:MaxLenOk w) (hf:f.length≤maxLen) (ht:t.length≤maxLen) :
 Calls Tryz.prog 31 #[str f,str t] w (LedRes (ledB f t) w):=by
 obtain⟨W,hW⟩:∃ W,W=w.alloc (.cells #[.string ⟨#[]⟩,.bool false,.string ⟨#[]⟩,.string ⟨#[]⟩,.bool false,.string ⟨#[]⟩,.bool false,.string ⟨#[]⟩,.string ⟨#[]⟩,.bool false,.string ⟨#[]⟩,.string ⟨#[]⟩,.bool false,.string ⟨#[]⟩,.bool false,.string ⟨#[]⟩] 104):=⟨_,rfl⟩
 have hB:AB W w.heap.size zeroU zeroU:=by rw [hW];exact AB.new w zeroU zeroU
 have hbW:Below w.heap.size w W:=by rw [hW];exact(Below.refl _ _).alloc (Nat.le_refl _) _
 obtain⟨rr,hrr⟩:∃ rr,rr=ledB f t:=⟨_,rfl⟩
 rw [← hrr]
 have HRR:=Lib.hid hrr
 clear hrr
 have ix0:∀ X:World,(Instr.index 105 (.agg #[str f,str t]) (.int .i64 0)).run Tryz.prog X = .ok (str f) X:=fun _=>by kernel_rfl
 have ix1:∀ X:World,(Instr.index 105 (.agg #[str f,str t]) (.int .i64 1)).run Tryz.prog X = .ok (str t) X:=fun _=>by kernel_rfl
 have KF:=Lib.hid (fun X=>Parse_any f X hf)
 have KT:=Lib.hid (fun X=>Parse_any t X ht)
 have KL:=Lib.hid (fun X (h:MaxLenOk X)=>Lead_parts (readU f).1 (readU t).1 X h)
 have KP:=Lib.hid (fun X=>PrintV (leadU (readU f).1 (readU t).1).1 X)
 have HM:=Lib.hid hM
 unfold ledB at HRR
 generalize readU f=F at *
 generalize readU t=T at *
 obtain⟨fu,fe⟩:=F
 obtain⟨tu,te⟩:=T
 simp only at HRR KL KP KF KT
 generalize leadU fu tu=L at *
 obtain⟨lu,le⟩:=L
 simp only at HRR KL KP
 generalize printU lu=PP at *
 obtain⟨pp,pe⟩:=PP
 simp only at HRR KP
 clear hM hf ht
 simp only [UrlD.val] at KF KT KL KP
 go_enter Tryz.func31,Tryz.ntmps31
 go_wp2_with fail
 rw [← hW]
 clear hW
 go_loopw [4,17] (fun sv iv wr=>sv = .string ⟨#[]⟩∧∃ i:Nat,i≤2∧iv = .int .i64 i∧Below w.heap.size w wr∧(∃ x y,AB wr w.heap.size x y∧Hid (1≤i→x=fu∧fe=0)∧Hid (2≤i→y=tu∧te=0))) (fun _ iv _=>2 - (intOf iv).toNat)
 case atStart=>exact⟨rfl,0,by omega,rfl,hbW,zeroU,zeroU,hB,fun h=>absurd h (by omega),fun h=>absurd h (by omega)⟩
 case round =>
  obtain⟨rfl,i,hi,rfl,hbel,x,y,hAB,hk1,hk2⟩:=hrel
  rcases(by omega:i=0∨i=1∨i=2) with rfl | rfl | rfl
  · go_wp2_with fail
    refine(KF.out _).mono ?_
    rintro e w1 ⟨rfl,hb1⟩
    have hAB1:=hAB.below hb1
    have hbel1:=hbel.trans (hb1.mono hbel.size)
    clear hAB hb1 hbel
    by_cases hc:fe=0
    · have hcc:=Lib.hid hc
      have ez:((fe:Int) != 0)=false:=by rw [hc];rfl
      rw [hc]
      clear hc ez
      go_upto_region 6 with fail
      obtain⟨W1,hW1⟩:∃ W1,W1=w1.alloc (.cells #[str fu.scheme,.bool fu.hasHost,str fu.host,str fu.path,.bool fu.hasQuery,str fu.query,.bool fu.hasFrag,str fu.frag] 103):=⟨_,rfl⟩
      have hbA:Below w1.heap.size w1 W1:=by rw [hW1];exact(Below.refl _ _).alloc (Nat.le_refl _) _
      have hUB:UB W1 w1.heap.size fu:=by rw [hW1];exact UB.new w1 fu
      rw [← hW1]
      clear hW1
      have⟨c0,c1,c2,c3,c4,c5,c6,c7⟩:=hUB.box
      have hAB2:=hAB1.below hbA
      have hbel2:=hbel1.trans (hbA.mono hbel1.size)
      have⟨y0,y1,y2,y3,y4,y5,y6,y7⟩:=hAB2.box
      have hfz:=hAB2.fz
      have f0:=hfz 0
      have f1:=hfz 1
      have f2:=hfz 2
      have f3:=hfz 3
      have f4:=hfz 4
      have f5:=hfz 5
      have f6:=hfz 6
      have f7:=hfz 7
      have HFB:=Lib.hid (And.intro (below_fill1 hbel2 (Nat.le_refl _) (str fu.scheme) (.bool fu.hasHost) (str fu.host) (str fu.path) (.bool fu.hasQuery) (str fu.query) (.bool fu.hasFrag) (str fu.frag) 0 1 2 3 4 5 6 7) (hAB2.fill1 fu))
      clear hAB2 hbA hbel2 hAB1 hUB hfz
      go_upto_region 9 with fail
      clear f0 f1 f2 f3 f4 f5 f6 f7 c0 c1 c2 c3 c4 c5 c6 c7 y0 y1 y2 y3 y4 y5 y6 y7
      generalize World.setCell _ _ _=wz at HFB ⊢
      go_wp2_with fail
      exact⟨⟨rfl,1,by omega,rfl,HFB.out.1,_,_,HFB.out.2,fun _=>⟨rfl,hcc.out⟩,fun h=>absurd h (by omega)⟩,by simp [intOf]⟩
    · have ekk:((fe:Int) != 0)=true:=by simp;omega
      have hrr:=HRR.out
      rw [if_pos hc] at hrr
      have HRR2:=Lib.hid hrr
      clear hrr HRR
      go_wp2_with fail
      go_ret
      have hrr:=HRR2.out
      subst hrr
      exact⟨rfl,hbel1.alloc hbel1.size _⟩
  · go_wp2_with fail
    refine(KT.out _).mono ?_
    rintro e w1 ⟨rfl,hb1⟩
    have hAB1:=hAB.below hb1
    have hbel1:=hbel.trans (hb1.mono hbel.size)
    clear hAB hb1 hbel
    by_cases hc:te=0
    · have hcc:=Lib.hid hc
      have ez:((te:Int) != 0)=false:=by rw [hc];rfl
      rw [hc]
      clear hc ez
      go_upto_region 6 with fail
      obtain⟨W1,hW1⟩:∃ W1,W1=w1.alloc (.cells #[str tu.scheme,.bool tu.hasHost,str tu.host,str tu.path,.bool tu.hasQuery,str tu.query,.bool tu.hasFrag,str tu.frag] 103):=⟨_,rfl⟩
      have hbA:Below w1.heap.size w1 W1:=by rw [hW1];exact(Below.refl _ _).alloc (Nat.le_refl _) _
      have hUB:UB W1 w1.heap.size tu:=by rw [hW1];exact UB.new w1 tu
      rw [← hW1]
      clear hW1
      have⟨c0,c1,c2,c3,c4,c5,c6,c7⟩:=hUB.box
      have hAB2:=hAB1.below hbA
      have hbel2:=hbel1.trans (hbA.mono hbel1.size)
      have⟨y0,y1,y2,y3,y4,y5,y6,y7⟩:=hAB2.box2
      have hfz:=hAB2.fz
      have f0:=hfz 8
      have f1:=hfz 9
      have f2:=hfz 10
      have f3:=hfz 11
      have f4:=hfz 12
      have f5:=hfz 13
      have f6:=hfz 14
      have f7:=hfz 15
      have HFB:=Lib.hid (And.intro (below_fill1 hbel2 (Nat.le_refl _) (str tu.scheme) (.bool tu.hasHost) (str tu.host) (str tu.path) (.bool tu.hasQuery) (str tu.query) (.bool tu.hasFrag) (str tu.frag) 8 9 10 11 12 13 14 15) (hAB2.fill2 tu))
      clear hAB2 hbA hbel2 hAB1 hUB hfz
      go_upto_region 9 with fail
      clear f0 f1 f2 f3 f4 f5 f6 f7 c0 c1 c2 c3 c4 c5 c6 c7 y0 y1 y2 y3 y4 y5 y6 y7
      generalize World.setCell _ _ _=wz at HFB ⊢
      go_wp2_with fail
      exact⟨⟨rfl,2,by omega,rfl,HFB.out.1,_,_,HFB.out.2,fun _=>hk1 (by omega),fun _=>⟨rfl,hcc.out⟩⟩,by simp [intOf]⟩
    · have ekk:((te:Int) != 0)=true:=by simp;omega
      have hrr:=HRR.out
      rw [if_neg (by simp [(hk1 (by omega)).2]),if_pos hc] at hrr
      have HRR2:=Lib.hid hrr
      clear hrr HRR
      go_wp2_with fail
      go_ret
      have hrr:=HRR2.out
      subst hrr
      exact⟨rfl,hbel1.alloc hbel1.size _⟩
  · obtain⟨rfl,rfl⟩:=hk1 (by omega)
    obtain⟨rfl,rfl⟩:=hk2 (by omega)
    have hrr:=HRR.out
    simp only [ne_eq,not_true_eq_false,if_false] at hrr
    have⟨c0,c1,c2,c3,c4,c5,c6,c7⟩:=hAB.box
    have⟨d0,d1,d2,d3,d4,d5,d6,d7⟩:=hAB.box2
    clear HRR
    have HRR:=Lib.hid hrr
    clear hrr
    go_wp2_with fail
    refine(KL.out _ (HM.out.below hbel)).mono ?_
    rintro e w1 ⟨rfl,hb1⟩
    have hbel1:=hbel.trans (hb1.mono hbel.size)
    clear c0 c1 c2 c3 c4 c5 c6 c7 d0 d1 d2 d3 d4 d5 d6 d7 hb1
    by_cases hc:le=0
    · have hcc:=Lib.hid hc
      subst hc
      have hrr:=HRR.out
      simp only [not_true_eq_false,if_false] at hrr
      have hbA:=(Below.refl w1.heap.size w1).alloc (Nat.le_refl _) (.cells #[str lu.scheme,.bool lu.hasHost,str lu.host,str lu.path,.bool lu.hasQuery,str lu.query,.bool lu.hasFrag,str lu.frag] 103)
      have hbel2:=hbel1.trans (hbA.mono hbel1.size)
      have HRR2:=Lib.hid hrr
      clear hrr HRR
      go_wp2_with fail
      refine(KP.out _).mono ?_
      rintro e w2 ⟨rfl,hb2⟩
      have hbel3:=hbel2.trans (hb2.mono hbel2.size)
      go_wp2_with fail
      go_ret
      have hrr:=HRR2.out
      subst hrr
      exact⟨rfl,hbel3⟩
    · have ekk:((le:Int) != 0)=true:=by simp;omega
      have hrr:=HRR.out
      rw [if_pos hc] at hrr
      have HRR2:=Lib.hid hrr
      clear hrr HRR
      go_wp2_with fail
      go_ret
      have hrr:=HRR2.out
      subst hrr
      exact⟨rfl,hbel1.alloc hbel1.size _⟩
theorem cloInfoPart:(Tryz.prog.info? 25).map (fun i=>(i.zero,i.size,i.bytes))=some (some (Value.agg #[.string ⟨#[]⟩,.string ⟨#[]⟩,.string ⟨#[]⟩,.string ⟨#[]⟩,.int .i64 0,.slice none 0 0,.slice none 0 0]),7,120):=by kernel_rfl
def CloResPart (xs:List Value) (n:Nat) (w:World) (e:Ending) (w':World):Prop:=∃ S c,e = .returned (.slice S n c)∧w'.ownsRow w.heap.size 25 7 (.slice S n c) n xs∧Below w.heap.size w w'
theorem Clone_Part (A:Option Addr) (n c B:Nat) (xs:List Value) (w:World) (hx:Sl w B 7 A n xs) (hB:B≤w.heap.size) (h1x:∀ u∈xs,u.oneCell'=true) (hn:n≤1000000000) :
 Calls Tryz.prog 36 #[.slice A n c] w (CloResPart xs n w):=by
 obtain⟨i0,hi,hz0,hz1,hz2⟩:=info_parts cloInfoPart
 have hnil:∀ (w:World) (a:Option Addr) (n c n' c':Nat),(binOp .eql 23 (.slice a n c) (.slice none n' c')).run Tryz.prog w = .ok (.bool a.isNone) w:=fun w a n c n' c'=>Lib.run_eql_slice_nil w _ _ a n c n' c' Tryz.underlying23
 cases A with
 | none =>
  have hn0:n=0:=by
   rcases Nat.eq_zero_or_pos n with h | h
   · exact h
   · obtain⟨_,_,h',_⟩:=hx.2 h;cases h'
  subst hn0
  have hx0:xs = []:=List.eq_nil_of_length_eq_zero (by simpa using hx.1)
  subst hx0
  clear hx h1x
  go_enter Tryz.func36,Tryz.ntmps36
  go_wp2_with fail
  go_ret
  exact⟨none,0,rfl,World.ownsRow_nil _ _ _ _,Below.refl _ _⟩
 | some a =>
  have hW:Below w.heap.size w (w.alloc (.cells #[] 25)):=(Below.refl _ w).alloc (Nat.le_refl _) _
  have hxW:=hx.belowN hW hB
  have hown:=World.ownsRow_made (base:=w.heap.size) (e:=25) (size:=7) w #[] 0 (Nat.le_refl _) (Nat.zero_le _) rfl
  have H1:=Lib.hid h1x
  have h63:0+n≤maxLen:=by unfold maxLen;omega
  have h47:(0+n) * 120≤140737488355328:=by omega
  clear hx h1x
  go_enter Tryz.func36,Tryz.ntmps36
  go_wp2_with (at_builtin;refine wpList_app rfl _ _ 23 rfl w.heap.size 25 i0 (Value.agg #[.string ⟨#[]⟩,.string ⟨#[]⟩,.string ⟨#[]⟩,.string ⟨#[]⟩,.int .i64 0,.slice none 0 0,.slice none 0 0]) 7 120 Tryz.underlying23 hi hz0 hz1 hz2 rfl (by decide) _ 0 0 [] rfl hown _ (some a) n c xs rfl hxW H1.out h63 h47 hW.size ?_)
  intro S' c' w4 hown4 hb4 _
  go_wp2_with fail
  go_ret
  refine⟨S',c',by simp,?_,hW.trans hb4⟩
  simpa using hown4
theorem cloInfobyte:(Tryz.prog.info? 5).map (fun i=>(i.zero,i.size,i.bytes))=some (some (Value.int .u8 0),1,1):=by kernel_rfl
def CloResbyte (xs:List Value) (n:Nat) (w:World) (e:Ending) (w':World):Prop:=∃ S c,e = .returned (.slice S n c)∧w'.ownsRow w.heap.size 5 1 (.slice S n c) n xs∧Below w.heap.size w w'
theorem Clone_byte (A:Option Addr) (n c B:Nat) (xs:List Value) (w:World) (hx:Sl w B 1 A n xs) (hB:B≤w.heap.size) (h1x:∀ u∈xs,u.oneCell'=true) (hn:n≤1000000000) :
 Calls Tryz.prog 13 #[.slice A n c] w (CloResbyte xs n w):=by
 obtain⟨i0,hi,hz0,hz1,hz2⟩:=info_parts cloInfobyte
 have hnil:∀ (w:World) (a:Option Addr) (n c n' c':Nat),(binOp .eql 22 (.slice a n c) (.slice none n' c')).run Tryz.prog w = .ok (.bool a.isNone) w:=fun w a n c n' c'=>Lib.run_eql_slice_nil w _ _ a n c n' c' Tryz.underlying22
 cases A with
 | none =>
  have hn0:n=0:=by
   rcases Nat.eq_zero_or_pos n with h | h
   · exact h
   · obtain⟨_,_,h',_⟩:=hx.2 h;cases h'
  subst hn0
  have hx0:xs = []:=List.eq_nil_of_length_eq_zero (by simpa using hx.1)
  subst hx0
  clear hx h1x
  go_enter Tryz.func13,Tryz.ntmps13
  go_wp2_with fail
  go_ret
  exact⟨none,0,rfl,World.ownsRow_nil _ _ _ _,Below.refl _ _⟩
 | some a =>
  have hW:Below w.heap.size w (w.alloc (.cells #[] 5)):=(Below.refl _ w).alloc (Nat.le_refl _) _
  have hxW:=hx.belowN hW hB
  have hown:=World.ownsRow_made (base:=w.heap.size) (e:=5) (size:=1) w #[] 0 (Nat.le_refl _) (Nat.zero_le _) rfl
  have H1:=Lib.hid h1x
  have h63:0+n≤maxLen:=by unfold maxLen;omega
  have h47:(0+n) * 1≤140737488355328:=by omega
  clear hx h1x
  go_enter Tryz.func13,Tryz.ntmps13
  go_wp2_with (at_builtin;refine wpList_app rfl _ _ 22 rfl w.heap.size 5 i0 (Value.int .u8 0) 1 1 Tryz.underlying22 hi hz0 hz1 hz2 rfl (by decide) _ 0 0 [] rfl hown _ (some a) n c xs rfl hxW H1.out h63 h47 hW.size ?_)
  intro S' c' w4 hown4 hb4 _
  go_wp2_with fail
  go_ret
  refine⟨S',c',by simp,?_,hW.trans hb4⟩
  simpa using hown4
end Go.Proofs.YtlgbopjhmemaoaaGreatDoor
