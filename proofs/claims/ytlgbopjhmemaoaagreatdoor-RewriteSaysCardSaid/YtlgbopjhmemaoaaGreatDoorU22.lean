import Derived.Test.YtlgbopjhmemaoaaGreatDoorU19
import Derived.Test.YtlgbopjhmemaoaaGreatDoorU21
import Derived.Test.YtlgbopjhmemaoaaGreatDoorU7
import Derived.Test.YtlgbopjhmemaoaaGreatDoorU10
import Derived.Test.YtlgbopjhmemaoaaGreatDoorU2
import Derived.Test.YtlgbopjhmemaoaaGreatDoorU12
import Derived.Test.YtlgbopjhmemaoaaGreatDoorU13
import Derived.Test.YtlgbopjhmemaoaaGreatDoorU14
import Derived.Test.YtlgbopjhmemaoaaGreatDoorU11
set_option maxRecDepth 100000
set_option maxHeartbeats 40000000
namespace Go.Proofs.YtlgbopjhmemaoaaGreatDoor
open Go.RowKit
section
variable {w W W':World} {b u r x:UrlD}
theorem LB.drew (h:LB w W b u r):LB w W.drew b u r:=⟨h.bel.drew,h.bas,h.rel,h.res⟩
theorem LB.r0 (h:LB w W b u r) (v:List UInt8):LB w (W.setCell ⟨w.heap.size+1,0,none⟩ (str v)) b { u with scheme:=v } r:=⟨h.bel.setCell (by show w.heap.size≤w.heap.size+1;omega) _,h.bas.other (by omega) _,h.rel.s0 v,h.res.other (by omega) _⟩
theorem LB.r1 (h:LB w W b u r) (v:Bool):LB w (W.setCell ⟨w.heap.size+1,1,none⟩ (.bool v)) b { u with hasHost:=v } r:=⟨h.bel.setCell (by show w.heap.size≤w.heap.size+1;omega) _,h.bas.other (by omega) _,h.rel.s1 v,h.res.other (by omega) _⟩
theorem LB.r2 (h:LB w W b u r) (v:List UInt8):LB w (W.setCell ⟨w.heap.size+1,2,none⟩ (str v)) b { u with host:=v } r:=⟨h.bel.setCell (by show w.heap.size≤w.heap.size+1;omega) _,h.bas.other (by omega) _,h.rel.s2 v,h.res.other (by omega) _⟩
theorem LB.r3 (h:LB w W b u r) (v:List UInt8):LB w (W.setCell ⟨w.heap.size+1,3,none⟩ (str v)) b { u with path:=v } r:=⟨h.bel.setCell (by show w.heap.size≤w.heap.size+1;omega) _,h.bas.other (by omega) _,h.rel.s3 v,h.res.other (by omega) _⟩
theorem LB.r4 (h:LB w W b u r) (v:Bool):LB w (W.setCell ⟨w.heap.size+1,4,none⟩ (.bool v)) b { u with hasQuery:=v } r:=⟨h.bel.setCell (by show w.heap.size≤w.heap.size+1;omega) _,h.bas.other (by omega) _,h.rel.s4 v,h.res.other (by omega) _⟩
theorem LB.r5 (h:LB w W b u r) (v:List UInt8):LB w (W.setCell ⟨w.heap.size+1,5,none⟩ (str v)) b { u with query:=v } r:=⟨h.bel.setCell (by show w.heap.size≤w.heap.size+1;omega) _,h.bas.other (by omega) _,h.rel.s5 v,h.res.other (by omega) _⟩
end
theorem LastIndex_any (l:List UInt8) (w:World) (hl:l.length≤1000000):Calls Tryz.prog 141 #[str l,.string ⟨#[47]⟩] w fun e w'=>e = .returned (.int .i64 (Lib.lastIndexByte ⟨l.toArray⟩ 47))∧w=w':=by
 refine(Go.Proofs.Tryz.strings_LastIndex_one ⟨l.toArray⟩ ⟨#[47]⟩ rfl (by simp [ByteArray.size];omega) w).mono ?_
 rintro e w' ⟨rfl,rfl⟩
 exact⟨rfl,rfl⟩
theorem bad2_any (k:Nat) (w:World):Calls Tryz.prog 140 #[.int .i64 (k:Nat)] w fun e w'=>e = .returned (.tuple #[.agg #[str [],.bool false,str [],str [],.bool false,str [],.bool false,str []],.int .i64 (k:Nat)])∧Below w.heap.size w w':=by
 go_enter Tryz.func140,Tryz.ntmps140
 go_wp2_with fail
 refine bodyPost_ret (v:=.tuple #[.agg #[str [],.bool false,str [],str [],.bool false,str [],.bool false,str []],.int .i64 (k:Nat)]) (by simp [results,Tryz.results140,go_sem];rfl) rfl ⟨rfl,?_⟩
 exact(Below.refl _ w).alloc (Nat.le_refl _) _
theorem RLedTo_any (b u:UrlD) (w:World) (hM:MaxLenOk w) :
 Calls Tryz.prog 90 #[b.val,u.val] w fun e w'=>e = .returned (.tuple #[(leadU b u).1.val,.int .i64 ((leadU b u).2:Nat)])∧Below w.heap.size w w':=by
 obtain⟨W,hW⟩:∃ W,W=((w.alloc (.cells #[str b.scheme,.bool b.hasHost,str b.host,str b.path,.bool b.hasQuery,str b.query,.bool b.hasFrag,str b.frag] 103)).alloc (.cells #[str u.scheme,.bool u.hasHost,str u.host,str u.path,.bool u.hasQuery,str u.query,.bool u.hasFrag,str u.frag] 103)).alloc (.cells #[.string ⟨#[]⟩,.bool false,.string ⟨#[]⟩,.string ⟨#[]⟩,.bool false,.string ⟨#[]⟩,.bool false,.string ⟨#[]⟩] 103):=⟨_,rfl⟩
 have hB:LB w W b u zeroU:=by rw [hW];exact LB.start w b u
 obtain⟨rr,hrr⟩:∃ rr,rr=leadU b u:=⟨_,rfl⟩
 rw [← hrr]
 have HRR:=Lib.hid hrr
 clear hrr
 have hvb:b.val = .agg #[str b.scheme,.bool b.hasHost,str b.host,str b.path,.bool b.hasQuery,str b.query,.bool b.hasFrag,str b.frag]:=rfl
 have hvu:u.val = .agg #[str u.scheme,.bool u.hasHost,str u.host,str u.path,.bool u.hasQuery,str u.query,.bool u.hasFrag,str u.frag]:=rfl
 rw [hvb,hvu]
 clear hvb hvu
 have KE:=Lib.hid (fun k X=>bad2_any k X)
 have KB:=Lib.hid (fun X (h:MaxLenOk X)=>RCheck_any b.scheme b.host b.path b.query b.frag b.hasHost b.hasQuery b.hasFrag X h)
 have KU:=Lib.hid (fun X (h:MaxLenOk X)=>RCheck_any u.scheme u.host u.path u.query u.frag u.hasHost u.hasQuery u.hasFrag X h)
 have eb:(⟨b.scheme,b.hasHost,b.host,b.path,b.hasQuery,b.query,b.hasFrag,b.frag⟩:UrlD)=b:=rfl
 have eu:(⟨u.scheme,u.hasHost,u.host,u.path,u.hasQuery,u.query,u.hasFrag,u.frag⟩:UrlD)=u:=rfl
 rw [eb] at KB
 rw [eu] at KU
 clear eb eu
 have HM:=Lib.hid hM
 clear hM
 go_enter Tryz.func90,Tryz.ntmps90
 go_wp2_with fail
 rw [← hW]
 clear hW
 refine(KB.out _ (HM.out.below hB.bel)).mono ?_
 rintro e w1 ⟨rfl,hb1⟩
 have hL:=hB.below hb1
 clear hB hb1
 by_cases hcb:checkU b=0
 · rw [hcb]
   have Hcb:=Lib.hid hcb
   clear hcb
   obtain⟨u0,u1,u2,u3,u4,u5,u6,u7⟩:=hL.rel.box
   go_wp2_with fail
   clear u0 u1 u2 u3 u4 u5 u6 u7
   refine(KU.out _ (HM.out.below hL.bel)).mono ?_
   rintro e w2 ⟨rfl,hb2⟩
   have hC:=hL.below hb2
   clear hL hb2
   by_cases hcu:checkU u=0
   · rw [hcu]
     have Hcu:=Lib.hid hcu
     clear hcu
     have hlb:=check_text Hcb.out
     have hlu:=check_text Hcu.out
     have hrr1:rr=if b.scheme = [] then (zeroU,4) else endU (undotU (ledU b u)):=by rw [HRR.out];unfold leadU;rw [if_neg (by rw [Hcb.out];simp),if_neg (by rw [Hcu.out];simp)]
     have HR1:=Lib.hid hrr1
     have HLB:=Lib.hid hlb
     have HLU:=Lib.hid hlu
     clear hlb hlu hrr1 HRR KB KU
     generalize w2=w1' at hC ⊢
     by_cases hbs:b.scheme = []
     · have ebs:(b.scheme == [])=true:=by rw [hbs];rfl
       have hrr2:rr=(zeroU,4):=by rw [HR1.out,if_pos hbs]
       have HRR2:=Lib.hid hrr2
       have b0:=hC.bas.box.1
       clear hrr2 hbs
       go_wp2_with fail
       clear b0
       refine(KE.out 4 _).mono ?_
       rintro e wZ ⟨rfl,hbZ⟩
       have hLZ:=hC.below hbZ
       obtain⟨y0,y1,y2,y3,y4,y5,y6,y7⟩:=hLZ.res.box
       obtain⟨f0,f1,f2,f3,f4,f5,f6,f7⟩:=hLZ.fzr
       have HF:=Lib.hid (hLZ.fill zeroU)
       clear hLZ hbZ hC
       go_wp2_with fail
       clear y0 y1 y2 y3 y4 y5 y6 y7 f0 f1 f2 f3 f4 f5 f6 f7
       generalize hwz:World.setCell _ _ _=wz
       have hPz2:=HF.out
       simp only [zeroU] at hPz2
       rw [hwz] at hPz2
       obtain⟨c0,c1,c2,c3,c4,c5,c6,c7⟩:=hPz2.res.box
       have hrr:=HRR2.out
       subst hrr
       refine bodyPost_ret (v:=.tuple #[zeroU.val,.int .i64 (4:Nat)]) (by simp [results,Tryz.results90,go_sem,c0,c1,c2,c3,c4,c5,c6,c7];try rfl) rfl ⟨rfl,hPz2.bel⟩
     · have ebs:(b.scheme == [])=false:=by simpa using hbs
       have hrr2:rr=endU (undotU (ledU b u)):=by rw [HR1.out,if_neg hbs]
       have HR2:=Lib.hid hrr2
       have b0:=hC.bas.box.1
       clear hrr2 hbs HR1
       have u0:=hC.rel.box.1
       go_upto_if 39 with (fail)
       generalize hes:u.scheme.isEmpty=es
       have HES:=Lib.hid hes
       clear b0 ebs u0 hes
       go_cut [9] (fun _ wx=>LB w wx b (ledU b u) zeroU)
       case first =>
        obtain⟨u0,u1,u2,u3,u4,u5,u6,u7⟩:=hC.rel.box
        clear u1 u2 u3 u4 u5 u6 u7
        cases es
        case' true =>
         have hus:u.scheme = []:=by simpa using HES.out
         have HU1:=Lib.hid hus
         clear hus
         have b0:=hC.bas.box.1
         have yy:=hC.rel.box.1
         have ff:=hC.rel.fz 0
         have HN:=Lib.hid (hC.r0 b.scheme)
         clear hC
         go_upto_region 12 with fail
         clear yy ff
         generalize hgw:World.setCell w1' _ _=wA
         have hC:=HN.out
         rw [hgw] at hC
         clear hgw HN
         clear u0 b0
         have u1:wA.cell? ⟨w.heap.size+1,1,none⟩=some (.bool u.hasHost):=hC.rel.box.2.1
         obtain⟨bh,hbh⟩:∃ x,x=u.hasHost:=⟨_,rfl⟩
         rw [← hbh] at u1
         have HU2:=Lib.hid hbh.symm
         clear hbh
         cases bh
         · go_wp2_with fail
           clear u1
           refine wp_region_held (S:=fun W'=>∃ x,LB w W' b x zeroU) (by kernel_rfl) ?_
           change wpAnyH _ _ _ _ _ _ _ _ (World.drew wA)
           have hQ:=hC.drew
           generalize hgw:World.drew wA=wAd at hQ ⊢
           have hS:∃ x,LB w wAd b x zeroU:=⟨_,hQ⟩
           clear hgw hC
           refine tkH (i:=0) (v:=?_) rfl ?_ hS ?_
           rotate_left 1
           · intro W' hb;go_simp;try exact rfl
           refine tkH (i:=1) (v:=?_) rfl ?_ hS ?_
           rotate_left 1
           · intro W' hb;obtain⟨xx,hxx⟩:=hb;obtain⟨b0,b1,b2,b3,b4,b5,b6,b7⟩:=hxx.bas.box;go_simp;try exact rfl
           refine tkH (i:=2) (v:=?_) rfl ?_ hS ?_
           rotate_left 1
           · intro W' hb;go_simp;try exact rfl
           refine tkH (i:=3) (v:=?_) rfl ?_ hS ?_
           rotate_left 1
           · intro W' hb;obtain⟨xx,hxx⟩:=hb;obtain⟨b0,b1,b2,b3,b4,b5,b6,b7⟩:=hxx.bas.box;go_simp;try exact rfl
           refine tkH (i:=4) (v:=?_) rfl ?_ hS ?_
           rotate_left 1
           · intro W' hb;go_simp;try exact rfl
           refine wpAnyH_all (rs:=[5]) (by kernel_rfl) (by simp) ?_
           intro kk hkk
           simp only [List.mem_singleton] at hkk
           subst hkk
           go_simp
           have yy:=hQ.rel.box.2.1
           have ff:=hQ.rel.fz 1
           refine wpOp_store rfl (by kernel_rfl) (World.setCell wAd ⟨w.heap.size+1,1,none⟩ (.bool b.hasHost)) (by go_simp) ?_
           have hQ:=hQ.r1 b.hasHost
           generalize hgw:World.setCell wAd ⟨w.heap.size+1,1,none⟩ (.bool b.hasHost)=wAd' at hQ ⊢
           have hS:∃ x,LB w wAd' b x zeroU:=⟨_,hQ⟩
           clear hgw yy ff
           refine⟨hS,?_⟩
           refine tkH (i:=6) (v:=?_) rfl ?_ hS ?_
           rotate_left 1
           · intro W' hb;go_simp;try exact rfl
           refine wpAnyH_all (rs:=[7]) (by kernel_rfl) (by simp) ?_
           intro kk hkk
           simp only [List.mem_singleton] at hkk
           subst hkk
           go_simp
           have yy:=hQ.rel.box.2.2.1
           have ff:=hQ.rel.fz 2
           refine wpOp_store rfl (by kernel_rfl) (World.setCell wAd' ⟨w.heap.size+1,2,none⟩ (str b.host)) (by go_simp) ?_
           have hQ:=hQ.r2 b.host
           generalize hgw:World.setCell wAd' ⟨w.heap.size+1,2,none⟩ (str b.host)=wAd'' at hQ ⊢
           have hS:∃ x,LB w wAd'' b x zeroU:=⟨_,hQ⟩
           clear hgw yy ff
           refine⟨hS,?_⟩
           refine wpAnyH_done (by kernel_rfl) ?_ _
           go_simp
           have hC:=hQ
           clear hQ hS
           generalize wAd''=wA2 at hC ⊢
           have u3:wA2.cell? ⟨w.heap.size+1,3,none⟩=some (str u.path):=hC.rel.box.2.2.2.1
           by_cases hup:u.path = []
           · have eup:(u.path == [])=true:=by rw [hup];rfl
             have HU3:=Lib.hid hup
             clear hup
             have b3:=hC.bas.box.2.2.2.1
             have yy:=hC.rel.box.2.2.2.1
             have ff:=hC.rel.fz 3
             have HN:=Lib.hid (hC.r3 b.path)
             clear hC
             go_upto_region 16 with fail
             clear yy ff
             generalize hgw:World.setCell wA2 _ _=wE
             have hC:=HN.out
             rw [hgw] at hC
             clear hgw HN
             clear b3 u3
             have u4:wE.cell? ⟨w.heap.size+1,4,none⟩=some (.bool u.hasQuery):=hC.rel.box.2.2.2.2.1
             obtain⟨bq,hbq⟩:∃ x,x=u.hasQuery:=⟨_,rfl⟩
             rw [← hbq] at u4
             have HU4:=Lib.hid hbq.symm
             clear hbq
             cases bq
             · go_wp2_with fail
               clear u4
               refine wp_region_held (S:=fun W'=>∃ x,LB w W' b x zeroU) (by kernel_rfl) ?_
               change wpAnyH _ _ _ _ _ _ _ _ (World.drew wE)
               have hQ:=hC.drew
               generalize hgw:World.drew wE=wEd at hQ ⊢
               have hS:∃ x,LB w wEd b x zeroU:=⟨_,hQ⟩
               clear hgw hC
               refine tkH (i:=0) (v:=?_) rfl ?_ hS ?_
               rotate_left 1
               · intro W' hb;go_simp;try exact rfl
               refine tkH (i:=1) (v:=?_) rfl ?_ hS ?_
               rotate_left 1
               · intro W' hb;obtain⟨xx,hxx⟩:=hb;obtain⟨b0,b1,b2,b3,b4,b5,b6,b7⟩:=hxx.bas.box;go_simp;try exact rfl
               refine tkH (i:=2) (v:=?_) rfl ?_ hS ?_
               rotate_left 1
               · intro W' hb;go_simp;try exact rfl
               refine tkH (i:=3) (v:=?_) rfl ?_ hS ?_
               rotate_left 1
               · intro W' hb;obtain⟨xx,hxx⟩:=hb;obtain⟨b0,b1,b2,b3,b4,b5,b6,b7⟩:=hxx.bas.box;go_simp;try exact rfl
               refine tkH (i:=4) (v:=?_) rfl ?_ hS ?_
               rotate_left 1
               · intro W' hb;go_simp;try exact rfl
               refine wpAnyH_all (rs:=[5]) (by kernel_rfl) (by simp) ?_
               intro kk hkk
               simp only [List.mem_singleton] at hkk
               subst hkk
               go_simp
               have yy:=hQ.rel.box.2.2.2.2.1
               have ff:=hQ.rel.fz 4
               refine wpOp_store rfl (by kernel_rfl) (World.setCell wEd ⟨w.heap.size+1,4,none⟩ (.bool b.hasQuery)) (by go_simp) ?_
               have hQ:=hQ.r4 b.hasQuery
               generalize hgw:World.setCell wEd ⟨w.heap.size+1,4,none⟩ (.bool b.hasQuery)=wEd' at hQ ⊢
               have hS:∃ x,LB w wEd' b x zeroU:=⟨_,hQ⟩
               clear hgw yy ff
               refine⟨hS,?_⟩
               refine tkH (i:=6) (v:=?_) rfl ?_ hS ?_
               rotate_left 1
               · intro W' hb;go_simp;try exact rfl
               refine wpAnyH_all (rs:=[7]) (by kernel_rfl) (by simp) ?_
               intro kk hkk
               simp only [List.mem_singleton] at hkk
               subst hkk
               go_simp
               have yy:=hQ.rel.box.2.2.2.2.2.1
               have ff:=hQ.rel.fz 5
               refine wpOp_store rfl (by kernel_rfl) (World.setCell wEd' ⟨w.heap.size+1,5,none⟩ (str b.query)) (by go_simp) ?_
               have hQ:=hQ.r5 b.query
               generalize hgw:World.setCell wEd' ⟨w.heap.size+1,5,none⟩ (str b.query)=wEd'' at hQ ⊢
               have hS:∃ x,LB w wEd'' b x zeroU:=⟨_,hQ⟩
               clear hgw yy ff
               refine⟨hS,?_⟩
               refine wpAnyH_done (by kernel_rfl) ?_ _
               go_simp
               have hC:=hQ
               clear hQ hS
               generalize wEd''=wE2 at hC ⊢
               go_wp2_with fail
               go_meet
               have hled:ledU b u = { u with scheme:=b.scheme,hasHost:=b.hasHost,host:=b.host,path:=b.path,hasQuery:=b.hasQuery,query:=b.query }:=by
                unfold ledU
                rw [if_neg (by rw [HU1.out];simp),HU2.out,if_neg (by simp),if_pos HU3.out,HU4.out,if_neg (by simp)]
               rw [hled]
               exact hC
             · go_wp2_with fail
               clear u4
               go_meet
               have hled:ledU b u = { u with scheme:=b.scheme,hasHost:=b.hasHost,host:=b.host,path:=b.path }:=by
                unfold ledU
                rw [if_neg (by rw [HU1.out];simp),HU2.out,if_neg (by simp),if_pos HU3.out,HU4.out,if_pos rfl]
               rw [hled]
               exact hC
           · have eup:(u.path == [])=false:=by simpa using hup
             have kP:=fun X=>HasPrefix_any u.path [47] X
             have HU3:=Lib.hid hup
             by_cases h47:nth u.path 0=47
             · have HU4:=Lib.hid h47
               rw [prefix_one.2 ⟨hup,h47⟩] at kP
               have KP:=Lib.hid kP
               clear hup kP h47
               go_wp2_with fail
               refine(KP.out _).mono ?_
               rintro e wP ⟨rfl,rfl⟩
               go_wp2_with fail
               go_meet
               have hled:ledU b u = { u with scheme:=b.scheme,hasHost:=b.hasHost,host:=b.host }:=by
                unfold ledU
                rw [if_neg (by rw [HU1.out];simp),HU2.out,if_neg (by simp),if_neg HU3.out,if_pos HU4.out]
               rw [hled]
               exact hC
             · have HU4:=Lib.hid h47
               have hpf:Lib.hasPrefix u.path [47]=false:=by
                cases hpq:Lib.hasPrefix u.path [47] with
                | true=>exact absurd (prefix_one.1 hpq).2 h47
                | false=>rfl
               rw [hpf] at kP
               have KP:=Lib.hid kP
               clear hup kP h47 hpf
               go_wp2_with fail
               refine(KP.out _).mono ?_
               rintro e wP ⟨rfl,rfl⟩
               have b1:=hC.bas.box.2.1
               have b3:=hC.bas.box.2.2.2.1
               have kI:=fun X=>LastIndex_any b.path X (by have:=HLB.out.2.2.1;omega)
               have hmd:=merged_dir b u.path
               have hrg:=lastIdx_range b.path
               obtain⟨k,hk⟩:∃ k,k=Lib.lastIndexByte ⟨b.path.toArray⟩ 47:=⟨_,rfl⟩
               rw [← hk] at kI hmd hrg
               have Hk:=Lib.hid hk
               have KI:=Lib.hid kI
               clear kI hk
               obtain⟨bh,hbh⟩:∃ x,x=b.hasHost:=⟨_,rfl⟩
               rw [← hbh] at b1 hmd
               clear hbh
               by_cases hbp:b.path = []
               · have ebp:(b.path == [])=true:=by rw [hbp];rfl
                 have hk1:k = -1:=by rw [Hk.out,hbp];rfl
                 have d0:decide (0≤k)=false:=by rw [hk1];rfl
                 have d1:¬ (0:Int)≤k:=by omega
                 have d2:k < 0:=by omega
                 rw [ebp] at hmd
                 have Hk1:=Lib.hid hk1
                 have Hbp:=Lib.hid hbp
                 clear hk1 hbp hrg
                 cases bh
                 · have Hd:Hid (([]:List UInt8) ++ u.path=mergedU b u.path):=by show _=_;rw [← hmd,Hbp.out];simp
                   clear hmd
                   have hdl:(([]:List UInt8)).length+u.path.length≤9223372036854775807:=by
                    have:=HLU.out.2.2.1
                    have hl2:(([]:List UInt8)).length≤1000:=by
                     first
                     | decide
                     | (have:=List.length_take_le kn b.path;have:=HLB.out.2.2.1;omega)
                    omega
                   have yy:=hC.rel.box.2.2.2.1
                   have ff:=hC.rel.fz 3
                   have HN:=Lib.hid (hC.r3 (([]:List UInt8) ++ u.path))
                   clear hC
                   go_wp2_with fail
                   refine(KI.out _).mono ?_
                   rintro e wI ⟨rfl,rfl⟩
                   go_wp2_with fail
                   go_meet
                   have hled:ledU b u = { u with scheme:=b.scheme,hasHost:=b.hasHost,host:=b.host,path:=mergedU b u.path }:=by
                    unfold ledU
                    rw [if_neg (by rw [HU1.out];simp),HU2.out,if_neg (by simp),if_neg HU3.out,if_neg HU4.out]
                   rw [hled]
                   exact(by have h:=HN.out;have hd:=Hd.out;rw [← hd];exact h)
                 · have Hd:Hid (([47]:List UInt8) ++ u.path=mergedU b u.path):=by show _=_;rw [← hmd];rfl
                   clear hmd
                   have hdl:(([47]:List UInt8)).length+u.path.length≤9223372036854775807:=by
                    have:=HLU.out.2.2.1
                    have hl2:(([47]:List UInt8)).length≤1000:=by
                     first
                     | decide
                     | (have:=List.length_take_le kn b.path;have:=HLB.out.2.2.1;omega)
                    omega
                   have yy:=hC.rel.box.2.2.2.1
                   have ff:=hC.rel.fz 3
                   have HN:=Lib.hid (hC.r3 (([47]:List UInt8) ++ u.path))
                   clear hC
                   go_wp2_with fail
                   refine(KI.out _).mono ?_
                   rintro e wI ⟨rfl,rfl⟩
                   go_wp2_with fail
                   go_meet
                   have hled:ledU b u = { u with scheme:=b.scheme,hasHost:=b.hasHost,host:=b.host,path:=mergedU b u.path }:=by
                    unfold ledU
                    rw [if_neg (by rw [HU1.out];simp),HU2.out,if_neg (by simp),if_neg HU3.out,if_neg HU4.out]
                   rw [hled]
                   exact(by have h:=HN.out;have hd:=Hd.out;rw [← hd];exact h)
               · have ebp:(b.path == [])=false:=by simpa using hbp
                 rw [ebp] at hmd
                 by_cases h0:0≤k
                 · have d0:decide (0≤k)=true:=decide_eq_true h0
                   have k3:IntKind.i64.wrap (k+1)=k+1:=IntWalk.i64_in _ (by have:=HLB.out.2.2.1;omega)
                   have k4:(0:Int)≤k+1:=by omega
                   have k6:k+1≤(b.path.length:Int):=by omega
                   obtain⟨kn,hkn⟩:∃ kn,kn=(k+1).toNat:=⟨_,rfl⟩
                   have k5:(k+1).toNat=kn:=hkn.symm
                   have hkl:kn≤b.path.length:=by omega
                   have Hd:Hid (b.path.take kn ++ u.path=mergedU b u.path):=by show _=_;rw [← hmd,k5];cases bh <;> rfl
                   clear hmd hkn hrg hbp
                   cases bh
                   · skip
                     have hdl:(b.path.take kn).length+u.path.length≤9223372036854775807:=by
                      have:=HLU.out.2.2.1
                      have hl2:(b.path.take kn).length≤1000:=by
                       first
                       | decide
                       | (have:=List.length_take_le kn b.path;have:=HLB.out.2.2.1;omega)
                      omega
                     have yy:=hC.rel.box.2.2.2.1
                     have ff:=hC.rel.fz 3
                     have HN:=Lib.hid (hC.r3 (b.path.take kn ++ u.path))
                     clear hC
                     go_wp2_with fail
                     refine(KI.out _).mono ?_
                     rintro e wI ⟨rfl,rfl⟩
                     go_wp2_with fail
                     go_meet
                     have hled:ledU b u = { u with scheme:=b.scheme,hasHost:=b.hasHost,host:=b.host,path:=mergedU b u.path }:=by
                      unfold ledU
                      rw [if_neg (by rw [HU1.out];simp),HU2.out,if_neg (by simp),if_neg HU3.out,if_neg HU4.out]
                     rw [hled]
                     exact(by have h:=HN.out;have hd:=Hd.out;rw [← hd];exact h)
                   · skip
                     have hdl:(b.path.take kn).length+u.path.length≤9223372036854775807:=by
                      have:=HLU.out.2.2.1
                      have hl2:(b.path.take kn).length≤1000:=by
                       first
                       | decide
                       | (have:=List.length_take_le kn b.path;have:=HLB.out.2.2.1;omega)
                      omega
                     have yy:=hC.rel.box.2.2.2.1
                     have ff:=hC.rel.fz 3
                     have HN:=Lib.hid (hC.r3 (b.path.take kn ++ u.path))
                     clear hC
                     go_wp2_with fail
                     refine(KI.out _).mono ?_
                     rintro e wI ⟨rfl,rfl⟩
                     go_wp2_with fail
                     go_meet
                     have hled:ledU b u = { u with scheme:=b.scheme,hasHost:=b.hasHost,host:=b.host,path:=mergedU b u.path }:=by
                      unfold ledU
                      rw [if_neg (by rw [HU1.out];simp),HU2.out,if_neg (by simp),if_neg HU3.out,if_neg HU4.out]
                     rw [hled]
                     exact(by have h:=HN.out;have hd:=Hd.out;rw [← hd];exact h)
                 · have d0:decide (0≤k)=false:=decide_eq_false h0
                   have d2:k < 0:=by omega
                   have hk1:k = -1:=by omega
                   have Hd:Hid (([]:List UInt8) ++ u.path=mergedU b u.path):=by show _=_;rw [← hmd,hk1];cases bh <;> simp
                   clear hmd hrg hbp hk1
                   cases bh
                   · skip
                     have hdl:(([]:List UInt8)).length+u.path.length≤9223372036854775807:=by
                      have:=HLU.out.2.2.1
                      have hl2:(([]:List UInt8)).length≤1000:=by
                       first
                       | decide
                       | (have:=List.length_take_le kn b.path;have:=HLB.out.2.2.1;omega)
                      omega
                     have yy:=hC.rel.box.2.2.2.1
                     have ff:=hC.rel.fz 3
                     have HN:=Lib.hid (hC.r3 (([]:List UInt8) ++ u.path))
                     clear hC
                     go_wp2_with fail
                     refine(KI.out _).mono ?_
                     rintro e wI ⟨rfl,rfl⟩
                     go_wp2_with fail
                     go_meet
                     have hled:ledU b u = { u with scheme:=b.scheme,hasHost:=b.hasHost,host:=b.host,path:=mergedU b u.path }:=by
                      unfold ledU
                      rw [if_neg (by rw [HU1.out];simp),HU2.out,if_neg (by simp),if_neg HU3.out,if_neg HU4.out]
                     rw [hled]
                     exact(by have h:=HN.out;have hd:=Hd.out;rw [← hd];exact h)
                   · skip
                     have hdl:(([]:List UInt8)).length+u.path.length≤9223372036854775807:=by
                      have:=HLU.out.2.2.1
                      have hl2:(([]:List UInt8)).length≤1000:=by
                       first
                       | decide
                       | (have:=List.length_take_le kn b.path;have:=HLB.out.2.2.1;omega)
                      omega
                     have yy:=hC.rel.box.2.2.2.1
                     have ff:=hC.rel.fz 3
                     have HN:=Lib.hid (hC.r3 (([]:List UInt8) ++ u.path))
                     clear hC
                     go_wp2_with fail
                     refine(KI.out _).mono ?_
                     rintro e wI ⟨rfl,rfl⟩
                     go_wp2_with fail
                     go_meet
                     have hled:ledU b u = { u with scheme:=b.scheme,hasHost:=b.hasHost,host:=b.host,path:=mergedU b u.path }:=by
                      unfold ledU
                      rw [if_neg (by rw [HU1.out];simp),HU2.out,if_neg (by simp),if_neg HU3.out,if_neg HU4.out]
                     rw [hled]
                     exact(by have h:=HN.out;have hd:=Hd.out;rw [← hd];exact h)
         · go_wp2_with fail
           clear u1
           go_meet
           have hled:ledU b u = { u with scheme:=b.scheme }:=by
            unfold ledU
            rw [if_neg (by rw [HU1.out];simp),HU2.out,if_pos rfl]
           rw [hled]
           exact hC
        case' false =>
         have hus:¬ u.scheme = []:=by simpa using HES.out
         have HU1:=Lib.hid hus
         clear hus
         go_wp2_with fail
         go_meet
         have hled:ledU b u=u:=by unfold ledU;rw [if_pos HU1.out]
         rw [hled]
         exact hC
       case rest =>
        have hlen:(ledU b u).path.length≤1000:=by have:=led_len b u;have:=HLB.out.2.2.1;have:=HLU.out.2.2.1;omega
        have hroot:=led_root Hcb.out Hcu.out
        have hE:=HR2.out
        have HM2:=Lib.hid (HM.out.below hcut.bel)
        have hC:=hcut
        clear hcut HR2
        generalize wc=wX at hC HM2 ⊢
        generalize ledU b u=x at hC hE hlen hroot
        obtain⟨sc,hh,ho,pa,hq,qu,hf,fr⟩:=x
        simp only at hlen hroot
        have u1:wX.cell? ⟨w.heap.size+1,1,none⟩=some (.bool hh):=hC.rel.box.2.1
        have u3:wX.cell? ⟨w.heap.size+1,3,none⟩=some (str pa):=hC.rel.box.2.2.2.1
        have kP:=fun X=>HasPrefix_any pa [47] X
        cases hh
        · cases hp:Lib.hasPrefix pa [47]
          · have HE:Hid (rr=endU ⟨sc,false,ho,pa,hq,qu,hf,fr⟩):=by show _=_;rw [hE];unfold undotU;rw [if_neg (by simp only;rw [hp];simp)]
            rw [hp] at kP
            have KP0:=Lib.hid kP
            clear kP hp hroot hE
            go_wp2_with fail
            refine(KP0.out _).mono ?_
            rintro e wP0 ⟨rfl,rfl⟩
            go_upto_region 28 with fail
            clear u1 u3
            have hE:=HE.out
            rw [end_ref] at hE
            simp only at hE
            clear HE
            have KC:=Lib.hid (fun X (h:MaxLenOk X)=>RCheck_any sc ho pa qu fr false hq hf X h)
            have HM3:=Lib.hid (HM.out.below hC.bel)
            obtain⟨u0,u1,u2,u3,u4,u5,u6,u7⟩:=hC.rel.box
            go_wp2_with fail
            clear u0 u1 u2 u3 u4 u5 u6 u7
            refine(KC.out _ HM3.out).mono ?_
            rintro e wK ⟨rfl,hbK⟩
            have hCK:=hC.below hbK
            clear hC hbK KC HM3
            by_cases hc:checkU ⟨sc,false,ho,pa,hq,qu,hf,fr⟩=0
            · rw [hc]
              rw [if_pos hc] at hE
              have HRR3:=Lib.hid hE
              clear hc hE
              obtain⟨u0,u1,u2,u3,u4,u5,u6,u7⟩:=hCK.rel.box
              obtain⟨y0,y1,y2,y3,y4,y5,y6,y7⟩:=hCK.res.box
              obtain⟨f0,f1,f2,f3,f4,f5,f6,f7⟩:=hCK.fzr
              have HF:=Lib.hid (hCK.fill ⟨sc,false,ho,pa,hq,qu,hf,fr⟩)
              clear hCK
              go_wp2_with fail
              clear y0 y1 y2 y3 y4 y5 y6 y7 f0 f1 f2 f3 f4 f5 f6 f7 u0 u1 u2 u3 u4 u5 u6 u7
              generalize hwz:World.setCell _ _ _=wz
              have hPz:=HF.out
              rw [hwz] at hPz
              obtain⟨c0,c1,c2,c3,c4,c5,c6,c7⟩:=hPz.res.box
              have hrr:=HRR3.out
              subst hrr
              refine bodyPost_ret (v:=.tuple #[UrlD.val ⟨sc,false,ho,pa,hq,qu,hf,fr⟩,.int .i64 0]) (by simp [results,Tryz.results90,go_sem,c0,c1,c2,c3,c4,c5,c6,c7];try rfl) rfl ⟨rfl,hPz.bel⟩
            · rw [if_neg hc] at hE
              generalize hkk:checkU ⟨sc,false,ho,pa,hq,qu,hf,fr⟩=kk at hc hE ⊢
              clear hkk
              have ekk:((kk:Int) != 0)=true:=by simp;omega
              have u1:wK.cell? ⟨w.heap.size+1,1,none⟩=some (.bool false):=hCK.rel.box.2.1
              have u3:wK.cell? ⟨w.heap.size+1,3,none⟩=some (str pa):=hCK.rel.box.2.2.2.1
              have kP:=fun X=>HasPrefix_any pa [47,47] X
              cases hp:Lib.hasPrefix pa [47,47]
              · rw [hp] at hE kP
                have hE2:rr=(zeroU,kk):=hE
                have HRR3:=Lib.hid hE2
                have KP:=Lib.hid kP
                clear hE hE2 kP hp hc
                go_wp2_with fail
                refine(KP.out _).mono ?_
                rintro e wP ⟨rfl,rfl⟩
                go_wp2_with fail
                clear u1 u3
                refine(KE.out kk _).mono ?_
                rintro e wZ ⟨rfl,hbZ⟩
                have hLZ:=hCK.below hbZ
                obtain⟨y0,y1,y2,y3,y4,y5,y6,y7⟩:=hLZ.res.box
                obtain⟨f0,f1,f2,f3,f4,f5,f6,f7⟩:=hLZ.fzr
                have HF:=Lib.hid (hLZ.fill zeroU)
                clear hLZ hbZ hCK
                go_wp2_with fail
                clear y0 y1 y2 y3 y4 y5 y6 y7 f0 f1 f2 f3 f4 f5 f6 f7
                generalize hwz:World.setCell _ _ _=wz
                have hPz2:=HF.out
                simp only [zeroU] at hPz2
                rw [hwz] at hPz2
                obtain⟨c0,c1,c2,c3,c4,c5,c6,c7⟩:=hPz2.res.box
                have hrr:=HRR3.out
                subst hrr
                refine bodyPost_ret (v:=.tuple #[zeroU.val,.int .i64 (kk:Nat)]) (by simp [results,Tryz.results90,go_sem,c0,c1,c2,c3,c4,c5,c6,c7];try rfl) rfl ⟨rfl,hPz2.bel⟩
              · rw [hp] at hE kP
                have hE2:rr=(zeroU,4):=hE
                have HRR3:=Lib.hid hE2
                have KP:=Lib.hid kP
                clear hE hE2 kP hp hc
                go_wp2_with fail
                refine(KP.out _).mono ?_
                rintro e wP ⟨rfl,rfl⟩
                go_wp2_with fail
                clear u1 u3
                refine(KE.out 4 _).mono ?_
                rintro e wZ ⟨rfl,hbZ⟩
                have hLZ:=hCK.below hbZ
                obtain⟨y0,y1,y2,y3,y4,y5,y6,y7⟩:=hLZ.res.box
                obtain⟨f0,f1,f2,f3,f4,f5,f6,f7⟩:=hLZ.fzr
                have HF:=Lib.hid (hLZ.fill zeroU)
                clear hLZ hbZ hCK
                go_wp2_with fail
                clear y0 y1 y2 y3 y4 y5 y6 y7 f0 f1 f2 f3 f4 f5 f6 f7
                generalize hwz:World.setCell _ _ _=wz
                have hPz2:=HF.out
                simp only [zeroU] at hPz2
                rw [hwz] at hPz2
                obtain⟨c0,c1,c2,c3,c4,c5,c6,c7⟩:=hPz2.res.box
                have hrr:=HRR3.out
                subst hrr
                refine bodyPost_ret (v:=.tuple #[zeroU.val,.int .i64 (4:Nat)]) (by simp [results,Tryz.results90,go_sem,c0,c1,c2,c3,c4,c5,c6,c7];try rfl) rfl ⟨rfl,hPz2.bel⟩
          · have HE:Hid (rr=endU ⟨sc,false,ho,dotsU pa,hq,qu,hf,fr⟩):=by show _=_;rw [hE];unfold undotU;rw [if_pos (by simp only;rw [hp];simp)]
            have KD:=Lib.hid (fun X (hX:MaxLenOk X)=>undotted_any pa X hX hlen (.inr hp))
            rw [hp] at kP
            have KP0:=Lib.hid kP
            clear kP hp hroot hE
            go_wp2_with fail
            refine(KP0.out _).mono ?_
            rintro e wP0 ⟨rfl,rfl⟩
            go_wp2_with fail
            clear u1 u3
            refine(KD.out _ (HM2.out)).mono ?_
            rintro e wD ⟨rfl,hbD⟩
            have hC2:=hC.below hbD
            clear hC hbD
            have yy:=hC2.rel.box.2.2.2.1
            have ff:=hC2.rel.fz 3
            have HN:=Lib.hid (hC2.r3 (dotsU pa))
            clear hC2
            go_upto_region 28 with fail
            clear yy ff
            generalize hgw:World.setCell wD _ _=wX2
            have hC:=HN.out
            rw [hgw] at hC
            clear hgw HN
            generalize dotsU pa=pd at hC HE
            have hE:=HE.out
            rw [end_ref] at hE
            simp only at hE
            clear HE
            have KC:=Lib.hid (fun X (h:MaxLenOk X)=>RCheck_any sc ho pd qu fr false hq hf X h)
            have HM3:=Lib.hid (HM.out.below hC.bel)
            obtain⟨u0,u1,u2,u3,u4,u5,u6,u7⟩:=hC.rel.box
            go_wp2_with fail
            clear u0 u1 u2 u3 u4 u5 u6 u7
            refine(KC.out _ HM3.out).mono ?_
            rintro e wK ⟨rfl,hbK⟩
            have hCK:=hC.below hbK
            clear hC hbK KC HM3
            by_cases hc:checkU ⟨sc,false,ho,pd,hq,qu,hf,fr⟩=0
            · rw [hc]
              rw [if_pos hc] at hE
              have HRR3:=Lib.hid hE
              clear hc hE
              obtain⟨u0,u1,u2,u3,u4,u5,u6,u7⟩:=hCK.rel.box
              obtain⟨y0,y1,y2,y3,y4,y5,y6,y7⟩:=hCK.res.box
              obtain⟨f0,f1,f2,f3,f4,f5,f6,f7⟩:=hCK.fzr
              have HF:=Lib.hid (hCK.fill ⟨sc,false,ho,pd,hq,qu,hf,fr⟩)
              clear hCK
              go_wp2_with fail
              clear y0 y1 y2 y3 y4 y5 y6 y7 f0 f1 f2 f3 f4 f5 f6 f7 u0 u1 u2 u3 u4 u5 u6 u7
              generalize hwz:World.setCell _ _ _=wz
              have hPz:=HF.out
              rw [hwz] at hPz
              obtain⟨c0,c1,c2,c3,c4,c5,c6,c7⟩:=hPz.res.box
              have hrr:=HRR3.out
              subst hrr
              refine bodyPost_ret (v:=.tuple #[UrlD.val ⟨sc,false,ho,pd,hq,qu,hf,fr⟩,.int .i64 0]) (by simp [results,Tryz.results90,go_sem,c0,c1,c2,c3,c4,c5,c6,c7];try rfl) rfl ⟨rfl,hPz.bel⟩
            · rw [if_neg hc] at hE
              generalize hkk:checkU ⟨sc,false,ho,pd,hq,qu,hf,fr⟩=kk at hc hE ⊢
              clear hkk
              have ekk:((kk:Int) != 0)=true:=by simp;omega
              have u1:wK.cell? ⟨w.heap.size+1,1,none⟩=some (.bool false):=hCK.rel.box.2.1
              have u3:wK.cell? ⟨w.heap.size+1,3,none⟩=some (str pd):=hCK.rel.box.2.2.2.1
              have kP:=fun X=>HasPrefix_any pd [47,47] X
              cases hp:Lib.hasPrefix pd [47,47]
              · rw [hp] at hE kP
                have hE2:rr=(zeroU,kk):=hE
                have HRR3:=Lib.hid hE2
                have KP:=Lib.hid kP
                clear hE hE2 kP hp hc
                go_wp2_with fail
                refine(KP.out _).mono ?_
                rintro e wP ⟨rfl,rfl⟩
                go_wp2_with fail
                clear u1 u3
                refine(KE.out kk _).mono ?_
                rintro e wZ ⟨rfl,hbZ⟩
                have hLZ:=hCK.below hbZ
                obtain⟨y0,y1,y2,y3,y4,y5,y6,y7⟩:=hLZ.res.box
                obtain⟨f0,f1,f2,f3,f4,f5,f6,f7⟩:=hLZ.fzr
                have HF:=Lib.hid (hLZ.fill zeroU)
                clear hLZ hbZ hCK
                go_wp2_with fail
                clear y0 y1 y2 y3 y4 y5 y6 y7 f0 f1 f2 f3 f4 f5 f6 f7
                generalize hwz:World.setCell _ _ _=wz
                have hPz2:=HF.out
                simp only [zeroU] at hPz2
                rw [hwz] at hPz2
                obtain⟨c0,c1,c2,c3,c4,c5,c6,c7⟩:=hPz2.res.box
                have hrr:=HRR3.out
                subst hrr
                refine bodyPost_ret (v:=.tuple #[zeroU.val,.int .i64 (kk:Nat)]) (by simp [results,Tryz.results90,go_sem,c0,c1,c2,c3,c4,c5,c6,c7];try rfl) rfl ⟨rfl,hPz2.bel⟩
              · rw [hp] at hE kP
                have hE2:rr=(zeroU,4):=hE
                have HRR3:=Lib.hid hE2
                have KP:=Lib.hid kP
                clear hE hE2 kP hp hc
                go_wp2_with fail
                refine(KP.out _).mono ?_
                rintro e wP ⟨rfl,rfl⟩
                go_wp2_with fail
                clear u1 u3
                refine(KE.out 4 _).mono ?_
                rintro e wZ ⟨rfl,hbZ⟩
                have hLZ:=hCK.below hbZ
                obtain⟨y0,y1,y2,y3,y4,y5,y6,y7⟩:=hLZ.res.box
                obtain⟨f0,f1,f2,f3,f4,f5,f6,f7⟩:=hLZ.fzr
                have HF:=Lib.hid (hLZ.fill zeroU)
                clear hLZ hbZ hCK
                go_wp2_with fail
                clear y0 y1 y2 y3 y4 y5 y6 y7 f0 f1 f2 f3 f4 f5 f6 f7
                generalize hwz:World.setCell _ _ _=wz
                have hPz2:=HF.out
                simp only [zeroU] at hPz2
                rw [hwz] at hPz2
                obtain⟨c0,c1,c2,c3,c4,c5,c6,c7⟩:=hPz2.res.box
                have hrr:=HRR3.out
                subst hrr
                refine bodyPost_ret (v:=.tuple #[zeroU.val,.int .i64 (4:Nat)]) (by simp [results,Tryz.results90,go_sem,c0,c1,c2,c3,c4,c5,c6,c7];try rfl) rfl ⟨rfl,hPz2.bel⟩
        · have HE:Hid (rr=endU ⟨sc,true,ho,dotsU pa,hq,qu,hf,fr⟩):=by show _=_;rw [hE];unfold undotU;rw [if_pos (by simp)]
          have KD:=Lib.hid (fun X (hX:MaxLenOk X)=>undotted_any pa X hX hlen (hroot rfl))
          clear kP hroot hE
          go_wp2_with fail
          clear u1 u3
          refine(KD.out _ (HM2.out)).mono ?_
          rintro e wD ⟨rfl,hbD⟩
          have hC2:=hC.below hbD
          clear hC hbD
          have yy:=hC2.rel.box.2.2.2.1
          have ff:=hC2.rel.fz 3
          have HN:=Lib.hid (hC2.r3 (dotsU pa))
          clear hC2
          go_upto_region 28 with fail
          clear yy ff
          generalize hgw:World.setCell wD _ _=wX2
          have hC:=HN.out
          rw [hgw] at hC
          clear hgw HN
          generalize dotsU pa=pd at hC HE
          have hE:=HE.out
          rw [end_ref] at hE
          simp only at hE
          clear HE
          have KC:=Lib.hid (fun X (h:MaxLenOk X)=>RCheck_any sc ho pd qu fr true hq hf X h)
          have HM3:=Lib.hid (HM.out.below hC.bel)
          obtain⟨u0,u1,u2,u3,u4,u5,u6,u7⟩:=hC.rel.box
          go_wp2_with fail
          clear u0 u1 u2 u3 u4 u5 u6 u7
          refine(KC.out _ HM3.out).mono ?_
          rintro e wK ⟨rfl,hbK⟩
          have hCK:=hC.below hbK
          clear hC hbK KC HM3
          by_cases hc:checkU ⟨sc,true,ho,pd,hq,qu,hf,fr⟩=0
          · rw [hc]
            rw [if_pos hc] at hE
            have HRR3:=Lib.hid hE
            clear hc hE
            obtain⟨u0,u1,u2,u3,u4,u5,u6,u7⟩:=hCK.rel.box
            obtain⟨y0,y1,y2,y3,y4,y5,y6,y7⟩:=hCK.res.box
            obtain⟨f0,f1,f2,f3,f4,f5,f6,f7⟩:=hCK.fzr
            have HF:=Lib.hid (hCK.fill ⟨sc,true,ho,pd,hq,qu,hf,fr⟩)
            clear hCK
            go_wp2_with fail
            clear y0 y1 y2 y3 y4 y5 y6 y7 f0 f1 f2 f3 f4 f5 f6 f7 u0 u1 u2 u3 u4 u5 u6 u7
            generalize hwz:World.setCell _ _ _=wz
            have hPz:=HF.out
            rw [hwz] at hPz
            obtain⟨c0,c1,c2,c3,c4,c5,c6,c7⟩:=hPz.res.box
            have hrr:=HRR3.out
            subst hrr
            refine bodyPost_ret (v:=.tuple #[UrlD.val ⟨sc,true,ho,pd,hq,qu,hf,fr⟩,.int .i64 0]) (by simp [results,Tryz.results90,go_sem,c0,c1,c2,c3,c4,c5,c6,c7];try rfl) rfl ⟨rfl,hPz.bel⟩
          · rw [if_neg hc] at hE
            generalize hkk:checkU ⟨sc,true,ho,pd,hq,qu,hf,fr⟩=kk at hc hE ⊢
            clear hkk
            have ekk:((kk:Int) != 0)=true:=by simp;omega
            have u1:wK.cell? ⟨w.heap.size+1,1,none⟩=some (.bool true):=hCK.rel.box.2.1
            have hE2:rr=(zeroU,kk):=hE
            have HRR3:=Lib.hid hE2
            clear hE hE2 hc
            go_wp2_with fail
            clear u1
            refine(KE.out kk _).mono ?_
            rintro e wZ ⟨rfl,hbZ⟩
            have hLZ:=hCK.below hbZ
            obtain⟨y0,y1,y2,y3,y4,y5,y6,y7⟩:=hLZ.res.box
            obtain⟨f0,f1,f2,f3,f4,f5,f6,f7⟩:=hLZ.fzr
            have HF:=Lib.hid (hLZ.fill zeroU)
            clear hLZ hbZ hCK
            go_wp2_with fail
            clear y0 y1 y2 y3 y4 y5 y6 y7 f0 f1 f2 f3 f4 f5 f6 f7
            generalize hwz:World.setCell _ _ _=wz
            have hPz2:=HF.out
            simp only [zeroU] at hPz2
            rw [hwz] at hPz2
            obtain⟨c0,c1,c2,c3,c4,c5,c6,c7⟩:=hPz2.res.box
            have hrr:=HRR3.out
            subst hrr
            refine bodyPost_ret (v:=.tuple #[zeroU.val,.int .i64 (kk:Nat)]) (by simp [results,Tryz.results90,go_sem,c0,c1,c2,c3,c4,c5,c6,c7];try rfl) rfl ⟨rfl,hPz2.bel⟩
   · have hrr2:rr=(zeroU,checkU u):=by rw [HRR.out];unfold leadU;rw [if_neg (by rw [Hcb.out];simp),if_pos hcu]
     generalize checkU u=kk at hcu hrr2 ⊢
     have ekk:((kk:Int) != 0)=true:=by simp;omega
     have HRR2:=Lib.hid hrr2
     clear hrr2 hcu
     go_wp2_with fail
     refine(KE.out kk _).mono ?_
     rintro e wZ ⟨rfl,hbZ⟩
     have hLZ:=hC.below hbZ
     obtain⟨y0,y1,y2,y3,y4,y5,y6,y7⟩:=hLZ.res.box
     obtain⟨f0,f1,f2,f3,f4,f5,f6,f7⟩:=hLZ.fzr
     have HF:=Lib.hid (hLZ.fill zeroU)
     clear hLZ hbZ hC
     go_wp2_with fail
     clear y0 y1 y2 y3 y4 y5 y6 y7 f0 f1 f2 f3 f4 f5 f6 f7
     generalize hwz:World.setCell _ _ _=wz
     have hPz2:=HF.out
     simp only [zeroU] at hPz2
     rw [hwz] at hPz2
     obtain⟨c0,c1,c2,c3,c4,c5,c6,c7⟩:=hPz2.res.box
     have hrr:=HRR2.out
     subst hrr
     refine bodyPost_ret (v:=.tuple #[zeroU.val,.int .i64 (kk:Nat)]) (by simp [results,Tryz.results90,go_sem,c0,c1,c2,c3,c4,c5,c6,c7];try rfl) rfl ⟨rfl,hPz2.bel⟩
 · have hrr2:rr=(zeroU,checkU b):=by rw [HRR.out];unfold leadU;rw [if_pos hcb]
   generalize checkU b=kk at hcb hrr2 ⊢
   have ekk:((kk:Int) != 0)=true:=by simp;omega
   have HRR2:=Lib.hid hrr2
   clear hrr2 hcb
   go_wp2_with fail
   refine(KE.out kk _).mono ?_
   rintro e wZ ⟨rfl,hbZ⟩
   have hLZ:=hL.below hbZ
   obtain⟨y0,y1,y2,y3,y4,y5,y6,y7⟩:=hLZ.res.box
   obtain⟨f0,f1,f2,f3,f4,f5,f6,f7⟩:=hLZ.fzr
   have HF:=Lib.hid (hLZ.fill zeroU)
   clear hLZ hbZ hL
   go_wp2_with fail
   clear y0 y1 y2 y3 y4 y5 y6 y7 f0 f1 f2 f3 f4 f5 f6 f7
   generalize hwz:World.setCell _ _ _=wz
   have hPz2:=HF.out
   simp only [zeroU] at hPz2
   rw [hwz] at hPz2
   obtain⟨c0,c1,c2,c3,c4,c5,c6,c7⟩:=hPz2.res.box
   have hrr:=HRR2.out
   subst hrr
   refine bodyPost_ret (v:=.tuple #[zeroU.val,.int .i64 (kk:Nat)]) (by simp [results,Tryz.results90,go_sem,c0,c1,c2,c3,c4,c5,c6,c7];try rfl) rfl ⟨rfl,hPz2.bel⟩
end Go.Proofs.YtlgbopjhmemaoaaGreatDoor
namespace Go.Proofs.YtlgbopjhmemaoaaGreatDoor
open Go.RowKit
theorem lead_check {b u:UrlD} (h:(leadU b u).2=0):checkU (leadU b u).1=0:=by
 unfold leadU at h ⊢
 split
 · rename_i h1;rw [if_pos h1] at h;exact absurd h h1
 · rename_i h1
   rw [if_neg h1] at h
   split
   · rename_i h2;rw [if_pos h2] at h;exact absurd h h2
   · rename_i h2
     rw [if_neg h2] at h
     split
     · rename_i h3;rw [if_pos h3] at h;cases h
     · rename_i h3
       rw [if_neg h3] at h
       unfold endU at h ⊢
       split
       · rename_i h4;rw [if_pos h4] at h;cases h
       · rename_i h4
         rw [if_neg h4] at h
         split
         · rename_i h5;exact h5
         · rename_i h5;rw [if_neg h5] at h;exact absurd h h5
theorem RTextV {u:UrlD} (h:checkU u=0) (w:World):Calls Tryz.prog 91 #[u.val] w fun e w'=>e = .returned (str (printU u).1)∧Below w.heap.size w w':=by
 obtain⟨h1,h2,h3,h4,h5⟩:=check_text h
 rw [show printU u=(textU u,0) from by unfold printU;rw [if_pos h]]
 exact RText_any u.scheme u.host u.path u.query u.frag u.hasHost u.hasQuery u.hasFrag w (by omega) (by omega) (by omega) (by omega) (by omega)
theorem RLed_any (f t:List UInt8) (w:World) (hM:MaxLenOk w) (hf:f.length≤maxLen) (ht:t.length≤maxLen) :
 Calls Tryz.prog 47 #[str f,str t] w fun e w'=>e = .returned (str (ledB f t))∧Below w.heap.size w w':=by
 obtain⟨rr,hrr⟩:∃ rr,rr=ledB f t:=⟨_,rfl⟩
 rw [← hrr]
 have HRR:=Lib.hid hrr
 clear hrr
 have KF:=Lib.hid (fun X (h:MaxLenOk X)=>RRead_any f X hf h)
 have KT:=Lib.hid (fun X (h:MaxLenOk X)=>RRead_any t X ht h)
 have KL:=Lib.hid (fun X (h:MaxLenOk X)=>RLedTo_any (readU f).1 (readU t).1 X h)
 have KC:=Lib.hid (lead_check (b:=(readU f).1) (u:=(readU t).1))
 have HM:=Lib.hid hM
 unfold ledB at HRR
 generalize readU f=F at *
 generalize readU t=T at *
 obtain⟨fu,fe⟩:=F
 obtain⟨tu,te⟩:=T
 simp only at HRR KL KF KT KC
 generalize leadU fu tu=L at *
 obtain⟨lu,le⟩:=L
 simp only at HRR KL KC
 clear hM hf ht
 simp only [UrlD.val] at KF KT KL
 go_enter Tryz.func47,Tryz.ntmps47
 go_wp2_with fail
 refine(KF.out _ HM.out).mono ?_
 rintro e w1 ⟨rfl,hb1⟩
 obtain⟨W1,hW1⟩:∃ W1,W1=w1.alloc (.cells #[str fu.scheme,.bool fu.hasHost,str fu.host,str fu.path,.bool fu.hasQuery,str fu.query,.bool fu.hasFrag,str fu.frag] 103):=⟨_,rfl⟩
 have hbA:Below w1.heap.size w1 W1:=by rw [hW1];exact(Below.refl _ _).alloc (Nat.le_refl _) _
 have hUB:UB W1 w1.heap.size fu:=by rw [hW1];exact UB.new w1 fu
 have hb2:=hb1.trans (hbA.mono hb1.size)
 go_upto_region 2 with fail
 rw [← hW1]
 clear hW1 hb1
 have Hb2:=Lib.hid hb2
 go_wp2_with fail
 refine(KT.out _ (HM.out.below Hb2.out)).mono ?_
 rintro e w3 ⟨rfl,hb3⟩
 obtain⟨W3,hW3⟩:∃ W3,W3=w3.alloc (.cells #[str tu.scheme,.bool tu.hasHost,str tu.host,str tu.path,.bool tu.hasQuery,str tu.query,.bool tu.hasFrag,str tu.frag] 103):=⟨_,rfl⟩
 have hbB:Below w3.heap.size w3 W3:=by rw [hW3];exact(Below.refl _ _).alloc (Nat.le_refl _) _
 have hUB3:UB W3 w3.heap.size tu:=by rw [hW3];exact UB.new w3 tu
 have hUB1:=(hUB.below hb3).below hbB
 have hb4:=hb2.trans ((hb3.trans (hbB.mono hb3.size)).mono hb2.size)
 have Hb4:=Lib.hid hb4
 have HU1:=Lib.hid hUB1
 have HU3:=Lib.hid hUB3
 go_upto_region 3 with fail
 rw [← hW3]
 clear hW3 hb2 hb3 hbA hbB hUB hUB1 hUB3 hb4 Hb2
 have⟨c0,c1,c2,c3,c4,c5,c6,c7⟩:=HU1.out.box
 have⟨d0,d1,d2,d3,d4,d5,d6,d7⟩:=HU3.out.box
 by_cases hfe:fe=0
 · subst hfe
   by_cases hte:te=0
   · subst hte
     go_wp2_with fail
     refine(KL.out _ (HM.out.below Hb4.out)).mono ?_
     rintro e w5 ⟨rfl,hb5⟩
     obtain⟨W5,hW5⟩:∃ W5,W5=w5.alloc (.cells #[str lu.scheme,.bool lu.hasHost,str lu.host,str lu.path,.bool lu.hasQuery,str lu.query,.bool lu.hasFrag,str lu.frag] 103):=⟨_,rfl⟩
     have hbC:Below w5.heap.size w5 W5:=by rw [hW5];exact(Below.refl _ _).alloc (Nat.le_refl _) _
     have hUB5:UB W5 w5.heap.size lu:=by rw [hW5];exact UB.new w5 lu
     have hb6:=Hb4.out.trans ((hb5.trans (hbC.mono hb5.size)).mono Hb4.out.size)
     have Hb6:=Lib.hid hb6
     have HU5:=Lib.hid hUB5
     clear c0 c1 c2 c3 c4 c5 c6 c7 d0 d1 d2 d3 d4 d5 d6 d7
     go_upto_region 6 with fail
     rw [← hW5]
     clear hW5 hb5 hbC hUB5 hb6
     have⟨c0,c1,c2,c3,c4,c5,c6,c7⟩:=HU5.out.box
     by_cases hle:le=0
     · subst hle
       have hpp:=HRR.out
       simp only [ne_eq,not_true,if_false] at hpp
       have KP:=Lib.hid (RTextV (KC.out rfl) W5)
       simp only [UrlD.val] at KP
       go_wp2_with fail
       refine KP.out.mono ?_
       rintro e w7 ⟨rfl,hb7⟩
       go_wp2_with fail
       go_ret
       exact⟨by rw [hpp];rfl,Hb6.out.trans (hb7.mono Hb6.out.size)⟩
     · have hpp:=HRR.out
       simp only [ne_eq,not_true,if_false] at hpp
       rw [if_pos hle] at hpp
       have hL1:((le:Int) != 0)=true:=by simp;omega
       clear hle
       go_wp2_with fail
       go_ret
       exact⟨by rw [hpp];rfl,Hb6.out⟩
   · have hpp:=HRR.out
     simp only [ne_eq,not_true,if_false] at hpp
     rw [if_pos hte] at hpp
     have hL1:((te:Int) != 0)=true:=by simp;omega
     clear hte
     go_wp2_with fail
     go_ret
     exact⟨by rw [hpp];rfl,Hb4.out⟩
 · have hpp:=HRR.out
   rw [if_pos hfe] at hpp
   have hL1:((fe:Int) != 0)=true:=by simp;omega
   clear hfe
   go_wp2_with fail
   go_ret
   exact⟨by rw [hpp];rfl,Hb4.out⟩
theorem infoStrW:(Tryz.prog.info? 9).map (fun i=>(i.zero,i.size,i.bytes))=some (some (.string ⟨#[]⟩),1,16):=by kernel_rfl
/-- The closure's two boxes: the row of texts so far, and the function itself. -/
def WB (w0 w:World) (base bo bw:Nat) (out:List (List UInt8)):Prop:=
 ∃ S c,w.heap[bo]? = some (.cells #[.slice S out.length c] 40 (0,0)) ∧
  w.heap[bw]? = some (.cells #[.func (.func 79) #[] #[.pointer (some ⟨bo,0,none⟩),.pointer (some ⟨bw,0,none⟩)]] 118 (0,0)) ∧
  w.ownsRow base 9 1 (.slice S out.length c) out.length (out.map str)∧Below w0.heap.size w0 w∧w0.heap.size≤bo∧w0.heap.size≤bw∧bo < base∧bw < base∧base≤w.heap.size∧bo≠bw
theorem WB.below {w0 w w':World} {base bo bw:Nat} {out:List (List UInt8)} (h:WB w0 w base bo bw out) (hb:Below w.heap.size w w'):WB w0 w' base bo bw out:=by
 obtain⟨S,c,h1,h2,h3,h4,h5,h6,h7,h8,h9,h10⟩:=h
 exact⟨S,c,(hb.block bo (by omega)).trans h1,(hb.block bw (by omega)).trans h2,own_below h3 hb,h4.trans (hb.mono h4.size),h5,h6,h7,h8,by have:=hb.size;omega,h10⟩
theorem cellOW {w:World} {bo n c:Nat} {S:Option Addr} (h:w.heap[bo]? = some (.cells #[.slice S n c] 40 (0,0))):w.cell? ⟨bo,0,none⟩=some (.slice S n c)∧w.frozen? ⟨bo,0,none⟩=false:=by
 constructor
 · unfold World.cell?;rw [h];rfl
 · unfold World.frozen?;rw [h];simp
theorem WB.step {w0 w w5:World} {base bo bw:Nat} {out:List (List UInt8)} {x:List UInt8} {S5:Option Addr} {c5:Nat} (h:WB w0 w base bo bw out) (hb:Below base w w5) (ho:w5.ownsRow base 9 1 (.slice S5 (out.length+1) c5) (out.length+1) ((out ++ [x]).map str)) :
 WB w0 (w5.setCell ⟨bo,0,none⟩ (.slice S5 (out.length+1) c5)) base bo bw (out ++ [x]):=by
 obtain⟨S,c,h1,h2,h3,h4,h5,h6,h7,h8,h9,h10⟩:=h
 have e1:=(hb.block bo h7).trans h1
 have e2:=(hb.block bw h8).trans h2
 have hl:(out ++ [x]).length=out.length+1:=by simp
 refine⟨S5,c5,?_,?_,?_,(h4.trans (hb.mono (by omega))).setCell h5 _,h5,h6,h7,h8,?_,h10⟩
 · simp only [World.setCell,Array.getElem?_modify,if_pos,e1,Option.map_some,hl];rfl
 · simp only [World.setCell,Array.getElem?_modify]
   rw [if_neg h10]
   exact e2
 · rw [hl];exact ownsRow_setCell_below ho h7 _
 · have:=hb.size;simp;omega
theorem walkW_eq (p:PartD) (a:List UInt8):walkW p a=meW p.loc a :: walksW p.parts (meW p.loc a):=by cases p;rw [walkW]
theorem walksW_take:∀ (ps:List PartD) (i:Nat) (q:PartD) (me:List UInt8),ps[i]? = some q→walksW (ps.take (i+1)) me=walksW (ps.take i) me ++ walkW q me
 | [],i,q,me,h=>by simp at h
 | x :: xs,0,q,me,h=>by
  simp at h
  subst h
  simp [walksW]
 | x :: xs,i+1,q,me,h=>by
  rw [List.take_succ_cons,List.take_succ_cons,walksW,walksW,walksW_take xs i q me (by simpa using h),List.append_assoc]
theorem flats_bound:∀ (ps:List PartD) (i:Nat) (q:PartD),ps[i]? = some q→(flatsD (ps.take i)).length+(flatD q).length≤(flatsD ps).length
 | [],i,q,h=>by simp at h
 | x :: xs,0,q,h=>by
  simp at h
  subst h
  simp [flatsD]
 | x :: xs,i+1,q,h=>by
  rw [List.take_succ_cons,flatsD,flatsD,List.length_append,List.length_append]
  have:=flats_bound xs i q (by simpa using h)
  omega
theorem lenW (loc a:List UInt8) (ha:a.length≤maxLen):(meW loc a).length≤maxLen:=by
 unfold meW
 split
 · unfold fromG;split
   · decide
   · exact ha
 · have:=ledB_len (fromG a) loc
   unfold maxLen at *
   omega
theorem lenF (a:List UInt8) (ha:a.length≤maxLen):(fromG a).length≤maxLen:=by
 unfold fromG;split
 · decide
 · exact ha
theorem walk_any (w0:World) (HM0:MaxLenOk w0) (base bo bw:Nat) (k:Nat):∀ (p:PartD) (v:List Value) (a:List UInt8) (out:List (List UInt8)) (w:World),(flatD p).length≤k→PartAt (· < w0.heap.size) w0 p v→a.length≤maxLen→out.length+(flatD p).length≤1000→WB w0 w base bo bw out →
 Calls Tryz.prog 79 #[.agg v.toArray,str a,.pointer (some ⟨bo,0,none⟩),.pointer (some ⟨bw,0,none⟩)] w fun e w'=>e = .returned (.tuple #[])∧WB w0 w' base bo bw (out ++ walkW p a):=by
 induction k with
 | zero=>intro p v a out w h;rw [flatD_eq] at h;simp at h
 | succ k ih =>
  intro p v a out w hk hp ha hol hW
  obtain⟨A,c,A2,c2,rfl,hbd,hby,hbc,hcm,hP,hc2,hcm2⟩:=hp.open
  obtain⟨W,hWW⟩:∃ W,W=w.alloc (.cells #[str p.type,str p.cs,str p.id,str p.loc,.int .i64 p.how,.slice A p.body.length c,.slice A2 p.parts.length c2] 25):=⟨_,rfl⟩
  have hbW:Below w.heap.size w W:=by rw [hWW];exact(Below.refl _ w).alloc (Nat.le_refl _) _
  have hWs:W.heap.size=w.heap.size+1:=by rw [hWW];simp
  have hbx:Box7 W w.heap.size (str p.type) (str p.cs) (str p.id) (str p.loc) (.int .i64 p.how) (.slice A p.body.length c) (.slice A2 p.parts.length c2):=by rw [hWW];exact Box7.new w _ _ _ _ _ _ _ _
  have hWB:=hW.below hbW
  obtain⟨S,cS,o1,o2,o3,o4,o5,o6,o7,o8,o9,o10⟩:=hW
  have hnb:some w.heap.size≠Value.ownBlock (.slice S out.length cS):=fun e=>by have:=(o3.lt _ e.symm).2;omega
  have hMW:MaxLenOk W:=by obtain⟨_,_,_,_,_,h4,_⟩:=hWB;exact HM0.below h4
  have KL:=Lib.hid (fun X (h:MaxLenOk X)=>RLed_any (fromG a) p.loc X h (lenF a ha) hbd.2.2.2.1)
  have hlm:=lenW p.loc a ha
  obtain⟨me,hme⟩:∃ me,me=meW p.loc a:=⟨_,rfl⟩
  have Hme:=Lib.hid hme
  rw [← hme] at hlm
  have⟨x0,x1,x2,x3,x4,x5,x6⟩:=hbx
  have Hbx:=Lib.hid hbx
  have HWB:=Lib.hid hWB
  have HMW:=Lib.hid hMW
  have HPW:=Lib.hid hP
  have Hih:=Lib.hid ih
  have Ho1:=Lib.hid o1
  have Ho2:=Lib.hid o2
  have Ho3:=Lib.hid o3
  have Ho4:=Lib.hid o4
  have HbW:=Lib.hid hbW
  have eg:=enters_of Tryz.func79 (by kernel_rfl) rfl
  have hfp:(flatD p).length=(flatsD p.parts).length+1:=by rw [flatD_eq];simp
  have hpl:p.parts.length≤1000:=by have:=flatsD_len p.parts;omega
  have o9':=Nat.le_trans o9 hbW.size
  clear hme hbx hWB hMW hP hp hbW ih o1 o2 o3 o4
  go_enter Tryz.func79,Tryz.ntmps79
  go_upto_region 1 with fail
  rw [← hWW]
  clear hWW
  obtain⟨q0,hq0⟩:∃ q,(a == [])=q:=⟨_,rfl⟩
  go_upto_if 10 with fail
  have Hq0:=Lib.hid hq0
  clear hq0
  go_cut [1] (fun s1 wx=>s1=str (fromG a)∧W=wx)
  case first=>as_aux_lemma =>
   cases q0 with
   | true =>
    have h0:a = []:=by simpa using Hq0.out
    subst h0
    go_wp2_with fail
    go_meet
    exact⟨by unfold fromG;rw [if_pos rfl];rfl,rfl⟩
   | false =>
    have h0:a≠[]:=by simpa using Hq0.out
    have ef:fromG a=a:=by unfold fromG;rw [if_neg h0]
    go_wp2_with fail
    go_meet
    exact⟨by rw [ef],rfl⟩
  case rest=>as_aux_lemma =>
   obtain⟨rfl,hwc⟩:=hcut
   subst hwc
   obtain⟨q1,hq1⟩:∃ q,(p.loc == [])=q:=⟨_,rfl⟩
   go_upto_if 14 with fail
   have Hq1:=Lib.hid hq1
   clear hq1
   go_cut [6] from 15 to 18 (fun s6 wx=>s6=str me∧Below W.heap.size W wx)
   case first=>as_aux_lemma =>
    cases q1 with
    | true =>
     have h1:p.loc = []:=by simpa using Hq1.out
     have hm:=Hme.out
     unfold meW at hm
     rw [if_pos h1] at hm
     rw [h1] at x3
     go_wp2_with fail
     go_meet
     exact⟨by rw [hm],Below.refl _ _⟩
    | false =>
     have h1:p.loc≠[]:=by simpa using Hq1.out
     have hm:=Hme.out
     unfold meW at hm
     rw [if_neg h1] at hm
     go_wp2_with fail
     refine(KL.out W HMW.out).mono ?_
     rintro e w2 ⟨rfl,hb2⟩
     go_wp2_with fail
     go_meet
     exact⟨by rw [hm],hb2⟩
   case rest=>as_aux_lemma =>
    obtain⟨rfl,hb2⟩:=hcut
    have hWB2:=HWB.out.below hb2
    have hbx2:=Hbx.out.below hb2
    have HWB2:=Lib.hid hWB2
    have hbwc:=HbW.out.trans (hb2.mono HbW.out.size)
    have hszc:=hbwc.size
    have hwsz:=hb2.size
    have hWsz:=HbW.out.size
    have P1:=(hbwc.block bo (by omega)).trans Ho1.out
    have P3:=own_below Ho3.out hbwc
    have⟨y0,y1⟩:=cellOW P1
    have⟨_,_,_,_,_,_,x6'⟩:=hbx2
    obtain⟨i0,hi0,hi1,hi2,hi3⟩:=info_parts infoStrW
    have HP1:=Lib.hid P1
    have HP3:=Lib.hid P3
    have hol1:out.length≤1000:=by omega
    have h63:out.length+1≤maxLen:=by unfold maxLen;omega
    have h47:(out.length+1) * 16≤140737488355328:=by omega
    clear x0 x1 x2 x3 x4 x5 x6 hbx2 P1 P3 hbwc
    go_wp2_with (at_builtin;refine wpList_app2 rfl _ _ 40 rfl base 9 i0 _ 1 16 Tryz.underlying40 hi0 hi1 hi2 hi3 rfl (by decide) S out.length cS (out.map str) rfl (HP3.out.alloc _) _ _ 1 1 [str me] rfl (Sl.row _ _ 1 1 _ rfl) (by intro u hu;rw [List.mem_singleton.1 hu];rfl) h63 h47 ?c2 ?_)
    case c2=>simp;omega
    intro S5 c5 w5 hown5 hb5 hgr5 hat5
    have hA:=(Below.refl wc.heap.size wc).alloc (Nat.le_refl _) (.cells #[str me] 9)
    have hB5:=(hA.mono (Nat.le_trans o9 hszc)).trans hb5
    rw [show out.map str ++ [str me]=(out ++ [me]).map str from by simp] at hown5
    have hst:=HWB2.out.step hB5 hown5
    have⟨z0,z1⟩:=cellOW ((hB5.block bo o7).trans HP1.out)
    have z6:w5.cell? ⟨w.heap.size,6,none⟩=some (.slice A2 p.parts.length c2):=
     (World.cell?_of_block (hgr5.block w.heap.size (by simp;omega) hnb)).trans ((hA.cell (p:=⟨w.heap.size,6,none⟩) (by show w.heap.size < wc.heap.size;omega)).trans x6')
    have hfar:(w5.setCell ⟨bo,0,none⟩ (.slice S5 (out.length+1) c5)).heap[w.heap.size]? = w5.heap[w.heap.size]?:=by
     simp only [World.setCell,Array.getElem?_modify]
     rw [if_neg (by omega)]
    have zz:(w5.setCell ⟨bo,0,none⟩ (.slice S5 (out.length+1) c5)).cell? ⟨w.heap.size,6,none⟩=some (.slice A2 p.parts.length c2):=(World.cell?_of_block (by exact hfar)).trans z6
    obtain⟨W6,hW6⟩:∃ X,X=w5.setCell ⟨bo,0,none⟩ (.slice S5 (out.length+1) c5):=⟨_,rfl⟩
    rw [← hW6] at hst zz
    have Hst:=Lib.hid hst
    clear hst hA hB5 hown5 hb5 hgr5 hat5 hi0 hi1 hi2 hi3 y0 y1 hfar z6
    go_upto_region 7 with fail
    rw [← hW6]
    clear hW6 z0 z1
    go_wp2_with fail
    go_loopw [26] (fun iv wr=>∃ i:Nat,iv = .int .i64 (i:Nat)∧i≤p.parts.length∧WB w0 wr base bo bw (out ++ [me] ++ walksW (p.parts.take i) me)) (fun iv _=>p.parts.length - (intOf iv).toNat)
    case atStart=>exact⟨0,rfl,Nat.zero_le _,by have:=Hst.out;simpa [walksW] using this⟩
    case round=>as_aux_lemma =>
     obtain⟨i,rfl,hi,hWr⟩:=hrel
     by_cases hin:i < p.parts.length
     · obtain⟨b,off,q,A',n',c',A2',n2',c2'',hS3,hbS,hdq,hqa,t0,t1,t2,t3,t4,t5,t6⟩:=HPW.out.cells7 hin
       subst hS3
       have hqi:p.parts[i]? = some q:=by have:=congrArg List.head? hdq;simpa [List.head?_drop] using this
       have HWr:=Lib.hid hWr
       obtain⟨Sx,cx,r1,r2,r3,r4,r5,r6,r7,r8,r9,r10⟩:=hWr
       have v0:=(r4.cell (p:=⟨b,_,none⟩) hbS).trans t0
       have v1:=(r4.cell (p:=⟨b,_,none⟩) hbS).trans t1
       have v2:=(r4.cell (p:=⟨b,_,none⟩) hbS).trans t2
       have v3:=(r4.cell (p:=⟨b,_,none⟩) hbS).trans t3
       have v4:=(r4.cell (p:=⟨b,_,none⟩) hbS).trans t4
       have v5:=(r4.cell (p:=⟨b,_,none⟩) hbS).trans t5
       have v6:=(r4.cell (p:=⟨b,_,none⟩) hbS).trans t6
       obtain⟨W8,hW8⟩:∃ X,X=wr.alloc (.cells #[str q.type,str q.cs,str q.id,str q.loc,.int .i64 q.how,.slice A' n' c',.slice A2' n2' c2''] 25):=⟨_,rfl⟩
       have hb8:Below wr.heap.size wr W8:=by rw [hW8];exact(Below.refl _ _).alloc (Nat.le_refl _) _
       have hbx8:Box7 W8 wr.heap.size (str q.type) (str q.cs) (str q.id) (str q.loc) (.int .i64 q.how) (.slice A' n' c') (.slice A2' n2' c2''):=by rw [hW8];exact Box7.new wr _ _ _ _ _ _ _ _
       have hfun:W8.cell? ⟨bw,0,none⟩=some (.func (.func 79) #[] #[.pointer (some ⟨bo,0,none⟩),.pointer (some ⟨bw,0,none⟩)]):=by
        unfold World.cell?
        rw [(hb8.block bw (by omega)).trans r2]
        rfl
       have hfb:=flats_bound p.parts i q hqi
       have hrec:=Hih.out q _ me (out ++ [me] ++ walksW (p.parts.take i) me) W8 (by omega) hqa hlm (by simp only [List.length_append,walksW_len,List.length_singleton];omega) (HWr.out.below hb8)
       have Hrec:=Lib.hid hrec
       have Hqi:=Lib.hid hqi
       clear t0 t1 t2 t3 t4 t5 t6 r1 r2 r3 r4 hrec hb8 hdq hqa hqi
       go_upto_region 10 with fail
       rw [← hW8]
       clear hW8 v0 v1 v2 v3 v4 v5 v6
       have⟨x0,x1,x2,x3,x4,x5,x6⟩:=hbx8
       go_wp2_with fail
       refine Hrec.out.mono ?_
       rintro e w9 ⟨rfl,hW9⟩
       go_wp2_with fail
       exact⟨⟨i+1,by go_num,by omega,by rw [walksW_take _ _ _ _ Hqi.out,← List.append_assoc];exact hW9⟩,by simp [intOf];omega⟩
     · obtain rfl:i=p.parts.length:=by omega
       go_wp2_with fail
       refine bodyPost_end (v:=.tuple #[]) (by simp [results,Tryz.results79,go_sem]) rfl ⟨rfl,?_⟩
       rw [walkW_eq,← Hme.out]
       rw [List.take_length,List.append_assoc] at hWr
       exact hWr
theorem renD_eq (ns:List NameD) (gs:List GoalD) (p:PartD) (i e:Nat):renD ns gs p i e =
 (⟨p.type,p.cs,p.id,p.loc,p.how,(bodyN ns gs p i).1,(rensD ns gs p.parts (i+1) (firstE e (bodyN ns gs p i).2)).1⟩,(rensD ns gs p.parts (i+1) (firstE e (bodyN ns gs p i).2)).2):=by
 cases p;rw [renD]
theorem rensD_step (ns:List NameD) (gs:List GoalD) (p:PartD) (ps:List PartD) (i e:Nat) (out:List PartD) :
 (out ++ (rensD ns gs (p :: ps) i e).1,(rensD ns gs (p :: ps) i e).2)=((out ++ [(renD ns gs p i e).1]) ++ (rensD ns gs ps (i+(flatD p).length) (renD ns gs p i e).2).1,(rensD ns gs ps (i+(flatD p).length) (renD ns gs p i e).2).2):=by
 rw [rensD]
 simp
theorem goalsF_bnd (F0:List PartD) (W0:List (List UInt8)) (N:Nat):∀ (F:List PartD) (L:List (List UInt8)) (i:Nat) (out G:List GoalD),goalsF F0 W0 F L i out=some G→i+F.length≤N→(∀ g∈out,g.part < N∧-1≤g.find∧g.find < ((F0.length+1:Nat):Int))→∀ g∈G,g.part < N∧-1≤g.find∧g.find < ((F0.length+1:Nat):Int)
 | [],_,i,out,G,h,_,ho=>by
  rw [goalsF] at h
  injection h with h
  rw [← h];exact ho
 | _ :: _,[],i,out,G,h,_,ho=>by
  rw [goalsF] at h
  injection h with h
  rw [← h];exact ho
 | x :: xs,s :: ss,i,out,G,h,hi,ho=>by
  rw [List.length_cons] at hi
  rw [goalsF] at h
  split at h
  · split at h
    · refine goalsF_bnd F0 W0 N xs ss (i+1) _ G h (by omega) fun g hg=>?_
      rcases List.mem_append.1 hg with hg | hg
      · exact ho g hg
      · obtain⟨y,_,rfl⟩:=List.mem_map.1 hg
        refine⟨by show i < N;omega,?_⟩
        show -1≤(if _ then _ else _:Int)∧(if _ then _ else _:Int) < _
        split
        · omega
        · have:=findF_range F0 W0 (bareB (ledB (fromG s) y.text)) 0
          unfold findG
          omega
    · cases h
  · exact goalsF_bnd F0 W0 N xs ss (i+1) out G h (by omega) ho
theorem flats_mem:∀ (ps:List PartD) (i:Nat) (q:PartD),ps[i]? = some q→∀ x∈flatD q,x∈flatsD ps
 | [],i,q,h=>by simp at h
 | y :: ys,0,q,h=>by
  simp at h
  subst h
  intro x hx
  rw [flatsD]
  exact List.mem_append_left _ hx
 | y :: ys,i+1,q,h=>by
  intro x hx
  rw [flatsD]
  exact List.mem_append_right _ (flats_mem ys i q (by simpa using h) x hx)
def rnFv (bt bn be bw:Nat):Value:=.func (.func 21) #[] #[.pointer (some ⟨bt,0,none⟩),.pointer (some ⟨bn,0,none⟩),.pointer (some ⟨be,0,none⟩),.pointer (some ⟨bw,0,none⟩)]
/-- The map of texts, as it stands when the closure is made. -/
def TxB (wB:World) (bt bm:Nat) (ns:List NameD) (gs:List GoalD):Prop:=
 wB.cell? ⟨bt,0,none⟩=some (.map (some bm))∧bt < wB.heap.size∧bm < wB.heap.size∧∃ m f,MapI wB bm m (.slice none 0 0) f∧∀ k:Nat,∃ S c,f k = .slice S (textsN ns gs k).length c∧Sl wB wB.heap.size 1 S (textsN ns gs k).length ((textsN ns gs k).map str)
/-- The three boxes behind it: the part's number, the first error, the function itself. -/
def RB (wB w:World) (bt bn be bw base i e:Nat):Prop:=
 w.heap[bn]? = some (.cells #[.int .i64 (i:Nat)] 3 (0,0))∧w.heap[be]? = some (.cells #[.int .i64 (e:Nat)] 27 (0,0))∧w.heap[bw]? = some (.cells #[rnFv bt bn be bw] 50 (0,0)) ∧
 Below wB.heap.size wB w∧wB.heap.size≤bn∧wB.heap.size≤be∧wB.heap.size≤bw∧bn < base∧be < base∧bw < base∧base≤w.heap.size∧bn≠be∧bn≠bw∧be≠bw
/-- Two blocks may have changed. -/
def Kp2 (bn be:Nat) (w w':World):Prop:=w.heap.size≤w'.heap.size∧∀ j,j < w.heap.size→j≠bn→j≠be→w'.heap[j]? = w.heap[j]?
theorem Kp2.refl (bn be:Nat) (w:World):Kp2 bn be w w:=⟨Nat.le_refl _,fun _ _ _ _=>rfl⟩
theorem Kp2.trans {bn be:Nat} {a b c:World} (h:Kp2 bn be a b) (k:Kp2 bn be b c):Kp2 bn be a c:=
 ⟨Nat.le_trans h.1 k.1,fun j hj h1 h2=>(k.2 j (Nat.lt_of_lt_of_le hj h.1) h1 h2).trans (h.2 j hj h1 h2)⟩
theorem Kp2.below {bn be:Nat} {a b c:World} (h:Kp2 bn be a b) (k:Below b.heap.size b c):Kp2 bn be a c:=
 ⟨Nat.le_trans h.1 k.size,fun j hj h1 h2=>(k.block j (Nat.lt_of_lt_of_le hj h.1)).trans (h.2 j hj h1 h2)⟩
theorem Kp2.of_below {bn be:Nat} {a b:World} (k:Below a.heap.size a b):Kp2 bn be a b:=(Kp2.refl bn be a).below k
theorem Kp2.far {bn be:Nat} {a b:World} (h:Kp2 bn be a b) {x:Nat} (hx:a.heap.size≤x) (k:Nat) (u:Value):Kp2 bn be a (b.setCell ⟨x,k,none⟩ u):=
 ⟨by simpa [World.setCell] using h.1,fun j hj h1 h2=>(Below.heap_setCell b ⟨x,k,none⟩ u j (by show j≠x;omega)).trans (h.2 j hj h1 h2)⟩
section
variable {wB w w':World} {bt bn be bw base i e:Nat}
theorem RB.below (h:RB wB w bt bn be bw base i e) (hb:Below w.heap.size w w'):RB wB w' bt bn be bw base i e:=by
 obtain⟨h1,h2,h3,h4,h5,h6,h7,h8,h9,h10,h11,h12⟩:=h
 exact⟨(hb.block bn (by omega)).trans h1,(hb.block be (by omega)).trans h2,(hb.block bw (by omega)).trans h3,h4.trans (hb.mono h4.size),h5,h6,h7,h8,h9,h10,Nat.le_trans h11 hb.size,h12⟩
theorem RB.belowB (h:RB wB w bt bn be bw base i e) {B:Nat} (hB:base≤B) (hb:Below B w w'):RB wB w' bt bn be bw base i e:=by
 obtain⟨h1,h2,h3,h4,h5,h6,h7,h8,h9,h10,h11,h12⟩:=h
 exact⟨(hb.block bn (by omega)).trans h1,(hb.block be (by omega)).trans h2,(hb.block bw (by omega)).trans h3,h4.trans (hb.mono (by omega)),h5,h6,h7,h8,h9,h10,Nat.le_trans h11 hb.size,h12⟩
theorem RB.far (h:RB wB w bt bn be bw base i e) {x:Nat} (hx:base≤x) (k:Nat) (u:Value):RB wB (w.setCell ⟨x,k,none⟩ u) bt bn be bw base i e:=by
 obtain⟨h1,h2,h3,h4,h5,h6,h7,h8,h9,h10,h11,h12⟩:=h
 refine⟨?_,?_,?_,h4.setCell (by show wB.heap.size≤x;omega) _,h5,h6,h7,h8,h9,h10,by simpa [World.setCell] using h11,h12⟩
 · rw [Below.heap_setCell w ⟨x,k,none⟩ u bn (by show bn≠x;omega)];exact h1
 · rw [Below.heap_setCell w ⟨x,k,none⟩ u be (by show be≠x;omega)];exact h2
 · rw [Below.heap_setCell w ⟨x,k,none⟩ u bw (by show bw≠x;omega)];exact h3
theorem RB.setN (h:RB wB w bt bn be bw base i e) (j:Nat):RB wB (w.setCell ⟨bn,0,none⟩ (.int .i64 (j:Nat))) bt bn be bw base j e∧Kp2 bn be w (w.setCell ⟨bn,0,none⟩ (.int .i64 (j:Nat))):=by
 obtain⟨h1,h2,h3,h4,h5,h6,h7,h8,h9,h10,h11,h12,h13,h14⟩:=h
 refine⟨⟨?_,?_,?_,h4.setCell h5 _,h5,h6,h7,h8,h9,h10,by simpa [World.setCell] using h11,h12,h13,h14⟩,by simp [World.setCell],fun k _ hk _=>Below.heap_setCell w ⟨bn,0,none⟩ _ k hk⟩
 · simp only [World.setCell,Array.getElem?_modify,if_pos,h1,Option.map_some];rfl
 · rw [Below.heap_setCell w ⟨bn,0,none⟩ _ be (by show be≠bn;omega)];exact h2
 · rw [Below.heap_setCell w ⟨bn,0,none⟩ _ bw (by show bw≠bn;omega)];exact h3
theorem RB.setE (h:RB wB w bt bn be bw base i e) (j:Nat):RB wB (w.setCell ⟨be,0,none⟩ (.int .i64 (j:Nat))) bt bn be bw base i j∧Kp2 bn be w (w.setCell ⟨be,0,none⟩ (.int .i64 (j:Nat))):=by
 obtain⟨h1,h2,h3,h4,h5,h6,h7,h8,h9,h10,h11,h12,h13,h14⟩:=h
 refine⟨⟨?_,?_,?_,h4.setCell h6 _,h5,h6,h7,h8,h9,h10,by simpa [World.setCell] using h11,h12,h13,h14⟩,by simp [World.setCell],fun k _ _ hk=>Below.heap_setCell w ⟨be,0,none⟩ _ k hk⟩
 · rw [Below.heap_setCell w ⟨be,0,none⟩ _ bn (by show bn≠be;omega)];exact h1
 · simp only [World.setCell,Array.getElem?_modify,if_pos,h2,Option.map_some];rfl
 · rw [Below.heap_setCell w ⟨be,0,none⟩ _ bw (by show bw≠be;omega)];exact h3
theorem RB.cells (h:RB wB w bt bn be bw base i e):(w.cell? ⟨bn,0,none⟩=some (.int .i64 (i:Nat))∧w.frozen? ⟨bn,0,none⟩=false)∧(w.cell? ⟨be,0,none⟩=some (.int .i64 (e:Nat))∧w.frozen? ⟨be,0,none⟩=false)∧w.cell? ⟨bw,0,none⟩=some (rnFv bt bn be bw):=by
 obtain⟨h1,h2,h3,_⟩:=h
 refine⟨⟨?_,?_⟩,⟨?_,?_⟩,?_⟩
 · unfold World.cell?;rw [h1];rfl
 · unfold World.frozen?;rw [h1];simp
 · unfold World.cell?;rw [h2];rfl
 · unfold World.frozen?;rw [h2];simp
 · unfold World.cell?;rw [h3];rfl
end
theorem Kp2.cell {bn be:Nat} {a b:World} (h:Kp2 bn be a b) {p:Addr} (h1:p.block < a.heap.size) (h2:p.block≠bn) (h3:p.block≠be):b.cell? p=a.cell? p:=World.cell?_of_block (h.2 _ h1 h2 h3)
theorem own_same {w w':World} {base:Nat} {e:TypeId} {size:Nat} {v:Value} {n:Nat} {xs:List Value} (h:w.ownsRow base e size v n xs) (hb:∀ k,v.ownBlock=some k→w'.heap[k]? = w.heap[k]?):w'.ownsRow base e size v n xs:=by
 refine⟨h.1,?_⟩
 rcases h.2 with hn | ⟨g,cap,cur,rfl,h1,h2,h3⟩
 · exact .inl hn
 · exact .inr ⟨g,cap,cur,rfl,h1,(hb g rfl).trans h2,h3⟩
theorem zeroStrs (w:World):(zeroValue 40).run Tryz.prog w = .ok (.slice none 0 0) w:=by kernel_rfl
/-- Memory that a part put together lies in: what was there ahead, or what is new. -/
def OldNew (B L:Nat) (w:World) (b:Nat):Prop:=b < B∨(L≤b∧b < w.heap.size)
def OldNewB (B L:Nat) (v:Value) (w:World) (b:Nat):Prop:=b < B∨(L≤b∧b < w.heap.size∧Value.ownBlock v≠some b)
/-- The loop over the parts in one. -/
def RnRel (L0:Nat) (wB wS:World) (bt bn be bw base T:Nat) (ns:List NameD) (gs:List GoalD) (ps:List PartD) (R:List PartD × Nat) (lv iv:Value) (wr:World):Prop:=
 ∃ (j c ij ej:Nat) (S:Option Addr) (rows:List (List Value)) (out:List PartD),lv = .slice S j c∧iv = .int .i64 (j:Nat)∧j≤ps.length ∧
  wr.ownsRow wS.heap.size 25 7 (.slice S j c) j rows.flatten∧PartsAt (OldNewB L0 wS.heap.size (.slice S j c) wr) wr out rows∧RB wB wr bt bn be bw base ij ej∧Kp2 bn be wS wr ∧
  Hid ((out ++ (rensD ns gs (ps.drop j) ij ej).1,(rensD ns gs (ps.drop j) ij ej).2)=R)∧ij+(flatsD (ps.drop j)).length=T
end Go.Proofs.YtlgbopjhmemaoaaGreatDoor
