import Derived.Test.YtlgbopjhmemaoaaGreatDoorU19
import Derived.Test.YtlgbopjhmemaoaaGreatDoorU4
import Derived.Deep.DeepCutAuto
set_option maxRecDepth 100000
set_option maxHeartbeats 40000000
namespace Go.Proofs.YtlgbopjhmemaoaaGreatDoor
open Go.RowKit
theorem split_head (c:UInt8):∀ l,(splitC c l).head? = some (l.takeWhile (fun b=>b != c))
 | []=>rfl
 | b :: l=>by
  have ih:=split_head c l
  unfold splitC
  by_cases h:b=c
  · rw [if_pos h];simp [h]
  · rw [if_neg h]
    cases h2:splitC c l with
    | nil=>rw [h2] at ih;cases ih
    | cons x r =>
     rw [h2] at ih
     simp only [List.head?_cons,Option.some.injEq] at ih
     simp [consHead,h,ih]
theorem r_one {b:Bool} (x:Nat) (h:b=false):(if b=false then 1 else x)=1:=by rw [h];rfl
theorem r_two {b a c:Bool} (x:Nat) (h:b=true) (h2:a=false) (h3:c=false):(if b=false then 1 else if (a || c)=true then 4 else x)=x:=by rw [h,h2,h3];simp
theorem r_fourA {b a c:Bool} (x:Nat) (h:b=true) (h2:a=true):(if b=false then 1 else if (a || c)=true then 4 else x)=4:=by rw [h,h2];simp
theorem r_fourB {b a c:Bool} (x:Nat) (h:b=true) (h2:c=true):(if b=false then 1 else if (a || c)=true then 4 else x)=4:=by rw [h,h2];simp
theorem RCheck_any (sc ho pa qu fr:List UInt8) (hh hq hf:Bool) (w:World) (hM:MaxLenOk w) :
 Calls Tryz.prog 139 #[.agg #[str sc,.bool hh,str ho,str pa,.bool hq,str qu,.bool hf,str fr]] w fun e w'=>e = .returned (.int .i64 (checkU ⟨sc,hh,ho,pa,hq,qu,hf,fr⟩:Nat))∧Below w.heap.size w w':=by
 obtain⟨wA,hwA⟩:∃ W,W=w.alloc (.cells #[str sc,.bool hh,str ho,str pa,.bool hq,str qu,.bool hf,str fr] 103):=⟨_,rfl⟩
 have hbA:Below w.heap.size w wA:=by rw [hwA];exact(Below.refl _ w).alloc (Nat.le_refl _) _
 have hux:UB wA w.heap.size ⟨sc,hh,ho,pa,hq,qu,hf,fr⟩:=by rw [hwA];exact UB.new w ⟨sc,hh,ho,pa,hq,qu,hf,fr⟩
 have sA:wA.heap.size=w.heap.size+1:=by rw [hwA];simp
 obtain⟨W,hW⟩:∃ W,W=wA.alloc (.cells #[str sc,str ho,str pa,str qu,str fr] 9):=⟨_,rfl⟩
 have hbW:Below wA.heap.size wA W:=by rw [hW];exact(Below.refl _ wA).alloc (Nat.le_refl _) _
 have hu:UB W w.heap.size ⟨sc,hh,ho,pa,hq,qu,hf,fr⟩:=hux.below hbW
 have hbel:Below w.heap.size w W:=hbA.trans (hbW.mono hbA.size)
 have hc:W.cell? ⟨w.heap.size+1,0,none⟩=some (str sc)∧W.cell? ⟨w.heap.size+1,1,none⟩=some (str ho)∧W.cell? ⟨w.heap.size+1,2,none⟩=some (str pa)∧W.cell? ⟨w.heap.size+1,3,none⟩=some (str qu)∧W.cell? ⟨w.heap.size+1,4,none⟩=some (str fr):=by
  have h:=heap_alloc_new wA (.cells #[str sc,str ho,str pa,str qu,str fr] 9)
  rw [← hW,sA] at h
  refine⟨?_,?_,?_,?_,?_⟩ <;> (unfold World.cell?;rw [h];rfl)
 have hWW:W=(w.alloc (.cells #[str sc,.bool hh,str ho,str pa,.bool hq,str qu,.bool hf,str fr] 103)).alloc (.cells #[str sc,str ho,str pa,str qu,str fr] 9):=by rw [hW,hwA]
 clear hwA hbA hux sA hW hbW
 obtain⟨R,hR⟩:∃ R,R=checkU ⟨sc,hh,ho,pa,hq,qu,hf,fr⟩:=⟨_,rfl⟩
 rw [← hR]
 have HR:=Lib.hid hR
 have HM:=Lib.hid hM
 clear hR hM
 obtain⟨k0,k1,k2,k3,k4⟩:=hc
 go_enter Tryz.func139,Tryz.ntmps139
 go_wp2_with fail
 rw [← hWW]
 clear hWW
 go_loopw [18] (fun iv wr=>∃ i:Nat,i≤5∧iv = .int .i64 i∧wr=W∧Hid (0 < i→sc.length≤120)∧Hid (1 < i→ho.length≤120)∧Hid (2 < i→pa.length≤120)∧Hid (3 < i→qu.length≤120)∧Hid (4 < i→fr.length≤120)) (fun iv _=>5 - (intOf iv).toNat)
 case atStart=>exact⟨0,by omega,rfl,rfl,fun h=>absurd h (by omega),fun h=>absurd h (by omega),fun h=>absurd h (by omega),fun h=>absurd h (by omega),fun h=>absurd h (by omega)⟩
 case round =>
  obtain⟨i,hi,rfl,rfl,g0,g1,g2,g3,g4⟩:=hrel
  rcases(by omega:i=0∨i=1∨i=2∨i=3∨i=4∨i=5) with rfl | rfl | rfl | rfl | rfl | rfl
  · skip
    by_cases hl:120 < sc.length
    · have d0:decide (120 < (sc.length:Int))=true:=decide_eq_true (by omega)
      have hlong:checkU ⟨sc,hh,ho,pa,hq,qu,hf,fr⟩=2:=check_long (by simp [longU,hl])
      have HL:=Lib.hid hlong
      clear hl hlong g0 g1 g2 g3 g4
      go_wp2_with fail
      go_ret
      exact⟨by rw [HR.out,HL.out];rfl,hbel⟩
    · have d0:decide (120 < (sc.length:Int))=false:=decide_eq_false (by omega)
      have HL:=Lib.hid (show sc.length≤120 by omega)
      clear hl g0 g1 g2 g3 g4
      go_wp2_with fail
      exact⟨⟨1,by omega,rfl,trivial,fun _=>HL.out,fun h=>absurd h (by omega),fun h=>absurd h (by omega),fun h=>absurd h (by omega),fun h=>absurd h (by omega)⟩,by simp [intOf]⟩
  · skip
    have G0:=Lib.hid (g0.out (by omega))
    by_cases hl:120 < ho.length
    · have d0:decide (120 < (ho.length:Int))=true:=decide_eq_true (by omega)
      have hlong:checkU ⟨sc,hh,ho,pa,hq,qu,hf,fr⟩=2:=check_long (by simp [longU,hl])
      have HL:=Lib.hid hlong
      clear hl hlong g0 g1 g2 g3 g4
      go_wp2_with fail
      go_ret
      exact⟨by rw [HR.out,HL.out];rfl,hbel⟩
    · have d0:decide (120 < (ho.length:Int))=false:=decide_eq_false (by omega)
      have HL:=Lib.hid (show ho.length≤120 by omega)
      clear hl g0 g1 g2 g3 g4
      go_wp2_with fail
      exact⟨⟨2,by omega,rfl,trivial,fun _=>G0.out,fun _=>HL.out,fun h=>absurd h (by omega),fun h=>absurd h (by omega),fun h=>absurd h (by omega)⟩,by simp [intOf]⟩
  · skip
    have G0:=Lib.hid (g0.out (by omega))
    have G1:=Lib.hid (g1.out (by omega))
    by_cases hl:120 < pa.length
    · have d0:decide (120 < (pa.length:Int))=true:=decide_eq_true (by omega)
      have hlong:checkU ⟨sc,hh,ho,pa,hq,qu,hf,fr⟩=2:=check_long (by simp [longU,hl])
      have HL:=Lib.hid hlong
      clear hl hlong g0 g1 g2 g3 g4
      go_wp2_with fail
      go_ret
      exact⟨by rw [HR.out,HL.out];rfl,hbel⟩
    · have d0:decide (120 < (pa.length:Int))=false:=decide_eq_false (by omega)
      have HL:=Lib.hid (show pa.length≤120 by omega)
      clear hl g0 g1 g2 g3 g4
      go_wp2_with fail
      exact⟨⟨3,by omega,rfl,trivial,fun _=>G0.out,fun _=>G1.out,fun _=>HL.out,fun h=>absurd h (by omega),fun h=>absurd h (by omega)⟩,by simp [intOf]⟩
  · skip
    have G0:=Lib.hid (g0.out (by omega))
    have G1:=Lib.hid (g1.out (by omega))
    have G2:=Lib.hid (g2.out (by omega))
    by_cases hl:120 < qu.length
    · have d0:decide (120 < (qu.length:Int))=true:=decide_eq_true (by omega)
      have hlong:checkU ⟨sc,hh,ho,pa,hq,qu,hf,fr⟩=2:=check_long (by simp [longU,hl])
      have HL:=Lib.hid hlong
      clear hl hlong g0 g1 g2 g3 g4
      go_wp2_with fail
      go_ret
      exact⟨by rw [HR.out,HL.out];rfl,hbel⟩
    · have d0:decide (120 < (qu.length:Int))=false:=decide_eq_false (by omega)
      have HL:=Lib.hid (show qu.length≤120 by omega)
      clear hl g0 g1 g2 g3 g4
      go_wp2_with fail
      exact⟨⟨4,by omega,rfl,trivial,fun _=>G0.out,fun _=>G1.out,fun _=>G2.out,fun _=>HL.out,fun h=>absurd h (by omega)⟩,by simp [intOf]⟩
  · skip
    have G0:=Lib.hid (g0.out (by omega))
    have G1:=Lib.hid (g1.out (by omega))
    have G2:=Lib.hid (g2.out (by omega))
    have G3:=Lib.hid (g3.out (by omega))
    by_cases hl:120 < fr.length
    · have d0:decide (120 < (fr.length:Int))=true:=decide_eq_true (by omega)
      have hlong:checkU ⟨sc,hh,ho,pa,hq,qu,hf,fr⟩=2:=check_long (by simp [longU,hl])
      have HL:=Lib.hid hlong
      clear hl hlong g0 g1 g2 g3 g4
      go_wp2_with fail
      go_ret
      exact⟨by rw [HR.out,HL.out];rfl,hbel⟩
    · have d0:decide (120 < (fr.length:Int))=false:=decide_eq_false (by omega)
      have HL:=Lib.hid (show fr.length≤120 by omega)
      clear hl g0 g1 g2 g3 g4
      go_wp2_with fail
      exact⟨⟨5,by omega,rfl,trivial,fun _=>G0.out,fun _=>G1.out,fun _=>G2.out,fun _=>G3.out,fun _=>HL.out⟩,by simp [intOf]⟩
  · have l0:=g0.out (by omega)
    have l1:=g1.out (by omega)
    have l2:=g2.out (by omega)
    have l3:=g3.out (by omega)
    have l4:=g4.out (by omega)
    have hs:checkU ⟨sc,hh,ho,pa,hq,qu,hf,fr⟩=chkU ⟨sc,hh,ho,pa,hq,qu,hf,fr⟩:=by unfold checkU;rw [if_neg];simp [longU];omega
    have hR2:=HR.out.trans hs
    unfold chkU at hR2
    obtain⟨ok,hok⟩:∃ ok,ok=okU ⟨sc,hh,ho,pa,hq,qu,hf,fr⟩:=⟨_,rfl⟩
    rw [← hok] at hR2
    have KT:=Lib.hid (fun X=>RText_any sc ho pa qu fr hh hq hf X (by omega) (by omega) (by omega) (by omega) (by omega))
    generalize textU ⟨sc,hh,ho,pa,hq,qu,hf,fr⟩=tx at hR2 KT
    unfold okU at hok
    simp only at hok
    have kS:=fun X=>isScheme_any sc X (by unfold maxLen;omega)
    have kH:∀ X,Calls Tryz.prog 49 #[str ho,.int .u8 33,.int .u8 126,.string ⟨#[34,60,62,92,94,96,123,124,125,47,63,35,65,66,67,68,69,70,71,72,73,74,75,76,77,78,79,80,81,82,83,84,85,86,87,88,89,90]⟩] X fun e w'=>e = .returned (.bool (wordU ho [47,63,35] && (ho == lowL ho)))∧X=w':=fun X=>by
     rw [← between_host]
     exact(between_any ho 33 126 ⟨#[34,60,62,92,94,96,123,124,125,47,63,35,65,66,67,68,69,70,71,72,73,74,75,76,77,78,79,80,81,82,83,84,85,86,87,88,89,90]⟩ X (by unfold maxLen;omega) (by omega) (by omega)).mono fun _ _ h=>⟨h.1,h.2.symm⟩
    have kP:∀ X,Calls Tryz.prog 49 #[str pa,.int .u8 33,.int .u8 126,.string ⟨#[34,60,62,92,94,96,123,124,125,63,35]⟩] X fun e w'=>e = .returned (.bool (wordU pa [63,35]))∧X=w':=fun X=>by
     rw [← between_path]
     exact(between_any pa 33 126 ⟨#[34,60,62,92,94,96,123,124,125,63,35]⟩ X (by unfold maxLen;omega) (by omega) (by omega)).mono fun _ _ h=>⟨h.1,h.2.symm⟩
    have kQ:∀ X,Calls Tryz.prog 49 #[str qu,.int .u8 33,.int .u8 126,.string ⟨#[34,60,62,92,94,96,123,124,125,35]⟩] X fun e w'=>e = .returned (.bool (wordU qu [35]))∧X=w':=fun X=>by
     rw [← between_frag]
     exact(between_any qu 33 126 ⟨#[34,60,62,92,94,96,123,124,125,35]⟩ X (by unfold maxLen;omega) (by omega) (by omega)).mono fun _ _ h=>⟨h.1,h.2.symm⟩
    have kF:∀ X,Calls Tryz.prog 49 #[str fr,.int .u8 33,.int .u8 126,.string ⟨#[34,60,62,92,94,96,123,124,125,35]⟩] X fun e w'=>e = .returned (.bool (wordU fr [35]))∧X=w':=fun X=>by
     rw [← between_frag]
     exact(between_any fr 33 126 ⟨#[34,60,62,92,94,96,123,124,125,35]⟩ X (by unfold maxLen;omega) (by omega) (by omega)).mono fun _ _ h=>⟨h.1,h.2.symm⟩
    generalize schemeU sc=b0 at kS hok
    obtain⟨b1,hb1⟩:∃ b,b=(wordU ho [47,63,35] && (ho == lowL ho)):=⟨_,rfl⟩
    rw [← Bool.and_assoc (wordU ho [47,63,35]),← hb1] at hok
    rw [← hb1] at kH
    clear hb1
    generalize wordU pa [63,35]=b2 at kP hok
    generalize wordU qu [35]=b3 at kQ hok
    generalize wordU fr [35]=b4 at kF hok
    have Hok:=Lib.hid hok
    have HR2:=Lib.hid hR2
    have KS:=Lib.hid kS
    have KH:=Lib.hid kH
    have KP:=Lib.hid kP
    have KQ:=Lib.hid kQ
    have KF:=Lib.hid kF
    clear hok hR2 kS kH kP kQ kF hs HR g0 g1 g2 g3 g4 k0 k1 k2 k3 k4
    cases b0
    · skip
      obtain⟨c0,c1,c2,c3,c4,c5,c6,c7⟩:=hu.box
      go_wp2_with fail
      refine(KS.out _).mono ?_
      rintro e w1 ⟨rfl,hb1⟩
      have hu1:=hu.below hb1
      have hbel1:=hbel.trans (hb1.mono hbel.size)
      clear c0 c1 c2 c3 c4 c5 c6 c7
      obtain⟨c0,c1,c2,c3,c4,c5,c6,c7⟩:=hu1.box
      clear hb1
      go_wp2_with fail
      go_ret
      exact⟨by rw [HR2.out,r_one _ (by rw [Hok.out];simp)];rfl,hbel1⟩
    cases b1
    · skip
      obtain⟨c0,c1,c2,c3,c4,c5,c6,c7⟩:=hu.box
      go_wp2_with fail
      refine(KS.out _).mono ?_
      rintro e w1 ⟨rfl,hb1⟩
      have hu1:=hu.below hb1
      have hbel1:=hbel.trans (hb1.mono hbel.size)
      clear c0 c1 c2 c3 c4 c5 c6 c7
      obtain⟨c0,c1,c2,c3,c4,c5,c6,c7⟩:=hu1.box
      clear hb1
      go_wp2_with fail
      refine(KH.out _).mono ?_
      rintro e wx ⟨rfl,rfl⟩
      go_wp2_with fail
      go_ret
      exact⟨by rw [HR2.out,r_one _ (by rw [Hok.out];simp)];rfl,hbel1⟩
    cases b2
    · skip
      obtain⟨c0,c1,c2,c3,c4,c5,c6,c7⟩:=hu.box
      go_wp2_with fail
      refine(KS.out _).mono ?_
      rintro e w1 ⟨rfl,hb1⟩
      have hu1:=hu.below hb1
      have hbel1:=hbel.trans (hb1.mono hbel.size)
      clear c0 c1 c2 c3 c4 c5 c6 c7
      obtain⟨c0,c1,c2,c3,c4,c5,c6,c7⟩:=hu1.box
      clear hb1
      go_wp2_with fail
      refine(KH.out _).mono ?_
      rintro e wx ⟨rfl,rfl⟩
      go_wp2_with fail
      refine(KP.out _).mono ?_
      rintro e wx ⟨rfl,rfl⟩
      go_wp2_with fail
      go_ret
      exact⟨by rw [HR2.out,r_one _ (by rw [Hok.out];simp)];rfl,hbel1⟩
    cases b3
    · skip
      obtain⟨c0,c1,c2,c3,c4,c5,c6,c7⟩:=hu.box
      go_wp2_with fail
      refine(KS.out _).mono ?_
      rintro e w1 ⟨rfl,hb1⟩
      have hu1:=hu.below hb1
      have hbel1:=hbel.trans (hb1.mono hbel.size)
      clear c0 c1 c2 c3 c4 c5 c6 c7
      obtain⟨c0,c1,c2,c3,c4,c5,c6,c7⟩:=hu1.box
      clear hb1
      go_wp2_with fail
      refine(KH.out _).mono ?_
      rintro e wx ⟨rfl,rfl⟩
      go_wp2_with fail
      refine(KP.out _).mono ?_
      rintro e wx ⟨rfl,rfl⟩
      go_wp2_with fail
      refine(KQ.out _).mono ?_
      rintro e wx ⟨rfl,rfl⟩
      go_wp2_with fail
      go_ret
      exact⟨by rw [HR2.out,r_one _ (by rw [Hok.out];simp)];rfl,hbel1⟩
    cases b4
    · skip
      obtain⟨c0,c1,c2,c3,c4,c5,c6,c7⟩:=hu.box
      go_wp2_with fail
      refine(KS.out _).mono ?_
      rintro e w1 ⟨rfl,hb1⟩
      have hu1:=hu.below hb1
      have hbel1:=hbel.trans (hb1.mono hbel.size)
      clear c0 c1 c2 c3 c4 c5 c6 c7
      obtain⟨c0,c1,c2,c3,c4,c5,c6,c7⟩:=hu1.box
      clear hb1
      go_wp2_with fail
      refine(KH.out _).mono ?_
      rintro e wx ⟨rfl,rfl⟩
      go_wp2_with fail
      refine(KP.out _).mono ?_
      rintro e wx ⟨rfl,rfl⟩
      go_wp2_with fail
      refine(KQ.out _).mono ?_
      rintro e wx ⟨rfl,rfl⟩
      go_wp2_with fail
      refine(KF.out _).mono ?_
      rintro e wx ⟨rfl,rfl⟩
      go_wp2_with fail
      go_ret
      exact⟨by rw [HR2.out,r_one _ (by rw [Hok.out];simp)];rfl,hbel1⟩
    obtain⟨c0,c1,c2,c3,c4,c5,c6,c7⟩:=hu.box
    go_wp2_with fail
    refine(KS.out _).mono ?_
    rintro e w1 ⟨rfl,hb1⟩
    have hu1:=hu.below hb1
    have hbel1:=hbel.trans (hb1.mono hbel.size)
    clear c0 c1 c2 c3 c4 c5 c6 c7
    obtain⟨c0,c1,c2,c3,c4,c5,c6,c7⟩:=hu1.box
    clear hb1
    go_wp2_with fail
    refine(KH.out _).mono ?_
    rintro e wx ⟨rfl,rfl⟩
    go_wp2_with fail
    refine(KP.out _).mono ?_
    rintro e wx ⟨rfl,rfl⟩
    go_wp2_with fail
    refine(KQ.out _).mono ?_
    rintro e wx ⟨rfl,rfl⟩
    go_wp2_with fail
    refine(KF.out _).mono ?_
    rintro e wx ⟨rfl,rfl⟩
    go_upto_region 10 with fail
    clear c0 c1 c2 c3 c4 c5 c6 c7 KS KH KP KQ KF hu hbel
    have Hok2:=Lib.hid (show ok=true by rw [Hok.out];rfl)
    clear Hok
    go_cut [78] (fun s78 wx=>s78 = .bool (formA ⟨sc,hh,ho,pa,hq,qu,hf,fr⟩)∧wx=w1)
    case first =>
     obtain⟨c0,c1,c2,c3,c4,c5,c6,c7⟩:=hu1.box
     by_cases e0:ho = []
     · have d0:(ho == [])=true:=by rw [e0];rfl
       have E0:=Lib.hid e0
       clear e0
       by_cases e1:qu = []
       · have d1:(qu == [])=true:=by rw [e1];rfl
         have E1:=Lib.hid e1
         clear e1
         by_cases e2:fr = []
         · have d2:(fr == [])=true:=by rw [e2];rfl
           have E2:=Lib.hid e2
           clear e2
           go_wp2_with fail
           go_meet
           exact⟨by simp [formA, *],rfl⟩
         · have d2:(fr == [])=false:=by simpa using e2
           have E2:=Lib.hid e2
           clear e2
           obtain⟨x2,X2⟩:∃ q,q=hf:=⟨_,rfl⟩
           cases hf
           · go_wp2_with fail
             go_meet
             exact⟨by simp [formA, *],rfl⟩
           · skip
             go_wp2_with fail
             go_meet
             exact⟨by simp [formA, *],rfl⟩
       · have d1:(qu == [])=false:=by simpa using e1
         have E1:=Lib.hid e1
         clear e1
         obtain⟨x1,X1⟩:∃ q,q=hq:=⟨_,rfl⟩
         cases hq
         · go_wp2_with fail
           go_meet
           exact⟨by simp [formA, *],rfl⟩
         · skip
           by_cases e2:fr = []
           · have d2:(fr == [])=true:=by rw [e2];rfl
             have E2:=Lib.hid e2
             clear e2
             go_wp2_with fail
             go_meet
             exact⟨by simp [formA, *],rfl⟩
           · have d2:(fr == [])=false:=by simpa using e2
             have E2:=Lib.hid e2
             clear e2
             obtain⟨x2,X2⟩:∃ q,q=hf:=⟨_,rfl⟩
             cases hf
             · go_wp2_with fail
               go_meet
               exact⟨by simp [formA, *],rfl⟩
             · skip
               go_wp2_with fail
               go_meet
               exact⟨by simp [formA, *],rfl⟩
     · have d0:(ho == [])=false:=by simpa using e0
       have E0:=Lib.hid e0
       clear e0
       obtain⟨x0,X0⟩:∃ q,q=hh:=⟨_,rfl⟩
       cases hh
       · go_wp2_with fail
         go_meet
         exact⟨by simp [formA, *],rfl⟩
       · skip
         by_cases e1:qu = []
         · have d1:(qu == [])=true:=by rw [e1];rfl
           have E1:=Lib.hid e1
           clear e1
           by_cases e2:fr = []
           · have d2:(fr == [])=true:=by rw [e2];rfl
             have E2:=Lib.hid e2
             clear e2
             go_wp2_with fail
             go_meet
             exact⟨by simp [formA, *],rfl⟩
           · have d2:(fr == [])=false:=by simpa using e2
             have E2:=Lib.hid e2
             clear e2
             obtain⟨x2,X2⟩:∃ q,q=hf:=⟨_,rfl⟩
             cases hf
             · go_wp2_with fail
               go_meet
               exact⟨by simp [formA, *],rfl⟩
             · skip
               go_wp2_with fail
               go_meet
               exact⟨by simp [formA, *],rfl⟩
         · have d1:(qu == [])=false:=by simpa using e1
           have E1:=Lib.hid e1
           clear e1
           obtain⟨x1,X1⟩:∃ q,q=hq:=⟨_,rfl⟩
           cases hq
           · go_wp2_with fail
             go_meet
             exact⟨by simp [formA, *],rfl⟩
           · skip
             by_cases e2:fr = []
             · have d2:(fr == [])=true:=by rw [e2];rfl
               have E2:=Lib.hid e2
               clear e2
               go_wp2_with fail
               go_meet
               exact⟨by simp [formA, *],rfl⟩
             · have d2:(fr == [])=false:=by simpa using e2
               have E2:=Lib.hid e2
               clear e2
               obtain⟨x2,X2⟩:∃ q,q=hf:=⟨_,rfl⟩
               cases hf
               · go_wp2_with fail
                 go_meet
                 exact⟨by simp [formA, *],rfl⟩
               · skip
                 go_wp2_with fail
                 go_meet
                 exact⟨by simp [formA, *],rfl⟩
    case rest =>
     obtain⟨rfl,rfl⟩:=hcut
     obtain⟨pA,hpA⟩:∃ q,q=formA ⟨sc,hh,ho,pa,hq,qu,hf,fr⟩:=⟨_,rfl⟩
     rw [← hpA]
     have HpA:=Lib.hid hpA
     clear hpA
     cases pA
     rotate_left
     · go_wp2_with fail
       go_ret
       exact⟨by rw [HR2.out,r_fourA _ Hok2.out HpA.out.symm];rfl,hbel1⟩
     obtain⟨c0,c1,c2,c3,c4,c5,c6,c7⟩:=hu1.box
     cases hh
     · have kP:=fun X=>HasPrefix_any pa [47,47] X
       cases hpp:Lib.hasPrefix pa [47,47]
       · rw [hpp] at kP
         have KP:=Lib.hid kP
         have Hpp:=Lib.hid hpp
         clear kP hpp
         by_cases hsc:sc = []
         · have esc:(sc == [])=true:=by rw [hsc];rfl
           have Hsc:=Lib.hid hsc
           clear hsc
           have hS:=fun X h=>Split_one pa X h (by omega)
           obtain⟨x,r,hxr⟩:∃ x r,splitC 47 pa=x :: r:=by
            cases h:splitC 47 pa with
            | nil=>exact absurd h (splitC_ne 47 pa)
            | cons x r=>exact⟨x,r,rfl⟩
           have hxx:x=(Lib.cut pa [47]).1:=by
            have:=split_head 47 pa
            rw [hxr] at this
            simp only [List.head?_cons,Option.some.injEq] at this
            rw [this,cut_tw]
           rw [hxr] at hS
           obtain⟨q,hq2⟩:∃ q,q=decide (0≤Lib.indexByte x 58):=⟨_,rfl⟩
           have kC:=fun X=>Contains_one x 58 X
           rw [← hq2] at kC
           rw [hxx] at hq2
           have Hq2:=Lib.hid hq2
           have KC:=Lib.hid kC
           have HS:=Lib.hid hS
           clear kC hS hq2 hxr hxx
           go_wp2_with fail
           refine(KP.out _).mono ?_
           rintro e wP ⟨rfl,rfl⟩
           go_wp2_with fail
           refine(HS.out _ (HM.out.below hbel1)).mono ?_
           rintro e wS ⟨rfl,hwS⟩
           have hN:=heap_alloc_new wc (.cells (str x :: r.map str).toArray 9)
           have hbS:Below wc.heap.size wc wS:=by rw [hwS];exact(Below.refl _ wc).alloc (Nat.le_refl _) _
           have hcell:wS.cell? ⟨wc.heap.size,0,none⟩=some (str x):=by
            rw [hwS]
            unfold World.cell?
            rw [List.map_cons,hN]
            rfl
           have hpos:(0:Int) < (((x :: r).length:Nat):Int):=by rw [List.length_cons];omega
           have hu2:=hu1.below hbS
           have hbel2:=hbel1.trans (hbS.mono hbel1.size)
           clear hwS hN hbS c0 c1 c2 c3 c4 c5 c6 c7 hu1
           obtain⟨c0,c1,c2,c3,c4,c5,c6,c7⟩:=hu2.box
           go_wp2_with fail
           refine(KC.out _).mono ?_
           rintro e wC ⟨rfl,rfl⟩
           cases q
           · skip
             have HFB:=Lib.hid (show formB (⟨sc,false,ho,pa,hq,qu,hf,fr⟩:UrlD)=false by unfold formB;rw [if_neg (by simp)];simp only;rw [Hpp.out,← Hq2.out];simp)
             by_cases hT:120 < tx.length
             · skip
               have dT:decide (120 < (tx.length:Int))=true:=decide_eq_true (by omega)
               have HT:=Lib.hid hT
               clear hT
               go_wp2_with fail
               refine(KT.out _).mono ?_
               rintro e wz ⟨rfl,hbz⟩
               have HB:=Lib.hid (hbel2.trans (hbz.mono hbel2.size))
               clear hbz
               go_wp2_with fail
               go_ret
               exact⟨by rw [HR2.out,r_two _ Hok2.out HpA.out.symm HFB.out,if_pos HT.out];rfl,HB.out⟩
             · skip
               have dT:decide (120 < (tx.length:Int))=false:=decide_eq_false (by omega)
               have HT:=Lib.hid hT
               clear hT
               go_wp2_with fail
               refine(KT.out _).mono ?_
               rintro e wz ⟨rfl,hbz⟩
               have HB:=Lib.hid (hbel2.trans (hbz.mono hbel2.size))
               clear hbz
               go_wp2_with fail
               go_ret
               exact⟨by rw [HR2.out,r_two _ Hok2.out HpA.out.symm HFB.out,if_neg HT.out];rfl,HB.out⟩
           · go_wp2_with fail
             go_ret
             exact⟨by rw [HR2.out,r_fourB _ Hok2.out (show formB (⟨sc,false,ho,pa,hq,qu,hf,fr⟩:UrlD)=true by unfold formB;rw [if_neg (by simp)];simp only;rw [Hpp.out,← Hq2.out,Hsc.out];rfl)];rfl,hbel2⟩
         · have esc:(sc == [])=false:=by simpa using hsc
           have Hesc:=Lib.hid esc
           clear hsc
           go_wp2_with fail
           refine(KP.out _).mono ?_
           rintro e wP ⟨rfl,rfl⟩
           have HFB:=Lib.hid (show formB (⟨sc,false,ho,pa,hq,qu,hf,fr⟩:UrlD)=false by unfold formB;rw [if_neg (by simp)];simp only;rw [Hpp.out,Hesc.out];rfl)
           by_cases hT:120 < tx.length
           · skip
             have dT:decide (120 < (tx.length:Int))=true:=decide_eq_true (by omega)
             have HT:=Lib.hid hT
             clear hT
             go_wp2_with fail
             refine(KT.out _).mono ?_
             rintro e wz ⟨rfl,hbz⟩
             have HB:=Lib.hid (hbel1.trans (hbz.mono hbel1.size))
             clear hbz
             go_wp2_with fail
             go_ret
             exact⟨by rw [HR2.out,r_two _ Hok2.out HpA.out.symm HFB.out,if_pos HT.out];rfl,HB.out⟩
           · skip
             have dT:decide (120 < (tx.length:Int))=false:=decide_eq_false (by omega)
             have HT:=Lib.hid hT
             clear hT
             go_wp2_with fail
             refine(KT.out _).mono ?_
             rintro e wz ⟨rfl,hbz⟩
             have HB:=Lib.hid (hbel1.trans (hbz.mono hbel1.size))
             clear hbz
             go_wp2_with fail
             go_ret
             exact⟨by rw [HR2.out,r_two _ Hok2.out HpA.out.symm HFB.out,if_neg HT.out];rfl,HB.out⟩
       · rw [hpp] at kP
         have KP:=Lib.hid kP
         have Hpp:=Lib.hid hpp
         clear kP hpp
         go_wp2_with fail
         refine(KP.out _).mono ?_
         rintro e wP ⟨rfl,rfl⟩
         go_wp2_with fail
         go_ret
         exact⟨by rw [HR2.out,r_fourB _ Hok2.out (show formB (⟨sc,false,ho,pa,hq,qu,hf,fr⟩:UrlD)=true by unfold formB;rw [if_neg (by simp)];simp only;rw [Hpp.out];rfl)];rfl,hbel1⟩
     · by_cases hpa:pa = []
       · have epa:(pa == [])=true:=by rw [hpa];rfl
         have Hpa:=Lib.hid hpa
         clear hpa
         have HFB:=Lib.hid (show formB (⟨sc,true,ho,pa,hq,qu,hf,fr⟩:UrlD)=false by unfold formB;rw [if_pos rfl];simp only;rw [Hpa.out];rfl)
         by_cases hT:120 < tx.length
         · skip
           have dT:decide (120 < (tx.length:Int))=true:=decide_eq_true (by omega)
           have HT:=Lib.hid hT
           clear hT
           go_wp2_with fail
           refine(KT.out _).mono ?_
           rintro e wz ⟨rfl,hbz⟩
           have HB:=Lib.hid (hbel1.trans (hbz.mono hbel1.size))
           clear hbz
           go_wp2_with fail
           go_ret
           exact⟨by rw [HR2.out,r_two _ Hok2.out HpA.out.symm HFB.out,if_pos HT.out];rfl,HB.out⟩
         · skip
           have dT:decide (120 < (tx.length:Int))=false:=decide_eq_false (by omega)
           have HT:=Lib.hid hT
           clear hT
           go_wp2_with fail
           refine(KT.out _).mono ?_
           rintro e wz ⟨rfl,hbz⟩
           have HB:=Lib.hid (hbel1.trans (hbz.mono hbel1.size))
           clear hbz
           go_wp2_with fail
           go_ret
           exact⟨by rw [HR2.out,r_two _ Hok2.out HpA.out.symm HFB.out,if_neg HT.out];rfl,HB.out⟩
       · have epa:(pa == [])=false:=by simpa using hpa
         have Hpa:=Lib.hid hpa
         clear hpa
         have kP:=fun X=>HasPrefix_any pa [47] X
         cases hpp:Lib.hasPrefix pa [47]
         · rw [hpp] at kP
           have KP:=Lib.hid kP
           have H47:=Lib.hid (show ¬ nth pa 0=47 from fun e=>by rw [prefix_one.2 ⟨Hpa.out,e⟩] at hpp;cases hpp)
           clear kP hpp
           go_wp2_with fail
           refine(KP.out _).mono ?_
           rintro e wP ⟨rfl,rfl⟩
           go_wp2_with fail
           go_ret
           exact⟨by rw [HR2.out,r_fourB _ Hok2.out (show formB (⟨sc,true,ho,pa,hq,qu,hf,fr⟩:UrlD)=true by unfold formB;rw [if_pos rfl];simp [Hpa.out,H47.out])];rfl,hbel1⟩
         · rw [hpp] at kP
           have KP:=Lib.hid kP
           have H47:=Lib.hid (prefix_one.1 hpp).2
           clear kP hpp
           go_wp2_with fail
           refine(KP.out _).mono ?_
           rintro e wP ⟨rfl,rfl⟩
           have HFB:=Lib.hid (show formB (⟨sc,true,ho,pa,hq,qu,hf,fr⟩:UrlD)=false by unfold formB;rw [if_pos rfl];simp [H47.out])
           by_cases hT:120 < tx.length
           · skip
             have dT:decide (120 < (tx.length:Int))=true:=decide_eq_true (by omega)
             have HT:=Lib.hid hT
             clear hT
             go_wp2_with fail
             refine(KT.out _).mono ?_
             rintro e wz ⟨rfl,hbz⟩
             have HB:=Lib.hid (hbel1.trans (hbz.mono hbel1.size))
             clear hbz
             go_wp2_with fail
             go_ret
             exact⟨by rw [HR2.out,r_two _ Hok2.out HpA.out.symm HFB.out,if_pos HT.out];rfl,HB.out⟩
           · skip
             have dT:decide (120 < (tx.length:Int))=false:=decide_eq_false (by omega)
             have HT:=Lib.hid hT
             clear hT
             go_wp2_with fail
             refine(KT.out _).mono ?_
             rintro e wz ⟨rfl,hbz⟩
             have HB:=Lib.hid (hbel1.trans (hbz.mono hbel1.size))
             clear hbz
             go_wp2_with fail
             go_ret
             exact⟨by rw [HR2.out,r_two _ Hok2.out HpA.out.symm HFB.out,if_neg HT.out];rfl,HB.out⟩
end Go.Proofs.YtlgbopjhmemaoaaGreatDoor
