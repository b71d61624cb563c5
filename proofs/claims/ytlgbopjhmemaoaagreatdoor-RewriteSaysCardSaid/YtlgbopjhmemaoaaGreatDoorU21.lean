import Derived.Test.YtlgbopjhmemaoaaGreatDoorU20
import Derived.Test.YtlgbopjhmemaoaaGreatDoorU6
set_option maxRecDepth 100000
set_option maxHeartbeats 40000000
namespace Go.Proofs.YtlgbopjhmemaoaaGreatDoor
open Go.RowKit
theorem Index_chr (l:List UInt8) (c:UInt8) (w:World):Calls Tryz.prog 76 #[str l,.string ⟨#[c]⟩] w fun e w'=>e = .returned (.int .i64 (Lib.indexByte l c))∧w=w':=
 (Go.Proofs.Tryz.strings_Index_one ⟨l.toArray⟩ c w).mono fun _ _ ⟨h1,h2⟩=>⟨h1,h2.symm⟩
theorem bad_any (k:Nat) (w:World):Calls Tryz.prog 137 #[.int .i64 (k:Nat)] w fun e w'=>e = .returned (.tuple #[.agg #[str [],.bool false,str [],str [],.bool false,str [],.bool false,str []],.int .i64 (k:Nat)])∧Below w.heap.size w w':=by
 go_enter Tryz.func137,Tryz.ntmps137
 go_wp2_with fail
 refine bodyPost_ret (v:=.tuple #[.agg #[str [],.bool false,str [],str [],.bool false,str [],.bool false,str []],.int .i64 (k:Nat)]) (by simp [results,Tryz.results137,go_sem];rfl) rfl ⟨rfl,?_⟩
 exact(Below.refl _ w).alloc (Nat.le_refl _) _
theorem index_end (l:List UInt8) (c:UInt8):Lib.indexByte (l ++ [c]) c=((l.takeWhile (fun b=>b != c)).length:Int):=by
 rw [indexByte_tw,if_pos (by simp)]
 by_cases h:c∈l
 · obtain⟨x,y,rfl,hx⟩:=first_of l c h
   have hp:∀ b∈x,(b != c)=true:=fun b hb=>by simp [hx b hb]
   rw [List.append_assoc,List.takeWhile_append_of_pos hp,List.takeWhile_append_of_pos hp]
   simp
 · have hp:∀ b∈l,(b != c)=true:=fun b hb=>by simp only [bne_iff_ne,ne_eq];exact fun e=>h (e ▸ hb)
   rw [List.takeWhile_append_of_pos hp]
   have:=(takeWhile_all hp []).1
   rw [List.append_nil] at this
   rw [this]
   simp
/-- A : ahead of every / . -/
theorem colon_seg (l:List UInt8):Lib.indexByte (l.takeWhile not47) 58=if (l.dropWhile stopCS).head? = some 58 then ((l.takeWhile stopCS).length:Int) else -1:=by
 induction l with
 | nil=>rfl
 | cons b l ih =>
  by_cases h1:b=58
  · subst h1
    have a1:not47 58=true:=rfl
    have a2:stopCS 58=false:=rfl
    simp only [List.takeWhile_cons,List.dropWhile_cons,a1,a2,if_true,Bool.false_eq_true,if_false,List.head?_cons]
    simp [Lib.indexByte]
  · by_cases h2:b=47
    · subst h2
      have a1:not47 47=false:=rfl
      have a2:stopCS 47=false:=rfl
      simp only [List.takeWhile_cons,List.dropWhile_cons,a1,a2,Bool.false_eq_true,if_false,List.head?_cons]
      simp [Lib.indexByte]
    · have e1:not47 b=true:=by simp [not47,h2]
      have e2:stopCS b=true:=by simp [stopCS,h1,h2]
      rw [List.takeWhile_cons,if_pos e1,List.dropWhile_cons,if_pos e2,List.takeWhile_cons,if_pos e2,Lib.indexByte,ih]
      have hb:(b == 58)=false:=by simpa using h1
      by_cases hd:(l.dropWhile stopCS).head? = some 58
      · have e3:((((l.takeWhile stopCS).length:Nat):Int) == -1)=false:=by simp
        simp only [hb,if_pos hd,e3,Bool.false_eq_true,if_false,List.length_cons]
        omega
      · simp only [hb,if_neg hd,Bool.false_eq_true,if_false]
        rfl
theorem cut_index (l:List UInt8) (c:UInt8):((Lib.cut l [c]).2.2=true→Lib.indexByte l c=((Lib.cut l [c]).1.length:Int)∧(Lib.cut l [c]).1.length < l.length∧l.take (Lib.cut l [c]).1.length=(Lib.cut l [c]).1∧l.drop ((Lib.cut l [c]).1.length+1)=(Lib.cut l [c]).2.1)∧((Lib.cut l [c]).2.2=false→Lib.indexByte l c = -1∧(Lib.cut l [c]).1=l∧(Lib.cut l [c]).2.1 = []):=by
 by_cases h:c∈l
 · obtain⟨x,y,rfl,hx⟩:=first_of l c h
   rw [cut_app x y c hx]
   refine⟨fun _=>⟨?_,by simp,by simp,by rw [← List.drop_drop,List.drop_left];rfl⟩,fun e=>by cases e⟩
   rw [indexByte_tw,if_pos (by simp),List.takeWhile_append_of_pos (fun b hb=>by simp [hx b hb])]
   simp
 · rw [cut_not l c (fun b hb e=>h (e ▸ hb))]
   refine⟨fun e=>(by cases e),fun _=>⟨?_,rfl,rfl⟩⟩
   rw [indexByte_tw,if_neg h]
theorem UB.fill {W:World} {b:Nat} {r:UrlD} (h:UB W b r) (x:UrlD):UB ((((((((W.setCell ⟨b,0,none⟩ (str x.scheme)).setCell ⟨b,1,none⟩ (.bool x.hasHost)).setCell ⟨b,2,none⟩ (str x.host)).setCell ⟨b,3,none⟩ (str x.path)).setCell ⟨b,4,none⟩ (.bool x.hasQuery)).setCell ⟨b,5,none⟩ (str x.query)).setCell ⟨b,6,none⟩ (.bool x.hasFrag)).setCell ⟨b,7,none⟩ (str x.frag)) b x:=
 (((((((h.s0 x.scheme).s1 x.hasHost).s2 x.host).s3 x.path).s4 x.hasQuery).s5 x.query).s6 x.hasFrag).s7 x.frag
theorem Below.fill {w W:World} {b:Nat} (h:Below w.heap.size w W) (hb:w.heap.size≤b) (x:UrlD):Below w.heap.size w ((((((((W.setCell ⟨b,0,none⟩ (str x.scheme)).setCell ⟨b,1,none⟩ (.bool x.hasHost)).setCell ⟨b,2,none⟩ (str x.host)).setCell ⟨b,3,none⟩ (str x.path)).setCell ⟨b,4,none⟩ (.bool x.hasQuery)).setCell ⟨b,5,none⟩ (str x.query)).setCell ⟨b,6,none⟩ (.bool x.hasFrag)).setCell ⟨b,7,none⟩ (str x.frag)):=
 (((((((h.setCell hb _).setCell hb _).setCell hb _).setCell hb _).setCell hb _).setCell hb _).setCell hb _).setCell hb _
theorem RRead_any (s:List UInt8) (w:World) (_hs:s.length≤maxLen) (hM:MaxLenOk w) :
 Calls Tryz.prog 89 #[str s] w fun e w'=>e = .returned (.tuple #[(readU s).1.val,.int .i64 ((readU s).2:Nat)])∧Below w.heap.size w w':=by
 have KB:=Lib.hid (fun k X=>bad_any k X)
 obtain⟨rr,hrr⟩:∃ rr,rr=readU s:=⟨_,rfl⟩
 rw [← hrr]
 have HRR:=Lib.hid hrr
 have HM:=Lib.hid hM
 clear hrr hM
 by_cases hl:120 < s.length
 · have hr:rr=(zeroU,2):=by rw [HRR.out];unfold readU;rw [if_pos hl]
   have d0:decide (120 < (s.length:Int))=true:=decide_eq_true (by omega)
   have kB:=KB.out 2
   have KB2:=Lib.hid kB
   have HR:=Lib.hid hr
   clear hl kB hr
   have hx:UB (w.alloc (.cells #[.string ⟨#[]⟩,.bool false,.string ⟨#[]⟩,.string ⟨#[]⟩,.bool false,.string ⟨#[]⟩,.bool false,.string ⟨#[]⟩] 103)) w.heap.size zeroU:=UB.new w zeroU
   have hbl:Below w.heap.size w (w.alloc (.cells #[.string ⟨#[]⟩,.bool false,.string ⟨#[]⟩,.string ⟨#[]⟩,.bool false,.string ⟨#[]⟩,.bool false,.string ⟨#[]⟩] 103)):=(Below.refl _ w).alloc (Nat.le_refl _) _
   go_enter Tryz.func89,Tryz.ntmps89
   go_wp2_with fail
   refine(KB.out 2 _).mono ?_
   rintro e wZ ⟨rfl,hbZ⟩
   have hrZ:=hx.below hbZ
   have HBZ:=Lib.hid (Below.fill (hbl.trans (hbZ.mono hbl.size)) (Nat.le_refl _) zeroU)
   obtain⟨y0,y1,y2,y3,y4,y5,y6,y7⟩:=hrZ.box
   have f0:=hrZ.fz 0
   have f1:=hrZ.fz 1
   have f2:=hrZ.fz 2
   have f3:=hrZ.fz 3
   have f4:=hrZ.fz 4
   have f5:=hrZ.fz 5
   have f6:=hrZ.fz 6
   have f7:=hrZ.fz 7
   have HF:=Lib.hid (hrZ.fill zeroU)
   clear hrZ hbZ
   go_wp2_with fail
   clear y0 y1 y2 y3 y4 y5 y6 y7 f0 f1 f2 f3 f4 f5 f6 f7
   generalize hwz:World.setCell _ _ _=wz
   have hPz:UB wz w.heap.size zeroU:=by rw [← hwz];exact HF.out
   have hBz:Below w.heap.size w wz:=by rw [← hwz];exact HBZ.out
   obtain⟨c0,c1,c2,c3,c4,c5,c6,c7⟩:=hPz.box
   have hrr:=(HR.out)
   subst hrr
   refine bodyPost_ret (v:=.tuple #[zeroU.val,.int .i64 (2:Nat)]) (by simp [results,Tryz.results89,go_sem,c0,c1,c2,c3,c4,c5,c6,c7];try rfl) rfl ⟨rfl,hBz⟩
 · have d0:decide (120 < (s.length:Int))=false:=decide_eq_false (by omega)
   have hl1:(Lib.cut s [35]).1.length≤s.length:=by rw [cut_tw];exact(List.takeWhile_sublist _).length_le
   have c1:=cut_index s 35
   rcases h1:Lib.cut s [35] with ⟨s1,fr,hf⟩
   rw [h1] at c1 hl1
   have hs1:s1.length≤120:=by have a1:s1.length≤s.length:=hl1;omega
   have hl2:(Lib.cut s1 [63]).1.length≤s1.length:=by rw [cut_tw];exact(List.takeWhile_sublist _).length_le
   have c2:=cut_index s1 63
   rcases h2:Lib.cut s1 [63] with ⟨s2,qu,hq⟩
   rw [h2] at c2 hl2
   have hl3:s2.length≤120:=by have a1:s2.length≤s1.length:=hl2;omega
   have H1:=Lib.hid h1
   have H2:=Lib.hid h2
   have HL:=Lib.hid hl
   have C1:=Lib.hid c1
   have C2:=Lib.hid c2
   clear h1 h2 hl1 hl2 c1 c2
   obtain⟨W,hW⟩:∃ W,W=(w.alloc (.cells #[.string ⟨#[]⟩,.bool false,.string ⟨#[]⟩,.string ⟨#[]⟩,.bool false,.string ⟨#[]⟩,.bool false,.string ⟨#[]⟩] 103)).alloc (.cells #[.string ⟨#[]⟩,.bool false,.string ⟨#[]⟩,.string ⟨#[]⟩,.bool false,.string ⟨#[]⟩,.bool false,.string ⟨#[]⟩] 103):=⟨_,rfl⟩
   have hPW:PB w W zeroU zeroU:=by
    rw [hW]
    have hb:Below w.heap.size w ((w.alloc (.cells #[.string ⟨#[]⟩,.bool false,.string ⟨#[]⟩,.string ⟨#[]⟩,.bool false,.string ⟨#[]⟩,.bool false,.string ⟨#[]⟩] 103))):=(Below.refl _ w).alloc (Nat.le_refl _) _
    refine⟨hb.alloc (by simp) _,(UB.new w zeroU).below ((Below.refl _ _).alloc (Nat.le_refl _) _),?_⟩
    have:=UB.new (w.alloc (.cells #[.string ⟨#[]⟩,.bool false,.string ⟨#[]⟩,.string ⟨#[]⟩,.bool false,.string ⟨#[]⟩,.bool false,.string ⟨#[]⟩] 103)) zeroU
    rw [show(w.alloc (.cells #[.string ⟨#[]⟩,.bool false,.string ⟨#[]⟩,.string ⟨#[]⟩,.bool false,.string ⟨#[]⟩,.bool false,.string ⟨#[]⟩] 103)).heap.size=w.heap.size+1 by simp] at this
    exact this
   have kI1:=fun X=>Index_chr s 35 X
   have kI2:=fun X=>Index_chr s1 63 X
   generalize hi1:Lib.indexByte s 35=i1 at kI1
   generalize hi2:Lib.indexByte s1 63=i2 at kI2
   have KI1:=Lib.hid kI1
   have KI2:=Lib.hid kI2
   have Hi1:=Lib.hid hi1
   have Hi2:=Lib.hid hi2
   clear kI1 kI2 hi1 hi2
   go_enter Tryz.func89,Tryz.ntmps89
   go_wp2_with fail
   rw [← hW]
   clear hW
   refine(KI1.out _).mono ?_
   rintro e wx ⟨rfl,rfl⟩
   go_upto_if 22 with (fail)
   go_cut [0] (fun s0 wx=>s0=str s1∧PB w wx zeroU ⟨[],false,[],[],false,[],hf,fr⟩)
   case first =>
    cases hf
    · obtain⟨g1,g2,g3⟩:=C1.out.2 rfl
      have g1:i1 = -1:=Hi1.out.symm.trans g1
      have g2:s1=s:=g2
      have g3:fr = []:=g3
      have d0:decide (0≤i1)=false:=by rw [g1];rfl
      have d1:¬ (0:Int)≤i1:=by omega
      have d2:i1 < 0:=by omega
      have G2:=Lib.hid g2
      have G3:=Lib.hid g3
      clear g1 g2 g3
      go_wp2_with fail
      go_meet
      exact⟨by rw [G2.out],by rw [G3.out];exact hPW⟩
    · obtain⟨a1,a2,a3,a4⟩:=C1.out.1 rfl
      have g1:i1=(s1.length:Int):=Hi1.out.symm.trans a1
      have g2:s1.length < s.length:=a2
      have G3:=Lib.hid (show s.take s1.length=s1 from a3)
      have G4:=Lib.hid (show s.drop (s1.length+1)=fr from a4)
      have d0:decide (0≤i1)=true:=decide_eq_true (by omega)
      have k0:(0:Int)≤i1:=by omega
      have k2:i1≤(s.length:Int):=by omega
      have k3:IntKind.i64.wrap (i1+1)=i1+1:=IntWalk.i64_in _ (by omega)
      have k4:(0:Int)≤i1+1:=by omega
      have k5:(i1+1).toNat=s1.length+1:=by omega
      have k6:i1+1≤(s.length:Int):=by omega
      have k7:i1.toNat=s1.length:=by omega
      clear a1 a2 a3 a4 g1
      go_wp2_with fail
      refine wp_region_held (S:=fun W'=>∃ x,PB w W' zeroU x) (by kernel_rfl) ?_
      change wpAnyH _ _ _ _ _ _ _ _ (World.drew W)
      have hQ:=hPW.drew
      generalize hgw:World.drew W=wd at hQ ⊢
      have hS:∃ x,PB w wd zeroU x:=⟨_,hQ⟩
      clear hgw
      refine tkH (i:=0) (v:=?_) rfl ?_ hS ?_
      rotate_left 1
      · intro W' hb;go_simp;try exact rfl
      refine tkH (i:=1) (v:=?_) rfl ?_ hS ?_
      rotate_left 1
      · intro W' hb;go_simp;try exact rfl
      refine tkH (i:=2) (v:=?_) rfl ?_ hS ?_
      rotate_left 1
      · intro W' hb;go_simp;try exact rfl
      refine tkH (i:=3) (v:=?_) rfl ?_ hS ?_
      rotate_left 1
      · intro W' hb;go_simp;try exact rfl
      refine tkH (i:=4) (v:=?_) rfl ?_ hS ?_
      rotate_left 1
      · intro W' hb;go_simp;try exact rfl
      refine tkH (i:=5) (v:=?_) rfl ?_ hS ?_
      rotate_left 1
      · intro W' hb;go_simp;try exact rfl
      refine tkH (i:=6) (v:=?_) rfl ?_ hS ?_
      rotate_left 1
      · intro W' hb;go_simp;try exact rfl
      refine tkH (i:=7) (v:=?_) rfl ?_ hS ?_
      rotate_left 1
      · intro W' hb;go_simp;try exact rfl
      refine wpAnyH_all (rs:=[8]) (by kernel_rfl) (by simp) ?_
      intro kk hkk
      simp only [List.mem_singleton] at hkk
      subst hkk
      go_simp
      have yy:=hQ.own.box.2.2.2.2.2.2.1
      have ff:=hQ.own.fz 6
      refine wpOp_store rfl (by kernel_rfl) (World.setCell wd ⟨w.heap.size+1,6,none⟩ (.bool true)) (by go_simp) ?_
      have hQ:=hQ.s6 true
      generalize hgw:World.setCell wd ⟨w.heap.size+1,6,none⟩ (.bool true)=wd1 at hQ ⊢
      have hS:∃ x,PB w wd1 zeroU x:=⟨_,hQ⟩
      clear hgw yy ff
      refine⟨hS,?_⟩
      refine tkH (i:=9) (v:=?_) rfl ?_ hS ?_
      rotate_left 1
      · intro W' hb;go_simp;try exact rfl
      refine wpAnyH_all (rs:=[10]) (by kernel_rfl) (by simp) ?_
      intro kk hkk
      simp only [List.mem_singleton] at hkk
      subst hkk
      go_simp
      have yy:=hQ.own.box.2.2.2.2.2.2.2
      have ff:=hQ.own.fz 7
      refine wpOp_store rfl (by kernel_rfl) (World.setCell wd1 ⟨w.heap.size+1,7,none⟩ (str (s.drop (s1.length+1)))) (by go_simp) ?_
      have hQ:=hQ.s7 (s.drop (s1.length+1))
      generalize hgw:World.setCell wd1 ⟨w.heap.size+1,7,none⟩ (str (s.drop (s1.length+1)))=wd2 at hQ ⊢
      have hS:∃ x,PB w wd2 zeroU x:=⟨_,hQ⟩
      clear hgw yy ff
      refine⟨hS,?_⟩
      refine tkH (i:=11) (v:=?_) rfl ?_ hS ?_
      rotate_left 1
      · intro W' hb;go_simp;try exact rfl
      refine wpAnyH_done (by kernel_rfl) ?_ _
      go_simp
      have hP:=hQ
      clear hQ hS
      generalize wd2=wq at hP ⊢
      go_wp2_with fail
      go_meet
      exact⟨by rw [G3.out],by rw [G4.out] at hP;exact hP⟩
   case rest =>
    obtain⟨rfl,hPW⟩:=hcut
    clear KI1 Hi1 C1
    generalize wc=W at hPW ⊢
    go_wp2_with fail
    refine(KI2.out _).mono ?_
    rintro e wx ⟨rfl,rfl⟩
    go_upto_if 35 with (fail)
    go_cut [0] (fun s0 wx=>s0=str s2∧PB w wx zeroU ⟨[],false,[],[],hq,qu,hf,fr⟩)
    case first =>
     cases hq
     · obtain⟨g1,g2,g3⟩:=C2.out.2 rfl
       have g1:i2 = -1:=Hi2.out.symm.trans g1
       have g2:s2=s1:=g2
       have g3:qu = []:=g3
       have d0:decide (0≤i2)=false:=by rw [g1];rfl
       have d1:¬ (0:Int)≤i2:=by omega
       have d2:i2 < 0:=by omega
       have G2:=Lib.hid g2
       have G3:=Lib.hid g3
       clear g1 g2 g3
       go_wp2_with fail
       go_meet
       exact⟨by rw [G2.out],by rw [G3.out];exact hPW⟩
     · obtain⟨a1,a2,a3,a4⟩:=C2.out.1 rfl
       have g1:i2=(s2.length:Int):=Hi2.out.symm.trans a1
       have g2:s2.length < s1.length:=a2
       have G3:=Lib.hid (show s1.take s2.length=s2 from a3)
       have G4:=Lib.hid (show s1.drop (s2.length+1)=qu from a4)
       have d0:decide (0≤i2)=true:=decide_eq_true (by omega)
       have k0:(0:Int)≤i2:=by omega
       have k2:i2≤(s1.length:Int):=by omega
       have k3:IntKind.i64.wrap (i2+1)=i2+1:=IntWalk.i64_in _ (by omega)
       have k4:(0:Int)≤i2+1:=by omega
       have k5:(i2+1).toNat=s2.length+1:=by omega
       have k6:i2+1≤(s1.length:Int):=by omega
       have k7:i2.toNat=s2.length:=by omega
       clear a1 a2 a3 a4 g1
       go_wp2_with fail
       refine wp_region_held (S:=fun W'=>∃ x,PB w W' zeroU x) (by kernel_rfl) ?_
       change wpAnyH _ _ _ _ _ _ _ _ (World.drew W)
       have hQ:=hPW.drew
       generalize hgw:World.drew W=wd at hQ ⊢
       have hS:∃ x,PB w wd zeroU x:=⟨_,hQ⟩
       clear hgw
       refine tkH (i:=0) (v:=?_) rfl ?_ hS ?_
       rotate_left 1
       · intro W' hb;go_simp;try exact rfl
       refine tkH (i:=1) (v:=?_) rfl ?_ hS ?_
       rotate_left 1
       · intro W' hb;go_simp;try exact rfl
       refine tkH (i:=2) (v:=?_) rfl ?_ hS ?_
       rotate_left 1
       · intro W' hb;go_simp;try exact rfl
       refine tkH (i:=3) (v:=?_) rfl ?_ hS ?_
       rotate_left 1
       · intro W' hb;go_simp;try exact rfl
       refine tkH (i:=4) (v:=?_) rfl ?_ hS ?_
       rotate_left 1
       · intro W' hb;go_simp;try exact rfl
       refine tkH (i:=5) (v:=?_) rfl ?_ hS ?_
       rotate_left 1
       · intro W' hb;go_simp;try exact rfl
       refine tkH (i:=6) (v:=?_) rfl ?_ hS ?_
       rotate_left 1
       · intro W' hb;go_simp;try exact rfl
       refine tkH (i:=7) (v:=?_) rfl ?_ hS ?_
       rotate_left 1
       · intro W' hb;go_simp;try exact rfl
       refine wpAnyH_all (rs:=[8]) (by kernel_rfl) (by simp) ?_
       intro kk hkk
       simp only [List.mem_singleton] at hkk
       subst hkk
       go_simp
       have yy:=hQ.own.box.2.2.2.2.1
       have ff:=hQ.own.fz 4
       refine wpOp_store rfl (by kernel_rfl) (World.setCell wd ⟨w.heap.size+1,4,none⟩ (.bool true)) (by go_simp) ?_
       have hQ:=hQ.s4 true
       generalize hgw:World.setCell wd ⟨w.heap.size+1,4,none⟩ (.bool true)=wd1 at hQ ⊢
       have hS:∃ x,PB w wd1 zeroU x:=⟨_,hQ⟩
       clear hgw yy ff
       refine⟨hS,?_⟩
       refine tkH (i:=9) (v:=?_) rfl ?_ hS ?_
       rotate_left 1
       · intro W' hb;go_simp;try exact rfl
       refine wpAnyH_all (rs:=[10]) (by kernel_rfl) (by simp) ?_
       intro kk hkk
       simp only [List.mem_singleton] at hkk
       subst hkk
       go_simp
       have yy:=hQ.own.box.2.2.2.2.2.1
       have ff:=hQ.own.fz 5
       refine wpOp_store rfl (by kernel_rfl) (World.setCell wd1 ⟨w.heap.size+1,5,none⟩ (str (s1.drop (s2.length+1)))) (by go_simp) ?_
       have hQ:=hQ.s5 (s1.drop (s2.length+1))
       generalize hgw:World.setCell wd1 ⟨w.heap.size+1,5,none⟩ (str (s1.drop (s2.length+1)))=wd2 at hQ ⊢
       have hS:∃ x,PB w wd2 zeroU x:=⟨_,hQ⟩
       clear hgw yy ff
       refine⟨hS,?_⟩
       refine tkH (i:=11) (v:=?_) rfl ?_ hS ?_
       rotate_left 1
       · intro W' hb;go_simp;try exact rfl
       refine wpAnyH_done (by kernel_rfl) ?_ _
       go_simp
       have hP:=hQ
       clear hQ hS
       generalize wd2=wq at hP ⊢
       go_wp2_with fail
       go_meet
       exact⟨by rw [G3.out],by rw [G4.out] at hP;exact hP⟩
    case rest =>
     obtain⟨rfl,hPW⟩:=hcut
     clear KI2 Hi2 C2
     generalize wc=W at hPW ⊢
     have kI3:=fun X=>Index_chr (s2 ++ [47]) 47 X
     rw [index_end] at kI3
     have kI4:=fun X=>Index_chr (s2.takeWhile not47) 58 X
     rw [colon_seg] at kI4
     have ktw:s2.take (s2.takeWhile not47).length=s2.takeWhile not47:=(tw_take not47 s2).1
     have kle:(s2.takeWhile not47).length≤s2.length:=(List.takeWhile_sublist _).length_le
     have kI3:∀ X,Calls Tryz.prog 76 #[str (s2 ++ [47]),.string ⟨#[47]⟩] X fun e w'=>e = .returned (.int .i64 ((s2.takeWhile not47).length:Int))∧X=w':=kI3
     have kI4:∀ X,Calls Tryz.prog 76 #[str (s2.take (s2.takeWhile not47).length),.string ⟨#[58]⟩] X fun e w'=>e = .returned (.int .i64 (if (s2.dropWhile stopCS).head? = some 58 then ((s2.takeWhile stopCS).length:Int) else -1))∧X=w':=fun X=>by rw [ktw];exact kI4 X
     generalize (s2.takeWhile not47).length=ks at kI3 kI4 kle
     obtain⟨ic,hic⟩:∃ ic,ic=(if (s2.dropWhile stopCS).head? = some 58 then ((s2.takeWhile stopCS).length:Int) else -1):=⟨_,rfl⟩
     rw [← hic] at kI4
     have KI3:=Lib.hid kI3
     have KI4:=Lib.hid kI4
     have Hic:=Lib.hid hic
     have ks2:(ks:Int)≤(s2.length:Int):=by omega
     have ksa:s2.length+1≤9223372036854775807:=by omega
     clear kI3 kI4 hic ktw
     go_wp2_with fail
     refine(KI3.out _).mono ?_
     rintro e wx ⟨rfl,rfl⟩
     go_wp2_with fail
     refine(KI4.out _).mono ?_
     rintro e wx ⟨rfl,rfl⟩
     go_upto_if 53 with (fail)
     go_cut [0] (fun s0 wx=>∃ (sc r:List UInt8),s0=str r∧Hid (schemeP s2=some (sc,r))∧r.length≤120∧sc.length≤120∧PB w wx zeroU ⟨sc,false,[],[],hq,qu,hf,fr⟩)
     case first =>
      by_cases hd:(s2.dropWhile stopCS).head? = some 58
      · obtain⟨r,hr⟩:∃ r,s2.dropWhile stopCS=58 :: r:=by
         cases h:s2.dropWhile stopCS with
         | nil=>rw [h] at hd;cases hd
         | cons a t=>rw [h] at hd;injection hd with hd;subst hd;exact⟨t,rfl⟩
        obtain⟨p1,p2,p3,p4⟩:=place_cs hr
        have hicv:ic=((s2.takeWhile stopCS).length:Int):=by rw [Hic.out,if_pos hd]
        have hsP:schemeP s2=(if (s2.takeWhile stopCS) = []∨schemeU (lowL (s2.takeWhile stopCS))=false then none else some (lowL (s2.takeWhile stopCS),r)):=by
         unfold schemeP
         rw [if_pos hd,hr]
         rfl
        have k0:(0:Int)≤ic:=by omega
        have k2:ic≤(s2.length:Int):=by omega
        have k3:IntKind.i64.wrap (ic+1)=ic+1:=IntWalk.i64_in _ (by omega)
        have k4:(0:Int)≤ic+1:=by omega
        have k5:(ic+1).toNat=(s2.takeWhile stopCS).length+1:=by omega
        have k6:ic+1≤(s2.length:Int):=by omega
        have k7:ic.toNat=(s2.takeWhile stopCS).length:=by omega
        have kL:∀ X,Calls Tryz.prog 85 #[str (s2.take (s2.takeWhile stopCS).length)] X fun e w'=>e = .returned (str (lowL (s2.takeWhile stopCS)))∧Below X.heap.size X w':=fun X=>by
         have h:=small_any (s2.take (s2.takeWhile stopCS).length) X (by rw [List.length_take];unfold maxLen;omega)
         rw [show lowL (s2.take (s2.takeWhile stopCS).length)=lowL (s2.takeWhile stopCS) by rw [p3]] at h
         exact h
        have hrl:r.length≤120:=by rw [← p4,List.length_drop];omega
        have htl:(lowL (s2.takeWhile stopCS)).length≤120:=by simp only [lowL,List.length_map];omega
        have htn:lowL (s2.takeWhile stopCS) = []↔(s2.takeWhile stopCS) = []:=by simp [lowL]
        have kS:=fun X=>isScheme_any (lowL (s2.takeWhile stopCS)) X (by unfold maxLen;omega)
        obtain⟨lt,hlt⟩:∃ lt,lt=lowL (s2.takeWhile stopCS):=⟨_,rfl⟩
        rw [← hlt] at kL kS htl htn hsP
        have HsP:=Lib.hid hsP
        have P4:=Lib.hid p4
        have KL:=Lib.hid kL
        have KS0:=Lib.hid kS
        have Htn:=Lib.hid htn
        clear hsP p3 p4 hr hd hicv p2 kL kS htn hlt
        generalize (s2.takeWhile stopCS).length=kc at *
        go_wp2_with fail
        refine(KL.out _).mono ?_
        rintro e w5 ⟨rfl,hb5⟩
        have hP5:=hPW.below hb5
        clear hPW hb5
        have yy:=hP5.own.box.1
        have ff:=hP5.own.fz 0
        have HN:=Lib.hid (hP5.s0 lt)
        clear hP5
        go_upto_region 15 with fail
        clear yy ff
        generalize hgw:World.setCell _ _ _=w6
        have hP6:=HN.out
        rw [hgw] at hP6
        clear hgw HN
        have y0:=hP6.own.box.1
        by_cases hlt0:lt = []
        · have e0:(lt == [])=true:=by rw [hlt0];rfl
          have hR:=HRR.out.trans (readU_none HL.out H1.out H2.out (by rw [HsP.out,if_pos (.inl (Htn.out.1 hlt0))]))
          have HR:=Lib.hid hR
          clear hR hlt0
          go_wp2_with fail
          clear y0
          refine(KB.out 1 _).mono ?_
          rintro e wZ ⟨rfl,hbZ⟩
          have hrZ:=hP6.res.below hbZ
          have HBZ:=Lib.hid (Below.fill (hP6.bel.trans (hbZ.mono hP6.bel.size)) (Nat.le_refl _) zeroU)
          obtain⟨y0,y1,y2,y3,y4,y5,y6,y7⟩:=hrZ.box
          have f0:=hrZ.fz 0
          have f1:=hrZ.fz 1
          have f2:=hrZ.fz 2
          have f3:=hrZ.fz 3
          have f4:=hrZ.fz 4
          have f5:=hrZ.fz 5
          have f6:=hrZ.fz 6
          have f7:=hrZ.fz 7
          have HF:=Lib.hid (hrZ.fill zeroU)
          clear hrZ hbZ
          go_wp2_with fail
          clear y0 y1 y2 y3 y4 y5 y6 y7 f0 f1 f2 f3 f4 f5 f6 f7
          generalize hwz:World.setCell _ _ _=wz
          have hPz:UB wz w.heap.size zeroU:=by rw [← hwz];exact HF.out
          have hBz:Below w.heap.size w wz:=by rw [← hwz];exact HBZ.out
          obtain⟨c0,c1,c2,c3,c4,c5,c6,c7⟩:=hPz.box
          have hrr:=(HR.out)
          subst hrr
          refine bodyPost_ret (v:=.tuple #[zeroU.val,.int .i64 (1:Nat)]) (by simp [results,Tryz.results89,go_sem,c0,c1,c2,c3,c4,c5,c6,c7];try rfl) rfl ⟨rfl,hBz⟩
        · have e0:(lt == [])=false:=by simpa using hlt0
          have hne:(s2.takeWhile stopCS)≠[]:=fun e=>hlt0 (Htn.out.2 e)
          have Hne:=Lib.hid hne
          clear hlt0 hne
          have kS:=KS0.out
          cases hsc:schemeU lt
          · rw [hsc] at kS
            have hR:=HRR.out.trans (readU_none HL.out H1.out H2.out (by rw [HsP.out,if_pos (.inr hsc)]))
            have HR:=Lib.hid hR
            have KS:=Lib.hid kS
            clear hR kS hsc
            go_wp2_with fail
            refine(KS.out _).mono ?_
            rintro e w7 ⟨rfl,hb7⟩
            have hP7:=hP6.below hb7
            clear hP6 hb7 y0
            go_wp2_with fail
            refine(KB.out 1 _).mono ?_
            rintro e wZ ⟨rfl,hbZ⟩
            have hrZ:=hP7.res.below hbZ
            have HBZ:=Lib.hid (Below.fill (hP7.bel.trans (hbZ.mono hP7.bel.size)) (Nat.le_refl _) zeroU)
            obtain⟨y0,y1,y2,y3,y4,y5,y6,y7⟩:=hrZ.box
            have f0:=hrZ.fz 0
            have f1:=hrZ.fz 1
            have f2:=hrZ.fz 2
            have f3:=hrZ.fz 3
            have f4:=hrZ.fz 4
            have f5:=hrZ.fz 5
            have f6:=hrZ.fz 6
            have f7:=hrZ.fz 7
            have HF:=Lib.hid (hrZ.fill zeroU)
            clear hrZ hbZ
            go_wp2_with fail
            clear y0 y1 y2 y3 y4 y5 y6 y7 f0 f1 f2 f3 f4 f5 f6 f7
            generalize hwz:World.setCell _ _ _=wz
            have hPz:UB wz w.heap.size zeroU:=by rw [← hwz];exact HF.out
            have hBz:Below w.heap.size w wz:=by rw [← hwz];exact HBZ.out
            obtain⟨c0,c1,c2,c3,c4,c5,c6,c7⟩:=hPz.box
            have hrr:=(HR.out)
            subst hrr
            refine bodyPost_ret (v:=.tuple #[zeroU.val,.int .i64 (1:Nat)]) (by simp [results,Tryz.results89,go_sem,c0,c1,c2,c3,c4,c5,c6,c7];try rfl) rfl ⟨rfl,hBz⟩
          · rw [hsc] at kS
            have HsP2:=Lib.hid (show schemeP s2=some (lt,r) by rw [HsP.out,if_neg (by rw [hsc];simp [Hne.out])])
            have KS:=Lib.hid kS
            clear kS hsc
            go_wp2_with fail
            refine(KS.out _).mono ?_
            rintro e w7 ⟨rfl,hb7⟩
            have hP7:=hP6.below hb7
            clear hP6 hb7 y0
            go_wp2_with fail
            go_meet
            exact⟨lt,r,by rw [P4.out],HsP2,hrl,htl,hP7⟩
      · have hicv:ic = -1:=by rw [Hic.out,if_neg hd]
        have HsP:=Lib.hid (show schemeP s2=some ([],s2) by unfold schemeP;rw [if_neg hd])
        have d0:decide (0≤ic)=false:=by rw [hicv];rfl
        have d1:¬ (0:Int)≤ic:=by omega
        have d2:ic < 0:=by omega
        clear hicv hd
        go_wp2_with fail
        go_meet
        exact⟨[],s2,rfl,HsP,hl3,by simp,hPW⟩
     case rest =>
      obtain⟨sc,r,rfl,hsP,hrl,hscl,hPW⟩:=hcut
      have hR:=HRR.out.trans (readU_fin HL.out H1.out H2.out hsP.out)
      have HR:=Lib.hid hR
      clear hR hsP KI3 KI4 Hic
      generalize wc=W at hPW ⊢
      by_cases h2:2≤r.length
      · have d2:decide (2≤(r.length:Int))=true:=decide_eq_true (by omega)
        cases hp:Lib.hasPrefix r [47,47]
        · have hne:(r.take 2 == [47,47])=false:=by
           rw [beq_eq_false_iff_ne]
           intro e
           have:Lib.hasPrefix r [47,47]=true:=by
            unfold Lib.hasPrefix
            rw [List.isPrefixOf_iff_prefix]
            exact⟨r.drop 2,by rw [← e];exact List.take_append_drop 2 r⟩
           rw [this] at hp
           cases hp
          have hH:hostU r ⟨sc,false,[],[],hq,qu,hf,fr⟩=⟨sc,false,[],r,hq,qu,hf,fr⟩:=by
           unfold hostU hostP
           rw [hp]
           simp only [Bool.false_eq_true,if_false]
          have hR2:rr=(if checkU ⟨sc,false,[],r,hq,qu,hf,fr⟩=0 then (⟨sc,false,[],r,hq,qu,hf,fr⟩,0) else (zeroU,checkU ⟨sc,false,[],r,hq,qu,hf,fr⟩)):=by
           rw [HR.out]
           unfold finU
           rw [hH]
          have HR2:=Lib.hid hR2
          clear hH hR2 hp HR
          have Hne:=Lib.hid hne
          obtain⟨y0,y1,y2,y3,y4,y5,y6,y7⟩:=hPW.own.box
          have f3:=hPW.own.fz 3
          have HQ:=Lib.hid (hPW.s3 r)
          have HM3:=Lib.hid (HM.out.below hPW.bel)
          clear hPW
          go_wp2_with fail
          clear y0 y1 y2 y3 y4 y5 y6 y7 f3
          generalize hwB:World.setCell _ _ _=wB
          have hPB:=HQ.out
          rw [hwB] at hPB
          have hMB:MaxLenOk wB:=HM.out.below hPB.bel
          have kK:=RCheck_any sc [] r qu fr false hq hf wB hMB
          have hR2:=HR2.out
          obtain⟨uB,huB⟩:∃ uB:UrlD,uB=⟨sc,false,[],r,hq,qu,hf,fr⟩:=⟨_,rfl⟩
          rw [← huB] at hPB hR2 kK
          clear HQ HR2 hwB huB HM3 hMB
          by_cases hc:checkU uB=0
          · skip
            have hR3:=hR2.trans (if_pos hc)
            rw [hc] at kK
            have HR3:=Lib.hid hR3
            clear hc hR2 hR3
            refine kK.mono ?_
            rintro e wC ⟨rfl,hbC⟩
            have hPC:=hPB.below hbC
            clear hPB hbC kK
            obtain⟨c0,c1,c2,c3,c4,c5,c6,c7⟩:=hPC.own.box
            obtain⟨y0,y1,y2,y3,y4,y5,y6,y7⟩:=hPC.res.box
            obtain⟨f0,f1,f2,f3,f4,f5,f6,f7⟩:=hPC.fzr
            have HF:=Lib.hid (hPC.fill uB)
            clear hPC
            go_wp2_with fail
            clear y0 y1 y2 y3 y4 y5 y6 y7 f0 f1 f2 f3 f4 f5 f6 f7 c0 c1 c2 c3 c4 c5 c6 c7
            generalize hwz:World.setCell _ _ _=wz
            have hPz:=HF.out
            rw [hwz] at hPz
            obtain⟨c0,c1,c2,c3,c4,c5,c6,c7⟩:=hPz.res.box
            have hrr:=HR3.out
            subst hrr
            refine bodyPost_ret (v:=.tuple #[uB.val,.int .i64 0]) (by simp [results,Tryz.results89,go_sem,c0,c1,c2,c3,c4,c5,c6,c7];try rfl) rfl ⟨rfl,hPz.bel⟩
          · skip
            have hR3:=hR2.trans (if_neg hc)
            generalize checkU uB=kk at kK hc hR3
            have ekk:((kk:Int) != 0)=true:=by simp;omega
            have HR3:=Lib.hid hR3
            clear hc hR2 hR3
            refine kK.mono ?_
            rintro e wC ⟨rfl,hbC⟩
            have hPC:=hPB.below hbC
            clear hPB hbC kK
            go_wp2_with fail
            refine(KB.out kk _).mono ?_
            rintro e wZ ⟨rfl,hbZ⟩
            have hrZ:=hPC.res.below hbZ
            have HBZ:=Lib.hid (Below.fill (hPC.bel.trans (hbZ.mono hPC.bel.size)) (Nat.le_refl _) zeroU)
            obtain⟨y0,y1,y2,y3,y4,y5,y6,y7⟩:=hrZ.box
            have f0:=hrZ.fz 0
            have f1:=hrZ.fz 1
            have f2:=hrZ.fz 2
            have f3:=hrZ.fz 3
            have f4:=hrZ.fz 4
            have f5:=hrZ.fz 5
            have f6:=hrZ.fz 6
            have f7:=hrZ.fz 7
            have HF:=Lib.hid (hrZ.fill zeroU)
            clear hrZ hbZ
            go_wp2_with fail
            clear y0 y1 y2 y3 y4 y5 y6 y7 f0 f1 f2 f3 f4 f5 f6 f7
            generalize hwz:World.setCell _ _ _=wz
            have hPz:UB wz w.heap.size zeroU:=by rw [← hwz];exact HF.out
            have hBz:Below w.heap.size w wz:=by rw [← hwz];exact HBZ.out
            obtain⟨c0,c1,c2,c3,c4,c5,c6,c7⟩:=hPz.box
            have hrr:=(HR3.out)
            subst hrr
            refine bodyPost_ret (v:=.tuple #[zeroU.val,.int .i64 (kk:Nat)]) (by simp [results,Tryz.results89,go_sem,c0,c1,c2,c3,c4,c5,c6,c7];try rfl) rfl ⟨rfl,hBz⟩
        · have hpre:(r.take 2 == [47,47])=true:=by
           have:=hasPrefix_two hp
           rw [this]
           rfl
          obtain⟨rest,hrest⟩:∃ rest,rest=r.drop 2:=⟨_,rfl⟩
          have hrl2:rest.length+2=r.length:=by rw [hrest,List.length_drop];omega
          have hH:hostU r ⟨sc,false,[],[],hq,qu,hf,fr⟩=⟨sc,true,lowL (rest.takeWhile not47),rest.dropWhile not47,hq,qu,hf,fr⟩:=by
           unfold hostU hostP
           rw [hp,hrest]
           simp only [if_true]
          have hR2:rr=(if checkU (hostU r ⟨sc,false,[],[],hq,qu,hf,fr⟩)=0 then (hostU r ⟨sc,false,[],[],hq,qu,hf,fr⟩,0) else (zeroU,checkU (hostU r ⟨sc,false,[],[],hq,qu,hf,fr⟩))):=HR.out
          rw [hH] at hR2
          have HR2:=Lib.hid hR2
          obtain⟨tk,dk⟩:=tw_take not47 rest
          have hkl:(rest.takeWhile not47).length≤rest.length:=(List.takeWhile_sublist _).length_le
          have kX:=fun X=>Index_chr (rest ++ [47]) 47 X
          rw [index_end] at kX
          have kX:∀ X,Calls Tryz.prog 76 #[str (rest ++ [47]),.string ⟨#[47]⟩] X fun e w'=>e = .returned (.int .i64 ((rest.takeWhile not47).length:Int))∧X=w':=kX
          generalize hdw:rest.dropWhile not47=dw at dk HR2
          generalize hth:lowL (rest.takeWhile not47)=th at HR2
          have kT:∀ X,Calls Tryz.prog 85 #[str ((r.take (2+(rest.takeWhile not47).length)).drop 2)] X fun e w'=>e = .returned (str th)∧Below X.heap.size X w':=fun X=>by
           have e2:(r.take (2+(rest.takeWhile not47).length)).drop 2=rest.take (rest.takeWhile not47).length:=by rw [hrest,List.drop_take];congr 1;omega
           rw [e2]
           have h:=small_any (rest.take (rest.takeWhile not47).length) X (by rw [List.length_take];unfold maxLen;omega)
           rw [show lowL (rest.take (rest.takeWhile not47).length)=th by rw [tk,hth]] at h
           exact h
          have dk2:r.drop (2+(rest.takeWhile not47).length)=dw:=by rw [← dk,hrest,List.drop_drop]
          clear hth hdw tk dk hH hR2 hp HR
          generalize (rest.takeWhile not47).length=kh at *
          rw [hrest] at kX
          have KX:=Lib.hid kX
          have KT:=Lib.hid kT
          have DK:=Lib.hid dk2
          have z1:IntKind.i64.wrap (2+(kh:Int))=2+(kh:Int):=IntWalk.i64_in _ (by omega)
          have z6:(r.drop 2).length+1≤9223372036854775807:=by rw [List.length_drop];omega
          have z7:r.length - 2+1≤9223372036854775807:=by omega
          clear kX kT dk2 hrest
          go_wp2_with fail
          refine(KX.out _).mono ?_
          rintro e wx ⟨rfl,rfl⟩
          go_wp2_with fail
          have k0:(0:Int)≤(kh:Int):=Int.natCast_nonneg _
          have k1:(2:Int)≤2+(kh:Int):=by omega
          have k2:2+(kh:Int)≤(r.length:Int):=by omega
          have k3:(0:Int)≤2+(kh:Int):=by omega
          have k4:(2+(kh:Int)).toNat=2+kh:=by omega
          refine wp_region_held (S:=fun W'=>∃ x,PB w W' zeroU x) (by kernel_rfl) ?_
          change wpAnyH _ _ _ _ _ _ _ _ (World.drew W)
          have hQ:=hPW.drew
          generalize hgw:World.drew W=wd at hQ ⊢
          have hS:∃ x,PB w wd zeroU x:=⟨_,hQ⟩
          clear hgw
          refine tkH (i:=0) (v:=?_) rfl ?_ hS ?_
          rotate_left 1
          · intro W' hb;go_simp;try exact rfl
          refine tkH (i:=1) (v:=?_) rfl ?_ hS ?_
          rotate_left 1
          · intro W' hb;go_simp;try exact rfl
          refine tkH (i:=2) (v:=?_) rfl ?_ hS ?_
          rotate_left 1
          · intro W' hb;go_simp;try exact rfl
          refine tkH (i:=4) (v:=?_) rfl ?_ hS ?_
          rotate_left 1
          · intro W' hb;go_simp;try exact rfl
          refine tkH (i:=5) (v:=?_) rfl ?_ hS ?_
          rotate_left 1
          · intro W' hb;go_simp;try exact rfl
          refine tkH (i:=6) (v:=?_) rfl ?_ hS ?_
          rotate_left 1
          · intro W' hb;go_simp;try exact rfl
          refine tkH (i:=7) (v:=?_) rfl ?_ hS ?_
          rotate_left 1
          · intro W' hb;go_simp;try exact rfl
          refine wpAnyH_all (rs:=[3]) (by kernel_rfl) (by simp) ?_
          intro kk hkk
          simp only [List.mem_singleton] at hkk
          subst hkk
          go_simp
          refine wpOp_call rfl (by kernel_rfl) 85 #[str ((r.take (2+kh)).drop 2)] (by go_simp) _ _ (KT.out _) ?_
          intro w8 hb8
          have hQ:=hQ.below hb8
          have hS:∃ x,PB w w8 zeroU x:=⟨_,hQ⟩
          clear hb8
          refine⟨hS,?_⟩
          refine wpAnyH_all (rs:=[8]) (by kernel_rfl) (by simp) ?_
          intro kk hkk
          simp only [List.mem_singleton] at hkk
          subst hkk
          go_simp
          have yy:=hQ.own.box.2.1
          have ff:=hQ.own.fz 1
          refine wpOp_store rfl (by kernel_rfl) (World.setCell w8 ⟨w.heap.size+1,1,none⟩ (.bool true)) (by go_simp) ?_
          have hQ:=hQ.s1 true
          generalize hgw:World.setCell w8 ⟨w.heap.size+1,1,none⟩ (.bool true)=w81 at hQ ⊢
          have hS:∃ x,PB w w81 zeroU x:=⟨_,hQ⟩
          clear hgw yy ff
          refine⟨hS,?_⟩
          refine tkH (i:=9) (v:=?_) rfl ?_ hS ?_
          rotate_left 1
          · intro W' hb;go_simp;try exact rfl
          refine wpAnyH_all (rs:=[10]) (by kernel_rfl) (by simp) ?_
          intro kk hkk
          simp only [List.mem_singleton] at hkk
          subst hkk
          go_simp
          have yy:=hQ.own.box.2.2.1
          have ff:=hQ.own.fz 2
          refine wpOp_store rfl (by kernel_rfl) (World.setCell w81 ⟨w.heap.size+1,2,none⟩ (str th)) (by go_simp) ?_
          have hQ:=hQ.s2 th
          generalize hgw:World.setCell w81 ⟨w.heap.size+1,2,none⟩ (str th)=w82 at hQ ⊢
          have hS:∃ x,PB w w82 zeroU x:=⟨_,hQ⟩
          clear hgw yy ff
          refine⟨hS,?_⟩
          refine tkH (i:=11) (v:=?_) rfl ?_ hS ?_
          rotate_left 1
          · intro W' hb;go_simp;try exact rfl
          refine wpAnyH_done (by kernel_rfl) ?_ _
          go_simp
          have hP:=hQ
          clear hQ hS
          generalize w82=w9 at hP ⊢
          rw [DK.out]
          clear k0 k1 k2 k3 k4 z1 z6 z7
          obtain⟨y0,y1,y2,y3,y4,y5,y6,y7⟩:=hP.own.box
          have f3:=hP.own.fz 3
          have HQ:=Lib.hid (hP.s3 dw)
          have HM3:=Lib.hid (HM.out.below hP.bel)
          clear hP
          go_wp2_with fail
          clear y0 y1 y2 y3 y4 y5 y6 y7 f3
          generalize hwB:World.setCell _ _ _=wB
          have hPB:=HQ.out
          rw [hwB] at hPB
          have hMB:MaxLenOk wB:=HM.out.below hPB.bel
          have kK:=RCheck_any sc th dw qu fr true hq hf wB hMB
          have hR2:=HR2.out
          obtain⟨uB,huB⟩:∃ uB:UrlD,uB=⟨sc,true,th,dw,hq,qu,hf,fr⟩:=⟨_,rfl⟩
          rw [← huB] at hPB hR2 kK
          clear HQ HR2 hwB huB HM3 hMB
          by_cases hc:checkU uB=0
          · skip
            have hR3:=hR2.trans (if_pos hc)
            rw [hc] at kK
            have HR3:=Lib.hid hR3
            clear hc hR2 hR3
            refine kK.mono ?_
            rintro e wC ⟨rfl,hbC⟩
            have hPC:=hPB.below hbC
            clear hPB hbC kK
            obtain⟨c0,c1,c2,c3,c4,c5,c6,c7⟩:=hPC.own.box
            obtain⟨y0,y1,y2,y3,y4,y5,y6,y7⟩:=hPC.res.box
            obtain⟨f0,f1,f2,f3,f4,f5,f6,f7⟩:=hPC.fzr
            have HF:=Lib.hid (hPC.fill uB)
            clear hPC
            go_wp2_with fail
            clear y0 y1 y2 y3 y4 y5 y6 y7 f0 f1 f2 f3 f4 f5 f6 f7 c0 c1 c2 c3 c4 c5 c6 c7
            generalize hwz:World.setCell _ _ _=wz
            have hPz:=HF.out
            rw [hwz] at hPz
            obtain⟨c0,c1,c2,c3,c4,c5,c6,c7⟩:=hPz.res.box
            have hrr:=HR3.out
            subst hrr
            refine bodyPost_ret (v:=.tuple #[uB.val,.int .i64 0]) (by simp [results,Tryz.results89,go_sem,c0,c1,c2,c3,c4,c5,c6,c7];try rfl) rfl ⟨rfl,hPz.bel⟩
          · skip
            have hR3:=hR2.trans (if_neg hc)
            generalize checkU uB=kk at kK hc hR3
            have ekk:((kk:Int) != 0)=true:=by simp;omega
            have HR3:=Lib.hid hR3
            clear hc hR2 hR3
            refine kK.mono ?_
            rintro e wC ⟨rfl,hbC⟩
            have hPC:=hPB.below hbC
            clear hPB hbC kK
            go_wp2_with fail
            refine(KB.out kk _).mono ?_
            rintro e wZ ⟨rfl,hbZ⟩
            have hrZ:=hPC.res.below hbZ
            have HBZ:=Lib.hid (Below.fill (hPC.bel.trans (hbZ.mono hPC.bel.size)) (Nat.le_refl _) zeroU)
            obtain⟨y0,y1,y2,y3,y4,y5,y6,y7⟩:=hrZ.box
            have f0:=hrZ.fz 0
            have f1:=hrZ.fz 1
            have f2:=hrZ.fz 2
            have f3:=hrZ.fz 3
            have f4:=hrZ.fz 4
            have f5:=hrZ.fz 5
            have f6:=hrZ.fz 6
            have f7:=hrZ.fz 7
            have HF:=Lib.hid (hrZ.fill zeroU)
            clear hrZ hbZ
            go_wp2_with fail
            clear y0 y1 y2 y3 y4 y5 y6 y7 f0 f1 f2 f3 f4 f5 f6 f7
            generalize hwz:World.setCell _ _ _=wz
            have hPz:UB wz w.heap.size zeroU:=by rw [← hwz];exact HF.out
            have hBz:Below w.heap.size w wz:=by rw [← hwz];exact HBZ.out
            obtain⟨c0,c1,c2,c3,c4,c5,c6,c7⟩:=hPz.box
            have hrr:=(HR3.out)
            subst hrr
            refine bodyPost_ret (v:=.tuple #[zeroU.val,.int .i64 (kk:Nat)]) (by simp [results,Tryz.results89,go_sem,c0,c1,c2,c3,c4,c5,c6,c7];try rfl) rfl ⟨rfl,hBz⟩
      · have d2:decide (2≤(r.length:Int))=false:=decide_eq_false (by omega)
        have hp:Lib.hasPrefix r [47,47]=false:=by
         cases h:Lib.hasPrefix r [47,47] with
         | false=>rfl
         | true=>have:=congrArg List.length (hasPrefix_two h);simp at this;omega
        have hH:hostU r ⟨sc,false,[],[],hq,qu,hf,fr⟩=⟨sc,false,[],r,hq,qu,hf,fr⟩:=by
         unfold hostU hostP
         rw [hp]
         simp only [Bool.false_eq_true,if_false]
        have hR2:rr=(if checkU ⟨sc,false,[],r,hq,qu,hf,fr⟩=0 then (⟨sc,false,[],r,hq,qu,hf,fr⟩,0) else (zeroU,checkU ⟨sc,false,[],r,hq,qu,hf,fr⟩)):=by
         rw [HR.out]
         unfold finU
         rw [hH]
        have HR2:=Lib.hid hR2
        clear hH hR2 hp HR
        obtain⟨y0,y1,y2,y3,y4,y5,y6,y7⟩:=hPW.own.box
        have f3:=hPW.own.fz 3
        have HQ:=Lib.hid (hPW.s3 r)
        have HM3:=Lib.hid (HM.out.below hPW.bel)
        clear hPW
        go_wp2_with fail
        clear y0 y1 y2 y3 y4 y5 y6 y7 f3
        generalize hwB:World.setCell _ _ _=wB
        have hPB:=HQ.out
        rw [hwB] at hPB
        have hMB:MaxLenOk wB:=HM.out.below hPB.bel
        have kK:=RCheck_any sc [] r qu fr false hq hf wB hMB
        have hR2:=HR2.out
        obtain⟨uB,huB⟩:∃ uB:UrlD,uB=⟨sc,false,[],r,hq,qu,hf,fr⟩:=⟨_,rfl⟩
        rw [← huB] at hPB hR2 kK
        clear HQ HR2 hwB huB HM3 hMB
        by_cases hc:checkU uB=0
        · skip
          have hR3:=hR2.trans (if_pos hc)
          rw [hc] at kK
          have HR3:=Lib.hid hR3
          clear hc hR2 hR3
          refine kK.mono ?_
          rintro e wC ⟨rfl,hbC⟩
          have hPC:=hPB.below hbC
          clear hPB hbC kK
          obtain⟨c0,c1,c2,c3,c4,c5,c6,c7⟩:=hPC.own.box
          obtain⟨y0,y1,y2,y3,y4,y5,y6,y7⟩:=hPC.res.box
          obtain⟨f0,f1,f2,f3,f4,f5,f6,f7⟩:=hPC.fzr
          have HF:=Lib.hid (hPC.fill uB)
          clear hPC
          go_wp2_with fail
          clear y0 y1 y2 y3 y4 y5 y6 y7 f0 f1 f2 f3 f4 f5 f6 f7 c0 c1 c2 c3 c4 c5 c6 c7
          generalize hwz:World.setCell _ _ _=wz
          have hPz:=HF.out
          rw [hwz] at hPz
          obtain⟨c0,c1,c2,c3,c4,c5,c6,c7⟩:=hPz.res.box
          have hrr:=HR3.out
          subst hrr
          refine bodyPost_ret (v:=.tuple #[uB.val,.int .i64 0]) (by simp [results,Tryz.results89,go_sem,c0,c1,c2,c3,c4,c5,c6,c7];try rfl) rfl ⟨rfl,hPz.bel⟩
        · skip
          have hR3:=hR2.trans (if_neg hc)
          generalize checkU uB=kk at kK hc hR3
          have ekk:((kk:Int) != 0)=true:=by simp;omega
          have HR3:=Lib.hid hR3
          clear hc hR2 hR3
          refine kK.mono ?_
          rintro e wC ⟨rfl,hbC⟩
          have hPC:=hPB.below hbC
          clear hPB hbC kK
          go_wp2_with fail
          refine(KB.out kk _).mono ?_
          rintro e wZ ⟨rfl,hbZ⟩
          have hrZ:=hPC.res.below hbZ
          have HBZ:=Lib.hid (Below.fill (hPC.bel.trans (hbZ.mono hPC.bel.size)) (Nat.le_refl _) zeroU)
          obtain⟨y0,y1,y2,y3,y4,y5,y6,y7⟩:=hrZ.box
          have f0:=hrZ.fz 0
          have f1:=hrZ.fz 1
          have f2:=hrZ.fz 2
          have f3:=hrZ.fz 3
          have f4:=hrZ.fz 4
          have f5:=hrZ.fz 5
          have f6:=hrZ.fz 6
          have f7:=hrZ.fz 7
          have HF:=Lib.hid (hrZ.fill zeroU)
          clear hrZ hbZ
          go_wp2_with fail
          clear y0 y1 y2 y3 y4 y5 y6 y7 f0 f1 f2 f3 f4 f5 f6 f7
          generalize hwz:World.setCell _ _ _=wz
          have hPz:UB wz w.heap.size zeroU:=by rw [← hwz];exact HF.out
          have hBz:Below w.heap.size w wz:=by rw [← hwz];exact HBZ.out
          obtain⟨c0,c1,c2,c3,c4,c5,c6,c7⟩:=hPz.box
          have hrr:=(HR3.out)
          subst hrr
          refine bodyPost_ret (v:=.tuple #[zeroU.val,.int .i64 (kk:Nat)]) (by simp [results,Tryz.results89,go_sem,c0,c1,c2,c3,c4,c5,c6,c7];try rfl) rfl ⟨rfl,hBz⟩
end Go.Proofs.YtlgbopjhmemaoaaGreatDoor
