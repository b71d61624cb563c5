import Derived.Deep.Onto
import Derived.Test.YtlgbopjhmemaoaaGreatDoorU17
set_option maxRecDepth 100000
set_option maxHeartbeats 40000000
namespace Go.Proofs.YtlgbopjhmemaoaaGreatDoor
open Go.RowKit
theorem LinksOf_any (A:Option Addr) (n c:Nat) (l:List UInt8) (w:World) (hM:MaxLenOk w) (hb:By w w.heap.size A n l) (h4n:n≤4000) :
 Calls Tryz.prog 46 #[.slice A n c] w (FindOut (findE l) w):=by
 have hnl:=hb.len
 subst hnl
 have h4:l.length≤4000:=h4n
 obtain⟨R,hR⟩:∃ R,R=FL l.length l []:=⟨_,rfl⟩
 have hT:findE l=findEnd R:=by
  unfold findE
  rw [if_neg (by omega),FL_find,hR]
 rw [hT]
 have hts:=run_toStr (P:=Tryz.prog) w 22 9 5 _ A l.length c l hb Tryz.underlying22 Tryz.underlying5 Tryz.underlying9
 obtain⟨W0,hW0⟩:∃ X,X=w.alloc (.cells #[str l] 9):=⟨_,rfl⟩
 have hbW:Below w.heap.size w W0:=by rw [hW0];exact(Below.refl _ w).alloc (Nat.le_refl _) _
 have hbx:BoxS W0 w.heap.size l:=by
  rw [hW0]
  refine⟨?_,by simp⟩
  unfold World.cell?
  rw [heap_alloc_new w _]
  rfl
 have HR:=Lib.hid hR
 have HM:=Lib.hid (hM.below hbW)
 have HbW:=Lib.hid hbW
 have Hbx:=Lib.hid hbx
 have HW0:=Lib.hid hW0
 clear hT hR hM hbW hbx hW0 hb h4n
 go_enter Tryz.func46,Tryz.ntmps46
 go_upto_region 3 with fail
 rw [← HW0.out]
 clear hts
 go_wp2_with fail
 go_loopw [2,3,4,9] (fun v2 v3 v4 v9 wr=>LkRel W0 l.length l R v2 v3 v4 v9 wr) (fun _ _ _ v9 _=>l.length - (intOf v9).toNat)
 case atStart=>exact⟨0,0,0,none,[],rfl,rfl,rfl,rfl,Nat.zero_le _,Nat.zero_le _,Lib.hid ⟨rfl,HR.out.symm⟩,World.ownsRow_nil _ _ _ _,Below.refl _ _⟩
 case round =>
  obtain⟨i,m,cS,S,out,rfl,rfl,rfl,rfl,hi,hm,hst,hown,hbel⟩:=hrel
  have hbx:=Hbx.out.below hbel
  have x0:=hbx.1
  have Hbxr:=Lib.hid hbx
  have HMr:=Lib.hid (HM.out.below hbel)
  have Hown:=Lib.hid hown
  have Hbel:=Lib.hid hbel
  clear hbx hown hbel
  by_cases hin:i < l.length
  · have i0:(0:Int)≤(i:Int):=by omega
    have i1:(i:Int) < (l.length:Int):=by omega
    have i2:(i:Int)≤(l.length:Int):=by omega
    have hol:out.length≤60:=by rw [hst.out.1];exact hm
    have Hol:=Lib.hid hol
    clear hol
    by_cases h60:nth l i=60
    · have d60:(((nth l i:Nat):Int) == 60)=true:=by simp;omega
      have e60:(((nth l i:Nat):Int) != 60)=false:=by simp;omega
      have H60:=Lib.hid h60
      clear h60
      obtain⟨p1,hp1⟩:∃ b,b=Lib.hasPrefix (l.drop i) [60,33,45,45]:=⟨_,rfl⟩
      have hq1:=HasPrefix_any (l.drop i) [60,33,45,45] wr
      rw [← hp1] at hq1
      have Hq1:=Lib.hid hq1
      have Hp1:=Lib.hid hp1
      clear hp1 hq1
      cases p1 with
      | true=>as_aux_lemma =>
       have hi4:=prefix_com Hp1.out.symm
       have hbh:=rl_behind l [45,45,62] w.heap.size (i+4) wr Hbxr.out HMr.out (by omega) hi4 (by simp) (by simp)
       rw [show((i+4:Nat):Int)=(i:Int)+4 by omega] at hbh
       have hbh2:Calls Tryz.prog 86 #[.int .i64 ((i:Int)+4),.string ⟨#[45,45,62]⟩,.pointer (some ⟨w.heap.size,0,none⟩)] wr fun e w'=>e = .returned (.int .i64 (behP l [45,45,62] (i+4):Nat))∧wr=w':=hbh
       have Hbh:=Lib.hid hbh2
       obtain⟨hd1,hd2,hd3⟩:=behP_drop l [45,45,62] (i+4) hi4 (by simp)
       have hst2:Hid (out.length=m∧FL l.length (l.drop (behP l [45,45,62] (i+4))) out=R):=⟨hst.out.1,by rw [hd1,← FL_com hin H60.out Hol.out Hp1.out.symm];exact hst.out.2⟩
       have hgt:=behP_gt l [45,45,62] (i+4) hi4 (by simp) i hin (by omega)
       generalize behP l [45,45,62] (i+4)=z at hd2 hst2 hgt Hbh
       clear hbh hbh2 hd1 hd3
       go_wp2_with fail
       refine Hq1.out.mono ?_
       rintro e _ ⟨rfl,rfl⟩
       go_wp2_with fail
       refine Hbh.out.mono ?_
       rintro e _ ⟨rfl,rfl⟩
       go_wp2_with fail
       refine⟨⟨z,m,cS,S,out,rfl,rfl,rfl,rfl,hd2,hm,hst2,Hown.out,Hbel.out⟩,by simp [intOf];omega⟩
      | false=>as_aux_lemma =>
       obtain⟨p2,hp2⟩:∃ b,b=Lib.hasPrefix (l.drop i) [60,33]:=⟨_,rfl⟩
       obtain⟨p3,hp3⟩:∃ b,b=Lib.hasPrefix (l.drop i) [60,63]:=⟨_,rfl⟩
       have hq2:=HasPrefix_any (l.drop i) [60,33] wr
       have hq3:=HasPrefix_any (l.drop i) [60,63] wr
       rw [← hp2] at hq2
       rw [← hp3] at hq3
       have Hq2:=Lib.hid hq2
       have Hq3:=Lib.hid hq3
       have Hp2:=Lib.hid hp2
       have Hp3:=Lib.hid hp3
       clear hp2 hp3 hq2 hq3
       go_upto_region 12 with fail
       refine Hq1.out.mono ?_
       rintro e _ ⟨rfl,rfl⟩
       go_upto_region 12 with fail
       go_cut [49] from 22 to 325 (fun sv wx=>sv = .bool (p2 || p3)∧wr=wx)
       case first=>as_aux_lemma =>
        cases p2 with
        | true =>
         go_wp2_with fail
         refine Hq2.out.mono ?_
         rintro e _ ⟨rfl,rfl⟩
         go_wp2_with fail
         go_meet
         exact⟨rfl,rfl⟩
        | false =>
         go_wp2_with fail
         refine Hq2.out.mono ?_
         rintro e _ ⟨rfl,rfl⟩
         go_wp2_with fail
         refine Hq3.out.mono ?_
         rintro e _ ⟨rfl,rfl⟩
         cases p3 with
         | true =>
          go_wp2_with fail
          go_meet
          exact⟨rfl,rfl⟩
         | false =>
          go_wp2_with fail
          go_meet
          exact⟨rfl,rfl⟩
       case rest=>as_aux_lemma =>
        obtain⟨rfl,rfl⟩:=hcut
        obtain⟨pb,hpb⟩:∃ b,b=(p2 || p3):=⟨_,rfl⟩
        rw [← hpb]
        have Hpb:Hid (pb=(Lib.hasPrefix (l.drop i) [60,33] || Lib.hasPrefix (l.drop i) [60,63])):=by show _=_;rw [hpb,Hp2.out,Hp3.out]
        clear hpb Hq1 Hq2 Hq3 Hp2 Hp3
        cases pb with
        | true =>
         have hbh:=rl_behind l [62] w.heap.size i wr Hbxr.out HMr.out (by omega) (by omega) (by simp) (by simp)
         have hbh2:Calls Tryz.prog 86 #[.int .i64 (i:Int),.string ⟨#[62]⟩,.pointer (some ⟨w.heap.size,0,none⟩)] wr fun e w'=>e = .returned (.int .i64 (behP l [62] i:Nat))∧wr=w':=hbh
         have Hbh:=Lib.hid hbh2
         obtain⟨hd1,hd2,hd3⟩:=behP_drop l [62] i (by omega) (by simp)
         have hst2:Hid (out.length=m∧FL l.length (l.drop (behP l [62] i)) out=R):=⟨hst.out.1,by rw [hd1,← FL_bang hin H60.out Hol.out Hp1.out.symm Hpb.out.symm];exact hst.out.2⟩
         have hgt:=behP_gt l [62] i (by omega) (by simp) i hin (Nat.le_refl _)
         generalize behP l [62] i=z at hd2 hst2 hgt Hbh
         clear hbh hbh2 hd1 hd3
         go_wp2_with fail
         refine Hbh.out.mono ?_
         rintro e _ ⟨rfl,rfl⟩
         go_wp2_with fail
         refine⟨⟨z,m,cS,S,out,rfl,rfl,rfl,rfl,hd2,hm,hst2,Hown.out,Hbel.out⟩,by simp [intOf];omega⟩
        | false =>
         obtain⟨sh,hsh⟩:∃ b,b=(Lib.hasPrefix (l.drop i) [60,47] && letP l (i+2)):=⟨_,rfl⟩
         have Hsh:=Lib.hid hsh
         clear hsh
         go_upto_region 14 with fail
         go_cut [10] from 22 to 325 (fun sv wx=>sv = .bool sh∧Below wr.heap.size wr wx)
         case first=>as_aux_lemma =>
          obtain⟨p4,hp4⟩:∃ b,b=Lib.hasPrefix (l.drop i) [60,47]:=⟨_,rfl⟩
          have hq4:=HasPrefix_any (l.drop i) [60,47] wr
          rw [← hp4] at hq4
          have Hq4:=Lib.hid hq4
          have hsh:=Hsh.out
          rw [← hp4] at hsh
          have Hsh2:=Lib.hid hsh
          clear hp4 hq4 hsh Hsh
          cases p4 with
          | true =>
           have hle:=rl_letter l w.heap.size (i+2) wr Hbxr.out HMr.out (by omega) (by omega)
           rw [show((i+2:Nat):Int)=(i:Int)+2 by omega] at hle
           have hs2:letP l (i+2)=sh:=by rw [Hsh2.out,Bool.true_and]
           rw [hs2] at hle
           have Hle:=Lib.hid hle
           clear hle hs2
           go_wp2_with fail
           refine Hq4.out.mono ?_
           rintro e _ ⟨rfl,rfl⟩
           go_wp2_with fail
           refine Hle.out.mono ?_
           rintro e w5 ⟨rfl,hb5⟩
           have Hb5:=Lib.hid hb5
           clear hb5
           go_wp2_with fail
           go_meet
           exact⟨rfl,Hb5.out⟩
          | false =>
           have hs2:Hid (sh=false):=by show _=_;rw [Hsh2.out,Bool.false_and]
           go_wp2_with fail
           refine Hq4.out.mono ?_
           rintro e _ ⟨rfl,rfl⟩
           go_wp2_with fail
           go_meet
           exact⟨by rw [hs2.out],Below.refl _ _⟩
         case rest=>as_aux_lemma =>
          obtain⟨rfl,hba⟩:=hcut
          obtain⟨wa,rfl⟩:∃ x,x=wc:=⟨_,rfl⟩
          have Hba:=Lib.hid hba
          have Hbxa:=Lib.hid (Hbxr.out.below hba)
          have HMa:=Lib.hid (HMr.out.below hba)
          obtain⟨nk,hnk⟩:∃ b,b=(!sh && !letP l (i+1)):=⟨_,rfl⟩
          have Hnk:=Lib.hid hnk
          clear hba hnk x0
          have x1:=Hbxa.out.1
          go_upto_region 15 with fail
          go_cut [71] from 22 to 325 (fun sv wx=>sv = .bool nk∧Below wa.heap.size wa wx)
          case first=>as_aux_lemma =>
           cases sh with
           | true =>
            have hb:Hid (nk=false):=by show _=_;rw [Hnk.out];rfl
            go_wp2_with fail
            go_meet
            exact⟨by rw [hb.out],Below.refl _ _⟩
           | false =>
            have hle:=rl_letter l w.heap.size (i+1) wa Hbxa.out HMa.out (by omega) (by omega)
            rw [show((i+1:Nat):Int)=(i:Int)+1 by omega] at hle
            have hb:Hid (nk = !letP l (i+1)):=by show _=_;rw [Hnk.out];rfl
            have Hle:=Lib.hid hle
            clear hle
            go_wp2_with fail
            refine Hle.out.mono ?_
            rintro e w5 ⟨rfl,hb5⟩
            have Hb5:=Lib.hid hb5
            clear hb5
            go_wp2_with fail
            go_meet
            exact⟨by rw [hb.out],Hb5.out⟩
          case rest=>as_aux_lemma =>
           obtain⟨rfl,hbt⟩:=hcut
           obtain⟨wt,rfl⟩:∃ x,x=wc:=⟨_,rfl⟩
           have hbt2:=Hba.out.trans (hbt.mono Hba.out.size)
           have Hbt:=Lib.hid (Hbel.out.trans (hbt2.mono Hbel.out.size))
           have Hownt:=Lib.hid (own_below Hown.out hbt2)
           have Hbxt:=Lib.hid (Hbxr.out.below hbt2)
           have HMt:=Lib.hid (HMr.out.below hbt2)
           clear hbt hbt2 x1
           have x2:=Hbxt.out.1
           cases nk with
           | true =>
            have hk:=Hnk.out.symm
            rw [Bool.and_eq_true,Bool.not_eq_true',Bool.not_eq_true'] at hk
            have hst2:Hid (out.length=m∧FL l.length (l.drop (i+1)) out=R):=⟨hst.out.1,by rw [← FL_none hin H60.out Hol.out Hp1.out.symm Hpb.out.symm (by rw [← Hsh.out];exact hk.1) hk.2];exact hst.out.2⟩
            clear hk
            go_wp2_with fail
            refine⟨⟨i+1,m,cS,S,out,rfl,rfl,rfl,by go_num,by omega,hm,hst2,Hownt.out,Hbt.out⟩,by simp [intOf];omega⟩
           | false =>
            have hsl:sh=true∨letP l (i+1)=true:=by
             have hk:=Hnk.out.symm
             cases sh
             · right;simpa using hk
             · exact .inl rfl
            obtain⟨j,hj⟩:∃ j,j=if sh then i+2 else i+1:=⟨_,rfl⟩
            have hjb:i+1≤j∧j≤l.length∧j≤i+2:=by
             cases sh
             · rw [hj];exact⟨Nat.le_refl _,by simp;omega,by simp⟩
             · have h1:=Hsh.out.symm
               rw [Bool.and_eq_true] at h1
               have h2:=h1.2
               unfold letP at h2
               rw [Bool.and_eq_true,decide_eq_true_eq] at h2
               rw [hj]
               simp
               omega
            have hFL:=FL_tag hin H60.out Hol.out Hp1.out.symm Hpb.out.symm sh Hsh.out.symm hsl j hj
            have HFL:=Lib.hid (hFL.symm.trans hst.out.2)
            have Hj:=Lib.hid hj
            have h47:sh=true→nth l (i+1)=47∧nth l (i+2)≠47∧i+2 < l.length:=by
             intro e
             have h1:=Hsh.out.symm
             rw [e,Bool.and_eq_true] at h1
             have h2:=h1.2
             unfold letP at h2
             rw [Bool.and_eq_true,decide_eq_true_eq] at h2
             refine⟨((nth_one (by omega)).1 h1.1).2,fun e2=>?_,h2.1⟩
             rw [e2] at h2
             simp [isLet] at h2
            have H47:=Lib.hid h47
            clear hsl hj hFL h47
            go_upto_block 2 with fail
            go_cut [9] from 22 to 325 (fun sv wx=>sv = .int .i64 (j:Nat)∧wt=wx)
            case first=>as_aux_lemma =>
             cases sh with
             | true =>
              obtain⟨h47,hn47,hi2⟩:=H47.out rfl
              have hj2:Hid (j=i+2):=by show _=_;rw [Hj.out];rfl
              clear Hj
              go_wp2_with fail
              go_loop [9] (fun v=>∃ q:Nat,v = .int .i64 (q:Nat)∧(q=i+1∨q=i+2)) (fun v=>l.length - (intOf v).toNat)
              case atStart=>exact⟨i+1,by go_num,.inl rfl⟩
              case round =>
               obtain⟨q,rfl,hq⟩:=hrel
               have hqn:q < l.length:=by omega
               have q0:(0:Int)≤(q:Int):=by omega
               have q1:(q:Int) < (l.length:Int):=by omega
               rcases hq with hq | hq
               · have h1:nth l q=47:=by rw [hq];exact h47
                 have d47:(((nth l q:Nat):Int) == 47)=true:=by simp;omega
                 have e47:(((nth l q:Nat):Int) != 47)=false:=by simp;omega
                 have Hq:=Lib.hid hq
                 clear h1 hq h47 hn47
                 go_wp2_with fail
                 go_round
                 case rel=>exact⟨q+1,by go_num,.inr (by rw [Hq.out])⟩
                 case measure=>simp [intOf];omega
               · have h1:nth l q≠47:=by rw [hq];exact hn47
                 have d47:(((nth l q:Nat):Int) == 47)=false:=by simp;omega
                 have e47:(((nth l q:Nat):Int) != 47)=true:=by simp;omega
                 have Hq:=Lib.hid hq
                 clear h1 hq h47 hn47
                 go_wp2_with fail
                 go_meet
                 exact⟨by rw [hj2.out,Hq.out],rfl⟩
             | false =>
              have hj2:Hid (j=i+1):=by show _=_;rw [Hj.out];rfl
              clear Hj
              go_wp2_with fail
              go_loop [9] (fun v=>∃ q:Nat,v = .int .i64 (q:Nat)∧q=i+1) (fun v=>l.length - (intOf v).toNat)
              case atStart=>exact⟨i+1,by go_num,rfl⟩
              case round =>
               obtain⟨q,rfl,hq⟩:=hrel
               have Hq:=Lib.hid hq
               have q0:(0:Int)≤(q:Int):=by omega
               have hql:q≤l.length:=by omega
               clear hq
               by_cases hqn:q < l.length
               · have q1:(q:Int) < (l.length:Int):=by omega
                 by_cases h1:nth l q=47
                 · have d47:(((nth l q:Nat):Int) == 47)=true:=by simp;omega
                   have e47:(((nth l q:Nat):Int) != 47)=false:=by simp;omega
                   clear h1
                   go_wp2_with fail
                   go_meet
                   exact⟨by rw [hj2.out,Hq.out],rfl⟩
                 · have d47:(((nth l q:Nat):Int) == 47)=false:=by simp;omega
                   have e47:(((nth l q:Nat):Int) != 47)=true:=by simp;omega
                   clear h1
                   go_wp2_with fail
                   go_meet
                   exact⟨by rw [hj2.out,Hq.out],rfl⟩
               · have hqf:decide (q < l.length)=false:=by simpa using hqn
                 clear hqn
                 go_wp2_with fail
                 go_meet
                 exact⟨by rw [hj2.out,Hq.out],rfl⟩
            case rest=>as_aux_lemma =>
             obtain⟨rfl,rfl⟩:=hcut
             obtain⟨pj,hpj⟩:∃ k,toP pName l j=k:=⟨_,rfl⟩
             have hpl:=toP_le pName l j (by omega)
             rw [hpj] at hpl
             have Hpj:=Lib.hid hpj
             clear hpj
             go_upto_block 4 with fail
             go_cut [9] from 22 to 325 (fun sv wx=>sv = .int .i64 (pj:Nat)∧wt=wx)
             case first=>as_aux_lemma =>
              go_wp2_with fail
              go_loop [9] (fun v=>∃ q:Nat,v = .int .i64 (q:Nat)∧q≤l.length∧j≤q∧Hid (toP pName l q=pj)) (fun v=>l.length - (intOf v).toNat)
              case atStart=>exact⟨j,rfl,by omega,by omega,Hpj⟩
              case round =>
               obtain⟨q,rfl,hq,hq0,HQ⟩:=hrel
               by_cases hqn:q < l.length
               · have q0:(0:Int)≤(q:Int):=by omega
                 have q1:(q:Int) < (l.length:Int):=by omega
                 have hs:=rl_space l _ q wt Hbxt.out hqn
                 cases hsp:isSp (nth l q) with
                 | true =>
                  rw [hsp] at hs
                  have Hs:=Lib.hid hs
                  have hT:Hid (q=pj):=by
                   have h1:=toP_at pName l q hqn (by simp [pName,hsp])
                   rw [HQ.out] at h1
                   exact h1.symm
                  clear hs hsp
                  go_wp2_with fail
                  refine Hs.out.mono ?_
                  rintro e _ ⟨rfl,rfl⟩
                  go_wp2_with fail
                  go_meet
                  exact⟨by rw [hT.out],rfl⟩
                 | false =>
                  rw [hsp] at hs
                  have Hs:=Lib.hid hs
                  clear hs
                  by_cases h47:nth l q=47
                  · have d47:(((nth l q:Nat):Int) == 47)=true:=by simp;omega
                    have e47:(((nth l q:Nat):Int) != 47)=false:=by simp;omega
                    have hT:Hid (q=pj):=by
                     have h1:=toP_at pName l q hqn (by simp [pName,h47])
                     rw [HQ.out] at h1
                     exact h1.symm
                    clear hsp h47
                    go_wp2_with fail
                    refine Hs.out.mono ?_
                    rintro e _ ⟨rfl,rfl⟩
                    go_wp2_with fail
                    go_meet
                    exact⟨by rw [hT.out],rfl⟩
                  · have d47:(((nth l q:Nat):Int) == 47)=false:=by simp;omega
                    have e47:(((nth l q:Nat):Int) != 47)=true:=by simp;omega
                    by_cases h62:nth l q=62
                    · have d62:(((nth l q:Nat):Int) == 62)=true:=by simp;omega
                      have e62:(((nth l q:Nat):Int) != 62)=false:=by simp;omega
                      have hT:Hid (q=pj):=by
                       have h1:=toP_at pName l q hqn (by simp [pName,h62])
                       rw [HQ.out] at h1
                       exact h1.symm
                      clear hsp h62
                      go_wp2_with fail
                      refine Hs.out.mono ?_
                      rintro e _ ⟨rfl,rfl⟩
                      go_wp2_with fail
                      go_meet
                      exact⟨by rw [hT.out],rfl⟩
                    · have d62:(((nth l q:Nat):Int) == 62)=false:=by simp;omega
                      have e62:(((nth l q:Nat):Int) != 62)=true:=by simp;omega
                      have hT:Hid (toP pName l (q+1)=pj):=by
                       have h1:=toP_step pName l q hqn (by simp [pName,hsp,h47,h62])
                       show _=_
                       rw [← h1]
                       exact HQ.out
                      clear hsp
                      go_wp2_with fail
                      refine Hs.out.mono ?_
                      rintro e _ ⟨rfl,rfl⟩
                      go_wp2_with fail
                      go_round
                      case rel=>exact⟨q+1,by go_num,by omega,by omega,hT⟩
                      case measure=>simp [intOf];omega
               · obtain rfl:q=l.length:=by omega
                 have hT:Hid (l.length=pj):=by
                  have h1:=toP_end pName l
                  rw [HQ.out] at h1
                  exact h1.symm
                 have hqf:decide (l.length < l.length)=false:=by simp
                 go_wp2_with fail
                 go_meet
                 exact⟨by rw [hT.out],rfl⟩
             case rest=>as_aux_lemma =>
              obtain⟨rfl,rfl⟩:=hcut
              obtain⟨RA,hRA⟩:∃ RA,AL l.length (l.drop pj) [] []=RA:=⟨_,rfl⟩
              have hFL2:=HFL.out
              rw [Hpj.out,hRA] at hFL2
              have HFL2:=Lib.hid hFL2
              have HRA:=Lib.hid hRA
              clear hFL2 hRA
              clear x2
              go_wp2_with fail
              refine rl_attrs A l.length c w.heap.size pj l RA wt HMt.out Hbxt.out h4 (by omega) HRA.out _ _ _ _ _ _ _ _ _ _ _ _ _ _ _ _ _ _ _ _ _ _ _ _ _ _ _ _ _ _ _ _ _ _ _ _ _ _ _ _ _ _ _ _ _ _ _ _ _ _ _ _ _ _ _ _ _ _ _ _ _ _ _ _ _ _ _ _ _ _ _ _ _ _ _ _ _ _ _ _ _ _ _ _ _ _ _ _ _ _ _ _ _ _ _ _ _ _ _ _ _ _ _ _ _ _ _ _ _ _ _ _ _ _ _ _ _ _ _ _ _ _ _ _ _ _ _ _ _ _ _ _ _ _ _ _ _ _ _ _ _ _ _ _ _ _ _ _ _ _ _ _ _ _ _ _ _ _ _ _ _ _ _ _ _ _ _ _ _ _ _ _ _ _ _ _ _ _ _ _ _ _ _ _ _ _ _ _ _ _ _ _ _ _ _ _ _ _ _ _ _ _ _ _ _ _ _ _ _ _ _ _ _ _ _ _ _ _ _ _ _ _ _ _ _ _ _ _ _ _ _ _ _ _ _ _ _ _ _ _ _ _ _ _ _ _ _ _ _ _ _ _ _ _ _ _ _ _ _ _ _ _ _ _ _ _ _ _ _ _ _ _ _ _ _ _ _ _ _ _ _ _ _ _ _ _ _ _ _ _ _ _ _ _ _ _ _ _ _ _ _ _ _ _ _ _ _ _ _ _ _ _ _ _ _ _ _ _ _ _ ?_
              intro v9 v11 v12 u13 u14 u15 u16 u115 u116 u117 u118 u119 u120 u121 u122 u123 u124 u125 u126 u127 u128 u129 u130 u131 u132 u133 u134 u135 u136 u137 u138 u139 u140 u141 u142 u143 u144 u145 u146 u147 u148 u149 u150 u151 u152 u153 u154 u155 u156 u157 u158 u159 u160 u161 u162 u163 u164 u165 u166 u167 u168 u169 u170 u171 u172 u173 u174 u175 u176 u177 u178 u179 u180 u181 u182 u183 u184 u185 u186 u187 u188 u189 u190 u191 u192 u193 u194 u195 u196 u197 u198 u199 u200 u201 u202 u203 u204 u205 u206 u207 u208 u209 u210 u211 u212 u213 u214 u215 u216 u217 u218 u219 u220 u221 u222 u223 u224 u225 u226 u227 u228 u229 u230 u231 u232 u233 u234 u235 u236 u237 u238 u239 u240 u241 u242 u243 u244 u245 u246 u247 u248 u249 u250 u251 u252 u253 u254 u255 u256 u257 u258 u259 u260 u261 u262 u263 u264 u265 u266 u267 u268 u269 u270 u271 u272 u273 u274 u275 u276 u277 u278 u279 u280 u281 u282 u283 u284 u285 u286 u287 u288 u289 u290 u291 u292 u293 u294 u295 u296 u297 u298 u299 u300 u301 u302 u303 u304 u305 u306 u307 u308 u309 u310 u311 wr2 hat hend
              obtain⟨i2,m2,cM,k2,cN,SM,SN,ls,names,rfl,rfl,rfl,hi0,hi2,hm2,hk2,hst2,hown2,_,hbel2⟩:=hat
              have hend:=hend i2 rfl
              have Hbx2:=Lib.hid (Hbxt.out.below hbel2)
              have Hown2:=Lib.hid hown2
              have Hownt2:=Lib.hid (own_below Hownt.out hbel2)
              have Hbt2:=Lib.hid (Hbt.out.trans (hbel2.mono Hbt.out.size))
              have x3:=Hbx2.out.1
              clear hown2 hbel2
              have hcases:i2=l.length∨(i2 < l.length∧nth l i2=62):=by
               rcases hend with h | h
               · exact .inl h
               · right
                 refine⟨?_,h⟩
                 rcases Nat.lt_or_ge i2 l.length with h' | h'
                 · exact h'
                 · rw [nth_ge l i2 h'] at h;cases h
              clear hend
              rcases hcases with hend | ⟨hlt2,h62⟩
              · have hfin:FindOut (findEnd R) w (.returned (.tuple #[.slice S m cS,.int .i64 0])) wr2:=by
                 have hR0:findEnd R=(out,0):=by
                  have h1:=hst2.out.2.2
                  rw [hend,List.drop_length,AL_nil] at h1
                  rw [← HFL2.out,← h1]
                  rfl
                 rw [hR0]
                 obtain⟨h1,_⟩:=hst.out
                 subst h1
                 exact⟨S,cS,rfl,World.ownsRow.mono Hownt2.out HbW.out.size,HbW.out.trans (Hbt2.out.mono HbW.out.size)⟩
                have Hfin:=Lib.hid hfin
                clear hfin
                obtain rfl:i2=l.length:=hend
                go_wp2_with fail
                go_ret2
                exact Hfin.out
              · have hRA2:RA=some (l.drop (i2+1),ls):=by
                 have h1:=hst2.out.2.2
                 rw [AL_stop hlt2 h62] at h1
                 exact h1.symm
                have hFL3:=HFL2.out
                rw [hRA2] at hFL3
                unfold tagX at hFL3
                simp only at hFL3
                have HFL3:=Lib.hid hFL3
                have hne:((i2:Nat):Int)≠(l.length:Int):=by omega
                have hne2:(((i2:Nat):Int) == (l.length:Int))=false:=by simp;omega
                clear h62 hRA2 hFL3
                cases sh with
                | true=>as_aux_lemma =>
                 have hst3:Hid (out.length=m∧FL l.length (l.drop (i2+1)) out=R):=⟨hst.out.1,by have h1:=HFL3.out;simp only [if_true] at h1;rw [if_neg (by have:=Hol.out;omega)] at h1;exact h1⟩
                 have dm:decide ((60:Int) < (m:Int))=false:=by simp;omega
                 go_wp2_with fail
                 refine⟨?_,by simp [intOf];omega⟩
                 (repeat apply Exists.intro)
                 exact⟨⟨i2+1,m,cS,S,out,rfl,rfl,rfl,by go_num,by omega,hm,hst3,Hownt2.out,Hbt2.out⟩,rfl⟩
                | false=>as_aux_lemma =>
                 obtain⟨i0',hi0',hz0,hz1,hz2⟩:=info_parts infoLink
                 have hsl:=Sl.of_own Hown2.out
                 have hone:=linkC_one ls
                 have Hone:=Lib.hid hone
                 have Hsl2:=Lib.hid hsl
                 have h63:m+m2≤maxLen:=by unfold maxLen;omega
                 have h47:(m+m2) * 32≤140737488355328:=by omega
                 have hbase:W0.heap.size≤wr2.heap.size:=Hbt2.out.size
                 clear hsl hone
                 go_wp2_with (at_builtin;refine wpList_app2 rfl _ _ 65 rfl W0.heap.size 42 i0' _ 3 32 Tryz.underlying65 hi0' hz0 hz1 hz2 rfl (by decide) S m cS (linkC out) rfl Hownt2.out _ _ m2 cM (linkC ls) rfl Hsl2.out Hone.out h63 h47 hbase ?_)
                 intro S7 c7 w7 hown7 hb7 hgr7 hat7
                 rw [← linkC_app] at hown7
                 have Hown7:=Lib.hid hown7
                 have Hb7:=Lib.hid (Hbt2.out.trans hb7)
                 have hl7:(out ++ ls).length=m+m2:=by rw [List.length_append,hst.out.1,hst2.out.1]
                 have Hl7:=Lib.hid hl7
                 clear hown7 hb7 hgr7 hat7 hl7 hi0' hz0 hz1 hz2 h63 h47 hbase
                 by_cases h60:60 < m+m2
                 · have hfin:FindOut (findEnd R) w (.returned (.tuple #[.slice none 0 0,.int .i64 2])) w7:=by
                    have hR0:R=none:=by
                     have h1:=HFL3.out
                     simp only [Bool.false_eq_true,if_false] at h1
                     rw [if_pos (by rw [Hl7.out];exact h60)] at h1
                     exact h1.symm
                    rw [hR0]
                    exact⟨none,0,rfl,World.ownsRow_nil _ _ _ _,HbW.out.trans (Hb7.out.mono HbW.out.size)⟩
                   have Hfin:=Lib.hid hfin
                   have dm:decide ((60:Int) < (m:Int)+(m2:Int))=true:=by simp;omega
                   clear hfin h60
                   go_wp2_with fail
                   go_ret2
                   exact Hfin.out
                 · have hst3:Hid ((out ++ ls).length=m+m2∧FL l.length (l.drop (i2+1)) (out ++ ls)=R):=⟨Hl7.out,by have h1:=HFL3.out;simp only [Bool.false_eq_true,if_false] at h1;rw [if_neg (by rw [Hl7.out];exact h60)] at h1;exact h1⟩
                   have dm:decide ((60:Int) < (m:Int)+(m2:Int))=false:=by simp;omega
                   have hm7:m+m2≤60:=by omega
                   clear h60
                   go_wp2_with fail
                   refine⟨?_,by simp [intOf];omega⟩
                   (repeat apply Exists.intro)
                   exact⟨⟨i2+1,m+m2,c7,S7,out ++ ls,rfl,rfl,rfl,by go_num,by omega,hm7,hst3,Hown7.out,Hb7.out⟩,rfl⟩
    · have d60:(((nth l i:Nat):Int) == 60)=false:=by simp;omega
      have e60:(((nth l i:Nat):Int) != 60)=true:=by simp;omega
      have hst2:Hid (out.length=m∧FL l.length (l.drop (i+1)) out=R):=⟨hst.out.1,by rw [← FL_skip hin h60 Hol.out];exact hst.out.2⟩
      clear h60
      go_wp2_with fail
      refine⟨⟨i+1,m,cS,S,out,rfl,rfl,rfl,by go_num,by omega,hm,hst2,Hown.out,Hbel.out⟩,by simp [intOf];omega⟩
  · obtain rfl:i=l.length:=by omega
    have hqf:decide (l.length < l.length)=false:=by simp
    have hfin:FindOut (findEnd R) w (.returned (.tuple #[.slice S m cS,.int .i64 0])) wr:=by
     have hR0:findEnd R=(out,0):=by
      rw [← hst.out.2,List.drop_length,FL_nil]
      rfl
     rw [hR0]
     obtain⟨h1,_⟩:=hst.out
     subst h1
     exact⟨S,cS,rfl,World.ownsRow.mono Hown.out HbW.out.size,HbW.out.trans (Hbel.out.mono HbW.out.size)⟩
    have Hfin:=Lib.hid hfin
    clear hfin
    go_wp2_with fail
    go_ret2
    exact Hfin.out
end Go.Proofs.YtlgbopjhmemaoaaGreatDoor
