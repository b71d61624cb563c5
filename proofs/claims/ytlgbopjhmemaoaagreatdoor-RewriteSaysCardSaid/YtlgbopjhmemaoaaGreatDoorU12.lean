import Derived.Test.YtlgbopjhmemaoaaGreatDoorU10
import Derived.Deep.Onto
import Derived.Test.YtlgbopjhmemaoaaGreatDoorU7
import Derived.Test.YtlgbopjhmemaoaaGreatDoorU11
import Derived.Deep.Slices
import Derived.Deep.Fields
import Derived.Lib.SmallJoins
import Derived.SizedLaws
import Derived.Test.YtlgbopjhmemaoaaGreatDoorU1
import Derived.Maps.Own
import Derived.Maps.Views
set_option maxRecDepth 100000
set_option maxHeartbeats 40000000
namespace Go.Proofs.YtlgbopjhmemaoaaGreatDoor
open Go.RowKit
attribute [local go_sem high] cut_u8 mid_u8
def putE (l:List UInt8) (ts:List (List UInt8)):List UInt8 × Nat:=if 4000 < l.length then ([],2) else putB l ts
def PutOut (T:List UInt8 × Nat) (w:World) (e:Ending) (w':World):Prop:=
 ∃ S c,e = .returned (.tuple #[.slice S T.1.length c,.int .i64 (T.2:Nat)])∧w'.ownsRow w.heap.size 5 1 (.slice S T.1.length c) T.1.length (Lib.byteCells T.1)∧Below w.heap.size w w'
def sumL (ts:List (List UInt8)):Nat:=(ts.map List.length).sum
theorem putE_none {l:List UInt8} {ts:List (List UInt8)} (h:(findE l).2≠0):putE l ts=([],2)∧(findE l).2=2:=by
 unfold findE at h ⊢
 unfold putE
 split
 · exact⟨rfl,rfl⟩
 · rename_i h4
   rw [if_neg h4] at h
   cases hf:findB l with
   | none=>unfold putB;rw [hf];exact⟨rfl,rfl⟩
   | some ls=>rw [hf] at h;exact absurd rfl h
theorem putE_some {l:List UInt8} {ts:List (List UInt8)} (h:(findE l).2=0):findB l=some (findE l).1∧l.length≤4000∧putE l ts=if ts.length≠(findE l).1.length then ([],4) else if ts.any (fun t=>t.any fun c=>badPut c.toNat) then ([],1) else if 4000 < (putL l 0 [] (findE l).1 ts).length then ([],2) else (putL l 0 [] (findE l).1 ts,0):=by
 unfold findE at h ⊢
 unfold putE
 split
 · rename_i h4;rw [if_pos h4] at h;cases h
 · rename_i h4
   rw [if_neg h4] at h
   cases hf:findB l with
   | none=>rw [hf] at h;cases h
   | some ls=>exact⟨rfl,by omega,by unfold putB;rw [hf];rfl⟩
theorem findB_len {l:List UInt8} {ls:List LinkD} (h:findB l=some ls):ls.length≤60:=by
 rw [findB_eq] at h
 split at h
 · cases h
 · have h:=Option.some.inj h
   rw [← h,links_len]
   omega
def PutRel (_w w1:World) (n m:Nat) (l:List UInt8) (ls:List LinkD) (ts:List (List UInt8)) (T:Nat) (R:List UInt8) (ov av iv:Value) (wr:World):Prop:=
 ∃ (i at_ no co:Nat) (So:Option Addr) (out:List UInt8),ov = .slice So no co∧av = .int .i64 (at_:Nat)∧iv = .int .i64 (i:Nat)∧i≤m∧no=out.length∧wr.ownsRow w1.heap.size 5 1 (.slice So no co) no (Lib.byteCells out) ∧
  Below w1.heap.size w1 wr∧LOk at_ n (ls.drop i)∧Hid (putL l at_ out (ls.drop i) (ts.drop i)=R)∧Hid ((ts.take i).any (fun t=>t.any fun c=>badPut c.toNat)=false)∧no+sumL (ts.drop i)≤at_+T
theorem Put_any (A TA:Option Addr) (n c tn tc:Nat) (l:List UInt8) (ts:List (List UInt8)) (w:World) (hM:MaxLenOk w) (hb:By w w.heap.size A n l) (hc:n≤c) (hcm:c≤maxLen) (hts:Sl w w.heap.size 1 TA tn (ts.map str)) (hT:sumL ts≤1000000000000) :
 Calls Tryz.prog 14 #[.slice A n c,.slice TA tn tc] w (PutOut (putE l ts) w):=by
 obtain⟨i0,hi0,hz0,hz1,hz2⟩:=info_parts infoByte
 have Hi0:=Lib.hid hi0
 clear hi0
 have hnl:=hb.len
 have htn:ts.length=tn:=by have:=hts.1;simpa using this
 have hfind:=Find_any A n c l w hM hb hc hcm
 have he0:=fun h=>(putE_none (l:=l) (ts:=ts) h)
 have he1:=fun h=>(putE_some (l:=l) (ts:=ts) h)
 unfold FindOut at hfind
 generalize findE l=F at hfind he0 he1
 obtain⟨ls,fe⟩:=F
 simp only at hfind he0 he1
 by_cases hfe:fe=0
 · subst hfe
   obtain⟨e1,e2,e3⟩:=he1 rfl
   have hok:=LOk.find e1
   have hm60:=findB_len e1
   have Hfind:=Lib.hid hfind
   clear he0 he1 hfind
   obtain⟨m,hm⟩:∃ m,m=ls.length:=⟨_,rfl⟩
   rw [← hm] at e3 hm60
   have Hm:=Lib.hid hm
   have Htn:=Lib.hid htn
   rw [htn] at e3
   by_cases hlen:tn=m
   · have hne:((tn:Int) != (m:Int))=false:=by simp;omega
     rw [if_neg (by omega)] at e3
     obtain⟨R,hR⟩:∃ R,R=putL l 0 [] ls ts:=⟨_,rfl⟩
     obtain⟨bad,hbad⟩:∃ bad,bad=ts.any (fun t=>t.any fun c=>badPut c.toNat):=⟨_,rfl⟩
     rw [← hR,← hbad] at e3
     have hn4:n≤4000:=by omega
     rw [hnl] at hok
     have Hnl:=Lib.hid hnl
     have HR:=Lib.hid hR
     have Hbad:=Lib.hid hbad
     have Hlen:=Lib.hid hlen
     have E3:=Lib.hid e3
     clear hR hbad hlen e1 e2 e3 hm htn hnl
     go_enter Tryz.func14,Tryz.ntmps14
     go_wp2_with fail
     refine Hfind.out.mono ?_
     rw [← Hm.out]
     rintro e w1 ⟨S,cS,rfl,hown1,hb1⟩
     have hsz1:=hb1.size
     have hbP:=hb.below hb1
     have htP:=hts.below hb1
     have hsl:=Sl.of_own hown1
     have hcap:=own_cap hown1
     clear hown1 Hfind hb hts
     go_wp2_with fail
     go_loopw [8,9,27] (PutRel w w1 n m l ls ts (sumL ts) R) (fun _ _ iv _=>m - (intOf iv).toNat)
     case atStart=>exact⟨0,0,0,0,none,[],rfl,rfl,rfl,Nat.zero_le _,rfl,World.ownsRow_nil _ _ _ _,Below.refl _ _,hok,HR.out.symm,rfl,by simp⟩
     case round =>
      obtain⟨i,at_,no,co,So,out,rfl,rfl,rfl,hi,hno,hrow,hbel,hok,hE,hz,hT2⟩:=hrel
      have hsz:=hbel.size
      by_cases hin:i < m
      · obtain⟨b,off,x,rfl,hbS,hdx,x0,x1,x2⟩:=(hsl.belowN hbel (Nat.le_refl _)).link i hin
        obtain⟨tb,toff,u,rfl,htb,hu,htc⟩:=(htP.belowN hbel hsz1).at_ (k:=i) (by have:=Hlen.out;omega)
        have hil:i < ts.length:=by have:=Htn.out;have:=Hlen.out;omega
        have hdt:=List.drop_eq_getElem_cons hil
        obtain⟨t,ht⟩:∃ t,t=ts[i]:=⟨_,rfl⟩
        rw [← ht] at hdt
        have hut:u=str t:=by
         rw [List.getElem?_map,List.getElem?_eq_getElem hil,← ht] at hu
         simpa using hu.symm
        subst hut
        rw [hdx] at hok
        obtain⟨o1,o2,o3⟩:=hok
        have o4:=o3.le
        have o5:x.frm≤n:=Nat.le_trans o2 o4
        have hE':Hid (putL l at_ out (x :: ls.drop (i+1)) (t :: ts.drop (i+1))=R):=by show _=_;rw [← hdx,← hdt];exact hE.out
        have hT3:no+(t.length+sumL (ts.drop (i+1)))≤at_+sumL ts:=by rw [hdt] at hT2;simpa [sumL] using hT2
        have hzt:Hid ((ts.take (i+1)).any (fun t=>t.any fun c=>badPut c.toNat)=(t.any fun c=>badPut c.toNat)):=by
         show _=_
         rw [List.take_add_one,List.getElem?_eq_getElem hil,← ht,List.any_append,hz.out]
         simp
        have Ht:=Lib.hid ht
        have Hno:=Lib.hid hno
        have Hdt:=Lib.hid hdt
        clear hu ht hdt hdx hE hT2 hno
        have htn2:i < tn:=by have:=Hlen.out;omega
        obtain⟨W,hW⟩:∃ W,W=wr.alloc (.cells #[.int .i64 (x.frm:Nat),.int .i64 (x.til:Nat),str x.text] 42):=⟨_,rfl⟩
        have htcW:=(World.cell?_alloc_lt wr (.cells #[.int .i64 (x.frm:Nat),.int .i64 (x.til:Nat),str x.text] 42) ⟨tb,toff+i,none⟩ (by show tb < _;omega)).trans htc
        have hbW:Below wr.heap.size wr W:=by rw [hW];exact(Below.refl _ wr).alloc (Nat.le_refl _) _
        have hbelW:=hbel.trans (hbW.mono hsz)
        have hrowW:=own_below hrow hbW
        have hxb:W.heap[wr.heap.size]? = some (.cells #[.int .i64 (x.frm:Nat),.int .i64 (x.til:Nat),str x.text] 42):=by rw [hW];exact heap_alloc_new wr _
        by_cases ht0:t = []
        · have b0:(t == ([]:List UInt8))=true:=by rw [ht0];rfl
          have Ht0:=Lib.hid ht0
          clear ht0
          go_wp2_with fail
          rw [← hW]
          refine⟨⟨i+1,at_,no,co,So,out,rfl,rfl,by go_num,by omega,Hno.out,hrowW,hbelW,?_,?_,?_,by omega⟩,by simp [intOf];omega⟩
          · cases hlsd:ls.drop (i+1) with
            | nil=>rw [hlsd] at o3;exact Nat.le_trans o1 (Nat.le_trans o2 o3)
            | cons y l'=>rw [hlsd] at o3;exact⟨by have:=o3.1;omega,o3.2.1,o3.2.2⟩
          · show _=R
            rw [← hE'.out,putL,if_pos Ht0.out]
          · show _=_
            rw [hzt.out,Ht0.out];rfl
        · have b0:(t == ([]:List UInt8))=false:=by simpa using ht0
          have Ht0:=Lib.hid ht0
          have hcp:=containsPut_any t W
          clear ht0
          by_cases hbt:(t.any fun c=>badPut c.toNat)=true
          · rw [hbt] at hcp
            have Hcp:=Lib.hid hcp
            have hbb:bad=true:=by
             rw [Hbad.out,List.any_eq_true]
             exact⟨t,by rw [Ht.out];exact List.getElem_mem hil,hbt⟩
            have Hbb:=Lib.hid hbb
            clear hcp hbt hbb
            go_wp2_with fail
            rw [← hW]
            refine Hcp.out.mono ?_
            rintro e w3 ⟨rfl,hb3⟩
            go_wp2_with fail
            go_ret2
            rw [E3.out,Hbb.out]
            exact⟨none,0,rfl,World.ownsRow_nil _ _ _ _,hb1.trans ((hbelW.trans (hb3.mono hbelW.size)).mono hsz1)⟩
          · have hbf:(t.any fun c=>badPut c.toNat)=false:=by simpa using hbt
            rw [hbf] at hcp hzt
            have Hcp:=Lib.hid hcp
            clear hcp hbt hbf
            go_wp2_with fail
            rw [← hW]
            refine Hcp.out.mono ?_
            rintro e w3 ⟨rfl,hb3⟩
            have hbel3:=hbelW.trans (hb3.mono hbelW.size)
            have hrow3:=own_below hrowW hb3
            have hxb3:=(hb3.block wr.heap.size (by rw [hW];simp)).trans hxb
            have z0:w3.cell? ⟨wr.heap.size,0,none⟩=some (.int .i64 (x.frm:Nat)):=by rw [Go.Joins.cell_of_block hxb3];rfl
            have z1:w3.cell? ⟨wr.heap.size,1,none⟩=some (.int .i64 (x.til:Nat)):=by rw [Go.Joins.cell_of_block hxb3];rfl
            obtain⟨xb,hxbE⟩:∃ xb,xb=wr.heap.size:=⟨_,rfl⟩
            have hxlt:xb < w3.heap.size:=by rw [hxbE];exact Nat.lt_of_lt_of_le (by rw [hW];simp) hb3.size
            rw [← hxbE] at z0 z1 ⊢
            have HxbE:=Lib.hid hxbE
            clear hxbE
            have htW:W.cell? ⟨tb,toff+i,none⟩=some (str t):=by rw [hW];exact htcW
            have htc3:=(hb3.cell (p:=⟨tb,toff+i,none⟩) (by show tb < _;rw [hW];simp;omega)).trans htW
            clear htW htcW htc x0 x1 x2
            have hbP3:By w3 w.heap.size A n l:=hbP.belowN hbel3 hsz1
            have hmid:By w3 w.heap.size (cutA A c at_ 1) (x.frm - at_) ((l.take x.frm).drop at_):=by
             have h1:=(hbP3.cut (k:=at_) (by omega) hc).upto (k:=x.frm - at_) (by omega)
             rw [← List.drop_take] at h1
             exact h1
            have hmn:no≤at_+sumL ts:=by omega
            have h63:no+(x.frm - at_)≤maxLen:=by unfold maxLen;omega
            have h47:(no+(x.frm - at_)) * 1≤140737488355328:=by omega
            have hbase3:w1.heap.size≤w3.heap.size:=hbel3.size
            have hS3:w3.drew.cell? ⟨xb,0,none⟩=some (.int .i64 (x.frm:Nat))∧w3.drew.cell? ⟨tb,toff+i,none⟩=some (str t):=⟨z0,htc3⟩
            have hone:=oneCell_byteCells ((l.take x.frm).drop at_)
            have hxo:(Value.slice So no co).ownBlock≠some xb:=by
             intro e
             have:=(hrow.lt _ e)
             have:=HxbE.out
             omega
            go_wp2_with fail
            refine wp_region_held (S:=fun W'=>W'.cell? ⟨xb,0,none⟩=some (.int .i64 (x.frm:Nat))∧W'.cell? ⟨tb,toff+i,none⟩=some (str t)) (by kernel_rfl) ?_
            change wpAnyH _ _ _ _ _ _ _ _ (World.drew w3)
            refine tkH (i:=0) (v:=?_) rfl ?_ hS3 ?_
            rotate_left 1
            · rintro W' ⟨q0,q1⟩;go_simp;try exact rfl
            refine tkH (i:=1) (v:=?_) rfl ?_ hS3 ?_
            rotate_left 1
            · rintro W' ⟨q0,q1⟩;go_simp;try exact rfl
            refine tkH (i:=2) (v:=?_) rfl ?_ hS3 ?_
            rotate_left 1
            · rintro W' ⟨q0,q1⟩;go_simp;try exact rfl
            refine tkH (i:=3) (v:=?_) rfl ?_ hS3 ?_
            rotate_left 1
            · rintro W' ⟨q0,q1⟩;go_simp;try exact rfl
            refine tkH (i:=4) (v:=?_) rfl ?_ hS3 ?_
            rotate_left 1
            · rintro W' ⟨q0,q1⟩;go_simp;try exact rfl
            refine tkH (i:=5) (v:=?_) rfl ?_ hS3 ?_
            rotate_left 1
            · rintro W' ⟨q0,q1⟩;go_simp;try exact rfl
            refine tkH (i:=7) (v:=?_) rfl ?_ hS3 ?_
            rotate_left 1
            · rintro W' ⟨q0,q1⟩;go_simp;try exact rfl
            refine tkH (i:=8) (v:=?_) rfl ?_ hS3 ?_
            rotate_left 1
            · rintro W' ⟨q0,q1⟩;go_simp;try exact rfl
            refine tkH (i:=9) (v:=?_) rfl ?_ hS3 ?_
            rotate_left 1
            · rintro W' ⟨q0,q1⟩;go_simp;try exact rfl
            refine tkH (i:=10) (v:=?_) rfl ?_ hS3 ?_
            rotate_left 1
            · rintro W' ⟨q0,q1⟩;go_simp;try exact rfl
            refine wpAnyH_all (rs:=[6]) (by kernel_rfl) (by simp) ?_
            intro k hk
            simp only [List.mem_singleton] at hk
            subst hk
            go_simp
            refine wpOp_app rfl rfl _ _ 22 rfl w1.heap.size 5 i0 _ 1 1 Tryz.underlying22 Hi0.out hz0 hz1 hz2 rfl (by decide) So no co (Lib.byteCells out) (by rfl) hrow3 _ (cutA A c at_ 1) (x.frm - at_) (c - at_) (Lib.byteCells ((l.take x.frm).drop at_)) (by rfl) hmid hone h63 h47 hbase3 ?_
            intro S4 c4 w4 hown4 hb4 hg4
            have hS4:w4.cell? ⟨xb,0,none⟩=some (.int .i64 (x.frm:Nat))∧w4.cell? ⟨tb,toff+i,none⟩=some (str t):=
             ⟨(World.cell?_of_block (hg4.block xb hxlt (fun e=>hxo e.symm))).trans z0,(hb4.cell (p:=⟨tb,toff+i,none⟩) (by show tb < _;omega)).trans htc3⟩
            have z14:w4.cell? ⟨xb,1,none⟩=some (.int .i64 (x.til:Nat)):=(World.cell?_of_block (hg4.block xb hxlt (fun e=>hxo e.symm))).trans z1
            refine⟨hS4,?_⟩
            have hxo4:(Value.slice S4 (no+(x.frm - at_)) c4).ownBlock≠some xb:=by
             intro e
             rcases hown4.2 with ⟨hv,_⟩ | ⟨g,cap,cur,hv,_,hg,_⟩
             · rw [hv] at e;cases e
             · rw [hv] at e
               injection e with e
               simp only at e
               subst e
               have h5:w4.heap[g]? = w3.heap[g]?:=hg4.block g hxlt (fun e=>hxo e.symm)
               have h6:w3.heap[g]? = some (.cells #[.int .i64 (x.frm:Nat),.int .i64 (x.til:Nat),str x.text] 42):=by rw [HxbE.out];exact hxb3
               rw [h5,h6] at hg
               injection hg with hg
               injection hg with _ hg _
               exact absurd hg (by decide)
            have h63b:no+(x.frm - at_)+t.length≤maxLen:=by unfold maxLen;omega
            have h47b:no+(x.frm - at_)+t.length≤140737488355328:=by omega
            refine wpAnyH_all (rs:=[11]) (by kernel_rfl) (by simp) ?_
            intro k hk
            simp only [List.mem_singleton] at hk
            subst hk
            go_simp
            refine wpOp_appStr rfl rfl _ _ 22 9 rfl w1.heap.size 5 i0 Tryz.underlying22 Tryz.underlying9 Hi0.out hz0 hz1 hz2 S4 (no+(x.frm - at_)) c4 _ (by rfl) hown4 t (by rfl) h63b h47b (Nat.le_trans hbase3 hb4.size) ?_
            intro S5 c5 w5 hown5 hb5 hg5
            have hS5:w5.cell? ⟨xb,0,none⟩=some (.int .i64 (x.frm:Nat))∧w5.cell? ⟨tb,toff+i,none⟩=some (str t):=
             ⟨(World.cell?_of_block (hg5.block xb (Nat.lt_of_lt_of_le hxlt hg4.size) (fun e=>hxo4 e.symm))).trans hS4.1,(hb5.cell (p:=⟨tb,toff+i,none⟩) (by show tb < _;omega)).trans hS4.2⟩
            have z15:w5.cell? ⟨xb,1,none⟩=some (.int .i64 (x.til:Nat)):=(World.cell?_of_block (hg5.block xb (Nat.lt_of_lt_of_le hxlt hg4.size) (fun e=>hxo4 e.symm))).trans z14
            refine⟨hS5,?_⟩
            refine wpAnyH_all (rs:=[12]) (by kernel_rfl) (by simp) ?_
            intro k hk
            simp only [List.mem_singleton] at hk
            subst hk
            go_simp
            refine wpOp_val rfl rfl (.slice S5 (no+(x.frm - at_)+t.length) c5) (by rfl) ?_
            refine⟨hS5,?_⟩
            refine wpAnyH_done (by kernel_rfl) ?_ _
            have hbel5:Below w1.heap.size w1 w5:=(hbel3.trans ((Below.drew (Below.refl _ w3)).trans hb4)).trans hb5
            rw [← byteCells_append,← byteCells_append] at hown5
            have Hown5:=Lib.hid hown5
            clear hown5 hown4 hg4 hg5 hb4 hb5 hS4 hS5 z14 z0 z1 htc3 hS3 hmid
            go_wp2_with fail
            refine⟨⟨i+1,x.til,no+(x.frm - at_)+t.length,c5,S5,out ++ (l.take x.frm).drop at_ ++ t,rfl,rfl,by go_num,by omega,?_,Hown5.out,hbel5,o3,?_,hzt,by omega⟩,by simp [intOf];omega⟩
            · have hlx:((l.take x.frm).drop at_).length=x.frm - at_:=by
               rw [List.length_drop,List.length_take,Nat.min_eq_left (by have:=Hnl.out;omega)]
              rw [List.length_append,List.length_append,hlx,Hno.out]
            · show _=R
              rw [← hE'.out,putL,if_neg Ht0.out]
      · obtain rfl:i=m:=by omega
        have hE2:out ++ l.drop at_=R:=by
         have h:=hE.out
         rw [List.drop_of_length_le (by have:=Hm.out;omega),List.drop_of_length_le (by have:=Htn.out;have:=Hlen.out;omega)] at h
         rw [← h]
         rfl
        have hb0:bad=false:=by
         rw [Hbad.out]
         have h:=hz.out
         rw [List.take_of_length_le (by have:=Htn.out;have:=Hlen.out;omega)] at h
         exact h
        have hat:at_≤n:=hok.le
        have hbPr:=hbP.belowN hbel hsz1
        have hcutr:By wr w.heap.size (cutA A c at_ 1) (n - at_) (l.drop at_):=hbPr.cut hat hc
        have hoR:no+(n - at_)=R.length:=by rw [← hE2,List.length_append,List.length_drop,← hno];have:=Hnl.out;omega
        have hmn:no≤at_+sumL ts:=by omega
        have h63:no+(n - at_)≤maxLen:=by unfold maxLen;omega
        have h47:(no+(n - at_)) * 1≤140737488355328:=by omega
        have hone:=oneCell_byteCells (l.drop at_)
        have HoR:=Lib.hid hoR
        have HE2:=Lib.hid hE2
        have Hb0:=Lib.hid hb0
        clear hE2 hb0 hoR hno
        go_wp2_with (at_builtin;refine wpList_app rfl _ _ 22 rfl w1.heap.size 5 i0 _ 1 1 Tryz.underlying22 Hi0.out hz0 hz1 hz2 rfl (by decide) So no co (Lib.byteCells out) rfl hrow _ (cutA A c at_ 1) (n - at_) (c - at_) (Lib.byteCells (l.drop at_)) rfl hcutr hone h63 h47 hsz ?_)
        intro S5 c5 w5 hown5 hb5 hg5
        rw [← byteCells_append,HE2.out] at hown5
        have hbel5:Below w.heap.size w w5:=hb1.trans ((hbel.trans hb5).mono hsz1)
        have Hown5:=Lib.hid hown5
        clear hown5 hg5 hb5
        by_cases h4:4000 < no+(n - at_)
        · go_wp2_with fail
          go_ret2
          rw [E3.out,Hb0.out,if_neg (by simp),if_pos (by rw [← HoR.out];exact h4)]
          exact⟨none,0,rfl,World.ownsRow_nil _ _ _ _,hbel5⟩
        · go_wp2_with fail
          go_ret2
          rw [E3.out,Hb0.out,if_neg (by simp),if_neg (by rw [← HoR.out];exact h4)]
          have h:=Hown5.out.mono (base':=w.heap.size) hsz1
          rw [HoR.out] at h
          exact⟨S5,c5,by rw [← HoR.out];rfl,h,hbel5⟩
   · have hne:((tn:Int) != (m:Int))=true:=by simp;omega
     have hR:putE l ts=([],4):=by rw [e3,if_pos hlen]
     rw [hR]
     clear hR e3 e1 hlen hm htn
     go_enter Tryz.func14,Tryz.ntmps14
     go_wp2_with fail
     refine Hfind.out.mono ?_
     rw [← Hm.out]
     rintro e w1 ⟨S,cS,rfl,hown1,hb1⟩
     go_wp2_with fail
     go_ret2
     exact⟨none,0,rfl,World.ownsRow_nil _ _ _ _,hb1⟩
 · obtain⟨hR,rfl⟩:=he0 hfe
   rw [hR]
   have Hfind:=Lib.hid hfind
   clear hR he0 he1 hfe hfind hnl htn
   go_enter Tryz.func14,Tryz.ntmps14
   go_wp2_with fail
   refine Hfind.out.mono ?_
   rintro e w1 ⟨S,cS,rfl,hown1,hb1⟩
   go_wp2_with fail
   go_ret2
   exact⟨none,0,rfl,World.ownsRow_nil _ _ _ _,hb1⟩
end Go.Proofs.YtlgbopjhmemaoaaGreatDoor
namespace Go.Proofs.YtlgbopjhmemaoaaGreatDoor
def all2 (f:PartD→PartD→Bool):List PartD→List PartD→Bool
 | [],[]=>true
 | p :: ps,q :: qs=>f p q && all2 f ps qs
 | [],_ :: _=>false
 | _ :: _,[]=>false
theorem all2_len (f:PartD→PartD→Bool):∀ (ps qs:List PartD),ps.length≠qs.length→all2 f ps qs=false
 | [],[],h=>absurd rfl h
 | [],_ :: _,_=>rfl
 | _ :: _,[],_=>rfl
 | p :: ps,q :: qs,h=>by
  rw [all2,all2_len f ps qs (by simpa using h)];simp
theorem all2_miss (f:PartD→PartD→Bool):∀ (ps qs:List PartD) (i:Nat) (p q:PartD),ps[i]? = some p→qs[i]? = some q→f p q=false→all2 f ps qs=false
 | [],_,i,p,q,h,_,_=>by simp at h
 | _ :: _,[],i,p,q,_,h,_=>by simp at h
 | a :: ps,b :: qs,0,p,q,h1,h2,h3=>by
  simp at h1 h2
  rw [all2,h1,h2,h3];rfl
 | a :: ps,b :: qs,i+1,p,q,h1,h2,h3=>by
  rw [all2,all2_miss f ps qs i p q (by simpa using h1) (by simpa using h2) h3];simp
theorem all2_hit (f:PartD→PartD→Bool):∀ (ps qs:List PartD),ps.length=qs.length→(∀ (i:Nat) (p q:PartD),ps[i]? = some p→qs[i]? = some q→f p q=true)→all2 f ps qs=true
 | [],[],_,_=>rfl
 | [],_ :: _,h,_=>by simp at h
 | _ :: _,[],h,_=>by simp at h
 | a :: ps,b :: qs,h,h2=>by
  rw [all2,h2 0 a b rfl rfl,all2_hit f ps qs (by simpa using h) (fun i p q h3 h4=>h2 (i+1) p q (by simpa using h3) (by simpa using h4))];rfl
/-- part.Same, all tests by themselves. -/
def oneSame (p q:PartD):Bool:=p.type == q.type && (p.cs == q.cs && (p.id == q.id && (p.loc == q.loc && (p.how == q.how && p.body == q.body))))
mutual
def sameD:PartD→PartD→Bool
 | ⟨t,cs,id,loc,how,body,parts⟩,⟨t',cs',id',loc',how',body',parts'⟩=>(t == t' && (cs == cs' && (id == id' && (loc == loc' && (how == how' && body == body'))))) && samesD parts parts'
def samesD:List PartD→List PartD→Bool
 | [],[]=>true
 | p :: ps,q :: qs=>sameD p q && samesD ps qs
 | [],_ :: _=>false
 | _ :: _,[]=>false
end
theorem samesD_eq:∀ (ps qs:List PartD),samesD ps qs=all2 sameD ps qs
 | [],[]=>by rw [samesD,all2]
 | [],_ :: _=>by rw [samesD,all2]
 | _ :: _,[]=>by rw [samesD,all2]
 | p :: ps,q :: qs=>by rw [samesD,all2,samesD_eq ps qs]
theorem sameD_eq (p q:PartD):sameD p q=(oneSame p q && all2 sameD p.parts q.parts):=by
 cases p;cases q;rw [sameD,samesD_eq];rfl
mutual
theorem sameD_refl:∀ (p:PartD),sameD p p=true
 | ⟨t,cs,id,loc,how,body,parts⟩=>by rw [sameD,samesD_refl parts];simp
theorem samesD_refl:∀ (ps:List PartD),samesD ps ps=true
 | []=>by rw [samesD]
 | p :: ps=>by rw [samesD,sameD_refl p,samesD_refl ps];rfl
end
end Go.Proofs.YtlgbopjhmemaoaaGreatDoor
namespace Go.Proofs.YtlgbopjhmemaoaaGreatDoor
open Go.RowKit
structure NameD where
 part:Int
 name:List UInt8
def nameCells (x:NameD):List Value:=[.int .i64 x.part,str x.name]
def badN (x:Nat):Bool:=(decide (x < 97) || decide (122 < x)) && ((decide (x < 48) || decide (57 < x)) && x != 46)
def nameB (s:List UInt8):Bool:=!(s == []) && (decide (s.length≤30) && (decide (97≤nth s 0) && (decide (nth s 0≤122) && !s.any (fun b=>badN b.toNat))))
def clashN (n:NameD) (ahead:List NameD):Bool:=ahead.any (fun m=>m.name == n.name || decide (n.part≤m.part))
def namesF (parts:Int):List NameD→List NameD→Nat
 | _,[]=>0
 | ahead,n :: r=>if n.part < 0∨parts≤n.part then 5 else if nameB n.name=false then 1 else if clashN n ahead then 6 else namesF parts (ahead ++ [n]) r
def ofN:List NameD→Int→List UInt8
 | [],_=>[]
 | n :: r,k=>if n.part=k then n.name else ofN r k
def textsN (ns:List NameD) (gs:List GoalD) (i:Nat):List (List UInt8):=(gs.filter (fun g=>g.part == i)).map (fun g=>ofN ns g.find)
def bodyN (ns:List NameD) (gs:List GoalD) (x:PartD) (i:Nat):List UInt8 × Nat:=if textsN ns gs i = [] then (x.body,0) else putE x.body (textsN ns gs i)
def bodiesF (ns:List NameD) (gs:List GoalD):List PartD→Nat→List (List UInt8)→List (List UInt8) × Nat
 | [],_,out=>(out,0)
 | x :: xs,i,out=>if (bodyN ns gs x i).2=0 then bodiesF ns gs xs (i+1) (out ++ [(bodyN ns gs x i).1]) else ([],(bodyN ns gs x i).2)
mutual
def putD:PartD→List (List UInt8)→PartD
 | ⟨t,cs,id,loc,how,_,parts⟩,bs=>⟨t,cs,id,loc,how,bs.headD [],putsD parts (bs.drop 1)⟩
def putsD:List PartD→List (List UInt8)→List PartD
 | [],_=>[]
 | p :: ps,bs=>putD p bs :: putsD ps (bs.drop (flatD p).length)
end
def zeroP:PartD:=⟨[],[],[],[],0,[],[]⟩
def namesE (p:PartD) (ns:List NameD):PartD × Nat:=
 if checkD p≠0 then (zeroP,checkD p) else if namesF (flatD p).length [] ns≠0 then (zeroP,namesF (flatD p).length [] ns) else if (goalsE p).2≠0 then (zeroP,(goalsE p).2)
 else if (bodiesF ns (goalsE p).1 (flatD p) 0 []).2≠0 then (zeroP,(bodiesF ns (goalsE p).1 (flatD p) 0 []).2) else (putD p (bodiesF ns (goalsE p).1 (flatD p) 0 []).1,0)
def nameC (ns:List NameD):List Value:=ns.flatMap nameCells
theorem nameC_app (a b:List NameD):nameC (a ++ b)=nameC a ++ nameC b:=by simp [nameC]
theorem nameC_len (l:List NameD):(nameC l).length=l.length * 2:=by
 induction l with
 | nil=>rfl
 | cons g l ih =>
  have:nameC (g :: l)=nameCells g ++ nameC l:=rfl
  rw [this,List.length_append,ih]
  simp [nameCells]
  omega
theorem Sl.name {w:World} {B n:Nat} {A:Option Addr} {ns:List NameD} (h:Sl w B 2 A n (nameC ns)) (i:Nat) (hi:i < n) :
 ∃ b off x,A=some ⟨b,off,none⟩∧b < B∧ns.drop i=x :: ns.drop (i+1)∧w.cell? ⟨b,off+i * 2,none⟩=some (.int .i64 x.part)∧w.cell? ⟨b,off+i * 2+1,none⟩=some (str x.name):=by
 obtain⟨b,off,hA,hb,hc⟩:=h.2 (by omega)
 have hl:ns.length=n:=by have:=h.1;rw [nameC_len] at this;omega
 have hil:i < ns.length:=by omega
 have hd:=List.drop_eq_getElem_cons hil
 have hsplit:nameC ns=nameC (ns.take i) ++ nameC (ns.drop i):=by rw [← nameC_app,List.take_append_drop]
 have hat:∀ k,k < 2→(nameC ns)[i * 2+k]? = [Value.int .i64 ns[i].part,str ns[i].name][k]?:=by
  intro k hk
  have e:(nameC (ns.take i)).length=i * 2:=by rw [nameC_len,List.length_take,Nat.min_eq_left (by omega)]
  rw [hsplit,List.getElem?_append_right (by omega),e,Nat.add_sub_cancel_left,hd]
  rw [show nameC (ns[i] :: ns.drop (i+1)) = [Value.int .i64 ns[i].part,str ns[i].name] ++ nameC (ns.drop (i+1)) from rfl,List.getElem?_append_left (by simpa using hk)]
 exact⟨b,off,ns[i],hA,hb,hd,hc _ _ (hat 0 (by omega)),hc _ _ (hat 1 (by omega))⟩
def NamesOk (ns:List NameD):Prop:=∀ x∈ns,x.name.length≤maxLen∧-9223372036854775808≤x.part∧x.part≤9223372036854775807
theorem name1_any (x:Nat) (hx:x < 256) (w:World):Calls Tryz.prog 52 #[.int .u8 (x:Int)] w fun e w'=>e = .returned (.bool (badN x))∧w=w':=by
 go_enter Tryz.func52,Tryz.ntmps52
 go_wp2_with fail
 all_goals
  go_ret
  refine⟨congrArg (fun b=>Ending.returned (.bool b)) (?_:_=badN x),rfl⟩
  rw [Bool.eq_iff_iff]
  simp [badN]
  try omega
theorem predNm (w:World):PredB 52 #[] badN w:=fun W x hx _ =>
 (name1_any x hx W).mono fun _ _ ⟨h1,h2⟩=>⟨h1,h2 ▸ Below.refl _ _⟩
theorem name_any (l:List UInt8) (w:World) (hl:l.length≤maxLen):Calls Tryz.prog 24 #[str l] w fun e w'=>e = .returned (.bool (nameB l))∧Below w.heap.size w w':=by
 unfold maxLen at hl
 obtain⟨r,hr⟩:∃ r,r=nameB l:=⟨_,rfl⟩
 rw [← hr]
 unfold nameB at hr
 by_cases h0:l = []
 · have d0:(l == [])=true:=by rw [h0];rfl
   rw [d0] at hr
   simp only [Bool.not_true,Bool.false_and] at hr
   subst hr
   have H0:=Lib.hid h0
   clear h0
   go_enter Tryz.func24,Tryz.ntmps24
   go_wp2_with fail
   go_ret
   exact⟨rfl,Below.refl _ _⟩
 · have d0:(l == [])=false:=by simpa using h0
   have hpos:0 < l.length:=List.length_pos_iff.2 h0
   have hpos':(0:Int) < l.length:=by omega
   rw [d0] at hr
   have H0:=Lib.hid h0
   clear h0
   simp only [Bool.not_false,Bool.true_and] at hr
   by_cases h30:l.length≤30
   · have d30:decide ((l.length:Int)≤30)=true:=by simp;omega
     rw [decide_eq_true h30,Bool.true_and] at hr
     by_cases h97:97≤nth l 0
     · have d97:decide ((97:Int)≤(nth l 0:Int))=true:=by simp;omega
       rw [decide_eq_true h97,Bool.true_and] at hr
       by_cases h122:nth l 0≤122
       · have d122:decide ((nth l 0:Int)≤122)=true:=by simp;omega
         rw [decide_eq_true h122,Bool.true_and] at hr
         obtain⟨A,c,w1,hconv,hby,hnc,hb1,hlt1⟩:=run_toBytes (P:=Tryz.prog) w 9 22 5 l Tryz.underlying9 Tryz.underlying22 Tryz.underlying5
         have hcf:=ContainsFunc_bytes 52 #[] (enters_of Tryz.func52 (by kernel_rfl) rfl) badN A l.length c _ l w1 hby (Nat.le_refl _) (by unfold maxLen;omega) (predNm w1)
         generalize l.any (fun b=>badN b.toNat)=r' at hcf hr
         have Hcf:=Lib.hid hcf
         have HR:=Lib.hid hr
         clear hcf hby hr
         go_enter Tryz.func24,Tryz.ntmps24
         go_wp2_with fail
         refine Hcf.out.mono ?_
         rintro e w2 ⟨rfl,hb2⟩
         go_wp2_with fail
         go_ret
         exact⟨by rw [HR.out];rfl,hb1.trans (hb2.mono hb1.size)⟩
       · have d122:decide ((nth l 0:Int)≤122)=false:=by simp;omega
         rw [decide_eq_false h122,Bool.false_and] at hr
         subst hr
         go_enter Tryz.func24,Tryz.ntmps24
         go_wp2_with fail
         go_ret
         exact⟨rfl,Below.refl _ _⟩
     · have d97:decide ((97:Int)≤(nth l 0:Int))=false:=by simp;omega
       rw [decide_eq_false h97,Bool.false_and] at hr
       subst hr
       go_enter Tryz.func24,Tryz.ntmps24
       go_wp2_with fail
       go_ret
       exact⟨rfl,Below.refl _ _⟩
   · have d30:decide ((l.length:Int)≤30)=false:=by simp;omega
     rw [decide_eq_false h30,Bool.false_and] at hr
     subst hr
     go_enter Tryz.func24,Tryz.ntmps24
     go_wp2_with fail
     go_ret
     exact⟨rfl,Below.refl _ _⟩
theorem of_any (A:Option Addr) (n c:Nat) (ns:List NameD) (k:Int) (w:World) (h:Sl w w.heap.size 2 A n (nameC ns)) (hn:n≤maxLen) :
 Calls Tryz.prog 12 #[.slice A n c,.int .i64 k] w fun e w'=>e = .returned (str (ofN ns k))∧Below w.heap.size w w':=by
 unfold maxLen at hn
 have hl:ns.length=n:=by have:=h.1;rw [nameC_len] at this;omega
 obtain⟨R,hR⟩:∃ R,R=ofN ns k:=⟨_,rfl⟩
 rw [← hR]
 have H:=Lib.hid h
 have HR:=Lib.hid hR
 have Hl:=Lib.hid hl
 clear h hR hl
 go_enter Tryz.func12,Tryz.ntmps12
 go_wp2_with fail
 go_loopw [9] (fun iv wr=>∃ i:Nat,iv = .int .i64 (i:Nat)∧i≤n∧Below w.heap.size w wr∧Hid (ofN (ns.drop i) k=R)) (fun iv _=>n - (intOf iv).toNat)
 case atStart=>exact⟨0,rfl,Nat.zero_le _,Below.refl _ _,Lib.hid (by rw [List.drop_zero];exact HR.out.symm)⟩
 case round =>
  obtain⟨i,rfl,hi,hbel,HS⟩:=hrel
  by_cases hin:i < n
  · obtain⟨b,off,x,rfl,hb,hd,x0,x1⟩:=(Sl.below H.out hbel).name i hin
    have hs:=HS.out
    rw [hd,ofN] at hs
    have hbelA:=hbel.alloc hbel.size (.cells #[.int .i64 x.part,str x.name] 57)
    by_cases hk:x.part=k
    · have e1:(x.part == k)=true:=by simpa using hk
      rw [if_pos hk] at hs
      have Hs:=Lib.hid hs
      have Hk:=Lib.hid hk
      clear hs hk hd
      go_wp2_with fail
      go_ret
      exact⟨by rw [Hs.out];rfl,hbelA⟩
    · have e1:(x.part == k)=false:=by simpa using hk
      rw [if_neg hk] at hs
      have Hs:=Lib.hid hs
      have Hk:=Lib.hid hk
      clear hs hk hd
      go_wp2_with fail
      exact⟨⟨i+1,by go_num,by omega,hbelA,Hs⟩,by simp [intOf];omega⟩
  · obtain rfl:i=n:=by omega
    have hs:=HS.out
    rw [List.drop_of_length_le (by rw [Hl.out];exact Nat.le_refl _),ofN] at hs
    have Hs:=Lib.hid hs
    clear hs
    go_wp2_with fail
    go_ret
    exact⟨by rw [← Hs.out];rfl,hbel⟩
theorem upto_Name (X:World) (b off n c i:Nat) (hi:i≤n) (hc:n≤c):(Instr.slice 26 (.slice (some ⟨b,off,none⟩) n c) none (some (.int .i64 (i:Int))) none).run Tryz.prog X = .ok (.slice (some ⟨b,off,none⟩) i c) X:=by
 rw [run_upto X _ _ 2 Tryz.underlying26 (Tryz.sizeOf57 X) (some ⟨b,off,none⟩) n c .i64 i (by omega) (by omega) hc]
 unfold cutA
 split
 · rfl
 · rw [Option.map_some,Addr.add_lit]
   simp
theorem clash_cons (x y:NameD) (r:List NameD):clashN x (y :: r)=((y.name == x.name || decide (x.part≤y.part)) || clashN x r):=by simp [clashN]
theorem drop_takeN {ns:List NameD} {i j:Nat} {y:NameD} (hj:j < i) (h:ns.drop j=y :: ns.drop (j+1)):(ns.take i).drop j=y :: (ns.take i).drop (j+1):=by
 rw [List.drop_take,List.drop_take,h,show i - j=(i - (j+1))+1 by omega,List.take_succ_cons]
def CkRel (n:Nat) (ns:List NameD) (parts:Int) (R:Nat) (w:World) (iv:Value) (wr:World):Prop:=
 ∃ i:Nat,iv = .int .i64 (i:Nat)∧i≤n∧Below w.heap.size w wr∧Hid (namesF parts (ns.take i) (ns.drop i)=R)
def CkRel2 (i:Nat) (ahead:List NameD) (x:NameD) (cl:Bool) (w1:World) (jv:Value) (wr:World):Prop:=
 ∃ j:Nat,jv = .int .i64 (j:Nat)∧j≤i∧Below w1.heap.size w1 wr∧Hid (clashN x (ahead.drop j)=cl)
theorem CheckNames_any (A:Option Addr) (n c:Nat) (ns:List NameD) (parts:Int) (w:World) (h:Sl w w.heap.size 2 A n (nameC ns)) (hn:n≤c) (hc:c≤maxLen) (hok:NamesOk ns) :
 Calls Tryz.prog 7 #[.slice A n c,.int .i64 parts] w fun e w'=>e = .returned (.int .i64 (namesF parts [] ns:Nat))∧Below w.heap.size w w':=by
 unfold maxLen at hc
 have hl:ns.length=n:=by have:=h.1;rw [nameC_len] at this;omega
 obtain⟨R,hR⟩:∃ R,R=namesF parts [] ns:=⟨_,rfl⟩
 rw [← hR]
 have H:=Lib.hid h
 have HR:=Lib.hid hR
 have Hl:=Lib.hid hl
 have Hok:=Lib.hid hok
 clear h hR hl hok
 go_enter Tryz.func7,Tryz.ntmps7
 go_wp2_with fail
 go_loopw [11] (CkRel n ns parts R w) (fun iv _=>n - (intOf iv).toNat)
 case atStart=>exact⟨0,rfl,Nat.zero_le _,Below.refl _ _,Lib.hid (by rw [List.drop_zero,List.take_zero];exact HR.out.symm)⟩
 case round =>
  obtain⟨i,rfl,hi,hbel,HS⟩:=hrel
  by_cases hin:i < n
  · obtain⟨b,off,x,rfl,hb,hd,x0,x1⟩:=(Sl.below H.out hbel).name i hin
    have hxm:x∈ns:=List.mem_of_mem_drop (by rw [hd];simp)
    have hxk:=Hok.out x hxm
    have hs:=HS.out
    have htk:ns.take i ++ [x]=ns.take (i+1):=by
     have:=congrArg (fun l=>l[0]?) hd
     simp at this
     rw [List.take_add_one,this]
     rfl
    rw [hd,namesF,htk] at hs
    have Hs:=Lib.hid hs
    have hsl:=fun X=>upto_Name X b off n c i (by omega) hn
    have KN:=Lib.hid (fun X=>name_any x.name X hxk.1)
    obtain⟨W1,hW1⟩:∃ W1,W1=wr.alloc (.cells #[.int .i64 x.part,str x.name] 57):=⟨_,rfl⟩
    have hb1:Below wr.heap.size wr W1:=by rw [hW1];exact(Below.refl _ _).alloc (Nat.le_refl _) _
    have hnb:W1.heap[wr.heap.size]? = some (.cells #[.int .i64 x.part,str x.name] 57):=by rw [hW1];exact heap_alloc_new wr _
    have hbel1:=hbel.trans (hb1.mono hbel.size)
    have c0:W1.cell? ⟨wr.heap.size,0,none⟩=some (.int .i64 x.part):=by unfold World.cell?;rw [hnb];rfl
    have c1:W1.cell? ⟨wr.heap.size,1,none⟩=some (str x.name):=by unfold World.cell?;rw [hnb];rfl
    have hlt1:wr.heap.size < W1.heap.size:=by rw [hW1];simp
    obtain⟨hx1,hx2,hx3⟩:=hxk
    clear hs hd htk hxm hx1 hnb
    go_upto_region 4 with fail
    rw [← hW1]
    clear hW1 x0 x1
    by_cases hp0:x.part < 0
    · have d0:decide (x.part < 0)=true:=by simpa using hp0
      have hs:=Hs.out
      rw [if_pos (Or.inl hp0)] at hs
      subst hs
      go_wp2_with fail
      go_ret
      exact⟨rfl,hbel1⟩
    · have d0:decide (x.part < 0)=false:=by simpa using hp0
      by_cases hp1:parts≤x.part
      · have d1:decide (parts≤x.part)=true:=by simpa using hp1
        have hs:=Hs.out
        rw [if_pos (Or.inr hp1)] at hs
        subst hs
        go_wp2_with fail
        go_ret
        exact⟨rfl,hbel1⟩
      · have d1:decide (parts≤x.part)=false:=by simpa using hp1
        have hs:=Hs.out
        rw [if_neg (by rintro(h | h);exact hp0 h;exact hp1 h)] at hs
        have Hs2:=Lib.hid hs
        clear hs Hs
        generalize hnm:nameB x.name=nm at KN Hs2
        clear hnm
        cases nm
        · have hs:=Hs2.out
          rw [if_pos rfl] at hs
          subst hs
          go_wp2_with fail
          refine(KN.out _).mono ?_
          rintro e w2 ⟨rfl,hb2⟩
          go_wp2_with fail
          go_ret
          exact⟨rfl,hbel1.trans (hb2.mono hbel1.size)⟩
        · have hs:=Hs2.out
          rw [if_neg (by decide)] at hs
          have Hs3:=Lib.hid hs
          clear hs Hs2
          go_wp2_with fail
          refine(KN.out _).mono ?_
          rintro e w2 ⟨rfl,hb2⟩
          have hbel2:=hbel1.trans (hb2.mono hbel1.size)
          have e0:=(hb2.cell (p:=⟨wr.heap.size,0,none⟩) hlt1).trans c0
          have e1:=(hb2.cell (p:=⟨wr.heap.size,1,none⟩) hlt1).trans c1
          have hlt2:wr.heap.size < w2.heap.size:=Nat.lt_of_lt_of_le hlt1 hb2.size
          obtain⟨cl,hcl⟩:∃ cl,cl=clashN x (ns.take i):=⟨_,rfl⟩
          rw [← hcl] at Hs3
          have Hcl:=Lib.hid hcl
          clear hcl c0 c1 hb1 hb2 hbel hbel1 hlt1
          go_wp2_with fail
          have E0:=Lib.hid (And.intro e0 e1)
          clear e0 e1 hsl
          obtain⟨tb,htb⟩:∃ tb,tb=wr.heap.size:=⟨_,rfl⟩
          rw [← htb] at E0 hlt2 ⊢
          clear htb
          go_loopw [33] (CkRel2 i (ns.take i) x cl w2) (fun jv _=>i - (intOf jv).toNat)
          case atStart=>exact⟨0,rfl,Nat.zero_le _,Below.refl _ _,Lib.hid (by rw [List.drop_zero];exact Hcl.out.symm)⟩
          case round =>
           obtain⟨j,rfl,hj,hbelj,HJ⟩:=hrel
           by_cases hji:j < i
           · have hbelk:=hbel2.trans (hbelj.mono hbel2.size)
             obtain⟨b',off',y,hA,_,hdy,y0,y1⟩:=(Sl.below H.out hbelk).name j (by omega)
             injection hA with hA
             injection hA with hA1 hA2
             subst hA1
             subst hA2
             have hcl:=HJ.out
             rw [drop_takeN hji hdy,clash_cons] at hcl
             have k0:wr.cell? ⟨tb,0,none⟩=some (.int .i64 x.part):=(hbelj.cell (p:=⟨tb,0,none⟩) hlt2).trans E0.out.1
             have k1:wr.cell? ⟨tb,1,none⟩=some (str x.name):=(hbelj.cell (p:=⟨tb,1,none⟩) hlt2).trans E0.out.2
             have hltb:tb < wr.heap.size:=Nat.lt_of_lt_of_le hlt2 hbelj.size
             obtain⟨W3,hW3⟩:∃ W3,W3=wr.alloc (.cells #[.int .i64 y.part,str y.name] 57):=⟨_,rfl⟩
             have hb3:Below wr.heap.size wr W3:=by rw [hW3];exact(Below.refl _ _).alloc (Nat.le_refl _) _
             have hnb:W3.heap[wr.heap.size]? = some (.cells #[.int .i64 y.part,str y.name] 57):=by rw [hW3];exact heap_alloc_new wr _
             have z0:W3.cell? ⟨wr.heap.size,0,none⟩=some (.int .i64 y.part):=by unfold World.cell?;rw [hnb];rfl
             have z1:W3.cell? ⟨wr.heap.size,1,none⟩=some (str y.name):=by unfold World.cell?;rw [hnb];rfl
             have k0':=(hb3.cell (p:=⟨tb,0,none⟩) hltb).trans k0
             have k1':=(hb3.cell (p:=⟨tb,1,none⟩) hltb).trans k1
             have hbel3:=hbelj.trans (hb3.mono hbelj.size)
             have Hclx:=Lib.hid hcl
             clear hcl hdy hnb k0 k1
             go_upto_region 11 with fail
             rw [← hW3]
             clear hW3 y0 y1
             by_cases hnn:y.name=x.name
             · have d1:(y.name == x.name)=true:=by simpa using hnn
               have hcl:=Hclx.out
               rw [d1] at hcl
               simp only [Bool.true_or] at hcl
               have hs:=Hs3.out
               rw [← hcl,if_pos rfl] at hs
               subst hs
               have Hnn:=Lib.hid hnn
               clear hnn hcl
               go_wp2_with fail
               go_ret
               exact⟨rfl,hbel2.trans (hbel3.mono hbel2.size)⟩
             · have d1:(y.name == x.name)=false:=by simpa using hnn
               have hcl:=Hclx.out
               rw [d1] at hcl
               have Hnn:=Lib.hid hnn
               clear hnn
               by_cases hpp:x.part≤y.part
               · have d2:decide (x.part≤y.part)=true:=by simpa using hpp
                 rw [d2] at hcl
                 simp only [Bool.false_or,Bool.true_or] at hcl
                 have hs:=Hs3.out
                 rw [← hcl,if_pos rfl] at hs
                 subst hs
                 clear hcl
                 go_wp2_with fail
                 go_ret
                 exact⟨rfl,hbel2.trans (hbel3.mono hbel2.size)⟩
               · have d2:decide (x.part≤y.part)=false:=by simpa using hpp
                 rw [d2] at hcl
                 simp only [Bool.false_or] at hcl
                 have Hc2:=Lib.hid hcl
                 clear hcl
                 go_wp2_with fail
                 exact⟨⟨j+1,by go_num,by omega,hbel3,Hc2⟩,by simp [intOf];omega⟩
           · obtain rfl:j=i:=by omega
             have hcl:=HJ.out
             rw [List.drop_of_length_le (List.length_take_le _ _)] at hcl
             have hs:=Hs3.out
             rw [← hcl,if_neg (by simp [clashN])] at hs
             have Hs4:=Lib.hid hs
             have hbel9:=hbel2.trans (hbelj.mono hbel2.size)
             clear hs hcl
             go_wp2_with fail
             exact⟨⟨j+1,by go_num,by omega,hbel9,Hs4⟩,by simp [intOf];omega⟩
  · obtain rfl:i=n:=by omega
    have hs:=HS.out
    rw [List.drop_of_length_le (by rw [Hl.out];exact Nat.le_refl _),namesF] at hs
    have Hs:=Lib.hid hs
    clear hs
    go_wp2_with fail
    go_ret
    exact⟨by rw [← Hs.out];rfl,hbel⟩
end Go.Proofs.YtlgbopjhmemaoaaGreatDoor
namespace Go.Proofs.YtlgbopjhmemaoaaGreatDoor
open Go.ChangeShapes Go.WideShapes Go.ChangeAt Go.RowKit Go.Deep
theorem nameStruct:Tryz.prog.cellsOf 57=2:=by kernel_rfl
theorem plain_atN {w:World} {a:Addr} {v:Value} (h:w.cell? (a.add 0)=some v):∃ b off,a=⟨b,off,none⟩:=by
 obtain⟨b,off,spot⟩:=a
 have hspot:spot=none:=by
  simpa [Addr.add] using World.cell?_spot h
 subst hspot
 exact⟨b,off,rfl⟩
section
variable {H:Type} {enc:TypeId × Value→H} {w:World} {base:Nat} {held:Bool}
theorem name_of_trod (fuel:Nat) (cs:List Value) (x:DataW H × List MemPlace) (h:DataW.trod enc Tryz.prog w base (fun _=>true) held fuel 57 cs=some x) :
 ∃ f:NameD,cs=nameCells f∧f.name.length≤maxLen∧-9223372036854775808≤f.part∧f.part≤9223372036854775807:=by
 obtain⟨xs,n,hfu,_,hl,hxl,hf⟩:=DataW.trod_struct Tryz.underlying57 h
 rw [nameStruct] at hl
 match cs,hl with
 | [c0,c1],_ =>
  match xs,hxl with
  | [x0,x1],_ =>
   have h0:DataW.trod enc Tryz.prog w base (fun _=>true) held n 3 [c0]=some x0:=hf 0 _ rfl
   have h1:DataW.trod enc Tryz.prog w base (fun _=>true) held n 9 [c1]=some x1:=hf 1 _ rfl
   obtain⟨i0,e0,_,b0⟩:=DataW.trod_int Tryz.underlying3 h0
   obtain⟨s1,e1,_,b1⟩:=DataW.trod_string Tryz.underlying9 h1
   simp only [List.cons.injEq,and_true] at e0 e1
   subst e0 e1
   exact⟨⟨i0,s1.data.toList⟩,rfl,b1,bounds_i64 b0⟩
theorem nameC_at (ls:List NameD) (i k:Nat) (hi:i < ls.length) (hk:k < 2):(nameC ls)[i * 2+k]? = (nameCells ls[i])[k]?:=by
 have hsplit:nameC ls=nameC (ls.take i) ++ nameC (ls.drop i):=by rw [← nameC_app,List.take_append_drop]
 have e:(nameC (ls.take i)).length=i * 2:=by rw [nameC_len,List.length_take,Nat.min_eq_left (by omega)]
 rw [hsplit,List.getElem?_append_right (by omega),e,Nat.add_sub_cancel_left,List.drop_eq_getElem_cons hi]
 show((nameCells ls[i]) ++ nameC (ls.drop (i+1)))[k]? = _
 rw [List.getElem?_append_left (by show k < 2;exact hk)]
/-- Fields that came in. -/
theorem open_names {r:Reach} {b0:Nat} {v:Value} {d:DataW H} {pl:List MemPlace} (hv:Value.okWide Tryz.prog w r b0 26 v) (h:DataW.Trod enc Tryz.prog w base (fun _=>true) held 26 v d pl) :
 ∃ A n c ls,v = .slice A n c∧Sl w w.heap.size 2 A n (nameC ls)∧n≤c∧c≤maxLen∧NamesOk ls:=by
 obtain⟨a0,len0,cap0,rfl⟩:=okWide_slice Tryz.underlying26 hv
 obtain⟨fuel,hf⟩:=h
 rcases DataW.trod_slice Tryz.underlying26 hf with ⟨hcs,_⟩ | ⟨a,len,cap,elems,rest,n',hfu',hcs,_,hb,hl,hm,hlen,hel,hsp,hns⟩
 · simp only [Value.cells,List.cons.injEq,and_true] at hcs
   refine⟨_,_,_,[],rfl,?_⟩
   simp at hcs
   obtain⟨rfl,rfl,rfl⟩:=hcs
   exact⟨Sl.nil_ _ _ _ _,Nat.le_refl _,Nat.zero_le _,fun f h=>by cases h⟩
 · simp [Value.cells] at hcs
   obtain⟨rfl,rfl,rfl⟩:=hcs
   have hone:∀ i,i < len0→∃ f:NameD,w.cells? base (a.add (i * 2)) 2=some (nameCells f)∧f.name.length≤maxLen∧-9223372036854775808≤f.part∧f.part≤9223372036854775807:=by
    intro i hi
    have h1:=hel i hi
    rw [nameStruct,List.getElem?_eq_getElem (by omega)] at h1
    obtain⟨cs',hc',ht'⟩:=Option.bind_eq_some_iff.1 h1
    obtain⟨f,rfl,g1,g2⟩:=name_of_trod n' cs' _ ht'
    exact⟨f,hc',g1,g2⟩
   haveI:Inhabited NameD:=⟨⟨0,[]⟩⟩
   obtain⟨f,hfp⟩:=choose_lt hone
   refine⟨some a,len0,cap0,(List.range len0).map f,rfl,⟨by rw [nameC_len];simp,fun h0=>?_⟩,hl,hm,?_⟩
   · obtain⟨_,hl0,hat0⟩:=World.cells?_some (hfp 0 h0).1
     have hx0:=hat0 0 (by omega)
     rw [List.getElem?_eq_getElem (by show 0 < 2;omega)] at hx0
     obtain⟨b,off,hab⟩:∃ b off,a=⟨b,off,none⟩:=by
      have e:(a.add (0 * 2)).add 0=a.add 0:=by rw [Go.Deep.add_add]
      rw [e] at hx0
      exact plain_atN hx0
     subst hab
     refine⟨b,off,rfl,?_,fun j u hu=>?_⟩
     · have e:((⟨b,off,none⟩:Addr).add (0 * 2)).add 0=⟨b,off,none⟩:=by rw [Go.Deep.add_add];simp [Addr.add]
       rw [e] at hx0
       exact cell_lt hx0
     · have hj:j < len0 * 2:=by
        rcases Nat.lt_or_ge j (len0 * 2) with h | h
        · exact h
        · rw [List.getElem?_eq_none (by rw [nameC_len];simp;omega)] at hu;cases hu
       have hi:j / 2 < len0:=by omega
       have hjj:j=j / 2 * 2+j % 2:=by omega
       obtain⟨_,hli,hati⟩:=World.cells?_some (hfp (j / 2) hi).1
       have hx:=hati (j % 2) (by omega)
       rw [Go.Deep.add_add,← hjj] at hx
       rw [hjj,nameC_at _ (j / 2) (j % 2) (by simpa using hi) (by omega)] at hu
       simp only [List.getElem_map,List.getElem_range] at hu
       rw [hu] at hx
       have e:(⟨b,off,none⟩:Addr).add j=⟨b,off+j,none⟩:=Go.WideShapes.add_plain ..
       rw [e] at hx
       exact hx
   · intro x hx
     obtain⟨i,hi,rfl⟩:=List.mem_map.1 hx
     exact(hfp i (List.mem_range.1 hi)).2
end
theorem bytesName:Tryz.prog.bytesOf 57=24:=by kernel_rfl
/-- What was read takes at most 2^47 - 4096 bytes. -/
theorem reach_names {H:Type} {enc:TypeId × Value→H} {W:World} {ts:List TypeId} {ds:List (DataW H)} {j:Nat} {d:DataW H} {pl:List MemPlace} {A:Option Addr} {n c:Nat}
 (hsz:(DataW.weightsEach Tryz.prog ts ds).all (·≤reachBytes)=true) (ht:ts[j]? = some 26) (hd:ds[j]? = some d) (h:DataW.Trod enc Tryz.prog W 0 (fun _=>true) true 26 (.slice A n c) d pl):c * 24≤140737488351232:=by
 obtain⟨fuel,hf⟩:=h
 rcases DataW.trod_slice Tryz.underlying26 hf with ⟨hcs,_⟩ | ⟨a,len,cap,elems,rest,n',hfu',hcs,hx,hb,hl,hm,hlen,hel,hsp,hns⟩
 · simp [Value.cells] at hcs
   omega
 · simp [Value.cells] at hcs
   obtain⟨rfl,rfl,rfl⟩:=hcs
   simp only [Prod.mk.injEq] at hx
   rw [hx.1] at hd
   have:=sized_slice hsz ht hd Tryz.underlying26
   rw [bytesName] at this
   simp only [List.length_map,reachBytes] at this
   have h2:=(hsp rfl).1
   omega
end Go.Proofs.YtlgbopjhmemaoaaGreatDoor
namespace Go.Proofs.YtlgbopjhmemaoaaGreatDoor
open Go.RowKit
theorem namesF_good (parts:Int):∀ (r ahead:List NameD),namesF parts ahead r=0→∀ n∈r,nameB n.name=true
 | [],_,_=>by simp
 | m :: r,ahead,h=>by
  rw [namesF] at h
  split at h
  · cases h
  · split at h
    · cases h
    · rename_i h1
      split at h
      · cases h
      · intro n hn
        rcases List.mem_cons.1 hn with rfl | hn
        · simpa using h1
        · exact namesF_good parts r _ h n hn
theorem goalsE_zero {p:PartD} (hc:checkD p=0) (h:(goalsE p).2=0):goalsD p=some (goalsE p).1:=by
 unfold goalsE at h ⊢
 rw [if_pos hc] at h ⊢
 cases hg:goalsD p with
 | none=>rw [hg] at h;simp at h
 | some G=>rfl
def firstE (e f:Nat):Nat:=if e=0 then f else e
mutual
def renD (ns:List NameD) (gs:List GoalD):PartD→Nat→Nat→PartD × Nat
 | ⟨t,cs,id,loc,how,body,parts⟩,i,e =>
  (⟨t,cs,id,loc,how,(bodyN ns gs ⟨t,cs,id,loc,how,body,parts⟩ i).1,(rensD ns gs parts (i+1) (firstE e (bodyN ns gs ⟨t,cs,id,loc,how,body,parts⟩ i).2)).1⟩,
   (rensD ns gs parts (i+1) (firstE e (bodyN ns gs ⟨t,cs,id,loc,how,body,parts⟩ i).2)).2)
def rensD (ns:List NameD) (gs:List GoalD):List PartD→Nat→Nat→List PartD × Nat
 | [],_,e=>([],e)
 | p :: ps,i,e=>((renD ns gs p i e).1 :: (rensD ns gs ps (i+(flatD p).length) (renD ns gs p i e).2).1,(rensD ns gs ps (i+(flatD p).length) (renD ns gs p i e).2).2)
end
section
variable (ns:List NameD) (gs:List GoalD)
mutual
theorem renD_err:∀ (p:PartD) (i e:Nat),e≠0→(renD ns gs p i e).2=e
 | ⟨t,cs,id,loc,how,body,parts⟩,i,e,h=>by
  rw [renD]
  simp only
  unfold firstE
  rw [if_neg h]
  exact rensD_err parts _ e h
theorem rensD_err:∀ (ps:List PartD) (i e:Nat),e≠0→(rensD ns gs ps i e).2=e
 | [],_,_,_=>by rw [rensD]
 | p :: ps,i,e,h=>by
  rw [rensD]
  simp only
  rw [renD_err p i e h]
  exact rensD_err ps _ e h
end
mutual
theorem renD_flat:∀ (p:PartD) (i e:Nat),(flatD (renD ns gs p i e).1).length=(flatD p).length
 | ⟨t,cs,id,loc,how,body,parts⟩,i,e=>by
  rw [renD]
  simp only
  rw [flatD,flatD,List.length_cons,List.length_cons,rensD_flat parts]
theorem rensD_flat:∀ (ps:List PartD) (i e:Nat),(flatsD (rensD ns gs ps i e).1).length=(flatsD ps).length
 | [],_,_=>by rw [rensD]
 | p :: ps,i,e=>by
  rw [rensD]
  simp only
  rw [flatsD,flatsD,List.length_append,List.length_append,renD_flat p,rensD_flat ps]
end
mutual
theorem renD_put:∀ (p:PartD) (i e:Nat) (r:List (List UInt8)),putD p ((flatD (renD ns gs p i e).1).map (·.body) ++ r)=(renD ns gs p i e).1
 | ⟨t,cs,id,loc,how,body,parts⟩,i,e,r=>by
  rw [renD]
  simp only
  rw [flatD,putD]
  simp only [List.map_cons,List.cons_append,List.headD_cons,List.drop_succ_cons,List.drop_zero]
  rw [rensD_put parts]
theorem rensD_put:∀ (ps:List PartD) (i e:Nat) (r:List (List UInt8)),putsD ps ((flatsD (rensD ns gs ps i e).1).map (·.body) ++ r)=(rensD ns gs ps i e).1
 | [],_,_,_=>by rw [rensD,putsD]
 | p :: ps,i,e,r=>by
  rw [rensD]
  simp only
  rw [flatsD,putsD,List.map_append,List.append_assoc,renD_put p]
  have hl:((flatD (renD ns gs p i e).1).map (·.body)).length=(flatD p).length:=by rw [List.length_map,renD_flat]
  rw [List.drop_left' hl,rensD_put ps]
end
mutual
theorem ren_bodies:∀ (p:PartD) (F:List PartD) (i:Nat) (out:List (List UInt8)),
 bodiesF ns gs (flatD p ++ F) i out=if (renD ns gs p i 0).2=0 then bodiesF ns gs F (i+(flatD p).length) (out ++ (flatD (renD ns gs p i 0).1).map (·.body)) else ([],(renD ns gs p i 0).2)
 | ⟨t,cs,id,loc,how,body,parts⟩,F,i,out=>by
  obtain⟨x,hx⟩:∃ x,x=bodyN ns gs ⟨t,cs,id,loc,how,body,parts⟩ i:=⟨_,rfl⟩
  rw [renD,flatD,List.cons_append,bodiesF]
  simp only
  rw [← hx]
  have e1:firstE 0 x.2=x.2:=by unfold firstE;rw [if_pos rfl]
  rw [e1]
  by_cases h:x.2=0
  · rw [if_pos h,h,rens_bodies parts]
    split
    · rw [flatD,List.map_cons,List.length_cons,List.append_assoc,show i+1+(flatsD parts).length=i+((flatsD parts).length+1) from by omega]
      rfl
    · rfl
  · rw [if_neg h,rensD_err ns gs parts _ _ h,if_neg h]
theorem rens_bodies:∀ (ps:List PartD) (F:List PartD) (i:Nat) (out:List (List UInt8)),
 bodiesF ns gs (flatsD ps ++ F) i out=if (rensD ns gs ps i 0).2=0 then bodiesF ns gs F (i+(flatsD ps).length) (out ++ (flatsD (rensD ns gs ps i 0).1).map (·.body)) else ([],(rensD ns gs ps i 0).2)
 | [],F,i,out=>by
  rw [rensD,flatsD]
  simp
 | p :: ps,F,i,out=>by
  rw [rensD,flatsD,List.append_assoc,ren_bodies p]
  simp only
  by_cases h:(renD ns gs p i 0).2=0
  · rw [if_pos h,h,rens_bodies ps]
    split
    · rw [flatsD,List.map_append,List.length_append,List.append_assoc,Nat.add_assoc]
    · rfl
  · rw [if_neg h,rensD_err ns gs ps _ _ h,if_neg h]
end
theorem ren_law (p:PartD):(bodiesF ns gs (flatD p) 0 []).2=(renD ns gs p 0 0).2∧((renD ns gs p 0 0).2=0→putD p (bodiesF ns gs (flatD p) 0 []).1=(renD ns gs p 0 0).1):=by
 have h:=ren_bodies ns gs p [] 0 []
 rw [List.append_nil] at h
 rw [h]
 by_cases h0:(renD ns gs p 0 0).2=0
 · rw [if_pos h0,bodiesF]
   refine⟨h0.symm,fun _=>?_⟩
   have:=renD_put ns gs p 0 0 []
   rw [List.append_nil] at this
   simpa using this
 · rw [if_neg h0]
   exact⟨rfl,fun h=>absurd h h0⟩
end
/-- The last error is the first one; the tree is the one with the bodies put. -/
theorem names_ren {p:PartD} {ns:List NameD} (h1:checkD p=0) (h2:namesF (flatD p).length [] ns=0) (h3:(goalsE p).2=0) :
 namesE p ns=if (renD ns (goalsE p).1 p 0 0).2=0 then renD ns (goalsE p).1 p 0 0 else (zeroP,(renD ns (goalsE p).1 p 0 0).2):=by
 obtain⟨a,b⟩:=ren_law ns (goalsE p).1 p
 unfold namesE
 rw [if_neg (by omega),if_neg (by omega),if_neg (by omega),a]
 by_cases h0:(renD ns (goalsE p).1 p 0 0).2=0
 · rw [if_neg (by omega),if_pos h0,b h0]
   exact Prod.ext rfl h0.symm
 · rw [if_pos h0,if_neg h0]
/-- Names that rise. -/
theorem names_rise (parts:Int):∀ (r ahead:List NameD),namesF parts ahead r=0→(∀ m∈ahead,∀ n∈r,m.part < n.part)∧r.Pairwise (fun a b=>a.part < b.part)
 | [],ahead,_=>⟨by simp,List.Pairwise.nil⟩
 | n :: r,ahead,h=>by
  rw [namesF] at h
  split at h
  · cases h
  · split at h
    · cases h
    · split at h
      · cases h
      · rename_i h3
        obtain⟨a,b⟩:=names_rise parts r (ahead ++ [n]) h
        have hc:∀ m∈ahead,m.part < n.part:=by
         intro m hm
         have:clashN n ahead=false:=by simpa using h3
         unfold clashN at this
         have:=List.any_eq_false.1 this m hm
         simp only [Bool.or_eq_true,decide_eq_true_eq,not_or] at this
         omega
        refine⟨fun m hm x hx=>?_,List.pairwise_cons.2 ⟨fun x hx=>a n (by simp) x hx,b⟩⟩
        rcases List.mem_cons.1 hx with rfl | hx
        · exact hc m hm
        · exact a m (by simp [hm]) x hx
theorem ofN_snoc:∀ (a:List NameD) (n:NameD) (k:Int),(∀ m∈a,m.part < n.part)→ofN (a ++ [n]) k=if k=n.part then n.name else ofN a k
 | [],n,k,_=>by
  rw [List.nil_append,ofN,ofN]
  by_cases h:n.part=k
  · rw [if_pos h,if_pos h.symm]
  · rw [if_neg h,if_neg (fun e=>h e.symm)]
    rfl
 | m :: a,n,k,h=>by
  have h1:=h m (by simp)
  rw [List.cons_append,ofN,ofN,ofN_snoc a n k (fun x hx=>h x (by simp [hx]))]
  by_cases hm:m.part=k
  · rw [if_pos hm,if_pos hm,if_neg (by omega)]
  · rw [if_neg hm,if_neg hm]
theorem textsN_snoc (ns:List NameD) (gs:List GoalD) (g:GoalD) (i:Nat):textsN ns (gs ++ [g]) i=if g.part=i then textsN ns gs i ++ [ofN ns g.find] else textsN ns gs i:=by
 unfold textsN
 rw [List.filter_append]
 by_cases h:g.part=i
 · rw [if_pos h,List.filter_cons_of_pos (by simpa using h),List.map_append];rfl
 · rw [if_neg h,List.filter_cons_of_neg (by simpa using h)];simp
end Go.Proofs.YtlgbopjhmemaoaaGreatDoor
namespace Go.Proofs.YtlgbopjhmemaoaaGreatDoor
open Go.RowKit Go.Maps Go.WideMaps
theorem lawInt:Keyed Tryz.prog 3:=int_keyed Tryz.underlying3
def rawE (v:Value):Option (DataW Value × List MemPlace):=some (.held v,[])
def MapI (w:World) (b m:Nat) (z:Value) (f:Int→Value):Prop:=
 ∃ D:DataW Value,w.ownsMap Tryz.prog 3 rawE b m D∧IsMap D∧∀ k:Int,D.atKey (.int .i64 k) (.held z) = .held (f k)
theorem wf_i64 {k:Int} (h1:-9223372036854775808≤k) (h2:k≤9223372036854775807):(Lit.int .i64 k).wf=true:=by
 have e1:IntKind.i64.min = -9223372036854775808:=by decide
 have e2:IntKind.i64.max=9223372036854775807:=by decide
 show(decide (IntKind.i64.min≤k) && decide (k≤IntKind.i64.max))=true
 rw [e1,e2,decide_eq_true h1,decide_eq_true h2]
 rfl
theorem MapI.made (w:World) (z:Value):MapI (w.alloc (.map #[] 0)) w.heap.size 0 z (fun _=>z):=
 ⟨.map [],World.ownsMap_made w _ _ _,isMap_empty,fun _k=>rfl⟩
section
variable {w w':World} {b m:Nat} {z:Value} {f:Int→Value}
theorem MapI.lt (h:MapI w b m z f):b < w.heap.size:=by obtain⟨D,h,_⟩:=h;exact h.lt
theorem MapI.kept {row:Option Nat} (h:MapI w b m z f) (hg:w.grownBy w' row) (hne:some b≠row):MapI w' b m z f:=by
 obtain⟨D,h2,h3⟩:=h
 exact⟨D,h2.kept hg hne,h3⟩
theorem MapI.below {B:Nat} (h:MapI w b m z f) (hb:Below B w w') (hB:b < B):MapI w' b m z f:=by
 obtain⟨D,⟨es,clock,h1,h2⟩,h3⟩:=h
 exact⟨D,⟨es,clock,(hb.block b hB).trans h1,h2⟩,h3⟩
theorem MapI.drewN (h:MapI w b m z f) (n:Nat):MapI (w.drewN n) b m z f:=h
theorem MapI.setCell (h:MapI w b m z f) (a:Addr) (v:Value) (hne:a.block≠b):MapI (w.setCell a v) b m z f:=by
 obtain⟨D,⟨es,clock,h1,h2⟩,h3⟩:=h
 refine⟨D,⟨es,clock,?_,h2⟩,h3⟩
 simp only [World.setCell,Array.getElem?_modify]
 rw [if_neg hne]
 exact h1
theorem MapI.look {t e:TypeId} (h:MapI w b m z f) (ht:Tryz.prog.underlying t=some (.map 3 e)) (hz:(zeroValue e).run Tryz.prog w = .ok z w) (k:Int) (h1:-9223372036854775808≤k) (h2:k≤9223372036854775807) :
 (Instr.lookup t (.map (some b)) (.int .i64 k) false).run Tryz.prog w = .ok (f k) w:=by
 obtain⟨D,ho,_,hf⟩:=h
 obtain⟨v,ps,hrun,hv⟩:=ho.lookup lawInt ht hz (zd:=.held z) (zp:=[]) rfl (keyOf_int_mk Tryz.underlying3 (wf_i64 h1 h2))
 have e:=hf k
 have hv':DataW.held v=D.atKey (.int .i64 k) (.held z):=congrArg Prod.fst (Option.some.inj hv)
 have hv2:v=f k:=DataW.held.inj (hv'.trans e)
 exact hv2 ▸ hrun
theorem MapI.put {t e:TypeId} (h:MapI w b m z f) (ht:Tryz.prog.underlying t=some (.map 3 e)) (hm:m < maxLen) (k:Int) (h1:-9223372036854775808≤k) (h2:k≤9223372036854775807) (v:Value) :
 ∃ w',(Instr.mapUpdate t (.map (some b)) (.int .i64 k) v).run Tryz.prog w = .ok () w'∧MapI w' b (m+1) z (fun k'=>if k'=k then v else f k')∧w.grownBy w' (some b):=by
 obtain⟨D,ho,hi,hf⟩:=h
 obtain⟨w',hrun,hown,hg⟩:=ho.update lawInt ht hm (keyOf_int_mk Tryz.underlying3 (wf_i64 h1 h2)) (val:=v) (d:=.held v) (ps:=[]) rfl
 refine⟨w',hrun,⟨_,hown,hi.put _ _,fun k'=>?_⟩,hg⟩
 by_cases e:k'=k
 · subst e
   rw [atKey_put_same hi (by trivial)]
   simp
 · rw [atKey_put_other (by intro e2;injection e2 with _ e2;exact e e2),hf]
   simp [e]
end
end Go.Proofs.YtlgbopjhmemaoaaGreatDoor
namespace Go.Proofs.YtlgbopjhmemaoaaGreatDoor
open Go.RowKit
mutual
def TrAt (w:World):Nat→Nat→PartD→List Value→Prop
 | lo,hi,⟨t,cs,id,loc,how,body,parts⟩,v=>∃ A c A2 c2 rows lo2,v = [str t,str cs,str id,str loc,.int .i64 how,.slice A body.length c,.slice A2 parts.length c2] ∧
  (t.length≤maxLen∧cs.length≤maxLen∧id.length≤maxLen∧loc.length≤maxLen∧-9223372036854775808≤how∧how≤9223372036854775807)∧parts.length≤c2∧c2≤maxLen ∧
  w.ownsRow lo 25 7 (.slice A2 parts.length c2) parts.length (List.flatten rows)∧(∀ g,Value.ownBlock (.slice A2 parts.length c2)=some g→g < lo2)∧lo≤lo2∧lo2≤hi∧TrsAt w lo2 hi parts rows
def TrsAt (w:World):Nat→Nat→List PartD→List (List Value)→Prop
 | lo,hi,[],rows=>rows = []∧lo≤hi
 | lo,hi,p :: ps,rows=>∃ r rs mid,rows=r :: rs∧lo≤mid∧mid≤hi∧TrAt w lo mid p r∧TrsAt w mid hi ps rs
end
theorem own_keep {w w':World} {base:Nat} {e:TypeId} {size:Nat} {v:Value} {n:Nat} {xs:List Value} (h:w.ownsRow base e size v n xs) (hk:∀ g,v.ownBlock=some g→w'.heap[g]? = w.heap[g]?):w'.ownsRow base e size v n xs:=by
 refine⟨h.1,?_⟩
 rcases h.2 with h2 | ⟨g,cap,cur,rfl,h3,h4,h5⟩
 · exact .inl h2
 · exact .inr ⟨g,cap,cur,rfl,h3,(hk g rfl).trans h4,h5⟩
section
variable {w w':World}
theorem TrsAt.le:∀ (ps:List PartD) (rows:List (List Value)) (lo hi:Nat),TrsAt w lo hi ps rows→lo≤hi
 | [],_,_,_,h=>h.2
 | p :: ps,_,lo,hi,h=>by
  obtain⟨r,rs,mid,_,h1,h2,_⟩:=h
  omega
mutual
theorem TrAt.keep:∀ (p:PartD) (v:List Value) (lo hi:Nat),(∀ b,lo≤b→b < hi→w'.heap[b]? = w.heap[b]?)→TrAt w lo hi p v→TrAt w' lo hi p v
 | ⟨t,cs,id,loc,how,body,parts⟩,v,lo,hi,hk,h=>by
  obtain⟨A,c,A2,c2,rows,lo2,h1,h2,h3,h4,h5,h6,h7,h8,h9⟩:=h
  have h10:∀ g,Value.ownBlock (.slice A2 parts.length c2)=some g→lo≤g:=fun g hg=>(h5.lt g hg).1
  exact⟨A,c,A2,c2,rows,lo2,h1,h2,h3,h4,own_keep h5 (fun g hg=>hk g (h10 g hg) (by have:=h6 g hg;omega)),h6,h7,h8,TrsAt.keep parts rows lo2 hi (fun b hb hb'=>hk b (by omega) hb') h9⟩
theorem TrsAt.keep:∀ (ps:List PartD) (rows:List (List Value)) (lo hi:Nat),(∀ b,lo≤b→b < hi→w'.heap[b]? = w.heap[b]?)→TrsAt w lo hi ps rows→TrsAt w' lo hi ps rows
 | [],_,_,_,_,h=>h
 | p :: ps,_,lo,hi,hk,h=>by
  obtain⟨r,rs,mid,h1,h2,h3,h4,h5⟩:=h
  exact⟨r,rs,mid,h1,h2,h3,TrAt.keep p r lo mid (fun b hb hb'=>hk b hb (by omega)) h4,TrsAt.keep ps rs mid hi (fun b hb hb'=>hk b (by omega) hb') h5⟩
end
mutual
theorem TrAt.wide:∀ (p:PartD) (v:List Value) (lo hi lo' hi':Nat),lo'≤lo→hi≤hi'→TrAt w lo hi p v→TrAt w lo' hi' p v
 | ⟨t,cs,id,loc,how,body,parts⟩,v,lo,hi,lo',hi',h1,h2,h=>by
  obtain⟨A,c,A2,c2,rows,lo2,g1,g2,g3,g4,g5,g6,g7,g8,g9⟩:=h
  exact⟨A,c,A2,c2,rows,lo2,g1,g2,g3,g4,own_base g5 h1,g6,by omega,by omega,TrsAt.wide parts rows lo2 hi lo2 hi' (Nat.le_refl _) h2 g9⟩
theorem TrsAt.wide:∀ (ps:List PartD) (rows:List (List Value)) (lo hi lo' hi':Nat),lo'≤lo→hi≤hi'→TrsAt w lo hi ps rows→TrsAt w lo' hi' ps rows
 | [],_,lo,hi,lo',hi',h1,h2,h=>⟨h.1,by have:=h.2;omega⟩
 | p :: ps,_,lo,hi,lo',hi',h1,h2,h=>by
  obtain⟨r,rs,mid,g1,g2,g3,g4,g5⟩:=h
  exact⟨r,rs,mid,g1,by omega,by omega,TrAt.wide p r lo mid lo' mid h1 (Nat.le_refl _) g4,TrsAt.wide ps rs mid hi mid hi' (Nat.le_refl _) h2 g5⟩
end
theorem TrsAt.snoc:∀ (ps:List PartD) (rows:List (List Value)) (lo mid mid' hi:Nat) (q:PartD) (r:List Value),TrsAt w lo mid ps rows→mid≤mid'→mid'≤hi→TrAt w mid' hi q r→TrsAt w lo hi (ps ++ [q]) (rows ++ [r])
 | [],_,lo,mid,mid',hi,q,r,h,h1,h2,h3=>by
  obtain⟨rfl,h⟩:=h
  exact⟨r,[],hi,rfl,by omega,Nat.le_refl _,TrAt.wide q r mid' hi lo hi (by omega) (Nat.le_refl _) h3,rfl,Nat.le_refl _⟩
 | p :: ps,_,lo,mid,mid',hi,q,r,h,h1,h2,h3=>by
  obtain⟨x,xs,m,rfl,g2,g3,g4,g5⟩:=h
  exact⟨x,xs ++ [r],m,rfl,g2,by omega,g4,TrsAt.snoc ps xs m mid mid' hi q r g5 h1 h2 h3⟩
theorem TrAt.row7 {p:PartD} {v:List Value} {lo hi:Nat} (h:TrAt w lo hi p v):v.length=7:=by
 obtain⟨t,cs,id,loc,how,body,parts⟩:=p
 obtain⟨A,c,A2,c2,rows,lo2,rfl,_⟩:=h
 rfl
theorem TrsAt.rows7:∀ (ps:List PartD) (rows:List (List Value)) (lo hi:Nat),TrsAt w lo hi ps rows→∀ r∈rows,r.length=7
 | [],_,_,_,h=>by rw [h.1];simp
 | p :: ps,_,lo,hi,h=>by
  obtain⟨r,rs,mid,rfl,_,_,h4,h5⟩:=h
  intro x hx
  rcases List.mem_cons.1 hx with rfl | hx
  · exact h4.row7
  · exact TrsAt.rows7 ps rs mid hi h5 x hx
theorem TrsAt.len:∀ (ps:List PartD) (rows:List (List Value)) (lo hi:Nat),TrsAt w lo hi ps rows→rows.length=ps.length
 | [],_,_,_,h=>by rw [h.1];rfl
 | p :: ps,_,lo,hi,h=>by
  obtain⟨r,rs,mid,rfl,_,_,_,h5⟩:=h
  simp [TrsAt.len ps rs mid hi h5]
theorem TrAt.open {p:PartD} {v:List Value} {lo hi:Nat} (h:TrAt w lo hi p v):∃ A c A2 c2 rows lo2,v = [str p.type,str p.cs,str p.id,str p.loc,.int .i64 p.how,.slice A p.body.length c,.slice A2 p.parts.length c2] ∧
 (p.type.length≤maxLen∧p.cs.length≤maxLen∧p.id.length≤maxLen∧p.loc.length≤maxLen∧-9223372036854775808≤p.how∧p.how≤9223372036854775807)∧p.parts.length≤c2∧c2≤maxLen ∧
 w.ownsRow lo 25 7 (.slice A2 p.parts.length c2) p.parts.length (List.flatten rows)∧(∀ g,Value.ownBlock (.slice A2 p.parts.length c2)=some g→g < lo2)∧lo≤lo2∧lo2≤hi∧TrsAt w lo2 hi p.parts rows:=by
 obtain⟨t,cs,id,loc,how,body,parts⟩:=p
 exact h
end
end Go.Proofs.YtlgbopjhmemaoaaGreatDoor
