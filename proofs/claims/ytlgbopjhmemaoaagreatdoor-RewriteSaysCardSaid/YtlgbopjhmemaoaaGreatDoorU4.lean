import Derived.Test.YtlgbopjhmemaoaaGreatDoorU3
import Derived.OrdersHeld
import Derived.Deep.DeepCutAuto
set_option maxRecDepth 100000
set_option maxHeartbeats 40000000
namespace Go.Proofs.YtlgbopjhmemaoaaGreatDoor
open Go.RowKit
/-- A call inside a region that draws its order. -/
theorem wpOp_call {P:Program} {k:Nat} {K:Act→World→Prop} {w:World} {ops:Array Oper} {o:Oper} {a:Act} {Q:Exit→Act→World→Prop} (hi:ops[k]? = some o) (hw:Region.wanted o (yielded ops a.tmps)=true) (f:FuncId) (args:Array Value)
 (hrun:(execOp a.eval o).run P w = .ok (.enter f args) w) (v:Value) (R:World→Prop) (hc:Calls P f args w fun e w'=>e = .returned v∧R w') (h:∀ w',R w'→K (a.put o.dst v) w'):wpOp P ops Q k K a w:=by
 unfold wpOp
 simp only [hi,hw,if_true]
 refine .inl ?_
 unfold Oper.wp
 rw [hrun,Oper.upon_enter]
 refine hc.mono fun e w'' hh=>?_
 obtain⟨rfl,hr⟩:=hh
 exact h w'' hr
theorem Contains_one (l:List UInt8) (c:UInt8) (w:World):Calls Tryz.prog 84 #[str l,.string ⟨#[c]⟩] w fun e w'=>e = .returned (.bool (decide (0≤Lib.indexByte l c)))∧w=w':=by
 have h:Calls Tryz.prog 76 #[str l,.string ⟨#[c]⟩] w fun e w'=>e = .returned (.int .i64 (Lib.indexByte l c))∧w=w':=
  (Go.Proofs.Tryz.strings_Index_one ⟨l.toArray⟩ c w).mono fun _ _ ⟨h1,h2⟩=>⟨h1,h2.symm⟩
 generalize Lib.indexByte l c=i at h ⊢
 have H:=Lib.hid h
 clear h
 go_enter Tryz.func84,Tryz.ntmps84
 go_wp2_with fail
 refine H.out.mono ?_
 rintro e w1 ⟨rfl,rfl⟩
 go_wp2_with fail
 all_goals
  go_ret
  first | exact⟨rfl,rfl⟩ | exact⟨by simp [*],rfl⟩
theorem formB_host (u:UrlD) (h:true=(u.hasHost && (!(u.path == []) && !(nth u.path 0 == 47)))):formB u=true:=by
 unfold formB
 cases hh:u.hasHost
 · rw [hh] at h;simp at h
 · rw [hh,Bool.true_and] at h;rw [if_pos rfl];exact h.symm
theorem formB_slash (u:UrlD) (h:true=(!u.hasHost && Lib.hasPrefix u.path [47,47])):formB u=true:=by
 unfold formB
 cases hh:u.hasHost
 · rw [hh,Bool.not_false,Bool.true_and] at h
   rw [if_neg (by simp),← h];rfl
 · rw [hh] at h;simp at h
theorem formB_colon (u:UrlD) (h:true=((u.scheme == []) && (!u.hasHost && decide (0≤Lib.indexByte (Lib.cut u.path [47]).1 58)))):formB u=true:=by
 unfold formB
 cases hh:u.hasHost
 · rw [hh,Bool.not_false,Bool.true_and] at h
   rw [if_neg (by simp),← h,Bool.or_true]
 · rw [hh] at h;simp at h
theorem formB_none (u:UrlD) (h1:false=(u.hasHost && (!(u.path == []) && !(nth u.path 0 == 47)))) (h2:false=(!u.hasHost && Lib.hasPrefix u.path [47,47])) (h3:false=((u.scheme == []) && (!u.hasHost && decide (0≤Lib.indexByte (Lib.cut u.path [47]).1 58)))):formB u=false:=by
 unfold formB
 cases hh:u.hasHost
 · rw [hh,Bool.not_false,Bool.true_and] at h2 h3
   rw [if_neg (by simp),← h2,← h3];rfl
 · rw [hh,Bool.true_and] at h1;rw [if_pos rfl];exact h1.symm
theorem r_four {a b:Bool} (x:Nat) (h:b=true):(if true=false then 1 else if (a || b)=true then 4 else x)=4:=by rw [h];simp
theorem r_end {a b:Bool} (x:Nat) (h:a=false) (h2:b=false):(if true=false then 1 else if (a || b)=true then 4 else x)=x:=by rw [h,h2];simp
theorem Check_short (sc ho pa qu fr:List UInt8) (hh hq hf:Bool) (w:World) (l0:sc.length≤120) (l1:ho.length≤120) (l2:pa.length≤120) (l3:qu.length≤120) (l4:fr.length≤120) :
 Calls Tryz.prog 118 #[.agg #[str sc,.bool hh,str ho,str pa,.bool hq,str qu,.bool hf,str fr]] w fun e w'=>e = .returned (.int .i64 (chkU ⟨sc,hh,ho,pa,hq,qu,hf,fr⟩:Nat))∧Below w.heap.size w w':=by
 obtain⟨W,hW⟩:∃ W,W=w.alloc (.cells #[str sc,.bool hh,str ho,str pa,.bool hq,str qu,.bool hf,str fr] 103):=⟨_,rfl⟩
 have hbW:Below w.heap.size w W:=by rw [hW];exact(Below.refl _ w).alloc (Nat.le_refl _) _
 have hbx:Box8 W w.heap.size (str sc) (.bool hh) (str ho) (str pa) (.bool hq) (str qu) (.bool hf) (str fr):=by rw [hW];exact Box8.new w _ _ _ _ _ _ _ _ _
 have K0:=Lib.hid (fun X:World=>schemeU_any sc X (by unfold maxLen;omega))
 have K1:=Lib.hid (fun X:World=>wordU_any ho [47,63,35] X (by unfold maxLen;omega))
 have K2:=Lib.hid (fun X:World=>lowerU_any ho X (by unfold maxLen;omega))
 have K3:=Lib.hid (fun X:World=>wordU_any pa [63,35] X (by unfold maxLen;omega))
 have K4:=Lib.hid (fun X:World=>wordU_any qu [35] X (by unfold maxLen;omega))
 have K5:=Lib.hid (fun X:World=>wordU_any fr [35] X (by unfold maxLen;omega))
 obtain⟨ok,hok⟩:∃ ok,ok=okU ⟨sc,hh,ho,pa,hq,qu,hf,fr⟩:=⟨_,rfl⟩
 obtain⟨R,hR⟩:∃ R,R=chkU ⟨sc,hh,ho,pa,hq,qu,hf,fr⟩:=⟨_,rfl⟩
 rw [← hR]
 unfold chkU at hR
 rw [← hok] at hR
 obtain⟨tx,htx⟩:∃ tx,tx=textU ⟨sc,hh,ho,pa,hq,qu,hf,fr⟩:=⟨_,rfl⟩
 rw [← htx] at hR
 have KT:=Lib.hid (fun X:World=>textU_any sc ho pa qu fr hh hq hf X (by omega) (by omega) (by omega) (by omega) (by omega))
 rw [← htx] at KT
 clear htx
 have HR:=Lib.hid hR
 clear hR
 unfold okU at hok
 simp only at hok
 generalize schemeU sc=b0 at K0 hok
 generalize wordU ho [47,63,35]=b1 at K1 hok
 generalize lowL ho=lo at K2 hok
 generalize hb2:(ho == lo)=b2 at hok
 generalize wordU pa [63,35]=b3 at K3 hok
 generalize wordU qu [35]=b4 at K4 hok
 generalize wordU fr [35]=b5 at K5 hok
 have Hok:=Lib.hid hok
 have Hb2:=Lib.hid hb2
 have Hbx:=Lib.hid hbx
 have HbW:=Lib.hid hbW
 clear hok hb2 hbx hbW
 have d0:decide (120 < (sc.length:Int))=false:=decide_eq_false (by omega)
 have d1:decide (120 < (ho.length:Int))=false:=decide_eq_false (by omega)
 have d2:decide (120 < (pa.length:Int))=false:=decide_eq_false (by omega)
 have d3:decide (120 < (qu.length:Int))=false:=decide_eq_false (by omega)
 have d4:decide (120 < (fr.length:Int))=false:=decide_eq_false (by omega)
 go_enter Tryz.func118,Tryz.ntmps118
 go_upto_region 3 with fail
 rw [← hW]
 clear hW
 go_cut [66] (fun s66 wx=>s66 = .bool (!ok)∧Below W.heap.size W wx)
 case first =>
  cases b0
  · skip
    refine wp_region_held (S:=fun W'=>Below W.heap.size W W') (by kernel_rfl) ?_
    change wpAnyH _ _ _ _ _ _ _ _ (World.drew W)
    have hS:Below W.heap.size W W.drew:=(Below.refl _ W).drew
    refine tkH (i:=0) (v:=?_) rfl ?_ hS ?_
    rotate_left 1
    · intro W' hb;go_simp;try exact rfl
    refine tkH (i:=1) (v:=?_) rfl ?_ hS ?_
    rotate_left 1
    · intro W' hb;obtain⟨c0,c1,c2,c3,c4,c5,c6,c7⟩:=Hbx.out.below hb;go_simp;try exact rfl
    refine wpAnyH_all (rs:=[2]) (by kernel_rfl) (by simp) ?_
    intro k hk
    simp only [List.mem_singleton] at hk
    subst hk
    go_simp
    refine wpOp_call rfl (by kernel_rfl) 116 #[str sc] (by go_simp) _ _ (K0.out _) ?_
    intro w2 hb2
    have hS:Below W.heap.size W w2:=hS.trans (hb2.mono hS.size)
    clear hb2
    refine⟨hS,?_⟩
    refine tkH (i:=3) (v:=?_) rfl ?_ hS ?_
    rotate_left 1
    · intro W' hb;go_simp;try exact rfl
    refine tkH (i:=4) (v:=?_) rfl ?_ hS ?_
    rotate_left 1
    · intro W' hb;go_simp;try exact rfl
    refine tkN (i:=5) rfl hS ?_
    refine tkN (i:=6) rfl hS ?_
    refine tkN (i:=7) rfl hS ?_
    refine tkN (i:=8) rfl hS ?_
    refine tkH (i:=9) (v:=?_) rfl ?_ hS ?_
    rotate_left 1
    · intro W' hb;go_simp;try exact rfl
    refine tkH (i:=10) (v:=?_) rfl ?_ hS ?_
    rotate_left 1
    · intro W' hb;go_simp;try exact rfl
    refine tkN (i:=11) rfl hS ?_
    refine tkN (i:=12) rfl hS ?_
    refine tkN (i:=13) rfl hS ?_
    refine tkN (i:=14) rfl hS ?_
    refine tkN (i:=15) rfl hS ?_
    refine tkN (i:=16) rfl hS ?_
    refine tkH (i:=17) (v:=?_) rfl ?_ hS ?_
    rotate_left 1
    · intro W' hb;go_simp;try exact rfl
    refine tkH (i:=18) (v:=?_) rfl ?_ hS ?_
    rotate_left 1
    · intro W' hb;go_simp;try exact rfl
    refine tkN (i:=19) rfl hS ?_
    refine tkN (i:=20) rfl hS ?_
    refine tkN (i:=21) rfl hS ?_
    refine tkN (i:=22) rfl hS ?_
    refine tkH (i:=23) (v:=?_) rfl ?_ hS ?_
    rotate_left 1
    · intro W' hb;go_simp;try exact rfl
    refine tkH (i:=24) (v:=?_) rfl ?_ hS ?_
    rotate_left 1
    · intro W' hb;go_simp;try exact rfl
    refine tkN (i:=25) rfl hS ?_
    refine tkN (i:=26) rfl hS ?_
    refine tkN (i:=27) rfl hS ?_
    refine tkN (i:=28) rfl hS ?_
    refine tkH (i:=29) (v:=?_) rfl ?_ hS ?_
    rotate_left 1
    · intro W' hb;go_simp;try exact rfl
    refine tkH (i:=30) (v:=?_) rfl ?_ hS ?_
    rotate_left 1
    · intro W' hb;go_simp;try exact rfl
    refine tkN (i:=31) rfl hS ?_
    refine tkN (i:=32) rfl hS ?_
    refine tkN (i:=33) rfl hS ?_
    refine tkN (i:=34) rfl hS ?_
    refine tkH (i:=35) (v:=?_) rfl ?_ hS ?_
    rotate_left 1
    · intro W' hb;go_simp;try exact rfl
    refine wpAnyH_done (by kernel_rfl) ?_ _
    go_simp
    go_wp2_with fail
    go_meet
    exact⟨by rw [Hok.out];rfl,hS⟩
  cases b1
  · skip
    refine wp_region_held (S:=fun W'=>Below W.heap.size W W') (by kernel_rfl) ?_
    change wpAnyH _ _ _ _ _ _ _ _ (World.drew W)
    have hS:Below W.heap.size W W.drew:=(Below.refl _ W).drew
    refine tkH (i:=0) (v:=?_) rfl ?_ hS ?_
    rotate_left 1
    · intro W' hb;go_simp;try exact rfl
    refine tkH (i:=1) (v:=?_) rfl ?_ hS ?_
    rotate_left 1
    · intro W' hb;obtain⟨c0,c1,c2,c3,c4,c5,c6,c7⟩:=Hbx.out.below hb;go_simp;try exact rfl
    refine wpAnyH_all (rs:=[2]) (by kernel_rfl) (by simp) ?_
    intro k hk
    simp only [List.mem_singleton] at hk
    subst hk
    go_simp
    refine wpOp_call rfl (by kernel_rfl) 116 #[str sc] (by go_simp) _ _ (K0.out _) ?_
    intro w2 hb2
    have hS:Below W.heap.size W w2:=hS.trans (hb2.mono hS.size)
    clear hb2
    refine⟨hS,?_⟩
    refine tkH (i:=3) (v:=?_) rfl ?_ hS ?_
    rotate_left 1
    · intro W' hb;go_simp;try exact rfl
    refine tkH (i:=4) (v:=?_) rfl ?_ hS ?_
    rotate_left 1
    · intro W' hb;go_simp;try exact rfl
    refine tkH (i:=5) (v:=?_) rfl ?_ hS ?_
    rotate_left 1
    · intro W' hb;go_simp;try exact rfl
    refine tkH (i:=6) (v:=?_) rfl ?_ hS ?_
    rotate_left 1
    · intro W' hb;obtain⟨c0,c1,c2,c3,c4,c5,c6,c7⟩:=Hbx.out.below hb;go_simp;try exact rfl
    refine wpAnyH_all (rs:=[7]) (by kernel_rfl) (by simp) ?_
    intro k hk
    simp only [List.mem_singleton] at hk
    subst hk
    go_simp
    refine wpOp_call rfl (by kernel_rfl) 156 #[str ho,.string ⟨#[47,63,35]⟩] (by go_simp) _ _ (K1.out _) ?_
    intro w7 hb7
    have hS:Below W.heap.size W w7:=hS.trans (hb7.mono hS.size)
    clear hb7
    refine⟨hS,?_⟩
    refine tkH (i:=8) (v:=?_) rfl ?_ hS ?_
    rotate_left 1
    · intro W' hb;go_simp;try exact rfl
    refine tkH (i:=9) (v:=?_) rfl ?_ hS ?_
    rotate_left 1
    · intro W' hb;go_simp;try exact rfl
    refine tkH (i:=10) (v:=?_) rfl ?_ hS ?_
    rotate_left 1
    · intro W' hb;go_simp;try exact rfl
    refine tkN (i:=11) rfl hS ?_
    refine tkN (i:=12) rfl hS ?_
    refine tkN (i:=13) rfl hS ?_
    refine tkN (i:=14) rfl hS ?_
    refine tkN (i:=15) rfl hS ?_
    refine tkN (i:=16) rfl hS ?_
    refine tkH (i:=17) (v:=?_) rfl ?_ hS ?_
    rotate_left 1
    · intro W' hb;go_simp;try exact rfl
    refine tkH (i:=18) (v:=?_) rfl ?_ hS ?_
    rotate_left 1
    · intro W' hb;go_simp;try exact rfl
    refine tkN (i:=19) rfl hS ?_
    refine tkN (i:=20) rfl hS ?_
    refine tkN (i:=21) rfl hS ?_
    refine tkN (i:=22) rfl hS ?_
    refine tkH (i:=23) (v:=?_) rfl ?_ hS ?_
    rotate_left 1
    · intro W' hb;go_simp;try exact rfl
    refine tkH (i:=24) (v:=?_) rfl ?_ hS ?_
    rotate_left 1
    · intro W' hb;go_simp;try exact rfl
    refine tkN (i:=25) rfl hS ?_
    refine tkN (i:=26) rfl hS ?_
    refine tkN (i:=27) rfl hS ?_
    refine tkN (i:=28) rfl hS ?_
    refine tkH (i:=29) (v:=?_) rfl ?_ hS ?_
    rotate_left 1
    · intro W' hb;go_simp;try exact rfl
    refine tkH (i:=30) (v:=?_) rfl ?_ hS ?_
    rotate_left 1
    · intro W' hb;go_simp;try exact rfl
    refine tkN (i:=31) rfl hS ?_
    refine tkN (i:=32) rfl hS ?_
    refine tkN (i:=33) rfl hS ?_
    refine tkN (i:=34) rfl hS ?_
    refine tkH (i:=35) (v:=?_) rfl ?_ hS ?_
    rotate_left 1
    · intro W' hb;go_simp;try exact rfl
    refine wpAnyH_done (by kernel_rfl) ?_ _
    go_simp
    go_wp2_with fail
    go_meet
    exact⟨by rw [Hok.out];rfl,hS⟩
  cases b2
  · have e2:(ho == lo)=false:=Hb2.out
    refine wp_region_held (S:=fun W'=>Below W.heap.size W W') (by kernel_rfl) ?_
    change wpAnyH _ _ _ _ _ _ _ _ (World.drew W)
    have hS:Below W.heap.size W W.drew:=(Below.refl _ W).drew
    refine tkH (i:=0) (v:=?_) rfl ?_ hS ?_
    rotate_left 1
    · intro W' hb;go_simp;try exact rfl
    refine tkH (i:=1) (v:=?_) rfl ?_ hS ?_
    rotate_left 1
    · intro W' hb;obtain⟨c0,c1,c2,c3,c4,c5,c6,c7⟩:=Hbx.out.below hb;go_simp;try exact rfl
    refine wpAnyH_all (rs:=[2]) (by kernel_rfl) (by simp) ?_
    intro k hk
    simp only [List.mem_singleton] at hk
    subst hk
    go_simp
    refine wpOp_call rfl (by kernel_rfl) 116 #[str sc] (by go_simp) _ _ (K0.out _) ?_
    intro w2 hb2
    have hS:Below W.heap.size W w2:=hS.trans (hb2.mono hS.size)
    clear hb2
    refine⟨hS,?_⟩
    refine tkH (i:=3) (v:=?_) rfl ?_ hS ?_
    rotate_left 1
    · intro W' hb;go_simp;try exact rfl
    refine tkH (i:=4) (v:=?_) rfl ?_ hS ?_
    rotate_left 1
    · intro W' hb;go_simp;try exact rfl
    refine tkH (i:=5) (v:=?_) rfl ?_ hS ?_
    rotate_left 1
    · intro W' hb;go_simp;try exact rfl
    refine tkH (i:=6) (v:=?_) rfl ?_ hS ?_
    rotate_left 1
    · intro W' hb;obtain⟨c0,c1,c2,c3,c4,c5,c6,c7⟩:=Hbx.out.below hb;go_simp;try exact rfl
    refine wpAnyH_all (rs:=[7]) (by kernel_rfl) (by simp) ?_
    intro k hk
    simp only [List.mem_singleton] at hk
    subst hk
    go_simp
    refine wpOp_call rfl (by kernel_rfl) 156 #[str ho,.string ⟨#[47,63,35]⟩] (by go_simp) _ _ (K1.out _) ?_
    intro w7 hb7
    have hS:Below W.heap.size W w7:=hS.trans (hb7.mono hS.size)
    clear hb7
    refine⟨hS,?_⟩
    refine tkH (i:=8) (v:=?_) rfl ?_ hS ?_
    rotate_left 1
    · intro W' hb;go_simp;try exact rfl
    refine tkH (i:=9) (v:=?_) rfl ?_ hS ?_
    rotate_left 1
    · intro W' hb;go_simp;try exact rfl
    refine tkH (i:=10) (v:=?_) rfl ?_ hS ?_
    rotate_left 1
    · intro W' hb;go_simp;try exact rfl
    refine tkH (i:=11) (v:=?_) rfl ?_ hS ?_
    rotate_left 1
    · intro W' hb;go_simp;try exact rfl
    refine tkH (i:=12) (v:=?_) rfl ?_ hS ?_
    rotate_left 1
    · intro W' hb;obtain⟨c0,c1,c2,c3,c4,c5,c6,c7⟩:=Hbx.out.below hb;go_simp;try exact rfl
    refine tkH (i:=13) (v:=?_) rfl ?_ hS ?_
    rotate_left 1
    · intro W' hb;go_simp;try exact rfl
    refine tkH (i:=14) (v:=?_) rfl ?_ hS ?_
    rotate_left 1
    · intro W' hb;obtain⟨c0,c1,c2,c3,c4,c5,c6,c7⟩:=Hbx.out.below hb;go_simp;try exact rfl
    refine wpAnyH_all (rs:=[15]) (by kernel_rfl) (by simp) ?_
    intro k hk
    simp only [List.mem_singleton] at hk
    subst hk
    go_simp
    refine wpOp_call rfl (by kernel_rfl) 117 #[str ho] (by go_simp) _ _ (K2.out _) ?_
    intro w15 hb15
    have hS:Below W.heap.size W w15:=hS.trans (hb15.mono hS.size)
    clear hb15
    refine⟨hS,?_⟩
    refine tkH (i:=16) (v:=?_) rfl ?_ hS ?_
    rotate_left 1
    · intro W' hb;go_simp;try exact rfl
    refine tkH (i:=17) (v:=?_) rfl ?_ hS ?_
    rotate_left 1
    · intro W' hb;go_simp;try exact rfl
    refine tkH (i:=18) (v:=?_) rfl ?_ hS ?_
    rotate_left 1
    · intro W' hb;go_simp;try exact rfl
    refine tkN (i:=19) rfl hS ?_
    refine tkN (i:=20) rfl hS ?_
    refine tkN (i:=21) rfl hS ?_
    refine tkN (i:=22) rfl hS ?_
    refine tkH (i:=23) (v:=?_) rfl ?_ hS ?_
    rotate_left 1
    · intro W' hb;go_simp;try exact rfl
    refine tkH (i:=24) (v:=?_) rfl ?_ hS ?_
    rotate_left 1
    · intro W' hb;go_simp;try exact rfl
    refine tkN (i:=25) rfl hS ?_
    refine tkN (i:=26) rfl hS ?_
    refine tkN (i:=27) rfl hS ?_
    refine tkN (i:=28) rfl hS ?_
    refine tkH (i:=29) (v:=?_) rfl ?_ hS ?_
    rotate_left 1
    · intro W' hb;go_simp;try exact rfl
    refine tkH (i:=30) (v:=?_) rfl ?_ hS ?_
    rotate_left 1
    · intro W' hb;go_simp;try exact rfl
    refine tkN (i:=31) rfl hS ?_
    refine tkN (i:=32) rfl hS ?_
    refine tkN (i:=33) rfl hS ?_
    refine tkN (i:=34) rfl hS ?_
    refine tkH (i:=35) (v:=?_) rfl ?_ hS ?_
    rotate_left 1
    · intro W' hb;go_simp;try exact rfl
    refine wpAnyH_done (by kernel_rfl) ?_ _
    go_simp
    go_wp2_with fail
    go_meet
    exact⟨by rw [Hok.out];rfl,hS⟩
  have e2:(ho == lo)=true:=Hb2.out
  cases b3
  · skip
    refine wp_region_held (S:=fun W'=>Below W.heap.size W W') (by kernel_rfl) ?_
    change wpAnyH _ _ _ _ _ _ _ _ (World.drew W)
    have hS:Below W.heap.size W W.drew:=(Below.refl _ W).drew
    refine tkH (i:=0) (v:=?_) rfl ?_ hS ?_
    rotate_left 1
    · intro W' hb;go_simp;try exact rfl
    refine tkH (i:=1) (v:=?_) rfl ?_ hS ?_
    rotate_left 1
    · intro W' hb;obtain⟨c0,c1,c2,c3,c4,c5,c6,c7⟩:=Hbx.out.below hb;go_simp;try exact rfl
    refine wpAnyH_all (rs:=[2]) (by kernel_rfl) (by simp) ?_
    intro k hk
    simp only [List.mem_singleton] at hk
    subst hk
    go_simp
    refine wpOp_call rfl (by kernel_rfl) 116 #[str sc] (by go_simp) _ _ (K0.out _) ?_
    intro w2 hb2
    have hS:Below W.heap.size W w2:=hS.trans (hb2.mono hS.size)
    clear hb2
    refine⟨hS,?_⟩
    refine tkH (i:=3) (v:=?_) rfl ?_ hS ?_
    rotate_left 1
    · intro W' hb;go_simp;try exact rfl
    refine tkH (i:=4) (v:=?_) rfl ?_ hS ?_
    rotate_left 1
    · intro W' hb;go_simp;try exact rfl
    refine tkH (i:=5) (v:=?_) rfl ?_ hS ?_
    rotate_left 1
    · intro W' hb;go_simp;try exact rfl
    refine tkH (i:=6) (v:=?_) rfl ?_ hS ?_
    rotate_left 1
    · intro W' hb;obtain⟨c0,c1,c2,c3,c4,c5,c6,c7⟩:=Hbx.out.below hb;go_simp;try exact rfl
    refine wpAnyH_all (rs:=[7]) (by kernel_rfl) (by simp) ?_
    intro k hk
    simp only [List.mem_singleton] at hk
    subst hk
    go_simp
    refine wpOp_call rfl (by kernel_rfl) 156 #[str ho,.string ⟨#[47,63,35]⟩] (by go_simp) _ _ (K1.out _) ?_
    intro w7 hb7
    have hS:Below W.heap.size W w7:=hS.trans (hb7.mono hS.size)
    clear hb7
    refine⟨hS,?_⟩
    refine tkH (i:=8) (v:=?_) rfl ?_ hS ?_
    rotate_left 1
    · intro W' hb;go_simp;try exact rfl
    refine tkH (i:=9) (v:=?_) rfl ?_ hS ?_
    rotate_left 1
    · intro W' hb;go_simp;try exact rfl
    refine tkH (i:=10) (v:=?_) rfl ?_ hS ?_
    rotate_left 1
    · intro W' hb;go_simp;try exact rfl
    refine tkH (i:=11) (v:=?_) rfl ?_ hS ?_
    rotate_left 1
    · intro W' hb;go_simp;try exact rfl
    refine tkH (i:=12) (v:=?_) rfl ?_ hS ?_
    rotate_left 1
    · intro W' hb;obtain⟨c0,c1,c2,c3,c4,c5,c6,c7⟩:=Hbx.out.below hb;go_simp;try exact rfl
    refine tkH (i:=13) (v:=?_) rfl ?_ hS ?_
    rotate_left 1
    · intro W' hb;go_simp;try exact rfl
    refine tkH (i:=14) (v:=?_) rfl ?_ hS ?_
    rotate_left 1
    · intro W' hb;obtain⟨c0,c1,c2,c3,c4,c5,c6,c7⟩:=Hbx.out.below hb;go_simp;try exact rfl
    refine wpAnyH_all (rs:=[15]) (by kernel_rfl) (by simp) ?_
    intro k hk
    simp only [List.mem_singleton] at hk
    subst hk
    go_simp
    refine wpOp_call rfl (by kernel_rfl) 117 #[str ho] (by go_simp) _ _ (K2.out _) ?_
    intro w15 hb15
    have hS:Below W.heap.size W w15:=hS.trans (hb15.mono hS.size)
    clear hb15
    refine⟨hS,?_⟩
    refine tkH (i:=16) (v:=?_) rfl ?_ hS ?_
    rotate_left 1
    · intro W' hb;go_simp;try exact rfl
    refine tkH (i:=17) (v:=?_) rfl ?_ hS ?_
    rotate_left 1
    · intro W' hb;go_simp;try exact rfl
    refine tkH (i:=18) (v:=?_) rfl ?_ hS ?_
    rotate_left 1
    · intro W' hb;go_simp;try exact rfl
    refine tkH (i:=19) (v:=?_) rfl ?_ hS ?_
    rotate_left 1
    · intro W' hb;go_simp;try exact rfl
    refine tkH (i:=20) (v:=?_) rfl ?_ hS ?_
    rotate_left 1
    · intro W' hb;obtain⟨c0,c1,c2,c3,c4,c5,c6,c7⟩:=Hbx.out.below hb;go_simp;try exact rfl
    refine wpAnyH_all (rs:=[21]) (by kernel_rfl) (by simp) ?_
    intro k hk
    simp only [List.mem_singleton] at hk
    subst hk
    go_simp
    refine wpOp_call rfl (by kernel_rfl) 156 #[str pa,.string ⟨#[63,35]⟩] (by go_simp) _ _ (K3.out _) ?_
    intro w21 hb21
    have hS:Below W.heap.size W w21:=hS.trans (hb21.mono hS.size)
    clear hb21
    refine⟨hS,?_⟩
    refine tkH (i:=22) (v:=?_) rfl ?_ hS ?_
    rotate_left 1
    · intro W' hb;go_simp;try exact rfl
    refine tkH (i:=23) (v:=?_) rfl ?_ hS ?_
    rotate_left 1
    · intro W' hb;go_simp;try exact rfl
    refine tkH (i:=24) (v:=?_) rfl ?_ hS ?_
    rotate_left 1
    · intro W' hb;go_simp;try exact rfl
    refine tkN (i:=25) rfl hS ?_
    refine tkN (i:=26) rfl hS ?_
    refine tkN (i:=27) rfl hS ?_
    refine tkN (i:=28) rfl hS ?_
    refine tkH (i:=29) (v:=?_) rfl ?_ hS ?_
    rotate_left 1
    · intro W' hb;go_simp;try exact rfl
    refine tkH (i:=30) (v:=?_) rfl ?_ hS ?_
    rotate_left 1
    · intro W' hb;go_simp;try exact rfl
    refine tkN (i:=31) rfl hS ?_
    refine tkN (i:=32) rfl hS ?_
    refine tkN (i:=33) rfl hS ?_
    refine tkN (i:=34) rfl hS ?_
    refine tkH (i:=35) (v:=?_) rfl ?_ hS ?_
    rotate_left 1
    · intro W' hb;go_simp;try exact rfl
    refine wpAnyH_done (by kernel_rfl) ?_ _
    go_simp
    go_wp2_with fail
    go_meet
    exact⟨by rw [Hok.out];rfl,hS⟩
  cases b4
  · skip
    refine wp_region_held (S:=fun W'=>Below W.heap.size W W') (by kernel_rfl) ?_
    change wpAnyH _ _ _ _ _ _ _ _ (World.drew W)
    have hS:Below W.heap.size W W.drew:=(Below.refl _ W).drew
    refine tkH (i:=0) (v:=?_) rfl ?_ hS ?_
    rotate_left 1
    · intro W' hb;go_simp;try exact rfl
    refine tkH (i:=1) (v:=?_) rfl ?_ hS ?_
    rotate_left 1
    · intro W' hb;obtain⟨c0,c1,c2,c3,c4,c5,c6,c7⟩:=Hbx.out.below hb;go_simp;try exact rfl
    refine wpAnyH_all (rs:=[2]) (by kernel_rfl) (by simp) ?_
    intro k hk
    simp only [List.mem_singleton] at hk
    subst hk
    go_simp
    refine wpOp_call rfl (by kernel_rfl) 116 #[str sc] (by go_simp) _ _ (K0.out _) ?_
    intro w2 hb2
    have hS:Below W.heap.size W w2:=hS.trans (hb2.mono hS.size)
    clear hb2
    refine⟨hS,?_⟩
    refine tkH (i:=3) (v:=?_) rfl ?_ hS ?_
    rotate_left 1
    · intro W' hb;go_simp;try exact rfl
    refine tkH (i:=4) (v:=?_) rfl ?_ hS ?_
    rotate_left 1
    · intro W' hb;go_simp;try exact rfl
    refine tkH (i:=5) (v:=?_) rfl ?_ hS ?_
    rotate_left 1
    · intro W' hb;go_simp;try exact rfl
    refine tkH (i:=6) (v:=?_) rfl ?_ hS ?_
    rotate_left 1
    · intro W' hb;obtain⟨c0,c1,c2,c3,c4,c5,c6,c7⟩:=Hbx.out.below hb;go_simp;try exact rfl
    refine wpAnyH_all (rs:=[7]) (by kernel_rfl) (by simp) ?_
    intro k hk
    simp only [List.mem_singleton] at hk
    subst hk
    go_simp
    refine wpOp_call rfl (by kernel_rfl) 156 #[str ho,.string ⟨#[47,63,35]⟩] (by go_simp) _ _ (K1.out _) ?_
    intro w7 hb7
    have hS:Below W.heap.size W w7:=hS.trans (hb7.mono hS.size)
    clear hb7
    refine⟨hS,?_⟩
    refine tkH (i:=8) (v:=?_) rfl ?_ hS ?_
    rotate_left 1
    · intro W' hb;go_simp;try exact rfl
    refine tkH (i:=9) (v:=?_) rfl ?_ hS ?_
    rotate_left 1
    · intro W' hb;go_simp;try exact rfl
    refine tkH (i:=10) (v:=?_) rfl ?_ hS ?_
    rotate_left 1
    · intro W' hb;go_simp;try exact rfl
    refine tkH (i:=11) (v:=?_) rfl ?_ hS ?_
    rotate_left 1
    · intro W' hb;go_simp;try exact rfl
    refine tkH (i:=12) (v:=?_) rfl ?_ hS ?_
    rotate_left 1
    · intro W' hb;obtain⟨c0,c1,c2,c3,c4,c5,c6,c7⟩:=Hbx.out.below hb;go_simp;try exact rfl
    refine tkH (i:=13) (v:=?_) rfl ?_ hS ?_
    rotate_left 1
    · intro W' hb;go_simp;try exact rfl
    refine tkH (i:=14) (v:=?_) rfl ?_ hS ?_
    rotate_left 1
    · intro W' hb;obtain⟨c0,c1,c2,c3,c4,c5,c6,c7⟩:=Hbx.out.below hb;go_simp;try exact rfl
    refine wpAnyH_all (rs:=[15]) (by kernel_rfl) (by simp) ?_
    intro k hk
    simp only [List.mem_singleton] at hk
    subst hk
    go_simp
    refine wpOp_call rfl (by kernel_rfl) 117 #[str ho] (by go_simp) _ _ (K2.out _) ?_
    intro w15 hb15
    have hS:Below W.heap.size W w15:=hS.trans (hb15.mono hS.size)
    clear hb15
    refine⟨hS,?_⟩
    refine tkH (i:=16) (v:=?_) rfl ?_ hS ?_
    rotate_left 1
    · intro W' hb;go_simp;try exact rfl
    refine tkH (i:=17) (v:=?_) rfl ?_ hS ?_
    rotate_left 1
    · intro W' hb;go_simp;try exact rfl
    refine tkH (i:=18) (v:=?_) rfl ?_ hS ?_
    rotate_left 1
    · intro W' hb;go_simp;try exact rfl
    refine tkH (i:=19) (v:=?_) rfl ?_ hS ?_
    rotate_left 1
    · intro W' hb;go_simp;try exact rfl
    refine tkH (i:=20) (v:=?_) rfl ?_ hS ?_
    rotate_left 1
    · intro W' hb;obtain⟨c0,c1,c2,c3,c4,c5,c6,c7⟩:=Hbx.out.below hb;go_simp;try exact rfl
    refine wpAnyH_all (rs:=[21]) (by kernel_rfl) (by simp) ?_
    intro k hk
    simp only [List.mem_singleton] at hk
    subst hk
    go_simp
    refine wpOp_call rfl (by kernel_rfl) 156 #[str pa,.string ⟨#[63,35]⟩] (by go_simp) _ _ (K3.out _) ?_
    intro w21 hb21
    have hS:Below W.heap.size W w21:=hS.trans (hb21.mono hS.size)
    clear hb21
    refine⟨hS,?_⟩
    refine tkH (i:=22) (v:=?_) rfl ?_ hS ?_
    rotate_left 1
    · intro W' hb;go_simp;try exact rfl
    refine tkH (i:=23) (v:=?_) rfl ?_ hS ?_
    rotate_left 1
    · intro W' hb;go_simp;try exact rfl
    refine tkH (i:=24) (v:=?_) rfl ?_ hS ?_
    rotate_left 1
    · intro W' hb;go_simp;try exact rfl
    refine tkH (i:=25) (v:=?_) rfl ?_ hS ?_
    rotate_left 1
    · intro W' hb;go_simp;try exact rfl
    refine tkH (i:=26) (v:=?_) rfl ?_ hS ?_
    rotate_left 1
    · intro W' hb;obtain⟨c0,c1,c2,c3,c4,c5,c6,c7⟩:=Hbx.out.below hb;go_simp;try exact rfl
    refine wpAnyH_all (rs:=[27]) (by kernel_rfl) (by simp) ?_
    intro k hk
    simp only [List.mem_singleton] at hk
    subst hk
    go_simp
    refine wpOp_call rfl (by kernel_rfl) 156 #[str qu,.string ⟨#[35]⟩] (by go_simp) _ _ (K4.out _) ?_
    intro w27 hb27
    have hS:Below W.heap.size W w27:=hS.trans (hb27.mono hS.size)
    clear hb27
    refine⟨hS,?_⟩
    refine tkH (i:=28) (v:=?_) rfl ?_ hS ?_
    rotate_left 1
    · intro W' hb;go_simp;try exact rfl
    refine tkH (i:=29) (v:=?_) rfl ?_ hS ?_
    rotate_left 1
    · intro W' hb;go_simp;try exact rfl
    refine tkH (i:=30) (v:=?_) rfl ?_ hS ?_
    rotate_left 1
    · intro W' hb;go_simp;try exact rfl
    refine tkN (i:=31) rfl hS ?_
    refine tkN (i:=32) rfl hS ?_
    refine tkN (i:=33) rfl hS ?_
    refine tkN (i:=34) rfl hS ?_
    refine tkH (i:=35) (v:=?_) rfl ?_ hS ?_
    rotate_left 1
    · intro W' hb;go_simp;try exact rfl
    refine wpAnyH_done (by kernel_rfl) ?_ _
    go_simp
    go_wp2_with fail
    go_meet
    exact⟨by rw [Hok.out];rfl,hS⟩
  cases b5
  · skip
    refine wp_region_held (S:=fun W'=>Below W.heap.size W W') (by kernel_rfl) ?_
    change wpAnyH _ _ _ _ _ _ _ _ (World.drew W)
    have hS:Below W.heap.size W W.drew:=(Below.refl _ W).drew
    refine tkH (i:=0) (v:=?_) rfl ?_ hS ?_
    rotate_left 1
    · intro W' hb;go_simp;try exact rfl
    refine tkH (i:=1) (v:=?_) rfl ?_ hS ?_
    rotate_left 1
    · intro W' hb;obtain⟨c0,c1,c2,c3,c4,c5,c6,c7⟩:=Hbx.out.below hb;go_simp;try exact rfl
    refine wpAnyH_all (rs:=[2]) (by kernel_rfl) (by simp) ?_
    intro k hk
    simp only [List.mem_singleton] at hk
    subst hk
    go_simp
    refine wpOp_call rfl (by kernel_rfl) 116 #[str sc] (by go_simp) _ _ (K0.out _) ?_
    intro w2 hb2
    have hS:Below W.heap.size W w2:=hS.trans (hb2.mono hS.size)
    clear hb2
    refine⟨hS,?_⟩
    refine tkH (i:=3) (v:=?_) rfl ?_ hS ?_
    rotate_left 1
    · intro W' hb;go_simp;try exact rfl
    refine tkH (i:=4) (v:=?_) rfl ?_ hS ?_
    rotate_left 1
    · intro W' hb;go_simp;try exact rfl
    refine tkH (i:=5) (v:=?_) rfl ?_ hS ?_
    rotate_left 1
    · intro W' hb;go_simp;try exact rfl
    refine tkH (i:=6) (v:=?_) rfl ?_ hS ?_
    rotate_left 1
    · intro W' hb;obtain⟨c0,c1,c2,c3,c4,c5,c6,c7⟩:=Hbx.out.below hb;go_simp;try exact rfl
    refine wpAnyH_all (rs:=[7]) (by kernel_rfl) (by simp) ?_
    intro k hk
    simp only [List.mem_singleton] at hk
    subst hk
    go_simp
    refine wpOp_call rfl (by kernel_rfl) 156 #[str ho,.string ⟨#[47,63,35]⟩] (by go_simp) _ _ (K1.out _) ?_
    intro w7 hb7
    have hS:Below W.heap.size W w7:=hS.trans (hb7.mono hS.size)
    clear hb7
    refine⟨hS,?_⟩
    refine tkH (i:=8) (v:=?_) rfl ?_ hS ?_
    rotate_left 1
    · intro W' hb;go_simp;try exact rfl
    refine tkH (i:=9) (v:=?_) rfl ?_ hS ?_
    rotate_left 1
    · intro W' hb;go_simp;try exact rfl
    refine tkH (i:=10) (v:=?_) rfl ?_ hS ?_
    rotate_left 1
    · intro W' hb;go_simp;try exact rfl
    refine tkH (i:=11) (v:=?_) rfl ?_ hS ?_
    rotate_left 1
    · intro W' hb;go_simp;try exact rfl
    refine tkH (i:=12) (v:=?_) rfl ?_ hS ?_
    rotate_left 1
    · intro W' hb;obtain⟨c0,c1,c2,c3,c4,c5,c6,c7⟩:=Hbx.out.below hb;go_simp;try exact rfl
    refine tkH (i:=13) (v:=?_) rfl ?_ hS ?_
    rotate_left 1
    · intro W' hb;go_simp;try exact rfl
    refine tkH (i:=14) (v:=?_) rfl ?_ hS ?_
    rotate_left 1
    · intro W' hb;obtain⟨c0,c1,c2,c3,c4,c5,c6,c7⟩:=Hbx.out.below hb;go_simp;try exact rfl
    refine wpAnyH_all (rs:=[15]) (by kernel_rfl) (by simp) ?_
    intro k hk
    simp only [List.mem_singleton] at hk
    subst hk
    go_simp
    refine wpOp_call rfl (by kernel_rfl) 117 #[str ho] (by go_simp) _ _ (K2.out _) ?_
    intro w15 hb15
    have hS:Below W.heap.size W w15:=hS.trans (hb15.mono hS.size)
    clear hb15
    refine⟨hS,?_⟩
    refine tkH (i:=16) (v:=?_) rfl ?_ hS ?_
    rotate_left 1
    · intro W' hb;go_simp;try exact rfl
    refine tkH (i:=17) (v:=?_) rfl ?_ hS ?_
    rotate_left 1
    · intro W' hb;go_simp;try exact rfl
    refine tkH (i:=18) (v:=?_) rfl ?_ hS ?_
    rotate_left 1
    · intro W' hb;go_simp;try exact rfl
    refine tkH (i:=19) (v:=?_) rfl ?_ hS ?_
    rotate_left 1
    · intro W' hb;go_simp;try exact rfl
    refine tkH (i:=20) (v:=?_) rfl ?_ hS ?_
    rotate_left 1
    · intro W' hb;obtain⟨c0,c1,c2,c3,c4,c5,c6,c7⟩:=Hbx.out.below hb;go_simp;try exact rfl
    refine wpAnyH_all (rs:=[21]) (by kernel_rfl) (by simp) ?_
    intro k hk
    simp only [List.mem_singleton] at hk
    subst hk
    go_simp
    refine wpOp_call rfl (by kernel_rfl) 156 #[str pa,.string ⟨#[63,35]⟩] (by go_simp) _ _ (K3.out _) ?_
    intro w21 hb21
    have hS:Below W.heap.size W w21:=hS.trans (hb21.mono hS.size)
    clear hb21
    refine⟨hS,?_⟩
    refine tkH (i:=22) (v:=?_) rfl ?_ hS ?_
    rotate_left 1
    · intro W' hb;go_simp;try exact rfl
    refine tkH (i:=23) (v:=?_) rfl ?_ hS ?_
    rotate_left 1
    · intro W' hb;go_simp;try exact rfl
    refine tkH (i:=24) (v:=?_) rfl ?_ hS ?_
    rotate_left 1
    · intro W' hb;go_simp;try exact rfl
    refine tkH (i:=25) (v:=?_) rfl ?_ hS ?_
    rotate_left 1
    · intro W' hb;go_simp;try exact rfl
    refine tkH (i:=26) (v:=?_) rfl ?_ hS ?_
    rotate_left 1
    · intro W' hb;obtain⟨c0,c1,c2,c3,c4,c5,c6,c7⟩:=Hbx.out.below hb;go_simp;try exact rfl
    refine wpAnyH_all (rs:=[27]) (by kernel_rfl) (by simp) ?_
    intro k hk
    simp only [List.mem_singleton] at hk
    subst hk
    go_simp
    refine wpOp_call rfl (by kernel_rfl) 156 #[str qu,.string ⟨#[35]⟩] (by go_simp) _ _ (K4.out _) ?_
    intro w27 hb27
    have hS:Below W.heap.size W w27:=hS.trans (hb27.mono hS.size)
    clear hb27
    refine⟨hS,?_⟩
    refine tkH (i:=28) (v:=?_) rfl ?_ hS ?_
    rotate_left 1
    · intro W' hb;go_simp;try exact rfl
    refine tkH (i:=29) (v:=?_) rfl ?_ hS ?_
    rotate_left 1
    · intro W' hb;go_simp;try exact rfl
    refine tkH (i:=30) (v:=?_) rfl ?_ hS ?_
    rotate_left 1
    · intro W' hb;go_simp;try exact rfl
    refine tkH (i:=31) (v:=?_) rfl ?_ hS ?_
    rotate_left 1
    · intro W' hb;go_simp;try exact rfl
    refine tkH (i:=32) (v:=?_) rfl ?_ hS ?_
    rotate_left 1
    · intro W' hb;obtain⟨c0,c1,c2,c3,c4,c5,c6,c7⟩:=Hbx.out.below hb;go_simp;try exact rfl
    refine wpAnyH_all (rs:=[33]) (by kernel_rfl) (by simp) ?_
    intro k hk
    simp only [List.mem_singleton] at hk
    subst hk
    go_simp
    refine wpOp_call rfl (by kernel_rfl) 156 #[str fr,.string ⟨#[35]⟩] (by go_simp) _ _ (K5.out _) ?_
    intro w33 hb33
    have hS:Below W.heap.size W w33:=hS.trans (hb33.mono hS.size)
    clear hb33
    refine⟨hS,?_⟩
    refine tkH (i:=34) (v:=?_) rfl ?_ hS ?_
    rotate_left 1
    · intro W' hb;go_simp;try exact rfl
    refine tkH (i:=35) (v:=?_) rfl ?_ hS ?_
    rotate_left 1
    · intro W' hb;go_simp;try exact rfl
    refine wpAnyH_done (by kernel_rfl) ?_ _
    go_simp
    go_wp2_with fail
    go_meet
    exact⟨by rw [Hok.out];rfl,hS⟩
  refine wp_region_held (S:=fun W'=>Below W.heap.size W W') (by kernel_rfl) ?_
  change wpAnyH _ _ _ _ _ _ _ _ (World.drew W)
  have hS:Below W.heap.size W W.drew:=(Below.refl _ W).drew
  refine tkH (i:=0) (v:=?_) rfl ?_ hS ?_
  rotate_left 1
  · intro W' hb;go_simp;try exact rfl
  refine tkH (i:=1) (v:=?_) rfl ?_ hS ?_
  rotate_left 1
  · intro W' hb;obtain⟨c0,c1,c2,c3,c4,c5,c6,c7⟩:=Hbx.out.below hb;go_simp;try exact rfl
  refine wpAnyH_all (rs:=[2]) (by kernel_rfl) (by simp) ?_
  intro k hk
  simp only [List.mem_singleton] at hk
  subst hk
  go_simp
  refine wpOp_call rfl (by kernel_rfl) 116 #[str sc] (by go_simp) _ _ (K0.out _) ?_
  intro w2 hb2
  have hS:Below W.heap.size W w2:=hS.trans (hb2.mono hS.size)
  clear hb2
  refine⟨hS,?_⟩
  refine tkH (i:=3) (v:=?_) rfl ?_ hS ?_
  rotate_left 1
  · intro W' hb;go_simp;try exact rfl
  refine tkH (i:=4) (v:=?_) rfl ?_ hS ?_
  rotate_left 1
  · intro W' hb;go_simp;try exact rfl
  refine tkH (i:=5) (v:=?_) rfl ?_ hS ?_
  rotate_left 1
  · intro W' hb;go_simp;try exact rfl
  refine tkH (i:=6) (v:=?_) rfl ?_ hS ?_
  rotate_left 1
  · intro W' hb;obtain⟨c0,c1,c2,c3,c4,c5,c6,c7⟩:=Hbx.out.below hb;go_simp;try exact rfl
  refine wpAnyH_all (rs:=[7]) (by kernel_rfl) (by simp) ?_
  intro k hk
  simp only [List.mem_singleton] at hk
  subst hk
  go_simp
  refine wpOp_call rfl (by kernel_rfl) 156 #[str ho,.string ⟨#[47,63,35]⟩] (by go_simp) _ _ (K1.out _) ?_
  intro w7 hb7
  have hS:Below W.heap.size W w7:=hS.trans (hb7.mono hS.size)
  clear hb7
  refine⟨hS,?_⟩
  refine tkH (i:=8) (v:=?_) rfl ?_ hS ?_
  rotate_left 1
  · intro W' hb;go_simp;try exact rfl
  refine tkH (i:=9) (v:=?_) rfl ?_ hS ?_
  rotate_left 1
  · intro W' hb;go_simp;try exact rfl
  refine tkH (i:=10) (v:=?_) rfl ?_ hS ?_
  rotate_left 1
  · intro W' hb;go_simp;try exact rfl
  refine tkH (i:=11) (v:=?_) rfl ?_ hS ?_
  rotate_left 1
  · intro W' hb;go_simp;try exact rfl
  refine tkH (i:=12) (v:=?_) rfl ?_ hS ?_
  rotate_left 1
  · intro W' hb;obtain⟨c0,c1,c2,c3,c4,c5,c6,c7⟩:=Hbx.out.below hb;go_simp;try exact rfl
  refine tkH (i:=13) (v:=?_) rfl ?_ hS ?_
  rotate_left 1
  · intro W' hb;go_simp;try exact rfl
  refine tkH (i:=14) (v:=?_) rfl ?_ hS ?_
  rotate_left 1
  · intro W' hb;obtain⟨c0,c1,c2,c3,c4,c5,c6,c7⟩:=Hbx.out.below hb;go_simp;try exact rfl
  refine wpAnyH_all (rs:=[15]) (by kernel_rfl) (by simp) ?_
  intro k hk
  simp only [List.mem_singleton] at hk
  subst hk
  go_simp
  refine wpOp_call rfl (by kernel_rfl) 117 #[str ho] (by go_simp) _ _ (K2.out _) ?_
  intro w15 hb15
  have hS:Below W.heap.size W w15:=hS.trans (hb15.mono hS.size)
  clear hb15
  refine⟨hS,?_⟩
  refine tkH (i:=16) (v:=?_) rfl ?_ hS ?_
  rotate_left 1
  · intro W' hb;go_simp;try exact rfl
  refine tkH (i:=17) (v:=?_) rfl ?_ hS ?_
  rotate_left 1
  · intro W' hb;go_simp;try exact rfl
  refine tkH (i:=18) (v:=?_) rfl ?_ hS ?_
  rotate_left 1
  · intro W' hb;go_simp;try exact rfl
  refine tkH (i:=19) (v:=?_) rfl ?_ hS ?_
  rotate_left 1
  · intro W' hb;go_simp;try exact rfl
  refine tkH (i:=20) (v:=?_) rfl ?_ hS ?_
  rotate_left 1
  · intro W' hb;obtain⟨c0,c1,c2,c3,c4,c5,c6,c7⟩:=Hbx.out.below hb;go_simp;try exact rfl
  refine wpAnyH_all (rs:=[21]) (by kernel_rfl) (by simp) ?_
  intro k hk
  simp only [List.mem_singleton] at hk
  subst hk
  go_simp
  refine wpOp_call rfl (by kernel_rfl) 156 #[str pa,.string ⟨#[63,35]⟩] (by go_simp) _ _ (K3.out _) ?_
  intro w21 hb21
  have hS:Below W.heap.size W w21:=hS.trans (hb21.mono hS.size)
  clear hb21
  refine⟨hS,?_⟩
  refine tkH (i:=22) (v:=?_) rfl ?_ hS ?_
  rotate_left 1
  · intro W' hb;go_simp;try exact rfl
  refine tkH (i:=23) (v:=?_) rfl ?_ hS ?_
  rotate_left 1
  · intro W' hb;go_simp;try exact rfl
  refine tkH (i:=24) (v:=?_) rfl ?_ hS ?_
  rotate_left 1
  · intro W' hb;go_simp;try exact rfl
  refine tkH (i:=25) (v:=?_) rfl ?_ hS ?_
  rotate_left 1
  · intro W' hb;go_simp;try exact rfl
  refine tkH (i:=26) (v:=?_) rfl ?_ hS ?_
  rotate_left 1
  · intro W' hb;obtain⟨c0,c1,c2,c3,c4,c5,c6,c7⟩:=Hbx.out.below hb;go_simp;try exact rfl
  refine wpAnyH_all (rs:=[27]) (by kernel_rfl) (by simp) ?_
  intro k hk
  simp only [List.mem_singleton] at hk
  subst hk
  go_simp
  refine wpOp_call rfl (by kernel_rfl) 156 #[str qu,.string ⟨#[35]⟩] (by go_simp) _ _ (K4.out _) ?_
  intro w27 hb27
  have hS:Below W.heap.size W w27:=hS.trans (hb27.mono hS.size)
  clear hb27
  refine⟨hS,?_⟩
  refine tkH (i:=28) (v:=?_) rfl ?_ hS ?_
  rotate_left 1
  · intro W' hb;go_simp;try exact rfl
  refine tkH (i:=29) (v:=?_) rfl ?_ hS ?_
  rotate_left 1
  · intro W' hb;go_simp;try exact rfl
  refine tkH (i:=30) (v:=?_) rfl ?_ hS ?_
  rotate_left 1
  · intro W' hb;go_simp;try exact rfl
  refine tkH (i:=31) (v:=?_) rfl ?_ hS ?_
  rotate_left 1
  · intro W' hb;go_simp;try exact rfl
  refine tkH (i:=32) (v:=?_) rfl ?_ hS ?_
  rotate_left 1
  · intro W' hb;obtain⟨c0,c1,c2,c3,c4,c5,c6,c7⟩:=Hbx.out.below hb;go_simp;try exact rfl
  refine wpAnyH_all (rs:=[33]) (by kernel_rfl) (by simp) ?_
  intro k hk
  simp only [List.mem_singleton] at hk
  subst hk
  go_simp
  refine wpOp_call rfl (by kernel_rfl) 156 #[str fr,.string ⟨#[35]⟩] (by go_simp) _ _ (K5.out _) ?_
  intro w33 hb33
  have hS:Below W.heap.size W w33:=hS.trans (hb33.mono hS.size)
  clear hb33
  refine⟨hS,?_⟩
  refine tkH (i:=34) (v:=?_) rfl ?_ hS ?_
  rotate_left 1
  · intro W' hb;go_simp;try exact rfl
  refine tkH (i:=35) (v:=?_) rfl ?_ hS ?_
  rotate_left 1
  · intro W' hb;go_simp;try exact rfl
  refine wpAnyH_done (by kernel_rfl) ?_ _
  go_simp
  go_wp2_with fail
  go_meet
  exact⟨by rw [Hok.out];rfl,hS⟩
 case rest =>
  obtain⟨rfl,hS⟩:=hcut
  obtain⟨c0,c1,c2,c3,c4,c5,c6,c7⟩:=Hbx.out.below hS
  have HS:=Lib.hid (HbW.out.trans (hS.mono HbW.out.size))
  have KP:=Lib.hid (fun X:World=>HasPrefix_any pa [47,47] X)
  have KF:=Lib.hid (fun X:World=>first_any pa X (by unfold maxLen;omega))
  have KC:=Lib.hid (fun X:World=>Contains_one (Lib.cut pa [47]).1 58 X)
  have HS0:=Lib.hid hS
  clear hS K0 K1 K2 K3 K4 K5 Hok Hb2 HbW
  cases ok
  · go_wp2_with fail
    go_ret
    exact⟨by rw [HR.out];rfl,HS.out⟩
  · go_upto_region 5 with fail
    go_cut [67] (fun s67 wx=>s67 = .bool (!hh && !(ho == []))∧wx=wc)
    case first =>
     cases hh
     all_goals
      go_wp2_with fail
      go_meet
      exact⟨by simp,rfl⟩
    case rest =>
     obtain⟨rfl,rfl⟩:=hcut
     obtain⟨p1,hp1⟩:∃ p1,p1=(!hh && !(ho == [])):=⟨_,rfl⟩
     rw [← hp1]
     have Hp1:=Lib.hid hp1
     clear hp1
     cases p1
     rotate_left
     · go_wp2_with fail
       go_ret
       exact⟨by rw [HR.out];unfold formA;simp only;rw [← Hp1.out];simp,HS.out⟩
     go_upto_region 6 with fail
     go_cut [67] (fun s67 wx=>s67 = .bool (!hq && !(qu == []))∧wx=wc)
     case first =>
      cases hq
      all_goals
       go_wp2_with fail
       go_meet
       exact⟨by simp,rfl⟩
     case rest =>
      obtain⟨rfl,rfl⟩:=hcut
      obtain⟨p2,hp2⟩:∃ p2,p2=(!hq && !(qu == [])):=⟨_,rfl⟩
      rw [← hp2]
      have Hp2:=Lib.hid hp2
      clear hp2
      cases p2
      rotate_left
      · go_wp2_with fail
        go_ret
        exact⟨by rw [HR.out];unfold formA;simp only;rw [← Hp2.out];simp,HS.out⟩
      go_upto_region 7 with fail
      go_cut [67] (fun s67 wx=>s67 = .bool (!hf && !(fr == []))∧wx=wc)
      case first =>
       cases hf
       all_goals
        go_wp2_with fail
        go_meet
        exact⟨by simp,rfl⟩
      case rest =>
       obtain⟨rfl,rfl⟩:=hcut
       obtain⟨p3,hp3⟩:∃ p3,p3=(!hf && !(fr == [])):=⟨_,rfl⟩
       rw [← hp3]
       have Hp3:=Lib.hid hp3
       clear hp3
       cases p3
       rotate_left
       · go_wp2_with fail
         go_ret
         exact⟨by rw [HR.out];unfold formA;simp only;rw [← Hp3.out];simp,HS.out⟩
       go_upto_region 9 with fail
       go_cut [92] (fun s92 wx=>s92 = .bool (hh && (!(pa == []) && !(nth pa 0 == 47)))∧wx=wc)
       case first =>
        cases hh
        · go_wp2_with fail
          go_meet
          exact⟨by simp,rfl⟩
        · by_cases hpa:pa = []
          · have e1:(pa == [])=true:=by rw [hpa];rfl
            have Hpa:=Lib.hid hpa
            clear hpa
            go_wp2_with fail
            go_meet
            exact⟨by rw [e1];rfl,rfl⟩
          · have e1:(pa == [])=false:=by simpa using hpa
            have e2:0 < pa.length:=List.length_pos_iff.2 hpa
            have Hpa:=Lib.hid hpa
            clear hpa
            by_cases h47:nth pa 0=47
            · have e3:((nth pa 0:Int) != 47)=false:=by simp [h47]
              have H47:=Lib.hid h47
              clear h47
              go_wp2_with fail
              go_meet
              exact⟨by rw [e1];simp [H47.out],rfl⟩
            · have e3:((nth pa 0:Int) != 47)=true:=by simp;omega
              have H47:=Lib.hid h47
              clear h47
              go_wp2_with fail
              go_meet
              exact⟨by rw [e1];simp [H47.out],rfl⟩
       case rest =>
        obtain⟨rfl,rfl⟩:=hcut
        obtain⟨p4,hp4⟩:∃ p4,p4=(hh && (!(pa == []) && !(nth pa 0 == 47))):=⟨_,rfl⟩
        rw [← hp4]
        have Hp4:=Lib.hid hp4
        clear hp4
        cases p4
        rotate_left
        · go_wp2_with fail
          go_ret
          exact⟨by rw [HR.out,r_four _ (formB_host _ Hp4.out)];rfl,HS.out⟩
        go_upto_region 11 with fail
        go_cut [106] (fun s106 wx=>s106 = .bool (!hh && Lib.hasPrefix pa [47,47])∧wx=wc)
        case first =>
         cases hh
         · go_wp2_with fail
           refine(KP.out _).mono ?_
           rintro e w1 ⟨rfl,rfl⟩
           go_wp2_with fail
           go_meet
           exact⟨by simp,rfl⟩
         · go_wp2_with fail
           go_meet
           exact⟨by simp,rfl⟩
        case rest =>
         obtain⟨rfl,rfl⟩:=hcut
         obtain⟨p5,hp5⟩:∃ p5,p5=(!hh && Lib.hasPrefix pa [47,47]):=⟨_,rfl⟩
         rw [← hp5]
         have Hp5:=Lib.hid hp5
         clear hp5
         cases p5
         rotate_left
         · go_wp2_with fail
           go_ret
           exact⟨by rw [HR.out,r_four _ (formB_slash _ Hp5.out)];rfl,HS.out⟩
         go_upto_region 13 with fail
         go_cut [115] (fun s115 wx=>s115 = .bool ((sc == []) && (!hh && decide (0≤Lib.indexByte (Lib.cut pa [47]).1 58)))∧Below wc.heap.size wc wx)
         case first =>
          cases hsc:(sc == [])
          · have Hsc:=Lib.hid hsc
            go_wp2_with fail
            go_meet
            exact⟨by rw [hsc];simp,Below.refl _ _⟩
          · cases hh
            · go_wp2_with fail
              refine(KF.out _).mono ?_
              rintro e w1 ⟨rfl,hb1⟩
              go_wp2_with fail
              refine(KC.out _).mono ?_
              rintro e w2 ⟨rfl,rfl⟩
              go_wp2_with fail
              go_meet
              exact⟨by rw [hsc];simp,hb1⟩
            · go_wp2_with fail
              go_meet
              exact⟨by rw [hsc];simp,Below.refl _ _⟩
         case rest =>
          obtain⟨rfl,hb13⟩:=hcut
          obtain⟨c0,c1,c2,c3,c4,c5,c6,c7⟩:=Hbx.out.below (HS0.out.trans (hb13.mono HS0.out.size))
          have HS2:=Lib.hid (HS.out.trans (hb13.mono HS.out.size))
          clear HS hb13
          obtain⟨p6,hp6⟩:∃ p6,p6=((sc == []) && (!hh && decide (0≤Lib.indexByte (Lib.cut pa [47]).1 58))):=⟨_,rfl⟩
          rw [← hp6]
          have Hp6:=Lib.hid hp6
          clear hp6 KF KC KP Hbx HS0
          cases p6
          rotate_left
          · go_wp2_with fail
            go_ret
            exact⟨by rw [HR.out,r_four _ (formB_colon _ Hp6.out)];rfl,HS2.out⟩
          by_cases hT:120 < tx.length
          · have dT:decide (120 < (tx.length:Int))=true:=decide_eq_true (by omega)
            have HT:=Lib.hid hT
            clear hT
            go_wp2_with fail
            refine(KT.out _).mono ?_
            rintro e w1 ⟨rfl,hb1⟩
            have HS3:=Lib.hid (HS2.out.trans (hb1.mono HS2.out.size))
            clear hb1
            go_wp2_with fail
            go_ret
            exact⟨by rw [HR.out,r_end _ (by unfold formA;simp only;rw [← Hp1.out,← Hp2.out,← Hp3.out];rfl) (formB_none _ Hp4.out Hp5.out Hp6.out),if_pos HT.out];rfl,HS3.out⟩
          · have dT:decide (120 < (tx.length:Int))=false:=decide_eq_false (by omega)
            have HT:=Lib.hid hT
            clear hT
            go_wp2_with fail
            refine(KT.out _).mono ?_
            rintro e w1 ⟨rfl,hb1⟩
            have HS3:=Lib.hid (HS2.out.trans (hb1.mono HS2.out.size))
            clear hb1
            go_wp2_with fail
            go_ret
            exact⟨by rw [HR.out,r_end _ (by unfold formA;simp only;rw [← Hp1.out,← Hp2.out,← Hp3.out];rfl) (formB_none _ Hp4.out Hp5.out Hp6.out),if_neg HT.out];rfl,HS3.out⟩
theorem check_long {u:UrlD} (h:longU u=true):checkU u=2:=by unfold checkU;rw [h];rfl
theorem Check_parts (sc ho pa qu fr:List UInt8) (hh hq hf:Bool) (w:World) :
 Calls Tryz.prog 118 #[.agg #[str sc,.bool hh,str ho,str pa,.bool hq,str qu,.bool hf,str fr]] w fun e w'=>e = .returned (.int .i64 (checkU ⟨sc,hh,ho,pa,hq,qu,hf,fr⟩:Nat))∧Below w.heap.size w w':=by
 obtain⟨W,hW⟩:∃ W,W=w.alloc (.cells #[str sc,.bool hh,str ho,str pa,.bool hq,str qu,.bool hf,str fr] 103):=⟨_,rfl⟩
 have hbW:Below w.heap.size w W:=by rw [hW];exact(Below.refl _ w).alloc (Nat.le_refl _) _
 have hbx:Box8 W w.heap.size (str sc) (.bool hh) (str ho) (str pa) (.bool hq) (str qu) (.bool hf) (str fr):=by rw [hW];exact Box8.new w _ _ _ _ _ _ _ _ _
 have HbW:=Lib.hid hbW
 clear hbW
 obtain⟨c0,c1,c2,c3,c4,c5,c6,c7⟩:=hbx
 by_cases l0:120 < sc.length
 · rw [check_long (by simp [longU,l0])]
   have d0:decide (120 < (sc.length:Int))=true:=decide_eq_true (by omega)
   clear l0
   go_enter Tryz.func118,Tryz.ntmps118
   go_wp2_with fail
   go_ret
   rw [← hW]
   exact⟨rfl,HbW.out⟩
 · by_cases l1:120 < ho.length
   · rw [check_long (by simp [longU,l1])]
     have d0:decide (120 < (sc.length:Int))=false:=decide_eq_false (by omega)
     have d1:decide (120 < (ho.length:Int))=true:=decide_eq_true (by omega)
     clear l0 l1
     go_enter Tryz.func118,Tryz.ntmps118
     go_wp2_with fail
     go_ret
     rw [← hW]
     exact⟨rfl,HbW.out⟩
   · by_cases l2:120 < pa.length
     · rw [check_long (by simp [longU,l2])]
       have d0:decide (120 < (sc.length:Int))=false:=decide_eq_false (by omega)
       have d1:decide (120 < (ho.length:Int))=false:=decide_eq_false (by omega)
       have d2:decide (120 < (pa.length:Int))=true:=decide_eq_true (by omega)
       clear l0 l1 l2
       go_enter Tryz.func118,Tryz.ntmps118
       go_wp2_with fail
       go_ret
       rw [← hW]
       exact⟨rfl,HbW.out⟩
     · by_cases l3:120 < qu.length
       · rw [check_long (by simp [longU,l3])]
         have d0:decide (120 < (sc.length:Int))=false:=decide_eq_false (by omega)
         have d1:decide (120 < (ho.length:Int))=false:=decide_eq_false (by omega)
         have d2:decide (120 < (pa.length:Int))=false:=decide_eq_false (by omega)
         have d3:decide (120 < (qu.length:Int))=true:=decide_eq_true (by omega)
         clear l0 l1 l2 l3
         go_enter Tryz.func118,Tryz.ntmps118
         go_wp2_with fail
         go_ret
         rw [← hW]
         exact⟨rfl,HbW.out⟩
       · by_cases l4:120 < fr.length
         · rw [check_long (by simp [longU,l4])]
           have d0:decide (120 < (sc.length:Int))=false:=decide_eq_false (by omega)
           have d1:decide (120 < (ho.length:Int))=false:=decide_eq_false (by omega)
           have d2:decide (120 < (pa.length:Int))=false:=decide_eq_false (by omega)
           have d3:decide (120 < (qu.length:Int))=false:=decide_eq_false (by omega)
           have d4:decide (120 < (fr.length:Int))=true:=decide_eq_true (by omega)
           clear l0 l1 l2 l3 l4
           go_enter Tryz.func118,Tryz.ntmps118
           go_wp2_with fail
           go_ret
           rw [← hW]
           exact⟨rfl,HbW.out⟩
         · have e:checkU ⟨sc,hh,ho,pa,hq,qu,hf,fr⟩=chkU ⟨sc,hh,ho,pa,hq,qu,hf,fr⟩:=by unfold checkU;rw [if_neg];simp [longU];omega
           rw [e]
           exact Check_short sc ho pa qu fr hh hq hf w (by omega) (by omega) (by omega) (by omega) (by omega)
theorem Check_any (u:UrlD) (w:World):Calls Tryz.prog 118 #[u.val] w fun e w'=>e = .returned (.int .i64 (checkU u:Nat))∧Below w.heap.size w w':=
 Check_parts u.scheme u.host u.path u.query u.frag u.hasHost u.hasQuery u.hasFrag w
theorem check_text {u:UrlD} (h:checkU u=0):u.scheme.length≤120∧u.host.length≤120∧u.path.length≤120∧u.query.length≤120∧u.frag.length≤120:=by
 have:=(check_ok h).1
 unfold longU at this
 simp only [Bool.or_eq_false_iff,decide_eq_false_iff_not] at this
 omega
theorem Print_any (sc ho pa qu fr:List UInt8) (hh hq hf:Bool) (w:World) :
 Calls Tryz.prog 70 #[.agg #[str sc,.bool hh,str ho,str pa,.bool hq,str qu,.bool hf,str fr]] w fun e w'=>e = .returned (.tuple #[str (printU ⟨sc,hh,ho,pa,hq,qu,hf,fr⟩).1,.int .i64 ((printU ⟨sc,hh,ho,pa,hq,qu,hf,fr⟩).2:Nat)])∧Below w.heap.size w w':=by
 obtain⟨W,hW⟩:∃ W,W=w.alloc (.cells #[str sc,.bool hh,str ho,str pa,.bool hq,str qu,.bool hf,str fr] 103):=⟨_,rfl⟩
 have hbW:Below w.heap.size w W:=by rw [hW];exact(Below.refl _ w).alloc (Nat.le_refl _) _
 have hbx:Box8 W w.heap.size (str sc) (.bool hh) (str ho) (str pa) (.bool hq) (str qu) (.bool hf) (str fr):=by rw [hW];exact Box8.new w _ _ _ _ _ _ _ _ _
 have HbW:=Lib.hid hbW
 have Hbx:=Lib.hid hbx
 clear hbW
 obtain⟨c0,c1,c2,c3,c4,c5,c6,c7⟩:=hbx
 have KC:=Lib.hid (fun X=>Check_parts sc ho pa qu fr hh hq hf X)
 by_cases h:checkU ⟨sc,hh,ho,pa,hq,qu,hf,fr⟩=0
 · have hl:=check_text h
   have KT:=Lib.hid (fun X=>textU_any sc ho pa qu fr hh hq hf X (by have:=hl.1;simp only at this;omega) (by have:=hl.2.1;simp only at this;omega) (by have:=hl.2.2.1;simp only at this;omega) (by have:=hl.2.2.2.1;simp only at this;omega) (by have:=hl.2.2.2.2;simp only at this;omega))
   clear hl
   rw [h] at KC
   have hp:printU ⟨sc,hh,ho,pa,hq,qu,hf,fr⟩=(textU ⟨sc,hh,ho,pa,hq,qu,hf,fr⟩,0):=by unfold printU;rw [if_pos h]
   rw [hp]
   generalize textU ⟨sc,hh,ho,pa,hq,qu,hf,fr⟩=tx at KT
   clear hp h
   go_enter Tryz.func70,Tryz.ntmps70
   go_wp2_with fail
   rw [← hW]
   clear hW
   refine(KC.out _).mono ?_
   rintro e w1 ⟨rfl,hb1⟩
   obtain⟨c0,c1,c2,c3,c4,c5,c6,c7⟩:=Hbx.out.below hb1
   have HS:=Lib.hid (HbW.out.trans (hb1.mono HbW.out.size))
   clear hb1
   go_wp2_with fail
   refine(KT.out _).mono ?_
   rintro e w2 ⟨rfl,hb2⟩
   have HS2:=Lib.hid (HS.out.trans (hb2.mono HS.out.size))
   clear hb2
   go_wp2_with fail
   go_ret2
   exact⟨rfl,HS2.out⟩
 · have hp:printU ⟨sc,hh,ho,pa,hq,qu,hf,fr⟩=([],checkU ⟨sc,hh,ho,pa,hq,qu,hf,fr⟩):=by unfold printU;rw [if_neg h]
   rw [hp]
   generalize checkU ⟨sc,hh,ho,pa,hq,qu,hf,fr⟩=k at KC h
   have hk:((k:Int) != 0)=true:=by simp;omega
   clear hp h
   go_enter Tryz.func70,Tryz.ntmps70
   go_wp2_with fail
   rw [← hW]
   clear hW
   refine(KC.out _).mono ?_
   rintro e w1 ⟨rfl,hb1⟩
   have HS:=Lib.hid (HbW.out.trans (hb1.mono HbW.out.size))
   clear hb1
   go_wp2_with fail
   go_ret2
   exact⟨rfl,HS.out⟩
end Go.Proofs.YtlgbopjhmemaoaaGreatDoor
