import Derived.Test.YtlgbopjhmemaoaaGreatDoorU1
import Derived.Lib.AppendZeros
import Derived.Lib.Replace
import Derived.Lib.IndexLaws
import Derived.Lib.IndexBytes
import Derived.Lib.Strings
import Derived.Lib.SmallJoins
import Derived.Lib.IndexMore
import Derived.Lib.LastIndexByte
set_option maxRecDepth 100000
set_option maxHeartbeats 40000000
namespace Go.Proofs.YtlgbopjhmemaoaaGreatDoor
open Go.RowKit
theorem catInfoPart:(Tryz.prog.info? 25).map (fun i=>(i.zero,i.size,i.bytes))=some (some (Value.agg #[.string ⟨#[]⟩,.string ⟨#[]⟩,.string ⟨#[]⟩,.string ⟨#[]⟩,.int .i64 0,.slice none 0 0,.slice none 0 0]),7,120):=by kernel_rfl
theorem upto_Part (w:World) (A:Option Addr) (n c:Nat) (ki:IntKind) (k:Int) (h0:0≤k) (h1:k≤n) (hc:n≤c) :
 (Instr.slice 23 (.slice A n c) none (some (.int ki k)) none).run Tryz.prog w = .ok (.slice (cutA A c 0 7) k.toNat c) w:=
 run_upto w _ _ 7 Tryz.underlying23 (Tryz.sizeOf25 w) A n c ki k h0 h1 hc
attribute [local go_sem high] upto_Part
def GrowResPart (w:World) (e:Ending) (w':World):Prop:=∃ S c,e = .returned (.slice S 0 c)∧w'.ownsRow w.heap.size 25 7 (.slice S 0 c) 0 []∧Below w.heap.size w w'
theorem Grow_Part (k:Nat) (w:World) (hk:k≤1000000000):Calls Tryz.prog 78 #[.slice none 0 0,.int .i64 (k:Nat)] w (GrowResPart w):=by
 obtain⟨i0,hi,hz0,hz1,hz2⟩:=info_parts catInfoPart
 rcases Nat.eq_zero_or_pos k with rfl | h0
 · go_enter Tryz.func78,Tryz.ntmps78
   go_wp2_with fail
   go_ret
   exact⟨none,0,rfl,World.ownsRow_nil _ _ _ _,Below.refl _ _⟩
 · have happ:=fun ty=>Lib.run_append_nil_zeros (P:=Tryz.prog) w 23 3 ty 25 i0 (Value.agg #[.string ⟨#[]⟩,.string ⟨#[]⟩,.string ⟨#[]⟩,.string ⟨#[]⟩,.int .i64 0,.slice none 0 0,.slice none 0 0]) .i64 .i64 Tryz.underlying23 Tryz.underlying3 hi hz0 k h0 (by omega) (by omega) (by rw [hz2];omega)
   have hcapge:=grownCap_ge w k 0 25
   have hcaple:=grownCap_le_maxLen w k 0 25 (by unfold maxLen;omega)
   generalize grownCap w k 0 25=cap at happ hcapge hcaple
   generalize hZ:(Builtin.zeroCells (Value.agg #[.string ⟨#[]⟩,.string ⟨#[]⟩,.string ⟨#[]⟩,.string ⟨#[]⟩,.int .i64 0,.slice none 0 0,.slice none 0 0]).cells k ++ Builtin.zeroCells (Value.agg #[.string ⟨#[]⟩,.string ⟨#[]⟩,.string ⟨#[]⟩,.string ⟨#[]⟩,.int .i64 0,.slice none 0 0,.slice none 0 0]).cells (cap - k))=Z at happ
   have hZs:Hid (Z.size=cap * 7):=by show _=_;rw [← hZ];simp [size_zeroCells,Value.cells];omega
   have Hcl:=Lib.hid hcaple
   clear hZ hcaple
   go_enter Tryz.func78,Tryz.ntmps78
   go_wp2_with (at_builtin;refine Lib.wpList_append_run _ rfl _ _ _ _ rfl _ _ rfl rfl _ _ (happ _) ?_)
   go_ret
   refine⟨some ⟨w.heap.size,0,none⟩,cap,?_,⟨rfl,.inr ⟨w.heap.size,cap,Z,rfl,Nat.le_refl _,heap_alloc_new w.drew _,Nat.zero_le _,Hcl.out,hZs.out,by simp⟩⟩,((Below.refl _ w).drew).alloc (Nat.le_refl _) _⟩
   simp [cutA,Addr.add]
def CatRel1Part (n1 n2:Nat) (w0:World) (sv iv:Value) (wr:World):Prop:=
 ((iv = .int .i64 0∧sv = .int .i64 0)∨(iv = .int .i64 1∧sv = .int .i64 (n1:Nat))∨(iv = .int .i64 2∧sv = .int .i64 ((n1+n2:Nat):Int)))∧wr=w0
def CatRel2Part (n1 n2:Nat) (xs ys:List Value) (w0:World) (nv iv:Value) (wr:World):Prop:=
 ∃ S m c zs,nv = .slice S m c∧wr.ownsRow w0.heap.size 25 7 (.slice S m c) m zs∧Below w0.heap.size w0 wr ∧
  ((iv = .int .i64 0∧m=0∧zs = [])∨(iv = .int .i64 1∧m=n1∧zs=xs)∨(iv = .int .i64 2∧m=n1+n2∧zs=xs ++ ys))
def CatResPart (xs:List Value) (n:Nat) (w:World) (e:Ending) (w':World):Prop:=∃ S c,e = .returned (.slice S n c)∧w'.ownsRow w.heap.size 25 7 (.slice S n c) n xs∧Below w.heap.size w w'
theorem Concat_Part (A A1 A2:Option Addr) (c n1 c1 n2 c2:Nat) (xs ys:List Value) (w:World) (hA:Sl w w.heap.size 1 A 2 [.slice A1 n1 c1,.slice A2 n2 c2]) (hx:Sl w w.heap.size 7 A1 n1 xs) (hy:Sl w w.heap.size 7 A2 n2 ys)
 (h1x:∀ u∈xs,u.oneCell'=true) (h1y:∀ u∈ys,u.oneCell'=true) (hn:n1+n2≤1000000000) :
 Calls Tryz.prog 42 #[.slice A 2 c] w (CatResPart (xs ++ ys) (n1+n2) w):=by
 obtain⟨i0,hi,hz0,hz1,hz2⟩:=info_parts catInfoPart
 obtain⟨b,off,rfl,hbl,hc⟩:=hA.2 (by omega)
 have x0:w.cell? ⟨b,off,none⟩=some (.slice A1 n1 c1):=hc 0 _ rfl
 have x1:w.cell? ⟨b,off+1,none⟩=some (.slice A2 n2 c2):=hc 1 _ rfl
 have H1x:=Lib.hid h1x
 have H1y:=Lib.hid h1y
 clear hc hA h1x h1y
 go_enter Tryz.func42,Tryz.ntmps42
 go_wp2_with fail
 go_loopw [3,11] (CatRel1Part n1 n2 w) (fun _ iv _=>2 - (intOf iv).toNat)
 case atStart=>exact⟨.inl ⟨rfl,rfl⟩,rfl⟩
 case round =>
  obtain⟨h,rfl⟩:=hrel
  rcases h with ⟨rfl,rfl⟩ | ⟨rfl,rfl⟩ | ⟨rfl,rfl⟩
  · go_wp2_with fail
    exact⟨⟨.inr (.inl ⟨rfl,by go_num⟩),rfl⟩,by simp [intOf]⟩
  · go_wp2_with fail
    exact⟨⟨.inr (.inr ⟨rfl,by go_num⟩),rfl⟩,by simp [intOf]⟩
  · obtain⟨w,rfl⟩:∃ x:World,x=wr:=⟨_,rfl⟩
    go_wp2_with fail
    refine(Grow_Part (n1+n2) _ hn).mono ?_
    rintro e w1 ⟨S,cs,rfl,hown,hb1⟩
    have y0:=(hb1.cell (p:=⟨b,off,none⟩) hbl).trans x0
    have y1:=(hb1.cell (p:=⟨b,off+1,none⟩) hbl).trans x1
    clear x0 x1
    go_wp2_with fail
    go_loopw [6,27] (CatRel2Part n1 n2 xs ys w) (fun _ iv _=>2 - (intOf iv).toNat)
    case atStart=>exact⟨S,0,cs,[],rfl,hown,hb1,.inl ⟨rfl,rfl,rfl⟩⟩
    case round =>
     clear hown
     obtain⟨S,m,cs,zs,rfl,hown,hbel,h⟩:=hrel
     have z0:=(hbel.cell (p:=⟨b,off,none⟩) hbl).trans ((hb1.cell (p:=⟨b,off,none⟩) hbl).symm.trans y0)
     have z1:=(hbel.cell (p:=⟨b,off+1,none⟩) hbl).trans ((hb1.cell (p:=⟨b,off+1,none⟩) hbl).symm.trans y1)
     clear y0 y1 hb1
     rcases h with ⟨rfl,rfl,rfl⟩ | ⟨rfl,rfl,rfl⟩ | ⟨rfl,rfl,rfl⟩
     · have hxr:=hx.below hbel
       have h63:0+n1≤maxLen:=by unfold maxLen;omega
       have h47:(0+n1) * 120≤140737488355328:=by omega
       go_wp2_with (at_builtin;refine wpList_app rfl _ _ 23 rfl w.heap.size 25 i0 (Value.agg #[.string ⟨#[]⟩,.string ⟨#[]⟩,.string ⟨#[]⟩,.string ⟨#[]⟩,.int .i64 0,.slice none 0 0,.slice none 0 0]) 7 120 Tryz.underlying23 hi hz0 hz1 hz2 rfl (by decide) S 0 cs [] rfl hown _ _ n1 c1 xs rfl hxr H1x.out h63 h47 hbel.size ?_)
       intro S' c' w4 hown4 hb4 _
       try simp only [Nat.zero_add,List.nil_append] at hown4
       go_wp2_with fail
       exact⟨⟨S',n1,c',xs,by simp,hown4,hbel.trans hb4,.inr (.inl ⟨rfl,rfl,rfl⟩)⟩,by simp [intOf]⟩
     · have hyr:=hy.below hbel
       have h63:m+n2≤maxLen:=by unfold maxLen;omega
       have h47:(m+n2) * 120≤140737488355328:=by omega
       go_wp2_with (at_builtin;refine wpList_app rfl _ _ 23 rfl w.heap.size 25 i0 (Value.agg #[.string ⟨#[]⟩,.string ⟨#[]⟩,.string ⟨#[]⟩,.string ⟨#[]⟩,.int .i64 0,.slice none 0 0,.slice none 0 0]) 7 120 Tryz.underlying23 hi hz0 hz1 hz2 rfl (by decide) S m cs zs rfl hown _ _ n2 c2 ys rfl hyr H1y.out h63 h47 hbel.size ?_)
       intro S' c' w4 hown4 hb4 _
       go_wp2_with fail
       exact⟨⟨S',m+n2,c',zs ++ ys,rfl,hown4,hbel.trans hb4,.inr (.inr ⟨rfl,rfl,rfl⟩)⟩,by simp [intOf]⟩
     · go_wp2_with fail
       go_ret
       exact⟨S,cs,rfl,hown,hbel⟩
end Go.Proofs.YtlgbopjhmemaoaaGreatDoor
namespace Go.Proofs.YtlgbopjhmemaoaaGreatDoor
open Go.RowKit
theorem check_at {S:Nat→Prop} {W:World} (p:PartD) (v:List Value) (h:PartAt S W p v) (w:World) :
 Calls Tryz.prog 61 #[.agg v.toArray] w fun e w'=>e = .returned (.int .i64 (chkD p:Nat))∧Below w.heap.size w w':=by
 obtain⟨A,c,A2,c2,rfl,⟨h1,h2,h3,h4,h5,h6⟩,_,h7,h8,_,h9,h10⟩:=h.open
 exact check_raw p.type p.cs p.id p.loc p.how A A2 _ c _ c2 w h1 h2 h3 h4 h5 h6 (Nat.le_trans h7 h8) (Nat.le_trans h9 h10)
/-- A slice of parts in new memory, that lead into blocks below B. -/
def AllRes (B:Nat) (ps:List PartD) (w:World) (e:Ending) (w':World):Prop:=
 ∃ S c rows,e = .returned (.slice S ps.length c)∧w'.ownsRow w.heap.size 25 7 (.slice S ps.length c) ps.length rows.flatten∧PartsAt (· < B) w' ps rows∧Below w.heap.size w w'
def AllRel (B:Nat) (parts all:List PartD) (n2:Nat) (w0:World) (lv iv:Value) (wr:World):Prop:=
 ∃ i m c S done rows,lv = .slice S m c∧iv = .int .i64 (i:Nat)∧i≤n2∧wr.ownsRow w0.heap.size 25 7 (.slice S m c) m rows.flatten∧PartsAt (· < B) wr done rows ∧
  Hid (done ++ flatsD (parts.drop i)=all∧done.length=m)∧1≤m∧Below w0.heap.size w0 wr
theorem all_any (k:Nat):∀ (p:PartD) (v:List Value) (B:Nat) (w:World),(flatD p).length≤k→k≤1000→B≤w.heap.size→PartAt (· < B) w p v →
 Calls Tryz.prog 28 #[.agg v.toArray] w (AllRes B (flatD p) w):=by
 obtain⟨i0,hi0,hz0,hz1,hz2⟩:=info_parts catInfoPart
 induction k with
 | zero=>intro p v B w h;rw [flatD_eq] at h;simp at h
 | succ k ih =>
  intro p v B w hk hk1 hB hp
  obtain⟨A,c,A2,c2,rfl,_,_,_,_,hP,hc2,hcm⟩:=hp.open
  have hall:=flatD_eq p
  have hrow:PartsAt (· < B) w [p] [[str p.type,str p.cs,str p.id,str p.loc,.int .i64 p.how,.slice A p.body.length c,.slice A2 p.parts.length c2]]:=⟨_,_,rfl,hp,rfl⟩
  obtain⟨n2,hn2⟩:∃ n2,n2=p.parts.length:=⟨_,rfl⟩
  rw [← hn2] at hP hrow hc2 ⊢
  obtain⟨L,hL⟩:∃ L,L=flatD p:=⟨_,rfl⟩
  rw [← hL] at hall hk ⊢
  have hn2m:n2≤9223372036854775807:=by unfold maxLen at hcm;omega
  have Hall:=Lib.hid hall
  have Hn2:=Lib.hid hn2
  have Hih:=Lib.hid ih
  have hk1000:L.length≤1000:=by omega
  have Hk:=Lib.hid hk
  clear hall hL hn2 ih hk hcm hp
  go_enter Tryz.func28,Tryz.ntmps28
  go_wp2_with fail
  go_loopw [3,11] (AllRel B p.parts L n2 w) (fun _ iv _=>n2 - (intOf iv).toNat)
  case atStart =>
   have hbn:Below w.heap.size w ((w.alloc (.cells #[str p.type,str p.cs,str p.id,str p.loc,.int .i64 p.how,.slice A p.body.length c,.slice A2 n2 c2] 25)).alloc (.cells #[str p.type,str p.cs,str p.id,str p.loc,.int .i64 p.how,.slice A p.body.length c,.slice A2 n2 c2] 25)):=((Below.refl _ w).alloc (Nat.le_refl _) _).alloc (by simp) _
   refine⟨0,1,1,some ⟨w.heap.size+1,0,none⟩,[p],_,rfl,rfl,Nat.zero_le _,?_,PartsAt.change (fun _ h=>h) (fun a ha=>hbn.cell (Nat.lt_of_lt_of_le ha hB)) _ _ hrow,⟨Hall.out.symm,rfl⟩,Nat.le_refl _,hbn⟩
   exact⟨rfl,.inr ⟨w.heap.size+1,1,_,rfl,Nat.le_succ _,by have:=heap_alloc_new (w.alloc (.cells #[str p.type,str p.cs,str p.id,str p.loc,.int .i64 p.how,.slice A p.body.length c,.slice A2 n2 c2] 25)) (.cells #[str p.type,str p.cs,str p.id,str p.loc,.int .i64 p.how,.slice A p.body.length c,.slice A2 n2 c2] 25);simpa using this,Nat.le_refl _,by unfold maxLen;omega,rfl,rfl⟩⟩
  case round =>
   obtain⟨i,m,cl,S,done,rows,rfl,rfl,hi,hown,hrows,hE,hm1,hbel⟩:=hrel
   by_cases hin:i < n2
   · have hPr:=hP.belowN hbel hB
     obtain⟨b,off,q,A',n',c',A2',n2',c2',rfl,hbS,hq,hqa,x0,x1,x2,x3,x4,x5,x6⟩:=hPr.cells7 hin
     have hE1:=hE.out.1
     rw [hq,flatsD] at hE1
     have hlq:(flatD q).length≤k∧m+(flatD q).length≤1000:=by
      have h1:=congrArg List.length hE1
      have h2:=Hk.out
      have h3:=hE.out.2
      simp only [List.length_append] at h1
      omega
     obtain⟨W,hW⟩:∃ W,W=wr.alloc (.cells #[str q.type,str q.cs,str q.id,str q.loc,.int .i64 q.how,.slice A' n' c',.slice A2' n2' c2'] 25):=⟨_,rfl⟩
     have hbW:Below wr.heap.size wr W:=by rw [hW];exact(Below.refl _ wr).alloc (Nat.le_refl _) _
     have hbelW:=hbel.trans (hbW.mono hbel.size)
     have hqa2:PartAt (· < B) W q [str q.type,str q.cs,str q.id,str q.loc,.int .i64 q.how,.slice A' n' c',.slice A2' n2' c2']:=hqa.belowN hbW (Nat.le_trans hB hbel.size)
     have hcl:=Hih.out q _ B W hlq.1 (by omega) (Nat.le_trans hB hbelW.size) hqa2
     have hownW:=own_below hown hbW
     have hrowsW:=PartsAt.change (fun _ h=>h) (fun a ha=>hbW.cell (Nat.lt_of_lt_of_le ha (Nat.le_trans hB hbel.size))) _ _ hrows
     have hE2:Hid ((done ++ flatD q) ++ flatsD (p.parts.drop (i+1))=L∧(done ++ flatD q).length=m+(flatD q).length):=⟨by rw [List.append_assoc];exact hE1,by rw [List.length_append,hE.out.2]⟩
     generalize flatD q=F at hcl hE2 hlq
     have Hcl:=Lib.hid hcl
     clear hE hE1 hq hqa hqa2 hcl hPr hown hrows hbW hbel
     go_wp2_with fail
     rw [← hW]
     clear hW x0 x1 x2 x3 x4 x5 x6
     refine Hcl.out.mono ?_
     rintro e w1 ⟨S2,c2,rows2,rfl,hown2,hrows2,hb1⟩
     have hown1:=own_below hownW hb1
     have hrows1:=PartsAt.change (fun _ h=>h) (fun a ha=>hb1.cell (Nat.lt_of_lt_of_le ha (Nat.le_trans hB hbelW.size))) _ _ hrowsW
     have hbel1:=hbelW.trans (hb1.mono hbelW.size)
     have hone:=PartsAt.one _ _ hrows2
     have hsl:=Sl.of_own hown2
     have h63:m+F.length≤maxLen:=by unfold maxLen;omega
     have h47:(m+F.length) * 120≤140737488355328:=by omega
     clear hownW hrowsW hown2 hb1 hbelW Hcl
     go_wp2_with (at_builtin;refine wpList_app rfl _ _ 23 rfl w.heap.size 25 i0 (Value.agg #[.string ⟨#[]⟩,.string ⟨#[]⟩,.string ⟨#[]⟩,.string ⟨#[]⟩,.int .i64 0,.slice none 0 0,.slice none 0 0]) 7 120 Tryz.underlying23 hi0 hz0 hz1 hz2 rfl (by decide) S m cl rows.flatten rfl hown1 _ S2 F.length c2 rows2.flatten rfl hsl hone h63 h47 hbel1.size ?_)
     intro S' c' w4 hown4 hb4 _
     have hbel4:=hbel1.trans hb4
     have hr1:=PartsAt.change (fun _ h=>h) (fun a ha=>hb4.cell (Nat.lt_of_lt_of_le ha hB)) _ _ hrows1
     have hr2:=PartsAt.change (fun _ h=>h) (fun a ha=>hb4.cell (Nat.lt_of_lt_of_le ha hB)) _ _ hrows2
     clear hrows1 hrows2
     go_wp2_with fail
     exact⟨⟨i+1,m+F.length,c',S',done ++ F,rows ++ rows2,rfl,by go_num,by omega,by rw [List.flatten_append];exact hown4,PartsAt.app _ _ _ _ hr1 hr2,hE2,by omega,hbel4⟩,by simp [intOf];omega⟩
   · have hE1:Hid (done=L∧L.length=m):=by
      have h1:=hE.out.1
      rw [List.drop_of_length_le (by rw [hP.len];omega),flatsD,List.append_nil] at h1
      exact⟨h1,by rw [← h1];exact hE.out.2⟩
     clear hE
     go_wp2_with fail
     go_ret
     obtain⟨rfl,rfl⟩:=hE1.out
     exact⟨S,cl,rows,rfl,hown,hrows,hbel⟩
theorem AllRes.slp {B:Nat} {ps:List PartD} {w w':World} {S:Option Addr} {c:Nat} {rows:List (List Value)} (hown:w'.ownsRow w.heap.size 25 7 (.slice S ps.length c) ps.length rows.flatten) (hr:PartsAt (· < B) w' ps rows) (hB:B≤w'.heap.size) :
 SlP (· < w'.heap.size) w' S ps.length ps:=⟨rows,Sl.of_own hown,PartsAt.change (fun _ h=>Nat.lt_of_lt_of_le h hB) (fun _ _=>rfl) _ _ hr⟩
def ChkRel (L:List PartD) (R:Nat) (_w0 w1:World) (iv:Value) (wr:World):Prop:=
 ∃ i:Nat,iv = .int .i64 (i:Nat)∧i≤L.length∧Hid (firstErr (L.drop i)=R)∧Below w1.heap.size w1 wr
theorem PCheck_any (p:PartD) (v:List Value) (w:World) (hp:PartAt (· < w.heap.size) w p v) :
 Calls Tryz.prog 27 #[.agg v.toArray] w fun e w'=>e = .returned (.int .i64 (checkD p:Nat))∧Below w.heap.size w w':=by
 have hfl:=fun c=>cntD_flat 3 p c
 have hcle:=fun c=>cntD_le 3 p c
 have hck1:=checkD_none p
 have hck2:=fun c=>checkD_some p c
 obtain⟨A,c,A2,c2,rfl,_⟩:=hp.open
 obtain⟨W,hW⟩:∃ W,W=w.alloc (.cells #[str p.type,str p.cs,str p.id,str p.loc,.int .i64 p.how,.slice A p.body.length c,.slice A2 p.parts.length c2] 25):=⟨_,rfl⟩
 have hbW:Below w.heap.size w W:=by rw [hW];exact(Below.refl _ w).alloc (Nat.le_refl _) _
 have hbx:Box7 W w.heap.size (str p.type) (str p.cs) (str p.id) (str p.loc) (.int .i64 p.how) (.slice A p.body.length c) (.slice A2 p.parts.length c2):=by rw [hW];exact Box7.new w _ _ _ _ _ _ _ _
 have hpW:=hp.below hbW
 have hct:=count_any 3 p _ 1 W (by omega) (by omega) (hpW.more hbW.size)
 obtain⟨n2,hn2⟩:∃ n2,n2=p.parts.length:=⟨_,rfl⟩
 obtain⟨n1,hn1⟩:∃ n1,n1=p.body.length:=⟨_,rfl⟩
 have Hp:=Lib.hid hp
 have HpW:=Lib.hid hpW
 have HW:=Lib.hid hW
 generalize checkD p=R at hck1 hck2 ⊢
 generalize cntD 3 p=o at hct hfl hcle hck1 hck2
 cases o with
 | none =>
  obtain rfl:R=2:=hck1 rfl
  simp only [cntVal] at hct
  clear hck1 hck2 hfl hcle hp hpW hn1 hn2
  go_enter Tryz.func27,Tryz.ntmps27
  go_wp2_with fail
  rw [← hW]
  clear hW
  refine hct.mono ?_
  clear hct
  rintro e w1 ⟨rfl,hb1⟩
  go_wp2_with fail
  go_ret
  exact⟨rfl,hbW.trans (hb1.mono hbW.size)⟩
 | some c0 =>
  have h1:=hck2 c0 rfl
  have h2:=hfl c0 rfl
  have h3:=hcle c0 rfl
  obtain⟨h31,h32⟩:=h3
  simp only [cntVal] at hct
  obtain⟨L,hL⟩:∃ L,L=flatD p:=⟨_,rfl⟩
  rw [← hL] at h1 h2
  have HR:=Lib.hid h1
  have HL:=Lib.hid hL
  have HLc:=Lib.hid h2
  have hlen:L.length≤12:=by omega
  have Hct:=Lib.hid hct
  clear hck1 hck2 hfl hcle hp hpW hn1 hn2 h1 h2 hL hct
  go_enter Tryz.func27,Tryz.ntmps27
  go_wp2_with fail
  rw [← hW]
  clear hW
  refine Hct.out.mono ?_
  clear Hct
  rintro e w1 ⟨rfl,hb1⟩
  have hbx1:=hbx.below hb1
  have hbel1:=hbW.trans (hb1.mono hbW.size)
  have hp1:=Hp.out.below hbel1
  have hal:=all_any 12 p _ w.heap.size w1 (by rw [← HL.out];exact hlen) (by omega) hbel1.size hp1
  rw [← HL.out] at hal
  have Hal:=Lib.hid hal
  have⟨x0,x1,x2,x3,x4,x5,x6⟩:=hbx1
  clear hbx hbx1 hp1 hal hb1 hbW
  go_wp2_with fail
  refine Hal.out.mono ?_
  clear Hal x0 x1 x2 x3 x4 x5 x6
  rintro e w2 ⟨S,c3,rows,rfl,hown,hrows,hb2⟩
  have hbel2:=hbel1.trans (hb2.mono hbel1.size)
  have hP:=AllRes.slp hown hrows hbel2.size
  clear hown hrows
  go_wp2_with fail
  go_loopw [18] (ChkRel L R w w2) (fun iv _=>L.length - (intOf iv).toNat)
  case atStart=>exact⟨0,rfl,Nat.zero_le _,HR.out.symm,Below.refl _ _⟩
  case round =>
   obtain⟨i,rfl,hi,hE,hbel⟩:=hrel
   by_cases hin:i < L.length
   · have hPr:=hP.below hbel
     obtain⟨b,off,q,A',n',c',A2',n2',c2',rfl,hbS,hq,hqa,x0,x1,x2,x3,x4,x5,x6⟩:=hPr.cells7 hin
     have hck:=fun W=>check_at q _ hqa W
     have hE2:Hid (R=if chkD q=0 then firstErr (L.drop (i+1)) else chkD q):=by show R=_;rw [← hE.out,hq,firstErr]
     generalize chkD q=e at hck hE2
     have Hck:=Lib.hid hck
     have hbA:=hbel.alloc hbel.size (.cells #[str q.type,str q.cs,str q.id,str q.loc,.int .i64 q.how,.slice A' n' c',.slice A2' n2' c2'] 25)
     clear hck hqa hq hPr hE
     go_wp2_with fail
     refine(Hck.out _).mono ?_
     rintro e1 w3 ⟨rfl,hb3⟩
     have hbel3:=hbA.trans (hb3.mono hbA.size)
     clear Hck x0 x1 x2 x3 x4 x5 x6 hbA hb3
     by_cases he:e=0
     · subst he
       have hE3:Hid (firstErr (L.drop (i+1))=R):=by have:=hE2.out;rw [if_pos rfl] at this;exact this.symm
       clear hE2
       go_wp2_with fail
       exact⟨⟨i+1,by go_num,by omega,hE3,hbel3⟩,by simp [intOf];omega⟩
     · obtain rfl:R=e:=by have:=hE2.out;rw [if_neg he] at this;exact this
       have he1:((R:Int) != 0)=true:=by simp;omega
       clear hE2 he
       go_wp2_with fail
       go_ret
       exact⟨rfl,hbel2.trans (hbel3.mono hbel2.size)⟩
   · obtain rfl:0=R:=by rw [← hE.out,List.drop_of_length_le (by omega)];rfl
     clear hE
     go_wp2_with fail
     go_ret
     exact⟨rfl,hbel2.trans (hbel.mono hbel2.size)⟩
/-- Seven cells of one block, none of them frozen. -/
def BoxF (w:World) (b:Nat) (v0 v1 v2 v3 v4 v5 v6:Value):Prop:=Box7 w b v0 v1 v2 v3 v4 v5 v6∧∀ k,w.frozen? ⟨b,k,none⟩=false
section
variable {w w':World} {b:Nat} {v0 v1 v2 v3 v4 v5 v6:Value}
/-- Seven cells of a row, behind place o. -/
def Row7 (w:World) (b o:Nat) (v0 v1 v2 v3 v4 v5 v6:Value):Prop:=
 w.cell? ⟨b,o,none⟩=some v0∧w.cell? ⟨b,o+1,none⟩=some v1∧w.cell? ⟨b,o+2,none⟩=some v2∧w.cell? ⟨b,o+3,none⟩=some v3∧w.cell? ⟨b,o+4,none⟩=some v4∧w.cell? ⟨b,o+5,none⟩=some v5∧w.cell? ⟨b,o+6,none⟩=some v6
theorem Row7.below {o:Nat} (h:Row7 w b o v0 v1 v2 v3 v4 v5 v6) {C:Nat} (hb:Below C w w') (hC:b < C):Row7 w' b o v0 v1 v2 v3 v4 v5 v6:=by
 obtain⟨h0,h1,h2,h3,h4,h5,h6⟩:=h
 exact⟨(hb.cell (p:=⟨b,_,none⟩) hC).trans h0,(hb.cell (p:=⟨b,_,none⟩) hC).trans h1,(hb.cell (p:=⟨b,_,none⟩) hC).trans h2,(hb.cell (p:=⟨b,_,none⟩) hC).trans h3,(hb.cell (p:=⟨b,_,none⟩) hC).trans h4,(hb.cell (p:=⟨b,_,none⟩) hC).trans h5,(hb.cell (p:=⟨b,_,none⟩) hC).trans h6⟩
theorem BoxF.below (h:BoxF w b v0 v1 v2 v3 v4 v5 v6) {C:Nat} (hb:Below C w w') (hC:b < C):BoxF w' b v0 v1 v2 v3 v4 v5 v6:=by
 obtain⟨⟨h0,h1,h2,h3,h4,h5,h6⟩,hf⟩:=h
 exact⟨⟨(hb.cell (p:=⟨b,0,none⟩) hC).trans h0,(hb.cell (p:=⟨b,1,none⟩) hC).trans h1,(hb.cell (p:=⟨b,2,none⟩) hC).trans h2,(hb.cell (p:=⟨b,3,none⟩) hC).trans h3,(hb.cell (p:=⟨b,4,none⟩) hC).trans h4,(hb.cell (p:=⟨b,5,none⟩) hC).trans h5,(hb.cell (p:=⟨b,6,none⟩) hC).trans h6⟩,fun k=>(hb.frozen (p:=⟨b,k,none⟩) hC).trans (hf k)⟩
theorem BoxF.of_block {t:TypeId} (h:w.heap[b]? = some (.cells #[v0,v1,v2,v3,v4,v5,v6] t)):BoxF w b v0 v1 v2 v3 v4 v5 v6:=by
 refine⟨⟨?_,?_,?_,?_,?_,?_,?_⟩,fun k=>Lib.frozen_of_heap h k⟩ <;> (unfold World.cell?;rw [h];rfl)
theorem BoxF.set56 (h:BoxF w b v0 v1 v2 v3 v4 v5 v6) (u5 u6:Value):BoxF ((w.setCell ⟨b,5,none⟩ u5).setCell ⟨b,6,none⟩ u6) b v0 v1 v2 v3 v4 u5 u6:=by
 obtain⟨⟨h0,h1,h2,h3,h4,h5,h6⟩,hf⟩:=h
 have far:∀ k v,k≠5→k≠6→w.cell? ⟨b,k,none⟩=some v→((w.setCell ⟨b,5,none⟩ u5).setCell ⟨b,6,none⟩ u6).cell? ⟨b,k,none⟩=some v:=fun k v h5 h6 h=>by
  rw [World.cell?_setCell_other _ _ _ _ (by simp <;> omega),World.cell?_setCell_other _ _ _ _ (by simp <;> omega)];exact h
 refine⟨⟨far 0 _ (by omega) (by omega) h0,far 1 _ (by omega) (by omega) h1,far 2 _ (by omega) (by omega) h2,far 3 _ (by omega) (by omega) h3,far 4 _ (by omega) (by omega) h4,?_,?_⟩,fun k=>by simpa using hf k⟩
 · rw [World.cell?_setCell_other _ _ _ _ (by simp)];exact World.cell?_setCell_same _ _ _ h5
 · refine World.cell?_setCell_same _ _ _ (u:=v6) ?_
   rw [World.cell?_setCell_other _ _ _ _ (by simp)];exact h6
theorem BoxF.set7 (h:BoxF w b v0 v1 v2 v3 v4 v5 v6) (u0 u1 u2 u3 u4 u5 u6:Value) :
 Box7 (((((((w.setCell ⟨b,0,none⟩ u0).setCell ⟨b,1,none⟩ u1).setCell ⟨b,2,none⟩ u2).setCell ⟨b,3,none⟩ u3).setCell ⟨b,4,none⟩ u4).setCell ⟨b,5,none⟩ u5).setCell ⟨b,6,none⟩ u6) b u0 u1 u2 u3 u4 u5 u6:=by
 obtain⟨⟨h0,h1,h2,h3,h4,h5,h6⟩,hf⟩:=h
 have o:∀ (w:World) (i k:Nat) (u:Value),i≠k→(w.setCell ⟨b,i,none⟩ u).cell? ⟨b,k,none⟩=w.cell? ⟨b,k,none⟩:=fun w i k u hik=>World.cell?_setCell_other _ _ _ _ (by intro e;injection e with _ e;exact hik e)
 have s:∀ (w:World) (k:Nat) (u v:Value),w.cell? ⟨b,k,none⟩=some v→(w.setCell ⟨b,k,none⟩ u).cell? ⟨b,k,none⟩=some u:=fun w k u v h=>World.cell?_setCell_same _ _ _ h
 refine⟨?_,?_,?_,?_,?_,?_,?_⟩
 · rw [o _ 6 0 _ (by decide),o _ 5 0 _ (by decide),o _ 4 0 _ (by decide),o _ 3 0 _ (by decide),o _ 2 0 _ (by decide),o _ 1 0 _ (by decide)]
   refine s _ 0 _ v0 ?_
   exact h0
 · rw [o _ 6 1 _ (by decide),o _ 5 1 _ (by decide),o _ 4 1 _ (by decide),o _ 3 1 _ (by decide),o _ 2 1 _ (by decide)]
   refine s _ 1 _ v1 ?_
   rw [o _ 0 1 _ (by decide)]
   exact h1
 · rw [o _ 6 2 _ (by decide),o _ 5 2 _ (by decide),o _ 4 2 _ (by decide),o _ 3 2 _ (by decide)]
   refine s _ 2 _ v2 ?_
   rw [o _ 1 2 _ (by decide),o _ 0 2 _ (by decide)]
   exact h2
 · rw [o _ 6 3 _ (by decide),o _ 5 3 _ (by decide),o _ 4 3 _ (by decide)]
   refine s _ 3 _ v3 ?_
   rw [o _ 2 3 _ (by decide),o _ 1 3 _ (by decide),o _ 0 3 _ (by decide)]
   exact h3
 · rw [o _ 6 4 _ (by decide),o _ 5 4 _ (by decide)]
   refine s _ 4 _ v4 ?_
   rw [o _ 3 4 _ (by decide),o _ 2 4 _ (by decide),o _ 1 4 _ (by decide),o _ 0 4 _ (by decide)]
   exact h4
 · rw [o _ 6 5 _ (by decide)]
   refine s _ 5 _ v5 ?_
   rw [o _ 4 5 _ (by decide),o _ 3 5 _ (by decide),o _ 2 5 _ (by decide),o _ 1 5 _ (by decide),o _ 0 5 _ (by decide)]
   exact h5
 · refine s _ 6 _ v6 ?_
   rw [o _ 5 6 _ (by decide),o _ 4 6 _ (by decide),o _ 3 6 _ (by decide),o _ 2 6 _ (by decide),o _ 1 6 _ (by decide),o _ 0 6 _ (by decide)]
   exact h6
/-- A store into another block. -/
theorem BoxF.setFar (h:BoxF w b v0 v1 v2 v3 v4 v5 v6) {p:Addr} (hp:p.block≠b) (u:Value):BoxF (w.setCell p u) b v0 v1 v2 v3 v4 v5 v6:=by
 obtain⟨⟨h0,h1,h2,h3,h4,h5,h6⟩,hf⟩:=h
 have far:∀ k v,w.cell? ⟨b,k,none⟩=some v→(w.setCell p u).cell? ⟨b,k,none⟩=some v:=fun k v h=>by
  rw [World.cell?_setCell_other _ _ _ _ (by rintro rfl;exact hp rfl)];exact h
 exact⟨⟨far 0 _ h0,far 1 _ h1,far 2 _ h2,far 3 _ h3,far 4 _ h4,far 5 _ h5,far 6 _ h6⟩,fun k=>by simpa using hf k⟩
theorem own_setFar {base:Nat} {e:TypeId} {size:Nat} {v:Value} {n:Nat} {xs:List Value} (h:w.ownsRow base e size v n xs) {p:Addr} (hp:v.ownBlock≠some p.block) (u:Value):(w.setCell p u).ownsRow base e size v n xs:=by
 rcases h with ⟨hl,h | ⟨g,cap,cur,hv,hb,hg,h1,h2,h3,h4⟩⟩
 · exact⟨hl,.inl h⟩
 · refine⟨hl,.inr ⟨g,cap,cur,hv,hb,?_,h1,h2,h3,h4⟩⟩
   rw [← hg]
   refine heap_setCell_other w p g u fun e=>hp ?_
   rw [hv,e];rfl
theorem own_base {base base':Nat} {e:TypeId} {size:Nat} {v:Value} {n:Nat} {xs:List Value} (h:w.ownsRow base e size v n xs) (hb:base'≤base):w.ownsRow base' e size v n xs:=by
 rcases h with ⟨hl,h | ⟨g,cap,cur,hv,hb',hg,h1⟩⟩
 · exact⟨hl,.inl h⟩
 · exact⟨hl,.inr ⟨g,cap,cur,hv,Nat.le_trans hb hb',hg,h1⟩⟩
theorem own_sls {base:Nat} {e:TypeId} {size:Nat} {S:Option Addr} {n c:Nat} {xs:List Value} (h:w.ownsRow base e size (.slice S n c) n xs):SlS (fun b=>base≤b∧b < w.heap.size) w size S n xs:=by
 refine⟨h.1,fun hn=>?_⟩
 obtain⟨g,cap,hv,hb,hl⟩:=h.form hn
 injection hv with hS
 subst hS
 obtain⟨b,off,hA,_,hc⟩:=(Sl.of_own h).2 hn
 injection hA with hA
 injection hA with h1 h2
 subst h1
 subst h2
 exact⟨g,0,rfl,⟨hb,hl⟩,hc⟩
theorem own_capmax {base:Nat} {e:TypeId} {size:Nat} {S:Option Addr} {n c:Nat} {xs:List Value} (h:w.ownsRow base e size (.slice S n c) n xs):c≤maxLen:=by
 rcases h.2 with ⟨hv,h0⟩ | ⟨g',cap',cur',hv',_,_,_,hcm,_⟩
 · injection hv with _ _ hc;rw [hc];exact Nat.zero_le _
 · injection hv' with _ _ hcc;rw [hcc];exact hcm
theorem flat7_set (done:List (List Value)) (hd:∀ r∈done,r.length=7) (r0 r1 r2 r3 r4 r5 r6 u0 u1 u2 u3 u4 u5 u6:Value) (rest:List (List Value)) :
 ((((((((done ++ [r0,r1,r2,r3,r4,r5,r6] :: rest).flatten.set (done.length * 7) u0).set (done.length * 7+1) u1).set (done.length * 7+2) u2).set (done.length * 7+3) u3).set (done.length * 7+4) u4).set (done.length * 7+5) u5).set (done.length * 7+6) u6) =
   (done ++ [u0,u1,u2,u3,u4,u5,u6] :: rest).flatten:=by
 have hl:=flat7_len done hd
 rw [← hl]
 simp only [List.flatten_append,List.flatten_cons]
 generalize done.flatten=D
 generalize rest.flatten=E
 have key:∀ k u (L:List Value),(D ++ L).set (D.length+k) u=D ++ L.set k u:=by
  intro k u L
  rw [List.set_append_right _ _ (by omega),Nat.add_sub_cancel_left]
 have key0:∀ u (L:List Value),(D ++ L).set D.length u=D ++ L.set 0 u:=by
  intro u L
  exact key 0 u L
 rw [key0,key,key,key,key,key,key]
 rfl
theorem own_set7 {base:Nat} {e:TypeId} {g n c:Nat} {i:Nat} {done rest:List (List Value)} {r0 r1 r2 r3 r4 r5 r6:Value} (h:w.ownsRow base e 7 (.slice (some ⟨g,0,none⟩) n c) n (done ++ [r0,r1,r2,r3,r4,r5,r6] :: rest).flatten)
 (hd:∀ r∈done,r.length=7) (hi:done.length=i) (u0 u1 u2 u3 u4 u5 u6:Value) :
 (((((((w.setCell ⟨g,i * 7,none⟩ u0).setCell ⟨g,i * 7+1,none⟩ u1).setCell ⟨g,i * 7+2,none⟩ u2).setCell ⟨g,i * 7+3,none⟩ u3).setCell ⟨g,i * 7+4,none⟩ u4).setCell ⟨g,i * 7+5,none⟩ u5).setCell ⟨g,i * 7+6,none⟩ u6).ownsRow base e 7 (.slice (some ⟨g,0,none⟩) n c) n (done ++ [u0,u1,u2,u3,u4,u5,u6] :: rest).flatten:=by
 subst hi
 rw [← flat7_set done hd r0 r1 r2 r3 r4 r5 r6]
 exact((((((((h.stored _ u0).1.stored _ u1).1.stored _ u2).1.stored _ u3).1.stored _ u4).1.stored _ u5).1.stored _ u6).1)
theorem set7_far {g:Nat} {i:Nat} (u0 u1 u2 u3 u4 u5 u6:Value) {a:Addr} (ha:a.block≠g) :
 (((((((w.setCell ⟨g,i * 7,none⟩ u0).setCell ⟨g,i * 7+1,none⟩ u1).setCell ⟨g,i * 7+2,none⟩ u2).setCell ⟨g,i * 7+3,none⟩ u3).setCell ⟨g,i * 7+4,none⟩ u4).setCell ⟨g,i * 7+5,none⟩ u5).setCell ⟨g,i * 7+6,none⟩ u6).cell? a=w.cell? a:=by
 have h:∀ (w:World) k u,(w.setCell ⟨g,k,none⟩ u).cell? a=w.cell? a:=fun w k u=>World.cell?_setCell_other _ _ _ _ (by rintro rfl;exact ha rfl)
 rw [h,h,h,h,h,h,h]
theorem set7_below {C:Nat} {w0:World} {g:Nat} {i:Nat} (hb:Below C w0 w) (hg:C≤g) (u0 u1 u2 u3 u4 u5 u6:Value) :
 Below C w0 (((((((w.setCell ⟨g,i * 7,none⟩ u0).setCell ⟨g,i * 7+1,none⟩ u1).setCell ⟨g,i * 7+2,none⟩ u2).setCell ⟨g,i * 7+3,none⟩ u3).setCell ⟨g,i * 7+4,none⟩ u4).setCell ⟨g,i * 7+5,none⟩ u5).setCell ⟨g,i * 7+6,none⟩ u6):=
 ((((((hb.setCell hg _).setCell hg _).setCell hg _).setCell hg _).setCell hg _).setCell hg _).setCell hg _
end
end Go.Proofs.YtlgbopjhmemaoaaGreatDoor
namespace Go.Proofs.YtlgbopjhmemaoaaGreatDoor
/-- Up to a byte for which p says yes; and from it on. -/
def stopT (p:Nat→Bool) (l:List UInt8):List UInt8:=l.takeWhile (fun b=>!p b.toNat)
def stopD (p:Nat→Bool) (l:List UInt8):List UInt8:=l.dropWhile (fun b=>!p b.toNat)
def isSp (x:Nat):Bool:=x == 32 || x == 9 || x == 13 || x == 10 || x == 12
def isLet (x:Nat):Bool:=decide (97≤x ||| 32) && decide (x ||| 32≤122)
def pNotSp (x:Nat):Bool:=!isSp x
def pName (x:Nat):Bool:=isSp x || x == 47 || x == 62
def pAttr (x:Nat):Bool:=!isSp x && x != 47
def pEq (x:Nat):Bool:=isSp x || x == 47 || x == 62 || x == 61
def pVal (x:Nat):Bool:=isSp x || x == 62
def pIs (q x:Nat):Bool:=x == q
def lowB (b:UInt8):UInt8:=if 65≤b∧b≤90 then b+32 else b
def lowL (l:List UInt8):List UInt8:=l.map lowB
def leadsB (l:List UInt8):Bool:=l == [104,114,101,102] || l == [115,114,99]
def unamp (l:List UInt8):List UInt8:=Lib.replaceAll l [38,97,109,112,59] [38]
def pastL (t r:List UInt8):List UInt8:=if Lib.index r t < 0 then [] else r.drop ((Lib.index r t).toNat+t.length)
structure LinkD where
 frm:Nat
 til:Nat
 text:List UInt8
/-- A value: what is left where it begins, where it ends, where one goes on. -/
def valueR (r:List UInt8):List UInt8 × List UInt8 × List UInt8:=
 match stopD pNotSp r with
 | []=>([],[],[])
 | c :: r2=>if c=34∨c=39 then (r2,stopD (pIs c.toNat) r2,(stopD (pIs c.toNat) r2).drop 1) else (c :: r2,stopD pVal (c :: r2),stopD pVal (c :: r2))
def addLink (n:Nat) (name:List UInt8) (seen:List (List UInt8)) (v:List UInt8 × List UInt8 × List UInt8) (ls:List LinkD):List LinkD:=
 if leadsB name && !seen.contains name then ls ++ [⟨n - v.1.length,n - v.2.1.length,unamp (v.1.take (v.1.length - v.2.1.length))⟩] else ls
def attrsL (n:Nat):Nat→List UInt8→List (List UInt8)→List LinkD→Option (List UInt8 × List LinkD)
 | 0,_,_,_=>none
 | f+1,r,seen,ls =>
  match stopD pAttr r with
  | []=>none
  | c :: r2 =>
   if c=62 then some (r2,ls)
   else if (stopD pNotSp (stopD pEq r2)).head? = some 61 then
    attrsL n f (valueR (stopD pNotSp (stopD pEq r2)).tail).2.2 (lowL (c :: stopT pEq r2) :: seen) (addLink n (lowL (c :: stopT pEq r2)) seen (valueR (stopD pNotSp (stopD pEq r2)).tail) ls)
   else attrsL n f (stopD pEq r2) (lowL (c :: stopT pEq r2) :: seen) ls
def tagL (n:Nat) (r:List UInt8) (shut:Bool) (out:List LinkD):List UInt8 × List LinkD:=
 match attrsL n ((stopD pName r).length+1) (stopD pName r) [] [] with
 | none=>([],out)
 | some (r',ls)=>(r',if shut then out else out ++ ls)
/-- One round of Find, at a < or the end. -/
def stepL (n:Nat) (r:List UInt8) (out:List LinkD):List UInt8 × List LinkD:=
 if Lib.hasPrefix r [60,33,45,45] then (pastL [45,45,62] (r.drop 4),out)
 else if Lib.hasPrefix r [60,33] || Lib.hasPrefix r [60,63] then (pastL [62] r,out)
 else if decide (1 < r.length) && isLet (nth r 1) then tagL n (r.drop 1) false out
 else if decide (2 < r.length) && nth r 1 == 47 && isLet (nth r 2) then tagL n (r.drop 2) true out
 else (r.drop 1,out)
def findL (n:Nat):Nat→List UInt8→List LinkD→Option (List LinkD)
 | 0,_,out=>some out
 | f+1,r,out =>
  if r = [] then some out
  else if 60 < (stepL n (stopD (pIs 60) r) out).2.length then none
  else findL n f (stepL n (stopD (pIs 60) r) out).1 (stepL n (stopD (pIs 60) r) out).2
/-- link.Find of few enough bytes. -/
def findB (b:List UInt8):Option (List LinkD):=findL b.length b.length b []
theorem stop_app (p:Nat→Bool) (l:List UInt8):stopT p l ++ stopD p l=l:=List.takeWhile_append_dropWhile
theorem stopD_len (p:Nat→Bool) (l:List UInt8):(stopD p l).length≤l.length:=(List.dropWhile_suffix _).length_le
theorem stopD_suffix (p:Nat→Bool) (l:List UInt8):stopD p l <:+ l:=List.dropWhile_suffix _
theorem stopT_len (p:Nat→Bool) (l:List UInt8):(stopT p l).length+(stopD p l).length=l.length:=by
 have:=congrArg List.length (stop_app p l);simpa using this
theorem stopT_not (p:Nat→Bool) (l:List UInt8):∀ b∈stopT p l,p b.toNat=false:=by
 induction l with
 | nil=>intro b hb;simp [stopT] at hb
 | cons a l ih =>
  intro b hb
  unfold stopT at hb
  rw [List.takeWhile_cons] at hb
  split at hb
  · rename_i h
    simp only [List.mem_cons] at hb
    rcases hb with rfl | hb
    · simpa using h
    · exact ih b hb
  · simp at hb
theorem stopD_head (p:Nat→Bool) (l:List UInt8) (c:UInt8) (r:List UInt8) (h:stopD p l=c :: r):p c.toNat=true:=by
 have:=List.head?_dropWhile_not (fun b:UInt8=>!p b.toNat) l
 unfold stopD at h
 rw [h] at this
 simpa using this
/-- What stops in x ++ y, where p says no all over x, stops in y. -/
theorem stopD_pre (p:Nat→Bool):∀ (x y:List UInt8),(∀ b∈x,p b.toNat=false)→stopD p (x ++ y)=stopD p y∧stopT p (x ++ y)=x ++ stopT p y
 | [],_,_=>⟨rfl,rfl⟩
 | a :: x,y,h=>by
  have ha:=h a (by simp)
  have:=stopD_pre p x y (fun b hb=>h b (by simp [hb]))
  unfold stopD stopT at this ⊢
  rw [List.cons_append,List.dropWhile_cons,List.takeWhile_cons]
  simp [ha,this]
theorem stopD_at (p:Nat→Bool) (c:UInt8) (y:List UInt8) (h:p c.toNat=true):stopD p (c :: y)=c :: y∧stopT p (c :: y) = []:=by
 simp [stopD,stopT,h]
end Go.Proofs.YtlgbopjhmemaoaaGreatDoor
namespace Go.Proofs.YtlgbopjhmemaoaaGreatDoor
open Go.RowKit
theorem isSp_eq:∀ x:Fin 256,isSp x.val=decide (0≤Lib.indexByte [32,9,13,10,12] (UInt8.ofNat x.val)):=by decide +kernel
theorem IndexByte_any (l:List UInt8) (x:Nat) (w:World) :
 Calls Tryz.prog 82 #[.string ⟨l.toArray⟩,.int .u8 (x:Int)] w fun e w'=>e = .returned (.int .i64 (Lib.indexByte l (UInt8.ofNat x)))∧w=w':=by
 refine(Go.Proofs.Tryz.strings_IndexByte ⟨l.toArray⟩ (x:Int) w).mono ?_
 rintro e w' ⟨rfl,rfl⟩
 exact⟨rfl,rfl⟩
theorem space_any (x:Nat) (hx:x < 256) (w:World):Calls Tryz.prog 106 #[.int .u8 (x:Int)] w fun e w'=>e = .returned (.bool (isSp x))∧w=w':=by
 have h:=isSp_eq ⟨x,hx⟩
 simp only at h
 have hi:=IndexByte_any [32,9,13,10,12] x w
 generalize Lib.indexByte [32,9,13,10,12] (UInt8.ofNat x)=i at h hi
 rw [h]
 have Hi:=Lib.hid hi
 clear h hi
 go_enter Tryz.func106,Tryz.ntmps106
 go_wp2_with fail
 refine Hi.out.mono ?_
 rintro e w1 ⟨rfl,rfl⟩
 go_wp2_with fail
 go_ret
 exact⟨rfl,rfl⟩
theorem or32:∀ x:Fin 256,bits .or .u8 ((x.val:Nat):Int) 32=((x.val ||| 32:Nat):Int):=by decide +kernel
theorem letter_any (x:Nat) (hx:x < 256) (w:World):Calls Tryz.prog 66 #[.int .u8 (x:Int)] w fun e w'=>e = .returned (.bool (isLet x))∧w=w':=by
 have h:=or32 ⟨x,hx⟩
 simp only at h
 unfold isLet
 generalize x ||| 32=y at h ⊢
 by_cases h1:97≤y
 · have d1:decide (97≤y)=true:=by simpa using h1
   rw [d1]
   go_enter Tryz.func66,Tryz.ntmps66
   go_wp2_with fail
   go_ret
   exact⟨by simp;omega,rfl⟩
 · have d1:decide (97≤y)=false:=by simpa using h1
   rw [d1]
   go_enter Tryz.func66,Tryz.ntmps66
   go_wp2_with fail
   go_ret
   exact⟨by simp,rfl⟩
theorem leads_any (l:List UInt8) (w:World):Calls Tryz.prog 112 #[str l] w fun e w'=>e = .returned (.bool (leadsB l))∧w=w':=by
 unfold leadsB
 by_cases h1:l = [104,114,101,102]
 · subst h1
   go_enter Tryz.func112,Tryz.ntmps112
   go_wp2_with fail
   go_ret
   exact⟨rfl,rfl⟩
 · have e:(l == [104,114,101,102])=false:=by simpa using h1
   rw [e,Bool.false_or]
   go_enter Tryz.func112,Tryz.ntmps112
   go_wp2_with fail
   go_ret
   exact⟨rfl,rfl⟩
theorem grown_set (w:World) (b i:Nat) (v:Value):w.grownBy (w.setCell ⟨b,i,none⟩ v) (some b):=
 ⟨rfl,rfl,rfl,by simp,fun k _ hne=>Below.heap_setCell w ⟨b,i,none⟩ v k (fun e=>hne (by rw [e]))⟩
/-- A row of bytes of the call's own, that may be written. -/
def OwnB (w:World) (g:Nat) (l:List UInt8):Prop:=∃ (cs:Array Value) (fr:Nat × Nat),w.heap[g]? = some (.cells cs 5 fr)∧l.length≤cs.size∧cs.toList.take l.length=Lib.byteCells l∧∀ o,o < l.length→¬ (fr.1≤o∧o < fr.2)
theorem OwnB.by_ {w:World} {g:Nat} {l:List UInt8} (h:OwnB w g l):By w w.heap.size (some ⟨g,0,none⟩) l.length l:=by
 obtain⟨cs,fr,h1,h2,h3,_⟩:=h
 refine Sl.of_block h1 (by simp [Lib.byteCells]) fun j u hu=>?_
 rw [Nat.zero_add]
 rw [← h3,List.getElem?_take] at hu
 split at hu
 · simpa using hu
 · cases hu
theorem OwnB.fz {w:World} {g:Nat} {l:List UInt8} (h:OwnB w g l) (o:Nat) (ho:o < l.length):w.frozen? ⟨g,o,none⟩=false:=by
 obtain⟨cs,fr,h1,_,_,h4⟩:=h
 have:=h4 o ho
 unfold World.frozen?
 rw [h1]
 simp
 omega
theorem OwnB.set {w:World} {g:Nat} {l:List UInt8} (h:OwnB w g l) (k:Nat) (x:UInt8):OwnB (w.setCell ⟨g,k,none⟩ (.int .u8 (x.toNat:Int))) g (l.set k x):=by
 obtain⟨cs,fr,h1,h2,h3,h4⟩:=h
 refine⟨_,fr,Go.Joins.block_setCell h1 _,by simpa using h2,?_,by simpa using h4⟩
 rw [List.length_set,Array.toList_setIfInBounds,List.take_set,h3]
 simp [Lib.byteCells,List.map_set]
theorem OwnB.below {w w':World} {g:Nat} {l:List UInt8} (h:OwnB w g l) (hb:Below (g+1) w w'):OwnB w' g l:=by
 obtain⟨cs,fr,h1,h2⟩:=h
 exact⟨cs,fr,(hb.block g (by omega)).trans h1,h2⟩
theorem run_toOwn {P:Program} (w:World) (src dst e:TypeId) (l:List UInt8) (hs:P.underlying src=some .string) (hd:P.underlying dst=some (.slice e)) (he:P.underlying e=some (.int .u8)) (hee:e=5) :
 ∃ c w',(convert src dst (str l)).run P w = .ok (.slice (some ⟨w.heap.size,0,none⟩) l.length c) w'∧OwnB w' w.heap.size l∧l.length≤c∧Below w.heap.size w w'∧w'.heap.size=w.heap.size+1:=by
 subst hee
 refine⟨_,_,run_bytes_of_string w src dst _ ⟨l.toArray⟩ hs hd he,⟨_,_,heap_alloc_new w.drew _,?_,?_,?_⟩,grownCap_ge _ _ _ _,(Below.drew (Below.refl _ w)).alloc (Nat.le_refl _) _,by simp⟩
 · simp [bytesRow]
 · simp [bytesRow,Lib.byteCells]
 · intro o ho
   simp [bytesRow]
   omega
theorem low_at (l:List UInt8) (k:Nat) (h:k < l.length):(l.take k).map lowB ++ l.drop k=((l.take k).map lowB ++ l.drop k)∧((l.take (k+1)).map lowB ++ l.drop (k+1)=((l.take k).map lowB ++ l.drop k).set k (lowB l[k])):=by
 refine⟨rfl,?_⟩
 have hk:((l.take k).map lowB).length=k:=by simp;omega
 rw [List.set_append_right _ _ (by omega),hk,Nat.sub_self,List.drop_eq_getElem_cons h,List.set_cons_zero,List.take_add_one,List.getElem?_eq_getElem h,List.map_append,List.append_assoc]
 rfl
def LowRel (w:World) (n:Nat) (l:List UInt8) (iv:Value) (wr:World):Prop:=
 ∃ k:Nat,k≤n∧iv = .int .i64 k∧Below w.heap.size w wr∧OwnB wr w.heap.size ((l.take k).map lowB ++ l.drop k)
theorem lower_any (l:List UInt8) (w:World) (hl:l.length≤maxLen):Calls Tryz.prog 109 #[str l] w fun e w'=>e = .returned (str (lowL l))∧Below w.heap.size w w':=by
 unfold maxLen at hl
 obtain⟨c,w1,hconv,hown,hc,hb1,hsz⟩:=run_toOwn (P:=Tryz.prog) w 9 22 5 l Tryz.underlying9 Tryz.underlying22 Tryz.underlying5 rfl
 obtain⟨n,hn⟩:∃ n,n=l.length:=⟨_,rfl⟩
 rw [← hn] at hconv hl hc
 have Hn:=Lib.hid hn
 have Hown:=Lib.hid hown
 have Hsz:=Lib.hid hsz
 clear hn hown hsz
 go_enter Tryz.func109,Tryz.ntmps109
 go_wp2_with fail
 go_loopw [4,5,10] (fun _ _ iv wr=>LowRel w n l iv wr) (fun _ _ iv _=>n - (intOf iv).toNat)
 case atStart=>exact⟨0,by omega,rfl,hb1,by simpa using Hown.out⟩
 case round =>
  obtain⟨k,hk,rfl,hbel,hO⟩:=hrel
  have hlen:((l.take k).map lowB ++ l.drop k).length=n:=by
   simp only [List.length_append,List.length_map,List.length_take,List.length_drop];have:=Hn.out;omega
  by_cases hkn:k < n
  · have hkl:k < l.length:=by rw [← Hn.out];exact hkn
    have hfz:=hO.fz k (by rw [hlen];exact hkn)
    have hcell:wr.cell? ⟨w.heap.size,k,none⟩=some (.int .u8 (nth l k)):=by
     obtain⟨b,off,hA,_,hc⟩:=hO.by_.opn (by rw [hlen];omega)
     injection hA with hA
     injection hA with hA hB _
     subst hA
     subst hB
     have:=hc k (by rw [hlen];exact hkn)
     rw [Nat.zero_add] at this
     rw [this]
     have e:nth ((l.take k).map lowB ++ l.drop k) k=nth l k:=by
      have:((l.take k).map lowB).length=k:=by simp;omega
      unfold nth
      simp only [List.getD]
      rw [List.getElem?_append_right (by omega),this,Nat.sub_self,List.getElem?_drop,Nat.add_zero]
     rw [e]
    have hx:=nth_lt l k
    have hset:=(low_at l k hkl).2
    have hnk:l[k].toNat=nth l k:=(nth_of l k hkl).symm
    have hO2:=hO.set k (lowB l[k])
    rw [← hset] at hO2
    have HO:=Lib.hid hO
    have HO2:=Lib.hid hO2
    have Hset:=Lib.hid hset
    have Hnk:=Lib.hid hnk
    have Hlen:=Lib.hid hlen
    clear hset hnk hO hO2 hlen
    have hsame:¬ (65≤nth l k∧nth l k≤90)→LowRel w n l (.int .i64 ((k+1:Nat):Int)) wr:=by
     intro h
     refine⟨k+1,by omega,rfl,hbel,?_⟩
     have e:lowB l[k]=l[k]:=by
      unfold lowB
      rw [if_neg]
      intro⟨h1,h2⟩
      have h1:=UInt8.le_iff_toNat_le.1 h1
      have h2:=UInt8.le_iff_toNat_le.1 h2
      rw [Hnk.out] at h1 h2
      exact h ⟨h1,h2⟩
     rw [Hset.out,e]
     have e2:((l.take k).map lowB ++ l.drop k)[k]'(by rw [Hlen.out];exact hkn)=l[k]:=by
      have:((l.take k).map lowB).length=k:=by simp;omega
      rw [List.getElem_append_right (by omega)]
      simp only [List.getElem_drop]
      congr 1
      omega
     rw [← e2,List.set_getElem_self]
     exact HO.out
    by_cases h1:65≤nth l k
    · by_cases h2:nth l k≤90
      · clear hsame
        go_wp2_with fail
        refine⟨⟨k+1,by omega,by go_num,hbel.setCell (Nat.le_refl _) _,?_⟩,by simp [intOf];omega⟩
        have e:(lowB l[k]).toNat=nth l k+32:=by
         unfold lowB
         rw [if_pos ⟨UInt8.le_iff_toNat_le.2 (by rw [Hnk.out];exact h1),UInt8.le_iff_toNat_le.2 (by rw [Hnk.out];exact h2)⟩,UInt8.toNat_add,Hnk.out]
         show(nth l k+32) % 256=_
         omega
        have e2:((nth l k:Nat):Int)+97 - 65=(((lowB l[k]).toNat:Nat):Int):=by rw [e];omega
        rw [e2]
        exact HO2.out
      · have hs:=Lib.hid (hsame (by omega))
        clear hsame
        go_wp2_with fail
        exact⟨by have:=hs.out;simpa using this,by simp [intOf];omega⟩
    · have hs:=Lib.hid (hsame (by omega))
      clear hsame
      go_wp2_with fail
      exact⟨by have:=hs.out;simpa using this,by simp [intOf];omega⟩
  · have hkn':k=n:=by omega
    have hM:(l.take k).map lowB ++ l.drop k=lowL l:=by
     rw [hkn',List.take_of_length_le (by rw [← Hn.out];omega),List.drop_of_length_le (by rw [← Hn.out];omega),List.append_nil];rfl
    rw [hM] at hO hlen
    have hts:=run_toStr (P:=Tryz.prog) wr 22 9 5 _ (some ⟨w.heap.size,0,none⟩) n c (lowL l) (by have:=hO.by_;rw [hlen] at this;exact this) Tryz.underlying22 Tryz.underlying5 Tryz.underlying9
    clear hO hM hlen hkn'
    go_wp2_with fail
    go_ret
    exact⟨rfl,hbel⟩
end Go.Proofs.YtlgbopjhmemaoaaGreatDoor
namespace Go.Proofs.YtlgbopjhmemaoaaGreatDoor
structure UrlD where
 scheme:List UInt8
 hasHost:Bool
 host:List UInt8
 path:List UInt8
 hasQuery:Bool
 query:List UInt8
 hasFrag:Bool
 frag:List UInt8
def UrlD.cells (u:UrlD):List Value:=[str u.scheme,.bool u.hasHost,str u.host,str u.path,.bool u.hasQuery,str u.query,.bool u.hasFrag,str u.frag]
def UrlD.val (u:UrlD):Value:=.agg #[str u.scheme,.bool u.hasHost,str u.host,str u.path,.bool u.hasQuery,str u.query,.bool u.hasFrag,str u.frag]
def noU:List UInt8:=[34,60,62,92,94,96,123,124,125]
def charU (x:Nat):Bool:=decide (32 < x) && decide (x≤126) && decide (Lib.indexByte noU (UInt8.ofNat x) < 0)
def badU (but:List UInt8) (x:Nat):Bool:=!charU x || decide (0≤Lib.indexByte but (UInt8.ofNat x))
def wordU (s but:List UInt8):Bool:=!s.any (fun b=>badU but b.toNat)
def schC (x:Nat):Bool:=(decide (97≤x) && decide (x≤122)) || (decide (48≤x) && decide (x≤57)) || x == 43 || x == 45 || x == 46
def schA (x:Nat):Bool:=decide (97≤x) && decide (x≤122)
def schemeU:List UInt8→Bool
 | []=>true
 | c :: r=>schA c.toNat && r.all (fun b=>schC b.toNat)
theorem lowC_scheme (s:List UInt8):schemeU s=(s.all (fun b=>schC b.toNat) && (s == [] || schA (nth s 0))):=by
 cases s with
 | nil=>rfl
 | cons c r =>
  show(schA c.toNat && r.all _)=((schC c.toNat && r.all _) && (false || schA c.toNat))
  cases h:schA c.toNat with
  | false=>simp
  | true =>
   have:schC c.toNat=true:=by unfold schA at h;unfold schC;simp only [h,Bool.true_or]
   simp [this]
/-- url.text. -/
def textU (u:UrlD):List UInt8:=
 (if u.scheme = [] then [] else u.scheme ++ [58]) ++ (if u.hasHost then [47,47] ++ u.host else []) ++ u.path ++ (if u.hasQuery then 63 :: u.query else []) ++ (if u.hasFrag then 35 :: u.frag else [])
def okU (u:UrlD):Bool:=schemeU u.scheme && (wordU u.host [47,63,35] && ((u.host == lowL u.host) && (wordU u.path [63,35] && (wordU u.query [35] && wordU u.frag [35]))))
def formA (u:UrlD):Bool:=(!u.hasHost && !(u.host == [])) || (!u.hasQuery && !(u.query == [])) || (!u.hasFrag && !(u.frag == []))
def formB (u:UrlD):Bool:=if u.hasHost then !(u.path == []) && !(nth u.path 0 == 47) else Lib.hasPrefix u.path [47,47] || ((u.scheme == []) && decide (0≤Lib.indexByte (Lib.cut u.path [47]).1 58))
/-- url.Check behind its first test. -/
def chkU (u:UrlD):Nat:=if okU u=false then 1 else if formA u || formB u then 4 else if 120 < (textU u).length then 2 else 0
def longU (u:UrlD):Bool:=decide (120 < u.scheme.length) || decide (120 < u.host.length) || decide (120 < u.path.length) || decide (120 < u.query.length) || decide (120 < u.frag.length)
/-- url.Check. -/
def checkU (u:UrlD):Nat:=if longU u then 2 else chkU u
def zeroU:UrlD:=⟨[],false,[],[],false,[],false,[]⟩
def stopCS (b:UInt8):Bool:=b != 58 && b != 47
/-- The scheme, and what is behind it. -/
def schemeP (s:List UInt8):Option (List UInt8 × List UInt8):=
 if (s.dropWhile stopCS).head? = some 58 then
  (if (s.takeWhile stopCS) = []∨schemeU (lowL (s.takeWhile stopCS))=false then none else some (lowL (s.takeWhile stopCS),(s.dropWhile stopCS).tail))
 else some ([],s)
def not47 (b:UInt8):Bool:=b != 47
def hostP (s:List UInt8):Bool × List UInt8 × List UInt8:=
 if Lib.hasPrefix s [47,47] then (true,lowL ((s.drop 2).takeWhile not47),(s.drop 2).dropWhile not47) else (false,[],s)
def partsU (s:List UInt8):Option UrlD:=
 match schemeP (Lib.cut (Lib.cut s [35]).1 [63]).1 with
 | none=>none
 | some (sc,r)=>some ⟨sc,(hostP r).1,(hostP r).2.1,(hostP r).2.2,(Lib.cut (Lib.cut s [35]).1 [63]).2.2,(Lib.cut (Lib.cut s [35]).1 [63]).2.1,(Lib.cut s [35]).2.2,(Lib.cut s [35]).2.1⟩
/-- url.Parse. -/
def readU (s:List UInt8):UrlD × Nat:=
 if 120 < s.length then (zeroU,2) else
 match partsU s with
 | none=>(zeroU,1)
 | some u=>if checkU u=0 then (u,0) else (zeroU,checkU u)
/-- url.Print. -/
def printU (u:UrlD):List UInt8 × Nat:=if checkU u=0 then (textU u,0) else ([],checkU u)
def joinC (c:UInt8):List (List UInt8)→List UInt8
 | []=>[]
 | [x]=>x
 | x :: y :: r=>x ++ c :: joinC c (y :: r)
def consHead (b:UInt8):List (List UInt8)→List (List UInt8)
 | []=>[[b]]
 | x :: r=>(b :: x) :: r
def splitC (c:UInt8):List UInt8→List (List UInt8)
 | []=>[[]]
 | b :: l=>if b=c then [] :: splitC c l else consHead b (splitC c l)
def isDot (s:List UInt8):Bool:=s == [46] || s == [46,46]
def popU (out:List (List UInt8)):List (List UInt8):=if 1 < out.length∨(out.length=1∧out.head?≠some []) then out.dropLast else out
def dotStep (last:Bool) (out:List (List UInt8)) (s:List UInt8):List (List UInt8):=
 if s = [46] then (if last then out ++ [[]] else out)
 else if s = [46,46] then (if last then popU out ++ [[]] else popU out)
 else out ++ [s]
def dotsF:List (List UInt8)→List (List UInt8)→List (List UInt8)
 | [],out=>out
 | s :: r,out=>dotsF r (dotStep r.isEmpty out s)
def slashU (p q:List UInt8):List UInt8:=if Lib.hasPrefix p [47] && !Lib.hasPrefix q [47] then 47 :: q else q
/-- url.dots. -/
def dotsU (p:List UInt8):List UInt8:=if p = [] then [] else slashU p (joinC 47 (dotsF (splitC 47 p) []))
/-- url.merged. -/
def mergedU (b:UrlD) (p:List UInt8):List UInt8:=if b.hasHost && b.path == [] then 47 :: p else b.path.take (Lib.lastIndexByte ⟨b.path.toArray⟩ 47+1).toNat ++ p
def ledU (b u:UrlD):UrlD:=
 if u.scheme≠[] then u
 else if u.hasHost then { u with scheme:=b.scheme }
 else if u.path = [] then
  (if u.hasQuery then { u with scheme:=b.scheme,hasHost:=b.hasHost,host:=b.host,path:=b.path }
   else { u with scheme:=b.scheme,hasHost:=b.hasHost,host:=b.host,path:=b.path,hasQuery:=b.hasQuery,query:=b.query })
 else if nth u.path 0=47 then { u with scheme:=b.scheme,hasHost:=b.hasHost,host:=b.host }
 else { u with scheme:=b.scheme,hasHost:=b.hasHost,host:=b.host,path:=mergedU b u.path }
def undotU (o:UrlD):UrlD:=if o.hasHost || Lib.hasPrefix o.path [47] then { o with path:=dotsU o.path } else o
def endU (o:UrlD):UrlD × Nat:=if (!o.hasHost && Lib.hasPrefix o.path [47,47])=true then (zeroU,4) else if checkU o=0 then (o,0) else (zeroU,checkU o)
/-- url.Lead. -/
def leadU (b u:UrlD):UrlD × Nat:=
 if checkU b≠0 then (zeroU,checkU b)
 else if checkU u≠0 then (zeroU,checkU u)
 else if b.scheme = [] then (zeroU,4)
 else endU (undotU (ledU b u))
theorem indexByte_tw (l:List UInt8) (c:UInt8):Lib.indexByte l c=if c∈l then ((l.takeWhile (fun b=>b != c)).length:Int) else -1:=by
 induction l with
 | nil=>rfl
 | cons b l ih =>
  unfold Lib.indexByte
  by_cases h:b=c
  · subst h;simp
  · have h':c≠b:=fun e=>h e.symm
    rw [ih]
    by_cases hm:c∈l
    · have e2:(((l.takeWhile (fun b=>b != c)).length:Int) == -1)=false:=by simp
      simp [h,hm,e2]
    · simp [h,h',hm]
theorem indexByte_neg (l:List UInt8) (c:UInt8):Lib.indexByte l c < 0↔c ∉ l:=by
 rw [indexByte_tw]
 by_cases h:c∈l
 · rw [if_pos h];simp [h]
 · rw [if_neg h];simp [h]
theorem cut_tw (l:List UInt8) (c:UInt8):Lib.cut l [c]=(l.takeWhile (fun b=>b != c),(l.dropWhile (fun b=>b != c)).drop 1,decide (c∈l)):=by
 unfold Lib.cut
 rw [Lib.index_one,indexByte_tw]
 by_cases h:c∈l
 · rw [if_pos h,if_pos (by omega)]
   have e:=List.takeWhile_append_dropWhile (p:=fun b=>b != c) (l:=l)
   have e1:l.take (l.takeWhile (fun b=>b != c)).length=l.takeWhile (fun b=>b != c):=by
    have:=congrArg (List.take (l.takeWhile (fun b=>b != c)).length) e
    rw [List.take_left] at this
    exact this.symm
   have e2:l.drop ((l.takeWhile (fun b=>b != c)).length+1)=(l.dropWhile (fun b=>b != c)).drop 1:=by
    rw [← List.drop_drop]
    congr 1
    have:=congrArg (List.drop (l.takeWhile (fun b=>b != c)).length) e
    rw [List.drop_left] at this
    exact this.symm
   simp [h,e1,e2]
 · rw [if_neg h,if_neg (by omega)]
   have e1:∀ l:List UInt8,c ∉ l→l.takeWhile (fun b=>b != c)=l∧l.dropWhile (fun b=>b != c) = []:=by
    intro l
    induction l with
    | nil=>simp
    | cons b l ih =>
     intro h
     simp only [List.mem_cons,not_or] at h
     have h':b≠c:=fun e=>h.1 e.symm
     simp [h',ih h.2]
   simp [h,e1 l h]
theorem cut_app (x y:List UInt8) (c:UInt8) (h:∀ b∈x,b≠c):Lib.cut (x ++ c :: y) [c]=(x,y,true):=by
 rw [cut_tw,List.takeWhile_append_of_pos (by simpa using h),List.dropWhile_append_of_pos (by simpa using h)]
 simp
theorem cut_not (x:List UInt8) (c:UInt8) (h:∀ b∈x,b≠c):Lib.cut x [c]=(x,[],false):=by
 have e:Lib.index x [c] < 0:=by rw [Lib.index_one,indexByte_neg];exact fun hm=>h c hm rfl
 unfold Lib.cut
 rw [if_neg (by omega)]
theorem first_of (l:List UInt8) (c:UInt8) (h:c∈l):∃ x y,l=x ++ c :: y∧∀ b∈x,b≠c:=by
 induction l with
 | nil=>cases h
 | cons a l ih =>
  by_cases e:a=c
  · subst e;exact⟨[],l,rfl,by simp⟩
  · have hm:c∈l:=by
     simp only [List.mem_cons] at h
     rcases h with h | h
     · exact absurd h.symm e
     · exact h
    obtain⟨x,y,rfl,hx⟩:=ih hm
    exact⟨a :: x,y,rfl,by intro b hb;simp only [List.mem_cons] at hb;rcases hb with rfl | hb;exact e;exact hx b hb⟩
end Go.Proofs.YtlgbopjhmemaoaaGreatDoor
namespace Go.Proofs.YtlgbopjhmemaoaaGreatDoor
theorem ofNat_toNat8 (b:UInt8):UInt8.ofNat b.toNat=b:=by simp
theorem lowB_same {b:UInt8} (h:¬ (65≤b.toNat∧b.toNat≤90)):lowB b=b:=by
 unfold lowB
 rw [if_neg]
 intro⟨h1,h2⟩
 exact h ⟨UInt8.le_iff_toNat_le.1 h1,UInt8.le_iff_toNat_le.1 h2⟩
theorem lowB_cap {b:UInt8} (h:65≤b.toNat∧b.toNat≤90):lowB b=b+32:=by
 unfold lowB
 rw [if_pos ⟨UInt8.le_iff_toNat_le.2 h.1,UInt8.le_iff_toNat_le.2 h.2⟩]
theorem lowB_nat (b:UInt8):(lowB b).toNat=if 65≤b.toNat∧b.toNat≤90 then b.toNat+32 else b.toNat:=by
 by_cases h:65≤b.toNat∧b.toNat≤90
 · rw [if_pos h,lowB_cap h,UInt8.toNat_add]
   show(b.toNat+32) % 256=_
   omega
 · rw [if_neg h,lowB_same h]
theorem check_ok {u:UrlD} (h:checkU u=0):longU u=false∧okU u=true∧formA u=false∧formB u=false∧(textU u).length≤120:=by
 unfold checkU at h
 cases h1:longU u with
 | true=>rw [h1] at h;simp at h
 | false =>
  rw [h1] at h
  simp only [Bool.false_eq_true,if_false] at h
  unfold chkU at h
  cases h2:okU u with
  | false=>rw [h2] at h;simp at h
  | true =>
   rw [h2] at h
   simp only [Bool.true_eq_false,if_false] at h
   cases h3:formA u with
   | true=>rw [h3] at h;simp at h
   | false =>
    cases h4:formB u with
    | true=>rw [h3,h4] at h;simp at h
    | false =>
     rw [h3,h4] at h
     simp only [Bool.or_self,Bool.false_eq_true,if_false] at h
     refine⟨rfl,rfl,rfl,rfl,?_⟩
     by_cases h5:120 < (textU u).length
     · rw [if_pos h5] at h;simp at h
     · omega
theorem takeWhile_all {p:UInt8→Bool} {l:List UInt8} (h:∀ b∈l,p b=true) (r:List UInt8):(l ++ r).takeWhile p=l ++ r.takeWhile p∧(l ++ r).dropWhile p=r.dropWhile p:=
 ⟨List.takeWhile_append_of_pos h,List.dropWhile_append_of_pos h⟩
theorem hasPrefix_two {s:List UInt8} (h:Lib.hasPrefix s [47,47]=true):s=47 :: 47 :: s.drop 2:=by
 unfold Lib.hasPrefix at h
 rw [List.isPrefixOf_iff_prefix] at h
 obtain⟨t,rfl⟩:=h
 rfl
end Go.Proofs.YtlgbopjhmemaoaaGreatDoor
namespace Go.Proofs.YtlgbopjhmemaoaaGreatDoor
open Go.RowKit
theorem char_any (x:Nat) (hx:x < 256) (w:World):Calls Tryz.prog 173 #[.int .u8 (x:Int)] w fun e w'=>e = .returned (.bool (charU x))∧w=w':=by
 by_cases h1:32 < x
 · by_cases h2:x≤126
   · have hi:=IndexByte_any noU x w
     rw [show charU x=decide (Lib.indexByte noU (UInt8.ofNat x) < 0) by simp [charU,h1,h2]]
     generalize Lib.indexByte noU (UInt8.ofNat x)=i at hi ⊢
     have Hi:=Lib.hid hi
     clear hi
     go_enter Tryz.func173,Tryz.ntmps173
     go_wp2_with fail
     refine Hi.out.mono ?_
     rintro e w1 ⟨rfl,rfl⟩
     go_wp2_with fail
     all_goals
      go_ret
      exact⟨rfl,rfl⟩
   · rw [show charU x=false by simp [charU,h2]]
     go_enter Tryz.func173,Tryz.ntmps173
     go_wp2_with fail
     go_ret
     exact⟨rfl,rfl⟩
 · rw [show charU x=false by simp [charU,h1]]
   go_enter Tryz.func173,Tryz.ntmps173
   go_wp2_with fail
   go_ret
   exact⟨rfl,rfl⟩
theorem lowerU_any (l:List UInt8) (w:World) (hl:l.length≤maxLen):Calls Tryz.prog 117 #[str l] w fun e w'=>e = .returned (str (lowL l))∧Below w.heap.size w w':=by
 unfold maxLen at hl
 obtain⟨c,w1,hconv,hown,hc,hb1,hsz⟩:=run_toOwn (P:=Tryz.prog) w 9 22 5 l Tryz.underlying9 Tryz.underlying22 Tryz.underlying5 rfl
 obtain⟨n,hn⟩:∃ n,n=l.length:=⟨_,rfl⟩
 rw [← hn] at hconv hl hc
 have Hn:=Lib.hid hn
 have Hown:=Lib.hid hown
 have Hsz:=Lib.hid hsz
 clear hn hown hsz
 go_enter Tryz.func117,Tryz.ntmps117
 go_wp2_with fail
 go_loopw [4,5,10] (fun _ _ iv wr=>LowRel w n l iv wr) (fun _ _ iv _=>n - (intOf iv).toNat)
 case atStart=>exact⟨0,by omega,rfl,hb1,by simpa using Hown.out⟩
 case round =>
  obtain⟨k,hk,rfl,hbel,hO⟩:=hrel
  have hlen:((l.take k).map lowB ++ l.drop k).length=n:=by
   simp only [List.length_append,List.length_map,List.length_take,List.length_drop];have:=Hn.out;omega
  by_cases hkn:k < n
  · have hkl:k < l.length:=by rw [← Hn.out];exact hkn
    have hfz:=hO.fz k (by rw [hlen];exact hkn)
    have hcell:wr.cell? ⟨w.heap.size,k,none⟩=some (.int .u8 (nth l k)):=by
     obtain⟨b,off,hA,_,hc⟩:=hO.by_.opn (by rw [hlen];omega)
     injection hA with hA
     injection hA with hA hB _
     subst hA
     subst hB
     have:=hc k (by rw [hlen];exact hkn)
     rw [Nat.zero_add] at this
     rw [this]
     have e:nth ((l.take k).map lowB ++ l.drop k) k=nth l k:=by
      have:((l.take k).map lowB).length=k:=by simp;omega
      unfold nth
      simp only [List.getD]
      rw [List.getElem?_append_right (by omega),this,Nat.sub_self,List.getElem?_drop,Nat.add_zero]
     rw [e]
    have hx:=nth_lt l k
    have hset:=(low_at l k hkl).2
    have hnk:l[k].toNat=nth l k:=(nth_of l k hkl).symm
    have hO2:=hO.set k (lowB l[k])
    rw [← hset] at hO2
    have HO:=Lib.hid hO
    have HO2:=Lib.hid hO2
    have Hset:=Lib.hid hset
    have Hnk:=Lib.hid hnk
    have Hlen:=Lib.hid hlen
    clear hset hnk hO hO2 hlen
    have hsame:¬ (65≤nth l k∧nth l k≤90)→LowRel w n l (.int .i64 ((k+1:Nat):Int)) wr:=by
     intro h
     refine⟨k+1,by omega,rfl,hbel,?_⟩
     have e:lowB l[k]=l[k]:=by
      unfold lowB
      rw [if_neg]
      intro⟨h1,h2⟩
      have h1:=UInt8.le_iff_toNat_le.1 h1
      have h2:=UInt8.le_iff_toNat_le.1 h2
      rw [Hnk.out] at h1 h2
      exact h ⟨h1,h2⟩
     rw [Hset.out,e]
     have e2:((l.take k).map lowB ++ l.drop k)[k]'(by rw [Hlen.out];exact hkn)=l[k]:=by
      have:((l.take k).map lowB).length=k:=by simp;omega
      rw [List.getElem_append_right (by omega)]
      simp only [List.getElem_drop]
      congr 1
      omega
     rw [← e2,List.set_getElem_self]
     exact HO.out
    by_cases h1:65≤nth l k
    · by_cases h2:nth l k≤90
      · clear hsame
        go_wp2_with fail
        refine⟨⟨k+1,by omega,by go_num,hbel.setCell (Nat.le_refl _) _,?_⟩,by simp [intOf];omega⟩
        have e:(lowB l[k]).toNat=nth l k+32:=by
         unfold lowB
         rw [if_pos ⟨UInt8.le_iff_toNat_le.2 (by rw [Hnk.out];exact h1),UInt8.le_iff_toNat_le.2 (by rw [Hnk.out];exact h2)⟩,UInt8.toNat_add,Hnk.out]
         show(nth l k+32) % 256=_
         omega
        have e2:((nth l k:Nat):Int)+97 - 65=(((lowB l[k]).toNat:Nat):Int):=by rw [e];omega
        rw [e2]
        exact HO2.out
      · have hs:=Lib.hid (hsame (by omega))
        clear hsame
        go_wp2_with fail
        exact⟨by have:=hs.out;simpa using this,by simp [intOf];omega⟩
    · have hs:=Lib.hid (hsame (by omega))
      clear hsame
      go_wp2_with fail
      exact⟨by have:=hs.out;simpa using this,by simp [intOf];omega⟩
  · have hkn':k=n:=by omega
    have hM:(l.take k).map lowB ++ l.drop k=lowL l:=by
     rw [hkn',List.take_of_length_le (by rw [← Hn.out];omega),List.drop_of_length_le (by rw [← Hn.out];omega),List.append_nil];rfl
    rw [hM] at hO hlen
    have hts:=run_toStr (P:=Tryz.prog) wr 22 9 5 _ (some ⟨w.heap.size,0,none⟩) n c (lowL l) (by have:=hO.by_;rw [hlen] at this;exact this) Tryz.underlying22 Tryz.underlying5 Tryz.underlying9
    clear hO hM hlen hkn'
    go_wp2_with fail
    go_ret
    exact⟨rfl,hbel⟩
theorem word1U_any (x b:Nat) (but:List UInt8) (hx:x < 256) (w:World) (hc:w.cell? ⟨b,0,none⟩=some (.string ⟨but.toArray⟩)):Calls Tryz.prog 172 #[.int .u8 (x:Int),.pointer (some ⟨b,0,none⟩)] w fun e w'=>e = .returned (.bool (badU but x))∧w=w':=by
 have hch:=fun W=>char_any x hx W
 unfold badU
 cases h:charU x with
 | false =>
  rw [h] at hch
  have Hch:=Lib.hid hch
  clear hch h
  go_enter Tryz.func172,Tryz.ntmps172
  go_wp2_with fail
  refine(Hch.out _).mono ?_
  rintro e w1 ⟨rfl,rfl⟩
  go_wp2_with fail
  go_ret
  exact⟨rfl,rfl⟩
 | true =>
  rw [h] at hch
  have hi:=fun W=>IndexByte_any but x W
  generalize Lib.indexByte but (UInt8.ofNat x)=i at hi ⊢
  have Hch:=Lib.hid hch
  have Hi:=Lib.hid hi
  clear hch h hi
  go_enter Tryz.func172,Tryz.ntmps172
  go_wp2_with fail
  refine(Hch.out _).mono ?_
  rintro e w1 ⟨rfl,rfl⟩
  go_wp2_with fail
  refine(Hi.out _).mono ?_
  rintro e w1 ⟨rfl,rfl⟩
  go_wp2_with fail
  all_goals
   go_ret
   exact⟨rfl,rfl⟩
theorem predWordU (b:Nat) (but:List UInt8) (w:World) (hb:b < w.heap.size) (hc:w.cell? ⟨b,0,none⟩=some (.string ⟨but.toArray⟩)):PredB 172 #[.pointer (some ⟨b,0,none⟩)] (badU but) w:=fun W x hx hW =>
 (word1U_any x b but hx W ((hW.cell (p:=⟨b,0,none⟩) hb).trans hc)).mono fun _e _w' ⟨h1,h2⟩=>⟨h1,h2 ▸ Below.refl _ _⟩
theorem wordU_any (s but:List UInt8) (w:World) (hl:s.length≤maxLen):Calls Tryz.prog 156 #[str s,.string ⟨but.toArray⟩] w fun e w'=>e = .returned (.bool (wordU s but))∧Below w.heap.size w w':=by
 have hb0:Below w.heap.size w (w.alloc (.cells #[.string ⟨but.toArray⟩] 9)):=(Below.refl _ w).alloc (Nat.le_refl _) _
 obtain⟨A,c,w1,hconv,hby,hnc,hb1,hlt1⟩:=run_toBytes (P:=Tryz.prog) (w.alloc (.cells #[.string ⟨but.toArray⟩] 9)) 9 22 5 s Tryz.underlying9 Tryz.underlying22 Tryz.underlying5
 have hc0:(w.alloc (.cells #[.string ⟨but.toArray⟩] 9)).cell? ⟨w.heap.size,0,none⟩=some (.string ⟨but.toArray⟩):=by rw [Go.Joins.cell_of_block (heap_alloc_new w _)];rfl
 have hc1:w1.cell? ⟨w.heap.size,0,none⟩=some (.string ⟨but.toArray⟩):=(hb1.cell (p:=⟨w.heap.size,0,none⟩) (by simp)).trans hc0
 have hcf:=ContainsFunc_bytes 172 #[.pointer (some ⟨w.heap.size,0,none⟩)] (enters_of Tryz.func172 (by kernel_rfl) rfl) (badU but) A s.length c _ s w1 hby (Nat.le_refl _) hl (predWordU w.heap.size but w1 (by simp at hlt1;omega) hc1)
 unfold wordU
 generalize s.any (fun b=>badU but b.toNat)=r at hcf ⊢
 have hbel1:=hb0.trans (hb1.mono hb0.size)
 have Hcf:=Lib.hid hcf
 clear hcf hby hc0 hc1 hb1 hb0
 go_enter Tryz.func156,Tryz.ntmps156
 go_wp2_with fail
 refine Hcf.out.mono ?_
 rintro e w2 ⟨rfl,hb2⟩
 go_wp2_with fail
 go_ret
 exact⟨rfl,hbel1.trans (hb2.mono hbel1.size)⟩
theorem all_missU (l:List UInt8) (p:Nat→Bool) (k:Nat) (hk:k < l.length) (h:p (nth l k)=false):l.all (fun b=>p b.toNat)=false:=by
 rw [List.all_eq_false]
 exact⟨l[k],List.getElem_mem hk,by rw [← nth_of l k hk,h];simp⟩
theorem all_hitU (l:List UInt8) (p:Nat→Bool) (h:∀ j,j < l.length→p (nth l j)=true):l.all (fun b=>p b.toNat)=true:=by
 rw [List.all_eq_true]
 intro x hx
 obtain⟨j,hj,rfl⟩:=List.getElem_of_mem hx
 rw [← nth_of l j hj,h j hj]
theorem schemeU_any (l:List UInt8) (w:World) (hl:l.length≤maxLen):Calls Tryz.prog 116 #[str l] w fun e w'=>e = .returned (.bool (schemeU l))∧Below w.heap.size w w':=by
 unfold maxLen at hl
 obtain⟨A,c,w1,hconv,hby,hnc,hb1,hlt1⟩:=run_toBytes (P:=Tryz.prog) w 9 22 5 l Tryz.underlying9 Tryz.underlying22 Tryz.underlying5
 obtain⟨n,hn⟩:∃ n,n=l.length:=⟨_,rfl⟩
 rw [← hn] at hconv hl hby hnc
 obtain⟨R,hR⟩:∃ R,R=schemeU l:=⟨_,rfl⟩
 rw [← hR]
 rw [lowC_scheme] at hR
 have Hn:=Lib.hid hn
 have HR:=Lib.hid hR
 have Hby:=Lib.hid hby
 clear hn hR hby
 go_enter Tryz.func116,Tryz.ntmps116
 go_wp2_with fail
 go_loopw [3,4,8] (fun _ _ iv wr=>∃ k:Nat,k≤n∧iv = .int .i64 k∧wr=w1∧Hid (∀ j,j < k→schC (nth l j)=true∧(j=0→schA (nth l j)=true))) (fun _ _ iv _=>n - (intOf iv).toNat)
 case atStart=>exact⟨0,by omega,rfl,rfl,fun j hj=>absurd hj (by omega)⟩
 case round =>
  obtain⟨k,hk,rfl,rfl,hz⟩:=hrel
  by_cases hkn:k < n
  · obtain⟨b,off,rfl,_,hcell⟩:=Hby.out.at_ hkn
    have hx:=nth_lt l k
    have hkl:k < l.length:=by rw [← Hn.out];exact hkn
    have hbad:(schA (nth l k)=false∧(k=0∨schC (nth l k)=false))→R=false:=by
     rintro⟨h1,h2⟩
     rw [HR.out,Bool.and_eq_false_iff]
     rcases h2 with rfl | h2
     · right
       have:l≠[]:=by intro e;rw [e] at hkl;simp at hkl
       simp [this,h1]
     · left
       exact all_missU l schC k hkl h2
    have hgood:(schA (nth l k)=true∨(k≠0∧schC (nth l k)=true))→∀ j,j < k+1→schC (nth l j)=true∧(j=0→schA (nth l j)=true):=by
     intro h j hj
     rcases Nat.lt_or_ge j k with h' | h'
     · exact hz.out j h'
     · obtain rfl:j=k:=by omega
       rcases h with h | ⟨h1,h2⟩
       · exact⟨by unfold schA at h;unfold schC;simp only [h,Bool.true_or],fun _=>h⟩
       · exact⟨h2,fun e=>absurd e h1⟩
    have Hbad:=Lib.hid hbad
    have Hgood:=Lib.hid hgood
    clear hbad hgood
    generalize nth l k=x at hcell hx Hbad Hgood
    obtain⟨q3,d3,e3⟩:∃ q:Bool,((k:Int) == 0)=q∧(q=true↔k=0):=⟨_,rfl,by simp⟩
    obtain⟨q6,d6,e6⟩:∃ q:Bool,((x:Int) != 43)=q∧(q=true↔x≠43):=⟨_,rfl,by simp;omega⟩
    obtain⟨q7,d7,e7⟩:∃ q:Bool,((x:Int) != 45)=q∧(q=true↔x≠45):=⟨_,rfl,by simp;omega⟩
    obtain⟨q8,d8,e8⟩:∃ q:Bool,((x:Int) != 46)=q∧(q=true↔x≠46):=⟨_,rfl,by simp;omega⟩
    by_cases p1:x < 97 <;> by_cases p2:122 < x <;> by_cases p4:x < 48 <;> by_cases p5:57 < x <;> cases q3 <;> cases q6 <;> cases q7 <;> cases q8 <;> simp at e3 e6 e7 e8 <;> (try (exfalso;omega))
    all_goals
     have E3:=Lib.hid e3
     have E6:=Lib.hid e6
     have E7:=Lib.hid e7
     have E8:=Lib.hid e8
     clear e3 e6 e7 e8
     go_wp2_with fail
     first
     | (go_ret
        have hRf:=Hbad.out ⟨by simp [schA];omega,by first | exact .inl E3.out | (right;have:=E6.out;have:=E7.out;have:=E8.out;simp [schC];omega)⟩
        exact⟨by rw [hRf];rfl,hb1⟩)
     | exact⟨⟨k+1,by omega,by go_num,trivial,Hgood.out (by first | (left;simp [schA];omega) | (right;have:=E3.out;have:=E6.out;have:=E7.out;have:=E8.out;exact⟨by omega,by simp [schC];omega⟩))⟩,by simp [intOf];omega⟩
  · have hRt:R=true:=by
     rw [HR.out,Bool.and_eq_true]
     refine⟨all_hitU l schC fun j hj=>(hz.out j (by rw [← Hn.out] at hj;omega)).1,?_⟩
     rcases Nat.eq_zero_or_pos l.length with h | h
     · rw [List.eq_nil_of_length_eq_zero h];rfl
     · rw [(hz.out 0 (by rw [← Hn.out] at h;omega)).2 rfl];simp
    have HRt:=Lib.hid hRt
    clear hRt
    go_wp2_with fail
    go_ret
    exact⟨by rw [HRt.out];rfl,hb1⟩
theorem first_any (l:List UInt8) (w:World) (hl:l.length≤maxLen):Calls Tryz.prog 157 #[str l] w fun e w'=>e = .returned (str (Lib.cut l [47]).1)∧Below w.heap.size w w':=by
 have h:=Cut_one l 47 w hl
 generalize Lib.cut l [47]=x at h ⊢
 obtain⟨a,b,d⟩:=x
 have H:=Lib.hid h
 clear h
 go_enter Tryz.func157,Tryz.ntmps157
 go_wp2_with fail
 refine H.out.mono ?_
 rintro e w1 ⟨rfl,q,rfl⟩
 go_wp2_with fail
 go_ret
 exact⟨rfl,belN (Below.refl _ _) q⟩
end Go.Proofs.YtlgbopjhmemaoaaGreatDoor
namespace Go.Proofs.YtlgbopjhmemaoaaGreatDoor
theorem splitC_ne (c:UInt8):∀ l,splitC c l≠[]
 | []=>by simp [splitC]
 | b :: l=>by
  unfold splitC
  by_cases h:b=c
  · rw [if_pos h];simp
  · rw [if_neg h]
    cases h2:splitC c l <;> simp [consHead]
theorem joinC_cons (c:UInt8) (x y:List UInt8) (r):joinC c (x :: y :: r)=x ++ c :: joinC c (y :: r):=rfl
theorem joinC_head (c b:UInt8) (x:List UInt8) (r):joinC c ((b :: x) :: r)=b :: joinC c (x :: r):=by
 cases r <;> rfl
theorem join_split (c:UInt8):∀ l,joinC c (splitC c l)=l
 | []=>rfl
 | b :: l=>by
  have ih:=join_split c l
  have hne:=splitC_ne c l
  unfold splitC
  by_cases h:b=c
  · rw [if_pos h]
    cases h2:splitC c l with
    | nil=>exact absurd h2 hne
    | cons x r=>rw [h2] at ih;rw [joinC_cons,ih,h];rfl
  · rw [if_neg h]
    cases h2:splitC c l with
    | nil=>exact absurd h2 hne
    | cons x r=>rw [h2] at ih;show joinC c ((b :: x) :: r)=_;rw [joinC_head,ih]
theorem splitC_free (c:UInt8):∀ l,∀ x∈splitC c l,c ∉ x
 | []=>by simp [splitC]
 | b :: l=>by
  have ih:=splitC_free c l
  unfold splitC
  by_cases h:b=c
  · rw [if_pos h]
    intro x hx
    simp only [List.mem_cons] at hx
    rcases hx with rfl | hx
    · simp
    · exact ih x hx
  · rw [if_neg h]
    have hb:c≠b:=fun e=>h e.symm
    cases h2:splitC c l with
    | nil=>simp [consHead,hb]
    | cons x r =>
     rw [h2] at ih
     intro y hy
     simp only [consHead,List.mem_cons] at hy
     rcases hy with rfl | hy
     · simp only [List.mem_cons,not_or];exact⟨hb,ih x (by simp)⟩
     · exact ih y (by simp [hy])
def Good (L:List (List UInt8)):Prop:=∀ x∈L,(47:UInt8) ∉ x∧isDot x=false
theorem Good.app {a b:List (List UInt8)} (h1:Good a) (h2:Good b):Good (a ++ b):=by
 intro x hx
 rcases List.mem_append.1 hx with h | h
 · exact h1 x h
 · exact h2 x h
theorem Good.pop {a:List (List UInt8)} (h:Good a):Good (popU a):=by
 unfold popU
 split
 · intro x hx;exact h x ((List.dropLast_sublist _).subset hx)
 · exact h
theorem good_nil1:Good [[]]:=by intro x hx;simp at hx;subst hx;exact⟨by simp,rfl⟩
theorem Good.step {last:Bool} {out:List (List UInt8)} {s:List UInt8} (h:Good out) (hs:(47:UInt8) ∉ s):Good (dotStep last out s):=by
 unfold dotStep
 by_cases h1:s = [46]
 · rw [if_pos h1]
   cases last
   · exact h
   · exact h.app good_nil1
 · rw [if_neg h1]
   by_cases h2:s = [46,46]
   · rw [if_pos h2]
     cases last
     · exact h.pop
     · exact h.pop.app good_nil1
   · rw [if_neg h2]
     refine h.app ?_
     intro x hx
     simp only [List.mem_singleton] at hx
     subst hx
     refine⟨hs,?_⟩
     unfold isDot
     rw [Bool.or_eq_false_iff,beq_eq_false_iff_ne,beq_eq_false_iff_ne]
     exact⟨h1,h2⟩
theorem prefix_one {p:List UInt8}:Lib.hasPrefix p [47]=true↔p≠[]∧nth p 0=47:=by
 cases p with
 | nil=>simp [Lib.hasPrefix,List.isPrefixOf]
 | cons a r =>
  have:nth (a :: r) 0=a.toNat:=rfl
  rw [this]
  simp only [Lib.hasPrefix,List.isPrefixOf,Bool.and_true,beq_iff_eq,ne_eq,reduceCtorEq,not_false_eq_true,true_and]
  constructor
  · intro h;rw [← h];rfl
  · intro h;exact(UInt8.toNat_inj.1 h).symm
theorem end_same {x:UrlD} (h:checkU x=0):endU x=(x,0):=by
 obtain⟨_,_,_,h1,_⟩:=check_ok h
 unfold endU
 rw [if_neg,if_pos h]
 intro hc
 rw [Bool.and_eq_true,Bool.not_eq_true'] at hc
 unfold formB at h1
 rw [hc.1] at h1
 simp only [Bool.false_eq_true,if_false,Bool.or_eq_false_iff] at h1
 rw [h1.1] at hc
 exact absurd hc.2 (by simp)
end Go.Proofs.YtlgbopjhmemaoaaGreatDoor
