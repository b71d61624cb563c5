import Derived.Test.YtlgbopjhmemaoaaGreatDoorU14
import Derived.Test.YtlgbopjhmemaoaaGreatDoorU2
import Derived.Test.YtlgbopjhmemaoaaGreatDoorU11
import Derived.Lib.Join
import Derived.Lib.Split
import Derived.Test.YtlgbopjhmemaoaaGreatDoorU1
import Derived.Lib.IndexLaws
import Derived.Test.YtlgbopjhmemaoaaGreatDoorU3
set_option maxRecDepth 100000
set_option maxHeartbeats 40000000
namespace Go.Proofs.YtlgbopjhmemaoaaGreatDoor
open Go.RowKit
theorem clearNone (w:World) (ty:TypeId) (A:Option Addr) (c:Nat):(Builtin.clear_ #[22] ty #[.slice A 0 c]).run Tryz.prog w = .ok (.tuple #[]) w:=by
 cases A <;> simp [Builtin.clear_,run_underlying Tryz.underlying22]
theorem clearB {w:World} {g:Nat} {cur:List Value} (h:Bf w g cur) (ty:TypeId) (o n c:Nat) (hn:0 < n) (hl:o+n≤cur.length) :
 (Builtin.clear_ #[22] ty #[.slice (some ⟨g,o,none⟩) n c]).run Tryz.prog w = .ok (.tuple #[]) (w.setCells g o (List.replicate n (.int .u8 0))):=
 Lib.run_clear_slice w 22 5 ty (.int .u8 0) Tryz.underlying22 zeroU8 rfl rfl g o n c hn (fun j hj=>by rw [h.cell,List.getElem?_eq_getElem (by omega)];rfl) (fun j _=>h.fz _)
theorem overlaps_first (w:World) (a b:Addr) (la ca lb cb:Nat) (hne:a.block≠b.block) (tA tB:TypeId) (kA kB:Nat)
 (hsa:w.shape? a.block=some (tA,kA)) (hsb:w.shape? b.block=some (tB,kB)) (hkB:kB≠0) (hfa:w.frozen? a=false) (hfe:w.frozen? { block:=a.block,off:=kA } = false) :
 (callFunc 94 #[.slice (some a) la ca,.slice (some b) lb cb]).run Tryz.prog w = .ok (.value (.bool false)) w:=by
 rw [run_callFunc_extern Tryz.func94 (by kernel_rfl) (by kernel_rfl) (by kernel_rfl) (e:=Extern.SlicesOverlaps.overlaps #[22,22] #[4]) (by kernel_rfl),
  Lib.run_overlaps_apart w 22 4 5 Tryz.underlying22 1 (fun w=>by kernel_rfl) a b la ca lb cb hne tA tB kA kB hsa hsb hkB hfa hfe]
 rfl
theorem appRoom {w:World} {g:Nat} {cur:List Value} (h:Bf w g cur) (ty:TypeId) (i c vb voff m vc:Nat) (t:List UInt8) (hc:cur.length=c) (htl:t.length=m) (hf:i+m≤c) (hval:∀ j v,(Lib.byteCells t)[j]? = some v→w.cell? ⟨vb,voff+j,none⟩=some v) :
 (Builtin.append_ #[22,22] ty #[.slice (some ⟨g,0,none⟩) i c,.slice (some ⟨vb,voff,none⟩) m vc]).run Tryz.prog w = .ok (.slice (some ⟨g,0,none⟩) (i+m) c) (w.setRow g (cur.take i ++ Lib.byteCells t ++ cur.drop (i+(Lib.byteCells t).length)).toArray):=by
 obtain⟨i0,hi0,hz0,hz1,hz2⟩:=info_parts infoByte
 have hr:=run_append_room (P:=Tryz.prog) w 22 ty 5 i0 Tryz.underlying22 hi0 g i c cur.toArray h ⟨vb,voff,none⟩ m vc (Lib.byteCells t) (by rw [byteCells_len,hz1,htl,Nat.mul_one]) (fun j u hj=>by rw [Addr.add_lit];exact hval j u hj) (oneCell_byteCells t) hf (by rw [byteCells_len,htl,hz1];simp;omega)
 rw [hz1,Nat.mul_one] at hr
 exact hr
theorem Rep_eq (base g n c i j vb voff m vc:Nat) (cur:List Value) (l t:List UInt8) (w:World) (h:RepIn w base g n c i vb voff m cur l t) (hij:i=j) :
 Calls Tryz.prog 50 #[.slice (some ⟨g,0,none⟩) n c,.int .i64 (i:Nat),.int .i64 (j:Nat),.slice (some ⟨vb,voff,none⟩) m vc] w (RepOut w base (l.take i ++ (t ++ l.drop j))):=by
 have h':=h
 have hI:=fun X=>Insert_any base g n c i vb voff m vc cur l t X
 have hI:=hI w h
 obtain⟨hb,hbase,hnc,hcm,hcl,htk,hln,hin,hm,htl,hval,hne,hbig⟩:=h
 unfold RepOut
 have hbw:base≤w.heap.size:=by have:=hb.lt;omega
 have i0':(0:Int)≤(i:Int):=by omega
 have i1':(i:Int)≤(n:Int):=by omega
 have j0':(0:Int)≤(j:Int):=by omega
 have j1':(j:Int)≤(n:Int):=by omega
 have ij':(i:Int)≤(j:Int):=by omega
 have nc':(n:Int)≤(c:Int):=by omega
 have jc':(j:Int)≤(c:Int):=by omega
 have ic':(i:Int)≤(c:Int):=by omega
 have hcm':c≤9223372036854775807:=by unfold maxLen at hcm;omega
 subst hij
 have hid1:((i:Int) == (i:Int))=true:=by simp
 unfold RepOut at hI
 obtain⟨N,hN⟩:∃ N,N=(l.take i ++ (t ++ l.drop i)).length:=⟨_,rfl⟩
 rw [← hN] at hI ⊢
 have HI:=Lib.hid hI
 clear hI h' hb hval htk hN
 by_cases hci:c=i
 · subst hci
   go_enter Tryz.func50,Tryz.ntmps50
   go_wp2_with fail
   refine HI.out.mono ?_
   rintro e w' ⟨S',c',rfl,h1,h2⟩
   go_wp2_with fail
   go_ret
   exact⟨S',c',rfl,h1,h2⟩
 · go_enter Tryz.func50,Tryz.ntmps50
   go_wp2_with fail
   refine HI.out.mono ?_
   rintro e w' ⟨S',c',rfl,h1,h2⟩
   go_wp2_with fail
   go_ret
   exact⟨S',c',rfl,h1,h2⟩
theorem Rep_end (base g n c i j vb voff m vc:Nat) (cur:List Value) (l t:List UInt8) (w:World) (h:RepIn w base g n c i vb voff m cur l t) (hij:i < j) (hjn:j=n) :
 Calls Tryz.prog 50 #[.slice (some ⟨g,0,none⟩) n c,.int .i64 (i:Nat),.int .i64 (j:Nat),.slice (some ⟨vb,voff,none⟩) m vc] w (RepOut w base (l.take i ++ (t ++ l.drop j))):=by
 obtain⟨hb,hbase,hnc,hcm,hcl,htk,hln,hin,hm,htl,hval,hne,hbig⟩:=h
 unfold RepOut
 have hbw:base≤w.heap.size:=by have:=hb.lt;omega
 have i0':(0:Int)≤(i:Int):=by omega
 have i1':(i:Int)≤(n:Int):=by omega
 have j0':(0:Int)≤(j:Int):=by omega
 have j1':(j:Int)≤(n:Int):=by omega
 have ij':(i:Int)≤(j:Int):=by omega
 have nc':(n:Int)≤(c:Int):=by omega
 have jc':(j:Int)≤(c:Int):=by omega
 have ic':(i:Int)≤(c:Int):=by omega
 have hcm':c≤9223372036854775807:=by unfold maxLen at hcm;omega
 subst hjn
 have hci:¬ (c=i):=by omega
 have hneq:((i:Int) == (j:Int))=false:=by simp;omega
 have hneq':¬ ((i:Int)=(j:Int)):=by omega
 have htc:(Lib.byteCells t).length=m:=by rw [byteCells_len,htl]
 obtain⟨i0,hi0,hz0,hz1,hz2⟩:=info_parts infoByte
 have hrl:(l.take i ++ (t ++ l.drop j)).length=i+m:=by simp;omega
 have he:l.take i ++ (t ++ l.drop j)=l.take i ++ t:=by rw [List.drop_of_length_le (by omega),List.append_nil]
 rw [hrl,he]
 rw [he] at hrl
 by_cases hs:i+m < j
 · have hs1:(i:Int)+(m:Int) < (j:Int):=by omega
   have ds:decide ((i:Int)+(m:Int) < (j:Int))=true:=by simpa using hs1
   have im0:(0:Int)≤(i:Int)+(m:Int):=by omega
   have im1:(i:Int)+(m:Int)≤(j:Int):=by omega
   have tim:((i:Int)+(m:Int)).toNat=i+m:=by omega
   have hcim:¬ (c=i+m):=by omega
   obtain⟨cur1,hc1⟩:∃ x,x=cur.take i ++ Lib.byteCells t ++ cur.drop (i+(Lib.byteCells t).length):=⟨_,rfl⟩
   obtain⟨W1,hW1⟩:∃ W1,W1=w.setRow g cur1.toArray:=⟨_,rfl⟩
   have hap:∀ ty,(Builtin.append_ #[22,22] ty #[.slice (some ⟨g,0,none⟩) i c,.slice (some ⟨vb,voff,none⟩) m vc]).run Tryz.prog w = .ok (.slice (some ⟨g,0,none⟩) (i+m) c) W1:=fun ty=>by
    rw [hW1,hc1]
    exact appRoom hb ty i c vb voff m vc t hcl htl (by omega) hval
   have hb1:Bf W1 g cur1:=by rw [hW1];exact hb.set
   have hl1:cur1.length=c:=by rw [hc1,List.length_append,List.length_append,List.length_take,List.length_drop,htc];omega
   have ht1:cur1.take (i+m)=Lib.byteCells (l.take i ++ t):=by
    rw [hc1,List.take_left' (by rw [List.length_append,List.length_take,htc];omega),cur_take htk i hin]
    simp [Lib.byteCells]
   obtain⟨W2,hW2⟩:∃ W2,W2=W1.setCells g (i+m) (List.replicate (j - (i+m)) (.int .u8 0)):=⟨_,rfl⟩
   have hcl1:∀ ty dc,(Builtin.clear_ #[22] ty #[.slice (some ⟨g,i+m,none⟩) (j - (i+m)) dc]).run Tryz.prog W1 = .ok (.tuple #[]) W2:=fun ty dc=>by
    rw [hW2]
    exact clearB hb1 ty (i+m) _ dc (by omega) (by omega)
   have hb2:=Bf.sets (List.replicate (j - (i+m)) (.int .u8 0)) (i+m) W1 cur1 hb1 (by rw [List.length_replicate];omega)
   rw [← hW2] at hb2
   have hfin:W2.ownsRow base 5 1 (.slice (some ⟨g,0,none⟩) (i+m) c) (i+m) (Lib.byteCells (l.take i ++ t)):=by
    refine hb2.own hbase (by omega) hcm ?_ ?_ hrl
    · rw [List.length_append,List.length_append,List.length_take,List.length_drop,List.length_replicate];omega
    · rw [List.append_assoc,List.take_left' (by rw [List.length_take];omega)]
      exact ht1
   have hbel:Below base w W2:=by
    rw [hW2,hW1]
    exact below_sets hbase _ _ _ _ (below_setRow (Below.refl _ _) hbase _)
   have Hfin:=Lib.hid (And.intro hfin hbel)
   clear hfin hbel hval htk hb hb1 hb2 hc1 hW1 hW2 hl1 ht1
   go_enter Tryz.func50,Tryz.ntmps50
   go_wp2_with (at_builtin;refine Lib.wpList_append_run _ rfl _ _ _ _ rfl _ _ rfl rfl _ _ (hap _) ?_)
   go_ret
   exact⟨_,_,rfl,Hfin.out.1,Hfin.out.2⟩
 · have hs1:¬ ((i:Int)+(m:Int) < (j:Int)):=by omega
   have ds:decide ((i:Int)+(m:Int) < (j:Int))=false:=by simpa using hs1
   have hown:w.ownsRow base 5 1 (.slice (some ⟨g,0,none⟩) i c) i (Lib.byteCells (l.take i)):=hb.own hbase (by omega) hcm hcl (cur_take htk i hin) (by rw [List.length_take];omega)
   have hsl:Sl w (vb+1) 1 (some ⟨vb,voff,none⟩) m (Lib.byteCells t):=⟨by rw [byteCells_len];omega,fun _=>⟨vb,voff,rfl,by omega,hval⟩⟩
   have hone:=oneCell_byteCells t
   have h63:i+m≤maxLen:=by unfold maxLen;omega
   have h47:(i+m) * 1≤140737488355328:=by omega
   have Hown:=Lib.hid hown
   have Hsl:=Lib.hid hsl
   clear hown hsl hval htk hb hcl hrl he
   go_enter Tryz.func50,Tryz.ntmps50
   go_wp2_with (at_builtin;refine wpList_app rfl _ _ 22 rfl base 5 i0 _ 1 1 Tryz.underlying22 hi0 hz0 hz1 hz2 rfl (by decide) (some ⟨g,0,none⟩) i c (Lib.byteCells (l.take i)) rfl Hown.out _ _ m vc (Lib.byteCells t) rfl Hsl.out hone h63 h47 hbw ?_)
   intro S' c' w' hown' hb' hg'
   go_wp2_with fail
   go_ret
   refine⟨S',c',rfl,?_,hb'⟩
   rw [byteCells_append]
   exact hown'
theorem Rep_grow (base g n c i j vb voff m vc:Nat) (cur:List Value) (l t:List UInt8) (w:World) (h:RepIn w base g n c i vb voff m cur l t) (hij:i < j) (hjn:j < n) (hgt:c < i+m+(n - j)) :
 Calls Tryz.prog 50 #[.slice (some ⟨g,0,none⟩) n c,.int .i64 (i:Nat),.int .i64 (j:Nat),.slice (some ⟨vb,voff,none⟩) m vc] w (RepOut w base (l.take i ++ (t ++ l.drop j))):=by
 obtain⟨hb,hbase,hnc,hcm,hcl,htk,hln,hin,hm,htl,hval,hne,hbig⟩:=h
 unfold RepOut
 have hbw:base≤w.heap.size:=by have:=hb.lt;omega
 have i0':(0:Int)≤(i:Int):=by omega
 have i1':(i:Int)≤(n:Int):=by omega
 have j0':(0:Int)≤(j:Int):=by omega
 have j1':(j:Int)≤(n:Int):=by omega
 have ij':(i:Int)≤(j:Int):=by omega
 have nc':(n:Int)≤(c:Int):=by omega
 have jc':(j:Int)≤(c:Int):=by omega
 have ic':(i:Int)≤(c:Int):=by omega
 have hcm':c≤9223372036854775807:=by unfold maxLen at hcm;omega
 have hci:¬ (c=i):=by omega
 have hneq:((i:Int) == (j:Int))=false:=by simp;omega
 have hneq':¬ ((i:Int)=(j:Int)):=by omega
 have htc:(Lib.byteCells t).length=m:=by rw [byteCells_len,htl]
 have hjn1:((j:Int) == (n:Int))=false:=by simp;omega
 have hjn2:¬ ((j:Int)=(n:Int)):=by omega
 have hcj:¬ (c=j):=by omega
 obtain⟨q,hq⟩:∃ q,q=n - j:=⟨_,rfl⟩
 have hq1:n - j=q:=hq.symm
 have Hq:=Lib.hid hq
 have hq0:¬ (q=0):=by omega
 have hm0:¬ (m=0):=by omega
 have wim:IntKind.i64.wrap ((i:Int)+(m:Int))=(i:Int)+(m:Int):=by rw [IntKind.wrap_i64];omega
 have wimq:IntKind.i64.wrap ((i:Int)+(m:Int)+(q:Int))=(i:Int)+(m:Int)+(q:Int):=by rw [IntKind.wrap_i64];omega
 have tim:((i:Int)+(m:Int)).toNat=i+m:=by omega
 have im0:(0:Int)≤(i:Int)+(m:Int):=by omega
 have im1:(i:Int)+(m:Int)≤(i:Int)+(m:Int)+(q:Int):=by omega
 have im2:(i:Int)≤(i:Int)+(m:Int)+(q:Int):=by omega
 have ttot:((i:Int)+(m:Int)+(q:Int)).toNat=i+m+q:=by omega
 have tot0:(0:Int)≤(i:Int)+(m:Int)+(q:Int):=by omega
 have hdl:(Lib.byteCells (l.drop j)).length=q:=by rw [byteCells_len,List.length_drop,hln,hq]
 have hrl:(l.take i ++ (t ++ l.drop j)).length=i+m+q:=by simp;omega
 rw [hrl]
 have mixed:Tryz.prog.follows Departure.mixedOrders=true:=by kernel_rfl
 have HH:=Lib.hid (And.intro hb (And.intro hcl (And.intro htk hval)))
 rw [hq1] at hgt
 have dgt:decide ((c:Int) < (i:Int)+(m:Int)+(q:Int))=true:=by simp;omega
 have ngt:(c:Int) < (i:Int)+(m:Int)+(q:Int):=by omega
 have wsub:IntKind.i64.wrap ((i:Int)+(m:Int)+(q:Int) - (i:Int))=(i:Int)+(m:Int)+(q:Int) - (i:Int):=by rw [IntKind.wrap_i64];omega
 clear hb hcl htk hval hq
 go_enter Tryz.func50,Tryz.ntmps50
 go_wp2_with fail
 go_quiet (fail)
 generalize hW0':World.drewN w _=W0'
 obtain⟨hb,hcl,htk,hval⟩:=HH.out
 have hq:=Hq.out
 have hbd:Bf W0' g cur:=by rw [← hW0'];exact hb
 have hbelD:Below base w W0':=by rw [← hW0'];exact belN (Below.refl _ _) _
 have hsD:W0'.heap.size=w.heap.size:=by rw [← hW0'];rfl
 have hcD:∀ a,W0'.cell? a=w.cell? a:=fun a=>by rw [← hW0'];rfl
 rw [← hsD] at hbw
 obtain⟨C,cur0,W0,hrz,hb0,hcl0,hC1,hC2,htk0,hbel0,hold⟩:=growZ hbd base i c (i+m+q) ((i:Int)+(m:Int)+(q:Int) - (i:Int)) hbw hcl (by omega) (by omega) hgt (by omega) (by omega)
 have hvw:vb < W0'.heap.size:=by
  have:=hval 0 ((Lib.byteCells t)[0]'(by omega)) (List.getElem?_eq_getElem (by omega))
  rw [hsD]
  exact World.block_lt_of_cell? _ _ this
 have hgw:=hbd.lt
 have htk1:cur0.take i=Lib.byteCells (l.take i):=by rw [htk0];exact cur_take htk i hin
 obtain⟨hl1,hl2,hl3,_⟩:=front_then (t:=t) (r:=l.drop j) htk1 (Nat.le_refl _) (by omega) (by rw [List.length_drop];omega)
 rw [htl,List.take_take,Nat.min_self] at hl3
 rw [htl] at hl2
 obtain⟨cur1,hc1⟩:∃ x,x=cur0.take i ++ Lib.byteCells t ++ cur0.drop (i+(Lib.byteCells t).length):=⟨_,rfl⟩
 rw [← hc1] at hl1 hl2 hl3
 obtain⟨cur2,hc2⟩:∃ x,x=cur1.take (i+m) ++ Lib.byteCells (l.drop j) ++ cur1.drop (i+m+(Lib.byteCells (l.drop j)).length):=⟨_,rfl⟩
 rw [← hc2] at hl2 hl3
 obtain⟨G,hG⟩:∃ G,G=W0'.heap.size:=⟨_,rfl⟩
 rw [← hG] at hrz hb0 hold hvw hgw
 obtain⟨W1,hW1⟩:∃ W1,W1=W0.setRow G cur1.toArray:=⟨_,rfl⟩
 have hb1:Bf W1 G cur1:=by rw [hW1];exact hb0.set
 have hcp1:∀ ty dc,(Builtin.copy_ #[22,22] ty #[.slice (some ⟨G,i,none⟩) (i+m+q - i) dc,.slice (some ⟨vb,voff,none⟩) m vc]).run Tryz.prog W0 = .ok (goInt (Lib.byteCells t).length) W1:=fun ty dc=>by
  rw [hW1,hc1]
  exact copyB hb0 ty i _ dc ⟨vb,voff,none⟩ _ vc _ (by rw [htc];simp only [Nat.min_def];split <;> omega) (fun k v hk=>by rw [Addr.add_lit,hold _ hvw,hcD];exact hval k v hk) (by rw [htc,hcl0];omega) (oneCell_byteCells _)
 obtain⟨W2,hW2⟩:∃ W2,W2=W1.drew.setRow G cur2.toArray:=⟨_,rfl⟩
 have hb1d:Bf W1.drew G cur1:=hb1
 have hb2:Bf W2 G cur2:=by rw [hW2];exact hb1d.set
 have hcp2:∀ ty dl dc sl sc,dl=q→sl=q→(Builtin.copy_ #[22,22] ty #[.slice (some ⟨G,i+m,none⟩) dl dc,.slice (some ⟨g,j,none⟩) sl sc]).run Tryz.prog W1.drew = .ok (goInt (Lib.byteCells (l.drop j)).length) W2:=fun ty dl dc sl sc hdl1 hsl1=>by
  rw [hdl1,hsl1,hW2,hc2]
  exact copyB hb1d ty (i+m) _ dc ⟨g,j,none⟩ _ sc _ (by rw [hdl];simp only [Nat.min_def];split <;> omega) (fun k v hk=>by
   rw [Addr.add_lit]
   have e:W1.drew.cell? ⟨g,j+k,none⟩=W0'.cell? ⟨g,j+k,none⟩:=by
    show W1.cell? _=_
    rw [hW1,cell_setRow_other _ _ _ _ (by show g≠G;omega)]
    exact hold _ hgw
   rw [e,hbd.cell]
   exact cur_at htk hln j k v hk) (by rw [hdl,hl1,hcl0];omega) (oneCell_byteCells _)
 have hCi:¬ (C=i):=by omega
 have hCim:¬ (C=i+m):=by omega
 have hC3:C≤9223372036854775807:=by unfold maxLen at hC2;omega
 have hfin:W2.ownsRow base 5 1 (.slice (some ⟨G,0,none⟩) (i+m+q) C) (i+m+q) (Lib.byteCells (l.take i ++ (t ++ l.drop j))):=
  hb2.own (by omega) hC1 hC2 (by rw [hl2,hcl0]) (by rw [← hl3];congr 1;rw [List.length_drop];omega) hrl
 have hbel:Below base w W2:=by
  rw [hW2,hW1]
  exact hbelD.trans ((below_setRow (below_setRow hbel0 (by omega) _).drew (by omega) _))
 have Hfin:=Lib.hid (And.intro hfin hbel)
 clear hfin hbel hbel0 hbelD hval htk htk0 htk1 hb hbd hb0 hb1 hb1d hb2 hc1 hc2 hW1 hW2 hl1 hl2 hl3 hold hG hsD hcD hW0' hq
 go_wp2_with (at_builtin;refine Lib.wpList_append_run _ rfl _ _ _ _ rfl _ _ rfl rfl _ _ (hrz _) ?_)
 go_region_law_o (refine step_copyR rfl _ _ 22 22 rfl _ _ (by simp [Act.eval,Act.put]) (by simp [Act.eval,Act.put]) (hcp2 _ _ _ _ _ (by omega) (by omega)) ?_)
 go_wp2_with fail
 go_ret
 exact⟨_,_,rfl,Hfin.out.1,Hfin.out.2⟩
theorem Rep_less (base g n c i j vb voff m vc:Nat) (cur:List Value) (l t:List UInt8) (w:World) (h:RepIn w base g n c i vb voff m cur l t) (hij:i < j) (hjn:j < n) (hgt:i+m+(n - j)≤c) (hle:i+m≤j) :
 Calls Tryz.prog 50 #[.slice (some ⟨g,0,none⟩) n c,.int .i64 (i:Nat),.int .i64 (j:Nat),.slice (some ⟨vb,voff,none⟩) m vc] w (RepOut w base (l.take i ++ (t ++ l.drop j))):=by
 obtain⟨hb,hbase,hnc,hcm,hcl,htk,hln,hin,hm,htl,hval,hne,hbig⟩:=h
 unfold RepOut
 have hbw:base≤w.heap.size:=by have:=hb.lt;omega
 have i0':(0:Int)≤(i:Int):=by omega
 have i1':(i:Int)≤(n:Int):=by omega
 have j0':(0:Int)≤(j:Int):=by omega
 have j1':(j:Int)≤(n:Int):=by omega
 have ij':(i:Int)≤(j:Int):=by omega
 have nc':(n:Int)≤(c:Int):=by omega
 have jc':(j:Int)≤(c:Int):=by omega
 have ic':(i:Int)≤(c:Int):=by omega
 have hcm':c≤9223372036854775807:=by unfold maxLen at hcm;omega
 have hci:¬ (c=i):=by omega
 have hneq:((i:Int) == (j:Int))=false:=by simp;omega
 have hneq':¬ ((i:Int)=(j:Int)):=by omega
 have htc:(Lib.byteCells t).length=m:=by rw [byteCells_len,htl]
 have hjn1:((j:Int) == (n:Int))=false:=by simp;omega
 have hjn2:¬ ((j:Int)=(n:Int)):=by omega
 have hcj:¬ (c=j):=by omega
 obtain⟨q,hq⟩:∃ q,q=n - j:=⟨_,rfl⟩
 have hq1:n - j=q:=hq.symm
 have Hq:=Lib.hid hq
 have hq0:¬ (q=0):=by omega
 have hm0:¬ (m=0):=by omega
 have wim:IntKind.i64.wrap ((i:Int)+(m:Int))=(i:Int)+(m:Int):=by rw [IntKind.wrap_i64];omega
 have wimq:IntKind.i64.wrap ((i:Int)+(m:Int)+(q:Int))=(i:Int)+(m:Int)+(q:Int):=by rw [IntKind.wrap_i64];omega
 have tim:((i:Int)+(m:Int)).toNat=i+m:=by omega
 have im0:(0:Int)≤(i:Int)+(m:Int):=by omega
 have im1:(i:Int)+(m:Int)≤(i:Int)+(m:Int)+(q:Int):=by omega
 have im2:(i:Int)≤(i:Int)+(m:Int)+(q:Int):=by omega
 have ttot:((i:Int)+(m:Int)+(q:Int)).toNat=i+m+q:=by omega
 have tot0:(0:Int)≤(i:Int)+(m:Int)+(q:Int):=by omega
 have hdl:(Lib.byteCells (l.drop j)).length=q:=by rw [byteCells_len,List.length_drop,hln,hq]
 have hrl:(l.take i ++ (t ++ l.drop j)).length=i+m+q:=by simp;omega
 rw [hrl]
 have mixed:Tryz.prog.follows Departure.mixedOrders=true:=by kernel_rfl
 have HH:=Lib.hid (And.intro hb (And.intro hcl (And.intro htk hval)))
 rw [hq1] at hgt
 have dgt:decide ((c:Int) < (i:Int)+(m:Int)+(q:Int))=false:=by simp;omega
 have ngt:¬ ((c:Int) < (i:Int)+(m:Int)+(q:Int)):=by omega
 have tot1:(i:Int)+(m:Int)+(q:Int)≤(c:Int):=by omega
 have hcim:¬ (c=i+m):=by omega
 have dle:decide ((i:Int)+(m:Int)≤(j:Int))=true:=by simp;omega
 have nle:(i:Int)+(m:Int)≤(j:Int):=by omega
 have totn:(i:Int)+(m:Int)+(q:Int)≤(n:Int):=by omega
 clear hb hcl htk hval hq
 by_cases hct:c=i+m+q
 · subst hct
   go_enter Tryz.func50,Tryz.ntmps50
   go_wp2_with fail
   go_quiet (fail)
   generalize hW0:World.drewN w _=W0
   obtain⟨hb,hcl,htk,hval⟩:=HH.out
   have hq:=Hq.out
   obtain⟨hl1,hl2,hl3,hl4⟩:=front_then (t:=t) (r:=l.drop j) htk hin (by omega) (by rw [List.length_drop];omega)
   rw [htl] at hl2 hl3 hl4
   obtain⟨cur1,hc1⟩:∃ x,x=cur.take i ++ Lib.byteCells t ++ cur.drop (i+(Lib.byteCells t).length):=⟨_,rfl⟩
   rw [← hc1] at hl1 hl2 hl3 hl4
   obtain⟨cur2,hc2⟩:∃ x,x=cur1.take (i+m) ++ Lib.byteCells (l.drop j) ++ cur1.drop (i+m+(Lib.byteCells (l.drop j)).length):=⟨_,rfl⟩
   rw [← hc2] at hl2 hl3
   have hb0:Bf W0 g cur:=by rw [← hW0];exact hb
   have hcD:∀ a,W0.cell? a=w.cell? a:=fun a=>by rw [← hW0];rfl
   obtain⟨W1,hW1⟩:∃ W1,W1=W0.setRow g cur1.toArray:=⟨_,rfl⟩
   have hb1:Bf W1 g cur1:=by rw [hW1];exact hb0.set
   have hcp1:∀ ty dc,(Builtin.copy_ #[22,22] ty #[.slice (some ⟨g,i,none⟩) (i+m+q - i) dc,.slice (some ⟨vb,voff,none⟩) m vc]).run Tryz.prog W0 = .ok (goInt (Lib.byteCells t).length) W1:=fun ty dc=>by
    rw [hW1,hc1]
    exact copyB hb0 ty i _ dc ⟨vb,voff,none⟩ _ vc _ (by rw [htc];simp only [Nat.min_def];split <;> omega) (fun k v hk=>by rw [Addr.add_lit,hcD];exact hval k v hk) (by rw [htc];omega) (oneCell_byteCells _)
   obtain⟨W2,hW2⟩:∃ W2,W2=W1.drew.setRow g cur2.toArray:=⟨_,rfl⟩
   have hb1d:Bf W1.drew g cur1:=hb1
   have hb2:Bf W2 g cur2:=by rw [hW2];exact hb1d.set
   have hcp2:∀ ty dl dc sl sc,dl=q→sl=q→(Builtin.copy_ #[22,22] ty #[.slice (some ⟨g,i+m,none⟩) dl dc,.slice (some ⟨g,j,none⟩) sl sc]).run Tryz.prog W1.drew = .ok (goInt (Lib.byteCells (l.drop j)).length) W2:=fun ty dl dc sl sc hdl1 hsl1=>by
    rw [hdl1,hsl1,hW2,hc2]
    exact copyB hb1d ty (i+m) _ dc ⟨g,j,none⟩ _ sc _ (by rw [hdl];simp only [Nat.min_def];split <;> omega) (fun k v hk=>by
     rw [Addr.add_lit,hb1d.cell]
     have h1:=cur_at htk hln j k v hk
     have e:j+k=(i+m)+(j+k - (i+m)):=by omega
     rw [e,← List.getElem?_drop,hl4,List.getElem?_drop,← e]
     exact h1) (by rw [hdl,hl1];omega) (oneCell_byteCells _)
   have hcl3:∃ W3:World,(∀ ty dc,(Builtin.clear_ #[22] ty #[.slice (some ⟨g,i+m+q,none⟩) (n - (i+m+q)) dc]).run Tryz.prog W2 = .ok (.tuple #[]) W3)∧(∀ A ty dc,n - (i+m+q)=0→(Builtin.clear_ #[22] ty #[.slice A (n - (i+m+q)) dc]).run Tryz.prog W2 = .ok (.tuple #[]) W3)∧W3.ownsRow base 5 1 (.slice (some ⟨g,0,none⟩) (i+m+q) (i+m+q)) (i+m+q) (Lib.byteCells (l.take i ++ (t ++ l.drop j)))∧Below base w W3:=by
    have hbel2:Below base w W2:=by
     rw [hW2,hW1,← hW0]
     exact below_setRow (below_setRow (belN (Below.refl _ _) _) hbase _).drew hbase _
    have hl3':cur2.take (i+m+q)=Lib.byteCells (l.take i ++ (t ++ l.drop j)):=by rw [← hl3];congr 1;rw [List.length_drop];omega
    by_cases hz:n - (i+m+q)=0
    · refine⟨W2,fun ty dc=>?_,fun A ty dc h0=>?_,hb2.own hbase hgt hcm (by rw [hl2];exact hcl) hl3' hrl,hbel2⟩
      · rw [hz];exact clearNone _ _ _ _
      · rw [hz];exact clearNone _ _ _ _
    · refine⟨W2.setCells g (i+m+q) (List.replicate (n - (i+m+q)) (.int .u8 0)),fun ty dc=>clearB hb2 ty _ _ dc (by omega) (by omega),fun A ty dc h0=>absurd h0 hz,?_,below_sets hbase _ _ _ _ hbel2⟩
      have hb3:=Bf.sets (List.replicate (n - (i+m+q)) (.int .u8 0)) (i+m+q) W2 cur2 hb2 (by rw [List.length_replicate];omega)
      refine hb3.own hbase hgt hcm ?_ ?_ hrl
      · rw [List.length_append,List.length_append,List.length_take,List.length_drop,List.length_replicate];omega
      · rw [List.append_assoc,List.take_left' (by rw [List.length_take];omega)]
        exact hl3'
   obtain⟨W3,hclA,hclB,hfin,hbel⟩:=hcl3
   have Hfin:=Lib.hid (And.intro hfin hbel)
   clear hfin hbel hval htk hb hb0 hb1 hb1d hb2 hc1 hc2 hW0 hW1 hW2 hl1 hl2 hl3 hl4 hcD hq
   have hz:n - (i+m+q)=0:=by omega
   have hclC:=fun A ty dc=>hclB A ty dc hz
   have hclD:=hclC
   rw [hz] at hclD
   clear hclB hclA
   go_wp2_with fail
   go_region_law_o (refine step_copyR rfl _ _ 22 22 rfl _ _ (by simp [Act.eval,Act.put]) (by simp [Act.eval,Act.put]) (hcp2 _ _ _ _ _ (by omega) (by omega)) ?_)
   go_wp2_with fail
   go_ret
   exact⟨_,_,rfl,Hfin.out.1,Hfin.out.2⟩
 · have hct':=hct
   go_enter Tryz.func50,Tryz.ntmps50
   go_wp2_with fail
   go_quiet (fail)
   generalize hW0:World.drewN w _=W0
   obtain⟨hb,hcl,htk,hval⟩:=HH.out
   have hq:=Hq.out
   obtain⟨hl1,hl2,hl3,hl4⟩:=front_then (t:=t) (r:=l.drop j) htk hin (by omega) (by rw [List.length_drop];omega)
   rw [htl] at hl2 hl3 hl4
   obtain⟨cur1,hc1⟩:∃ x,x=cur.take i ++ Lib.byteCells t ++ cur.drop (i+(Lib.byteCells t).length):=⟨_,rfl⟩
   rw [← hc1] at hl1 hl2 hl3 hl4
   obtain⟨cur2,hc2⟩:∃ x,x=cur1.take (i+m) ++ Lib.byteCells (l.drop j) ++ cur1.drop (i+m+(Lib.byteCells (l.drop j)).length):=⟨_,rfl⟩
   rw [← hc2] at hl2 hl3
   have hb0:Bf W0 g cur:=by rw [← hW0];exact hb
   have hcD:∀ a,W0.cell? a=w.cell? a:=fun a=>by rw [← hW0];rfl
   obtain⟨W1,hW1⟩:∃ W1,W1=W0.setRow g cur1.toArray:=⟨_,rfl⟩
   have hb1:Bf W1 g cur1:=by rw [hW1];exact hb0.set
   have hcp1:∀ ty dc,(Builtin.copy_ #[22,22] ty #[.slice (some ⟨g,i,none⟩) (i+m+q - i) dc,.slice (some ⟨vb,voff,none⟩) m vc]).run Tryz.prog W0 = .ok (goInt (Lib.byteCells t).length) W1:=fun ty dc=>by
    rw [hW1,hc1]
    exact copyB hb0 ty i _ dc ⟨vb,voff,none⟩ _ vc _ (by rw [htc];simp only [Nat.min_def];split <;> omega) (fun k v hk=>by rw [Addr.add_lit,hcD];exact hval k v hk) (by rw [htc];omega) (oneCell_byteCells _)
   obtain⟨W2,hW2⟩:∃ W2,W2=W1.drew.setRow g cur2.toArray:=⟨_,rfl⟩
   have hb1d:Bf W1.drew g cur1:=hb1
   have hb2:Bf W2 g cur2:=by rw [hW2];exact hb1d.set
   have hcp2:∀ ty dl dc sl sc,dl=q→sl=q→(Builtin.copy_ #[22,22] ty #[.slice (some ⟨g,i+m,none⟩) dl dc,.slice (some ⟨g,j,none⟩) sl sc]).run Tryz.prog W1.drew = .ok (goInt (Lib.byteCells (l.drop j)).length) W2:=fun ty dl dc sl sc hdl1 hsl1=>by
    rw [hdl1,hsl1,hW2,hc2]
    exact copyB hb1d ty (i+m) _ dc ⟨g,j,none⟩ _ sc _ (by rw [hdl];simp only [Nat.min_def];split <;> omega) (fun k v hk=>by
     rw [Addr.add_lit,hb1d.cell]
     have h1:=cur_at htk hln j k v hk
     have e:j+k=(i+m)+(j+k - (i+m)):=by omega
     rw [e,← List.getElem?_drop,hl4,List.getElem?_drop,← e]
     exact h1) (by rw [hdl,hl1];omega) (oneCell_byteCells _)
   have hcl3:∃ W3:World,(∀ ty dc,(Builtin.clear_ #[22] ty #[.slice (some ⟨g,i+m+q,none⟩) (n - (i+m+q)) dc]).run Tryz.prog W2 = .ok (.tuple #[]) W3)∧(∀ A ty dc,n - (i+m+q)=0→(Builtin.clear_ #[22] ty #[.slice A (n - (i+m+q)) dc]).run Tryz.prog W2 = .ok (.tuple #[]) W3)∧W3.ownsRow base 5 1 (.slice (some ⟨g,0,none⟩) (i+m+q) c) (i+m+q) (Lib.byteCells (l.take i ++ (t ++ l.drop j)))∧Below base w W3:=by
    have hbel2:Below base w W2:=by
     rw [hW2,hW1,← hW0]
     exact below_setRow (below_setRow (belN (Below.refl _ _) _) hbase _).drew hbase _
    have hl3':cur2.take (i+m+q)=Lib.byteCells (l.take i ++ (t ++ l.drop j)):=by rw [← hl3];congr 1;rw [List.length_drop];omega
    by_cases hz:n - (i+m+q)=0
    · refine⟨W2,fun ty dc=>?_,fun A ty dc h0=>?_,hb2.own hbase hgt hcm (by rw [hl2];exact hcl) hl3' hrl,hbel2⟩
      · rw [hz];exact clearNone _ _ _ _
      · rw [hz];exact clearNone _ _ _ _
    · refine⟨W2.setCells g (i+m+q) (List.replicate (n - (i+m+q)) (.int .u8 0)),fun ty dc=>clearB hb2 ty _ _ dc (by omega) (by omega),fun A ty dc h0=>absurd h0 hz,?_,below_sets hbase _ _ _ _ hbel2⟩
      have hb3:=Bf.sets (List.replicate (n - (i+m+q)) (.int .u8 0)) (i+m+q) W2 cur2 hb2 (by rw [List.length_replicate];omega)
      refine hb3.own hbase hgt hcm ?_ ?_ hrl
      · rw [List.length_append,List.length_append,List.length_take,List.length_drop,List.length_replicate];omega
      · rw [List.append_assoc,List.take_left' (by rw [List.length_take];omega)]
        exact hl3'
   obtain⟨W3,hclA,hclB,hfin,hbel⟩:=hcl3
   have Hfin:=Lib.hid (And.intro hfin hbel)
   clear hfin hbel hval htk hb hb0 hb1 hb1d hb2 hc1 hc2 hW0 hW1 hW2 hl1 hl2 hl3 hl4 hcD hq
   clear hclB
   go_wp2_with fail
   go_region_law_o (refine step_copyR rfl _ _ 22 22 rfl _ _ (by simp [Act.eval,Act.put]) (by simp [Act.eval,Act.put]) (hcp2 _ _ _ _ _ (by omega) (by omega)) ?_)
   go_wp2_with fail
   go_ret
   exact⟨_,_,rfl,Hfin.out.1,Hfin.out.2⟩
theorem Rep_more (base g n c i j vb voff m vc:Nat) (cur:List Value) (l t:List UInt8) (w:World) (h:RepIn w base g n c i vb voff m cur l t) (hij:i < j) (hjn:j < n) (hgt:i+m+(n - j)≤c) (hle:j < i+m) :
 Calls Tryz.prog 50 #[.slice (some ⟨g,0,none⟩) n c,.int .i64 (i:Nat),.int .i64 (j:Nat),.slice (some ⟨vb,voff,none⟩) m vc] w (RepOut w base (l.take i ++ (t ++ l.drop j))):=by
 obtain⟨hb,hbase,hnc,hcm,hcl,htk,hln,hin,hm,htl,hval,hne,hbig⟩:=h
 unfold RepOut
 have hbw:base≤w.heap.size:=by have:=hb.lt;omega
 have i0':(0:Int)≤(i:Int):=by omega
 have i1':(i:Int)≤(n:Int):=by omega
 have j0':(0:Int)≤(j:Int):=by omega
 have j1':(j:Int)≤(n:Int):=by omega
 have ij':(i:Int)≤(j:Int):=by omega
 have nc':(n:Int)≤(c:Int):=by omega
 have jc':(j:Int)≤(c:Int):=by omega
 have ic':(i:Int)≤(c:Int):=by omega
 have hcm':c≤9223372036854775807:=by unfold maxLen at hcm;omega
 have hci:¬ (c=i):=by omega
 have hneq:((i:Int) == (j:Int))=false:=by simp;omega
 have hneq':¬ ((i:Int)=(j:Int)):=by omega
 have htc:(Lib.byteCells t).length=m:=by rw [byteCells_len,htl]
 have hjn1:((j:Int) == (n:Int))=false:=by simp;omega
 have hjn2:¬ ((j:Int)=(n:Int)):=by omega
 have hcj:¬ (c=j):=by omega
 obtain⟨q,hq⟩:∃ q,q=n - j:=⟨_,rfl⟩
 have hq1:n - j=q:=hq.symm
 have Hq:=Lib.hid hq
 have hq0:¬ (q=0):=by omega
 have hm0:¬ (m=0):=by omega
 have wim:IntKind.i64.wrap ((i:Int)+(m:Int))=(i:Int)+(m:Int):=by rw [IntKind.wrap_i64];omega
 have wimq:IntKind.i64.wrap ((i:Int)+(m:Int)+(q:Int))=(i:Int)+(m:Int)+(q:Int):=by rw [IntKind.wrap_i64];omega
 have tim:((i:Int)+(m:Int)).toNat=i+m:=by omega
 have im0:(0:Int)≤(i:Int)+(m:Int):=by omega
 have im1:(i:Int)+(m:Int)≤(i:Int)+(m:Int)+(q:Int):=by omega
 have im2:(i:Int)≤(i:Int)+(m:Int)+(q:Int):=by omega
 have ttot:((i:Int)+(m:Int)+(q:Int)).toNat=i+m+q:=by omega
 have tot0:(0:Int)≤(i:Int)+(m:Int)+(q:Int):=by omega
 have hdl:(Lib.byteCells (l.drop j)).length=q:=by rw [byteCells_len,List.length_drop,hln,hq]
 have hrl:(l.take i ++ (t ++ l.drop j)).length=i+m+q:=by simp;omega
 rw [hrl]
 have mixed:Tryz.prog.follows Departure.mixedOrders=true:=by kernel_rfl
 have HH:=Lib.hid (And.intro hb (And.intro hcl (And.intro htk hval)))
 rw [hq1] at hgt
 have dgt:decide ((c:Int) < (i:Int)+(m:Int)+(q:Int))=false:=by simp;omega
 have ngt:¬ ((c:Int) < (i:Int)+(m:Int)+(q:Int)):=by omega
 have tot1:(i:Int)+(m:Int)+(q:Int)≤(c:Int):=by omega
 have hcim:¬ (c=i+m):=by omega
 have dle:decide ((i:Int)+(m:Int)≤(j:Int))=false:=by simp;omega
 have nle:¬ ((i:Int)+(m:Int)≤(j:Int)):=by omega
 clear hb hcl htk hval hq
 go_enter Tryz.func50,Tryz.ntmps50
 go_wp2_with fail
 go_quiet (fail)
 generalize hW0:World.drewN w _=W0
 obtain⟨hb,hcl,htk,hval⟩:=HH.out
 have hq:=Hq.out
 obtain⟨hl1,hl2,hl3⟩:=back_then (t:=t) (r:=l.drop j) htk hin (by omega) (k:=i+m) (by omega) (by rw [List.length_drop];omega)
 obtain⟨cur1,hc1⟩:∃ x,x=cur.take (i+m) ++ Lib.byteCells (l.drop j) ++ cur.drop (i+m+(Lib.byteCells (l.drop j)).length):=⟨_,rfl⟩
 rw [← hc1] at hl1 hl2 hl3
 obtain⟨cur2,hc2⟩:∃ x,x=cur1.take i ++ Lib.byteCells t ++ cur1.drop (i+(Lib.byteCells t).length):=⟨_,rfl⟩
 rw [← hc2] at hl2 hl3
 have hb0:Bf W0 g cur:=by rw [← hW0];exact hb
 have hcD:∀ a,W0.cell? a=w.cell? a:=fun a=>by rw [← hW0];rfl
 obtain⟨W1,hW1⟩:∃ W1,W1=W0.drew.setRow g cur1.toArray:=⟨_,rfl⟩
 have hb0d:Bf W0.drew g cur:=hb0
 have hb1:Bf W1 g cur1:=by rw [hW1];exact hb0d.set
 have hcp1:∀ ty dl dc sl sc,dl=q→sl=q→(Builtin.copy_ #[22,22] ty #[.slice (some ⟨g,i+m,none⟩) dl dc,.slice (some ⟨g,j,none⟩) sl sc]).run Tryz.prog W0.drew = .ok (goInt (Lib.byteCells (l.drop j)).length) W1:=fun ty dl dc sl sc hdl1 hsl1=>by
  rw [hdl1,hsl1,hW1,hc1]
  exact copyB hb0d ty (i+m) _ dc ⟨g,j,none⟩ _ sc _ (by rw [hdl];simp only [Nat.min_def];split <;> omega) (fun k v hk=>by rw [Addr.add_lit,hb0d.cell];exact cur_at htk hln j k v hk) (by rw [hdl];omega) (oneCell_byteCells _)
 obtain⟨W2,hW2⟩:∃ W2,W2=W1.setRow g cur2.toArray:=⟨_,rfl⟩
 have hb2:Bf W2 g cur2:=by rw [hW2];exact hb1.set
 have hcp2:∀ ty dc,(Builtin.copy_ #[22,22] ty #[.slice (some ⟨g,i,none⟩) (i+m+q - i) dc,.slice (some ⟨vb,voff,none⟩) m vc]).run Tryz.prog W1 = .ok (goInt (Lib.byteCells t).length) W2:=fun ty dc=>by
  rw [hW2,hc2]
  exact copyB hb1 ty i _ dc ⟨vb,voff,none⟩ _ vc _ (by rw [htc];simp only [Nat.min_def];split <;> omega) (fun k v hk=>by rw [Addr.add_lit,hW1,cell_setRow_other _ _ _ _ (by exact hne)];show W0.cell? _=_;rw [hcD];exact hval k v hk) (by rw [htc,hl1];omega) (oneCell_byteCells _)
 have hv0:∃ v,W0.cell? ⟨vb,voff,none⟩=some v:=by
  have:=hval 0 ((Lib.byteCells t)[0]'(by omega)) (List.getElem?_eq_getElem (by omega))
  exact⟨_,by rw [hcD];simpa using this⟩
 obtain⟨v0,hv0⟩:=hv0
 obtain⟨tB,kB,hsb,hkB⟩:=shape_of_cell hv0
 have hov:∀ la ca lb cb,(callFunc 94 #[.slice (some ⟨g,i+m,none⟩) la ca,.slice (some ⟨vb,voff,none⟩) lb cb]).run Tryz.prog W0 = .ok (.value (.bool false)) W0:=fun la ca lb cb =>
  overlaps_first W0 ⟨g,i+m,none⟩ ⟨vb,voff,none⟩ la ca lb cb (Ne.symm hne) 5 tB cur.length kB hb0.shape hsb hkB (hb0.fz _) (hb0.fz _)
 have hfin:W2.ownsRow base 5 1 (.slice (some ⟨g,0,none⟩) (i+m+q) c) (i+m+q) (Lib.byteCells (l.take i ++ (t ++ l.drop j))):=
  hb2.own hbase hgt hcm (by rw [hl2];exact hcl) (by rw [← hl3];congr 1;rw [List.length_drop];omega) hrl
 have hbel:Below base w W2:=by
  rw [hW2,hW1,← hW0]
  exact below_setRow (below_setRow (belN (Below.refl _ _) _).drew hbase _) hbase _
 have Hfin:=Lib.hid (And.intro hfin hbel)
 clear hfin hbel hval htk hb hb0 hb0d hb1 hb2 hc1 hc2 hW0 hW1 hW2 hl1 hl2 hl3 hcD hq hv0 hsb
 go_wp2_with (simp only [hov])
 go_region_law_o (refine step_copyR rfl _ _ 22 22 rfl _ _ (by simp [Act.eval,Act.put]) (by simp [Act.eval,Act.put]) (hcp1 _ _ _ _ _ (by omega) (by omega)) ?_)
 go_wp2_with fail
 go_ret
 exact⟨_,_,rfl,Hfin.out.1,Hfin.out.2⟩
/-- slices.Replace at bytes. -/
theorem Replace_any (base g n c i j vb voff m vc:Nat) (cur:List Value) (l t:List UInt8) (w:World) (h:RepIn w base g n c i vb voff m cur l t) (hij:i≤j) (hjn:j≤n) :
 Calls Tryz.prog 50 #[.slice (some ⟨g,0,none⟩) n c,.int .i64 (i:Nat),.int .i64 (j:Nat),.slice (some ⟨vb,voff,none⟩) m vc] w (RepOut w base (l.take i ++ (t ++ l.drop j))):=by
 rcases Nat.eq_or_lt_of_le hij with h1 | h1
 · exact Rep_eq base g n c i j vb voff m vc cur l t w h h1
 · rcases Nat.eq_or_lt_of_le hjn with h2 | h2
   · exact Rep_end base g n c i j vb voff m vc cur l t w h h1 h2
   · rcases Nat.lt_or_ge c (i+m+(n - j)) with h3 | h3
     · exact Rep_grow base g n c i j vb voff m vc cur l t w h h1 h2 h3
     · rcases Nat.lt_or_ge j (i+m) with h4 | h4
       · exact Rep_more base g n c i j vb voff m vc cur l t w h h1 h2 h3 h4
       · exact Rep_less base g n c i j vb voff m vc cur l t w h h1 h2 h3 h4
def okB (lo hi:Nat) (but:List UInt8) (x:Nat):Bool:=!(decide (x < lo) || decide (hi < x) || decide (0≤Lib.indexByte but (x:Int).toNat.toUInt8))
theorem all_miss (l:List UInt8) (p:Nat→Bool) (k:Nat) (hk:k < l.length) (h:p (nth l k)=false):l.all (fun b=>p b.toNat)=false:=by
 rw [List.all_eq_false]
 exact⟨l[k],List.getElem_mem hk,by rw [← nth_of l k hk,h];simp⟩
theorem all_hit (l:List UInt8) (p:Nat→Bool) (h:∀ j,j < l.length→p (nth l j)=true):l.all (fun b=>p b.toNat)=true:=by
 rw [List.all_eq_true]
 intro x hx
 obtain⟨j,hj,rfl⟩:=List.getElem_of_mem hx
 rw [← nth_of l j hj,h j hj]
theorem between_any (l:List UInt8) (lo hi:Nat) (but:ByteArray) (w:World) (hl:l.length≤maxLen) (_h1:lo < 256) (_h2:hi < 256) :
 Calls Tryz.prog 49 #[str l,.int .u8 (lo:Nat),.int .u8 (hi:Nat),.string but] w fun e w'=>e = .returned (.bool (l.all (fun b=>okB lo hi but.data.toList b.toNat)))∧w'=w:=by
 unfold maxLen at hl
 have hm:=fun k=>all_miss l (okB lo hi but.data.toList) k
 have ha:=all_hit l (okB lo hi but.data.toList)
 generalize l.all (fun b=>okB lo hi but.data.toList b.toNat)=r at hm ha ⊢
 obtain⟨n,hn⟩:∃ n,n=l.length:=⟨_,rfl⟩
 rw [← hn] at hm ha hl
 have Hn:=Lib.hid hn
 have Hm:=Lib.hid hm
 have Ha:=Lib.hid ha
 clear hn hm ha
 go_enter Tryz.func49,Tryz.ntmps49
 go_wp2_with fail
 rw [← Hn.out]
 go_loopw [12] (fun iv wr=>∃ k:Nat,k≤n∧iv = .int .i64 k∧wr=w∧Hid (∀ j,j < k→okB lo hi but.data.toList (nth l j)=true)) (fun iv _=>n - (intOf iv).toNat)
 case atStart=>exact⟨0,by omega,rfl,rfl,Lib.hid fun j hj=>absurd hj (by omega)⟩
 case round =>
  obtain⟨k,hk,rfl,rfl,hz⟩:=hrel
  by_cases hkn:k < n
  · have hkl:k < l.length:=by rw [← Hn.out];exact hkn
    have hmk:=Hm.out k hkn
    have hx:nth l k < 256:=nth_lt l k
    by_cases c1:nth l k < lo
    · have d1:decide (((nth l k:Nat):Int) < lo)=true:=by simp;omega
      have hr:Hid (r=false):=hmk (by simp [okB,c1])
      clear hmk
      go_wp2_with fail
      go_ret
      exact⟨by rw [hr.out];rfl,rfl⟩
    · have d1:decide (((nth l k:Nat):Int) < lo)=false:=by simp;omega
      by_cases c2:hi < nth l k
      · have d2:decide ((hi:Int) < (nth l k:Nat))=true:=by simp;omega
        have hr:Hid (r=false):=hmk (by simp [okB,c2])
        clear hmk
        go_wp2_with fail
        go_ret
        exact⟨by rw [hr.out];rfl,rfl⟩
      · have d2:decide ((hi:Int) < (nth l k:Nat))=false:=by simp;omega
        have hib:=fun W=>Go.Proofs.Tryz.strings_IndexByte but (nth l k:Nat) W
        have hok:okB lo hi but.data.toList (nth l k) = !decide (0≤Lib.indexByte but.data.toList ((nth l k:Nat):Int).toNat.toUInt8):=by simp [okB,c1,c2]
        generalize Lib.indexByte but.data.toList ((nth l k:Nat):Int).toNat.toUInt8=z at hib hok
        have Hib:=Lib.hid hib
        have Hok:=Lib.hid hok
        clear hib hok
        by_cases c3:0≤z
        · have d3:decide (0≤z)=true:=by simpa using c3
          have hr:Hid (r=false):=hmk (by rw [Hok.out,d3];rfl)
          clear hmk
          go_wp2_with fail
          refine(Hib.out _).mono ?_
          rintro e w1 ⟨rfl,rfl⟩
          go_wp2_with fail
          go_ret
          exact⟨by rw [hr.out];rfl,rfl⟩
        · have d3:decide (0≤z)=false:=by simpa using c3
          clear hmk
          go_wp2_with fail
          refine(Hib.out _).mono ?_
          rintro e w1 ⟨rfl,rfl⟩
          go_wp2_with fail
          refine⟨⟨k+1,by omega,by go_num,trivial,Lib.hid fun j hj=>?_⟩,by simp [intOf];omega⟩
          rcases Nat.lt_or_ge j k with h | h
          · exact hz.out j h
          · rw [show j=k from by omega,Hok.out,d3];rfl
  · have hr:Hid (r=true):=Ha.out fun j hj=>hz.out j (by omega)
    go_wp2_with fail
    go_ret
    exact⟨by rw [hr.out];rfl,rfl⟩
end Go.Proofs.YtlgbopjhmemaoaaGreatDoor
namespace Go.Proofs.YtlgbopjhmemaoaaGreatDoor
def FL (n:Nat) (r:List UInt8) (out:List LinkD):Option (List LinkD):=findL n r.length r out
theorem FL_eq {n:Nat} {r:List UInt8} {out:List LinkD} (h:r.length≤n) (ho:out.length≤60):FL n r out=if 60 < (out ++ links (n - r.length) (pcs r)).length then none else some (out ++ links (n - r.length) (pcs r)):=
 findL_eq n r.length r out (n - r.length) (pcs r) (by omega) (pcs_find r _ (Nat.le_refl _)) ho
theorem FL_nil (n:Nat) (out:List LinkD):FL n [] out=some out:=rfl
theorem FL_find (b:List UInt8):findB b=FL b.length b []:=rfl
theorem FL_other {n:Nat} {c:UInt8} {r:List UInt8} {out:List LinkD} (hc:c≠60) (h:r.length+1≤n) (ho:out.length≤60):FL n (c :: r) out=FL n r out:=by
 have e:pcs (c :: r)=prep [c] (pcs r):=by
  have:=pcs_ahead [c] r (by simpa using hc)
  simpa using this
 rw [FL_eq (by simpa using h) ho,FL_eq (by omega) ho,e,links_prep]
 have:n - (c :: r).length + [c].length=n - r.length:=by simp;omega
 rw [this]
theorem FL_step {n:Nat} {r:List UInt8} {out:List LinkD} (h:r.length+1≤n) (ho:out.length≤60) :
 FL n (60 :: r) out=if 60 < (stepL n (60 :: r) out).2.length then none else FL n (stepL n (60 :: r) out).1 (stepL n (60 :: r) out).2:=by
 have hs:=stop_app (pIs 60) (60 :: r)
 have h1:stopD (pIs 60) (60 :: r)=60 :: r:=(stopD_at (pIs 60) 60 r (by decide)).1
 have h2:stopT (pIs 60) (60 :: r) = []:=(stopD_at (pIs 60) 60 r (by decide)).2
 have e:=pcs_step (60 :: r) (by simp)
 rw [h1,h2] at e
 have hlt:=stepP_lt 60 r
 have hl:=congrArg List.length (stepP_app (60 :: r))
 rw [List.length_append,List.length_cons] at hl
 rw [FL_eq (by simpa using h) ho,e,links_prep,links_catP,stepL_eq n (60 :: r) out (n - (r.length+1)) (by simp;omega)]
 simp only [List.length_nil,Nat.add_zero,List.length_cons]
 have e2:n - (r.length+1)+(weave (stepP (60 :: r)).1 (vals (stepP (60 :: r)).1)).length=n - (stepP (60 :: r)).2.length:=by omega
 rw [e2,← List.append_assoc]
 by_cases h60:60 < (out ++ links (n - (r.length+1)) (stepP (60 :: r)).1).length
 · rw [if_pos h60,if_pos (by rw [List.length_append];omega)]
 · rw [if_neg h60,FL_eq (by omega) (by omega)]
theorem attrs_fuel (n:Nat):∀ (f g:Nat) (r:List UInt8) (seen:List (List UInt8)) (ls:List LinkD),r.length < f→r.length < g→attrsL n f r seen ls=attrsL n g r seen ls
 | 0,_,_,_,_,h,_=>absurd h (by omega)
 | _,0,_,_,_,_,h=>absurd h (by omega)
 | f+1,g+1,r,seen,ls,h1,h2=>by
  have hl:=stopD_len pAttr r
  rw [attrsL,attrsL]
  cases hd:stopD pAttr r with
  | nil=>rfl
  | cons c r2 =>
   rw [hd,List.length_cons] at hl
   simp only
   by_cases hc:c=62
   · rw [if_pos hc,if_pos hc]
   · rw [if_neg hc,if_neg hc]
     have h3:=stopD_len pEq r2
     have h4:=stopD_len pNotSp (stopD pEq r2)
     have hv:(valueR (stopD pNotSp (stopD pEq r2)).tail).2.2.length≤(stopD pNotSp (stopD pEq r2)).tail.length:=by
      rw [(valueR_valP _).1];exact valP_len _
     have ht:(stopD pNotSp (stopD pEq r2)).tail.length≤(stopD pNotSp (stopD pEq r2)).length:=by simp
     rw [attrs_fuel n f g _ _ _ (by omega) (by omega),attrs_fuel n f g _ _ _ (by omega) (by omega)]
def AL (n:Nat) (r:List UInt8) (seen:List (List UInt8)) (ls:List LinkD):Option (List UInt8 × List LinkD):=attrsL n (r.length+1) r seen ls
theorem AL_nil (n:Nat) (seen:List (List UInt8)) (ls:List LinkD):AL n [] seen ls=none:=rfl
theorem AL_gap {n:Nat} {c:UInt8} {r:List UInt8} {seen:List (List UInt8)} {ls:List LinkD} (hc:pAttr c.toNat=false):AL n (c :: r) seen ls=AL n r seen ls:=by
 unfold AL
 rw [List.length_cons]
 have h:=(stopD_pre pAttr [c] r (by simpa using hc)).1
 rw [List.singleton_append] at h
 rw [attrs_fuel n (r.length+1) (r.length+1+1) r seen ls (by omega) (by omega),attrsL,attrsL,h]
theorem AL_end {n:Nat} {r:List UInt8} {seen:List (List UInt8)} {ls:List LinkD}:AL n (62 :: r) seen ls=some (r,ls):=by
 unfold AL
 rw [attrsL,(stopD_at pAttr 62 r (by decide)).1]
 simp
theorem AL_go {n:Nat} {c:UInt8} {r:List UInt8} {seen:List (List UInt8)} {ls:List LinkD} (h:pAttr c.toNat=true) (hc:c≠62) (h1:(stopD pNotSp (stopD pEq r)).head?≠some 61) :
 AL n (c :: r) seen ls=AL n (stopD pEq r) (lowL (c :: stopT pEq r) :: seen) ls:=by
 unfold AL
 have h3:=stopD_len pEq r
 rw [attrsL,(stopD_at pAttr c r h).1]
 simp only
 rw [if_neg hc,if_neg h1]
 exact attrs_fuel n _ _ _ _ _ (by simp;omega) (by omega)
theorem AL_is {n:Nat} {c:UInt8} {r r4:List UInt8} {seen:List (List UInt8)} {ls:List LinkD} (h:pAttr c.toNat=true) (hc:c≠62) (h1:stopD pNotSp (stopD pEq r)=61 :: r4) :
 AL n (c :: r) seen ls=AL n (valueR r4).2.2 (lowL (c :: stopT pEq r) :: seen) (addLink n (lowL (c :: stopT pEq r)) seen (valueR r4) ls):=by
 unfold AL
 have h3:=stopD_len pEq r
 have h4:=stopD_len pNotSp (stopD pEq r)
 rw [h1,List.length_cons] at h4
 have hv:(valueR r4).2.2.length≤r4.length:=by rw [(valueR_valP _).1];exact valP_len _
 rw [attrsL,(stopD_at pAttr c r h).1]
 simp only
 rw [if_neg hc,h1,if_pos (by rfl)]
 have e:(61 :: r4).tail=r4:=rfl
 rw [e]
 exact attrs_fuel n _ _ _ _ _ (by rw [List.length_cons];omega) (by omega)
theorem tagL_AL (n:Nat) (r:List UInt8) (shut:Bool) (out:List LinkD):tagL n r shut out=match AL n (stopD pName r) [] [] with
 | none=>([],out)
 | some (r',ls)=>(r',if shut then out else out ++ ls):=rfl
end Go.Proofs.YtlgbopjhmemaoaaGreatDoor
namespace Go.Proofs.YtlgbopjhmemaoaaGreatDoor
theorem join_splitK (sep new:List UInt8):∀ (k:Nat) (s:List UInt8),Lib.splitK sep 0 k s≠[]∧Lib.join (Lib.splitK sep 0 k s) new=Lib.replaceK sep new k s
 | 0,s=>⟨by simp [Lib.splitK],by rw [Lib.splitK,Lib.replaceK,Lib.join_one]⟩
 | k+1,s=>by
  rw [Lib.splitK,Lib.replaceK]
  by_cases h:(Lib.index s sep == -1)=true
  · rw [if_pos h,if_pos h]
    exact⟨by simp,Lib.join_one _ _⟩
  · rw [if_neg h,if_neg h,Nat.add_zero]
    obtain⟨h1,h2⟩:=join_splitK sep new k (s.drop ((Lib.index s sep).toNat+sep.length))
    refine⟨by simp,?_⟩
    rw [← h2]
    cases hs:Lib.splitK sep 0 k (s.drop ((Lib.index s sep).toNat+sep.length)) with
    | nil=>exact absurd hs h1
    | cons x r =>
     rw [Lib.join_cons,Lib.join_cons]
     simp [Lib.joinTail]
theorem unamp_join (l:List UInt8):Lib.join (Lib.split l [38,97,109,112,59]) [38]=unamp l:=by
 unfold unamp Lib.replaceAll Lib.replace Lib.split
 rw [if_neg (by decide),(join_splitK _ _ _ _).2]
 have:Lib.replaceNum l [38,97,109,112,59] (-1)=Lib.count l [38,97,109,112,59]:=by
  unfold Lib.replaceNum
  rw [if_pos (.inl (by decide))]
 rw [this]
theorem letter_small:∀ b:Fin 256,([97,98,99,100,101,102,103,104,105,106,107,108,109,110,111,112,113,114,115,116,117,118,119,120,121,122]:List UInt8).contains (lowB (UInt8.ofNat b.val))=isLet b.val:=by decide +kernel
/-- A loop that goes on till a byte: where it stands. -/
theorem drop_stop (p:Nat→Bool) (s:List UInt8) (i:Nat) (h:i < s.length) (hp:p (nth s i)=false):stopD p (s.drop i)=stopD p (s.drop (i+1))∧stopT p (s.drop i)=(s.getD i 0) :: stopT p (s.drop (i+1)):=by
 have e:s.drop i=s.getD i 0 :: s.drop (i+1):=by
  rw [List.drop_eq_getElem_cons h]
  simp [List.getD,h]
 have hp':p (s.getD i 0).toNat=false:=hp
 rw [e]
 have h2:=stopD_pre p [s.getD i 0] (s.drop (i+1)) (by intro b hb;simp only [List.mem_singleton] at hb;rw [hb];exact hp')
 exact h2
theorem drop_at (p:Nat→Bool) (s:List UInt8) (i:Nat) (h:i < s.length) (hp:p (nth s i)=true):stopD p (s.drop i)=s.drop i∧stopT p (s.drop i) = []:=by
 have e:s.drop i=s.getD i 0 :: s.drop (i+1):=by
  rw [List.drop_eq_getElem_cons h]
  simp [List.getD,h]
 rw [e]
 exact stopD_at p _ _ hp
theorem drop_end (p:Nat→Bool) (s:List UInt8):stopD p (s.drop s.length) = []∧stopT p (s.drop s.length) = []:=by
 rw [List.drop_length]
 exact⟨rfl,rfl⟩
/-- How far a stop is. -/
def toP (p:Nat→Bool) (s:List UInt8) (i:Nat):Nat:=i+(stopT p (s.drop i)).length
theorem toP_step (p:Nat→Bool) (s:List UInt8) (i:Nat) (h:i < s.length) (hp:p (nth s i)=false):toP p s i=toP p s (i+1):=by
 unfold toP
 rw [(drop_stop p s i h hp).2,List.length_cons]
 omega
theorem toP_at (p:Nat→Bool) (s:List UInt8) (i:Nat) (h:i < s.length) (hp:p (nth s i)=true):toP p s i=i:=by
 unfold toP
 rw [(drop_at p s i h hp).2]
 rfl
theorem toP_end (p:Nat→Bool) (s:List UInt8):toP p s s.length=s.length:=by
 unfold toP
 rw [(drop_end p s).2]
 rfl
theorem toP_drop (p:Nat→Bool) (s:List UInt8) (i:Nat):s.drop (toP p s i)=stopD p (s.drop i):=by
 unfold toP
 rw [← List.drop_drop]
 have h:=stop_app p (s.drop i)
 generalize stopT p (s.drop i)=a at h ⊢
 generalize stopD p (s.drop i)=b at h ⊢
 rw [← h,List.drop_left]
theorem toP_le (p:Nat→Bool) (s:List UInt8) (i:Nat) (h:i≤s.length):i≤toP p s i∧toP p s i≤s.length:=by
 have:=stopT_len p (s.drop i)
 rw [List.length_drop] at this
 unfold toP
 omega
theorem toP_take (p:Nat→Bool) (s:List UInt8) (i:Nat):(s.take (toP p s i)).drop i=stopT p (s.drop i):=by
 unfold toP
 rw [List.drop_take,Nat.add_sub_cancel_left]
 have h:=stop_app p (s.drop i)
 generalize stopT p (s.drop i)=a at h ⊢
 generalize stopD p (s.drop i)=b at h ⊢
 rw [← h,List.take_left]
end Go.Proofs.YtlgbopjhmemaoaaGreatDoor
namespace Go.Proofs.YtlgbopjhmemaoaaGreatDoor
theorem drop_cons (l:List UInt8) (i:Nat) (h:i < l.length):l.drop i=l.getD i 0 :: l.drop (i+1):=by
 rw [List.drop_eq_getElem_cons h]
 simp [List.getD,h]
theorem getD_is (l:List UInt8) (i k:Nat) (hk:k < 256) (h:nth l i=k):l.getD i 0=UInt8.ofNat k:=by
 apply UInt8.toNat_inj.1
 rw [UInt8.toNat_ofNat']
 unfold nth at h
 omega
theorem getD_not (l:List UInt8) (i k:Nat) (hk:k < 256) (h:nth l i≠k):l.getD i 0≠UInt8.ofNat k:=by
 intro e
 apply h
 unfold nth
 rw [e,UInt8.toNat_ofNat']
 omega
def letP (s:List UInt8) (i:Nat):Bool:=decide (i < s.length) && isLet (nth s i)
section
variable {l:List UInt8} {i:Nat} {out:List LinkD}
theorem FL_skip (h:i < l.length) (h60:nth l i≠60) (ho:out.length≤60):FL l.length (l.drop i) out=FL l.length (l.drop (i+1)) out:=by
 rw [drop_cons l i h]
 refine FL_other (getD_not l i 60 (by omega) h60) ?_ ho
 rw [List.length_drop]
 omega
theorem FL_lt (h:i < l.length) (h60:nth l i=60) (ho:out.length≤60) :
 FL l.length (l.drop i) out=if 60 < (stepL l.length (l.drop i) out).2.length then none else FL l.length (stepL l.length (l.drop i) out).1 (stepL l.length (l.drop i) out).2:=by
 have e:l.drop i=60 :: l.drop (i+1):=by rw [drop_cons l i h,getD_is l i 60 (by omega) h60];rfl
 rw [e]
 refine FL_step ?_ ho
 rw [List.length_drop]
 omega
theorem FL_com (h:i < l.length) (h60:nth l i=60) (ho:out.length≤60) (hp:Lib.hasPrefix (l.drop i) [60,33,45,45]=true):FL l.length (l.drop i) out=FL l.length (pastL [45,45,62] (l.drop (i+4))) out:=by
 rw [FL_lt h h60 ho]
 unfold stepL
 rw [if_pos hp]
 simp only
 rw [if_neg (by omega),List.drop_drop]
theorem FL_bang (h:i < l.length) (h60:nth l i=60) (ho:out.length≤60) (hp:Lib.hasPrefix (l.drop i) [60,33,45,45]=false) (hp2:(Lib.hasPrefix (l.drop i) [60,33] || Lib.hasPrefix (l.drop i) [60,63])=true):FL l.length (l.drop i) out=FL l.length (pastL [62] (l.drop i)) out:=by
 have key:stepL l.length (l.drop i) out=(pastL [62] (l.drop i),out):=by
  unfold stepL
  rw [if_neg (by simp [hp]),if_pos hp2]
 rw [FL_lt h h60 ho,key]
 simp only
 rw [if_neg (by omega)]
theorem prefix_com (h:Lib.hasPrefix (l.drop i) [60,33,45,45]=true):i+4≤l.length:=by
 have:=(List.isPrefixOf_iff_prefix.1 h).length_le
 simp only [List.length_cons,List.length_nil,List.length_drop] at this
 omega
theorem nth_one (h:i+1 < l.length):(Lib.hasPrefix (l.drop i) [60,47]=true)↔(nth l i=60∧nth l (i+1)=47):=by
 have e:l.drop i=l.getD i 0 :: l.getD (i+1) 0 :: l.drop (i+2):=by rw [drop_cons l i (by omega),drop_cons l (i+1) h]
 rw [e]
 show((60:UInt8) == l.getD i 0 && ((47:UInt8) == l.getD (i+1) 0 && List.isPrefixOf [] _))=true↔_
 rw [Bool.and_eq_true,Bool.and_eq_true]
 constructor
 · rintro⟨h1,h2,_⟩
   have h1:=eq_of_beq h1
   have h2:=eq_of_beq h2
   unfold nth
   rw [← h1,← h2]
   exact⟨rfl,rfl⟩
 · rintro⟨h1,h2⟩
   rw [getD_is l i 60 (by omega) h1,getD_is l (i+1) 47 (by omega) h2]
   simp
theorem step_tag (h60:nth l i=60) (hp:Lib.hasPrefix (l.drop i) [60,33,45,45]=false) (hp2:(Lib.hasPrefix (l.drop i) [60,33] || Lib.hasPrefix (l.drop i) [60,63])=false) :
 stepL l.length (l.drop i) out=if letP l (i+1) then tagL l.length (l.drop (i+1)) false out else if (Lib.hasPrefix (l.drop i) [60,47] && letP l (i+2)) then tagL l.length (l.drop (i+2)) true out else (l.drop (i+1),out):=by
 unfold stepL
 rw [if_neg (by simp [hp]),if_neg (by simp [hp2]),List.drop_drop,List.drop_drop,nth_drop,nth_drop,List.length_drop]
 have e1:(decide (1 < l.length - i) && isLet (nth l (i+1)))=letP l (i+1):=by
  unfold letP
  congr 1
  rw [decide_eq_decide]
  omega
 rw [e1]
 have e2:(decide (2 < l.length - i) && nth l (i+1) == 47 && isLet (nth l (i+2)))=(Lib.hasPrefix (l.drop i) [60,47] && letP l (i+2)):=by
  unfold letP
  by_cases h2:i+2 < l.length
  · have d1:decide (2 < l.length - i)=true:=by simp;omega
    have d2:decide (i+2 < l.length)=true:=by simpa using h2
    rw [d1,d2,Bool.true_and,Bool.true_and]
    congr 1
    have hn:=nth_one (l:=l) (i:=i) (by omega)
    rw [Bool.eq_iff_iff,hn]
    simp [h60]
  · have d1:decide (2 < l.length - i)=false:=by simp;omega
    have d2:decide (i+2 < l.length)=false:=by simpa using h2
    rw [d1,d2]
    simp
 rw [e2]
theorem let_one (_h60:nth l i=60) (hp:(Lib.hasPrefix (l.drop i) [60,47] && letP l (i+2))=true):letP l (i+1)=false:=by
 rw [Bool.and_eq_true] at hp
 have h2:i+2 < l.length:=by
  have:=hp.2
  unfold letP at this
  rw [Bool.and_eq_true,decide_eq_true_eq] at this
  exact this.1
 have h3:=((nth_one (by omega)).1 hp.1).2
 unfold letP
 rw [h3]
 simp [isLet]
theorem FL_none (h:i < l.length) (h60:nth l i=60) (ho:out.length≤60) (hp:Lib.hasPrefix (l.drop i) [60,33,45,45]=false) (hp2:(Lib.hasPrefix (l.drop i) [60,33] || Lib.hasPrefix (l.drop i) [60,63])=false)
 (hs:(Lib.hasPrefix (l.drop i) [60,47] && letP l (i+2))=false) (hl:letP l (i+1)=false):FL l.length (l.drop i) out=FL l.length (l.drop (i+1)) out:=by
 have key:stepL l.length (l.drop i) out=(l.drop (i+1),out):=by
  rw [step_tag h60 hp hp2,if_neg (by simp [hl]),if_neg (by simp [hs])]
 rw [FL_lt h h60 ho,key]
 simp only
 rw [if_neg (by omega)]
/-- What a tag leaves. -/
def tagX (n:Nat) (R:Option (List UInt8 × List LinkD)) (shut:Bool) (out:List LinkD):Option (List LinkD):=
 match R with
 | none=>some out
 | some (r',ls)=>if 60 < (if shut then out else out ++ ls).length then none else FL n r' (if shut then out else out ++ ls)
theorem FL_tag (h:i < l.length) (h60:nth l i=60) (ho:out.length≤60) (hp:Lib.hasPrefix (l.drop i) [60,33,45,45]=false) (hp2:(Lib.hasPrefix (l.drop i) [60,33] || Lib.hasPrefix (l.drop i) [60,63])=false)
 (shut:Bool) (hs:(Lib.hasPrefix (l.drop i) [60,47] && letP l (i+2))=shut) (hl:shut=true∨letP l (i+1)=true) (j:Nat) (hj:j=if shut then i+2 else i+1) :
 FL l.length (l.drop i) out=tagX l.length (AL l.length (l.drop (toP pName l j)) [] []) shut out:=by
 have key:stepL l.length (l.drop i) out=tagL l.length (l.drop j) shut out:=by
  rw [step_tag h60 hp hp2]
  cases shut with
  | true=>rw [if_neg (by simp [let_one h60 hs]),if_pos hs,hj,if_pos rfl]
  | false =>
   rcases hl with hl | hl
   · cases hl
   · rw [if_pos hl,hj,if_neg (by simp)]
 rw [FL_lt h h60 ho,key,tagL_AL,toP_drop]
 unfold tagX
 cases AL l.length (stopD pName (l.drop j)) [] [] with
 | none =>
  simp only
  rw [if_neg (by omega),FL_nil]
 | some x=>rfl
section
variable {n:Nat} {seen:List (List UInt8)} {ls:List LinkD}
theorem AL_skip (h:i < l.length) (hp:pAttr (nth l i)=false):AL n (l.drop i) seen ls=AL n (l.drop (i+1)) seen ls:=by
 rw [drop_cons l i h]
 exact AL_gap hp
theorem AL_stop (h:i < l.length) (h62:nth l i=62):AL n (l.drop i) seen ls=some (l.drop (i+1),ls):=by
 have e:l.drop i=62 :: l.drop (i+1):=by rw [drop_cons l i h,getD_is l i 62 (by omega) h62];rfl
 rw [e]
 exact AL_end
theorem name_is (h:i < l.length) (_hp:pEq (nth l i)=false∨True) (j:Nat) (hj:j=toP pEq l (i+1)):(l.take j).drop i=l.getD i 0 :: stopT pEq (l.drop (i+1)):=by
 have hle:=toP_le pEq l (i+1) (by omega)
 have e:l.take j=(l.take (i+1)) ++ stopT pEq (l.drop (i+1)):=by
  have h1:=toP_take pEq l (i+1)
  rw [← hj] at h1
  rw [← h1]
  have h2:(l.take j).take (i+1)=l.take (i+1):=by rw [List.take_take];congr 1;omega
  rw [← h2,List.take_append_drop]
 rw [e,List.take_add_one,List.append_assoc,List.drop_append_of_le_length (by rw [List.length_take];omega),List.drop_of_length_le (by rw [List.length_take];omega)]
 simp [List.getD,h]
theorem AL_bare (h:i < l.length) (hp:pAttr (nth l i)=true) (h62:nth l i≠62) (j k:Nat) (hj:j=toP pEq l (i+1)) (hk:k=toP pNotSp l j) (hno:¬ (k < l.length∧nth l k=61)) :
 AL n (l.drop i) seen ls=AL n (l.drop j) (lowL ((l.take j).drop i) :: seen) ls:=by
 have hle:=toP_le pEq l (i+1) (by omega)
 have hle2:=toP_le pNotSp l j (by omega)
 rw [name_is h (.inr trivial) j hj,hj,toP_drop,drop_cons l i h]
 refine AL_go hp (getD_not l i 62 (by omega) h62) ?_
 rw [← toP_drop pEq,← hj,← toP_drop pNotSp,← hk]
 intro hh
 apply hno
 have hkl:k < l.length:=by
  rcases Nat.lt_or_ge k l.length with h' | h'
  · exact h'
  · rw [List.drop_of_length_le h'] at hh;cases hh
 refine⟨hkl,?_⟩
 rw [drop_cons l k hkl] at hh
 injection hh with hh
 unfold nth
 rw [hh]
 rfl
theorem AL_val (h:i < l.length) (hp:pAttr (nth l i)=true) (h62:nth l i≠62) (j k:Nat) (hj:j=toP pEq l (i+1)) (hk:k=toP pNotSp l j) (hkl:k < l.length) (h61:nth l k=61) :
 AL n (l.drop i) seen ls=AL n (valueR (l.drop (k+1))).2.2 (lowL ((l.take j).drop i) :: seen) (addLink n (lowL ((l.take j).drop i)) seen (valueR (l.drop (k+1))) ls):=by
 rw [name_is h (.inr trivial) j hj,drop_cons l i h]
 refine AL_is hp (getD_not l i 62 (by omega) h62) ?_
 rw [← toP_drop pEq,← hj,← toP_drop pNotSp,← hk,drop_cons l k hkl,getD_is l k 61 (by omega) h61]
 rfl
end
/-- A value between quotes. -/
theorem value_quo (k2 T:Nat) (k:Nat) (hk2:k2=toP pNotSp l (k+1)) (hl:k2 < l.length) (hq:nth l k2=34∨nth l k2=39) (hT:T=toP (pIs (nth l k2)) l (k2+1)) :
 valueR (l.drop (k+1))=(l.drop (k2+1),l.drop T,l.drop (min (T+1) l.length)):=by
 have e:stopD pNotSp (l.drop (k+1))=l.getD k2 0 :: l.drop (k2+1):=by rw [← toP_drop,← hk2,drop_cons l k2 hl]
 have hc:l.getD k2 0=34∨l.getD k2 0=39:=by
  rcases hq with hq | hq
  · exact .inl (getD_is l k2 34 (by omega) hq)
  · exact .inr (getD_is l k2 39 (by omega) hq)
 unfold valueR
 rw [e]
 simp only
 rw [if_pos hc]
 have e2:stopD (pIs (l.getD k2 0).toNat) (l.drop (k2+1))=l.drop T:=by rw [hT,toP_drop];rfl
 rw [e2,List.drop_drop]
 congr 2
 rcases Nat.lt_or_ge T l.length with h' | h'
 · rw [Nat.min_eq_left (by omega)]
 · rw [Nat.min_eq_right (by omega),List.drop_of_length_le (by omega),List.drop_length]
theorem value_bare (k2 T:Nat) (k:Nat) (hk2:k2=toP pNotSp l (k+1)) (hq:¬ (k2 < l.length∧(nth l k2=34∨nth l k2=39))) (hT:T=toP pVal l k2) (hle:k2≤l.length) :
 valueR (l.drop (k+1))=(l.drop k2,l.drop T,l.drop T):=by
 rcases Nat.lt_or_ge k2 l.length with hl | hl
 · have e:stopD pNotSp (l.drop (k+1))=l.getD k2 0 :: l.drop (k2+1):=by rw [← toP_drop,← hk2,drop_cons l k2 hl]
   have hc:¬ (l.getD k2 0=34∨l.getD k2 0=39):=by
    intro hc
    apply hq
    refine⟨hl,?_⟩
    unfold nth
    rcases hc with hc | hc <;> rw [hc]
    · exact .inl rfl
    · exact .inr rfl
   unfold valueR
   rw [e]
   simp only
   rw [if_neg hc,← drop_cons l k2 hl,← toP_drop,← hT]
 · have e:stopD pNotSp (l.drop (k+1)) = []:=by rw [← toP_drop,← hk2,List.drop_of_length_le hl]
   have hT2:T=l.length:=by
    have:=toP_le pVal l k2 hle
    omega
   unfold valueR
   rw [e]
   simp only
   rw [hT2,List.drop_length,List.drop_of_length_le hl]
/-- A link of a value, by places. -/
theorem add_at {seen:List (List UInt8)} {ls:List LinkD} {nm:List UInt8} {r3:List UInt8} (a T:Nat) (h1:a≤T) (h2:T≤l.length) :
 addLink l.length nm seen (l.drop a,l.drop T,r3) ls=if leadsB nm && !seen.contains nm then ls ++ [⟨a,T,unamp ((l.take T).drop a)⟩] else ls:=by
 unfold addLink
 simp only [List.length_drop]
 have e1:l.length - (l.length - a)=a:=by omega
 have e2:l.length - (l.length - T)=T:=by omega
 have e3:(l.drop a).take (l.length - a - (l.length - T))=(l.take T).drop a:=by
  rw [List.drop_take]
  congr 1
  omega
 rw [e1,e2,e3]
end
end Go.Proofs.YtlgbopjhmemaoaaGreatDoor
namespace Go.Proofs.YtlgbopjhmemaoaaGreatDoor
open Go.RowKit
def capsL:List UInt8:=[65,66,67,68,69,70,71,72,73,74,75,76,77,78,79,80,81,82,83,84,85,86,87,88,89,90]
theorem caps_is:∀ x:Fin 256,decide (0≤Lib.indexByte capsL (UInt8.ofNat x.val))=(decide (65≤x.val) && decide (x.val≤90)):=by decide +kernel
theorem small_any (l:List UInt8) (w:World) (hl:l.length≤maxLen):Calls Tryz.prog 85 #[str l] w fun e w'=>e = .returned (str (lowL l))∧Below w.heap.size w w':=by
 unfold maxLen at hl
 obtain⟨c,w1,hconv,hown,hc,hb1,hsz⟩:=run_toOwn (P:=Tryz.prog) w 9 22 5 l Tryz.underlying9 Tryz.underlying22 Tryz.underlying5 rfl
 obtain⟨n,hn⟩:∃ n,n=l.length:=⟨_,rfl⟩
 rw [← hn] at hconv hl hc
 have Hn:=Lib.hid hn
 have Hown:=Lib.hid hown
 have Hsz:=Lib.hid hsz
 clear hn hown hsz
 go_enter Tryz.func85,Tryz.ntmps85
 go_wp2_with fail
 go_loopw [4,9] (fun _ iv wr=>LowRel w n l iv wr) (fun _ iv _=>n - (intOf iv).toNat)
 case atStart=>exact⟨0,by omega,rfl,hb1,by simpa using Hown.out⟩
 case round =>
  obtain⟨k,hk,rfl,hbel,hO⟩:=hrel
  have hlen:((l.take k).map lowB ++ l.drop k).length=n:=by
   simp only [List.length_append,List.length_map,List.length_take,List.length_drop];have:=Hn.out;omega
  by_cases hkn:k < n
  · have hkl:k < l.length:=by rw [← Hn.out];exact hkn
    have hfz:=hO.fz k (by rw [hlen];exact hkn)
    have hcell:wr.cell? ⟨w.heap.size,k,none⟩=some (.int .u8 (nth l k)):=by
     obtain⟨b,off,hA,_,hc⟩:=hO.by_.opn (by rw [hlen];omega)
     injection hA with hA
     injection hA with hA hB _
     subst hA
     subst hB
     have:=hc k (by rw [hlen];exact hkn)
     rw [Nat.zero_add] at this
     rw [this]
     have e:nth ((l.take k).map lowB ++ l.drop k) k=nth l k:=by
      have:((l.take k).map lowB).length=k:=by simp;omega
      unfold nth
      simp only [List.getD]
      rw [List.getElem?_append_right (by omega),this,Nat.sub_self,List.getElem?_drop,Nat.add_zero]
     rw [e]
    have hx:=nth_lt l k
    have hset:=(low_at l k hkl).2
    have hnk:l[k].toNat=nth l k:=(nth_of l k hkl).symm
    have hO2:=hO.set k (lowB l[k])
    rw [← hset] at hO2
    have hI:=fun W=>IndexByte_any capsL (nth l k) W
    have hcap:=caps_is ⟨nth l k,hx⟩
    simp only at hcap
    generalize Lib.indexByte capsL (UInt8.ofNat (nth l k))=z at hI hcap
    have hI2:∀ W,Calls Tryz.prog 82 #[.string ⟨#[65,66,67,68,69,70,71,72,73,74,75,76,77,78,79,80,81,82,83,84,85,86,87,88,89,90]⟩,.int .u8 (nth l k:Nat)] W fun e w'=>e = .returned (.int .i64 z)∧W=w':=hI
    have HI:=Lib.hid hI2
    have HO:=Lib.hid hO
    have HO2:=Lib.hid hO2
    have Hset:=Lib.hid hset
    have Hnk:=Lib.hid hnk
    have Hlen:=Lib.hid hlen
    clear hset hnk hO hO2 hlen hI hI2
    by_cases h12:65≤nth l k∧nth l k≤90
    · have hz:decide (0≤z)=true:=by rw [hcap];simp [h12.1,h12.2]
      have hw32:IntKind.u8.wrap (((nth l k:Nat):Int)+32)=((nth l k+32:Nat):Int):=by rw [IntKind.wrap_u8];omega
      have Hz12:=Lib.hid h12
      have Hcap:=Lib.hid hcap
      clear hcap h12
      go_wp2_with fail
      refine(HI.out _).mono ?_
      rintro e w2 ⟨rfl,rfl⟩
      go_wp2_with fail
      refine⟨⟨k+1,by omega,by go_num,hbel.setCell (Nat.le_refl _) _,?_⟩,by simp [intOf];omega⟩
      have e:(lowB l[k]).toNat=nth l k+32:=by
       unfold lowB
       rw [if_pos ⟨UInt8.le_iff_toNat_le.2 (by rw [Hnk.out];exact Hz12.out.1),UInt8.le_iff_toNat_le.2 (by rw [Hnk.out];exact Hz12.out.2)⟩,UInt8.toNat_add,Hnk.out]
       show(nth l k+32) % 256=_
       have:=Hz12.out
       omega
      have HO3:=HO2.out
      rw [e] at HO3
      first | exact HO3 | (push_cast at HO3;exact HO3)
    · have hz:decide (0≤z)=false:=by
       rw [hcap]
       rw [Bool.and_eq_false_iff,decide_eq_false_iff_not,decide_eq_false_iff_not]
       omega
      have hs:LowRel w n l (.int .i64 ((k+1:Nat):Int)) wr:=by
       refine⟨k+1,by omega,rfl,hbel,?_⟩
       have e:lowB l[k]=l[k]:=lowB_same (by rw [Hnk.out];exact h12)
       rw [Hset.out,e]
       have e2:((l.take k).map lowB ++ l.drop k)[k]'(by rw [Hlen.out];exact hkn)=l[k]:=by
        have:((l.take k).map lowB).length=k:=by simp;omega
        rw [List.getElem_append_right (by omega)]
        simp only [List.getElem_drop]
        congr 1
        omega
       rw [← e2,List.set_getElem_self]
       exact HO.out
      have Hs:=Lib.hid hs
      have Hcap:=Lib.hid hcap
      clear hcap hs h12
      go_wp2_with fail
      refine(HI.out _).mono ?_
      rintro e w2 ⟨rfl,rfl⟩
      go_wp2_with fail
      exact⟨by have:=Hs.out;simpa using this,by simp [intOf];omega⟩
  · have hkn':k=n:=by omega
    have hM:(l.take k).map lowB ++ l.drop k=lowL l:=by
     rw [hkn',List.take_of_length_le (by rw [← Hn.out];omega),List.drop_of_length_le (by rw [← Hn.out];omega),List.append_nil];rfl
    rw [hM] at hO hlen
    have hts:=run_toStr (P:=Tryz.prog) wr 22 9 5 _ (some ⟨w.heap.size,0,none⟩) n c (lowL l) (by have:=hO.by_;rw [hlen] at this;exact this) Tryz.underlying22 Tryz.underlying5 Tryz.underlying9
    clear hO hM hlen hkn'
    go_wp2_with fail
    go_ret
    exact⟨rfl,hbel⟩
end Go.Proofs.YtlgbopjhmemaoaaGreatDoor
namespace Go.Proofs.YtlgbopjhmemaoaaGreatDoor
/-- Does a text hold another one? -/
def hasS (s t:List UInt8):Bool:=decide (0≤Lib.index s t)
end Go.Proofs.YtlgbopjhmemaoaaGreatDoor
namespace Go.Proofs.YtlgbopjhmemaoaaGreatDoor
open Go.RowKit
theorem Contains_any (s m:List UInt8) (w:World) (hM:MaxLenOk w) (hs:s.length≤1000000):Calls Tryz.prog 84 #[str s,str m] w fun e w'=>e = .returned (.bool (hasS s m))∧w=w':=by
 obtain⟨k,hk⟩:=hM
 refine(Go.Proofs.Tryz.strings_Contains ⟨s.toArray⟩ ⟨m.toArray⟩ k w (by simp [ByteArray.size];omega) hk).mono ?_
 rintro e w' ⟨rfl,rfl⟩
 exact⟨rfl,rfl⟩
/-- A variable that holds a text. -/
def BoxS (w:World) (g:Nat) (s:List UInt8):Prop:=w.cell? ⟨g,0,none⟩=some (str s)∧g < w.heap.size
theorem BoxS.below {w w':World} {g:Nat} {s:List UInt8} (h:BoxS w g s) (hb:Below w.heap.size w w'):BoxS w' g s:=
 ⟨(hb.cell (p:=⟨g,0,none⟩) h.2).trans h.1,Nat.lt_of_lt_of_le h.2 hb.size⟩
theorem BoxS.drewN {w:World} {g:Nat} {s:List UInt8} (h:BoxS w g s) (q:Nat):BoxS (w.drewN q) g s:=h
theorem one_at (s:List UInt8) (i:Nat) (h:i < s.length):(s.take (i+1)).drop i = [UInt8.ofNat (nth s i)]:=by
 rw [nth_of s i h,List.take_add_one,List.drop_append_of_le_length (by rw [List.length_take];omega),List.drop_of_length_le (by rw [List.length_take];omega)]
 simp [h]
theorem hasS_one (l:List UInt8) (c:UInt8):hasS l [c]=l.contains c:=by
 unfold hasS
 by_cases h:c∈l
 · obtain⟨x,y,rfl,hx⟩:=first_of l c h
   rw [index_seg x y c (fun hm=>hx c hm rfl)]
   simp
 · rw [index_free l c h]
   simp [h]
theorem rl_space (s:List UInt8) (g i:Nat) (w:World) (hb:BoxS w g s) (hi:i < s.length) :
 Calls Tryz.prog 81 #[.int .i64 (i:Nat),.pointer (some ⟨g,0,none⟩)] w fun e w'=>e = .returned (.bool (isSp (nth s i)))∧w=w':=by
 have h:=isSp_eq ⟨nth s i,nth_lt s i⟩
 simp only at h
 have hI:=fun W=>IndexByte_any [32,9,13,10,12] (nth s i) W
 generalize Lib.indexByte [32,9,13,10,12] (UInt8.ofNat (nth s i))=z at h hI
 rw [h]
 have hc:=hb.1
 have hi0:(0:Int)≤(i:Int):=by omega
 have hi1:(i:Int) < (s.length:Int):=by omega
 have HI:=Lib.hid hI
 clear h hI hb
 go_enter Tryz.func81,Tryz.ntmps81
 go_wp2_with fail
 refine(HI.out _).mono ?_
 rintro e w1 ⟨rfl,rfl⟩
 go_wp2_with fail
 go_ret
 exact⟨rfl,rfl⟩
theorem rl_letter (s:List UInt8) (g i:Nat) (w:World) (hb:BoxS w g s) (hM:MaxLenOk w) (_hs:s.length≤1000000) (hi:i≤1000002) :
 Calls Tryz.prog 83 #[.int .i64 (i:Nat),.pointer (some ⟨g,0,none⟩)] w fun e w'=>e = .returned (.bool (letP s i))∧Below w.heap.size w w':=by
 have hc:=hb.1
 unfold letP
 by_cases hl:i < s.length
 · have d:decide (i < s.length)=true:=by simpa using hl
   have hsm:=small_any [UInt8.ofNat (nth s i)] w (by simp [maxLen])
   have hlo:lowL [UInt8.ofNat (nth s i)] = [lowB (UInt8.ofNat (nth s i))]:=rfl
   have hlt:=letter_small ⟨nth s i,nth_lt s i⟩
   simp only at hlt
   have hcn:=fun W hM=>Contains_any [97,98,99,100,101,102,103,104,105,106,107,108,109,110,111,112,113,114,115,116,117,118,119,120,121,122] [lowB (UInt8.ofNat (nth s i))] W hM (by simp)
   simp only [hasS_one] at hcn
   rw [hlt] at hcn
   rw [hlo] at hsm
   rw [d,Bool.true_and]
   have h1:=one_at s i hl
   have hi0:(0:Int)≤(i:Int):=by omega
   have hi1:(i:Int)≤(i:Int)+1:=by omega
   have hi2:(i:Int)+1≤(s.length:Int):=by omega
   have hsm2:Calls Tryz.prog 85 #[str ((s.take (i+1)).drop i)] w fun e w'=>e = .returned (str [lowB (UInt8.ofNat (nth s i))])∧Below w.heap.size w w':=by rw [h1];exact hsm
   have Hsm:=Lib.hid hsm2
   have Hcn:=Lib.hid hcn
   have HM:=Lib.hid hM
   have Hl:=Lib.hid hl
   clear hlo hlt hcn h1 hsm hsm2 hM hl hb
   go_enter Tryz.func83,Tryz.ntmps83
   go_wp2_with fail
   refine Hsm.out.mono ?_
   rintro e w1 ⟨rfl,hb1⟩
   have Hb1:=Lib.hid hb1
   clear hb1
   go_wp2_with fail
   refine(Hcn.out w1 (HM.out.below Hb1.out)).mono ?_
   rintro e w2 ⟨rfl,rfl⟩
   go_wp2_with fail
   go_ret
   exact⟨rfl,Hb1.out⟩
 · have d:decide (i < s.length)=false:=by simpa using hl
   rw [d,Bool.false_and]
   clear hM hb hl
   go_enter Tryz.func83,Tryz.ntmps83
   go_wp2_with fail
   go_ret
   exact⟨rfl,Below.refl _ _⟩
/-- Where one goes on behind a text. -/
def behP (s t:List UInt8) (i:Nat):Nat:=s.length - (pastL t (s.drop i)).length
theorem behP_drop (s t:List UInt8) (i:Nat) (h:i≤s.length) (ht:t≠[]):s.drop (behP s t i)=pastL t (s.drop i)∧behP s t i≤s.length∧(0≤Lib.index (s.drop i) t→i≤behP s t i∧((Lib.index (s.drop i) t).toNat+i+t.length=behP s t i)):=by
 unfold behP pastL
 by_cases hx:Lib.index (s.drop i) t < 0
 · rw [if_pos hx]
   refine⟨by simp,by omega,fun h0=>absurd hx (by omega)⟩
 · rw [if_neg hx]
   obtain⟨k,hk⟩:∃ k:Nat,Lib.index (s.drop i) t=k:=⟨(Lib.index (s.drop i) t).toNat,by omega⟩
   have hb:=(index_keep t (s.drop i) [] k hk ht).2
   rw [List.length_drop] at hb
   rw [hk,List.drop_drop,List.length_drop,Int.toNat_natCast]
   refine⟨?_,by omega,fun _=>⟨by omega,by omega⟩⟩
   congr 1
   omega
theorem rl_behind (s t:List UInt8) (g i:Nat) (w:World) (hb:BoxS w g s) (hM:MaxLenOk w) (hs:s.length≤1000000) (hi:i≤s.length) (ht:t≠[]) (htl:t.length≤10) :
 Calls Tryz.prog 86 #[.int .i64 (i:Nat),str t,.pointer (some ⟨g,0,none⟩)] w fun e w'=>e = .returned (.int .i64 (behP s t i:Nat))∧w=w':=by
 have hc:=hb.1
 obtain⟨_,hbe,hbk⟩:=behP_drop s t i hi ht
 have hI:=Index_any (s.drop i) t w hM (by rw [List.length_drop];omega)
 have hI2:Calls Tryz.prog 76 #[str (s.drop i),str t] w fun e w'=>e = .returned (.int .i64 (Lib.index (s.drop i) t))∧w'=w:=hI
 have hi0:(0:Int)≤(i:Int):=by omega
 have hi1:(i:Int)≤(s.length:Int):=by omega
 by_cases hx:Lib.index (s.drop i) t < 0
 · have e:behP s t i=s.length:=by unfold behP pastL;rw [if_pos hx];simp
   rw [e]
   generalize Lib.index (s.drop i) t=z at hx hI2
   have HI:=Lib.hid hI2
   have d:decide (z < 0)=true:=by simpa using hx
   clear hI hI2 hbk hbe e hM hb
   go_enter Tryz.func86,Tryz.ntmps86
   go_wp2_with fail
   refine HI.out.mono ?_
   rintro e w1 ⟨rfl,rfl⟩
   go_wp2_with fail
   go_ret
   exact⟨rfl,rfl⟩
 · obtain⟨k,hk⟩:∃ k:Nat,Lib.index (s.drop i) t=k:=⟨(Lib.index (s.drop i) t).toNat,by omega⟩
   rw [hk] at hI2 hbk
   obtain⟨_,hk2⟩:=hbk (by omega)
   rw [Int.toNat_natCast] at hk2
   have e:((behP s t i:Nat):Int)=(i:Int)+(k:Int)+(t.length:Int):=by omega
   have HI:=Lib.hid hI2
   have He:=Lib.hid e
   have hk3:k≤1000000:=by omega
   have d:decide ((k:Int) < 0)=false:=by simp
   clear hI hI2 hbk hbe e hM hb hk2 hk hx
   go_enter Tryz.func86,Tryz.ntmps86
   go_wp2_with fail
   refine HI.out.mono ?_
   rintro e w1 ⟨rfl,rfl⟩
   go_wp2_with fail
   go_ret
   exact⟨by rw [He.out];rfl,rfl⟩
theorem strs_data (l:List (List UInt8)):(l.map fun x=>(⟨x.toArray⟩:ByteArray)).map (fun s=>s.data.toList)=l:=by
 rw [List.map_map]
 conv=>rhs;rw [← List.map_id l]
 exact List.map_congr_left fun _ _=>rfl
theorem JoinS_any (l:List (List UInt8)) (sep:List UInt8) (S:Option Addr) (c B:Nat) (w:World) (h:Sl w B 1 S l.length (l.map str)) (hB:B≤w.heap.size) (hc:l.length≤c) (hn:l.length≤100000000) (hlen:(Lib.join l sep).length≤100000000) :
 Calls Tryz.prog 88 #[.slice S l.length c,.string ⟨sep.toArray⟩] w fun e w'=>e = .returned (str (Lib.join l sep))∧Below w.heap.size w w':=by
 rcases l with _ | ⟨x,r⟩
 · refine(Go.Proofs.Tryz.strings_Join_none S c ⟨sep.toArray⟩ w).mono ?_
   rintro e w' ⟨rfl,rfl⟩
   exact⟨rfl,Below.refl _ _⟩
 · obtain⟨b,off,rfl,hb,hcell⟩:=h.2 (by simp)
   have e1:=strs_data (x :: r)
   have hk:=Go.Proofs.Tryz.strings_Join b off c ((x :: r).map fun l=>(⟨l.toArray⟩:ByteArray)) ⟨sep.toArray⟩ w (fun j y hy=>by
    refine hcell j _ ?_
    rw [List.getElem?_map] at hy ⊢
    cases hq:(x :: r)[j]? with
    | none=>rw [hq] at hy;cases hy
    | some z=>rw [hq] at hy;simp at hy;subst hy;rfl) (Nat.lt_of_lt_of_le hb hB) (by simp at hn ⊢;omega) (by simpa using hc) (by rw [e1];show(Lib.join (x :: r) sep).length≤_;omega)
   rw [e1] at hk
   simp only [List.length_map] at hk
   exact hk
end Go.Proofs.YtlgbopjhmemaoaaGreatDoor
