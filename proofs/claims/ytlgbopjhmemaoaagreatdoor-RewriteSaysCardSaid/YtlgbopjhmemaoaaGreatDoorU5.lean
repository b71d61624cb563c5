import Derived.Test.YtlgbopjhmemaoaaGreatDoorU1
import Derived.OrdersHeld
import Derived.Test.YtlgbopjhmemaoaaGreatDoorU4
import Derived.Test.YtlgbopjhmemaoaaGreatDoorU3
import Derived.Test.YtlgbopjhmemaoaaGreatDoorU2
import Derived.Laws.RangeString
import Derived.Laws.RangeAny
import Derived.Laws.Runes
import Derived.Lib.IndexAny
import Derived.Lib.OthersKept
import Derived.Shelf.Strings.IndexAnyAll
import Derived.WalkMore
import Derived.Deep.DeepCutAuto
set_option maxRecDepth 100000
set_option maxHeartbeats 40000000
namespace Go.Proofs.YtlgbopjhmemaoaaGreatDoor
open Go.RowKit
section
variable {P:Program}
/-- An append inside a region that draws its order. -/
theorem wpOp_app {k:Nat} {K:Act→World→Prop} {w:World} {ops:Array Oper} {o:Oper} {a:Act} {Q:Exit→Act→World→Prop} (hi:ops[k]? = some o) (hgd:o.guard=none) (s x:Operand) (t:TypeId)
 (ho:o.op = .call { callee:=.builtin .append,args:=#[s,x],argTypes:=#[t,t] })
 (base:Nat) (e:TypeId) (i:TypeInfo) (z:Value) (size bytes:Nat) (ht:P.underlying t=some (.slice e)) (hinf:P.info? e=some i) (hz:i.zero=some z)
 (hsize:i.size=size) (hby:i.bytes=bytes) (hzs:z.cells.size=size) (hsz:0 < size)
 (S:Option Addr) (n cs:Nat) (xs:List Value) (hs:a.eval s = .slice S n cs) (hown:w.ownsRow base e size (.slice S n cs) n xs)
 (B:Nat) (A:Option Addr) (m c:Nat) (news:List Value) (hx:a.eval x = .slice A m c) (hr:Sl w B size A m news) (h1:∀ u∈news,u.oneCell'=true)
 (h63:n+m≤maxLen) (hbytes:(n+m) * bytes≤140737488355328) (hbase:base≤w.heap.size)
 (h:∀ S' c' w',w'.ownsRow base e size (.slice S' (n+m) c') (n+m) (xs ++ news)→Below base w w'→w.grownBy w' (Value.ownBlock (.slice S n cs))→K (a.put o.dst (.slice S' (n+m) c')) w'):wpOp P ops Q k K a w:=by
 obtain⟨S',c',w',hrun,h2,h3,h4⟩:=run_app (P:=P) w base t o.type e i z size bytes ht hinf hz hsize hby hzs hsz S n cs xs hown B A m c news hr h1 h63 hbytes hbase
 have hw:Region.wanted o (yielded ops a.tmps)=true:=by simp [Region.wanted,hgd]
 unfold wpOp
 simp only [hi,hw,if_true]
 refine .inl ?_
 unfold Oper.wp execOp
 simp only [ho,resolve,invoke,builtin,Sem.run_bind,Sem.run_pure,Result.andThen_ok,List.map_toArray,List.map_cons,List.map_nil,hs,hx,hrun]
 exact h S' c' w' h2 ((Below.refl base w).grown h3 hbase (fun k hk=>(hown.lt k hk).1)) h3
/-- An append of a string's bytes, likewise. -/
theorem wpOp_appStr {k:Nat} {K:Act→World→Prop} {w:World} {ops:Array Oper} {o:Oper} {a:Act} {Q:Exit→Act→World→Prop} (hi:ops[k]? = some o) (hgd:o.guard=none) (s x:Operand) (t u:TypeId)
 (ho:o.op = .call { callee:=.builtin .append,args:=#[s,x],argTypes:=#[t,u] })
 (base:Nat) (e:TypeId) (i:TypeInfo) (ht:P.underlying t=some (.slice e)) (hu:P.underlying u=some .string) (hinf:P.info? e=some i) (hz:i.zero=some (.int .u8 0))
 (hsize:i.size=1) (hby:i.bytes=1)
 (S:Option Addr) (n cs:Nat) (xs:List Value) (hs:a.eval s = .slice S n cs) (hown:w.ownsRow base e 1 (.slice S n cs) n xs)
 (l:List UInt8) (hx:a.eval x=str l)
 (h63:n+l.length≤maxLen) (hbytes:n+l.length≤140737488355328) (hbase:base≤w.heap.size)
 (h:∀ S' c' w',w'.ownsRow base e 1 (.slice S' (n+l.length) c') (n+l.length) (xs ++ Lib.byteCells l)→Below base w w'→w.grownBy w' (Value.ownBlock (.slice S n cs))→K (a.put o.dst (.slice S' (n+l.length) c')) w'):wpOp P ops Q k K a w:=by
 have hsz:(⟨l.toArray⟩:ByteArray).size=l.length:=by simp [ByteArray.size]
 obtain⟨v',w',hrun,h2,h3,h4⟩:=Lib.run_append_own_string (P:=P) w base t u o.type e i ht hu hinf hz hsize hby _ n xs hown ⟨l.toArray⟩ (by rw [hsz];exact h63) (by rw [hsz];exact hbytes) hbase
 rw [hsz] at h2
 obtain⟨S',c',rfl⟩:∃ S' c',v' = .slice S' (n+l.length) c':=by
  rcases h2.2 with ⟨hv,h0⟩ | ⟨g,cap,cur,hv,_⟩
  · exact⟨none,0,by rw [hv,h0]⟩
  · exact⟨_,_,hv⟩
 have hw:Region.wanted o (yielded ops a.tmps)=true:=by simp [Region.wanted,hgd]
 have hx':a.eval x = .string ⟨l.toArray⟩:=hx
 unfold wpOp
 simp only [hi,hw,if_true]
 refine .inl ?_
 unfold Oper.wp execOp
 simp only [ho,resolve,invoke,builtin,Sem.run_bind,Sem.run_pure,Result.andThen_ok,List.map_toArray,List.map_cons,List.map_nil,hs,hx',hrun]
 exact h S' c' w' h2 ((Below.refl base w).grown h3 hbase (fun k hk=>(hown.lt k hk).1)) h3
/-- What yields in whatever world. -/
theorem wpOp_val {k:Nat} {K:Act→World→Prop} {w:World} {ops:Array Oper} {o:Oper} {a:Act} {Q:Exit→Act→World→Prop} (hi:ops[k]? = some o) (hgd:o.guard=none) (v:Value) (hv:(execOp a.eval o).run P w = .ok (.value v) w) (h:K (a.put o.dst v) w):wpOp P ops Q k K a w:=by
 have hw:Region.wanted o (yielded ops a.tmps)=true:=by simp [Region.wanted,hgd]
 unfold wpOp
 simp only [hi,hw,if_true]
 refine .inl ?_
 unfold Oper.wp
 simp only [hv,Oper.upon]
 exact h
end
end Go.Proofs.YtlgbopjhmemaoaaGreatDoor
namespace Go.Proofs.YtlgbopjhmemaoaaGreatDoor
open Go.RowKit
theorem wpOp_store {P:Program} {k:Nat} {K:Act→World→Prop} {w:World} {ops:Array Oper} {o:Oper} {a:Act} {Q:Exit→Act→World→Prop} (hi:ops[k]? = some o) (hw:Region.wanted o (yielded ops a.tmps)=true) (w':World)
 (hrun:(execOp a.eval o).run P w = .ok .skip w') (h:K (a.put o.dst undef) w'):wpOp P ops Q k K a w:=by
 unfold wpOp
 simp only [hi,hw,if_true]
 refine .inl ?_
 unfold Oper.wp
 rw [hrun,Oper.upon_skip]
 exact h
/-- A block that holds an address, and nothing else. -/
def UB (w:World) (b:Nat) (u:UrlD):Prop:=w.heap[b]? = some (.cells #[str u.scheme,.bool u.hasHost,str u.host,str u.path,.bool u.hasQuery,str u.query,.bool u.hasFrag,str u.frag] 103 (0,0))
section
variable {w w':World} {b:Nat} {u:UrlD}
theorem UB.lt (h:UB w b u):b < w.heap.size:=by
 rcases Nat.lt_or_ge b w.heap.size with h' | h'
 · exact h'
 · unfold UB at h;rw [Array.getElem?_eq_none h'] at h;cases h
theorem UB.box (h:UB w b u):Box8 w b (str u.scheme) (.bool u.hasHost) (str u.host) (str u.path) (.bool u.hasQuery) (str u.query) (.bool u.hasFrag) (str u.frag):=by
 unfold UB at h
 refine⟨?_,?_,?_,?_,?_,?_,?_,?_⟩ <;> (unfold World.cell?;rw [h];rfl)
theorem UB.fz (h:UB w b u):∀ i,w.frozen? ⟨b,i,none⟩=false:=by
 intro i
 unfold UB at h
 unfold World.frozen?
 rw [h]
 simp
theorem UB.below (h:UB w b u) (hb:Below w.heap.size w w'):UB w' b u:=(hb.block b h.lt).trans h
theorem UB.drewN (h:UB w b u) (n:Nat):UB (w.drewN n) b u:=h
theorem UB.other (h:UB w b u) {c k:Nat} (hne:c≠b) (v:Value):UB (w.setCell ⟨c,k,none⟩ v) b u:=by
 unfold UB at h ⊢
 rw [← h]
 simp only [World.setCell,Array.getElem?_modify]
 rw [if_neg hne]
theorem UB.new (w:World) (u:UrlD):UB (w.alloc (.cells #[str u.scheme,.bool u.hasHost,str u.host,str u.path,.bool u.hasQuery,str u.query,.bool u.hasFrag,str u.frag] 103)) w.heap.size u:=heap_alloc_new w _
theorem UB.put (h:UB w b u) (k:Nat) (v:Value):(w.setCell ⟨b,k,none⟩ v).heap[b]? = some (.cells (#[str u.scheme,.bool u.hasHost,str u.host,str u.path,.bool u.hasQuery,str u.query,.bool u.hasFrag,str u.frag].setIfInBounds k v) 103 (0,0)):=by
 unfold UB at h
 simp only [World.setCell,Array.getElem?_modify,if_pos,h,Option.map_some]
 rfl
theorem UB.s0 (h:UB w b u) (x:List UInt8):UB (w.setCell ⟨b,0,none⟩ (str x)) b { u with scheme:=x }:=h.put 0 _
theorem UB.s1 (h:UB w b u) (x:Bool):UB (w.setCell ⟨b,1,none⟩ (.bool x)) b { u with hasHost:=x }:=h.put 1 _
theorem UB.s2 (h:UB w b u) (x:List UInt8):UB (w.setCell ⟨b,2,none⟩ (str x)) b { u with host:=x }:=h.put 2 _
theorem UB.s3 (h:UB w b u) (x:List UInt8):UB (w.setCell ⟨b,3,none⟩ (str x)) b { u with path:=x }:=h.put 3 _
theorem UB.s4 (h:UB w b u) (x:Bool):UB (w.setCell ⟨b,4,none⟩ (.bool x)) b { u with hasQuery:=x }:=h.put 4 _
theorem UB.s5 (h:UB w b u) (x:List UInt8):UB (w.setCell ⟨b,5,none⟩ (str x)) b { u with query:=x }:=h.put 5 _
theorem UB.s6 (h:UB w b u) (x:Bool):UB (w.setCell ⟨b,6,none⟩ (.bool x)) b { u with hasFrag:=x }:=h.put 6 _
theorem UB.s7 (h:UB w b u) (x:List UInt8):UB (w.setCell ⟨b,7,none⟩ (str x)) b { u with frag:=x }:=h.put 7 _
end
/-- The result's block, and the address that is made beside it. -/
structure PB (w W:World) (r u:UrlD):Prop where
 bel:Below w.heap.size w W
 res:UB W w.heap.size r
 own:UB W (w.heap.size+1) u
section
variable {w W W':World} {r u:UrlD}
theorem PB.below (h:PB w W r u) (hb:Below W.heap.size W W'):PB w W' r u:=⟨h.bel.trans (hb.mono h.bel.size),h.res.below hb,h.own.below hb⟩
theorem PB.drewN (h:PB w W r u) (n:Nat):PB w (W.drewN n) r u:=⟨belN h.bel n,h.res,h.own⟩
theorem PB.drew (h:PB w W r u):PB w W.drew r u:=⟨h.bel.drew,h.res,h.own⟩
theorem PB.s0 (h:PB w W r u) (x:List UInt8):PB w (W.setCell ⟨w.heap.size+1,0,none⟩ (str x)) r { u with scheme:=x }:=⟨h.bel.setCell (by simp) _,h.res.other (by omega) _,h.own.s0 x⟩
theorem PB.s1 (h:PB w W r u) (x:Bool):PB w (W.setCell ⟨w.heap.size+1,1,none⟩ (.bool x)) r { u with hasHost:=x }:=⟨h.bel.setCell (by simp) _,h.res.other (by omega) _,h.own.s1 x⟩
theorem PB.s2 (h:PB w W r u) (x:List UInt8):PB w (W.setCell ⟨w.heap.size+1,2,none⟩ (str x)) r { u with host:=x }:=⟨h.bel.setCell (by simp) _,h.res.other (by omega) _,h.own.s2 x⟩
theorem PB.s3 (h:PB w W r u) (x:List UInt8):PB w (W.setCell ⟨w.heap.size+1,3,none⟩ (str x)) r { u with path:=x }:=⟨h.bel.setCell (by simp) _,h.res.other (by omega) _,h.own.s3 x⟩
theorem PB.s4 (h:PB w W r u) (x:Bool):PB w (W.setCell ⟨w.heap.size+1,4,none⟩ (.bool x)) r { u with hasQuery:=x }:=⟨h.bel.setCell (by simp) _,h.res.other (by omega) _,h.own.s4 x⟩
theorem PB.s5 (h:PB w W r u) (x:List UInt8):PB w (W.setCell ⟨w.heap.size+1,5,none⟩ (str x)) r { u with query:=x }:=⟨h.bel.setCell (by simp) _,h.res.other (by omega) _,h.own.s5 x⟩
theorem PB.s6 (h:PB w W r u) (x:Bool):PB w (W.setCell ⟨w.heap.size+1,6,none⟩ (.bool x)) r { u with hasFrag:=x }:=⟨h.bel.setCell (by simp) _,h.res.other (by omega) _,h.own.s6 x⟩
theorem PB.s7 (h:PB w W r u) (x:List UInt8):PB w (W.setCell ⟨w.heap.size+1,7,none⟩ (str x)) r { u with frag:=x }:=⟨h.bel.setCell (by simp) _,h.res.other (by omega) _,h.own.s7 x⟩
theorem PB.fill (h:PB w W r u) (x:UrlD):PB w ((((((((W.setCell ⟨w.heap.size,0,none⟩ (str x.scheme)).setCell ⟨w.heap.size,1,none⟩ (.bool x.hasHost)).setCell ⟨w.heap.size,2,none⟩ (str x.host)).setCell ⟨w.heap.size,3,none⟩ (str x.path)).setCell ⟨w.heap.size,4,none⟩ (.bool x.hasQuery)).setCell ⟨w.heap.size,5,none⟩ (str x.query)).setCell ⟨w.heap.size,6,none⟩ (.bool x.hasFrag)).setCell ⟨w.heap.size,7,none⟩ (str x.frag)) x u:=
 ⟨(((((((h.bel.setCell (Nat.le_refl _) _).setCell (Nat.le_refl _) _).setCell (Nat.le_refl _) _).setCell (Nat.le_refl _) _).setCell (Nat.le_refl _) _).setCell (Nat.le_refl _) _).setCell (Nat.le_refl _) _).setCell (Nat.le_refl _) _,
  (((((((h.res.s0 x.scheme).s1 x.hasHost).s2 x.host).s3 x.path).s4 x.hasQuery).s5 x.query).s6 x.hasFrag).s7 x.frag,
  (((((((h.own.other (by omega) _).other (by omega) _).other (by omega) _).other (by omega) _).other (by omega) _).other (by omega) _).other (by omega) _).other (by omega) _⟩
theorem PB.fzr (h:PB w W r u):W.frozen? ⟨w.heap.size,0,none⟩=false∧W.frozen? ⟨w.heap.size,1,none⟩=false∧W.frozen? ⟨w.heap.size,2,none⟩=false∧W.frozen? ⟨w.heap.size,3,none⟩=false∧W.frozen? ⟨w.heap.size,4,none⟩=false∧W.frozen? ⟨w.heap.size,5,none⟩=false∧W.frozen? ⟨w.heap.size,6,none⟩=false∧W.frozen? ⟨w.heap.size,7,none⟩=false:=
 ⟨h.res.fz 0,h.res.fz 1,h.res.fz 2,h.res.fz 3,h.res.fz 4,h.res.fz 5,h.res.fz 6,h.res.fz 7⟩
end
theorem LastIndexByte_any (l:List UInt8) (w:World) (hl:l.length≤1000000):Calls Tryz.prog 158 #[str l,.int .u8 47] w fun e w'=>e = .returned (.int .i64 (Lib.lastIndexByte ⟨l.toArray⟩ 47))∧w'=w:=
 Go.Proofs.Tryz.strings_LastIndexByte ⟨l.toArray⟩ 47 (by simp [ByteArray.size];omega) w
theorem merged_any (b:UrlD) (p:List UInt8) (w:World) (hb:b.path.length≤1000) (hp:p.length≤1000):Calls Tryz.prog 119 #[b.val,str p] w fun e w'=>e = .returned (str (mergedU b p))∧Below w.heap.size w w':=by
 obtain⟨W,hW⟩:∃ W,W=w.alloc (.cells #[str b.scheme,.bool b.hasHost,str b.host,str b.path,.bool b.hasQuery,str b.query,.bool b.hasFrag,str b.frag] 103):=⟨_,rfl⟩
 have hbW:Below w.heap.size w W:=by rw [hW];exact(Below.refl _ w).alloc (Nat.le_refl _) _
 have hbx:Box8 W w.heap.size (str b.scheme) (.bool b.hasHost) (str b.host) (str b.path) (.bool b.hasQuery) (str b.query) (.bool b.hasFrag) (str b.frag):=by rw [hW];exact Box8.new w _ _ _ _ _ _ _ _ _
 have HbW:=Lib.hid hbW
 clear hbW
 obtain⟨c0,c1,c2,c3,c4,c5,c6,c7⟩:=hbx
 obtain⟨r,hr⟩:∃ r,r=mergedU b p:=⟨_,rfl⟩
 rw [← hr]
 unfold mergedU at hr
 have hX:=fun X=>LastIndexByte_any b.path X (by omega)
 obtain⟨v1,v2⟩:=lastIdx_range b.path
 generalize Lib.lastIndexByte ⟨b.path.toArray⟩ 47=v at hr hX v1 v2
 have HX:=Lib.hid hX
 have hval:b.val = .agg #[str b.scheme,.bool b.hasHost,str b.host,str b.path,.bool b.hasQuery,str b.query,.bool b.hasFrag,str b.frag]:=rfl
 rw [hval]
 clear hX hval
 obtain⟨sc,hh,ho,pa,hq,qu,hf,fr⟩:=b
 simp only at *
 by_cases hc:(hh && pa == [])=true
 · rw [if_pos hc] at hr
   rw [Bool.and_eq_true,beq_iff_eq] at hc
   obtain⟨rfl,rfl⟩:=hc
   have HR:=Lib.hid hr
   clear hr
   go_enter Tryz.func119,Tryz.ntmps119
   go_wp2_with fail
   go_ret
   rw [← hW]
   exact⟨by rw [HR.out];rfl,HbW.out⟩
 · rw [if_neg hc] at hr
   have i1:IntKind.i64.wrap (v+1)=v+1:=IntWalk.i64_in _ (by omega)
   have i2:0≤v+1:=by omega
   have i3:v+1≤(pa.length:Int):=by omega
   have i4:(pa.take (v+1).toNat).length+p.length≤9223372036854775807:=by rw [List.length_take];omega
   have HR:=Lib.hid hr
   have HI:=Lib.hid hc
   clear hr hc
   cases hh
   · go_enter Tryz.func119,Tryz.ntmps119
     go_wp2_with fail
     go_quiet ((go_at_call 158;exact Calls.quiet_of_same (HX.out _)))
     go_wp2_with fail
     go_ret
     rw [← hW]
     exact⟨by rw [HR.out];rfl,belN HbW.out _⟩
   · have e1:(pa == [])=false:=by
      have:=HI.out
      rw [Bool.true_and,Bool.not_eq_true] at this
      exact this
     go_enter Tryz.func119,Tryz.ntmps119
     go_wp2_with fail
     go_quiet ((go_at_call 158;exact Calls.quiet_of_same (HX.out _)))
     go_wp2_with fail
     go_ret
     rw [← hW]
     exact⟨by rw [HR.out];rfl,belN HbW.out _⟩
/-- Two addresses that came in, and the result's block. -/
structure LB (w W:World) (b u r:UrlD):Prop where
 bel:Below w.heap.size w W
 bas:UB W w.heap.size b
 rel:UB W (w.heap.size+1) u
 res:UB W (w.heap.size+1+1) r
/-- And the address that is made beside them. -/
structure LC (w W:World) (b u r x:UrlD) (o:Nat):Prop extends LB w W b u r where
 own:UB W o x
 far:w.heap.size+3≤o
section
variable {w W W':World} {b u r x:UrlD} {o:Nat}
theorem LB.below (h:LB w W b u r) (hb:Below W.heap.size W W'):LB w W' b u r:=⟨h.bel.trans (hb.mono h.bel.size),h.bas.below hb,h.rel.below hb,h.res.below hb⟩
theorem LB.drewN (h:LB w W b u r) (n:Nat):LB w (W.drewN n) b u r:=⟨belN h.bel n,h.bas,h.rel,h.res⟩
theorem LB.fill (h:LB w W b u r) (x:UrlD):LB w ((((((((W.setCell ⟨w.heap.size+1+1,0,none⟩ (str x.scheme)).setCell ⟨w.heap.size+1+1,1,none⟩ (.bool x.hasHost)).setCell ⟨w.heap.size+1+1,2,none⟩ (str x.host)).setCell ⟨w.heap.size+1+1,3,none⟩ (str x.path)).setCell ⟨w.heap.size+1+1,4,none⟩ (.bool x.hasQuery)).setCell ⟨w.heap.size+1+1,5,none⟩ (str x.query)).setCell ⟨w.heap.size+1+1,6,none⟩ (.bool x.hasFrag)).setCell ⟨w.heap.size+1+1,7,none⟩ (str x.frag)) b u x:=
 ⟨(((((((h.bel.setCell (by show w.heap.size≤w.heap.size+1+1;omega) _).setCell (by show w.heap.size≤w.heap.size+1+1;omega) _).setCell (by show w.heap.size≤w.heap.size+1+1;omega) _).setCell (by show w.heap.size≤w.heap.size+1+1;omega) _).setCell (by show w.heap.size≤w.heap.size+1+1;omega) _).setCell (by show w.heap.size≤w.heap.size+1+1;omega) _).setCell (by show w.heap.size≤w.heap.size+1+1;omega) _).setCell (by show w.heap.size≤w.heap.size+1+1;omega) _,
  (((((((h.bas.other (by omega) _).other (by omega) _).other (by omega) _).other (by omega) _).other (by omega) _).other (by omega) _).other (by omega) _).other (by omega) _,
  (((((((h.rel.other (by omega) _).other (by omega) _).other (by omega) _).other (by omega) _).other (by omega) _).other (by omega) _).other (by omega) _).other (by omega) _,
  (((((((h.res.s0 x.scheme).s1 x.hasHost).s2 x.host).s3 x.path).s4 x.hasQuery).s5 x.query).s6 x.hasFrag).s7 x.frag⟩
theorem LB.fzr (h:LB w W b u r):W.frozen? ⟨w.heap.size+1+1,0,none⟩=false∧W.frozen? ⟨w.heap.size+1+1,1,none⟩=false∧W.frozen? ⟨w.heap.size+1+1,2,none⟩=false∧W.frozen? ⟨w.heap.size+1+1,3,none⟩=false∧W.frozen? ⟨w.heap.size+1+1,4,none⟩=false∧W.frozen? ⟨w.heap.size+1+1,5,none⟩=false∧W.frozen? ⟨w.heap.size+1+1,6,none⟩=false∧W.frozen? ⟨w.heap.size+1+1,7,none⟩=false:=
 ⟨h.res.fz 0,h.res.fz 1,h.res.fz 2,h.res.fz 3,h.res.fz 4,h.res.fz 5,h.res.fz 6,h.res.fz 7⟩
theorem LB.far_set (h:LB w W b u r) {o k:Nat} (ho:w.heap.size+3≤o) (v:Value):LB w (W.setCell ⟨o,k,none⟩ v) b u r:=
 ⟨h.bel.setCell (by show w.heap.size≤o;omega) _,h.bas.other (by omega) _,h.rel.other (by omega) _,h.res.other (by omega) _⟩
theorem LC.below (h:LC w W b u r x o) (hb:Below W.heap.size W W'):LC w W' b u r x o:=⟨h.toLB.below hb,h.own.below hb,h.far⟩
theorem LC.drewN (h:LC w W b u r x o) (n:Nat):LC w (W.drewN n) b u r x o:=⟨h.toLB.drewN n,h.own,h.far⟩
theorem LC.drew (h:LC w W b u r x o):LC w W.drew b u r x o:=⟨⟨h.bel.drew,h.bas,h.rel,h.res⟩,h.own,h.far⟩
theorem LC.s0 (h:LC w W b u r x o) (v:List UInt8):LC w (W.setCell ⟨o,0,none⟩ (str v)) b u r { x with scheme:=v } o:=⟨h.toLB.far_set h.far _,h.own.s0 v,h.far⟩
theorem LC.s1 (h:LC w W b u r x o) (v:Bool):LC w (W.setCell ⟨o,1,none⟩ (.bool v)) b u r { x with hasHost:=v } o:=⟨h.toLB.far_set h.far _,h.own.s1 v,h.far⟩
theorem LC.s2 (h:LC w W b u r x o) (v:List UInt8):LC w (W.setCell ⟨o,2,none⟩ (str v)) b u r { x with host:=v } o:=⟨h.toLB.far_set h.far _,h.own.s2 v,h.far⟩
theorem LC.s3 (h:LC w W b u r x o) (v:List UInt8):LC w (W.setCell ⟨o,3,none⟩ (str v)) b u r { x with path:=v } o:=⟨h.toLB.far_set h.far _,h.own.s3 v,h.far⟩
theorem LC.s4 (h:LC w W b u r x o) (v:Bool):LC w (W.setCell ⟨o,4,none⟩ (.bool v)) b u r { x with hasQuery:=v } o:=⟨h.toLB.far_set h.far _,h.own.s4 v,h.far⟩
theorem LC.s5 (h:LC w W b u r x o) (v:List UInt8):LC w (W.setCell ⟨o,5,none⟩ (str v)) b u r { x with query:=v } o:=⟨h.toLB.far_set h.far _,h.own.s5 v,h.far⟩
end
theorem led_len (b u:UrlD):(ledU b u).path.length≤b.path.length+u.path.length+1:=by
 have hm:(mergedU b u.path).length≤b.path.length+u.path.length+1:=by
  unfold mergedU
  split
  · simp only [List.length_cons];omega
  · rw [List.length_append,List.length_take];omega
 unfold ledU
 split
 · omega
 · split
   · show u.path.length≤_;omega
   · split
     · split <;> (show b.path.length≤_;omega)
     · split
       · show u.path.length≤_;omega
       · exact hm
theorem LB.start (w:World) (b u:UrlD):LB w (((w.alloc (.cells #[str b.scheme,.bool b.hasHost,str b.host,str b.path,.bool b.hasQuery,str b.query,.bool b.hasFrag,str b.frag] 103)).alloc (.cells #[str u.scheme,.bool u.hasHost,str u.host,str u.path,.bool u.hasQuery,str u.query,.bool u.hasFrag,str u.frag] 103)).alloc (.cells #[.string ⟨#[]⟩,.bool false,.string ⟨#[]⟩,.string ⟨#[]⟩,.bool false,.string ⟨#[]⟩,.bool false,.string ⟨#[]⟩] 103)) b u zeroU:=by
 have e1:∀ o,(w.alloc o).heap.size=w.heap.size+1:=fun o=>by simp
 have h0:=UB.new w b
 generalize hw1:w.alloc _=w1 at h0 ⊢
 have s1:w1.heap.size=w.heap.size+1:=by rw [← hw1];simp
 have b1:Below w.heap.size w w1:=by rw [← hw1];exact(Below.refl _ w).alloc (Nat.le_refl _) _
 clear hw1 e1
 have h1:=UB.new w1 u
 generalize hw2:w1.alloc _=w2 at h1 ⊢
 have s2:w2.heap.size=w.heap.size+1+1:=by rw [← hw2];simp [s1]
 have b2:Below w1.heap.size w1 w2:=by rw [← hw2];exact(Below.refl _ w1).alloc (Nat.le_refl _) _
 clear hw2
 have h2:=UB.new w2 zeroU
 have b3:Below w2.heap.size w2 (w2.alloc (.cells #[.string ⟨#[]⟩,.bool false,.string ⟨#[]⟩,.string ⟨#[]⟩,.bool false,.string ⟨#[]⟩,.bool false,.string ⟨#[]⟩] 103)):=(Below.refl _ w2).alloc (Nat.le_refl _) _
 rw [s1] at h1
 rw [s2] at h2
 exact⟨(b1.trans (b2.mono b1.size)).trans (b3.mono (by omega)),(h0.below b2).below b3,h1.below b3,h2⟩
theorem Lead_parts (b u:UrlD) (w:World) (hM:MaxLenOk w) :
 Calls Tryz.prog 69 #[b.val,u.val] w fun e w'=>e = .returned (.tuple #[(leadU b u).1.val,.int .i64 ((leadU b u).2:Nat)])∧Below w.heap.size w w':=by
 obtain⟨W,hW⟩:∃ W,W=((w.alloc (.cells #[str b.scheme,.bool b.hasHost,str b.host,str b.path,.bool b.hasQuery,str b.query,.bool b.hasFrag,str b.frag] 103)).alloc (.cells #[str u.scheme,.bool u.hasHost,str u.host,str u.path,.bool u.hasQuery,str u.query,.bool u.hasFrag,str u.frag] 103)).alloc (.cells #[.string ⟨#[]⟩,.bool false,.string ⟨#[]⟩,.string ⟨#[]⟩,.bool false,.string ⟨#[]⟩,.bool false,.string ⟨#[]⟩] 103):=⟨_,rfl⟩
 have hB:LB w W b u zeroU:=by rw [hW];exact LB.start w b u
 obtain⟨rr,hrr⟩:∃ rr,rr=leadU b u:=⟨_,rfl⟩
 rw [← hrr]
 have HRR:=Lib.hid hrr
 clear hrr
 have hvb:b.val = .agg #[str b.scheme,.bool b.hasHost,str b.host,str b.path,.bool b.hasQuery,str b.query,.bool b.hasFrag,str b.frag]:=rfl
 have hvu:u.val = .agg #[str u.scheme,.bool u.hasHost,str u.host,str u.path,.bool u.hasQuery,str u.query,.bool u.hasFrag,str u.frag]:=rfl
 rw [hvb,hvu]
 clear hvb hvu
 go_enter Tryz.func69,Tryz.ntmps69
 go_wp2_with fail
 rw [← hW]
 clear hW
 have ix0:∀ X:World,(Instr.index 104 (.agg #[str b.scheme,.bool b.hasHost,str b.host,str b.path,.bool b.hasQuery,str b.query,.bool b.hasFrag,str b.frag,str u.scheme,.bool u.hasHost,str u.host,str u.path,.bool u.hasQuery,str u.query,.bool u.hasFrag,str u.frag]) (.int .i64 0)).run Tryz.prog X = .ok (.agg #[str b.scheme,.bool b.hasHost,str b.host,str b.path,.bool b.hasQuery,str b.query,.bool b.hasFrag,str b.frag]) X:=fun _=>by kernel_rfl
 have ix1:∀ X:World,(Instr.index 104 (.agg #[str b.scheme,.bool b.hasHost,str b.host,str b.path,.bool b.hasQuery,str b.query,.bool b.hasFrag,str b.frag,str u.scheme,.bool u.hasHost,str u.host,str u.path,.bool u.hasQuery,str u.query,.bool u.hasFrag,str u.frag]) (.int .i64 1)).run Tryz.prog X = .ok (.agg #[str u.scheme,.bool u.hasHost,str u.host,str u.path,.bool u.hasQuery,str u.query,.bool u.hasFrag,str u.frag]) X:=fun _=>by kernel_rfl
 have KB:=Lib.hid (fun X=>Check_parts b.scheme b.host b.path b.query b.frag b.hasHost b.hasQuery b.hasFrag X)
 have KU:=Lib.hid (fun X=>Check_parts u.scheme u.host u.path u.query u.frag u.hasHost u.hasQuery u.hasFrag X)
 have eb:(⟨b.scheme,b.hasHost,b.host,b.path,b.hasQuery,b.query,b.hasFrag,b.frag⟩:UrlD)=b:=rfl
 have eu:(⟨u.scheme,u.hasHost,u.host,u.path,u.hasQuery,u.query,u.hasFrag,u.frag⟩:UrlD)=u:=rfl
 rw [eb] at KB
 rw [eu] at KU
 clear eb eu
 have HM:=Lib.hid hM
 clear hM
 go_loopw [14] (fun iv wr=>∃ i:Nat,i≤2∧iv = .int .i64 i∧LB w wr b u zeroU∧Hid (1≤i→checkU b=0)∧Hid (2≤i→checkU u=0)) (fun iv _=>2 - (intOf iv).toNat)
 case atStart=>exact⟨0,by omega,rfl,hB,fun h=>absurd h (by omega),fun h=>absurd h (by omega)⟩
 case round =>
  obtain⟨i,hi,rfl,hL,hkb,hku⟩:=hrel
  rcases(by omega:i=0∨i=1∨i=2) with rfl | rfl | rfl
  · go_wp2_with fail
    refine(KB.out _).mono ?_
    rintro e w1 ⟨rfl,hb1⟩
    have hL1:=(hL.below ((Below.refl _ wr).alloc (Nat.le_refl _) _)).below hb1
    by_cases hc:checkU b=0
    · rw [hc]
      have Hc:=Lib.hid hc
      clear hc hb1
      go_wp2_with fail
      exact⟨⟨1,by omega,rfl,hL1,fun _=>Hc.out,fun h=>absurd h (by omega)⟩,by simp [intOf]⟩
    · have hrr2:rr=(zeroU,checkU b):=by rw [HRR.out];unfold leadU;rw [if_pos hc]
      generalize checkU b=kk at hc hrr2 ⊢
      have ekk:((kk:Int) != 0)=true:=by simp;omega
      have HRR2':=Lib.hid hrr2
      clear hrr2 hc hb1 hkb hku
      obtain⟨y0,y1,y2,y3,y4,y5,y6,y7⟩:=hL1.res.box
      obtain⟨f0,f1,f2,f3,f4,f5,f6,f7⟩:=hL1.fzr
      have HF:=Lib.hid (hL1.fill zeroU)
      have HRR2:=Lib.hid (HRR2'.out)
      go_wp2_with fail
      clear y0 y1 y2 y3 y4 y5 y6 y7 f0 f1 f2 f3 f4 f5 f6 f7
      generalize hwz:World.setCell _ _ _=wz
      have hPz:=HF.out
      unfold zeroU at hPz
      have hPz2:LB w wz b u zeroU:=by rw [← hwz];exact hPz
      obtain⟨c0,c1,c2,c3,c4,c5,c6,c7⟩:=hPz2.res.box
      have hrr:=HRR2.out
      subst hrr
      refine bodyPost_ret (v:=.tuple #[zeroU.val,.int .i64 (kk:Nat)]) (by simp [results,Tryz.results69,go_sem,c0,c1,c2,c3,c4,c5,c6,c7];try rfl) rfl ⟨rfl,hPz2.bel⟩
  · go_wp2_with fail
    refine(KU.out _).mono ?_
    rintro e w1 ⟨rfl,hb1⟩
    have hL1:=(hL.below ((Below.refl _ wr).alloc (Nat.le_refl _) _)).below hb1
    have Hkb:=Lib.hid (hkb.out (by omega))
    by_cases hc:checkU u=0
    · rw [hc]
      have Hc:=Lib.hid hc
      clear hc hb1
      go_wp2_with fail
      exact⟨⟨2,by omega,rfl,hL1,fun _=>Hkb.out,fun _=>Hc.out⟩,by simp [intOf]⟩
    · have hrr2:rr=(zeroU,checkU u):=by rw [HRR.out];unfold leadU;rw [if_neg (by rw [Hkb.out];simp),if_pos hc]
      generalize checkU u=kk at hc hrr2 ⊢
      have ekk:((kk:Int) != 0)=true:=by simp;omega
      have HRR2':=Lib.hid hrr2
      clear hrr2 hc hb1 hkb hku
      obtain⟨y0,y1,y2,y3,y4,y5,y6,y7⟩:=hL1.res.box
      obtain⟨f0,f1,f2,f3,f4,f5,f6,f7⟩:=hL1.fzr
      have HF:=Lib.hid (hL1.fill zeroU)
      have HRR2:=Lib.hid (HRR2'.out)
      go_wp2_with fail
      clear y0 y1 y2 y3 y4 y5 y6 y7 f0 f1 f2 f3 f4 f5 f6 f7
      generalize hwz:World.setCell _ _ _=wz
      have hPz:=HF.out
      unfold zeroU at hPz
      have hPz2:LB w wz b u zeroU:=by rw [← hwz];exact hPz
      obtain⟨c0,c1,c2,c3,c4,c5,c6,c7⟩:=hPz2.res.box
      have hrr:=HRR2.out
      subst hrr
      refine bodyPost_ret (v:=.tuple #[zeroU.val,.int .i64 (kk:Nat)]) (by simp [results,Tryz.results69,go_sem,c0,c1,c2,c3,c4,c5,c6,c7];try rfl) rfl ⟨rfl,hPz2.bel⟩
  · have hcb:=hkb.out (by omega)
    have hcu:=hku.out (by omega)
    have hlb:=check_text hcb
    have hlu:=check_text hcu
    have hrr1:rr=if b.scheme = [] then (zeroU,4) else endU (undotU (ledU b u)):=by rw [HRR.out];unfold leadU;rw [if_neg (by rw [hcb];simp),if_neg (by rw [hcu];simp)]
    have HR1:=Lib.hid hrr1
    have HLB:=Lib.hid hlb
    have HLU:=Lib.hid hlu
    clear hcb hcu hlb hlu hrr1 HRR KB KU hkb hku ix0 ix1 hi
    obtain⟨b0,b1,b2,b3,b4,b5,b6,b7⟩:=hL.bas.box
    by_cases hbs:b.scheme = []
    · have ebs:(b.scheme == [])=true:=by rw [hbs];rfl
      have hrr2:rr=(zeroU,4):=by rw [HR1.out,if_pos hbs]
      have HRR2':=Lib.hid hrr2
      clear hrr2 hbs
      obtain⟨y0,y1,y2,y3,y4,y5,y6,y7⟩:=hL.res.box
      obtain⟨f0,f1,f2,f3,f4,f5,f6,f7⟩:=hL.fzr
      have HF:=Lib.hid (hL.fill zeroU)
      have HRR2:=Lib.hid (HRR2'.out)
      go_wp2_with fail
      clear y0 y1 y2 y3 y4 y5 y6 y7 f0 f1 f2 f3 f4 f5 f6 f7
      generalize hwz:World.setCell _ _ _=wz
      have hPz:=HF.out
      unfold zeroU at hPz
      have hPz2:LB w wz b u zeroU:=by rw [← hwz];exact hPz
      obtain⟨c0,c1,c2,c3,c4,c5,c6,c7⟩:=hPz2.res.box
      have hrr:=HRR2.out
      subst hrr
      refine bodyPost_ret (v:=.tuple #[zeroU.val,.int .i64 4]) (by simp [results,Tryz.results69,go_sem,c0,c1,c2,c3,c4,c5,c6,c7];try rfl) rfl ⟨rfl,hPz2.bel⟩
    · have ebs:(b.scheme == [])=false:=by simpa using hbs
      have hrr2:rr=endU (undotU (ledU b u)):=by rw [HR1.out,if_neg hbs]
      have HR2:=Lib.hid hrr2
      have Hbs:=Lib.hid hbs
      clear hrr2 hbs HR1
      obtain⟨u0,u1,u2,u3,u4,u5,u6,u7⟩:=hL.rel.box
      have hC:LC w (wr.alloc (.cells #[str u.scheme,.bool u.hasHost,str u.host,str u.path,.bool u.hasQuery,str u.query,.bool u.hasFrag,str u.frag] 103)) b u zeroU u wr.heap.size:=⟨hL.below ((Below.refl _ wr).alloc (Nat.le_refl _) _),UB.new wr u,hL.res.lt⟩
      have HC:=Lib.hid hC
      clear hC
      go_upto_block 2 with (fail)
      rw [show(((2:Nat)):Int)=2 from rfl]
      clear b0 b1 b2 b3 b4 b5 b6 b7 u0 u1 u2 u3 u4 u5 u6 u7 ebs
      have hC:=HC.out
      generalize World.alloc wr _=wA at hC ⊢
      clear HC hL
      generalize wr.heap.size=o at hC ⊢
      go_cut [64] (fun _ wx=>LC w wx b u zeroU (ledU b u) o)
      case first =>
       obtain⟨b0,b1,b2,b3,b4,b5,b6,b7⟩:=hC.bas.box
       obtain⟨u0,u1,u2,u3,u4,u5,u6,u7⟩:=hC.rel.box
       by_cases hus:u.scheme = []
       · have eus:(u.scheme == [])=true:=by rw [hus];rfl
         obtain⟨bh,hbh⟩:∃ x,x=u.hasHost:=⟨_,rfl⟩
         rw [← hbh] at u1
         have HU2:=Lib.hid hbh.symm
         clear hbh
         cases bh
         · have HU1:=Lib.hid hus
           clear hus
           go_wp2_with fail
           clear b0 b1 b2 b3 b4 b5 b6 b7 u0 u1 u2 u3 u4 u5 u6 u7
           refine wp_region_held (S:=fun W'=>∃ x,LC w W' b u zeroU x o) (by kernel_rfl) ?_
           change wpAnyH _ _ _ _ _ _ _ _ (World.drew wA)
           have hQ:=hC.drew
           generalize hgw:World.drew wA=wAd at hQ ⊢
           have hS:∃ x,LC w wAd b u zeroU x o:=⟨_,hQ⟩
           clear hgw hC
           refine tkH (i:=0) (v:=?_) rfl ?_ hS ?_
           rotate_left 1
           · intro W' hb;go_simp;try exact rfl
           refine tkH (i:=1) (v:=?_) rfl ?_ hS ?_
           rotate_left 1
           · intro W' hb;obtain⟨xx,hxx⟩:=hb;obtain⟨b0,b1,b2,b3,b4,b5,b6,b7⟩:=hxx.bas.box;go_simp;try exact rfl
           refine tkH (i:=2) (v:=?_) rfl ?_ hS ?_
           rotate_left 1
           · intro W' hb;go_simp;try exact rfl
           refine tkH (i:=3) (v:=?_) rfl ?_ hS ?_
           rotate_left 1
           · intro W' hb;obtain⟨xx,hxx⟩:=hb;obtain⟨b0,b1,b2,b3,b4,b5,b6,b7⟩:=hxx.bas.box;go_simp;try exact rfl
           refine tkH (i:=4) (v:=?_) rfl ?_ hS ?_
           rotate_left 1
           · intro W' hb;go_simp;try exact rfl
           refine tkH (i:=5) (v:=?_) rfl ?_ hS ?_
           rotate_left 1
           · intro W' hb;obtain⟨xx,hxx⟩:=hb;obtain⟨b0,b1,b2,b3,b4,b5,b6,b7⟩:=hxx.bas.box;go_simp;try exact rfl
           refine tkH (i:=6) (v:=?_) rfl ?_ hS ?_
           rotate_left 1
           · intro W' hb;go_simp;try exact rfl
           refine wpAnyH_all (rs:=[7]) (by kernel_rfl) (by simp) ?_
           intro kk hkk
           simp only [List.mem_singleton] at hkk
           subst hkk
           go_simp
           have yy:=hQ.own.box.1
           have ff:=hQ.own.fz 0
           refine wpOp_store rfl (by kernel_rfl) (World.setCell wAd ⟨o,0,none⟩ (str b.scheme)) (by go_simp) ?_
           have hQ:=hQ.s0 b.scheme
           generalize hgw:World.setCell wAd ⟨o,0,none⟩ (str b.scheme)=wAd' at hQ ⊢
           have hS:∃ x,LC w wAd' b u zeroU x o:=⟨_,hQ⟩
           clear hgw yy ff
           refine⟨hS,?_⟩
           refine tkH (i:=8) (v:=?_) rfl ?_ hS ?_
           rotate_left 1
           · intro W' hb;go_simp;try exact rfl
           refine wpAnyH_all (rs:=[9]) (by kernel_rfl) (by simp) ?_
           intro kk hkk
           simp only [List.mem_singleton] at hkk
           subst hkk
           go_simp
           have yy:=hQ.own.box.2.1
           have ff:=hQ.own.fz 1
           refine wpOp_store rfl (by kernel_rfl) (World.setCell wAd' ⟨o,1,none⟩ (.bool b.hasHost)) (by go_simp) ?_
           have hQ:=hQ.s1 b.hasHost
           generalize hgw:World.setCell wAd' ⟨o,1,none⟩ (.bool b.hasHost)=wAd'' at hQ ⊢
           have hS:∃ x,LC w wAd'' b u zeroU x o:=⟨_,hQ⟩
           clear hgw yy ff
           refine⟨hS,?_⟩
           refine tkH (i:=10) (v:=?_) rfl ?_ hS ?_
           rotate_left 1
           · intro W' hb;go_simp;try exact rfl
           refine wpAnyH_all (rs:=[11]) (by kernel_rfl) (by simp) ?_
           intro kk hkk
           simp only [List.mem_singleton] at hkk
           subst hkk
           go_simp
           have yy:=hQ.own.box.2.2.1
           have ff:=hQ.own.fz 2
           refine wpOp_store rfl (by kernel_rfl) (World.setCell wAd'' ⟨o,2,none⟩ (str b.host)) (by go_simp) ?_
           have hQ:=hQ.s2 b.host
           generalize hgw:World.setCell wAd'' ⟨o,2,none⟩ (str b.host)=wAd''' at hQ ⊢
           have hS:∃ x,LC w wAd''' b u zeroU x o:=⟨_,hQ⟩
           clear hgw yy ff
           refine⟨hS,?_⟩
           refine wpAnyH_done (by kernel_rfl) ?_ _
           go_simp
           have hC:=hQ
           clear hQ hS
           generalize wAd'''=wA2 at hC ⊢
           obtain⟨b0,b1,b2,b3,b4,b5,b6,b7⟩:=hC.bas.box
           obtain⟨u0,u1,u2,u3,u4,u5,u6,u7⟩:=hC.rel.box
           by_cases hup:u.path = []
           · have eup:(u.path == [])=true:=by rw [hup];rfl
             have HU3:=Lib.hid hup
             clear hup
             have yy:=hC.own.box.2.2.2.1
             have ff:=hC.own.fz 3
             have HN:=Lib.hid (hC.s3 b.path)
             have hneo:∀ k,(⟨w.heap.size+1,k,none⟩:Addr)≠⟨o,3,none⟩:=fun k e=>by injection e with e;have:=hC.far;omega
             have hu4:=(hC.s3 b.path).rel.box.2.2.2.2.1
             obtain⟨bq,hbq⟩:∃ x,x=u.hasQuery:=⟨_,rfl⟩
             rw [← hbq] at hu4
             have HU4:=Lib.hid hbq.symm
             clear hbq
             cases bq
             · clear hC hneo u0 u1 u2 u4 u5 u6 u7 b0 b1 b2 b4 b5 b6 b7
               go_wp2_with fail
               clear b3 u3 yy ff hu4
               generalize hwE:World.setCell wA2 _ _=wE
               have hC:=HN.out
               rw [hwE] at hC
               clear hwE HN
               refine wp_region_held (S:=fun W'=>∃ x,LC w W' b u zeroU x o) (by kernel_rfl) ?_
               change wpAnyH _ _ _ _ _ _ _ _ (World.drew wE)
               have hQ:=hC.drew
               generalize hgw:World.drew wE=wEd at hQ ⊢
               have hS:∃ x,LC w wEd b u zeroU x o:=⟨_,hQ⟩
               clear hgw hC
               refine tkH (i:=0) (v:=?_) rfl ?_ hS ?_
               rotate_left 1
               · intro W' hb;go_simp;try exact rfl
               refine tkH (i:=1) (v:=?_) rfl ?_ hS ?_
               rotate_left 1
               · intro W' hb;obtain⟨xx,hxx⟩:=hb;obtain⟨b0,b1,b2,b3,b4,b5,b6,b7⟩:=hxx.bas.box;go_simp;try exact rfl
               refine tkH (i:=2) (v:=?_) rfl ?_ hS ?_
               rotate_left 1
               · intro W' hb;go_simp;try exact rfl
               refine tkH (i:=3) (v:=?_) rfl ?_ hS ?_
               rotate_left 1
               · intro W' hb;obtain⟨xx,hxx⟩:=hb;obtain⟨b0,b1,b2,b3,b4,b5,b6,b7⟩:=hxx.bas.box;go_simp;try exact rfl
               refine tkH (i:=4) (v:=?_) rfl ?_ hS ?_
               rotate_left 1
               · intro W' hb;go_simp;try exact rfl
               refine wpAnyH_all (rs:=[5]) (by kernel_rfl) (by simp) ?_
               intro kk hkk
               simp only [List.mem_singleton] at hkk
               subst hkk
               go_simp
               have yy:=hQ.own.box.2.2.2.2.1
               have ff:=hQ.own.fz 4
               refine wpOp_store rfl (by kernel_rfl) (World.setCell wEd ⟨o,4,none⟩ (.bool b.hasQuery)) (by go_simp) ?_
               have hQ:=hQ.s4 b.hasQuery
               generalize hgw:World.setCell wEd ⟨o,4,none⟩ (.bool b.hasQuery)=wEd' at hQ ⊢
               have hS:∃ x,LC w wEd' b u zeroU x o:=⟨_,hQ⟩
               clear hgw yy ff
               refine⟨hS,?_⟩
               refine tkH (i:=6) (v:=?_) rfl ?_ hS ?_
               rotate_left 1
               · intro W' hb;go_simp;try exact rfl
               refine wpAnyH_all (rs:=[7]) (by kernel_rfl) (by simp) ?_
               intro kk hkk
               simp only [List.mem_singleton] at hkk
               subst hkk
               go_simp
               have yy:=hQ.own.box.2.2.2.2.2.1
               have ff:=hQ.own.fz 5
               refine wpOp_store rfl (by kernel_rfl) (World.setCell wEd' ⟨o,5,none⟩ (str b.query)) (by go_simp) ?_
               have hQ:=hQ.s5 b.query
               generalize hgw:World.setCell wEd' ⟨o,5,none⟩ (str b.query)=wEd'' at hQ ⊢
               have hS:∃ x,LC w wEd'' b u zeroU x o:=⟨_,hQ⟩
               clear hgw yy ff
               refine⟨hS,?_⟩
               refine wpAnyH_done (by kernel_rfl) ?_ _
               go_simp
               have hC:=hQ
               clear hQ hS
               generalize wEd''=wE2 at hC ⊢
               go_wp2_with fail
               go_meet
               have hled:ledU b u = { u with scheme:=b.scheme,hasHost:=b.hasHost,host:=b.host,path:=b.path,hasQuery:=b.hasQuery,query:=b.query }:=by
                unfold ledU
                rw [if_neg (by rw [HU1.out];simp),HU2.out,if_neg (by simp),if_pos HU3.out,HU4.out,if_neg (by simp)]
               rw [hled]
               exact hC
             · clear hC hneo u0 u1 u2 u4 u5 u6 u7 b0 b1 b2 b4 b5 b6 b7
               go_wp2_with fail
               go_meet
               have hled:ledU b u = { u with scheme:=b.scheme,hasHost:=b.hasHost,host:=b.host,path:=b.path }:=by
                unfold ledU
                rw [if_neg (by rw [HU1.out];simp),HU2.out,if_neg (by simp),if_pos HU3.out,HU4.out,if_pos rfl]
               rw [hled]
               exact HN.out
           · have eup:(u.path == [])=false:=by simpa using hup
             have hpl:0 < u.path.length:=List.length_pos_iff.2 hup
             have HU3:=Lib.hid hup
             clear hup
             by_cases h47:nth u.path 0=47
             · have e47:((nth u.path 0:Int) != 47)=false:=by simp [h47]
               have HU4:=Lib.hid h47
               clear h47
               go_wp2_with fail
               go_meet
               have hled:ledU b u = { u with scheme:=b.scheme,hasHost:=b.hasHost,host:=b.host }:=by
                unfold ledU
                rw [if_neg (by rw [HU1.out];simp),HU2.out,if_neg (by simp),if_neg HU3.out,if_pos HU4.out]
               rw [hled]
               exact hC
             · have e47:((nth u.path 0:Int) != 47)=true:=by simp;omega
               have HU4:=Lib.hid h47
               clear h47
               have kM:∀ X,Calls Tryz.prog 119 #[.agg #[str b.scheme,.bool b.hasHost,str b.host,str b.path,.bool b.hasQuery,str b.query,.bool b.hasFrag,str b.frag],str u.path] X fun e w'=>e = .returned (str (mergedU b u.path))∧Below X.heap.size X w':=fun X=>merged_any b u.path X (by have:=HLB.out.2.2.1;omega) (by have:=HLU.out.2.2.1;omega)
               have KM:=Lib.hid kM
               clear kM
               go_wp2_with fail
               refine(KM.out _).mono ?_
               rintro e wM ⟨rfl,hbM⟩
               have hC2:=hC.below hbM
               clear hbM b0 b1 b2 b3 b4 b5 b6 b7 u0 u1 u2 u3 u4 u5 u6 u7 hC
               have yy:=hC2.own.box.2.2.2.1
               have ff:=hC2.own.fz 3
               have HN:=Lib.hid (hC2.s3 (mergedU b u.path))
               clear hC2
               go_wp2_with fail
               go_meet
               have hled:ledU b u = { u with scheme:=b.scheme,hasHost:=b.hasHost,host:=b.host,path:=mergedU b u.path }:=by
                unfold ledU
                rw [if_neg (by rw [HU1.out];simp),HU2.out,if_neg (by simp),if_neg HU3.out,if_neg HU4.out]
               rw [hled]
               exact HN.out
         · have HU1:=Lib.hid hus
           clear hus
           have yy:=hC.own.box.1
           have ff:=hC.own.fz 0
           have HN:=Lib.hid (hC.s0 b.scheme)
           clear hC
           go_wp2_with fail
           go_meet
           have hled:ledU b u = { u with scheme:=b.scheme }:=by
            unfold ledU
            rw [if_neg (by rw [HU1.out];simp),HU2.out,if_pos rfl]
           rw [hled]
           exact HN.out
       · have eus:(u.scheme == [])=false:=by simpa using hus
         have HU1:=Lib.hid hus
         clear hus
         go_wp2_with fail
         go_meet
         have hled:ledU b u=u:=by unfold ledU;rw [if_pos HU1.out]
         rw [hled]
         exact hC
      case rest =>
       have hlen:(ledU b u).path.length≤1000:=by have:=led_len b u;have:=HLB.out.2.2.1;have:=HLU.out.2.2.1;omega
       have hE:=HR2.out
       have HM2:=Lib.hid (HM.out.below hcut.bel)
       have hC:=hcut
       clear hcut HR2
       generalize wc=wX at hC HM2 ⊢
       generalize ledU b u=x at hC hE hlen
       obtain⟨sc,hh,ho,pa,hq,qu,hf,fr⟩:=x
       have kD:=fun X (hX:MaxLenOk X)=>dots_any pa X hX hlen
       obtain⟨y0,y1,y2,y3,y4,y5,y6,y7⟩:=hC.own.box
       have KD:=Lib.hid (kD _ HM2.out)
       clear kD
       cases hh
       · cases hp:Lib.hasPrefix pa [47]
         · have hE1:rr=endU ⟨sc,false,ho,pa,hq,qu,hf,fr⟩:=by rw [hE];unfold undotU;rw [if_neg (by simp only;rw [hp];simp)]
           have kP:=fun X=>HasPrefix_any pa [47] X
           rw [hp] at kP
           have KP0:=Lib.hid kP
           have HE:=Lib.hid hE1
           clear kP hE hE1 hp
           go_wp2_with fail
           refine(KP0.out _).mono ?_
           rintro e wP0 ⟨rfl,rfl⟩
           go_upto_region 23 with fail
           clear y0 y1 y2 y3 y4 y5 y6 y7 KP0 KD
           obtain⟨pp,hpp⟩:∃ pp,pp=Lib.hasPrefix pa [47,47]:=⟨_,rfl⟩
           have kP:=fun X=>HasPrefix_any pa [47,47] X
           rw [← hpp] at kP
           have KP:=Lib.hid kP
           have Hpp:=Lib.hid hpp
           clear kP hpp
           cases pp
           · have hE2:rr=(if checkU ⟨sc,false,ho,pa,hq,qu,hf,fr⟩=0 then (⟨sc,false,ho,pa,hq,qu,hf,fr⟩,0) else (zeroU,checkU ⟨sc,false,ho,pa,hq,qu,hf,fr⟩)):=by
              rw [HE.out]
              unfold endU
              rw [if_neg (by simp only;rw [← Hpp.out];simp)]
             have HE2:=Lib.hid hE2
             clear hE2 HE
             obtain⟨y0,y1,y2,y3,y4,y5,y6,y7⟩:=hC.own.box
             have KK:=Lib.hid (fun X=>Check_parts sc ho pa qu fr false hq hf X)
             by_cases hc:checkU ⟨sc,false,ho,pa,hq,qu,hf,fr⟩=0
             · rw [hc] at KK
               have hrr2:rr=(⟨sc,false,ho,pa,hq,qu,hf,fr⟩,0):=by rw [HE2.out,if_pos hc]
               have HRR3:=Lib.hid hrr2
               clear hrr2 hc HE2
               go_wp2_with fail
               refine(KP.out _).mono ?_
               rintro e wP ⟨rfl,rfl⟩
               go_wp2_with fail
               refine(KK.out _).mono ?_
               rintro e wK ⟨rfl,hbK⟩
               have hCK:=hC.below hbK
               clear hC hbK y0 y1 y2 y3 y4 y5 y6 y7 KK
               obtain⟨c0,c1,c2,c3,c4,c5,c6,c7⟩:=hCK.own.box
               obtain⟨y0,y1,y2,y3,y4,y5,y6,y7⟩:=hCK.res.box
               obtain⟨f0,f1,f2,f3,f4,f5,f6,f7⟩:=hCK.toLB.fzr
               have HF:=Lib.hid (hCK.toLB.fill ⟨sc,false,ho,pa,hq,qu,hf,fr⟩)
               clear hCK
               go_wp2_with fail
               clear y0 y1 y2 y3 y4 y5 y6 y7 f0 f1 f2 f3 f4 f5 f6 f7 c0 c1 c2 c3 c4 c5 c6 c7
               generalize hwz:World.setCell _ _ _=wz
               have hPz:=HF.out
               rw [hwz] at hPz
               obtain⟨c0,c1,c2,c3,c4,c5,c6,c7⟩:=hPz.res.box
               have hrr:=HRR3.out
               subst hrr
               refine bodyPost_ret (v:=.tuple #[UrlD.val ⟨sc,false,ho,pa,hq,qu,hf,fr⟩,.int .i64 0]) (by simp [results,Tryz.results69,go_sem,c0,c1,c2,c3,c4,c5,c6,c7];try rfl) rfl ⟨rfl,hPz.bel⟩
             · have hrr2:rr=(zeroU,checkU ⟨sc,false,ho,pa,hq,qu,hf,fr⟩):=by rw [HE2.out,if_neg hc]
               generalize checkU ⟨sc,false,ho,pa,hq,qu,hf,fr⟩=kk at KK hc hrr2
               have ekk:((kk:Int) != 0)=true:=by simp;omega
               have HRR3:=Lib.hid hrr2
               clear hrr2 hc HE2
               go_wp2_with fail
               refine(KP.out _).mono ?_
               rintro e wP ⟨rfl,rfl⟩
               go_wp2_with fail
               refine(KK.out _).mono ?_
               rintro e wK ⟨rfl,hbK⟩
               have hCK:=hC.below hbK
               clear hC hbK y0 y1 y2 y3 y4 y5 y6 y7 KK
               obtain⟨y0,y1,y2,y3,y4,y5,y6,y7⟩:=hCK.res.box
               obtain⟨f0,f1,f2,f3,f4,f5,f6,f7⟩:=hCK.toLB.fzr
               have HF:=Lib.hid (hCK.toLB.fill zeroU)
               have HRR2:=Lib.hid (HRR3.out)
               clear hCK
               go_wp2_with fail
               clear y0 y1 y2 y3 y4 y5 y6 y7 f0 f1 f2 f3 f4 f5 f6 f7
               generalize hwz:World.setCell _ _ _=wz
               have hPz:=HF.out
               unfold zeroU at hPz
               have hPz2:LB w wz b u zeroU:=by rw [← hwz];exact hPz
               obtain⟨c0,c1,c2,c3,c4,c5,c6,c7⟩:=hPz2.res.box
               have hrr:=HRR2.out
               subst hrr
               refine bodyPost_ret (v:=.tuple #[zeroU.val,.int .i64 (kk:Nat)]) (by simp [results,Tryz.results69,go_sem,c0,c1,c2,c3,c4,c5,c6,c7];try rfl) rfl ⟨rfl,hPz2.bel⟩
           · have hE2:rr=(zeroU,4):=by
              rw [HE.out]
              unfold endU
              rw [if_pos (by simp only;rw [← Hpp.out];simp)]
             have HE2:=Lib.hid hE2
             clear hE2 HE
             obtain⟨y0,y1,y2,y3,y4,y5,y6,y7⟩:=hC.own.box
             go_wp2_with fail
             refine(KP.out _).mono ?_
             rintro e wP ⟨rfl,rfl⟩
             clear y0 y1 y2 y3 y4 y5 y6 y7
             obtain⟨y0,y1,y2,y3,y4,y5,y6,y7⟩:=hC.res.box
             obtain⟨f0,f1,f2,f3,f4,f5,f6,f7⟩:=hC.toLB.fzr
             have HF:=Lib.hid (hC.toLB.fill zeroU)
             have HRR2:=Lib.hid (HE2.out)
             clear hC
             go_wp2_with fail
             clear y0 y1 y2 y3 y4 y5 y6 y7 f0 f1 f2 f3 f4 f5 f6 f7
             generalize hwz:World.setCell _ _ _=wz
             have hPz:=HF.out
             unfold zeroU at hPz
             have hPz2:LB w wz b u zeroU:=by rw [← hwz];exact hPz
             obtain⟨c0,c1,c2,c3,c4,c5,c6,c7⟩:=hPz2.res.box
             have hrr:=HRR2.out
             subst hrr
             refine bodyPost_ret (v:=.tuple #[zeroU.val,.int .i64 4]) (by simp [results,Tryz.results69,go_sem,c0,c1,c2,c3,c4,c5,c6,c7];try rfl) rfl ⟨rfl,hPz2.bel⟩
         · have hE1:rr=endU ⟨sc,false,ho,dotsU pa,hq,qu,hf,fr⟩:=by rw [hE];unfold undotU;rw [if_pos (by simp only;rw [hp];simp)]
           have kP:=fun X=>HasPrefix_any pa [47] X
           rw [hp] at kP
           have KP0:=Lib.hid kP
           have HE:=Lib.hid hE1
           clear kP hE hE1 hp
           go_wp2_with fail
           refine(KP0.out _).mono ?_
           rintro e wP0 ⟨rfl,rfl⟩
           go_wp2_with fail
           refine KD.out.mono ?_
           rintro e wD ⟨rfl,hbD⟩
           have hC2:=hC.below hbD
           clear hC hbD y0 y1 y2 y3 y4 y5 y6 y7
           have yy:=hC2.own.box.2.2.2.1
           have ff:=hC2.own.fz 3
           have HN:=Lib.hid (hC2.s3 (dotsU pa))
           clear hC2
           go_upto_region 23 with fail
           clear yy ff
           generalize hgw:World.setCell wD _ _=wX
           have hC:=HN.out
           rw [hgw] at hC
           clear hgw HN
           generalize dotsU pa=pd at hC HE
           obtain⟨pp,hpp⟩:∃ pp,pp=Lib.hasPrefix pd [47,47]:=⟨_,rfl⟩
           have kP:=fun X=>HasPrefix_any pd [47,47] X
           rw [← hpp] at kP
           have KP:=Lib.hid kP
           have Hpp:=Lib.hid hpp
           clear kP hpp
           cases pp
           · have hE2:rr=(if checkU ⟨sc,false,ho,pd,hq,qu,hf,fr⟩=0 then (⟨sc,false,ho,pd,hq,qu,hf,fr⟩,0) else (zeroU,checkU ⟨sc,false,ho,pd,hq,qu,hf,fr⟩)):=by
              rw [HE.out]
              unfold endU
              rw [if_neg (by simp only;rw [← Hpp.out];simp)]
             have HE2:=Lib.hid hE2
             clear hE2 HE
             obtain⟨y0,y1,y2,y3,y4,y5,y6,y7⟩:=hC.own.box
             have KK:=Lib.hid (fun X=>Check_parts sc ho pd qu fr false hq hf X)
             by_cases hc:checkU ⟨sc,false,ho,pd,hq,qu,hf,fr⟩=0
             · rw [hc] at KK
               have hrr2:rr=(⟨sc,false,ho,pd,hq,qu,hf,fr⟩,0):=by rw [HE2.out,if_pos hc]
               have HRR3:=Lib.hid hrr2
               clear hrr2 hc HE2
               go_wp2_with fail
               refine(KP.out _).mono ?_
               rintro e wP ⟨rfl,rfl⟩
               go_wp2_with fail
               refine(KK.out _).mono ?_
               rintro e wK ⟨rfl,hbK⟩
               have hCK:=hC.below hbK
               clear hC hbK y0 y1 y2 y3 y4 y5 y6 y7 KK
               obtain⟨c0,c1,c2,c3,c4,c5,c6,c7⟩:=hCK.own.box
               obtain⟨y0,y1,y2,y3,y4,y5,y6,y7⟩:=hCK.res.box
               obtain⟨f0,f1,f2,f3,f4,f5,f6,f7⟩:=hCK.toLB.fzr
               have HF:=Lib.hid (hCK.toLB.fill ⟨sc,false,ho,pd,hq,qu,hf,fr⟩)
               clear hCK
               go_wp2_with fail
               clear y0 y1 y2 y3 y4 y5 y6 y7 f0 f1 f2 f3 f4 f5 f6 f7 c0 c1 c2 c3 c4 c5 c6 c7
               generalize hwz:World.setCell _ _ _=wz
               have hPz:=HF.out
               rw [hwz] at hPz
               obtain⟨c0,c1,c2,c3,c4,c5,c6,c7⟩:=hPz.res.box
               have hrr:=HRR3.out
               subst hrr
               refine bodyPost_ret (v:=.tuple #[UrlD.val ⟨sc,false,ho,pd,hq,qu,hf,fr⟩,.int .i64 0]) (by simp [results,Tryz.results69,go_sem,c0,c1,c2,c3,c4,c5,c6,c7];try rfl) rfl ⟨rfl,hPz.bel⟩
             · have hrr2:rr=(zeroU,checkU ⟨sc,false,ho,pd,hq,qu,hf,fr⟩):=by rw [HE2.out,if_neg hc]
               generalize checkU ⟨sc,false,ho,pd,hq,qu,hf,fr⟩=kk at KK hc hrr2
               have ekk:((kk:Int) != 0)=true:=by simp;omega
               have HRR3:=Lib.hid hrr2
               clear hrr2 hc HE2
               go_wp2_with fail
               refine(KP.out _).mono ?_
               rintro e wP ⟨rfl,rfl⟩
               go_wp2_with fail
               refine(KK.out _).mono ?_
               rintro e wK ⟨rfl,hbK⟩
               have hCK:=hC.below hbK
               clear hC hbK y0 y1 y2 y3 y4 y5 y6 y7 KK
               obtain⟨y0,y1,y2,y3,y4,y5,y6,y7⟩:=hCK.res.box
               obtain⟨f0,f1,f2,f3,f4,f5,f6,f7⟩:=hCK.toLB.fzr
               have HF:=Lib.hid (hCK.toLB.fill zeroU)
               have HRR2:=Lib.hid (HRR3.out)
               clear hCK
               go_wp2_with fail
               clear y0 y1 y2 y3 y4 y5 y6 y7 f0 f1 f2 f3 f4 f5 f6 f7
               generalize hwz:World.setCell _ _ _=wz
               have hPz:=HF.out
               unfold zeroU at hPz
               have hPz2:LB w wz b u zeroU:=by rw [← hwz];exact hPz
               obtain⟨c0,c1,c2,c3,c4,c5,c6,c7⟩:=hPz2.res.box
               have hrr:=HRR2.out
               subst hrr
               refine bodyPost_ret (v:=.tuple #[zeroU.val,.int .i64 (kk:Nat)]) (by simp [results,Tryz.results69,go_sem,c0,c1,c2,c3,c4,c5,c6,c7];try rfl) rfl ⟨rfl,hPz2.bel⟩
           · have hE2:rr=(zeroU,4):=by
              rw [HE.out]
              unfold endU
              rw [if_pos (by simp only;rw [← Hpp.out];simp)]
             have HE2:=Lib.hid hE2
             clear hE2 HE
             obtain⟨y0,y1,y2,y3,y4,y5,y6,y7⟩:=hC.own.box
             go_wp2_with fail
             refine(KP.out _).mono ?_
             rintro e wP ⟨rfl,rfl⟩
             clear y0 y1 y2 y3 y4 y5 y6 y7
             obtain⟨y0,y1,y2,y3,y4,y5,y6,y7⟩:=hC.res.box
             obtain⟨f0,f1,f2,f3,f4,f5,f6,f7⟩:=hC.toLB.fzr
             have HF:=Lib.hid (hC.toLB.fill zeroU)
             have HRR2:=Lib.hid (HE2.out)
             clear hC
             go_wp2_with fail
             clear y0 y1 y2 y3 y4 y5 y6 y7 f0 f1 f2 f3 f4 f5 f6 f7
             generalize hwz:World.setCell _ _ _=wz
             have hPz:=HF.out
             unfold zeroU at hPz
             have hPz2:LB w wz b u zeroU:=by rw [← hwz];exact hPz
             obtain⟨c0,c1,c2,c3,c4,c5,c6,c7⟩:=hPz2.res.box
             have hrr:=HRR2.out
             subst hrr
             refine bodyPost_ret (v:=.tuple #[zeroU.val,.int .i64 4]) (by simp [results,Tryz.results69,go_sem,c0,c1,c2,c3,c4,c5,c6,c7];try rfl) rfl ⟨rfl,hPz2.bel⟩
       · have hE1:rr=endU ⟨sc,true,ho,dotsU pa,hq,qu,hf,fr⟩:=by rw [hE];unfold undotU;rw [if_pos (by simp)]
         have HE:=Lib.hid hE1
         clear hE hE1
         go_wp2_with fail
         refine KD.out.mono ?_
         rintro e wD ⟨rfl,hbD⟩
         have hC2:=hC.below hbD
         clear hC hbD y0 y1 y2 y3 y4 y5 y6 y7
         have yy:=hC2.own.box.2.2.2.1
         have ff:=hC2.own.fz 3
         have HN:=Lib.hid (hC2.s3 (dotsU pa))
         clear hC2
         go_upto_region 23 with fail
         clear yy ff
         generalize hgw:World.setCell wD _ _=wX
         have hC:=HN.out
         rw [hgw] at hC
         clear hgw HN
         generalize dotsU pa=pd at hC HE
         have hE2:rr=(if checkU ⟨sc,true,ho,pd,hq,qu,hf,fr⟩=0 then (⟨sc,true,ho,pd,hq,qu,hf,fr⟩,0) else (zeroU,checkU ⟨sc,true,ho,pd,hq,qu,hf,fr⟩)):=by
          rw [HE.out]
          unfold endU
          rw [if_neg (by simp)]
         have HE2:=Lib.hid hE2
         clear hE2 HE
         obtain⟨y0,y1,y2,y3,y4,y5,y6,y7⟩:=hC.own.box
         have KK:=Lib.hid (fun X=>Check_parts sc ho pd qu fr true hq hf X)
         by_cases hc:checkU ⟨sc,true,ho,pd,hq,qu,hf,fr⟩=0
         · rw [hc] at KK
           have hrr2:rr=(⟨sc,true,ho,pd,hq,qu,hf,fr⟩,0):=by rw [HE2.out,if_pos hc]
           have HRR3:=Lib.hid hrr2
           clear hrr2 hc HE2
           go_wp2_with fail
           refine(KK.out _).mono ?_
           rintro e wK ⟨rfl,hbK⟩
           have hCK:=hC.below hbK
           clear hC hbK y0 y1 y2 y3 y4 y5 y6 y7 KK
           obtain⟨c0,c1,c2,c3,c4,c5,c6,c7⟩:=hCK.own.box
           obtain⟨y0,y1,y2,y3,y4,y5,y6,y7⟩:=hCK.res.box
           obtain⟨f0,f1,f2,f3,f4,f5,f6,f7⟩:=hCK.toLB.fzr
           have HF:=Lib.hid (hCK.toLB.fill ⟨sc,true,ho,pd,hq,qu,hf,fr⟩)
           clear hCK
           go_wp2_with fail
           clear y0 y1 y2 y3 y4 y5 y6 y7 f0 f1 f2 f3 f4 f5 f6 f7 c0 c1 c2 c3 c4 c5 c6 c7
           generalize hwz:World.setCell _ _ _=wz
           have hPz:=HF.out
           rw [hwz] at hPz
           obtain⟨c0,c1,c2,c3,c4,c5,c6,c7⟩:=hPz.res.box
           have hrr:=HRR3.out
           subst hrr
           refine bodyPost_ret (v:=.tuple #[UrlD.val ⟨sc,true,ho,pd,hq,qu,hf,fr⟩,.int .i64 0]) (by simp [results,Tryz.results69,go_sem,c0,c1,c2,c3,c4,c5,c6,c7];try rfl) rfl ⟨rfl,hPz.bel⟩
         · have hrr2:rr=(zeroU,checkU ⟨sc,true,ho,pd,hq,qu,hf,fr⟩):=by rw [HE2.out,if_neg hc]
           generalize checkU ⟨sc,true,ho,pd,hq,qu,hf,fr⟩=kk at KK hc hrr2
           have ekk:((kk:Int) != 0)=true:=by simp;omega
           have HRR3:=Lib.hid hrr2
           clear hrr2 hc HE2
           go_wp2_with fail
           refine(KK.out _).mono ?_
           rintro e wK ⟨rfl,hbK⟩
           have hCK:=hC.below hbK
           clear hC hbK y0 y1 y2 y3 y4 y5 y6 y7 KK
           obtain⟨y0,y1,y2,y3,y4,y5,y6,y7⟩:=hCK.res.box
           obtain⟨f0,f1,f2,f3,f4,f5,f6,f7⟩:=hCK.toLB.fzr
           have HF:=Lib.hid (hCK.toLB.fill zeroU)
           have HRR2:=Lib.hid (HRR3.out)
           clear hCK
           go_wp2_with fail
           clear y0 y1 y2 y3 y4 y5 y6 y7 f0 f1 f2 f3 f4 f5 f6 f7
           generalize hwz:World.setCell _ _ _=wz
           have hPz:=HF.out
           unfold zeroU at hPz
           have hPz2:LB w wz b u zeroU:=by rw [← hwz];exact hPz
           obtain⟨c0,c1,c2,c3,c4,c5,c6,c7⟩:=hPz2.res.box
           have hrr:=HRR2.out
           subst hrr
           refine bodyPost_ret (v:=.tuple #[zeroU.val,.int .i64 (kk:Nat)]) (by simp [results,Tryz.results69,go_sem,c0,c1,c2,c3,c4,c5,c6,c7];try rfl) rfl ⟨rfl,hPz2.bel⟩
/-- A rune beyond ASCII does not stand in ":/". -/
theorem IndexRune_no (t:List UInt8) (ht:t.length=2) (ht1:nth t 1 < 128) (r:Int) (w:World) (h128:128≤r) (h1:r≠65533):Calls Tryz.prog 75 #[str t,.int .i32 r] w fun e w'=>e = .returned (.int .i64 (-1))∧Below w.heap.size w w':=by
 have d1:decide (r < 128)=false:=decide_eq_false (by omega)
 have et:(t.length:Int)=2:=by omega
 have hdr:∀ x,Lib.indexByte (t.drop 2) x = -1:=fun x=>by rw [List.drop_of_length_le (by omega)];rfl
 have Hdr:=Lib.hid hdr
 have HT:=Lib.hid ht
 clear hdr ht
 have d0:decide (0≤r)=true:=decide_eq_true (by omega)
 have e1:(r == 65533)=false:=by simpa using h1
 clear h1
 focus
  cases hv:Go.validRune r
  · have hV:=fun W=>(Go.Proofs.Tryz.utf8_ValidRune r W)
    rw [show Lib.validRune r=false from hv] at hV
    have HV:=Lib.hid hV
    clear hV hv
    go_enter Tryz.func75,Tryz.ntmps75
    go_wp2_with fail
    refine(HV.out _).mono ?_
    rintro e w1 ⟨rfl,hw⟩
    rw [hw]
    go_wp2_with fail
    go_ret
    exact⟨rfl,Below.refl _ _⟩
  · have hV:=fun W=>(Go.Proofs.Tryz.utf8_ValidRune r W)
    rw [show Lib.validRune r=true from hv] at hV
    have hu:Utf8.valid r=true:=by rw [validRune_eq];exact hv
    obtain⟨f1,f2,f3⟩:=encode_facts r hu h128
    have HV:=Lib.hid hV
    clear hV hv hu
    obtain⟨l,hl⟩:∃ l,l=(Utf8.encode r).data.toList:=⟨_,rfl⟩
    have hsz:l.length=(Utf8.encode r).size:=by rw [hl];exact(Lib.size_eq _).symm
    have hlast:128≤nth l (l.length - 1):=by
     have:=f3 (by omega)
     unfold nth
     rw [List.getD_eq_getElem?_getD,hl,← hl,hsz,hl,Lib.data_getElem? (Utf8.encode r) _ (by omega)]
     exact this
    have hcv:∀ W,(convert 21 9 (.int .i32 r)).run Tryz.prog W = .ok (str l) W:=fun W=>by
     rw [run_convert_int_string W _ _ _ _ (by rw [Tryz.underlying21];rfl) Tryz.underlying9,str_of,← hl]
    rw [← hsz] at f1 f2
    clear hsz hl f3
    go_enter Tryz.func75,Tryz.ntmps75
    go_wp2_with fail
    refine(HV.out _).mono ?_
    rintro e w1 ⟨rfl,hw⟩
    rw [hw]
    clear hw
    rcases(by omega:l.length=2∨l.length=3∨l.length=4) with h2 | h2 | h2
    · have hn2:128≤nth l 1:=by
       rw [h2] at hlast
       exact hlast
      have hn3:((nth l 1:Nat):Int)≠((nth t 1:Nat):Int):=by omega
      have e3:(((nth t 1:Nat):Int) != ((nth l 1:Nat):Int))=true:=by rw [bne_iff_ne];exact fun e=>hn3 e.symm
      have e2:(l.length:Int)=2:=by omega
      have hi:∀ W,Calls Tryz.prog 82 #[str (t.drop 2),.int .u8 (nth l 1:Nat)] W fun e w'=>e = .returned (.int .i64 (-1))∧w'=W:=fun W=>(IndexByte_any (t.drop 2) (nth l 1) W).mono fun _ _ h=>⟨by rw [h.1,Hdr.out],h.2.symm⟩
      have Hi:=Lib.hid hi
      have H2:=Lib.hid h2
      clear h2 hlast f1 f2 hn2 hn3 hi
      go_wp2_with fail
      go_step3
      go_wp2_with fail
      go_loop [9,10] (fun v9 v10=>v9 = .int .i64 1∧v10 = .int .i64 0) (fun _ _=>0)
      case atStart=>exact⟨rfl,rfl⟩
      case round =>
       obtain⟨rfl,rfl⟩:=hrel
       go_wp2_with fail
       go_step3
       go_wp2_with fail
       have i2:(1:Nat) < l.length:=by have:=H2.out;omega
       have i1:(1:Nat) < t.length:=by have:=HT.out;omega
       go_quiet (fail)
       generalize hwq:w.drewN _=wq
       have hbq:Below w.heap.size w wq:=by rw [← hwq];exact belN (Below.refl _ _) _
       have Hbq:=Lib.hid hbq
       clear hwq hbq
       go_wp2_with fail
       have i3:IntKind.i64.wrap (1+1)=2:=rfl
       have i4:IntKind.i64.wrap 2=2:=rfl
       go_quiet ((go_at_call 82;exact Calls.quiet_of_same (Hi.out _)))
       generalize hwq:wq.drewN _=wy
       have hby:Below w.heap.size w wy:=by rw [← hwq];exact belN Hbq.out _
       have Hby:=Lib.hid hby
       clear hwq hby
       go_wp2_with fail
       rw [Exit.noGoto_ret]
       go_wp2_with fail
       rw [Exit.noGoto_ret]
       go_wp2_with fail
       go_ret
       exact⟨rfl,Hby.out⟩
    · have e2:(l.length:Int)=3:=by omega
      have H2:=Lib.hid h2
      clear h2 hlast f1 f2
      go_wp2_with fail
      go_step3
      go_wp2_with fail
      go_loop [9,10] (fun v9 v10=>v9 = .int .i64 2∧v10 = .int .i64 0) (fun _ _=>0)
      case atStart=>exact⟨rfl,rfl⟩
      case round =>
       obtain⟨rfl,rfl⟩:=hrel
       go_wp2_with fail
       go_ret
       exact⟨rfl,Below.refl _ _⟩
    · have e2:(l.length:Int)=4:=by omega
      have H2:=Lib.hid h2
      clear h2 hlast f1 f2
      go_wp2_with fail
      go_step3
      go_wp2_with fail
      go_loop [9,10] (fun v9 v10=>v9 = .int .i64 3∧v10 = .int .i64 0) (fun _ _=>0)
      case atStart=>exact⟨rfl,rfl⟩
      case round =>
       obtain⟨rfl,rfl⟩:=hrel
       go_wp2_with fail
       go_ret
       exact⟨rfl,Below.refl _ _⟩
/-- The rune that stands for a wrong byte does not stand in an ASCII text. -/
theorem IndexRune_err (s:ByteArray) (w:World) (has:∀ (j:Nat) b,s.data.toList[j]? = some b→b.toNat < 128):Calls Tryz.prog 75 #[.string s,.int .i32 65533] w fun e w'=>e = .returned (.int .i64 (-1))∧Below w.heap.size w w':=by
 have HA:=Lib.hid has
 clear has
 go_enter Tryz.func75,Tryz.ntmps75
 go_wp2_with fail
 go_loopg [5,6] s.size (fun g _ _ wx=>∃ i:Nat,i+g=s.size∧wx=w.iter s i)
 case atStart=>exact⟨0,by omega,rfl⟩
 case round =>
  obtain⟨i,hig,rfl⟩:=hrel
  cases gk with
  | zero =>
   obtain rfl:i=s.size:=by omega
   have hnx:=fun ty=>run_next_end (P:=Tryz.prog) w s s.size ty (by omega)
   go_wp2_with fail
   go_ret
   exact⟨rfl,(Below.refl _ _).alloc (Nat.le_refl _) _⟩
  | succ g =>
   have hi:i < s.size:=by omega
   obtain⟨x,hx⟩:∃ x:UInt8,s[i]'hi=x:=⟨_,rfl⟩
   have hx128:x.toNat < 128:=HA.out i x (by rw [← hx];exact Lib.data_getElem? s i hi)
   have hnx:=fun ty=>run_next_ascii (P:=Tryz.prog) w s i ty hi (by rw [hx];exact hx128)
   rw [hx] at hnx
   have ex:((x.toNat:Int) == 65533)=false:=by simp;omega
   clear hx
   go_wp2_with fail
   go_roundg g
   case measure=>omega
   case rel=>exact⟨i+1,by omega,rfl⟩
theorem decode_rest (s:ByteArray) (pos k:Nat) (h1:1≤k) (h2:k < (Utf8.decode s pos).2):pos+k < s.size∧128≤(s.get! (pos+k)).toNat:=by
 simp only [Utf8.decode] at h2
 repeat' split at h2
 all_goals first | omega | skip
 all_goals
  simp_all
  rcases(by omega:k=1∨k=2∨k=3) with rfl | rfl | rfl <;> omega
theorem rune_miss (r:Nat) (W:World) (h58:r≠58) (h47:r≠47):Calls Tryz.prog 75 #[.string ⟨#[58,47]⟩,.int .i32 (r:Int)] W fun e w'=>e = .returned (.int .i64 (-1))∧Below W.heap.size W w':=by
 rcases Nat.lt_or_ge r 128 with h | h
 · refine(Go.Proofs.Tryz.strings_IndexRune_ascii ⟨#[58,47]⟩ (r:Int) W (by omega) (by omega)).mono ?_
   rintro e w' ⟨rfl,rfl⟩
   refine⟨?_,Below.refl _ _⟩
   have e1:((r:Int)).toNat.toUInt8=UInt8.ofNat r:=rfl
   rw [e1]
   have hz:(UInt8.ofNat r).toNat=r:=by rw [UInt8.toNat_ofNat'];omega
   have:Lib.indexByte [58,47] (UInt8.ofNat r) < 0:=by
    rw [indexByte_neg]
    simp only [List.mem_cons,List.not_mem_nil,or_false,not_or]
    exact⟨fun e=>h58 (by rw [← hz,e];rfl),fun e=>h47 (by rw [← hz,e];rfl)⟩
   have h2:=Lib.indexByte_ge [58,47] (UInt8.ofNat r)
   show Ending.returned (.int .i64 (Lib.indexByte [58,47] (UInt8.ofNat r)))=_
   rw [show Lib.indexByte [58,47] (UInt8.ofNat r) = -1 by omega]
 · rcases Nat.lt_or_ge r 65533 with h2 | h2
   · exact IndexRune_no [58,47] rfl (by decide) (r:Int) W (by omega) (by omega)
   · rcases(by omega:r=65533∨65533 < r) with rfl | h3
     · exact IndexRune_err ⟨#[58,47]⟩ W (by
        intro j b hj
        match j,hj with
        | 0,hj=>simp at hj;subst hj;decide
        | 1,hj=>simp at hj;subst hj;decide)
     · exact IndexRune_no [58,47] rfl (by decide) (r:Int) W (by omega) (by omega)
theorem rune_hit (r:Nat) (W:World) (h:r=58∨r=47):Calls Tryz.prog 75 #[.string ⟨#[58,47]⟩,.int .i32 (r:Int)] W fun e w'=>e = .returned (.int .i64 (if r=58 then 0 else 1))∧Below W.heap.size W w':=by
 refine(Go.Proofs.Tryz.strings_IndexRune_ascii ⟨#[58,47]⟩ (r:Int) W (by omega) (by omega)).mono ?_
 rintro e w' ⟨rfl,rfl⟩
 refine⟨?_,Below.refl _ _⟩
 rcases h with rfl | rfl <;> rfl
theorem zero_set:∀ w,(zeroValue 86).run Tryz.prog w = .ok (.agg (Array.replicate 256 (.bool false))) w:=
 have h:(Tryz.prog.info? 86).map (fun i=>(i.zero,i.size))=some (some (.agg (Array.replicate 256 (.bool false))),256):=by kernel_rfl
 (zero_of_info h).1
theorem IndexAny_short (l:List UInt8) (w:World) (hl:l.length≤8):Calls Tryz.prog 115 #[str l,.string ⟨#[58,47]⟩] w fun e w'=>e = .returned (.int .i64 (Lib.indexAny l [58,47]))∧Below w.heap.size w w':=by
 obtain⟨s,hs⟩:∃ s:ByteArray,s=⟨l.toArray⟩:=⟨_,rfl⟩
 have hsd:s.data.toList=l:=by rw [hs]
 have hsz:s.size=l.length:=by rw [Lib.size_eq,hsd]
 have hstr:str l = .string s:=by rw [hs];rfl
 rw [hstr,← hsd]
 clear hstr hs
 have h8:s.size≤8:=by omega
 clear hl hsd hsz l
 have h8z:decide ((8:Int) < (s.size:Int))=false:=decide_eq_false (by omega)
 have hU:∀ W,Calls Tryz.prog 155 #[.int .i64 s.size] W fun e w'=>e = .returned (.bool false)∧W=w':=fun W=>by
  refine(Go.Proofs.Tryz.strings_shouldUseASCIISet s.size W).mono ?_
  rintro e w' ⟨rfl,rfl⟩
  exact⟨by rw [h8z],rfl⟩
 have HU:=Lib.hid hU
 clear hU h8z
 go_enter Tryz.func115,Tryz.ntmps115
 go_wp2_with fail
 refine(HU.out _).mono ?_
 rintro e w1 ⟨rfl,rfl⟩
 go_wp2_with fail
 go_loopg [9,10] s.size (fun g _ _ wx=>∃ pos:Nat,s.size≤pos+g∧wx.heap[w.heap.size]? = some (.stringIter s pos)∧Below w.heap.size w wx∧Hid (Lib.NoAny s.data.toList [58,47] pos))
 case atStart=>exact⟨0,by omega,World.iter_heap w s 0,(Below.refl _ w).alloc (Nat.le_refl _) _,Lib.NoAny.zero _ _⟩
 case round =>
  obtain⟨pos,hfu,hit,hbw,hno⟩:=hrel
  by_cases hps:pos < s.size
  · obtain⟨g',rfl⟩:∃ g',gk=g'+1:=⟨gk - 1,by omega⟩
    have hdl:=Lib.data_getElem? s pos hps
    have hdh:=decode_high s pos hps
    have hda:=decode_ascii s pos hps
    have hdr:=decode_rest s pos
    have hnx:∀ ty,(Instr.next (.pointer (some ⟨w.heap.size,0,none⟩)) true ty).run Tryz.prog wr=_:=fun ty=>Lib.run_next_any_at wr w.heap.size s pos ty hit hps
    generalize hd:Utf8.decode s pos=d at hdh hda hnx hdr
    obtain⟨R,K⟩:=d
    simp only at hdh hnx hdr
    have hit2:=Lib.iterAt_heap wr w.heap.size s pos (pos+K) hit
    have hbw2:=Lib.below_iterAt hbw (k:=w.heap.size) (Nat.le_refl _) s (pos+K)
    obtain⟨W,hWd⟩:∃ W,wr.iterAt w.heap.size s (pos+K)=W:=⟨_,rfl⟩
    rw [hWd] at hnx hit2 hbw2
    generalize s[pos]=x at hdl hdh hda
    clear hd hWd
    have Hno:=hno
    by_cases hhit:x=58∨x=47
    · have hx:x.toNat < 128:=by rcases hhit with rfl | rfl <;> decide
      have hR:R=x.toNat:=by have:=hda hx;injection this
      have hR2:R=58∨R=47:=by rcases hhit with rfl | rfl <;> simp [hR]
      have hres:Lib.indexAny s.data.toList [58,47]=pos:=Lib.indexAny_hit hno.out hdl (by rcases hhit with rfl | rfl <;> rfl)
      have HC:=Lib.hid (fun W=>rune_hit R W hR2)
      have hv:0≤(if R=58 then (0:Int) else 1):=by split <;> omega
      generalize (if R=58 then (0:Int) else 1)=v at HC hv
      have Hres:=Lib.hid hres
      have Hbw2:=Lib.hid hbw2
      clear hdh hda hdr hdl hhit hx hR hR2 hres hno Hno hit hbw hit2 hbw2
      go_wp2_with fail
      refine(HC.out _).mono ?_
      rintro e w2 ⟨rfl,hb2⟩
      have Hb2:=Lib.hid (Hbw2.out.trans (hb2.mono Hbw2.out.size))
      clear hb2
      go_wp2_with fail
      go_ret
      exact⟨by rw [Hres.out];rfl,Hb2.out⟩
    · have hK:1≤K:=by
       rcases Nat.lt_or_ge x.toNat 128 with h | h
       · have:=hda h;injection this with _ h2;omega
       · exact(hdh h).2
      have hR:R≠58∧R≠47:=by
       rcases Nat.lt_or_ge x.toNat 128 with h | h
       · have h1:=hda h
         injection h1 with h1 _
         rw [h1]
         exact⟨fun e=>hhit (.inl (UInt8.toNat_inj.1 e)),fun e=>hhit (.inr (UInt8.toNat_inj.1 e))⟩
       · have:=(hdh h).1;omega
      have hno2:Lib.NoAny s.data.toList [58,47] (pos+K):=by
       intro j b hj hb
       rcases Nat.lt_or_ge j pos with h1 | h1
       · exact hno.out j b h1 hb
       · rcases(by omega:j=pos∨pos < j) with rfl | h2
         · rw [hdl] at hb
           injection hb with hb
           subst hb
           simp only [not_or] at hhit
           simp [hhit.1,hhit.2]
         · obtain⟨q1,q2⟩:=hdr (j - pos) (by omega) (by omega)
           rw [show pos+(j - pos)=j by omega] at q1 q2
           rw [Lib.data_getElem? s j q1] at hb
           injection hb with hb
           have hb2:128≤b.toNat:=by rw [← hb];have:=get_at s j q1;rw [Nat.add_zero] at this;rw [← this];exact q2
           have e1:b≠58:=fun e=>by rw [e] at hb2;exact absurd hb2 (by decide)
           have e2:b≠47:=fun e=>by rw [e] at hb2;exact absurd hb2 (by decide)
           simp [e1,e2]
      have HC:=Lib.hid (fun W=>rune_miss R W hR.1 hR.2)
      have Hno2:=Lib.hid hno2
      have Hbw2:=Lib.hid hbw2
      have Hit2:=Lib.hid hit2
      clear hdh hda hdr hdl hhit hR hno Hno hit hbw hno2 hbw2 hit2
      go_wp2_with fail
      refine(HC.out _).mono ?_
      rintro e w2 ⟨rfl,hb2⟩
      have Hit3:=Lib.hid ((hb2.block w.heap.size (Array.getElem?_eq_some_iff.1 Hit2.out).1).trans Hit2.out)
      have Hb2:=Lib.hid (Hbw2.out.trans (hb2.mono Hbw2.out.size))
      clear hb2
      go_wp2_with fail
      go_roundg g'
      case measure=>omega
      case rel=>exact⟨pos+K,by omega,Hit3.out,Hb2.out,Hno2.out⟩
  · have hnx:∀ ty,(Instr.next (.pointer (some ⟨w.heap.size,0,none⟩)) true ty).run Tryz.prog wr=_:=fun ty=>Lib.run_next_end_at wr w.heap.size s pos ty hit hps
    have hres:Lib.indexAny s.data.toList [58,47] = -1:=Lib.indexAny_none (fun j b hj hb=>hno.out j b (by rw [← Lib.size_eq] at hj;omega) hb)
    have Hres:=Lib.hid hres
    clear hres hno hit
    go_wp2_with fail
    go_ret
    exact⟨by rw [Hres.out];rfl,hbw⟩
theorem IndexAny_cs (l:List UInt8) (w:World) (hl:l.length≤1000000):Calls Tryz.prog 115 #[str l,.string ⟨#[58,47]⟩] w fun e w'=>e = .returned (.int .i64 (Lib.indexAny l [58,47]))∧Below w.heap.size w w':=by
 rcases Nat.lt_or_ge 8 l.length with h | h
 · have hsz:(⟨l.toArray⟩:ByteArray).size=l.length:=by simp [ByteArray.size]
   refine(Go.Proofs.Tryz.strings_IndexAny_long zero_set ⟨l.toArray⟩ ⟨#[58,47]⟩ w (by decide) (by rw [hsz];exact h) (by rw [hsz];omega) (by decide) ?_).mono ?_
   · intro j b hj
     match j,hj with
     | 0,hj=>simp at hj;subst hj;decide
     | 1,hj=>simp at hj;subst hj;decide
   · rintro e w' ⟨rfl,rfl⟩
     exact⟨rfl,((Below.refl _ w).alloc (Nat.le_refl _) _).alloc (by simp) _⟩
 · exact IndexAny_short l w h
end Go.Proofs.YtlgbopjhmemaoaaGreatDoor
