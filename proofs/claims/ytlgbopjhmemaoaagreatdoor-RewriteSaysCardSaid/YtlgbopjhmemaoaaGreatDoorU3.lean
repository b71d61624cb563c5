import Derived.Test.YtlgbopjhmemaoaaGreatDoorU2
import Derived.Lib.Split
import Derived.Lib.Join
import Derived.Lib.IndexAny
import Derived.Test.YtlgbopjhmemaoaaGreatDoorU1
set_option maxRecDepth 100000
set_option maxHeartbeats 40000000
namespace Go.Proofs.YtlgbopjhmemaoaaGreatDoor
theorem index_free (x:List UInt8) (c:UInt8) (h:c ∉ x):Lib.index x [c] = -1:=by
 rw [Lib.index_one,indexByte_tw,if_neg h]
theorem index_seg (x r:List UInt8) (c:UInt8) (h:c ∉ x):Lib.index (x ++ c :: r) [c]=x.length:=by
 rw [Lib.index_one,indexByte_tw,if_pos (by simp),List.takeWhile_append_of_pos (fun b hb=>by simp only [bne_iff_ne,ne_eq];exact fun e=>h (e ▸ hb))]
 simp
theorem drop_seg (x r:List UInt8) (c:UInt8):(x ++ c :: r).drop (((x.length:Nat):Int).toNat+([c]:List UInt8).length)=r:=by
 rw [Int.toNat_natCast]
 show List.drop (x.length+1) _=r
 rw [← List.drop_drop,List.drop_left]
 rfl
theorem count_seg (c:UInt8):∀ (fuel:Nat) (L:List (List UInt8)),L.length≤fuel→(∀ x∈L,c ∉ x)→Lib.countFrom [c] fuel (joinC c L)=L.length - 1:=by
 intro fuel
 induction fuel with
 | zero=>intro L h _;have:L = []:=List.eq_nil_of_length_eq_zero (by omega);subst this;rfl
 | succ f ih =>
  intro L h hx
  match L,h,hx with
  | [],_,_=>rfl
  | [x],_,hx =>
   show(if Lib.index x [c] == -1 then 0 else _)=0
   rw [index_free x c (hx x (by simp))]
   rfl
  | x :: y :: r,h,hx =>
   rw [joinC_cons,Lib.countFrom,index_seg x _ c (hx x (by simp)),drop_seg,ih (y :: r) (by simp at h ⊢;omega) (fun z hz=>hx z (by simp at hz ⊢;exact .inr hz))]
   have:((x.length:Int) == -1)=false:=by simp
   rw [this]
   simp
   omega
theorem joinC_len (c:UInt8):∀ (L:List (List UInt8)),L.length≤(joinC c L).length+1:=by
 intro L
 induction L with
 | nil=>simp
 | cons x L ih =>
  match L,ih with
  | [],_=>simp
  | y :: r,ih =>
   rw [joinC_cons]
   simp only [List.length_cons,List.length_append] at ih ⊢
   omega
theorem count_split (c:UInt8) (l:List UInt8):Lib.count l [c]=(splitC c l).length - 1:=by
 have h:=count_seg c (l.length+1) (splitC c l) (by have:=joinC_len c (splitC c l);rw [join_split] at this;exact this) (splitC_free c l)
 rw [join_split] at h
 exact h
theorem splitK_seg (c:UInt8):∀ (L:List (List UInt8)),L≠[]→(∀ x∈L,c ∉ x)→Lib.splitK [c] 0 (L.length - 1) (joinC c L)=L:=by
 intro L
 induction L with
 | nil=>intro h;exact absurd rfl h
 | cons x L ih =>
  intro _ hx
  match L,ih,hx with
  | [],_,_=>rfl
  | y :: r,ih,hx =>
   have h1:=ih (by simp) (fun z hz=>hx z (by simp at hz ⊢;exact .inr hz))
   show Lib.splitK [c] 0 ((y :: r).length - 1+1) (joinC c (x :: y :: r))=_
   rw [joinC_cons,Lib.splitK,index_seg x _ c (hx x (by simp)),drop_seg,h1]
   have:((x.length:Int) == -1)=false:=by simp
   rw [this]
   simp
theorem splitK_split (c:UInt8) (l:List UInt8):Lib.splitK [c] 0 (Lib.count l [c]) l=splitC c l:=by
 have h:=splitK_seg c (splitC c l) (splitC_ne c l) (splitC_free c l)
 rw [join_split,← count_split] at h
 exact h
theorem splitB_split (c:UInt8) (l:List UInt8):(Lib.splitB ⟨#[c]⟩ 0 (Lib.countB ⟨l.toArray⟩ ⟨#[c]⟩) ⟨l.toArray⟩).map Value.string=(splitC c l).map str∧Lib.countB ⟨l.toArray⟩ ⟨#[c]⟩+1=(splitC c l).length:=by
 have hc:Lib.countB ⟨l.toArray⟩ ⟨#[c]⟩=Lib.count l [c]:=rfl
 have hd:=Lib.splitB_data ⟨#[c]⟩ 0 (Lib.count l [c]) ⟨l.toArray⟩
 constructor
 · rw [hc]
   have h2:=splitK_split c l
   have e:∀ L:List ByteArray,L.map Value.string=(L.map (fun s=>s.data.toList)).map str:=by
    intro L
    rw [List.map_map]
    exact List.map_congr_left fun x _=>str_of x
   rw [e]
   congr 1
   exact hd.trans h2
 · rw [hc,count_split]
   have:=splitC_ne c l
   have:(splitC c l).length≠0:=fun h=>this (List.eq_nil_of_length_eq_zero h)
   omega
theorem splitC_len (c:UInt8) (l:List UInt8):(splitC c l).length≤l.length+1:=by
 have:=joinC_len c (splitC c l)
 rwa [join_split] at this
theorem join_joinC (c:UInt8):∀ L:List (List UInt8),Lib.join L [c]=joinC c L
 | []=>rfl
 | [x]=>Lib.join_one x [c]
 | x :: y :: r=>by
  have ih:=join_joinC c (y :: r)
  rw [joinC_cons,← ih]
  simp [Lib.join,List.intercalate,List.intersperse]
theorem indexAny_tw (l:List UInt8):Lib.indexAny l [58,47]=if l.dropWhile stopCS = [] then -1 else ((l.takeWhile stopCS).length:Int):=by
 induction l with
 | nil=>rfl
 | cons b l ih =>
  unfold Lib.indexAny
  by_cases h:stopCS b=true
  · have hc:([58,47]:List UInt8).contains b=false:=by
     unfold stopCS at h
     simp only [Bool.and_eq_true,bne_iff_ne,ne_eq] at h
     simp [h.1,h.2]
    rw [hc,ih]
    simp only [Bool.false_eq_true,if_false,List.dropWhile_cons,h,if_true,List.takeWhile_cons]
    by_cases hd:l.dropWhile stopCS = []
    · rw [if_pos hd,if_pos hd];rfl
    · rw [if_neg hd,if_neg hd,if_neg (by simp)]
      simp
  · have hc:([58,47]:List UInt8).contains b=true:=by
     by_cases e:b=58
     · simp [e]
     · by_cases e2:b=47
       · simp [e2]
       · exact absurd (by simp [stopCS,e,e2]) h
    rw [hc]
    simp only [if_true,List.dropWhile_cons,List.takeWhile_cons,h]
    simp
/-- The place of the first : or /, and what stands there. -/
theorem place_cs {l:List UInt8} {c:UInt8} {r:List UInt8} (h:l.dropWhile stopCS=c :: r):(l.takeWhile stopCS).length < l.length∧nth l (l.takeWhile stopCS).length=c.toNat∧l.take (l.takeWhile stopCS).length=l.takeWhile stopCS∧l.drop ((l.takeWhile stopCS).length+1)=r:=by
 have e:=List.takeWhile_append_dropWhile (p:=stopCS) (l:=l)
 rw [h] at e
 generalize l.takeWhile stopCS=x at e
 subst e
 refine⟨by simp,?_,by simp,by rw [← List.drop_drop,List.drop_left];rfl⟩
 rw [nth_of _ _ (by simp)]
 simp
theorem lastIdx_range (l:List UInt8):-1≤Lib.lastIndexByte ⟨l.toArray⟩ 47∧Lib.lastIndexByte ⟨l.toArray⟩ 47 < l.length:=by
 have hsz:(⟨l.toArray⟩:ByteArray).size=l.length:=by simp [ByteArray.size]
 rcases Lib.lastIndexByte_spec ⟨l.toArray⟩ 47 with ⟨h,_⟩ | ⟨i,hi,h,_⟩
 · rw [h];omega
 · rw [h];rw [hsz] at hi;omega
theorem not47_stop (l:List UInt8):Lib.indexByte l 47=if l.dropWhile not47 = [] then -1 else ((l.takeWhile not47).length:Int):=by
 rw [indexByte_tw]
 by_cases h:(47:UInt8)∈l
 · rw [if_pos h,if_neg]
   · rfl
   · obtain⟨x,y,rfl,hx⟩:=first_of l 47 h
     rw [List.dropWhile_append_of_pos (fun b hb=>by simp [not47,hx b hb])]
     simp [not47]
 · rw [if_neg h,if_pos]
   have hall:∀ b∈l,not47 b=true:=by
    intro b hb
    simp only [not47,bne_iff_ne,ne_eq]
    exact fun e=>h (e ▸ hb)
   have:=(takeWhile_all hall []).2
   rw [List.append_nil] at this
   exact this
theorem tw_take (p:UInt8→Bool) (l:List UInt8):l.take (l.takeWhile p).length=l.takeWhile p∧l.drop (l.takeWhile p).length=l.dropWhile p:=by
 have e:=List.takeWhile_append_dropWhile (p:=p) (l:=l)
 constructor
 · have:=congrArg (List.take (l.takeWhile p).length) e
   rw [List.take_left] at this
   exact this.symm
 · have:=congrArg (List.drop (l.takeWhile p).length) e
   rw [List.drop_left] at this
   exact this.symm
end Go.Proofs.YtlgbopjhmemaoaaGreatDoor
namespace Go.Proofs.YtlgbopjhmemaoaaGreatDoor
open Go.RowKit
/-- What the walks ask of the library's own variable. -/
def MaxLenOk (w:World):Prop:=∃ m,w.cell? ⟨0,0,none⟩=some (.int .i64 m)
theorem MaxLenOk.below {w w':World} (h:MaxLenOk w) (hb:Below w.heap.size w w'):MaxLenOk w':=by
 obtain⟨m,hm⟩:=h
 have hlt:0 < w.heap.size:=by
  rcases Nat.lt_or_ge 0 w.heap.size with h' | h'
  · exact h'
  · simp [World.cell?,Array.getElem?_eq_none h'] at hm
 exact⟨m,(hb.cell (p:=⟨0,0,none⟩) hlt).trans hm⟩
theorem MaxLenOk.lt {w:World} (h:MaxLenOk w):0 < w.heap.size:=by
 obtain⟨m,hm⟩:=h
 rcases Nat.lt_or_ge 0 w.heap.size with h' | h'
 · exact h'
 · simp [World.cell?,Array.getElem?_eq_none h'] at hm
theorem MaxLenOk.drewN {w:World} (h:MaxLenOk w) (n:Nat):MaxLenOk (w.drewN n):=h
theorem MaxLenOk.grown {w w':World} {s:Nat} (h:MaxLenOk w) (hg:w.grownBy w' (some s)) {v:Value} (hv:w.cell? ⟨s,0,none⟩=some v) (hn:∀ m,v≠.int .i64 m):MaxLenOk w':=by
 have hlt:=h.lt
 obtain⟨m,hm⟩:=h
 refine⟨m,(World.cell?_of_block (hg.block 0 hlt ?_)).trans hm⟩
 intro e
 injection e with e
 rw [← e,hm] at hv
 injection hv with hv
 exact hn m hv.symm
theorem Index_any (l t:List UInt8) (w:World) (hM:MaxLenOk w) (hl:l.length≤1000000) :
 Calls Tryz.prog 76 #[str l,.string ⟨t.toArray⟩] w fun e w'=>e = .returned (.int .i64 (Lib.index l t))∧w'=w:=by
 obtain⟨m,hm⟩:=hM
 exact Go.Proofs.Tryz.strings_Index ⟨l.toArray⟩ ⟨t.toArray⟩ m w (by simp [ByteArray.size];omega) hm
end Go.Proofs.YtlgbopjhmemaoaaGreatDoor
namespace Go.Proofs.YtlgbopjhmemaoaaGreatDoor
open Go.RowKit
def wtU (L:List (List UInt8)):Nat:=(L.map (fun x=>x.length+1)).sum
theorem wtU_app (a b:List (List UInt8)):wtU (a ++ b)=wtU a+wtU b:=by simp [wtU]
theorem wtU_pop (a:List (List UInt8)):wtU (popU a)≤wtU a:=by
 unfold popU
 split
 · rcases List.eq_nil_or_concat a with h | ⟨x,y,h⟩
   · rw [h];simp
   · rw [h,List.concat_eq_append,List.dropLast_concat,wtU_app];omega
 · exact Nat.le_refl _
theorem wtU_step (last:Bool) (out:List (List UInt8)) (s:List UInt8):wtU (dotStep last out s)≤wtU out+(s.length+1):=by
 have h1:wtU [[]]=1:=rfl
 have hp:=wtU_pop out
 unfold dotStep
 split
 · cases last
   · simp only [Bool.false_eq_true,if_false];omega
   · simp only [if_true];rw [wtU_app];omega
 · split
   · cases last
     · simp only [Bool.false_eq_true,if_false];omega
     · simp only [if_true];rw [wtU_app];omega
   · rw [wtU_app];simp [wtU]
theorem wtU_dots:∀ (L out:List (List UInt8)),wtU (dotsF L out)≤wtU L+wtU out
 | [],out=>by simp [dotsF]
 | s :: r,out=>by
  have:=wtU_dots r (dotStep r.isEmpty out s)
  have h2:=wtU_step r.isEmpty out s
  unfold dotsF
  have h3:wtU (s :: r)=(s.length+1)+wtU r:=by simp [wtU]
  omega
theorem joinC_wt (c:UInt8):∀ L:List (List UInt8),L≠[]→(joinC c L).length+1=wtU L
 | [],h=>absurd rfl h
 | [x],_=>by simp [joinC,wtU]
 | x :: y :: r,_=>by
  have:=joinC_wt c (y :: r) (by simp)
  rw [joinC_cons]
  have h3:wtU (x :: y :: r)=(x.length+1)+wtU (y :: r):=by simp [wtU]
  simp only [List.length_append,List.length_cons]
  omega
theorem joinC_le (c:UInt8) (L:List (List UInt8)):(joinC c L).length≤wtU L:=by
 by_cases h:L = []
 · rw [h];simp [joinC]
 · have:=joinC_wt c L h;omega
theorem dots_wt (p:List UInt8):(joinC 47 (dotsF (splitC 47 p) [])).length≤p.length+1:=by
 have h1:=joinC_le 47 (dotsF (splitC 47 p) [])
 have h2:=wtU_dots (splitC 47 p) []
 have h3:=joinC_wt 47 (splitC 47 p) (splitC_ne 47 p)
 rw [join_split] at h3
 have:wtU []=0:=rfl
 omega
theorem popU_yes {out:List (List UInt8)} (h:1 < out.length∨(out.length=1∧out.head?≠some [])):popU out=out.take (out.length - 1):=by
 unfold popU;rw [if_pos h,List.dropLast_eq_take]
theorem own_shrink {w:World} {base:Nat} {e:TypeId} {size:Nat} {S:Option Addr} {n c k:Nat} {xs:List Value} (h:w.ownsRow base e size (.slice S n c) n xs) (hk:k≤n):w.ownsRow base e size (.slice S k c) k (xs.take (k * size)):=by
 refine⟨by rw [List.length_take,h.1];exact Nat.min_eq_left (Nat.mul_le_mul_right _ hk),?_⟩
 rcases h.2 with ⟨hv,h0⟩ | ⟨g,cap,cur,hv,hb,hh,hnc,hm,hs,ht⟩
 · injection hv with h1 h2 h3
   subst h1;subst h3
   left
   have:k=0:=by omega
   subst this
   exact⟨rfl,rfl⟩
 · injection hv with h1 h2 h3
   subst h1;subst h3
   right
   refine⟨g,c,cur,rfl,hb,hh,by omega,hm,hs,?_⟩
   rw [← ht,List.take_take]
   congr 1
   exact(Nat.min_eq_left (Nat.mul_le_mul_right _ hk)).symm
theorem cutA_zero {w:World} {base:Nat} {e:TypeId} {size:Nat} {S:Option Addr} {n c:Nat} {xs:List Value} (h:w.ownsRow base e size (.slice S n c) n xs):cutA S c 0 1=S:=by
 unfold cutA
 split
 · rfl
 · rcases h.2 with ⟨hv,h0⟩ | ⟨g,cap,cur,hv,_⟩
   · injection hv with h1 _ _;subst h1;rfl
   · injection hv with h1 _ _;subst h1;rfl
theorem infoStrU:(Tryz.prog.info? 9).map (fun i=>(i.zero,i.size,i.bytes))=some (some (.string ⟨#[]⟩),1,16):=by kernel_rfl
theorem one_str (L:List (List UInt8)):∀ u∈L.map str,u.oneCell'=true:=by
 intro u hu;simp only [List.mem_map] at hu;obtain⟨x,_,rfl⟩:=hu;rfl
theorem Split_one (l:List UInt8) (w:World) (hM:MaxLenOk w) (hl:l.length≤1000000):Calls Tryz.prog 45 #[str l,.string ⟨#[47]⟩] w fun e w'=>e = .returned (.slice (some ⟨w.heap.size,0,none⟩) (splitC 47 l).length (splitC 47 l).length)∧w'=w.alloc (.cells ((splitC 47 l).map str).toArray 9):=by
 obtain⟨m,hm⟩:=hM
 have hsz:(⟨l.toArray⟩:ByteArray).size=l.length:=by simp [ByteArray.size]
 refine(Go.Proofs.Tryz.strings_Split ⟨l.toArray⟩ ⟨#[47]⟩ m w (by rw [hsz];omega) hm (by decide)).mono ?_
 rintro e w' ⟨rfl,rfl⟩
 obtain⟨h1,h2⟩:=splitB_split 47 l
 rw [h1,h2]
 exact⟨rfl,rfl⟩
theorem Join_any (L:List (List UInt8)) (S:Option Addr) (c:Nat) (w:World) (base:Nat) (ho:w.ownsRow base 9 1 (.slice S L.length c) L.length (L.map str)) (hN:L.length≤1000000) (hl:(joinC 47 L).length≤1000000) :
 Calls Tryz.prog 88 #[.slice S L.length c,.string ⟨#[47]⟩] w fun e w'=>e = .returned (str (joinC 47 L))∧Below w.heap.size w w':=by
 rcases Nat.eq_zero_or_pos L.length with h0 | h0
 · have:L = []:=List.eq_nil_of_length_eq_zero h0
   subst this
   refine(Go.Proofs.Tryz.strings_Join_none S c ⟨#[47]⟩ w).mono ?_
   rintro e w' ⟨rfl,rfl⟩
   exact⟨rfl,Below.refl _ _⟩
 · have hc:=own_cap ho
   obtain⟨b,off,hS,hb,hcell⟩:=(Sl.of_own ho).2 h0
   subst hS
   have hd:(L.map (fun l=>(⟨l.toArray⟩:ByteArray))).map (·.data.toList)=L:=by
    rw [List.map_map]
    conv=>rhs;rw [← List.map_id L]
    exact List.map_congr_left fun x _=>rfl
   have hj:Lib.join ((L.map (fun l=>(⟨l.toArray⟩:ByteArray))).map (·.data.toList)) (⟨#[47]⟩:ByteArray).data.toList=joinC 47 L:=by
    rw [hd];exact join_joinC 47 L
   have h:=Go.Proofs.Tryz.strings_Join b off c (L.map fun l=>(⟨l.toArray⟩:ByteArray)) ⟨#[47]⟩ w (fun j x hx=>by
    rw [List.getElem?_map] at hx
    cases hg:L[j]? with
    | none=>rw [hg] at hx;cases hx
    | some y =>
     rw [hg] at hx
     simp only [Option.map_some,Option.some.injEq] at hx
     rw [← hx]
     exact hcell j (str y) (by rw [List.getElem?_map,hg];rfl)) hb (by rw [List.length_map];omega) (by rw [List.length_map];exact hc) (by rw [hj];omega)
   rw [hj,List.length_map] at h
   exact h
theorem upto_str (w:World) (A:Option Addr) (n c:Nat) (ki:IntKind) (k:Int) (h0:0≤k) (h1:k≤n) (hc:n≤c) :
 (Instr.slice 40 (.slice A n c) none (some (.int ki k)) none).run Tryz.prog w = .ok (.slice (cutA A c 0 1) k.toNat c) w:=
 run_upto w _ _ 1 Tryz.underlying40 (Tryz.sizeOf9 w) A n c ki k h0 h1 hc
attribute [local go_sem high] upto_str
def DotRel (w1:World) (R:List (List UInt8)) (L:List (List UInt8)) (s3 iv:Value) (wr:World):Prop:=
 ∃ (i:Nat) (out:List (List UInt8)) (S:Option Addr) (c:Nat),iv = .int .i64 i∧i≤L.length∧s3 = .slice S out.length c∧out.length≤i∧wr.ownsRow w1.heap.size 9 1 (.slice S out.length c) out.length (out.map str)∧Below w1.heap.size w1 wr∧Hid (dotsF (L.drop i) out=R)
theorem dots_any (p:List UInt8) (w:World) (hM:MaxLenOk w) (hp:p.length≤1000):Calls Tryz.prog 120 #[str p] w fun e w'=>e = .returned (str (dotsU p))∧Below w.heap.size w w':=by
 obtain⟨i0,hi0,hz0,hz1,hz2⟩:=info_parts infoStrU
 by_cases h0:p = []
 · subst h0
   go_enter Tryz.func120,Tryz.ntmps120
   go_wp2_with fail
   go_ret
   exact⟨rfl,Below.refl _ _⟩
 · have e0:(p == [])=false:=by simpa using h0
   have hS:=Split_one p w hM (by omega)
   have hLl:=splitC_len 47 p
   obtain⟨R,hR⟩:∃ R,R=dotsF (splitC 47 p) []:=⟨_,rfl⟩
   have hRl:=dots_wt p
   have hD:dotsU p=slashU p (joinC 47 R):=by unfold dotsU;rw [if_neg h0,hR]
   rw [hD]
   rw [← hR] at hRl
   obtain⟨X,hX⟩:∃ X,X=slashU p (joinC 47 R):=⟨_,rfl⟩
   rw [← hX]
   have HX0:=Lib.hid hX
   clear hX
   have HR:=Lib.hid hR
   clear hR hD h0
   generalize splitC 47 p=L at hS hLl HR
   obtain⟨N,hN⟩:∃ N,N=L.length:=⟨_,rfl⟩
   rw [← hN] at hS hLl
   have HN:=Lib.hid hN
   obtain⟨w1,hw1⟩:∃ w1,w1=w.alloc (.cells (L.map str).toArray 9):=⟨_,rfl⟩
   rw [← hw1] at hS
   have hb1:Below w.heap.size w w1:=by rw [hw1];exact(Below.refl _ w).alloc (Nat.le_refl _) _
   have hsz1:w1.heap.size=w.heap.size+1:=by rw [hw1];simp
   have hcell:∀ j,(hj:j < N)→w1.cell? ⟨w.heap.size,j,none⟩=some (str (L[j]'(by rw [← HN.out];exact hj))):=by
    intro j hj
    have hjl:j < L.length:=by rw [← HN.out];exact hj
    unfold World.cell?
    rw [hw1,heap_alloc_new]
    simp [hjl]
   have HS:=Lib.hid hS
   have Hcell:=Lib.hid hcell
   have Hsz1:=Lib.hid hsz1
   clear hS hcell hsz1 hw1 hN hM
   go_enter Tryz.func120,Tryz.ntmps120
   go_wp2_with fail
   refine HS.out.mono ?_
   rintro e w1 ⟨rfl,rfl⟩
   go_wp2_with fail
   go_loopw [3,16] (fun s3 iv wr=>DotRel w1 R L s3 iv wr) (fun _ iv _=>N - (intOf iv).toNat)
   case atStart=>exact⟨0,[],none,0,rfl,Nat.zero_le _,rfl,Nat.le_refl _,World.ownsRow_nil _ _ _ _,Below.refl _ _,HR.out.symm⟩
   case round =>
    obtain⟨i,out,S,c,rfl,hi,rfl,hol,hown,hbel,hD⟩:=hrel
    rw [← HN.out] at hi
    by_cases hiN:i < N
    · have hil:i < L.length:=by rw [← HN.out];exact hiN
      have hcel0:=(hbel.cell (p:=⟨w.heap.size,i,none⟩) (by rw [Hsz1.out];simp)).trans (Hcell.out i hiN)
      have hstep:dotsF (L.drop (i+1)) (dotStep (L.drop (i+1)).isEmpty out (L[i]'hil))=R:=by
       have:=hD.out
       rw [List.drop_eq_getElem_cons hil] at this
       exact this
      generalize L[i]'hil=s at hcel0 hstep
      clear hD
      by_cases h1:s = [46]
      · subst h1
        by_cases hl:i+1=N
        · skip
          have hlast:i+1=N:=hl
          have e7:((i:Int) == (N:Int) - 1)=true:=by rw [beq_iff_eq];omega
          have hem:(L.drop (i+1)).isEmpty=true:=by rw [List.drop_of_length_le (by rw [← HN.out];omega)];rfl
          rw [hem] at hstep
          clear hem hl hlast
          have Hst:Hid (dotsF (L.drop (i+1)) (out ++ [[]])=R):=by
           show _=R
           rw [← hstep]
           rfl
          clear hstep
          have h63:out.length+1≤maxLen:=by unfold maxLen;omega
          have h47:(out.length+1) * 16≤140737488355328:=by omega
          go_wp2_with (at_builtin;refine wpList_app rfl _ _ 40 rfl w1.heap.size 9 i0 (.string ⟨#[]⟩) 1 16 Tryz.underlying40 hi0 hz0 hz1 hz2 rfl (by decide) _ out.length _ (out.map str) rfl (hown.alloc _) _ _ 1 1 [str []] rfl (Sl.one _ _ _) (by intro u hu;simp only [List.mem_singleton] at hu;subst hu;rfl) h63 h47 ?c2 ?_)
          case c2=>have:=hbel.size;simp;omega
          intro S2 c2 w2 hown2 hb2 _
          have hbel2:=(hbel.alloc hbel.size _).trans hb2
          go_wp2_with fail
          refine⟨⟨i+1,out ++ [[]],S2,c2,by go_num,by omega,by rw [List.length_append];rfl,by rw [List.length_append];simp only [List.length_singleton];omega,by rw [List.length_append,List.map_append];first | exact hown2 | (rw [List.map_take];exact hown2),hbel2,Hst.out⟩,by simp [intOf];omega⟩
        · skip
          have e7:((i:Int) == (N:Int) - 1)=false:=by rw [beq_eq_false_iff_ne];omega
          have hem:(L.drop (i+1)).isEmpty=false:=by
           cases h:L.drop (i+1) with
           | nil=>have:=congrArg List.length h;rw [List.length_drop,← HN.out] at this;simp at this;omega
           | cons _ _=>rfl
          rw [hem] at hstep
          clear hem hl
          have Hst:Hid (dotsF (L.drop (i+1)) out=R):=by
           show _=R
           rw [← hstep]
           rfl
          clear hstep
          go_wp2_with fail
          refine⟨⟨i+1,out,S,c,by go_num,by omega,rfl,by omega,hown,hbel,Hst.out⟩,by simp [intOf];omega⟩
      · by_cases h2:s = [46,46]
        · subst h2
          clear h1
          by_cases hn1:1 < out.length
          · skip
            have d1:decide (1 < (out.length:Int))=true:=decide_eq_true (by omega)
            have hpop:popU out=out.take (out.length - 1):=popU_yes (.inl hn1)
            have hpl:(out.take (out.length - 1)).length=out.length - 1:=by rw [List.length_take];omega
            have hcap:=own_cap hown
            have hownP:wr.ownsRow w1.heap.size 9 1 (.slice (cutA S c 0 1) (out.length - 1) c) (out.length - 1) ((out.take (out.length - 1)).map str):=by
             have h:=own_shrink hown (k:=out.length - 1) (by omega)
             rw [cutA_zero hown,List.map_take]
             rw [Nat.mul_one] at h
             exact h
            have HP:=Lib.hid hpl
            have HO:=Lib.hid hpop
            have q1:(0:Int)≤(out.length:Int) - 1:=by omega
            have q2:(out.length:Int) - 1≤(out.length:Int):=by omega
            have q4:((out.length:Int) - 1).toNat=out.length - 1:=by omega
            have q5:(1:Int)≤(out.length:Int):=by omega
            by_cases hl:i+1=N
            · skip
              have hlast:i+1=N:=hl
              have e7:((i:Int) == (N:Int) - 1)=true:=by rw [beq_iff_eq];omega
              have hem:(L.drop (i+1)).isEmpty=true:=by rw [List.drop_of_length_le (by rw [← HN.out];omega)];rfl
              rw [hem] at hstep
              clear hem hl hlast
              have Hst:Hid (dotsF (L.drop (i+1)) ((out.take (out.length - 1)) ++ [[]])=R):=by
               show _=R
               rw [← hstep]
               unfold dotStep
               rw [if_neg (by decide),if_pos rfl,hpop]
               rfl
              clear hstep
              have h63:(out.length - 1)+1≤maxLen:=by unfold maxLen;omega
              have h47:((out.length - 1)+1) * 16≤140737488355328:=by omega
              go_wp2_with (at_builtin;refine wpList_app rfl _ _ 40 rfl w1.heap.size 9 i0 (.string ⟨#[]⟩) 1 16 Tryz.underlying40 hi0 hz0 hz1 hz2 rfl (by decide) _ (out.length - 1) _ ((out.take (out.length - 1)).map str) rfl (hownP.alloc _) _ _ 1 1 [str []] rfl (Sl.one _ _ _) (by intro u hu;simp only [List.mem_singleton] at hu;subst hu;rfl) h63 h47 ?c2 ?_)
              case c2=>have:=hbel.size;simp;omega
              intro S2 c2 w2 hown2 hb2 _
              have hbel2:=(hbel.alloc hbel.size _).trans hb2
              go_wp2_with fail
              refine⟨⟨i+1,(out.take (out.length - 1)) ++ [[]],S2,c2,by go_num,by omega,by rw [List.length_append,hpl];rfl,by rw [List.length_append,hpl];simp only [List.length_singleton];omega,by rw [List.length_append,List.map_append,hpl];first | exact hown2 | (rw [List.map_take];exact hown2),hbel2,Hst.out⟩,by simp [intOf];omega⟩
            · skip
              have e7:((i:Int) == (N:Int) - 1)=false:=by rw [beq_eq_false_iff_ne];omega
              have hem:(L.drop (i+1)).isEmpty=false:=by
               cases h:L.drop (i+1) with
               | nil=>have:=congrArg List.length h;rw [List.length_drop,← HN.out] at this;simp at this;omega
               | cons _ _=>rfl
              rw [hem] at hstep
              clear hem hl
              have Hst:Hid (dotsF (L.drop (i+1)) (out.take (out.length - 1))=R):=by
               show _=R
               rw [← hstep]
               unfold dotStep
               rw [if_neg (by decide),if_pos rfl,hpop]
               rfl
              clear hstep
              go_wp2_with fail
              refine⟨⟨i+1,(out.take (out.length - 1)),cutA S c 0 1,c,by go_num,by omega,by rw [hpl],by(try rw [hpl]);(try simp only [List.length_nil,List.length_singleton]);omega,by(try rw [hpl]);exact hownP,hbel,Hst.out⟩,by simp [intOf];omega⟩
          · by_cases hn:out.length=1
            · skip
              obtain⟨h,rfl⟩:∃ h,out = [h]:=by
               match out,hn with
               | [h],_=>exact⟨h,rfl⟩
              obtain⟨g,off,hS,_,hc0⟩:=(Sl.of_own hown).2 (by simp)
              obtain rfl:off=0:=by
               rcases hown.2 with ⟨hv,_⟩ | ⟨g',cap',cur',hv,_⟩
               · injection hv with hv _ _;rw [hS] at hv;cases hv
               · injection hv with hv _ _;rw [hS] at hv;injection hv with hv;injection hv
              subst hS
              have hcel:=hc0 0 (str h) rfl
              rw [Nat.add_zero] at hcel
              clear hc0
              have hcap:=own_cap hown
              simp only [List.length_singleton] at hown hol hcap ⊢
              by_cases hh:h = []
              · subst hh
                have hpop:popU [[]] = [[]]:=rfl
                by_cases hl:i+1=N
                · skip
                  have hlast:i+1=N:=hl
                  have e7:((i:Int) == (N:Int) - 1)=true:=by rw [beq_iff_eq];omega
                  have hem:(L.drop (i+1)).isEmpty=true:=by rw [List.drop_of_length_le (by rw [← HN.out];omega)];rfl
                  rw [hem] at hstep
                  clear hem hl hlast
                  have Hst:Hid (dotsF (L.drop (i+1)) ([[]] ++ [[]])=R):=by
                   show _=R
                   rw [← hstep]
                   unfold dotStep
                   rw [if_neg (by decide),if_pos rfl,hpop]
                   rfl
                  clear hstep
                  have h63:1+1≤maxLen:=by unfold maxLen;omega
                  have h47:(1+1) * 16≤140737488355328:=by omega
                  go_wp2_with (at_builtin;refine wpList_app rfl _ _ 40 rfl w1.heap.size 9 i0 (.string ⟨#[]⟩) 1 16 Tryz.underlying40 hi0 hz0 hz1 hz2 rfl (by decide) _ 1 _ ([str []]) rfl (hown.alloc _) _ _ 1 1 [str []] rfl (Sl.one _ _ _) (by intro u hu;simp only [List.mem_singleton] at hu;subst hu;rfl) h63 h47 ?c2 ?_)
                  case c2=>have:=hbel.size;simp;omega
                  intro S2 c2 w2 hown2 hb2 _
                  have hbel2:=(hbel.alloc hbel.size _).trans hb2
                  go_wp2_with fail
                  refine⟨⟨i+1,[[]] ++ [[]],S2,c2,by go_num,by omega,by rw [List.length_append];rfl,by rw [List.length_append];simp only [List.length_singleton];omega,by rw [List.length_append,List.map_append];first | exact hown2 | (rw [List.map_take];exact hown2),hbel2,Hst.out⟩,by simp [intOf];omega⟩
                · skip
                  have e7:((i:Int) == (N:Int) - 1)=false:=by rw [beq_eq_false_iff_ne];omega
                  have hem:(L.drop (i+1)).isEmpty=false:=by
                   cases h:L.drop (i+1) with
                   | nil=>have:=congrArg List.length h;rw [List.length_drop,← HN.out] at this;simp at this;omega
                   | cons _ _=>rfl
                  rw [hem] at hstep
                  clear hem hl
                  have Hst:Hid (dotsF (L.drop (i+1)) [[]]=R):=by
                   show _=R
                   rw [← hstep]
                   unfold dotStep
                   rw [if_neg (by decide),if_pos rfl,hpop]
                   rfl
                  clear hstep
                  go_wp2_with fail
                  refine⟨⟨i+1,[[]],some ⟨g,0,none⟩,c,by go_num,by omega,rfl,by(try rw [hpl]);(try simp only [List.length_singleton]);omega,by(try rw [hpl]);exact hown,hbel,Hst.out⟩,by simp [intOf];omega⟩
              · have e9:(h == [])=false:=by simpa using hh
                have hpop:popU [h] = []:=by unfold popU;rw [if_pos (.inr ⟨rfl,by simpa using hh⟩)];rfl
                have hownP:wr.ownsRow w1.heap.size 9 1 (.slice (cutA (some ⟨g,0,none⟩) c 0 1) 0 c) 0 []:=by
                 have h:=own_shrink hown (k:=0) (by omega)
                 rw [cutA_zero hown]
                 exact h
                by_cases hl:i+1=N
                · skip
                  have hlast:i+1=N:=hl
                  have e7:((i:Int) == (N:Int) - 1)=true:=by rw [beq_iff_eq];omega
                  have hem:(L.drop (i+1)).isEmpty=true:=by rw [List.drop_of_length_le (by rw [← HN.out];omega)];rfl
                  rw [hem] at hstep
                  clear hem hl hlast
                  have Hst:Hid (dotsF (L.drop (i+1)) (([]:List (List UInt8)) ++ [[]])=R):=by
                   show _=R
                   rw [← hstep]
                   unfold dotStep
                   rw [if_neg (by decide),if_pos rfl,hpop]
                   rfl
                  clear hstep
                  have h63:0+1≤maxLen:=by unfold maxLen;omega
                  have h47:(0+1) * 16≤140737488355328:=by omega
                  go_wp2_with (at_builtin;refine wpList_app rfl _ _ 40 rfl w1.heap.size 9 i0 (.string ⟨#[]⟩) 1 16 Tryz.underlying40 hi0 hz0 hz1 hz2 rfl (by decide) _ 0 _ ([]) rfl (hownP.alloc _) _ _ 1 1 [str []] rfl (Sl.one _ _ _) (by intro u hu;simp only [List.mem_singleton] at hu;subst hu;rfl) h63 h47 ?c2 ?_)
                  case c2=>have:=hbel.size;simp;omega
                  intro S2 c2 w2 hown2 hb2 _
                  have hbel2:=(hbel.alloc hbel.size _).trans hb2
                  go_wp2_with fail
                  refine⟨⟨i+1,([]:List (List UInt8)) ++ [[]],S2,c2,by go_num,by omega,by rw [List.length_append];rfl,by rw [List.length_append];simp only [List.length_nil,List.length_singleton];omega,by rw [List.length_append,List.map_append];first | exact hown2 | (rw [List.map_take];exact hown2),hbel2,Hst.out⟩,by simp [intOf];omega⟩
                · skip
                  have e7:((i:Int) == (N:Int) - 1)=false:=by rw [beq_eq_false_iff_ne];omega
                  have hem:(L.drop (i+1)).isEmpty=false:=by
                   cases h:L.drop (i+1) with
                   | nil=>have:=congrArg List.length h;rw [List.length_drop,← HN.out] at this;simp at this;omega
                   | cons _ _=>rfl
                  rw [hem] at hstep
                  clear hem hl
                  have Hst:Hid (dotsF (L.drop (i+1)) ([]:List (List UInt8))=R):=by
                   show _=R
                   rw [← hstep]
                   unfold dotStep
                   rw [if_neg (by decide),if_pos rfl,hpop]
                   rfl
                  clear hstep
                  go_wp2_with fail
                  refine⟨⟨i+1,([]:List (List UInt8)),cutA (some ⟨g,0,none⟩) c 0 1,c,by go_num,by omega,rfl,by(try rw [hpl]);(try simp only [List.length_nil]);omega,by(try rw [hpl]);exact hownP,hbel,Hst.out⟩,by simp [intOf];omega⟩
            · skip
              obtain rfl:out = []:=List.eq_nil_of_length_eq_zero (by omega)
              have hpop:popU [] = []:=rfl
              simp only [List.length_nil] at hown hol ⊢
              by_cases hl:i+1=N
              · skip
                have hlast:i+1=N:=hl
                have e7:((i:Int) == (N:Int) - 1)=true:=by rw [beq_iff_eq];omega
                have hem:(L.drop (i+1)).isEmpty=true:=by rw [List.drop_of_length_le (by rw [← HN.out];omega)];rfl
                rw [hem] at hstep
                clear hem hl hlast
                have Hst:Hid (dotsF (L.drop (i+1)) (([]:List (List UInt8)) ++ [[]])=R):=by
                 show _=R
                 rw [← hstep]
                 unfold dotStep
                 rw [if_neg (by decide),if_pos rfl,hpop]
                 rfl
                clear hstep
                have h63:0+1≤maxLen:=by unfold maxLen;omega
                have h47:(0+1) * 16≤140737488355328:=by omega
                go_wp2_with (at_builtin;refine wpList_app rfl _ _ 40 rfl w1.heap.size 9 i0 (.string ⟨#[]⟩) 1 16 Tryz.underlying40 hi0 hz0 hz1 hz2 rfl (by decide) _ 0 _ ([]) rfl (hown.alloc _) _ _ 1 1 [str []] rfl (Sl.one _ _ _) (by intro u hu;simp only [List.mem_singleton] at hu;subst hu;rfl) h63 h47 ?c2 ?_)
                case c2=>have:=hbel.size;simp;omega
                intro S2 c2 w2 hown2 hb2 _
                have hbel2:=(hbel.alloc hbel.size _).trans hb2
                go_wp2_with fail
                refine⟨⟨i+1,([]:List (List UInt8)) ++ [[]],S2,c2,by go_num,by omega,by rw [List.length_append];rfl,by rw [List.length_append];simp only [List.length_nil,List.length_singleton];omega,by rw [List.length_append,List.map_append];first | exact hown2 | (rw [List.map_take];exact hown2),hbel2,Hst.out⟩,by simp [intOf];omega⟩
              · skip
                have e7:((i:Int) == (N:Int) - 1)=false:=by rw [beq_eq_false_iff_ne];omega
                have hem:(L.drop (i+1)).isEmpty=false:=by
                 cases h:L.drop (i+1) with
                 | nil=>have:=congrArg List.length h;rw [List.length_drop,← HN.out] at this;simp at this;omega
                 | cons _ _=>rfl
                rw [hem] at hstep
                clear hem hl
                have Hst:Hid (dotsF (L.drop (i+1)) ([]:List (List UInt8))=R):=by
                 show _=R
                 rw [← hstep]
                 unfold dotStep
                 rw [if_neg (by decide),if_pos rfl,hpop]
                 rfl
                clear hstep
                go_wp2_with fail
                refine⟨⟨i+1,([]:List (List UInt8)),S,c,by go_num,by omega,rfl,by(try rw [hpl]);(try simp only [List.length_nil]);omega,by(try rw [hpl]);exact hown,hbel,Hst.out⟩,by simp [intOf];omega⟩
        · have e1:(s == [46])=false:=by simpa using h1
          have e2:(s == [46,46])=false:=by simpa using h2
          have hst:Hid (dotsF (L.drop (i+1)) (out ++ [s])=R):=by
           show _=R
           rw [← hstep]
           unfold dotStep
           rw [if_neg (by simpa using h1),if_neg (by simpa using h2)]
          have Hst:=hst
          clear hst hstep
          cases hl:decide (i+1=N)
          all_goals
           have e7:((i:Int) == (N:Int) - 1)=decide (i+1=N):=by rw [Bool.eq_iff_iff,beq_iff_eq,decide_eq_true_eq];omega
           rw [hl] at e7
           clear hl
           have h63:out.length+1≤maxLen:=by unfold maxLen;omega
           have h47:(out.length+1) * 16≤140737488355328:=by omega
           go_wp2_with (at_builtin;refine wpList_app rfl _ _ 40 rfl w1.heap.size 9 i0 (.string ⟨#[]⟩) 1 16 Tryz.underlying40 hi0 hz0 hz1 hz2 rfl (by decide) S out.length c (out.map str) rfl (hown.alloc _) _ _ 1 1 [str s] rfl (Sl.one _ _ _) (by intro u hu;simp only [List.mem_singleton] at hu;subst hu;rfl) h63 h47 ?c2 ?_)
           case c2=>have:=hbel.size;simp;omega
           intro S2 c2 w2 hown2 hb2 _
           have hbel2:=(hbel.alloc hbel.size _).trans hb2
           go_wp2_with fail
           refine⟨⟨i+1,out ++ [s],S2,c2,by go_num,by omega,by rw [List.length_append];rfl,by rw [List.length_append];simp only [List.length_singleton];omega,by rw [List.length_append,List.map_append];exact hown2,hbel2,Hst.out⟩,by simp [intOf];omega⟩
    · obtain rfl:i=N:=by omega
      have hRo:R=out:=by
       have:=hD.out
       rw [List.drop_of_length_le (by rw [← HN.out];exact Nat.le_refl _)] at this
       exact this.symm
      have hJ:=fun W (ho:World.ownsRow W w1.heap.size 9 1 (.slice S out.length c) out.length (out.map str))=>Join_any out S c W _ ho (by omega) (by rw [← hRo];omega)
      rw [← hRo] at hJ
      have hJ2:=hJ wr (by rw [hRo];exact hown)
      have hlo:R.length=out.length:=by rw [hRo]
      have hbw:Below w.heap.size w wr:=hb1.trans (hbel.mono hb1.size)
      have hX:=HX0.out
      generalize joinC 47 R=q at hJ2 hRl hX
      rw [hlo] at hJ2
      have HJ:=Lib.hid hJ2
      clear hJ hJ2 hRo hlo hD HR
      have k1:=fun W=>HasPrefix_any p [47] W
      have k2:=fun W=>HasPrefix_any q [47] W
      unfold slashU at hX
      cases hp1:Lib.hasPrefix p [47]
      · rw [hp1] at k1 hX
        have K1:=Lib.hid k1
        have HX:=Lib.hid hX
        clear k1 k2 hX hp1
        go_wp2_with fail
        refine HJ.out.mono ?_
        rintro e w2 ⟨rfl,hb2⟩
        have hbw2:=hbw.trans (hb2.mono hbw.size)
        go_wp2_with fail
        refine(K1.out _).mono ?_
        rintro e w3 ⟨rfl,rfl⟩
        go_wp2_with fail
        go_ret
        exact⟨by rw [HX.out];rfl,hbw2⟩
      · rw [hp1] at k1 hX
        cases hq1:Lib.hasPrefix q [47]
        all_goals
         rw [hq1] at k2 hX
         have K1:=Lib.hid k1
         have K2:=Lib.hid k2
         have HX:=Lib.hid hX
         clear k1 k2 hX hp1 hq1
         go_wp2_with fail
         refine HJ.out.mono ?_
         rintro e w2 ⟨rfl,hb2⟩
         have hbw2:=hbw.trans (hb2.mono hbw.size)
         go_wp2_with fail
         refine(K1.out _).mono ?_
         rintro e w3 ⟨rfl,rfl⟩
         go_wp2_with fail
         refine(K2.out _).mono ?_
         rintro e w3 ⟨rfl,rfl⟩
         go_wp2_with fail
         go_ret
         exact⟨by rw [HX.out];rfl,hbw2⟩
end Go.Proofs.YtlgbopjhmemaoaaGreatDoor
namespace Go.Proofs.YtlgbopjhmemaoaaGreatDoor
open Go.RowKit
/-- Eight cells of a block. -/
def Box8 (w:World) (b:Nat) (v0 v1 v2 v3 v4 v5 v6 v7:Value):Prop:=
 w.cell? ⟨b,0,none⟩=some v0∧w.cell? ⟨b,1,none⟩=some v1∧w.cell? ⟨b,2,none⟩=some v2∧w.cell? ⟨b,3,none⟩=some v3∧w.cell? ⟨b,4,none⟩=some v4∧w.cell? ⟨b,5,none⟩=some v5∧w.cell? ⟨b,6,none⟩=some v6∧w.cell? ⟨b,7,none⟩=some v7
theorem Box8.lt {w:World} {b:Nat} {v0 v1 v2 v3 v4 v5 v6 v7:Value} (h:Box8 w b v0 v1 v2 v3 v4 v5 v6 v7):b < w.heap.size:=by
 rcases Nat.lt_or_ge b w.heap.size with h' | h'
 · exact h'
 · have:=h.1;simp [World.cell?,Array.getElem?_eq_none h'] at this
theorem Box8.below {w w':World} {b:Nat} {v0 v1 v2 v3 v4 v5 v6 v7:Value} (h:Box8 w b v0 v1 v2 v3 v4 v5 v6 v7) (hb:Below w.heap.size w w'):Box8 w' b v0 v1 v2 v3 v4 v5 v6 v7:=by
 have hlt:=h.lt
 obtain⟨h0,h1,h2,h3,h4,h5,h6,h7⟩:=h
 exact⟨(hb.cell (p:=⟨b,0,none⟩) hlt).trans h0,(hb.cell (p:=⟨b,1,none⟩) hlt).trans h1,(hb.cell (p:=⟨b,2,none⟩) hlt).trans h2,(hb.cell (p:=⟨b,3,none⟩) hlt).trans h3,(hb.cell (p:=⟨b,4,none⟩) hlt).trans h4,(hb.cell (p:=⟨b,5,none⟩) hlt).trans h5,(hb.cell (p:=⟨b,6,none⟩) hlt).trans h6,(hb.cell (p:=⟨b,7,none⟩) hlt).trans h7⟩
theorem Box8.new (w:World) (t:TypeId) (v0 v1 v2 v3 v4 v5 v6 v7:Value):Box8 (w.alloc (.cells #[v0,v1,v2,v3,v4,v5,v6,v7] t)) w.heap.size v0 v1 v2 v3 v4 v5 v6 v7:=by
 have h:=heap_alloc_new w (.cells #[v0,v1,v2,v3,v4,v5,v6,v7] t)
 refine⟨?_,?_,?_,?_,?_,?_,?_,?_⟩ <;> (unfold World.cell?;rw [h];rfl)
theorem textU_any (sc ho pa qu fr:List UInt8) (hh hq hf:Bool) (w:World) (l0:sc.length≤1000) (l1:ho.length≤1000) (l2:pa.length≤1000) (l3:qu.length≤1000) (l4:fr.length≤1000) :
 Calls Tryz.prog 121 #[.agg #[str sc,.bool hh,str ho,str pa,.bool hq,str qu,.bool hf,str fr]] w fun e w'=>e = .returned (str (textU ⟨sc,hh,ho,pa,hq,qu,hf,fr⟩))∧Below w.heap.size w w':=by
 obtain⟨W,hW⟩:∃ W,W=w.alloc (.cells #[str sc,.bool hh,str ho,str pa,.bool hq,str qu,.bool hf,str fr] 103):=⟨_,rfl⟩
 have hbW:Below w.heap.size w W:=by rw [hW];exact(Below.refl _ w).alloc (Nat.le_refl _) _
 have hbx:Box8 W w.heap.size (str sc) (.bool hh) (str ho) (str pa) (.bool hq) (str qu) (.bool hf) (str fr):=by rw [hW];exact Box8.new w _ _ _ _ _ _ _ _ _
 have HbW:=Lib.hid hbW
 clear hbW
 obtain⟨c0,c1,c2,c3,c4,c5,c6,c7⟩:=hbx
 by_cases h0:sc = []
 · have hs:(sc == [])=true:=by rw [h0];rfl
   have H0:=Lib.hid h0
   clear h0
   cases hh <;> cases hq <;> cases hf
   all_goals
    go_enter Tryz.func121,Tryz.ntmps121
    go_wp2_with fail
    go_ret
    rw [← hW]
    exact⟨by have h0:=H0.out;simp [textU,h0],HbW.out⟩
 · have hs:(sc == [])=false:=by simpa using h0
   have H0:=Lib.hid h0
   clear h0
   cases hh <;> cases hq <;> cases hf
   all_goals
    go_enter Tryz.func121,Tryz.ntmps121
    go_wp2_with fail
    go_ret
    rw [← hW]
    exact⟨by have h0:=H0.out;simp [textU,h0],HbW.out⟩
end Go.Proofs.YtlgbopjhmemaoaaGreatDoor
