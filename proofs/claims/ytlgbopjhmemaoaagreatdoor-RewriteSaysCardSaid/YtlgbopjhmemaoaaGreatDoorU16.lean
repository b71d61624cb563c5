import Derived.Test.YtlgbopjhmemaoaaGreatDoorU15
import Derived.Test.YtlgbopjhmemaoaaGreatDoorU10
import Derived.Deep.CutBlock
import Derived.Deep.DeepCutAuto
set_option maxRecDepth 100000
set_option maxHeartbeats 40000000
namespace Go.Proofs.YtlgbopjhmemaoaaGreatDoor
open Go.RowKit
theorem infoStrR:(Tryz.prog.info? 9).map (fun i=>(i.zero,i.size,i.bytes))=some (some (.string ⟨#[]⟩),1,16):=by kernel_rfl
/-- The outer loop. -/
def LkRel (W0:World) (n:Nat) (l:List UInt8) (R:Option (List LinkD)) (v2 v3 v4 v9:Value) (wr:World):Prop:=
 ∃ (i m c:Nat) (S:Option Addr) (out:List LinkD),v2 = .slice none 0 0∧v3 = .int .i64 0∧v4 = .slice S m c∧v9 = .int .i64 (i:Nat)∧i≤n∧m≤60∧Hid (out.length=m∧FL l.length (l.drop i) out=R) ∧
  wr.ownsRow W0.heap.size 42 3 (.slice S m c) m (linkC out)∧Below W0.heap.size W0 wr
/-- The attributes of a tag. -/
def AtRel (wt:World) (n p1:Nat) (l:List UInt8) (RA:Option (List UInt8 × List LinkD)) (v9 v11 v12:Value) (wr:World):Prop:=
 ∃ (i m c k c2:Nat) (S S2:Option Addr) (ls:List LinkD) (names:List (List UInt8)),v9 = .int .i64 (i:Nat)∧v11 = .slice S m c∧v12 = .slice S2 k c2∧p1≤i∧i≤n∧m≤i∧k≤i ∧
  Hid (ls.length=m∧names.length=k∧AL l.length (l.drop i) names.reverse ls=RA)∧wr.ownsRow wt.heap.size 42 3 (.slice S m c) m (linkC ls)∧wr.ownsRow wt.heap.size 9 1 (.slice S2 k c2) k (names.map str)∧Below wt.heap.size wt wr
theorem own_types {w:World} {b b':Nat} {e e':TypeId} {z z' n n':Nat} {v v':Value} {xs xs':List Value} (h:w.ownsRow b e z v n xs) (h':w.ownsRow b' e' z' v' n' xs') (hne:e≠e'):v.ownBlock=none∨v.ownBlock≠v'.ownBlock:=by
 rcases h.2 with ⟨rfl,_⟩ | ⟨g,cap,cur,rfl,_,hg,_⟩
 · exact .inl rfl
 · right
   intro e0
   rcases h'.2 with ⟨rfl,_⟩ | ⟨g',cap',cur',rfl,_,hg',_⟩
   · cases e0
   · injection e0 with e0
     simp only at e0
     subst e0
     rw [hg] at hg'
     injection hg' with hg'
     injection hg' with _ hg' _
     exact hne hg'
/-- A link's variable. -/
def BoxL (w:World) (g:Nat) (fr tl:Int) (t:List UInt8):Prop:=w.heap[g]? = some (.cells #[.int .i64 fr,.int .i64 tl,str t] 42)
section
variable {w:World} {g:Nat} {fr tl:Int} {t:List UInt8}
theorem BoxL.lt (h:BoxL w g fr tl t):g < w.heap.size:=by
 rcases Nat.lt_or_ge g w.heap.size with h' | h'
 · exact h'
 · unfold BoxL at h;rw [Array.getElem?_eq_none h'] at h;cases h
theorem BoxL.cells (h:BoxL w g fr tl t):w.cell? ⟨g,0,none⟩=some (.int .i64 fr)∧w.cell? ⟨g,1,none⟩=some (.int .i64 tl)∧w.cell? ⟨g,2,none⟩=some (str t):=by
 unfold BoxL at h
 refine⟨?_,?_,?_⟩ <;> (unfold World.cell?;simp only [h];rfl)
theorem BoxL.fz (h:BoxL w g fr tl t) (k:Nat):w.frozen? ⟨g,k,none⟩=false:=by
 unfold BoxL at h
 unfold World.frozen?
 simp [h]
theorem BoxL.set0 (h:BoxL w g fr tl t) (x:Int):BoxL (w.setCell ⟨g,0,none⟩ (.int .i64 x)) g x tl t:=by
 unfold BoxL at h ⊢
 unfold World.setCell
 rw [Array.getElem?_modify,if_pos rfl,h]
 rfl
theorem BoxL.set1 (h:BoxL w g fr tl t) (x:Int):BoxL (w.setCell ⟨g,1,none⟩ (.int .i64 x)) g fr x t:=by
 unfold BoxL at h ⊢
 unfold World.setCell
 rw [Array.getElem?_modify,if_pos rfl,h]
 rfl
theorem BoxL.set2 (h:BoxL w g fr tl t) (x:List UInt8):BoxL (w.setCell ⟨g,2,none⟩ (str x)) g fr tl x:=by
 unfold BoxL at h ⊢
 unfold World.setCell
 rw [Array.getElem?_modify,if_pos rfl,h]
 rfl
theorem BoxL.below {w':World} (h:BoxL w g fr tl t) (hb:Below w.heap.size w w'):BoxL w' g fr tl t:=(hb.block g h.lt).trans h
end
theorem Contains_strs (l:List (List UInt8)) (x:List UInt8) (S:Option Addr) (n c B:Nat) (w:World) (h:Sl w B 1 S n (l.map str)) (hn:n≤100000000) :
 Calls Tryz.prog 87 #[.slice S n c,str x] w fun e w'=>e = .returned (.bool (l.contains x))∧w=w':=by
 have hl:l.length=n:=by have:=h.len;simpa using this
 rcases Nat.eq_zero_or_pos n with h0 | h0
 · subst h0
   obtain rfl:l = []:=List.eq_nil_of_length_eq_zero hl
   refine(Go.Proofs.Tryz.slices_Contains_string_empty S c ⟨x.toArray⟩ w).mono ?_
   rintro e w' ⟨rfl,rfl⟩
   exact⟨rfl,rfl⟩
 · obtain⟨b,off,rfl,_,hcell⟩:=h.2 h0
   refine(Go.Proofs.Tryz.slices_Contains_string b off n c (l.map fun x=>(⟨x.toArray⟩:ByteArray)) ⟨x.toArray⟩ w (by simp;omega) (by omega) (fun j hj=>by
    have hj':j < l.length:=by simpa using hj
    have:=hcell j (str l[j]) (by simp [hj'])
    rw [this]
    simp [List.getD,hj',str])).mono ?_
   rintro e w' ⟨rfl,rfl⟩
   refine⟨?_,rfl⟩
   have e1:(l.map fun x=>(⟨x.toArray⟩:ByteArray)).take n=l.map fun x=>(⟨x.toArray⟩:ByteArray):=List.take_of_length_le (by simp;omega)
   rw [e1]
   congr 2
   rw [Bool.eq_iff_iff,Lib.containsS_iff,List.contains_iff_mem]
   constructor
   · intro hx
     obtain⟨y,hy,he⟩:=List.mem_map.1 hx
     have:=congrArg (fun b:ByteArray=>b.data.toList) he
     simp at this
     exact this ▸ hy
   · intro hx
     exact List.mem_map.2 ⟨x,hx,rfl⟩
def ampB:List UInt8:=[38,97,109,112,59]
theorem SplitAmp (t:List UInt8) (w:World) (hM:MaxLenOk w) (hs:t.length≤1000000) :
 Calls Tryz.prog 45 #[str t,.string ⟨#[38,97,109,112,59]⟩] w fun e w'=>∃ S c,e = .returned (.slice S (Lib.split t ampB).length c)∧Sl w' w'.heap.size 1 S (Lib.split t ampB).length ((Lib.split t ampB).map str)∧(Lib.split t ampB).length≤c∧Below w.heap.size w w':=by
 obtain⟨m,hm⟩:=hM
 have hc:=Go.Proofs.Tryz.strings_Split ⟨t.toArray⟩ ⟨#[38,97,109,112,59]⟩ m w (by simp [ByteArray.size];omega) hm (by decide)
 have hd:=Lib.splitB_data ⟨#[38,97,109,112,59]⟩ 0 (Lib.countB ⟨t.toArray⟩ ⟨#[38,97,109,112,59]⟩) ⟨t.toArray⟩
 have he:(Lib.splitB ⟨#[38,97,109,112,59]⟩ 0 (Lib.countB ⟨t.toArray⟩ ⟨#[38,97,109,112,59]⟩) ⟨t.toArray⟩).map (·.data.toList)=Lib.split t ampB:=hd
 have hl:Lib.countB ⟨t.toArray⟩ ⟨#[38,97,109,112,59]⟩+1=(Lib.split t ampB).length:=by
  rw [← he,List.length_map,Lib.splitB_all ⟨#[38,97,109,112,59]⟩ (by decide) 0 _ _ rfl]
 have hcells:(Lib.splitB ⟨#[38,97,109,112,59]⟩ 0 (Lib.countB ⟨t.toArray⟩ ⟨#[38,97,109,112,59]⟩) ⟨t.toArray⟩).map Value.string=(Lib.split t ampB).map str:=by
  rw [← he,List.map_map]
  exact List.map_congr_left fun s _=>str_of s
 rw [hcells,hl] at hc
 refine hc.mono ?_
 rintro e w' ⟨rfl,rfl⟩
 have h1:=Sl.row w 9 1 (Lib.split t ampB).length ((Lib.split t ampB).map str) (by simp)
 exact⟨_,_,rfl,by rw [World.size_alloc];exact h1,Nat.le_refl _,(Below.refl _ w).alloc (Nat.le_refl _) _⟩
theorem split_len (t:List UInt8):(Lib.split t ampB).length≤t.length+1:=by
 have h:=Lib.countB_le ⟨ampB.toArray⟩ (by decide) t.length ⟨t.toArray⟩ (by simp [ByteArray.size])
 have he:(Lib.split t ampB).length=Lib.countB ⟨t.toArray⟩ ⟨#[38,97,109,112,59]⟩+1:=by
  have hd:=Lib.splitB_data ⟨#[38,97,109,112,59]⟩ 0 (Lib.countB ⟨t.toArray⟩ ⟨#[38,97,109,112,59]⟩) ⟨t.toArray⟩
  have he:(Lib.splitB ⟨#[38,97,109,112,59]⟩ 0 (Lib.countB ⟨t.toArray⟩ ⟨#[38,97,109,112,59]⟩) ⟨t.toArray⟩).map (·.data.toList)=Lib.split t ampB:=hd
  rw [← he,List.length_map,Lib.splitB_all ⟨#[38,97,109,112,59]⟩ (by decide) 0 _ _ rfl]
 have h2:Lib.countB ⟨t.toArray⟩ ⟨#[38,97,109,112,59]⟩≤t.length:=by simpa [ByteArray.size,ampB] using h
 omega
theorem unampJ (t:List UInt8):Lib.join (Lib.split t ampB) [38]=unamp t:=unamp_join t
/-- What an attribute does. -/
def NextL (l:List UInt8) (i:Nat) (nm:List UInt8) (i2:Nat) (fr tl:Int):Prop:=
 i < i2∧i2≤l.length∧((fr = -1∧∀ seen ls,AL l.length (l.drop i) seen ls=AL l.length (l.drop i2) (nm :: seen) ls) ∨
  ∃ a z:Nat,fr=a∧tl=z∧a≤z∧z≤l.length∧∀ seen ls,AL l.length (l.drop i) seen ls=AL l.length (l.drop i2) (nm :: seen) (if leadsB nm && !seen.contains nm then ls ++ [⟨a,z,unamp ((l.take z).drop a)⟩] else ls))
section
variable {l:List UInt8} {i j k:Nat}
theorem NextL.bare (h:i < l.length) (hp:pAttr (nth l i)=true) (h62:nth l i≠62) (hj:toP pEq l (i+1)=j) (hk:toP pNotSp l j=k) (hno:(decide (k < l.length) && nth l k == 61)=false):NextL l i (lowL ((l.take j).drop i)) j (-1) 0:=by
 have h1:=toP_le pEq l (i+1) (by omega)
 rw [hj] at h1
 refine⟨by omega,h1.2,.inl ⟨rfl,fun seen ls=>AL_bare h hp h62 j k hj.symm hk.symm ?_⟩⟩
 rintro⟨a,b⟩
 simp [a,b] at hno
theorem NextL.quo (h:i < l.length) (hp:pAttr (nth l i)=true) (h62:nth l i≠62) (hj:toP pEq l (i+1)=j) (hk:toP pNotSp l j=k) (hkl:k < l.length) (h61:nth l k=61) {k2 T:Nat} (hk2:toP pNotSp l (k+1)=k2) (hl:k2 < l.length) (hq:nth l k2=34∨nth l k2=39) (hT:toP (pIs (nth l k2)) l (k2+1)=T) :
 NextL l i (lowL ((l.take j).drop i)) (min (T+1) l.length) ((k2+1:Nat):Int) (T:Int):=by
 have h1:=toP_le pEq l (i+1) (by omega)
 have h2:=toP_le pNotSp l j (by omega)
 have h3:=toP_le pNotSp l (k+1) (by omega)
 have h4:=toP_le (pIs (nth l k2)) l (k2+1) (by omega)
 rw [hj] at h1
 rw [hk] at h2
 rw [hk2] at h3
 rw [hT] at h4
 refine⟨by omega,Nat.min_le_right _ _,.inr ⟨k2+1,T,rfl,rfl,h4.1,h4.2,fun seen ls=>?_⟩⟩
 rw [AL_val h hp h62 j k hj.symm hk.symm hkl h61,value_quo k2 T k hk2.symm hl hq hT.symm]
 simp only
 rw [add_at (k2+1) T h4.1 h4.2]
theorem NextL.val (h:i < l.length) (hp:pAttr (nth l i)=true) (h62:nth l i≠62) (hj:toP pEq l (i+1)=j) (hk:toP pNotSp l j=k) (hkl:k < l.length) (h61:nth l k=61) {k2 T:Nat} (hk2:toP pNotSp l (k+1)=k2) (hq:(decide (k2 < l.length) && (nth l k2 == 34 || nth l k2 == 39))=false) (hT:toP pVal l k2=T) :
 NextL l i (lowL ((l.take j).drop i)) T (k2:Int) (T:Int):=by
 have h1:=toP_le pEq l (i+1) (by omega)
 have h2:=toP_le pNotSp l j (by omega)
 have h3:=toP_le pNotSp l (k+1) (by omega)
 rw [hj] at h1
 rw [hk] at h2
 rw [hk2] at h3
 have h4:=toP_le pVal l k2 (by omega)
 rw [hT] at h4
 refine⟨by omega,h4.2,.inr ⟨k2,T,rfl,rfl,h4.1,h4.2,fun seen ls=>?_⟩⟩
 rw [AL_val h hp h62 j k hj.symm hk.symm hkl h61,value_bare k2 T k hk2.symm (by rintro⟨a,b⟩;rcases b with b | b <;> simp [a,b] at hq) hT.symm (by omega)]
 simp only
 rw [add_at k2 T h4.1 h4.2]
end
theorem index_quo (l:List UInt8) (a:Nat) (q:Nat) (hq:q < 256) (_h:a≤l.length):Lib.index (l.drop a ++ [UInt8.ofNat q]) [UInt8.ofNat q]=((toP (pIs q) l a - a:Nat):Int):=by
 have hT:toP (pIs q) l a - a=(stopT (pIs q) (l.drop a)).length:=by unfold toP;omega
 rw [hT]
 have hst:=stop_app (pIs q) (l.drop a)
 have hno:∀ b∈stopT (pIs q) (l.drop a),b≠UInt8.ofNat q:=by
  intro b hb e
  have:=stopT_not (pIs q) (l.drop a) b hb
  rw [e] at this
  unfold pIs at this
  rw [UInt8.toNat_ofNat'] at this
  simp at this
  omega
 have key:∀ x y:List UInt8,(∀ b∈x,b≠UInt8.ofNat q)→Lib.index (x ++ UInt8.ofNat q :: y) [UInt8.ofNat q]=(x.length:Nat):=fun x y hx=>index_seg x y (UInt8.ofNat q) (fun hm=>hx _ hm rfl)
 cases hd:stopD (pIs q) (l.drop a) with
 | nil =>
  rw [hd,List.append_nil] at hst
  have h2:=key (stopT (pIs q) (l.drop a)) [] hno
  rw [hst] at h2
  rw [h2,hst]
 | cons c r =>
  have hc:=stopD_head (pIs q) (l.drop a) c r hd
  have hce:c=UInt8.ofNat q:=by
   unfold pIs at hc
   apply UInt8.toNat_inj.1
   rw [UInt8.toNat_ofNat']
   simp at hc
   omega
  rw [hd,hce] at hst
  have h2:=key (stopT (pIs q) (l.drop a)) (r ++ [UInt8.ofNat q]) hno
  rw [← h2,← List.cons_append,← List.append_assoc,hst]
theorem behP_gt (l t:List UInt8) (j:Nat) (hj:j≤l.length) (ht:t≠[]) (i:Nat) (hi:i < l.length) (hij:i≤j):i < behP l t j:=by
 obtain⟨_,_,h3⟩:=behP_drop l t j hj ht
 have htl:=List.length_pos_iff.2 ht
 by_cases hx:0≤Lib.index (l.drop j) t
 · have:=(h3 hx).2
   omega
 · unfold behP pastL
   rw [if_pos (by omega)]
   simpa using hi
theorem cont_rev (names:List (List UInt8)) (x:List UInt8):names.reverse.contains x=names.contains x:=by
 rw [Bool.eq_iff_iff,List.contains_iff_mem,List.contains_iff_mem,List.mem_reverse]
end Go.Proofs.YtlgbopjhmemaoaaGreatDoor
