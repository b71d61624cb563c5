import Derived.OrdersHeld
import Derived.WalkKit
import Derived.WalkSpells
import Derived.WalkLawsBesides
import Derived.Lib.Hide
import Derived.Deep.QuietTactic
import Derived.BigQuiet
import Derived.Deep.AppendLies
import Derived.Deep.Draws
import Derived.Maps.AppendAt
import Derived.Lib.AppendStr
import Derived.Lib.UnsafeStr
import Derived.Lib.Bytealg
import Derived.Lib.IndexMore
import Derived.Test.YtlgbopjhmemaoaaGreatDoorShelf
import Derived.Test.YtlgbopjhmemaoaaGreatDoorRows
import Derived.Lib.Builder
import Derived.Lib.Walk
import Derived.Laws.Externs
import Derived.Shelf.GgClosure.StringsIndexFunc
import Derived.Laws.RangeString
import Derived.Laws.RangeAny
import Derived.Shelf.Abstract
import Derived.Lib.IndexBytes
set_option maxRecDepth 100000
set_option maxHeartbeats 40000000
namespace Go.Proofs.YtlgbopjhmemaoaaGreatDoor
open Go.RowKit
theorem tkH {P:Program} {ops:Array Oper} {Q:Exit→Act→World→Prop} {S:World→Prop} {md:Region.Mode} {i:Nat} {oi:Oper} {v:Value} {fuel:Nat} {listed:Array Bool} {a:Act} {w:World} (hi:ops[i]? = some oi) (hy:∀ w,S w→(execOp a.eval oi).run P w = .ok (.value v) w) (hS:S w) (h:wpAnyH P md ops Q S fuel (listed.setIfInBounds i true) (a.put oi.dst v) w) (hs:Region.noSelect ops=true:=by kernel_rfl) (hf:Region.free md ops listed i=true:=by kernel_rfl) (hr:(Region.ready md ops listed).contains i=true:=by kernel_rfl) (hQ:∀ c a w,Q (.panic c) (a.put oi.dst v) w→Q (.panic c) a w:=by exact fun _ _ _ h=>h) (hw:Region.wanted oi (yielded ops a.tmps)=true:=by kernel_rfl):wpAnyH P md ops Q S (fuel+1) listed a w:=wpAnyH_take hi hs hf hr hQ (Or.inl ⟨hw,hy⟩) hS h
theorem tkN {P:Program} {ops:Array Oper} {Q:Exit→Act→World→Prop} {S:World→Prop} {md:Region.Mode} {i:Nat} {oi:Oper} {fuel:Nat} {listed:Array Bool} {a:Act} {w:World} (hi:ops[i]? = some oi) (hS:S w) (h:wpAnyH P md ops Q S fuel (listed.setIfInBounds i true) (a.put oi.dst undef) w) (hs:Region.noSelect ops=true:=by kernel_rfl) (hf:Region.free md ops listed i=true:=by kernel_rfl) (hr:(Region.ready md ops listed).contains i=true:=by kernel_rfl) (hQ:∀ c a w,Q (.panic c) (a.put oi.dst undef) w→Q (.panic c) a w:=by exact fun _ _ _ h=>h) (hw:Region.wanted oi (yielded ops a.tmps)=false:=by kernel_rfl):wpAnyH P md ops Q S (fuel+1) listed a w:=wpAnyH_take hi hs hf hr hQ (Or.inr ⟨hw,rfl⟩) hS h
end Go.Proofs.YtlgbopjhmemaoaaGreatDoor
namespace Go.Proofs.YtlgbopjhmemaoaaGreatDoor
open Go.RowKit
/-- A string value, said by its list of bytes. -/
def str (l:List UInt8):Value:=.string ⟨l.toArray⟩
/-- Byte k of a list, as a number; 0 behind its end. (A plain def: the walk's simp leaves it as it stands.) -/
def nth (l:List UInt8) (k:Nat):Nat:=(l.getD k 0).toNat
theorem nth_lt (l:List UInt8) (k:Nat):nth l k < 256:=(l.getD k 0).toNat_lt
theorem nth_of (l:List UInt8) (k:Nat) (h:k < l.length):nth l k=(l[k]).toNat:=by simp [nth,List.getD,h]
theorem nth_ge (l:List UInt8) (k:Nat) (h:l.length≤k):nth l k=0:=by simp [nth,List.getD,h]
theorem nth_cons_zero (a:UInt8) (l:List UInt8):nth (a :: l) 0=a.toNat:=rfl
theorem nth_drop (l:List UInt8) (i k:Nat):nth (l.drop i) k=nth l (i+k):=by simp [nth,List.getD]
theorem str_eq (l:List UInt8):str l = .string ⟨l.toArray⟩:=rfl
theorem str_of (s:ByteArray):Value.string s=str s.data.toList:=rfl
attribute [local simp] ByteArray.toList_mk
section
variable {P:Program} (w:World)
theorem run_len_str (t ty:TypeId) (l:List UInt8) (h:P.underlying t=some .string) :
 (Builtin.len_ #[t] ty #[str l]).run P w = .ok (.int .i64 l.length) w:=by
 rw [str_eq,run_len_string w t ty _ h];rfl
theorem run_index_str (t:TypeId) (l:List UInt8) (k:IntKind) (i:Int) (h:P.underlying t=some .string) (h0:0≤i) (h1:i < l.length) :
 (Instr.index t (str l) (.int k i)).run P w = .ok (.int .u8 (nth l i.toNat)) w:=by
 have h2:i.toNat < l.length:=by omega
 rw [str_eq,run_index_string w t _ k i h,dif_pos ⟨h0,by simpa [ByteArray.size] using h1⟩]
 congr 3
 show(l.toArray[i.toNat]).toNat=_
 rw [nth_of l _ h2]
 simp
theorem run_index_str_if (t:TypeId) (l:List UInt8) (k:IntKind) (i:Int) (h:P.underlying t=some .string) :
 (Instr.index t (str l) (.int k i)).run P w=if 0≤i∧i < l.length then .ok (.int .u8 (nth l i.toNat)) w else (boundsPanic k i l.length .index).run P w:=by
 by_cases hc:0≤i∧i < (l.length:Int)
 · rw [if_pos hc,run_index_str w t l k i h hc.1 hc.2]
 · rw [if_neg hc,str_eq,run_index_string w t _ k i h,dif_neg (by simpa [ByteArray.size] using hc)]
   simp [ByteArray.size]
theorem run_slice_str_lh (t:TypeId) (l:List UInt8) (k k':IntKind) (i j:Int) (h:P.underlying t=some .string) (h0:0≤i) (h1:i≤j) (h2:j≤l.length) :
 (Instr.slice t (str l) (some (.int k i)) (some (.int k' j)) none).run P w = .ok (str ((l.take j.toNat).drop i.toNat)) w:=by
 rw [str_eq,run_slice_string w t _ k k' i j h h0 h1 (by simpa [ByteArray.size] using h2),ByteArray.extract_mk]
 simp [str,List.drop_take]
theorem run_slice_str_l (t:TypeId) (l:List UInt8) (k:IntKind) (i:Int) (h:P.underlying t=some .string) (h0:0≤i) (h1:i≤l.length) :
 (Instr.slice t (str l) (some (.int k i)) none none).run P w = .ok (str (l.drop i.toNat)) w:=by
 rw [str_eq,run_slice_string_from_if w t _ k i h,if_pos ⟨h0,by simpa [ByteArray.size] using h1⟩,ByteArray.extract_mk,List.take_of_length_le (by simp [ByteArray.size])]
 rfl
theorem run_slice_str_h (t:TypeId) (l:List UInt8) (k:IntKind) (j:Int) (h:P.underlying t=some .string) (h0:0≤j) (h1:j≤l.length) :
 (Instr.slice t (str l) none (some (.int k j)) none).run P w = .ok (str (l.take j.toNat)) w:=by
 rw [str_eq,run_slice_string_to_if w t _ k j h,if_pos ⟨h0,by simpa [ByteArray.size] using h1⟩,ByteArray.extract_mk]
 simp [str]
theorem run_add_str (t:TypeId) (a b:List UInt8) (h:a.length+b.length≤9223372036854775807) :
 (binOp .add t (str a) (str b)).run P w = .ok (str (a ++ b)) w:=by
 rw [str_eq,str_eq,binOp_string_add,run_string_add_sum w _ _ (by simpa [ByteArray.size] using h),ByteArray.mk_append_mk]
 rfl
end
theorem eqGuard_at_str {op:BinOp} {t:TypeId} {x y:Operand} (l:List UInt8) (v:Value):eqGuard op t x y (str l) v=pure ():=by cases op <;> rfl
theorem binOp_eql_str (t:TypeId) (a b:List UInt8):binOp .eql t (str a) (str b)=pure (.bool (a == b)):=by
 rw [str_eq,str_eq,binOp_string_eql];simp
theorem binOp_neq_str (t:TypeId) (a b:List UInt8):binOp .neq t (str a) (str b)=pure (.bool (!(a == b))):=by
 rw [str_eq,str_eq,binOp_string_neq];simp
theorem run_store_str (P:Program) (w:World) (a:Addr) (m:Mode) (l:List UInt8):(store a (str l) m).run P w=stored P w a (str l) m:=run_store P w a _ m rfl
theorem oneCell'_str (l:List UInt8):(str l).oneCell'=true:=rfl
theorem cells_str (l:List UInt8):(str l).cells = #[str l]:=rfl
/-- (The walk lays 'Value.cells' open before its rules are tried: this one serves behind that.) -/
theorem cells_str2 (l:List UInt8) (f:Array Value→Array Value) (g:Value→Array Value):Value.cells.match_1 (fun _=>Array Value) (str l) f g=g (str l):=rfl
attribute [go_sem high] cells_str2
theorem run_slice_str_all {P:Program} (w:World) (t:TypeId) (l:List UInt8) (h:P.underlying t=some .string) :
 (Instr.slice t (str l) none none none).run P w = .ok (str l) w:=by
 rw [str_eq,run_slice_string_all w t _ h,ByteArray.extract_mk]
 simp [ByteArray.size]
theorem run_slice_str_l_if {P:Program} (w:World) (t:TypeId) (l:List UInt8) (k:IntKind) (i:Int) (h:P.underlying t=some .string) :
 (Instr.slice t (str l) (some (.int k i)) none none).run P w=if 0≤i∧i≤l.length then .ok (str (l.drop i.toNat)) w else ((boundsPanic k i l.length .sliceB:Sem Nat).run P w).andThen fun a w'=>.ok (.string ((ByteArray.mk l.toArray).extract a l.length)) w':=by
 by_cases hc:0≤i∧i≤(l.length:Int)
 · rw [if_pos hc,run_slice_str_l w t l k i h hc.1 hc.2]
 · rw [if_neg hc,str_eq,run_slice_string_from_if w t _ k i h,if_neg (by simpa [ByteArray.size] using hc)]
   simp [ByteArray.size]
theorem run_slice_str_h_if {P:Program} (w:World) (t:TypeId) (l:List UInt8) (k:IntKind) (j:Int) (h:P.underlying t=some .string) :
 (Instr.slice t (str l) none (some (.int k j)) none).run P w=if 0≤j∧j≤l.length then .ok (str (l.take j.toNat)) w else ((boundsPanic k j l.length .sliceAlen:Sem Nat).run P w).andThen fun a w'=>.ok (.string ((ByteArray.mk l.toArray).extract 0 a)) w':=by
 by_cases hc:0≤j∧j≤(l.length:Int)
 · rw [if_pos hc,run_slice_str_h w t l k j h hc.1 hc.2]
 · rw [if_neg hc,str_eq,run_slice_string_to_if w t _ k j h,if_neg (by simpa [ByteArray.size] using hc)]
   simp [ByteArray.size]
theorem run_add_str_if {P:Program} (w:World) (t:TypeId) (a b:List UInt8) :
 (binOp .add t (str a) (str b)).run P w = if a.length + b.length ≤ 9223372036854775807 then .ok (str (a ++ b)) w else .halt (.unsupported (.resourceLimit "string concatenation: a sum of the lengths that is no int")) w := by
 by_cases hc:a.length+b.length≤9223372036854775807
 · rw [if_pos hc,run_add_str w t a b hc]
 · rw [if_neg hc,str_eq,str_eq,binOp_string_add,run_string_add_if,if_pos (by simp [ByteArray.size];omega)]
section
variable {P:Program} (w:World) (t ty:TypeId) (l a b:List UInt8)
theorem run_len_lit (h:P.underlying t=some .string):(Builtin.len_ #[t] ty #[.string ⟨l.toArray⟩]).run P w = .ok (.int .i64 l.length) w:=run_len_str w t ty l h
theorem run_index_lit (k:IntKind) (i:Int) (h:P.underlying t=some .string) :
 (Instr.index t (.string ⟨l.toArray⟩) (.int k i)).run P w=if 0≤i∧i < l.length then .ok (.int .u8 (nth l i.toNat)) w else (boundsPanic k i l.length .index).run P w:=run_index_str_if w t l k i h
theorem run_add_str_lit : (binOp .add t (str a) (.string ⟨b.toArray⟩)).run P w = if a.length + b.length ≤ 9223372036854775807 then .ok (str (a ++ b)) w else .halt (.unsupported (.resourceLimit "string concatenation: a sum of the lengths that is no int")) w := run_add_str_if w t a b
theorem run_add_lit_str : (binOp .add t (.string ⟨a.toArray⟩) (str b)).run P w = if a.length + b.length ≤ 9223372036854775807 then .ok (str (a ++ b)) w else .halt (.unsupported (.resourceLimit "string concatenation: a sum of the lengths that is no int")) w := run_add_str_if w t a b
theorem binOp_eql_str_lit:binOp .eql t (str a) (.string ⟨b.toArray⟩)=pure (.bool (a == b)):=binOp_eql_str t a b
theorem binOp_eql_lit_str:binOp .eql t (.string ⟨a.toArray⟩) (str b)=pure (.bool (a == b)):=binOp_eql_str t a b
theorem binOp_neq_str_lit:binOp .neq t (str a) (.string ⟨b.toArray⟩)=pure (.bool (!(a == b))):=binOp_neq_str t a b
theorem binOp_neq_lit_str:binOp .neq t (.string ⟨a.toArray⟩) (str b)=pure (.bool (!(a == b))):=binOp_neq_str t a b
end
attribute [go_sem high] run_len_lit run_index_lit run_add_str_lit run_add_lit_str binOp_eql_str_lit binOp_eql_lit_str binOp_neq_str_lit binOp_neq_lit_str
attribute [go_sem high] run_len_str run_index_str_if run_slice_str_lh run_slice_str_l_if run_slice_str_h_if run_slice_str_all run_add_str_if eqGuard_at_str binOp_eql_str binOp_neq_str run_store_str oneCell'_str cells_str
theorem belN {B:Nat} {a w:World} (h:Below B a w) (n:Nat):Below B a (w.drewN n):=⟨h.os,h.tape,h.output,h.size,h.block⟩
/-- The slice value '.slice A n c' holds the cells xs ('size' cells an element) and lies below block B. -/
def Sl (w:World) (B size:Nat) (A:Option Addr) (n:Nat) (xs:List Value):Prop:=
 xs.length=n * size∧(0 < n→∃ b off,A=some ⟨b,off,none⟩∧b < B∧∀ j u,xs[j]? = some u→w.cell? ⟨b,off+j,none⟩=some u)
/-- The address behind a cut 's[k:]'. -/
def cutA (A:Option Addr) (c k size:Nat):Option Addr:=if c=k then A else A.map (·.add (k * size))
section
variable {w w':World} {B B' size n:Nat} {A:Option Addr} {xs:List Value}
theorem Sl.nil_ (w:World) (B size:Nat) (A:Option Addr):Sl w B size A 0 []:=⟨by simp,fun h=>absurd h (by omega)⟩
theorem Sl.len (h:Sl w B 1 A n xs):xs.length=n:=by have:=h.1;omega
theorem Sl.at_ {k:Nat} (h:Sl w B 1 A n xs) (hk:k < n):∃ b off u,A=some ⟨b,off,none⟩∧b < B∧xs[k]? = some u∧w.cell? ⟨b,off+k,none⟩=some u:=by
 obtain⟨b,off,e,hb,hc⟩:=h.2 (by omega)
 have hl:k < xs.length:=by have:=h.1;omega
 exact⟨b,off,xs[k],e,hb,List.getElem?_eq_getElem hl,hc k _ (List.getElem?_eq_getElem hl)⟩
theorem Sl.keep (h:Sl w B size A n xs) (hk:∀ p:Addr,p.block < B→w'.cell? p=w.cell? p):Sl w' B size A n xs:=
 ⟨h.1,fun hn=>by
  obtain⟨b,off,e,hb,hc⟩:=h.2 hn
  exact⟨b,off,e,hb,fun j u hu=>(hk _ hb).trans (hc j u hu)⟩⟩
theorem Sl.more (h:Sl w B size A n xs) (hB:B≤B'):Sl w B' size A n xs:=
 ⟨h.1,fun hn=>by
  obtain⟨b,off,e,hb,hc⟩:=h.2 hn
  exact⟨b,off,e,by omega,hc⟩⟩
theorem Sl.below (h:Sl w B size A n xs) (hb:Below B w w'):Sl w' B size A n xs:=h.keep fun _ hp=>hb.cell hp
theorem Sl.belowN (h:Sl w B size A n xs) {C:Nat} (hb:Below C w w') (hC:B≤C):Sl w' B size A n xs:=h.below (hb.mono hC)
theorem Sl.drew (h:Sl w B size A n xs):Sl w.drew B size A n xs:=h
theorem Sl.drewN (h:Sl w B size A n xs) (k:Nat):Sl (w.drewN k) B size A n xs:=h
theorem Sl.alloc (h:Sl w B size A n xs) (hB:B≤w.heap.size) (o:Obj):Sl (w.alloc o) B size A n xs:=h.keep fun p hp=>World.cell?_alloc_lt w o p (by omega)
theorem Sl.setCell (h:Sl w B size A n xs) {p:Addr} (hB:B≤p.block) (u:Value):Sl (w.setCell p u) B size A n xs:=
 h.keep fun q hq=>World.cell?_setCell_other w p q u (fun e=>by subst e;omega)
theorem Sl.grown (h:Sl w B size A n xs) {row:Option Nat} (hg:w.grownBy w' row) (hB:B≤w.heap.size) (hr:∀ g,row=some g→B≤g):Sl w' B size A n xs:=
 h.keep fun p hp=>World.cell?_of_block (hg.block p.block (by omega) (fun e=>by have:=hr _ e.symm;omega))
theorem Sl.cut (h:Sl w B size A n xs) {k c:Nat} (hk:k≤n) (hc:n≤c):Sl w B size (cutA A c k size) (n - k) (xs.drop (k * size)):=by
 refine⟨by rw [List.length_drop,h.1,Nat.sub_mul],fun hn=>?_⟩
 obtain⟨b,off,rfl,hb,hcell⟩:=h.2 (by omega)
 unfold cutA
 rw [if_neg (by omega)]
 refine⟨b,off+k * size,by rw [Option.map_some,Addr.add_lit],hb,fun j u hu=>?_⟩
 rw [Nat.add_assoc]
 exact hcell _ u (by rw [← hu,List.getElem?_drop])
theorem Sl.upto (h:Sl w B size A n xs) {k:Nat} (hk:k≤n):Sl w B size A k (xs.take (k * size)):=by
 refine⟨?_,fun hn=>?_⟩
 · rw [List.length_take,h.1];exact Nat.min_eq_left (Nat.mul_le_mul_right _ hk)
 · obtain⟨b,off,rfl,hb,hcell⟩:=h.2 (by omega)
   refine⟨b,off,rfl,hb,fun j u hu=>hcell j u ?_⟩
   rw [List.getElem?_take] at hu
   split at hu
   · exact hu
   · cases hu
theorem Sl.of_own {base:Nat} {e:TypeId} {c:Nat} (h:w.ownsRow base e size (.slice A n c) n xs):Sl w w.heap.size size A n xs:=by
 refine⟨h.1,fun hn=>?_⟩
 rcases h.2 with ⟨_,h0⟩ | ⟨g,cap,cur,hv,_,hh,_⟩
 · omega
 · have hA:A=some ⟨g,0,none⟩:=by injection hv
   subst hA
   refine⟨g,0,rfl,?_,fun j u hu=>?_⟩
   · rcases Nat.lt_or_ge g w.heap.size with hlt | hge
     · exact hlt
     · rw [Array.getElem?_eq_none hge] at hh;cases hh
   · have:=h.cells (g:=g) rfl j u hu
     rwa [Addr.add_lit] at this
/-- A row of cells in one block. -/
theorem Sl.of_block {g off:Nat} {cs:Array Value} {t:TypeId} {fr:Nat × Nat} (hg:w.heap[g]? = some (.cells cs t fr)) (hl:xs.length=n * size) (hx:∀ j u,xs[j]? = some u→cs[off+j]? = some u):Sl w w.heap.size size (some ⟨g,off,none⟩) n xs:=by
 refine⟨hl,fun _=>⟨g,off,rfl,?_,fun j u hu=>?_⟩⟩
 · rcases Nat.lt_or_ge g w.heap.size with hlt | hge
   · exact hlt
   · rw [Array.getElem?_eq_none hge] at hg;cases hg
 · simp [World.cell?,hg,hx j u hu]
end
/-- One new cell; a new row. -/
theorem Sl.one (w:World) (t:TypeId) (v:Value):Sl (w.alloc (.cells #[v] t)) (w.heap.size+1) 1 (some ⟨w.heap.size,0,none⟩) 1 [v]:=by
 have h:=Sl.of_block (w:=w.alloc (.cells #[v] t)) (g:=w.heap.size) (off:=0) (size:=1) (n:=1) (xs:=[v]) (heap_alloc_new w _) rfl (fun j u hu=>by
  match j,hu with
  | 0,hu=>simpa using hu)
 simpa using h
theorem Sl.row (w:World) (t:TypeId) (size n:Nat) (l:List Value) (h:l.length=n * size):Sl (w.alloc (.cells l.toArray t)) (w.heap.size+1) size (some ⟨w.heap.size,0,none⟩) n l:=by
 have h:=Sl.of_block (w:=w.alloc (.cells l.toArray t)) (g:=w.heap.size) (off:=0) (size:=size) (n:=n) (xs:=l) (heap_alloc_new w _) h (fun j u hu=>by
  rw [Nat.zero_add];simpa using hu)
 simpa using h
/-- The length in a slot that holds a slice: for a loop's measure. -/
def lenOf:Value→Nat | .slice _ n _=>n | _=>0
/-- The slice value '.slice A n c' holds the bytes l. -/
def By (w:World) (B:Nat) (A:Option Addr) (n:Nat) (l:List UInt8):Prop:=Sl w B 1 A n (Lib.byteCells l)
section
variable {w w':World} {B B' n:Nat} {A:Option Addr} {l:List UInt8}
theorem By.len (h:By w B A n l):l.length=n:=by have:=Sl.len h;simpa [Lib.byteCells] using this
theorem By.nil_ (w:World) (B:Nat) (A:Option Addr):By w B A 0 []:=Sl.nil_ w B 1 A
theorem By.at_ {k:Nat} (h:By w B A n l) (hk:k < n):∃ b off,A=some ⟨b,off,none⟩∧b < B∧w.cell? ⟨b,off+k,none⟩=some (.int .u8 (nth l k)):=by
 obtain⟨b,off,u,hA,hb,hu,hc⟩:=Sl.at_ h hk
 have hl:k < l.length:=by rw [h.len];exact hk
 refine⟨b,off,hA,hb,hc.trans ?_⟩
 rw [← hu,nth_of l k hl]
 simp [Lib.byteCells,hl]
theorem By.opn (h:By w B A n l) (hn:0 < n):∃ b off,A=some ⟨b,off,none⟩∧b < B∧∀ k,k < n→w.cell? ⟨b,off+k,none⟩=some (.int .u8 (nth l k)):=by
 obtain⟨b,off,hA,hb,hc⟩:=And.right h hn
 refine⟨b,off,hA,hb,fun k hk=>hc k _ ?_⟩
 have hl:k < l.length:=by rw [h.len];exact hk
 rw [nth_of l k hl]
 simp [Lib.byteCells,hl]
theorem By.keep (h:By w B A n l) (hk:∀ p:Addr,p.block < B→w'.cell? p=w.cell? p):By w' B A n l:=Sl.keep h hk
theorem By.more (h:By w B A n l) (hB:B≤B'):By w B' A n l:=Sl.more h hB
theorem By.below (h:By w B A n l) (hb:Below B w w'):By w' B A n l:=Sl.below h hb
theorem By.belowN (h:By w B A n l) {C:Nat} (hb:Below C w w') (hC:B≤C):By w' B A n l:=Sl.belowN h hb hC
theorem By.alloc (h:By w B A n l) (hB:B≤w.heap.size) (o:Obj):By (w.alloc o) B A n l:=Sl.alloc h hB o
theorem By.cut (h:By w B A n l) {k c:Nat} (hk:k≤n) (hc:n≤c):By w B (cutA A c k 1) (n - k) (l.drop k):=by
 have:=Sl.cut h hk hc
 simpa [By,Lib.byteCells,List.map_drop] using this
theorem By.upto (h:By w B A n l) {k:Nat} (hk:k≤n):By w B A k (l.take k):=by
 have:=Sl.upto h hk
 simpa [By,Lib.byteCells,List.map_take] using this
/-- A block that holds just these bytes (laid by a literal, or by a conversion: with a mark). -/
theorem By.block (w:World) (l:List UInt8) {g n:Nat} {e:TypeId} {fr:Nat × Nat} (hg:g=w.heap.size) (hn:n=l.length:=by rfl):By (w.alloc (.cells (Lib.byteCells l).toArray e fr)) (w.alloc (.cells (Lib.byteCells l).toArray e fr)).heap.size (some ⟨g,0,none⟩) n l:=by
 subst hg;subst hn
 exact Sl.of_block (heap_alloc_new w _) (by simp [Lib.byteCells]) (fun j u hu=>by rw [Nat.zero_add];simpa using hu)
theorem By.of_own {base:Nat} {e:TypeId} {c:Nat} (h:w.ownsRow base e 1 (.slice A n c) n (Lib.byteCells l)):By w w.heap.size A n l:=Sl.of_own h
end
theorem oneCell_byteCells (l:List UInt8):∀ u∈Lib.byteCells l,u.oneCell'=true:=by
 intro u hu;simp [Lib.byteCells] at hu;obtain⟨x,_,rfl⟩:=hu;rfl
section
variable {P:Program}
/-- '[]byte(s)'. -/
theorem run_toBytes (w:World) (src dst e:TypeId) (l:List UInt8) (hs:P.underlying src=some .string) (hd:P.underlying dst=some (.slice e)) (he:P.underlying e=some (.int .u8)) :
 ∃ A c w',(convert src dst (str l)).run P w = .ok (.slice A l.length c) w'∧By w' w'.heap.size A l.length l∧l.length≤c∧Below w.heap.size w w'∧w.heap.size < w'.heap.size:=by
 refine⟨_,_,_,run_bytes_of_string w src dst e ⟨l.toArray⟩ hs hd he,?_,?_,?_,?_⟩
 · refine Sl.of_block (g:=w.heap.size) (heap_alloc_new w.drew _) (by simp [Lib.byteCells]) fun j u hu=>?_
   rw [Nat.zero_add]
   have hj:j < l.length:=by
    rcases Nat.lt_or_ge j l.length with h | h
    · exact h
    · simp [Lib.byteCells,List.getElem?_eq_none h] at hu
   rw [bytesRow_at ⟨l.toArray⟩ _ j (by simpa using hj)]
   simp [Lib.byteCells,hj] at hu
   simpa using hu
 · exact grownCap_ge _ _ _ _
 · exact(Below.drew (Below.refl _ w)).alloc (Nat.le_refl _) _
 · simp
/-- 'string(b)'. -/
theorem run_toStr (w:World) (src dst e:TypeId) (B:Nat) (A:Option Addr) (n c:Nat) (l:List UInt8) (hb:By w B A n l) (hs:P.underlying src=some (.slice e)) (he:P.underlying e=some (.int .u8)) (hd:P.underlying dst=some .string) :
 (convert src dst (.slice A n c)).run P w = .ok (str l) w:=by
 have hl:=hb.len
 subst hl
 rcases Nat.eq_zero_or_pos l.length with h0 | h0
 · have hnil:l = []:=List.eq_nil_of_length_eq_zero h0
   subst hnil
   cases A with
   | none=>rw [run_convert_bytes_nil w src e hs he _ _ dst hd];rfl
   | some a=>exact run_convert_bytes_back w src dst e a c [] hs he hd (fun j hj=>absurd hj (by simp))
 · obtain⟨b,off,rfl,_,hc⟩:=hb.2 h0
   refine run_convert_bytes_back w src dst e ⟨b,off,none⟩ c l hs he hd (fun j hj=>?_)
   rw [Addr.add_lit]
   exact hc j _ (by simp [Lib.byteCells,hj])
theorem elem_of {t e:TypeId} (ht:P.underlying t=some (.slice e)):P.elem t=e:=by
 simp [Program.elem,ht]
/-- 's[k:]'. -/
theorem run_cut (w:World) (t e:TypeId) (size:Nat) (ht:P.underlying t=some (.slice e)) (hs:(sizeOf e).run P w = .ok size w) (A:Option Addr) (n c:Nat) (ki:IntKind) (k:Int) (h0:0≤k) (h1:k≤n) :
 (Instr.slice t (.slice A n c) (some (.int ki k)) none none).run P w = .ok (.slice (cutA A c k.toNat size) (n - k.toNat) (c - k.toNat)) w:=by
 have he:=elem_of ht
 rw [run_slice_l w t A n c (by rw [he];exact ht) ki k h0 h1,he,hs]
 rfl
/-- 's[:k]'. -/
theorem run_upto (w:World) (t e:TypeId) (size:Nat) (ht:P.underlying t=some (.slice e)) (hs:(sizeOf e).run P w = .ok size w) (A:Option Addr) (n c:Nat) (ki:IntKind) (k:Int) (h0:0≤k) (h1:k≤n) (hc:n≤c) :
 (Instr.slice t (.slice A n c) none (some (.int ki k)) none).run P w = .ok (.slice (cutA A c 0 size) k.toNat c) w:=by
 have he:=elem_of ht
 rw [run_slice_h w t A n c (by rw [he];exact ht) ki k h0 (by omega),he,hs]
 rfl
/-- 's[i:j]'. -/
theorem run_mid (w:World) (t e:TypeId) (size:Nat) (ht:P.underlying t=some (.slice e)) (hs:(sizeOf e).run P w = .ok size w) (A:Option Addr) (n c:Nat) (ki kj:IntKind) (i j:Int) (h0:0≤i) (h1:i≤j) (h2:j≤n) (hc:n≤c) :
 (Instr.slice t (.slice A n c) (some (.int ki i)) (some (.int kj j)) none).run P w = .ok (.slice (cutA A c i.toNat size) (j.toNat - i.toNat) (c - i.toNat)) w:=by
 have he:=elem_of ht
 rw [run_slice_lh w t A n c (by rw [he];exact ht) ki kj i j h0 h1 (by omega),he,hs]
 rfl
/-- 'append(s, x...)' onto a slice of the call's own: whatever is appended, nil and empty too. -/
theorem run_app (w:World) (base:Nat) (t ty e:TypeId) (i:TypeInfo) (z:Value) (size bytes:Nat) (ht:P.underlying t=some (.slice e)) (hi:P.info? e=some i) (hz:i.zero=some z)
 (hsize:i.size=size) (hby:i.bytes=bytes) (hzs:z.cells.size=size) (hsz:0 < size)
 (S:Option Addr) (n cs:Nat) (xs:List Value) (hown:w.ownsRow base e size (.slice S n cs) n xs)
 (B:Nat) (A:Option Addr) (m c:Nat) (news:List Value) (hr:Sl w B size A m news) (h1:∀ u∈news,u.oneCell'=true)
 (h63:n+m≤maxLen) (hbytes:(n+m) * bytes≤140737488355328) (hbase:base≤w.heap.size) :
 ∃ S' c' w',(Builtin.append_ #[t,t] ty #[.slice S n cs,.slice A m c]).run P w = .ok (.slice S' (n+m) c') w'∧w'.ownsRow base e size (.slice S' (n+m) c') (n+m) (xs ++ news) ∧
  w.grownBy w' (Value.ownBlock (.slice S n cs))∧(Value.ownBlock (.slice S' (n+m) c')=Value.ownBlock (.slice S n cs)∨Value.ownBlock (.slice S' (n+m) c')=some w.heap.size):=by
 have form:∀ {v:Value} {w':World} {k:Nat} {ys:List Value},w'.ownsRow base e size v k ys→∃ S' c',v = .slice S' k c':=by
  intro v w' k ys h
  rcases h.2 with ⟨hv,h0⟩ | ⟨g,cap,cur,hv,_⟩
  · exact⟨none,0,by rw [hv,h0]⟩
  · exact⟨_,_,hv⟩
 rcases A with _ | ad
 · have hm:m=0:=by
    rcases Nat.eq_zero_or_pos m with h0 | h0
    · exact h0
    · obtain⟨_,_,h,_⟩:=hr.2 h0
      cases h
   subst hm
   have hn:news = []:=List.eq_nil_of_length_eq_zero (by simpa using hr.1)
   subst hn
   refine⟨S,cs,w,?_,by simpa using hown,World.grownBy.refl w _,.inl rfl⟩
   rcases hown.2 with ⟨hv,h0⟩ | ⟨g,cap,cur,hv,_,_,hnc,_⟩
   · injection hv with hS hn0 hcs
     subst hS;subst hn0;subst hcs
     simp [Builtin.append_,run_underlying ht,sizeOf,typeInfo,hi,Builtin.lenOf,Builtin.firstCells]
   · injection hv with hS hn0 hcs
     subst hS;subst hcs
     simp [Builtin.append_,run_underlying ht,sizeOf,typeInfo,hi,Builtin.lenOf,Builtin.firstCells,hnc,storeCells]
 · have hcells:∀ j u,news[j]? = some u→w.cell? (ad.add j)=some u:=by
    intro j u hu
    rcases Nat.eq_zero_or_pos m with h0 | h0
    · subst h0
      have hn:news = []:=List.eq_nil_of_length_eq_zero (by simpa using hr.1)
      subst hn
      simp at hu
    · obtain⟨b,off,h,_,hc⟩:=hr.2 h0
      injection h with h
      subst h
      rw [Addr.add_lit]
      exact hc j u hu
   obtain⟨v',w',hrun,h2,h3,_,h5⟩:=run_append_own_at (P:=P) w base t ty e i z size bytes ht hi hz hsize hby hzs hsz _ n xs hown ad m c news hr.1 hcells h1 h63 hbytes hbase
   obtain⟨S',c',rfl⟩:=form h2
   exact⟨S',c',w',hrun,h2,h3,h5⟩
theorem wpList_app {w:World} {ops:Array Oper} {rest:List Oper} {o:Oper} {a:Act} {Q:Exit→Act→World→Prop} (hgd:o.guard=none) (s x:Operand) (t:TypeId)
 (ho:o.op = .call { callee:=.builtin .append,args:=#[s,x],argTypes:=#[t,t] })
 (base:Nat) (e:TypeId) (i:TypeInfo) (z:Value) (size bytes:Nat) (ht:P.underlying t=some (.slice e)) (hi:P.info? e=some i) (hz:i.zero=some z)
 (hsize:i.size=size) (hby:i.bytes=bytes) (hzs:z.cells.size=size) (hsz:0 < size)
 (S:Option Addr) (n cs:Nat) (xs:List Value) (hs:a.eval s = .slice S n cs) (hown:w.ownsRow base e size (.slice S n cs) n xs)
 (B:Nat) (A:Option Addr) (m c:Nat) (news:List Value) (hx:a.eval x = .slice A m c) (hr:Sl w B size A m news) (h1:∀ u∈news,u.oneCell'=true)
 (h63:n+m≤maxLen) (hbytes:(n+m) * bytes≤140737488355328) (hbase:base≤w.heap.size)
 (h:∀ S' c' w',w'.ownsRow base e size (.slice S' (n+m) c') (n+m) (xs ++ news)→Below base w w'→w.grownBy w' (Value.ownBlock (.slice S n cs))→wpList P ops Q rest (a.put o.dst (.slice S' (n+m) c')) w'):wpList P ops Q (o :: rest) a w:=by
 refine wpList_plain hgd fun K hK=>?_
 obtain⟨S',c',w',hrun,h2,h3,h4⟩:=run_app (P:=P) w base t o.type e i z size bytes ht hi hz hsize hby hzs hsz S n cs xs hown B A m c news hr h1 h63 hbytes hbase
 unfold Oper.wp execOp
 simp only [ho,resolve,invoke,builtin,Sem.run_bind,Sem.run_pure,Result.andThen_ok,List.map_toArray,List.map_cons,List.map_nil,hs,hx,hrun]
 exact hK _ _ (h S' c' w' h2 ((Below.refl base w).grown h3 hbase (fun k hk=>(hown.lt k hk).1)) h3)
end
end Go.Proofs.YtlgbopjhmemaoaaGreatDoor
namespace Go.Proofs.YtlgbopjhmemaoaaGreatDoor
/-- The first place of a byte; -1: none. -/
def idxB (l:List UInt8) (x:Nat):Int:=Lib.indexByte l (UInt8.ofNat x)
/-- What parts something. -/
def tspec:List UInt8:=[40,41,60,62,64,44,59,58,92,34,47,91,93,63,61]
def badTok (x:Nat):Bool:=decide (x≤32) || decide (126 < x) || decide (0≤idxB tspec x)
/-- header.Token. -/
def tokB (l:List UInt8):Bool:=!(l == []) && decide (l.length≤30) && !l.any (fun b=>badTok b.toNat)
def upR (r:Nat):Bool:=decide (65≤r) && decide (r≤90)
/-- part.Type. -/
def typB (l:List UInt8):Bool:=
 (Lib.cut l [47]).2.2 && tokB (Lib.cut l [47]).1 && tokB (Lib.cut l [47]).2.1 && !l.any (fun b=>upR b.toNat)
/-- part.Many. -/
def manyB (l:List UInt8):Bool:=Lib.hasPrefix l [109,117,108,116,105,112,97,114,116,47]
def badWord (x:Nat):Bool:=decide (x≤32) || decide (126 < x) || x == 34 || x == 60 || x == 62
/-- part.Word. -/
def wordB (l:List UInt8):Bool:=decide (l.length≤120) && !l.any (fun b=>badWord b.toNat)
theorem tok_ascii (l:List UInt8) (h:tokB l=true):∀ b∈l,b.toNat < 128:=by
 intro b hb
 simp only [tokB,Bool.and_eq_true,Bool.not_eq_true'] at h
 have:=List.any_eq_false.1 h.2 b hb
 simp [badTok] at this
 omega
theorem cut_backT (l:List UInt8) (c:UInt8) (h:(Lib.cut l [c]).2.2=true):l=(Lib.cut l [c]).1 ++ c :: (Lib.cut l [c]).2.1:=by
 have hge:=Lib.indexByte_ge l c
 unfold Lib.cut at h ⊢
 rw [Lib.index_one] at h ⊢
 by_cases h0:0≤Lib.indexByte l c
 · rw [if_pos h0]
   obtain⟨k,hk⟩:=Int.eq_ofNat_of_zero_le h0
   rw [hk,Int.toNat_natCast]
   have h1:=(Lib.indexByte_some hk).1
   have hl:k < l.length:=by
    rcases Nat.lt_or_ge k l.length with h | h
    · exact h
    · rw [List.getElem?_eq_none h] at h1;cases h1
   have h2:l[k]=c:=by rw [List.getElem?_eq_getElem hl] at h1;exact Option.some.inj h1
   show l=l.take k ++ c :: l.drop (k+1)
   rw [← h2,← List.drop_eq_getElem_cons hl,List.take_append_drop]
 · rw [if_neg h0] at h
   cases h
theorem typ_ascii (l:List UInt8) (h0:(Lib.cut l [47]).2.2=true) (h1:tokB (Lib.cut l [47]).1=true) (h2:tokB (Lib.cut l [47]).2.1=true):∀ b∈l,b.toNat < 128:=by
 intro b hb
 rw [cut_backT l 47 h0] at hb
 simp only [List.mem_append,List.mem_cons] at hb
 rcases hb with hb | rfl | hb
 · exact tok_ascii _ h1 b hb
 · decide
 · exact tok_ascii _ h2 b hb
end Go.Proofs.YtlgbopjhmemaoaaGreatDoor
namespace Go.Proofs.YtlgbopjhmemaoaaGreatDoor
open Go.RowKit
/-- A builder of the call's own, in block b, that holds the bytes l. -/
def Bld (b:Nat) (l:List UInt8) (w:World):Prop:=Lib.IsBuilder 149 5 b b (Lib.byteCells l) w
theorem byteCells_append (a b:List UInt8):Lib.byteCells (a ++ b)=Lib.byteCells a ++ Lib.byteCells b:=by simp [Lib.byteCells]
theorem byteCells_len (l:List UInt8):(Lib.byteCells l).length=l.length:=by simp [Lib.byteCells]
theorem BuilderAt.lt {T e:TypeId} {B b:Nat} {p:Value} {bs:List Value} {w:World} (h:Lib.BuilderAt T e B b p bs w):b < w.heap.size:=Lib.BuilderAt.lt h
theorem BuilderAt.below {T e:TypeId} {B b:Nat} {p:Value} {bs:List Value} {w w':World} (h:Lib.BuilderAt T e B b p bs w) (hb:Below w.heap.size w w'):Lib.BuilderAt T e B b p bs w':=by
 have hlt:=Lib.BuilderAt.lt h
 obtain⟨hB,v,hbk,hown,hne⟩:=h
 exact⟨hB,v,(hb.block b hlt).trans hbk,hown.kept (row:=none) ⟨hb.os,hb.tape,hb.output,hb.size,fun k hk _=>hb.block k hk⟩ (by cases h:v.ownBlock <;> simp),hne⟩
theorem Bld.lt {b:Nat} {l:List UInt8} {w:World} (h:Bld b l w):b < w.heap.size:=by rcases h with h | h <;> exact Lib.BuilderAt.lt h
theorem Bld.below {b:Nat} {l:List UInt8} {w w':World} (h:Bld b l w) (hb:Below w.heap.size w w'):Bld b l w':=by
 rcases h with h | h
 · exact .inl (BuilderAt.below h hb)
 · exact .inr (BuilderAt.below h hb)
theorem infoByte:(Tryz.prog.info? 5).map (fun i=>(i.zero,i.size,i.bytes))=some (some (.int .u8 0),1,1):=by kernel_rfl
end Go.Proofs.YtlgbopjhmemaoaaGreatDoor
namespace Go.Proofs.YtlgbopjhmemaoaaGreatDoor
/-- A rune of a text for which p says yes: a byte for which it does, where p says yes to all beyond ASCII, or the text has none of these. -/
theorem idxFunc_any (p:Nat→Bool) (l:List UInt8) (h:(∀ r,128≤r→p r=true)∨∀ b∈l,b.toNat < 128):decide (0≤Lib.idxFunc p true ⟨l.toArray⟩)=l.any (fun b=>p b.toNat):=by
 have key:∀ (f pos:Nat),l.length≤f+pos→(0≤Lib.idxFuncFrom p true ⟨l.toArray⟩ f pos↔(l.drop pos).any (fun b=>p b.toNat)=true):=by
  intro f
  induction f with
  | zero =>
   intro pos hl
   rw [List.drop_of_length_le (by omega)]
   simp [Lib.idxFuncFrom]
  | succ f ih =>
   intro pos hl
   unfold Lib.idxFuncFrom
   have hsz:(⟨l.toArray⟩:ByteArray).size=l.length:=by simp [ByteArray.size]
   by_cases hp:pos < l.length
   · rw [if_pos (by rw [hsz];exact hp),List.drop_eq_getElem_cons hp,List.any_cons]
     have hb:((⟨l.toArray⟩:ByteArray)[pos]'(by rw [hsz];exact hp))=l[pos]:=by
      show(l.toArray[pos])=_
      simp
     rcases Nat.lt_or_ge (l[pos]).toNat 128 with h128 | h128
     · have hd:=decode_ascii ⟨l.toArray⟩ pos (by rw [hsz];exact hp) (by rw [hb];exact h128)
       rw [hb] at hd
       rw [hd]
       by_cases hpb:p (l[pos]).toNat=true
       · rw [if_pos hpb,hpb]
         simp
       · rw [if_neg hpb]
         have:=ih (pos+1) (by omega)
         rw [this]
         simp [hpb]
     · have hd:=decode_high ⟨l.toArray⟩ pos (by rw [hsz];exact hp) (by rw [hb];exact h128)
       rcases h with h | h
       · rw [if_pos (h _ hd.1),h _ h128]
         simp
       · exact absurd (h _ (List.getElem_mem hp)) (by omega)
   · rw [if_neg (by rw [hsz];exact hp),List.drop_of_length_le (by omega)]
     simp
 have:=key (⟨l.toArray⟩:ByteArray).size 0 (by simp [ByteArray.size])
 unfold Lib.idxFunc
 rw [Bool.eq_iff_iff,decide_eq_true_eq,this,List.drop_zero]
end Go.Proofs.YtlgbopjhmemaoaaGreatDoor
namespace Go.Proofs.YtlgbopjhmemaoaaGreatDoor
open Go.RowKit
/-- What a predicate on bytes is good for. -/
def PredB (g:Nat) (lb:Array Value) (p:Nat→Bool) (w:World):Prop:=
 ∀ (W:World) (x:Nat),x < 256→Below w.heap.size w W→Calls Tryz.prog g (#[.int .u8 (x:Int)] ++ lb) W fun e w'=>e = .returned (.bool (p x))∧Below W.heap.size W w'
def IdxRes (b:Bool) (w:World) (e:Ending) (w':World):Prop:=∃ i:Int,e = .returned (.int .i64 i)∧decide (0≤i)=b∧Below w.heap.size w w'
theorem any_hit (l:List UInt8) (p:Nat→Bool) (k:Nat) (hk:k < l.length) (h:p (nth l k)=true):l.any (fun b=>p b.toNat)=true:=by
 rw [List.any_eq_true]
 exact⟨l[k],List.getElem_mem hk,by rw [← nth_of l k hk];exact h⟩
theorem any_miss (l:List UInt8) (p:Nat→Bool) (h:∀ j,j < l.length→p (nth l j)=false):l.any (fun b=>p b.toNat)=false:=by
 rw [List.any_eq_false]
 intro x hx
 obtain⟨j,hj,rfl⟩:=List.getElem_of_mem hx
 rw [← nth_of l j hj,h j hj]
 simp
theorem IndexFunc_bytes (g:Nat) (lb:Array Value) (eg:∀ args w,(callFunc g args).run Tryz.prog w = .ok (.enter g args) w) (p:Nat→Bool) (A:Option Addr) (n c B:Nat) (l:List UInt8) (w:World) (hb:By w B A n l) (hB:B≤w.heap.size) (hm:n≤maxLen) (hp:PredB g lb p w) :
 Calls Tryz.prog 97 #[.slice A n c,.func (.func g) #[] lb] w (IdxRes (l.any (fun b=>p b.toNat)) w):=by
 have hl:=hb.len
 have h1:=any_hit l p
 have h2:=any_miss l p
 generalize l.any (fun b=>p b.toNat)=r at h1 h2
 have Hl:=Lib.hid hl
 have H1:=Lib.hid h1
 have H2:=Lib.hid h2
 have Hp:=Lib.hid hp
 clear hl h1 h2 hp
 unfold maxLen at hm
 go_enter Tryz.func97,Tryz.ntmps97
 go_wp2_with fail
 go_loopw [8] (fun iv wr=>∃ k:Nat,k≤n∧iv = .int .i64 k∧Below w.heap.size w wr∧Hid (∀ j,j < k→p (nth l j)=false)) (fun iv _=>n - (intOf iv).toNat)
 case atStart=>exact⟨0,by omega,rfl,Below.refl _ _,fun j hj=>absurd hj (by omega)⟩
 case round =>
  obtain⟨k,hk,rfl,hbel,hz⟩:=hrel
  by_cases hkn:k < n
  · obtain⟨b,off,rfl,hbB,hcell1⟩:=hb.at_ hkn
    have hcell:=(hbel.cell (p:=⟨b,off+k,none⟩) (Nat.lt_of_lt_of_le hbB hB)).trans hcell1
    have cS:=Hp.out wr (nth l k) (nth_lt l k) hbel
    clear hcell1
    by_cases hpk:p (nth l k)=true
    · have hr:Hid (r=true):=H1.out k (by rw [Hl.out];exact hkn) hpk
      rw [hpk] at cS
      clear hpk
      go_wp2_with (go_at_fn g;refine cS.mono ?_;rintro e w1 ⟨rfl,hb1⟩)
      go_ret
      exact⟨k,rfl,by rw [hr.out];simp,hbel.trans (hb1.mono hbel.size)⟩
    · have hpf:p (nth l k)=false:=by simpa using hpk
      rw [hpf] at cS
      have HF:=Lib.hid hpf
      clear hpk hpf
      go_wp2_with (go_at_fn g;refine cS.mono ?_;rintro e w1 ⟨rfl,hb1⟩)
      refine⟨⟨k+1,by omega,by go_num,hbel.trans (hb1.mono hbel.size),fun j hj=>?_⟩,by simp [intOf];omega⟩
      rcases Nat.lt_or_ge j k with h | h
      · exact hz.out j h
      · rw [show j=k from by omega];exact HF.out
  · have hr:Hid (r=false):=H2.out fun j hj=>hz.out j (by rw [Hl.out] at hj;omega)
    go_wp2_with fail
    go_ret
    exact⟨-1,rfl,by rw [hr.out];rfl,hbel⟩
theorem ContainsFunc_bytes (g:Nat) (lb:Array Value) (eg:∀ args w,(callFunc g args).run Tryz.prog w = .ok (.enter g args) w) (p:Nat→Bool) (A:Option Addr) (n c B:Nat) (l:List UInt8) (w:World) (hb:By w B A n l) (hB:B≤w.heap.size) (hm:n≤maxLen) (hp:PredB g lb p w) :
 Calls Tryz.prog 51 #[.slice A n c,.func (.func g) #[] lb] w fun e w'=>e = .returned (.bool (l.any (fun b=>p b.toNat)))∧Below w.heap.size w w':=by
 have h:=IndexFunc_bytes g lb eg p A n c B l w hb hB hm hp
 generalize l.any (fun b=>p b.toNat)=r at h ⊢
 clear hp hb
 have H:=Lib.hid h
 clear h eg
 go_enter Tryz.func51,Tryz.ntmps51
 go_wp2_with fail
 refine H.out.mono ?_
 rintro e w1 ⟨i,rfl,hi,hb1⟩
 have Hi:=Lib.hid hi
 clear hi
 go_wp2_with fail
 all_goals
  go_ret
  exact⟨by rw [← Hi.out];rfl,hb1⟩
theorem own_below {w w':World} {base:Nat} {e:TypeId} {size:Nat} {v:Value} {n:Nat} {xs:List Value} (h:w.ownsRow base e size v n xs) (hb:Below w.heap.size w w'):w'.ownsRow base e size v n xs:=
 h.kept (row:=none) ⟨hb.os,hb.tape,hb.output,hb.size,fun k hk _=>hb.block k hk⟩ (by cases h:v.ownBlock <;> simp)
theorem own_cap {w:World} {base:Nat} {e:TypeId} {size:Nat} {S:Option Addr} {n c:Nat} {xs:List Value} (h:w.ownsRow base e size (.slice S n c) n xs):n≤c:=by
 rcases h.2 with ⟨hv,h0⟩ | ⟨g',cap',cur',hv',_,_,hnc',_⟩
 · omega
 · injection hv' with _ _ hcc;omega
theorem cut_one_yes {l:List UInt8} {c:UInt8} {k:Nat} (h:Lib.indexByte l c=(k:Int)):Lib.cut l [c]=(l.take k,l.drop (k+1),true):=by
 unfold Lib.cut
 rw [Lib.index_one,h,if_pos (by omega)]
 simp
theorem cut_one_no {l:List UInt8} {c:UInt8} (h:Lib.indexByte l c < 0):Lib.cut l [c]=(l,[],false):=by
 unfold Lib.cut
 rw [Lib.index_one,if_neg (by omega)]
theorem sliteCut_one (l:List UInt8) (c:UInt8) (w:World) (hl:l.length≤maxLen) :
 Calls Tryz.prog 154 #[str l,.string ⟨#[c]⟩] w fun e w'=>e = .returned (.tuple #[str (Lib.cut l [c]).1,str (Lib.cut l [c]).2.1,.bool (Lib.cut l [c]).2.2])∧∃ q,w'=w.drewN q:=by
 unfold maxLen at hl
 have hge:=Lib.indexByte_ge l c
 by_cases h0:0≤Lib.indexByte l c
 · obtain⟨k,hk⟩:=Int.eq_ofNat_of_zero_le h0
   have hlt:k < l.length:=by
    have:=(Lib.indexByte_some hk).1
    rcases Nat.lt_or_ge k l.length with h | h
    · exact h
    · rw [List.getElem?_eq_none h] at this;cases this
   have hidx:=fun W=>Go.Proofs.Tryz.stringslite_Index_one ⟨l.toArray⟩ c W
   rw [show(⟨l.toArray⟩:ByteArray).data.toList=l from rfl,hk] at hidx
   rw [cut_one_yes hk]
   have Hidx:=Lib.hid hidx
   clear hidx hk h0 hge
   go_enter Tryz.func154,Tryz.ntmps154
   go_wp2_with fail
   refine(Hidx.out _).mono ?_
   rintro e w1 ⟨rfl,rfl⟩
   go_wp2_with fail
   have i1:IntKind.i64.wrap ((k:Int)+1)=(k:Int)+1:=IntWalk.i64_in _ (by omega)
   have i2:0≤(k:Int)+1:=by omega
   have i3:((k:Int)+1).toNat=k+1:=by omega
   have i4:(k:Int)+1≤l.length:=by omega
   have i5:(k:Int)≤l.length:=by omega
   go_quiet (fail)
   clear i1 i2 i3 i4 i5
   go_wp2_with fail
   go_ret3
   exact⟨rfl,_,rfl⟩
 · have hidx:=fun W=>Go.Proofs.Tryz.stringslite_Index_one ⟨l.toArray⟩ c W
   rw [show(⟨l.toArray⟩:ByteArray).data.toList=l from rfl,show Lib.indexByte l c = -1 by omega] at hidx
   rw [cut_one_no (by omega)]
   have Hidx:=Lib.hid hidx
   clear hidx hge h0
   go_enter Tryz.func154,Tryz.ntmps154
   go_wp2_with fail
   refine(Hidx.out _).mono ?_
   rintro e w1 ⟨rfl,rfl⟩
   go_wp2_with fail
   go_ret3
   exact⟨rfl,0,rfl⟩
theorem Cut_one (l:List UInt8) (c:UInt8) (w:World) (hl:l.length≤maxLen) :
 Calls Tryz.prog 114 #[str l,.string ⟨#[c]⟩] w fun e w'=>e = .returned (.tuple #[str (Lib.cut l [c]).1,str (Lib.cut l [c]).2.1,.bool (Lib.cut l [c]).2.2])∧∃ q,w'=w.drewN q:=by
 have h:=sliteCut_one l c w hl
 generalize Lib.cut l [c]=x at h ⊢
 obtain⟨a,b,d⟩:=x
 go_enter Tryz.func114,Tryz.ntmps114
 go_wp2_with fail
 refine h.mono ?_
 rintro e w1 ⟨rfl,q,rfl⟩
 go_wp2_with fail
 go_ret3
 exact⟨rfl,q,rfl⟩
theorem HasPrefix_any (l p:List UInt8) (w:World):Calls Tryz.prog 48 #[str l,.string ⟨p.toArray⟩] w fun e w'=>e = .returned (.bool (Lib.hasPrefix l p))∧w=w':=by
 refine(Go.Proofs.Tryz.strings_HasPrefix ⟨l.toArray⟩ ⟨p.toArray⟩ w).mono ?_
 rintro e w1 ⟨rfl,rfl⟩
 exact⟨rfl,rfl⟩
theorem IndexByte_tspec (x:Nat) (w:World) :
 Calls Tryz.prog 82 #[.string ⟨#[40,41,60,62,64,44,59,58,92,34,47,91,93,63,61]⟩,.int .u8 (x:Int)] w fun e w'=>e = .returned (.int .i64 (idxB tspec x))∧w=w':=by
 refine(Go.Proofs.Tryz.strings_IndexByte ⟨tspec.toArray⟩ (x:Int) w).mono ?_
 rintro e w' ⟨rfl,rfl⟩
 exact⟨rfl,rfl⟩
theorem token1_any (x:Nat) (hx:x < 256) (w:World):Calls Tryz.prog 148 #[.int .u8 (x:Int)] w fun e w'=>e = .returned (.bool (badTok x))∧w=w':=by
 by_cases h1:x≤32
 · rw [show badTok x=true by simp [badTok,h1]]
   go_enter Tryz.func148,Tryz.ntmps148
   go_wp2_with fail
   go_ret
   exact⟨rfl,rfl⟩
 · by_cases h2:126 < x
   · rw [show badTok x=true by simp [badTok,h2]]
     go_enter Tryz.func148,Tryz.ntmps148
     go_wp2_with fail
     go_ret
     exact⟨rfl,rfl⟩
   · have e:badTok x=decide (0≤idxB tspec x):=by simp [badTok,h1,h2]
     have d1:decide ((x:Int)≤32)=false:=by simp;omega
     have d2:decide ((126:Int) < x)=false:=by simp;omega
     rw [e]
     clear e
     go_enter Tryz.func148,Tryz.ntmps148
     go_wp2_with fail
     refine(IndexByte_tspec x _).mono ?_
     rintro e w1 ⟨rfl,rfl⟩
     go_wp2_with fail
     all_goals
      go_ret
      exact⟨rfl,rfl⟩
theorem predTok (w:World):PredB 148 #[] badTok w:=fun W x hx _ =>
 (token1_any x hx W).mono fun _e _w' ⟨h1,h2⟩=>⟨h1,h2 ▸ Below.refl _ _⟩
theorem Token_any (l:List UInt8) (w:World) (hl:l.length≤maxLen):Calls Tryz.prog 102 #[str l] w fun e w'=>e = .returned (.bool (tokB l))∧Below w.heap.size w w':=by
 unfold maxLen at hl
 by_cases h0:l = []
 · subst h0
   rw [show tokB []=false from rfl]
   go_enter Tryz.func102,Tryz.ntmps102
   go_wp2_with fail
   go_ret
   exact⟨rfl,Below.refl _ _⟩
 · have h1:(l == [])=false:=by simpa using h0
   by_cases h30:l.length≤30
   · have e:tokB l = !l.any (fun b=>badTok b.toNat):=by simp [tokB,h1,h30]
     rw [e]
     clear e h0
     obtain⟨A,c,w1,hconv,hby,hnc,hb1,hlt1⟩:=run_toBytes (P:=Tryz.prog) w 9 22 5 l Tryz.underlying9 Tryz.underlying22 Tryz.underlying5
     have hcf:=ContainsFunc_bytes 148 #[] (enters_of Tryz.func148 (by kernel_rfl) rfl) badTok A l.length c _ l w1 hby (Nat.le_refl _) (by unfold maxLen;omega) (predTok w1)
     generalize l.any (fun b=>badTok b.toNat)=r at hcf ⊢
     have Hcf:=Lib.hid hcf
     clear hcf hby
     go_enter Tryz.func102,Tryz.ntmps102
     go_wp2_with fail
     refine Hcf.out.mono ?_
     rintro e w2 ⟨rfl,hb2⟩
     go_wp2_with fail
     go_ret
     exact⟨rfl,hb1.trans (hb2.mono hb1.size)⟩
   · have e:tokB l=false:=by simp [tokB,h30]
     rw [e]
     clear e h0
     go_enter Tryz.func102,Tryz.ntmps102
     go_wp2_with fail
     go_ret
     exact⟨rfl,Below.refl _ _⟩
/-- A part, as data. -/
structure PartD where
 type:List UInt8
 cs:List UInt8
 id:List UInt8
 loc:List UInt8
 how:Int
 body:List UInt8
 parts:List PartD
def SlS (S:Nat→Prop) (w:World) (size:Nat) (A:Option Addr) (n:Nat) (xs:List Value):Prop:=
 xs.length=n * size∧(0 < n→∃ b off,A=some ⟨b,off,none⟩∧S b∧∀ j u,xs[j]? = some u→w.cell? ⟨b,off+j,none⟩=some u)
theorem SlS.sl {B:Nat} {w:World} {size n:Nat} {A:Option Addr} {xs:List Value} (h:SlS (· < B) w size A n xs):Sl w B size A n xs:=h
theorem Sl.sls {B:Nat} {w:World} {size n:Nat} {A:Option Addr} {xs:List Value} (h:Sl w B size A n xs):SlS (· < B) w size A n xs:=h
theorem SlS.change {S S':Nat→Prop} {w w':World} {size n:Nat} {A:Option Addr} {xs:List Value} (h:SlS S w size A n xs) (hS:∀ b,S b→S' b) (hk:∀ p:Addr,S p.block→w'.cell? p=w.cell? p):SlS S' w' size A n xs:=
 ⟨h.1,fun hn=>by
  obtain⟨b,off,e,hb,hc⟩:=h.2 hn
  exact⟨b,off,e,hS b hb,fun j u hu=>(hk _ hb).trans (hc j u hu)⟩⟩
mutual
/-- The seven cells of a part, and what they lead to. -/
def PartAt (S:Nat→Prop) (w:World):PartD→List Value→Prop
 | ⟨t,cs,id,loc,how,body,parts⟩,v=>∃ A n c A2 n2 c2 rows,v = [str t,str cs,str id,str loc,.int .i64 how,.slice A n c,.slice A2 n2 c2] ∧
  (t.length≤maxLen∧cs.length≤maxLen∧id.length≤maxLen∧loc.length≤maxLen∧-9223372036854775808≤how∧how≤9223372036854775807) ∧
  SlS S w 1 A n (Lib.byteCells body)∧n≤c∧c≤maxLen∧SlS S w 7 A2 n2 rows.flatten∧n2≤c2∧c2≤maxLen∧PartsAt S w parts rows
def PartsAt (S:Nat→Prop) (w:World):List PartD→List (List Value)→Prop
 | [],rows=>rows = []
 | p :: ps,rows=>∃ r rs,rows=r :: rs∧PartAt S w p r∧PartsAt S w ps rs
end
/-- A slice of parts. -/
def SlP (S:Nat→Prop) (w:World) (A:Option Addr) (n:Nat) (ps:List PartD):Prop:=
 ∃ rows,SlS S w 7 A n rows.flatten∧PartsAt S w ps rows
section
variable {S S':Nat→Prop} {w w':World}
mutual
theorem PartAt.change (hS:∀ b,S b→S' b) (hk:∀ p:Addr,S p.block→w'.cell? p=w.cell? p):∀ (p:PartD) (v:List Value),PartAt S w p v→PartAt S' w' p v
 | ⟨t,cs,id,loc,how,body,parts⟩,v,h=>by
  obtain⟨A,n,c,A2,n2,c2,rows,h1,h2,h3,h4,h5,h6,h7,h8,h9⟩:=h
  exact⟨A,n,c,A2,n2,c2,rows,h1,h2,h3.change hS hk,h4,h5,h6.change hS hk,h7,h8,PartsAt.change hS hk parts rows h9⟩
theorem PartsAt.change (hS:∀ b,S b→S' b) (hk:∀ p:Addr,S p.block→w'.cell? p=w.cell? p):∀ (ps:List PartD) (rows:List (List Value)),PartsAt S w ps rows→PartsAt S' w' ps rows
 | [],_,h=>h
 | p :: ps,_,h=>by
  obtain⟨r,rs,h1,h2,h3⟩:=h
  exact⟨r,rs,h1,PartAt.change hS hk p r h2,PartsAt.change hS hk ps rs h3⟩
end
theorem SlP.change {A:Option Addr} {n:Nat} {ps:List PartD} (h:SlP S w A n ps) (hS:∀ b,S b→S' b) (hk:∀ p:Addr,S p.block→w'.cell? p=w.cell? p):SlP S' w' A n ps:=by
 obtain⟨rows,h1,h2⟩:=h
 exact⟨rows,h1.change hS hk,PartsAt.change hS hk _ _ h2⟩
theorem PartAt.below {B:Nat} {p:PartD} {v:List Value} (h:PartAt (· < B) w p v) (hb:Below B w w'):PartAt (· < B) w' p v:=
 PartAt.change (fun _ h=>h) (fun _ hp=>hb.cell hp) p v h
theorem PartAt.belowN {B C:Nat} {p:PartD} {v:List Value} (h:PartAt (· < B) w p v) (hb:Below C w w') (hC:B≤C):PartAt (· < B) w' p v:=h.below (hb.mono hC)
theorem PartAt.more {B C:Nat} {p:PartD} {v:List Value} (h:PartAt (· < B) w p v) (hC:B≤C):PartAt (· < C) w p v:=
 PartAt.change (fun _ h=>Nat.lt_of_lt_of_le h hC) (fun _ _=>rfl) p v h
theorem SlP.below {B:Nat} {A:Option Addr} {n:Nat} {ps:List PartD} (h:SlP (· < B) w A n ps) (hb:Below B w w'):SlP (· < B) w' A n ps:=
 h.change (fun _ h=>h) (fun _ hp=>hb.cell hp)
theorem SlP.belowN {B C:Nat} {A:Option Addr} {n:Nat} {ps:List PartD} (h:SlP (· < B) w A n ps) (hb:Below C w w') (hC:B≤C):SlP (· < B) w' A n ps:=h.below (hb.mono hC)
theorem SlP.more {B C:Nat} {A:Option Addr} {n:Nat} {ps:List PartD} (h:SlP (· < B) w A n ps) (hC:B≤C):SlP (· < C) w A n ps:=
 h.change (fun _ h=>Nat.lt_of_lt_of_le h hC) (fun _ _=>rfl)
theorem PartsAt.len:∀ (ps:List PartD) (rows:List (List Value)),PartsAt S w ps rows→rows.length=ps.length
 | [],_,h=>by rw [show _ = [] from h];rfl
 | p :: ps,_,h=>by
  obtain⟨r,rs,rfl,_,h3⟩:=h
  simp [PartsAt.len ps rs h3]
theorem PartAt.row {p:PartD} {v:List Value} (h:PartAt S w p v):v.length=7:=by
 obtain⟨t,cs,id,loc,how,body,parts⟩:=p
 obtain⟨A,n,c,A2,n2,c2,rows,rfl,_⟩:=h
 rfl
theorem PartsAt.rows:∀ (ps:List PartD) (rows:List (List Value)),PartsAt S w ps rows→∀ r∈rows,r.length=7
 | [],_,h=>by rw [show _ = [] from h];simp
 | p :: ps,_,h=>by
  obtain⟨r,rs,rfl,h2,h3⟩:=h
  intro x hx
  rcases List.mem_cons.1 hx with rfl | hx
  · exact h2.row
  · exact PartsAt.rows ps rs h3 x hx
theorem PartsAt.app:∀ (ps:List PartD) (rows:List (List Value)) (qs:List PartD) (rows':List (List Value)),PartsAt S w ps rows→PartsAt S w qs rows'→PartsAt S w (ps ++ qs) (rows ++ rows')
 | [],_,_,_,h,h'=>by rw [show _ = [] from h];exact h'
 | p :: ps,_,qs,rows',h,h'=>by
  obtain⟨r,rs,rfl,h2,h3⟩:=h
  exact⟨r,rs ++ rows',rfl,h2,PartsAt.app ps rs qs rows' h3 h'⟩
theorem PartsAt.get:∀ (ps:List PartD) (rows:List (List Value)),PartsAt S w ps rows→∀ i (h:i < ps.length),∃ r,rows[i]? = some r∧PartAt S w ps[i] r
 | [],_,_=>fun i h=>absurd h (by simp)
 | p :: ps,_,h=>by
  obtain⟨r,rs,rfl,h2,h3⟩:=h
  intro i hi
  match i,hi with
  | 0,_=>exact⟨r,rfl,h2⟩
  | i+1,hi=>exact PartsAt.get ps rs h3 i (by simpa using hi)
theorem PartsAt.mk:∀ (ps:List PartD) (rows:List (List Value)),rows.length=ps.length→(∀ i (h:i < ps.length),∃ r,rows[i]? = some r∧PartAt S w ps[i] r)→PartsAt S w ps rows
 | [],rows,hl,_=>List.eq_nil_of_length_eq_zero hl
 | p :: ps,[],hl,_=>by simp at hl
 | p :: ps,r :: rs,hl,h=>by
  obtain⟨r',h1,h2⟩:=h 0 (by simp)
  simp at h1
  subst h1
  exact⟨r,rs,rfl,h2,PartsAt.mk ps rs (by simpa using hl) fun i hi=>h (i+1) (by simpa using hi)⟩
theorem flat7_len:∀ (rows:List (List Value)),(∀ r∈rows,r.length=7)→rows.flatten.length=rows.length * 7
 | [],_=>rfl
 | r :: rs,h=>by
  rw [List.flatten_cons,List.length_append,h r (by simp),flat7_len rs (fun x hx=>h x (by simp [hx])),List.length_cons]
  omega
theorem flat7_at:∀ (rows:List (List Value)),(∀ r∈rows,r.length=7)→∀ (i k:Nat) (r:List Value),rows[i]? = some r→k < 7→rows.flatten[i * 7+k]? = r[k]?
 | [],_=>fun i k r hr _=>by simp at hr
 | x :: rs,h=>by
  intro i k r hr hk
  have hx:=h x (by simp)
  match i,hr with
  | 0,hr =>
   simp at hr;subst hr
   rw [List.flatten_cons,List.getElem?_append_left (by omega)]
   simp
  | i+1,hr =>
   rw [List.flatten_cons,List.getElem?_append_right (by omega),hx,show(i+1) * 7+k - 7=i * 7+k from by omega]
   exact flat7_at rs (fun y hy=>h y (by simp [hy])) i k r (by simpa using hr) hk
theorem SlP.len {A:Option Addr} {n:Nat} {ps:List PartD} (h:SlP S w A n ps):ps.length=n:=by
 obtain⟨rows,h1,h2⟩:=h
 have hl:=h1.1
 rw [flat7_len rows (PartsAt.rows _ _ h2),PartsAt.len _ _ h2] at hl
 omega
/-- Element i's cells. -/
theorem SlP.at_ {A:Option Addr} {n:Nat} {ps:List PartD} (h:SlP S w A n ps) {i:Nat} (hi:i < n) :
 ∃ b off r,A=some ⟨b,off,none⟩∧S b∧PartAt S w (ps[i]'(by rw [h.len];exact hi)) r∧∀ k u,r[k]? = some u→w.cell? ⟨b,off+(i * 7+k),none⟩=some u:=by
 have hl:=h.len
 obtain⟨rows,h1,h2⟩:=h
 obtain⟨b,off,hA,hb,hc⟩:=h1.2 (by omega)
 obtain⟨r,hr,hp⟩:=PartsAt.get _ _ h2 i (by omega)
 refine⟨b,off,r,hA,hb,hp,fun k u hu=>?_⟩
 have hk:k < 7:=by
  have:=hp.row
  rcases Nat.lt_or_ge k 7 with h' | h'
  · exact h'
  · rw [List.getElem?_eq_none (by omega)] at hu;cases hu
 exact hc _ u (by rw [flat7_at rows (PartsAt.rows _ _ h2) i k r hr hk];exact hu)
theorem SlP.nil_ (S:Nat→Prop) (w:World) (A:Option Addr):SlP S w A 0 []:=⟨[],⟨rfl,fun h=>absurd h (by omega)⟩,rfl⟩
end
/-- Seven cells of one block. -/
def Box7 (w:World) (b:Nat) (v0 v1 v2 v3 v4 v5 v6:Value):Prop:=
 w.cell? ⟨b,0,none⟩=some v0∧w.cell? ⟨b,1,none⟩=some v1∧w.cell? ⟨b,2,none⟩=some v2∧w.cell? ⟨b,3,none⟩=some v3∧w.cell? ⟨b,4,none⟩=some v4∧w.cell? ⟨b,5,none⟩=some v5∧w.cell? ⟨b,6,none⟩=some v6
theorem Box7.lt {w:World} {b:Nat} {v0 v1 v2 v3 v4 v5 v6:Value} (h:Box7 w b v0 v1 v2 v3 v4 v5 v6):b < w.heap.size:=by
 rcases Nat.lt_or_ge b w.heap.size with h' | h'
 · exact h'
 · have:=h.1;simp [World.cell?,Array.getElem?_eq_none h'] at this
theorem Box7.below {w w':World} {b:Nat} {v0 v1 v2 v3 v4 v5 v6:Value} (h:Box7 w b v0 v1 v2 v3 v4 v5 v6) (hb:Below w.heap.size w w'):Box7 w' b v0 v1 v2 v3 v4 v5 v6:=by
 have hlt:=h.lt
 obtain⟨h0,h1,h2,h3,h4,h5,h6⟩:=h
 exact⟨(hb.cell (p:=⟨b,0,none⟩) hlt).trans h0,(hb.cell (p:=⟨b,1,none⟩) hlt).trans h1,(hb.cell (p:=⟨b,2,none⟩) hlt).trans h2,(hb.cell (p:=⟨b,3,none⟩) hlt).trans h3,(hb.cell (p:=⟨b,4,none⟩) hlt).trans h4,(hb.cell (p:=⟨b,5,none⟩) hlt).trans h5,(hb.cell (p:=⟨b,6,none⟩) hlt).trans h6⟩
theorem Box7.new (w:World) (t:TypeId) (v0 v1 v2 v3 v4 v5 v6:Value):Box7 (w.alloc (.cells #[v0,v1,v2,v3,v4,v5,v6] t)) w.heap.size v0 v1 v2 v3 v4 v5 v6:=by
 have h:=heap_alloc_new w (.cells #[v0,v1,v2,v3,v4,v5,v6] t)
 refine⟨?_,?_,?_,?_,?_,?_,?_⟩ <;> (unfold World.cell?;rw [h];rfl)
/-- part.check, its tests named. -/
def chkB (ty ce tk wi wl:Bool) (how:Int) (n:Nat) (m:Bool) (n2:Nat):Nat:=
 if !ty || (!ce && !tk) || !wi || !wl then 1 else if decide (how < 0) || decide (2 < how) then 3 else if decide (4000 < n) then 2
 else if (m != decide (0 < n2)) || (m && (decide (0 < n) || how != 0 || !ce)) then 4 else 0
mutual
/-- All parts, depth first. -/
def flatD:PartD→List PartD
 | ⟨t,cs,id,loc,how,body,parts⟩=>⟨t,cs,id,loc,how,body,parts⟩ :: flatsD parts
def flatsD:List PartD→List PartD
 | []=>[]
 | p :: ps=>flatD p ++ flatsD ps
end
theorem flatD_eq (p:PartD):flatD p=p :: flatsD p.parts:=by cases p;rw [flatD]
mutual
/-- part.count: so deep may it go still. -/
def cntD:Nat→PartD→Option Nat
 | 0,_=>none
 | k+1,⟨_,_,_,_,_,_,parts⟩=>cntsD k 1 parts
def cntsD (k:Nat):Nat→List PartD→Option Nat
 | n,[]=>some n
 | n,p :: ps=>match cntD k p with
  | none=>none
  | some c=>if 12 < n+c then none else cntsD k (n+c) ps
end
def cntNext (k n:Nat) (ps:List PartD):Option Nat→Option Nat
 | none=>none
 | some c=>if 12 < n+c then none else cntsD k (n+c) ps
theorem cntsD_cons (k n:Nat) (p:PartD) (ps:List PartD):cntsD k n (p :: ps)=cntNext k n ps (cntD k p):=by
 rw [cntsD];cases cntD k p <;> rfl
theorem cntsD_le (k:Nat):∀ (ps:List PartD) (n c:Nat),n≤12→cntsD k n ps=some c→n≤c∧c≤12:=by
 intro ps
 induction ps with
 | nil=>intro n c h e;rw [cntsD] at e;injection e with e;omega
 | cons p ps ih =>
  intro n c h e
  rw [cntsD] at e
  split at e
  · cases e
  · split at e
    · cases e
    · have:=ih _ c (by omega) e
      omega
theorem cntD_le (k:Nat) (p:PartD) (c:Nat) (h:cntD k p=some c):1≤c∧c≤12:=by
 obtain⟨t,cs,id,loc,how,body,parts⟩:=p
 cases k with
 | zero=>rw [cntD] at h;cases h
 | succ k=>rw [cntD] at h;exact cntsD_le k parts 1 c (by omega) h
theorem flatsD_len:∀ (ps:List PartD),ps.length≤(flatsD ps).length
 | []=>by simp
 | p :: ps=>by
  have:=flatsD_len ps
  rw [flatsD,flatD_eq,List.length_append,List.length_cons,List.length_cons]
  omega
theorem flatsD_get:∀ (ps:List PartD) (i:Nat) (h:i < ps.length),(flatD ps[i]).length≤(flatsD ps).length∧∀ x∈flatD ps[i],x∈flatsD ps
 | [],i,h=>absurd h (by simp)
 | p :: ps,0,_=>by
  rw [flatsD]
  exact⟨by simp,fun x hx=>List.mem_append.2 (.inl hx)⟩
 | p :: ps,i+1,h=>by
  have:=flatsD_get ps i (by simpa using h)
  rw [flatsD]
  exact⟨by rw [List.length_append];simp only [List.getElem_cons_succ];omega,fun x hx=>List.mem_append.2 (.inr (this.2 x hx))⟩
theorem cntD_flat:∀ (k:Nat) (p:PartD) (c:Nat),cntD k p=some c→(flatD p).length=c:=by
 intro k
 induction k with
 | zero=>intro p c h;obtain⟨t,cs,id,loc,how,body,parts⟩:=p;rw [cntD] at h;cases h
 | succ k ih =>
  intro p c h
  obtain⟨t,cs,id,loc,how,body,parts⟩:=p
  rw [cntD] at h
  have key:∀ (ps:List PartD) (n c:Nat),cntsD k n ps=some c→n+(flatsD ps).length=c:=by
   intro ps
   induction ps with
   | nil=>intro n c h;rw [cntsD] at h;have h:=Option.some.inj h;simp [flatsD,h]
   | cons p ps ih2 =>
    intro n c h
    rw [cntsD_cons] at h
    cases hc:cntD k p with
    | none=>rw [hc] at h;cases h
    | some d =>
     rw [hc] at h
     simp only [cntNext] at h
     split at h
     · cases h
     · have h1:=ih p d hc
       have h2:=ih2 _ _ h
       rw [flatsD,List.length_append]
       omega
  have:=key parts 1 c h
  rw [flatD,List.length_cons]
  omega
/-- part.check of one part. -/
def chkD (p:PartD):Nat:=chkB (typB p.type) (p.cs == []) (tokB p.cs) (wordB p.id) (wordB p.loc) p.how p.body.length (manyB p.type) p.parts.length
def firstErr:List PartD→Nat
 | []=>0
 | q :: r=>if chkD q=0 then firstErr r else chkD q
/-- part.Check. -/
def checkD (p:PartD):Nat:=match cntD 3 p with | none=>2 | some _=>firstErr (flatD p)
theorem checkD_none (p:PartD) (h:cntD 3 p=none):checkD p=2:=by unfold checkD;rw [h]
theorem checkD_some (p:PartD) (c:Nat) (h:cntD 3 p=some c):checkD p=firstErr (flatD p):=by unfold checkD;rw [h]
section
variable {S:Nat→Prop} {w:World}
theorem PartAt.one {p:PartD} {v:List Value} (h:PartAt S w p v):∀ u∈v,u.oneCell'=true:=by
 obtain⟨t,cs,id,loc,how,body,parts⟩:=p
 obtain⟨A,n,c,A2,n2,c2,rows,rfl,_⟩:=h
 intro u hu
 simp only [List.mem_cons,List.not_mem_nil,or_false] at hu
 rcases hu with rfl | rfl | rfl | rfl | rfl | rfl | rfl <;> rfl
theorem PartsAt.one:∀ (ps:List PartD) (rows:List (List Value)),PartsAt S w ps rows→∀ u∈rows.flatten,u.oneCell'=true
 | [],_,h=>by rw [show _ = [] from h];simp
 | p :: ps,_,h=>by
  obtain⟨r,rs,rfl,h2,h3⟩:=h
  intro u hu
  rw [List.flatten_cons,List.mem_append] at hu
  rcases hu with hu | hu
  · exact h2.one u hu
  · exact PartsAt.one ps rs h3 u hu
/-- The parts of a part, as a slice. -/
theorem PartAt.open {p:PartD} {v:List Value} (h:PartAt S w p v):∃ A c A2 c2,v = [str p.type,str p.cs,str p.id,str p.loc,.int .i64 p.how,.slice A p.body.length c,.slice A2 p.parts.length c2] ∧
 (p.type.length≤maxLen∧p.cs.length≤maxLen∧p.id.length≤maxLen∧p.loc.length≤maxLen∧-9223372036854775808≤p.how∧p.how≤9223372036854775807) ∧
 SlS S w 1 A p.body.length (Lib.byteCells p.body)∧p.body.length≤c∧c≤maxLen∧SlP S w A2 p.parts.length p.parts∧p.parts.length≤c2∧c2≤maxLen:=by
 obtain⟨t,cs,id,loc,how,body,parts⟩:=p
 obtain⟨A,n,c,A2,n2,c2,rows,rfl,h1,h2,h3,h4,h5,h6,h7,h8⟩:=h
 have e1:n=body.length:=by have:=h2.1;simp [Lib.byteCells] at this;omega
 have e2:n2=parts.length:=by
  have:=SlP.len (S:=S) (w:=w) (A:=A2) (n:=n2) ⟨rows,h5,h8⟩
  exact this.symm
 subst e1
 subst e2
 exact⟨A,c,A2,c2,rfl,h1,h2,h3,h4,⟨rows,h5,h8⟩,h6,h7⟩
end
theorem type1_any (x:Nat) (w:World):Calls Tryz.prog 147 #[.int .i32 (x:Int)] w fun e w'=>e = .returned (.bool (upR x))∧w=w':=by
 go_enter Tryz.func147,Tryz.ntmps147
 go_wp2_with fail
 all_goals
  go_ret
  refine⟨congrArg (fun b=>Ending.returned (.bool b)) (?_:_=upR x),rfl⟩
  rw [Bool.eq_iff_iff]
  simp [upR]
  try omega
theorem containsUp_any (l:List UInt8) (w:World) (ha:∀ b∈l,b.toNat < 128):Calls Tryz.prog 33 #[str l,.func (.func 147) #[] #[]] w fun e w'=>e = .returned (.bool (l.any (fun b=>upR b.toNat)))∧Below w.heap.size w w':=by
 have h:=Go.Proofs.Tryz.strings_ContainsFunc_runes 147 #[] (enters_of Tryz.func147 (by kernel_rfl) rfl) upR ⟨l.toArray⟩ w
  (fun W x hx _=>(type1_any x W).mono fun e w' ⟨h1,h2⟩=>⟨h1,0,h2.symm⟩)
 rw [idxFunc_any upR l (.inr ha)] at h
 exact h
theorem cut_len (l:List UInt8) (c:UInt8):(Lib.cut l [c]).1.length≤l.length∧(Lib.cut l [c]).2.1.length≤l.length:=by
 unfold Lib.cut
 split
 · simp;omega
 · simp
theorem Type_any (l:List UInt8) (w:World) (hl:l.length≤maxLen):Calls Tryz.prog 101 #[str l] w fun e w'=>e = .returned (.bool (typB l))∧Below w.heap.size w w':=by
 have hcut:=Cut_one l 47 w hl
 have hcl:=cut_len l 47
 have hasc:=typ_ascii l
 unfold typB
 have hup:=fun W h=>containsUp_any l W h
 generalize l.any (fun b=>upR b.toNat)=up at hup ⊢
 generalize Lib.cut l [47]=x at hcut hcl hasc ⊢
 obtain⟨a,b,ok⟩:=x
 simp only at hcut hcl hasc ⊢
 have hta:=fun W=>Token_any a W (by omega)
 have htb:=fun W=>Token_any b W (by omega)
 generalize tokB a=ta at hta hasc ⊢
 generalize tokB b=tb at htb hasc ⊢
 have Hcut:=Lib.hid hcut
 have Hta:=Lib.hid hta
 have Htb:=Lib.hid htb
 have Hup:=Lib.hid hup
 have Hasc:=Lib.hid hasc
 clear hcut hta htb hup hasc hcl hl
 cases ok
 · go_enter Tryz.func101,Tryz.ntmps101
   go_wp2_with fail
   refine Hcut.out.mono ?_
   rintro e w1 ⟨rfl,q,rfl⟩
   have hb1:Below w.heap.size w (w.drewN q):=belN (Below.refl _ w) q
   generalize w.drewN q=w1 at hb1 ⊢
   go_wp2_with fail
   go_ret
   exact⟨rfl,hb1⟩
 · cases ta
   · go_enter Tryz.func101,Tryz.ntmps101
     go_wp2_with fail
     refine Hcut.out.mono ?_
     rintro e w1 ⟨rfl,q,rfl⟩
     have hb1:Below w.heap.size w (w.drewN q):=belN (Below.refl _ w) q
     generalize w.drewN q=w1 at hb1 ⊢
     go_wp2_with fail
     refine(Hta.out _).mono ?_
     rintro e w2 ⟨rfl,hb2⟩
     go_wp2_with fail
     go_ret
     exact⟨rfl,hb1.trans (hb2.mono hb1.size)⟩
   · cases tb
     · go_enter Tryz.func101,Tryz.ntmps101
       go_wp2_with fail
       refine Hcut.out.mono ?_
       rintro e w1 ⟨rfl,q,rfl⟩
       have hb1:Below w.heap.size w (w.drewN q):=belN (Below.refl _ w) q
       generalize w.drewN q=w1 at hb1 ⊢
       go_wp2_with fail
       refine(Hta.out _).mono ?_
       rintro e w2 ⟨rfl,hb2⟩
       have hbel2:=hb1.trans (hb2.mono hb1.size)
       go_wp2_with fail
       refine(Htb.out _).mono ?_
       rintro e w3 ⟨rfl,hb3⟩
       go_wp2_with fail
       go_ret
       exact⟨rfl,hbel2.trans (hb3.mono hbel2.size)⟩
     · have hu:=fun W=>Hup.out W (Hasc.out rfl rfl rfl)
       have Hu:=Lib.hid hu
       clear hu Hup Hasc
       go_enter Tryz.func101,Tryz.ntmps101
       go_wp2_with fail
       refine Hcut.out.mono ?_
       rintro e w1 ⟨rfl,q,rfl⟩
       have hb1:Below w.heap.size w (w.drewN q):=belN (Below.refl _ w) q
       generalize w.drewN q=w1 at hb1 ⊢
       go_wp2_with fail
       refine(Hta.out _).mono ?_
       rintro e w2 ⟨rfl,hb2⟩
       have hbel2:=hb1.trans (hb2.mono hb1.size)
       go_wp2_with fail
       refine(Htb.out _).mono ?_
       rintro e w3 ⟨rfl,hb3⟩
       have hbel3:=hbel2.trans (hb3.mono hbel2.size)
       go_wp2_with fail
       refine(Hu.out _).mono ?_
       rintro e w4 ⟨rfl,hb4⟩
       have hbel4:=hbel3.trans (hb4.mono hbel3.size)
       go_wp2_with fail
       go_ret
       exact⟨rfl,hbel4⟩
theorem Many_any (l:List UInt8) (w:World):Calls Tryz.prog 73 #[str l] w fun e w'=>e = .returned (.bool (manyB l))∧w=w':=by
 go_enter Tryz.func73,Tryz.ntmps73
 go_wp2_with fail
 refine(HasPrefix_any l [109,117,108,116,105,112,97,114,116,47] _).mono ?_
 rintro e w1 ⟨rfl,rfl⟩
 go_wp2_with fail
 go_ret
 exact⟨rfl,rfl⟩
theorem word1_any (x:Nat) (hx:x < 256) (w:World):Calls Tryz.prog 149 #[.int .u8 (x:Int)] w fun e w'=>e = .returned (.bool (badWord x))∧w=w':=by
 go_enter Tryz.func149,Tryz.ntmps149
 go_wp2_with fail
 all_goals
  go_ret
  refine⟨congrArg (fun b=>Ending.returned (.bool b)) (?_:_=badWord x),rfl⟩
  rw [Bool.eq_iff_iff]
  simp [badWord]
  try omega
theorem predWord (w:World):PredB 149 #[] badWord w:=fun W x hx _ =>
 (word1_any x hx W).mono fun _e _w' ⟨h1,h2⟩=>⟨h1,h2 ▸ Below.refl _ _⟩
theorem Word_any (l:List UInt8) (w:World) (hl:l.length≤maxLen):Calls Tryz.prog 103 #[str l] w fun e w'=>e = .returned (.bool (wordB l))∧Below w.heap.size w w':=by
 unfold maxLen at hl
 by_cases h30:l.length≤120
 · have e:wordB l = !l.any (fun b=>badWord b.toNat):=by simp [wordB,h30]
   rw [e]
   clear e
   obtain⟨A,c,w1,hconv,hby,hnc,hb1,hlt1⟩:=run_toBytes (P:=Tryz.prog) w 9 22 5 l Tryz.underlying9 Tryz.underlying22 Tryz.underlying5
   have hcf:=ContainsFunc_bytes 149 #[] (enters_of Tryz.func149 (by kernel_rfl) rfl) badWord A l.length c _ l w1 hby (Nat.le_refl _) (by unfold maxLen;omega) (predWord w1)
   generalize l.any (fun b=>badWord b.toNat)=r at hcf ⊢
   have Hcf:=Lib.hid hcf
   clear hcf hby
   go_enter Tryz.func103,Tryz.ntmps103
   go_wp2_with fail
   refine Hcf.out.mono ?_
   rintro e w2 ⟨rfl,hb2⟩
   go_wp2_with fail
   go_ret
   exact⟨rfl,hb1.trans (hb2.mono hb1.size)⟩
 · have e:wordB l=false:=by simp [wordB,h30]
   rw [e]
   clear e
   go_enter Tryz.func103,Tryz.ntmps103
   go_wp2_with fail
   go_ret
   exact⟨rfl,Below.refl _ _⟩
theorem ret_nat {a b:Nat} (h:a=b):Ending.returned (.int .i64 (a:Int)) = .returned (.int .i64 (b:Int)):=by rw [h]
theorem check_raw (t cs id loc:List UInt8) (how:Int) (A A2:Option Addr) (n c n2 c2:Nat) (w:World)
 (ht:t.length≤maxLen) (hcs:cs.length≤maxLen) (hid:id.length≤maxLen) (hloc:loc.length≤maxLen) (hh1:-9223372036854775808≤how) (hh2:how≤9223372036854775807) (hn:n≤maxLen) (hn2:n2≤maxLen) :
 Calls Tryz.prog 61 #[.agg #[str t,str cs,str id,str loc,.int .i64 how,.slice A n c,.slice A2 n2 c2]] w
  fun e w'=>e = .returned (.int .i64 (chkB (typB t) (cs == []) (tokB cs) (wordB id) (wordB loc) how n (manyB t) n2:Nat))∧Below w.heap.size w w':=by
 have h1:=fun W=>Type_any t W ht
 have h2:=fun W=>Token_any cs W hcs
 have h3:=fun W=>Word_any id W hid
 have h4:=fun W=>Word_any loc W hloc
 have h5:=fun W=>Many_any t W
 generalize typB t=ty at h1 ⊢
 generalize tokB cs=tk at h2 ⊢
 generalize wordB id=wi at h3 ⊢
 generalize wordB loc=wl at h4 ⊢
 generalize manyB t=m at h5 ⊢
 generalize hce:(cs == ([]:List UInt8))=ce
 have HCE:=Lib.hid hce
 clear hce
 have H1:=Lib.hid h1
 have H2:=Lib.hid h2
 have H3:=Lib.hid h3
 have H4:=Lib.hid h4
 have H5:=Lib.hid h5
 clear h1 h2 h3 h4 h5
 unfold maxLen at ht hcs hid hloc hn hn2
 have hbx:=Box7.new w 25 (str t) (str cs) (str id) (str loc) (.int .i64 how) (.slice A n c) (.slice A2 n2 c2)
 have hb0:Below w.heap.size w (w.alloc (.cells #[str t,str cs,str id,str loc,.int .i64 how,.slice A n c,.slice A2 n2 c2] 25)):=(Below.refl _ w).alloc (Nat.le_refl _) _
 go_enter Tryz.func61,Tryz.ntmps61
 go_wp2_with fail
 refine(H1.out _).mono ?_
 rintro e w1 ⟨rfl,hb1⟩
 have hbx1:=hbx.below hb1
 have hbel1:=hb0.trans (hb1.mono hb0.size)
 clear hbx hb0 hb1 H1
 have⟨x0,x1,x2,x3,x4,x5,x6⟩:=hbx1
 cases ty
 · go_wp2_with fail
   go_ret
   exact⟨ret_nat (by simp [chkB]),hbel1⟩
 · cases ce
   case' true =>
    have hce:=HCE.out
    go_wp2_with fail
    obtain⟨w2,hw2⟩:∃ w2:World,w2=w1:=⟨_,rfl⟩
    have hbx2:=hbx1
    have hbel2:=hbel1
    rw [← hw2] at hbx2 hbel2 ⊢
    clear x0 x1 x2 x3 x4 x5 x6 hw2 hbx1 hbel1 hce
   case' false =>
    have hce:=HCE.out
    go_wp2_with fail
    refine(H2.out _).mono ?_
    rintro e w2 ⟨rfl,hb2⟩
    have hbx2:=hbx1.below hb2
    have hbel2:=hbel1.trans (hb2.mono hbel1.size)
    have⟨x0,x1,x2,x3,x4,x5,x6⟩:=hbx2
    cases tk
    · go_wp2_with fail
      go_ret
      exact⟨ret_nat (by simp [chkB]),hbel2⟩
    go_wp2_with fail
    clear x0 x1 x2 x3 x4 x5 x6 hb2 hbx1 hbel1 hce
   all_goals
    refine(H3.out _).mono ?_
    rintro e w3 ⟨rfl,hb3⟩
    have hbx3:=hbx2.below hb3
    have hbel3:=hbel2.trans (hb3.mono hbel2.size)
    clear hbx2 hbel2 hb3
    have⟨x0,x1,x2,x3,x4,x5,x6⟩:=hbx3
    cases wi
    · go_wp2_with fail
      go_ret
      exact⟨ret_nat (by simp [chkB]),hbel3⟩
    · go_wp2_with fail
      clear x0 x1 x2 x3 x4 x5 x6
      refine(H4.out _).mono ?_
      rintro e w4 ⟨rfl,hb4⟩
      have hbx4:=hbx3.below hb4
      have hbel4:=hbel3.trans (hb4.mono hbel3.size)
      clear hbx3 hbel3 hb4
      have⟨x0,x1,x2,x3,x4,x5,x6⟩:=hbx4
      cases wl
      · go_wp2_with fail
        go_ret
        exact⟨ret_nat (by simp [chkB]),hbel4⟩
      · by_cases hh0:how < 0
        · have d0:decide (how < 0)=true:=by simpa using hh0
          go_wp2_with fail
          go_ret
          exact⟨ret_nat (by simp [chkB,hh0]),hbel4⟩
        · have d0:decide (how < 0)=false:=by simpa using hh0
          by_cases hh2:2 < how
          · have d2:decide (2 < how)=true:=by simpa using hh2
            go_wp2_with fail
            go_ret
            exact⟨ret_nat (by simp [chkB,hh2]),hbel4⟩
          · have d2:decide (2 < how)=false:=by simpa using hh2
            by_cases hn4:4000 < n
            · go_wp2_with fail
              go_ret
              exact⟨ret_nat (by simp [chkB,hh0,hh2,hn4]),hbel4⟩
            · go_wp2_with fail
              refine(H5.out _).mono ?_
              rintro e w5 ⟨rfl,rfl⟩
              have hce:=HCE.out
              have k0:¬ how < 0∧¬ 2 < how∧¬ 4000 < n:=by omega
              have K0:=Lib.hid k0
              clear k0 hh0 hh2
              rcases(by omega:0 < n2∨n2=0) with hn0 | rfl <;> rcases(by omega:0 < n∨n=0) with hnn | rfl <;> rcases Decidable.em (how=0) with rfl | hz <;> cases m
              all_goals
               first
               | have e0:decide ((0:Int) < n2)=true:=by simp;omega
               | have e0:True:=trivial
               first
               | have e1:decide ((0:Int) < n)=true:=by simp;omega
               | have e1:True:=trivial
               first
               | have e2:(how != 0)=true:=by simpa using hz
               | have e2:True:=trivial
               go_wp2_with fail
               go_ret
               refine⟨ret_nat ?_,hbel4⟩
               have k0:=K0.out
               simp only [chkB]
               simp [*]
def cntVal:Option Nat→Value
 | none=>.tuple #[.int .i64 0,.bool false]
 | some n=>.tuple #[.int .i64 (n:Nat),.bool true]
/-- Element i of a slice of parts, its seven cells. -/
theorem SlP.cells7 {S:Nat→Prop} {w:World} {A:Option Addr} {n:Nat} {ps:List PartD} (h:SlP S w A n ps) {i:Nat} (hi:i < n) :
 ∃ b off p A' n' c' A2' n2' c2',A=some ⟨b,off,none⟩∧S b∧ps.drop i=p :: ps.drop (i+1)∧PartAt S w p [str p.type,str p.cs,str p.id,str p.loc,.int .i64 p.how,.slice A' n' c',.slice A2' n2' c2'] ∧
  w.cell? ⟨b,off+i * 7,none⟩=some (str p.type)∧w.cell? ⟨b,off+i * 7+1,none⟩=some (str p.cs)∧w.cell? ⟨b,off+i * 7+2,none⟩=some (str p.id)∧w.cell? ⟨b,off+i * 7+3,none⟩=some (str p.loc) ∧
  w.cell? ⟨b,off+i * 7+4,none⟩=some (.int .i64 p.how)∧w.cell? ⟨b,off+i * 7+5,none⟩=some (.slice A' n' c')∧w.cell? ⟨b,off+i * 7+6,none⟩=some (.slice A2' n2' c2'):=by
 have hl:=h.len
 obtain⟨b,off,r,hA,hb,hp,hc⟩:=h.at_ hi
 have hd:=List.drop_eq_getElem_cons (l:=ps) (i:=i) (by omega)
 generalize ps[i]'(by rw [h.len];exact hi)=p at hp hd
 obtain⟨t,cs,id,loc,how,body,parts⟩:=p
 have hp2:=hp
 obtain⟨A',n',c',A2',n2',c2',rows,rfl,_⟩:=hp
 exact⟨b,off,_,A',n',c',A2',n2',c2',hA,hb,hd,hp2,hc 0 _ rfl,hc 1 _ rfl,hc 2 _ rfl,hc 3 _ rfl,hc 4 _ rfl,hc 5 _ rfl,hc 6 _ rfl⟩
def CntRel (k n2:Nat) (ps:List PartD) (R:Option Nat) (w0:World) (nv iv:Value) (wr:World):Prop:=
 ∃ i n:Nat,nv = .int .i64 (n:Nat)∧iv = .int .i64 (i:Nat)∧i≤n2∧n≤12∧Hid (cntsD k n (ps.drop i)=R)∧Below w0.heap.size w0 wr
theorem count_any (k:Nat):∀ (p:PartD) (v:List Value) (depth:Int) (w:World),k+depth=4→1≤depth→PartAt (· < w.heap.size) w p v →
 Calls Tryz.prog 60 #[.agg v.toArray,.int .i64 depth] w fun e w'=>e = .returned (cntVal (cntD k p))∧Below w.heap.size w w':=by
 induction k with
 | zero =>
  intro p v depth w hd h1 hp
  obtain⟨t,cs,id,loc,how,body,parts⟩:=p
  obtain⟨A,n,c,A2,n2,c2,rows,rfl,_⟩:=hp
  have e:cntD 0 ⟨t,cs,id,loc,how,body,parts⟩=none:=by rw [cntD]
  rw [e]
  have hd4:3 < depth:=by omega
  have hd5:depth≤4:=by omega
  clear hd e
  go_enter Tryz.func60,Tryz.ntmps60
  go_wp2_with fail
  go_ret2
  exact⟨rfl,(Below.refl _ _).alloc (Nat.le_refl _) _⟩
 | succ k ih =>
  intro p v depth w hd h1 hp
  obtain⟨t,cs,id,loc,how,body,parts⟩:=p
  obtain⟨A,n,c,A2,n2,c2,rows,rfl,_,_,_,_,hsl,hnc,hcm,hps⟩:=hp
  have hP:SlP (· < w.heap.size) w A2 n2 parts:=⟨rows,hsl,hps⟩
  have e:cntD (k+1) ⟨t,cs,id,loc,how,body,parts⟩=cntsD k 1 parts:=by rw [cntD]
  rw [e]
  obtain⟨R,hR⟩:∃ R,cntsD k 1 parts=R:=⟨_,rfl⟩
  rw [hR]
  have HR:=Lib.hid hR
  have Hih:=Lib.hid ih
  have hd3:depth≤3:=by omega
  have Hd:=Lib.hid hd
  have hn2:n2≤9223372036854775807:=by unfold maxLen at hcm;omega
  clear hsl hps e hR ih hd hcm
  go_enter Tryz.func60,Tryz.ntmps60
  go_wp2_with fail
  go_loopw [6,16] (CntRel k n2 parts R w) (fun _ iv _=>n2 - (intOf iv).toNat)
  case atStart=>exact⟨0,1,rfl,rfl,by omega,by omega,HR.out,(Below.refl _ w).alloc (Nat.le_refl _) _⟩
  case round =>
   clear HR
   obtain⟨i,m,rfl,rfl,hi,hm,hE,hbel⟩:=hrel
   by_cases hin:i < n2
   · have hPr:=hP.below hbel
     obtain⟨b,off,q,A',n',c',A2',n2',c2',rfl,hbS,hq,hqa,x0,x1,x2,x3,x4,x5,x6⟩:=hPr.cells7 hin
     have Hq:=Lib.hid hq
     clear hq hPr hP
     go_wp2_with fail
     have hqa2:=(hqa.below ((Below.refl w.heap.size wr).alloc hbel.size (.cells #[str q.type,str q.cs,str q.id,str q.loc,.int .i64 q.how,.slice A' n' c',.slice A2' n2' c2'] 25))).more (C:=(wr.alloc (.cells #[str q.type,str q.cs,str q.id,str q.loc,.int .i64 q.how,.slice A' n' c',.slice A2' n2' c2'] 25)).heap.size) (by have:=hbel.size;simp;omega)
     have hb0:=hbel.alloc hbel.size (.cells #[str q.type,str q.cs,str q.id,str q.loc,.int .i64 q.how,.slice A' n' c',.slice A2' n2' c2'] 25)
     have hc12:=cntD_le k q
     have hE2:Hid (cntNext k m (parts.drop (i+1)) (cntD k q)=R):=by
      show _=R
      rw [← hE.out,Hq.out,cntsD_cons]
     have hcl:=Hih.out q _ (depth+1) _ (by have:=Hd.out;omega) (by omega) hqa2
     generalize cntD k q=o at hcl hc12 hE2
     clear x0 x1 x2 x3 x4 x5 x6 hqa hqa2
     cases o with
     | none =>
      obtain rfl:none=R:=hE2.out
      simp only [cntVal] at hcl
      refine hcl.mono ?_
      clear hcl hE hE2 hc12
      rintro e w1 ⟨rfl,hb1⟩
      have hbel1:=hb0.trans (hb1.mono hb0.size)
      go_wp2_with fail
      go_ret2
      exact⟨rfl,hbel1⟩
     | some c =>
      obtain⟨hc1,hc2⟩:=hc12 c rfl
      simp only [cntVal] at hcl
      by_cases h12:12 < m+c
      · obtain rfl:none=R:=by have:=hE2.out;simp only [cntNext] at this;rw [if_pos h12] at this;exact this
        have d1:decide ((12:Int) < (m:Int)+c)=true:=by simp;omega
        refine hcl.mono ?_
        clear hcl hE hE2 hc12
        rintro e w1 ⟨rfl,hb1⟩
        have hbel1:=hb0.trans (hb1.mono hb0.size)
        go_wp2_with fail
        go_ret2
        exact⟨rfl,hbel1⟩
      · have hE3:Hid (cntsD k (m+c) (parts.drop (i+1))=R):=by have:=hE2.out;simp only [cntNext] at this;rw [if_neg h12] at this;exact this
        have d1:decide ((12:Int) < (m:Int)+c)=false:=by simp;omega
        refine hcl.mono ?_
        clear hcl hE hE2 hc12
        rintro e w1 ⟨rfl,hb1⟩
        have hbel1:=hb0.trans (hb1.mono hb0.size)
        go_wp2_with fail
        exact⟨⟨i+1,m+c,by go_num,by go_num,by omega,by omega,hE3,hbel1⟩,by simp [intOf];omega⟩
   · have hR:some m=R:=by rw [← hE.out,List.drop_of_length_le (by rw [hP.len];omega),cntsD]
     subst hR
     clear hE
     go_wp2_with fail
     go_ret2
     exact⟨rfl,hbel⟩
end Go.Proofs.YtlgbopjhmemaoaaGreatDoor
