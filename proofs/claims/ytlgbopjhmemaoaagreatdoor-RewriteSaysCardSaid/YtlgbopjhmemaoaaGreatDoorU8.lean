import Derived.Test.YtlgbopjhmemaoaaGreatDoorU7
import Derived.Test.YtlgbopjhmemaoaaGreatDoorU2
import Derived.Maps.Own
import Derived.Maps.Views
import Derived.StringKeys
import Derived.Test.YtlgbopjhmemaoaaGreatDoorU3
import Derived.Lib.ReplaceLaws
set_option maxRecDepth 100000
set_option maxHeartbeats 40000000
namespace Go.Proofs.YtlgbopjhmemaoaaGreatDoor
open Go.RowKit
/-- An address without what stands behind #. -/
def bareB (s:List UInt8):List UInt8:=(Lib.cut s [35]).1
theorem bare_any (s:List UInt8) (w:World) (hs:s.length≤maxLen):Calls Tryz.prog 71 #[str s] w fun e w'=>e = .returned (str (bareB s))∧∃ q,w'=w.drewN q:=by
 have K:=Lib.hid (fun X=>Cut_one s 35 X hs)
 go_enter Tryz.func71,Tryz.ntmps71
 go_wp2_with fail
 refine(K.out _).mono ?_
 rintro e w1 ⟨rfl,q,rfl⟩
 go_wp2_with fail
 go_ret
 exact⟨rfl,q,rfl⟩
def isB (t:List UInt8) (x:PartD) (h:List UInt8):Bool:=
 !(manyB x.type) && (if Lib.hasPrefix t [99,105,100,58] then !(x.id == []) && (x.id == t.drop 4) else !(x.loc == []) && (!(h == []) && (bareB h == t)))
def findF:List PartD→List (List UInt8)→List UInt8→Nat→Int
 | x :: xs,h :: hs,t,i=>if isB t x h then (i:Int) else findF xs hs t (i+1)
 | [],_,_,_=>-1
 | _ :: _,[],_,_=>-1
def findG (F:List PartD) (W:List (List UInt8)) (t:List UInt8):Int:=findF F W (bareB t) 0
theorem CutPrefix_cid (l:List UInt8) (w:World):Calls Tryz.prog 72 #[str l,.string ⟨#[99,105,100,58]⟩] w fun e w'=>e = .returned (.tuple #[str (if Lib.hasPrefix l [99,105,100,58] then l.drop 4 else l),.bool (Lib.hasPrefix l [99,105,100,58])])∧w=w':=by
 refine(Go.Proofs.Tryz.strings_CutPrefix ⟨l.toArray⟩ ⟨#[99,105,100,58]⟩ w).mono ?_
 rintro e w1 ⟨rfl,rfl⟩
 exact⟨rfl,rfl⟩
def FnRel (n:Nat) (F:List PartD) (L:List (List UInt8)) (t:List UInt8) (R:Int) (w1:World) (sv iv:Value) (wr:World):Prop:=
 ∃ i:Nat,sv = .int .i64 0∧iv = .int .i64 i∧i≤n∧Below w1.heap.size w1 wr∧Hid (findF (F.drop i) (L.drop i) t i=R)
theorem find_any (n c c2:Nat) (S1 S2:Option Addr) (F:List PartD) (L:List (List UInt8)) (t:List UInt8) (w:World) (hF:SlP (· < w.heap.size) w S1 n F) (hL:Sl w w.heap.size 1 S2 n (L.map str)) (hn:n≤1000000) (ht:t.length≤maxLen) (hLl:∀ s∈L,s.length≤605) :
 Calls Tryz.prog 32 #[.slice S1 n c,.slice S2 n c2,str t] w fun e w'=>e = .returned (.int .i64 (findG F L t))∧Below w.heap.size w w':=by
 obtain⟨R,hR⟩:∃ R,R=findG F L t:=⟨_,rfl⟩
 rw [← hR]
 unfold findG at hR
 have KB:=Lib.hid (fun X=>bare_any t X ht)
 have HR:=Lib.hid hR
 have HF:=Lib.hid hF
 have HL:=Lib.hid hL
 have HLl:=Lib.hid hLl
 have hFn:=hF.len
 have hLn:L.length=n:=by have:=hL.1;simpa using this
 have HFn:=Lib.hid hFn
 have HLn:=Lib.hid hLn
 generalize bareB t=t' at *
 have KC:=Lib.hid (fun X=>CutPrefix_cid t' X)
 clear hR hF hL hLl ht hFn hLn
 obtain⟨cid,hcid⟩:∃ cid,cid=Lib.hasPrefix t' [99,105,100,58]:=⟨_,rfl⟩
 rw [← hcid] at KC
 obtain⟨cut,hcut⟩:∃ cut,cut=(if cid then t'.drop 4 else t'):=⟨_,rfl⟩
 rw [← hcut] at KC
 have Hcid:=Lib.hid hcid
 have Hcut:=Lib.hid hcut
 clear hcid hcut
 go_enter Tryz.func32,Tryz.ntmps32
 go_wp2_with fail
 refine(KB.out _).mono ?_
 rintro e w1 ⟨rfl,q1,rfl⟩
 go_wp2_with fail
 refine(KC.out _).mono ?_
 rintro e w2 ⟨rfl,rfl⟩
 go_wp2_with fail
 go_loopw [6,20] (FnRel n F L t' R w) (fun _ iv _=>n - (intOf iv).toNat)
 case atStart=>exact⟨0,rfl,rfl,Nat.zero_le _,belN (Below.refl _ _) _,by rw [List.drop_zero,List.drop_zero];exact HR.out.symm⟩
 case round =>
  obtain⟨i,rfl,rfl,hi,hbel,HS⟩:=hrel
  by_cases hin:i < n
  · obtain⟨b,off,q,A',n',c',A2',n2',c2'',hS1,hbS,hq,hqa,y0,y1,y2,y3,y4,y5,y6⟩:=(HF.out.below hbel).cells7 hin
    subst hS1
    obtain⟨bt,offt,u,hS2,hbt,hu,hcu⟩:=HL.out.at_ hin
    subst hS2
    have hiL:i < L.length:=by rw [HLn.out];exact hin
    have hdL:=List.drop_eq_getElem_cons (l:=L) (i:=i) hiL
    rw [List.getElem?_map,List.getElem?_eq_getElem hiL] at hu
    injection hu with hu
    have hsl:=HLl.out _ (List.getElem_mem hiL)
    obtain⟨h,hh⟩:∃ h,h=L[i]:=⟨_,rfl⟩
    rw [← hh] at hdL hu hsl
    subst hu
    have hstep:(if isB t' q h then (i:Int) else findF (F.drop (i+1)) (L.drop (i+1)) t' (i+1))=R:=by
     have:=HS.out
     rw [hq,hdL,findF] at this
     exact this
    have Hstep:=Lib.hid hstep
    have KM:=Lib.hid (fun X=>Many_any q.type X)
    have KH:=Lib.hid (fun X=>bare_any h X (by unfold maxLen;omega))
    clear hstep hq hdL hh HS
    go_upto_region 6 with fail
    obtain⟨W1,hW1⟩:∃ W1,W1=wr.alloc (.cells #[str q.type,str q.cs,str q.id,str q.loc,.int .i64 q.how,.slice A' n' c',.slice A2' n2' c2''] 25):=⟨_,rfl⟩
    have hbA:Below wr.heap.size wr W1:=by rw [hW1];exact(Below.refl _ _).alloc (Nat.le_refl _) _
    have hX:=Box7.new wr 25 (str q.type) (str q.cs) (str q.id) (str q.loc) (.int .i64 q.how) (.slice A' n' c') (.slice A2' n2' c2'')
    rw [← hW1] at hX
    rw [← hW1]
    clear hW1
    have⟨x0,x1,x2,x3,x4,x5,x6⟩:=hX
    have hbel1:=hbel.trans (hbA.mono hbel.size)
    have z0:W1.cell? ⟨bt,offt+i,none⟩=some (str h):=by rw [hbel1.cell (by exact hbt)];exact hcu
    clear y0 y1 y2 y3 y4 y5 y6 hqa hcu hbel hbA hX
    have hB:isB t' q h=(!(manyB q.type) && (if cid then !(q.id == []) && (q.id == cut) else !(q.loc == []) && (!(h == []) && (bareB h == t')))):=by
     unfold isB
     rw [← Hcid.out]
     cases hcc:cid
     · rfl
     · have:=Hcut.out
       rw [hcc] at this
       rw [this]
       rfl
    have HB:=Lib.hid hB
    clear hB
    generalize manyB q.type=mm at KM HB
    generalize bareB h=bh at KH HB
    cases mm
    · cases cid
      · by_cases h1:q.loc = []
        · have d1:(q.loc == [])=true:=by rw [h1];simp
          have Hh1:=Lib.hid h1
          clear h1
          go_wp2_with fail
          refine(KM.out _).mono ?_
          rintro e wM ⟨rfl,rfl⟩
          go_wp2_with fail
          exact⟨⟨i+1,rfl,by go_num,by omega,hbel1,by refine Lib.hid ?_;have:=Hstep.out;rw [HB.out] at this;simpa [d1] using this⟩,by simp [intOf];omega⟩
        · have d1:(q.loc == [])=false:=by simpa using h1
          have Hh1:=Lib.hid h1
          clear h1
          by_cases h2:h = []
          · have d2:(h == [])=true:=by rw [h2];simp
            have Hh2:=Lib.hid h2
            clear h2
            go_wp2_with fail
            refine(KM.out _).mono ?_
            rintro e wM ⟨rfl,rfl⟩
            go_wp2_with fail
            exact⟨⟨i+1,rfl,by go_num,by omega,hbel1,by refine Lib.hid ?_;have:=Hstep.out;rw [HB.out] at this;simpa [d1,d2] using this⟩,by simp [intOf];omega⟩
          · have d2:(h == [])=false:=by simpa using h2
            have Hh2:=Lib.hid h2
            clear h2
            by_cases h3:bh=t'
            · have d3:(bh == t')=true:=by rw [h3];simp
              have Hh3:=Lib.hid h3
              clear h3
              go_wp2_with fail
              refine(KM.out _).mono ?_
              rintro e wM ⟨rfl,rfl⟩
              go_wp2_with fail
              refine(KH.out _).mono ?_
              rintro e wH ⟨rfl,q9,rfl⟩
              go_wp2_with fail
              go_ret
              have:=Hstep.out
              rw [HB.out] at this
              simp [d1,d2,d3] at this
              exact⟨by rw [← this];rfl,belN hbel1 _⟩
            · have d3:(bh == t')=false:=by simpa using h3
              have Hh3:=Lib.hid h3
              clear h3
              go_wp2_with fail
              refine(KM.out _).mono ?_
              rintro e wM ⟨rfl,rfl⟩
              go_wp2_with fail
              refine(KH.out _).mono ?_
              rintro e wH ⟨rfl,q9,rfl⟩
              go_wp2_with fail
              exact⟨⟨i+1,rfl,by go_num,by omega,belN hbel1 _,by refine Lib.hid ?_;have:=Hstep.out;rw [HB.out] at this;simpa [d1,d2,d3] using this⟩,by simp [intOf];omega⟩
      · by_cases h1:q.id = []
        · have d1:(q.id == [])=true:=by rw [h1];simp
          have Hh1:=Lib.hid h1
          clear h1
          have hdc:(q.id == cut)=(q.id == cut):=rfl
          clear hdc
          go_wp2_with fail
          refine(KM.out _).mono ?_
          rintro e wM ⟨rfl,rfl⟩
          go_wp2_with fail
          exact⟨⟨i+1,rfl,by go_num,by omega,hbel1,by refine Lib.hid ?_;have:=Hstep.out;rw [HB.out] at this;simpa [d1] using this⟩,by simp [intOf];omega⟩
        · have d1:(q.id == [])=false:=by simpa using h1
          have Hh1:=Lib.hid h1
          clear h1
          by_cases h2:q.id=cut
          · have d2:(q.id == cut)=true:=by rw [h2];simp
            have Hh2:=Lib.hid h2
            clear h2
            go_wp2_with fail
            refine(KM.out _).mono ?_
            rintro e wM ⟨rfl,rfl⟩
            go_wp2_with fail
            go_ret
            have:=Hstep.out
            rw [HB.out] at this
            simp [d1,d2] at this
            exact⟨by rw [← this];rfl,hbel1⟩
          · have d2:(q.id == cut)=false:=by simpa using h2
            have Hh2:=Lib.hid h2
            clear h2
            go_wp2_with fail
            refine(KM.out _).mono ?_
            rintro e wM ⟨rfl,rfl⟩
            go_wp2_with fail
            exact⟨⟨i+1,rfl,by go_num,by omega,hbel1,by refine Lib.hid ?_;have:=Hstep.out;rw [HB.out] at this;simpa [d1,d2] using this⟩,by simp [intOf];omega⟩
    · go_wp2_with fail
      refine(KM.out _).mono ?_
      rintro e wM ⟨rfl,rfl⟩
      go_wp2_with fail
      exact⟨⟨i+1,rfl,by go_num,by omega,hbel1,by refine Lib.hid ?_;have:=Hstep.out;rw [HB.out] at this;simpa [] using this⟩,by simp [intOf];omega⟩
  · obtain rfl:i=n:=by omega
    have hfin:=HS.out
    rw [List.drop_eq_nil_of_le (by rw [HFn.out];exact Nat.le_refl _),findF] at hfin
    have Hfin:=Lib.hid hfin
    clear hfin
    go_wp2_with fail
    go_ret
    exact⟨by rw [← Hfin.out];rfl,hbel⟩
/-- The scanner, in block s: the page, where one stands, what is out. -/
def ScanIs (w:World) (s:Nat) (v:Value) (at_:Nat) (out:Value):Prop:=w.heap[s]? = some (.cells #[v,.int .i64 (at_:Nat),out] 98 (0,0))
section
variable {w w':World} {s at_:Nat} {v out:Value}
theorem ScanIs.c0 (h:ScanIs w s v at_ out):w.cell? ⟨s,0,none⟩=some v:=by rw [Go.Joins.cell_of_block h];rfl
theorem ScanIs.c1 (h:ScanIs w s v at_ out):w.cell? ⟨s,1,none⟩=some (.int .i64 (at_:Nat)):=by rw [Go.Joins.cell_of_block h];rfl
theorem ScanIs.c2 (h:ScanIs w s v at_ out):w.cell? ⟨s,2,none⟩=some out:=by rw [Go.Joins.cell_of_block h];rfl
theorem ScanIs.fz (h:ScanIs w s v at_ out) (o:Nat):w.frozen? ⟨s,o,none⟩=false:=Go.Joins.unfrozen_of_block h o
theorem ScanIs.set1 (h:ScanIs w s v at_ out) (x:Nat):ScanIs (w.setCell ⟨s,1,none⟩ (.int .i64 (x:Nat))) s v x out:=by
 unfold ScanIs;rw [Go.Joins.block_setCell h];rfl
theorem ScanIs.set2 (h:ScanIs w s v at_ out) (x:Value):ScanIs (w.setCell ⟨s,2,none⟩ x) s v at_ x:=by
 unfold ScanIs;rw [Go.Joins.block_setCell h];rfl
theorem ScanIs.lt (h:ScanIs w s v at_ out):s < w.heap.size:=by
 rcases Nat.lt_or_ge s w.heap.size with h' | h'
 · exact h'
 · unfold ScanIs at h;rw [Array.getElem?_eq_none h'] at h;cases h
theorem ScanIs.keep (h:ScanIs w s v at_ out) (hk:w'.heap[s]? = w.heap[s]?):ScanIs w' s v at_ out:=by unfold ScanIs;rw [hk];exact h
theorem ScanIs.below (h:ScanIs w s v at_ out) (hb:Below w.heap.size w w'):ScanIs w' s v at_ out:=h.keep (hb.block s h.lt)
theorem ScanIs.drewN (h:ScanIs w s v at_ out) (n:Nat):ScanIs (w.drewN n) s v at_ out:=h
end
theorem grown_drewN {w w':World} {r:Option Nat} (h:w.grownBy w' r) (n:Nat):w.grownBy (w'.drewN n) r:=⟨h.os,h.tape,h.output,h.size,h.block⟩
theorem grown_below {w w' w2:World} {r:Option Nat} (h:w.grownBy w' r) (hb:Below w'.heap.size w' w2):w.grownBy w2 r:=
 ⟨hb.os.trans h.os,hb.tape.trans h.tape,hb.output.trans h.output,Nat.le_trans h.size hb.size,fun k hk hne=>(hb.block k (Nat.lt_of_lt_of_le hk h.size)).trans (h.block k hk hne)⟩
theorem By.grown {w w':World} {B n:Nat} {A:Option Addr} {l:List UInt8} (h:By w B A n l) {s:Nat} (hg:w.grownBy w' (some s)) (hB:B≤s) (hs:B≤w.heap.size):By w' B A n l:=
 Sl.grown h hg hs (fun g hg=>by injection hg with hg;omega)
def atOf (w:World) (s:Nat):Nat:=match w.cell? ⟨s,1,none⟩ with | some (.int _ i)=>i.toNat | _=>0
theorem scan_at {w:World} {s at_:Nat} {v out:Value} (h:ScanIs w s v at_ out):atOf w s=at_:=by
 unfold atOf;rw [h.c1];simp
theorem stopD_yes (p:Nat→Bool) (l:List UInt8) (k:Nat) (hk:k < l.length) (h:p (nth l k)=true):stopD p (l.drop k)=l.drop k:=by
 rw [List.drop_eq_getElem_cons hk]
 exact(stopD_at p _ _ (by rw [← nth_of l k hk];exact h)).1
theorem stopD_no (p:Nat→Bool) (l:List UInt8) (k:Nat) (hk:k < l.length) (h:p (nth l k)=false):stopD p (l.drop k)=stopD p (l.drop (k+1)):=by
 rw [List.drop_eq_getElem_cons hk]
 exact(stopD_pre p [l[k]] _ (by simp;rw [← nth_of l k hk];exact h)).1
/-- What a test of bytes is good for, where it turns nothing. -/
def PredQ (g:Nat) (lb:Array Value) (p:Nat→Bool) (ok:World→Prop):Prop:=
 ∀ (W:World) (x:Nat),x < 256→ok W→Calls Tryz.prog g (#[.int .u8 (x:Int)] ++ lb) W fun e w'=>e = .returned (.bool (p x))∧w'=W
def TillRel (s:Nat) (v out:Value) (n:Nat) (w:World) (p:Nat→Bool) (l:List UInt8) (R:Nat) (wr:World):Prop:=
 ∃ at_:Nat,at_≤n∧ScanIs wr s v at_ out∧w.grownBy wr (some s)∧Hid ((stopD p (l.drop at_)).length=R)
/-- Where one stands behind till. -/
def TillOut (s:Nat) (v out:Value) (R:Nat) (w:World) (e:Ending) (w':World):Prop:=e = .returned (.tuple #[])∧ScanIs w' s v R out∧w.grownBy w' (some s)
theorem till_any (g:Nat) (lb:Array Value) (eg:∀ args w,(callFunc g args).run Tryz.prog w = .ok (.enter g args) w) (p:Nat→Bool) (ok:World→Prop) (hp:PredQ g lb p ok) (s:Nat) (A:Option Addr) (n c B at_:Nat) (out:Value) (l:List UInt8) (w:World)
 (hs:ScanIs w s (.slice A n c) at_ out) (hb:By w B A n l) (hB:B≤s) (hn:n≤1000000) (hat:at_≤n) (hok:∀ W,w.grownBy W (some s)→ok W) :
 Calls Tryz.prog 63 #[.pointer (some ⟨s,0,none⟩),.func (.func g) #[] lb] w (TillOut s (.slice A n c) out (n - (stopD p (l.drop at_)).length) w):=by
 have hl:=hb.len
 obtain⟨R,hR⟩:∃ R,R=(stopD p (l.drop at_)).length:=⟨_,rfl⟩
 have hRn:R≤n - at_:=by rw [hR];have:=stopD_len p (l.drop at_);simp at this;omega
 rw [← hR]
 have HR:=Lib.hid hR
 have Hl:=Lib.hid hl
 have Hok:=Lib.hid hok
 have Hp:=Lib.hid hp
 have hsl:=hs.lt
 have Hs:=Lib.hid hs
 clear hR hl hok hp hs
 go_enter Tryz.func63,Tryz.ntmps63
 go_wp2_with fail
 go_loopw [] (fun wr=>TillRel s (.slice A n c) out n w p l R wr) (fun wr=>n - atOf wr s)
 case atStart=>exact⟨at_,by omega,Hs.out,World.grownBy.refl w _,HR.out.symm⟩
 case round =>
  obtain⟨at_,ha,hS,hg,hE⟩:=hrel
  have y0:=hS.c0
  have y1:=hS.c1
  have yf:=hS.fz 1
  have HS:=Lib.hid hS
  have Hat:=Lib.hid (scan_at hS)
  clear hS
  by_cases han:at_ < n
  · have hby:=hb.grown hg hB (by omega)
    obtain⟨b,off,rfl,hbB,hcell⟩:=hby.at_ han
    have hx:=nth_lt l at_
    have cP:=fun k=>Hp.out (wr.drewN k) (nth l at_) hx (Hok.out _ (grown_drewN hg k))
    have hal:at_ < l.length:=by rw [Hl.out];exact han
    clear hby
    by_cases hpx:p (nth l at_)=true
    · rw [hpx] at cP
      have HP:=Lib.hid cP
      have Hpx:=Lib.hid hpx
      clear cP hpx
      go_wp2_with fail
      go_quiet ((go_at_fn g;exact Calls.quiet_of_same (HP.out _)))
      go_wp2_with fail
      go_end0
      refine⟨rfl,?_,grown_drewN hg nq⟩
      have e:at_=n - R:=by
       have h:=hE.out
       rw [stopD_yes p l at_ hal Hpx.out,List.length_drop,← Hl.out.symm] at h
       have:=Hl.out
       omega
      rw [← e]
      exact HS.out.drewN nq
    · have hpf:p (nth l at_)=false:=by simpa using hpx
      rw [hpf] at cP
      have HP:=Lib.hid cP
      have Hpx:=Lib.hid hpf
      clear cP hpx hpf
      go_wp2_with fail
      go_quiet ((go_at_fn g;exact Calls.quiet_of_same (HP.out _)))
      have yz:(wr.drewN nq).cell? ⟨s,1,none⟩=some (.int .i64 (at_:Nat)):=y1
      have yz2:(wr.drewN nq).frozen? ⟨s,1,none⟩=false:=yf
      go_wp2_with fail
      refine⟨⟨at_+1,by omega,?_,?_,?_⟩,?_⟩
      · have:=(HS.out.drewN nq).set1 (at_+1)
        exact this
      · have h1:=grown_drewN hg nq
        exact⟨h1.os,h1.tape,h1.output,by simpa using h1.size,fun k hk hne=>(Below.heap_setCell _ _ _ k (fun e=>hne (by rw [e]))).trans (h1.block k hk hne)⟩
      · show _=R
        rw [← stopD_no p l at_ hal Hpx.out]
        exact hE.out
      · have h2:=scan_at ((HS.out.drewN nq).set1 (at_+1))
        have h3:=Hat.out
        show n - atOf ((wr.drewN nq).setCell ⟨s,1,none⟩ (.int .i64 ((at_:Int)+1))) s < n - atOf wr s
        rw [h3,show atOf ((wr.drewN nq).setCell ⟨s,1,none⟩ (.int .i64 ((at_:Int)+1))) s=at_+1 from h2]
        omega
  · go_wp2_with fail
    go_quiet (fail)
    go_wp2_with fail
    go_end0
    refine⟨rfl,?_,grown_drewN hg nq⟩
    have e:at_=n - R:=by
     have h:=hE.out
     rw [List.drop_of_length_le (by have:=Hl.out;omega)] at h
     have:R=0:=by rw [← h];rfl
     omega
    rw [← e]
    exact HS.out.drewN nq
theorem eqI (x k:Nat):((x:Int) == (k:Int))=(x == k):=by
 rw [Bool.eq_iff_iff,beq_iff_eq,beq_iff_eq];omega
theorem neI (x k:Nat):((x:Int) != (k:Int)) = !(x == k):=by
 rw [← eqI];rfl
theorem find1_any (x:Nat) (_hx:x < 256) (w:World):Calls Tryz.prog 64 #[.int .u8 (x:Int)] w fun e w'=>e = .returned (.bool (pIs 60 x))∧w'=w:=by
 unfold pIs
 have d60:((x:Int) == 60)=(x == 60):=eqI x 60
 generalize (x == 60)=q60 at d60 ⊢
 cases q60
 all_goals
  go_enter Tryz.func64,Tryz.ntmps64
  go_wp2_with fail
  go_ret
  exact⟨rfl,rfl⟩
theorem blanks1_any (x:Nat) (hx:x < 256) (w:World):Calls Tryz.prog 150 #[.int .u8 (x:Int)] w fun e w'=>e = .returned (.bool (pNotSp x))∧w'=w:=by
 have hs:=space_any x hx w
 unfold pNotSp
 generalize isSp x=r at hs ⊢
 have Hs:=Lib.hid hs
 clear hs
 cases r
 all_goals
  go_enter Tryz.func150,Tryz.ntmps150
  go_wp2_with fail
  refine Hs.out.mono ?_
  rintro e w1 ⟨rfl,rfl⟩
  go_wp2_with fail
  go_ret
  exact⟨rfl,rfl⟩
theorem value2_any (x:Nat) (hx:x < 256) (w:World):Calls Tryz.prog 152 #[.int .u8 (x:Int)] w fun e w'=>e = .returned (.bool (pVal x))∧w'=w:=by
 have hs:=space_any x hx w
 unfold pVal
 generalize isSp x=r at hs ⊢
 have Hs:=Lib.hid hs
 clear hs
 have d62:((x:Int) == 62)=(x == 62):=eqI x 62
 generalize (x == 62)=q62 at d62 ⊢
 cases r <;> cases q62
 all_goals
  go_enter Tryz.func152,Tryz.ntmps152
  go_wp2_with fail
  refine Hs.out.mono ?_
  rintro e w1 ⟨rfl,rfl⟩
  go_wp2_with fail
  go_ret
  exact⟨rfl,rfl⟩
theorem tag1_any (x:Nat) (hx:x < 256) (w:World):Calls Tryz.prog 105 #[.int .u8 (x:Int)] w fun e w'=>e = .returned (.bool (pName x))∧w'=w:=by
 have hs:=space_any x hx w
 unfold pName
 generalize isSp x=r at hs ⊢
 have Hs:=Lib.hid hs
 clear hs
 have d47:((x:Int) == 47)=(x == 47):=eqI x 47
 have d62:((x:Int) == 62)=(x == 62):=eqI x 62
 generalize (x == 47)=q47 at d47 ⊢
 generalize (x == 62)=q62 at d62 ⊢
 cases r <;> cases q47 <;> cases q62
 all_goals
  go_enter Tryz.func105,Tryz.ntmps105
  go_wp2_with fail
  refine Hs.out.mono ?_
  rintro e w1 ⟨rfl,rfl⟩
  go_wp2_with fail
  go_ret
  exact⟨rfl,rfl⟩
theorem tag2_any (x:Nat) (hx:x < 256) (w:World):Calls Tryz.prog 107 #[.int .u8 (x:Int)] w fun e w'=>e = .returned (.bool (pAttr x))∧w'=w:=by
 have hs:=space_any x hx w
 unfold pAttr
 generalize isSp x=r at hs ⊢
 have Hs:=Lib.hid hs
 clear hs
 have d47:((x:Int) == 47)=(x == 47):=eqI x 47
 have n47:((x:Int) != 47) = !(x == 47):=neI x 47
 have e47:(x != 47) = !(x == 47):=rfl
 rw [e47]
 clear e47
 generalize (x == 47)=q47 at d47 n47 ⊢
 cases r <;> cases q47
 all_goals
  go_enter Tryz.func107,Tryz.ntmps107
  go_wp2_with fail
  refine Hs.out.mono ?_
  rintro e w1 ⟨rfl,rfl⟩
  go_wp2_with fail
  go_ret
  exact⟨rfl,rfl⟩
theorem tag3_any (x:Nat) (hx:x < 256) (w:World):Calls Tryz.prog 108 #[.int .u8 (x:Int)] w fun e w'=>e = .returned (.bool (pEq x))∧w'=w:=by
 have hs:=space_any x hx w
 unfold pEq
 generalize isSp x=r at hs ⊢
 have Hs:=Lib.hid hs
 clear hs
 have d47:((x:Int) == 47)=(x == 47):=eqI x 47
 have d62:((x:Int) == 62)=(x == 62):=eqI x 62
 have d61:((x:Int) == 61)=(x == 61):=eqI x 61
 generalize (x == 47)=q47 at d47 ⊢
 generalize (x == 62)=q62 at d62 ⊢
 generalize (x == 61)=q61 at d61 ⊢
 cases r <;> cases q47 <;> cases q62 <;> cases q61
 all_goals
  go_enter Tryz.func108,Tryz.ntmps108
  go_wp2_with fail
  refine Hs.out.mono ?_
  rintro e w1 ⟨rfl,rfl⟩
  go_wp2_with fail
  go_ret
  exact⟨rfl,rfl⟩
theorem value1_any (q b x:Nat) (w:World) (hq:w.cell? ⟨b,0,none⟩=some (.int .u8 (q:Int))):Calls Tryz.prog 151 #[.int .u8 (x:Int),.pointer (some ⟨b,0,none⟩)] w fun e w'=>e = .returned (.bool (pIs q x))∧w'=w:=by
 unfold pIs
 have d:((x:Int) == (q:Int))=(x == q):=eqI x q
 generalize (x == q)=r at d ⊢
 go_enter Tryz.func151,Tryz.ntmps151
 go_wp2_with fail
 go_ret
 exact⟨rfl,rfl⟩
theorem predFind:PredQ 64 #[] (pIs 60) (fun _=>True):=fun W x hx _=>find1_any x hx W
theorem predBlank:PredQ 150 #[] pNotSp (fun _=>True):=fun W x hx _=>blanks1_any x hx W
theorem predVal:PredQ 152 #[] pVal (fun _=>True):=fun W x hx _=>value2_any x hx W
theorem predName:PredQ 105 #[] pName (fun _=>True):=fun W x hx _=>tag1_any x hx W
theorem predAttr:PredQ 107 #[] pAttr (fun _=>True):=fun W x hx _=>tag2_any x hx W
theorem predEq:PredQ 108 #[] pEq (fun _=>True):=fun W x hx _=>tag3_any x hx W
theorem predQuote (q b:Nat):PredQ 151 #[.pointer (some ⟨b,0,none⟩)] (pIs q) (fun W=>W.cell? ⟨b,0,none⟩=some (.int .u8 (q:Int))):=fun W x _ h=>value1_any q b x W h
theorem suffix_drop {r l:List UInt8} (h:r <:+ l):l.drop (l.length - r.length)=r:=by
 obtain⟨x,rfl⟩:=h
 have:(x ++ r).length - r.length=x.length:=by simp
 rw [this,List.drop_left]
theorem grown_tr {a b c:World} {s:Nat} (h:a.grownBy b (some s)) (k:b.grownBy c (some s)):a.grownBy c (some s):=
 ⟨k.os.trans h.os,k.tape.trans h.tape,k.output.trans h.output,Nat.le_trans h.size k.size,fun j hj hne=>(k.block j (Nat.lt_of_lt_of_le hj h.size) hne).trans (h.block j hj hne)⟩
theorem till_rest (g:Nat) (lb:Array Value) (eg:∀ args w,(callFunc g args).run Tryz.prog w = .ok (.enter g args) w) (p:Nat→Bool) (ok:World→Prop) (hp:PredQ g lb p ok) (s:Nat) (A:Option Addr) (n c B:Nat) (out:Value) (l r:List UInt8) (w:World)
 (hs:ScanIs w s (.slice A n c) (n - r.length) out) (hr:r <:+ l) (hb:By w B A n l) (hB:B≤s) (hn:n≤1000000) (hok:∀ W,w.grownBy W (some s)→ok W) :
 Calls Tryz.prog 63 #[.pointer (some ⟨s,0,none⟩),.func (.func g) #[] lb] w (TillOut s (.slice A n c) out (n - (stopD p r).length) w):=by
 have h:=till_any g lb eg p ok hp s A n c B (n - r.length) out l w hs hb hB hn (Nat.sub_le _ _) hok
 rw [← hb.len,suffix_drop hr,hb.len] at h
 exact h
theorem blanks_any (s:Nat) (A:Option Addr) (n c B:Nat) (out:Value) (l r:List UInt8) (w:World)
 (hs:ScanIs w s (.slice A n c) (n - r.length) out) (hr:r <:+ l) (hb:By w B A n l) (hB:B≤s) (hn:n≤1000000) :
 Calls Tryz.prog 110 #[.pointer (some ⟨s,0,none⟩)] w (TillOut s (.slice A n c) out (n - (stopD pNotSp r).length) w):=by
 have h:=till_rest 150 #[] (enters_of Tryz.func150 (by kernel_rfl) rfl) pNotSp _ predBlank s A n c B out l r w hs hr hb hB hn (fun _ _=>trivial)
 have H:=Lib.hid h
 clear h hs
 go_enter Tryz.func110,Tryz.ntmps110
 go_wp2_with fail
 refine H.out.mono ?_
 rintro e w1 ⟨rfl,h1,h2⟩
 go_wp2_with fail
 go_end0
 exact⟨rfl,h1,h2⟩
/-- Where one stands, and what stands there. -/
theorem By.rest {w:World} {B n:Nat} {A:Option Addr} {l:List UInt8} (h:By w B A n l) {c0:UInt8} {r:List UInt8} (hr:c0 :: r <:+ l) :
 n - (c0 :: r).length < n∧nth l (n - (c0 :: r).length)=c0.toNat∧n - r.length=n - (c0 :: r).length+1:=by
 have hl:=h.len
 have hle:=hr.length_le
 have hd:=suffix_drop hr
 rw [hl] at hd hle
 simp only [List.length_cons] at hle ⊢
 refine⟨by omega,?_,by omega⟩
 have:=nth_drop l (n - (r.length+1)) 0
 simp only [Nat.add_zero] at this
 rw [← this]
 simp only [List.length_cons] at hd
 rw [hd]
 rfl
def ValOut (s:Nat) (v out:Value) (n:Nat) (r:List UInt8) (w:World) (e:Ending) (w':World):Prop:=
 e = .returned (.tuple #[.int .i64 ((n - (valueR r).1.length:Nat):Int),.int .i64 ((n - (valueR r).2.1.length:Nat):Int)])∧ScanIs w' s v (n - (valueR r).2.2.length) out∧w.grownBy w' (some s)
theorem valueR_nil' {t:List UInt8} (h:stopD pNotSp t = []):valueR t=([],[],[]):=by unfold valueR;rw [h]
theorem valueR_quo {r:List UInt8} {c:UInt8} {r2:List UInt8} (h:stopD pNotSp r=c :: r2) (hc:c=34∨c=39):valueR r=(r2,stopD (pIs c.toNat) r2,(stopD (pIs c.toNat) r2).drop 1):=by
 show(match stopD pNotSp r with | []=>_ | c :: r2=>_)=_
 rw [h]
 exact if_pos hc
theorem valueR_bare {r:List UInt8} {c:UInt8} {r2:List UInt8} (h:stopD pNotSp r=c :: r2) (hc:¬ (c=34∨c=39)):valueR r=(c :: r2,stopD pVal (c :: r2),stopD pVal (c :: r2)):=by
 show(match stopD pNotSp r with | []=>_ | c :: r2=>_)=_
 rw [h]
 exact if_neg hc
theorem by_new {w:World} {b off n:Nat} {l:List UInt8} {B:Nat} (h:By w B (some ⟨b,off,none⟩) n l) (k:Nat) (hk:k < n):w.cell? ⟨b,off+k,none⟩=some (.int .u8 (nth l k)):=by
 obtain⟨b',off',hA,_,hc⟩:=h.opn (by omega)
 injection hA with hA
 injection hA with h1 h2 _
 subst h1;subst h2
 exact hc k hk
theorem value_any (s:Nat) (A:Option Addr) (n c B:Nat) (out:Value) (l r:List UInt8) (w:World)
 (hs:ScanIs w s (.slice A n c) (n - r.length) out) (hr:r <:+ l) (hb:By w B A n l) (hB:B≤s) (hn:n≤1000000) :
 Calls Tryz.prog 111 #[.pointer (some ⟨s,0,none⟩)] w (ValOut s (.slice A n c) out n r w):=by
 have hbl:=blanks_any s A n c B out l r w hs hr hb hB hn
 have hsB:B≤w.heap.size:=by have:=hs.lt;omega
 have Hbl:=Lib.hid hbl
 clear hbl hs
 have hr1:stopD pNotSp r <:+ l:=(stopD_suffix pNotSp r).trans hr
 rcases hd:stopD pNotSp r with _ | ⟨c0,r2⟩
 · unfold ValOut
   rw [valueR_nil' hd]
   rw [hd] at Hbl
   simp only [List.length_nil,Nat.sub_zero] at Hbl ⊢
   have Hd:=Lib.hid hd
   clear hd
   go_enter Tryz.func111,Tryz.ntmps111
   go_wp2_with fail
   refine Hbl.out.mono ?_
   clear Hbl
   rintro e w1 ⟨rfl,hS1,hg1⟩
   have y0:=hS1.c0
   have y1:=hS1.c1
   have HS1:=Lib.hid hS1
   clear hS1
   go_wp2_with fail
   go_quiet (fail)
   have hS2:ScanIs (w1.drewN nq) s (.slice A n c) (n - ([]:List UInt8).length) out:=HS1.out.drewN nq
   have y0':=hS2.c0
   have y1':=hS2.c1
   have hb2:By (w1.drewN nq) B A n l:=hb.grown (grown_drewN hg1 nq) hB hsB
   have ht:=till_rest 152 #[] (enters_of Tryz.func152 (by kernel_rfl) rfl) pVal _ predVal s A n c B out l [] (w1.drewN nq) hS2 (List.nil_suffix) hb2 hB hn (fun _ _=>trivial)
   have Ht:=Lib.hid ht
   clear ht hS2 hb2 y0 y1
   go_wp2_with fail
   refine Ht.out.mono ?_
   clear Ht
   rintro e w2 ⟨rfl,hS3,hg3⟩
   have z1:=hS3.c1
   have HS3:=Lib.hid hS3
   clear hS3
   go_wp2_with fail
   go_quiet (fail)
   go_wp2_with fail
   go_ret2
   exact⟨rfl,HS3.out.drewN _,grown_tr (grown_drewN hg1 _) (grown_drewN hg3 _)⟩
 · rw [hd] at hr1 Hbl
   obtain⟨f1,f2,f3⟩:=hb.rest hr1
   obtain⟨a1,ha1⟩:∃ a1,a1=n - (c0 :: r2).length:=⟨_,rfl⟩
   rw [← ha1] at f1 f2 f3 Hbl
   obtain⟨q,hq⟩:∃ q,q=c0.toNat:=⟨_,rfl⟩
   rw [← hq] at f2
   have hq256:q < 256:=by rw [hq];exact c0.toNat_lt
   have Ha1:=Lib.hid ha1
   have F2:=Lib.hid f2
   have F3:=Lib.hid f3
   have Hq:=Lib.hid hq
   clear ha1 f2 f3 hq
   by_cases hc:c0=34∨c0=39
   · unfold ValOut
     rw [valueR_quo hd hc]
     have Hd:=Lib.hid hd
     clear hd
     go_enter Tryz.func111,Tryz.ntmps111
     go_wp2_with fail
     refine Hbl.out.mono ?_
     clear Hbl
     rintro e w1 ⟨rfl,hS1,hg1⟩
     have y0:=hS1.c0
     have y1:=hS1.c1
     have HS1:=Lib.hid hS1
     have hb1:=hb.grown hg1 hB hsB
     obtain⟨b,off,rfl,hbB,-⟩:=hb1.opn (by omega)
     have hcell:=by_new hb1 a1 f1
     rw [F2.out] at hcell
     have Hb1:=Lib.hid hb1
     clear hS1 hb1
     go_wp2_with fail
     have dd:((q:Int) == 34)=true∨(((q:Int) == 34)=false∧((q:Int) == 39)=true):=by
      rcases hc with rfl | rfl
      · left;rw [Hq.out];rfl
      · right;rw [Hq.out];exact⟨rfl,rfl⟩
     rcases dd with d34 | ⟨d34,d39⟩
     case' inl=>go_quiet (fail)
     case' inr=>go_quiet (fail)
     all_goals
      have hS2:ScanIs (w1.drewN nq) s (.slice (some ⟨b,off,none⟩) n c) a1 out:=HS1.out.drewN nq
      have y0':=hS2.c0
      have y1':=hS2.c1
      have hcell':(w1.drewN nq).cell? ⟨b,off+a1,none⟩=some (.int .u8 (q:Int)):=hcell
      have l1:s < w1.heap.size:=HS1.out.lt
      have l2:b < w1.heap.size:=by omega
      have hall:=fun(p:Addr) (hp:p.block < w1.heap.size)=>World.cell?_alloc_lt (w1.drewN (nq+1)) (.cells #[.int .u8 0] 5) p hp
      have z0:=(hall ⟨s,0,none⟩ l1).trans y0
      have z1:=(hall ⟨s,1,none⟩ l1).trans y1
      have zb:=(hall ⟨b,off+a1,none⟩ l2).trans hcell
      have hnew:((w1.drewN (nq+1)).alloc (.cells #[.int .u8 0] 5)).heap[w1.heap.size]? = some (.cells #[.int .u8 0] 5):=heap_alloc_new (w1.drewN (nq+1)) _
      have zn:((w1.drewN (nq+1)).alloc (.cells #[.int .u8 0] 5)).cell? ⟨w1.heap.size,0,none⟩=some (.int .u8 0):=by rw [Go.Joins.cell_of_block hnew];rfl
      have zf:=Go.Joins.unfrozen_of_block hnew 0
      have hW2:∃ W2:World,W2=((w1.drewN (nq+1)).alloc (.cells #[.int .u8 0] 5)).setCell ⟨w1.heap.size,0,none⟩ (.int .u8 (q:Int)):=⟨_,rfl⟩
      obtain⟨W2,hW2⟩:=hW2
      have hS3:ScanIs W2 s (.slice (some ⟨b,off,none⟩) n c) a1 out:=by
       rw [hW2]
       refine hS2.keep ?_
       rw [Below.heap_setCell _ _ _ s (by show s≠w1.heap.size;omega)]
       exact Lib.alloc_old _ _ _ l1
      have hg2:w1.grownBy W2 (some s):=by
       rw [hW2]
       refine⟨rfl,rfl,rfl,by simp,fun k hk _=>?_⟩
       rw [Below.heap_setCell _ _ _ k (by show k≠w1.heap.size;omega)]
       exact Lib.alloc_old _ _ _ hk
      have hqc:W2.cell? ⟨w1.heap.size,0,none⟩=some (.int .u8 (q:Int)):=by
       rw [hW2]
       exact World.cell?_setCell_same _ _ _ zn
      have hqs:W2.heap.size=w1.heap.size+1:=by rw [hW2];simp
      clear hall hnew
      go_wp2_with fail
      go_region
      rw [← hW2]
      clear hW2 z0 z1 zb zn zf y0 y1 hcell y0' y1' hcell' hS2
      have hgW:w.grownBy W2 (some s):=grown_tr hg1 hg2
      obtain⟨qb,hqb⟩:∃ qb,qb=w1.heap.size:=⟨_,rfl⟩
      rw [← hqb] at hqc hqs l1 ⊢
      have hS4:ScanIs (W2.setCell ⟨s,1,none⟩ (.int .i64 ((a1:Int)+1))) s (.slice (some ⟨b,off,none⟩) n c) (a1+1) out:=hS3.set1 (a1+1)
      have hg4:=grown_set W2 s 1 (.int .i64 ((a1:Int)+1))
      have hgW4:=grown_tr hgW hg4
      have hb4:By (W2.setCell ⟨s,1,none⟩ (.int .i64 ((a1:Int)+1))) B (some ⟨b,off,none⟩) n l:=hb.grown hgW4 hB hsB
      have hr2:r2 <:+ l:=(List.suffix_cons c0 r2).trans hr1
      have ht:=till_rest 151 #[.pointer (some ⟨qb,0,none⟩)] (enters_of Tryz.func151 (by kernel_rfl) rfl) (pIs q) _ (predQuote q qb) s (some ⟨b,off,none⟩) n c B out l r2 (W2.setCell ⟨s,1,none⟩ (.int .i64 ((a1:Int)+1))) (by rw [F3.out];exact hS4) hr2 hb4 hB hn
       (fun W hW=>by
         rw [World.cell?_of_block (hW.block qb (by simp;omega) (by intro e;injection e with e;omega))]
         rw [World.cell?_of_block (Below.heap_setCell W2 ⟨s,1,none⟩ _ qb (by show qb≠s;omega))]
         exact hqc)
      have x0:=hS3.c0
      have x1:=hS3.c1
      have xf:=hS3.fz 1
      have x1':=hS4.c1
      have hd2:=stopD_len (pIs q) r2
      obtain⟨D,hD⟩:∃ D,D=stopD (pIs q) r2:=⟨_,rfl⟩
      rw [← hD] at ht hd2
      have hle2:r2.length+1≤n:=by have:=hr1.length_le;rw [hb.len] at this;simpa using this
      obtain⟨a2,ha2⟩:∃ a2,a2=n - D.length:=⟨_,rfl⟩
      rw [← ha2] at ht
      have Ht:=Lib.hid ht
      have HD:=Lib.hid hD
      have Hg:=Lib.hid hgW4
      clear hS3 hS4 hg2 hgW hgW4 hg4 hb4 ht hD hqb hg1 hqc
      go_wp2_with fail
      refine Ht.out.mono ?_
      clear Ht
      rintro e w4 ⟨rfl,hS5,hg5⟩
      have u0:=hS5.c0
      have u1:=hS5.c1
      have uf:=hS5.fz 1
      have HS5:=Lib.hid hS5
      clear hS5 x0 x1 xf x1'
      go_wp2_with fail
      have ha2n:a2≤n:=by omega
      have i1:IntKind.i64.wrap ((a2:Int)+1)=(a2:Int)+1:=IntWalk.i64_in _ (by omega)
      have Ha2:=Lib.hid ha2
      clear ha2
      go_region
      clear i1
      go_wp2_with fail
      go_ret2
      have HD':stopD (pIs c0.toNat) r2=D:=by rw [HD.out,Hq.out]
      rw [HD']
      refine⟨?_,?_,?_⟩
      · rw [F3.out]
        rfl
      · have h5:=(HS5.out.set1 (n - (D.drop 1).length))
        have e:((n - (D.drop 1).length:Nat):Int)=min ((a2:Int)+1) n:=by
         rw [Ha2.out,List.length_drop]
         omega
        rw [e] at h5
        exact h5
      · exact grown_tr (grown_tr Hg.out hg5) (grown_drewN (grown_set w4 s 1 _) 1)
   · have hdv:valueR r=(c0 :: r2,stopD pVal (c0 :: r2),stopD pVal (c0 :: r2)):=valueR_bare hd hc
     unfold ValOut
     rw [hdv]
     simp only
     have d34:((q:Int) == 34)=false:=by
      rw [beq_eq_false_iff_ne];intro e
      have:c0.toNat=34:=by rw [← Hq.out];omega
      exact hc (.inl (UInt8.toNat_inj.1 this))
     have d39:((q:Int) == 39)=false:=by
      rw [beq_eq_false_iff_ne];intro e
      have:c0.toNat=39:=by rw [← Hq.out];omega
      exact hc (.inr (UInt8.toNat_inj.1 this))
     obtain⟨E,hE⟩:∃ E,E=stopD pVal (c0 :: r2):=⟨_,rfl⟩
     rw [← hE,← Ha1.out]
     have HE:=Lib.hid hE
     clear hd hdv hE hc
     go_enter Tryz.func111,Tryz.ntmps111
     go_wp2_with fail
     refine Hbl.out.mono ?_
     clear Hbl
     rintro e w1 ⟨rfl,hS1,hg1⟩
     have y0:=hS1.c0
     have y1:=hS1.c1
     have HS1:=Lib.hid hS1
     have hb1:=hb.grown hg1 hB hsB
     obtain⟨b,off,rfl,hbB,-⟩:=hb1.opn (by omega)
     have hcell:=by_new hb1 a1 f1
     rw [F2.out] at hcell
     have Hb1:=Lib.hid hb1
     clear hS1 hb1
     go_wp2_with fail
     go_quiet (fail)
     have hS2:ScanIs (w1.drewN nq) s (.slice (some ⟨b,off,none⟩) n c) (n - (c0 :: r2).length) out:=by rw [← Ha1.out];exact HS1.out.drewN nq
     have hb2:By (w1.drewN nq) B (some ⟨b,off,none⟩) n l:=hb.grown (grown_drewN hg1 nq) hB hsB
     have ht:=till_rest 152 #[] (enters_of Tryz.func152 (by kernel_rfl) rfl) pVal _ predVal s (some ⟨b,off,none⟩) n c B out l (c0 :: r2) (w1.drewN nq) hS2 hr1 hb2 hB hn (fun _ _=>trivial)
     rw [← HE.out] at ht
     have Ht:=Lib.hid ht
     clear ht hS2 hb2
     go_wp2_with fail
     refine Ht.out.mono ?_
     clear Ht
     rintro e w2 ⟨rfl,hS3,hg3⟩
     have z1:=hS3.c1
     have HS3:=Lib.hid hS3
     clear hS3
     go_wp2_with fail
     go_quiet (fail)
     go_wp2_with fail
     go_ret2
     exact⟨rfl,HS3.out.drewN _,grown_tr (grown_drewN hg1 _) (grown_drewN hg3 _)⟩
end Go.Proofs.YtlgbopjhmemaoaaGreatDoor
namespace Go.Proofs.YtlgbopjhmemaoaaGreatDoor
open Go.RowKit Go.Maps Go.WideMaps
theorem lawStr:Keyed Tryz.prog 9:=string_keyed Tryz.underlying9
theorem zeroBool (w:World):(zeroValue 4).run Tryz.prog w = .ok (.bool false) w:=by kernel_rfl
theorem plainElem_bool_inv {H:Type} {P:Program} {e:TypeId} (he:P.underlying e=some .bool) {v:Value} {z:DataW H × List MemPlace} (h:plainElem P e v=some z):∃ x,v = .bool x∧z=(.lit (.bool x),[]):=by
 unfold plainElem at h
 rw [he] at h
 cases v <;> simp at h
 exact⟨_,rfl,h.symm⟩
/-- A map of the call's own, in block b: which names have been there. -/
def SeenIs (w:World) (b:Nat) (seen:List (List UInt8)):Prop:=
 ∃ (n:Nat) (D:DataW Unit),n≤seen.length∧w.ownsMap Tryz.prog 9 (plainElem Tryz.prog 4) b n D∧IsMap D∧∀ k,D.atKey (.string k) (.lit (.bool false)) = .lit (.bool (seen.contains k))
theorem SeenIs.made (w:World):SeenIs (w.alloc (.map #[] 0)) w.heap.size []:=
 ⟨0,.map [],Nat.le_refl _,World.ownsMap_made w _ _ _,isMap_empty,fun _k=>rfl⟩
section
variable {w w':World} {b:Nat} {seen:List (List UInt8)}
theorem SeenIs.lt (h:SeenIs w b seen):b < w.heap.size:=by obtain⟨n,D,_,h,_⟩:=h;exact h.lt
theorem SeenIs.kept {row:Option Nat} (h:SeenIs w b seen) (hg:w.grownBy w' row) (hne:some b≠row):SeenIs w' b seen:=by
 obtain⟨n,D,h1,h2,h3⟩:=h
 exact⟨n,D,h1,h2.kept hg hne,h3⟩
theorem SeenIs.below (h:SeenIs w b seen) (hb:Below w.heap.size w w'):SeenIs w' b seen:=
 h.kept (row:=none) ⟨hb.os,hb.tape,hb.output,hb.size,fun k hk _=>hb.block k hk⟩ (by simp)
theorem SeenIs.drewN (h:SeenIs w b seen) (n:Nat):SeenIs (w.drewN n) b seen:=h
theorem SeenIs.look (h:SeenIs w b seen) (k:List UInt8) (hk:k.length≤maxLen):(Instr.lookup 133 (.map (some b)) (str k) false).run Tryz.prog w = .ok (.bool (seen.contains k)) w:=by
 obtain⟨n,D,h1,h2,h3,h4⟩:=h
 obtain⟨v,ps,hrun,hv⟩:=h2.lookup lawStr Tryz.underlying133 (zeroBool w) (plainElem_bool Tryz.underlying4 false) (keyOf_string_mk Tryz.underlying9 (s:=⟨k.toArray⟩) (by simpa [ByteArray.size] using hk))
 obtain⟨x,rfl,hx⟩:=plainElem_bool_inv Tryz.underlying4 hv
 simp only [Prod.mk.injEq] at hx
 have:=h4 k
 rw [this] at hx
 have e:seen.contains k=x:=Lit.bool.inj (DataW.lit.inj hx.1)
 rw [e]
 exact hrun
theorem SeenIs.put (h:SeenIs w b seen) (k:List UInt8) (hk:k.length≤maxLen) (hs:seen.length < maxLen) :
 ∃ w',(Instr.mapUpdate 133 (.map (some b)) (str k) (.bool true)).run Tryz.prog w = .ok () w'∧SeenIs w' b (k :: seen)∧w.grownBy w' (some b):=by
 obtain⟨n,D,h1,h2,h3,h4⟩:=h
 obtain⟨w',hrun,hown,hg⟩:=h2.update lawStr Tryz.underlying133 (by omega) (keyOf_string_mk Tryz.underlying9 (s:=⟨k.toArray⟩) (by simpa [ByteArray.size] using hk)) (plainElem_bool Tryz.underlying4 true)
 refine⟨w',hrun,⟨n+1,_,by simpa using h1,hown,h3.put _ _,fun k'=>?_⟩,hg⟩
 by_cases e:k'=k
 · subst e
   rw [show(⟨k'.toArray⟩:ByteArray).data.toList=k' from rfl,atKey_put_same h3 (by trivial),List.contains_cons,beq_self_eq_true,Bool.true_or]
 · rw [show(⟨k.toArray⟩:ByteArray).data.toList=k from rfl,atKey_put_other (by intro e2;injection e2 with e2;exact e e2),h4]
   have e2:(k' == k)=false:=by simpa using e
   rw [List.contains_cons,e2,Bool.false_or]
end
end Go.Proofs.YtlgbopjhmemaoaaGreatDoor
namespace Go.Proofs.YtlgbopjhmemaoaaGreatDoor
abbrev Pcs:=List UInt8 × List (List UInt8 × List UInt8)
def weaveL:List (List UInt8 × List UInt8)→List (List UInt8)→List UInt8
 | x :: l,t :: ts=>t ++ (x.2 ++ weaveL l ts)
 | _,_=>[]
def weave (P:Pcs) (ts:List (List UInt8)):List UInt8:=P.1 ++ weaveL P.2 ts
def prep (x:List UInt8) (P:Pcs):Pcs:=(x ++ P.1,P.2)
def vals (P:Pcs):List (List UInt8):=P.2.map (·.1)
def substL:List (List UInt8 × List UInt8)→List (List UInt8)→List (List UInt8 × List UInt8)
 | x :: l,t :: ts=>(t,x.2) :: substL l ts
 | _,_=>[]
def subst (P:Pcs) (ts:List (List UInt8)):Pcs:=(P.1,substL P.2 ts)
/-- What may stand in the place of a value. -/
def goodT (t:List UInt8):Prop:=t≠[]∧∀ b∈t,isSp b.toNat=false∧b≠62∧b≠34∧b≠39
def okT (v t:List UInt8):Prop:=t=v∨goodT t
inductive OkTs:List (List UInt8 × List UInt8)→List (List UInt8)→Prop
 | nil:OkTs [] []
 | cons {x:List UInt8 × List UInt8} {l:List (List UInt8 × List UInt8)} {t:List UInt8} {ts:List (List UInt8)}:okT x.1 t→OkTs l ts→OkTs (x :: l) (t :: ts)
theorem OkTs.len {l:List (List UInt8 × List UInt8)} {ts:List (List UInt8)} (h:OkTs l ts):ts.length=l.length:=by
 induction h with
 | nil=>rfl
 | cons _ _ ih=>simp [ih]
/-- A value: raw text ahead, the value, raw text behind it, what is left. -/
def valP (r:List UInt8):List UInt8 × List UInt8 × List UInt8 × List UInt8:=
 match stopD pNotSp r with
 | []=>(r,[],[],[])
 | c :: r2=>if c=34∨c=39 then (stopT pNotSp r ++ [c],stopT (pIs c.toNat) r2,(stopD (pIs c.toNat) r2).take 1,(stopD (pIs c.toNat) r2).drop 1) else (stopT pNotSp r,stopT pVal (c :: r2),[],stopD pVal (c :: r2))
def attrsP:Nat→List UInt8→List (List UInt8)→Option (Pcs × List UInt8)
 | 0,_,_=>none
 | f+1,r,seen =>
  match stopD pAttr r with
  | []=>none
  | c :: r2 =>
   if c=62 then some ((stopT pAttr r ++ [62],[]),r2)
   else if (stopD pNotSp (stopD pEq r2)).head? = some 61 then
    (attrsP f (valP (stopD pNotSp (stopD pEq r2)).tail).2.2.2 (lowL (c :: stopT pEq r2) :: seen)).map fun q =>
      (if leadsB (lowL (c :: stopT pEq r2)) && !seen.contains (lowL (c :: stopT pEq r2)) then
        (stopT pAttr r ++ (c :: stopT pEq r2) ++ stopT pNotSp (stopD pEq r2) ++ [61] ++ (valP (stopD pNotSp (stopD pEq r2)).tail).1,
          ((valP (stopD pNotSp (stopD pEq r2)).tail).2.1,(valP (stopD pNotSp (stopD pEq r2)).tail).2.2.1 ++ q.1.1) :: q.1.2)
      else prep (stopT pAttr r ++ (c :: stopT pEq r2) ++ stopT pNotSp (stopD pEq r2) ++ [61] ++ (valP (stopD pNotSp (stopD pEq r2)).tail).1 ++ (valP (stopD pNotSp (stopD pEq r2)).tail).2.1 ++ (valP (stopD pNotSp (stopD pEq r2)).tail).2.2.1) q.1,q.2)
   else (attrsP f (stopD pEq r2) (lowL (c :: stopT pEq r2) :: seen)).map fun q=>(prep (stopT pAttr r ++ (c :: stopT pEq r2)) q.1,q.2)
theorem valP_app (r:List UInt8):r=(valP r).1 ++ (valP r).2.1 ++ (valP r).2.2.1 ++ (valP r).2.2.2:=by
 unfold valP
 have h0:=stop_app pNotSp r
 split
 · simp
 · rename_i c r2 hc
   rw [hc] at h0
   split
   · have h1:=stop_app (pIs c.toNat) r2
     simp only [List.append_assoc,List.take_append_drop,List.cons_append,List.nil_append]
     rw [h1,h0]
   · have h1:=stop_app pVal (c :: r2)
     simp only [List.append_nil,List.append_assoc]
     rw [h1,h0]
theorem valP_nil {r:List UInt8} (h:stopD pNotSp r = []):valP r=(r,[],[],[]):=by unfold valP;rw [h]
theorem valP_cons {r:List UInt8} {c:UInt8} {r2:List UInt8} (h:stopD pNotSp r=c :: r2):valP r=if c=34∨c=39 then (stopT pNotSp r ++ [c],stopT (pIs c.toNat) r2,(stopD (pIs c.toNat) r2).take 1,(stopD (pIs c.toNat) r2).drop 1) else (stopT pNotSp r,stopT pVal (c :: r2),[],stopD pVal (c :: r2)):=by
 show(match stopD pNotSp r with | []=>_ | c :: r2=>_)=_
 rw [h]
theorem weave_prep (x:List UInt8) (P:Pcs) (ts:List (List UInt8)):weave (prep x P) ts=x ++ weave P ts:=by simp [weave,prep]
theorem vals_prep (x:List UInt8) (P:Pcs):vals (prep x P)=vals P:=rfl
/-- The parts of a tag are what it is made of; it begins with what is no blank alone; where a link is, three bytes stand ahead. -/
theorem attrsP_app:∀ (f:Nat) (r:List UInt8) (seen:List (List UInt8)) (P:Pcs) (r':List UInt8),attrsP f r seen=some (P,r') →
 r=weave P (vals P) ++ r'∧stopD pNotSp P.1≠[]∧(P.2≠[]→3≤P.1.length):=by
 intro f
 induction f with
 | zero=>intro r seen P r' h;cases h
 | succ f ih =>
  intro r seen P r' h
  unfold attrsP at h
  have h0:=stop_app pAttr r
  have hnon:∀ (x y:List UInt8) (c:UInt8),pAttr c.toNat=true→stopD pNotSp (x ++ c :: y)≠[]:=by
   intro x y c hc e
   have h1:pNotSp c.toNat=true:=by
    simp only [pNotSp,pAttr,Bool.and_eq_true] at hc ⊢
    exact hc.1
   have h2:=stop_app pNotSp (x ++ c :: y)
   rw [e,List.append_nil] at h2
   have h3:=stopT_not pNotSp (x ++ c :: y) c (by rw [h2];simp)
   rw [h1] at h3
   cases h3
  split at h
  · cases h
  · rename_i c r2 hc
    rw [hc] at h0
    have hcA:=stopD_head pAttr r c r2 hc
    have h1:=stop_app pEq r2
    split at h
    · rename_i h62
      injection h with h
      injection h with h2 h3
      subst h2 h3 h62
      refine⟨h0.symm.trans (by simp [weave,weaveL]),hnon _ _ _ hcA,fun h=>absurd rfl h⟩
    · split at h
      · rename_i h61
        obtain⟨q,hq,h⟩:=Option.map_eq_some_iff.1 h
        obtain⟨Q,z⟩:=q
        injection h with h2 h3
        obtain⟨ih1,ih2,ih3⟩:=ih _ _ Q z hq
        simp only at h2 h3
        subst h3
        have h4:=stop_app pNotSp (stopD pEq r2)
        have h5:stopD pNotSp (stopD pEq r2)=61 :: (stopD pNotSp (stopD pEq r2)).tail:=by
         cases hd:stopD pNotSp (stopD pEq r2) with
         | nil=>rw [hd] at h61;cases h61
         | cons d x=>rw [hd] at h61;simp at h61;rw [h61];rfl
        rw [h5] at h4
        have h6:=valP_app (stopD pNotSp (stopD pEq r2)).tail
        rw [ih1] at h6
        have hwhole:r=stopT pAttr r ++ (c :: stopT pEq r2) ++ stopT pNotSp (stopD pEq r2) ++ [61] ++ (valP (stopD pNotSp (stopD pEq r2)).tail).1 ++ (valP (stopD pNotSp (stopD pEq r2)).tail).2.1 ++ (valP (stopD pNotSp (stopD pEq r2)).tail).2.2.1 ++ (weave Q (vals Q) ++ z):=by
         simp only [List.append_assoc,List.cons_append,List.nil_append] at h6 ⊢
         rw [← h6,h4,h1,h0]
        split at h2
        · rename_i hl
          subst h2
          refine⟨?_,?_,fun _=>?_⟩
          · refine hwhole.trans ?_
            simp [weave,weaveL,vals,List.append_assoc]
          · simp only [List.append_assoc,List.cons_append]
            exact hnon _ _ _ hcA
          · simp only [Bool.and_eq_true] at hl
            have hn:=hl.1
            have:3≤(lowL (c :: stopT pEq r2)).length:=by
             unfold leadsB at hn
             simp only [Bool.or_eq_true,beq_iff_eq] at hn
             rcases hn with e | e <;> rw [e] <;> decide
            unfold lowL at this
            rw [List.length_map] at this
            simp only [List.length_append,List.length_cons] at this ⊢
            omega
        · subst h2
          refine⟨?_,?_,fun h=>?_⟩
          · refine hwhole.trans ?_
            rw [weave_prep,vals_prep]
            simp only [List.append_assoc]
          · unfold prep
            simp only [List.append_assoc,List.cons_append]
            exact hnon _ _ _ hcA
          · have:=ih3 h
            unfold prep
            simp only [List.length_append]
            omega
      · obtain⟨q,hq,h⟩:=Option.map_eq_some_iff.1 h
        obtain⟨Q,z⟩:=q
        injection h with h2 h3
        obtain⟨ih1,ih2,ih3⟩:=ih _ _ Q z hq
        simp only at h2 h3
        subst h2 h3
        refine⟨?_,?_,fun h=>?_⟩
        · rw [weave_prep,vals_prep,List.append_assoc,← ih1,List.append_assoc,List.cons_append,h1,h0]
        · unfold prep
          simp only [List.append_assoc,List.cons_append]
          exact hnon _ _ _ hcA
        · have:=ih3 h
          unfold prep
          simp only [List.length_append]
          omega
end Go.Proofs.YtlgbopjhmemaoaaGreatDoor
namespace Go.Proofs.YtlgbopjhmemaoaaGreatDoor
theorem valP_len (r:List UInt8):(valP r).2.2.2.length≤r.length:=by
 have:=congrArg List.length (valP_app r)
 simp only [List.length_append] at this
 omega
def catL:List UInt8→List (List UInt8 × List UInt8)→Pcs→Pcs
 | p,[],Q=>prep p Q
 | p,x :: l,Q=>(p,(x.1,(catL x.2 l Q).1) :: (catL x.2 l Q).2)
def catP (P Q:Pcs):Pcs:=catL P.1 P.2 Q
def raw (x:List UInt8):Pcs:=(x,[])
theorem catL_weave:∀ (l:List (List UInt8 × List UInt8)) (p:List UInt8) (Q:Pcs) (ts us:List (List UInt8)),ts.length=l.length→weave (catL p l Q) (ts ++ us)=p ++ weaveL l ts ++ weave Q us
 | [],p,Q,[],us,_=>by simp [catL,weave,prep,weaveL]
 | [],_,_,t :: ts,_,h=>by simp at h
 | x :: l,_,_,[],_,h=>by simp at h
 | x :: l,p,Q,t :: ts,us,h=>by
  have:=catL_weave l x.2 Q ts us (by simpa using h)
  simp only [catL,List.cons_append]
  unfold weave at this ⊢
  simp only [weaveL,List.append_assoc] at this ⊢
  rw [this]
theorem catP_weave (P Q:Pcs) (ts us:List (List UInt8)) (h:ts.length=P.2.length):weave (catP P Q) (ts ++ us)=weave P ts ++ weave Q us:=catL_weave P.2 P.1 Q ts us h
theorem catL_2:∀ (l:List (List UInt8 × List UInt8)) (p:List UInt8) (Q:Pcs),(catL p l Q).2.map (·.1)=l.map (·.1) ++ Q.2.map (·.1)
 | [],_,_=>rfl
 | x :: l,_,Q=>by simp [catL,catL_2 l x.2 Q]
theorem catP_vals (P Q:Pcs):vals (catP P Q)=vals P ++ vals Q:=catL_2 P.2 P.1 Q
theorem OkTs.split:∀ (l:List (List UInt8 × List UInt8)) (p:List UInt8) (Q:Pcs) (ts:List (List UInt8)),OkTs (catL p l Q).2 ts→∃ t1 t2,ts=t1 ++ t2∧OkTs l t1∧OkTs Q.2 t2
 | [],_,_,ts,h=>⟨[],ts,rfl,.nil,h⟩
 | x :: l,_,Q,_,h=>by
  cases h with
  | cons ht h =>
   rename_i t ts
   obtain⟨t1,t2,rfl,h1,h2⟩:=OkTs.split l x.2 Q ts h
   exact⟨t :: t1,t2,rfl,.cons ht h1,h2⟩
def tagP (r:List UInt8) (shut:Bool):Pcs × List UInt8:=
 match attrsP ((stopD pName r).length+1) (stopD pName r) [] with
 | none=>(raw r,[])
 | some (P,r')=>if shut then (raw (stopT pName r ++ weave P (vals P)),r') else (prep (stopT pName r) P,r')
def pastP (t r:List UInt8):List UInt8:=r.take (r.length - (pastL t r).length)
def stepP (r:List UInt8):Pcs × List UInt8:=
 if Lib.hasPrefix r [60,33,45,45] then (raw (r.take 4 ++ pastP [45,45,62] (r.drop 4)),pastL [45,45,62] (r.drop 4))
 else if Lib.hasPrefix r [60,33] || Lib.hasPrefix r [60,63] then (raw (pastP [62] r),pastL [62] r)
 else if decide (1 < r.length) && isLet (nth r 1) then (prep (r.take 1) (tagP (r.drop 1) false).1,(tagP (r.drop 1) false).2)
 else if decide (2 < r.length) && nth r 1 == 47 && isLet (nth r 2) then (prep (r.take 2) (tagP (r.drop 2) true).1,(tagP (r.drop 2) true).2)
 else (raw (r.take 1),r.drop 1)
def findP:Nat→List UInt8→Option Pcs
 | 0,r=>if r = [] then some (raw []) else none
 | f+1,r=>if r = [] then some (raw []) else (findP f (stepP (stopD (pIs 60) r)).2).map fun Q=>prep (stopT (pIs 60) r) (catP (stepP (stopD (pIs 60) r)).1 Q)
theorem pastL_suffix (t r:List UInt8):pastL t r <:+ r:=by
 unfold pastL
 split
 · exact List.nil_suffix
 · exact List.drop_suffix _ _
theorem pastP_app (t r:List UInt8):pastP t r ++ pastL t r=r:=by
 obtain⟨x,hx⟩:=pastL_suffix t r
 unfold pastP
 have:r.length - (pastL t r).length=x.length:=by have:=congrArg List.length hx;simp at this;omega
 rw [this]
 conv=>lhs;arg 1;rw [← hx]
 rw [List.take_left]
 exact hx
theorem tagP_app (r:List UInt8) (shut:Bool):r=weave (tagP r shut).1 (vals (tagP r shut).1) ++ (tagP r shut).2:=by
 unfold tagP
 rcases h:attrsP ((stopD pName r).length+1) (stopD pName r) [] with _ | ⟨P,r'⟩
 · simp [raw,weave,weaveL,vals]
 · obtain⟨h1,_,_⟩:=attrsP_app _ _ _ P r' h
   have h0:=stop_app pName r
   simp only
   rcases shut with _ | _
   · show r=weave (prep _ P) (vals (prep _ P)) ++ r'
     rw [weave_prep,vals_prep,List.append_assoc,← h1,h0]
   · show r=weave (raw _) (vals (raw _)) ++ r'
     simp only [raw,weave,weaveL,vals,List.map_nil,List.append_nil,List.append_assoc]
     have h1':stopD pName r=P.1 ++ (weaveL P.2 (P.2.map (·.1)) ++ r'):=by rw [h1];simp [weave,vals]
     rw [← h1',h0]
theorem stepP_app (r:List UInt8):r=weave (stepP r).1 (vals (stepP r).1) ++ (stepP r).2:=by
 unfold stepP
 split
 · simp only [raw,weave,weaveL,vals,List.map_nil,List.append_nil,List.append_assoc,pastP_app,List.take_append_drop]
 · split
   · simp only [raw,weave,weaveL,vals,List.map_nil,List.append_nil,pastP_app]
   · split
     · have:=tagP_app (r.drop 1) false
       simp only [weave_prep,vals_prep,List.append_assoc]
       rw [← this,List.take_append_drop]
     · split
       · have:=tagP_app (r.drop 2) true
         simp only [weave_prep,vals_prep,List.append_assoc]
         rw [← this,List.take_append_drop]
       · simp only [raw,weave,weaveL,vals,List.map_nil,List.append_nil,List.take_append_drop]
theorem findP_app:∀ (f:Nat) (r:List UInt8) (P:Pcs),findP f r=some P→r=weave P (vals P):=by
 intro f
 induction f with
 | zero =>
  intro r P h
  unfold findP at h
  split at h
  · rename_i e;injection h with h;subst h e;rfl
  · cases h
 | succ f ih =>
  intro r P h
  unfold findP at h
  split at h
  · rename_i e;injection h with h;subst h e;rfl
  · obtain⟨Q,hQ,rfl⟩:=Option.map_eq_some_iff.1 h
    have h1:=stepP_app (stopD (pIs 60) r)
    have h2:=ih _ Q hQ
    have h0:=stop_app (pIs 60) r
    rw [weave_prep,vals_prep,catP_vals,catP_weave _ _ _ _ (by simp [vals]),← h2,← h1,h0]
end Go.Proofs.YtlgbopjhmemaoaaGreatDoor
namespace Go.Proofs.YtlgbopjhmemaoaaGreatDoor
theorem index_keep (t r W:List UInt8) (k:Nat) (h:Lib.index r t=k) (ht:t≠[]):Lib.index (r.take (k+t.length) ++ W) t=k∧k+t.length≤r.length:=by
 have hocc:Lib.occAt r t k=true∧(∀ j,j < k→Lib.occAt r t j=false)∧k+t.length≤r.length:=by
  have hk:=Lib.index_le r t
  rw [h] at hk
  by_cases ho:∃ j,j≤r.length∧Lib.occAt r t j=true
  · obtain⟨j0,hj0,ho0⟩:=ho
    -- the first one
    have hfirst:∃ j,j≤r.length∧Lib.occAt r t j=true∧∀ i,i < j→Lib.occAt r t i=false:=by
     induction j0 using Nat.strongRecOn with
     | _ j0 ih =>
      by_cases he:∃ i,i < j0∧Lib.occAt r t i=true
      · obtain⟨i,hi,hoi⟩:=he
        exact ih i hi (by omega) hoi
      · refine⟨j0,hj0,ho0,fun i hi=>?_⟩
        cases hb:Lib.occAt r t i with
        | false=>rfl
        | true=>exact absurd ⟨i,hi,hb⟩ he
    obtain⟨j,hj,hoj,hno⟩:=hfirst
    have:=Lib.index_first hj hoj hno
    rw [h] at this
    have hjk:j=k:=by omega
    subst hjk
    refine⟨hoj,hno,?_⟩
    rcases Lib.occAt_room hoj with h' | h'
    · exact h'
    · exact absurd h' ht
  · have:=Lib.index_none (s:=r) (sub:=t) (fun j hj=>by
     cases hb:Lib.occAt r t j with
     | false=>rfl
     | true=>exact absurd ⟨j,hj,hb⟩ ho)
    rw [h] at this
    omega
 obtain⟨h1,h2,h3⟩:=hocc
 refine⟨?_,h3⟩
 have e:∀ j,j≤k→Lib.occAt (r.take (k+t.length) ++ W) t j=Lib.occAt r t j:=by
  intro j hj
  rw [Lib.occAt_iff_take r t j (by omega),Lib.occAt_iff_take _ t j (by simp;omega)]
  congr 1
  rw [List.drop_append_of_le_length (by simp;omega),List.take_append_of_le_length (by simp;omega),List.drop_take,List.take_take,Nat.min_eq_left (by omega)]
 exact Lib.index_first (by simp;omega) (by rw [e k (Nat.le_refl _)];exact h1) (fun j hj=>by rw [e j (by omega)];exact h2 j hj)
theorem tagP_none {r:List UInt8} (shut:Bool) (h:attrsP ((stopD pName r).length+1) (stopD pName r) []=none):tagP r shut=(raw r,[]):=by unfold tagP;rw [h]
theorem tagP_open {r:List UInt8} {P:Pcs} {r':List UInt8} (h:attrsP ((stopD pName r).length+1) (stopD pName r) []=some (P,r')):tagP r false=(prep (stopT pName r) P,r'):=by
 unfold tagP;rw [h];rfl
theorem tagP_shut {r:List UInt8} {P:Pcs} {r':List UInt8} (h:attrsP ((stopD pName r).length+1) (stopD pName r) []=some (P,r')):tagP r true=(raw (stopT pName r ++ weave P (vals P)),r'):=by
 unfold tagP;rw [h];rfl
end Go.Proofs.YtlgbopjhmemaoaaGreatDoor
namespace Go.Proofs.YtlgbopjhmemaoaaGreatDoor
open Go.RowKit
theorem cut_u8 (w:World) (A:Option Addr) (n c:Nat) (ki:IntKind) (k:Int) (h0:0≤k) (h1:k≤n) :
 (Instr.slice 22 (.slice A n c) (some (.int ki k)) none none).run Tryz.prog w = .ok (.slice (cutA A c k.toNat 1) (n - k.toNat) (c - k.toNat)) w:=
 run_cut w 22 5 1 Tryz.underlying22 (Tryz.sizeOf5 w) A n c ki k h0 h1
theorem mid_u8 (w:World) (A:Option Addr) (n c:Nat) (ki kj:IntKind) (i j:Int) (h0:0≤i) (h1:i≤j) (h2:j≤n) (hc:n≤c) :
 (Instr.slice 22 (.slice A n c) (some (.int ki i)) (some (.int kj j)) none).run Tryz.prog w = .ok (.slice (cutA A c i.toNat 1) (j.toNat - i.toNat) (c - i.toNat)) w:=
 run_mid w 22 5 1 Tryz.underlying22 (Tryz.sizeOf5 w) A n c ki kj i j h0 h1 h2 hc
attribute [local go_sem high] cut_u8 mid_u8
theorem countB_le (l t:List UInt8) (h:1≤t.length):Lib.countB ⟨l.toArray⟩ ⟨t.toArray⟩≤l.length:=by
 have h1:=Lib.countB_mul_le ⟨t.toArray⟩ (by simpa [ByteArray.size] using h) l.length ⟨l.toArray⟩ (by simp [ByteArray.size])
 have h2:(⟨l.toArray⟩:ByteArray).size=l.length:=by simp [ByteArray.size]
 have h3:(⟨t.toArray⟩:ByteArray).size=t.length:=by simp [ByteArray.size]
 rw [h2,h3] at h1
 exact Nat.le_trans (Nat.le_mul_of_pos_right _ h) h1
theorem unamp_any (v:List UInt8) (w:World) (hM:MaxLenOk w) (hl:v.length≤1000000) :
 Calls Tryz.prog 113 #[str v,.string ⟨#[38,97,109,112,59]⟩,.string ⟨#[38]⟩] w fun e w'=>e = .returned (str (unamp v))∧Below w.heap.size w w':=by
 obtain⟨m,hm⟩:=hM
 have h2:(⟨v.toArray⟩:ByteArray).size=v.length:=by simp [ByteArray.size]
 refine Go.Proofs.Tryz.strings_ReplaceAll ⟨v.toArray⟩ ⟨#[38,97,109,112,59]⟩ ⟨#[38]⟩ m w (by rw [h2];omega) hm (by decide) ?_
 have:=countB_le v [38,97,109,112,59] (by decide)
 rw [h2]
 show v.length+Lib.countB ⟨v.toArray⟩ ⟨#[38,97,109,112,59]⟩ * 1≤_
 omega
/-- A page's bytes, cut. -/
theorem By.cutR {w:World} {B n c:Nat} {A:Option Addr} {l r:List UInt8} (h:By w B A n l) (hr:r <:+ l) (hc:n≤c):By w B (cutA A c (n - r.length) 1) (n - (n - r.length)) r:=by
 have:=h.cut (k:=n - r.length) (Nat.sub_le _ _) hc
 rw [← h.len,suffix_drop hr,h.len] at this
 exact this
theorem By.midR {w:World} {B n c:Nat} {A:Option Addr} {l r x y:List UInt8} (h:By w B A n l) (hr:r <:+ l) (hc:n≤c) (hx:r=x ++ y):By w B (cutA A c (n - r.length) 1) (n - y.length - (n - r.length)) x:=by
 have h1:=h.cutR hr hc
 have hl:=h.len
 have hle:=hr.length_le
 have hlen:r.length=x.length+y.length:=by rw [hx];simp
 have h2:=h1.upto (k:=n - y.length - (n - r.length)) (by omega)
 have e:n - y.length - (n - r.length)=x.length:=by omega
 rw [e] at h2 ⊢
 rw [hx,List.take_left] at h2
 rw [hx]
 exact h2
theorem past_any (t:List UInt8) (s:Nat) (A:Option Addr) (n c B:Nat) (out:Value) (l r:List UInt8) (w:World) (hM:MaxLenOk w) (ht:t.length≤100)
 (hs:ScanIs w s (.slice A n c) (n - r.length) out) (hr:r <:+ l) (hb:By w B A n l) (_hB:B≤s) (hn:n≤1000000) (hc:n≤c) :
 Calls Tryz.prog 65 #[.pointer (some ⟨s,0,none⟩),.string ⟨t.toArray⟩] w (TillOut s (.slice A n c) out (n - (pastL t r).length) w):=by
 have hl:=hb.len
 have hle:=hr.length_le
 have hcut:=hb.cutR hr hc
 obtain⟨a1,ha1⟩:∃ a1,a1=n - r.length:=⟨_,rfl⟩
 rw [← ha1] at hs hcut
 have hts:=fun k=>run_toStr (P:=Tryz.prog) (w.drewN k) 22 9 5 _ (cutA A c a1 1) (n - a1) (c - a1) r hcut Tryz.underlying22 Tryz.underlying5 Tryz.underlying9
 have hix:=fun k=>Index_any r t (w.drewN k) (hM.drewN k) (by omega)
 have hige:=Lib.index_ge r t
 have hile:=Lib.index_le r t
 have ha1n:a1≤n:=by omega
 have y0:=hs.c0
 have y1:=hs.c1
 have yf:=hs.fz 1
 have Hs:=Lib.hid hs
 have Ha1:=Lib.hid ha1
 by_cases h0:Lib.index r t < 0
 · have hp:pastL t r = []:=by unfold pastL;rw [if_pos h0]
   rw [hp]
   have hneg:Lib.index r t = -1:=by omega
   rw [hneg] at hix
   have Hix:=Lib.hid hix
   clear hp h0 hix hige hile hneg hs ha1 hl
   go_enter Tryz.func65,Tryz.ntmps65
   go_wp2_with fail
   go_quiet ((go_at_call 76;exact Calls.quiet_of_same (Hix.out _)))
   have y0':=(Hs.out.drewN nq).c0
   have y1':=(Hs.out.drewN nq).c1
   have yf':=(Hs.out.drewN nq).fz 1
   go_wp2_with fail
   go_end0
   exact⟨rfl,by simpa using (Hs.out.drewN nq).set1 n,grown_tr (grown_drewN (World.grownBy.refl w _) nq) (grown_set _ s 1 _)⟩
 · obtain⟨k,hk⟩:=Int.eq_ofNat_of_zero_le (show 0≤Lib.index r t by omega)
   have hp:pastL t r=r.drop (k+t.length):=by unfold pastL;rw [if_neg h0,hk];rfl
   rw [hk] at hix hile
   have hroom:t≠[]→k+t.length≤r.length:=fun h=>(index_keep t r [] k hk h).2
   have hkt:k+t.length≤r.length:=by
    rcases Nat.eq_zero_or_pos t.length with h | h
    · omega
    · exact hroom (by intro e;rw [e] at h;simp at h)
   have hp2:n - (pastL t r).length=a1+(k+t.length):=by rw [hp,List.length_drop];omega
   rw [hp2]
   have hbd:a1+(k+t.length)≤n:=by omega
   have Hix:=Lib.hid hix
   clear hp hp2 h0 hix hige hile hk hroom hs ha1 hl
   go_enter Tryz.func65,Tryz.ntmps65
   go_wp2_with fail
   go_quiet ((go_at_call 76;exact Calls.quiet_of_same (Hix.out _)))
   have y0':=(Hs.out.drewN nq).c0
   have y1':=(Hs.out.drewN nq).c1
   have yf':=(Hs.out.drewN nq).fz 1
   go_wp2_with fail
   go_end0
   have h:=(Hs.out.drewN nq).set1 (a1+(k+t.length))
   exact⟨rfl,by simpa using h,grown_tr (grown_drewN (World.grownBy.refl w _) nq) (grown_set _ s 1 _)⟩
end Go.Proofs.YtlgbopjhmemaoaaGreatDoor
