import Derived.Test.YtlgbopjhmemaoaaGreatDoorU19
import Derived.Test.YtlgbopjhmemaoaaGreatDoorU12
import Derived.BigQuiet
import Derived.Test.YtlgbopjhmemaoaaGreatDoorU23
import Derived.Test.YtlgbopjhmemaoaaGreatDoorU24
import Derived.Test.YtlgbopjhmemaoaaGreatDoorU11
import Derived.Test.YtlgbopjhmemaoaaGreatDoorU14
import Derived.Test.YtlgbopjhmemaoaaGreatDoorU10
import Derived.Test.YtlgbopjhmemaoaaGreatDoorU1
import Derived.Shelf.Abstract
set_option maxRecDepth 100000
set_option maxHeartbeats 40000000
namespace Go.Proofs.YtlgbopjhmemaoaaGreatDoor
open Go.RowKit
def nmS:List UInt8:=[97,98,99,100,101,102,103,104,105,106,107,108,109,110,111,112,113,114,115,116,117,118,119,120,121,122,48,49,50,51,52,53,54,55,56,57,46]
theorem nm_set:∀ x:Fin 256,nmS.contains (UInt8.ofNat x.val) = !(badN x.val):=by decide +kernel
theorem nm_high {x:Nat} (h:badN x=false):x≤122:=by
 unfold badN at h
 rcases Nat.lt_or_ge 122 x with h1 | h1
 · have h2:decide (122 < x)=true:=decide_eq_true h1
   have h3:decide (57 < x)=true:=decide_eq_true (by omega)
   have h4:(x != 46)=true:=by simp;omega
   rw [h2,h3,h4] at h
   simp at h
 · exact h1
theorem nm_all (l:List UInt8):(Lib.trimS l nmS == []) = !(l.any fun b=>badN b.toNat):=by
 rw [trim_all,List.all_eq_not_any_not]
 congr 2
 funext b
 have:=nm_set ⟨b.toNat,b.toNat_lt⟩
 rw [ofNat_toNat8] at this
 rw [this,Bool.not_not]
theorem nameB_R (l:List UInt8) (h0:l≠[]):nameB l=(decide (l.length≤30) && ((Lib.trimS l nmS == []) && decide (97≤nth l 0))):=by
 rw [nm_all]
 unfold nameB
 have e0:(l == [])=false:=by simpa using h0
 rw [e0]
 cases hb:(l.any fun b=>badN b.toNat)
 · have h1:nth l 0≤122:=by
    cases l with
    | nil=>exact absurd rfl h0
    | cons a l =>
     rw [nth_cons_zero]
     refine nm_high ?_
     have:=List.any_eq_false.1 hb a (by simp)
     simpa using this
   rw [decide_eq_true h1]
   cases decide (l.length≤30) <;> cases decide (97≤nth l 0) <;> rfl
 · cases decide (l.length≤30) <;> cases decide (97≤nth l 0) <;> cases decide (nth l 0≤122) <;> rfl
theorem Trim_nm (l:List UInt8) (w:World) (hl:l.length≤maxLen):Calls Tryz.prog 25 #[str l,.string ⟨#[97,98,99,100,101,102,103,104,105,106,107,108,109,110,111,112,113,114,115,116,117,118,119,120,121,122,48,49,50,51,52,53,54,55,56,57,46]⟩] w fun e w'=>e = .returned (str (Lib.trimS l nmS))∧Below w.heap.size w w':=
 Any.strings_Trim_laid Go.Proofs.Tryz.lays160 (by kernel_rfl) ⟨l.toArray⟩ ⟨nmS.toArray⟩ w (by unfold maxLen at hl;simpa [ByteArray.size] using hl) (by decide) (ascii_of_all (by decide))
theorem RCheckNames_any (A:Option Addr) (n c:Nat) (ns:List NameD) (parts:Int) (w:World) (h:Sl w w.heap.size 2 A n (nameC ns)) (hn:n≤c) (hc:c≤maxLen) (hok:NamesOk ns) :
 Calls Tryz.prog 8 #[.slice A n c,.int .i64 parts] w fun e w'=>e = .returned (.int .i64 (namesF parts [] ns:Nat))∧Below w.heap.size w w':=by
 unfold maxLen at hc
 have hl:ns.length=n:=by have:=h.1;rw [nameC_len] at this;omega
 obtain⟨R,hR⟩:∃ R,R=namesF parts [] ns:=⟨_,rfl⟩
 rw [← hR]
 have H:=Lib.hid h
 have HR:=Lib.hid hR
 have Hl:=Lib.hid hl
 have Hok:=Lib.hid hok
 clear h hR hl hok
 go_enter Tryz.func8,Tryz.ntmps8
 go_wp2_with fail
 go_loopw [10] (CkRel n ns parts R w) (fun iv _=>n - (intOf iv).toNat)
 case atStart=>exact⟨0,rfl,Nat.zero_le _,Below.refl _ _,Lib.hid (by rw [List.drop_zero,List.take_zero];exact HR.out.symm)⟩
 case round =>
  obtain⟨i,rfl,hi,hbel,HS⟩:=hrel
  by_cases hin:i < n
  · obtain⟨b,off,x,rfl,hb,hd,x0,x1⟩:=(Sl.below H.out hbel).name i hin
    have hxm:x∈ns:=List.mem_of_mem_drop (by rw [hd];simp)
    have hxk:=Hok.out x hxm
    have hs:=HS.out
    have htk:ns.take i ++ [x]=ns.take (i+1):=by
     have:=congrArg (fun l=>l[0]?) hd
     simp at this
     rw [List.take_add_one,this]
     rfl
    rw [hd,namesF,htk] at hs
    have Hs:=Lib.hid hs
    obtain⟨W1,hW1⟩:∃ W1,W1=wr.alloc (.cells #[.int .i64 x.part,str x.name] 57):=⟨_,rfl⟩
    have hb1:Below wr.heap.size wr W1:=by rw [hW1];exact(Below.refl _ _).alloc (Nat.le_refl _) _
    have hnb:W1.heap[wr.heap.size]? = some (.cells #[.int .i64 x.part,str x.name] 57):=by rw [hW1];exact heap_alloc_new wr _
    have hbel1:=hbel.trans (hb1.mono hbel.size)
    have c0:W1.cell? ⟨wr.heap.size,0,none⟩=some (.int .i64 x.part):=by unfold World.cell?;rw [hnb];rfl
    have c1:W1.cell? ⟨wr.heap.size,1,none⟩=some (str x.name):=by unfold World.cell?;rw [hnb];rfl
    have hlt1:wr.heap.size < W1.heap.size:=by rw [hW1];simp
    have hT:=fun W=>Trim_nm x.name W hxk.1
    have hnR:=fun h0=>nameB_R x.name h0
    obtain⟨hx1,hx2,hx3⟩:=hxk
    have hxl:x.name.length≤9223372036854775807:=by unfold maxLen at hx1;omega
    clear hs hd htk hxm hx1 hnb
    go_upto_region 4 with fail
    rw [← hW1]
    clear hW1 x0 x1
    generalize Lib.trimS x.name nmS=tm at hT hnR
    have HT:=Lib.hid hT
    have HnR:=Lib.hid hnR
    clear hT hnR
    by_cases hp0:x.part < 0
    · have d0:decide (x.part < 0)=true:=by simpa using hp0
      have hs:=Hs.out
      rw [if_pos (Or.inl hp0)] at hs
      subst hs
      go_wp2_with fail
      go_ret
      exact⟨rfl,hbel1⟩
    · have d0:decide (x.part < 0)=false:=by simpa using hp0
      by_cases hp1:parts≤x.part
      · have d1:decide (parts≤x.part)=true:=by simpa using hp1
        have hs:=Hs.out
        rw [if_pos (Or.inr hp1)] at hs
        subst hs
        go_wp2_with fail
        go_ret
        exact⟨rfl,hbel1⟩
      · have d1:decide (parts≤x.part)=false:=by simpa using hp1
        have hs:=Hs.out
        rw [if_neg (by rintro(h | h);exact hp0 h;exact hp1 h)] at hs
        have Hs2:=Lib.hid hs
        clear hs Hs
        by_cases h0:x.name = []
        · have hs:=Hs2.out
          rw [h0,if_pos (show nameB []=false from rfl)] at hs
          subst hs
          have e1:decide ((x.name.length:Int) < 1)=true:=by rw [h0];rfl
          have H0:=Lib.hid h0
          clear h0
          go_wp2_with fail
          go_ret
          exact⟨rfl,hbel1⟩
        · have hpos:0 < x.name.length:=List.length_pos_iff.2 h0
          have hpos':(0:Int) < x.name.length:=by omega
          have hnb:=HnR.out h0
          have e1:decide ((x.name.length:Int) < 1)=false:=by simp;omega
          clear h0
          by_cases h30:x.name.length≤30
          · rw [decide_eq_true h30,Bool.true_and] at hnb
            have e30:decide (30 < (x.name.length:Int))=false:=by simp;omega
            obtain⟨q,hq⟩:∃ q,(tm == [])=q:=⟨_,rfl⟩
            rw [hq] at hnb
            cases q with
            | false =>
             rw [Bool.false_and] at hnb
             have hs:=Hs2.out
             rw [hnb,if_pos rfl] at hs
             subst hs
             clear hnb
             go_wp2_with fail
             refine(HT.out _).mono ?_
             rintro e w2 ⟨rfl,hb2⟩
             go_wp2_with fail
             go_ret
             exact⟨rfl,hbel1.trans (hb2.mono hbel1.size)⟩
            | true =>
             rw [Bool.true_and] at hnb
             by_cases h97:97≤nth x.name 0
             · rw [decide_eq_true h97] at hnb
               have d97:decide (((nth x.name 0:Nat):Int) < 97)=false:=by simp;omega
               have hs:=Hs2.out
               rw [hnb,if_neg (by decide)] at hs
               have Hs3:=Lib.hid hs
               clear hs Hs2 hnb
               go_wp2_with fail
               refine(HT.out _).mono ?_
               rintro e w2 ⟨rfl,hb2⟩
               have hbel2:=hbel1.trans (hb2.mono hbel1.size)
               have e0:=(hb2.cell (p:=⟨wr.heap.size,0,none⟩) hlt1).trans c0
               have e1:=(hb2.cell (p:=⟨wr.heap.size,1,none⟩) hlt1).trans c1
               have hlt2:wr.heap.size < w2.heap.size:=Nat.lt_of_lt_of_le hlt1 hb2.size
               obtain⟨cl,hcl⟩:∃ cl,cl=clashN x (ns.take i):=⟨_,rfl⟩
               rw [← hcl] at Hs3
               have Hcl:=Lib.hid hcl
               clear hcl c0 c1 hb1 hb2 hbel hbel1 hlt1
               go_wp2_with fail
               have E0:=Lib.hid (And.intro e0 e1)
               clear e0 e1
               obtain⟨tb,htb⟩:∃ tb,tb=wr.heap.size:=⟨_,rfl⟩
               rw [← htb] at E0 hlt2 ⊢
               clear htb
               go_loopw [47] (CkRel2 i (ns.take i) x cl w2) (fun jv _=>i - (intOf jv).toNat)
               case atStart=>exact⟨0,rfl,Nat.zero_le _,Below.refl _ _,Lib.hid (by rw [List.drop_zero];exact Hcl.out.symm)⟩
               case round =>
                obtain⟨j,rfl,hj,hbelj,HJ⟩:=hrel
                by_cases hji:j < i
                · have hbelk:=hbel2.trans (hbelj.mono hbel2.size)
                  obtain⟨b',off',y,hA,_,hdy,y0,y1⟩:=(Sl.below H.out hbelk).name j (by omega)
                  injection hA with hA
                  injection hA with hA1 hA2
                  subst hA1
                  subst hA2
                  have hcl:=HJ.out
                  rw [drop_takeN hji hdy,clash_cons] at hcl
                  have k0:wr.cell? ⟨tb,0,none⟩=some (.int .i64 x.part):=(hbelj.cell (p:=⟨tb,0,none⟩) hlt2).trans E0.out.1
                  have k1:wr.cell? ⟨tb,1,none⟩=some (str x.name):=(hbelj.cell (p:=⟨tb,1,none⟩) hlt2).trans E0.out.2
                  have hltb:tb < wr.heap.size:=Nat.lt_of_lt_of_le hlt2 hbelj.size
                  have hjn:(j:Int) < n:=by omega
                  have Hclx:=Lib.hid hcl
                  clear hcl hdy
                  by_cases hnn:y.name=x.name
                  · have d1:(y.name == x.name)=true:=by simpa using hnn
                    have hcl:=Hclx.out
                    rw [d1] at hcl
                    simp only [Bool.true_or] at hcl
                    have hs:=Hs3.out
                    rw [← hcl,if_pos rfl] at hs
                    subst hs
                    have Hnn:=Lib.hid hnn
                    clear hnn hcl
                    go_wp2_with fail
                    go_quiet (fail)
                    go_wp2_with fail
                    go_ret
                    exact⟨rfl,belN (hbel2.trans (hbelj.mono hbel2.size)) _⟩
                  · have d1:(y.name == x.name)=false:=by simpa using hnn
                    have hcl:=Hclx.out
                    rw [d1] at hcl
                    have Hnn:=Lib.hid hnn
                    clear hnn
                    by_cases hpp:x.part≤y.part
                    · have d2:decide (x.part≤y.part)=true:=by simpa using hpp
                      rw [d2] at hcl
                      simp only [Bool.false_or,Bool.true_or] at hcl
                      have hs:=Hs3.out
                      rw [← hcl,if_pos rfl] at hs
                      subst hs
                      clear hcl
                      go_wp2_with fail
                      go_quiet (fail)
                      go_wp2_with fail
                      go_ret
                      exact⟨rfl,belN (hbel2.trans (hbelj.mono hbel2.size)) _⟩
                    · have d2:decide (x.part≤y.part)=false:=by simpa using hpp
                      rw [d2] at hcl
                      simp only [Bool.false_or] at hcl
                      have Hc2:=Lib.hid hcl
                      clear hcl
                      go_wp2_with fail
                      go_quiet (fail)
                      go_wp2_with fail
                      exact⟨⟨j+1,by go_num,by omega,belN hbelj _,Hc2⟩,by simp [intOf];omega⟩
                · obtain rfl:j=i:=by omega
                  have hcl:=HJ.out
                  rw [List.drop_of_length_le (List.length_take_le _ _)] at hcl
                  have hs:=Hs3.out
                  rw [← hcl,if_neg (by simp [clashN])] at hs
                  have Hs4:=Lib.hid hs
                  have hbel9:=hbel2.trans (hbelj.mono hbel2.size)
                  clear hs hcl
                  go_wp2_with fail
                  exact⟨⟨j+1,by go_num,by omega,hbel9,Hs4⟩,by simp [intOf];omega⟩
             · rw [decide_eq_false h97] at hnb
               have d97:decide (((nth x.name 0:Nat):Int) < 97)=true:=by simp;omega
               have hs:=Hs2.out
               rw [hnb,if_pos rfl] at hs
               subst hs
               clear hnb
               go_wp2_with fail
               refine(HT.out _).mono ?_
               rintro e w2 ⟨rfl,hb2⟩
               have e1:=(hb2.cell (p:=⟨wr.heap.size,1,none⟩) hlt1).trans c1
               go_wp2_with fail
               go_ret
               exact⟨rfl,hbel1.trans (hb2.mono hbel1.size)⟩
          · rw [decide_eq_false h30,Bool.false_and] at hnb
            have e30:decide (30 < (x.name.length:Int))=true:=by simp;omega
            have hs:=Hs2.out
            rw [hnb,if_pos rfl] at hs
            subst hs
            clear hnb
            go_wp2_with fail
            go_ret
            exact⟨rfl,hbel1⟩
  · obtain rfl:i=n:=by omega
    have hs:=HS.out
    rw [List.drop_of_length_le (by rw [Hl.out];exact Nat.le_refl _),namesF] at hs
    have Hs:=Lib.hid hs
    clear hs
    go_wp2_with fail
    go_ret
    exact⟨by rw [← Hs.out];rfl,hbel⟩
theorem bad1_any (e:Nat) (w:World):Calls Tryz.prog 17 #[.int .i64 (e:Nat)] w fun r w'=>r = .returned (.tuple #[.agg #[.string ⟨#[]⟩,.string ⟨#[]⟩,.string ⟨#[]⟩,.string ⟨#[]⟩,.int .i64 0,.slice none 0 0,.slice none 0 0],.int .i64 (e:Nat)])∧Below w.heap.size w w':=by
 go_enter Tryz.func17,Tryz.ntmps17
 go_wp2_with fail
 exact bodyPost_ret (v:=.tuple #[.agg #[.string ⟨#[]⟩,.string ⟨#[]⟩,.string ⟨#[]⟩,.string ⟨#[]⟩,.int .i64 0,.slice none 0 0,.slice none 0 0],.int .i64 (e:Nat)]) (by simp [results,Tryz.results17,go_sem]) rfl ⟨rfl,(Below.refl _ w).alloc (Nat.le_refl _) _⟩
def RNamesOut (p:PartD) (ns:List NameD) (w:World) (e:Ending) (w':World):Prop:=
 ∃ v:List Value,e = .returned (.tuple #[.agg v.toArray,.int .i64 ((namesE p ns).2:Nat)])∧PartAt (· < w'.heap.size) w' (namesE p ns).1 v∧Below w.heap.size w w'
theorem zeroStr3 (w:World):(zeroValue 9).run Tryz.prog w = .ok (.string ⟨#[]⟩) w:=by kernel_rfl
theorem rise_take {ns:List NameD} (h:ns.Pairwise (fun a b=>a.part < b.part)) {i:Nat} {x:NameD} (hd:ns.drop i=x :: ns.drop (i+1)):∀ m∈ns.take i,m.part < x.part:=by
 intro m hm
 have h2:(ns.take i ++ ns.drop i).Pairwise (fun a b=>a.part < b.part):=by rw [List.take_append_drop];exact h
 rw [hd] at h2
 exact(List.pairwise_append.1 h2).2.2 m hm x (by simp)
/-- The map of what parts are called. -/
def CaRel (ns:List NameD) (nn bc:Nat) (w5:World) (iv:Value) (wr:World):Prop:=
 ∃ (i:Nat) (f:Int→Value),iv = .int .i64 (i:Nat)∧i≤nn∧MapI wr bc i (.string ⟨#[]⟩) f∧Hid (∀ k,f k=str (ofN (ns.take i) k))∧Below bc w5 wr
def RowsT (ns:List NameD) (gs:List GoalD) (L:Nat) (f:Int→Value) (wr:World):Prop:=
 (∀ k:Nat,∃ S c,f k = .slice S (textsN ns gs k).length c∧wr.ownsRow L 9 1 (.slice S (textsN ns gs k).length c) (textsN ns gs k).length ((textsN ns gs k).map str)) ∧
 ∀ k k':Nat,k≠k'→(f k).ownBlock=none∨(f k).ownBlock≠(f k').ownBlock
theorem RowsT.step {ns:List NameD} {gs:List GoalD} {L:Nat} {f:Int→Value} {wr w9:World} (h:RowsT ns gs L f wr) (x:GoalD) (S8:Option Addr) (c8:Nat)
 (hk:∀ (k:Nat) n xs,k≠x.part→wr.ownsRow L 9 1 (f k) n xs→w9.ownsRow L 9 1 (f k) n xs)
 (ho:w9.ownsRow L 9 1 (.slice S8 ((textsN ns gs x.part).length+1) c8) ((textsN ns gs x.part).length+1) ((textsN ns gs x.part).map str ++ [str (ofN ns x.find)]))
 (hat:Value.ownBlock (.slice S8 ((textsN ns gs x.part).length+1) c8)=(f x.part).ownBlock∨Value.ownBlock (.slice S8 ((textsN ns gs x.part).length+1) c8)=some wr.heap.size∨wr.heap.size < ((Value.ownBlock (.slice S8 ((textsN ns gs x.part).length+1) c8)).getD 0)) :
 RowsT ns (gs ++ [x]) L (fun k'=>if k'=(x.part:Int) then .slice S8 ((textsN ns gs x.part).length+1) c8 else f k') w9:=by
 have hlt:∀ (k:Nat) b,(f k).ownBlock=some b→b < wr.heap.size:=by
  intro k b hb
  obtain⟨S,c,e1,e2⟩:=h.1 k
  rw [e1] at hb
  exact(e2.lt b hb).2
 have hnew:∀ k:Nat,k≠x.part→(f k).ownBlock=none∨(f k).ownBlock≠Value.ownBlock (.slice S8 ((textsN ns gs x.part).length+1) c8):=by
  intro k hkx
  cases hb:(f k).ownBlock with
  | none=>exact .inl rfl
  | some b =>
   refine .inr ?_
   have hl:=hlt k b hb
   rcases hat with e | e | e
   · rcases h.2 k x.part hkx with h2 | h2
     · rw [hb] at h2;cases h2
     · rw [e,← hb];exact h2
   · rw [e];intro e2;injection e2 with e2;omega
   · intro e2;rw [← e2] at e;simp at e;omega
 constructor
 · intro k
   by_cases hkx:k=x.part
   · subst hkx
     rw [textsN_snoc,if_pos rfl]
     refine⟨S8,c8,by simp,?_⟩
     simpa using ho
   · obtain⟨S,c,e1,e2⟩:=h.1 k
     rw [textsN_snoc,if_neg (fun e=>hkx e.symm)]
     have hne:¬ ((k:Nat):Int)=(x.part:Int):=by omega
     refine⟨S,c,by simp only [hne,if_false];exact e1,?_⟩
     have:=hk k _ _ hkx (by rw [e1];exact e2)
     rwa [e1] at this
 · intro k k' hkk
   by_cases h1:k=x.part
   · have hne:¬ ((k':Nat):Int)=(x.part:Int):=by omega
     simp only [h1,if_true,hne,if_false]
     rcases hnew k' (by omega) with h2 | h2
     · cases hq:Value.ownBlock (.slice S8 ((textsN ns gs x.part).length+1) c8) with
       | none=>exact .inl rfl
       | some q=>rw [h2];exact .inr (by simp)
     · exact .inr (Ne.symm h2)
   · have hne:¬ ((k:Nat):Int)=(x.part:Int):=by omega
     by_cases h2:k'=x.part
     · simp only [h2,if_true,hne,if_false]
       exact hnew k h1
     · have hne2:¬ ((k':Nat):Int)=(x.part:Int):=by omega
       simp only [hne,hne2,if_false]
       exact h.2 k k' hkk
/-- What the region reads. -/
def TeS (bm bc gb i nn:Nat) (x:GoalD) (f fc:Int→Value) (W:World):Prop:=
 W.cell? ⟨bm+1,0,none⟩=some (.map (some bm))∧W.cell? ⟨gb,0,none⟩=some (.int .i64 (x.part:Nat))∧W.cell? ⟨gb,5,none⟩=some (.int .i64 x.find)∧MapI W bm i (.slice none 0 0) f∧MapI W bc nn (.string ⟨#[]⟩) fc
theorem TeS.grown {bm bc gb i nn:Nat} {x:GoalD} {f fc:Int→Value} {W W':World} (h:TeS bm bc gb i nn x f fc W) {row:Option Nat} (hg:W.grownBy W' row) (h1:some (bm+1)≠row) (h2:some gb≠row) (h3:some bm≠row) (h4:some bc≠row):TeS bm bc gb i nn x f fc W':=
 ⟨hg.cell h.1 h1,hg.cell h.2.1 h2,hg.cell h.2.2.1 h2,h.2.2.2.1.kept hg h3,h.2.2.2.2.kept hg h4⟩
def TeQ (bm bc gb nn:Nat) (x:GoalD) (fc:Int→Value) (W:World):Prop:=
 W.cell? ⟨bm+1,0,none⟩=some (.map (some bm))∧W.cell? ⟨gb,0,none⟩=some (.int .i64 (x.part:Nat))∧W.cell? ⟨gb,5,none⟩=some (.int .i64 x.find)∧MapI W bc nn (.string ⟨#[]⟩) fc
theorem TeS.q {bm bc gb i nn:Nat} {x:GoalD} {f fc:Int→Value} {W:World} (h:TeS bm bc gb i nn x f fc W):TeQ bm bc gb nn x fc W:=⟨h.1,h.2.1,h.2.2.1,h.2.2.2.2⟩
theorem TeQ.grown {bm bc gb nn:Nat} {x:GoalD} {fc:Int→Value} {W W':World} (h:TeQ bm bc gb nn x fc W) {row:Option Nat} (hg:W.grownBy W' row) (h1:some (bm+1)≠row) (h2:some gb≠row) (h4:some bc≠row):TeQ bm bc gb nn x fc W':=
 ⟨hg.cell h.1 h1,hg.cell h.2.1 h2,hg.cell h.2.2.1 h2,h.2.2.2.kept hg h4⟩
/-- The map of texts. -/
def TeRel (ns:List NameD) (gs:List GoalD) (gn bm:Nat) (w6:World) (iv:Value) (wr:World):Prop:=
 ∃ (i:Nat) (f:Int→Value),iv = .int .i64 (i:Nat)∧i≤gn∧MapI wr bm i (.slice none 0 0) f∧wr.heap[bm+1]? = some (.cells #[.map (some bm)] 58 (0,0))∧RowsT ns (gs.take i) (bm+2) f wr∧Below bm w6 wr∧bm+2≤wr.heap.size
theorem Renamed_any (p:PartD) (v:List Value) (NA:Option Addr) (nn nc:Nat) (ns:List NameD) (w:World) (hM:MaxLenOk w) (hU:U8Ok w) (hp:PartAt (· < w.heap.size) w p v) (hns:Sl w w.heap.size 2 NA nn (nameC ns)) (hnn:nn≤nc) (hnc:nc≤maxLen) (hok0:NamesOk ns) :
 Calls Tryz.prog 5 #[.agg v.toArray,.slice NA nn nc] w (RNamesOut p ns w):=by
 have hok:=checkD_ok p
 have hcp:=fun(X:World) (h:Below w.heap.size w X)=>CheckPart_any p v X ((hp.below h).more h.size) (hU.below h)
 have hfl:=fun(X:World) (h:Below w.heap.size w X) (h1:(flatD p).length≤1000)=>Flat_any (flatD p).length p v w.heap.size X (Nat.le_refl _) h1 h.size (hp.below h)
 have hck:=fun(X:World) (h:Below w.heap.size w X)=>RCheckNames_any NA nn nc ns ((flatD p).length:Nat) X ((Sl.below hns h).more h.size) hnn hnc hok0
 have hgl:=fun(X:World) (h:Below w.heap.size w X) (h0:checkD p=0)=>RGoals_any p v X (hM.below h) ((hp.below h).more h.size) h0
 have hren:=names_ren (p:=p) (ns:=ns)
 unfold GoalsOut at hgl
 unfold AllRes at hfl
 unfold RNamesOut
 obtain⟨R,hR⟩:∃ R,R=namesE p ns:=⟨_,rfl⟩
 rw [← hR]
 rw [← hR] at hren
 unfold namesE at hR
 have hnl:ns.length=nn:=by have:=hns.1;rw [nameC_len] at this;omega
 obtain⟨A,c,A2,c2,rfl,_⟩:=hp.open
 obtain⟨W,hW⟩:∃ W,W=(w.alloc (.cells #[str p.type,str p.cs,str p.id,str p.loc,.int .i64 p.how,.slice A p.body.length c,.slice A2 p.parts.length c2] 25)).alloc (.cells #[.string ⟨#[]⟩,.string ⟨#[]⟩,.string ⟨#[]⟩,.string ⟨#[]⟩,.int .i64 0,.slice none 0 0,.slice none 0 0] 25):=⟨_,rfl⟩
 have hbW:Below w.heap.size w W:=by rw [hW];exact((Below.refl _ w).alloc (Nat.le_refl _) _).alloc (by simp) _
 have hsW:W.heap.size=w.heap.size+2:=by rw [hW];simp
 have hx1:BoxF W w.heap.size (str p.type) (str p.cs) (str p.id) (str p.loc) (.int .i64 p.how) (.slice A p.body.length c) (.slice A2 p.parts.length c2):=by
  refine BoxF.of_block (t:=25) ?_
  rw [hW,Lib.alloc_old _ _ _ (by simp)]
  exact heap_alloc_new w _
 have hx2:BoxF W (w.heap.size+1) (.string ⟨#[]⟩) (.string ⟨#[]⟩) (.string ⟨#[]⟩) (.string ⟨#[]⟩) (.int .i64 0) (.slice none 0 0) (.slice none 0 0):=by
  refine BoxF.of_block (t:=25) ?_
  rw [hW]
  have:=heap_alloc_new (w.alloc (.cells #[str p.type,str p.cs,str p.id,str p.loc,.int .i64 p.how,.slice A p.body.length c,.slice A2 p.parts.length c2] 25)) (.cells #[.string ⟨#[]⟩,.string ⟨#[]⟩,.string ⟨#[]⟩,.string ⟨#[]⟩,.int .i64 0,.slice none 0 0,.slice none 0 0] 25)
  simpa using this
 have eg:=enters_of Tryz.func17 (by kernel_rfl) rfl
 have eg2:=enters_of Tryz.func21 (by kernel_rfl) rfl
 have hmm:=@run_makeMap Tryz.prog
 have Hcp:=Lib.hid hcp
 have Hfl:=Lib.hid hfl
 have Hck:=Lib.hid hck
 have Hgl:=Lib.hid hgl
 have Hren:=Lib.hid hren
 have Hok:=Lib.hid hok
 have Hp:=Lib.hid hp
 have HM:=Lib.hid hM
 have Hns:=Lib.hid hns
 have Hok0:=Lib.hid hok0
 have Hnl:=Lib.hid hnl
 have HbW:=Lib.hid hbW
 have HR:=Lib.hid hR
 have Hx1:=Lib.hid hx1
 have Hx2:=Lib.hid hx2
 have HgoodN:=Lib.hid (fun h=>namesF_good (flatD p).length ns [] h)
 have HriseN:=Lib.hid (fun h=>(names_rise (flatD p).length ns [] h).2)
 have HgfN:=Lib.hid (show goalsD p=goalsF (flatD p) (whereD p) (flatD p) (whereD p) 0 [] from rfl)
 have HgzN:=Lib.hid (fun h1 h2=>goalsE_zero (p:=p) h1 h2)
 have hszW:w.heap.size+2≤W.heap.size:=by omega
 clear hcp hfl hck hgl hren hok hp hM hns hok0 hnl hbW hR hx1 hsW hU
 have⟨⟨x0,x1,x2,x3,x4,x5,x6⟩,_⟩:=Hx1.out
 go_enter Tryz.func5,Tryz.ntmps5
 go_upto_region 1 with fail
 rw [← hW]
 clear hW
 go_wp2_with fail
 refine(Hcp.out W HbW.out).mono ?_
 rintro en w1 ⟨rfl,hb1⟩
 have hbel1:=HbW.out.trans (hb1.mono HbW.out.size)
 have hX1:=Hx1.out.below hb1 (by omega)
 have hX2:=hx2.below hb1 (by omega)
 have hz1:=Nat.le_trans hszW hb1.size
 clear x0 x1 x2 x3 x4 x5 x6 hb1 hx2
 have⟨⟨x0,x1,x2,x3,x4,x5,x6⟩,_⟩:=hX1
 obtain⟨K,hK⟩:∃ K,K=checkD p:=⟨_,rfl⟩
 rw [← hK]
 have HK:=Lib.hid hK
 clear hK
 by_cases hK0:K≠0
 · have dK:((K:Int) != 0)=true:=by simp;omega
   have hr:=HR.out
   rw [← HK.out,if_pos hK0] at hr
   have Hr:=Lib.hid hr
   clear hr hK0
   try clear x0 x1 x2 x3 x4 x5 x6
   go_wp2_with fail
   refine(bad1_any K _).mono ?_
   rintro en w9 ⟨rfl,hb9⟩
   have hX9:=(hX2).below hb9 (by omega)
   have hbel9:=(hbel1).trans (hb9.mono (hbel1).size)
   have hbx:=BoxF.set7 (w:=w9) (b:=w.heap.size+1) hX9 (.string ⟨#[]⟩) (.string ⟨#[]⟩) (.string ⟨#[]⟩) (.string ⟨#[]⟩) (.int .i64 0) (.slice none 0 0) (.slice none 0 0)
   have hbs:=below_seven hbel9 (b:=w.heap.size+1) (by omega) (.string ⟨#[]⟩) (.string ⟨#[]⟩) (.string ⟨#[]⟩) (.string ⟨#[]⟩) (.int .i64 0) (.slice none 0 0) (.slice none 0 0)
   have⟨⟨z0,z1,z2,z3,z4,z5,z6⟩,zf⟩:=hX9
   go_wp2_with fail
   generalize hwz:(((((((w9).setCell ⟨w.heap.size+1,0,none⟩ (.string ⟨#[]⟩)).setCell ⟨w.heap.size+1,1,none⟩ (.string ⟨#[]⟩)).setCell ⟨w.heap.size+1,2,none⟩ (.string ⟨#[]⟩)).setCell ⟨w.heap.size+1,3,none⟩ (.string ⟨#[]⟩)).setCell ⟨w.heap.size+1,4,none⟩ (.int .i64 0)).setCell ⟨w.heap.size+1,5,none⟩ (.slice none 0 0)).setCell ⟨w.heap.size+1,6,none⟩ (.slice none 0 0)=wz at hbx hbs
   clear hwz
   obtain⟨c0,c1,c2,c3,c4,c5,c6⟩:=hbx
   refine bodyPost_ret (v:=.tuple #[.agg #[.string ⟨#[]⟩,.string ⟨#[]⟩,.string ⟨#[]⟩,.string ⟨#[]⟩,.int .i64 0,.slice none 0 0,.slice none 0 0],.int .i64 (K:Nat)]) (by simp [results,Tryz.results5,go_sem,c0,c1,c2,c3,c4,c5,c6]) rfl ?_
   rw [(Hr).out]
   exact⟨_,rfl,zero_cells _,hbs⟩
 · obtain rfl:K=0:=by omega
   have hc0:checkD p=0:=HK.out.symm
   obtain⟨h12,hch⟩:=Hok.out hc0
   have hbod:∀ q∈flatD p,q.body.length≤4000:=fun q hq=>chk_body q (hch q hq)
   have Hbod:=Lib.hid hbod
   have Hc0:=Lib.hid hc0
   have hfl1:=Hfl.out w1 hbel1 (by omega)
   have Hfl1:=Lib.hid hfl1
   obtain⟨fn,hfn⟩:∃ fn,fn=(flatD p).length:=⟨_,rfl⟩
   have Hfn:=Lib.hid hfn
   have hr:=HR.out
   rw [← HK.out,if_neg hK0] at hr
   have HR2:=Lib.hid hr
   have hbel1H:=Lib.hid hbel1
   clear hK0 hc0 hch hbod hfl1 Hfl Hcp Hok hfn hr
   go_wp2_with fail
   refine Hfl1.out.mono ?_
   rintro en w2 ⟨S2,cf,rows2,rfl,_,_,hb2⟩
   rw [← Hfn.out]
   have hbel2:=hbel1H.out.trans (hb2.mono hbel1H.out.size)
   have hX12:=hX1.below hb2 (by omega)
   have hX22:=hX2.below hb2 (by omega)
   have hz2:=Nat.le_trans hz1 hb2.size
   have hck:=Hck.out w2 hbel2
   rw [← Hfn.out] at hck
   have HckW:=Lib.hid hck
   have Hbel2:=Lib.hid hbel2
   clear x0 x1 x2 x3 x4 x5 x6 hb2 hbel2 hX1 hX2 hck
   have⟨⟨x0,x1,x2,x3,x4,x5,x6⟩,_⟩:=hX12
   go_wp2_with fail
   refine HckW.out.mono ?_
   rintro en w3 ⟨rfl,hb3⟩
   have hbel3:=Hbel2.out.trans (hb3.mono Hbel2.out.size)
   have hX13:=hX12.below hb3 (by omega)
   have hX23:=hX22.below hb3 (by omega)
   have hz3:=Nat.le_trans hz2 hb3.size
   clear x0 x1 x2 x3 x4 x5 x6 hb3 hX12 hX22 HckW
   have⟨⟨x0,x1,x2,x3,x4,x5,x6⟩,_⟩:=hX13
   obtain⟨K2,hK2⟩:∃ K2,K2=namesF fn [] ns:=⟨_,rfl⟩
   rw [← hK2]
   have HK2:=Lib.hid (show K2=namesF (flatD p).length [] ns by rw [hK2,Hfn.out])
   clear hK2
   by_cases hK0:K2≠0
   · have dK:((K2:Int) != 0)=true:=by simp;omega
     have hr:=HR2.out
     rw [← HK2.out,if_pos hK0] at hr
     have Hr:=Lib.hid hr
     clear hr hK0
     try clear x0 x1 x2 x3 x4 x5 x6
     go_wp2_with fail
     refine(bad1_any K2 _).mono ?_
     rintro en w9 ⟨rfl,hb9⟩
     have hX9:=(hX23).below hb9 (by omega)
     have hbel9:=(hbel3).trans (hb9.mono (hbel3).size)
     have hbx:=BoxF.set7 (w:=w9) (b:=w.heap.size+1) hX9 (.string ⟨#[]⟩) (.string ⟨#[]⟩) (.string ⟨#[]⟩) (.string ⟨#[]⟩) (.int .i64 0) (.slice none 0 0) (.slice none 0 0)
     have hbs:=below_seven hbel9 (b:=w.heap.size+1) (by omega) (.string ⟨#[]⟩) (.string ⟨#[]⟩) (.string ⟨#[]⟩) (.string ⟨#[]⟩) (.int .i64 0) (.slice none 0 0) (.slice none 0 0)
     have⟨⟨z0,z1,z2,z3,z4,z5,z6⟩,zf⟩:=hX9
     go_wp2_with fail
     generalize hwz:(((((((w9).setCell ⟨w.heap.size+1,0,none⟩ (.string ⟨#[]⟩)).setCell ⟨w.heap.size+1,1,none⟩ (.string ⟨#[]⟩)).setCell ⟨w.heap.size+1,2,none⟩ (.string ⟨#[]⟩)).setCell ⟨w.heap.size+1,3,none⟩ (.string ⟨#[]⟩)).setCell ⟨w.heap.size+1,4,none⟩ (.int .i64 0)).setCell ⟨w.heap.size+1,5,none⟩ (.slice none 0 0)).setCell ⟨w.heap.size+1,6,none⟩ (.slice none 0 0)=wz at hbx hbs
     clear hwz
     obtain⟨c0,c1,c2,c3,c4,c5,c6⟩:=hbx
     refine bodyPost_ret (v:=.tuple #[.agg #[.string ⟨#[]⟩,.string ⟨#[]⟩,.string ⟨#[]⟩,.string ⟨#[]⟩,.int .i64 0,.slice none 0 0,.slice none 0 0],.int .i64 (K2:Nat)]) (by simp [results,Tryz.results5,go_sem,c0,c1,c2,c3,c4,c5,c6]) rfl ?_
     rw [(Hr).out]
     exact⟨_,rfl,zero_cells _,hbs⟩
   · obtain rfl:K2=0:=by omega
     have hgl:=Hgl.out w3 hbel3 Hc0.out
     have hr:=HR2.out
     rw [← HK2.out,if_neg hK0] at hr
     have hren:=Hren.out Hc0.out HK2.out.symm
     have hgz:=HgzN.out Hc0.out
     obtain⟨gs,gK,hgE⟩:∃ gs gK,goalsE p=(gs,gK):=⟨_,_,rfl⟩
     rw [hgE] at hgl hr hren hgz
     simp only at hgl hr hren hgz
     obtain⟨gn,hgn⟩:∃ gn,gn=gs.length:=⟨_,rfl⟩
     rw [← hgn] at hgl
     have HglW:=Lib.hid hgl
     have HR3:=Lib.hid hr
     have Hren2:=Lib.hid hren
     have Hgz:=Lib.hid hgz
     have Hgn:=Lib.hid hgn
     have Hbel3:=Lib.hid hbel3
     clear hgl hr hren hgz hgE hgn hK0 hbel3 HgzN Hren HR2 HR
     go_wp2_with fail
     refine HglW.out.mono ?_
     rintro en w4 ⟨S4,cg,rfl,hown4,hb4⟩
     have hbel4:=Hbel3.out.trans (hb4.mono Hbel3.out.size)
     have hX14:=hX13.below hb4 (by omega)
     have hX24:=hX23.below hb4 (by omega)
     have hz4:=Nat.le_trans hz3 hb4.size
     have HsG:=Lib.hid (Sl.of_own hown4)
     clear x0 x1 x2 x3 x4 x5 x6 hb4 hX13 hX23 HglW hown4
     have⟨⟨x0,x1,x2,x3,x4,x5,x6⟩,_⟩:=hX14
     by_cases hK0:gK≠0
     · have dK:((gK:Int) != 0)=true:=by simp;omega
       have hr:=HR3.out
       rw [if_pos hK0] at hr
       have Hr:=Lib.hid hr
       clear hr hK0
       try clear x0 x1 x2 x3 x4 x5 x6
       go_wp2_with fail
       refine(bad1_any gK _).mono ?_
       rintro en w9 ⟨rfl,hb9⟩
       have hX9:=(hX24).below hb9 (by omega)
       have hbel9:=(hbel4).trans (hb9.mono (hbel4).size)
       have hbx:=BoxF.set7 (w:=w9) (b:=w.heap.size+1) hX9 (.string ⟨#[]⟩) (.string ⟨#[]⟩) (.string ⟨#[]⟩) (.string ⟨#[]⟩) (.int .i64 0) (.slice none 0 0) (.slice none 0 0)
       have hbs:=below_seven hbel9 (b:=w.heap.size+1) (by omega) (.string ⟨#[]⟩) (.string ⟨#[]⟩) (.string ⟨#[]⟩) (.string ⟨#[]⟩) (.int .i64 0) (.slice none 0 0) (.slice none 0 0)
       have⟨⟨z0,z1,z2,z3,z4,z5,z6⟩,zf⟩:=hX9
       go_wp2_with fail
       generalize hwz:(((((((w9).setCell ⟨w.heap.size+1,0,none⟩ (.string ⟨#[]⟩)).setCell ⟨w.heap.size+1,1,none⟩ (.string ⟨#[]⟩)).setCell ⟨w.heap.size+1,2,none⟩ (.string ⟨#[]⟩)).setCell ⟨w.heap.size+1,3,none⟩ (.string ⟨#[]⟩)).setCell ⟨w.heap.size+1,4,none⟩ (.int .i64 0)).setCell ⟨w.heap.size+1,5,none⟩ (.slice none 0 0)).setCell ⟨w.heap.size+1,6,none⟩ (.slice none 0 0)=wz at hbx hbs
       clear hwz
       obtain⟨c0,c1,c2,c3,c4,c5,c6⟩:=hbx
       refine bodyPost_ret (v:=.tuple #[.agg #[.string ⟨#[]⟩,.string ⟨#[]⟩,.string ⟨#[]⟩,.string ⟨#[]⟩,.int .i64 0,.slice none 0 0,.slice none 0 0],.int .i64 (gK:Nat)]) (by simp [results,Tryz.results5,go_sem,c0,c1,c2,c3,c4,c5,c6]) rfl ?_
       rw [(Hr).out]
       exact⟨_,rfl,zero_cells _,hbs⟩
     · obtain rfl:gK=0:=by omega
       have hren:=Hren2.out rfl
       have hgd:=Hgz.out rfl
       have hgcap:gs.length≤720:=by
        rw [HgfN.out] at hgd
        have:=goalsF_len _ _ _ _ _ _ _ hgd
        simp only [List.length_nil] at this
        omega
       have hgn720:gn≤720:=by rw [Hgn.out];exact hgcap
       have hgood:=HgoodN.out HK2.out.symm
       have hrise:=HriseN.out HK2.out.symm
       have HR4:=Lib.hid hren
       have Hgcap:=Lib.hid hgcap
       have hbnd:∀ g∈gs,g.part < (flatD p).length∧-1≤g.find∧g.find < (((flatD p).length+1:Nat):Int):=by
        rw [HgfN.out] at hgd
        exact goalsF_bnd _ _ _ _ _ _ _ _ hgd (by omega) (by intro g hg;cases hg)
       have Hpart:=Lib.hid (fun(x:GoalD) (hx:x∈gs)=>show x.part≤100 by have:=(hbnd x hx).1;omega)
       have Hfind:=Lib.hid (fun(x:GoalD) (hx:x∈gs)=>show -1≤x.find∧x.find≤100 by have:=(hbnd x hx).2;omega)
       clear hbnd
       have Hgood:=Lib.hid hgood
       have Hrise:=Lib.hid hrise
       have Hbel4:=Lib.hid hbel4
       have HX14:=Lib.hid hX14
       have HX24:=Lib.hid hX24
       have hnn63:nn≤9223372036854775807:=by unfold maxLen at hnc;omega
       clear hren hgd hgcap hgood hrise hbel4 hX14 hX24 hK0 x0 x1 x2 x3 x4 x5 x6 HR3 Hren2 Hgz HriseN HgoodN
       go_wp2_with fail
       obtain⟨bc,hbc⟩:∃ bc,bc=w4.heap.size:=⟨_,rfl⟩
       rw [← hbc]
       have Hbc:=Lib.hid hbc
       clear hbc
       go_loopw [57] (CaRel ns nn bc w4) (fun iv _=>nn - (intOf iv).toNat)
       case atStart=>exact⟨0,fun _=>.string ⟨#[]⟩,rfl,Nat.zero_le _,by rw [Hbc.out];exact MapI.made w4 _,Lib.hid (fun k=>rfl),(Below.refl _ _).alloc (by rw [Hbc.out];exact Nat.le_refl _) _⟩
       case round =>
        obtain⟨i,f,rfl,hi,hmap,hf,hbelC⟩:=hrel
        have hbc4:w4.heap.size≤bc:=by rw [Hbc.out];exact Nat.le_refl _
        have hbelW:=Hbel4.out.trans ((hbelC.mono hbc4).mono Hbel4.out.size)
        by_cases hin:i < nn
        · obtain⟨b,off,x,rfl,hb,hd,n0,n1⟩:=(Sl.below Hns.out hbelW).name i hin
          have hxm:x∈ns:=List.mem_of_mem_drop (by rw [hd];simp)
          have hxk:=Hok0.out x hxm
          have htk:ns.take (i+1)=ns.take i ++ [x]:=by
           have:=congrArg (fun l=>l[0]?) hd
           simp at this
           rw [List.take_add_one,this]
           rfl
          have hri:=rise_take Hrise.out hd
          obtain⟨W6,hW6⟩:∃ W6,W6=wr.alloc (.cells #[.int .i64 x.part,str x.name] 57):=⟨_,rfl⟩
          have hb6:Below wr.heap.size wr W6:=by rw [hW6];exact(Below.refl _ _).alloc (Nat.le_refl _) _
          have hnb:W6.heap[wr.heap.size]? = some (.cells #[.int .i64 x.part,str x.name] 57):=by rw [hW6];exact heap_alloc_new wr _
          have c0:W6.cell? ⟨wr.heap.size,0,none⟩=some (.int .i64 x.part):=by unfold World.cell?;rw [hnb];rfl
          have c1:W6.cell? ⟨wr.heap.size,1,none⟩=some (str x.name):=by unfold World.cell?;rw [hnb];rfl
          have hmap6:=hmap.below hb6 hmap.lt
          have hcl:=hmap.lt
          obtain⟨w7,hrun,hmap7,hg7⟩:=hmap6.put Tryz.underlying55 (by unfold maxLen at hnc ⊢;omega) x.part hxk.2.1 hxk.2.2 (str x.name)
          have hbel7:Below bc w4 w7:=(hbelC.trans (hb6.mono (by omega))).grown hg7 (by have:=hb6.size;omega) (fun k hk=>by injection hk with hk;omega)
          have hf7:∀ k,(fun k'=>if k'=x.part then str x.name else f k') k=str (ofN (ns.take (i+1)) k):=by
           intro k
           rw [htk,ofN_snoc _ _ _ hri]
           by_cases hk:k=x.part
           · simp [hk]
           · simp only [hk,if_false]
             exact hf.out k
          have Hm7:=Lib.hid (And.intro hmap7 (And.intro hf7 hbel7))
          clear hd hxm hxk htk hri hnb hb6 hmap hf hbelC hbelW hmap6 hmap7 hg7 hbel7 hf7 hb
          go_upto_region 15 with fail
          rw [← hW6]
          clear hW6 n0 n1
          go_wp2_with fail
          obtain⟨m7,f7,b7⟩:=Hm7.out
          exact⟨⟨i+1,_,by go_num,by omega,m7,Lib.hid f7,b7⟩,by simp [intOf];omega⟩
        · obtain rfl:nn=i:=by omega
          have hf1:∀ k,f k=str (ofN ns k):=fun k=>by rw [hf.out k,List.take_of_length_le (by rw [Hnl.out];exact Nat.le_refl _)]
          have Hf1:=Lib.hid hf1
          have Hmap:=Lib.hid hmap
          have HbelC:=Lib.hid hbelC
          have HbelW:=Lib.hid hbelW
          have hcl:=hmap.lt
          have hsz4:w4.heap.size≤wr.heap.size:=hbelC.size
          clear hf hf1 hmap hbelC hbelW
          go_wp2_with fail
          obtain⟨w6,hw6⟩:∃ w6,w6=wr:=⟨_,rfl⟩
          rw [← hw6] at Hmap HbelC HbelW hcl hsz4
          obtain⟨bm,hbm⟩:∃ bm,bm=wr.heap.size:=⟨_,rfl⟩
          rw [← hbm]
          have hstart:TeRel ns gs gn bm w6 (.int .i64 0) ((wr.alloc (.map #[] 0)).alloc (.cells #[.map (some bm)] 58)):=by
           rw [hw6,hbm]
           refine⟨0,fun _=>.slice none 0 0,rfl,Nat.zero_le _,(MapI.made wr _).below ((Below.refl _ _).alloc (Nat.le_refl _) _) (by simp),?_,⟨fun k=>⟨none,0,rfl,World.ownsRow_nil _ _ _ _⟩,fun k k' _=>.inl rfl⟩,((Below.refl _ _).alloc (Nat.le_refl _) _).alloc (by simp) _,by simp⟩
           have:=heap_alloc_new (wr.alloc (.map #[] 0)) (.cells #[.map (some wr.heap.size)] 58)
           simpa using this
          have Hst:=Lib.hid hstart
          have hbm6:bm=w6.heap.size:=by rw [hw6];exact hbm
          have Hbm6:=Lib.hid hbm6
          have hbmw:w4.heap.size≤bm:=by omega
          have hsz4x:w4.heap.size≤bm:=hbmw
          obtain⟨fcl,hfcl⟩:∃ fcl,fcl=f:=⟨_,rfl⟩
          rw [← hfcl] at Hf1 Hmap
          clear hfcl
          clear hstart hw6 hbm hbm6
          go_loopw [70] (TeRel ns gs gn bm w6) (fun iv _=>gn - (intOf iv).toNat)
          case atStart=>exact Hst.out
          case round =>
           clear Hst
           obtain⟨i,ft,rfl,hi,hmt,hbx,hrows,hbelT,hbm2⟩:=hrel
           have hbmw2:bm≤w6.heap.size:=Nat.le_of_eq Hbm6.out
           have hbmw3:w6.heap.size≤bm:=Nat.le_of_eq Hbm6.out.symm
           have hbel4r:Below w4.heap.size w4 wr:=(HbelC.out.mono (by rw [Hbc.out];exact Nat.le_refl _)).trans (hbelT.mono hsz4x)
           by_cases hin:i < gn
           · obtain⟨b,off,x,rfl,hb,hxg,g0,g1,g2,g3,g4,g5⟩:=(Sl.below HsG.out hbel4r).goal6 i hin
             have htk:gs.take (i+1)=gs.take i ++ [x]:=by rw [List.take_add_one,hxg];rfl
             obtain⟨W7,hW7⟩:∃ W7,W7=wr.alloc (.cells #[.int .i64 (x.part:Nat),.int .i64 (x.l.frm:Nat),.int .i64 (x.l.til:Nat),str x.l.text,str x.goal,.int .i64 x.find] 44):=⟨_,rfl⟩
             have hb7:Below wr.heap.size wr W7:=by rw [hW7];exact(Below.refl _ _).alloc (Nat.le_refl _) _
             have hnb:W7.heap[wr.heap.size]? = some (.cells #[.int .i64 (x.part:Nat),.int .i64 (x.l.frm:Nat),.int .i64 (x.l.til:Nat),str x.l.text,str x.goal,.int .i64 x.find] 44):=by rw [hW7];exact heap_alloc_new wr _
             have hs7:W7.heap.size=wr.heap.size+1:=by rw [hW7];simp
             have hS7:TeS bm bc wr.heap.size i nn x ft fcl W7:=by
              refine⟨?_,?_,?_,hmt.below hb7 hmt.lt,(Hmap.out.below hbelT (by omega)).below hb7 (by omega)⟩
              · unfold World.cell?;rw [hb7.block (bm+1) (by omega),hbx];rfl
              · unfold World.cell?;rw [hnb];rfl
              · unfold World.cell?;rw [hnb];rfl
             obtain⟨S7,c7,hf7,hown7⟩:=hrows.1 x.part
             obtain⟨tx,htx⟩:∃ tx,tx=ofN ns x.find:=⟨_,rfl⟩
             obtain⟨n7,hn7⟩:∃ n7,n7=(textsN ns (gs.take i) x.part).length:=⟨_,rfl⟩
             have hn7l:n7≤720:=by
              rw [hn7];unfold textsN;rw [List.length_map]
              refine Nat.le_trans (List.length_filter_le _ _) ?_
              rw [List.length_take];omega
             have hlkc:fcl x.find=str tx:=by rw [Hf1.out,htx]
             have hsWA:(W7.drew.alloc (.cells #[str tx] 9)).heap.size=wr.heap.size+2:=by simp [hs7]
             have hbA:Below W7.heap.size W7 (W7.drew.alloc (.cells #[str tx] 9)):=(Below.refl W7.heap.size W7).drew.alloc (Nat.le_refl _) _
             have hownA:(W7.drew.alloc (.cells #[str tx] 9)).ownsRow (bm+2) 9 1 (.slice S7 n7 c7) n7 ((textsN ns (gs.take i) x.part).map str):=by
              rw [← hn7] at hown7
              exact own_below (own_below hown7 hb7) hbA
             obtain⟨i0,hi0,hi1,hi2,hi3⟩:=info_parts infoStr3
             obtain⟨S8,c8,w8,hrun8,hown8,hg8,hat8⟩:=run_app (P:=Tryz.prog) (W7.drew.alloc (.cells #[str tx] 9)) (bm+2) 40 40 9 i0 _ 1 16 Tryz.underlying40 hi0 hi1 hi2 hi3 rfl (by decide) S7 n7 c7 _ hownA _ _ 1 1 [str tx] (Sl.row _ _ 1 1 _ rfl) (by intro u hu;rw [List.mem_singleton.1 hu];rfl) (by unfold maxLen;omega) (by omega) (by omega)
             have hlt7:∀ g,Value.ownBlock (.slice S7 n7 c7)=some g→bm+2≤g∧g < wr.heap.size:=by
              intro g hg
              rw [← hn7] at hown7
              exact hown7.lt g hg
             have hSA:TeS bm bc wr.heap.size i nn x ft fcl (W7.drew.alloc (.cells #[str tx] 9)):=by
              have hg:W7.grownBy (W7.drew.alloc (.cells #[str tx] 9)) none:=⟨hbA.os,hbA.tape,hbA.output,hbA.size,fun k hk _=>hbA.block k hk⟩
              exact hS7.grown hg (by simp) (by simp) (by simp) (by simp)
             have hS8:TeS bm bc wr.heap.size i nn x ft fcl w8:=hSA.grown hg8 (fun e=>by have:=hlt7 _ e.symm;omega) (fun e=>by have:=hlt7 _ e.symm;omega) (fun e=>by have:=hlt7 _ e.symm;omega) (fun e=>by have:=hlt7 _ e.symm;omega)
             obtain⟨w9,hrun9,hmap9,hg9⟩:=hS8.2.2.2.1.put Tryz.underlying58 (by unfold maxLen;omega) ((x.part:Nat):Int) (by omega) (by have:=Hpart.out x (List.mem_of_getElem? hxg);omega) (.slice S8 (n7+1) c8)
             have hS9:w9.heap[bm+1]? = some (.cells #[.map (some bm)] 58 (0,0)):=by
              rw [hg9.block (bm+1) (by have:=hg8.size;omega) (by intro e;injection e with e;omega),hg8.block (bm+1) (by omega) (fun e=>by have:=hlt7 _ e.symm;omega),hbA.block (bm+1) (by omega),hb7.block (bm+1) (by omega)]
              exact hbx
             have hbel9:Below bm w6 w9:=by
              have h1:=(hbelT.trans ((hb7.mono (by omega)).trans (hbA.mono (by omega))))
              have h2:=h1.grown hg8 (by omega) (fun k hk=>by have:=hlt7 k hk;omega)
              exact h2.grown hg9 (by have:=hg8.size;omega) (fun k hk=>by injection hk with hk;omega)
             have hrows9:RowsT ns (gs.take (i+1)) (bm+2) (fun k'=>if k'=((x.part:Nat):Int) then .slice S8 (n7+1) c8 else ft k') w9:=by
              rw [htk,hn7]
              refine RowsT.step hrows x S8 c8 (fun k n xs hkx ho=>?_) ?_ ?_
              · have ho2:=own_below (own_below ho hb7) hbA
                refine(ho2.kept hg8 ?_).kept hg9 (.inr fun e=>by have:=(ho2.lt _ e).1;omega)
                rcases hrows.2 k x.part hkx with h2 | h2
                · exact .inl h2
                · rw [hf7,← hn7] at h2;exact .inr h2
              · rw [← hn7,← htx]
                exact hown8.kept hg9 (.inr fun e=>by have:=(hown8.lt _ e).1;omega)
              · rw [← hn7]
                rcases hat8 with e | e
                · left;rw [hf7,← hn7];exact e
                · right;right;rw [e];simp;omega
             have Hend:=Lib.hid (And.intro hmap9 (And.intro hS9 (And.intro hrows9 (And.intro hbel9 (by have:=hg9.size;have:=hg8.size;omega:bm+2≤w9.heap.size)))))
             have HS7:=Lib.hid (show TeS bm bc wr.heap.size i nn x ft fcl (World.drew W7) from hS7)
             have HSA:=Lib.hid hSA
             have hQ7:TeQ bm bc wr.heap.size nn x fcl (World.drew W7):=hS7.q
             have hQA:=hSA.q
             have hQ8:=hS8.q
             have hQ9:TeQ bm bc wr.heap.size nn x fcl w9:=hQ8.grown hg9 (by intro e;injection e with e;omega) (by intro e;injection e with e;omega) (by intro e;injection e with e;omega)
             have hlk1:=fun W' (h:TeS bm bc wr.heap.size i nn x ft fcl W')=>h.2.2.2.1.look Tryz.underlying58 (zeroStrs W') ((x.part:Nat):Int) (by omega) (by have:=Hpart.out x (List.mem_of_getElem? hxg);omega)
             have hlk2:=fun W' (h:TeQ bm bc wr.heap.size nn x fcl W')=>h.2.2.2.look Tryz.underlying55 (zeroStr3 W') x.find (by have:=Hfind.out x (List.mem_of_getElem? hxg);omega) (by have:=Hfind.out x (List.mem_of_getElem? hxg);omega)
             rw [hf7,← hn7] at hlk1
             rw [hlkc] at hlk2
             have Hlk1:=Lib.hid hlk1
             have Hlk2:=Lib.hid hlk2
             clear hlk1 hlk2 hlkc hf7 htx hn7 htk hxg hb7 hnb hown7 hownA hown8 hg8 hat8 hlt7 hmap9 hg9 hS9 hbel9 hrows9 hrows hmt hbx hbelT hbel4r hbA hb
             have⟨y0,y1,y2,_,_⟩:=hS7
             go_upto_region 21 with fail
             rw [← hW7]
             clear hW7 g0 g1 g2 g3 g4 g5
             refine wp_region_held (S:=(fun W'=>TeQ bm bc wr.heap.size nn x fcl W')) (by kernel_rfl) ?_
             change wpAnyH _ _ _ _ _ _ _ _ (World.drew W7)
             have hS:TeQ bm bc wr.heap.size nn x fcl (World.drew W7):=hQ7
             refine tkH (i:=0) (v:=?_) rfl ?_ hS ?_
             rotate_left 1
             · intro W' hb';have q0:=hb'.1;go_simp;try exact rfl
             refine tkH (i:=1) (v:=?_) rfl ?_ hS ?_
             rotate_left 1
             · intro W' hb';go_simp;try exact rfl
             refine tkH (i:=2) (v:=?_) rfl ?_ hS ?_
             rotate_left 1
             · intro W' hb';have q1:=hb'.2.1;go_simp;try exact rfl
             refine tkH (i:=3) (v:=?_) rfl ?_ hS ?_
             rotate_left 1
             · intro W' hb';have q0:=hb'.1;go_simp;try exact rfl
             refine tkH (i:=4) (v:=?_) rfl ?_ hS ?_
             rotate_left 1
             · intro W' hb';go_simp;try exact rfl
             refine tkH (i:=5) (v:=?_) rfl ?_ hS ?_
             rotate_left 1
             · intro W' hb';have q1:=hb'.2.1;go_simp;try exact rfl
             refine tkH (i:=7) (v:=?_) rfl ?_ hS ?_
             rotate_left 1
             · intro W' hb';go_simp;try exact rfl
             refine tkH (i:=8) (v:=?_) rfl ?_ hS ?_
             rotate_left 1
             · intro W' hb';go_simp;try exact rfl
             refine tkH (i:=9) (v:=?_) rfl ?_ hS ?_
             rotate_left 1
             · intro W' hb';have q2:=hb'.2.2.1;go_simp;try exact rfl
             refine tkH (i:=10) (v:=?_) rfl ?_ hS ?_
             rotate_left 1
             · intro W' hb';have q4:=Hlk2.out W' hb';go_simp;try exact rfl
             refine wpAnyH_all (rs:=[6,11]) (by kernel_rfl) (by simp) ?_
             intro kk hkk
             simp only [List.mem_cons,List.not_mem_nil,or_false] at hkk
             rcases hkk with rfl | rfl
             · go_simp
               refine wpOp_runv rfl (by kernel_rfl) (.slice S7 n7 c7) (World.drew W7) (by have q3:=Hlk1.out _ HS7.out;go_simp) ?_
               refine⟨hS,?_⟩
               refine wpAnyH_all (rs:=[11]) (by kernel_rfl) (by simp) ?_
               intro kk hkk
               simp only [List.mem_singleton] at hkk
               subst hkk
               go_simp
               refine wpOp_runv rfl (by kernel_rfl) (.slice (some ⟨W7.heap.size,0,none⟩) 1 1) (W7.drew.alloc (.cells #[str tx] 9)) (by go_simp) ?_
               have hS:=hQA
               refine⟨hS,?_⟩
               refine wpAnyH_all (rs:=[12]) (by kernel_rfl) (by simp) ?_
               intro kk hkk
               simp only [List.mem_singleton] at hkk
               subst hkk
               go_simp
               refine wpOp_appRun rfl (by kernel_rfl) _ _ _ rfl (.slice S7 n7 c7) (.slice (some ⟨W7.heap.size,0,none⟩) 1 1) (by go_simp) (by go_simp) _ w8 hrun8 ?_
               have hS:=hQ8
               refine⟨hS,?_⟩
               refine wpAnyH_all (rs:=[13]) (by kernel_rfl) (by simp) ?_
               intro kk hkk
               simp only [List.mem_singleton] at hkk
               subst hkk
               go_simp
               refine wpOp_store rfl (by kernel_rfl) w9 (by go_simp) ?_
               have hS:=hQ9
               refine⟨hS,?_⟩
               refine wpAnyH_done (by kernel_rfl) ?_ _
               go_simp
               go_wp2_with fail
               obtain⟨h1,h2,h3,h4,h5⟩:=Hend.out
               exact⟨⟨i+1,_,by go_num,by omega,h1,h2,h3,h4,h5⟩,by simp [intOf];omega⟩
             · go_simp
               refine wpOp_runv rfl (by kernel_rfl) (.slice (some ⟨W7.heap.size,0,none⟩) 1 1) (W7.drew.alloc (.cells #[str tx] 9)) (by go_simp) ?_
               have hS:=hQA
               refine⟨hS,?_⟩
               refine wpAnyH_all (rs:=[6]) (by kernel_rfl) (by simp) ?_
               intro kk hkk
               simp only [List.mem_singleton] at hkk
               subst hkk
               go_simp
               refine wpOp_runv rfl (by kernel_rfl) (.slice S7 n7 c7) (W7.drew.alloc (.cells #[str tx] 9)) (by have q3:=Hlk1.out ((W7.alloc (.cells #[str tx] 9)).drew) HSA.out;go_simp) ?_
               refine⟨hS,?_⟩
               refine wpAnyH_all (rs:=[12]) (by kernel_rfl) (by simp) ?_
               intro kk hkk
               simp only [List.mem_singleton] at hkk
               subst hkk
               go_simp
               refine wpOp_appRun rfl (by kernel_rfl) _ _ _ rfl (.slice S7 n7 c7) (.slice (some ⟨W7.heap.size,0,none⟩) 1 1) (by go_simp) (by go_simp) _ w8 hrun8 ?_
               have hS:=hQ8
               refine⟨hS,?_⟩
               refine wpAnyH_all (rs:=[13]) (by kernel_rfl) (by simp) ?_
               intro kk hkk
               simp only [List.mem_singleton] at hkk
               subst hkk
               go_simp
               refine wpOp_store rfl (by kernel_rfl) w9 (by go_simp) ?_
               have hS:=hQ9
               refine⟨hS,?_⟩
               refine wpAnyH_done (by kernel_rfl) ?_ _
               go_simp
               go_wp2_with fail
               obtain⟨h1,h2,h3,h4,h5⟩:=Hend.out
               exact⟨⟨i+1,_,by go_num,by omega,h1,h2,h3,h4,h5⟩,by simp [intOf];omega⟩
           · obtain rfl:i=gn:=by omega
             have hrows1:RowsT ns gs (bm+2) ft wr:=by
              have h:=hrows
              rw [List.take_of_length_le (by rw [Hgn.out];exact Nat.le_refl _)] at h
              exact h
             have hbelW:Below w.heap.size w wr:=Hbel4.out.trans (hbel4r.mono Hbel4.out.size)
             have hs4r:=hbel4r.size
             have hX1:=HX14.out.below hbel4r (by omega)
             have hX2:=HX24.out.below hbel4r (by omega)
             have hTx:TxB wr (bm+1) bm ns gs:=by
              refine⟨by unfold World.cell?;rw [hbx];rfl,by omega,by omega,i,ft,hmt,fun k=>?_⟩
              obtain⟨S,c,e1,e2⟩:=hrows1.1 k
              exact⟨S,c,e1,Sl.of_own e2⟩
             obtain⟨W10,hW10⟩:∃ W10,W10=((wr.alloc (.cells #[.int .i64 0] 3)).alloc (.cells #[.int .i64 0] 27)).alloc (.cells #[.func (.func 21) #[] #[.pointer (some ⟨bm+1,0,none⟩),.pointer (some ⟨wr.heap.size,0,none⟩),.pointer (some ⟨wr.heap.size+1,0,none⟩),.pointer (some ⟨wr.heap.size+1+1,0,none⟩)]] 50):=⟨_,rfl⟩
             have hb10:Below wr.heap.size wr W10:=by rw [hW10];exact(((Below.refl _ wr).alloc (Nat.le_refl _) _).alloc (by simp) _).alloc (by simp;omega) _
             have HBo:=Lib.hid (And.intro hb10.os (And.intro hb10.tape hb10.output))
             have hs10:W10.heap.size=wr.heap.size+3:=by rw [hW10];simp
             have hRB:RB wr W10 (bm+1) wr.heap.size (wr.heap.size+1) (wr.heap.size+1+1) (wr.heap.size+3) 0 0:=by
              have e0:=heap_alloc_new wr (.cells #[.int .i64 0] 3)
              have e1:=heap_alloc_new (wr.alloc (.cells #[.int .i64 0] 3)) (.cells #[.int .i64 0] 27)
              have e2:=heap_alloc_new ((wr.alloc (.cells #[.int .i64 0] 3)).alloc (.cells #[.int .i64 0] 27)) (.cells #[.func (.func 21) #[] #[.pointer (some ⟨bm+1,0,none⟩),.pointer (some ⟨wr.heap.size,0,none⟩),.pointer (some ⟨wr.heap.size+1,0,none⟩),.pointer (some ⟨wr.heap.size+1+1,0,none⟩)]] 50)
              have q1:(wr.alloc (.cells #[.int .i64 0] 3)).heap.size=wr.heap.size+1:=by simp
              have q2:((wr.alloc (.cells #[.int .i64 0] 3)).alloc (.cells #[.int .i64 0] 27)).heap.size=wr.heap.size+1+1:=by simp
              rw [q1] at e1
              rw [q2] at e2
              refine⟨?_,?_,?_,hb10,Nat.le_refl _,by omega,by omega,by omega,by omega,by omega,by omega,by omega,by omega,by omega⟩
              · rw [hW10,Lib.alloc_old _ _ _ (by rw [q2];omega),Lib.alloc_old _ _ _ (by rw [q1];omega)];exact e0
              · rw [hW10,Lib.alloc_old _ _ _ (by rw [q2];omega)];exact e1
              · rw [hW10];exact e2
             have hrec:=renamed2_any wr (HM.out.below hbelW) (bm+1) bm wr.heap.size (wr.heap.size+1) (wr.heap.size+1+1) (wr.heap.size+3) ns gs Hgood.out Hgcap.out hTx w.heap.size hbelW.size (flatD p).length p _ 0 0 W10 (Nat.le_refl _) (Hp.out.below hbelW) Hbod.out (by omega) hRB
             have hfun:W10.cell? ⟨wr.heap.size+1+1,0,none⟩=some (.func (.func 21) #[] #[.pointer (some ⟨bm+1,0,none⟩),.pointer (some ⟨wr.heap.size,0,none⟩),.pointer (some ⟨wr.heap.size+1,0,none⟩),.pointer (some ⟨wr.heap.size+1+1,0,none⟩)]):=hRB.cells.2.2
             have hbel10:=hbelW.trans (hb10.mono hbelW.size)
             have hX10:=hX1.below hb10 (by omega)
             have hX20:=hX2.below hb10 (by omega)
             obtain⟨rr,er,hrr⟩:∃ rr er,renD ns gs p 0 0=(rr,er):=⟨_,_,rfl⟩
             have hr4:=HR4.out
             rw [hrr] at hrec hr4
             simp only at hrec hr4
             have HR5:=Lib.hid hr4
             have Hrec:=Lib.hid hrec
             have HX20:=Lib.hid hX20
             have Hbel10:=Lib.hid hbel10
             have hs2w:w.heap.size+2≤wr.heap.size:=by omega
             clear hrec hRB hTx hrows1 hrows hmt hbx hbelT hbelW hbel4r hX1 hX2 hb10 hX20 hbel10 hrr hr4 HR4 hin
             go_upto_region 27 with fail
             rw [← hW10]
             clear hW10
             have⟨⟨x0,x1,x2,x3,x4,x5,x6⟩,_⟩:=hX10
             go_wp2_with fail
             refine Hrec.out.mono ?_
             rintro en w11 ⟨vr,rfl,hpt,hrb,hkp⟩
             obtain⟨Ar,cr,Ar2,cr2,rfl,_⟩:=hpt.open
             obtain⟨nr,hnr⟩:∃ y,y=rr.body.length:=⟨_,rfl⟩
             obtain⟨nr2,hnr2⟩:∃ y,y=rr.parts.length:=⟨_,rfl⟩
             rw [← hnr,← hnr2] at hpt ⊢
             have hbB:Below wr.heap.size W10 w11:=⟨hrb.2.2.2.1.os.trans HBo.out.1.symm,hrb.2.2.2.1.tape.trans HBo.out.2.1.symm,hrb.2.2.2.1.output.trans HBo.out.2.2.symm,hkp.1,fun b hb=>hkp.2 b (by omega) (by omega) (by omega)⟩
             have hbel11:=Hbel10.out.trans (hbB.mono (by omega))
             have hX21:=HX20.out.below hbB (by omega)
             have⟨_,⟨r2,r2f⟩,_⟩:=hrb.cells
             obtain⟨W12,hW12⟩:∃ W12,W12=w11.alloc (.cells #[str rr.type,str rr.cs,str rr.id,str rr.loc,.int .i64 rr.how,.slice Ar nr cr,.slice Ar2 nr2 cr2] 25):=⟨_,rfl⟩
             have hb12:Below w11.heap.size w11 W12:=by rw [hW12];exact(Below.refl _ _).alloc (Nat.le_refl _) _
             have hbx12:Box7 W12 w11.heap.size (str rr.type) (str rr.cs) (str rr.id) (str rr.loc) (.int .i64 rr.how) (.slice Ar nr cr) (.slice Ar2 nr2 cr2):=by rw [hW12];exact Box7.new w11 _ _ _ _ _ _ _ _
             have hbe11:wr.heap.size+1 < w11.heap.size:=by have:=hkp.1;omega
             have r2':=(hb12.cell (p:=⟨wr.heap.size+1,0,none⟩) hbe11).trans r2
             have hbel12:=hbel11.trans (hb12.mono hbel11.size)
             have hX22:=hX21.below hb12 (by omega)
             have hs12:w11.heap.size < W12.heap.size:=by rw [hW12];simp
             have hpt12:=PartAt.change (S':=fun b=>b < W12.heap.size∧b≠w.heap.size+1) (w':=W12) (fun b hb=>by rcases hb with hb | hb <;> constructor <;> omega) (fun a ha=>hb12.cell (by have:=hkp.1;rcases ha with ha | ha <;> omega)) _ _ hpt
             have Hpt12:=Lib.hid hpt12
             have Hbel12:=Lib.hid hbel12
             have HX22:=Lib.hid hX22
             have Hbx12:=Lib.hid hbx12
             clear x0 x1 x2 x3 x4 x5 x6 hX10 hfun Hrec hpt hrb hkp hbB hbel11 hX21 r2 r2f hb12 hbx12 hbel12 hX22 hpt12 hnr hnr2
             go_upto_region 28 with fail
             rw [← hW12]
             clear hW12
             by_cases hK0:er≠0
             · have dK:((er:Int) != 0)=true:=by simp;omega
               have hr:=HR5.out
               rw [if_neg hK0] at hr
               have Hr:=Lib.hid hr
               clear hr hK0
               try clear x0 x1 x2 x3 x4 x5 x6
               go_wp2_with fail
               refine(bad1_any er _).mono ?_
               rintro en w9 ⟨rfl,hb9⟩
               have hX9:=(HX22.out).below hb9 (by omega)
               have hbel9:=(Hbel12.out).trans (hb9.mono (Hbel12.out).size)
               have hbx:=BoxF.set7 (w:=w9) (b:=w.heap.size+1) hX9 (.string ⟨#[]⟩) (.string ⟨#[]⟩) (.string ⟨#[]⟩) (.string ⟨#[]⟩) (.int .i64 0) (.slice none 0 0) (.slice none 0 0)
               have hbs:=below_seven hbel9 (b:=w.heap.size+1) (by omega) (.string ⟨#[]⟩) (.string ⟨#[]⟩) (.string ⟨#[]⟩) (.string ⟨#[]⟩) (.int .i64 0) (.slice none 0 0) (.slice none 0 0)
               have⟨⟨z0,z1,z2,z3,z4,z5,z6⟩,zf⟩:=hX9
               go_wp2_with fail
               generalize hwz:(((((((w9).setCell ⟨w.heap.size+1,0,none⟩ (.string ⟨#[]⟩)).setCell ⟨w.heap.size+1,1,none⟩ (.string ⟨#[]⟩)).setCell ⟨w.heap.size+1,2,none⟩ (.string ⟨#[]⟩)).setCell ⟨w.heap.size+1,3,none⟩ (.string ⟨#[]⟩)).setCell ⟨w.heap.size+1,4,none⟩ (.int .i64 0)).setCell ⟨w.heap.size+1,5,none⟩ (.slice none 0 0)).setCell ⟨w.heap.size+1,6,none⟩ (.slice none 0 0)=wz at hbx hbs
               clear hwz
               obtain⟨c0,c1,c2,c3,c4,c5,c6⟩:=hbx
               refine bodyPost_ret (v:=.tuple #[.agg #[.string ⟨#[]⟩,.string ⟨#[]⟩,.string ⟨#[]⟩,.string ⟨#[]⟩,.int .i64 0,.slice none 0 0,.slice none 0 0],.int .i64 (er:Nat)]) (by simp [results,Tryz.results5,go_sem,c0,c1,c2,c3,c4,c5,c6]) rfl ?_
               rw [(Hr).out]
               exact⟨_,rfl,zero_cells _,hbs⟩
             · obtain rfl:er=0:=by omega
               have hr:=HR5.out
               rw [if_pos rfl] at hr
               have Hr:=Lib.hid hr
               clear hr hK0
               have hbx:=BoxF.set7 (w:=W12) (b:=w.heap.size+1) HX22.out (str rr.type) (str rr.cs) (str rr.id) (str rr.loc) (.int .i64 rr.how) (.slice Ar nr cr) (.slice Ar2 nr2 cr2)
               have hbs:=below_seven Hbel12.out (b:=w.heap.size+1) (by omega) (str rr.type) (str rr.cs) (str rr.id) (str rr.loc) (.int .i64 rr.how) (.slice Ar nr cr) (.slice Ar2 nr2 cr2)
               have hfar:∀ b,b≠w.heap.size+1→((((((((W12).setCell ⟨w.heap.size+1,0,none⟩ (str rr.type)).setCell ⟨w.heap.size+1,1,none⟩ (str rr.cs)).setCell ⟨w.heap.size+1,2,none⟩ (str rr.id)).setCell ⟨w.heap.size+1,3,none⟩ (str rr.loc)).setCell ⟨w.heap.size+1,4,none⟩ (.int .i64 rr.how)).setCell ⟨w.heap.size+1,5,none⟩ (.slice Ar nr cr)).setCell ⟨w.heap.size+1,6,none⟩ (.slice Ar2 nr2 cr2)).heap[b]? = W12.heap[b]?:=by
                intro b hb
                repeat rw [Below.heap_setCell _ _ _ _ (by assumption)]
               have hsz:((((((((W12).setCell ⟨w.heap.size+1,0,none⟩ (str rr.type)).setCell ⟨w.heap.size+1,1,none⟩ (str rr.cs)).setCell ⟨w.heap.size+1,2,none⟩ (str rr.id)).setCell ⟨w.heap.size+1,3,none⟩ (str rr.loc)).setCell ⟨w.heap.size+1,4,none⟩ (.int .i64 rr.how)).setCell ⟨w.heap.size+1,5,none⟩ (.slice Ar nr cr)).setCell ⟨w.heap.size+1,6,none⟩ (.slice Ar2 nr2 cr2)).heap.size=W12.heap.size:=by simp [World.setCell]
               have⟨⟨z0,z1,z2,z3,z4,z5,z6⟩,zf⟩:=HX22.out
               have⟨y0,y1,y2,y3,y4,y5,y6⟩:=Hbx12.out
               have Hbs:=Lib.hid (And.intro hbs (And.intro hfar hsz))
               have Hbx:=Lib.hid hbx
               clear hbx hbs hfar hsz
               go_wp2_with fail
               have hbx:=Hbx.out
               obtain⟨hbs,hfar,hsz⟩:=Hbs.out
               generalize (((((((W12).setCell ⟨w.heap.size+1,0,none⟩ (str rr.type)).setCell ⟨w.heap.size+1,1,none⟩ (str rr.cs)).setCell ⟨w.heap.size+1,2,none⟩ (str rr.id)).setCell ⟨w.heap.size+1,3,none⟩ (str rr.loc)).setCell ⟨w.heap.size+1,4,none⟩ (.int .i64 rr.how)).setCell ⟨w.heap.size+1,5,none⟩ (.slice Ar nr cr)).setCell ⟨w.heap.size+1,6,none⟩ (.slice Ar2 nr2 cr2)=wz at hbx hbs hfar hsz ⊢
               obtain⟨c0,c1,c2',c3,c4,c5,c6⟩:=hbx
               refine bodyPost_ret (v:=.tuple #[.agg #[str rr.type,str rr.cs,str rr.id,str rr.loc,.int .i64 rr.how,.slice Ar nr cr,.slice Ar2 nr2 cr2],.int .i64 ((0:Nat):Int)]) (by simp [results,Tryz.results5,go_sem,c0,c1,c2',c3,c4,c5,c6]) rfl ?_
               rw [Hr.out]
               exact⟨_,rfl,PartAt.change (fun b hb=>by rw [hsz];exact hb.1) (fun a ha=>World.cell?_of_block (hfar _ ha.2)) _ _ Hpt12.out,hbs⟩
def pngN:List NameD:=[⟨2,[112,46,112,110,103]⟩]
def pageT:List UInt8:=[60,97,32,104,114,101,102,61,39,112,46,112,110,103,39,62,60,105,109,103,32,83,82,67,61,112,46,112,110,103,62,60,97,32,104,114,101,102,61,35,100,62]
theorem small_names:(namesE smallD pngN).2=0∧(namesE smallD pngN).1.parts.map (·.body) = [pageT,[1,2,3]]:=⟨by kernel_rfl,by kernel_rfl⟩
theorem png_ok:NamesOk pngN:=by
 intro x hx
 rw [List.mem_singleton.1 hx]
 refine⟨by decide,by decide,by decide⟩
theorem renamed_any (w:World) (hM:MaxLenOk w):Calls Tryz.prog 6 #[] w fun e w'=>e = .returned (.bool true)∧Below w.heap.size w w':=by
 have HM:=Lib.hid hM
 clear hM
 obtain⟨hn0,hnb⟩:=small_names
 have hnm:=fun(W:World) v h1 h2 h3=>Names_any smallD v (some ⟨W.heap.size,0,none⟩) 1 1 pngN (W.alloc (.cells #[.int .i64 2,.string ⟨#[112,46,112,110,103]⟩] 57)) h1 h2 h3 (Nat.le_refl _) (by decide) png_ok
 unfold NamesOut at hnm
 generalize namesE smallD pngN=G at *
 obtain⟨q,ge⟩:=G
 simp only at hn0 hnb
 subst hn0
 simp only at hnm
 have Hnm:=Lib.hid hnm
 have Hnb:=Lib.hid hnb
 clear hnm hnb
 go_enter Tryz.func6,Tryz.ntmps6
 go_wp2_with fail
 refine(smallP_any _).mono ?_
 rintro e w1 ⟨v1,rfl,hp1,hb1⟩
 have hal:=(Below.refl w1.heap.size w1).alloc (Nat.le_refl _) (.cells #[.int .i64 2,.string ⟨#[112,46,112,110,103]⟩] 57)
 have hb2:=hb1.trans (hal.mono hb1.size)
 have hnw:=Hnm.out w1 v1 (HM.out.below hb2) ((hp1.below hal).more hal.size) (Sl.more (Sl.row w1 57 2 1 [.int .i64 2,.string ⟨#[112,46,112,110,103]⟩] rfl) (by simp))
 have Hnw:=Lib.hid hnw
 have Hb2:=Lib.hid hb2
 clear hnw hb2 hal hp1 hb1 Hnm
 go_wp2_with fail
 refine Hnw.out.mono ?_
 rintro e w3 ⟨v3,rfl,hp3',hb3⟩
 have hp3:=PartAt.change (S':=fun b=>b < w3.heap.size) (fun b hb=>hb.2) (fun _ _=>rfl) _ _ hp3'
 clear hp3'
 obtain⟨A,c,A2,c2,rfl,_,_,_,_,hP,_,_⟩:=hp3.open
 have hpl:q.parts.length=2:=by have:=congrArg List.length Hnb.out;simpa using this
 rw [hpl] at hP ⊢
 obtain⟨b,off,x,A',n',c',A2',n2',c2',rfl,hbS,hq,hqa,x0,x1,x2,x3,x4,x5,x6⟩:=hP.cells7 (i:=0) (by omega)
 have hxb:x.body=pageT:=by
  have h1:=Hnb.out
  rw [List.drop_zero] at hq
  rw [hq,List.map_cons] at h1
  injection h1
 obtain⟨A9,c9,A8,c8,hv,_,hby,_⟩:=hqa.open
 have hv5:A'=A9∧n'=x.body.length:=by
  simp only [List.cons.injEq,and_true] at hv
  obtain⟨_,_,_,_,_,h5,_⟩:=hv
  injection h5 with h5 h6 h7
  exact⟨h5,h6⟩
 obtain⟨rfl,rfl⟩:=hv5
 rw [hxb] at hby x5
 have hbyl:=hby.sl
 have hb4:=Hb2.out.trans (hb3.mono Hb2.out.size)
 obtain⟨W,hW⟩:∃ W,W=w3.alloc (.cells #[str q.type,str q.cs,str q.id,str q.loc,.int .i64 q.how,.slice A q.body.length c,.slice (some ⟨b,off,none⟩) 2 c2] 25):=⟨_,rfl⟩
 have hbA:Below w3.heap.size w3 W:=by rw [hW];exact(Below.refl _ _).alloc (Nat.le_refl _) _
 have hX:Box7 W w3.heap.size (str q.type) (str q.cs) (str q.id) (str q.loc) (.int .i64 q.how) (.slice A q.body.length c) (.slice (some ⟨b,off,none⟩) 2 c2):=by rw [hW];exact Box7.new w3 _ _ _ _ _ _ _ _
 have⟨y0,y1,y2,y3,y4,y5,y6⟩:=hX
 have z5:W.cell? ⟨b,off+5,none⟩=some (.slice A' pageT.length c'):=by
  rw [hbA.cell (by exact hbS)]
  simpa using x5
 have hbw:By W w3.heap.size A' pageT.length pageT:=Sl.below hbyl hbA
 have hcv:=run_toStr (P:=Tryz.prog) W 22 9 5 w3.heap.size A' pageT.length c' pageT hbw Tryz.underlying22 Tryz.underlying5 Tryz.underlying9
 have Hb5:=Lib.hid (hb4.trans (hbA.mono hb4.size))
 clear hb4 hbA hX hby hbyl hbw hq hqa hv hxb x0 x1 x2 x3 x4 x5 x6 hP hp3 hb3 hbS
 go_upto_region 2 with fail
 rw [← hW]
 clear hW
 go_wp2_with fail
 go_ret
 exact⟨rfl,Hb5.out⟩
theorem drop_get {ps:List PartD} {i:Nat} {p:PartD} (h:ps.drop i=p :: ps.drop (i+1)):ps[i]? = some p:=by
 have:=congrArg (fun l=>l[0]?) h
 simpa using this
end Go.Proofs.YtlgbopjhmemaoaaGreatDoor
namespace Go.Proofs.YtlgbopjhmemaoaaGreatDoor
/-- The 64 letters. -/
def letters:List UInt8:=[65,66,67,68,69,70,71,72,73,74,75,76,77,78,79,80,81,82,83,84,85,86,87,88,89,90,97,98,99,100,101,102,103,104,105,106,107,108,109,110,111,112,113,114,115,116,117,118,119,120,121,122,48,49,50,51,52,53,54,55,56,57,43,47]
/-- Three bytes as one number; what lacks is 0. -/
def val3 (l:List UInt8):Nat:=nth l 0 * 65536+nth l 1 * 256+nth l 2
/-- Letter i of four, of n bytes with the number v. -/
def quadL (n v i:Nat):UInt8:=if n < i then 61 else letters.getD (v / 2 ^ (18 - 6 * i) % 64) 0
def quad (l:List UInt8):List UInt8:=(List.range 4).map (quadL (min 3 l.length) (val3 l))
def brk (wide:Nat):List UInt8:=if wide=76 then [13,10] else []
def after (wide:Nat):Nat:=if wide=76 then 4 else wide+4
/-- base.Text, where so many letters stand in the line already. -/
def enc (wide:Nat) (l:List UInt8):List UInt8:=
 match l with
 | []=>[]
 | a :: t=>brk wide ++ quad (a :: t) ++ enc (after wide) (t.drop 2)
termination_by l.length
decreasing_by simp;omega
end Go.Proofs.YtlgbopjhmemaoaaGreatDoor
namespace Go.Proofs.YtlgbopjhmemaoaaGreatDoor
open Go.RowKit
/-- 'b[k:]' at []byte. -/
theorem cut_bytes (w:World) (A:Option Addr) (n c:Nat) (ki:IntKind) (k:Int) (h0:0≤k) (h1:k≤n) :
 (Instr.slice 22 (.slice A n c) (some (.int ki k)) none none).run Tryz.prog w = .ok (.slice (cutA A c k.toNat 1) (n - k.toNat) (c - k.toNat)) w:=
 run_cut w _ _ 1 Tryz.underlying22 (Tryz.sizeOf5 w) A n c ki k h0 h1
attribute [local go_sem high] cut_bytes
theorem take_step (l l':List UInt8) (k:Nat) (h:k < l.length) (h':k < l'.length) (ht:l.take k=l'.take k) (hn:nth l k=nth l' k):l.take (k+1)=l'.take (k+1):=by
 rw [List.take_succ_eq_append_getElem h,List.take_succ_eq_append_getElem h',ht]
 rw [nth_of l k h,nth_of l' k h'] at hn
 rw [UInt8.toNat_inj.1 hn]
theorem ne_of_nth (l l':List UInt8) (k:Nat) (hn:nth l k≠nth l' k):(l == l')=false:=by
 rw [beq_eq_false_iff_ne];rintro rfl;exact hn rfl
theorem Equal_bytes (A A':Option Addr) (n c n' c':Nat) (B B':Nat) (l l':List UInt8) (w:World) (hb:By w B A n l) (hb':By w B' A' n' l') (hm:n≤maxLen) :
 Calls Tryz.prog 26 #[.slice A n c,.slice A' n' c'] w fun e w'=>e = .returned (.bool (l == l'))∧∃ q,w'=w.drewN q:=by
 unfold maxLen at hm
 by_cases hnn:n=n'
 · subst hnn
   have hl:=hb.len
   have hl':=hb'.len
   have Hl:=Lib.hid hl;have Hl':=Lib.hid hl'
   clear hl hl'
   go_enter Tryz.func26,Tryz.ntmps26
   go_wp2_with fail
   go_loopw [13] (fun iv wr=>∃ k q:Nat,k≤n∧iv = .int .i64 k∧Hid (l.take k=l'.take k)∧wr=w.drewN q) (fun iv _=>n - (intOf iv).toNat)
   case atStart=>exact⟨0,0,by omega,rfl,rfl,rfl⟩
   case round =>
    obtain⟨k,q,hk,rfl,ht,rfl⟩:=hrel
    by_cases hkn:k < n
    · obtain⟨b,off,rfl,_,hc⟩:=hb.at_ hkn
      obtain⟨b',off',rfl,_,hc'⟩:=hb'.at_ hkn
      by_cases hx:nth l k=nth l' k
      · have hd:((nth l k:Int) != (nth l' k:Int))=false:=by simp [hx]
        have Hx:=Lib.hid hx;clear hx
        go_wp2_with fail
        go_quiet (fail)
        go_wp2_with fail
        exact⟨⟨k+1,_,by omega,by go_num,take_step l l' k (by rw [Hl.out];exact hkn) (by rw [Hl'.out];exact hkn) ht.out Hx.out,rfl⟩,by simp [intOf];omega⟩
      · have hd:((nth l k:Int) != (nth l' k:Int))=true:=by simp;omega
        have Hx:=Lib.hid (ne_of_nth l l' k hx)
        clear hx
        go_wp2_with fail
        go_quiet (fail)
        go_wp2_with fail
        go_ret
        exact⟨by rw [Hx.out];rfl,_,World.drewN_drewN _ _ _⟩
    · go_wp2_with fail
      go_ret
      have:l=l':=by
       have h:=ht.out
       rwa [List.take_of_length_le (by rw [Hl.out];omega),List.take_of_length_le (by rw [Hl'.out];omega)] at h
      exact⟨by rw [this];simp,_,rfl⟩
 · have hd:((n:Int) != (n':Int))=true:=by simp;omega
   have hll:(l == l')=false:=by
    rw [beq_eq_false_iff_ne]
    rintro rfl
    exact hnn (hb.len.symm.trans hb'.len)
   have Hll:=Lib.hid hll;clear hll
   go_enter Tryz.func26,Tryz.ntmps26
   go_wp2_with fail
   go_ret
   exact⟨by rw [Hll.out];rfl,0,rfl⟩
end Go.Proofs.YtlgbopjhmemaoaaGreatDoor
namespace Go.Proofs.YtlgbopjhmemaoaaGreatDoor
open Go.RowKit
end Go.Proofs.YtlgbopjhmemaoaaGreatDoor
