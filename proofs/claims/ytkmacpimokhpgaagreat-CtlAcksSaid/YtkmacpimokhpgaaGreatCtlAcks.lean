/- The law CtlAcks of package magnetolaw10 returns true for every input, and its arguments read as before. -/
import Derived.Test.YtkmacpimokhpgaaGreatCtl3
import Derived.ProofKit
set_option linter.unusedVariables false
set_option linter.unusedSimpArgs false
open Go Go.AM
namespace Go.AM.R1
/-! ### An overload -/
theorem step_wait {n:Nd} (h:n.mode=6) (b:Bool):stepN n b=noFr (waitN n b):=by unfold stepN;rw [h];rfl
theorem step_close {n:Nd} (h:n.mode=7) (b:Bool):stepN n b=noFr (closeN n b):=by unfold stepN;rw [h];rfl
theorem ev_no {n:Nd} {b:Bool} {m:Nd} (e:stepN n b=noFr ([],m)):evN n b=[]∧nxN n b=m:=by
  unfold evN nxN;rw [e];exact ⟨rfl,rfl⟩
/-- Behind the levels 1 that follow. -/
def clN (n:Nd) (j:Nat):Nd:=if j<8 then { n with mode:=7,k:=j } else if j<11 then { n with mode:=8,k:=j - 8 } else { n with mode:=1,k:=0 }
theorem wait_true {n:Nd} (hm:n.mode=6):evN n true=[]∧nxN n true=clN n 1:=by
  refine ev_no ?_
  rw [step_wait hm];congr 1
end Go.AM.R1
open Go Go.AM
namespace Go.AM.R1
/-! ### A row, to its end: a sender -/
theorem snd_start {n:Nd} (hm:n.mode=1) {g:Fr} {l:List Fr} (hq:n.q=g::l):drN n=false∧evN n false=[]∧nxN n false=startN n true:=by
  have st:stepN n false=noFr ([],startN n true):=by
    unfold stepN;rw [hm];show noFr (idleN n false)=_
    unfold idleN;rw [if_pos rfl,hq];rfl
  exact ⟨by unfold drN;rw [if_pos hm,hq];rfl,(ev_no st).1,(ev_no st).2⟩
theorem snd_stuff {n:Nd} (hm:n.mode=1) {g:Fr} {l:List Fr} (hq:n.q=g::l) (hc:checkP g=0):∃ c r,r<5∧Chk (FedP true) 0 n (stuffP (sentP g)) (rdN (startN n true) (sentP g) c r):=by
  obtain ⟨t,ht⟩:=sent_head g
  obtain ⟨s1,s2,s3⟩:=snd_start hm hq
  obtain ⟨c,r,h0,h5,h⟩:=feedN hc (n:=startN n true) rfl (fun _=>by show (if true=true then allP (n.q.head?.getD Fr.zero) else n.row)=allP g;rw [if_pos rfl,hq]<;>rfl) t [false] false 1 1 (by rw [ht];rfl) (by omega) (by omega)
  refine ⟨c,r,h5,?_⟩
  rw [stuff_head ht]
  refine ⟨⟨by rw [s1];rfl,s2⟩,?_⟩
  rw [s3]
  exact h
theorem tx_fr {n:Nd} (hs:n.sends=true) {p:List Bool} {c:Bool} {r:Nat} (h5:¬ r=5) {x:Bool} (hr:n.row[p.length]?=some x):frL (rdN n p c r)=x:=by
  unfold frL
  show (if n.sends=true then (if r=5 then _ else (n.row[p.length]?).getD true) else _)=_
  rw [if_pos hs,if_neg h5,hr];rfl
theorem tx_take {n:Nd} {p:List Bool} {c:Bool} {r:Nat} (h5:¬ r=5) (hk:4<(nextF p).1) (b:Bool):(takeN (rdN n p c r) b).2=rdN n (p++[b]) c 0:=by
  unfold takeN
  rw [if_neg (show ¬ (rdN n p c r).run=5 from h5),if_pos (show 4<(nextF (rdN n p c r).raw).1 from hk)]
  rfl
theorem tx_true {n:Nd} (hm:n.mode=2) (hs:n.sends=true) {p:List Bool} {c:Bool} {r:Nat} (h5:¬ r=5) (hr:n.row[p.length]?=some true) (hk:4<(nextF p).1) (h6:¬ (nextF p).1=6) (h86:¬ nextF p=(8,6)) :
    drN (rdN n p c r)=true∧evN (rdN n p c r) true=[]∧nxN (rdN n p c r) true=rdN n (p++[true]) c 0:=by
  obtain ⟨e1,e2,e3⟩:=step_in (n:=rdN n p c r) hm true
  have hin:inN (rdN n p c r) true=([],Fr.zero,(takeN (rdN n p c r) true).2):=by
    unfold inN
    rw [if_pos (show (rdN n p c r).sends=true from hs),tx_fr hs h5 hr,if_pos rfl,if_neg (show ¬ ((rdN n p c r).run≠5∧(nextF (rdN n p c r).raw).1=6) from fun q=>h6 q.2),if_neg (show ¬ ((rdN n p c r).run≠5∧nextF (rdN n p c r).raw=(8,6)) from fun q=>h86 q.2)]
  rw [hin] at e1 e2
  exact ⟨by rw [e3];exact tx_fr hs h5 hr,by rw [e1];rfl,by rw [e2];exact tx_take h5 hk true⟩
theorem tx_nack {n:Nd} (hm:n.mode=2) (hs:n.sends=true) {p:List Bool} {c:Bool} {r:Nat} (h5:¬ r=5) (hr:n.row[p.length]?=some true) (hk:(nextF p).1=6) :
    drN (rdN n p c r)=true∧evN (rdN n p c r) true=evsOf (nackN (rdN n p c r)).1 Fr.zero∧nxN (rdN n p c r) true=(nackN (rdN n p c r)).2:=by
  obtain ⟨e1,e2,e3⟩:=step_in (n:=rdN n p c r) hm true
  have hin:inN (rdN n p c r) true=((nackN (rdN n p c r)).1,Fr.zero,(nackN (rdN n p c r)).2):=by
    unfold inN
    rw [if_pos (show (rdN n p c r).sends=true from hs),tx_fr hs h5 hr,if_pos rfl,if_pos (show (rdN n p c r).run≠5∧(nextF (rdN n p c r).raw).1=6 from ⟨h5,hk⟩)]
  rw [hin] at e1 e2
  exact ⟨by rw [e3];exact tx_fr hs h5 hr,e1,e2⟩
/-- Levels that a node drives, and nothing happens. -/
def AP (_:Nat) (n:Nd) (b:Bool):Prop:=drN n=b∧evN n b=[]
/-- .. but for the slot. -/
def NckP (S:Nat) (i:Nat) (n:Nd) (b:Bool):Prop:=drN n=b∧evN n b=if i=S+1 then [(8,Fr.zero)] else []
theorem fed_ap {i:Nat} {n:Nd} {b:Bool} (h:FedP true i n b):AP i n b:=⟨by rw [h.1,if_pos rfl],h.2⟩
theorem row_tail {g:Fr} {n:Nd} (hrow:n.row=allP g) (t:List Bool) (ht:t.length<10):n.row[(sentP g++t).length]?=some true:=by
  rw [hrow,allP_sent,List.length_append,List.getElem?_append_right (by omega),Nat.add_sub_cancel_left,List.getElem?_replicate,if_pos ht]
/-- Behind a row that nobody acknowledges. -/
theorem nack_row {n:Nd} (hm:n.mode=1) {g:Fr} {l:List Fr} (hq:n.q=g::l) (hc:checkP g=0) (t:Nat) (hct:n.ct=⟨t,0,false⟩) (ht:t≤128) :
    ∃ m,Chk (NckP (stuffP (sentP g)).length) 0 n (stuffP (sentP g)++[true,true]) m∧m.mode=(if t≤127 then 3 else 4)∧m.k=0∧m.tx=true∧m.q=n.q∧m.ct=⟨if t≤127 then t+8 else t,0,false⟩:=by
  obtain ⟨c,r,h5,h⟩:=snd_stuff hm hq hc
  have hrow:(startN n true).row=allP g:=by show (if true=true then allP (n.q.head?.getD Fr.zero) else n.row)=allP g;rw [if_pos rfl,hq]<;>rfl
  have r0:=row_tail (n:=startN n true) hrow [] (by simp)
  have r1:=row_tail (n:=startN n true) hrow [true] (by simp)
  rw [List.append_nil] at r0
  have n0:=nextF_sent g hc [] (by simp)
  rw [List.append_nil] at n0
  simp at n0
  have n1:=nextF_sent g hc [true] (by simp)
  simp at n1
  obtain ⟨a1,a2,a3⟩:=tx_true (n:=startN n true) rfl rfl (p:=sentP g) (c:=c) (r:=r) (by omega) r0 (by rw [n0];decide) (by rw [n0];decide) (by rw [n0];decide)
  obtain ⟨b1,b2,b3⟩:=tx_nack (n:=startN n true) rfl rfl (p:=sentP g++[true]) (c:=c) (r:=0) (by omega) r1 (by rw [n1])
  have hN:(nackN (rdN (startN n true) (sentP g++[true]) c 0)).1=[8]∧(nackN (rdN (startN n true) (sentP g++[true]) c 0)).2.mode=(if t≤127 then 3 else 4)∧(nackN (rdN (startN n true) (sentP g++[true]) c 0)).2.k=0∧(nackN (rdN (startN n true) (sentP g++[true]) c 0)).2.tx=true∧(nackN (rdN (startN n true) (sentP g++[true]) c 0)).2.q=n.q∧(nackN (rdN (startN n true) (sentP g++[true]) c 0)).2.ct=⟨if t≤127 then t+8 else t,0,false⟩:=by
    have e1:(rdN (startN n true) (sentP g++[true]) c 0).ct=⟨t,0,false⟩:=hct
    have e2:(rdN (startN n true) (sentP g++[true]) c 0).tx=true:=rfl
    have e3:(rdN (startN n true) (sentP g++[true]) c 0).q=n.q:=rfl
    generalize rdN (startN n true) (sentP g++[true]) c 0=m at *
    by_cases h1:t≤127
    · have s0:m.ct.state=0:=by rw [e1];unfold Ct.state;rw [if_neg (by simp),if_neg (by simp;omega)]
      have hch:chN m 1=(true,{ m with ct:=⟨t+8,0,false⟩ }):=by
        have:chCt m 1=⟨t+8,0,false⟩:=by unfold chCt;rw [if_pos e2,e1];unfold Ct.txE;rw [if_neg (by simp),if_neg (by show ¬ 247<t;omega)]
        unfold chN
        rw [this,if_neg]
        unfold Ct.state
        rw [if_neg (by simp)]
        split<;>decide
      unfold nackN failN
      rw [s0,hch,if_pos (.inl (by decide)),if_pos rfl,if_pos h1,if_pos h1]
      exact ⟨rfl,rfl,rfl,e2,e3,rfl⟩
    · have s0:m.ct.state=1:=by rw [e1];unfold Ct.state;rw [if_neg (by simp),if_pos (.inl (by show 127<t;omega))]
      unfold nackN failN
      rw [s0,if_neg (by rw [e2];simp),if_neg h1,if_neg h1]
      exact ⟨rfl,rfl,rfl,e2,e3,e1⟩
  refine ⟨_,chk_append _ (chk_mono _ ?_ h) ⟨⟨a1,?_⟩,?_⟩,hN.2⟩
  · intro j m b j1 j2 hj
    refine ⟨(fed_ap hj).1,?_⟩
    rw [hj.2,if_neg (by omega)]
  · rw [a2,if_neg (by omega)]
  · rw [a3]
    refine ⟨⟨b1,?_⟩,b3.symm⟩
    rw [b2,hN.1,if_pos (by omega)];rfl
theorem chk_rep {P:Nat→Nd→Bool→Prop} {b:Bool}:∀ (d i:Nat) (f:Nat→Nd),(∀ j,j<d→P (i+j) (f j) b∧nxN (f j) b=f (j+1))→Chk P i (f 0) (List.replicate d b) (f d)
  | 0,_,_,_=>rfl
  | d+1,i,f,h=>by
    rw [List.replicate_succ]
    have h0:=h 0 (by omega)
    refine ⟨h0.1,?_⟩
    rw [h0.2]
    refine chk_rep d (i+1) (fun j=>f (j+1)) fun j hj=>?_
    have:=h (j+1) (by omega)
    rwa [show i+(j+1)=i+1+j by omega] at this
theorem step_flag {n:Nd} (h:n.mode=3) (b:Bool):stepN n b=noFr (domN n b):=by unfold stepN;rw [h];rfl
theorem step_pas {n:Nd} (h:n.mode=4) (b:Bool):stepN n b=noFr (pasN n b):=by unfold stepN;rw [h];rfl
theorem chk_flag3 {n:Nd} (hm:n.mode=3) (hk:n.k=0) (i:Nat):Chk AP i n (List.replicate 6 false) { n with mode:=6,k:=0 }:=by
  have hs:∀ j,j<6→stepN { n with k:=j } false=noFr ([],if j+1=6 then { n with mode:=6,k:=0 } else { n with k:=j+1 }):=by
    intro j hj
    rw [step_flag (n:={ n with k:=j }) hm]
    unfold domN
    rw [if_pos rfl]
  have:=chk_rep (P:=AP) (b:=false) 6 i (fun j=>if j=6 then { n with mode:=6,k:=0 } else { n with k:=j }) fun j hj=>by
    have q:=ev_no (hs j hj)
    refine ⟨⟨?_,?_⟩,?_⟩
    · try simp only []
      rw [if_neg (by omega)]
      unfold drN;rw [if_neg (show ¬ n.mode=1 by omega),if_pos (show n.mode=3∨_ from .inl hm)]
    · try simp only []
      rw [if_neg (by omega)];exact q.1
    · try simp only []
      rw [if_neg (show ¬ j=6 by omega),q.2]
  have e0:{ n with k:=0 }=n:=by rw [← hk]
  try simp only [] at this
  rw [if_neg (by omega),e0,if_pos trivial] at this
  exact this
theorem chk_flag4 {n:Nd} (hm:n.mode=4) (hk:n.k=0) (i:Nat):Chk AP i n (List.replicate 6 true) { n with lvl:=true,mode:=6,k:=0 }:=by
  have hs:∀ j (m:Nd),m.mode=4→(j=0∨m.lvl=true)→m.k=j→stepN m true=noFr ([],if j+1=6 then { m with lvl:=true,mode:=6,k:=0 } else { m with k:=j+1,lvl:=true }):=by
    intro j m hm hl hk
    have hpk:pasK m true=j+1:=by
      unfold pasK
      rw [if_neg (by
        rintro ⟨q1,q2⟩
        rcases hl with q | q
        · omega
        · exact q2 q.symm),hk]
    rw [step_pas hm]
    unfold pasN
    rw [if_neg (by simp),hpk]
  have hd:∀ m:Nd,m.mode=4→drN m=true:=by
    intro m hm
    unfold drN;rw [if_neg (by omega),if_neg (by omega),if_neg (by omega)]
  have h:=chk_rep (P:=AP) (b:=true) 6 i (fun j=>if j=0 then n else if j=6 then { n with lvl:=true,mode:=6,k:=0 } else { n with k:=j,lvl:=true }) fun j hj=>by
    have e6:¬ j=6:=by omega
    by_cases h0:j=0
    · subst h0
      have q:=ev_no (hs 0 n hm (.inl rfl) hk)
      exact ⟨⟨hd n hm,q.1⟩,q.2⟩
    · have q:=ev_no (hs j { n with k:=j,lvl:=true } hm (.inr rfl) rfl)
      try simp only []
      rw [if_neg h0,if_neg e6]
      refine ⟨⟨hd { n with k:=j,lvl:=true } hm,q.1⟩,?_⟩
      rw [q.2,if_neg (show ¬ j+1=0 by omega)]
  exact h
theorem chk_behind {n:Nd} (hm:n.mode=6) (hq:n.q≠[]) (hl:∀ k,lateP { n with mode:=8,k:=k }=lateP n) (i:Nat) :
    Chk AP i n (List.replicate (if lateP n=true then 19 else 11) true) { n with mode:=1,k:=0 }:=by
  have hd:∀ m:Nd,6≤m.mode→drN m=true:=by
    intro m hm
    unfold drN;rw [if_neg (by omega),if_neg (by omega),if_neg (by omega)]
  have h1 : Chk AP i n (List.replicate 8 true) { n with mode:=8,k:=0 }:=by
    have h:=chk_rep (P:=AP) (b:=true) 8 i (fun j=>if j=0 then n else if j=8 then { n with mode:=8,k:=0 } else { n with mode:=7,k:=j }) fun j hj=>by
      by_cases h0:j=0
      · subst h0
        have q:=wait_true hm
        exact ⟨⟨hd n (by omega),q.1⟩,q.2⟩
      · try simp only []
        rw [if_neg h0,if_neg (show ¬ j=8 by omega),if_neg (show ¬ j+1=0 by omega)]
        have q:=ev_no (n:={ n with mode:=7,k:=j }) (b:=true) (m:=if j+1=8 then { n with mode:=8,k:=0 } else { n with mode:=7,k:=j+1 }) (by
          rw [step_close rfl];congr 1)
        exact ⟨⟨hd { n with mode:=7,k:=j } (show 6≤7 by omega),q.1⟩,q.2⟩
    exact h
  have h2:Chk AP (i+8) { n with mode:=8,k:=0 } (List.replicate 3 true) (if lateP n=true then { n with mode:=9,k:=0 } else { n with mode:=1,k:=0 }):=by
    have h:=chk_rep (P:=AP) (b:=true) 3 (i+8) (fun j=>if j=3 then (if lateP n=true then { n with mode:=9,k:=0 } else { n with mode:=1,k:=0 }) else { n with mode:=8,k:=j }) fun j hj=>by
      try simp only []
      rw [if_neg (show ¬ j=3 by omega)]
      have q:=ev_no (n:={ n with mode:=8,k:=j }) (b:=true) (m:=if j+1<3 then { n with mode:=8,k:=j+1 } else if lateP n=true then { n with mode:=9,k:=0 } else { n with mode:=1,k:=0 }) (by
        rw [step_pause rfl];congr 1)
      refine ⟨⟨hd { n with mode:=8,k:=j } (show 6≤8 by omega),q.1⟩,?_⟩
      rw [q.2]
      by_cases h3:j+1<3
      · rw [if_pos h3,if_neg (by omega)]
      · rw [if_neg h3,if_pos (show j+1=3 by omega)]
    exact h
  have h12:=chk_append _ h1 (by rw [List.length_replicate];exact h2)
  rw [List.replicate_append_replicate] at h12
  cases hlt:lateP n
  · rw [hlt] at h12
    exact h12
  · rw [hlt] at h12
    have h3:Chk AP (i+11) { n with mode:=9,k:=0 } (List.replicate 8 true) { n with mode:=1,k:=0 }:=by
      have h:=chk_rep (P:=AP) (b:=true) 8 (i+11) (fun j=>if j=8 then { n with mode:=1,k:=0 } else { n with mode:=9,k:=j }) fun j hj=>by
        try simp only []
        rw [if_neg (show ¬ j=8 by omega)]
        have q:=ev_no (n:={ n with mode:=9,k:=j }) (b:=true) (m:=if j+1=8 then { n with mode:=1,k:=0 } else { n with mode:=9,k:=j+1 }) (by
          show noFr (sspN { n with mode:=9,k:=j } true)=_
          rfl)
        exact ⟨⟨hd { n with mode:=9,k:=j } (show 6≤9 by omega),q.1⟩,q.2⟩
      exact h
    have h:=chk_append _ h12 (by rw [List.length_replicate];exact h3)
    rw [List.replicate_append_replicate] at h
    exact h
/-- A node alone with a frame, idle. -/
structure Ak (f:Fr) (t:Nat) (n:Nd):Prop where
  inv:n.Inv
  mode:n.mode=1
  q:n.q=[f]
  ct:n.ct=⟨t,0,false⟩
  k:n.k=0
/-- .. as it drives the flag. -/
structure AkF (f:Fr) (t:Nat) (md:Nat) (n:Nd):Prop where
  inv:n.Inv
  mode:n.mode=md
  tx:n.tx=true
  q:n.q=[f]
  ct:n.ct=⟨t,0,false⟩
  k:n.k=0
/-- One round. -/
theorem ak_round {f:Fr} (hc:checkP f=0) {t:Nat} {n:Nd} (ht:t≤128) (h:Ak f t n) (t2:Nat) (e:t2=if t≤127 then t+8 else t) :
    ∃ m m',Chk (NckP (stuffP (sentP f)).length) 0 n (stuffP (sentP f)++[true,true]) m∧AkF f t2 (if t≤127 then 3 else 4) m ∧
      Chk AP 0 m (List.replicate 6 (decide (¬ t≤127))++List.replicate (if t2≤127 then 11 else 19) true) m'∧Ak f t2 m':=by
  obtain ⟨m,c1,m1,m2,m3,m4,m5⟩:=nack_row h.mode (l:=[]) h.q hc t h.ct ht
  rw [← e] at m5
  have hI:=chk_inv _ h.inv c1
  have key:∀ x:Nd,x.mode=6→x.tx=true→x.q=[f]→x.ct=⟨t2,0,false⟩→Chk AP 6 x (List.replicate (if t2≤127 then 11 else 19) true) { x with mode:=1,k:=0 }:=by
    intro x x1 x2 x3 x4
    have hl:lateP x=decide (127<t2):=by
      unfold lateP
      rw [x2,x4]
      unfold Ct.state
      by_cases q:127<t2<;>simp [q]
    have h:=chk_behind x1 (by rw [x3];simp) (fun k=>rfl) 6
    rw [hl] at h
    by_cases q:t2≤127
    · rw [if_pos q];rw [if_neg (by simpa using q)] at h;exact h
    · rw [if_neg q];rw [if_pos (by simpa using q)] at h;exact h
  by_cases h1:t≤127
  · rw [if_pos h1] at m1
    have c2:=chk_flag3 m1 m2 0
    have c3:=key { m with mode:=6,k:=0 } rfl m3 (by show m.q=_;rw [m4,h.q]) m5
    have c4:=chk_append _ c2 (by rw [List.length_replicate];exact c3)
    rw [if_pos h1,show decide (¬ t≤127)=false by simpa using h1]
    exact ⟨m,_,c1,⟨hI,m1,m3,by rw [m4,h.q],m5,m2⟩,c4,⟨chk_inv _ hI c4,rfl,by show m.q=_;rw [m4,h.q],m5,rfl⟩⟩
  · rw [if_neg h1] at m1
    have c2:=chk_flag4 m1 m2 0
    have c3:=key { m with lvl:=true,mode:=6,k:=0 } rfl m3 (by show m.q=_;rw [m4,h.q]) m5
    have c4:=chk_append _ c2 (by rw [List.length_replicate];exact c3)
    rw [if_neg h1,show decide (¬ t≤127)=true by simpa using h1]
    exact ⟨m,_,c1,⟨hI,m1,m3,by rw [m4,h.q],m5,m2⟩,c4,⟨chk_inv _ hI c4,rfl,by show m.q=_;rw [m4,h.q],m5,rfl⟩⟩
end Go.AM.R1
open Go Go.AM
namespace Go.AM.R1
/-! ### A node that has joined, with frames -/
def pN (n:Nd) (l:List Fr):Nd:=l.foldl (fun n f=>(nputN n f).2) n
theorem put_ok {n:Nd} {f:Fr} (hc:checkP f=0) (hl:n.q.length<16):nputN n f=(0,{ n with q:=insP f n.q,nq:=false }):=by
  unfold nputN
  rw [if_neg (by simp [hc]),if_neg (by omega)]
theorem addS_ge:∀ (m out:List Bool) (rn:Nat),out.length+m.length≤(addS out rn m).length
  | [],_,_=>by unfold addS;simp
  | x :: m,out,rn=>by
    unfold addS
    split
    · have:=addS_ge m (out++[x,!x]) 1
      simp at this ⊢;omega
    · have:=addS_ge m (out++[x]) (tellR out rn x)
      simp at this ⊢;omega
theorem jn_loop1 (frs:List Fr) (hok:∀ f∈frs,f.Ok∧checkP f=0) (h16:frs.length≤16) (n1 f1:Bool) (k:List Item) (Q:Option (AVal × Heap)→Prop) (N:Nd) (hk:∀ H fs τ,lk 3 τ=.ptr 0 0→NodeAt H 0 N fs→Q (finK 0 [.tmp 2] (run E 0 k τ H))) :
    ∀ (d i:Nat),i+d=frs.length→∀ H fs m,NodeAt H 0 m fs→m.Inv→m.q.length+d≤16→N=pN m (frs.drop i) →
    Q (finK 0 [.tmp 2] (run E 0 (.code L13_1::.inLoop [0,3,5] L13_1::.inBlock 2::k) [(0,.imm n1 f1 true (frs.map encFr)),(3,.ptr 0 0),(5,.lit (.int .i64 i))] H)):=by
  intro d
  induction d with
  | zero =>
    intro i hi H fs m h hI hq hN
    rw [List.drop_eq_nil_of_le (by omega)] at hN
    have:N=m:=hN
    subst this
    have hlt:((i:Int)<(frs.length:Int))=False:=eq_false (by omega)
    simp [go_sem,run_codeL E L13_1.eq_1,hlt]
    exact hk H fs _ (by simp [lk]) h
  | succ d ih =>
    intro i hi H fs m h hI hq hN
    have hlt:((i:Int)<(frs.length:Int))=True:=eq_true (by omega)
    have hltn:i<frs.length:=by omega
    have w:=wrapIdx (i:=i) (by omega)
    have hfi:(frs.map encFr)[i]?=some (encFr frs[i]):=by rw [List.getElem?_map,List.getElem?_eq_getElem hltn];rfl
    have hfo:=hok frs[i] (List.getElem_mem _)
    rw [List.drop_eq_getElem_cons hltn] at hN
    generalize frs[i]=f at hfi hfo hN
    obtain ⟨H2,fs2,hs,h2,ha⟩:=put_at h hI.ok f
    have hp:=put_ok hfo.2 (n:=m) (by omega)
    have hI2:=inv_put hI hfo.1
    have hq2:(nputN m f).2.q.length=m.q.length+1:=by rw [hp];exact insP_len f m.q
    have ih2:=ih (i+1) (by omega) (sweep fs2 0 H2) fs2 _ (nodeAt_sw1 h2) hI2 (by omega) hN
    have hre:=reach_p1 h2
    rw [hp] at hs
    have hml:(frs.map encFr).length=frs.length:=by simp
    have hfi2:∀ (q:i<(frs.map encFr).length),(frs.map encFr)[i]=encFr f:=fun q=>(List.getElem?_eq_some_iff.1 hfi).2
    generalize frs.map encFr=rows at *
    simp [encFr,u8v] at hs w ih2 hfi hfi2
    simp [go_sem,run_codeL E L13_1.eq_1,hlt,hml,hltn,hs,w,hfi,hfi2,encFr,u8v]
    rw [run_inLoop']
    simp [go_sem,hre]
    exact ih2
set_option maxHeartbeats 2000000 in
theorem joined_frs (frs:List Fr) (hok:∀ f∈frs,f.Ok∧checkP f=0) (h16:frs.length≤16) (n1 f1:Bool):∃ F,call E (.func (.func 13) [] []) [.imm n1 f1 true (frs.map encFr)] []=some (.ptr 0 0,ndH (pN nd1 frs) F):=by
  have hn:=nnew_spec
  suffices hs:∀ (Q:Option (AVal × Heap)→Prop),(∀ F,Q (some (.ptr 0 0,ndH (pN nd1 frs) F)))→Q (call E (.func (.func 13) [] []) [.imm n1 f1 true (frs.map encFr)] []) by
    refine hs (fun r=>∃ F,r=some (.ptr 0 0,ndH (pN nd1 frs) F)) fun F=>⟨F,rfl⟩
  intro Q hQ
  have hloop:=fun k hk=>jn_loop0 (.imm n1 f1 true (frs.map encFr)) rfl k Q hk 11 0 (by omega)
  have hloop1:=fun k hk=>jn_loop1 frs hok h16 n1 f1 k Q (pN nd1 frs) hk frs.length 0 (by omega)
  have h0:=nodeAt_sw1 (nodeAt_can nd0 ⟨false,false,false,false,false⟩ [])
  rw [List.append_nil] at h0
  have hre:=reach_p1 (by have:=nodeAt_can nd0 ⟨false,false,false,false,false⟩ [];rwa [List.append_nil] at this)
  rw [call_func E E13]
  generalize frs.map encFr=rows at *
  simp [itN,nilS] at hloop
  simp [go_sem,ir13,hn]
  rw [run_inLoop']
  simp [go_sem,hre]
  refine hloop _ ?_ _ _ h0
  intro H fs τ t0 t3 h
  have hre:=reach_p1 h
  simp at hloop1
  simp [go_sem,t0,t3]
  rw [run_inLoop']
  simp [go_sem,t0,t3,hre]
  refine hloop1 _ ?_ _ _ nd1 (nodeAt_sw1 h) nd1_inv (by simp [nd1,nd0];exact h16) rfl
  intro H fs τ t3 h
  obtain ⟨F,hF⟩:=ret_node h
  have hq:=hQ F
  rw [← hF] at hq
  simp [go_sem,t3]
  exact hq
end Go.AM.R1
open Go Go.AM
namespace Go.AM.R1
set_option maxHeartbeats 4000000 in
theorem al_loop1 (O:Int) (i:Nat) (row l:List Bool) (S:Nat) (hl:l.length=S+2) (hlen:row.length=S+10) (hS:S≤100000) (hrl:∀ j,j<S+2→row[j]?=l[j]?) (k:List Item) (Q:Option (AVal × Heap)) (lkr:Bool) (m:Nd)
    (hk:∀ H fs τ,lk 1 τ=.lit (.int .i64 O)→lk 5 τ=.own 1 row.length 1 0 row.length→lk 7 τ=.ptr 3 0→lk 8 τ=.lit (.int .i64 i)→NodeAt H 3 m fs→Ext H fs 1 (rowE row lkr)→finK 0 [.tmp 4] (run E 0 k τ H)=Q) :
    ∀ (d j:Nat),j+d=S+2→∀ H fs n,NodeAt H 3 n fs→n.Inv→n.k≤100+j→Ext H fs 1 (rowE row lkr)→Chk (NckP S) j n (l.drop j) m →
    finK 0 [.tmp 4] (run E 0 (.code L6_1::.inLoop [1,5,7,8,9] L6_1::.inBlock 2::k) [(1,.lit (.int .i64 O)),(5,.own 1 row.length 1 0 row.length),(7,.ptr 3 0),(8,.lit (.int .i64 i)),(9,.lit (.int .i64 j))] H)=Q:=by
  intro d
  induction d with
  | zero =>
    intro j hj H fs n h hI hkk hb hok
    have hlt:((j:Int)≤(row.length:Int) - 9)=False:=eq_false (by omega)
    have w:=wrap64 (x:=(row.length:Int) - 9) (by omega) (by omega)
    rw [List.drop_eq_nil_of_le (by omega)] at hok
    have:m=n:=hok
    subst this
    simp [go_sem,run_codeL E L6_1.eq_1,w,hlt]
    exact hk H fs _ (by simp [lk]) (by simp [lk]) (by simp [lk]) (by simp [lk]) h hb
  | succ d ih =>
    intro j hj H fs n h hI hkk hb hok
    have hlt:((j:Int)≤(row.length:Int) - 9)=True:=eq_true (by omega)
    have w:=wrap64 (x:=(row.length:Int) - 9) (by omega) (by omega)
    have w3:=wrapIdx (i:=j) (by omega)
    have hil:j<l.length:=by omega
    obtain ⟨x,hx⟩:∃ x,x=l[j]:=⟨_,rfl⟩
    rw [List.drop_eq_getElem_cons hil,← hx] at hok
    obtain ⟨⟨hd0,hev⟩,hrest⟩:=hok
    obtain ⟨H1,hd,h1,a1⟩:=drive_at h hI
    have hb1:=hb.around a1
    obtain ⟨H2,fs2,ix,hs,h2,a2,hix⟩:=step_at h1 hI (by omega) x
    have hb2:=hb1.around a2
    have hout:=nodeAt_nodup h2
    have hre:=reach_mix h2 [1] [] (by intro c hc;simp at hc;subst hc;exact ⟨_,hb2.get,rfl⟩) (by simp;exact ⟨hb2.out,hout⟩) (by simp)
    have ih2:=ih (j+1) (by omega) (sweep ([1]++fs2++[]) 0 H2) fs2 (nxN n x) (nodeAt_sweep h2 (by intro i hi;simp [hi])) (inv_next hI x) (by have:=k_next n x hI.mode;omega) (ext_sweep hb2 (by simp)) hrest
    have g0:=hb.get
    have g1:=hb1.get
    have g2:=hb2.get
    have hjl:j<row.length:=by omega
    have hml:(row.map encLv).length=row.length:=by simp
    have hg:(row.map encLv)[j]?=some (encLv x):=by
      rw [List.getElem?_map,hrl j (by omega),List.getElem?_eq_getElem hil,hx];rfl
    have hg2:∀ (q:j<(row.map encLv).length),(row.map encLv)[j]=encLv x:=fun q=>(List.getElem?_eq_some_iff.1 hg).2
    unfold rowE at g0 g1 g2
    generalize row.map encLv=rows at *
    rw [hd0] at hd
    simp at w w3 ih2 hre
    by_cases qs:j=S+1
    · have e1:((j:Int)=(row.length:Int) - 9)=True:=eq_true (by omega)
      rw [if_pos qs] at hev
      have hx4:=(hix (by rw [hev];simp)).1
      rw [hev] at hs hx4
      simp [evV,encEv,Fr.zero] at hs hd hx4
      simp [go_sem,run_codeL E L6_1.eq_1,w,w3,hlt,hd,hs,hg,hg2,hml,g0,g1,g2,e1,hjl,hx4,encLv,nilS]
      rw [run_inLoop']
      simp [go_sem,hre]
      exact ih2
    · have e1:((j:Int)=(row.length:Int) - 9)=False:=eq_false (by omega)
      rw [if_neg qs] at hev
      rw [hev] at hs
      simp [evV] at hs hd
      simp [go_sem,run_codeL E L6_1.eq_1,w,w3,hlt,hd,hs,hg,hg2,hml,g0,g1,g2,e1,hjl,encLv,nilS]
      rw [run_inLoop']
      simp [go_sem,hre]
      exact ih2
set_option maxHeartbeats 4000000 in
theorem al_loop2 (O:Int) (i:Nat) (row:List Bool) (hS:row.length≤200000) (c:Bool) (fl:Int) (hfl:(fl=3∧c=false)∨(fl=4∧c=true)) (B:Nat) (hB:B≤19) (k:List Item) (Q:Option (AVal × Heap)) (lkr:Bool) (m:Nd)
    (hk:∀ H fs τ,lk 1 τ=.lit (.int .i64 O)→lk 5 τ=.own 1 row.length 1 0 row.length→lk 7 τ=.ptr 3 0→lk 8 τ=.lit (.int .i64 i)→NodeAt H 3 m fs→Ext H fs 1 (rowE row lkr)→finK 0 [.tmp 4] (run E 0 k τ H)=Q) :
    ∀ (d j:Nat),j+d=6+B→∀ H fs n,NodeAt H 3 n fs→n.Inv→n.k≤100+j→Ext H fs 1 (rowE row lkr)→Chk AP j n ((List.replicate 6 c++List.replicate B true).drop j) m →
    finK 0 [.tmp 4] (run E 0 (.code L6_2::.inLoop [1,5,7,8,13,14,15] L6_2::.inBlock 4::k) [(1,.lit (.int .i64 O)),(5,.own 1 row.length 1 0 row.length),(7,.ptr 3 0),(8,.lit (.int .i64 i)),(13,.lit (.int .i64 fl)),(14,.lit (.int .i64 B)),(15,.lit (.int .i64 j))] H)=Q:=by
  intro d
  induction d with
  | zero =>
    intro j hj H fs n h hI hkk hb hok
    have w:=wrap64 (x:=6+(B:Int)) (by omega) (by omega)
    have hlt:((j:Int)<6+(B:Int))=False:=eq_false (by omega)
    rw [List.drop_eq_nil_of_le (by simp;omega)] at hok
    have:m=n:=hok
    subst this
    simp [go_sem,run_codeL E L6_2.eq_1,w,hlt]
    exact hk H fs _ (by simp [lk]) (by simp [lk]) (by simp [lk]) (by simp [lk]) h hb
  | succ d ih =>
    intro j hj H fs n h hI hkk hb hok
    have w:=wrap64 (x:=6+(B:Int)) (by omega) (by omega)
    have hlt:((j:Int)<6+(B:Int))=True:=eq_true (by omega)
    have w3:=wrapIdx (i:=j) (by omega)
    have hil:j<(List.replicate 6 c++List.replicate B true).length:=by simp;omega
    obtain ⟨x,hx⟩:∃ x,x=(List.replicate 6 c++List.replicate B true)[j]:=⟨_,rfl⟩
    rw [List.drop_eq_getElem_cons hil,← hx] at hok
    have hx2:x=if j<6 then c else true:=by
      rw [hx]
      by_cases q:j<6
      · rw [List.getElem_append_left (by simpa using q),if_pos q,List.getElem_replicate]
      · rw [List.getElem_append_right (by simpa using q),if_neg q,List.getElem_replicate]
    obtain ⟨⟨hd0,hev⟩,hrest⟩:=hok
    obtain ⟨H1,hd,h1,a1⟩:=drive_at h hI
    have hb1:=hb.around a1
    obtain ⟨H2,fs2,ix,hs,h2,a2,hix⟩:=step_at h1 hI (by omega) x
    have hb2:=hb1.around a2
    have hout:=nodeAt_nodup h2
    have hre:=reach_mix h2 [1] [] (by intro c hc;simp at hc;subst hc;exact ⟨_,hb2.get,rfl⟩) (by simp;exact ⟨hb2.out,hout⟩) (by simp)
    have ih2:=ih (j+1) (by omega) (sweep ([1]++fs2++[]) 0 H2) fs2 (nxN n x) (nodeAt_sweep h2 (by intro i hi;simp [hi])) (inv_next hI x) (by have:=k_next n x hI.mode;omega) (ext_sweep hb2 (by simp)) hrest
    rw [hd0] at hd
    rw [hev] at hs
    simp [evV] at hs hd
    simp at w w3 ih2 hre
    by_cases q6:j<6
    · have h6i:((j:Int)<6)=True:=eq_true (by omega)
      rw [if_pos q6] at hx2
      rcases hfl with ⟨q1,q2⟩ | ⟨q1,q2⟩
      · rw [hx2,q2] at hs hd
        simp [lvF] at hs hd
        simp [go_sem,run_codeL E L6_2.eq_1,w,w3,hlt,hd,hs,h6i,q1,nilS]
        rw [run_inLoop']
        simp [go_sem,hre]
        simp [q1] at ih2
        exact ih2
      · rw [hx2,q2] at hs hd
        simp [lvT] at hs hd
        simp [go_sem,run_codeL E L6_2.eq_1,w,w3,hlt,hd,hs,h6i,q1,nilS]
        rw [run_inLoop']
        simp [go_sem,hre]
        simp [q1] at ih2
        exact ih2
    · have h6i:((j:Int)<6)=False:=eq_false (by omega)
      rw [if_neg q6] at hx2
      rw [hx2] at hs hd
      simp [lvT] at hs hd
      simp [go_sem,run_codeL E L6_2.eq_1,w,w3,hlt,hd,hs,h6i,nilS]
      rw [run_inLoop']
      simp [go_sem,hre]
      exact ih2
def akT (i:Nat):Nat:=if i<16 then 8 * i else 128
set_option maxHeartbeats 8000000 in
theorem al_loop0 (O:Nat) (hO:O≤40) (f:Fr) (hc:checkP f=0) (row:List Bool) (hrow:row=encodeP f false) (hS:row.length≤100000) (k:List Item) (Q:Option (AVal × Heap)) (lkr:Bool)
    (hk:∀ H fs τ n t,lk 7 τ=.ptr 3 0→NodeAt H 3 n fs→Ak f t n→finK 0 [.tmp 4] (run E 0 k τ H)=Q) :
    ∀ (d i:Nat),i+d=O→∀ H fs n,NodeAt H 3 n fs→Ext H fs 1 (rowE row lkr)→Ak f (akT i) n →
    finK 0 [.tmp 4] (run E 0 (.code L6_0::.inLoop [1,5,7,8] L6_0::.inBlock 0::k) [(1,.lit (.int .i64 O)),(5,.own 1 row.length 1 0 row.length),(7,.ptr 3 0),(8,.lit (.int .i64 ((i:Int)+1)))] H)=Q:=by
  intro d
  induction d with
  | zero =>
    intro i hi H fs n h hb r
    have hlt:(((i:Int)+1)≤(O:Int))=False:=eq_false (by omega)
    simp [go_sem,run_codeL E L6_0.eq_1,hlt]
    exact hk H fs _ n _ (by simp [lk]) h r
  | succ d ih =>
    intro i hi H fs n h hb r
    have hlt:(((i:Int)+1)≤(O:Int))=True:=eq_true (by omega)
    have w:=wrap64 (x:=(i:Int)+1+1) (by omega) (by omega)
    have w8:=wrap64 (x:=8 * ((i:Int)+1)) (by omega) (by omega)
    have hparts:=encodeP_parts f false
    have hlen:row.length=(stuffP (sentP f)).length+10:=by rw [hrow,hparts];simp
    have hT:akT (i+1)=if akT i≤127 then akT i+8 else akT i:=by
      by_cases q2:i<16
      · have e:akT i=8 * i:=by unfold akT;rw [if_pos q2]
        rw [e,if_pos (by omega)]
        unfold akT
        by_cases q:i+1<16
        · rw [if_pos q];omega
        · rw [if_neg q];omega
      · have e:akT i=128:=by unfold akT;rw [if_neg q2]
        rw [e,if_neg (by omega)]
        unfold akT
        rw [if_neg (by omega)]
    have hT1:akT i≤128:=by unfold akT;split<;>omega
    have hT2:akT i≤127↔i<16:=by unfold akT;split<;>omega
    have hT3:akT (i+1)≤127↔i<15:=by unfold akT;split<;>omega
    have hT4:akT (i+1)=if i<15 then 8 * (i+1) else 128:=by
      unfold akT
      by_cases q:i<15
      · rw [if_pos q,if_pos (by omega)]
      · rw [if_neg q,if_neg (by omega)]
    obtain ⟨m,m2,c1,r1,c2,r2⟩:=ak_round hc hT1 r (akT (i+1)) hT
    have hrl:∀ j,j<(stuffP (sentP f)).length+2→row[j]?=(stuffP (sentP f)++[true,true])[j]?:=by
      intro j hj
      rw [hrow,hparts]
      by_cases q:j<(stuffP (sentP f)).length
      · rw [List.getElem?_append_left q,List.getElem?_append_left q]
      · rw [List.getElem?_append_right (by omega),List.getElem?_append_right (by omega)]
        have:j - (stuffP (sentP f)).length=0∨j - (stuffP (sentP f)).length=1:=by omega
        rcases this with q | q<;>rw [q]<;>rfl
    have hre:=reach_mix h [1] [] (by intro c hc;simp at hc;subst hc;exact ⟨_,hb.get,rfl⟩) (by simp;exact ⟨hb.out,nodeAt_nodup h⟩) (by simp)
    have hl1:=fun k hk=>al_loop1 O (i+1) row (stuffP (sentP f)++[true,true]) (stuffP (sentP f)).length (by simp) hlen (by omega) hrl k Q lkr m hk ((stuffP (sentP f)).length+2) 0 (by omega) _ _ n (nodeAt_sweep h (R:=[1]++fs++[]) (by intro i hi;simp [hi])) r.inv (by rw [r.k];omega) (ext_sweep hb (by simp)) c1
    simp at hl1 hre w w8
    simp [go_sem,run_codeL E L6_0.eq_1,hlt]
    rw [run_inLoop']
    simp [go_sem,hre]
    refine hl1 _ ?_
    intro H fs τ t1 t5 t7 t8 h hb
    obtain ⟨H1,hlo,h1,a1⟩:=look_at h r1.inv.ok
    have hb1:=hb.around a1
    have hre1:=reach_mix h1 [1] [] (by intro c hc;simp at hc;subst hc;exact ⟨_,hb1.get,rfl⟩) (by simp;exact ⟨hb1.out,nodeAt_nodup h1⟩) (by simp)
    have hlast:∀ H fs,NodeAt H 3 m2 fs→Ext H fs 1 (rowE row lkr)→∃ H1 H2,callK1 (call E) H (some (.func (.func 18) [] [],[])) (some ([.ptr 3 0],[]))=some (.agg (lookC m2),H1)∧callK1 (call E) H1 (some (.func (.func 16) [] [],[])) (some ([.ptr 3 0],[]))=some (.lit (.int .i64 0),H2)∧NodeAt H2 3 m2 fs∧Ext H2 fs 1 (rowE row lkr):=by
      intro H fs h hb
      obtain ⟨H1,q1,h1,a1⟩:=look_at h r2.inv.ok
      obtain ⟨H2,q2,h2,a2⟩:=drive_at h1 r2.inv
      have:drN m2=false:=by unfold drN;rw [if_pos r2.mode,r2.q];rfl
      rw [this] at q2
      exact ⟨H1,H2,q1,q2,h2,(hb.around a1).around a2⟩
    have lm2:lookC m2=[.lit (.int .i64 1),.lit (.bool m2.tx),.lit (.int .i64 (akT (i+1))),.lit (.int .i64 0),.lit (.bool false),.lit (.int .i64 1)]:=by
      unfold lookC;rw [r2.mode,r2.ct,r2.q];rfl
    have lm:lookC m=[.lit (.int .i64 (if akT i≤127 then 3 else 4:Nat)),.lit (.bool true),.lit (.int .i64 (akT (i+1))),.lit (.int .i64 0),.lit (.bool false),.lit (.int .i64 1)]:=by
      unfold lookC;rw [r1.mode,r1.tx,r1.ct,r1.q];rfl
    rw [lm2] at hlast
    rw [lm] at hlo
    have key:∀ (c:Bool) (fl:Int) (B:Nat),((fl=3∧c=false)∨(fl=4∧c=true))→B≤19→Chk AP 0 m (List.replicate 6 c++List.replicate B true) m2→∀ k,
        (∀ H fs τ,lk 1 τ=.lit (.int .i64 O)→lk 5 τ=.own 1 row.length 1 0 row.length→lk 7 τ=.ptr 3 0→lk 8 τ=.lit (.int .i64 ((i+1:Nat):Int))→NodeAt H 3 m2 fs→Ext H fs 1 (rowE row lkr)→finK 0 [.tmp 4] (run E 0 k τ H)=Q) →
        finK 0 [.tmp 4] (run E 0 (.code L6_2::.inLoop [1,5,7,8,13,14,15] L6_2::.inBlock 4::k) [(1,.lit (.int .i64 O)),(5,.own 1 row.length 1 0 row.length),(7,.ptr 3 0),(8,.lit (.int .i64 ((i+1:Nat):Int))),(13,.lit (.int .i64 fl)),(14,.lit (.int .i64 B)),(15,.lit (.int .i64 0))] (sweep ([1]++fs++[]) 0 H1))=Q:=by
      intro c fl B h1' h2' h3' k hk
      have:=al_loop2 O (i+1) row (by omega) c fl h1' B h2' k Q lkr m2 hk (6+B) 0 (by omega) _ _ m (nodeAt_sweep h1 (R:=[1]++fs++[]) (by intro i hi;simp [hi])) r1.inv (by rw [r1.k];omega) (ext_sweep hb1 (by simp)) h3'
      simpa using this
    have fin:∀ H fs,NodeAt H 3 m2 fs→Ext H fs 1 (rowE row lkr)→finK 0 [.tmp 4] (run E 0 (.code L6_0::.inLoop [1,5,7,8] L6_0::.inBlock 0::k) [(1,.lit (.int .i64 O)),(5,.own 1 row.length 1 0 row.length),(7,.ptr 3 0),(8,.lit (.int .i64 ((i:Int)+1+1)))] (sweep ([1]++fs++[]) 0 H))=Q:=by
      intro H fs h hb
      have:=ih (i+1) (by omega) (sweep ([1]++fs++[]) 0 H) fs m2 (nodeAt_sweep h (by intro i hi;simp [hi])) (ext_sweep hb (by simp)) r2
      simpa using this
    simp at hre1 fin
    by_cases c15:i<15
    · have i1:((16:Int)≤(i:Int)+1)=False:=eq_false (by omega)
      have i2:((16:Int)<(i:Int)+1)=False:=eq_false (by omega)
      have e2:(akT (i+1):Int)=8 * ((i:Int)+1):=by rw [hT4,if_pos c15];omega
      rw [if_pos (hT2.2 (by omega)),e2] at hlo
      have ky:=key false 3 11 (.inl ⟨rfl,rfl⟩) (by omega) (by
        rw [if_pos (hT3.2 (by omega))] at c2
        rwa [show decide (¬ akT i≤127)=false from by simpa using hT2.2 (by omega)] at c2)
      simp at hlo ky
      simp [go_sem,t1,t5,t7,t8,w8,i1,i2,hlo]
      rw [run_inLoop']
      simp [go_sem,t1,t5,t7,t8,hre1]
      refine ky _ ?_
      intro H fs τ t1 t5 t7 t8 h hb
      obtain ⟨H3,H4,l1,l2,h4,b4⟩:=hlast H fs h hb
      have fn:=fin H4 fs h4 b4
      have hre4:=reach_mix h4 [1] [] (by intro c hc;simp at hc;subst hc;exact ⟨_,b4.get,rfl⟩) (by simp;exact ⟨b4.out,nodeAt_nodup h4⟩) (by simp)
      simp at hre4 l1
      simp [go_sem,t1,t5,t7,t8,l1,l2,w]
      rw [run_inLoop']
      simp [go_sem,t1,t5,t7,t8,hre4,w]
      exact fn
    · have i1:((16:Int)≤(i:Int)+1)=True:=eq_true (by omega)
      have e2:akT (i+1)=128:=by rw [hT4,if_neg c15]
      rw [e2] at hlo
      rw [if_neg (by rw [e2];omega)] at c2
      by_cases c16:i<16
      · have i2:((16:Int)<(i:Int)+1)=False:=eq_false (by omega)
        rw [if_pos (hT2.2 (by omega))] at hlo
        have ky:=key false 3 19 (.inl ⟨rfl,rfl⟩) (by omega) (by rwa [show decide (¬ akT i≤127)=false from by simpa using hT2.2 (by omega)] at c2)
        simp at hlo ky
        simp [go_sem,t1,t5,t7,t8,w8,i1,i2,hlo]
        rw [run_inLoop']
        simp [go_sem,t1,t5,t7,t8,hre1]
        refine ky _ ?_
        intro H fs τ t1 t5 t7 t8 h hb
        obtain ⟨H3,H4,l1,l2,h4,b4⟩:=hlast H fs h hb
        have fn:=fin H4 fs h4 b4
        have hre4:=reach_mix h4 [1] [] (by intro c hc;simp at hc;subst hc;exact ⟨_,b4.get,rfl⟩) (by simp;exact ⟨b4.out,nodeAt_nodup h4⟩) (by simp)
        simp at hre4 l1
        simp [go_sem,t1,t5,t7,t8,l1,l2,w]
        rw [run_inLoop']
        simp [go_sem,t1,t5,t7,t8,hre4,w]
        exact fn
      · have i2:((16:Int)<(i:Int)+1)=True:=eq_true (by omega)
        rw [if_neg (by rw [hT2];omega)] at hlo
        have ky:=key true 4 19 (.inr ⟨rfl,rfl⟩) (by omega) (by rwa [show decide (¬ akT i≤127)=true from by simp;rw [← Nat.not_le,hT2];omega] at c2)
        simp at hlo ky
        simp [go_sem,t1,t5,t7,t8,w8,i1,i2,hlo]
        rw [run_inLoop']
        simp [go_sem,t1,t5,t7,t8,hre1]
        refine ky _ ?_
        intro H fs τ t1 t5 t7 t8 h hb
        obtain ⟨H3,H4,l1,l2,h4,b4⟩:=hlast H fs h hb
        have fn:=fin H4 fs h4 b4
        have hre4:=reach_mix h4 [1] [] (by intro c hc;simp at hc;subst hc;exact ⟨_,b4.get,rfl⟩) (by simp;exact ⟨b4.out,nodeAt_nodup h4⟩) (by simp)
        simp at hre4 l1
        simp [go_sem,t1,t5,t7,t8,l1,l2,w]
        rw [run_inLoop']
        simp [go_sem,t1,t5,t7,t8,hre4,w]
        exact fn
set_option maxHeartbeats 8000000 in
theorem ctlAcks_spec (f:Fr) (hf:f.Ok) (ov:Int) :
    call E (.func (.func 6) [] []) [.agg (encFr f),.lit (.int .i64 ov)] []=some (.lit (.bool true),[]):=by
  have ha:=awake10
  rw [call_func E E6]
  by_cases hc:checkP f=0
  · have hE:=encode_spec f hf hc false
    obtain ⟨F,hj⟩:=joined_frs [f] (by intro g hg;simp at hg;subst hg;exact ⟨hf,hc⟩) (by simp) false true
    have hp:pN nd1 [f]={ nd1 with q:=[f],nq:=false }:=by
      show (nputN nd1 f).2=_
      rw [put_ok hc (by decide)];rfl
    have r0:Ak f (akT 0) (pN nd1 [f]):=by
      refine ⟨inv_put nd1_inv hf,?_,?_,?_,?_⟩<;>rw [hp]<;>rfl
    have hl5:(encodeP f false).length≤100000∧44≤(encodeP f false).length:=by
      have h1:(encodeP f false).length=(stuffP (sentP f)).length+10:=by rw [encodeP_parts];simp
      have h2:=addS_len (sentP f) [] 0
      have h4:=addS_ge (sentP f) [] 0
      have h3:(stuffP (sentP f)).length=(addS [] 0 (sentP f)).length:=rfl
      have h5:=bitsP_length f
      have h6:(sentP f).length=(bitsP f).length+15:=(sentP_sum f hc []).2.2
      simp only [List.length_nil] at h2 h4
      omega
    obtain ⟨row,hrow⟩:∃ row,row=encodeP f false:=⟨_,rfl⟩
    rw [← hrow] at hE hl5
    generalize pN nd1 [f]=n at *
    by_cases b1:ov<0
    · simp [encFr,u8v] at hE
      simp [go_sem,ir6,encFr,u8v,hE,b1,ha,nilS]
    by_cases b2:40<ov
    · simp [encFr,u8v] at hE
      simp [go_sem,ir6,encFr,u8v,hE,b1,b2,ha,nilS]
    obtain ⟨O,rfl⟩:∃ O:Nat,ov=O:=⟨ov.toNat,by omega⟩
    have hO:O≤40:=by omega
    have b3:((row.length:Int)<44)=False:=eq_false (by omega)
    have b4:row.length<44↔False:=⟨fun q=>by omega,False.elim⟩
    have hrr:=rowsLv row
    obtain ⟨X,hX⟩:∃ X:Heap,X=[.box (encFr f),rowE row false,.arr true true true 12 [encFr f]]:=⟨_,rfl⟩
    have hXl:X.length=3:=by rw [hX];rfl
    obtain ⟨fs0,h0,hfs⟩:=nodeAt_ndS X n F
    have hb0:Ext (X++ndS n F X.length) fs0 1 (rowE row false):=ext_pre hfs (by rw [hX];rfl)
    have hbk:=back_node X n F
    rw [hXl] at h0 hb0 hbk
    generalize X++ndS n F 3=H0 at h0 hb0 hbk
    rw [hX] at hbk
    have hre:=reach_mix h0 [1] [] (by intro c hc;simp at hc;subst hc;exact ⟨_,hb0.get,rfl⟩) (by simp;exact ⟨hb0.out,nodeAt_nodup h0⟩) (by simp)
    have hl0:=fun k hk=>al_loop0 O hO f hc row hrow hl5.1 k (some (.lit (.bool true),[])) false hk O 0 (by omega) _ _ n (nodeAt_sweep h0 (R:=[1]++fs0++[]) (by intro i hi;simp [hi])) (ext_sweep hb0 (by simp)) r0
    unfold rowE at *
    generalize row.map encLv=rows at *
    simp [encFr,u8v,nilS] at hE hl0 hre hj hbk
    simp [go_sem,ir6,encFr,u8v,hE,hj,hbk,nilS,b1,b2,b3,b4,show ¬ 40<O by omega]
    rw [run_inLoop']
    simp [go_sem,hre]
    refine hl0 _ ?_
    intro H fs τ n t t7 h r
    obtain ⟨H1,hl,h1,-⟩:=look_at h r.inv.ok
    simp only [lookC,r.q] at hl
    simp at hl
    simp [go_sem,t7,hl,ha]
  · have hE:=encode_err f hc false
    simp [encFr,u8v] at hE
    simp [go_sem,ir6,encFr,u8v,hE,hc,ha,nilS]
end Go.AM.R1
open Go Go.AM
namespace Go.AM.R1
/-! ### Turns -/
end Go.AM.R1
open Go Go.AM Go.Proofs
namespace Go.AM.R1
section
variable {H:Type} {P:Program}
end
end Go.AM.R1
open Go Go.AM Go.AM.R1 Go.Proofs
namespace Go.Proofs.YtkmacpimokhpgaaGreat
open Go.ChangeShapes Go.WideShapes Go.ChangeAt Go.RowKit
namespace ctlAcks
theorem own:ownKnob Tryz.prog.godebug=none:=by kernel_rfl
theorem laidOut:laidOutB Tryz.prog=true:=by kernel_rfl
theorem mixed:Tryz.prog.follows .mixedOrders=true:=by kernel_rfl
set_option maxRecDepth 100000 in
theorem contract (H:Type) (enc:TypeId × Value→H) (W:World) (base:Nat) (args:Array Value) (ds gs:List (DataW H)) (before:List MemPlace)
    (hval:∀ (j:Nat) t v,Tryz.f6.params[j]?=some t→args[j]?=some v→Value.okWide Tryz.prog W .any base t v)
    (hW:DataW.Whole enc Tryz.prog Tryz.f6.params.toList Rows.ctlAcksSpec.vars false W args.toList ds gs before) :
    Calls Tryz.prog 6 args W fun e W'=>∃ v,e=.returned v∧Rows.ctlAcksSpec.post enc Tryz.prog Tryz.f6 false true false false W args v W':=by
  refine law_contract (id:=6) (f:=Tryz.f6) (s:=Rows.ctlAcksSpec) (k:=7) (nargs:=2) (base:=base) (ds:=ds) (gs:=gs) (before:=before) mixed libs_ok R1.hE laidOut ?e1 ?e2 (tb:=4) ?e3 Tryz.underlying4 ?e4 ?e5 ?e7 ?e8 ?e6
  case e7=>exact hval
  case e8=>exact hW
  case e1=>rfl
  case e3=>kernel_rfl
  case e4=>rw [Tryz.params6];rfl
  · rw [Tryz.params6];decide +kernel
  · intro ds h
    match ds,h with
    | [d1,d2],_=>rfl
  · intro cs hA
    rw [Tryz.params6] at hA
    obtain ⟨d1,r1,a1,s1,rfl,rfl,h1,hA⟩:=decArgs_cons hA
    obtain ⟨d2,r2,a2,s2,rfl,rfl,h2,hA⟩:=decArgs_cons hA
    obtain ⟨rfl,rfl⟩:=decArgs_nil hA
    obtain ⟨f,rfl,hf⟩:=decV_frame (n:=4) ⟨Tryz.underlying32,Tryz.underlying3,Tryz.underlying4,Tryz.underlying4,Tryz.underlying3,Tryz.underlying30,Tryz.underlying5⟩ h1
    obtain ⟨ov,-,hw1,rfl⟩:=decV_int (n:=6) Tryz.underlying3 h2
    obtain ⟨n,hn⟩:=(call_iff R1.E).1 (ctlAcks_spec f hf ov)
    exact ⟨n,_,hn⟩

set_option maxRecDepth 100000 in
theorem lifted (os:Os) (started:os.Started) (H:Type) (enc:TypeId × Value→H) :
    ReturnsInHanded {} Tryz.checked os 6 .any (Rows.ctlAcksSpec.pre6 enc Tryz.prog Tryz.f6 Rows.ctlAcksRow.domain false) (Rows.ctlAcksSpec.post enc Tryz.prog Tryz.f6 false true false false):=by
  refine returnsInHanded_of_change (C:=Tryz.checked) own started (by kernel_rfl) Tryz.func6
    (ChangeSpec.witness6 (enc:=enc) (C:=Tryz.checked) false ⟨#[],#[.agg #[.int .i64 0,.bool false,.bool false,.int .i64 0,.int .u8 0,.int .u8 0,.int .u8 0,.int .u8 0,.int .u8 0,.int .u8 0,.int .u8 0,.int .u8 0],.int .i64 0],[]⟩ 8 (by kernel_rfl) (by kernel_rfl) (by kernel_rfl) (by kernel_rfl)) ?_
  intro W base args ds gs before hval hW _ _
  exact contract H enc W base args ds gs before hval hW

theorem proved:Rows.CtlAcksSaid :=
  OpenClaim.holds_of_wide 6 Tryz.f6 rfl rfl rfl rfl rfl rfl rfl ⟨rfl,rfl,rfl,rfl,rfl⟩ rfl rfl rfl rfl rfl (by kernel_rfl) Tryz.func6 (by kernel_rfl)
    (of_decide_eq_true (by kernel_rfl)) (by unfold Func.isWrapper;first | (rw [if_pos (by decide +kernel)];kernel_rfl) | (rw [if_neg (by decide +kernel)];exact ⟨rfl,rfl⟩))
    (fun os started H enc _=>lifted os started H enc)
end ctlAcks
theorem ctlAcksProved:Rows.CtlAcksSaid:=ctlAcks.proved
end Go.Proofs.YtkmacpimokhpgaaGreat
