/- The law CtlLoses of package magnetolaw10 returns true for every input, and its arguments read as before. -/
import Derived.Test.YtkmacpimokhpgaaGreatCtl3
import Derived.ProofKit
set_option linter.unusedVariables false
set_option linter.unusedSimpArgs false
open Go Go.AM
namespace Go.AM.R1
theorem encFr_eq (f:Fr):encFr f=[.lit (.int .i64 f.id),.lit (.bool f.ext),.lit (.bool f.rtr),.lit (.int .i64 f.len),u8v f.d0,u8v f.d1,u8v f.d2,u8v f.d3,u8v f.d4,u8v f.d5,u8v f.d6,u8v f.d7]:=rfl
end Go.AM.R1
open Go Go.AM
namespace Go.AM.R1
/-! ### An overload -/
theorem ev_no {n:Nd} {b:Bool} {m:Nd} (e:stepN n b=noFr ([],m)):evN n b=[]∧nxN n b=m:=by
  unfold evN nxN;rw [e];exact ⟨rfl,rfl⟩
end Go.AM.R1
open Go Go.AM
namespace Go.AM.R1
/-! ### A row, to its end: a sender -/
theorem snd_start {n:Nd} (hm:n.mode=1) {g:Fr} {l:List Fr} (hq:n.q=g::l):drN n=false∧evN n false=[]∧nxN n false=startN n true:=by
  have st:stepN n false=noFr ([],startN n true):=by
    unfold stepN;rw [hm];show noFr (idleN n false)=_
    unfold idleN;rw [if_pos rfl,hq];rfl
  exact ⟨by unfold drN;rw [if_pos hm,hq];rfl,(ev_no st).1,(ev_no st).2⟩
theorem tx_fr {n:Nd} (hs:n.sends=true) {p:List Bool} {c:Bool} {r:Nat} (h5:¬ r=5) {x:Bool} (hr:n.row[p.length]?=some x):frL (rdN n p c r)=x:=by
  unfold frL
  show (if n.sends=true then (if r=5 then _ else (n.row[p.length]?).getD true) else _)=_
  rw [if_pos hs,if_neg h5,hr];rfl
/-- Levels that a node drives, and nothing happens. -/
def AP (_:Nat) (n:Nd) (b:Bool):Prop:=drN n=b∧evN n b=[]
theorem fed_ap {i:Nat} {n:Nd} {b:Bool} (h:FedP true i n b):AP i n b:=⟨by rw [h.1,if_pos rfl],h.2⟩
end Go.AM.R1
open Go Go.AM
namespace Go.AM.R1
/-! ### A sender that loses -/
def endE (c:Bool) (r:Nat):List Bool→Bool × Nat
  | []=>(c,r)
  | x::l=>if (if x=c then r+1 else 1)=5 then endE (!x) 1 l else endE x (if x=c then r+1 else 1) l
theorem emit_cons (c:Bool) (r:Nat) (x:Bool) (l:List Bool):emit (some c) r (x::l)=x::(if (if x=c then r+1 else 1)=5 then (!x)::emit (some !x) 1 l else emit (some x) (if x=c then r+1 else 1) l):=by
  rw [emit]
  have hr:(if some c=some x then r+1 else 1)=if x=c then r+1 else 1:=by
    by_cases q:x=c
    · rw [if_pos q,if_pos (by rw [q])]
    · rw [if_neg q,if_neg (fun g=>q (by simpa using g.symm))]
  rw [hr]
  by_cases h:(if x=c then r+1 else 1)=5
  · rw [if_pos h,if_pos h]
  · rw [if_neg h,if_neg h]
theorem emit_app:∀ (a b:List Bool) (c:Bool) (r:Nat),emit (some c) r (a++b)=emit (some c) r a++emit (some (endE c r a).1) (endE c r a).2 b
  | [],b,c,r=>rfl
  | x::a,b,c,r=>by
    rw [List.cons_append,emit_cons,emit_cons,endE]
    by_cases h:(if x=c then r+1 else 1)=5
    · rw [if_pos h,if_pos h,if_pos h,emit_app a b];rfl
    · rw [if_neg h,if_neg h,if_neg h,emit_app a b];rfl
theorem feedE {f:Fr} (h:checkP f=0) {n:Nd} (hm:n.mode=2) (hrow:n.sends=true→n.row=allP f):∀ (l p rest:List Bool) (c:Bool) (r i:Nat),p++(l++rest)=sentP f→0<r→r<5 →
    Chk (FedP n.sends) i (rdN n p c r) (emit (some c) r l) (rdN n (p++l) (endE c r l).1 (endE c r l).2)∧0<(endE c r l).2∧(endE c r l).2<5∧4 * (emit (some c) r l).length+(endE c r l).2≤5 * l.length+r
  | [],p,rest,c,r,i,e,h0,h5=>⟨by rw [List.append_nil];exact rfl,h0,h5,by simp [emit,endE]⟩
  | x :: l,p,rest,c,r,i,e,h0,h5=>by
    have hk:=prefix_kind f h p (x::l++rest) (by simp) e
    obtain ⟨a1,a2,a3⟩:=in_plain hm p c r h0 h5 hk x (fun q=>by rw [hrow q,allP_sent,← e];simp)
    have e':(p++[x])++(l++rest)=sentP f:=by rw [← e];simp
    rw [emit_cons,endE]
    have hr4:(if x=c then r+1 else 1)≤r+1:=by split<;>omega
    by_cases h55:(if x=c then r+1 else 1)=5
    · rw [if_pos h55,if_pos h55]
      rw [h55] at a3
      have hk5:(nextF (p++[x])).1≤5:=kind_next hk x
      obtain ⟨b1,b2,b3⟩:=in_stuff hm (p++[x]) x hk5
      obtain ⟨q2,q0,q1,q3⟩:=feedE h hm hrow l (p++[x]) rest (!x) 1 (i+1+1) e' (by omega) (by omega)
      refine ⟨⟨⟨a1,a2⟩,?_⟩,q0,q1,?_⟩
      · rw [a3]
        refine ⟨⟨b1,b2⟩,?_⟩
        rw [b3]
        rwa [List.append_assoc] at q2
      · simp only [List.length_cons];omega
    · rw [if_neg h55,if_neg h55]
      have hlt:(if x=c then r+1 else 1)<5∧0<(if x=c then r+1 else 1):=by by_cases q:x=c<;>simp only [q,if_true,if_false] at h55 ⊢<;>omega
      obtain ⟨q2,q0,q1,q3⟩:=feedE h hm hrow l (p++[x]) rest x _ (i+1) e' hlt.2 hlt.1
      refine ⟨⟨⟨a1,a2⟩,?_⟩,q0,q1,?_⟩
      · rw [a3]
        rwa [List.append_assoc] at q2
      · simp only [List.length_cons];omega
/-- Where one frame's arbitration comes ahead of another's. -/
theorem cmpL_lt:∀ (a b:List Bool),cmpL a b<0→(∃ p x y,a=p++false::x∧b=p++true::y)∨∃ y,y≠[]∧b=a++y
  | [],[],h=>by simp [cmpL] at h
  | [],y::b,_=>.inr ⟨y::b,by simp,rfl⟩
  | x::a,[],h=>by simp [cmpL] at h
  | x :: a,y::b,h=>by
    unfold cmpL at h
    by_cases q:x=y
    · rw [if_pos q] at h
      subst q
      rcases cmpL_lt a b h with ⟨p,s,t,e1,e2⟩ | ⟨t,ht,e⟩
      · exact .inl ⟨x::p,s,t,by rw [e1];rfl,by rw [e2];rfl⟩
      · exact .inr ⟨t,ht,by rw [e];rfl⟩
    · rw [if_neg q] at h
      cases y
      · simp at h
      · cases x
        · exact .inl ⟨[],a,b,rfl,rfl⟩
        · exact absurd rfl q
theorem arb_at12 (f:Fr):(arbP f)[12]?=some f.ext:=by
  unfold arbP
  cases h:f.ext
  · rw [if_neg (by simp),List.getElem?_append_right (by simp [bitsOf_length])]
    simp [bitsOf_length]
  · rw [if_pos rfl,List.append_assoc,List.append_assoc,List.getElem?_append_right (by simp [bitsOf_length])]
    simp [bitsOf_length]
theorem arb_diff {f g:Fr} (h:cmpL (arbP g) (arbP f)<0):∃ p x y,arbP g=p++false::x∧arbP f=p++true::y∧p.length≤31∧(nextF (false::p)).1=1:=by
  have lf:=arbP_length f
  have lg:=arbP_length g
  have tf:=arb_at12 f
  have tg:=arb_at12 g
  rcases cmpL_lt _ _ h with ⟨p,x,y,e1,e2⟩ | ⟨y,hy,e⟩
  · refine ⟨p,x,y,e1,e2,?_,?_⟩
    · rw [e1] at lg
      simp at lg
      split at lg<;>omega
    · have hl:p.length≤31:=by rw [e1] at lg;simp at lg;split at lg<;>omega
      unfold nextF
      rw [if_neg (by simp),if_pos]
      by_cases q:p.length≤12
      · exact .inl (by simp;omega)
      · refine .inr ⟨?_,by simp;omega⟩
        have hx:f.ext=true:=by
          rw [e2] at lf
          simp at lf
          cases hh:f.ext
          · rw [hh] at lf;simp at lf;omega
          · rfl
        rw [e2,List.getElem?_append_left (by omega),hx] at tf
        unfold extF
        simp [tf]
  · exfalso
    rw [e,List.length_append] at lf
    have hy1:=List.length_pos_iff.2 hy
    rw [lg] at lf
    cases hg:g.ext
    · cases hf:f.ext
      · rw [hg,hf] at lf;simp at lf;exact hy lf
      · rw [hg] at tg lg
        rw [hf,e,List.getElem?_append_left (by rw [lg];simp),tg] at tf
        simp at tf
    · rw [hg] at lf
      simp at lf
      split at lf<;>omega
/-- What a sender that loses does at each level of a row. -/
def LosP (k0:Nat) (g:Fr) (S:Nat) (i:Nat) (n:Nd) (b:Bool):Prop :=
  (i<k0→drN n=b∧evN n b=[])∧(i=k0→b=false∧drN n=true∧evN n b=[(3,Fr.zero)])∧(k0<i→RcvP g S i n b)
theorem tx_lose {n:Nd} (hm:n.mode=2) (hs:n.sends=true) {p:List Bool} {c:Bool} {r:Nat} (h0:0<r) (h5:r<5) (hr:n.row[p.length]?=some true) (hk:(nextF p).1=1) :
    drN (rdN n p c r)=true∧evN (rdN n p c r) false=[(3,Fr.zero)]∧nxN (rdN n p c r) false=rdN { n with tx:=false,sends:=false } (p++[false]) false (if false=c then r+1 else 1):=by
  obtain ⟨e1,e2,e3⟩:=step_in (n:=rdN n p c r) hm false
  have hin:inN (rdN n p c r) false=([3],Fr.zero,(takeN { rdN n p c r with tx:=false,sends:=false } false).2):=by
    unfold inN
    rw [if_pos (show (rdN n p c r).sends=true from hs),tx_fr hs (by omega) hr,if_neg (by simp),if_neg (by simp),if_pos (show (nextF (rdN n p c r).raw).1=1 from hk),if_neg (show ¬ (rdN n p c r).run=5 from by show ¬ r=5;omega)]
  rw [hin] at e1 e2
  refine ⟨by rw [e3];exact tx_fr hs (by omega) hr,by rw [e1];rfl,?_⟩
  rw [e2]
  show (takeN (rdN { n with tx:=false,sends:=false } p c r) false).2=_
  unfold takeN
  rw [if_neg (show ¬ (rdN { n with tx:=false,sends:=false } p c r).run=5 from by show ¬ r=5;omega),if_neg (show ¬ 4<(nextF (rdN { n with tx:=false,sends:=false } p c r).raw).1 from by show ¬ 4<(nextF p).1;omega)]
  by_cases q:false=c
  · rw [if_pos (show 0<(rdN { n with tx:=false,sends:=false } p c r).run∧false=(rdN { n with tx:=false,sends:=false } p c r).lvl from ⟨h0,q⟩),if_pos q,q];rfl
  · rw [if_neg (fun g=>q g.2),if_neg q];rfl
theorem lose_row {f g:Fr} (hf:checkP f=0) (hg:g.Ok) (hcg:checkP g=0) (hl:lessP g f=true) {n:Nd} (hm:n.mode=1) {l:List Fr} (hq:n.q=f::l) :
    ∃ k0 m,0<k0∧k0≤39∧k0<(stuffP (sentP g)).length∧(encodeP f false)[k0]?=some true∧(∀ i,i<k0→(encodeP f false)[i]?=(encodeP g true)[i]?) ∧
      Chk (LosP k0 g (stuffP (sentP g)).length) 0 n (encodeP g true) m∧m.mode=8∧m.k=0∧m.tx=false∧m.q=n.q∧m.ct=n.ct.recv:=by
  have hcmp:cmpL (arbP g) (arbP f)<0:=by
    unfold lessP arbQ at hl
    rw [if_pos hf,if_pos hcg] at hl
    simp at hl
    exact hl.2
  obtain ⟨p,x,y,eg,ef,hp,hk⟩:=arb_diff hcmp
  obtain ⟨sg,hsg⟩:∃ s,sentP g=false::(p++false::s):=⟨_,by unfold sentP bitsP;rw [eg];simp;rfl⟩
  obtain ⟨sf,hsf⟩:∃ s,sentP f=false::(p++true::s):=⟨_,by unfold sentP bitsP;rw [ef];simp;rfl⟩
  have hrow:(startN n true).row=allP f:=by show (if true=true then allP (n.q.head?.getD Fr.zero) else n.row)=allP f;rw [if_pos rfl,hq]<;>rfl
  obtain ⟨s1,s2,s3⟩:=snd_start hm hq
  obtain ⟨c1,r0,r5,r4⟩:=feedE hf (n:=startN n true) rfl (fun _=>hrow) p [false] (true::sf) false 1 1 (by rw [hsf];rfl) (by omega) (by omega)
  have Eg:=stuff_head (f:=g) hsg
  have Ef:=stuff_head (f:=f) hsf
  rw [emit_app] at Eg Ef
  generalize hc:(endE false 1 p).1=c at *
  generalize hr:(endE false 1 p).2=r at *
  rw [emit_cons] at Eg Ef
  generalize hA:emit (some false) 1 p=A at *
  have hrp:(startN n true).row[([false]++p).length]?=some true:=by
    rw [hrow,allP_sent,hsf]
    show (((false::p)++true::sf)++_)[(false::p).length]?=_
    rw [List.append_assoc,List.getElem?_append_right (Nat.le_refl _),Nat.sub_self];rfl
  obtain ⟨l1,l2,l3⟩:=tx_lose (n:=startN n true) rfl rfl (c:=c) r0 r5 hrp hk
  have hpre:∀ (T:List Bool),(encodeP g true)=(false::A)++false::T→(encodeP g true)[A.length+1]?=some false∧∀ i:Nat,i<A.length+1→(encodeP g true)[i]?=(false::A)[i]?:=by
    intro T e
    rw [e]
    refine ⟨by rw [List.getElem?_append_right (by simp)];simp,fun i hi=>by rw [List.getElem?_append_left (by simpa using hi)]⟩
  have hfin:∀ i:Nat,(encodeP f false)[i]?=(((false::A)++true::(if (if true=c then r+1 else 1)=5 then (!true)::emit (some !true) 1 sf else emit (some true) (if true=c then r+1 else 1) sf))++[true,!false,true,true,true,true,true,true,true,true])[i]?:=by
    intro i
    rw [encodeP_parts,Ef];simp
  have hgl:(stuffP (sentP g)).length > A.length+1:=by rw [Eg];simp
  have hE:=encodeP_parts g true
  -- behind the level
  have key:∀ (c':Bool) (r':Nat) (B:List Bool) (i0:Nat),r'<5→Chk (FedP false) i0 (rdN { startN n true with tx:=false,sends:=false } ([false]++p++[false]) false (if false=c then r+1 else 1)) B (rdN { startN n true with tx:=false,sends:=false } (sentP g) c' r')→i0=A.length+2→(stuffP (sentP g)).length=A.length+2+B.length →
      Chk (RcvP g (stuffP (sentP g)).length) i0 (rdN { startN n true with tx:=false,sends:=false } ([false]++p++[false]) false (if false=c then r+1 else 1)) (B++[true,false,true,true,true,true,true,true,true,true]) (rdN { startN n true with tx:=false,sends:=false,ct:=n.ct.recv,mode:=8,k:=0 } (sentP g++[true,false,true,true,true,true,true,true,true,true]) c' 0):=by
    intro c' r' B i0 h5 hB e1 e2
    refine chk_append B (chk_mono _ ?_ hB) ?_
    · intro j m b j1 j2 hj
      refine ⟨?_,?_⟩
      · rw [hj.1]
        have:¬ j=(stuffP (sentP g)).length+1:=by omega
        simp [this]
      · rw [hj.2,if_neg (by omega)]
    · have:=rcv_tail hg hcg (n:={ startN n true with tx:=false,sends:=false }) rfl rfl c' r' (stuffP (sentP g)).length h5
      rw [e1]
      rw [e2] at this ⊢
      exact this
  have e3:([false]++p++[false])++sg=sentP g:=by rw [hsg];simp
  have fin:∃ (c':Bool) (r':Nat) (B:List Bool),r'<5∧stuffP (sentP g)=(false::A)++false::B∧Chk (FedP false) (A.length+2) (rdN { startN n true with tx:=false,sends:=false } ([false]++p++[false]) false (if false=c then r+1 else 1)) B (rdN { startN n true with tx:=false,sends:=false } (sentP g) c' r'):=by
    by_cases h55:(if false=c then r+1 else 1)=5
    · rw [if_pos h55] at Eg
      have hk5:(nextF ([false]++p++[false])).1≤5:=kind_next (m:=[false]++p) (by show (nextF (false::p)).1≤4;omega) false
      obtain ⟨b1,b2,b3⟩:=in_stuff (n:={ startN n true with tx:=false,sends:=false }) rfl ([false]++p++[false]) false hk5
      obtain ⟨c',r',h0,h5,hh⟩:=feedN hcg (n:={ startN n true with tx:=false,sends:=false }) rfl (fun q=>by cases q) sg ([false]++p++[false]) (!false) 1 (A.length+2+1) e3 (by omega) (by omega)
      refine ⟨c',r',_,h5,by rw [Eg];rfl,?_⟩
      rw [h55]
      refine ⟨⟨b1,b2⟩,?_⟩
      rw [b3];exact hh
    · rw [if_neg h55] at Eg
      have hlt:(if false=c then r+1 else 1)<5∧0<(if false=c then r+1 else 1):=by by_cases q:false=c<;>simp only [q,if_true,if_false] at h55 ⊢<;>omega
      obtain ⟨c',r',h0,h5,hh⟩:=feedN hcg (n:={ startN n true with tx:=false,sends:=false }) rfl (fun q=>by cases q) sg ([false]++p++[false]) false _ (A.length+2) e3 hlt.2 hlt.1
      exact ⟨c',r',_,h5,by rw [Eg];rfl,hh⟩
  obtain ⟨c',r',B,h5,eB,hB⟩:=fin
  have hBl:(stuffP (sentP g)).length=A.length+2+B.length:=by rw [eB];simp;omega
  have hK:=key c' r' B _ h5 hB rfl hBl
  have hEg:encodeP g true=(false::A)++false::(B++[true,false,true,true,true,true,true,true,true,true]):=by rw [hE,eB];simp
  obtain ⟨hp1,hp2⟩:=hpre _ hEg
  refine ⟨A.length+1,rdN { startN n true with tx:=false,sends:=false,ct:=n.ct.recv,mode:=8,k:=0 } (sentP g++[true,false,true,true,true,true,true,true,true,true]) c' 0,by omega,by omega,hgl,?_,?_,?_,rfl,rfl,rfl,rfl,rfl⟩
  · rw [hfin,List.getElem?_append_left (by simp),List.getElem?_append_right (by simp)]
    simp
  · intro i hi
    rw [hp2 i hi,hfin,List.getElem?_append_left (by simp;omega),List.getElem?_append_left (by simpa using hi)]
  · rw [hEg]
    refine chk_append (false::A) (x:=rdN (startN n true) ([false]++p) c r) ?_ ?_
    · refine ⟨⟨fun _=>⟨s1,s2⟩,fun q=>by omega,fun q=>by omega⟩,?_⟩
      rw [s3]
      refine chk_mono A ?_ c1
      intro j m b j1 j2 hj
      exact ⟨fun _=>fed_ap hj,fun q=>by omega,fun q=>by omega⟩
    · refine ⟨⟨fun q=>by simp at q,fun _=>⟨rfl,l1,l2⟩,fun q=>by simp at q⟩,?_⟩
      rw [l3]
      have:0+(false::A).length+1=A.length+2:=by simp
      rw [this]
      refine chk_mono _ ?_ hK
      intro j m b j1 j2 hj
      exact ⟨fun q=>by omega,fun q=>by omega,fun _=>hj⟩
end Go.AM.R1
open Go Go.AM
namespace Go.AM.R1
/-! ### A node that has joined, with frames -/
def pN (n:Nd) (l:List Fr):Nd:=l.foldl (fun n f=>(nputN n f).2) n
theorem put_ok {n:Nd} {f:Fr} (hc:checkP f=0) (hl:n.q.length<16):nputN n f=(0,{ n with q:=insP f n.q,nq:=false }):=by
  unfold nputN
  rw [if_neg (by simp [hc]),if_neg (by omega)]
theorem addS_ge:∀ (m out:List Bool) (rn:Nat),out.length+m.length≤(addS out rn m).length
  | [],_,_=>by unfold addS;simp
  | x :: m,out,rn=>by
    unfold addS
    split
    · have:=addS_ge m (out++[x,!x]) 1
      simp at this ⊢;omega
    · have:=addS_ge m (out++[x]) (tellR out rn x)
      simp at this ⊢;omega
theorem jn_loop1 (frs:List Fr) (hok:∀ f∈frs,f.Ok∧checkP f=0) (h16:frs.length≤16) (n1 f1:Bool) (k:List Item) (Q:Option (AVal × Heap)→Prop) (N:Nd) (hk:∀ H fs τ,lk 3 τ=.ptr 0 0→NodeAt H 0 N fs→Q (finK 0 [.tmp 2] (run E 0 k τ H))) :
    ∀ (d i:Nat),i+d=frs.length→∀ H fs m,NodeAt H 0 m fs→m.Inv→m.q.length+d≤16→N=pN m (frs.drop i) →
    Q (finK 0 [.tmp 2] (run E 0 (.code L13_1::.inLoop [0,3,5] L13_1::.inBlock 2::k) [(0,.imm n1 f1 true (frs.map encFr)),(3,.ptr 0 0),(5,.lit (.int .i64 i))] H)):=by
  intro d
  induction d with
  | zero =>
    intro i hi H fs m h hI hq hN
    rw [List.drop_eq_nil_of_le (by omega)] at hN
    have:N=m:=hN
    subst this
    have hlt:((i:Int)<(frs.length:Int))=False:=eq_false (by omega)
    simp [go_sem,run_codeL E L13_1.eq_1,hlt]
    exact hk H fs _ (by simp [lk]) h
  | succ d ih =>
    intro i hi H fs m h hI hq hN
    have hlt:((i:Int)<(frs.length:Int))=True:=eq_true (by omega)
    have hltn:i<frs.length:=by omega
    have w:=wrapIdx (i:=i) (by omega)
    have hfi:(frs.map encFr)[i]?=some (encFr frs[i]):=by rw [List.getElem?_map,List.getElem?_eq_getElem hltn];rfl
    have hfo:=hok frs[i] (List.getElem_mem _)
    rw [List.drop_eq_getElem_cons hltn] at hN
    generalize frs[i]=f at hfi hfo hN
    obtain ⟨H2,fs2,hs,h2,ha⟩:=put_at h hI.ok f
    have hp:=put_ok hfo.2 (n:=m) (by omega)
    have hI2:=inv_put hI hfo.1
    have hq2:(nputN m f).2.q.length=m.q.length+1:=by rw [hp];exact insP_len f m.q
    have ih2:=ih (i+1) (by omega) (sweep fs2 0 H2) fs2 _ (nodeAt_sw1 h2) hI2 (by omega) hN
    have hre:=reach_p1 h2
    rw [hp] at hs
    have hml:(frs.map encFr).length=frs.length:=by simp
    have hfi2:∀ (q:i<(frs.map encFr).length),(frs.map encFr)[i]=encFr f:=fun q=>(List.getElem?_eq_some_iff.1 hfi).2
    generalize frs.map encFr=rows at *
    simp [encFr,u8v] at hs w ih2 hfi hfi2
    simp [go_sem,run_codeL E L13_1.eq_1,hlt,hml,hltn,hs,w,hfi,hfi2,encFr,u8v]
    rw [run_inLoop']
    simp [go_sem,hre]
    exact ih2
set_option maxHeartbeats 2000000 in
theorem joined_frs (frs:List Fr) (hok:∀ f∈frs,f.Ok∧checkP f=0) (h16:frs.length≤16) (n1 f1:Bool):∃ F,call E (.func (.func 13) [] []) [.imm n1 f1 true (frs.map encFr)] []=some (.ptr 0 0,ndH (pN nd1 frs) F):=by
  have hn:=nnew_spec
  suffices hs:∀ (Q:Option (AVal × Heap)→Prop),(∀ F,Q (some (.ptr 0 0,ndH (pN nd1 frs) F)))→Q (call E (.func (.func 13) [] []) [.imm n1 f1 true (frs.map encFr)] []) by
    refine hs (fun r=>∃ F,r=some (.ptr 0 0,ndH (pN nd1 frs) F)) fun F=>⟨F,rfl⟩
  intro Q hQ
  have hloop:=fun k hk=>jn_loop0 (.imm n1 f1 true (frs.map encFr)) rfl k Q hk 11 0 (by omega)
  have hloop1:=fun k hk=>jn_loop1 frs hok h16 n1 f1 k Q (pN nd1 frs) hk frs.length 0 (by omega)
  have h0:=nodeAt_sw1 (nodeAt_can nd0 ⟨false,false,false,false,false⟩ [])
  rw [List.append_nil] at h0
  have hre:=reach_p1 (by have:=nodeAt_can nd0 ⟨false,false,false,false,false⟩ [];rwa [List.append_nil] at this)
  rw [call_func E E13]
  generalize frs.map encFr=rows at *
  simp [itN,nilS] at hloop
  simp [go_sem,ir13,hn]
  rw [run_inLoop']
  simp [go_sem,hre]
  refine hloop _ ?_ _ _ h0
  intro H fs τ t0 t3 h
  have hre:=reach_p1 h
  simp at hloop1
  simp [go_sem,t0,t3]
  rw [run_inLoop']
  simp [go_sem,t0,t3,hre]
  refine hloop1 _ ?_ _ _ nd1 (nodeAt_sw1 h) nd1_inv (by simp [nd1,nd0];exact h16) rfl
  intro H fs τ t3 h
  obtain ⟨F,hF⟩:=ret_node h
  have hq:=hQ F
  rw [← hF] at hq
  simp [go_sem,t3]
  exact hq
end Go.AM.R1
open Go Go.AM
namespace Go.AM.R1
theorem reach_q3 {H:Heap} {a:Nat} {n:Nd} {fs:List Nat} (h:NodeAt H a n fs) {b c d:Nat} {e e2 e3:Entry} (hb:Ext H fs b e) (hc:Ext H fs c e2) (hd:Ext H fs d e3) (hn:[b,c,d].Nodup) (he:refsE e=[]) (he2:refsE e2=[]) (he3:refsE e3=[]):reach H purse [b,c,d,a] []=some ([b,c,d]++fs):=by
  have:=reach_mix h [b,c,d] [] (by
    intro x hx
    simp at hx
    rcases hx with q | q | q
    · rw [q];exact ⟨_,hb.get,he⟩
    · rw [q];exact ⟨_,hc.get,he2⟩
    · rw [q];exact ⟨_,hd.get,he3⟩) (by
    rw [List.append_nil,List.nodup_append]
    refine ⟨hn,nodeAt_nodup h,?_⟩
    intro x hx y hy e
    subst e
    simp at hx
    rcases hx with q | q | q<;>subst q
    · exact hb.out hy
    · exact hc.out hy
    · exact hd.out hy) (by simp)
  simpa using this
set_option maxHeartbeats 8000000 in
theorem ll_loop0 (g:Fr) (row mine:List Bool) (S k0:Nat) (hk0:0<k0) (hk1:k0≤39) (hkS:k0<S) (hlen:row.length=S+10) (hlm:44≤mine.length) (hS:S≤100000) (hslo:row[S+1]?=some false) (hm0:mine[k0]?=some true) (hmi:∀ i,i<k0→mine[i]?=row[i]?) (k:List Item) (Q:Option (AVal × Heap)) (l1 l2 l3 l4:Bool) (m:Nd)
    (hk:∀ H fs τ,lk 9 τ=.ptr 5 0→lk 10 τ=.lit (.int .i64 k0)→NodeAt H 5 m fs→finK 0 [.tmp 4] (run E 0 k τ H)=Q) :
    ∀ (d j:Nat),j+d=S+10→∀ H fs n,NodeAt H 5 n fs→n.Inv→n.k≤100+j→Ext H fs 1 (.box (encFr g))→Ext H fs 2 (.arr true l1 l2 1 (row.map encLv))→Ext H fs 3 (.arr true l3 l4 1 (mine.map encLv))→Chk (LosP k0 g S) j n (row.drop j) m→∀ lo:Int,lo=(if j≤k0 then (-1:Int) else (k0:Int)) →
    finK 0 [.tmp 4] (run E 0 (.code L8_0::.inLoop [3,5,7,9,10,11] L8_0::.inBlock 0::k) [(3,.ptr 1 0),(5,.own 2 row.length 1 0 row.length),(7,.own 3 mine.length 1 0 mine.length),(9,.ptr 5 0),(10,.lit (.int .i64 lo)),(11,.lit (.int .i64 j))] H)=Q:=by
  intro d
  induction d with
  | zero =>
    intro j hj H fs n h hI hkk hb hr hm hok lo hlo
    have hlt:((j:Int)<(row.length:Int))=False:=eq_false (by omega)
    rw [List.drop_eq_nil_of_le (by omega)] at hok
    have:m=n:=hok
    subst this
    rw [if_neg (by omega)] at hlo
    subst hlo
    simp [go_sem,run_codeL E L8_0.eq_1,hlt]
    exact hk H fs _ (by simp [lk]) (by simp [lk]) h
  | succ d ih =>
    intro j hj H fs n h hI hkk hb hr hm hok lo hlo
    have hlt:((j:Int)<(row.length:Int))=True:=eq_true (by omega)
    have w2:=wrap64 (x:=(row.length:Int) - 2) (by omega) (by omega)
    have w9:=wrap64 (x:=(row.length:Int) - 9) (by omega) (by omega)
    have w3:=wrapIdx (i:=j) (by omega)
    have hjl:j<row.length:=by omega
    obtain ⟨x,hx⟩:∃ x,x=row[j]:=⟨_,rfl⟩
    have hlx:row[j]?=some x:=by rw [List.getElem?_eq_getElem hjl,hx]
    rw [List.drop_eq_getElem_cons hjl,← hx] at hok
    obtain ⟨⟨cA,cB,cC⟩,hrest⟩:=hok
    obtain ⟨H1,hd,h1,a1⟩:=drive_at h hI
    obtain ⟨H2,hd2,h2,a2⟩:=drive_at h1 hI
    have step:=fun {H fs} (h:NodeAt H 5 n fs)=>step_at h hI (by omega) x
    have hgx:(row.map encLv)[j]?=some (encLv x):=by rw [List.getElem?_map,hlx];rfl
    have hgx2:∀ (q:j<(row.map encLv).length),(row.map encLv)[j]=encLv x:=fun q=>(List.getElem?_eq_some_iff.1 hgx).2
    have hml:(row.map encLv).length=row.length:=by simp
    have hmm:(mine.map encLv).length=mine.length:=by simp
    have hr0:=hr.get
    have hr1:=(hr.around a1).get
    have hr2:=((hr.around a1).around a2).get
    have hm0':=hm.get
    have hm1:=(hm.around a1).get
    have hm2:=((hm.around a1).around a2).get
    rcases Nat.lt_trichotomy j k0 with q | q | q
    · rw [if_pos (by omega)] at hlo
      subst hlo
      obtain ⟨e1,e2⟩:=cA q
      obtain ⟨H3,fs3,ix,hs,h3,a3,-⟩:=step h2
      have hb3:=((hb.around a1).around a2).around a3
      have hr3:=((hr.around a1).around a2).around a3
      have hm3:=((hm.around a1).around a2).around a3
      have hre:=reach_q3 h3 hb3 hr3 hm3 (by simp) rfl rfl rfl
      have ih2:=ih (j+1) (by omega) (sweep ([1,2,3]++fs3) 0 H3) fs3 (nxN n x) (nodeAt_sweep h3 (by intro i hi;simp [hi])) (inv_next hI x) (by have:=k_next n x hI.mode;omega) (ext_sweep hb3 (by simp)) (ext_sweep hr3 (by simp)) (ext_sweep hm3 (by simp)) hrest (-1) (by rw [if_pos (by omega)])
      have hmj:(mine.map encLv)[j]?=some (encLv x):=by rw [List.getElem?_map,hmi j q,hlx];rfl
      have hmj2:∀ (q:j<(mine.map encLv).length),(mine.map encLv)[j]=encLv x:=fun q=>(List.getElem?_eq_some_iff.1 hmj).2
      have hjm:j<mine.length:=by omega
      rw [e1] at hd hd2
      rw [e2] at hs
      generalize row.map encLv=rows at *
      generalize mine.map encLv=mows at *
      cases x
      · simp [evV,lvF,nilS] at hs hd hd2 ih2 hre w2 w3 w9
        simp [go_sem,run_codeL E L8_0.eq_1,hlt,w2,w3,w9,hd,hd2,hs,hgx,hgx2,hml,hmm,hmj,hmj2,hr0,hr1,hr2,hm0',hm1,hm2,hjl,hjm,encLv,lvF,nilS]
        rw [run_inLoop']
        simp [go_sem,hre]
        exact ih2
      · simp [evV,lvT,nilS] at hs hd hd2 ih2 hre w2 w3 w9
        simp [go_sem,run_codeL E L8_0.eq_1,hlt,w2,w3,w9,hd,hd2,hs,hgx,hgx2,hml,hmm,hmj,hmj2,hr0,hr1,hr2,hm0',hm1,hm2,hjl,hjm,encLv,lvT,nilS]
        rw [run_inLoop']
        simp [go_sem,hre]
        exact ih2
    · rw [if_pos (by omega)] at hlo
      subst hlo
      obtain ⟨e0,e1,e2⟩:=cB q
      subst e0
      obtain ⟨H3,fs3,ix,hs,h3,a3,hix⟩:=step h2
      have hb3:=((hb.around a1).around a2).around a3
      have hr3:=((hr.around a1).around a2).around a3
      have hm3:=((hm.around a1).around a2).around a3
      have hr3g:=hr3.get
      have hm3g:=hm3.get
      have hre:=reach_q3 h3 hb3 hr3 hm3 (by simp) rfl rfl rfl
      have ih2:=ih (j+1) (by omega) (sweep ([1,2,3]++fs3) 0 H3) fs3 (nxN n false) (nodeAt_sweep h3 (by intro i hi;simp [hi])) (inv_next hI false) (by have:=k_next n false hI.mode;omega) (ext_sweep hb3 (by simp)) (ext_sweep hr3 (by simp)) (ext_sweep hm3 (by simp)) hrest j (by rw [if_neg (by omega),q])
      have hmj:(mine.map encLv)[j]?=some (encLv true):=by rw [List.getElem?_map,q,hm0];rfl
      have hmj2:∀ (q:j<(mine.map encLv).length),(mine.map encLv)[j]=encLv true:=fun q=>(List.getElem?_eq_some_iff.1 hmj).2
      have hjm:j<mine.length:=by omega
      have h39:((39:Int)<(j:Int))=False:=eq_false (by omega)
      have hx4:=(hix (by rw [e2];simp)).1
      rw [e1] at hd hd2
      rw [e2] at hs hx4
      generalize row.map encLv=rows at *
      generalize mine.map encLv=mows at *
      simp [evV,encEv,lvF,lvT,nilS,Fr.zero] at hs hd hd2 ih2 hre w2 w3 w9 hx4
      simp [go_sem,run_codeL E L8_0.eq_1,hlt,w2,w3,w9,hd,hd2,hs,hx4,h39,hgx,hgx2,hml,hmm,hmj,hmj2,hr0,hr1,hr2,hr3g,hm0',hm1,hm2,hm3g,hjl,hjm,encLv,lvF,lvT,nilS]
      rw [run_inLoop']
      simp [go_sem,hre]
      exact ih2
    · rw [if_neg (by omega)] at hlo
      subst hlo
      obtain ⟨e1,e2⟩:=cC q
      obtain ⟨H3,fs3,ix,hs,h3,a3,hix⟩:=step h2
      have hb3:=((hb.around a1).around a2).around a3
      have hr3:=((hr.around a1).around a2).around a3
      have hm3:=((hm.around a1).around a2).around a3
      have hb3g:=hb3.get
      have hre:=reach_q3 h3 hb3 hr3 hm3 (by simp) rfl rfl rfl
      have ih2:=ih (j+1) (by omega) (sweep ([1,2,3]++fs3) 0 H3) fs3 (nxN n x) (nodeAt_sweep h3 (by intro i hi;simp [hi])) (inv_next hI x) (by have:=k_next n x hI.mode;omega) (ext_sweep hb3 (by simp)) (ext_sweep hr3 (by simp)) (ext_sweep hm3 (by simp)) hrest k0 (by rw [if_neg (by omega)])
      have hk0':((k0:Int)<0)=False:=eq_false (by omega)
      have hk0'':((0:Int)≤(k0:Int))=True:=eq_true (by omega)
      generalize row.map encLv=rows at *
      generalize mine.map encLv=mows at *
      by_cases qs:j=S+1
      · have f9:((j:Int)=(row.length:Int) - 9)=True:=eq_true (by omega)
        rw [show (!decide (j=S+1))=false by simp [qs]] at e1
        rw [if_neg (by omega)] at e2
        rw [qs,hslo] at hlx
        have hxf:x=false:=by simpa using hlx.symm
        subst hxf
        rw [e1] at hd hd2
        rw [e2] at hs
        simp [evV,lvF,nilS] at hs hd hd2 ih2 hre w2 w3 w9
        simp [go_sem,run_codeL E L8_0.eq_1,hlt,w2,w3,w9,hd,hd2,hs,f9,hk0',hk0'',hgx,hgx2,hml,hmm,hr0,hr1,hr2,hjl,encLv,lvF,nilS]
        rw [run_inLoop']
        simp [go_sem,hre]
        exact ih2
      · have f9:((j:Int)=(row.length:Int) - 9)=False:=eq_false (by omega)
        rw [show (!decide (j=S+1))=true by simp [qs]] at e1
        rw [e1] at hd hd2
        by_cases qt:j=S+8
        · have f2:((j:Int)=(row.length:Int) - 2)=True:=eq_true (by omega)
          rw [if_pos qt] at e2
          have hx4:=(hix (by rw [e2];simp)).1
          rw [e2] at hs hx4
          simp [evV,encEv,lvT,nilS] at hs hd hd2 ih2 hre w2 w3 w9 hx4
          simp [encFr,u8v] at hb3g
          simp [go_sem,run_codeL E L8_0.eq_1,hlt,w2,w3,w9,hd,hd2,hs,f9,f2,hk0',hk0'',hx4,hb3g,hgx,hgx2,hml,hmm,hr0,hr1,hr2,hjl,encLv,lvT,nilS,encFr_eq,u8v]
          rw [run_inLoop']
          simp [go_sem,hre]
          exact ih2
        · rw [if_neg qt] at e2
          rw [e2] at hs
          simp [evV,lvT,nilS] at hs hd hd2 ih2 hre w2 w3 w9
          simp [go_sem,run_codeL E L8_0.eq_1,hlt,w2,w3,w9,hd,hd2,hs,f9,hk0',hk0'',hgx,hgx2,hml,hmm,hr0,hr1,hr2,hjl,encLv,lvT,nilS]
          rw [run_inLoop']
          simp [go_sem,hre]
          exact ih2
theorem ll_loop1 (k0:Nat) (n:Nd) (hI:n.Inv) (hn:n.k=0) (k:List Item) (Q:Option (AVal × Heap))
    (hk:∀ H fs τ,lk 9 τ=.ptr 5 0→lk 10 τ=.lit (.int .i64 k0)→NodeAt H 5 (itN n 3) fs→finK 0 [.tmp 4] (run E 0 k τ H)=Q) :
    ∀ (d i:Nat),i+d=3→∀ H fs,NodeAt H 5 (itN n i) fs →
    finK 0 [.tmp 4] (run E 0 (.code L8_1::.inLoop [9,10,14] L8_1::.inBlock 2::k) [(9,.ptr 5 0),(10,.lit (.int .i64 k0)),(14,.lit (.int .i64 i))] H)=Q:=by
  intro d
  induction d with
  | zero =>
    intro i hi H fs h
    have hlt:((i:Int)<3)=False:=eq_false (by omega)
    have hi:i=3:=by omega
    rw [hi] at h
    simp [go_sem,run_codeL E L8_1.eq_1,hlt]
    exact hk H fs _ (by simp [lk]) (by simp [lk]) h
  | succ d ih =>
    intro i hi H fs h
    have hlt:((i:Int)<3)=True:=eq_true (by omega)
    have w:=wrapIdx (i:=i) (by omega)
    obtain ⟨H2,fs2,ix,hs,h2,a2,-⟩:=step_at h (it_inv hI i) (by have:=it_k hI i;omega) true
    have ih2:=ih (i+1) (by omega) (sweep fs2 0 H2) fs2 (nodeAt_sw1 h2)
    have hre:=reach_p1 h2
    simp [lvT] at w ih2 hs
    simp [go_sem,run_codeL E L8_1.eq_1,hlt,hs,w]
    rw [run_inLoop']
    simp [go_sem,hre]
    exact ih2
set_option maxHeartbeats 8000000 in
theorem ctlLoses_spec (f g:Fr) (hf:f.Ok) (hg:g.Ok) :
    call E (.func (.func 8) [] []) [.agg (encFr f),.agg (encFr g)] []=some (.lit (.bool true),[]):=by
  have ha:=awake10
  have hls:=less_spec g f
  rw [call_func E E8]
  cases hl:lessP g f
  · rw [hl] at hls
    simp [encFr,u8v] at hls
    simp [go_sem,ir8,encFr,u8v,hls,ha]
  · rw [hl] at hls
    have hcf:checkP f=0∧checkP g=0:=by
      unfold lessP bothOk at hl
      simp at hl
      exact ⟨hl.1.2,hl.1.1⟩
    obtain ⟨hc,hcg⟩:=hcf
    have hE1:=encode_spec g hg hcg true
    have hE2:=encode_spec f hf hc false
    obtain ⟨F,hj⟩:=joined_frs [f] (by intro x hx;simp at hx;subst hx;exact ⟨hf,hc⟩) (by simp) false true
    have hp:pN nd1 [f]={ nd1 with q:=[f],nq:=false }:=by
      show (nputN nd1 f).2=_
      rw [put_ok hc (by decide)];rfl
    have nI:(pN nd1 [f]).Inv:=inv_put nd1_inv hf
    have nM:(pN nd1 [f]).mode=1:=by rw [hp];rfl
    have nQ:(pN nd1 [f]).q=[f]:=by rw [hp]
    have nC:(pN nd1 [f]).ct=Ct.zero:=by rw [hp];rfl
    have nK:(pN nd1 [f]).k=0:=by rw [hp];rfl
    have hlens:∀ x:Fr,checkP x=0→∀ b,(encodeP x b).length=(stuffP (sentP x)).length+10∧(stuffP (sentP x)).length≤100000∧34≤(stuffP (sentP x)).length:=by
      intro x hx b
      have h1:(encodeP x b).length=(stuffP (sentP x)).length+10:=by rw [encodeP_parts];simp
      have h2:=addS_len (sentP x) [] 0
      have h4:=addS_ge (sentP x) [] 0
      have h3:(stuffP (sentP x)).length=(addS [] 0 (sentP x)).length:=rfl
      have h5:=bitsP_length x
      have h6:(sentP x).length=(bitsP x).length+15:=(sentP_sum x hx []).2.2
      simp only [List.length_nil] at h2 h4
      omega
    have lg:=hlens g hcg true
    have lf:=hlens f hc false
    generalize pN nd1 [f]=n at *
    obtain ⟨k0,m,p1,p2,p3,p4,p5,p6,m1,m2,m3,m4,m5⟩:=lose_row hc hg hcg hl nM (l:=[]) nQ
    have hslo:(encodeP g true)[(stuffP (sentP g)).length+1]?=some false:=by
      rw [encodeP_parts,List.getElem?_append_right (by omega),Nat.add_sub_cancel_left];rfl
    have hmI:=chk_inv _ nI p6
    generalize (stuffP (sentP g)).length=S at *
    generalize (stuffP (sentP f)).length=S2 at *
    generalize encodeP g true=row at *
    generalize encodeP f false=mine at *
    have b3:((row.length:Int)<44)=False:=eq_false (by omega)
    have b4:row.length<44↔False:=⟨fun q=>by omega,False.elim⟩
    have b5:((mine.length:Int)<44)=False:=eq_false (by omega)
    have b6:mine.length<44↔False:=⟨fun q=>by omega,False.elim⟩
    have hr1:=rowsLv row
    have hr2:=rowsLv mine
    obtain ⟨X,hX⟩:∃ X:Heap,X=[.box (encFr f),.box (encFr g),rowE row false,rowE mine false,.arr true true true 12 [encFr f]]:=⟨_,rfl⟩
    have hXl:X.length=5:=by rw [hX];rfl
    obtain ⟨fs0,h0,hfs⟩:=nodeAt_ndS X n F
    have hb0:Ext (X++ndS n F X.length) fs0 1 (.box (encFr g)):=ext_pre hfs (by rw [hX];rfl)
    have hrow0:Ext (X++ndS n F X.length) fs0 2 (rowE row false):=ext_pre hfs (by rw [hX];rfl)
    have hmin0:Ext (X++ndS n F X.length) fs0 3 (rowE mine false):=ext_pre hfs (by rw [hX];rfl)
    have hbk:=back_node X n F
    rw [hXl] at h0 hb0 hrow0 hmin0 hbk
    generalize X++ndS n F 5=H0 at h0 hb0 hrow0 hmin0 hbk
    rw [hX] at hbk
    have hre:=reach_q3 h0 hb0 hrow0 hmin0 (by simp) rfl rfl rfl
    have hl0:=fun k hk=>ll_loop0 g row mine S k0 p1 p2 p3 lg.1 (by omega) lg.2.1 hslo p4 p5 k (some (.lit (.bool true),[])) false false false false m hk (S+10) 0 (by omega) _ _ n (nodeAt_sweep h0 (R:=[1,2,3]++fs0) (by intro i hi;simp [hi])) nI (by rw [nK];omega) (ext_sweep hb0 (by simp)) (ext_sweep hrow0 (by simp)) (ext_sweep hmin0 (by simp)) p6 (-1) (by rw [if_pos (by omega)])
    have last:∀ H fs,NodeAt H 5 (itN m 3) fs→∃ H1,callK1 (call E) H (some (.func (.func 18) [] [],[])) (some ([.ptr 5 0],[]))=some (.agg [.lit (.int .i64 1),.lit (.bool false),.lit (.int .i64 0),.lit (.int .i64 0),.lit (.bool false),.lit (.int .i64 1)],H1)∧∃ H2,callK1 (call E) (H1++[.box [.lit (.int .i64 1),.lit (.bool false),.lit (.int .i64 0),.lit (.int .i64 0),.lit (.bool false),.lit (.int .i64 1)]]) (some (.func (.func 16) [] [],[])) (some ([.ptr 5 0],[]))=some (.lit (.int .i64 0),H2):=by
      intro H fs h
      have hp3:=pause3 m1 m2 m3 (fun _ _ _=>True) 0 (fun _ _ _ _ _ _ _=>trivial)
      have e3:itN m 3={ m with mode:=1,k:=0 }:=hp3.2.2.2.symm
      have hI3:=it_inv hmI 3
      have z1:(itN m 3).mode=1:=by rw [e3]
      have z2:(itN m 3).tx=false:=by rw [e3];exact m3
      have z3:(itN m 3).ct=Ct.zero:=by rw [e3];show m.ct=_;rw [m5,nC];rfl
      have z4:(itN m 3).q=[f]:=by rw [e3];show m.q=_;rw [m4,nQ]
      obtain ⟨H1,q1,h1,a1⟩:=look_at h hI3.ok
      refine ⟨H1,?_,?_⟩
      · rw [q1];unfold lookC;rw [z1,z2,z3,z4];rfl
      · have h2:=nodeAt_append h1 [.box [.lit (.int .i64 1),.lit (.bool false),.lit (.int .i64 0),.lit (.int .i64 0),.lit (.bool false),.lit (.int .i64 1)]]
        obtain ⟨H2,q2,-,-⟩:=drive_at h2 hI3
        have:drN (itN m 3)=false:=by unfold drN;rw [if_pos z1,z4];rfl
        rw [this] at q2
        exact ⟨H2,q2⟩
    have hk0p:((0:Int)<(k0:Int))=True:=eq_true (by omega)
    unfold rowE at *
    generalize row.map encLv=rows at *
    generalize mine.map encLv=mows at *
    simp [encFr,u8v,nilS] at hls hE1 hE2 hl0 hre hj hbk
    simp [go_sem,ir8,encFr,u8v,hls,hE1,hE2,hr1,hr2,hj,hbk,nilS,b3,b4,b5,b6]
    rw [run_inLoop']
    simp [go_sem,hre]
    refine hl0 _ ?_
    intro H fs τ t9 t10 h
    have hl1:=fun k hk=>ll_loop1 k0 m hmI m2 k (some (.lit (.bool true),[])) hk 3 0 (by omega) _ fs (nodeAt_sw1 h)
    have hre1:=reach_p1 h
    simp at hl1
    simp [go_sem,t9,t10]
    rw [run_inLoop']
    simp [go_sem,t9,t10,hre1]
    refine hl1 _ ?_
    intro H fs τ t9 t10 h
    obtain ⟨H1,l1,H2,l2⟩:=last H fs h
    simp [go_sem,t9,t10,l1,l2,p1,ha]
end Go.AM.R1
open Go Go.AM
namespace Go.AM.R1
/-! ### Turns -/
end Go.AM.R1
open Go Go.AM Go.Proofs
namespace Go.AM.R1
section
variable {H:Type} {P:Program}
end
end Go.AM.R1
open Go Go.AM Go.AM.R1 Go.Proofs
namespace Go.Proofs.YtkmacpimokhpgaaGreat
open Go.ChangeShapes Go.WideShapes Go.ChangeAt Go.RowKit
namespace ctlLoses
theorem own:ownKnob Tryz.prog.godebug=none:=by kernel_rfl
theorem laidOut:laidOutB Tryz.prog=true:=by kernel_rfl
theorem mixed:Tryz.prog.follows .mixedOrders=true:=by kernel_rfl
set_option maxRecDepth 100000 in
theorem contract (H:Type) (enc:TypeId × Value→H) (W:World) (base:Nat) (args:Array Value) (ds gs:List (DataW H)) (before:List MemPlace)
    (hval:∀ (j:Nat) t v,Tryz.f8.params[j]?=some t→args[j]?=some v→Value.okWide Tryz.prog W .any base t v)
    (hW:DataW.Whole enc Tryz.prog Tryz.f8.params.toList Rows.ctlLosesSpec.vars false W args.toList ds gs before) :
    Calls Tryz.prog 8 args W fun e W'=>∃ v,e=.returned v∧Rows.ctlLosesSpec.post enc Tryz.prog Tryz.f8 false true false false W args v W':=by
  refine law_contract (id:=8) (f:=Tryz.f8) (s:=Rows.ctlLosesSpec) (k:=7) (nargs:=2) (base:=base) (ds:=ds) (gs:=gs) (before:=before) mixed libs_ok R1.hE laidOut ?e1 ?e2 (tb:=4) ?e3 Tryz.underlying4 ?e4 ?e5 ?e7 ?e8 ?e6
  case e7=>exact hval
  case e8=>exact hW
  case e1=>rfl
  case e3=>kernel_rfl
  case e4=>rw [Tryz.params8];rfl
  · rw [Tryz.params8];decide +kernel
  · intro ds h
    match ds,h with
    | [d1,d2],_=>rfl
  · intro cs hA
    rw [Tryz.params8] at hA
    obtain ⟨d1,r1,a1,s1,rfl,rfl,h1,hA⟩:=decArgs_cons hA
    obtain ⟨d2,r2,a2,s2,rfl,rfl,h2,hA⟩:=decArgs_cons hA
    obtain ⟨rfl,rfl⟩:=decArgs_nil hA
    obtain ⟨f,rfl,hf⟩:=decV_frame (n:=4) ⟨Tryz.underlying32,Tryz.underlying3,Tryz.underlying4,Tryz.underlying4,Tryz.underlying3,Tryz.underlying30,Tryz.underlying5⟩ h1
    obtain ⟨g,rfl,hg⟩:=decV_frame (n:=4) ⟨Tryz.underlying32,Tryz.underlying3,Tryz.underlying4,Tryz.underlying4,Tryz.underlying3,Tryz.underlying30,Tryz.underlying5⟩ h2
    obtain ⟨n,hn⟩:=(call_iff R1.E).1 (ctlLoses_spec f g hf hg)
    exact ⟨n,_,hn⟩

set_option maxRecDepth 100000 in
theorem lifted (os:Os) (started:os.Started) (H:Type) (enc:TypeId × Value→H) :
    ReturnsInHanded {} Tryz.checked os 8 .any (Rows.ctlLosesSpec.pre6 enc Tryz.prog Tryz.f8 Rows.ctlLosesRow.domain false) (Rows.ctlLosesSpec.post enc Tryz.prog Tryz.f8 false true false false):=by
  refine returnsInHanded_of_change (C:=Tryz.checked) own started (by kernel_rfl) Tryz.func8
    (ChangeSpec.witness6 (enc:=enc) (C:=Tryz.checked) false ⟨#[],#[.agg #[.int .i64 0,.bool false,.bool false,.int .i64 0,.int .u8 0,.int .u8 0,.int .u8 0,.int .u8 0,.int .u8 0,.int .u8 0,.int .u8 0,.int .u8 0],.agg #[.int .i64 0,.bool false,.bool false,.int .i64 0,.int .u8 0,.int .u8 0,.int .u8 0,.int .u8 0,.int .u8 0,.int .u8 0,.int .u8 0,.int .u8 0]],[]⟩ 8 (by kernel_rfl) (by kernel_rfl) (by kernel_rfl) (by kernel_rfl)) ?_
  intro W base args ds gs before hval hW _ _
  exact contract H enc W base args ds gs before hval hW

theorem proved:Rows.CtlLosesSaid :=
  OpenClaim.holds_of_wide 8 Tryz.f8 rfl rfl rfl rfl rfl rfl rfl ⟨rfl,rfl,rfl,rfl,rfl⟩ rfl rfl rfl rfl rfl (by kernel_rfl) Tryz.func8 (by kernel_rfl)
    (of_decide_eq_true (by kernel_rfl)) (by unfold Func.isWrapper;first | (rw [if_pos (by decide +kernel)];kernel_rfl) | (rw [if_neg (by decide +kernel)];exact ⟨rfl,rfl⟩))
    (fun os started H enc _=>lifted os started H enc)
end ctlLoses
theorem ctlLosesProved:Rows.CtlLosesSaid:=ctlLoses.proved
end Go.Proofs.YtkmacpimokhpgaaGreat
