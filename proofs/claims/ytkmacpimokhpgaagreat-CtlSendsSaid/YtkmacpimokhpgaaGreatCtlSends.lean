/- The law CtlSends of package magnetolaw10 returns true for every input, and its arguments read as before. -/
import Derived.Test.YtkmacpimokhpgaaGreatCtl3
import Derived.ProofKit
set_option linter.unusedVariables false
set_option linter.unusedSimpArgs false
open Go Go.AM
namespace Go.AM.R1
theorem encFr_eq (f:Fr):encFr f=[.lit (.int .i64 f.id),.lit (.bool f.ext),.lit (.bool f.rtr),.lit (.int .i64 f.len),u8v f.d0,u8v f.d1,u8v f.d2,u8v f.d3,u8v f.d4,u8v f.d5,u8v f.d6,u8v f.d7]:=rfl
end Go.AM.R1
open Go Go.AM
namespace Go.AM.R1
/-! ### An overload -/
theorem ev_no {n:Nd} {b:Bool} {m:Nd} (e:stepN n b=noFr ([],m)):evN n b=[]∧nxN n b=m:=by
  unfold evN nxN;rw [e];exact ⟨rfl,rfl⟩
end Go.AM.R1
open Go Go.AM
namespace Go.AM.R1
/-! ### A row, to its end: a sender -/
theorem snd_start {n:Nd} (hm:n.mode=1) {g:Fr} {l:List Fr} (hq:n.q=g::l):drN n=false∧evN n false=[]∧nxN n false=startN n true:=by
  have st:stepN n false=noFr ([],startN n true):=by
    unfold stepN;rw [hm];show noFr (idleN n false)=_
    unfold idleN;rw [if_pos rfl,hq];rfl
  exact ⟨by unfold drN;rw [if_pos hm,hq];rfl,(ev_no st).1,(ev_no st).2⟩
theorem snd_stuff {n:Nd} (hm:n.mode=1) {g:Fr} {l:List Fr} (hq:n.q=g::l) (hc:checkP g=0):∃ c r,r<5∧Chk (FedP true) 0 n (stuffP (sentP g)) (rdN (startN n true) (sentP g) c r):=by
  obtain ⟨t,ht⟩:=sent_head g
  obtain ⟨s1,s2,s3⟩:=snd_start hm hq
  obtain ⟨c,r,h0,h5,h⟩:=feedN hc (n:=startN n true) rfl (fun _=>by show (if true=true then allP (n.q.head?.getD Fr.zero) else n.row)=allP g;rw [if_pos rfl,hq]<;>rfl) t [false] false 1 1 (by rw [ht];rfl) (by omega) (by omega)
  refine ⟨c,r,h5,?_⟩
  rw [stuff_head ht]
  refine ⟨⟨by rw [s1];rfl,s2⟩,?_⟩
  rw [s3]
  exact h
theorem tx_fr {n:Nd} (hs:n.sends=true) {p:List Bool} {c:Bool} {r:Nat} (h5:¬ r=5) {x:Bool} (hr:n.row[p.length]?=some x):frL (rdN n p c r)=x:=by
  unfold frL
  show (if n.sends=true then (if r=5 then _ else (n.row[p.length]?).getD true) else _)=_
  rw [if_pos hs,if_neg h5,hr];rfl
theorem tx_take {n:Nd} {p:List Bool} {c:Bool} {r:Nat} (h5:¬ r=5) (hk:4<(nextF p).1) (b:Bool):(takeN (rdN n p c r) b).2=rdN n (p++[b]) c 0:=by
  unfold takeN
  rw [if_neg (show ¬ (rdN n p c r).run=5 from h5),if_pos (show 4<(nextF (rdN n p c r).raw).1 from hk)]
  rfl
theorem tx_true {n:Nd} (hm:n.mode=2) (hs:n.sends=true) {p:List Bool} {c:Bool} {r:Nat} (h5:¬ r=5) (hr:n.row[p.length]?=some true) (hk:4<(nextF p).1) (h6:¬ (nextF p).1=6) (h86:¬ nextF p=(8,6)) :
    drN (rdN n p c r)=true∧evN (rdN n p c r) true=[]∧nxN (rdN n p c r) true=rdN n (p++[true]) c 0:=by
  obtain ⟨e1,e2,e3⟩:=step_in (n:=rdN n p c r) hm true
  have hin:inN (rdN n p c r) true=([],Fr.zero,(takeN (rdN n p c r) true).2):=by
    unfold inN
    rw [if_pos (show (rdN n p c r).sends=true from hs),tx_fr hs h5 hr,if_pos rfl,if_neg (show ¬ ((rdN n p c r).run≠5∧(nextF (rdN n p c r).raw).1=6) from fun q=>h6 q.2),if_neg (show ¬ ((rdN n p c r).run≠5∧nextF (rdN n p c r).raw=(8,6)) from fun q=>h86 q.2)]
  rw [hin] at e1 e2
  exact ⟨by rw [e3];exact tx_fr hs h5 hr,by rw [e1];rfl,by rw [e2];exact tx_take h5 hk true⟩
theorem tx_ack {n:Nd} (hm:n.mode=2) (hs:n.sends=true) {p:List Bool} {c:Bool} {r:Nat} (h5:¬ r=5) (hr:n.row[p.length]?=some true) (hk:(nextF p).1=6) :
    drN (rdN n p c r)=true∧evN (rdN n p c r) false=[]∧nxN (rdN n p c r) false=rdN n (p++[false]) c 0:=by
  obtain ⟨e1,e2,e3⟩:=step_in (n:=rdN n p c r) hm false
  have hin:inN (rdN n p c r) false=([],Fr.zero,(takeN (rdN n p c r) false).2):=by
    unfold inN
    rw [if_pos (show (rdN n p c r).sends=true from hs),tx_fr hs h5 hr,if_neg (by simp),if_neg (by simp),if_neg (show ¬ (nextF (rdN n p c r).raw).1=1 by show ¬ (nextF p).1=1;omega),if_pos (show (nextF (rdN n p c r).raw).1=6 from hk)]
  rw [hin] at e1 e2
  exact ⟨by rw [e3];exact tx_fr hs h5 hr,by rw [e1];rfl,by rw [e2];exact tx_take h5 (by omega) false⟩
theorem tx_last {n:Nd} (hm:n.mode=2) (hs:n.sends=true) {p:List Bool} {c:Bool} {r:Nat} (h5:¬ r=5) (hr:n.row[p.length]?=some true) (hk:nextF p=(8,6)) :
    drN (rdN n p c r)=true∧evN (rdN n p c r) true=[(1,n.own)]∧nxN (rdN n p c r) true=sentN (rdN n (p++[true]) c 0):=by
  obtain ⟨e1,e2,e3⟩:=step_in (n:=rdN n p c r) hm true
  have hin:inN (rdN n p c r) true=([1],n.own,sentN (takeN (rdN n p c r) true).2):=by
    unfold inN
    rw [if_pos (show (rdN n p c r).sends=true from hs),tx_fr hs h5 hr,if_pos rfl,if_neg (show ¬ ((rdN n p c r).run≠5∧(nextF (rdN n p c r).raw).1=6) from fun q=>by have q2:(nextF p).1=6:=q.2;rw [hk] at q2;cases q2),if_pos (show (rdN n p c r).run≠5∧nextF (rdN n p c r).raw=(8,6) from ⟨h5,hk⟩)]
    rfl
  rw [hin] at e1 e2
  refine ⟨by rw [e3];exact tx_fr hs h5 hr,by rw [e1];rfl,?_⟩
  rw [e2,tx_take h5 (by rw [hk];decide)]
/-- Levels that a node drives, and nothing happens. -/
def AP (_:Nat) (n:Nd) (b:Bool):Prop:=drN n=b∧evN n b=[]
theorem fed_ap {i:Nat} {n:Nd} {b:Bool} (h:FedP true i n b):AP i n b:=⟨by rw [h.1,if_pos rfl],h.2⟩
theorem row_tail {g:Fr} {n:Nd} (hrow:n.row=allP g) (t:List Bool) (ht:t.length<10):n.row[(sentP g++t).length]?=some true:=by
  rw [hrow,allP_sent,List.length_append,List.getElem?_append_right (by omega),Nat.add_sub_cancel_left,List.getElem?_replicate,if_pos ht]
theorem chk_rep {P:Nat→Nd→Bool→Prop} {b:Bool}:∀ (d i:Nat) (f:Nat→Nd),(∀ j,j<d→P (i+j) (f j) b∧nxN (f j) b=f (j+1))→Chk P i (f 0) (List.replicate d b) (f d)
  | 0,_,_,_=>rfl
  | d+1,i,f,h=>by
    rw [List.replicate_succ]
    have h0:=h 0 (by omega)
    refine ⟨h0.1,?_⟩
    rw [h0.2]
    refine chk_rep d (i+1) (fun j=>f (j+1)) fun j hj=>?_
    have:=h (j+1) (by omega)
    rwa [show i+(j+1)=i+1+j by omega] at this
end Go.AM.R1
open Go Go.AM
namespace Go.AM.R1
/-! ### A row that is acknowledged -/
def SndP (g:Fr) (S:Nat) (i:Nat) (n:Nd) (b:Bool):Prop:=drN n=(if i=S+1 then true else b)∧evN n b=if i=S+9 then [(1,g)] else []
/-- What a sender is behind a row. -/
def sndN (g:Fr) (n:Nd) (c:Bool):Nd:=sentN (rdN (startN n true) (sentP g++[true,false,true,true,true,true,true,true,true,true]) c 0)
theorem snd_row {n:Nd} (hm:n.mode=1) {g:Fr} {l:List Fr} (hq:n.q=g::l) (hc:checkP g=0) :
    ∃ c,Chk (SndP g (stuffP (sentP g)).length) 0 n (encodeP g true) (sndN g n c):=by
  obtain ⟨c,r,h5,h⟩:=snd_stuff hm hq hc
  have hrow:(startN n true).row=allP g:=by show (if true=true then allP (n.q.head?.getD Fr.zero) else n.row)=allP g;rw [if_pos rfl,hq]<;>rfl
  have hown:(startN n true).own=g:=by show (if true=true then n.q.head?.getD Fr.zero else n.own)=g;rw [if_pos rfl,hq]<;>rfl
  have nx:=fun t ht=>nextF_sent g hc t ht
  have rt:=fun t ht=>row_tail (n:=startN n true) hrow t ht
  have r0:=rt [] (by simp)
  have n0:=nx [] (by simp)
  rw [List.append_nil] at r0 n0
  simp at n0
  have n1:=nx [true] (by simp)
  simp at n1
  obtain ⟨a1,a2,a3⟩:=tx_true (n:=startN n true) rfl rfl (p:=sentP g) (c:=c) (r:=r) (by omega) r0 (by rw [n0];decide) (by rw [n0];decide) (by rw [n0];decide)
  obtain ⟨b1,b2,b3⟩:=tx_ack (n:=startN n true) rfl rfl (p:=sentP g++[true]) (c:=c) (r:=0) (by omega) (rt [true] (by simp)) (by rw [n1])
  rw [List.append_assoc] at b3
  simp only [List.cons_append,List.nil_append] at b3
  have step8:∀ t:List Bool,2≤t.length→t.length≤8→drN (rdN (startN n true) (sentP g++t) c 0)=true∧evN (rdN (startN n true) (sentP g++t) c 0) true=[]∧nxN (rdN (startN n true) (sentP g++t) c 0) true=rdN (startN n true) (sentP g++(t++[true])) c 0:=by
    intro t h3 h7
    have hn:=nx t (by omega)
    rw [if_neg (by omega),if_neg (by omega)] at hn
    have:=tx_true (n:=startN n true) rfl rfl (p:=sentP g++t) (c:=c) (r:=0) (by omega) (rt t (by omega)) (by rw [hn];split<;>simp) (by rw [hn];split<;>simp) (by
      rw [hn]
      split
      · decide
      · intro q;simp at q;omega)
    rwa [List.append_assoc] at this
  have last:=tx_last (n:=startN n true) rfl rfl (p:=sentP g++[true,false,true,true,true,true,true,true,true]) (c:=c) (r:=0) (by omega) (rt _ (by simp)) (nx [true,false,true,true,true,true,true,true,true] (by simp))
  rw [hown,List.append_assoc] at last
  simp only [List.cons_append,List.nil_append] at last
  have d:=step8 [true,false] (by simp) (by simp)
  have e:=step8 [true,false,true] (by simp) (by simp)
  have f:=step8 [true,false,true,true] (by simp) (by simp)
  have g':=step8 [true,false,true,true,true] (by simp) (by simp)
  have i:=step8 [true,false,true,true,true,true] (by simp) (by simp)
  have j:=step8 [true,false,true,true,true,true,true] (by simp) (by simp)
  have k:=step8 [true,false,true,true,true,true,true,true] (by simp) (by simp)
  simp only [List.cons_append,List.nil_append] at d e f g' i j k
  generalize hS:(stuffP (sentP g)).length=S
  have no:∀ {i:Nat} {m:Nd},i≠S+1→i≠S+9→drN m=true→evN m true=[]→SndP g S i m true:=by
    intro i m q1 q2 q3 q4
    exact ⟨by rw [q3,if_neg q1],by rw [q4,if_neg q2]⟩
  rw [encodeP_parts]
  refine ⟨c,chk_append (stuffP (sentP g)) (chk_mono _ ?_ h) ?_⟩
  · intro j m b j1 j2 hj
    rw [hS] at j2
    refine ⟨?_,?_⟩
    · rw [if_neg (by omega),(fed_ap hj).1]
    · rw [hj.2,if_neg (by omega)]
  rw [hS,Nat.zero_add]
  refine ⟨no (by omega) (by omega) a1 a2,?_⟩
  rw [a3]
  refine ⟨⟨by rw [b1,if_pos rfl],?_⟩,?_⟩
  · have:evN (rdN (startN n true) (sentP g++[true]) c 0) (!true)=[]:=b2
    rw [this,if_neg (by omega)]
  have b3':nxN (rdN (startN n true) (sentP g++[true]) c 0) (!true)=rdN (startN n true) (sentP g++[true,false]) c 0:=b3
  rw [b3']
  refine ⟨no (by omega) (by omega) d.1 d.2.1,?_⟩
  rw [d.2.2]
  refine ⟨no (by omega) (by omega) e.1 e.2.1,?_⟩
  rw [e.2.2]
  refine ⟨no (by omega) (by omega) f.1 f.2.1,?_⟩
  rw [f.2.2]
  refine ⟨no (by omega) (by omega) g'.1 g'.2.1,?_⟩
  rw [g'.2.2]
  refine ⟨no (by omega) (by omega) i.1 i.2.1,?_⟩
  rw [i.2.2]
  refine ⟨no (by omega) (by omega) j.1 j.2.1,?_⟩
  rw [j.2.2]
  refine ⟨no (by omega) (by omega) k.1 k.2.1,?_⟩
  rw [k.2.2]
  refine ⟨⟨by rw [last.1,if_neg (by omega)],by rw [last.2.1,if_pos (by omega)]⟩,?_⟩
  rw [last.2.2]
  exact rfl
/-- .. and is idle again, three levels behind. -/
theorem pause3' {n:Nd} (hm:n.mode=8) (hk:n.k=0) (ht:lateP n=false):∀ (P:Nat→Nd→Bool→Prop) (i:Nat),(∀ j m,i≤j→j<i+3→drN m=true→evN m true=[]→m.mode=8→P j m true)→Chk P i n [true,true,true] { n with mode:=1,k:=0 }:=by
  intro P i hP
  have h:=chk_rep (P:=P) (b:=true) 3 i (fun j=>if j=3 then { n with mode:=1,k:=0 } else { n with k:=j }) fun j hj=>by
    try simp only []
    rw [if_neg (show ¬ j=3 by omega)]
    have hl:lateP { n with k:=j }=false:=ht
    have q:=ev_no (n:={ n with k:=j }) (b:=true) (m:=if j+1<3 then { n with k:=j+1 } else { n with mode:=1,k:=0 }) (by
      rw [step_pause (n:={ n with k:=j }) hm];congr 1
      unfold pausN pauseN
      rw [if_pos rfl,hl];rfl)
    refine ⟨hP _ _ (by omega) (by omega) ?_ q.1 hm,?_⟩
    · unfold drN
      rw [if_neg (show ¬ n.mode=1 by omega),if_neg (show ¬ (n.mode=3∨n.mode=5) by omega),if_neg (show ¬ n.mode=2 by omega)]
    · rw [q.2]
      by_cases h3:j+1<3
      · rw [if_pos h3,if_neg (by omega)]
      · rw [if_neg h3,if_pos (show j+1=3 by omega)]
  have e0:{ n with k:=0 }=n:=by rw [← hk]
  try simp only [] at h
  rw [if_neg (by omega),e0,if_pos trivial] at h
  exact h
/-- Idle, with frames, and no counts. -/
structure Rdy (l:List Fr) (n:Nd):Prop where
  inv:n.Inv
  mode:n.mode=1
  q:n.q=l
  ct:n.ct=Ct.zero
  k:n.k=0
theorem delL_head (g:Fr) (l:List Fr):delL g (g::l)=l:=by
  unfold delL
  have:posL g (g::l)=0:=by unfold posL;rw [if_pos rfl]
  rw [this];rfl
theorem rdy_row {g:Fr} {l:List Fr} {n:Nd} (h:Rdy (g::l) n):∃ m,Chk (SndP g ((encodeP g true).length - 10)) 0 n (encodeP g true++[true,true,true]) m∧Rdy l m:=by
  have hg:=h.inv.qv g (by rw [h.q];simp)
  obtain ⟨c,hc⟩:=snd_row h.mode h.q hg.2
  have hlen:(encodeP g true).length=(stuffP (sentP g)).length+10:=by rw [encodeP_parts];simp
  rw [hlen,Nat.add_sub_cancel]
  have hct:(sndN g n c).ct=Ct.zero:=by
    show n.ct.sent=_
    rw [h.ct];rfl
  have hl:lateP (sndN g n c)=false:=by
    unfold lateP
    rw [hct]
    show (true && decide (Ct.zero.state=1))=false
    decide
  have hp:=pause3' (n:=sndN g n c) rfl rfl hl (SndP g (stuffP (sentP g)).length) (0+(encodeP g true).length) (fun j m j1 j2 hd he _=>⟨by rw [hd];split<;>rfl,by rw [he,if_neg (by omega)]⟩)
  have hall:=chk_append _ hc hp
  have hown:(startN n true).own=g:=by show (if true=true then n.q.head?.getD Fr.zero else n.own)=g;rw [if_pos rfl,h.q]<;>rfl
  refine ⟨_,hall,chk_inv _ h.inv hall,rfl,?_,hct,rfl⟩
  show delL (startN n true).own n.q=l
  rw [hown,h.q,delL_head]
end Go.AM.R1
open Go Go.AM
namespace Go.AM.R1
/-! ### A node that has joined, with frames -/
def pN (n:Nd) (l:List Fr):Nd:=l.foldl (fun n f=>(nputN n f).2) n
theorem put_ok {n:Nd} {f:Fr} (hc:checkP f=0) (hl:n.q.length<16):nputN n f=(0,{ n with q:=insP f n.q,nq:=false }):=by
  unfold nputN
  rw [if_neg (by simp [hc]),if_neg (by omega)]
theorem jn_loop1 (frs:List Fr) (hok:∀ f∈frs,f.Ok∧checkP f=0) (h16:frs.length≤16) (n1 f1:Bool) (k:List Item) (Q:Option (AVal × Heap)→Prop) (N:Nd) (hk:∀ H fs τ,lk 3 τ=.ptr 0 0→NodeAt H 0 N fs→Q (finK 0 [.tmp 2] (run E 0 k τ H))) :
    ∀ (d i:Nat),i+d=frs.length→∀ H fs m,NodeAt H 0 m fs→m.Inv→m.q.length+d≤16→N=pN m (frs.drop i) →
    Q (finK 0 [.tmp 2] (run E 0 (.code L13_1::.inLoop [0,3,5] L13_1::.inBlock 2::k) [(0,.imm n1 f1 true (frs.map encFr)),(3,.ptr 0 0),(5,.lit (.int .i64 i))] H)):=by
  intro d
  induction d with
  | zero =>
    intro i hi H fs m h hI hq hN
    rw [List.drop_eq_nil_of_le (by omega)] at hN
    have:N=m:=hN
    subst this
    have hlt:((i:Int)<(frs.length:Int))=False:=eq_false (by omega)
    simp [go_sem,run_codeL E L13_1.eq_1,hlt]
    exact hk H fs _ (by simp [lk]) h
  | succ d ih =>
    intro i hi H fs m h hI hq hN
    have hlt:((i:Int)<(frs.length:Int))=True:=eq_true (by omega)
    have hltn:i<frs.length:=by omega
    have w:=wrapIdx (i:=i) (by omega)
    have hfi:(frs.map encFr)[i]?=some (encFr frs[i]):=by rw [List.getElem?_map,List.getElem?_eq_getElem hltn];rfl
    have hfo:=hok frs[i] (List.getElem_mem _)
    rw [List.drop_eq_getElem_cons hltn] at hN
    generalize frs[i]=f at hfi hfo hN
    obtain ⟨H2,fs2,hs,h2,ha⟩:=put_at h hI.ok f
    have hp:=put_ok hfo.2 (n:=m) (by omega)
    have hI2:=inv_put hI hfo.1
    have hq2:(nputN m f).2.q.length=m.q.length+1:=by rw [hp];exact insP_len f m.q
    have ih2:=ih (i+1) (by omega) (sweep fs2 0 H2) fs2 _ (nodeAt_sw1 h2) hI2 (by omega) hN
    have hre:=reach_p1 h2
    rw [hp] at hs
    have hml:(frs.map encFr).length=frs.length:=by simp
    have hfi2:∀ (q:i<(frs.map encFr).length),(frs.map encFr)[i]=encFr f:=fun q=>(List.getElem?_eq_some_iff.1 hfi).2
    generalize frs.map encFr=rows at *
    simp [encFr,u8v] at hs w ih2 hfi hfi2
    simp [go_sem,run_codeL E L13_1.eq_1,hlt,hml,hltn,hs,w,hfi,hfi2,encFr,u8v]
    rw [run_inLoop']
    simp [go_sem,hre]
    exact ih2
set_option maxHeartbeats 2000000 in
theorem joined_frs (frs:List Fr) (hok:∀ f∈frs,f.Ok∧checkP f=0) (h16:frs.length≤16) (n1 f1:Bool):∃ F,call E (.func (.func 13) [] []) [.imm n1 f1 true (frs.map encFr)] []=some (.ptr 0 0,ndH (pN nd1 frs) F):=by
  have hn:=nnew_spec
  suffices hs:∀ (Q:Option (AVal × Heap)→Prop),(∀ F,Q (some (.ptr 0 0,ndH (pN nd1 frs) F)))→Q (call E (.func (.func 13) [] []) [.imm n1 f1 true (frs.map encFr)] []) by
    refine hs (fun r=>∃ F,r=some (.ptr 0 0,ndH (pN nd1 frs) F)) fun F=>⟨F,rfl⟩
  intro Q hQ
  have hloop:=fun k hk=>jn_loop0 (.imm n1 f1 true (frs.map encFr)) rfl k Q hk 11 0 (by omega)
  have hloop1:=fun k hk=>jn_loop1 frs hok h16 n1 f1 k Q (pN nd1 frs) hk frs.length 0 (by omega)
  have h0:=nodeAt_sw1 (nodeAt_can nd0 ⟨false,false,false,false,false⟩ [])
  rw [List.append_nil] at h0
  have hre:=reach_p1 (by have:=nodeAt_can nd0 ⟨false,false,false,false,false⟩ [];rwa [List.append_nil] at this)
  rw [call_func E E13]
  generalize frs.map encFr=rows at *
  simp [itN,nilS] at hloop
  simp [go_sem,ir13,hn]
  rw [run_inLoop']
  simp [go_sem,hre]
  refine hloop _ ?_ _ _ h0
  intro H fs τ t0 t3 h
  have hre:=reach_p1 h
  simp at hloop1
  simp [go_sem,t0,t3]
  rw [run_inLoop']
  simp [go_sem,t0,t3,hre]
  refine hloop1 _ ?_ _ _ nd1 (nodeAt_sw1 h) nd1_inv (by simp [nd1,nd0];exact h16) rfl
  intro H fs τ t3 h
  obtain ⟨F,hF⟩:=ret_node h
  have hq:=hQ F
  rw [← hF] at hq
  simp [go_sem,t3]
  exact hq
end Go.AM.R1
open Go Go.AM
namespace Go.AM.R1
/-! ### The queue's order -/
theorem cmpL_neg:∀ a b:List Bool,cmpL b a=- cmpL a b
  | [],[]=>rfl
  | [],_::_=>rfl
  | _::_,[]=>rfl
  | x :: a,y::b=>by
    unfold cmpL
    by_cases h:x=y
    · rw [if_pos h.symm,if_pos h];exact cmpL_neg a b
    · rw [if_neg (fun q=>h q.symm),if_neg h]
      cases x<;>cases y<;>first | (exact absurd rfl h) | rfl
theorem less_asym {f g:Fr} (h:lessP f g=true):lessP g f=false:=by
  unfold lessP at h ⊢
  rw [cmpL_neg (arbQ f) (arbQ g)]
  simp at h ⊢
  intro _;omega
def Srt:List Fr→Prop
  | []=>True
  | a::r=>(∀ b,r.head?=some b→lessP b a=false)∧Srt r
theorem insP_cons (f g:Fr) (r:List Fr):insP f (g::r)=if lessP f g=true then f::g::r else g::insP f r:=by
  unfold insP
  rw [show ixL f (g::r)=if lessP f g=true then 0 else ixL f r+1 from rfl]
  split<;>simp
theorem insP_head (f:Fr) (l:List Fr):(insP f l).head?=some f∨(insP f l).head?=l.head?:=by
  cases l with
  | nil=>exact .inl rfl
  | cons g r =>
    rw [insP_cons]
    split
    · exact .inl rfl
    · exact .inr rfl
theorem srt_ins (f:Fr):∀ l,Srt l→Srt (insP f l)
  | [],_=>⟨by simp,trivial⟩
  | g :: r,h=>by
    rw [insP_cons]
    by_cases q:lessP f g=true
    · rw [if_pos q]
      exact ⟨fun b hb => by have e:g=b:=by simpa using hb
                            rw [← e];exact less_asym q,h⟩
    · rw [if_neg q]
      refine ⟨fun b hb=>?_,srt_ins f r h.2⟩
      rcases insP_head f r with e | e
      · rw [e] at hb
        have e:f=b:=by simpa using hb
        rw [← e];simpa using q
      · rw [e] at hb;exact h.1 b hb
theorem srt_get:∀ (l:List Fr),Srt l→∀ (i:Nat) (g h:Fr),l[i]?=some g→l[i+1]?=some h→lessP h g=false
  | [],_,_,_,_,e,_=>by simp at e
  | a::r,hs,0,g,h,e1,e2=>by
    have e1:a=g:=by simpa using e1
    rw [← e1]
    refine hs.1 h ?_
    rw [List.head?_eq_getElem?]
    simpa using e2
  | a::r,hs,i+1,g,h,e1,e2=>srt_get r hs.2 i g h (by simpa using e1) (by simpa using e2)
/-- What a node has in its queue when frames were put in. -/
theorem pN_fold:∀ (l:List Fr) (n:Nd),(∀ f∈l,f.Ok∧checkP f=0)→n.Inv→Srt n.q→n.q.length+l.length≤16→(pN n l).Inv∧Srt (pN n l).q∧(pN n l).q.length=n.q.length+l.length∧(pN n l).mode=n.mode∧(pN n l).k=n.k∧(pN n l).ct=n.ct∧(pN n l).tx=n.tx∧((pN n l).nq=true→n.nq=true∧l=[])
  | [],n,_,hI,hS,hl=>⟨hI,hS,rfl,rfl,rfl,rfl,rfl,fun q=>⟨q,rfl⟩⟩
  | f :: r,n,h,hI,hS,hl=>by
    have hf:=h f (by simp)
    have hl:n.q.length+(r.length+1)≤16:=hl
    have hp:=put_ok hf.2 (n:=n) (by omega)
    have e:(nputN n f).2={ n with q:=insP f n.q,nq:=false }:=by rw [hp]
    have hI2:=inv_put hI hf.1
    have hS2:Srt (nputN n f).2.q:=by rw [e];exact srt_ins f n.q hS
    have hl2:(nputN n f).2.q.length=n.q.length+1:=by rw [e];exact insP_len f n.q
    obtain ⟨a1,a2,a3,a4,a5,a6,a7,a8⟩:=pN_fold r (nputN n f).2 (fun g hg=>h g (by simp [hg])) hI2 hS2 (by omega)
    refine ⟨a1,a2,?_,?_,?_,?_,?_,?_⟩
    · show (pN (nputN n f).2 r).q.length=_
      rw [a3,hl2];simp;omega
    · show (pN (nputN n f).2 r).mode=_
      rw [a4,e]
    · show (pN (nputN n f).2 r).k=_
      rw [a5,e]
    · show (pN (nputN n f).2 r).ct=_
      rw [a6,e]
    · show (pN (nputN n f).2 r).tx=_
      rw [a7,e]
    · intro q
      have:=(a8 q).1
      rw [e] at this;cases this
end Go.AM.R1
open Go Go.AM
namespace Go.AM.R1
theorem reach_p3 {H:Heap} {a:Nat} {n:Nd} {fs:List Nat} (h:NodeAt H a n fs) {b c:Nat} {e e2:Entry} (hb:Ext H fs b e) (hc:Ext H fs c e2) (hbc:b≠c) (he:refsE e=[]) (he2:refsE e2=[]):reach H purse [a,b,c] []=some (fs++[b,c]):=by
  have:=reach_mix h [] [b,c] (by
    intro x hx
    simp at hx
    rcases hx with q | q
    · rw [q];exact ⟨_,hb.get,he⟩
    · rw [q];exact ⟨_,hc.get,he2⟩) (by
    simp only [List.nil_append]
    rw [List.nodup_append]
    refine ⟨nodeAt_nodup h,by simp [hbc],?_⟩
    intro x hx y hy e
    simp at hy
    rcases hy with q | q
    · subst q;subst e;exact hb.out hx
    · subst q;subst e;exact hc.out hx) (by simp)
  simpa using this
theorem sl_loop0 (frs:List Fr) (h5:frs.length≤5) (n1 f1:Bool) (k:List Item) (Q:Option (AVal × Heap)) (hbad:some (.lit (.bool true),[])=Q)
    (hk:∀ τ,(∀ f∈frs,checkP f=0)→lk 0 τ=.imm n1 f1 true (frs.map encFr)→finK 0 [.tmp 2] (run E 0 k τ [])=Q) :
    ∀ (d i:Nat),i+d=frs.length→(∀ f∈frs.take i,checkP f=0) →
    finK 0 [.tmp 2] (run E 0 (.code L9_0::.inLoop [0,3] L9_0::.inBlock 0::k) [(0,.imm n1 f1 true (frs.map encFr)),(3,.lit (.int .i64 i))] [])=Q:=by
  intro d
  induction d with
  | zero =>
    intro i hi ht
    have hlt:((i:Int)<(frs.length:Int))=False:=eq_false (by omega)
    rw [List.take_of_length_le (by omega)] at ht
    simp [go_sem,run_codeL E L9_0.eq_1,hlt]
    exact hk _ ht (by simp [lk])
  | succ d ih =>
    intro i hi ht
    have hlt:((i:Int)<(frs.length:Int))=True:=eq_true (by omega)
    have hltn:i<frs.length:=by omega
    have w:=wrapIdx (i:=i) (by omega)
    have hfi:(frs.map encFr)[i]?=some (encFr frs[i]):=by rw [List.getElem?_map,List.getElem?_eq_getElem hltn];rfl
    have ha:=awake10
    have hck:=fcheck_spec frs[i]
    have hml:(frs.map encFr).length=frs.length:=by simp
    have htk:frs.take (i+1)=frs.take i++[frs[i]]:=by rw [List.take_succ_eq_append_getElem hltn]
    have ih2:=fun (q:∀ f∈frs.take i++[frs[i]],checkP f=0)=>ih (i+1) (by omega) (by rw [htk];exact q)
    generalize frs[i]=f at *
    have hfi2:∀ (q:i<(frs.map encFr).length),(frs.map encFr)[i]=encFr f:=fun q=>(List.getElem?_eq_some_iff.1 hfi).2
    generalize frs.map encFr=rows at *
    by_cases hc:checkP f=0
    · have ih3:=ih2 (by
        intro g hg
        rcases List.mem_append.1 hg with q | q
        · exact ht g q
        · simp at q;rw [q];exact hc)
      rw [hc] at hck
      simp [encFr,u8v] at hck w ih3 hfi hfi2
      simp [go_sem,run_codeL E L9_0.eq_1,hlt,hml,hltn,hck,w,hfi,hfi2,encFr,u8v]
      rw [run_inLoop']
      simp [go_sem]
      exact ih3
    · simp [encFr,u8v] at hck hfi hfi2
      simp [go_sem,run_codeL E L9_0.eq_1,hlt,hml,hltn,hck,hc,hfi,hfi2,ha,encFr,u8v]
      exact hbad
set_option maxHeartbeats 4000000 in
theorem sl_loop2 (qs:List Fr) (i:Nat) (g:Fr) (hgi:qs[i]?=some g) (row l:List Bool) (S:Nat) (hl:l.length=S+13) (hlen:row.length=S+10) (hS:S≤100000) (hrl:∀ j,j<S+13→(row++[true,true,true])[j]?=if j=S+1 then some true else l[j]?) (hsl:l[S+1]?=some false)
    (sl:Int) (hsl2:sl=S+1) (k:List Item) (Q:Option (AVal × Heap)) (b r:Nat) (hbr:b≠r) (lkq fq lkr:Bool) (m:Nd)
    (hk:∀ H fs τ,lk 4 τ=.ptr 0 0→lk 5 τ=.own b qs.length 12 0 qs.length→lk 6 τ=.lit (.int .i64 i)→NodeAt H 0 m fs→Ext H fs b (.arr true lkq fq 12 (qs.map encFr))→finK 0 [.tmp 2] (run E 0 k τ H)=Q) :
    ∀ (d j:Nat),j+d=S+13→∀ H fs n,NodeAt H 0 n fs→n.Inv→n.k≤100+j→Ext H fs b (.arr true lkq fq 12 (qs.map encFr))→Ext H fs r (rowE row lkr)→Chk (SndP g S) j n (l.drop j) m →
    finK 0 [.tmp 2] (run E 0 (.code L9_2::.inLoop [4,5,6,7,9,10] L9_2::.inBlock 4::k) [(4,.ptr 0 0),(5,.own b qs.length 12 0 qs.length),(6,.lit (.int .i64 i)),(7,.own r row.length 1 0 row.length),(9,.lit (.int .i64 sl)),(10,.lit (.int .i64 j))] H)=Q:=by
  intro d
  induction d with
  | zero =>
    intro j hj H fs n h hI hkk hq hb hok
    have w:=wrap64 (x:=(row.length:Int)+3) (by omega) (by omega)
    have hlt:((j:Int)<(row.length:Int)+3)=False:=eq_false (by omega)
    rw [List.drop_eq_nil_of_le (by omega)] at hok
    have:m=n:=hok
    subst this
    simp [go_sem,run_codeL E L9_2.eq_1,w,hlt]
    exact hk H fs _ (by simp [lk]) (by simp [lk]) (by simp [lk]) h hq
  | succ d ih =>
    intro j hj H fs n h hI hkk hq hb hok
    have w:=wrap64 (x:=(row.length:Int)+3) (by omega) (by omega)
    have w2:=wrap64 (x:=(row.length:Int) - 1) (by omega) (by omega)
    have hlt:((j:Int)<(row.length:Int)+3)=True:=eq_true (by omega)
    have w3:=wrapIdx (i:=j) (by omega)
    have hil:j<l.length:=by omega
    obtain ⟨x,hx⟩:∃ x,x=l[j]:=⟨_,rfl⟩
    have hlx:l[j]?=some x:=by rw [List.getElem?_eq_getElem hil,hx]
    rw [List.drop_eq_getElem_cons hil,← hx] at hok
    obtain ⟨⟨hd0,hev⟩,hrest⟩:=hok
    obtain ⟨H1,hd,h1,a1⟩:=drive_at h hI
    have hb1:=hb.around a1
    have hq1:=hq.around a1
    obtain ⟨H2,fs2,ix,hs,h2,a2,hix⟩:=step_at h1 hI (by omega) x
    have hb2:=hb1.around a2
    have hq2:=hq1.around a2
    have hre:=reach_p3 h2 hq2 hb2 hbr rfl rfl
    have ih2:=ih (j+1) (by omega) (sweep (fs2++[b,r]) 0 H2) fs2 (nxN n x) (nodeAt_sweep h2 (by intro i hi;simp [hi])) (inv_next hI x) (by have:=k_next n x hI.mode;omega) (ext_sweep hq2 (by simp)) (ext_sweep hb2 (by simp)) hrest
    have g0:=hb.get
    have g1:=hb1.get
    have g2:=hb2.get
    have p2:=hq2.get
    have hml:(row.map encLv).length=row.length:=by simp
    have hqm:(qs.map encFr).length=qs.length:=by simp
    have hqi:(qs.map encFr)[i]?=some (encFr g):=by rw [List.getElem?_map,hgi];rfl
    have hqi2:∀ (q:i<(qs.map encFr).length),(qs.map encFr)[i]=encFr g:=fun q=>(List.getElem?_eq_some_iff.1 hqi).2
    have hil2:i<qs.length:=(List.getElem?_eq_some_iff.1 hgi).1
    have hrj:=hrl j (by omega)
    have hy:∃ y,y=(if j=S+1 then true else x)∧drN n=y:=⟨_,rfl,hd0⟩
    obtain ⟨y,hy1,hy2⟩:=hy
    rw [hy2] at hd
    have hx2:j<row.length→(row.map encLv)[j]?=some (encLv y):=by
      intro q
      rw [List.getElem?_append_left q] at hrj
      rw [List.getElem?_map,hrj,hy1]
      split
      · rfl
      · rw [hlx];rfl
    have hx3:¬ j<row.length→x=true∧y=true:=by
      intro q
      rw [List.getElem?_append_right (by omega),if_neg (by omega),hlx] at hrj
      have hx:x=true:=by
        have:j - row.length=0∨j - row.length=1∨j - row.length=2:=by omega
        rcases this with q | q | q<;>rw [q] at hrj<;>simpa using hrj.symm
      refine ⟨hx,?_⟩
      rw [hy1,if_neg (by omega),hx]
    unfold rowE at g0 g1 g2
    generalize row.map encLv=rows at *
    generalize qs.map encFr=qrows at *
    simp at w w2 w3 ih2 hre
    by_cases qs1:j=S+1
    · have e1:((j:Int)=sl)=True:=eq_true (by omega)
      have e2:((j:Int)=(row.length:Int) - 1)=False:=eq_false (by omega)
      have e3:((j:Int)<(row.length:Int))=True:=eq_true (by omega)
      have hjl:j<row.length:=by omega
      have hg:=hx2 hjl
      have hg2:∀ (q:j<rows.length),rows[j]=encLv y:=fun q=>(List.getElem?_eq_some_iff.1 hg).2
      rw [hev,if_neg (by omega)] at hs
      have hxf:x=false:=by
        rw [qs1,hsl] at hlx
        simpa using hlx.symm
      rw [hxf] at hs
      simp [evV,lvF] at hs hd
      simp [go_sem,run_codeL E L9_2.eq_1,w,w2,w3,hlt,hd,hs,hg,hg2,hml,g0,g1,g2,e1,e2,e3,hjl,encLv,lvF,nilS]
      rw [run_inLoop']
      simp [go_sem,hre]
      exact ih2
    · have e1:((j:Int)=sl)=False:=eq_false (by omega)
      rw [if_neg qs1] at hy1
      subst hy1
      by_cases qt:j=S+9
      · have e2:((j:Int)=(row.length:Int) - 1)=True:=eq_true (by omega)
        have e3:((j:Int)<(row.length:Int))=True:=eq_true (by omega)
        have hjl:j<row.length:=by omega
        have hg:=hx2 hjl
        have hg2:∀ (q:j<rows.length),rows[j]=encLv y:=fun q=>(List.getElem?_eq_some_iff.1 hg).2
        rw [if_pos qt] at hev
        have hx4:=(hix (by rw [hev];simp)).1
        rw [hev] at hs hx4
        simp [evV,encEv] at hs hd hx4
        simp [encFr,u8v] at hqi hqi2
        simp [go_sem,run_codeL E L9_2.eq_1,w,w2,w3,hlt,hd,hs,hg,hg2,hml,g0,g1,g2,p2,hqm,hil2,hqi,hqi2,e1,e2,e3,hjl,hx4,encLv,nilS,encFr_eq,u8v]
        rw [run_inLoop']
        simp [go_sem,hre]
        exact ih2
      · have e2:((j:Int)=(row.length:Int) - 1)=False:=eq_false (by omega)
        rw [hev,if_neg qt] at hs
        simp [evV] at hs hd
        by_cases qj:j<row.length
        · have e3:((j:Int)<(row.length:Int))=True:=eq_true (by omega)
          have hg:=hx2 qj
          have hg2:∀ (q:j<rows.length),rows[j]=encLv y:=fun q=>(List.getElem?_eq_some_iff.1 hg).2
          simp [go_sem,run_codeL E L9_2.eq_1,w,w2,w3,hlt,hd,hs,hg,hg2,hml,g0,g1,g2,e1,e2,e3,qj,encLv,nilS]
          rw [run_inLoop']
          simp [go_sem,hre]
          exact ih2
        · have e3:((j:Int)<(row.length:Int))=False:=eq_false (by omega)
          rw [(hx3 qj).1] at hs hd
          simp [lvT] at hs hd
          simp [go_sem,run_codeL E L9_2.eq_1,w,w2,w3,hlt,hd,hs,hml,g0,g1,g2,e1,e2,e3,qj,encLv,lvT,nilS]
          rw [run_inLoop']
          simp [go_sem,hre]
          exact ih2
set_option maxHeartbeats 4000000 in
theorem sl_loop1 (qs:List Fr) (hq5:qs.length≤5) (hso:Srt qs) (hgd:∀ g∈qs,g.Ok∧checkP g=0) (k:List Item) (Q:Option (AVal × Heap)) (b:Nat) (lkq fq:Bool)
    (hk:∀ H fs τ m,lk 4 τ=.ptr 0 0→NodeAt H 0 m fs→Rdy [] m→finK 0 [.tmp 2] (run E 0 k τ H)=Q) :
    ∀ (d i:Nat),i+d=qs.length→∀ H fs n,NodeAt H 0 n fs→Rdy (qs.drop i) n→Ext H fs b (.arr true lkq fq 12 (qs.map encFr)) →
    finK 0 [.tmp 2] (run E 0 (.code L9_1::.inLoop [4,5,6] L9_1::.inBlock 2::k) [(4,.ptr 0 0),(5,.own b qs.length 12 0 qs.length),(6,.lit (.int .i64 i))] H)=Q:=by
  intro d
  induction d with
  | zero =>
    intro i hi H fs n h r hq
    have hlt:((i:Int)<(qs.length:Int))=False:=eq_false (by omega)
    rw [List.drop_eq_nil_of_le (by omega)] at r
    simp [go_sem,run_codeL E L9_1.eq_1,hlt]
    exact hk H fs _ n (by simp [lk]) h r
  | succ d ih =>
    intro i hi H fs n h r hq
    have hlt:((i:Int)<(qs.length:Int))=True:=eq_true (by omega)
    have hltn:i<qs.length:=by omega
    have w:=wrapIdx (i:=i) (by omega)
    have w9:=wrap64 (x:=(i:Int) - 1) (by omega) (by omega)
    have hgi:qs[i]?=some qs[i]:=List.getElem?_eq_getElem hltn
    have hgo:=hgd qs[i] (List.getElem_mem _)
    rw [List.drop_eq_getElem_cons hltn] at r
    generalize qs[i]=g at hgi hgo r
    obtain ⟨m,hc,rm⟩:=rdy_row r
    have hE:=encode_spec g hgo.1 hgo.2 false
    have hp0:=encodeP_parts g false
    have hp1:=encodeP_parts g true
    have hl5:(stuffP (sentP g)).length≤100000:=by
      have h2:=addS_len (sentP g) [] 0
      have h3:(stuffP (sentP g)).length=(addS [] 0 (sentP g)).length:=rfl
      have h5:=bitsP_length g
      have h6:(sentP g).length=(bitsP g).length+15:=(sentP_sum g hgo.2 []).2.2
      simp only [List.length_nil] at h2
      omega
    have hl0:(encodeP g false).length=(stuffP (sentP g)).length+10:=by rw [hp0];simp
    have hl1:(encodeP g true).length=(stuffP (sentP g)).length+10:=by rw [hp1];simp
    have hrl:∀ j,j<(stuffP (sentP g)).length+13→(encodeP g false++[true,true,true])[j]?=if j=(stuffP (sentP g)).length+1 then some true else (encodeP g true++[true,true,true])[j]?:=by
      intro j hj
      rw [hp0,hp1,List.append_assoc,List.append_assoc]
      by_cases q:j<(stuffP (sentP g)).length
      · rw [List.getElem?_append_left q,List.getElem?_append_left q,if_neg (by omega)]
      · obtain ⟨z,rfl⟩:∃ z,j=(stuffP (sentP g)).length+z:=⟨j - (stuffP (sentP g)).length,by omega⟩
        rw [List.getElem?_append_right (l₁:=stuffP (sentP g)) (by omega),List.getElem?_append_right (l₁:=stuffP (sentP g)) (by omega),Nat.add_sub_cancel_left]
        simp only [Nat.add_left_cancel_iff]
        have hz13:z<13:=by omega
        match z,hz13 with
        | 0,_=>rfl
        | 1,_=>rfl
        | 2,_=>rfl
        | 3,_=>rfl
        | 4,_=>rfl
        | 5,_=>rfl
        | 6,_=>rfl
        | 7,_=>rfl
        | 8,_=>rfl
        | 9,_=>rfl
        | 10,_=>rfl
        | 11,_=>rfl
        | 12,_=>rfl
        | z+13,q=>omega
    have hslo:(encodeP g true++[true,true,true])[(stuffP (sentP g)).length+1]?=some false:=by
      rw [hp1,List.append_assoc,List.getElem?_append_right (by omega),Nat.add_sub_cancel_left];rfl
    rw [hl1,Nat.add_sub_cancel] at hc
    have hll:(encodeP g true++[true,true,true]).length=(stuffP (sentP g)).length+13:=by rw [List.length_append,hl1];rfl
    generalize encodeP g true++[true,true,true]=l at *
    generalize (stuffP (sentP g)).length=S at *
    generalize encodeP g false=row at *
    have hqlt:=hq.lt
    have h2:=nodeAt_append h [rowE row false]
    have hb:=ext_new h (rowE row false)
    have hq2:=ext_append hq [rowE row false]
    have hre:=reach_p3 h2 hq2 hb (by omega) rfl rfl
    have hsl:IntKind.wrap .i64 ((row.length:Int) - 9)=(row.length:Int) - 9:=wrap64 (by omega) (by omega)
    have hlp:=fun k hk=>sl_loop2 qs i g hgi row l S hll hl0 hl5 hrl hslo ((row.length:Int) - 9) (by omega) k Q b H.length (by omega) lkq fq false m hk (S+13) 0 (by omega) _ _ n (nodeAt_sweep h2 (R:=fs++[b,H.length]) (by intro i hi;simp [hi])) r.inv (by rw [r.k];omega) (ext_sweep hq2 (by simp)) (ext_sweep hb (by simp)) hc
    have hrr:=rowsLv row
    have p0:=hq.get
    have hqm:(qs.map encFr).length=qs.length:=by simp
    have hqi:(qs.map encFr)[i]?=some (encFr g):=by rw [List.getElem?_map,hgi];rfl
    have hqi2:∀ (q:i<(qs.map encFr).length),(qs.map encFr)[i]=encFr g:=fun q=>(List.getElem?_eq_some_iff.1 hqi).2
    have hprev:0<i→∃ g0,(qs.map encFr)[i - 1]?=some (encFr g0)∧lessP g g0=false:=by
      intro q
      have hlt0:i - 1<qs.length:=by omega
      refine ⟨qs[i - 1],by rw [List.getElem?_map,List.getElem?_eq_getElem hlt0];rfl,?_⟩
      exact srt_get qs hso (i - 1) _ _ (List.getElem?_eq_getElem hlt0) (by rw [show i - 1+1=i by omega];exact hgi)
    have fin:∀ H fs τ,lk 4 τ=.ptr 0 0→lk 5 τ=.own b qs.length 12 0 qs.length→lk 6 τ=.lit (.int .i64 i)→NodeAt H 0 m fs→Ext H fs b (.arr true lkq fq 12 (qs.map encFr))→reach H purse [0,b] []=some (fs++[b])∧finK 0 [.tmp 2] (run E 0 (.code L9_1::.inLoop [4,5,6] L9_1::.inBlock 2::k) [(4,.ptr 0 0),(5,.own b qs.length 12 0 qs.length),(6,.lit (.int .i64 ((i:Int)+1)))] (sweep (fs++[b]) 0 H))=Q:=by
      intro H fs τ _ _ _ h hq
      have:=ih (i+1) (by omega) (sweep (fs++[b]) 0 H) fs m (nodeAt_sw2 h b) rm (ext_sw2 hq)
      exact ⟨reach_p2 h hq,by simpa using this⟩
    unfold rowE at *
    generalize row.map encLv=rows at *
    generalize qs.map encFr=qrows at *
    by_cases q0:0<i
    · obtain ⟨g0,hg0,hls⟩:=hprev q0
      have hless:=less_spec g g0
      rw [hls] at hless
      have hi0:((0:Int)<(i:Int))=True:=eq_true (by omega)
      have hc0:((i:Int) - 1)=((i - 1:Nat):Int):=by omega
      have hlt1:i - 1<qs.length:=by omega
      have hg02:∀ (q:i - 1<qrows.length),qrows[i - 1]=encFr g0:=fun q=>(List.getElem?_eq_some_iff.1 hg0).2
      rw [hc0] at w9
      simp [encFr,u8v] at hE w hqi hqi2 hg0 hg02 hless hlp
      simp [go_sem,run_codeL E L9_1.eq_1,hlt,hi0,q0,w9,hc0,p0,hqm,hltn,hlt1,hqi,hqi2,hg0,hg02,hless,hE,hsl,hrr,nilS,encFr,u8v]
      rw [run_inLoop']
      simp [go_sem,hre]
      refine hlp _ ?_
      intro H fs τ t4 t5 t6 h hq
      obtain ⟨f1,f2⟩:=fin H fs τ t4 t5 t6 h hq
      simp [go_sem,t4,t5,t6,w]
      rw [run_inLoop']
      simp [go_sem,t4,t5,t6,w,f1]
      exact f2
    · have hi0:((0:Int)<(i:Int))=False:=eq_false (by omega)
      simp [encFr,u8v] at hE w hqi hqi2 hlp
      simp [go_sem,run_codeL E L9_1.eq_1,hlt,hi0,q0,p0,hqm,hltn,hqi,hqi2,hE,hsl,hrr,nilS,encFr,u8v]
      rw [run_inLoop']
      simp [go_sem,hre]
      refine hlp _ ?_
      intro H fs τ t4 t5 t6 h hq
      obtain ⟨f1,f2⟩:=fin H fs τ t4 t5 t6 h hq
      simp [go_sem,t4,t5,t6,w]
      rw [run_inLoop']
      simp [go_sem,t4,t5,t6,w,f1]
      exact f2
set_option maxHeartbeats 8000000 in
theorem ctlSends_spec (frs:List Fr) (hok:∀ f∈frs,f.Ok) (n1 f1:Bool) :
    call E (.func (.func 9) [] []) [.imm n1 f1 true (frs.map encFr)] []=some (.lit (.bool true),[]):=by
  have ha:=awake10
  rw [call_func E E9]
  by_cases h5:(5:Int)<(frs.length:Int)
  · simp [go_sem,ir9,h5,ha]
  · have hl0:=fun k hk=>sl_loop0 frs (by omega) n1 f1 k (some (.lit (.bool true),[])) rfl hk frs.length 0 (by omega) (by simp)
    simp at hl0
    simp [go_sem,ir9,h5]
    rw [run_inLoop']
    simp [go_sem]
    refine hl0 _ ?_
    intro τ hck t0
    have hgd:∀ f∈frs,f.Ok∧checkP f=0:=fun f hf=>⟨hok f hf,hck f hf⟩
    have hJ:=joined_frs frs hgd (by omega) n1 f1
    obtain ⟨F,hj⟩:=hJ
    obtain ⟨p1,p2,p3,p4,p5,p6,p7,p8⟩:=pN_fold frs nd1 hgd nd1_inv trivial (by simp [nd1,nd0];omega)
    have hlen:(pN nd1 frs).q.length=frs.length:=by rw [p3];simp [nd1,nd0]
    have rN:Rdy (pN nd1 frs).q (pN nd1 frs):=⟨p1,p4,rfl,p6,p5⟩
    generalize pN nd1 frs=N at *
    have h0:=nodeAt_can N F []
    rw [List.append_nil] at h0
    generalize ndH N F=H0 at *
    obtain ⟨H1,fu,hqu,h1,a1,c1,c2⟩:=queue_at h0 p1.ok
    have last:∀ H fs m,NodeAt H 0 m fs→Rdy [] m→∃ H1,callK1 (call E) H (some (.func (.func 18) [] [],[])) (some ([.ptr 0 0],[]))=some (.agg [.lit (.int .i64 1),.lit (.bool m.tx),.lit (.int .i64 0),.lit (.int .i64 0),.lit (.bool false),.lit (.int .i64 0)],H1)∧∃ H2,callK1 (call E) (H1++[.box [.lit (.int .i64 1),.lit (.bool m.tx),.lit (.int .i64 0),.lit (.int .i64 0),.lit (.bool false),.lit (.int .i64 0)]]) (some (.func (.func 16) [] [],[])) (some ([.ptr 0 0],[]))=some (.lit (.int .i64 1),H2):=by
      intro H fs m h r
      obtain ⟨H1,q1,h1,a1⟩:=look_at h r.inv.ok
      refine ⟨H1,?_,?_⟩
      · rw [q1];unfold lookC;rw [r.mode,r.ct,r.q];rfl
      · have h2:=nodeAt_append h1 [.box [.lit (.int .i64 1),.lit (.bool m.tx),.lit (.int .i64 0),.lit (.int .i64 0),.lit (.bool false),.lit (.int .i64 0)]]
        obtain ⟨H2,q2,-,-⟩:=drive_at h2 r.inv
        have:drN m=true:=by unfold drN;rw [if_pos r.mode,r.q];rfl
        rw [this] at q2
        exact ⟨H2,q2⟩
    cases hnq:N.nq
    · obtain ⟨c3,c4⟩:=c1 hnq
      rw [hnq,if_neg (by simp)] at hqu
      have hq1:Ext H1 (List.range (mI N)) H0.length (.arr true false fu 12 (N.q.map encFr)):=⟨c3,fun q=>by
        have hlt:=nodeAt_lt h0 _ q
        omega⟩
      have hre:=reach_p2 h1 hq1
      have hl1:=fun k hk=>sl_loop1 N.q (by omega) p2 p1.qv k (some (.lit (.bool true),[])) H0.length false fu hk N.q.length 0 (by omega) _ _ N (nodeAt_sw2 h1 _) rN (ext_sw2 hq1)
      have hml:(frs.map encFr).length=frs.length:=by simp
      generalize frs.map encFr=rows at *
      simp at hl1 hqu hj
      simp [go_sem,t0,hj,back_new,hqu,hlen,hml]
      rw [hlen] at hl1
      rw [run_inLoop']
      simp [go_sem,hre]
      refine hl1 _ ?_
      intro H fs τ m t4 h r
      obtain ⟨H3,l1,H4,l2⟩:=last H fs m h r
      simp [go_sem,t4,l1,l2,ha]
    · rw [hnq,if_pos rfl] at hqu
      have hnil:frs=[]:=(p8 hnq).2
      have hq0:N.q=[]:=by
        have:=hlen
        rw [hnil] at this
        exact List.eq_nil_of_length_eq_zero this
      rw [hq0] at rN
      have hre:=reach_p1 h1
      obtain ⟨H3,l1,H4,l2⟩:=last _ _ _ (nodeAt_sw1 h1) rN
      subst hnil
      simp [nilS] at hqu hj t0
      simp [go_sem,t0,hj,back_new,hqu,nilS]
      rw [run_inLoop']
      simp [go_sem,hre,run_codeL E L9_1.eq_1,l1,l2,ha]
end Go.AM.R1
open Go Go.AM
namespace Go.AM.R1
/-! ### Turns -/
end Go.AM.R1
open Go Go.AM Go.Proofs
namespace Go.AM.R1
section
variable {H:Type} {P:Program}
end
end Go.AM.R1
open Go Go.AM Go.AM.R1 Go.Proofs
namespace Go.Proofs.YtkmacpimokhpgaaGreat
open Go.ChangeShapes Go.WideShapes Go.ChangeAt Go.RowKit
namespace ctlSends
theorem own:ownKnob Tryz.prog.godebug=none:=by kernel_rfl
theorem laidOut:laidOutB Tryz.prog=true:=by kernel_rfl
theorem mixed:Tryz.prog.follows .mixedOrders=true:=by kernel_rfl
set_option maxRecDepth 100000 in
theorem contract (H:Type) (enc:TypeId × Value→H) (W:World) (base:Nat) (args:Array Value) (ds gs:List (DataW H)) (before:List MemPlace)
    (hval:∀ (j:Nat) t v,Tryz.f9.params[j]?=some t→args[j]?=some v→Value.okWide Tryz.prog W .any base t v)
    (hW:DataW.Whole enc Tryz.prog Tryz.f9.params.toList Rows.ctlSendsSpec.vars false W args.toList ds gs before) :
    Calls Tryz.prog 9 args W fun e W'=>∃ v,e=.returned v∧Rows.ctlSendsSpec.post enc Tryz.prog Tryz.f9 false true false false W args v W':=by
  refine law_contract (id:=9) (f:=Tryz.f9) (s:=Rows.ctlSendsSpec) (k:=7) (nargs:=1) (base:=base) (ds:=ds) (gs:=gs) (before:=before) mixed libs_ok R1.hE laidOut ?e1 ?e2 (tb:=4) ?e3 Tryz.underlying4 ?e4 ?e5 ?e7 ?e8 ?e6
  case e7=>exact hval
  case e8=>exact hW
  case e1=>rfl
  case e3=>kernel_rfl
  case e4=>rw [Tryz.params9];rfl
  · rw [Tryz.params9];decide +kernel
  · intro ds h
    match ds,h with
    | [d1],_=>rfl
  · intro cs hA
    rw [Tryz.params9] at hA
    obtain ⟨d1,r1,a1,s1,rfl,rfl,h1,hA⟩:=decArgs_cons hA
    obtain ⟨rfl,rfl⟩:=decArgs_nil hA
    obtain ⟨n1,f1,fs,rfl,hfo,-⟩:=decV_frames (n:=3) Tryz.underlying22 ⟨Tryz.underlying32,Tryz.underlying3,Tryz.underlying4,Tryz.underlying4,Tryz.underlying3,Tryz.underlying30,Tryz.underlying5⟩ h1
    obtain ⟨n,hn⟩:=(call_iff R1.E).1 (ctlSends_spec fs hfo n1 f1)
    exact ⟨n,_,hn⟩

set_option maxRecDepth 100000 in
theorem lifted (os:Os) (started:os.Started) (H:Type) (enc:TypeId × Value→H) :
    ReturnsInHanded {} Tryz.checked os 9 .any (Rows.ctlSendsSpec.pre6 enc Tryz.prog Tryz.f9 Rows.ctlSendsRow.domain false) (Rows.ctlSendsSpec.post enc Tryz.prog Tryz.f9 false true false false):=by
  refine returnsInHanded_of_change (C:=Tryz.checked) own started (by kernel_rfl) Tryz.func9
    (ChangeSpec.witness6 (enc:=enc) (C:=Tryz.checked) false ⟨#[],#[.slice none 0 0],[]⟩ 8 (by kernel_rfl) (by kernel_rfl) (by kernel_rfl) (by kernel_rfl)) ?_
  intro W base args ds gs before hval hW _ _
  exact contract H enc W base args ds gs before hval hW

theorem proved:Rows.CtlSendsSaid :=
  OpenClaim.holds_of_wide 9 Tryz.f9 rfl rfl rfl rfl rfl rfl rfl ⟨rfl,rfl,rfl,rfl,rfl⟩ rfl rfl rfl rfl rfl (by kernel_rfl) Tryz.func9 (by kernel_rfl)
    (of_decide_eq_true (by kernel_rfl)) (by unfold Func.isWrapper;first | (rw [if_pos (by decide +kernel)];kernel_rfl) | (rw [if_neg (by decide +kernel)];exact ⟨rfl,rfl⟩))
    (fun os started H enc _=>lifted os started H enc)
end ctlSends
theorem ctlSendsProved:Rows.CtlSendsSaid:=ctlSends.proved
end Go.Proofs.YtkmacpimokhpgaaGreat
