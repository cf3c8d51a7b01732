/- The law DriveAll of package magnetolaw22 returns true for every input, and its arguments read as before. -/
import Derived.Test.YtefpgafgpanpfaaGreatDriveAll2
set_option linter.unusedVariables false
set_option linter.unusedSimpArgs false
set_option maxHeartbeats 16000000
open List (range_succ getElem?_eq_getElem getD_eq_getElem?_getD mem_of_mem_drop mem_of_getElem? getElem?_append_left mem_cons_of_mem mem_append_left nodup_cons mem_cons mem_append map_cons length_append mem_map length_map map_append)
open Option (map_eq_some_iff)
open Go Go.AM
namespace Go.AM.R1
structure NdL where
 a:Nat
 n:Nd
 fs:List Nat
def flats (L:List NdL):List Nat:=(L.map NdL.fs).flatten
def ptrsL (L:List NdL):List (List AVal):=L.map fun p=>[AVal.ptr p.a 0]
structure BusAt (H:Heap) (a na:Nat) (L:List NdL) (tk:Nat) (lkb fub:Bool):Prop where
 box:H[a]?=some (.box [.own na L.length 1 0 L.length,.lit (.int .i64 tk)])
 arr:H[na]?=some (.arr false lkb fub 1 (ptrsL L))
 nds:∀ p∈L,NodeAt H p.a p.n p.fs
 ne:a≠na
 out:∀ p∈L,a ∉ p.fs/\na ∉ p.fs
 dj:∀ (i j:Nat) (p q:NdL),L[i]?=some p->L[j]?=some q->i≠j->∀ x∈p.fs,x ∉ q.fs
theorem refs_ptrs (L:List NdL):refsLL (ptrsL L)=L.map NdL.a:=by
 induction L with
 | nil=>rfl
 | cons p L ih =>
  show refsL [AVal.ptr p.a 0]++refsLL (ptrsL L)=_
  rw [ih];rfl
theorem flats_cons (p:NdL) (L:List NdL):flats (p::L)=p.fs++flats L:=rfl
theorem mem_flats {x:Nat} {L:List NdL}:x∈flats L↔∃ p∈L,x∈p.fs:=by
 unfold flats
 rw [List.mem_flatten]
 constructor
 ·rintro ⟨l,hl,hx⟩
  obtain ⟨p,hp,rfl⟩:=mem_map.1 hl
  exact ⟨p,hp,hx⟩
 ·rintro ⟨p,hp,hx⟩
  exact ⟨p.fs,mem_map.2 ⟨p,hp,rfl⟩,hx⟩
theorem flats_nodup {H:Heap}:∀ {L:List NdL},(∀ p∈L,NodeAt H p.a p.n p.fs)->(∀ (i j:Nat) (p q:NdL),L[i]?=some p->L[j]?=some q->i≠j->∀ x∈p.fs,x ∉ q.fs)->(flats L).Nodup
 | [],_,_=>List.nodup_nil
 | p::L,hn,hd=>by
  rw [flats_cons,List.nodup_append]
  refine ⟨nodeAt_nodup (hn p (by simp)),flats_nodup (fun q hq=>hn q (by simp [hq])) (fun i j q r h1 h2 hne=>hd (i+1) (j+1) q r (by simpa using h1) (by simpa using h2) (by omega)),?_⟩
  intro x hx y hy e
  subst e
  obtain ⟨q,hq,hxq⟩:=mem_flats.1 hy
  obtain ⟨j,hj⟩:=List.getElem?_of_mem hq
  exact hd 0 (j+1) p q rfl (by simpa using hj) (by omega) x hx hxq
theorem reach_nodes {H:Heap}:∀ (L:List NdL) (k:Nat) (w acc:List Nat),(∀ p∈L,NodeAt H p.a p.n p.fs)->(acc++flats L).Nodup->reach H (k+(flats L).length) (L.map NdL.a++w) acc=reach H k w (acc++flats L)
 | [],k,w,acc,_,_=>by simp [flats]
 | p :: L,k,w,acc,hn,hd=>by
  rw [flats_cons] at hd ⊢
  rw [length_append,show k+(p.fs.length+(flats L).length)=(k+(flats L).length)+p.fs.length by omega,map_cons,List.cons_append]
  rw [reach_node (hn p (by simp)) _ _ _ (fun i hi q=>by
   have:=(List.nodup_append.1 hd).2.2 i q i (by simp [hi])
   exact this rfl)]
  rw [reach_nodes L k w (acc++p.fs) (fun q hq=>hn q (by simp [hq])) (by rw [List.append_assoc];exact hd),List.append_assoc]
theorem BusAt.nodup {H:Heap} {a na:Nat} {L:List NdL} {tk:Nat} {l f:Bool} (h:BusAt H a na L tk l f):(a::na::flats L).Nodup:=by
 rw [nodup_cons,nodup_cons]
 refine ⟨fun q=>?_,fun q=>?_,flats_nodup h.nds h.dj⟩
 ·rcases mem_cons.1 q with q | q
  ·exact h.ne q
  ·obtain ⟨p,hp,hx⟩:=mem_flats.1 q
   exact (h.out p hp).1 hx
 ·obtain ⟨p,hp,hx⟩:=mem_flats.1 q
  exact (h.out p hp).2 hx
theorem reach_bus {H:Heap} {a na:Nat} {L:List NdL} {tk:Nat} {l f:Bool} (h:BusAt H a na L tk l f) (k:Nat) (w acc:List Nat) (hd:(acc++a::na::flats L).Nodup):reach H (k+(flats L).length+2) (a::w) acc=reach H k w (acc++a::na::flats L):=by
 have hd1:=List.nodup_append.1 hd
 have na1:a ∉ acc:=fun q=>hd1.2.2 a q a (by simp) rfl
 have na2:na ∉ acc:=fun q=>hd1.2.2 na q na (by simp) rfl
 have r1:refsE (.box [.own na L.length 1 0 L.length,.lit (.int .i64 tk)])=[na]:=rfl
 have r2:refsE (.arr false l f 1 (ptrsL L))=L.map NdL.a:=by
  show (if false=true then [] else refsLL (ptrsL L))=_
  rw [if_neg (by simp),refs_ptrs]
 rw [reach_step na1 h.box,r1,List.singleton_append,reach_step (by simp [na2];exact fun e=>h.ne e.symm) h.arr,r2,reach_nodes L k w _ h.nds (by simpa using hd)]
 simp
theorem BusAt.same {H H2:Heap} {a na:Nat} {L:List NdL} {tk:Nat} {l f:Bool} (h:BusAt H a na L tk l f) (hs:∀ i∈a::na::flats L,H2[i]?=H[i]?):BusAt H2 a na L tk l f :=
 ⟨by rw [hs a (by simp)];exact h.box,by rw [hs na (by simp)];exact h.arr,fun p hp=>nodeAt_same (h.nds p hp) fun i hi=>hs i (by simp [mem_flats.2 ⟨p,hp,hi⟩]),h.ne,h.out,h.dj⟩
theorem BusAt.lt {H:Heap} {a na:Nat} {L:List NdL} {tk:Nat} {l f:Bool} (h:BusAt H a na L tk l f):∀ i∈a::na::flats L,i<H.length:=by
 intro i hi
 rcases mem_cons.1 hi with q | hi
 ·rw [q];exact lt_of_get h.box
 ·rcases mem_cons.1 hi with q | hi
  ·rw [q];exact lt_of_get h.arr
  ·obtain ⟨p,hp,hx⟩:=mem_flats.1 hi
   exact nodeAt_lt (h.nds p hp) i hx
theorem BusAt.len {H:Heap} {a na:Nat} {L:List NdL} {tk:Nat} {l f:Bool} (h:BusAt H a na L tk l f):(flats L).length<=5 * L.length:=by
 have hn:=h.nds
 clear h
 induction L with
 | nil=>simp [flats]
 | cons p L ih =>
  have h1:=nodeAt_len (hn p (by simp))
  have h2:=ih (fun q hq=>hn q (by simp [hq]))
  rw [flats_cons,length_append,List.length_cons];omega
theorem BusAt.setN {H H2:Heap} {a na:Nat} {L:List NdL} {tk:Nat} {l f:Bool} (h:BusAt H a na L tk l f) {j:Nat} {p:NdL} (hj:L[j]?=some p) {m:Nd} {fs2:List Nat} (hm:NodeAt H2 p.a m fs2) (ar:Around H H2 p.fs fs2) :
  BusAt H2 a na (L.set j ⟨p.a,m,fs2⟩) tk l f:=by
 have hjl:j<L.length:=(List.getElem?_eq_some_iff.1 hj).1
 have hp:=mem_of_getElem? hj
 have hlt:=h.lt
 have hm0:∀ i,i<H.length->i ∉ p.fs->H2[i]?=H[i]?:=ar.same
 have hps:ptrsL (L.set j ⟨p.a,m,fs2⟩)=ptrsL L:=by
  unfold ptrsL
  rw [List.map_set]
  have e:(L.map fun p=>[AVal.ptr p.a 0])[j]?=some [AVal.ptr p.a 0]:=by rw [List.getElem?_map,hj];rfl
  have:=List.set_getElem_self (show j<(L.map fun p=>[AVal.ptr p.a 0]).length by simpa using hjl)
  rw [(List.getElem?_eq_some_iff.1 e).2] at this
  exact this
 have old:∀ i q,(L.set j ⟨p.a,m,fs2⟩)[i]?=some q->(i=j/\q=⟨p.a,m,fs2⟩)∨(i≠j/\L[i]?=some q):=by
  intro i q hq
  by_cases e:i=j
  ·subst e
   rw [List.getElem?_set_self hjl] at hq
   exact .inl ⟨rfl,by simpa using hq.symm⟩
  ·rw [List.getElem?_set_ne (fun z=>e z.symm)] at hq
   exact .inr ⟨e,hq⟩
 have fsn:∀ x∈fs2,x∈p.fs∨H.length<=x:=ar.new
 refine ⟨?_,?_,?_,h.ne,?_,?_⟩
 ·rw [hm0 a (hlt a (by simp)) (h.out p hp).1,List.length_set];exact h.box
 ·rw [hm0 na (hlt na (by simp)) (h.out p hp).2,hps];exact h.arr
 ·intro q hq
  obtain ⟨i,hi⟩:=List.getElem?_of_mem hq
  rcases old i q hi with ⟨-,e⟩ | ⟨e,hi⟩
  ·rw [e];exact hm
  ·have hq:=mem_of_getElem? hi
   exact nodeAt_same (h.nds q hq) fun x hx=>hm0 x (nodeAt_lt (h.nds q hq) x hx) (h.dj i j q p hi hj e x hx)
 ·intro q hq
  obtain ⟨i,hi⟩:=List.getElem?_of_mem hq
  rcases old i q hi with ⟨-,e⟩ | ⟨e,hi⟩
  ·rw [e]
   refine ⟨fun z=>?_,fun z=>?_⟩
   ·rcases fsn a z with y | y
    ·exact (h.out p hp).1 y
    ·have:=hlt a (by simp);omega
   ·rcases fsn na z with y | y
    ·exact (h.out p hp).2 y
    ·have:=hlt na (by simp);omega
  ·exact h.out q (mem_of_getElem? hi)
 ·intro i k q r hi hk hne x hx hxr
  rcases old i q hi with ⟨e1,e2⟩ | ⟨e1,hi⟩
  ·rcases old k r hk with ⟨e3,e4⟩ | ⟨e3,hk⟩
   ·exact hne (e1.trans e3.symm)
   ·subst e2
    rcases fsn x hx with y | y
    ·exact h.dj j k p r hj hk (fun z=>e3 z.symm) x y hxr
    ·have:=nodeAt_lt (h.nds r (mem_of_getElem? hk)) x hxr;omega
  ·rcases old k r hk with ⟨e3,e4⟩ | ⟨e3,hk⟩
   ·subst e4
    rcases fsn x hxr with y | y
    ·exact h.dj i j q p hi hj e1 x hx y
    ·have:=nodeAt_lt (h.nds q (mem_of_getElem? hi)) x hx;omega
   ·exact h.dj i k q r hi hk hne x hx hxr
def NodeAtW (H:Heap) (a:Nat) (n:Nd) (fs:List Nat) (wx:Nat):Prop:=∃ F rx qx lx,NodeAtF H a n F rx qx lx wx/\fs=footL n a rx qx lx wx
theorem NodeAtW.at {H:Heap} {a:Nat} {n:Nd} {fs:List Nat} {wx:Nat} (h:NodeAtW H a n fs wx):NodeAt H a n fs:=by
 obtain ⟨F,rx,qx,lx,h1,h2⟩:=h
 exact ⟨F,rx,qx,lx,wx,h1,h2⟩
theorem NodeAt.w {H:Heap} {a:Nat} {n:Nd} {fs:List Nat} (h:NodeAt H a n fs):∃ wx,NodeAtW H a n fs wx:=by
 obtain ⟨F,rx,qx,lx,wx,h1,h2⟩:=h
 exact ⟨wx,F,rx,qx,lx,h1,h2⟩
def RowKept (n:Nd) (w:Nat) (Hn:Heap) (m:Nd) (gs:List Nat) (wx:Nat):Prop:=n.row≠[]->(∃ lw fw,Hn[w]?=some (.arr true lw fw 1 (n.row.map encLv)))/\(w∈gs->m.row=n.row/\wx=w)
theorem nodeAt_canW (n:Nd) (F:Fl) (X:Heap):NodeAtW (ndH n F++X) 0 n (List.range (mI n)) (wI n):=by
 refine ⟨F,1,qI n,qI n+1,⟨?_,?_,?_,?_,?_,?_⟩,?_⟩ <;>
 by_cases h1:n.raw=[]<;>by_cases h2:n.nq=true<;>by_cases h3:n.row=[] <;>
 simp [ndH,rV,qI,qV,wI,wV,rE,qE,wE,Nd.cells,nilS,mI,footL,rAt,lAt,wAt,h1,h2,h3,range_succ]
theorem kept_can {n n':Nd} {F:Fl} {X:Heap} {gs:List Nat} (k1:n'.raw=[]↔n.raw=[]) (k2:n'.nq=n.nq) (k4:n'.row=n.row):RowKept n (wI n) (ndH n' F++X) n' gs (wI n'):=by
 intro h3
 have hw:wI n'=wI n:=by unfold wI qI;simp only [k1,k2]
 obtain ⟨F2,rx,qx,lx,h,-⟩:=nodeAt_canW n' F X
 have:=h.row (by rw [k4];exact h3)
 rw [hw,k4] at this
 exact ⟨⟨_,_,this⟩,fun _=>⟨k4,hw⟩⟩
def refsAt (H:Heap) (i:Nat):List Nat:=refsE (H.getD i .dead)
def Quiet (H:Heap) (gs:List Nat):Prop:=∀ i,i ∉ gs->refsAt H i=[]
theorem refs_out {H:Heap} {i:Nat} (h:H.length<=i):refsAt H i=[]:=by
 unfold refsAt
 rw [getD_eq_getElem?_getD,List.getElem?_eq_none h];rfl
theorem quiet_can (n:Nd) (F:Fl) {X:Heap} (hX:∀ e∈X,refsE e=[]):Quiet (ndH n F++X) (List.range (mI n)):=by
 intro i hi
 have hi:mI n<=i:=by simpa using hi
 unfold refsAt
 rw [getD_eq_getElem?_getD,List.getElem?_append_right (by rw [ndH_len];omega)]
 cases h:X[i - (ndH n F).length]? with
 | none=>rfl
 | some e=>exact hX e (mem_of_getElem? h)
theorem quiet_ev (es:List (Nat × Fr)):∀ e∈evE es,refsE e=[]:=by
 intro e he
 unfold evE at he
 split at he
 ·cases he
 ·simp at he;rw [he];rfl
def LiesW (Hn:Heap) (n n':Nd) (N:Nat) (es:List (Nat × Fr)) (v:AVal):Prop :=
 ∃ gs ix wx,NodeAtW Hn 0 n' gs wx/\N<=Hn.length/\v=evV ix es/\(es≠[]->Hn[ix]?=some (.arr true false false 15 (es.map encEv))/\N<=ix/\ix ∉ gs)/\RowKept n (wI n) Hn n' gs wx/\Quiet Hn gs
theorem lies_canW (n n':Nd) (F2:Fl) (es:List (Nat × Fr)) (hm:mI n'=mI n) (k1:n'.raw=[]↔n.raw=[]) (k2:n'.nq=n.nq) (k4:n'.row=n.row):LiesW (ndH n' F2++evE es) n n' (mI n) es (evV (mI n) es):=by
 refine ⟨_,mI n,_,nodeAt_canW n' F2 _,by rw [length_append,ndH_len];omega,rfl,fun he=>?_,kept_can k1 k2 k4,quiet_can n' F2 (quiet_ev es)⟩
 refine ⟨?_,Nat.le_refl _,by rw [hm];simp⟩
 rw [List.getElem?_append_right (by rw [ndH_len];omega),ndH_len,hm,Nat.sub_self]
 unfold evE;rw [if_neg he];rfl
theorem step_of_canW (n:Nd) (F:Fl) (b:Bool) (fid:Nat) (hm:n.mode<11) (hg:(stepF.drop n.mode)[0]?=some (.func (.func fid) [] [])) (n':Nd) (F2:Fl) (ks:List Nat) (f':Fr) (hk:KsOk ks)
  (k1:n'.raw=[]↔n.raw=[]) (k2:n'.nq=n.nq) (k4:n'.row=n.row) (hc:call E (.func (.func fid) [] []) [.ptr 0 0,.ptr (mI n) 0,.lit (.int .i64 (lv b))] (ndT n F [] Fr.zero)=some (.tup [],ndT n' F2 ks f')) :
  ∃ Hn v,call E (.func (.func 71) [] []) [.ptr 0 0,.lit (.int .i64 (lv b))] (ndH n F)=some (.tup [v,.lit (.int .i64 0)],Hn)/\LiesW Hn n n' (mI n) (evsOf ks f') v:=by
 have k3:n'.row=[]↔n.row=[]:=by rw [k4]
 have hmi:=mI_same k1 k2 k3
 rcases hk with rfl | ⟨a,rfl⟩ | ⟨a,h1,h2,rfl⟩
 ·exact ⟨_,_,nstep_can0 n F b fid hm hg n' F2 f' k1 k2 k3 hc,lies_canW n n' F2 [] hmi k1 k2 k4⟩
 ·by_cases ha:a=1∨a=2
  ·have e:evsOf [a] f'=[(a,f')]:=by simp [evsOf,ha]
   rw [e]
   exact ⟨_,_,nstep_can1f n F b fid hm hg a ha n' F2 f' k1 k2 k3 hc,lies_canW n n' F2 _ hmi k1 k2 k4⟩
  ·have e:evsOf [a] f'=[(a,Fr.zero)]:=by simp [evsOf,ha]
   rw [e]
   exact ⟨_,_,nstep_can1 n F b fid hm hg a (fun q=>ha (.inl q)) (fun q=>ha (.inr q)) n' F2 f' k1 k2 k3 hc,lies_canW n n' F2 _ hmi k1 k2 k4⟩
 ·have e:evsOf [a,10] f'=[(a,Fr.zero),(10,Fr.zero)]:=by simp [evsOf,h1,h2]
  rw [e]
  exact ⟨_,_,nstep_can2 n F b fid hm hg a h1 h2 n' F2 f' k1 k2 k3 hc,lies_canW n n' F2 _ hmi k1 k2 k4⟩
theorem nodeAt_stW (n:Nd) (F:Fl) (s:Bool):NodeAtW (stG 0 [] n (startN n s) F s) 0 (startN n s) (footL (startN n s) 0 (mI n) (qI n) (qI n+1) (if s=true then mI n+1 else wI n)) (if s=true then mI n+1 else wI n)/\mI n<=(stG 0 [] n (startN n s) F s).length /\
  RowKept n (wI n) (stG 0 [] n (startN n s) F s) (startN n s) (footL (startN n s) 0 (mI n) (qI n) (qI n+1) (if s=true then mI n+1 else wI n)) (if s=true then mI n+1 else wI n) /\
  Quiet (stG 0 [] n (startN n s) F s) (footL (startN n s) 0 (mI n) (qI n) (qI n+1) (if s=true then mI n+1 else wI n)):=by
 have hne:=allP_ne (n.q.head?.getD Fr.zero)
 refine ⟨⟨⟨false,false,F.fq,if s=true then false else F.lw,if s=true then false else F.fw⟩,mI n,qI n,qI n+1,⟨?_,?_,?_,?_,?_,?_⟩,rfl⟩,?_,fun h3=>⟨⟨F.lw,F.fw,?_⟩,?_⟩,?_⟩
 case refine_10 =>
  intro i hi
  rcases (by omega:i=0∨i=1∨i=2∨i=3∨i=4∨i=5∨i=6∨7<=i) with q | q | q | q | q | q | q | q
  case inr.inr.inr.inr.inr.inr.inr =>
   exact refs_out (by cases s<;>by_cases h1:n.raw=[]<;>by_cases h2:n.nq=true<;>by_cases h3:n.row=[]<;>simp [stG,startN,rE,qE,wE,h1,h2,h3]<;>omega)
  all_goals (subst q;revert hi;cases s<;>by_cases h1:n.raw=[]<;>by_cases h2:n.nq=true<;>by_cases h3:n.row=[]<;>simp [refsAt,refsE,stG,startN,ndH,rV,qI,qV,wI,wV,rE,qE,wE,Nd.cells,nilS,mI,footL,h1,h2,h3,hne])
 case refine_9 =>
  cases s
  ·exact fun _=>⟨rfl,rfl⟩
  ·intro q
   exfalso
   revert q
   by_cases h1:n.raw=[]<;>by_cases h2:n.nq=true <;>
   simp [startN,wI,qI,mI,footL,h1,h2,h3,hne]
 case refine_8 =>
  cases s<;>by_cases h1:n.raw=[]<;>by_cases h2:n.nq=true <;>
  simp [stG,startN,ndH,rV,qI,qV,wI,wV,rE,qE,wE,Nd.cells,nilS,mI,h1,h2,h3,hne]
 all_goals
 cases s<;>by_cases h1:n.raw=[]<;>by_cases h2:n.nq=true<;>by_cases h3:n.row=[] <;>
 simp [stG,startN,ndH,rV,qI,qV,wI,wV,rE,qE,wE,Nd.cells,nilS,mI,footL,rAt,lAt,wAt,h1,h2,h3,hne]
theorem step_of_startW (n:Nd) (F:Fl) (b:Bool) (fid:Nat) (hm:n.mode<11) (hg:(stepF.drop n.mode)[0]?=some (.func (.func fid) [] [])) (s:Bool)
  (hc:call E (.func (.func fid) [] []) [.ptr 0 0,.ptr (mI n) 0,.lit (.int .i64 (lv b))] (ndT n F [] Fr.zero)=some (.tup [],stG 1 (tdE (mI n) [] Fr.zero) n (startN n s) F s)) :
  ∃ Hn v,call E (.func (.func 71) [] []) [.ptr 0 0,.lit (.int .i64 (lv b))] (ndH n F)=some (.tup [v,.lit (.int .i64 0)],Hn)/\LiesW Hn n (startN n s) (mI n) [] v:=by
 have hN:=nodeAt_stW n F s
 refine ⟨stG 0 [] n (startN n s) F s,nilS,?_,_,0,_,hN.1,hN.2.1,rfl,fun q=>absurd rfl q,hN.2.2.1,hN.2.2.2⟩
 cases s
 ·exact nstep_start_f n F b fid hm hg _ hc
 ·exact nstep_start_t n F b fid hm hg _ (allP_ne _) hc
theorem step_of_sentW (n:Nd) (F:Fl) (b:Bool) (fid:Nat) (hm:n.mode<11) (hg:(stepF.drop n.mode)[0]?=some (.func (.func fid) [] [])) (h1:¬ n.raw=[]) (hq:n.nq=false) (h3:¬ n.row=[]) (m:Nd) (F2:Fl) (hm1:¬ m.raw=[]) (hm2:m.nq=false) (hm3:m.row=n.row)
  (hmem:m.own∈m.q) (hc:call E (.func (.func fid) [] []) [.ptr 0 0,.ptr (mI n) 0,.lit (.int .i64 (lv b))] (ndT n F [] Fr.zero)=some (.tup [],sentG [.box (tdC (.own 7 1 1 0 1) m.own)] [.arr true false false 1 [encK 1]] 6 m F2)) :
  ∃ Hn v,call E (.func (.func 71) [] []) [.ptr 0 0,.lit (.int .i64 (lv b))] (ndH n F)=some (.tup [v,.lit (.int .i64 0)],Hn)/\LiesW Hn n (sentN m) (mI n) [(1,m.own)] v:=by
 have hmi:mI n=5:=by simp [mI,wI,qI,h1,hq,h3]
 have hlen:=delL_len m.own m.q hmem
 have h3':¬ m.row=[]:=by rw [hm3];exact h3
 refine ⟨_,_,nstep_sent n F b fid hm hg h1 hq h3 m F2 hm1 hm2 hm3 hc,[0,1,2,5,4],6,4,?_,?_,rfl,fun _=>⟨rfl,by omega,by simp⟩,fun _=>⟨⟨F2.lw,F2.fw,?_⟩,fun _=>⟨hm3,by simp [wI,qI,h1,hq]⟩⟩,?_⟩
 ·refine ⟨{ F2 with fq:=false },1,2,5,⟨?_,?_,?_,?_,?_,?_⟩,?_⟩ <;>
  simp [sentG,sentN,footL,rAt,lAt,wAt,hm1,hm2,h3',hlen]
 ·rw [hmi];simp [sentG]
 ·simp [sentG,wI,qI,h1,hq,hm3]
 ·intro i hi
  rcases (by omega:i=0∨i=1∨i=2∨i=3∨i=4∨i=5∨i=6∨7<=i) with q | q | q | q | q | q | q | q
  case inr.inr.inr.inr.inr.inr.inr=>exact refs_out (by simp [sentG];omega)
  all_goals (subst q;simp [refsAt,refsE,sentG] at hi ⊢)
def StepsToW (n:Nd) (F:Fl) (b:Bool) (n':Nd) (es:List (Nat × Fr)):Prop :=
 ∃ Hn v,call E (.func (.func 71) [] []) [.ptr 0 0,.lit (.int .i64 (lv b))] (ndH n F)=some (.tup [v,.lit (.int .i64 0)],Hn)/\LiesW Hn n n' (mI n) es v
theorem keep_stepW (n:Nd) (F:Fl) (b:Bool) (fid:Nat) (hm:n.mode<11) (hg:(stepF.drop n.mode)[0]?=some (.func (.func fid) [] [])) (n':Nd) (F2:Fl) (ks:List Nat) (f':Fr) (hk:KsOk ks) (hp:Keep n n')
  (hc:call E (.func (.func fid) [] []) [.ptr 0 0,.ptr (mI n) 0,.lit (.int .i64 (lv b))] (ndT n F [] Fr.zero)=some (.tup [],ndT n' F2 ks f')):StepsToW n F b n' (evsOf ks f') :=
 step_of_canW n F b fid hm hg n' F2 ks f' hk (by rw [hp.raw]) hp.nq hp.row hc
theorem take_stepW (n:Nd) (F:Fl) (b:Bool) (h1:¬ n.raw=[]) (hmode:n.mode=2) (n':Nd) (F2:Fl) (ks:List Nat) (f':Fr) (hk:KsOk ks) (e1:¬ n'.raw=[]) (e2:n'.nq=n.nq) (e3:n'.row=n.row)
  (hc:call E (.func (.func 125) [] []) [.ptr 0 0,.ptr (mI n) 0,.lit (.int .i64 (lv b))] (ndT n F [] Fr.zero)=some (.tup [],ndT n' F2 ks f')):StepsToW n F b n' (evsOf ks f') :=
 step_of_canW n F b _ (by omega) (by rw [hmode];rfl) n' F2 ks f' hk ⟨fun q=>absurd q e1,fun q=>absurd q h1⟩ e2 e3 hc
theorem out_stepW (n:Nd) (F:Fl) (hI:n.Inv) (hk:n.k<=1000000000) (b:Bool) (h2:¬ n.mode=2):StepsToW n F b (nxN n b) (evN n b):=by
 have hm:=hI.mode
 have hn:=hI.ok
 have hg:∀ c,n.mode=c->∀ x,(stepF.drop c)[0]?=some x->(stepF.drop n.mode)[0]?=some x:=fun c e x h=>by rw [e];exact h
 unfold nxN evN
 have hcases:n.mode=0∨n.mode=1∨n.mode=3∨n.mode=4∨n.mode=5∨n.mode=6∨n.mode=7∨n.mode=8∨n.mode=9∨n.mode=10:=by omega
 rcases hcases with h | h | h | h | h | h | h | h | h | h
 ·rw [show stepN n b=noFr (joinN n b) by unfold stepN;simp only [h]]
  exact keep_stepW n F b _ (by omega) (hg 0 h _ rfl) _ F [] Fr.zero (.inl rfl) (join_keep n b) (njoin_spec n F hk Fr.zero b)
 ·rw [show stepN n b=noFr (idleN n b) by unfold stepN;simp only [h]]
  cases b
  ·rw [show idleN n false=([],startN n (decide (n.q≠[]))) from rfl]
   cases hq:n.q with
   | nil=>exact step_of_startW n F false _ (by omega) (hg 1 h _ rfl) false (nidle_start_no n F hn hq Fr.zero)
   | cons g r =>
    have hv:=hI.qv g (by rw [hq];simp)
    exact step_of_startW n F false _ (by omega) (hg 1 h _ rfl) true (nidle_start_yes n F hn g r hq hv.1 hv.2 Fr.zero)
  ·by_cases hq:n.q=[]
   ·rw [show idleN n true=([],n) by unfold idleN;rw [if_neg (by simp),if_pos hq]]
    exact keep_stepW n F true _ (by omega) (hg 1 h _ rfl) n F [] Fr.zero (.inl rfl) (keep_refl n) (nidle_rest n F hn hq Fr.zero)
   ·rw [show idleN n true=failN { n with tx:=true } 4 true by unfold idleN;rw [if_neg (by simp),if_neg hq]]
    have kp:=fail_keep { n with tx:=true } 4 true
    exact keep_stepW n F true _ (by omega) (hg 1 h _ rfl) _ F _ Fr.zero (fail_ksok _ 4 true (by omega) (by omega)) ⟨kp.raw,kp.nq,kp.row,kp.q⟩ (nidle_fail n F hn hq Fr.zero)
 ·rw [show stepN n b=noFr (domN n b) by unfold stepN;simp only [h]]
  exact keep_stepW n F b _ (by omega) (hg 3 h _ rfl) _ F _ Fr.zero (dom_ks n b) (dom_keep n b) (ndom_spec n F hn hk Fr.zero b)
 ·rw [show stepN n b=noFr (pasN n b) by unfold stepN;simp only [h]]
  exact keep_stepW n F b _ (by omega) (hg 4 h _ rfl) _ F _ Fr.zero (pas_ks n b) (pas_keep n b) (npas_spec n F hn hk Fr.zero b)
 ·rw [show stepN n b=noFr (domN n b) by unfold stepN;simp only [h]]
  exact keep_stepW n F b _ (by omega) (hg 5 h _ rfl) _ F _ Fr.zero (dom_ks n b) (dom_keep n b) (ndom_spec n F hn hk Fr.zero b)
 ·rw [show stepN n b=noFr (waitN n b) by unfold stepN;simp only [h]]
  have ho:n.ct.off=false:=by rw [hI.off];simp;omega
  exact keep_stepW n F b _ (by omega) (hg 6 h _ rfl) _ F _ Fr.zero (wait_ks n b) (wait_keep n b) (nwait_spec n F hn hk ho Fr.zero b)
 ·rw [show stepN n b=noFr (closeN n b) by unfold stepN;simp only [h]]
  exact keep_stepW n F b _ (by omega) (hg 7 h _ rfl) _ F _ Fr.zero (close_ks n b) (close_keep n b) (nclose_spec n F hn hk Fr.zero b)
 ·rw [show stepN n b=noFr (pausN n b) by unfold stepN;simp only [h]]
  cases b
  ·by_cases hk2:n.k<2
   ·rw [show pausN n false=overN n by unfold pausN;rw [if_neg (by simp),if_pos hk2]]
    exact keep_stepW n F false _ (by omega) (hg 8 h _ rfl) _ F [9] Fr.zero (.inr (.inl ⟨9,rfl⟩)) ⟨rfl,rfl,rfl,rfl⟩ (npause_over n F hk2 Fr.zero)
   ·rw [show pausN n false=([],startN n (decide (n.q≠[]) && !lateP n)) by unfold pausN;rw [if_neg (by simp),if_neg hk2]]
    cases hq:n.q with
    | nil=>exact step_of_startW n F false _ (by omega) (hg 8 h _ rfl) false (npause_no0 n F hn hk2 hq Fr.zero)
    | cons g r =>
     have hv:=hI.qv g (by rw [hq];simp)
     cases hl:lateP n
     ·exact step_of_startW n F false _ (by omega) (hg 8 h _ rfl) true (npause_yes n F hn hk2 g r hq hv.1 hv.2 hl Fr.zero)
     ·exact step_of_startW n F false _ (by omega) (hg 8 h _ rfl) false (npause_nol n F hn hk2 (by rw [hq];simp) hl Fr.zero)
  ·rw [show pausN n true=pauseN n by unfold pausN;rw [if_pos rfl]]
   exact keep_stepW n F true _ (by omega) (hg 8 h _ rfl) _ F [] Fr.zero (.inl rfl) (pause_keep n) (npause_rest n F hk Fr.zero)
 ·rw [show stepN n b=noFr (sspN n b) by unfold stepN;simp only [h]]
  cases b
  ·rw [show sspN n false=([],startN n false) by unfold sspN;rw [if_neg (by simp)]]
   exact step_of_startW n F false _ (by omega) (hg 9 h _ rfl) false (nsusp_start n F Fr.zero)
  ·rw [show sspN n true=suspN n by unfold sspN;rw [if_pos rfl]]
   exact keep_stepW n F true _ (by omega) (hg 9 h _ rfl) _ F [] Fr.zero (.inl rfl) (susp_keep n) (nsusp_rest n F hk Fr.zero)
 ·rw [show stepN n b=noFr (offN n b) by unfold stepN;simp only [h]]
  exact keep_stepW n F b _ (by omega) (hg 10 h _ rfl) _ F _ Fr.zero (off_ks n b) (boff_keep n b) (noff_spec n F hk (by have:=hI.rows;omega) Fr.zero b)
theorem in_sendsW (n:Nd) (F:Fl) (hI:n.Inv) (h2:n.mode=2) (hs:n.sends=true) (b:Bool):StepsToW n F b (nxN n b) (evN n b):=by
 have hn:=hI.ok
 obtain ⟨h1,h0,hri,hl5,h58,htx,hse⟩:=hI.inf h2
 have hS:=hse hs
 obtain ⟨hrl,h3,hrow,-⟩:=send_facts hS
 have hr:=hri.ok
 have hq:=hS.nq
 have hkind:=hri.kind
 have tk:=fun b=>take_keep n b h1
 unfold nxN evN
 rw [show stepN n b=inN n b by unfold stepN;simp only [h2]]
 generalize hN:nextF n.raw=kk at hkind h58 hrow
 obtain ⟨kind,k⟩:=kk
 simp only [] at hkind h58 hrow
 have ct:=fun (b:Bool) (F2:Fl) (hc:call E (.func (.func 125) [] []) [.ptr 0 0,.ptr (mI n) 0,.lit (.int .i64 (lv b))] (ndT n F [] Fr.zero)=some (.tup [],ndT (takeN n b).2 F2 [] Fr.zero)) =>
  take_stepW n F b h1 h2 (takeN n b).2 F2 [] Fr.zero (.inl rfl) (tk b).1 (tk b).2.1 (tk b).2.2.1 hc
 have cf:=fun (b:Bool) (x:List Nat × Nd) (F2:Fl) (hk:KsOk x.1) (hp:Keep n x.2) (hc:call E (.func (.func 125) [] []) [.ptr 0 0,.ptr (mI n) 0,.lit (.int .i64 (lv b))] (ndT n F [] Fr.zero)=some (.tup [],ndT x.2 F2 x.1 Fr.zero)) =>
  take_stepW n F b h1 h2 x.2 F2 x.1 Fr.zero hk (by rw [hp.raw];exact h1) hp.nq hp.row hc
 unfold inN
 rw [if_pos hs,hN]
 simp only []
 by_cases hd:b=frL n
 ·rw [if_pos hd]
  have hd':frL n=b:=hd.symm
  by_cases h5:n.run=5
  ·have hlv:¬ n.lvl=b:=by
    rw [hd];unfold frL;rw [if_pos hs,if_pos h5];cases n.lvl<;>simp
   rw [if_neg (fun e=>e.1 h5),if_neg (fun e=>e.1 h5)]
   have hk5:=h58 h5
   rcases Nat.lt_or_ge 4 kind with h4 | h4
   ·have:kind=5:=by omega
    subst this
    cases b
    ·obtain ⟨F2,hc⟩:=sin_added_hi_f n F hn hr h1 hl5 Fr.zero hs hrl hq h3 k hN hd' h5 hlv
     exact ct false F2 hc
    ·obtain ⟨F2,hc⟩:=sin_added_hi_t n F hn hr h1 hl5 Fr.zero hs hrl hq h3 k hN hd' h5 hlv
     exact ct true F2 hc
   ·cases b
    ·obtain ⟨F2,hc⟩:=sin_added_lo_f n F hn hr h1 hl5 Fr.zero hs hrl hq h3 kind k hN hd' h5 hlv h4
     exact ct false F2 hc
    ·obtain ⟨F2,hc⟩:=sin_added_lo_t n F hn hr h1 hl5 Fr.zero hs hrl hq h3 kind k hN hd' h5 hlv h4
     exact ct true F2 hc
  ·rcases Nat.lt_or_ge 4 kind with h4 | h4
   ·have hbt:b=true:=by
     rw [hd];unfold frL;rw [if_pos hs,if_neg h5,hrow h4];rfl
    subst hbt
    have hcases:kind=5∨kind=6∨kind=7∨kind=8:=by omega
    rcases hcases with rfl | rfl | rfl | rfl
    ·rw [if_neg (by simp),if_neg (by simp)]
     obtain ⟨F2,hc⟩:=sin_delim5 n F hn hr h1 hl5 Fr.zero hs hrl hq h3 k hN hd' h5
     exact ct true F2 hc
    ·rw [if_pos ⟨h5,rfl⟩]
     obtain ⟨F2,hc⟩:=sin_ack n F hn hr h1 hl5 Fr.zero hs hrl hq h3 k hN hd' h5
     have kp:=fail_keep n 8 (!decide (n.ct.state=1))
     exact cf true (nackN n) F2 (fail_ksok n 8 _ (by omega) (by omega)) ⟨kp.raw,kp.nq,kp.row,kp.q⟩ hc
    ·rw [if_neg (by simp),if_neg (by simp)]
     obtain ⟨F2,hc⟩:=sin_delim7 n F hn hr h1 hl5 Fr.zero hs hrl hq h3 k hN hd' h5
     exact ct true F2 hc
    ·by_cases hk6:k=6
     ·subst hk6
      rw [if_neg (by simp),if_pos ⟨h5,rfl⟩]
      obtain ⟨F2,hc⟩:=sin_sent n F hn hr h1 hl5 Fr.zero hs hrl hq h3 hN hd' h5 hS.mem
      have hon:(takeN n true).2.own=n.own:=(tk true).2.2.2.2.2.2.2.1
      rw [<- hon] at hc
      have hst:=step_of_sentW n F true _ (by omega) (by rw [h2];rfl) h1 hq h3 (takeN n true).2 F2 (tk true).1 ((tk true).2.1.trans hq) (tk true).2.2.1 (by rw [hon,(tk true).2.2.2.1];exact hS.mem) hc
      rw [hon] at hst
      exact hst
     ·rw [if_neg (by simp),if_neg (by simp [hk6])]
      obtain ⟨F2,hc⟩:=sin_endx n F hn hr h1 hl5 Fr.zero hs hrl hq h3 k hN hd' h5 hk6
      exact ct true F2 hc
   ·rw [if_neg (by omega),if_neg (by simp;omega)]
    cases b
    ·obtain ⟨F2,hc⟩:=sin_low_f n F hn hr h1 hl5 Fr.zero hs hrl hq h3 kind k hN hd' h5 h4
     exact ct false F2 hc
    ·obtain ⟨F2,hc⟩:=sin_low_t n F hn hr h1 hl5 Fr.zero hs hrl hq h3 kind k hN hd' h5 h4
     exact ct true F2 hc
 ·rw [if_neg hd]
  cases b
  ·have hd':frL n=true:=by cases h:frL n;exact absurd h.symm hd;rfl
   rw [if_neg (by simp)]
   by_cases hk1:kind=1
   ·subst hk1
    rw [if_pos rfl]
    by_cases h5:n.run=5
    ·rw [if_pos h5]
     obtain ⟨F2,hc⟩:=sin_stuff n F hn hr h1 hl5 Fr.zero hs hrl hq h3 k hN hd' h5
     exact cf false _ F2 (fail_ksok n 5 false (by omega) (by omega)) (fail_keep n 5 false) hc
    ·rw [if_neg h5]
     obtain ⟨F2,hc⟩:=sin_lost n F hn hr h1 hl5 Fr.zero hs hrl hq h3 k hN hd' h5
     have kp:=take_keep { n with tx:=false,sends:=false } false h1
     exact take_stepW n F false h1 h2 _ F2 [3] Fr.zero (.inr (.inl ⟨3,rfl⟩)) kp.1 kp.2.1 kp.2.2.1 hc
   ·rw [if_neg hk1]
    by_cases hk6:kind=6
    ·subst hk6
     rw [if_pos rfl]
     obtain ⟨F2,hc⟩:=sin_slot n F hn hr h1 hl5 Fr.zero hs hrl hq h3 k hN hd' (fun e=>by have:=h58 e;omega)
     exact ct false F2 hc
    ·rw [if_neg hk6]
     obtain ⟨F2,hc⟩:=sin_bit0 n F hn hr h1 hl5 Fr.zero hs hrl hq h3 kind k hN hd' hk1 hk6
     exact cf false _ F2 (fail_ksok n 4 true (by omega) (by omega)) (fail_keep n 4 true) hc
  ·have hd':frL n=false:=by cases h:frL n;rfl;exact absurd h.symm hd
   rw [if_pos rfl]
   obtain ⟨F2,hc⟩:=sin_bit1 n F hn hr h1 hl5 Fr.zero hs hrl hq h3 kind k hN hd'
   exact cf true _ F2 (fail_ksok n 4 true (by omega) (by omega)) (fail_keep n 4 true) hc
theorem in_recvsW (n:Nd) (F:Fl) (hI:n.Inv) (h2:n.mode=2) (hs:n.sends=false) (b:Bool):StepsToW n F b (nxN n b) (evN n b):=by
 have hn:=hI.ok
 obtain ⟨h1,h0,hri,hl5,h58,htx,-⟩:=hI.inf h2
 have hr:=hri.ok
 have hkind:=hri.kind
 have tk:=fun b=>take_keep n b h1
 have hfr:frL n=!(decide ((nextF n.raw).1=6) && rightF n.raw):=by unfold frL;rw [if_neg (by rw [hs];simp)]
 unfold nxN evN
 rw [show stepN n b=inN n b by unfold stepN;simp only [h2]]
 generalize hN:nextF n.raw=kk at hkind h58 hfr
 obtain ⟨kind,k⟩:=kk
 simp only [] at hkind h58 hfr
 have ct:=fun (b:Bool) (F2:Fl) (hc:call E (.func (.func 125) [] []) [.ptr 0 0,.ptr (mI n) 0,.lit (.int .i64 (lv b))] (ndT n F [] Fr.zero)=some (.tup [],ndT (takeN n b).2 F2 [] Fr.zero)) =>
  take_stepW n F b h1 h2 (takeN n b).2 F2 [] Fr.zero (.inl rfl) (tk b).1 (tk b).2.1 (tk b).2.2.1 hc
 have cf:=fun (b:Bool) (x:List Nat × Nd) (F2:Fl) (hk:KsOk x.1) (hp:Keep n x.2) (hc:call E (.func (.func 125) [] []) [.ptr 0 0,.ptr (mI n) 0,.lit (.int .i64 (lv b))] (ndT n F [] Fr.zero)=some (.tup [],ndT x.2 F2 x.1 Fr.zero)) =>
  take_stepW n F b h1 h2 x.2 F2 x.1 Fr.zero hk (by rw [hp.raw];exact h1) hp.nq hp.row hc
 unfold inN
 rw [if_neg (by rw [hs];simp),hN]
 simp only []
 by_cases hd:frL n=false
 ·rw [if_pos hd]
  rw [hd] at hfr
  have hk6:kind=6:=by
   apply Classical.byContradiction
   intro q;simp [q] at hfr
  subst hk6
  cases b
  ·rw [if_neg (by simp)]
   obtain ⟨F2,hc⟩:=rin_slot_f_f n F hn hr h1 hl5 Fr.zero hs k hN hd (fun e=>by have:=h58 e;omega)
   exact ct false F2 hc
  ·rw [if_pos rfl]
   obtain ⟨F2,hc⟩:=rin_bit n F hn hr h1 hl5 Fr.zero hs k hN hd
   exact cf true _ F2 (fail_ksok n 4 true (by omega) (by omega)) (fail_keep n 4 true) hc
 ·have hd':frL n=true:=by cases h:frL n;exact absurd h hd;rfl
  rw [if_neg hd]
  by_cases h5:n.run=5
  ·rw [if_pos h5]
   have hk5:=h58 h5
   by_cases hb:b=n.lvl
   ·rw [if_pos hb]
    refine Exists.elim (?_:∃ F2,call E (.func (.func 125) [] []) [.ptr 0 0,.ptr (mI n) 0,.lit (.int .i64 (lv b))] (ndT n F [] Fr.zero)=some (.tup [],ndT (failN n 5 true).2 F2 (failN n 5 true).1 Fr.zero)) (fun F2 hc=>cf b _ F2 (fail_ksok n 5 true (by omega) (by omega)) (fail_keep n 5 true) hc)
    rcases Nat.lt_or_ge 4 kind with h4 | h4
    ·have:kind=5:=by omega
     subst this
     cases b
     ·exact rin_stuff_hi_f n F hn hr h1 hl5 Fr.zero hs k hN hd' h5 hb.symm
     ·exact rin_stuff_hi_t n F hn hr h1 hl5 Fr.zero hs k hN hd' h5 hb.symm
    ·cases b
     ·exact rin_stuff_lo_f n F hn hr h1 hl5 Fr.zero hs kind k hN hd' h5 hb.symm h4
     ·exact rin_stuff_lo_t n F hn hr h1 hl5 Fr.zero hs kind k hN hd' h5 hb.symm h4
   ·rw [if_neg hb]
    have hb':¬ n.lvl=b:=fun e=>hb e.symm
    rcases Nat.lt_or_ge 4 kind with h4 | h4
    ·have:kind=5:=by omega
     subst this
     cases b
     ·obtain ⟨F2,hc⟩:=rin_added_hi_f n F hn hr h1 hl5 Fr.zero hs k hN hd' h5 hb'
      exact ct false F2 hc
     ·obtain ⟨F2,hc⟩:=rin_added_hi_t n F hn hr h1 hl5 Fr.zero hs k hN hd' h5 hb'
      exact ct true F2 hc
    ·cases b
     ·obtain ⟨F2,hc⟩:=rin_added_lo_f n F hn hr h1 hl5 Fr.zero hs kind k hN hd' h5 hb' h4
      exact ct false F2 hc
     ·obtain ⟨F2,hc⟩:=rin_added_lo_t n F hn hr h1 hl5 Fr.zero hs kind k hN hd' h5 hb' h4
      exact ct true F2 hc
  ·rw [if_neg h5]
   rcases Nat.lt_or_ge 4 kind with h4 | h4
   ·have hcases:kind=5∨kind=6∨kind=7∨kind=8:=by omega
    rcases hcases with rfl | rfl | rfl | rfl
    ·rw [if_neg (by simp)]
     cases b
     ·rw [if_pos rfl,if_neg (by simp)]
      obtain ⟨F2,hc⟩:=rin_form5 n F hn hr h1 hl5 Fr.zero hs k hN hd' h5
      exact cf false _ F2 (fail_ksok n 7 true (by omega) (by omega)) (fail_keep n 7 true) hc
     ·rw [if_neg (by simp),if_neg (by simp),if_neg (by simp),if_neg (by simp)]
      obtain ⟨F2,hc⟩:=rin_delim n F hn hr h1 hl5 Fr.zero hs k hN hd' h5
      exact ct true F2 hc
    ·rw [if_pos (.inr rfl)]
     cases b
     ·obtain ⟨F2,hc⟩:=rin_slot_t_f n F hn hr h1 hl5 Fr.zero hs k hN hd' h5
      exact ct false F2 hc
     ·obtain ⟨F2,hc⟩:=rin_slot_t_t n F hn hr h1 hl5 Fr.zero hs k hN hd' h5
      exact ct true F2 hc
    ·rw [if_neg (by simp)]
     cases b
     ·rw [if_pos rfl,if_neg (by simp)]
      obtain ⟨F2,hc⟩:=rin_form7 n F hn hr h1 hl5 Fr.zero hs k hN hd' h5
      exact cf false _ F2 (fail_ksok n 7 true (by omega) (by omega)) (fail_keep n 7 true) hc
     ·rw [if_neg (by simp)]
      cases hri2:rightF n.raw
      ·rw [if_pos ⟨rfl,rfl⟩]
       obtain ⟨F2,hc⟩:=rin_sum n F hn hr h1 hl5 Fr.zero hs k hN hd' h5 hri2
       exact cf true _ F2 (fail_ksok n 6 true (by omega) (by omega)) (fail_keep n 6 true) hc
      ·rw [if_neg (by simp),if_neg (by simp),if_neg (by simp)]
       obtain ⟨F2,hc⟩:=rin_ack n F hn hr h1 hl5 Fr.zero hs k hN hd' h5 hri2
       exact ct true F2 hc
    ·rw [if_neg (by simp)]
     cases b
     ·rw [if_pos rfl]
      by_cases hk6:k=6
      ·subst hk6
       rw [if_pos rfl]
       obtain ⟨F2,hc⟩:=rin_over n F hn hr h1 hl5 Fr.zero hs 6 hN hd' h5 rfl
       exact cf false ([9],(overN n).2) F2 (.inr (.inl ⟨9,rfl⟩)) ⟨rfl,rfl,rfl,rfl⟩ hc
      ·rw [if_neg (by simp [hk6])]
       obtain ⟨F2,hc⟩:=rin_form8 n F hn hr h1 hl5 Fr.zero hs k hN hd' h5 hk6
       exact cf false _ F2 (fail_ksok n 7 true (by omega) (by omega)) (fail_keep n 7 true) hc
     ·rw [if_neg (by simp),if_neg (by simp)]
      by_cases hk5:k=5
      ·subst hk5
       rw [if_pos rfl]
       obtain ⟨F2,hc⟩:=rin_end5 n F hn hr h1 hl5 Fr.zero hs 5 hN hd' h5 rfl h0
       exact take_stepW n F true h1 h2 _ F2 [2] _ (.inr (.inl ⟨2,rfl⟩)) (tk true).1 (tk true).2.1 (tk true).2.2.1 hc
      ·rw [if_neg (by simp [hk5])]
       by_cases hk6:k=6
       ·subst hk6
        rw [if_pos rfl]
        obtain ⟨F2,hc⟩:=rin_end6 n F hn hr h1 hl5 Fr.zero hs 6 hN hd' h5 rfl
        exact take_stepW n F true h1 h2 _ F2 [] _ (.inl rfl) (tk true).1 (tk true).2.1 (tk true).2.2.1 hc
       ·rw [if_neg (by simp [hk6])]
        obtain ⟨F2,hc⟩:=rin_endx n F hn hr h1 hl5 Fr.zero hs k hN hd' h5 hk6 hk5
        exact ct true F2 hc
   ·rw [if_pos (.inl h4)]
    cases b
    ·obtain ⟨F2,hc⟩:=rin_low_f n F hn hr h1 hl5 Fr.zero hs kind k hN hd' h5 h4
     exact ct false F2 hc
    ·obtain ⟨F2,hc⟩:=rin_low_t n F hn hr h1 hl5 Fr.zero hs kind k hN hd' h5 h4
     exact ct true F2 hc
theorem nstep_specW (n:Nd) (F:Fl) (hI:n.Inv) (hk:n.k<=1000000000) (b:Bool):StepsToW n F b (nxN n b) (evN n b):=by
 by_cases h2:n.mode=2
 ·cases hs:n.sends
  ·exact in_recvsW n F hI h2 hs b
  ·exact in_sendsW n F hI h2 hs b
 ·exact out_stepW n F hI hk b h2
theorem NodeAtW.row {H:Heap} {a:Nat} {n:Nd} {fs:List Nat} {wx:Nat} (h:NodeAtW H a n fs wx) (h3:n.row≠[]):(∃ lw fw,H[wx]?=some (.arr true lw fw 1 (n.row.map encLv)))/\wx∈fs:=by
 obtain ⟨F,rx,qx,lx,h,rfl⟩:=h
 exact ⟨⟨_,_,h.row h3⟩,by simp [footL,h3]⟩
theorem NodeAtW.any {H:Heap} {a:Nat} {n:Nd} {fs:List Nat} {wx:Nat} (h:NodeAtW H a n fs wx) (h3:n.row=[]) (v:Nat):NodeAtW H a n fs v:=by
 obtain ⟨F,rx,qx,lx,h,rfl⟩:=h
 have hf:footL n a rx qx lx wx=footL n a rx qx lx v:=by simp [footL,h3]
 refine ⟨F,rx,qx,lx,⟨?_,h.raw,h.qu,h.q,fun q=>absurd h3 q,hf ▸ h.nd⟩,hf⟩
 have:=h.box
 rwa [show wAt n wx=wAt n v by simp [wAt,h3]] at this
def Sh (n:Nd) (w:Nat) (fs:List Nat) (m:Nd) (v:Nat) (gs:List Nat):Prop:=∀ i∈fs,i∈gs->n.row≠[]/\i=w/\m.row=n.row/\v=w
theorem Sh.symm {n m:Nd} {w v:Nat} {fs gs:List Nat} (h:Sh n w fs m v gs):Sh m v gs n w fs:=by
 intro i h1 h2
 obtain ⟨q1,q2,q3,q4⟩:=h i h2 h1
 exact ⟨q3 ▸ q1,by rw [q2,q4],q3.symm,q4.symm⟩
theorem glob_w {H:Heap} {a:Nat} {n:Nd} {fs:List Nat} {wx:Nat} (h:NodeAtW H a n fs wx) (h3:n.row≠[]) (N:Nat):toGlob fs N (wI n)=wx:=by
 obtain ⟨F,rx,qx,lx,h,rfl⟩:=h
 by_cases h1:n.raw=[]<;>by_cases h2:n.nq=true <;>
 simp [toGlob,footL,wI,qI,h1,h2,h3]
theorem at_backW {H:Heap} {a:Nat} {n:Nd} {fs:List Nat} {wx:Nat} (h:NodeAtW H a n fs wx) {Hn:Heap} (hk:fs.length<=Hn.length) {b:Nat} {m:Nd} {gs:List Nat} {w':Nat} (hm:NodeAtW Hn b m gs w'):NodeAtW (backH H fs Hn) (toGlob fs H.length b) m (gs.map (toGlob fs H.length)) (toGlob fs H.length w'):=by
 obtain ⟨F,rx,qx,lx,h0,rfl⟩:=hm
 have hm:NodeAt Hn b m (footL m b rx qx lx w'):=⟨F,rx,qx,lx,w',h0,rfl⟩
 have G:=fun {j e}=>back_get (H:=H) (Hn:=Hn) (nodeAt_nodup h.at) (nodeAt_lt h.at) hk (j:=j) (e:=e)
 have hinj:=fun {i j}=>glob_inj (H:=H) (nodeAt_nodup h.at) (nodeAt_lt h.at) (i:=i) (j:=j)
 have h:=h0
 generalize toGlob fs H.length=g at G hinj ⊢
 have e1:∀ x,renV g (rAt m x)=rAt m (g x):=fun x=>by unfold rAt;split<;>rfl
 have e2:∀ x,renV g (wAt m x)=wAt m (g x):=fun x=>by unfold wAt;split<;>rfl
 have e3:∀ x,renV g (lAt m x)=lAt m (g x):=fun x=>by unfold lAt;split<;>rfl
 have e4:(footL m b rx qx lx w').map g=footL m (g b) (g rx) (g qx) (g lx) (g w'):=by
  unfold footL
  by_cases h1:m.raw=[]<;>by_cases h2:m.nq=true<;>by_cases h3:m.row=[]<;>simp [h1,h2,h3]
 refine ⟨F,g rx,g qx,g lx,⟨?_,?_,?_,?_,?_,?_⟩,e4⟩
 ·rw [G h.box];simp [renE,Nd.cells,renL,renV,e1,e2]
 ·intro q;rw [G (h.raw q)];simp [renE]
 ·rw [G h.qu];simp [renE,renL,renV,e3]
 ·intro q;rw [G (h.q q)];simp [renE]
 ·intro q;rw [G (h.row q)];simp [renE]
 ·rw [<- e4]
  exact h.nd.map g (fun i j hij e=>hij (hinj e))
theorem kept_back {H:Heap} {a:Nat} {n:Nd} {fs:List Nat} {wx:Nat} (h:NodeAtW H a n fs wx) {Hn:Heap} (hk:fs.length<=Hn.length) {m:Nd} {gs:List Nat} {w':Nat} (kp:RowKept n (wI n) Hn m gs w'):RowKept n wx (backH H fs Hn) m (gs.map (toGlob fs H.length)) (toGlob fs H.length w'):=by
 intro h3
 obtain ⟨⟨lw,fw,h1⟩,h2⟩:=kp h3
 have hg:=glob_w h h3 H.length
 refine ⟨⟨lw,fw,?_⟩,fun hm=>?_⟩
 ·have:=back_get (H:=H) (nodeAt_nodup h.at) (nodeAt_lt h.at) hk h1
  rw [hg] at this
  rw [this];simp [renE]
 ·obtain ⟨j,hj,e⟩:=mem_map.1 hm
  rw [<- hg] at e
  have:=glob_inj (nodeAt_nodup h.at) (nodeAt_lt h.at) e
  subst this
  obtain ⟨k1,k2⟩:=h2 hj
  exact ⟨k1,by rw [k2];exact hg⟩
mutual
theorem refsV_ren (f:Nat->Nat):∀ v:AVal,refsV (renV f v)=(refsV v).map f
 | .lit _=>rfl
 | .any=>rfl
 | .ptr ..=>rfl
 | .eptr ..=>rfl
 | .own ..=>rfl
 | .asl ..=>rfl
 | .yld _=>rfl
 | .mref _=>rfl
 | .iptr fl es j k=>by
  rw [renV,refsV,refsV]
  cases fl
  ·exact refsLL_ren f es
  ·rfl
 | .imm n fu fl es=>by
  rw [renV,refsV,refsV]
  cases fl
  ·exact refsLL_ren f es
  ·rfl
 | .agg cs=>by rw [renV,refsV,refsV];exact refsL_ren f cs
 | .tup cs=>by rw [renV,refsV,refsV];exact refsL_ren f cs
 | .iface t v=>by rw [renV,refsV,refsV];exact refsV_ren f v
 | .func fn a b=>by rw [renV,refsV,refsV,refsL_ren f a,refsL_ren f b,map_append]
theorem refsL_ren (f:Nat->Nat):∀ l:List AVal,refsL (renL f l)=(refsL l).map f
 | []=>rfl
 | c::r=>by rw [renL,refsL,refsL,refsV_ren f c,refsL_ren f r,map_append]
theorem refsLL_ren (f:Nat->Nat):∀ l:List (List AVal),refsLL (renLL f l)=(refsLL l).map f
 | []=>rfl
 | c::r=>by rw [renLL,refsLL,refsLL,refsL_ren f c,refsLL_ren f r,map_append]
end
theorem refsE_ren (f:Nat->Nat) (e:Entry):refsE (renE f e)=(refsE e).map f:=by
 cases e with
 | box cs=>exact refsL_ren f cs
 | arr fl lk fu sz es =>
  cases fl
  ·exact refsLL_ren f es
  ·rfl
 | loop st p sn ps a b =>
  show refsT (renT f sn)=(refsT sn).map f
  induction sn with
  | nil=>rfl
  | cons x r ih =>
   obtain ⟨t,v⟩:=x
   rw [renT,refsT,refsT,refsV_ren f v,ih,map_append]
 | map es =>
  show refsM (renM f es)=(refsM es).map f
  induction es with
  | nil=>rfl
  | cons x r ih =>
   obtain ⟨t,v⟩:=x
   rw [renM,refsM,refsM,refsV_ren f v,ih,map_append]
 | dead=>rfl
def QuietB (H H2:Heap) (fs fs2:List Nat):Prop:=∀ i,(i∈fs∨H.length<=i)->i ∉ fs2->refsAt H2 i=[]
theorem quiet_back {H:Heap} {fs:List Nat} {Hn:Heap} (hnd:fs.Nodup) (hlt:∀ i∈fs,i<H.length) (hk:fs.length<=Hn.length) {gs:List Nat} (q:Quiet Hn gs):QuietB H (backH H fs Hn) fs (gs.map (toGlob fs H.length)):=by
 intro i hi hg
 have key:∀ j,toGlob fs H.length j=i->refsAt (backH H fs Hn) i=[]:=by
  intro j e
  have hj:j ∉ gs:=fun z=>hg (mem_map.2 ⟨j,z,e⟩)
  have hq:=q j hj
  cases h:Hn[j]? with
  | none =>
   have hjl:Hn.length<=j:=by
    rcases Nat.lt_or_ge j Hn.length with z | z
    ·rw [getElem?_eq_getElem z] at h;cases h
    ·exact z
   refine refs_out ?_
   rw [<- e,glob_new (by omega),back_len];omega
  | some x =>
   have hb:=back_get (H:=H) hnd hlt hk h
   rw [e] at hb
   unfold refsAt at hq ⊢
   rw [getD_eq_getElem?_getD,h] at hq
   rw [getD_eq_getElem?_getD,hb]
   show refsE (renE _ x)=[]
   rw [refsE_ren]
   have hq:refsE x=[]:=hq
   rw [hq];rfl
 rcases hi with hi | hi
 ·obtain ⟨j,hj,e⟩:=List.getElem_of_mem hi
  exact key j (by rw [glob_old hj];exact e)
 ·exact key (fs.length+(i - H.length)) (by rw [glob_new (by omega)];omega)
theorem step_atW {H:Heap} {a:Nat} {n:Nd} {fs:List Nat} {w:Nat} (h:NodeAtW H a n fs w) (hI:n.Inv) (hk:n.k<=1000000000) (b:Bool) :
  ∃ H2 fs2 ix w2,callK1 (call E) H (some (.func (.func 71) [] [],[])) (some ([.ptr a 0,.lit (.int .i64 (lv b))],[]))=some (.tup [evV ix (evN n b),.lit (.int .i64 0)],H2)/\NodeAtW H2 a (nxN n b) fs2 w2/\Around H H2 fs fs2 /\
   (evN n b≠[]->H2[ix]?=some (.arr true false false 15 ((evN n b).map encEv))/\H.length<=ix/\ix ∉ fs2)/\RowKept n w H2 (nxN n b) fs2 w2/\QuietB H H2 fs fs2:=by
 obtain ⟨v,Hn,h1,v0,rfl,gs,ix,wx,h2,h3,rfl,h4,h5,h6⟩:=call_back (c:=call E) h.at (.func (.func 71) [] []) [.lit (.int .i64 (lv b))] rfl rfl (P:=fun v Hn=>∃ v0,v=.tup [v0,.lit (.int .i64 0)]/\LiesW Hn n (nxN n b) (mI n) (evN n b) v0) (fun F=>by
  obtain ⟨Hn,v,e,q⟩:=nstep_specW n F hI hk b
  exact ⟨_,_,e,v,rfl,q⟩)
 have hl:=nodeAt_fl h.at
 have hkk:fs.length<=Hn.length:=by rw [hl];exact h3
 have hn2:=at_backW h hkk h2
 rw [glob_zero h.at] at hn2
 refine ⟨_,_,toGlob fs H.length ix,_,?_,hn2,around_back h.at hkk gs,fun he=>?_,kept_back h hkk h5,quiet_back (nodeAt_nodup h.at) (nodeAt_lt h.at) hkk h6⟩
 ·rw [h1]
  simp only [renV,renL]
  congr 4
  unfold evV
  split<;>rfl
 ·obtain ⟨q1,q2,q3⟩:=h4 he
  refine ⟨?_,by rw [glob_new (by omega)];omega,fun hm=>?_⟩
  ·rw [back_get (nodeAt_nodup h.at) (nodeAt_lt h.at) hkk q1];simp [renE]
  ·obtain ⟨j,hj,e⟩:=mem_map.1 hm
   have:=glob_inj (nodeAt_nodup h.at) (nodeAt_lt h.at) e
   exact q3 (this ▸ hj)
theorem same_back {H:Heap} {a:Nat} {n:Nd} {fs:List Nat} {w:Nat} (h:NodeAtW H a n fs w) {F:Fl} {X:Heap} (hX:∀ e∈X,refsE e=[]):NodeAtW (backH H fs (ndH n F++X)) a n fs w/\Around H (backH H fs (ndH n F++X)) fs fs/\RowKept n w (backH H fs (ndH n F++X)) n fs w/\QuietB H (backH H fs (ndH n F++X)) fs fs:=by
 have hl:=nodeAt_fl h.at
 have hk:fs.length<=(ndH n F++X).length:=by rw [length_append,ndH_len];omega
 have h1:=at_backW h hk (nodeAt_canW n F X)
 have h2:=around_back h.at hk (List.range (mI n))
 have h3:=kept_back h hk (kept_can (n:=n) (n':=n) (F:=F) (X:=X) (gs:=List.range (mI n)) Iff.rfl rfl rfl)
 have h4:=quiet_back (H:=H) (nodeAt_nodup h.at) (nodeAt_lt h.at) hk (quiet_can n F hX)
 rw [glob_zero h.at] at h1
 rw [<- hl,map_glob] at h1 h2 h3 h4
 by_cases hrow:n.row=[]
 ·exact ⟨h1.any hrow w,h2,fun q=>absurd hrow q,h4⟩
 ·rw [glob_w h hrow] at h1 h3
  exact ⟨h1,h2,h3,h4⟩
theorem drive_atW {H:Heap} {a:Nat} {n:Nd} {fs:List Nat} {w:Nat} (h:NodeAtW H a n fs w) (hI:n.Inv) :
  ∃ H2,callK1 (call E) H (some (.func (.func 69) [] [],[])) (some ([.ptr a 0],[]))=some (.lit (.int .i64 (lv (drN n))),H2)/\NodeAtW H2 a n fs w/\Around H H2 fs fs/\RowKept n w H2 n fs w/\QuietB H H2 fs fs:=by
 obtain ⟨v,Hn,h1,F2,rfl,rfl⟩:=call_back (c:=call E) h.at (.func (.func 69) [] []) [] rfl rfl (P:=fun v Hn=>∃ F2,v=.lit (.int .i64 (lv (drN n)))/\Hn=ndH n F2++[]) (fun F=>by
  obtain ⟨F2,e⟩:=ndrive_spec n F hI
  exact ⟨_,_,e,F2,rfl,by rw [List.append_nil]⟩)
 exact ⟨_,h1,same_back h (by simp)⟩
theorem nput_specW (n:Nd) (F:Fl) (hn:n.Ok) (f:Fr):∃ Hn gs wx,call E (.func (.func 45) [] []) [.ptr 0 0,.agg (encFr f)] (ndH n F)=some (.lit (.int .i64 (nputN n f).1),Hn)/\NodeAtW Hn 0 (nputN n f).2 gs wx/\mI n<=Hn.length/\RowKept n (wI n) Hn (nputN n f).2 gs wx/\Quiet Hn gs:=by
 have hl:n.q.length<=1000:=by have:=hn.ql;omega
 have hp:=quPut_spec n.nq F.fq f n.q hn.nq hl
 unfold nputN
 by_cases hc:checkP f≠0
 ·rw [if_pos hc] at hp ⊢
  refine ⟨ndH n F++[],_,_,?_,nodeAt_canW n F [],by rw [List.append_nil,ndH_len];omega,kept_can Iff.rfl rfl rfl,quiet_can n F (by simp)⟩
  rw [List.append_nil]
  rw [c9f E E45]
  by_cases h1:n.raw=[]<;>by_cases hq:n.nq=true<;>by_cases h3:n.row=[] <;>
  simp [ndH,rV,qI,qV,wI,wV,rE,qE,wE,Nd.cells,nilS,quH,encFr,u8v,h1,hq,h3] at hp <;>
  simp [go_sem,ir45,ndH,rV,qI,qV,wI,wV,rE,qE,wE,Nd.cells,nilS,encFr,u8v,h1,hq,h3,hp,p9q,range_succ]
 ·rw [if_neg hc] at hp ⊢
  by_cases h16:16<=n.q.length
  ·rw [if_pos h16] at hp ⊢
   refine ⟨ndH n F++[],_,_,?_,nodeAt_canW n F [],by rw [List.append_nil,ndH_len];omega,kept_can Iff.rfl rfl rfl,quiet_can n F (by simp)⟩
   rw [List.append_nil]
   rw [c9f E E45]
   by_cases h1:n.raw=[]<;>by_cases hq:n.nq=true<;>by_cases h3:n.row=[] <;>
   simp [ndH,rV,qI,qV,wI,wV,rE,qE,wE,Nd.cells,nilS,quH,encFr,u8v,h1,hq,h3] at hp <;>
   simp [go_sem,ir45,ndH,rV,qI,qV,wI,wV,rE,qE,wE,Nd.cells,nilS,encFr,u8v,h1,hq,h3,hp,p9q,range_succ]
  ·rw [if_neg h16] at hp ⊢
   have hil:=insP_len f n.q
   by_cases hq:n.nq=true
   ·have hq0:=hn.nq hq
    have hi1:insP f []=[f]:=rfl
    refine ⟨.box (n.cells (rV n) (.ptr (qI n) 0) (wV n))::(rE n F++.box [.own (mI n) 1 12 0 1,.lit (.int .i64 16)]::(qE n F++wE n F))++[.arr true false false 12 [encFr f]],footL { n with q:=insP f n.q,nq:=false } 0 1 (qI n) (mI n) (wI n),wI n,?_,⟨{ F with fq:=false },1,qI n,mI n,⟨?_,?_,?_,?_,?_,?_⟩,rfl⟩,?_,fun h3=>⟨⟨F.lw,F.fw,?_⟩,fun _=>⟨rfl,rfl⟩⟩,?_⟩
    ·rw [c9f E E45]
     by_cases h1:n.raw=[]<;>by_cases h3:n.row=[] <;>
     simp [ndH,rV,qI,qV,wI,wV,rE,qE,wE,Nd.cells,nilS,quH,putH,encFr,u8v,h1,hq,h3,hq0] at hp <;>
     simp [go_sem,ir45,ndH,rV,qI,qV,wI,wV,rE,qE,wE,Nd.cells,nilS,mI,encFr,u8v,h1,hq,h3,hq0,hp,p9q,range_succ]
    case refine_9=>by_cases h1:n.raw=[]<;>simp [ndH,rV,qI,qV,wI,wV,rE,qE,wE,Nd.cells,nilS,mI,footL,rAt,lAt,wAt,h1,hq,h3,hq0,hi1]
    case refine_10 =>
     intro i hi
     rcases (by omega:i=0∨i=1∨i=2∨i=3∨i=4∨i=5∨i=6∨7<=i) with q | q | q | q | q | q | q | q
     case inr.inr.inr.inr.inr.inr.inr=>exact refs_out (by by_cases h1:n.raw=[]<;>by_cases h3:n.row=[]<;>simp [rE,qE,wE,h1,hq,h3]<;>omega)
     all_goals (subst q;revert hi;by_cases h1:n.raw=[]<;>by_cases h3:n.row=[]<;>simp [refsAt,refsE,ndH,rV,qI,qV,wI,wV,rE,qE,wE,Nd.cells,nilS,mI,footL,h1,hq,h3,hq0])
    all_goals (by_cases h1:n.raw=[]<;>by_cases h3:n.row=[]<;>simp [ndH,rV,qI,qV,wI,wV,rE,qE,wE,Nd.cells,nilS,mI,footL,rAt,lAt,wAt,h1,hq,h3,hq0,hi1])
   ·have hq:n.nq=false:=by simpa using hq
    refine ⟨.box (n.cells (rV n) (.ptr (qI n) 0) (wV n))::(rE n F++.box [.own (mI n) (n.q.length+1) 12 0 (n.q.length+1),.lit (.int .i64 16)]::(.dead::wE n F))++[.arr true false false 12 ((insP f n.q).map encFr)],footL { n with q:=insP f n.q,nq:=false } 0 1 (qI n) (mI n) (wI n),wI n,?_,⟨{ F with fq:=false },1,qI n,mI n,⟨?_,?_,?_,?_,?_,?_⟩,rfl⟩,?_,fun h3=>⟨⟨F.lw,F.fw,?_⟩,fun _=>⟨rfl,rfl⟩⟩,?_⟩
    ·have hrows:=frRows (insP f n.q)
     unfold putH at hp
     generalize (insP f n.q).map encFr=rows at hp ⊢
     rw [c9f E E45]
     by_cases h1:n.raw=[]<;>by_cases h3:n.row=[] <;>
     simp [ndH,rV,qI,qV,wI,wV,rE,qE,wE,Nd.cells,nilS,quH,encFr,u8v,h1,hq,h3] at hp <;>
     simp [go_sem,ir45,ndH,rV,qI,qV,wI,wV,rE,qE,wE,Nd.cells,nilS,mI,encFr,u8v,h1,hq,h3,hp,p9q,range_succ]
    case refine_9=>by_cases h1:n.raw=[]<;>simp [ndH,rV,qI,qV,wI,wV,rE,qE,wE,Nd.cells,nilS,mI,footL,rAt,lAt,wAt,h1,hq,h3,hil]
    case refine_10 =>
     intro i hi
     rcases (by omega:i=0∨i=1∨i=2∨i=3∨i=4∨i=5∨i=6∨7<=i) with q | q | q | q | q | q | q | q
     case inr.inr.inr.inr.inr.inr.inr=>exact refs_out (by by_cases h1:n.raw=[]<;>by_cases h3:n.row=[]<;>simp [rE,qE,wE,h1,hq,h3]<;>omega)
     all_goals (subst q;revert hi;by_cases h1:n.raw=[]<;>by_cases h3:n.row=[]<;>simp [refsAt,refsE,ndH,rV,qI,qV,wI,wV,rE,qE,wE,Nd.cells,nilS,mI,footL,h1,hq,h3,hil])
    all_goals (by_cases h1:n.raw=[]<;>by_cases h3:n.row=[]<;>simp [ndH,rV,qI,qV,wI,wV,rE,qE,wE,Nd.cells,nilS,mI,footL,rAt,lAt,wAt,h1,hq,h3,hil])
theorem put_atW {H:Heap} {a:Nat} {n:Nd} {fs:List Nat} {w:Nat} (h:NodeAtW H a n fs w) (hn:n.Ok) (f:Fr) :
  ∃ H2 fs2 w2,callK1 (call E) H (some (.func (.func 45) [] [],[])) (some ([.ptr a 0,.agg (encFr f)],[]))=some (.lit (.int .i64 (nputN n f).1),H2)/\NodeAtW H2 a (nputN n f).2 fs2 w2/\Around H H2 fs fs2/\RowKept n w H2 (nputN n f).2 fs2 w2/\QuietB H H2 fs fs2:=by
 obtain ⟨v,Hn,h1,gs,wx,rfl,h2,h3,h4,h5⟩:=call_back (c:=call E) h.at (.func (.func 45) [] []) [.agg (encFr f)] rfl (by simp [flatL,flatV,encFr,u8v]) (P:=fun v Hn=>∃ gs wx,v=.lit (.int .i64 (nputN n f).1)/\NodeAtW Hn 0 (nputN n f).2 gs wx/\mI n<=Hn.length/\RowKept n (wI n) Hn (nputN n f).2 gs wx/\Quiet Hn gs) (fun F=>by
  obtain ⟨Hn,gs,wx,e,q1,q2,q3,q4⟩:=nput_specW n F hn f
  exact ⟨_,_,e,gs,wx,rfl,q1,q2,q3,q4⟩)
 have hk:fs.length<=Hn.length:=by rw [nodeAt_fl h.at];exact h3
 have hn2:=at_backW h hk h2
 rw [glob_zero h.at] at hn2
 exact ⟨_,_,_,h1,hn2,around_back h.at hk gs,kept_back h hk h4,quiet_back (nodeAt_nodup h.at) (nodeAt_lt h.at) hk h5⟩
def costL (H:Heap) (acc:List Nat):List Nat->Nat
 | []=>0
 | i::S=>(if i∈acc then 0 else (refsAt H i).length)+costL H acc S
theorem cost_out {H:Heap} {i:Nat}:∀ {S acc:List Nat},i ∉ S->costL H (acc++[i]) S=costL H acc S
 | [],_,_=>rfl
 | j::S,acc,h=>by
  have hj:¬ j=i:=fun e=>h (by simp [e])
  have ih:=cost_out (H:=H) (S:=S) (acc:=acc) (i:=i) (fun q=>h (by simp [q]))
  unfold costL
  rw [ih]
  simp [hj]
theorem cost_in {H:Heap} {i:Nat}:∀ {S acc:List Nat},S.Nodup->i∈S->i ∉ acc->costL H (acc++[i]) S+(refsAt H i).length=costL H acc S
 | j :: S,acc,hn,hi,ha=>by
  rw [nodup_cons] at hn
  unfold costL
  by_cases e:j=i
  ·subst e
   rw [cost_out hn.1,if_pos (by simp),if_neg ha];omega
  ·have hi:i∈S:=by
    rcases mem_cons.1 hi with q | q
    ·exact absurd q.symm e
    ·exact q
   have ih:=cost_in (H:=H) hn.2 hi ha
   have:(j∈acc++[i])=(j∈acc):=by simp [e]
   simp only [this]
   omega
theorem reach_total {H:Heap} {S:List Nat} (hn:S.Nodup) (hc:∀ i∈S,i<H.length/\∀ j∈refsAt H i,j∈S):∀ (k:Nat) (w acc:List Nat),(∀ i∈w,i∈S)->acc.Nodup->w.length+costL H acc S<=k ->
  ∃ T,reach H k w acc=some (acc++T)/\(acc++T).Nodup/\(∀ i∈T,i∈S)/\(∀ i∈w,i∈acc++T)/\∀ i∈T,∀ j∈refsAt H i,j∈acc++T
 | k,[],acc,_,hnd,_=>⟨[],by rw [reach_nil,List.append_nil],by rwa [List.append_nil],by simp,by simp,by simp⟩
 | 0,i::w,acc,_,_,hk=>by simp at hk
 | k + 1,i::w,acc,hw,hnd,hk=>by
  by_cases hi:i∈acc
  ·obtain ⟨T,h1,h2,h3,h4,h5⟩:=reach_total hn hc k w acc (fun j hj=>hw j (by simp [hj])) hnd (by simp at hk;omega)
   refine ⟨T,by rw [reach_cons,if_pos hi];exact h1,h2,h3,fun j hj=>?_,h5⟩
   rcases mem_cons.1 hj with e | e
   ·rw [e];simp [hi]
   ·exact h4 j e
  ·have hiS:=hw i (by simp)
   obtain ⟨hlt,hcl⟩:=hc i hiS
   have hget:H[i]?=some (H.getD i .dead):=by
    rw [getD_eq_getElem?_getD,getElem?_eq_getElem hlt];rfl
   have hcost:=cost_in (H:=H) hn hiS hi
   obtain ⟨T,h1,h2,h3,h4,h5⟩:=reach_total hn hc k (refsAt H i++w) (acc++[i]) (fun j hj=>by
    rcases mem_append.1 hj with q | q
    ·exact hcl j q
    ·exact hw j (by simp [q])) (by
    rw [List.nodup_append]
    refine ⟨hnd,by simp,?_⟩
    intro x hx y hy e
    simp at hy
    subst hy;subst e;exact hi hx) (by
    rw [List.length_cons] at hk
    rw [length_append];omega)
   refine ⟨i::T,?_,?_,?_,?_,?_⟩
   ·rw [reach_step hi hget]
    show reach H k (refsAt H i++w) (acc++[i])=_
    rw [h1];simp
   ·simpa using h2
   ·intro j hj
    rcases mem_cons.1 hj with e | e
    ·rw [e];exact hiS
    ·exact h3 j e
   ·intro j hj
    rcases mem_cons.1 hj with e | e
    ·rw [e];simp
    ·have:=h4 j (List.mem_append_right _ e)
     simpa using this
   ·intro j hj x hx
    rcases mem_cons.1 hj with e | e
    ·rw [e] at hx
     have:=h4 x (mem_append_left _ hx)
     simpa using this
    ·have:=h5 j e x hx
     simpa using this
def sumR (H:Heap):List Nat->Nat
 | []=>0
 | i::S=>(refsAt H i).length+sumR H S
theorem cost_le (H:Heap) (acc:List Nat):∀ S,costL H acc S<=sumR H S
 | []=>Nat.le_refl _
 | i::S=>by
  have:=cost_le H acc S
  unfold costL sumR
  split<;>omega
theorem sumR_append (H:Heap):∀ a b:List Nat,sumR H (a++b)=sumR H a+sumR H b
 | [],b=>by simp [sumR]
 | i::a,b=>by rw [List.cons_append,sumR,sumR,sumR_append H a b];omega
theorem sumR_zero {H:Heap}:∀ {S:List Nat},(∀ i∈S,refsAt H i=[])->sumR H S=0
 | [],_=>rfl
 | i::S,h=>by rw [sumR,h i (by simp),sumR_zero (fun j hj=>h j (by simp [hj]))];rfl
theorem sumR_erase {H:Heap} {i:Nat}:∀ {F:List Nat},i∈F->sumR H F=(refsAt H i).length+sumR H (F.erase i)
 | j :: F,h=>by
  by_cases e:j=i
  ·subst e;rw [List.erase_cons_head];rfl
  ·have hi:i∈F:=by
    rcases mem_cons.1 h with q | q
    ·exact absurd q.symm e
    ·exact q
   rw [List.erase_cons_tail (by simpa using e),sumR,sumR,sumR_erase hi];omega
theorem sumR_le {H:Heap}:∀ {S F:List Nat},S.Nodup->(∀ i∈S,i ∉ F->refsAt H i=[])->sumR H S<=sumR H F
 | [],_,_,_=>Nat.zero_le _
 | i :: S,F,hn,hz=>by
  rw [nodup_cons] at hn
  by_cases hi:i∈F
  ·rw [sumR,sumR_erase hi]
   have:=sumR_le (H:=H) (S:=S) (F:=F.erase i) hn.2 (fun j hj hjF=>by
    refine hz j (by simp [hj]) (fun q=>hjF ?_)
    exact (List.mem_erase_of_ne (fun e:j=i=>hn.1 (by rw [<- e];exact hj))).2 q)
   omega
  ·rw [sumR,hz i (by simp) hi]
   have:=sumR_le (H:=H) (S:=S) (F:=F) hn.2 (fun j hj=>hz j (by simp [hj]))
   simpa using this
theorem rootsOf_len (H:Heap):∀ m,(rootsOf H m).length=sumR H (List.range m)
 | 0=>rfl
 | m+1=>by
  rw [rootsOf,length_append,rootsOf_len H m,range_succ,sumR_append];simp [sumR,refsAt]
theorem mem_rootsOf {H:Heap} {x:Nat}:∀ {m:Nat},x∈rootsOf H m↔∃ i,i<m/\x∈refsAt H i
 | 0=>by simp [rootsOf]
 | m + 1=>by
  rw [rootsOf,mem_append,mem_rootsOf]
  constructor
  ·rintro (⟨i,hi,h⟩ | h)
   ·exact ⟨i,by omega,h⟩
   ·exact ⟨m,by omega,h⟩
  ·rintro ⟨i,hi,h⟩
   by_cases e:i=m
   ·subst e;exact .inr h
   ·exact .inl ⟨i,by omega,h⟩
theorem node_sum {H:Heap} {a:Nat} {n:Nd} {fs:List Nat} (h:NodeAt H a n fs):sumR H fs<=4/\∀ i∈fs,∀ j∈refsAt H i,j∈fs:=by
 obtain ⟨F,rx,qx,lx,wx,h,rfl⟩:=h
 have ga:refsAt H a=(if n.raw=[] then [] else [rx])++[qx]++(if n.row=[] then [] else [wx]):=by
  unfold refsAt
  rw [getD_eq_getElem?_getD,h.box]
  simp [refsE,Nd.cells,refsL,refsV,refs_rAt,refs_wAt]
 have gq:refsAt H qx=if n.nq=true then [] else [lx]:=by
  unfold refsAt
  rw [getD_eq_getElem?_getD,h.qu]
  simp [refsE,refsL,refsV,refs_lAt]
 have gr:¬ n.raw=[]->refsAt H rx=[]:=fun q=>by
  unfold refsAt;rw [getD_eq_getElem?_getD,h.raw q];rfl
 have gl:¬ n.nq=true->refsAt H lx=[]:=fun q=>by
  unfold refsAt;rw [getD_eq_getElem?_getD,h.q (by simpa using q)];rfl
 have gw:¬ n.row=[]->refsAt H wx=[]:=fun q=>by
  unfold refsAt;rw [getD_eq_getElem?_getD,h.row q];rfl
 unfold footL
 by_cases h1:n.raw=[]<;>by_cases h2:n.nq=true<;>by_cases h3:n.row=[] <;>
 simp [sumR,ga,gq,h1,h2,h3,gr,gl,gw]<;>(try (simp_all))
theorem nodeAt_ren {H H2:Heap} {a:Nat} {n:Nd} {fs:List Nat} (g:Nat->Nat) (h:NodeAt H a n fs) (G:∀ i∈fs,∀ e,H[i]?=some e->H2[g i]?=some (renE g e)) (inj:∀ i∈fs,∀ j∈fs,g i=g j->i=j):NodeAt H2 (g a) n (fs.map g):=by
 obtain ⟨F,rx,qx,lx,wx,h,rfl⟩:=h
 have e1:∀ x,renV g (rAt n x)=rAt n (g x):=fun x=>by unfold rAt;split<;>rfl
 have e2:∀ x,renV g (wAt n x)=wAt n (g x):=fun x=>by unfold wAt;split<;>rfl
 have e3:∀ x,renV g (lAt n x)=lAt n (g x):=fun x=>by unfold lAt;split<;>rfl
 have e4:(footL n a rx qx lx wx).map g=footL n (g a) (g rx) (g qx) (g lx) (g wx):=by
  unfold footL
  by_cases h1:n.raw=[]<;>by_cases h2:n.nq=true<;>by_cases h3:n.row=[]<;>simp [h1,h2,h3]
 refine ⟨F,g rx,g qx,g lx,g wx,⟨?_,?_,?_,?_,?_,?_⟩,e4⟩
 ·rw [G a (by simp [footL]) _ h.box];simp [renE,Nd.cells,renL,renV,e1,e2]
 ·intro q;rw [G rx (by simp [footL,q]) _ (h.raw q)];simp [renE]
 ·rw [G qx (by simp [footL]) _ h.qu];simp [renE,renL,renV,e3]
 ·intro q;rw [G lx (by simp [footL,q]) _ (h.q q)];simp [renE]
 ·intro q;rw [G wx (by simp [footL,q]) _ (h.row q)];simp [renE]
 ·rw [<- e4]
  have hnd:=h.nd
  generalize footL n a rx qx lx wx=fs at hnd inj
  clear G h e1 e2 e3 e4
  induction fs with
  | nil=>exact List.nodup_nil
  | cons x fs ih =>
   rw [nodup_cons] at hnd
   rw [map_cons,nodup_cons]
   refine ⟨fun q=>?_,ih hnd.2 (fun i hi j hj=>inj i (by simp [hi]) j (by simp [hj]))⟩
   obtain ⟨y,hy,e⟩:=mem_map.1 q
   have:=inj y (by simp [hy]) x (by simp) e
   exact hnd.1 (this ▸ hy)
def NdL.ren (g:Nat->Nat) (p:NdL):NdL:=⟨g p.a,p.n,p.fs.map g⟩
theorem ren_ptrs (g:Nat->Nat) (L:List NdL):renLL g (ptrsL L)=ptrsL (L.map (NdL.ren g)):=by
 induction L with
 | nil=>rfl
 | cons p L ih =>
  show renL g [AVal.ptr p.a 0]::renLL g (ptrsL L)=_
  rw [ih];rfl
theorem flats_ren (g:Nat->Nat) (L:List NdL):flats (L.map (NdL.ren g))=(flats L).map g:=by
 induction L with
 | nil=>rfl
 | cons p L ih =>
  rw [map_cons,flats_cons,ih,flats_cons,map_append];rfl
theorem BusAt.ren {H H2:Heap} {a na:Nat} {L:List NdL} {tk:Nat} {l f:Bool} (g:Nat->Nat) (h:BusAt H a na L tk l f) (G:∀ i∈a::na::flats L,∀ e,H[i]?=some e->H2[g i]?=some (renE g e)) (inj:∀ i∈a::na::flats L,∀ j∈a::na::flats L,g i=g j->i=j):BusAt H2 (g a) (g na) (L.map (NdL.ren g)) tk l f:=by
 have mf:∀ p∈L,∀ x∈p.fs,x∈a::na::flats L:=fun p hp x hx=>by simp [mem_flats.2 ⟨p,hp,hx⟩]
 refine ⟨?_,?_,?_,?_,?_,?_⟩
 ·rw [G a (by simp) _ h.box];simp [renE,renL,renV]
 ·rw [G na (by simp) _ h.arr];simp [renE,ren_ptrs]
 ·intro q hq
  obtain ⟨p,hp,rfl⟩:=mem_map.1 hq
  exact nodeAt_ren g (h.nds p hp) (fun i hi=>G i (mf p hp i hi)) (fun i hi j hj=>inj i (mf p hp i hi) j (mf p hp j hj))
 ·intro e
  exact h.ne (inj a (by simp) na (by simp) e)
 ·intro q hq
  obtain ⟨p,hp,rfl⟩:=mem_map.1 hq
  refine ⟨fun z=>?_,fun z=>?_⟩
  ·obtain ⟨x,hx,e⟩:=mem_map.1 z
   have:=inj x (mf p hp x hx) a (by simp) e
   exact (h.out p hp).1 (this ▸ hx)
  ·obtain ⟨x,hx,e⟩:=mem_map.1 z
   have:=inj x (mf p hp x hx) na (by simp) e
   exact (h.out p hp).2 (this ▸ hx)
 ·intro i j q r hi hj hne x hx hxr
  rw [List.getElem?_map,map_eq_some_iff] at hi hj
  obtain ⟨p,hi,rfl⟩:=hi
  obtain ⟨p',hj,rfl⟩:=hj
  obtain ⟨y,hy,rfl⟩:=mem_map.1 hx
  obtain ⟨y',hy',e⟩:=mem_map.1 hxr
  have:=inj y' (mf p' (mem_of_getElem? hj) y' hy') y (mf p (mem_of_getElem? hi) y hy) e
  subst this
  exact h.dj i j p p' hi hj hne y' hy hy'
theorem idx_get {R:List Nat} {H:Heap} {g:Nat->Nat} (hg:g=fun i=>R.idxOf i) {i:Nat} (hi:i∈R) {e:Entry} (he:H[i]?=some e):(R.map fun i=>renE g (H.getD i .dead))[g i]?=some (renE g e):=by
 subst hg
 have hlt:=List.idxOf_lt_length_of_mem hi
 rw [List.getElem?_map,getElem?_eq_getElem hlt,List.getElem_idxOf hlt,Option.map_some,getD_eq_getElem?_getD,he];rfl
theorem idx_inj {R:List Nat} {i j:Nat} (hi:i∈R) (hj:j∈R) (e:R.idxOf i=R.idxOf j):i=j:=by
 have h1:=List.getElem_idxOf (List.idxOf_lt_length_of_mem hi)
 have h2:=List.getElem_idxOf (List.idxOf_lt_length_of_mem hj)
 simp only [e] at h1
 exact h1.symm.trans h2
theorem BusAt.canon {H:Heap} {a na:Nat} {L:List NdL} {tk:Nat} {l f:Bool} (h:BusAt H a na L tk l f) {R:List Nat} (hR:∀ i∈a::na::flats L,i∈R):BusAt (R.map fun i=>renE (fun i=>R.idxOf i) (H.getD i .dead)) (R.idxOf a) (R.idxOf na) (L.map (NdL.ren fun i=>R.idxOf i)) tk l f :=
 h.ren (fun i=>R.idxOf i) (fun i hi e he=>idx_get rfl (hR i hi) he) (fun i hi j hj e=>idx_inj (hR i hi) (hR j hj) e)
theorem BusAt.back {H Hn:Heap} {R:List Nat} (hnd:R.Nodup) (hlt:∀ i∈R,i<H.length) (hk:R.length<=Hn.length) {a na:Nat} {L:List NdL} {tk:Nat} {l f:Bool} (h:BusAt Hn a na L tk l f):BusAt (backH H R Hn) (toGlob R H.length a) (toGlob R H.length na) (L.map (NdL.ren (toGlob R H.length))) tk l f :=
 h.ren (toGlob R H.length) (fun i _ e he=>back_get hnd hlt hk he) (fun i _ j _ e=>glob_inj hnd hlt e)
theorem node_led {H:Heap} {a:Nat} {n:Nd} {fs:List Nat} (h:NodeAt H a n fs) {R:List Nat} (hin:∀ i∈R,∀ j∈refsAt H i,j∈R) (ha:a∈R):∀ i∈fs,i∈R:=by
 obtain ⟨F,rx,qx,lx,wx,h,rfl⟩:=h
 have ga:refsAt H a=(if n.raw=[] then [] else [rx])++[qx]++(if n.row=[] then [] else [wx]):=by
  unfold refsAt
  rw [getD_eq_getElem?_getD,h.box]
  simp [refsE,Nd.cells,refsL,refsV,refs_rAt,refs_wAt]
 have gq:refsAt H qx=if n.nq=true then [] else [lx]:=by
  unfold refsAt
  rw [getD_eq_getElem?_getD,h.qu]
  simp [refsE,refsL,refsV,refs_lAt]
 have hq:qx∈R:=hin a ha qx (by rw [ga];simp)
 intro i hi
 unfold footL at hi
 rcases mem_cons.1 hi with e | hi
 ·rw [e];exact ha
 ·rcases mem_append.1 hi with hi | hi
  ·exact hin a ha i (by rw [ga];simp [hi])
  ·rcases mem_cons.1 hi with e | hi
   ·rw [e];exact hq
   ·rcases mem_append.1 hi with hi | hi
    ·exact hin qx hq i (by rw [gq];exact hi)
    ·exact hin a ha i (by rw [ga];simp [hi])
theorem nodes_sum {H:Heap}:∀ {L:List NdL},(∀ p∈L,NodeAt H p.a p.n p.fs)->sumR H (flats L)<=4 * L.length
 | [],_=>by simp [flats,sumR]
 | p::L,h=>by
  have h1:=(node_sum (h p (by simp))).1
  have h2:=nodes_sum (fun q hq=>h q (mem_cons_of_mem _ hq))
  rw [flats_cons,sumR_append,List.length_cons];omega
theorem BusAt.sum {H:Heap} {a na:Nat} {L:List NdL} {tk:Nat} {l f:Bool} (h:BusAt H a na L tk l f):sumR H (a::na::flats L)<=1+5 * L.length:=by
 have r1:refsAt H a=[na]:=by unfold refsAt;rw [getD_eq_getElem?_getD,h.box];rfl
 have r2:refsAt H na=L.map NdL.a:=by
  unfold refsAt;rw [getD_eq_getElem?_getD,h.arr]
  show (if false=true then [] else refsLL (ptrsL L))=_
  rw [if_neg (by simp),refs_ptrs]
 have:=nodes_sum h.nds
 rw [sumR,sumR,r1,r2,length_map]
 simp;omega
theorem BusAt.closed {H:Heap} {a na:Nat} {L:List NdL} {tk:Nat} {l f:Bool} (h:BusAt H a na L tk l f):∀ i∈a::na::flats L,∀ j∈refsAt H i,j∈a::na::flats L:=by
 have r1:refsAt H a=[na]:=by unfold refsAt;rw [getD_eq_getElem?_getD,h.box];rfl
 have r2:refsAt H na=L.map NdL.a:=by
  unfold refsAt;rw [getD_eq_getElem?_getD,h.arr]
  show (if false=true then [] else refsLL (ptrsL L))=_
  rw [if_neg (by simp),refs_ptrs]
 intro i hi j hj
 rcases mem_cons.1 hi with e | hi
 ·rw [e,r1] at hj;simp at hj;rw [hj];simp
 ·rcases mem_cons.1 hi with e | hi
  ·rw [e,r2] at hj
   obtain ⟨p,hp,rfl⟩:=mem_map.1 hj
   have:=nodeAt_head (h.nds p hp)
   simp [mem_flats.2 ⟨p,hp,this⟩]
  ·obtain ⟨p,hp,hx⟩:=mem_flats.1 hi
   have:=(node_sum (h.nds p hp)).2 i hx j hj
   simp [mem_flats.2 ⟨p,hp,this⟩]
theorem once:∀ l:List Nat,∃S:List Nat,S.Nodup/\∀ i,i∈S↔i∈l
 | []=>⟨[],List.nodup_nil,fun _=>Iff.rfl⟩
 | x :: l=>by
  obtain ⟨S,h1,h2⟩:=once l
  by_cases h:x∈S
  ·refine ⟨S,h1,fun i=>?_⟩
   rw [h2,mem_cons]
   exact ⟨.inr,fun q=>q.elim (fun e=>by rw [e];exact (h2 x).1 h) id⟩
  ·exact ⟨x::S,nodup_cons.2 ⟨h,h1⟩,fun i=>by rw [mem_cons,mem_cons,h2]⟩
theorem gc_bus {H:Heap} {a na:Nat} {L:List NdL} {tk:Nat} {l f:Bool} (h:BusAt H a na L tk l f) (hk:L.length<=32) (hq:Quiet H (a::na::flats L)) {m:Nat} (ha:a<m) (hm:m<=H.length) {v:AVal} (hv:(refsV v).length<=30) (hw:∀ i∈refsV v,i<H.length/\i ∉ a::na::flats L) :
  ∃ T,gcRet m v H=some (renV (fun i=>(List.range m++T).idxOf i) v,(List.range m++T).map fun i=>renE (fun i=>(List.range m++T).idxOf i) (H.getD i .dead))/\(List.range m++T).Nodup/\(∀ i∈a::na::flats L,i∈List.range m++T)/\(∀ i∈refsV v,i∈List.range m++T)/\∀ i∈T,i<H.length:=by
 obtain ⟨S0,hS0n,hS0⟩:∃ S0:List Nat,S0.Nodup/\∀ i,i∈S0↔i∈refsV v:=once _
 have hnd:=h.nodup
 have hSn:((a::na::flats L)++S0).Nodup:=by
  rw [List.nodup_append]
  refine ⟨hnd,hS0n,?_⟩
  intro x hx y hy e
  subst e
  exact (hw x ((hS0 x).1 hy)).2 hx
 have hcl:∀ i∈(a::na::flats L)++S0,i<H.length/\∀ j∈refsAt H i,j∈(a::na::flats L)++S0:=by
  intro i hi
  rcases mem_append.1 hi with q | q
  ·exact ⟨h.lt i q,fun j hj=>mem_append_left _ (h.closed i q j hj)⟩
  ·obtain ⟨h1,h2⟩:=hw i ((hS0 i).1 q)
   refine ⟨h1,fun j hj=>?_⟩
   rw [hq i h2] at hj;cases hj
 have hsum:=h.sum
 have hs0:sumR H S0=0:=sumR_zero fun i hi=>hq i (hw i ((hS0 i).1 hi)).2
 have hroots:(rootsOf H m).length<=1+5 * L.length:=by
  rw [rootsOf_len]
  exact Nat.le_trans (sumR_le List.nodup_range (fun i _ hi=>hq i hi)) hsum
 obtain ⟨T,t1,t2,t3,t4,t5⟩:=reach_total hSn hcl purse (rootsOf H m++refsV v) (List.range m) (fun i hi=>by
  rcases mem_append.1 hi with q | q
  ·obtain ⟨j,hj,hx⟩:=mem_rootsOf.1 q
   by_cases hf:j∈a::na::flats L
   ·exact mem_append_left _ (h.closed j hf i hx)
   ·rw [hq j hf] at hx;cases hx
  ·exact List.mem_append_right _ ((hS0 i).2 q)) List.nodup_range (by
  have:=cost_le H (List.range m) ((a::na::flats L)++S0)
  rw [sumR_append,hs0] at this
  rw [length_append,p9q];omega)
 refine ⟨T,?_,t2,?_,fun i hi=>t4 i (by simp [hi]),fun i hi=>(hcl i (t3 i hi)).1⟩
 ·unfold gcRet
  rw [t1];rfl
 ·-- what the bus has is led to
  have hin:∀ i,i∈List.range m++T->∀ j∈refsAt H i,j∈List.range m++T:=by
   intro i hi j hj
   rcases mem_append.1 hi with q | q
   ·exact t4 j (mem_append_left _ (mem_rootsOf.2 ⟨i,by simpa using q,hj⟩))
   ·exact t5 i q j hj
  have r1:refsAt H a=[na]:=by unfold refsAt;rw [getD_eq_getElem?_getD,h.box];rfl
  have r2:refsAt H na=L.map NdL.a:=by
   unfold refsAt;rw [getD_eq_getElem?_getD,h.arr]
   show (if false=true then [] else refsLL (ptrsL L))=_
   rw [if_neg (by simp),refs_ptrs]
  have ia:a∈List.range m++T:=mem_append_left _ (by simpa using ha)
  have ina:na∈List.range m++T:=hin a ia na (by rw [r1];simp)
  intro i hi
  rcases mem_cons.1 hi with e | hi
  ·rw [e];exact ia
  ·rcases mem_cons.1 hi with e | hi
   ·rw [e];exact ina
   ·obtain ⟨p,hp,hx⟩:=mem_flats.1 hi
    have ip:p.a∈List.range m++T:=hin na ina p.a (by rw [r2];exact List.mem_map_of_mem hp)
    exact node_led (h.nds p hp) hin ip i hx
end Go.AM.R1
open Go Go.AM Go.Proofs
namespace Go.AM.R1

section
variable {H:Type} {P:Program}
theorem decV_int {n:Nat} {t:TypeId} {ik:IntKind} (hu:P.underlying t=some (.int ik)) {d:DataW H} {a:AVal} (h:DecV P (n+1) t d a) :
  ∃ v,d=.lit (.int ik v)/\(Lit.int ik v).wf=true/\a=.lit (.int ik v):=by
 unfold DecV at h
 rw [if_neg (by simp [isAggT,hu])] at h
 simp only [Dec,hu] at h
 obtain ⟨v,h1,h2,h3⟩:=h
 exact ⟨v,h1,h2,by simpa using h3⟩
theorem all2_forall {α β:Type} {R:α->β->Prop} {Q:β->Prop} (h:∀ a b,R a b->Q b):∀ {l:List α} {m:List β},All2 R l m->∀ b∈m,Q b
 | [],[],_,b,hb=>by cases hb
 | [],_::_,h',_,_=>h'.elim
 | _::_,[],h',_,_=>h'.elim
 | a::r,c::s,h',b,hb=>by
  rcases mem_cons.1 hb with rfl | hb
  ·exact h _ _ h'.1
  ·exact all2_forall h h'.2 b hb
theorem rows_map {α:Type} (f:α->List AVal) (Q:α->Prop):∀ {rows:List (List AVal)},(∀ r∈rows,∃x,r=f x/\Q x)->∃ l:List α,rows=l.map f/\∀ x∈l,Q x
 | [],_=>⟨[],rfl,by simp⟩
 | r::s,h=>by
  obtain ⟨x,hx,hq⟩:=h r (by simp)
  obtain ⟨l,hl,hl2⟩:=rows_map f Q (rows:=s) fun y hy=>h y (by simp [hy])
  exact ⟨x::l,by rw [hx,hl];rfl,fun y hy=>by rcases mem_cons.1 hy with rfl | hy<;>simp_all⟩

theorem wf64 {v:Int} (h:(Lit.int .i64 v).wf=true):-9223372036854775808<=v/\v<=9223372036854775807:=by
 simpa [Lit.wf,IntKind.min,IntKind.max,IntKind.signed,IntKind.bits] using h
theorem fieldsR_cons {α β:Type} {R:TypeId->α->β->Prop} {f:Field} {fs:List Field}:∀ {l:List α} {m:List β},FieldsR R (f::fs) l m->∃ a r b s,l=a::r/\m=b::s/\R f.type a b/\FieldsR R fs r s
 | [],_,h=>h.elim
 | _::_,[],h=>h.elim
 | a::r,b::s,h=>⟨a,r,b,s,rfl,rfl,h.1,h.2⟩
theorem fieldsR_nil {α β:Type} {R:TypeId->α->β->Prop}:∀ {l:List α} {m:List β},FieldsR R [] l m->l=[]/\m=[]
 | [],[],_=>⟨rfl,rfl⟩
 | [],_::_,h=>h.elim
 | _::_,_,h=>h.elim
theorem decArgs_cons {k:Nat} {t:TypeId} {ts:List TypeId}:∀ {ds:List (DataW H)} {cs:List AVal},DecArgs P k (t::ts) ds cs->∃ d r b s,ds=d::r/\cs=b::s/\DecV P k t d b/\DecArgs P k ts r s
 | [],_,h=>h.elim
 | _::_,[],h=>h.elim
 | d::r,b::s,h=>⟨d,r,b,s,rfl,rfl,h.1,h.2⟩
theorem decArgs_nil {k:Nat}:∀ {ds:List (DataW H)} {cs:List AVal},DecArgs P k [] ds cs->ds=[]/\cs=[]
 | [],[],_=>⟨rfl,rfl⟩
 | [],_::_,h=>h.elim
 | _::_,_,h=>h.elim
theorem all2_flat {α:Type} (f:α->List AVal) (Q:α->Prop) {R:DataW H->List AVal->Prop} (h:∀ d a,R d a->∃ x,a=f x/\Q x) :
  ∀ {ds:List (DataW H)} {ass:List (List AVal)},All2 R ds ass->∃ l:List α,l.length=ds.length/\ass=l.map f/\∀ x∈l,Q x
 | [],[],_=>⟨[],rfl,rfl,by simp⟩
 | [],_::_,h'=>h'.elim
 | _::_,[],h'=>h'.elim
 | d::ds,a::ass,h'=>by
  obtain ⟨x,hx,hq⟩:=h _ _ h'.1
  obtain ⟨l,h1,h2,h3⟩:=all2_flat f Q h h'.2
  exact ⟨x::l,by simp [h1],by rw [hx,h2];rfl,fun y hy=>by rcases mem_cons.1 hy with rfl | hy<;>simp_all⟩
end
end Go.AM.R1
open Go Go.AM Go.Proofs
namespace Go.AM.R1
section
variable {H:Type} {P:Program}
end
end Go.AM.R1
open Go Go.AM Go.Proofs
namespace Go.AM.R1
section
variable {H:Type} {P:Program}
structure Scr where
 node:Int
 first:Int
 runs:List Run
 nl:Bool
 fu:Bool
def encS (s:Scr):List AVal:=encScr s.node s.first s.runs s.nl s.fu
end

theorem iand_bv (x y:BitVec 32):iand .u32 (x.toNat:Int) (y.toNat:Int)=((x &&& y).toNat:Int):=by
 unfold iand
 show IntKind.wrap .u32 ((BitVec.ofInt 32 (x.toNat:Int) &&& BitVec.ofInt 32 (y.toNat:Int)).toNat:Int)=_
 rw [ofInt_toNat,ofInt_toNat,wrap32bv]
theorem ior_bv (x y:BitVec 32):ior .u32 (x.toNat:Int) (y.toNat:Int)=((x ||| y).toNat:Int):=by
 unfold ior
 show IntKind.wrap .u32 ((BitVec.ofInt 32 (x.toNat:Int) ||| BitVec.ofInt 32 (y.toNat:Int)).toNat:Int)=_
 rw [ofInt_toNat,ofInt_toNat,wrap32bv]
theorem iandNot_bv (x y:BitVec 32):iandNot .u32 (x.toNat:Int) (y.toNat:Int)=((x &&& ~~~y).toNat:Int):=by
 unfold iandNot
 show IntKind.wrap .u32 ((BitVec.ofInt 32 (x.toNat:Int) &&& ~~~BitVec.ofInt 32 (y.toNat:Int)).toNat:Int)=_
 rw [ofInt_toNat,ofInt_toNat,wrap32bv]
abbrev bitB (n:Nat):BitVec 32:=BitVec.twoPow 32 n
theorem bitB_nat {n:Nat} (h:n<=31):(bitB n).toNat=2 ^ n:=by
 rw [BitVec.toNat_twoPow,Nat.mod_eq_of_lt (Nat.pow_lt_pow_right (by omega) (by omega))]
theorem shl_bit {node:Int} (h:0<=node/\node<=31):IntKind.wrap .u32 (2 ^ (min node.toNat 32))=((bitB node.toNat).toNat:Int):=by
 have hn:node.toNat<=31:=by omega
 rw [<- wrap32bv,bitB_nat hn,Nat.min_eq_left (by omega)]
 congr 1
theorem and_bit (m:BitVec 32) {n:Nat} (h:n<=31):(((m &&& bitB n).toNat:Int)=0)↔m.getLsbD n=false:=by
 rw [BitVec.and_twoPow]
 cases hm:m.getLsbD n with
 | false=>simp
 | true =>
  have:=bitB_nat h
  have h2:=Nat.pow_pos (n:=n) (show 0<2 by omega)
  simp only [if_true]
  constructor
  ·intro e
   have e2:(bitB n).toNat=0:=Int.natCast_eq_zero.1 e
   omega
  ·intro e;cases e
def badS:List Scr->Int
 | []=>0
 | s::l=>if chkS s.node s.first s.runs≠0 then chkS s.node s.first s.runs else badS l
def atSc (s:Scr) (tick:Int):Int:=atS s.node s.first s.runs tick
def maskGo (tick:Int):BitVec 32->BitVec 32->List Scr->(BitVec 32 × BitVec 32) × Int
 | m,d,[]=>((m,d),0)
 | m,d,s::l=>if m.getLsbD s.node.toNat=true then ((0#32,0#32),23) else maskGo tick (m ||| bitB s.node.toNat) (if atSc s tick=0 then d &&& ~~~bitB s.node.toNat else d) l
def maskS (tick:Int) (l:List Scr):(BitVec 32 × BitVec 32) × Int:=if badS l≠0 then ((0#32,0#32),badS l) else maskGo tick 0#32 4294967295#32 l
theorem badS_zero:∀ {l:List Scr},badS l=0->∀ s∈l,chkS s.node s.first s.runs=0
 | [],_,s,hs=>by cases hs
 | s :: l,h,x,hx=>by
  rw [badS] at h
  split at h
  ·exact absurd h (by assumption)
  ·rename_i hz
   rcases mem_cons.1 hx with rfl | hx
   ·simpa using hz
   ·exact badS_zero h x hx
def encM (r:(BitVec 32 × BitVec 32) × Int):AVal:=.tup [.lit (.int .u32 (r.1.1.toNat:Int)),.lit (.int .u32 (r.1.2.toNat:Int)),.lit (.int .i64 r.2)]
theorem mask_loop0 (tick:Int) (l:List Scr) (hl:l.length<=1048576) (hr:∀ s∈l,s.runs.length<=1048576) (nl fu:Bool) (k:List Item)
    (R:Int->Option (AVal × Heap)) (hk:badS l=0->∀ τ,lk 0 τ=.lit (.int .i64 tick)->lk 1 τ=.imm nl fu true (l.map encS)->finK 0 [.tmp 4,.tmp 5,.tmp 6] (run E 0 k τ [])=R 0) (hn:∀ e,e≠0->R e=some (encM ((0#32,0#32),e),[])) :
    ∀ (d i:Nat),i+d=l.length->badS (l.drop i)=badS l ->
   finK 0 [.tmp 4,.tmp 5,.tmp 6] (run E 0 (.code L40_0::.inLoop [0,1,15,16,17] L40_0::.inBlock 0::k) [(0,.lit (.int .i64 tick)),(1,.imm nl fu true (l.map encS)),(15,.imm nl fu true (l.map encS)),(16,.lit (.int .i64 l.length)),(17,.lit (.int .i64 i))] [])=R (badS (l.drop i)):=by
  intro d
  induction d with
  | zero =>
    intro i hi hbs
    have:i=l.length:=by omega
    subst this
    rw [List.drop_length] at hbs
    simp [go_sem,r9c E L40_0.eq_1,badS]
    exact hk hbs.symm _ rfl rfl
  | succ d ih =>
    intro i hi hbs
    have hlt:i<l.length:=by omega
    have w2:=wrapIdx (i:=i) (by omega)
    have hC:=scheck_spec l[i].node l[i].first l[i].runs (hr _ (List.getElem_mem hlt)) l[i].nl l[i].fu
    simp only [encScr] at hC
    rw [List.drop_eq_getElem_cons hlt,badS] at hbs ⊢
    by_cases hc:chkS l[i].node l[i].first l[i].runs=0
    · rw [if_neg (by simp [hc])] at hbs ⊢
      simp [go_sem,r9c E L40_0.eq_1,hlt,getElem?_eq_getElem hlt,encS,encScr,nilS,hC,hc,w2]
      rw [r9l]
      simp [go_sem,p9q]
      simpa [encS,encScr] using ih (i+1) (by omega) hbs
    · rw [if_pos hc,hn _ hc]
      simp [go_sem,r9c E L40_0.eq_1,hlt,getElem?_eq_getElem hlt,encS,encScr,nilS,hC,hc,w2,encM]
theorem level_spec (s:Scr) (hr:s.runs.length<=1048576) (tick:Int) (ht:-9223372036854775808<=tick/\tick<=9223372036854775807) :
  call E (.func (.func 66) [] []) [.agg (encS s),.lit (.int .i64 tick),.func (.func 39) [] []] []=some (.lit (.int .i64 (atSc s tick)),[]):=by
 rw [c9f E E66]
 have hA:=sat_spec s.node s.first s.runs hr s.nl s.fu tick ht
 simp only [encScr] at hA
 simp [go_sem,ir66,encS,encScr,hA,atSc]
theorem mask_loop1 (tick:Int) (ht:-9223372036854775808<=tick/\tick<=9223372036854775807) (l:List Scr) (hl:l.length<=1048576) (hr:∀ s∈l,s.runs.length<=1048576) (hN:∀ s∈l,0<=s.node/\s.node<=31) (nl fu:Bool) :
    ∀ (d i:Nat) (m q:BitVec 32),i+d=l.length ->
   finK 0 [.tmp 4,.tmp 5,.tmp 6] (run E 0 (.code L40_1::.inLoop [0,10,11,27,28,29] L40_1::.inBlock 2::[.code (.seq (.reg [⟨none,some 51,.copy (.t 10)⟩,⟨none,some 52,.copy (.t 11)⟩,⟨none,some 4,.copy (.t 51)⟩,⟨none,some 5,.copy (.t 52)⟩,⟨none,some 6,.copy (.c (.lit (.int .i64 0)))⟩] [] []) .ret)])
     [(0,.lit (.int .i64 tick)),(10,.lit (.int .u32 (m.toNat:Int))),(11,.lit (.int .u32 (q.toNat:Int))),(27,.imm nl fu true (l.map encS)),(28,.lit (.int .i64 l.length)),(29,.lit (.int .i64 i))] [])=some (encM (maskGo tick m q (l.drop i)),[]):=by
  intro d
  induction d with
  | zero =>
    intro i m q hi
    have:i=l.length:=by omega
    subst this
    simp [go_sem,r9c E L40_1.eq_1,maskGo,encM]
  | succ d ih =>
    intro i m q hi
    have hlt:i<l.length:=by omega
    have w2:=wrapIdx (i:=i) (by omega)
    have hn:=hN _ (List.getElem_mem hlt)
    have hL:=level_spec l[i] (hr _ (List.getElem_mem hlt)) tick ht
    have hs:=shl_bit hn
    have hb:=and_bit m (n:=l[i].node.toNat) (by omega)
    rw [List.drop_eq_getElem_cons hlt,maskGo]
    simp only [encS,encScr] at hL
    cases hm:m.getLsbD l[i].node.toNat with
    | true =>
      have hz:¬ ((m &&& bitB l[i].node.toNat).toNat:Int)=0:=by rw [hb,hm];simp
      have hz:¬ (m &&& bitB l[i].node.toNat).toNat=0:=fun e=>hz (by rw [e];rfl)
      generalize bitB l[i].node.toNat=b at *
      simp [go_sem,r9c E L40_1.eq_1,hlt,getElem?_eq_getElem hlt,encS,encScr,nilS,w2,show ¬ l[i].node<0 by omega,hs,iand_bv,hz,encM,-BitVec.toNat_and,-BitVec.toNat_or,-BitVec.toNat_not]
    | false =>
      have hz:((m &&& bitB l[i].node.toNat).toNat:Int)=0:=by rw [hb,hm]
      by_cases ha:atSc l[i] tick=0
      · have ih2:=ih (i+1) (m ||| bitB l[i].node.toNat) (q &&& ~~~bitB l[i].node.toNat) (by omega)
        generalize bitB l[i].node.toNat=b at *
        simp [go_sem,r9c E L40_1.eq_1,hlt,getElem?_eq_getElem hlt,encS,encScr,nilS,w2,show ¬ l[i].node<0 by omega,hs,iand_bv,ior_bv,iandNot_bv,hz,hL,ha,-BitVec.toNat_and,-BitVec.toNat_or,-BitVec.toNat_not]
        rw [r9l]
        simp [go_sem,p9q,-BitVec.toNat_and,-BitVec.toNat_or,-BitVec.toNat_not]
        simpa [encS,encScr,-BitVec.toNat_and,-BitVec.toNat_or,-BitVec.toNat_not] using ih2
      · have ih2:=ih (i+1) (m ||| bitB l[i].node.toNat) q (by omega)
        generalize bitB l[i].node.toNat=b at *
        simp [go_sem,r9c E L40_1.eq_1,hlt,getElem?_eq_getElem hlt,encS,encScr,nilS,w2,show ¬ l[i].node<0 by omega,hs,iand_bv,ior_bv,iandNot_bv,hz,hL,ha,-BitVec.toNat_and,-BitVec.toNat_or,-BitVec.toNat_not]
        rw [r9l]
        simp [go_sem,p9q,-BitVec.toNat_and,-BitVec.toNat_or,-BitVec.toNat_not]
        simpa [encS,encScr,-BitVec.toNat_and,-BitVec.toNat_or,-BitVec.toNat_not] using ih2
theorem mask_spec (tick:Int) (ht:-9223372036854775808<=tick/\tick<=9223372036854775807) (l:List Scr) (hl:l.length<=1048576) (hr:∀ s∈l,s.runs.length<=1048576) (nl fu:Bool) :
  call E (.func (.func 40) [] []) [.lit (.int .i64 tick),.imm nl fu true (l.map encS)] []=some (encM (maskS tick l),[]):=by
 rw [c9f E E40]
 simp [go_sem,ir40]
 rw [r9l]
 simp [go_sem,p9q]
 have h:=mask_loop0 tick l hl hr nl fu [.code (.seq (.reg [⟨none,some 10,.copy (.c (.lit (.int .u32 0)))⟩,⟨none,some 11,.copy (.c (.lit (.int .u32 4294967295)))⟩] [] []) (.seq (.seq (.reg [⟨none,some 27,.copy (.t 1)⟩,⟨none,some 28,.len (.t 27)⟩,⟨none,some 29,.copy (.c (.lit (.int .i64 0)))⟩] [] []) (.block 2 (.loop [0,10,11,27,28,29] L40_1))) (.seq (.reg [⟨none,some 51,.copy (.t 10)⟩,⟨none,some 52,.copy (.t 11)⟩,⟨none,some 4,.copy (.t 51)⟩,⟨none,some 5,.copy (.t 52)⟩,⟨none,some 6,.copy (.c (.lit (.int .i64 0)))⟩] [] []) .ret)))]
  (fun e=>if e≠0 then some (encM ((0#32,0#32),e),[]) else some (encM (maskS tick l),[])) ?_ (fun e he=>by simp [he]) l.length 0 (by omega) rfl
 ·rw [List.drop_zero] at h
  have h2:=h.trans (show _=some (encM (maskS tick l),[]) by
   unfold maskS
   split
   ·rfl
   ·rfl)
  simpa using h2
 ·intro hb τ e0 e1
  ·have hN:∀ s∈l,0<=s.node/\s.node<=31:=fun s hs=>(okN_of_chk (badS_zero hb s hs)).1
   have h1:=mask_loop1 tick ht l hl hr hN nl fu l.length 0 0#32 4294967295#32 (by omega)
   simp [go_sem,e0,e1]
   rw [r9l]
   simp [go_sem,p9q,e0,e1]
   rw [List.drop_zero] at h1
   simpa [maskS,hb] using h1
theorem and_one (x:BitVec 32):((x &&& 1#32).toNat:Int)=if x.getLsbD 0=true then 1 else 0:=by
 rw [BitVec.and_one_eq_setWidth_ofBool_getLsbD]
 cases x.getLsbD 0<;>simp
theorem fdiv_bit (M:BitVec 32) (i:Nat):((M.toNat:Int)).fdiv (2 ^ i)=((M >>> i).toNat:Int):=by
 rw [BitVec.toNat_ushiftRight,Nat.shiftRight_eq_div_pow]
 rw [Int.fdiv_eq_ediv_of_nonneg _ (Int.pow_nonneg (by omega))]
 norm_cast
theorem has_spec (M:BitVec 32) (i:Nat) (hi:i<=31):call E (.func (.func 70) [] []) [.lit (.int .u32 M.toNat),.lit (.int .i64 i)] []=some (.lit (.bool (M.getLsbD i)),[]):=by
 have h1:iand .u32 (((M.toNat:Int)).fdiv (2 ^ i)) 1=if M.getLsbD i=true then 1 else 0:=by
  rw [fdiv_bit,show (1:Int)=((1#32:BitVec 32).toNat:Int) from rfl,iand_bv,and_one]
  rw [BitVec.getLsbD_ushiftRight,Nat.add_zero]
  rfl
 have hm:min i 32=i:=Nat.min_eq_left (by omega)
 have hz:((i:Int)<0)=False:=eq_false (by omega)
 rw [c9f E E70]
 cases h:M.getLsbD i
 ·rw [h] at h1
  simp at h1
  simp [go_sem,ir70,IntKind.bits,hm,hz,h1]
 ·rw [h] at h1
  simp at h1
  simp [go_sem,ir70,IntKind.bits,hm,hz,h1]
theorem ptrs_len (L:List NdL):(ptrsL L).length=L.length:=by unfold ptrsL;simp
theorem ptrs_get {L:List NdL} {j:Nat} {p:NdL} (h:L[j]?=some p):(ptrsL L)[j]?=some [.ptr p.a 0]:=by
 unfold ptrsL;rw [List.getElem?_map,h];rfl
def footB (a na:Nat) (L:List NdL):List Nat:=a::na::flats L
theorem reach_b1 {H:Heap} {a na:Nat} {L:List NdL} {tk:Nat} {l f:Bool} (h:BusAt H a na L tk l f) (hk:L.length<=32):reach H purse [a] []=some (footB a na L):=by
 have hl:=h.len
 rw [show purse=(398 - (flats L).length)+(flats L).length+2 by rw [p9q];omega,reach_bus h _ [] [] (by simpa using h.nodup),reach_nil];rfl
structure BusC (H:Heap) (L:List NdL) (tk:Nat) (l f:Bool):Prop where
 bus:BusAt H 0 1 L tk l f
 len:H.length=2+(flats L).length
 quiet:Quiet H (footB 0 1 L)
theorem canon_getD {R:List Nat} {H:Heap} {g:Nat->Nat} {i:Nat} (hi:i<R.length):(R.map fun i=>renE g (H.getD i .dead)).getD i .dead=renE g (H.getD (R[i]) .dead):=by
 rw [getD_eq_getElem?_getD,List.getElem?_map,getElem?_eq_getElem hi];rfl
theorem bus_canon {H:Heap} {a na:Nat} {L:List NdL} {tk:Nat} {l f:Bool} (h:BusAt H a na L tk l f):∃ Lc,Lc.map NdL.n=L.map NdL.n/\BusC ((footB a na L).map fun i=>renE (fun i=>(footB a na L).idxOf i) (H.getD i .dead)) Lc tk l f/\(footB a na L).idxOf a=0:=by
 have hnd:=h.nodup
 have h0:(footB a na L).idxOf a=0:=by unfold footB;simp
 have h1:(footB a na L).idxOf na=1:=by
  have hne:(a == na)=false:=by simpa using h.ne
  unfold footB
  simp [List.idxOf_cons,hne]
 have hc:=h.canon (R:=footB a na L) (fun i hi=>hi)
 rw [h0,h1] at hc
 refine ⟨L.map (NdL.ren fun i=>(footB a na L).idxOf i),?_,⟨hc,?_,?_⟩,h0⟩
 ·rw [List.map_map];rfl
 ·rw [flats_ren,length_map,length_map];unfold footB;simp;omega
 ·intro i hi
  refine refs_out ?_
  rcases Nat.lt_or_ge i ((footB a na L).map fun i=>renE (fun i=>(footB a na L).idxOf i) (H.getD i .dead)).length with q | q
  ·exfalso
   apply hi
   rw [length_map] at q
   have hm:(footB a na L)[i]∈footB a na L:=List.getElem_mem q
   have hx:(footB a na L).idxOf (footB a na L)[i]=i:=idxOf_get hnd (getElem?_eq_getElem q)
   unfold footB at hm
   rcases mem_cons.1 hm with e | hm
   ·have:(footB a na L)[i]=a:=e
    rw [this,h0] at hx
    rw [<- hx];unfold footB;simp
   ·rcases mem_cons.1 hm with e | hm
    ·have:(footB a na L)[i]=na:=e
     rw [this,h1] at hx
     rw [<- hx];unfold footB;simp
    ·have hm:(footB a na L)[i]∈flats L:=hm
     unfold footB
     rw [flats_ren]
     refine mem_cons_of_mem _ (mem_cons_of_mem _ (mem_map.2 ⟨_,hm,?_⟩))
     exact hx
  ·exact q
theorem bus_call (c:Callee) {H:Heap} {a na:Nat} {L:List NdL} {tk:Nat} {l f:Bool} (h:BusAt H a na L tk l f) (hk:L.length<=32) (fv:AVal) (xs:List AVal) (hf:flatV fv=true) (hx:flatL xs=true) :
  ∃ Hc Lc,Lc.map NdL.n=L.map NdL.n/\BusC Hc Lc tk l f/\callK1 c H (some (fv,[])) (some (.ptr a 0::xs,[]))=refK H (footB a na L) (c fv (.ptr 0 0::xs) Hc):=by
 obtain ⟨Lc,h1,h2,h3⟩:=bus_canon h
 refine ⟨_,Lc,h1,h2,?_⟩
 have hreach:reach H purse (refsV fv++refsL (.ptr a 0::xs)) []=some (footB a na L):=by
  rw [refsV_flat fv hf,List.nil_append,refsL,refsL_flat xs hx,show refsV (.ptr a 0)++[]=[a] from rfl]
  exact reach_b1 h hk
 rw [callK1_ref]
 simp only [List.nil_append,locks]
 rw [hreach,rchK_some,renV_flat _ fv hf]
 rw [renL,renL_flat _ xs hx]
 simp only [renV,h3]
theorem bus_back {c:Callee} {H:Heap} {a na:Nat} {L:List NdL} {tk:Nat} {l f:Bool} (h:BusAt H a na L tk l f) (hk:L.length<=32) (fv:AVal) (xs:List AVal) (hf:flatV fv=true) (hx:flatL xs=true) {P:AVal->Heap->Prop}
  (hc:∀ Hc Lc,Lc.map NdL.n=L.map NdL.n->BusC Hc Lc tk l f->∃ v Hn,c fv (.ptr 0 0::xs) Hc=some (v,Hn)/\P v Hn) :
  ∃ v Hn,callK1 c H (some (fv,[])) (some (.ptr a 0::xs,[]))=some (renV (toGlob (footB a na L) H.length) v,backH H (footB a na L) Hn)/\P v Hn:=by
 obtain ⟨Hc,Lc,h1,h2,e⟩:=bus_call c h hk fv xs hf hx
 obtain ⟨v,Hn,e2,hp⟩:=hc Hc Lc h1 h2
 refine ⟨v,Hn,?_,hp⟩
 rw [e,e2,refK_some];rfl
theorem around_foot {H:Heap} {R:List Nat} (hnd:R.Nodup) (hlt:∀ i∈R,i<H.length) {Hn:Heap} (hk:R.length<=Hn.length) (gs:List Nat):Around H (backH H R Hn) R (gs.map (toGlob R H.length)):=by
 refine ⟨by rw [back_len];omega,fun i hi hf=>back_other hnd hlt hk hi hf,fun i hi=>?_⟩
 obtain ⟨j,-,rfl⟩:=mem_map.1 hi
 rcases Nat.lt_or_ge j R.length with q | q
 ·rw [glob_old q];exact .inl (List.getElem_mem q)
 ·rw [glob_new q];exact .inr (by omega)
theorem foot_ren (g:Nat->Nat) (a na:Nat) (L:List NdL):(footB a na L).map g=footB (g a) (g na) (L.map (NdL.ren g)):=by
 unfold footB;rw [map_cons,map_cons,flats_ren]
theorem bus_lift {H:Heap} {a na:Nat} {L:List NdL} {tk:Nat} {l f:Bool} (h:BusAt H a na L tk l f) {Hn:Heap} {L2:List NdL} {tk2:Nat} {l2 f2:Bool} (hk:2+(flats L).length<=Hn.length) (h2:BusAt Hn 0 1 L2 tk2 l2 f2) :
  ∃ L3,L3.map NdL.n=L2.map NdL.n/\BusAt (backH H (footB a na L) Hn) a na L3 tk2 l2 f2/\Around H (backH H (footB a na L) Hn) (footB a na L) (footB a na L3):=by
 have hl:(footB a na L).length=2+(flats L).length:=by unfold footB;simp;omega
 have hb:=BusAt.back (H:=H) (R:=footB a na L) h.nodup h.lt (by rw [hl];exact hk) h2
 have ar:=around_foot (H:=H) (R:=footB a na L) h.nodup h.lt (Hn:=Hn) (by rw [hl];exact hk) (footB 0 1 L2)
 have g0:toGlob (footB a na L) H.length 0=a:=by rw [glob_old (by rw [hl];omega)];rfl
 have g1:toGlob (footB a na L) H.length 1=na:=by rw [glob_old (by rw [hl];omega)];rfl
 rw [foot_ren,g0,g1] at ar
 rw [g0,g1] at hb
 exact ⟨L2.map (NdL.ren (toGlob (footB a na L) H.length)),by rw [List.map_map];rfl,hb,ar⟩
theorem idx_range {m:Nat} {T:List Nat} {i:Nat} (hi:i<m):(List.range m++T).idxOf i=i:=by
 have hm:i∈List.range m:=by simpa using hi
 rw [List.idxOf_append,if_pos hm]
 exact idxOf_get List.nodup_range (by simp [hi])
theorem ret_bus {H:Heap} {L:List NdL} {tk:Nat} {l f:Bool} (h:BusAt H 0 1 L tk l f) (hk:L.length<=32) (hq:Quiet H (footB 0 1 L)) {m:Nat} (h2:2<=m) (hm:m<=H.length) {v:AVal} (hv:(refsV v).length<=30) (hw:∀ i∈refsV v,i<H.length/\i ∉ footB 0 1 L) :
  ∃ (g:Nat->Nat) (Hf:Heap) (Lf:List NdL),gcRet m v H=some (renV g v,Hf)/\Lf.map NdL.n=L.map NdL.n/\BusAt Hf 0 1 Lf tk l f/\Quiet Hf (footB 0 1 Lf)/\m<=Hf.length/\(∀ i∈refsV v,∀ e,H[i]?=some e->Hf[g i]?=some (renE g e)/\g i ∉ footB 0 1 Lf/\(m<=i->m<=g i)):=by
 obtain ⟨T,t1,t2,t3,t4,t5⟩:=gc_bus h hk hq (show 0<m by omega) hm hv hw
 generalize hR:List.range m++T=R at t1 t2 t3 t4
 have g0:R.idxOf 0=0:=by rw [<- hR];exact idx_range (by omega)
 have g1:R.idxOf 1=1:=by rw [<- hR];exact idx_range (by omega)
 have hb:=h.canon (R:=R) t3
 rw [g0,g1] at hb
 have hfoot:footB 0 1 (L.map (NdL.ren fun i=>R.idxOf i))=(footB 0 1 L).map (fun i=>R.idxOf i):=by rw [foot_ren,g0,g1]
 refine ⟨fun i=>R.idxOf i,_,L.map (NdL.ren fun i=>R.idxOf i),t1,by rw [List.map_map];rfl,hb,?_,?_,?_⟩
 ·intro i hi
  rw [hfoot] at hi
  rcases Nat.lt_or_ge i R.length with q | q
  ·unfold refsAt
   rw [canon_getD q,refsE_ren]
   have hx:R.idxOf R[i]=i:=idxOf_get t2 (getElem?_eq_getElem q)
   have hn:R[i] ∉ footB 0 1 L:=fun z=>hi (mem_map.2 ⟨_,z,hx⟩)
   have:=hq _ hn
   unfold refsAt at this
   rw [this];rfl
  ·exact refs_out (by rw [length_map];exact q)
 ·rw [length_map,<- hR];simp
 ·intro i hi e he
  refine ⟨idx_get rfl (t4 i hi) he,fun z=>?_,fun z=>?_⟩
  rotate_left
  ·show m<=R.idxOf i
   rw [<- hR,List.idxOf_append,if_neg (by simp;exact z)]
   simp
  rw [hfoot] at z
  obtain ⟨j,hj,e⟩:=mem_map.1 z
  have:=idx_inj (t3 j hj) (t4 i hi) e
  exact (hw i hi).2 (this ▸ hj)
structure BusW (H:Heap) (L:List NdL) (tk:Nat) (l f:Bool):Prop where
 bus:BusAt H 0 1 L tk l f
 quiet:Quiet H (footB 0 1 L)
 le:L.length<=32
theorem BusW.lt {H:Heap} {L:List NdL} {tk:Nat} {l f:Bool} (h:BusW H L tk l f):∀ i∈footB 0 1 L,i<H.length:=h.bus.lt
theorem mem_foot {x:Nat} {L:List NdL}:x∈footB 0 1 L↔x=0∨x=1∨∃ p∈L,x∈p.fs:=by
 unfold footB
 rw [mem_cons,mem_cons,mem_flats]
theorem BusW.node {H H2:Heap} {L:List NdL} {tk:Nat} {l f:Bool} (h:BusW H L tk l f) {j:Nat} {p:NdL} (hj:L[j]?=some p) {m:Nd} {fs2:List Nat} (hm:NodeAt H2 p.a m fs2) (ar:Around H H2 p.fs fs2) (qb:QuietB H H2 p.fs fs2) :
  BusW H2 (L.set j ⟨p.a,m,fs2⟩) tk l f/\∀ b,b<H.length->b ∉ footB 0 1 L->H2[b]?=H[b]?/\b ∉ footB 0 1 (L.set j ⟨p.a,m,fs2⟩):=by
 have hp:=mem_of_getElem? hj
 have hjl:j<L.length:=(List.getElem?_eq_some_iff.1 hj).1
 have hin:∀ q∈L.set j ⟨p.a,m,fs2⟩,q=⟨p.a,m,fs2⟩∨q∈L:=fun q hq=>(List.mem_or_eq_of_mem_set hq).symm
 have hnew:(⟨p.a,m,fs2⟩:NdL)∈L.set j ⟨p.a,m,fs2⟩:=mem_of_getElem? (List.getElem?_set_self hjl)
 have hold:∀ x,x∈footB 0 1 L->x ∉ p.fs->x∈footB 0 1 (L.set j ⟨p.a,m,fs2⟩):=by
  intro x hx hxp
  rcases mem_foot.1 hx with e | e | ⟨q,hq,hxq⟩
  ·exact mem_foot.2 (.inl e)
  ·exact mem_foot.2 (.inr (.inl e))
  ·obtain ⟨i,hi⟩:=List.getElem?_of_mem hq
   by_cases e:i=j
   ·subst e
    rw [hj] at hi
    cases hi
    exact absurd hxq hxp
   ·refine mem_foot.2 (.inr (.inr ⟨q,mem_of_getElem? (i:=i) ?_,hxq⟩))
    rw [List.getElem?_set_ne (fun z=>e z.symm)];exact hi
 have hout:∀ b,b<H.length->b ∉ footB 0 1 L->b ∉ footB 0 1 (L.set j ⟨p.a,m,fs2⟩):=by
  intro b hb hn hx
  rcases mem_foot.1 hx with e | e | ⟨q,hq,hxq⟩
  ·exact hn (mem_foot.2 (.inl e))
  ·exact hn (mem_foot.2 (.inr (.inl e)))
  ·rcases hin q hq with e | e
   ·rw [e] at hxq
    rcases ar.new b hxq with z | z
    ·exact hn (mem_foot.2 (.inr (.inr ⟨p,hp,z⟩)))
    ·omega
   ·exact hn (mem_foot.2 (.inr (.inr ⟨q,e,hxq⟩)))
 have hfs:∀ x∈p.fs,x∈footB 0 1 L:=fun x hx=>mem_foot.2 (.inr (.inr ⟨p,hp,hx⟩))
 refine ⟨⟨h.bus.setN hj hm ar,?_,by rw [List.length_set];exact h.le⟩,fun b hb hn=>⟨ar.same b hb (fun q=>hn (hfs b q)),hout b hb hn⟩⟩
 intro i hi
 by_cases c:i∈p.fs∨H.length<=i
 ·exact qb i c (fun z=>hi (mem_foot.2 (.inr (.inr ⟨_,hnew,z⟩))))
 ·have c1:i ∉ p.fs:=fun z=>c (.inl z)
  have c2:i<H.length:=by
   rcases Nat.lt_or_ge i H.length with z | z
   ·exact z
   ·exact absurd (.inr z) c
  have:=h.quiet i (fun z=>hi (hold i z c1))
  unfold refsAt at this ⊢
  rw [getD_eq_getElem?_getD,ar.same i c2 c1,<- getD_eq_getElem?_getD]
  exact this
theorem set_same {L:List NdL} {j:Nat} {p:NdL} (h:L[j]?=some p):L.set j ⟨p.a,p.n,p.fs⟩=L:=by
 have hl:j<L.length:=(List.getElem?_eq_some_iff.1 h).1
 have e:L[j]=p:=(List.getElem?_eq_some_iff.1 h).2
 have:=List.set_getElem_self hl
 rw [e] at this
 exact this
theorem BusW.loop {H:Heap} {L:List NdL} {tk:Nat} {l f:Bool} (h:BusW H L tk l f) {m:Nat} (ws:List Nat) (hws:∀ i∈ws,i<H.length) (hl:ws.length<=30) :
  ∃ T,reach H purse (rootsOf H m++ws) (List.range m)=some (List.range m++T)/\(∀ i∈rootsOf H m++ws,i∈List.range m++T)/\((∃ i∈List.range m++T,i=0)->∀ i∈footB 0 1 L,i∈List.range m++T):=by
 obtain ⟨S0,hS0n,hS0⟩:∃ S0:List Nat,S0.Nodup/\∀ i,i∈S0↔(i∈ws/\i ∉ footB 0 1 L):=by
  obtain ⟨S,h1,h2⟩:=once (ws.filter fun i=>decide (i ∉ footB 0 1 L))
  exact ⟨S,h1,fun i=>by rw [h2];simp⟩
 have hnd:(footB 0 1 L).Nodup:=h.bus.nodup
 have hSn:(footB 0 1 L++S0).Nodup:=by
  rw [List.nodup_append]
  refine ⟨hnd,hS0n,?_⟩
  intro x hx y hy e
  subst e
  exact ((hS0 x).1 hy).2 hx
 have hcl:∀ i∈footB 0 1 L++S0,i<H.length/\∀ j∈refsAt H i,j∈footB 0 1 L++S0:=by
  intro i hi
  rcases mem_append.1 hi with q | q
  ·exact ⟨h.lt i q,fun j hj=>mem_append_left _ (h.bus.closed i q j hj)⟩
  ·obtain ⟨h1,h2⟩:=(hS0 i).1 q
   refine ⟨hws i h1,fun j hj=>?_⟩
   rw [h.quiet i h2] at hj;cases hj
 have hsum:sumR H (footB 0 1 L)<=1+5 * L.length:=h.bus.sum
 have hs0:sumR H S0=0:=sumR_zero fun i hi=>h.quiet i ((hS0 i).1 hi).2
 have hroots:(rootsOf H m).length<=1+5 * L.length:=by
  rw [rootsOf_len]
  exact Nat.le_trans (sumR_le List.nodup_range (fun i _ hi=>h.quiet i hi)) hsum
 have hle:=h.le
 obtain ⟨T,t1,t2,t3,t4,t5⟩:=reach_total hSn hcl purse (rootsOf H m++ws) (List.range m) (fun i hi=>by
  rcases mem_append.1 hi with q | q
  ·obtain ⟨j,hj,hx⟩:=mem_rootsOf.1 q
   by_cases hf:j∈footB 0 1 L
   ·exact mem_append_left _ (h.bus.closed j hf i hx)
   ·rw [h.quiet j hf] at hx;cases hx
  ·by_cases hf:i∈footB 0 1 L
   ·exact mem_append_left _ hf
   ·exact List.mem_append_right _ ((hS0 i).2 ⟨q,hf⟩)) List.nodup_range (by
  have:=cost_le H (List.range m) (footB 0 1 L++S0)
  rw [sumR_append,hs0] at this
  rw [length_append,p9q];omega)
 refine ⟨T,t1,t4,fun ⟨i0,hi0,e0⟩=>?_⟩
 subst e0
 have hin:∀ i,i∈List.range m++T->∀ j∈refsAt H i,j∈List.range m++T:=by
  intro i hi j hj
  rcases mem_append.1 hi with q | q
  ·exact t4 j (mem_append_left _ (mem_rootsOf.2 ⟨i,by simpa using q,hj⟩))
  ·exact t5 i q j hj
 have r1:refsAt H 0=[1]:=by unfold refsAt;rw [getD_eq_getElem?_getD,h.bus.box];rfl
 have r2:refsAt H 1=L.map NdL.a:=by
  unfold refsAt;rw [getD_eq_getElem?_getD,h.bus.arr]
  show (if false=true then [] else refsLL (ptrsL L))=_
  rw [if_neg (by simp),refs_ptrs]
 have i1:1∈List.range m++T:=hin 0 hi0 1 (by rw [r1];simp)
 intro i hi
 rcases mem_foot.1 hi with e | e | ⟨p,hp,hx⟩
 ·rw [e];exact hi0
 ·rw [e];exact i1
 ·have ip:p.a∈List.range m++T:=hin 1 i1 p.a (by rw [r2];exact List.mem_map_of_mem hp)
  exact node_led (h.bus.nds p hp) hin ip i hx
theorem quiet_sweep {H:Heap} {F R:List Nat} (h:Quiet H F):Quiet (sweep R 0 H) F:=by
 have key:∀ (H:Heap) (i j:Nat),(sweep R i H).getD j .dead=H.getD j .dead∨(sweep R i H).getD j .dead=.dead:=by
  intro H
  induction H with
  | nil=>intro i j;simp [sweep]
  | cons e H ih =>
   intro i j
   rw [sweep_cons]
   by_cases hi:i∈R
   ·rw [if_pos hi]
    cases j with
    | zero=>exact .inl rfl
    | succ j=>exact ih (i+1) j
   ·rw [if_neg hi]
    split
    ·exact .inr (by simp)
    ·cases j with
     | zero=>exact .inr rfl
     | succ j=>exact ih (i+1) j
 intro i hi
 have hq:=h i hi
 unfold refsAt at hq ⊢
 rcases key H 0 i with e | e
 ·rw [e];exact hq
 ·rw [e];rfl
theorem BusW.swp {H:Heap} {L:List NdL} {tk:Nat} {l f:Bool} (h:BusW H L tk l f) {R:List Nat} (hR:∀ i∈footB 0 1 L,i∈R):BusW (sweep R 0 H) L tk l f :=
 ⟨h.bus.same fun i hi=>sweep_get H R 0 i (by rw [Nat.zero_add];exact hR i hi),quiet_sweep h.quiet,h.le⟩
theorem BusW.app {H:Heap} {L:List NdL} {tk:Nat} {l f:Bool} (h:BusW H L tk l f) {X:Heap} (hX:∀ e∈X,refsE e=[]):BusW (H++X) L tk l f:=by
 refine ⟨h.bus.same fun i hi=>getElem?_append_left (h.lt i hi),fun i hi=>?_,h.le⟩
 rcases Nat.lt_or_ge i H.length with q | q
 ·have:=h.quiet i hi
  unfold refsAt at this ⊢
  rw [getD_eq_getElem?_getD,getElem?_append_left q,<- getD_eq_getElem?_getD]
  exact this
 ·unfold refsAt
  rw [getD_eq_getElem?_getD,List.getElem?_append_right q]
  cases he:X[i - H.length]? with
  | none=>rfl
  | some e=>exact hX e (mem_of_getElem? he)
theorem BusW.put {H:Heap} {L:List NdL} {tk:Nat} {l f:Bool} (h:BusW H L tk l f) {b:Nat} (hb:b ∉ footB 0 1 L) {e:Entry} (he:refsE e=[]):BusW (List.set H b e) L tk l f:=by
 refine ⟨h.bus.same fun i hi=>List.getElem?_set_ne (fun q=>hb (by rw [q];exact hi)),fun i hi=>?_,h.le⟩
 have:=h.quiet i hi
 unfold refsAt at this ⊢
 rw [getD_eq_getElem?_getD]
 by_cases q:b=i
 ·subst q
  rcases Nat.lt_or_ge b H.length with z | z
  ·rw [List.getElem?_set_self z];exact he
  ·rw [List.getElem?_eq_none (by simpa using z)];rfl
 ·rw [List.getElem?_set_ne q,<- getD_eq_getElem?_getD];exact this
def domF (n:Nd) (M D:BitVec 32) (i:Nat):Bool:=if M.getLsbD i=true then !D.getLsbD i else !(drN n)
def lvlF (M D:BitVec 32):List Nd->Nat->BitVec 32->BitVec 32
 | [],_,x=>x
 | n::r,i,x=>lvlF M D r (i+1) (if domF n M D i=true then x &&& ~~~bitB i else x)
theorem sweep_len {H:Heap} {m:Nat} (T:List Nat) (hm:m<=H.length):m<=(sweep (List.range m++T) 0 H).length:=by
 cases m with
 | zero=>exact Nat.zero_le _
 | succ k =>
  have:=sweep_get H (List.range (k+1)++T) 0 k (by rw [Nat.zero_add];simp)
  rw [getElem?_eq_getElem (show k<H.length by omega)] at this
  exact lt_of_get this
theorem bf_loop0 (F M D:BitVec 32) (L:List NdL) (hI:∀ p∈L,p.n.Inv) (tk:Nat) (l f:Bool) (m:Nat) (h2:2<=m) (b8:Nat) (e8:Entry) (rs:List IRes) (k:List Item) (P:Option (AVal × Heap)->Prop)
    (hk:∀ H τ,lk 0 τ=.ptr 0 0->lk 1 τ=.lit (.int .u32 F.toNat)->lk 2 τ=.lit (.int .u32 M.toNat)->lk 8 τ=.ptr b8 0->lk 11 τ=.lit (.int .u32 (lvlF M D (L.map NdL.n) 0 (BitVec.allOnes 32)).toNat)->BusW H L tk l f->H[b8]?=some e8->m<=H.length->P (finK m rs (run E m k τ H))) (hb8:b8 ∉ footB 0 1 L) :
    ∀ (d i:Nat),i+d=L.length->∀ (H:Heap) (x:BitVec 32),BusW H L tk l f->H[b8]?=some e8->m<=H.length->lvlF M D ((L.drop i).map NdL.n) i x=lvlF M D (L.map NdL.n) 0 (BitVec.allOnes 32) ->
    P (finK m rs (run E m (.code L42_0::.inLoop [0,1,2,3,8,11,41,42,43] L42_0::.inBlock 0::k) [(0,.ptr 0 0),(1,.lit (.int .u32 F.toNat)),(2,.lit (.int .u32 M.toNat)),(3,.lit (.int .u32 D.toNat)),(8,.ptr b8 0),(11,.lit (.int .u32 x.toNat)),(41,.own 1 L.length 1 0 L.length),(42,.lit (.int .i64 L.length)),(43,.lit (.int .i64 i))] H)):=by
  intro d
  induction d with
  | zero =>
    intro i hi H x h h8 hm hx
    have hlt:((i:Int)<(L.length:Int))=False:=eq_false (by omega)
    rw [List.drop_eq_nil_of_le (by omega)] at hx
    have hx:x=lvlF M D (L.map NdL.n) 0 (BitVec.allOnes 32):=hx
    simp [go_sem,r9c E L42_0.eq_1,hlt]
    exact hk H _ (by simp [lk]) (by simp [lk]) (by simp [lk]) (by simp [lk]) (by simp [lk,hx]) h h8 hm
  | succ d ih =>
    intro i hi H x h h8 hm hx
    have hlt:((i:Int)<(L.length:Int))=True:=eq_true (by omega)
    have hltn:i<L.length:=by omega
    have hle:=h.le
    have w:=wrapIdx (i:=i) (by omega)
    obtain ⟨p,hp⟩:∃ p,L[i]?=some p:=⟨_,getElem?_eq_getElem hltn⟩
    have hpe:L[i]=p:=(List.getElem?_eq_some_iff.1 hp).2
    rw [List.drop_eq_getElem_cons hltn,hpe] at hx
    have hx:lvlF M D ((L.drop (i+1)).map NdL.n) (i+1) (if domF p.n M D i=true then x &&& ~~~bitB i else x)=lvlF M D (L.map NdL.n) 0 (BitVec.allOnes 32):=hx
    have hpm:=mem_of_getElem? hp
    obtain ⟨wx,hw⟩:=(h.bus.nds p hpm).w
    obtain ⟨H1,hd,n1,a1,k1,q1⟩:=drive_atW hw (hI p hpm)
    obtain ⟨h1,o1⟩:=h.node hp n1.at a1 q1
    rw [set_same hp] at h1
    have hb8l:b8<H.length:=lt_of_get h8
    have h81:H1[b8]?=some e8:=by rw [(o1 b8 hb8l hb8).1];exact h8
    have hm1:m<=H1.length:=by have:=a1.len;omega
    have gp:=ptrs_get hp
    have gp2:∀ (q:i<(ptrsL L).length),(ptrsL L)[i]=[.ptr p.a 0]:=fun q=>(List.getElem?_eq_some_iff.1 gp).2
    have gl:=ptrs_len L
    have ga:=h.bus.arr
    have hsM:=has_spec M i (by omega)
    have hsD:=has_spec D i (by omega)
    have hsh:=shl_bit (node:=(i:Int)) (by omega)
    have hnn:=iandNot_bv x (bitB i)
    obtain ⟨T,hre,hT1,hT2⟩:=h1.loop (m:=m) [0,b8,1] (by
      intro j hj
      simp at hj
      rcases hj with e | e | e
      · rw [e];exact h1.lt 0 (mem_foot.2 (.inl rfl))
      · rw [e];exact lt_of_get h81
      · rw [e];exact h1.lt 1 (mem_foot.2 (.inr (.inl rfl)))) (by simp)
    have hfoot:=hT2 ⟨0,mem_append_left _ (by simp;omega),rfl⟩
    have ih2:=fun y hy=>ih (i+1) (by omega) (sweep (List.range m++T) 0 H1) y (h1.swp hfoot) (by rw [sweep_get H1 _ 0 b8 (by rw [Nat.zero_add];exact hT1 b8 (by simp))];exact h81) (sweep_len T hm1) hy
    simp at w ih2
    unfold domF at hx
    generalize ptrsL L=rows at *
    have hsh:IntKind.wrap .u32 (2 ^ (min i 32))=((bitB i).toNat:Int):=by simpa using hsh
    have hneg:((i:Int)<0)=False:=eq_false (by omega)
    generalize bitB i=q at hsh hnn hx
    generalize x &&& ~~~q=y at hnn hx
    cases hM:M.getLsbD i<;>cases hD:D.getLsbD i<;>cases hn:drN p.n <;>
    (rw [hM] at hsM;rw [hD] at hsD;rw [hn] at hd;simp [hM,hD,hn] at hx
     simp [go_sem,r9c E L42_0.eq_1,hlt,ga,gp,gp2,gl,hltn,hd,hsM,hsD,w,locks,hneg,hsh,hnn,lvF,lvT]
     rw [r9l]
     simp [go_sem,hre]
     exact ih2 _ hx)
structure BS (H:Heap) (L:List NdL) (tk:Nat) (l f:Bool) (m:Nat) (S:List (Nat × Entry)):Prop where
 w:BusW H L tk l f
 get:∀ q∈S,H[q.1]?=some q.2
 out:∀ q∈S,q.1 ∉ footB 0 1 L
 nd:(S.map Prod.fst).Nodup
 len:m<=H.length
 ge:∀ q∈S,m<=q.1
theorem BS.lt {H:Heap} {L:List NdL} {tk:Nat} {l f:Bool} {m:Nat} {S:List (Nat × Entry)} (h:BS H L tk l f m S) {q:Nat × Entry} (hq:q∈S):q.1<H.length:=lt_of_get (h.get q hq)
theorem BS.sub {H:Heap} {L:List NdL} {tk:Nat} {l f:Bool} {m:Nat} {S S2:List (Nat × Entry)} (h:BS H L tk l f m S) (hs:∀ q∈S2,q∈S) (hn:(S2.map Prod.fst).Nodup):BS H L tk l f m S2 :=
 ⟨h.w,fun q hq=>h.get q (hs q hq),fun q hq=>h.out q (hs q hq),hn,h.len,fun q hq=>h.ge q (hs q hq)⟩
theorem BS.swp {H:Heap} {L:List NdL} {tk:Nat} {l f:Bool} {m:Nat} {S:List (Nat × Entry)} (h:BS H L tk l f m S) (T:List Nat) (hF:∀ i∈footB 0 1 L,i∈List.range m++T) (hS:∀ q∈S,q.1∈List.range m++T):BS (sweep (List.range m++T) 0 H) L tk l f m S :=
 ⟨h.w.swp hF,fun q hq=>by rw [sweep_get H _ 0 q.1 (by rw [Nat.zero_add];exact hS q hq)];exact h.get q hq,h.out,h.nd,sweep_len T h.len,h.ge⟩
theorem BS.app {H:Heap} {L:List NdL} {tk:Nat} {l f:Bool} {m:Nat} {S:List (Nat × Entry)} (h:BS H L tk l f m S) {e:Entry} (he:refsE e=[]):BS (H++[e]) L tk l f m ((H.length,e)::S):=by
 refine ⟨h.w.app (by simpa using he),?_,?_,?_,by rw [length_append];exact Nat.le_trans h.len (Nat.le_add_right _ _),fun q hq=>(mem_cons.1 hq).elim (fun e1=>by rw [e1];exact h.len) (h.ge q)⟩
 ·intro q hq
  rcases mem_cons.1 hq with e1 | e1
  ·rw [e1];simp
  ·rw [getElem?_append_left (h.lt e1)];exact h.get q e1
 ·intro q hq
  rcases mem_cons.1 hq with e1 | e1
  ·rw [e1];intro z;exact Nat.lt_irrefl _ (h.w.lt _ z)
  ·exact h.out q e1
 ·rw [map_cons,nodup_cons]
  refine ⟨fun z=>?_,h.nd⟩
  obtain ⟨q,hq,e1⟩:=mem_map.1 z
  have:=h.lt hq
  rw [e1] at this
  exact Nat.lt_irrefl _ this
theorem BS.app2 {H:Heap} {L:List NdL} {tk:Nat} {l f:Bool} {m:Nat} {S:List (Nat × Entry)} (h:BS H L tk l f m S) {x y:Entry} (hx:refsE x=[]) (hy:refsE y=[]):BS (H++[x,y]) L tk l f m ((H.length+1,y)::(H.length,x)::S):=by
 have:=(h.app hx).app hy
 simpa using this
theorem BS.app3 {H:Heap} {L:List NdL} {tk:Nat} {l f:Bool} {m:Nat} {S:List (Nat × Entry)} (h:BS H L tk l f m S) {x y z:Entry} (hx:refsE x=[]) (hy:refsE y=[]) (hz:refsE z=[]):BS (H++[x,y,z]) L tk l f m ((H.length+2,z)::(H.length+1,y)::(H.length,x)::S):=by
 have:=((h.app hx).app hy).app hz
 simpa using this
theorem BS.put {H:Heap} {L:List NdL} {tk:Nat} {l f:Bool} {m:Nat} {S:List (Nat × Entry)} {b:Nat} {e0:Entry} (h:BS H L tk l f m ((b,e0)::S)) {e:Entry} (he:refsE e=[]):BS (List.set H b e) L tk l f m ((b,e)::S):=by
 have hb:=h.out (b,e0) (by simp)
 have hnd:=h.nd
 rw [map_cons,nodup_cons] at hnd
 have hl:b<H.length:=h.lt (q:=(b,e0)) (by simp)
 refine ⟨h.w.put hb he,?_,?_,by rw [map_cons,nodup_cons];exact hnd,by rw [List.length_set];exact h.len,fun q hq=>(mem_cons.1 hq).elim (fun e1=>by rw [e1];exact h.ge (b,e0) (by simp)) (fun e1=>h.ge q (mem_cons_of_mem _ e1))⟩
 ·intro q hq
  rcases mem_cons.1 hq with e1 | e1
  ·rw [e1];exact List.getElem?_set_self hl
  ·rw [List.getElem?_set_ne (fun z=>hnd.1 (mem_map.2 ⟨q,e1,z.symm⟩))]
   exact h.get q (mem_cons_of_mem _ e1)
 ·intro q hq
  rcases mem_cons.1 hq with e1 | e1
  ·rw [e1];exact hb
  ·exact h.out q (mem_cons_of_mem _ e1)
theorem BS.tick {H:Heap} {L:List NdL} {tk:Nat} {l f:Bool} {m:Nat} {S:List (Nat × Entry)} (h:BS H L tk l f m S) (t2:Nat):BS (List.set H 0 (.box [.own 1 L.length 1 0 L.length,.lit (.int .i64 t2)])) L t2 l f m S:=by
 have h0:0<H.length:=h.w.lt 0 (mem_foot.2 (.inl rfl))
 have ne:∀ i,i≠0->(List.set H 0 (.box [.own 1 L.length 1 0 L.length,.lit (.int .i64 t2)]))[i]?=H[i]?:=fun i hi=>List.getElem?_set_ne (fun z=>hi z.symm)
 have b:=h.w.bus
 refine ⟨⟨⟨List.getElem?_set_self h0,by rw [ne 1 (by omega)];exact b.arr,fun p hp=>nodeAt_same (b.nds p hp) fun i hi=>ne i fun z=>(b.out p hp).1 (z ▸ hi),b.ne,b.out,b.dj⟩,?_,h.w.le⟩,?_,h.out,h.nd,by rw [List.length_set];exact h.len,h.ge⟩
 ·intro i hi
  have:=h.w.quiet i hi
  have hi0:i≠0:=fun z=>hi (mem_foot.2 (.inl z))
  unfold refsAt at this ⊢
  rw [getD_eq_getElem?_getD,ne i hi0,<- getD_eq_getElem?_getD]
  exact this
 ·intro q hq
  rw [ne q.1 (fun z=>h.out q hq (mem_foot.2 (.inl z)))]
  exact h.get q hq
theorem BS.node {H H2:Heap} {L:List NdL} {tk:Nat} {l f:Bool} {m:Nat} {S:List (Nat × Entry)} (h:BS H L tk l f m S) {j:Nat} {p:NdL} (hj:L[j]?=some p) {n2:Nd} {fs2:List Nat} (hm:NodeAt H2 p.a n2 fs2) (ar:Around H H2 p.fs fs2) (qb:QuietB H H2 p.fs fs2):BS H2 (L.set j ⟨p.a,n2,fs2⟩) tk l f m S:=by
 obtain ⟨h1,h2⟩:=h.w.node hj hm ar qb
 refine ⟨h1,fun q hq=>?_,fun q hq=>?_,h.nd,Nat.le_trans h.len ar.len,h.ge⟩
 ·rw [(h2 q.1 (h.lt hq) (h.out q hq)).1];exact h.get q hq
 ·exact (h2 q.1 (h.lt hq) (h.out q hq)).2
theorem BS.more {H H2:Heap} {L:List NdL} {tk:Nat} {l f:Bool} {m:Nat} {S:List (Nat × Entry)} (h:BS H L tk l f m S) {j:Nat} {p:NdL} (hj:L[j]?=some p) {n2:Nd} {fs2:List Nat} (hm:NodeAt H2 p.a n2 fs2) (ar:Around H H2 p.fs fs2) (qb:QuietB H H2 p.fs fs2) {ix:Nat} {e:Entry} (h1:H2[ix]?=some e) (h2:H.length<=ix) (h3:ix ∉ fs2):BS H2 (L.set j ⟨p.a,n2,fs2⟩) tk l f m ((ix,e)::S):=by
 have h4:=h.node hj hm ar qb
 refine ⟨h4.w,?_,?_,?_,h4.len,fun q hq=>(mem_cons.1 hq).elim (fun e1=>by rw [e1];exact Nat.le_trans h.len h2) (h4.ge q)⟩
 ·intro q hq
  rcases mem_cons.1 hq with e1 | e1
  ·rw [e1];exact h1
  ·exact h4.get q e1
 ·intro q hq
  rcases mem_cons.1 hq with e1 | e1
  ·rw [e1]
   intro z
   have hlt:=h.w.lt
   rcases mem_foot.1 z with e2 | e2 | ⟨r,hr,hx⟩
   ·have:=hlt 0 (mem_foot.2 (.inl rfl));simp only at e2;omega
   ·have:=hlt 1 (mem_foot.2 (.inr (.inl rfl)));simp only at e2;omega
   ·rcases List.mem_or_eq_of_mem_set hr with e3 | e3
    ·have:=hlt ix (mem_foot.2 (.inr (.inr ⟨r,e3,hx⟩)));omega
    ·rw [e3] at hx;exact h3 hx
  ·exact h4.out q e1
 ·rw [map_cons,nodup_cons]
  refine ⟨fun z=>?_,h.nd⟩
  obtain ⟨q,hq,e1⟩:=mem_map.1 z
  have:=h.lt hq
  simp only at e1
  omega
theorem BS.next {H:Heap} {L:List NdL} {tk:Nat} {l f:Bool} {m:Nat} {S S2:List (Nat × Entry)} (h:BS H L tk l f m S) (h0:0<m) {live:List Nat} {b:ICode} {k:List Item} {τ:Tmps} (hq:marked live=false) {rs:List IRes} {P:Option (AVal × Heap)->Prop}
  {ws:List Nat} (hws:refsT (keep τ (liveT live))=ws) (hl:ws.length<=30) (hin:∀ i∈ws,i=0∨i=1∨i∈S.map Prod.fst) (hs:∀ q∈S2,q∈S) (hc:∀ q∈S2,q.1∈ws∨q.1<m) (hn:(S2.map Prod.fst).Nodup)
  (hk:∀ H2,BS H2 L tk l f m S2->P (finK m rs (run E m (.code b::.inLoop live b::k) (keep τ (liveT live)) H2))):P (finK m rs (run E m (.inLoop live b::k) τ H)):=by
 obtain ⟨T,h1,h2,h3⟩:=h.w.loop (m:=m) ws (fun i hi=>by
  rcases hin i hi with q | q | q
  ·exact h.w.lt i (mem_foot.2 (.inl q))
  ·exact h.w.lt i (mem_foot.2 (.inr (.inl q)))
  ·obtain ⟨q,hq,e⟩:=mem_map.1 q
   rw [<- e];exact h.lt hq) hl
 rw [r9l,gcLoop_eq,hws,h1,hq]
 show P (finK m rs (run E m _ (keep τ (liveT live)) (sweep (List.range m++T) 0 H)))
 refine hk _ ((h.sub hs hn).swp T (h3 ⟨0,mem_append_left _ (by simpa using h0),rfl⟩) fun q hq=>?_)
 rcases hc q hq with e | e
 ·exact h2 _ (List.mem_append_right _ e)
 ·exact mem_append_left _ (by simpa using e)
structure Bev where
 tk:Nat
 node:Nat
 kind:Nat
 f:Fr
def encBev (e:Bev):List AVal:=[.lit (.int .i64 e.tk),.lit (.int .i64 e.node),.lit (.int .i64 e.kind),.lit (.int .i64 e.f.id),.lit (.bool e.f.ext),.lit (.bool e.f.rtr),.lit (.int .i64 e.f.len),.lit (.int .u8 e.f.d0),.lit (.int .u8 e.f.d1),.lit (.int .u8 e.f.d2),.lit (.int .u8 e.f.d3),.lit (.int .u8 e.f.d4),.lit (.int .u8 e.f.d5),.lit (.int .u8 e.f.d6),.lit (.int .u8 e.f.d7)]
def bouV (b n:Nat):AVal:=if n=0 then nilS else .own b n 15 0 n
def bouS (b:Nat) (lkb fu:Bool) (rows:List (List AVal)):List (Nat × Entry):=if rows=[] then [] else [(b,.arr true lkb fu 15 rows)]
def tell (tk node:Nat) (e:Nat × Fr):Bev:=⟨tk,node,e.1,e.2⟩
theorem rowsBev (es:List Bev):rowsOk 15 (es.map encBev)=true:=by
 unfold rowsOk;rw [List.all_map];simp [encBev]
theorem bf_loop2 (F M:BitVec 32) (L:List NdL) (tk:Nat) (htk:tk<=1000000000) (l f:Bool) (m:Nat) (h2:2<=m) (b8 b15:Nat) (e8 e15:Entry) (n i:Nat) (es:List (Nat × Fr))  (ix:Nat) (lx fx:Bool) (evs0:List Bev) (hes:evs0.length+es.length<=1000000) (rs:List IRes) (k:List Item) (P:Option (AVal × Heap)->Prop)
  (hk:∀ H b lkb fu evs,evs=evs0++es.map (tell tk i)->BS H L tk l f m (bouS b lkb fu (evs.map encBev)++[(b8,e8),(b15,e15)])->∀ τ,keep τ [0,1,2,8,15,16,73,74]=[(0,.ptr 0 0),(1,.lit (.int .u32 F.toNat)),(2,.lit (.int .u32 M.toNat)),(8,.ptr b8 0),(15,.ptr b15 0),(16,bouV b evs.length),(73,.lit (.int .i64 n)),(74,.lit (.int .i64 i))]->P (finK m rs (run E m k τ H))) :
  ∀ (d j:Nat),j+d=es.length->∀ (H:Heap) (b:Nat) (lkb fu:Bool) (evs:List Bev),evs=evs0++(es.take j).map (tell tk i)->BS H L tk l f m (bouS b lkb fu (evs.map encBev)++[(ix,.arr true lx fx 15 (es.map encEv)),(b8,e8),(b15,e15)]) ->
  P (finK m rs (run E m (.code L42_2::.inLoop [0,1,2,8,15,16,17,73,74,103,104,105] L42_2::.inBlock 4::k) [(0,.ptr 0 0),(1,.lit (.int .u32 F.toNat)),(2,.lit (.int .u32 M.toNat)),(8,.ptr b8 0),(15,.ptr b15 0),(16,bouV b evs.length),(17,.lit (.int .i64 i)),(73,.lit (.int .i64 n)),(74,.lit (.int .i64 i)),(103,.own ix es.length 15 0 es.length),(104,.lit (.int .i64 es.length)),(105,.lit (.int .i64 j))] H)):=by
 intro d
 induction d with
 | zero =>
  intro j hj H b lkb fu evs he h
  have hlt:((j:Int)<(es.length:Int))=False:=eq_false (by omega)
  rw [List.take_of_length_le (by omega)] at he
  simp [go_sem,r9c E L42_2.eq_1,hlt]
  refine hk H b lkb fu evs he (h.sub ?_ ?_) _ rfl
  ·intro q hq
   rcases mem_append.1 hq with e | e
   ·exact mem_append_left _ e
   ·exact List.mem_append_right _ (mem_cons_of_mem _ e)
  ·have:=h.nd
   rw [map_append,List.nodup_append] at this ⊢
   simp at this ⊢
   refine ⟨this.1,this.2.1.2,?_⟩
   intro x y hx
   exact (this.2.2 x y hx).2
 | succ d ih =>
  intro j hj H b lkb fu evs he h
  have hlt:((j:Int)<(es.length:Int))=True:=eq_true (by omega)
  have hltn:j<es.length:=by omega
  have w:=wrapIdx (i:=j) (by omega)
  have gb:=h.w.bus.box
  have gx:H[ix]?=some (.arr true lx fx 15 (es.map encEv)):=h.get (ix,_) (by simp)
  have hml:(es.map encEv).length=es.length:=by simp
  have ge:(es.map encEv)[j]?=some (encEv es[j]):=by simp [hltn]
  have ge2:∀ (q:j<(es.map encEv).length),(es.map encEv)[j]=encEv es[j]:=fun q=>by simp
  have gbX:∀ X:Heap,(H++X)[0]?=some (.box [.own 1 L.length 1 0 L.length,.lit (.int .i64 tk)]):=fun X=>by rw [getElem?_append_left (lt_of_get gb)];exact gb
  have gbX2:∀ (X:Heap) (q:0<(H++X).length),(H++X)[0]=.box [.own 1 L.length 1 0 L.length,.lit (.int .i64 tk)]:=fun X q=>(List.getElem?_eq_some_iff.1 (gbX X)).2
  have hle:evs.length<=1000000:=by rw [he,length_append,length_map,List.length_take];omega
  have hneg:((j:Int)<0)=False:=eq_false (by omega)
  by_cases h0:evs=[]
  ·subst h0
   simp [bouV,bouS] at h ⊢
   generalize hrx:es.map encEv=rx at *
   simp [go_sem,r9c E L42_2.eq_1,hlt,hltn,gx,hml,ge,ge2,encEv,gb,gbX,gbX2,w,locks]
   have hB:=h.app3 (x:=.box (encBev (tell tk i es[j]))) (y:=.arr true false true 15 [encBev (tell tk i es[j])]) (z:=.arr true false false 15 [encBev (tell tk i es[j])]) rfl rfl rfl
   have ih2:=fun H2=>ih (j+1) (by omega) H2 (H.length+2) false false [tell tk i es[j]] (by
    rw [List.take_succ_eq_append_getElem hltn,map_append,<- List.append_assoc,<- he];rfl)
   rw [show ((j+1:Nat):Int)=(j:Int)+1 by simp] at ih2
   have hnd:=hB.nd
   refine BS.next hB (by omega) rfl (ws:=[0,b8,b15,H.length+2,ix]) rfl (by simp) ?_ ?_ ?_ ?_ ih2
   ·simp
   ·intro q hq
    simp [bouS] at hq ⊢
    rcases hq with e | e | e | e<;>simp [e]
   ·intro q hq
    simp [bouS] at hq ⊢
    rcases hq with e | e | e | e<;>simp [e]
   ·simp [bouS] at hnd ⊢
    simp [hnd]
  ·simp [bouV,bouS,h0] at h ⊢
   have gbo:=h.get (b,_) (List.mem_cons_self ..)
   have gbo2:∀ X:Heap,(H++X)[b]?=some (.arr true lkb fu 15 (evs.map encBev)):=fun X=>by rw [getElem?_append_left (lt_of_get gbo)];exact gbo
   have gbo3:∀ (X:Heap) (q:b<(H++X).length),(H++X)[b]=.arr true lkb fu 15 (evs.map encBev):=fun X q=>(List.getElem?_eq_some_iff.1 (gbo2 X)).2
   have hrow:=rowsBev evs
   have hlb:(evs.map encBev).length=evs.length:=by simp
   have hm46:((evs.length+1) * 56 > 70368744177664)=False:=eq_false (by omega)
   generalize hrx:es.map encEv=rx at *
   generalize hre:evs.map encBev=re at *
   simp [go_sem,r9c E L42_2.eq_1,hlt,hltn,gx,hml,ge,ge2,encEv,gb,gbX,gbX2,gbo2,gbo3,hlb,hrow,hm46,w,locks]
   have hnd:=h.nd
   have h1:=(h.app2 (x:=.box (encBev (tell tk i es[j]))) (y:=.arr true false true 15 [encBev (tell tk i es[j])]) rfl rfl).sub (S2:=(b,.arr true lkb fu 15 re)::(ix,.arr true lx fx 15 rx)::(b8,e8)::(b15,e15)::[]) (fun q hq=>mem_cons_of_mem _ (mem_cons_of_mem _ hq)) hnd
   have hB:=h1.put (e:=.arr true lkb false 15 (re++[encBev (tell tk i es[j])])) rfl
   have ih2:=fun H2=>ih (j+1) (by omega) H2 b lkb false (evs++[tell tk i es[j]]) (by
    rw [List.take_succ_eq_append_getElem hltn,map_append,<- List.append_assoc,<- he];rfl)
   rw [show ((j+1:Nat):Int)=(j:Int)+1 by simp] at ih2
   have e1:bouV b (evs++[tell tk i es[j]]).length=.own b (evs.length+1) 15 0 (evs.length+1):=by unfold bouV;rw [if_neg (by simp)];simp
   have e2:∀ r,bouS b lkb false ((evs++[tell tk i es[j]]).map encBev)++r=(b,.arr true lkb false 15 (re++[encBev (tell tk i es[j])]))::r:=fun r=>by unfold bouS;rw [if_neg (by simp)];simp [hre]
   rw [e1] at ih2
   simp only [e2] at ih2
   refine BS.next hB (by omega) rfl (ws:=[0,b8,b15,b,ix]) rfl (by simp) ?_ ?_ ?_ ?_ ih2
   ·simp
   ·exact fun q hq=>hq
   ·simp
   ·exact hnd
def stepL (F M:BitVec 32) (b:Bool):List Nd->Nat->List Nd
 | [],_=>[]
 | n::r,i=>(if M.getLsbD i=true then n else nxN n (b ^^ F.getLsbD i))::stepL F M b r (i+1)
def evL (F M:BitVec 32) (b:Bool) (tk:Nat):List Nd->Nat->List Bev
 | [],_=>[]
 | n::r,i=>(if M.getLsbD i=true then [] else (evN n (b ^^ F.getLsbD i)).map (tell tk i))++evL F M b tk r (i+1)
def runE (b:Bool) (x:BitVec 32):Entry:=.box [.lit (.int .i64 1),.lit (.int .i64 (lv b)),.lit (.int .u32 x.toNat)]
theorem set_take {L:List NdL} {i:Nat} (h:i<L.length) (q:NdL):((L.set i q).take (i+1))=L.take i++[q]:=by
 rw [List.take_succ_eq_append_getElem (by simpa using h),List.take_set_of_le (Nat.le_refl _)]
 simp
theorem bou_refs (b:Nat) (lkb fu:Bool) (evs:List Bev):refsV (bouV b evs.length)=(bouS b lkb fu (evs.map encBev)).map Prod.fst:=by
 unfold bouV bouS
 cases evs
 ·rfl
 ·simp [refsV]
theorem bouS_le (b:Nat) (lkb fu:Bool) (rows:List (List AVal)):(bouS b lkb fu rows).length<=1:=by
 unfold bouS;split<;>simp
theorem bf_next1 {H:Heap} {L:List NdL} {tk:Nat} {l f:Bool} {m:Nat} {S:List (Nat × Entry)} (h:BS H L tk l f m S) (h0:0<m) {F M:BitVec 32} {b8 b15 b n i:Nat} {e8 e15:Entry} {lkb fu:Bool} {evs:List Bev} {k:List Item} {τ:Tmps} {rs:List IRes} {P:Option (AVal × Heap)->Prop} {B:ICode}
  (hs:∀ q∈bouS b lkb fu (evs.map encBev)++[(b8,e8),(b15,e15)],q∈S) (hn:((bouS b lkb fu (evs.map encBev)++[(b8,e8),(b15,e15)]).map Prod.fst).Nodup)
  {v:AVal} (hv:v=.lit (.int .i64 i)) (hτ:keep τ [0,1,2,8,15,16,73,74]=[(0,.ptr 0 0),(1,.lit (.int .u32 F.toNat)),(2,.lit (.int .u32 M.toNat)),(8,.ptr b8 0),(15,.ptr b15 0),(16,bouV b evs.length),(73,.lit (.int .i64 n)),(74,v)])
  (hk:∀ H2,BS H2 L tk l f m (bouS b lkb fu (evs.map encBev)++[(b8,e8),(b15,e15)])->P (finK m rs (run E m (.code B::.inLoop [0,1,2,8,15,16,73,74] B::k) [(0,.ptr 0 0),(1,.lit (.int .u32 F.toNat)),(2,.lit (.int .u32 M.toNat)),(8,.ptr b8 0),(15,.ptr b15 0),(16,bouV b evs.length),(73,.lit (.int .i64 n)),(74,.lit (.int .i64 i))] H2))) :
  P (finK m rs (run E m (.inLoop [0,1,2,8,15,16,73,74] B::k) τ H)):=by
 subst hv
 have hl:liveT [0,1,2,8,15,16,73,74]=[0,1,2,8,15,16,73,74]:=rfl
 have hle:=bouS_le b lkb fu (evs.map encBev)
 refine BS.next h h0 rfl (ws:=0::b8::b15::(bouS b lkb fu (evs.map encBev)).map Prod.fst) ?_ ?_ ?_ hs ?_ hn ?_
 ·rw [hl,hτ,<- bou_refs];simp [refsT,refsV]
 ·simp;omega
 ·have hs2:∀ q∈bouS b lkb fu (evs.map encBev)++[(b8,e8),(b15,e15)],q.1∈S.map Prod.fst:=fun q hq=>List.mem_map_of_mem (hs q hq)
  intro x hx
  rcases mem_cons.1 hx with e | hx
  ·exact .inl e
  ·rcases mem_cons.1 hx with e | hx
   ·exact .inr (.inr (by rw [e];exact hs2 (b8,e8) (by simp)))
   ·rcases mem_cons.1 hx with e | hx
    ·exact .inr (.inr (by rw [e];exact hs2 (b15,e15) (by simp)))
    ·obtain ⟨q,hq,e⟩:=mem_map.1 hx
     exact .inr (.inr (by rw [<- e];exact hs2 q (mem_append_left _ hq)))
 ·intro q hq
  left
  rcases mem_append.1 hq with e | e
  ·exact mem_cons_of_mem _ (mem_cons_of_mem _ (mem_cons_of_mem _ (List.mem_map_of_mem e)))
  ·simp at e
   rcases e with e | e<;>simp [e]
 ·intro H2 hB
  rw [hl,hτ]
  exact hk H2 hB
theorem bf_tail {H:Heap} {L:List NdL} {tk:Nat} (htk:tk<=1000000000) {l f:Bool} {m:Nat} (h2:2<=m) {F M:BitVec 32} {b8 b15 b n i ix:Nat} (hi:i<=31) {e8 e15:Entry} {lkb fu:Bool} {evs:List Bev} {es:List (Nat × Fr)} (hes:evs.length+es.length<=1000000)
  (h:BS H L tk l f m (bouS b lkb fu (evs.map encBev)++[(b8,e8),(b15,e15)])) (hx:es≠[]->BS H L tk l f m ((ix,.arr true false false 15 (es.map encEv))::(bouS b lkb fu (evs.map encBev)++[(b8,e8),(b15,e15)])))
  {τ:Tmps} {rs:List IRes} {k:List Item} {P:Option (AVal × Heap)->Prop}
  (hτ:keep τ [0,1,2,8,15,16,17,73,74,103,104,105]=[(0,.ptr 0 0),(1,.lit (.int .u32 F.toNat)),(2,.lit (.int .u32 M.toNat)),(8,.ptr b8 0),(15,.ptr b15 0),(16,bouV b evs.length),(17,.lit (.int .i64 i)),(73,.lit (.int .i64 n)),(74,.lit (.int .i64 i)),(103,evV ix es),(104,.lit (.int .i64 es.length)),(105,.lit (.int .i64 0))])
  (hk:∀ H2 b lkb fu evs2,evs2=evs++es.map (tell tk i)->BS H2 L tk l f m (bouS b lkb fu (evs2.map encBev)++[(b8,e8),(b15,e15)])->P (finK m rs (run E m (.code L42_1::.inLoop [0,1,2,8,15,16,73,74] L42_1::.inBlock 2::k) [(0,.ptr 0 0),(1,.lit (.int .u32 F.toNat)),(2,.lit (.int .u32 M.toNat)),(8,.ptr b8 0),(15,.ptr b15 0),(16,bouV b evs2.length),(73,.lit (.int .i64 n)),(74,.lit (.int .i64 (i+1:Nat)))] H2))) :
  P (finK m rs (run E m (.inLoop [0,1,2,8,15,16,17,73,74,103,104,105] L42_2::.inBlock 4::.inBlock 3::.code (.reg [⟨none,some 121,.bin .add (.t 74) (.c (.lit (.int .i64 1)))⟩,⟨none,some 74,.copy (.t 121)⟩] [] [])::.inLoop [0,1,2,8,15,16,73,74] L42_1::.inBlock 2::k) τ H)):=by
 have w:=wrapIdx (i:=i) (by omega)
 have hl:liveT [0,1,2,8,15,16,17,73,74,103,104,105]=[0,1,2,8,15,16,17,73,74,103,104,105]:=rfl
 have hle:=bouS_le b lkb fu (evs.map encBev)
 have hnd:=h.nd
 by_cases he:es=[]
 ·subst he
  refine BS.next h (by omega) rfl (ws:=0::b8::b15::(bouS b lkb fu (evs.map encBev)).map Prod.fst) ?_ ?_ ?_ (fun q hq=>hq) ?_ hnd ?_
  ·rw [hl,hτ,<- bou_refs];simp [refsT,refsV,evV,nilS]
  ·simp;omega
  ·intro x hx
   simp at hx ⊢
   rcases hx with e | e | e | e
   ·exact .inl e
   ·exact .inr (.inr (.inr (.inl e)))
   ·exact .inr (.inr (.inr (.inr e)))
   ·exact .inr (.inr (.inl e))
  ·intro q hq
   left
   simp at hq ⊢
   rcases hq with e | e | e
   ·exact .inr (.inr (.inr ⟨q.2,e⟩))
   ·simp [e]
   ·simp [e]
  ·intro H2 hB
   rw [hl,hτ]
   have hk2:=hk H2 b lkb fu evs (by simp)
   simp [go_sem,r9c E L42_2.eq_1,w]
   exact bf_next1 hB (by omega) (i:=i+1) (fun q hq=>hq) hnd (v:=.lit (.int .i64 ((i:Int)+1))) (by simp) rfl (fun H3 hB3=>hk H3 b lkb fu evs (by simp) hB3)
 ·have hx:=hx he
  have hnx:=hx.nd
  have hperm:∀ q∈bouS b lkb fu (evs.map encBev)++[(ix,.arr true false false 15 (es.map encEv)),(b8,e8),(b15,e15)],q∈(ix,.arr true false false 15 (es.map encEv))::(bouS b lkb fu (evs.map encBev)++[(b8,e8),(b15,e15)]):=by
   intro q hq
   simp at hq ⊢
   rcases hq with e | e | e | e<;>simp [e]
  have hnd2:((bouS b lkb fu (evs.map encBev)++[(ix,.arr true false false 15 (es.map encEv)),(b8,e8),(b15,e15)]).map Prod.fst).Nodup:=by
   refine (List.Perm.nodup_iff (List.Perm.map _ ?_)).1 hnx
   exact List.perm_middle.symm
  have hev:evV ix es=.own ix es.length 15 0 es.length:=by unfold evV;rw [if_neg he]
  rw [hev] at hτ
  refine BS.next hx (by omega) rfl (ws:=0::b8::b15::((bouS b lkb fu (evs.map encBev)).map Prod.fst++[ix])) ?_ ?_ ?_ hperm ?_ hnd2 ?_
  ·rw [hl,hτ,<- bou_refs];simp [refsT,refsV]
  ·simp;omega
  ·intro x hx
   simp at hx ⊢
   rcases hx with e | e | e | e | e
   ·exact .inl e
   ·simp [e]
   ·simp [e]
   ·exact .inr (.inr (.inr (.inl e)))
   ·simp [e]
  ·intro q hq
   left
   simp at hq ⊢
   rcases hq with e | e | e | e
   ·exact .inr (.inr (.inr (.inl ⟨q.2,e⟩)))
   ·simp [e]
   ·simp [e]
   ·simp [e]
  ·intro H2 hB
   rw [hl,hτ]
   refine bf_loop2 F M L tk htk l f m h2 b8 b15 e8 e15 n i es ix false false evs hes rs _ P ?_ es.length 0 (by omega) H2 b lkb fu evs (by simp) hB
   intro H3 b3 lkb3 fu3 evs3 he3 hB3 τ3 hτ3
   have hτ4:keep ((74,AVal.lit (.int .i64 ((i:Int)+1)))::(121,AVal.lit (.int .i64 ((i:Int)+1)))::τ3) [0,1,2,8,15,16,73,74]=[(0,.ptr 0 0),(1,.lit (.int .u32 F.toNat)),(2,.lit (.int .u32 M.toNat)),(8,.ptr b8 0),(15,.ptr b15 0),(16,bouV b3 evs3.length),(73,.lit (.int .i64 n)),(74,.lit (.int .i64 ((i:Int)+1)))]:=by
    simp [keep,lk] at hτ3 ⊢
    simp [hτ3]
   have h74:lk 74 τ3=.lit (.int .i64 i):=by simp [keep] at hτ3;exact hτ3.2.2.2.2.2.2.2
   simp [go_sem,h74,w]
   exact bf_next1 hB3 (by omega) (i:=i+1) (fun q hq=>hq) hB3.nd (v:=.lit (.int .i64 ((i:Int)+1))) (by simp) hτ4 (fun H4 hB4=>hk H4 b3 lkb3 fu3 evs3 he3 hB4)
theorem bf_loop1 (F M x:BitVec 32) (lev:Bool) (tk:Nat) (htk:tk<=1000000000) (l f:Bool) (m:Nat) (h2:2<=m) (b8 b15:Nat) (e8:Entry) (N:Nat) (hN:N<=32) (N2:List Nd) (E2:List Bev) (hE:E2.length<=1000000) (rs:List IRes) (k:List Item) (P:Option (AVal × Heap)->Prop)
  (hk:∀ H L b lkb fu τ,L.map NdL.n=N2->BS H L tk l f m (bouS b lkb fu (E2.map encBev)++[(b8,e8),(b15,runE lev x)])->lk 0 τ=.ptr 0 0->lk 8 τ=.ptr b8 0->lk 15 τ=.ptr b15 0->lk 16 τ=bouV b E2.length->P (finK m rs (run E m k τ H))) :
  ∀ (d i:Nat),i+d=N->∀ (H:Heap) (L:List NdL) (b:Nat) (lkb fu:Bool) (evs:List Bev),L.length=N->(∀ p∈L.drop i,p.n.Inv/\p.n.k<=1000000000)->(L.take i).map NdL.n++stepL F M lev ((L.drop i).map NdL.n) i=N2->evs++evL F M lev tk ((L.drop i).map NdL.n) i=E2 ->
  BS H L tk l f m (bouS b lkb fu (evs.map encBev)++[(b8,e8),(b15,runE lev x)]) ->
  P (finK m rs (run E m (.code L42_1::.inLoop [0,1,2,8,15,16,73,74] L42_1::.inBlock 2::k) [(0,.ptr 0 0),(1,.lit (.int .u32 F.toNat)),(2,.lit (.int .u32 M.toNat)),(8,.ptr b8 0),(15,.ptr b15 0),(16,bouV b evs.length),(73,.lit (.int .i64 N)),(74,.lit (.int .i64 i))] H)):=by
 intro d
 induction d with
 | zero =>
  intro i hi H L b lkb fu evs hLl hI hL hev h
  have hlt:((i:Int)<(N:Int))=False:=eq_false (by omega)
  rw [List.drop_eq_nil_of_le (by omega)] at hL hev
  rw [List.take_of_length_le (by omega)] at hL
  simp [stepL,evL] at hL hev
  simp [go_sem,r9c E L42_1.eq_1,hlt]
  rw [<- hev] at hk
  exact hk H L b lkb fu _ hL h rfl rfl rfl rfl
 | succ d ih =>
  intro i hi H L b lkb fu evs hLl hI hL hev h
  have hlt:((i:Int)<(N:Int))=True:=eq_true (by omega)
  have hltn:i<L.length:=by omega
  have hltN:i<N:=by omega
  have w:=wrapIdx (i:=i) (by omega)
  have hw18:IntKind.wrap .i64 (1 - lv lev)=lv (!lev):=by cases lev<;>rfl
  obtain ⟨p,hp⟩:∃ p,L[i]?=some p:=⟨_,getElem?_eq_getElem hltn⟩
  have hpe:L[i]=p:=(List.getElem?_eq_some_iff.1 hp).2
  have hdr:L.drop i=p::L.drop (i+1):=by rw [List.drop_eq_getElem_cons hltn,hpe]
  rw [hdr] at hL hev hI
  obtain ⟨hIp,hkp⟩:=hI p (by simp)
  have hI2:∀ q∈L.drop (i+1),q.n.Inv/\q.n.k<=1000000000:=fun q hq=>hI q (by simp [hq])
  have gb:=h.w.bus.box
  have g15:H[b15]?=some (runE lev x):=h.get (b15,runE lev x) (by simp)
  have hb15:=lt_of_get g15
  unfold runE at g15
  have g15e:∀ q:b15<H.length,H[b15]=.box [.lit (.int .i64 1),.lit (.int .i64 (lv lev)),.lit (.int .u32 x.toNat)]:=fun q=>(List.getElem?_eq_some_iff.1 g15).2
  have gp:=ptrs_get hp
  have gp2:∀ (q:i<(ptrsL L).length),(ptrsL L)[i]=[.ptr p.a 0]:=fun q=>(List.getElem?_eq_some_iff.1 gp).2
  have gl:(ptrsL L).length=N:=by rw [ptrs_len];exact hLl
  have ga:=h.w.bus.arr
  have hsM:=has_spec M i (by omega)
  have hsF:=has_spec F i (by omega)
  have hneg:((i:Int)<0)=False:=eq_false (by omega)
  have hNd:((bouS b lkb fu (evs.map encBev)++[(b8,e8),(b15,runE lev x)]).map Prod.fst).Nodup:=h.nd
  cases hM:M.getLsbD i
  ·rw [hM] at hsM
   simp only [map_cons,stepL,evL,hM,if_neg (Bool.false_ne_true)] at hL hev
   cases hF:F.getLsbD i
   ·rw [hF] at hsF hL hev
    simp only [Bool.xor_false] at hL hev
    have hev0:evs.length+(evN p.n lev).length<=1000000:=by
     rw [<- hev] at hE
     simp at hE;omega
    obtain ⟨wx,hw⟩:=(h.w.bus.nds p (mem_of_getElem? hp)).w
    obtain ⟨H2,fs2,ix,w2,hs,hn2,har,hes,-,hqb⟩:=step_atW hw hIp hkp lev
    have hlen:aop (call E) (fun _=>evV ix (evN p.n lev)) H2 (.len (.t 0))=some (.lit (.int .i64 (evN p.n lev).length),H2):=by
     unfold evV
     split
     ·rename_i h;rw [h];rfl
     ·rfl
    simp [go_sem,r9c E L42_1.eq_1,hlt,hsM,hsF,w,locks,g15,g15e,gb,ga,gp,gp2,gl,hLl,hltN,hs,hw18]
    simp [go_sem] at hlen
    rw [hlen]
    simp [go_sem]
    refine bf_tail htk h2 (by omega) hev0 (h.node hp hn2.at har hqb) (fun he=>h.more hp hn2.at har hqb (hes he).1 (hes he).2.1 (hes he).2.2) rfl ?_
    intro H3 b3 lkb3 fu3 evs3 he3 hB3
    refine ih (i+1) (by omega) H3 (L.set i ⟨p.a,nxN p.n lev,fs2⟩) b3 lkb3 fu3 evs3 (by rw [List.length_set];exact hLl) ?_ ?_ ?_ hB3
    ·rw [List.drop_set_of_lt (by omega)];exact hI2
    ·rw [set_take hltn,List.drop_set_of_lt (by omega),map_append,<- hL];simp
    ·rw [List.drop_set_of_lt (by omega),he3,<- hev,List.append_assoc]
   ·rw [hF] at hsF hL hev
    simp only [Bool.xor_true] at hL hev
    have hev0:evs.length+(evN p.n (!lev)).length<=1000000:=by
     rw [<- hev] at hE
     simp at hE;omega
    obtain ⟨wx,hw⟩:=(h.w.bus.nds p (mem_of_getElem? hp)).w
    obtain ⟨H2,fs2,ix,w2,hs,hn2,har,hes,-,hqb⟩:=step_atW hw hIp hkp (!lev)
    have hlen:aop (call E) (fun _=>evV ix (evN p.n (!lev))) H2 (.len (.t 0))=some (.lit (.int .i64 (evN p.n (!lev)).length),H2):=by
     unfold evV
     split
     ·rename_i h;rw [h];rfl
     ·rfl
    simp [go_sem,r9c E L42_1.eq_1,hlt,hsM,hsF,w,locks,g15,g15e,gb,ga,gp,gp2,gl,hLl,hltN,hs,hw18]
    simp [go_sem] at hlen
    rw [hlen]
    simp [go_sem]
    refine bf_tail htk h2 (by omega) hev0 (h.node hp hn2.at har hqb) (fun he=>h.more hp hn2.at har hqb (hes he).1 (hes he).2.1 (hes he).2.2) rfl ?_
    intro H3 b3 lkb3 fu3 evs3 he3 hB3
    refine ih (i+1) (by omega) H3 (L.set i ⟨p.a,nxN p.n (!lev),fs2⟩) b3 lkb3 fu3 evs3 (by rw [List.length_set];exact hLl) ?_ ?_ ?_ hB3
    ·rw [List.drop_set_of_lt (by omega)];exact hI2
    ·rw [set_take hltn,List.drop_set_of_lt (by omega),map_append,<- hL];simp
    ·rw [List.drop_set_of_lt (by omega),he3,<- hev,List.append_assoc]
  ·rw [hM] at hsM
   simp only [map_cons,stepL,evL,hM,if_true,List.nil_append] at hL hev
   have ih2:=fun H2 hB=>ih (i+1) (by omega) H2 L b lkb fu evs hLl hI2 (by
    rw [List.take_succ_eq_append_getElem hltn,map_append,hpe,<- hL];simp) hev hB
   simp [go_sem,r9c E L42_1.eq_1,hlt,hsM,w,locks]
   exact bf_next1 h (by omega) (i:=i+1) (fun q hq=>hq) hNd (v:=.lit (.int .i64 ((i:Int)+1))) (by simp) rfl (fun H2 hB=>by
    have:=ih2 H2 hB
    simpa using this)
structure KOk (n:Nd):Prop where
 k0:n.mode=0->n.k<=10
 k3:n.mode=3∨n.mode=5->n.k<=5
 k4:n.mode=4->n.k<=5
 k7:n.mode=7->1<=n.k/\n.k<=7
 k8:n.mode=8->n.k<=2
 k9:n.mode=9->n.k<=7
 k10:n.mode=10->n.k<=10
theorem KOk.zero {n:Nd} (h:n.k=0) (h7:n.mode≠7):KOk n:=⟨fun _=>by omega,fun _=>by omega,fun _=>by omega,fun q=>absurd q h7,fun _=>by omega,fun _=>by omega,fun _=>by omega⟩
theorem KOk.calm {n:Nd} (h:n.mode=1∨n.mode=2∨n.mode=6):KOk n:=⟨fun _=>by omega,fun _=>by omega,fun _=>by omega,fun _=>by omega,fun _=>by omega,fun _=>by omega,fun _=>by omega⟩
theorem KOk.of {m:Nd} {x y:Nat} (hx:m.mode=x) (hy:m.k=y) (h:(x=0->y<=10)/\(x=3∨x=5->y<=5)/\(x=4->y<=5)/\(x=7->1<=y/\y<=7)/\(x=8->y<=2)/\(x=9->y<=7)/\(x=10->y<=10)):KOk m:=by
 subst hx hy
 obtain ⟨h1,h2,h3,h4,h5,h6,h7⟩:=h
 exact ⟨h1,h2,h3,h4,h5,h6,h7⟩
theorem fl_len (n:Nd) (kd:Nat) (c:Bool):(failN n kd c).1.length<=2:=by
 unfold failN;repeat' split
 all_goals simp
theorem k_len (n:Nd) (b:Bool):(stepN n b).1.length<=2:=by
 have hf:=fl_len n
 have hf2:=fl_len { n with tx:=true } 4 true
 have hn:(nackN n).1.length<=2:=hf 8 _
 unfold stepN
 split
 ·exact Nat.zero_le _
 ·unfold idleN;repeat' split
  ·exact Nat.zero_le _
  ·exact Nat.zero_le _
  ·exact hf2
 ·unfold inN;repeat' split
  all_goals first | exact hf 4 true | exact hf 5 true | exact hf 5 false | exact hf 6 true | exact hf 7 true | exact hn | (show ([]:List Nat).length<=2;simp;done) | (simp;done) | (unfold overN;simp;done)
 ·unfold domN;repeat' split
  all_goals (simp [noFr])
 ·unfold pasN;repeat' split
  all_goals (simp [noFr])
 ·unfold domN;repeat' split
  all_goals (simp [noFr])
 ·unfold waitN;repeat' split
  all_goals (simp [noFr])
 ·unfold closeN overN;repeat' split
  all_goals first | exact hf 7 true | simp [noFr]
 ·unfold pausN pauseN overN;repeat' split
  all_goals (simp [noFr])
 ·unfold sspN suspN;repeat' split
  all_goals (simp [noFr])
 ·unfold offN;repeat' split
  all_goals (simp [noFr])
theorem e_len (n:Nd) (b:Bool):(evN n b).length<=2:=by
 unfold evN evsOf;rw [length_map];exact k_len n b
def lvlsN (M D:BitVec 32) (ns:List Nd):BitVec 32:=lvlF M D ns 0 (BitVec.allOnes 32)
def busN (M D:BitVec 32) (ns:List Nd):Bool:=decide (lvlsN M D ns=BitVec.allOnes 32)
def forceN (F M D:BitVec 32) (ns:List Nd):List Nd:=stepL F M (busN M D ns) ns 0
def forceE (F M D:BitVec 32) (tk:Nat) (ns:List Nd):List Bev:=evL F M (busN M D ns) tk ns 0
def fitsB (x:BitVec 32) (n:Nat):Bool:=decide (x.toNat<2 ^ n)
theorem stepL_len (F M:BitVec 32) (b:Bool):∀ (ns:List Nd) (i:Nat),(stepL F M b ns i).length=ns.length
 | [],_=>rfl
 | n::r,i=>by rw [stepL,List.length_cons,List.length_cons,stepL_len F M b r (i+1)]
structure Left (Hf:Heap) (Lf:List NdL) (tk:Nat) (l f:Bool) (m:Nat) (b:Nat) (evs:List Bev):Prop where
 bus:BusAt Hf 0 1 Lf tk l f
 quiet:Quiet Hf (footB 0 1 Lf)
 len:m<=Hf.length
 row:evs≠[]->(∃ lkb fu,Hf[b]?=some (.arr true lkb fu 15 (evs.map encBev)))/\b ∉ footB 0 1 Lf/\m<=b
theorem left_ret {H:Heap} {L:List NdL} {tk:Nat} {l f:Bool} {m:Nat} (h2:2<=m) {b:Nat} {lkb fu:Bool} {evs:List Bev} {S:List (Nat × Entry)} (h:BS H L tk l f m (bouS b lkb fu (evs.map encBev)++S)) (v1 v3:AVal) (hv1:flatV v1=true) (hv3:flatV v3=true) :
  ∃ b2 Hf Lf,gcRet m (.tup [v1,bouV b evs.length,v3]) H=some (.tup [v1,bouV b2 evs.length,v3],Hf)/\Lf.map NdL.n=L.map NdL.n/\Left Hf Lf tk l f m b2 evs:=by
 have hr:refsV (.tup [v1,bouV b evs.length,v3])=refsV (bouV b evs.length):=by
  show refsV v1++(refsV (bouV b evs.length)++(refsV v3++[]))=_
  rw [refsV_flat _ hv1,refsV_flat _ hv3];simp
 have hrr:∀ i∈refsV (bouV b evs.length),i=b/\evs≠[]:=by
  intro i hi
  cases evs with
  | nil=>simp [bouV,nilS,refsV] at hi
  | cons e r=>simp [bouV,refsV] at hi;exact ⟨hi,by simp⟩
 have hS:evs≠[]->(b,Entry.arr true lkb fu 15 (evs.map encBev))∈bouS b lkb fu (evs.map encBev)++S:=fun he=>by
  unfold bouS;rw [if_neg (by simpa using he)];simp
 obtain ⟨g,Hf,Lf,e1,e2,e3,e4,e5,e6⟩:=ret_bus h.w.bus h.w.le h.w.quiet h2 h.len (v:=.tup [v1,bouV b evs.length,v3]) (by
  rw [hr];unfold bouV;split<;>simp [refsV,nilS]) (fun i hi=>by
  rw [hr] at hi
  obtain ⟨e,he⟩:=hrr i hi
  rw [e]
  exact ⟨h.lt (hS he),h.out _ (hS he)⟩)
 refine ⟨g b,Hf,Lf,?_,e2,e3,e4,e5,fun he=>?_⟩
 ·rw [e1]
  simp only [renV,renL]
  rw [renV_flat _ _ hv1,renV_flat _ _ hv3]
  congr 5
  unfold bouV;split<;>rfl
 ·have hb:b∈refsV (.tup [v1,bouV b evs.length,v3]):=by
   rw [hr];unfold bouV;rw [if_neg (by simpa using he)];simp [refsV]
  have h1:=e6 b hb _ (h.get _ (hS he))
  exact ⟨⟨lkb,fu,by rw [h1.1];simp [renE]⟩,h1.2.1,h1.2.2 (h.ge _ (hS he))⟩
theorem evL_len (F M:BitVec 32) (b:Bool) (tk:Nat):∀ (ns:List Nd) (i:Nat),(evL F M b tk ns i).length<=2 * ns.length
 | [],_=>by simp [evL]
 | n::r,i=>by
  have h1:=evL_len F M b tk r (i+1)
  have h2:=e_len n (b ^^ F.getLsbD i)
  rw [evL,length_append,List.length_cons]
  split
  ·simp;omega
  ·rw [length_map];omega
theorem finK_to {m:Nat} {τ:Tmps} {H:Heap} {vs:List AVal} {v:AVal} {Hf:Heap} {rs:List IRes} (h:aresults τ H rs=some vs) (h2:gcRet m (packed vs) H=some (v,Hf)):finK m rs (some (some .ret,τ,H))=some (v,Hf):=by
 show (aresults τ H rs).bind (fun vs=>gcRet m (packed vs) H)=_
 rw [h];exact h2
theorem shr_fit (x:BitVec 32) (n:Nat) (hn:n<=32):(((x.toNat:Int).fdiv (2 ^ (min n 64))=0))=(fitsB x n=true):=by
 rw [Nat.min_eq_left (by omega),Int.fdiv_eq_ediv_of_nonneg _ (Int.pow_nonneg (by omega))]
 unfold fitsB
 rw [decide_eq_true_eq]
 apply propext
 norm_cast
 rw [Nat.div_eq_zero_iff]
 have:0<2 ^ n:=Nat.pow_pos (by omega)
 omega
theorem bforce_spec {Hc:Heap} {Lc:List NdL} {tk:Nat} {l f:Bool} (h:BusC Hc Lc tk l f) (hl:Lc.length<=32) (hI:∀ p∈Lc,p.n.Inv/\p.n.k<=1000000000) (htk:tk<=1000000000) (F M D:BitVec 32) (hfit:fitsB (F ||| M) Lc.length=true) :
  ∃ b2 Hf Lf,call E (.func (.func 42) [] []) [.ptr 0 0,.lit (.int .u32 F.toNat),.lit (.int .u32 M.toNat),.lit (.int .u32 D.toNat)] Hc=some (.tup [.agg [.lit (.int .i64 1),.lit (.int .i64 (lv (busN M D (Lc.map NdL.n)))),.lit (.int .u32 (lvlsN M D (Lc.map NdL.n)).toNat)],bouV b2 (forceE F M D tk (Lc.map NdL.n)).length,.lit (.int .i64 0)],Hf) /\
   Lf.map NdL.n=forceN F M D (Lc.map NdL.n)/\Left Hf Lf (tk+1) l f Hc.length b2 (forceE F M D tk (Lc.map NdL.n)):=by
 have hor:=ior_bv F M
 have hsf:=shr_fit (F ||| M) Lc.length hl
 rw [hfit] at hsf
 generalize F ||| M=FM at hor hsf
 have hm:2<=Hc.length:=by rw [h.len];omega
 have gb:=h.bus.box
 have hwu:IntKind.wrap .u64 (FM.toNat:Int)=FM.toNat:=by
  have:=FM.isLt
  rw [show IntKind.wrap .u64 (FM.toNat:Int)=(FM.toNat:Int) % 18446744073709551616 from rfl];omega
 have hneg:((Lc.length:Int)<0)=False:=eq_false (by omega)
 have gbX:∀ X:Heap,(Hc++X)[0]?=some (.box [.own 1 Lc.length 1 0 Lc.length,.lit (.int .i64 tk)]):=fun X=>by rw [getElem?_append_left (lt_of_get gb)];exact gb
 have gbX2:∀ (X:Heap) (q:0<(Hc++X).length),(Hc++X)[0]=.box [.own 1 Lc.length 1 0 Lc.length,.lit (.int .i64 tk)]:=fun X q=>(List.getElem?_eq_some_iff.1 (gbX X)).2
 have h0:BS Hc Lc tk l f Hc.length []:=⟨⟨h.bus,h.quiet,hl⟩,by simp,by simp,by simp,Nat.le_refl _,by simp⟩
 have hB:=h0.app (e:=.box [.lit (.int .i64 0),.lit (.int .i64 0),.lit (.int .u32 0)]) rfl
 generalize hns:Lc.map NdL.n=ns
 have key:∀ P:Option (AVal × Heap)->Prop,(∀ b2 Hf Lf,Lf.map NdL.n=forceN F M D ns/\Left Hf Lf (tk+1) l f Hc.length b2 (forceE F M D tk ns)->P (some (.tup [.agg [.lit (.int .i64 1),.lit (.int .i64 (lv (busN M D ns))),.lit (.int .u32 (lvlsN M D ns).toNat)],bouV b2 (forceE F M D tk ns).length,.lit (.int .i64 0)],Hf))) ->
   P (call E (.func (.func 42) [] []) [.ptr 0 0,.lit (.int .u32 F.toNat),.lit (.int .u32 M.toNat),.lit (.int .u32 D.toNat)] Hc):=by
  intro P hP
  rw [c9f E E42]
  simp [go_sem,ir42,gbX,gbX2,hor,hwu,hneg,hsf]
  refine BS.next hB (by omega) rfl (ws:=[0,Hc.length,1]) rfl (by simp) (by simp) (fun q hq=>hq) (by simp) hB.nd ?_
  intro H2 hB2
  refine bf_loop0 F M D Lc (fun p hp=>(hI p hp).1) tk l f Hc.length hm Hc.length _ _ _ P ?_ (hB2.out _ (List.mem_cons_self ..)) Lc.length 0 (by omega) H2 (BitVec.allOnes 32) hB2.w (hB2.get _ (List.mem_cons_self ..)) hB2.len rfl
  intro H3 τ t0 t1 t2 t8 t11 w3 g8 m3
  have hB3:BS H3 Lc tk l f Hc.length [(Hc.length,.box [.lit (.int .i64 0),.lit (.int .i64 0),.lit (.int .u32 0)])]:=⟨w3,by simpa using g8,hB2.out,hB2.nd,m3,by simp⟩
  rw [hns] at t11
  have hx:lvlF M D ns 0 (BitVec.allOnes 32)=lvlsN M D ns:=rfl
  rw [hx] at t11
  have hlev:busN M D ns=decide (lvlsN M D ns=BitVec.allOnes 32):=rfl
  have hdec:(((lvlsN M D ns).toNat:Int)=4294967295)=(lvlsN M D ns=BitVec.allOnes 32):=by
   apply propext
   constructor
   ·intro e;apply BitVec.eq_of_toNat_eq;have:(lvlsN M D ns).toNat=4294967295:=by omega
    rw [this];rfl
   ·intro e;rw [e];rfl
  generalize lvlsN M D ns=x at t11 hdec hlev hP ⊢
  unfold forceN forceE at hP
  generalize busN M D ns=lev at hlev hP
  have gb3:=hB3.w.bus.box
  have gbY:∀ X:Heap,(H3++X)[0]?=some (.box [.own 1 Lc.length 1 0 Lc.length,.lit (.int .i64 tk)]):=fun X=>by rw [getElem?_append_left (lt_of_get gb3)];exact gb3
  have gbY2:∀ (X:Heap) (q:0<(H3++X).length),(H3++X)[0]=.box [.own 1 Lc.length 1 0 Lc.length,.lit (.int .i64 tk)]:=fun X q=>(List.getElem?_eq_some_iff.1 (gbY X)).2
  have hd:(((x.toNat:Int)=4294967295))=(lev=true):=by
   rw [hdec,hlev];simp
  clear hdec hlev
  have hE:(evL F M lev tk ns 0).length<=1000000:=by
   have:=evL_len F M lev tk ns 0
   have h2:ns.length=Lc.length:=by rw [<- hns,length_map]
   omega
  cases lev
  ·have hd:¬ ((x.toNat:Int)=4294967295):=by rw [hd];simp
   simp [go_sem,t0,t1,t2,t8,t11,gbY,gbY2]
   rw [if_neg hd]
   refine bf_next1 (F:=F) (M:=M) (b8:=Hc.length) (b15:=H3.length) (b:=0) (n:=Lc.length) (i:=0) (e8:=.box [.lit (.int .i64 0),.lit (.int .i64 0),.lit (.int .u32 0)]) (e15:=runE false x) (lkb:=false) (fu:=false) (evs:=[]) (hB3.app (e:=runE false x) rfl) (by omega) ?_ ?_ (v:=.lit (.int .i64 0)) rfl ?_ ?_
   ·simp [bouS]
   ·have:=hB3.lt (List.mem_cons_self ..)
    simp [bouS];simp at this;omega
   ·simp [keep,lk,t0,t1,t2,t8,bouV,nilS]
   ·intro H4 hB4
    refine bf_loop1 F M x false tk htk l f Hc.length hm Hc.length H3.length _ Lc.length hl (stepL F M false ns 0) (evL F M false tk ns 0) hE _ _ P ?_ Lc.length 0 (by omega) H4 Lc 0 false false [] rfl (by simpa using hI) (by rw [<- hns];rfl) (by rw [<- hns];rfl) hB4
    intro H5 L5 b5 lkb5 fu5 τ5 hN5 hB5 u0 u8 u15 u16
    have hL5:L5.length=Lc.length:=by
     have:=congrArg List.length hN5
     rw [length_map,stepL_len,<- hns,length_map] at this
     exact this
    have gb5:=hB5.w.bus.box
    have hT:=hB5.tick (tk+1)
    have wt:IntKind.wrap .i64 ((tk:Int)+1)=(tk:Int)+1:=by have:=wrapIdx (i:=tk) (by omega);simpa using this
    have g15:(List.set H5 0 (.box [.own 1 L5.length 1 0 L5.length,.lit (.int .i64 ((tk:Int)+1))]))[H3.length]?=some (runE false x):=by
     have:=hT.get (H3.length,runE false x) (by simp)
     simpa using this
    have g8:(List.set H5 0 (.box [.own 1 L5.length 1 0 L5.length,.lit (.int .i64 ((tk:Int)+1))]))[Hc.length]?=some (.box [.lit (.int .i64 0),.lit (.int .i64 0),.lit (.int .u32 0)]):=by
     have:=hT.get (Hc.length,.box [.lit (.int .i64 0),.lit (.int .i64 0),.lit (.int .u32 0)]) (by simp)
     simpa using this
    have hnT:=hT.nd
    have hU:=(hT.sub (S2:=(Hc.length,.box [.lit (.int .i64 0),.lit (.int .i64 0),.lit (.int .u32 0)])::bouS b5 lkb5 fu5 ((evL F M false tk ns 0).map encBev)) (by
     intro q hq
     rcases mem_cons.1 hq with e | e
     ·rw [e];simp
     ·exact mem_append_left _ e) (by
     rw [map_append,List.nodup_append] at hnT
     rw [map_cons,nodup_cons]
     refine ⟨fun q=>hnT.2.2 _ q Hc.length (by simp) rfl,hnT.1⟩)).put (e:=runE false x) rfl
    have hnU:=hU.nd
    rw [map_cons,nodup_cons] at hnU
    have hV:=hU.sub (S2:=bouS b5 lkb5 fu5 ((evL F M false tk ns 0).map encBev)++[]) (by
     intro q hq
     rw [List.append_nil] at hq
     exact mem_cons_of_mem _ hq) (by rw [List.append_nil];exact hnU.2)
    have g8U:=hU.get _ (List.mem_cons_self ..)
    obtain ⟨b2,Hf,Lf,r1,r2,r3⟩:=left_ret hm hV (.agg [.lit (.int .i64 1),.lit (.int .i64 (lv false)),.lit (.int .u32 x.toNat)]) (.lit (.int .i64 0)) rfl rfl
    have hPP:=hP b2 Hf Lf ⟨r2.trans hN5,r3⟩
    rw [show ((tk+1:Nat):Int)=(tk:Int)+1 by simp] at g8U r1
    unfold runE at g15 g8U r1
    have g8l:=lt_of_get g8
    have g15l:=lt_of_get g15
    generalize hH6:List.set H5 0 (.box [.own 1 L5.length 1 0 L5.length,.lit (.int .i64 ((tk:Int)+1))])=H6 at g15 g8 g8U r1 g8l g15l
    have g15b:∀ (q:H3.length<H6.length),H6[H3.length]=_:=fun q=>(List.getElem?_eq_some_iff.1 g15).2
    have g8b:∀ (q:Hc.length<H6.length),H6[Hc.length]=_:=fun q=>(List.getElem?_eq_some_iff.1 g8).2
    generalize hK:finK Hc.length [IRes.cell 8 true 3,IRes.tmp 9,IRes.tmp 10]=K
    simp [go_sem,u0,u8,u15,u16,gb5,wt,hH6,g15,g15b,g8,g8b,g8l]
    rw [<- hK,finK_to (vs:=[.agg [.lit (.int .i64 1),.lit (.int .i64 (lv false)),.lit (.int .u32 x.toNat)],bouV b5 (evL F M false tk ns 0).length,.lit (.int .i64 0)]) (by simp [go_sem,u8,g8l]) r1]
    exact hPP
  ·have hd:(x.toNat:Int)=4294967295:=by rw [hd]
   simp [go_sem,t0,t1,t2,t8,t11,gbY,gbY2]
   rw [if_pos hd]
   refine bf_next1 (F:=F) (M:=M) (b8:=Hc.length) (b15:=H3.length) (b:=0) (n:=Lc.length) (i:=0) (e8:=.box [.lit (.int .i64 0),.lit (.int .i64 0),.lit (.int .u32 0)]) (e15:=runE true x) (lkb:=false) (fu:=false) (evs:=[]) (hB3.app (e:=runE true x) rfl) (by omega) ?_ ?_ (v:=.lit (.int .i64 0)) rfl ?_ ?_
   ·simp [bouS]
   ·have:=hB3.lt (List.mem_cons_self ..)
    simp [bouS];simp at this;omega
   ·simp [keep,lk,t0,t1,t2,t8,bouV,nilS]
   ·intro H4 hB4
    refine bf_loop1 F M x true tk htk l f Hc.length hm Hc.length H3.length _ Lc.length hl (stepL F M true ns 0) (evL F M true tk ns 0) hE _ _ P ?_ Lc.length 0 (by omega) H4 Lc 0 false false [] rfl (by simpa using hI) (by rw [<- hns];rfl) (by rw [<- hns];rfl) hB4
    intro H5 L5 b5 lkb5 fu5 τ5 hN5 hB5 u0 u8 u15 u16
    have hL5:L5.length=Lc.length:=by
     have:=congrArg List.length hN5
     rw [length_map,stepL_len,<- hns,length_map] at this
     exact this
    have gb5:=hB5.w.bus.box
    have hT:=hB5.tick (tk+1)
    have wt:IntKind.wrap .i64 ((tk:Int)+1)=(tk:Int)+1:=by have:=wrapIdx (i:=tk) (by omega);simpa using this
    have g15:(List.set H5 0 (.box [.own 1 L5.length 1 0 L5.length,.lit (.int .i64 ((tk:Int)+1))]))[H3.length]?=some (runE true x):=by
     have:=hT.get (H3.length,runE true x) (by simp)
     simpa using this
    have g8:(List.set H5 0 (.box [.own 1 L5.length 1 0 L5.length,.lit (.int .i64 ((tk:Int)+1))]))[Hc.length]?=some (.box [.lit (.int .i64 0),.lit (.int .i64 0),.lit (.int .u32 0)]):=by
     have:=hT.get (Hc.length,.box [.lit (.int .i64 0),.lit (.int .i64 0),.lit (.int .u32 0)]) (by simp)
     simpa using this
    have hnT:=hT.nd
    have hU:=(hT.sub (S2:=(Hc.length,.box [.lit (.int .i64 0),.lit (.int .i64 0),.lit (.int .u32 0)])::bouS b5 lkb5 fu5 ((evL F M true tk ns 0).map encBev)) (by
     intro q hq
     rcases mem_cons.1 hq with e | e
     ·rw [e];simp
     ·exact mem_append_left _ e) (by
     rw [map_append,List.nodup_append] at hnT
     rw [map_cons,nodup_cons]
     refine ⟨fun q=>hnT.2.2 _ q Hc.length (by simp) rfl,hnT.1⟩)).put (e:=runE true x) rfl
    have hnU:=hU.nd
    rw [map_cons,nodup_cons] at hnU
    have hV:=hU.sub (S2:=bouS b5 lkb5 fu5 ((evL F M true tk ns 0).map encBev)++[]) (by
     intro q hq
     rw [List.append_nil] at hq
     exact mem_cons_of_mem _ hq) (by rw [List.append_nil];exact hnU.2)
    have g8U:=hU.get _ (List.mem_cons_self ..)
    obtain ⟨b2,Hf,Lf,r1,r2,r3⟩:=left_ret hm hV (.agg [.lit (.int .i64 1),.lit (.int .i64 (lv true)),.lit (.int .u32 x.toNat)]) (.lit (.int .i64 0)) rfl rfl
    have hPP:=hP b2 Hf Lf ⟨r2.trans hN5,r3⟩
    rw [show ((tk+1:Nat):Int)=(tk:Int)+1 by simp] at g8U r1
    unfold runE at g15 g8U r1
    have g8l:=lt_of_get g8
    have g15l:=lt_of_get g15
    generalize hH6:List.set H5 0 (.box [.own 1 L5.length 1 0 L5.length,.lit (.int .i64 ((tk:Int)+1))])=H6 at g15 g8 g8U r1 g8l g15l
    have g15b:∀ (q:H3.length<H6.length),H6[H3.length]=_:=fun q=>(List.getElem?_eq_some_iff.1 g15).2
    have g8b:∀ (q:Hc.length<H6.length),H6[Hc.length]=_:=fun q=>(List.getElem?_eq_some_iff.1 g8).2
    generalize hK:finK Hc.length [IRes.cell 8 true 3,IRes.tmp 9,IRes.tmp 10]=K
    simp [go_sem,u0,u8,u15,u16,gb5,wt,hH6,g15,g15b,g8,g8b,g8l]
    rw [<- hK,finK_to (vs:=[.agg [.lit (.int .i64 1),.lit (.int .i64 (lv true)),.lit (.int .u32 x.toNat)],bouV b5 (evL F M true tk ns 0).length,.lit (.int .i64 0)]) (by simp [go_sem,u8,g8l]) r1]
    exact hPP
 exact key (fun r=>∃ b2 Hf Lf,r=some (.tup [.agg [.lit (.int .i64 1),.lit (.int .i64 (lv (busN M D ns))),.lit (.int .u32 (lvlsN M D ns).toNat)],bouV b2 (forceE F M D tk ns).length,.lit (.int .i64 0)],Hf)/\Lf.map NdL.n=forceN F M D ns/\Left Hf Lf (tk+1) l f Hc.length b2 (forceE F M D tk ns)) (fun b2 Hf Lf c=>⟨b2,Hf,Lf,rfl,c⟩)
theorem bus_do {c:Callee} {H:Heap} {a na:Nat} {L:List NdL} {tk:Nat} {l f:Bool} (h:BusAt H a na L tk l f) (hk:L.length<=32) (fv:AVal) (xs:List AVal) (hf:flatV fv=true) (hx:flatL xs=true) {V:Nat->AVal} (hV:∀ g b,renV g (V b)=V (g b)) {N2:List Nd} {tk2:Nat} {l2 f2:Bool} {evs:List Bev}
  (hc:∀ Hc Lc,Lc.map NdL.n=L.map NdL.n->BusC Hc Lc tk l f->∃ b2 Hf Lf,c fv (.ptr 0 0::xs) Hc=some (V b2,Hf)/\Lf.map NdL.n=N2/\Left Hf Lf tk2 l2 f2 Hc.length b2 evs) :
  ∃ b2 H2 L2,callK1 c H (some (fv,[])) (some (.ptr a 0::xs,[]))=some (V b2,H2)/\L2.map NdL.n=N2/\BusAt H2 a na L2 tk2 l2 f2/\Around H H2 (footB a na L) (footB a na L2)/\QuietB H H2 (footB a na L) (footB a na L2)/\(evs≠[]->(∃ lkb fu,H2[b2]?=some (.arr true lkb fu 15 (evs.map encBev)))/\H.length<=b2/\b2 ∉ footB a na L2):=by
 obtain ⟨v,Hn,e,b2,Lf,rfl,h2,h3,h4⟩:=bus_back h hk fv xs hf hx (P:=fun v Hn=>∃ b2 Lf,v=V b2/\Lf.map NdL.n=N2/\Left Hn Lf tk2 l2 f2 (2+(flats L).length) b2 evs/\2+(flats L).length<=Hn.length) (fun Hc Lc h1 h2=>by
  obtain ⟨b2,Hf,Lf,e1,e2,e3⟩:=hc Hc Lc h1 h2
  have hcl:Hc.length=2+(flats L).length:=by
   rw [h2.len]
   have a1:∀ (L1 L2:List NdL) (H1 H2:Heap),L1.map NdL.n=L2.map NdL.n->(∀ p∈L1,NodeAt H1 p.a p.n p.fs)->(∀ p∈L2,NodeAt H2 p.a p.n p.fs)->(flats L1).length=(flats L2).length:=by
    intro L1
    induction L1 with
    | nil=>intro L2 H1 H2 e _ _;cases L2 with
     | nil=>rfl
     | cons q L2=>simp at e
    | cons p L1 ih =>
     intro L2 H1 H2 e h1 h2
     cases L2 with
     | nil=>simp at e
     | cons q L2 =>
      simp at e
      rw [flats_cons,flats_cons,length_append,length_append,ih L2 H1 H2 e.2 (fun r hr=>h1 r (mem_cons_of_mem _ hr)) (fun r hr=>h2 r (mem_cons_of_mem _ hr)),nodeAt_fl (h1 p (by simp)),nodeAt_fl (h2 q (by simp)),e.1]
   rw [a1 Lc L Hc H h1 h2.bus.nds h.nds]
  rw [hcl] at e3
  exact ⟨_,_,e1,b2,Lf,rfl,e2,e3,e3.len⟩)
 obtain ⟨L3,h5,h6,h7⟩:=bus_lift h h4 h3.bus
 have hlen:(footB a na L).length=2+(flats L).length:=by unfold footB;simp;omega
 have hqb:=quiet_back (H:=H) (fs:=footB a na L) (Hn:=Hn) h.nodup h.lt (by rw [hlen];exact h4) h3.quiet
 have hft:(footB 0 1 Lf).map (toGlob (footB a na L) H.length)=footB a na (Lf.map (NdL.ren (toGlob (footB a na L) H.length))):=by
  have g0:toGlob (footB a na L) H.length 0=a:=by rw [glob_old (by rw [hlen];omega)];rfl
  have g1:toGlob (footB a na L) H.length 1=na:=by rw [glob_old (by rw [hlen];omega)];rfl
  rw [foot_ren,g0,g1]
 have hb:=BusAt.back (H:=H) (R:=footB a na L) h.nodup h.lt (by rw [hlen];exact h4) h3.bus
 have ar:=around_foot (H:=H) (R:=footB a na L) h.nodup h.lt (Hn:=Hn) (by rw [hlen];exact h4) (footB 0 1 Lf)
 have g0:toGlob (footB a na L) H.length 0=a:=by rw [glob_old (by rw [hlen];omega)];rfl
 have g1:toGlob (footB a na L) H.length 1=na:=by rw [glob_old (by rw [hlen];omega)];rfl
 rw [hft] at hqb ar
 rw [g0,g1] at hb
 refine ⟨toGlob (footB a na L) H.length b2,_,Lf.map (NdL.ren (toGlob (footB a na L) H.length)),by rw [e,hV],by rw [List.map_map];exact h2,hb,ar,hqb,fun he=>?_⟩
 obtain ⟨⟨lkb,fu,r1⟩,r2,r3⟩:=h3.row he
 refine ⟨⟨lkb,fu,?_⟩,?_,fun z=>?_⟩
 ·rw [back_get (H:=H) (fs:=footB a na L) h.nodup h.lt (by rw [hlen];exact h4) r1];simp [renE]
 ·rw [glob_new (by rw [hlen];exact r3)];omega
 ·rw [<- hft] at z
  obtain ⟨j,hj,e⟩:=mem_map.1 z
  have:=glob_inj (fs:=footB a na L) h.nodup h.lt e
  exact r2 (this ▸ hj)
theorem left_ret0 {H:Heap} {L:List NdL} {tk:Nat} {l f:Bool} {m:Nat} (h2:2<=m) {S:List (Nat × Entry)} (h:BS H L tk l f m S) (v:AVal) (hv:flatV v=true) :
  ∃ Hf Lf,gcRet m v H=some (v,Hf)/\Lf.map NdL.n=L.map NdL.n/\Left Hf Lf tk l f m 0 []:=by
 have hr:=refsV_flat _ hv
 obtain ⟨g,Hf,Lf,e1,e2,e3,e4,e5,-⟩:=ret_bus h.w.bus h.w.le h.w.quiet h2 h.len (v:=v) (by rw [hr];simp) (by rw [hr];simp)
 exact ⟨Hf,Lf,by rw [e1,renV_flat _ _ hv],e2,e3,e4,e5,fun q=>absurd rfl q⟩
theorem BusC.bs {H:Heap} {L:List NdL} {tk:Nat} {l f:Bool} (h:BusC H L tk l f) (hl:L.length<=32):BS H L tk l f H.length []:=⟨⟨h.bus,h.quiet,hl⟩,by simp,by simp,by simp,Nat.le_refl _,by simp⟩
theorem BusC.two {H:Heap} {L:List NdL} {tk:Nat} {l f:Bool} (h:BusC H L tk l f):2<=H.length:=by rw [h.len];omega
theorem BS.call {H H2:Heap} {L L2:List NdL} {tk tk2:Nat} {l f l2 f2:Bool} {m:Nat} {S:List (Nat × Entry)} (h:BS H L tk l f m S) (hb:BusAt H2 0 1 L2 tk2 l2 f2) (hl:L2.length<=32) (ar:Around H H2 (footB 0 1 L) (footB 0 1 L2)) (qb:QuietB H H2 (footB 0 1 L) (footB 0 1 L2)):BS H2 L2 tk2 l2 f2 m S:=by
 refine ⟨⟨hb,fun i hi=>?_,hl⟩,fun q hq=>?_,fun q hq z=>?_,h.nd,Nat.le_trans h.len ar.len,h.ge⟩
 ·by_cases c:i∈footB 0 1 L∨H.length<=i
  ·exact qb i c hi
  ·have c1:i ∉ footB 0 1 L:=fun z=>c (.inl z)
   have c2:i<H.length:=by
    rcases Nat.lt_or_ge i H.length with z | z
    ·exact z
    ·exact absurd (.inr z) c
   have:=h.w.quiet i c1
   unfold refsAt at this ⊢
   rw [getD_eq_getElem?_getD,ar.same i c2 c1,<- getD_eq_getElem?_getD]
   exact this
 ·rw [ar.same q.1 (h.lt hq) (h.out q hq)];exact h.get q hq
 ·rcases ar.new q.1 z with y | y
  ·exact h.out q hq y
  ·have:=h.lt hq;omega
theorem BS.callE {H H2:Heap} {L L2:List NdL} {tk tk2:Nat} {l f l2 f2:Bool} {m:Nat} {S:List (Nat × Entry)} (h:BS H L tk l f m S) (hb:BusAt H2 0 1 L2 tk2 l2 f2) (hl:L2.length<=32) (ar:Around H H2 (footB 0 1 L) (footB 0 1 L2)) (qb:QuietB H H2 (footB 0 1 L) (footB 0 1 L2)) {b:Nat} {e:Entry} (h1:H2[b]?=some e) (h2:H.length<=b) (h3:b ∉ footB 0 1 L2):BS H2 L2 tk2 l2 f2 m ((b,e)::S):=by
 have h4:=h.call hb hl ar qb
 refine ⟨h4.w,?_,?_,?_,h4.len,fun q hq=>(mem_cons.1 hq).elim (fun e1=>by rw [e1];exact Nat.le_trans h.len h2) (h4.ge q)⟩
 ·intro q hq
  rcases mem_cons.1 hq with e1 | e1
  ·rw [e1];exact h1
  ·exact h4.get q e1
 ·intro q hq
  rcases mem_cons.1 hq with e1 | e1
  ·rw [e1];exact h3
  ·exact h4.out q e1
 ·rw [map_cons,nodup_cons]
  refine ⟨fun z=>?_,h.nd⟩
  obtain ⟨q,hq,e1⟩:=mem_map.1 z
  have:=h.lt hq
  simp only at e1
  omega
def forceV (F M D:BitVec 32) (tk:Nat) (ns:List Nd) (b:Nat):AVal:=.tup [.agg [.lit (.int .i64 1),.lit (.int .i64 (lv (busN M D ns))),.lit (.int .u32 (lvlsN M D ns).toNat)],bouV b (forceE F M D tk ns).length,.lit (.int .i64 0)]
theorem forceV_ren (F M D:BitVec 32) (tk:Nat) (ns:List Nd) (g:Nat->Nat) (b:Nat):renV g (forceV F M D tk ns b)=forceV F M D tk ns (g b):=by
 unfold forceV bouV
 split<;>simp [renV,renL,nilS]
def NdsOk (ns:List Nd):Prop:=∀ n∈ns,n.Inv/\n.k<=1000000000
theorem ndsOk_of {L:List NdL} (h:NdsOk (L.map NdL.n)):∀ p∈L,p.n.Inv/\p.n.k<=1000000000:=fun p hp=>h p.n (List.mem_map_of_mem hp)
theorem bforce_at {H:Heap} {a na:Nat} {L:List NdL} {tk:Nat} {l f:Bool} (h:BusAt H a na L tk l f) (hk:L.length<=32) (hI:NdsOk (L.map NdL.n)) (htk:tk<=1000000000) (F M D:BitVec 32) (hfit:fitsB (F ||| M) L.length=true) :
  ∃ b2 H2 L2,callK1 (call E) H (some (.func (.func 42) [] [],[])) (some ([.ptr a 0,.lit (.int .u32 F.toNat),.lit (.int .u32 M.toNat),.lit (.int .u32 D.toNat)],[]))=some (forceV F M D tk (L.map NdL.n) b2,H2)/\L2.map NdL.n=forceN F M D (L.map NdL.n)/\BusAt H2 a na L2 (tk+1) l f/\Around H H2 (footB a na L) (footB a na L2)/\QuietB H H2 (footB a na L) (footB a na L2) /\
   (forceE F M D tk (L.map NdL.n)≠[]->(∃ lkb fu,H2[b2]?=some (.arr true lkb fu 15 ((forceE F M D tk (L.map NdL.n)).map encBev)))/\H.length<=b2/\b2 ∉ footB a na L2) :=
 bus_do h hk (.func (.func 42) [] []) [.lit (.int .u32 F.toNat),.lit (.int .u32 M.toNat),.lit (.int .u32 D.toNat)] rfl rfl (forceV_ren F M D tk (L.map NdL.n)) (fun Hc Lc h1 h2=>by
  have hl:Lc.length=L.length:=by have:=congrArg List.length h1;simpa using this
  obtain ⟨b2,Hf,Lf,e1,e2,e3⟩:=bforce_spec h2 (by omega) (fun p hp=>ndsOk_of (by rw [h1];exact hI) p hp) htk F M D (by rw [hl];exact hfit)
  rw [h1] at e1 e2 e3
  exact ⟨b2,Hf,Lf,e1,e2,e3⟩)
theorem bstep_spec {Hc:Heap} {Lc:List NdL} {tk:Nat} {l f:Bool} (h:BusC Hc Lc tk l f) (hl:Lc.length<=32) (hI:NdsOk (Lc.map NdL.n)) (htk:tk<=1000000000) (F:BitVec 32) (hfit:fitsB F Lc.length=true) :
  ∃ b2 Hf Lf,call E (.func (.func 9) [] []) [.ptr 0 0,.lit (.int .u32 F.toNat)] Hc=some (forceV F 0#32 0#32 tk (Lc.map NdL.n) b2,Hf)/\Lf.map NdL.n=forceN F 0#32 0#32 (Lc.map NdL.n)/\Left Hf Lf (tk+1) l f Hc.length b2 (forceE F 0#32 0#32 tk (Lc.map NdL.n)):=by
 have hm:=h.two
 have h0:=h.bs hl
 have hB:=h0.app (e:=.box [.lit (.int .i64 0),.lit (.int .i64 0),.lit (.int .u32 0)]) rfl
 obtain ⟨b2,H2,L2,e1,e2,e3,e4,e5,e6⟩:=bforce_at hB.w.bus hl hI htk F 0#32 0#32 (by simpa using hfit)
 have hl2:L2.length<=32:=by
  have:=congrArg List.length e2
  unfold forceN at this
  rw [length_map,stepL_len,length_map] at this
  omega
 generalize hns:Lc.map NdL.n=ns at *
 have hS:∃ lkb fu,BS H2 L2 (tk+1) l f Hc.length (bouS b2 lkb fu ((forceE F 0#32 0#32 tk ns).map encBev)++[(Hc.length,.box [.lit (.int .i64 0),.lit (.int .i64 0),.lit (.int .u32 0)])]):=by
  by_cases he:forceE F 0#32 0#32 tk ns=[]
  ·exact ⟨false,false,by rw [he];exact hB.call e3 hl2 e4 e5⟩
  ·obtain ⟨⟨lkb,fu,r1⟩,r2,r3⟩:=e6 he
   exact ⟨lkb,fu,by unfold bouS;rw [if_neg (by simpa using he)];exact hB.callE e3 hl2 e4 e5 r1 r2 r3⟩
 obtain ⟨lkb,fu,hS⟩:=hS
 have g4:=hS.get (Hc.length,_) (List.mem_append_right _ (List.mem_cons_self ..))
 have g4l:=lt_of_get g4
 have hnT:=hS.nd
 have hU:=(hS.sub (S2:=(Hc.length,.box [.lit (.int .i64 0),.lit (.int .i64 0),.lit (.int .u32 0)])::bouS b2 lkb fu ((forceE F 0#32 0#32 tk ns).map encBev)) (by
  intro q hq
  rcases mem_cons.1 hq with e | e
  ·rw [e];simp
  ·exact mem_append_left _ e) (by
  rw [map_append,List.nodup_append] at hnT
  rw [map_cons,nodup_cons]
  refine ⟨fun q=>hnT.2.2 _ q Hc.length (by simp) rfl,hnT.1⟩)).put (e:=runE (busN 0#32 0#32 ns) (lvlsN 0#32 0#32 ns)) rfl
 have hnU:=hU.nd
 rw [map_cons,nodup_cons] at hnU
 have hV:=hU.sub (S2:=bouS b2 lkb fu ((forceE F 0#32 0#32 tk ns).map encBev)++[]) (by
  intro q hq
  rw [List.append_nil] at hq
  exact mem_cons_of_mem _ hq) (by rw [List.append_nil];exact hnU.2)
 obtain ⟨b3,Hf,Lf,r1,r2,r3⟩:=left_ret hm hV (.agg [.lit (.int .i64 1),.lit (.int .i64 (lv (busN 0#32 0#32 ns))),.lit (.int .u32 (lvlsN 0#32 0#32 ns).toNat)]) (.lit (.int .i64 0)) rfl rfl
 refine ⟨b3,Hf,Lf,?_,r2.trans e2,r3⟩
 have g4b:∀ (q:Hc.length<H2.length),H2[Hc.length]=_:=fun q=>(List.getElem?_eq_some_iff.1 g4).2
 have hz:((0#32:BitVec 32).toNat:Int)=0:=rfl
 rw [hz] at e1
 unfold forceV at e1 ⊢
 unfold runE at r1
 generalize lvlsN 0#32 0#32 ns=x at *
 generalize busN 0#32 0#32 ns=lev at *
 rw [c9f E E9]
 simp only [ir9]
 generalize hK:finK Hc.length [IRes.cell 4 true 3,IRes.tmp 5,IRes.tmp 6]=K
 simp [go_sem,e1,g4,g4b,g4l]
 rw [<- hK,finK_to (vs:=[.agg [.lit (.int .i64 1),.lit (.int .i64 (lv lev)),.lit (.int .u32 x.toNat)],bouV b2 (forceE F 0#32 0#32 tk ns).length,.lit (.int .i64 0)]) (by simp [go_sem,g4l]) r1]
def lookZ (n:Nat) (i:Int):Int:=if 0<=i/\i<n then 0 else 10
theorem blook_spec {Hc:Heap} {Lc:List NdL} {tk:Nat} {l f:Bool} (h:BusC Hc Lc tk l f) (hl:Lc.length<=32) (i:Int) :
  ∃ b2 Hf Lf,call E (.func (.func 43) [] []) [.ptr 0 0,.lit (.int .i64 i)] Hc=some ((fun _=>.lit (.int .i64 (lookZ Lc.length i))) b2,Hf)/\Lf.map NdL.n=Lc.map NdL.n/\Left Hf Lf tk l f Hc.length b2 []:=by
 have gb:=h.bus.box
 obtain ⟨Hf,Lf,r1,r2,r3⟩:=left_ret0 h.two (h.bs hl) (.lit (.int .i64 (lookZ Lc.length i))) rfl
 refine ⟨0,Hf,Lf,?_,r2,r3⟩
 rw [c9f E E43]
 simp only [ir43]
 generalize hK:finK Hc.length [IRes.tmp 4]=K
 by_cases h0:i<0
 ·have hz:lookZ Lc.length i=10:=if_neg (by omega)
  rw [hz] at r1
  simp [go_sem,gb,h0]
  rw [<- hK,finK_to (vs:=[.lit (.int .i64 10)]) rfl r1]
  simp [hz]
 ·by_cases h1:(Lc.length:Int)<=i
  ·have hz:lookZ Lc.length i=10:=if_neg (by omega)
   rw [hz] at r1
   simp [go_sem,gb,h0,h1]
   rw [<- hK,finK_to (vs:=[.lit (.int .i64 10)]) rfl r1]
   simp [hz]
  ·have hz:lookZ Lc.length i=0:=if_pos (by omega)
   rw [hz] at r1
   simp [go_sem,gb,h0,h1]
   rw [<- hK,finK_to (vs:=[.lit (.int .i64 0)]) rfl r1]
   simp [hz]
theorem blook_at {H:Heap} {a na:Nat} {L:List NdL} {tk:Nat} {l f:Bool} (h:BusAt H a na L tk l f) (hk:L.length<=32) (i:Int) :
  ∃ H2 L2,callK1 (call E) H (some (.func (.func 43) [] [],[])) (some ([.ptr a 0,.lit (.int .i64 i)],[]))=some (.lit (.int .i64 (lookZ L.length i)),H2)/\L2.map NdL.n=L.map NdL.n/\BusAt H2 a na L2 tk l f/\Around H H2 (footB a na L) (footB a na L2)/\QuietB H H2 (footB a na L) (footB a na L2):=by
 obtain ⟨b2,H2,L2,e1,e2,e3,e4,e5,-⟩:=bus_do h hk (.func (.func 43) [] []) [.lit (.int .i64 i)] rfl rfl (c:=call E) (V:=fun _=>.lit (.int .i64 (lookZ L.length i))) (fun _ _=>rfl) (N2:=L.map NdL.n) (tk2:=tk) (l2:=l) (f2:=f) (evs:=[]) (fun Hc Lc h1 h2=>by
  have hl:Lc.length=L.length:=by have:=congrArg List.length h1;simpa using this
  obtain ⟨b2,Hf,Lf,e1,e2,e3⟩:=blook_spec h2 (by omega) i
  rw [hl] at e1
  exact ⟨b2,Hf,Lf,e1,e2.trans h1,e3⟩)
 exact ⟨H2,L2,e1,e2,e3,e4,e5⟩
theorem at_of_map {L:List NdL} {ns:List Nd} {i:Nat} {n:Nd} (h:L.map NdL.n=ns) (hi:ns[i]?=some n):∃ p,L[i]?=some p/\p.n=n:=by
 rw [<- h,List.getElem?_map,map_eq_some_iff] at hi
 exact hi
theorem map_len {L:List NdL} {ns:List Nd} (h:L.map NdL.n=ns):L.length=ns.length:=by rw [<- h,length_map]
theorem bPut_spec {Hc:Heap} {Lc:List NdL} {tk:Nat} {l f:Bool} (h:BusC Hc Lc tk l f) (hl:Lc.length<=32) (hI:NdsOk (Lc.map NdL.n)) (i:Nat) (n:Nd) (hi:(Lc.map NdL.n)[i]?=some n) (f0:Fr) :
  ∃ b2 Hf Lf,call E (.func (.func 11) [] []) [.ptr 0 0,.lit (.int .i64 i),.agg (encFr f0)] Hc=some ((fun _=>.lit (.int .i64 (nputN n f0).1)) b2,Hf)/\Lf.map NdL.n=(Lc.map NdL.n).set i (nputN n f0).2/\Left Hf Lf tk l f Hc.length b2 []:=by
 have hm:=h.two
 have h0:=h.bs hl
 have hB:=h0.app (e:=.box (encFr f0)) (by simp [refsE,refsL,refsV,encFr,u8v])
 have hil:i<Lc.length:=by
  have:=(List.getElem?_eq_some_iff.1 hi).1
  simpa using this
 obtain ⟨H2,L2,e1,e2,e3,e4,e5⟩:=blook_at hB.w.bus hl i
 have hz:lookZ Lc.length i=0:=if_pos (by omega)
 rw [hz] at e1
 have hl2:L2.length=Lc.length:=by rw [map_len e2,length_map]
 have hC:=hB.call e3 (by omega) e4 e5
 obtain ⟨p,hp,hpn⟩:=at_of_map e2 hi
 obtain ⟨wx,hw⟩:=(hC.w.bus.nds p (mem_of_getElem? hp)).w
 have hIp:p.n.Inv:=by rw [hpn];exact (hI n (mem_of_getElem? hi)).1
 obtain ⟨H3,fs2,w2,s1,s2,s3,-,s5⟩:=put_atW hw hIp.ok f0
 have hD:=hC.node hp s2.at s3 s5
 obtain ⟨Hf,Lf,r1,r2,r3⟩:=left_ret0 hm hD (.lit (.int .i64 (nputN n f0).1)) rfl
 refine ⟨0,Hf,Lf,?_,?_,r3⟩
 ·have gb:=hC.w.bus.box
  have ga:=hC.w.bus.arr
  have gp:=ptrs_get hp
  have gp2:∀ (q:i<(ptrsL L2).length),(ptrsL L2)[i]=[.ptr p.a 0]:=fun q=>(List.getElem?_eq_some_iff.1 gp).2
  have gl:(ptrsL L2).length=Lc.length:=by rw [ptrs_len];exact hl2
  have g5:=hC.get (Hc.length,_) (List.mem_cons_self ..)
  have g5b:∀ (q:Hc.length<H2.length),H2[Hc.length]=_:=fun q=>(List.getElem?_eq_some_iff.1 g5).2
  have hneg:((i:Int)<0)=False:=eq_false (by omega)
  rw [hpn] at s1
  simp [encFr,u8v] at s1 g5 g5b e1
  rw [c9f E E11]
  simp only [ir11]
  generalize hK:finK Hc.length [IRes.tmp 6]=K
  simp [go_sem,encFr,u8v,e1,gb,ga,gp,gp2,gl,hl2,hil,hneg,g5,g5b,s1]
  rw [<- hK,finK_to (vs:=[.lit (.int .i64 (nputN n f0).1)]) rfl r1]
 ·rw [r2,List.map_set,e2,hpn]
theorem call_new {c:Callee} {H:Heap} {fv:AVal} {xs:List AVal} (hf:flatV fv=true) (hx:flatL xs=true) {v:AVal} {Hn:Heap} (h:c fv xs []=some (v,Hn)) :
  callK1 c H (some (fv,[])) (some (xs,[]))=some (renV (toGlob [] H.length) v,H++Hn.map (renE (toGlob [] H.length))):=by
 rw [callK1_ref]
 simp only [List.append_nil,locks]
 rw [refsV_flat _ hf,refsL_flat _ hx,List.nil_append,reach_nil,rchK_some,renV_flat _ _ hf,renL_flat _ _ hx]
 simp only [List.map_nil,h,refK_some]
 simp [setAll]
theorem glob_nil (N j:Nat):toGlob [] N j=N+j:=by rw [glob_new (by simp)];simp
theorem put_behind {H Hn:Heap} {i:Nat} {e:Entry} (h:Hn[i]?=some e):(H++Hn.map (renE (toGlob [] H.length)))[toGlob [] H.length i]?=some (renE (toGlob [] H.length) e):=by
 rw [glob_nil,List.getElem?_append_right (by omega),List.getElem?_map,Nat.add_sub_cancel_left,h];rfl
theorem node_behind {H Hn:Heap} {a:Nat} {n:Nd} {fs:List Nat} (h:NodeAt Hn a n fs):NodeAt (H++Hn.map (renE (toGlob [] H.length))) (H.length+a) n (fs.map (toGlob [] H.length)):=by
 have:=nodeAt_ren (H2:=H++Hn.map (renE (toGlob [] H.length))) (toGlob [] H.length) h (fun i _ e he=>put_behind he) (fun i _ j _ e=>by rw [glob_nil,glob_nil] at e;omega)
 rwa [glob_nil] at this
theorem bus_behind {H Hn:Heap} {a na:Nat} {L:List NdL} {tk:Nat} {l f:Bool} (h:BusAt Hn a na L tk l f):BusAt (H++Hn.map (renE (toGlob [] H.length))) (H.length+a) (H.length+na) (L.map (NdL.ren (toGlob [] H.length))) tk l f:=by
 have:=h.ren (H2:=H++Hn.map (renE (toGlob [] H.length))) (toGlob [] H.length) (fun i _ e he=>put_behind he) (fun i _ j _ e=>by rw [glob_nil,glob_nil] at e;omega)
 rwa [glob_nil,glob_nil] at this
theorem BusAt.grow {H:Heap} {a na:Nat} {L:List NdL} {tk:Nat} {l f:Bool} (h:BusAt H a na L tk l f) {X:Heap} {p:NdL} (hp:NodeAt (H++X) p.a p.n p.fs) (hn:∀ x∈p.fs,H.length<=x) (f2:Bool) :
  BusAt (List.set (List.set (H++X) na (.arr false l f2 1 (ptrsL L++[[.ptr p.a 0]]))) a (.box [.own na (L.length+1) 1 0 (L.length+1),.lit (.int .i64 tk)])) a na (L++[p]) tk l f2:=by
 have ha:a<H.length:=h.lt a (by simp)
 have hna:na<H.length:=h.lt na (by simp)
 have ne:∀ i,i≠a->i≠na->(List.set (List.set (H++X) na (.arr false l f2 1 (ptrsL L++[[.ptr p.a 0]]))) a (.box [.own na (L.length+1) 1 0 (L.length+1),.lit (.int .i64 tk)]))[i]?=(H++X)[i]?:=fun i h1 h2=>by
  rw [List.getElem?_set_ne (fun z=>h1 z.symm),List.getElem?_set_ne (fun z=>h2 z.symm)]
 have hin:∀ q∈L++[p],q∈L∨q=p:=fun q hq=>by simpa using hq
 refine ⟨?_,?_,?_,h.ne,?_,?_⟩
 ·rw [List.getElem?_set_self (by rw [List.length_set,length_append];omega),length_append];rfl
 ·rw [List.getElem?_set_ne h.ne,List.getElem?_set_self (by rw [length_append];omega)]
  unfold ptrsL;simp
 ·intro q hq
  rcases hin q hq with e | e
  ·refine nodeAt_same (h.nds q e) fun i hi=>?_
   rw [ne i (fun z=>(h.out q e).1 (z ▸ hi)) (fun z=>(h.out q e).2 (z ▸ hi)),getElem?_append_left (nodeAt_lt (h.nds q e) i hi)]
  ·subst e
   exact nodeAt_same hp fun i hi=>ne i (fun z=>by have:=hn i hi;omega) (fun z=>by have:=hn i hi;omega)
 ·intro q hq
  rcases hin q hq with e | e
  ·exact h.out q e
  ·subst e
   exact ⟨fun z=>by have:=hn _ z;omega,fun z=>by have:=hn _ z;omega⟩
 ·intro i j q r hi hj hne x hx hxr
  rw [List.getElem?_append] at hi hj
  split at hi
  ·rename_i h1
   split at hj
   ·exact h.dj i j q r hi hj hne x hx hxr
   ·rename_i h2
    have:r=p:=by
     have:=mem_of_getElem? hj
     simpa using this
    subst this
    have:=hn x hxr
    have:=nodeAt_lt (h.nds q (mem_of_getElem? hi)) x hx
    omega
  ·rename_i h1
   have hq:q=p:=by
    have:=mem_of_getElem? hi
    simpa using this
   split at hj
   ·subst hq
    have:=hn x hx
    have:=nodeAt_lt (h.nds r (mem_of_getElem? hj)) x hxr
    omega
   ·rename_i h2
    have z1:i - L.length=0:=by
     have:=(List.getElem?_eq_some_iff.1 hi).1
     simp at this;omega
    have z2:j - L.length=0:=by
     have:=(List.getElem?_eq_some_iff.1 hj).1
     simp at this;omega
    omega
theorem bus_next {H:Heap} {a na:Nat} {L:List NdL} {tk:Nat} {l f:Bool} (h:BusAt H a na L tk l f) (hk:L.length<=32) {live:List Nat} {b:ICode} {k:List Item} {τ:Tmps} (hq:marked live=false) {rs:List IRes} {P:Option (AVal × Heap)->Prop}
  (hws:refsT (keep τ (liveT live))=[a]) (hP:∀ H2,BusAt H2 a na L tk l f->P (finK 0 rs (run E 0 (.code b::.inLoop live b::k) (keep τ (liveT live)) H2))):P (finK 0 rs (run E 0 (.inLoop live b::k) τ H)):=by
 rw [r9l,gcLoop_eq,hws,hq]
 have h1:reach H purse (rootsOf H 0++[a]) (List.range 0)=some (footB a na L):=reach_b1 h hk
 rw [h1]
 show P (finK 0 rs (run E 0 _ (keep τ (liveT live)) (sweep (footB a na L) 0 H)))
 exact hP _ (h.same fun i hi=>sweep_get H _ 0 i (by rw [Nat.zero_add];exact hi))
theorem nnew_at (H:Heap):callK1 (call E) H (some (.func (.func 49) [] [],[])) (some ([],[]))=some (.ptr H.length 0,H++(ndH nd0 ⟨false,false,false,false,false⟩).map (renE (toGlob [] H.length))):=by
 have:=call_new (c:=call E) (H:=H) (fv:=.func (.func 49) [] []) (xs:=[]) rfl rfl nnew_spec
 rw [this]
 simp [renV,glob_nil]
theorem nd0_behind (H:Heap):∃ fs,NodeAt (H++(ndH nd0 ⟨false,false,false,false,false⟩).map (renE (toGlob [] H.length))) H.length nd0 fs/\∀ x∈fs,H.length<=x:=by
 have h:=(nodeAt_canW nd0 ⟨false,false,false,false,false⟩ []).at
 rw [List.append_nil] at h
 have h2:=node_behind (H:=H) h
 rw [Nat.add_zero] at h2
 refine ⟨_,h2,fun x hx=>?_⟩
 obtain ⟨j,-,rfl⟩:=mem_map.1 hx
 rw [glob_nil];omega
theorem nd0H_len:((ndH nd0 ⟨false,false,false,false,false⟩)).length=2:=rfl
theorem bnew_loop (N:Nat) (hN:N<=32) (rs:List IRes) (k:List Item) (P:Option (AVal × Heap)->Prop)
  (hk:∀ H L na τ,BusAt H 0 na L 0 false false->L.map NdL.n=List.replicate N nd0->lk 4 τ=.ptr 0 0->P (finK 0 rs (run E 0 k τ H))) :
  ∀ (d i:Nat),i+d=N->∀ (H:Heap) (L:List NdL) (na:Nat),BusAt H 0 na L 0 false false->L.map NdL.n=List.replicate i nd0 ->
  P (finK 0 rs (run E 0 (.code L18_0::.inLoop [4,13,14] L18_0::.inBlock 0::k) [(4,.ptr 0 0),(13,.lit (.int .i64 N)),(14,.lit (.int .i64 i))] H)):=by
 intro d
 induction d with
 | zero =>
  intro i hi H L na h hL
  have hlt:((i:Int)<(N:Int))=False:=eq_false (by omega)
  have e:i=N:=by omega
  rw [e] at hL
  simp [go_sem,r9c E L18_0.eq_1,hlt]
  exact hk H L na _ h hL (by simp [lk])
 | succ d ih =>
  intro i hi H L na h hL
  have hlt:((i:Int)<(N:Int))=True:=eq_true (by omega)
  have w:=wrapIdx (i:=i) (by omega)
  have hLl:L.length=i:=by rw [map_len hL,List.length_replicate]
  have gb:=h.box
  have ga:=h.arr
  have hnew:=nnew_at H
  obtain ⟨fs,n1,n2⟩:=nd0_behind H
  have hg:=h.grow (X:=(ndH nd0 ⟨false,false,false,false,false⟩).map (renE (toGlob [] H.length))++[.arr false false true 1 [[.ptr H.length 0]]]) (p:=⟨H.length,nd0,fs⟩) (by
   rw [<- List.append_assoc]
   exact nodeAt_same n1 fun i hi=>getElem?_append_left (nodeAt_lt n1 i hi)) n2 false
  have hXl:((ndH nd0 ⟨false,false,false,false,false⟩).map (renE (toGlob [] H.length))).length=2:=by rw [length_map,nd0H_len]
  generalize (ndH nd0 ⟨false,false,false,false,false⟩).map (renE (toGlob [] H.length))=X at hnew hg hXl
  have gbX:∀ Y:Heap,(H++Y)[0]?=some (.box [.own na L.length 1 0 L.length,.lit (.int .i64 0)]):=fun Y=>by rw [getElem?_append_left (lt_of_get gb)];exact gb
  have gbX2:∀ (Y:Heap) (q:0<(H++Y).length),(H++Y)[0]=.box [.own na L.length 1 0 L.length,.lit (.int .i64 0)]:=fun Y q=>(List.getElem?_eq_some_iff.1 (gbX Y)).2
  have gaX:∀ Y:Heap,(H++Y)[na]?=some (.arr false false false 1 (ptrsL L)):=fun Y=>by rw [getElem?_append_left (lt_of_get ga)];exact ga
  have gaX2:∀ (Y:Heap) (q:na<(H++Y).length),(H++Y)[na]=.arr false false false 1 (ptrsL L):=fun Y q=>(List.getElem?_eq_some_iff.1 (gaX Y)).2
  have gl:=ptrs_len L
  have hrow:rowsOk 1 (ptrsL L)=true:=by unfold rowsOk ptrsL;simp [List.all_map]
  have h46:(70368744177664<(i+1) * 8)=False:=eq_false (by omega)
  have hne:(na=0)=False:=eq_false (fun z=>h.ne z.symm)
  have hna0:¬ na=0:=fun z=>h.ne z.symm
  have ih2:=fun H2 hB=>ih (i+1) (by omega) H2 (L++[⟨H.length,nd0,fs⟩]) na hB (by rw [map_append,hL,List.replicate_succ'];rfl)
  rw [show ((i+1:Nat):Int)=(i:Int)+1 by simp] at ih2
  simp [go_sem,r9c E L18_0.eq_1,hlt,gb,ga,gbX,gbX2,gaX,gaX2,hnew,gl,hrow,h46,hne,w,hLl]
  rw [hLl] at hg
  refine bus_next hg (by rw [length_append,hLl];simp;omega) rfl rfl ih2
theorem bus_ret {H:Heap} {a na:Nat} {L:List NdL} {tk:Nat} {l f:Bool} (h:BusAt H a na L tk l f) (hk:L.length<=32) {w:Nat->AVal} (hw:∀ x,refsV (w x)=[x]) (hr:∀ g x,renV g (w x)=w (g x)):∃ Hf Lf,gcRet 0 (w a) H=some (w 0,Hf)/\Lf.map NdL.n=L.map NdL.n/\BusC Hf Lf tk l f:=by
 obtain ⟨Lc,h1,h2,h3⟩:=bus_canon h
 refine ⟨_,Lc,?_,h1,h2⟩
 unfold gcRet
 have:reach H purse (rootsOf H 0++refsV (w a)) (List.range 0)=some (footB a na L):=by rw [hw];exact reach_b1 h hk
 rw [this]
 simp [hr,h3]
theorem bnew_spec (N:Nat) (h1:1<=N) (hN:N<=32):∃ Hf Lf,call E (.func (.func 18) [] []) [.lit (.int .i64 N)] []=some (.tup [.ptr 0 0,.lit (.int .i64 0)],Hf)/\Lf.map NdL.n=List.replicate N nd0/\BusC Hf Lf 0 false false:=by
 have key:∀ P:Option (AVal × Heap)->Prop,(∀ Hf Lf,Lf.map NdL.n=List.replicate N nd0/\BusC Hf Lf 0 false false->P (some (.tup [.ptr 0 0,.lit (.int .i64 0)],Hf)))->P (call E (.func (.func 18) [] []) [.lit (.int .i64 N)] []):=by
  intro P hP
  have hlt1:((N:Int)<1)=False:=eq_false (by omega)
  have hlt2:(32<(N:Int))=False:=eq_false (by omega)
  have hlt3:(0<(N:Int))=True:=eq_true (by omega)
  have hnew:=nnew_at [.box [nilS,.lit (.int .i64 0)]]
  obtain ⟨fs,n1,n2⟩:=nd0_behind [.box [nilS,.lit (.int .i64 0)]]
  have hXl:((ndH nd0 ⟨false,false,false,false,false⟩).map (renE (toGlob [] [Entry.box [nilS,.lit (.int .i64 0)]].length))).length=2:=by rw [length_map,nd0H_len]
  have hB:BusAt (.box [.own 4 1 1 0 1,.lit (.int .i64 0)]::((ndH nd0 ⟨false,false,false,false,false⟩).map (renE (toGlob [] [Entry.box [nilS,.lit (.int .i64 0)]].length))++[.arr false false true 1 [[.ptr 1 0]],.arr false false false 1 [[.ptr 1 0]]])) 0 4 [⟨1,nd0,fs⟩] 0 false false:=by
   have hfl:∀ x∈fs,1<=x/\x<3:=fun x hx=>⟨n2 x hx,by have:=nodeAt_lt n1 x hx;rw [length_append,hXl] at this;exact this⟩
   refine ⟨rfl,?_,?_,by omega,?_,?_⟩
   ·rw [List.getElem?_cons_succ,List.getElem?_append_right (by rw [hXl];omega),hXl];rfl
   ·intro p hp
    simp at hp
    subst hp
    refine nodeAt_same n1 fun i hi=>?_
    have:=hfl i hi
    rw [List.getElem?_append_right (show [Entry.box [nilS,.lit (.int .i64 0)]].length<=i from this.1)]
    obtain ⟨j,rfl⟩:∃ j,i=j+1:=⟨i - 1,by omega⟩
    rw [List.getElem?_cons_succ,getElem?_append_left (by rw [hXl];omega)]
    rfl
   ·intro p hp
    simp at hp
    subst hp
    exact ⟨fun z=>by have:=hfl 0 z;omega,fun z=>by have:=hfl 4 z;omega⟩
   ·intro i j p q hi hj hne x hx hxr
    have e1:i=0:=by have:=(List.getElem?_eq_some_iff.1 hi).1;simp at this;exact this
    have e2:j=0:=by have:=(List.getElem?_eq_some_iff.1 hj).1;simp at this;exact this
    omega
  generalize (ndH nd0 ⟨false,false,false,false,false⟩).map (renE (toGlob [] [Entry.box [nilS,.lit (.int .i64 0)]].length))=X at hnew hXl hB
  have hfin:∀ H L na τ,BusAt H 0 na L 0 false false->L.map NdL.n=List.replicate N nd0->lk 4 τ=.ptr 0 0->P (finK 0 [IRes.tmp 2,IRes.tmp 3] (run E 0 [.code (.seq (.reg [⟨none,some 27,.copy (.t 4)⟩,⟨none,some 2,.copy (.t 27)⟩,⟨none,some 3,.copy (.c (.lit (.int .i64 0)))⟩] [] []) .ret)] τ H)):=by
   intro H L na τ h hL t4
   obtain ⟨Hf,Lf,r1,r2,r3⟩:=bus_ret h (by rw [map_len hL,List.length_replicate];exact hN) (w:=fun x=>.tup [.ptr x 0,.lit (.int .i64 0)]) (fun _=>rfl) (fun _ _=>rfl)
   have:=hP Hf Lf ⟨r2.trans hL,r3⟩
   generalize hK:finK 0 [IRes.tmp 2,IRes.tmp 3]=K
   simp [go_sem,t4]
   rw [<- hK,finK_to (vs:=[.ptr 0 0,.lit (.int .i64 0)]) rfl r1]
   exact this
  have hloop:=bnew_loop N hN [IRes.tmp 2,IRes.tmp 3] _ P hfin (N - 1) 1 (by omega)
  rw [c9f E E18]
  simp only [nilS] at hnew
  simp [go_sem,ir18,hlt1,hlt2]
  rw [r9l]
  simp [go_sem,p9q,range_succ,r9c E L18_0.eq_1,hlt3,hnew,hXl]
  rw [if_pos (show 0<N by omega),show IntKind.wrap .i64 1=1 from rfl]
  refine bus_next hB (by simp) rfl rfl (fun H2 hB2=>?_)
  have:=hloop H2 [⟨1,nd0,fs⟩] 4 hB2 rfl
  simpa [keep,lk,liveT] using this
 exact key (fun r=>∃ Hf Lf,r=some (.tup [.ptr 0 0,.lit (.int .i64 0)],Hf)/\Lf.map NdL.n=List.replicate N nd0/\BusC Hf Lf 0 false false) (fun Hf Lf c=>⟨Hf,Lf,rfl,c⟩)
theorem bnew_at (H:Heap) (N:Nat) (h1:1<=N) (hN:N<=32):∃ X Lf,callK1 (call E) H (some (.func (.func 18) [] [],[])) (some ([.lit (.int .i64 N)],[]))=some (.tup [.ptr H.length 0,.lit (.int .i64 0)],H++X)/\Lf.map NdL.n=List.replicate N nd0/\BusAt (H++X) H.length (H.length+1) Lf 0 false false/\∀ i∈footB H.length (H.length+1) Lf,H.length<=i:=by
 obtain ⟨Hf,Lf,e1,e2,e3⟩:=bnew_spec N h1 hN
 have:=call_new (c:=call E) (H:=H) (fv:=.func (.func 18) [] []) (xs:=[.lit (.int .i64 N)]) rfl rfl e1
 have hb:=bus_behind (H:=H) e3.bus
 refine ⟨_,_,?_,?_,hb,?_⟩
 ·rw [this];simp [renV,renL,glob_nil]
 ·rw [List.map_map];exact e2
 ·intro i hi
  have:footB H.length (H.length+1) (Lf.map (NdL.ren (toGlob [] H.length)))=(footB 0 1 Lf).map (toGlob [] H.length):=by
   rw [foot_ren,glob_nil,glob_nil];rfl
  rw [this] at hi
  obtain ⟨j,-,rfl⟩:=mem_map.1 hi
  rw [glob_nil];omega
structure Ac where
 tick:Int
 node:Int
 fault:Bool
 f:Fr
def encAc (a:Ac):List AVal:=[.lit (.int .i64 a.tick),.lit (.int .i64 a.node),.lit (.bool a.fault),.lit (.int .i64 a.f.id),.lit (.bool a.f.ext),.lit (.bool a.f.rtr),.lit (.int .i64 a.f.len),.lit (.int .u8 a.f.d0),.lit (.int .u8 a.f.d1),.lit (.int .u8 a.f.d2),.lit (.int .u8 a.f.d3),.lit (.int .u8 a.f.d4),.lit (.int .u8 a.f.d5),.lit (.int .u8 a.f.d6),.lit (.int .u8 a.f.d7)]
def chkA (n:Int) (a:Ac):Int:=if a.tick<0∨a.node<0∨n<=a.node then 10 else if a.fault=false then checkP a.f else 0
def chkAs (n:Int):List Ac->Int
 | []=>0
 | a::r=>if chkA n a≠0 then chkA n a else chkAs n r
def chkAll (n:Int) (l:List Ac):Int:=if n<1∨32<n then 10 else chkAs n l
theorem bChk_loop (n:Int) (l:List Ac) (hl:l.length<=1000) (n1 f1:Bool) (k:List Item) (R:Int->Option (AVal × Heap))
  (hk:∀ τ,finK 0 [.tmp 4] (run E 0 k τ [])=R 0) (hR:∀ e,R e=some (.lit (.int .i64 e),[])) :
  ∀ (d i:Nat),i+d=l.length->finK 0 [.tmp 4] (run E 0 (.code L15_0::.inLoop [0,14,15,16] L15_0::.inBlock 0::k) [(0,.lit (.int .i64 n)),(14,.imm n1 f1 true (l.map encAc)),(15,.lit (.int .i64 l.length)),(16,.lit (.int .i64 i))] [])=R (chkAs n (l.drop i)):=by
 intro d
 induction d with
 | zero =>
  intro i hi
  have hlt:((i:Int)<(l.length:Int))=False:=eq_false (by omega)
  rw [List.drop_eq_nil_of_le (by omega)]
  simp [go_sem,r9c E L15_0.eq_1,hlt]
  exact hk _
 | succ d ih =>
  intro i hi
  have hlt:((i:Int)<(l.length:Int))=True:=eq_true (by omega)
  have hltn:i<l.length:=by omega
  have w:=wrapIdx (i:=i) (by omega)
  rw [List.drop_eq_getElem_cons hltn]
  obtain ⟨a,ha⟩:∃ a,l[i]=a:=⟨_,rfl⟩
  have hc:=fcheck_spec a.f
  rw [ha]
  have ih2:=ih (i+1) (by omega)
  rw [show ((i+1:Nat):Int)=(i:Int)+1 by simp] at ih2
  have hch:chkAs n (a::l.drop (i+1))=if chkA n a≠0 then chkA n a else chkAs n (l.drop (i+1)):=rfl
  rw [hch]
  simp [encFr,u8v] at hc
  have hge:(l.map encAc)[i]?=some (encAc a):=by rw [List.getElem?_map,getElem?_eq_getElem hltn,ha];rfl
  have hge2:∀ q:i<(l.map encAc).length,(l.map encAc)[i]=encAc a:=fun q=>(List.getElem?_eq_some_iff.1 hge).2
  have hml:(l.map encAc).length=l.length:=by simp
  generalize l.map encAc=rows at *
  by_cases h1:a.tick<0
  ·have hz:chkA n a=10:=if_pos (.inl h1)
   rw [hz,if_pos (by simp),hR]
   simp [go_sem,r9c E L15_0.eq_1,hlt,hltn,hge,hge2,hml,encAc,h1]
  ·by_cases h2:a.node<0
   ·have hz:chkA n a=10:=if_pos (.inr (.inl h2))
    rw [hz,if_pos (by simp),hR]
    simp [go_sem,r9c E L15_0.eq_1,hlt,hltn,hge,hge2,hml,encAc,h1,h2]
   ·by_cases h3:n<=a.node
    ·have hz:chkA n a=10:=if_pos (.inr (.inr h3))
     rw [hz,if_pos (by simp),hR]
     simp [go_sem,r9c E L15_0.eq_1,hlt,hltn,hge,hge2,hml,encAc,h1,h2,h3]
    ·cases h4:a.fault
     ·have hz:chkA n a=checkP a.f:=by unfold chkA;rw [if_neg (by omega),if_pos h4]
      rw [hz]
      by_cases h5:checkP a.f=0
      ·rw [if_neg (by simp [h5])]
       simp [go_sem,r9c E L15_0.eq_1,hlt,hltn,hge,hge2,hml,encAc,h1,h2,h3,h4,hc,h5,w]
       rw [r9l]
       simp [go_sem,p9q,range_succ]
       exact ih2
      ·rw [if_pos h5,hR]
       simp [go_sem,r9c E L15_0.eq_1,hlt,hltn,hge,hge2,hml,encAc,h1,h2,h3,h4,hc,h5,w]
     ·have hz:chkA n a=0:=by unfold chkA;rw [if_neg (by omega),if_neg (by simp [h4])]
      rw [hz,if_neg (by simp)]
      simp [go_sem,r9c E L15_0.eq_1,hlt,hltn,hge,hge2,hml,encAc,h1,h2,h3,h4,hc,w]
      rw [r9l]
      simp [go_sem,p9q,range_succ]
      exact ih2
theorem bChk_spec (n:Int) (l:List Ac) (hl:l.length<=1000) (n1 f1:Bool):call E (.func (.func 15) [] []) [.lit (.int .i64 n),.imm n1 f1 true (l.map encAc)] []=some (.lit (.int .i64 (chkAll n l)),[]):=by
 rw [c9f E E15]
 unfold chkAll
 have h:=fun k hk=>bChk_loop n l hl n1 f1 k (fun e=>some (.lit (.int .i64 e),[])) hk (fun _=>rfl) l.length 0 (by omega)
 have hml:(l.map encAc).length=l.length:=by simp
 generalize l.map encAc=rows at *
 by_cases h1:n<1
 ·simp [go_sem,ir15,h1]
 ·by_cases h2:32<n
  ·simp [go_sem,ir15,h1,h2]
  ·simp [go_sem,ir15,h1,h2,hml]
   rw [r9l]
   simp [go_sem,p9q,range_succ]
   simp at h
   refine h _ ?_
   intro τ
   simp [go_sem]
structure BP (H:Heap) (a na:Nat) (L:List NdL) (tk:Nat) (l f:Bool) (S:List (Nat × Entry)):Prop where
 bus:BusAt H a na L tk l f
 le:L.length<=32
 get:∀ q∈S,H[q.1]?=some q.2
 out:∀ q∈S,q.1 ∉ footB a na L
 nd:(S.map Prod.fst).Nodup
 cl:∀ q∈S,∀ j∈refsE q.2,j∈S.map Prod.fst
def sizeS (S:List (Nat × Entry)):Nat:=(S.map fun q=>(refsE q.2).length).sum
theorem BP.lt {H:Heap} {a na:Nat} {L:List NdL} {tk:Nat} {l f:Bool} {S:List (Nat × Entry)} (h:BP H a na L tk l f S) {q:Nat × Entry} (hq:q∈S):q.1<H.length:=lt_of_get (h.get q hq)
theorem sumR_size {H:Heap}:∀ {S:List (Nat × Entry)},(∀ q∈S,H[q.1]?=some q.2)->sumR H (S.map Prod.fst)=sizeS S
 | [],_=>rfl
 | q::S,h=>by
  have h1:refsAt H q.1=refsE q.2:=by unfold refsAt;rw [getD_eq_getElem?_getD,h q (by simp)];rfl
  have h2:=sumR_size (S:=S) (fun r hr=>h r (mem_cons_of_mem _ hr))
  unfold sizeS at h2 ⊢
  rw [map_cons,sumR,h1,h2,map_cons,List.sum_cons]
theorem BP.next {H:Heap} {a na:Nat} {L:List NdL} {tk:Nat} {l f:Bool} {S S2:List (Nat × Entry)} (h:BP H a na L tk l f S) (hz:sizeS S<=200) {live:List Nat} {b:ICode} {k:List Item} {τ:Tmps} (hq:marked live=false) {rs:List IRes} {P:Option (AVal × Heap)->Prop}
  {ws:List Nat} (hws:refsT (keep τ (liveT live))=ws) (hl:ws.length<=30) (ha:a∈ws) (hin:∀ i∈ws,i=a∨i∈S.map Prod.fst) (hs:∀ q∈S2,q∈S) (hc:∀ q∈S2,q.1∈ws∨∃ r∈S,r.1∈ws/\q.1∈refsE r.2) (hn:(S2.map Prod.fst).Nodup) (hcl:∀ q∈S2,∀ j∈refsE q.2,j∈S2.map Prod.fst)
  (hk:∀ H2,BP H2 a na L tk l f S2->P (finK 0 rs (run E 0 (.code b::.inLoop live b::k) (keep τ (liveT live)) H2))):P (finK 0 rs (run E 0 (.inLoop live b::k) τ H)):=by
 have hnd:(footB a na L).Nodup:=h.bus.nodup
 have hSn:(footB a na L++S.map Prod.fst).Nodup:=by
  rw [List.nodup_append]
  refine ⟨hnd,h.nd,?_⟩
  intro x hx y hy e
  subst e
  obtain ⟨q,hq,rfl⟩:=mem_map.1 hy
  exact h.out q hq hx
 have hat:∀ q∈S,refsAt H q.1=refsE q.2:=fun q hq=>by unfold refsAt;rw [getD_eq_getElem?_getD,h.get q hq];rfl
 have hclo:∀ i∈footB a na L++S.map Prod.fst,i<H.length/\∀ j∈refsAt H i,j∈footB a na L++S.map Prod.fst:=by
  intro i hi
  rcases mem_append.1 hi with q | q
  ·exact ⟨h.bus.lt i q,fun j hj=>mem_append_left _ (h.bus.closed i q j hj)⟩
  ·obtain ⟨r,hr,rfl⟩:=mem_map.1 q
   refine ⟨h.lt hr,fun j hj=>List.mem_append_right _ ?_⟩
   rw [hat r hr] at hj
   exact h.cl r hr j hj
 have hle:=h.le
 have hsum:sumR H (footB a na L)<=1+5 * L.length:=h.bus.sum
 have hss:=sumR_size h.get
 obtain ⟨T,t1,t2,t3,t4,t5⟩:=reach_total hSn hclo purse ws [] (fun i hi=>by
  rcases hin i hi with e | e
  ·rw [e];exact mem_append_left _ (by unfold footB;simp)
  ·exact List.mem_append_right _ e) List.nodup_nil (by
  have:=cost_le H [] (footB a na L++S.map Prod.fst)
  rw [sumR_append,hss] at this
  rw [p9q];omega)
 simp only [List.nil_append] at t1 t2 t4 t5
 have ia:a∈T:=t4 a ha
 have r1:refsAt H a=[na]:=by unfold refsAt;rw [getD_eq_getElem?_getD,h.bus.box];rfl
 have r2:refsAt H na=L.map NdL.a:=by
  unfold refsAt;rw [getD_eq_getElem?_getD,h.bus.arr]
  show (if false=true then [] else refsLL (ptrsL L))=_
  rw [if_neg (by simp),refs_ptrs]
 have ina:na∈T:=t5 a ia na (by rw [r1];simp)
 have hfoot:∀ i∈footB a na L,i∈T:=by
  intro i hi
  unfold footB at hi
  rcases mem_cons.1 hi with e | hi
  ·rw [e];exact ia
  ·rcases mem_cons.1 hi with e | hi
   ·rw [e];exact ina
   ·obtain ⟨p,hp,hx⟩:=mem_flats.1 hi
    have ip:p.a∈T:=t5 na ina p.a (by rw [r2];exact List.mem_map_of_mem hp)
    exact node_led (h.bus.nds p hp) (fun i hi j hj=>t5 i hi j hj) ip i hx
 rw [r9l,gcLoop_eq,hws,hq]
 have h0:rootsOf H 0++ws=ws:=rfl
 rw [h0,show List.range 0=[] from rfl,t1]
 show P (finK 0 rs (run E 0 _ (keep τ (liveT live)) (sweep T 0 H)))
 refine hk _ ⟨h.bus.same fun i hi=>sweep_get H _ 0 i (by rw [Nat.zero_add];exact hfoot i hi),h.le,fun q hq=>?_,fun q hq=>h.out q (hs q hq),hn,hcl⟩
 rw [sweep_get H T 0 q.1 (by
  rw [Nat.zero_add]
  rcases hc q hq with e | ⟨r,hr,e1,e2⟩
  ·exact t4 _ e
  ·exact t5 r.1 (t4 _ e1) q.1 (by rw [hat r hr];exact e2))]
 exact h.get q (hs q hq)
theorem BP.sub {H:Heap} {a na:Nat} {L:List NdL} {tk:Nat} {l f:Bool} {S S2:List (Nat × Entry)} (h:BP H a na L tk l f S) (hs:∀ q∈S2,q∈S) (hn:(S2.map Prod.fst).Nodup) (hcl:∀ q∈S2,∀ j∈refsE q.2,j∈S2.map Prod.fst):BP H a na L tk l f S2 :=
 ⟨h.bus,h.le,fun q hq=>h.get q (hs q hq),fun q hq=>h.out q (hs q hq),hn,hcl⟩
theorem BP.perm {H:Heap} {a na:Nat} {L:List NdL} {tk:Nat} {l f:Bool} {S S2:List (Nat × Entry)} (h:BP H a na L tk l f S) (hp:S.Perm S2):BP H a na L tk l f S2 :=
 h.sub (fun q hq=>hp.mem_iff.2 hq) ((hp.map Prod.fst).nodup_iff.1 h.nd) (fun q hq j hj=>(hp.map Prod.fst).mem_iff.1 (h.cl q (hp.mem_iff.2 hq) j hj))
theorem BP.app {H:Heap} {a na:Nat} {L:List NdL} {tk:Nat} {l f:Bool} {S:List (Nat × Entry)} (h:BP H a na L tk l f S) {e:Entry} (he:∀ j∈refsE e,j∈S.map Prod.fst):BP (H++[e]) a na L tk l f ((H.length,e)::S):=by
 refine ⟨h.bus.same fun i hi=>getElem?_append_left (h.bus.lt i hi),h.le,?_,?_,?_,?_⟩
 ·intro q hq
  rcases mem_cons.1 hq with e1 | e1
  ·rw [e1];simp
  ·rw [getElem?_append_left (h.lt e1)];exact h.get q e1
 ·intro q hq
  rcases mem_cons.1 hq with e1 | e1
  ·rw [e1];intro z;exact Nat.lt_irrefl _ (h.bus.lt _ z)
  ·exact h.out q e1
 ·rw [map_cons,nodup_cons]
  refine ⟨fun z=>?_,h.nd⟩
  obtain ⟨q,hq,e1⟩:=mem_map.1 z
  have:=h.lt hq
  rw [e1] at this
  exact Nat.lt_irrefl _ this
 ·intro q hq j hj
  rw [map_cons]
  rcases mem_cons.1 hq with e1 | e1
  ·rw [e1] at hj;exact mem_cons_of_mem _ (he j hj)
  ·exact mem_cons_of_mem _ (h.cl q e1 j hj)
theorem BP.far {H:Heap} {a na:Nat} {L:List NdL} {tk:Nat} {l f:Bool} {S:List (Nat × Entry)} (h:BP H a na L tk l f S) (X:Heap):BP (H++X) a na L tk l f S :=
 ⟨h.bus.same fun i hi=>getElem?_append_left (h.bus.lt i hi),h.le,fun q hq=>by rw [getElem?_append_left (h.lt hq)];exact h.get q hq,h.out,h.nd,h.cl⟩
theorem BP.put {H:Heap} {a na:Nat} {L:List NdL} {tk:Nat} {l f:Bool} {S:List (Nat × Entry)} {b:Nat} {e0:Entry} (h:BP H a na L tk l f ((b,e0)::S)) {e:Entry} (he:∀ j∈refsE e,j∈b::S.map Prod.fst):BP (List.set H b e) a na L tk l f ((b,e)::S):=by
 have hb:=h.out (b,e0) (by simp)
 have hnd:=h.nd
 rw [map_cons,nodup_cons] at hnd
 have hl:b<H.length:=h.lt (q:=(b,e0)) (by simp)
 refine ⟨h.bus.same fun i hi=>List.getElem?_set_ne (fun q=>hb (by rw [q];exact hi)),h.le,?_,?_,by rw [map_cons,nodup_cons];exact hnd,?_⟩
 ·intro q hq
  rcases mem_cons.1 hq with e1 | e1
  ·rw [e1];exact List.getElem?_set_self hl
  ·rw [List.getElem?_set_ne (fun z=>hnd.1 (mem_map.2 ⟨q,e1,z.symm⟩))]
   exact h.get q (mem_cons_of_mem _ e1)
 ·intro q hq
  rcases mem_cons.1 hq with e1 | e1
  ·rw [e1];exact hb
  ·exact h.out q (mem_cons_of_mem _ e1)
 ·intro q hq j hj
  rcases mem_cons.1 hq with e1 | e1
  ·rw [e1] at hj;exact he j hj
  ·exact h.cl q (mem_cons_of_mem _ e1) j hj
theorem BP.call {H H2:Heap} {a na:Nat} {L L2:List NdL} {tk tk2:Nat} {l f l2 f2:Bool} {S:List (Nat × Entry)} (h:BP H a na L tk l f S) (hb:BusAt H2 a na L2 tk2 l2 f2) (hl:L2.length<=32) (ar:Around H H2 (footB a na L) (footB a na L2)):BP H2 a na L2 tk2 l2 f2 S:=by
 refine ⟨hb,hl,fun q hq=>?_,fun q hq z=>?_,h.nd,h.cl⟩
 ·rw [ar.same q.1 (h.lt hq) (h.out q hq)];exact h.get q hq
 ·rcases ar.new q.1 z with y | y
  ·exact h.out q hq y
  ·have:=h.lt hq;omega
theorem BP.callE {H H2:Heap} {a na:Nat} {L L2:List NdL} {tk tk2:Nat} {l f l2 f2:Bool} {S:List (Nat × Entry)} (h:BP H a na L tk l f S) (hb:BusAt H2 a na L2 tk2 l2 f2) (hl:L2.length<=32) (ar:Around H H2 (footB a na L) (footB a na L2)) {b:Nat} {e:Entry} (h1:H2[b]?=some e) (h2:H.length<=b) (h3:b ∉ footB a na L2) (he:∀ j∈refsE e,j∈S.map Prod.fst):BP H2 a na L2 tk2 l2 f2 ((b,e)::S):=by
 have h4:=h.call hb hl ar
 refine ⟨h4.bus,h4.le,?_,?_,?_,?_⟩
 ·intro q hq
  rcases mem_cons.1 hq with e1 | e1
  ·rw [e1];exact h1
  ·exact h4.get q e1
 ·intro q hq
  rcases mem_cons.1 hq with e1 | e1
  ·rw [e1];exact h3
  ·exact h4.out q e1
 ·rw [map_cons,nodup_cons]
  refine ⟨fun z=>?_,h.nd⟩
  obtain ⟨q,hq,e1⟩:=mem_map.1 z
  have:=h.lt hq
  simp only at e1
  omega
 ·intro q hq j hj
  rw [map_cons]
  rcases mem_cons.1 hq with e1 | e1
  ·rw [e1] at hj;exact mem_cons_of_mem _ (he j hj)
  ·exact mem_cons_of_mem _ (h.cl q e1 j hj)
def dayL (acts:List Ac) (t:Int):List Ac:=acts.filter fun a=>decide (a.tick=t)
def rowV (i n:Nat):AVal:=.own i n 15 0 n
def mapV (acts:List Ac) (K:List (Int × Nat)):List (Int × AVal):=K.map fun q=>(q.1,rowV q.2 (dayL acts q.1).length)
def dayE (acts:List Ac) (t:Int):Entry:=.arr true false false 15 ((dayL acts t).map encAc)
def rowS (acts:List Ac) (K:List (Int × Nat)):List (Nat × Entry):=K.map fun q=>(q.2,dayE acts q.1)
theorem dayL_snoc (acts:List Ac) (a:Ac) (t:Int):dayL (acts++[a]) t=if a.tick=t then dayL acts t++[a] else dayL acts t:=by
 unfold dayL
 rw [List.filter_append]
 by_cases h:a.tick=t
 ·simp [h]
 ·simp [h]
theorem mapV_same {acts:List Ac} {a:Ac} {K:List (Int × Nat)} (h:a.tick ∉ K.map Prod.fst):mapV (acts++[a]) K=mapV acts K:=by
 unfold mapV
 refine List.map_congr_left fun q hq=>?_
 rw [dayL_snoc,if_neg (fun e=>h (mem_map.2 ⟨q,hq,e.symm⟩))]
theorem rowS_same {acts:List Ac} {a:Ac} {K:List (Int × Nat)} (h:a.tick ∉ K.map Prod.fst):rowS (acts++[a]) K=rowS acts K:=by
 unfold rowS
 refine List.map_congr_left fun q hq=>?_
 unfold dayE
 rw [dayL_snoc,if_neg (fun e=>h (mem_map.2 ⟨q,hq,e.symm⟩))]
theorem mfind_none {t:Int} {acts:List Ac}:∀ {K:List (Int × Nat)},t ∉ K.map Prod.fst->mfind t (mapV acts K)=none
 | [],_=>rfl
 | q::K,h=>by
  have h1:t≠q.1:=fun e=>h (by simp [e])
  have h2:t ∉ K.map Prod.fst:=fun e=>h (by simp only [map_cons,mem_cons];exact .inr e)
  show (if t=q.1 then _ else mfind t (mapV acts K))=none
  rw [if_neg h1];exact mfind_none h2
theorem mput_none {t:Int} {v:AVal} {acts:List Ac}:∀ {K:List (Int × Nat)},t ∉ K.map Prod.fst->mput t v (mapV acts K)=mapV acts K++[(t,v)]
 | [],_=>rfl
 | q::K,h=>by
  have h1:t≠q.1:=fun e=>h (by simp [e])
  have h2:t ∉ K.map Prod.fst:=fun e=>h (by simp only [map_cons,mem_cons];exact .inr e)
  show (if t=q.1 then _ else (q.1,_)::mput t v (mapV acts K))=_
  rw [if_neg h1,mput_none h2];rfl
theorem mfind_mid {t:Int} {i:Nat} {acts:List Ac}:∀ {K1 K2:List (Int × Nat)},t ∉ K1.map Prod.fst->mfind t (mapV acts (K1++(t,i)::K2))=some (rowV i (dayL acts t).length)
 | [],K2,_=>by
  show (if t=t then _ else _)=_
  rw [if_pos rfl]
 | q::K1,K2,h=>by
  have h1:t≠q.1:=fun e=>h (by simp [e])
  have h2:t ∉ K1.map Prod.fst:=fun e=>h (by simp only [map_cons,mem_cons];exact .inr e)
  show (if t=q.1 then _ else mfind t (mapV acts (K1++(t,i)::K2)))=_
  rw [if_neg h1];exact mfind_mid h2
theorem mput_mid {t:Int} {i:Nat} {v:AVal} {acts:List Ac}:∀ {K1 K2:List (Int × Nat)},t ∉ K1.map Prod.fst->mput t v (mapV acts (K1++(t,i)::K2))=mapV acts K1++(t,v)::mapV acts K2
 | [],K2,_=>by
  show (if t=t then _ else _)=_
  rw [if_pos rfl];rfl
 | q::K1,K2,h=>by
  have h1:t≠q.1:=fun e=>h (by simp [e])
  have h2:t ∉ K1.map Prod.fst:=fun e=>h (by simp only [map_cons,mem_cons];exact .inr e)
  show (if t=q.1 then _ else (q.1,_)::mput t v (mapV acts (K1++(t,i)::K2)))=_
  rw [if_neg h1,mput_mid h2];rfl
theorem mapV_append (acts:List Ac) (K1 K2:List (Int × Nat)):mapV acts (K1++K2)=mapV acts K1++mapV acts K2:=by unfold mapV;rw [map_append]
theorem rowS_append (acts:List Ac) (K1 K2:List (Int × Nat)):rowS acts (K1++K2)=rowS acts K1++rowS acts K2:=by unfold rowS;rw [map_append]
theorem mapV_cons (acts:List Ac) (q:Int × Nat) (K:List (Int × Nat)):mapV acts (q::K)=(q.1,rowV q.2 (dayL acts q.1).length)::mapV acts K:=rfl
theorem rowS_cons (acts:List Ac) (q:Int × Nat) (K:List (Int × Nat)):rowS acts (q::K)=(q.2,dayE acts q.1)::rowS acts K:=rfl
theorem rowS_fst (acts:List Ac) (K:List (Int × Nat)):(rowS acts K).map Prod.fst=K.map Prod.snd:=by unfold rowS;rw [List.map_map];rfl
theorem refsM_mapV (acts:List Ac):∀ K:List (Int × Nat),refsM (mapV acts K)=K.map Prod.snd
 | []=>rfl
 | q::K=>by
  show refsV (rowV q.2 _)++refsM (mapV acts K)=_
  rw [refsM_mapV acts K];rfl
theorem refs_map (es:List (Int × AVal)):refsE (.map es)=refsM es:=rfl
theorem refs_dayE (acts:List Ac) (t:Int):refsE (dayE acts t)=[]:=rfl
def mapS (im:Nat) (acts:List Ac) (K:List (Int × Nat)):List (Nat × Entry):=(im,.map (mapV acts K))::rowS acts K
theorem mapS_cl (im:Nat) (acts:List Ac) (K:List (Int × Nat)):∀ q∈mapS im acts K,∀ j∈refsE q.2,j∈(mapS im acts K).map Prod.fst:=by
 intro q hq j hj
 unfold mapS at hq ⊢
 rw [map_cons,rowS_fst]
 rcases mem_cons.1 hq with e | e
 ·rw [e,refs_map,refsM_mapV] at hj;exact mem_cons_of_mem _ hj
 ·unfold rowS at e
  obtain ⟨r,-,rfl⟩:=mem_map.1 e
  rw [refs_dayE] at hj;cases hj
theorem sizeS_append (S T:List (Nat × Entry)):sizeS (S++T)=sizeS S+sizeS T:=by unfold sizeS;rw [map_append,List.sum_append]
theorem sizeS_cons (q:Nat × Entry) (T:List (Nat × Entry)):sizeS (q::T)=(refsE q.2).length+sizeS T:=rfl
theorem sizeS_rowS (acts:List Ac):∀ K:List (Int × Nat),sizeS (rowS acts K)=0
 | []=>rfl
 | q::K=>by rw [rowS_cons,sizeS_cons,sizeS_rowS acts K,refs_dayE];rfl
theorem sizeS_mapS (im:Nat) (acts:List Ac) (K:List (Int × Nat)):sizeS (mapS im acts K)=K.length:=by
 unfold mapS;rw [sizeS_cons,sizeS_rowS,refs_map,refsM_mapV,length_map];rfl
structure KOk2 (acts:List Ac) (K:List (Int × Nat)):Prop where
 nd:(K.map Prod.fst).Nodup
 all:∀ a∈acts,a.tick∈K.map Prod.fst
 len:K.length<=acts.length
theorem rowsAc (l:List Ac):rowsOk 15 (l.map encAc)=true:=by
 unfold rowsOk;rw [List.all_map];simp [encAc]
theorem mapS_led {im:Nat} {acts:List Ac} {K:List (Int × Nat)} {ws:List Nat} (h:im∈ws):∀ q∈mapS im acts K,q.1∈ws∨∃ r∈mapS im acts K,r.1∈ws/\q.1∈refsE r.2:=by
 intro q hq
 unfold mapS at hq
 rcases mem_cons.1 hq with e | e
 ·rw [e];exact .inl h
 ·refine .inr ⟨(im,.map (mapV acts K)),List.mem_cons_self ..,h,?_⟩
  rw [refs_map,refsM_mapV,<- rowS_fst acts K]
  exact List.mem_map_of_mem e
theorem play_loop0 (l:List Ac) (hl:l.length<=60) (n1 f1:Bool) (a na:Nat) (L:List NdL) (lb fb:Bool) (im:Nat) (ticks:Int) (rs:List IRes) (k:List Item) (P:Option (AVal × Heap)->Prop)
  (hk:∀ H K τ,KOk2 l K->BP H a na L 0 lb fb (mapS im l K)->lk 1 τ=.lit (.int .i64 ticks)->lk 10 τ=.ptr a 0->lk 12 τ=.mref im->P (finK 0 rs (run E 0 k τ H))) :
  ∀ (d i:Nat),i+d=l.length->∀ (H:Heap) (K:List (Int × Nat)),KOk2 (l.take i) K->BP H a na L 0 lb fb (mapS im (l.take i) K) ->
  P (finK 0 rs (run E 0 (.code L17_0::.inLoop [1,10,12,45,46,47] L17_0::.inBlock 0::k) [(1,.lit (.int .i64 ticks)),(10,.ptr a 0),(12,.mref im),(45,.imm n1 f1 true (l.map encAc)),(46,.lit (.int .i64 l.length)),(47,.lit (.int .i64 i))] H)):=by
 intro d
 induction d with
 | zero =>
  intro i hi H K hK h
  have hlt:((i:Int)<(l.length:Int))=False:=eq_false (by omega)
  rw [List.take_of_length_le (by omega)] at h hK
  simp [go_sem,r9c E L17_0.eq_1,hlt]
  exact hk H K _ hK h (by simp [lk]) (by simp [lk]) (by simp [lk])
 | succ d ih =>
  intro i hi H K hK h
  have hlt:((i:Int)<(l.length:Int))=True:=eq_true (by omega)
  have hltn:i<l.length:=by omega
  have w:=wrapIdx (i:=i) (by omega)
  obtain ⟨x,hx⟩:∃ x,l[i]=x:=⟨_,rfl⟩
  have hge:(l.map encAc)[i]?=some (encAc x):=by rw [List.getElem?_map,getElem?_eq_getElem hltn,hx];rfl
  have hge2:∀ q:i<(l.map encAc).length,(l.map encAc)[i]=encAc x:=fun q=>(List.getElem?_eq_some_iff.1 hge).2
  have hml:(l.map encAc).length=l.length:=by simp
  have htk:l.take (i+1)=l.take i++[x]:=by rw [List.take_succ_eq_append_getElem hltn,hx]
  have ih2:=fun H2 K2=>ih (i+1) (by omega) H2 K2
  rw [htk,show ((i+1:Nat):Int)=(i:Int)+1 by simp] at ih2
  have hal:(l.take i).length<=60:=by rw [List.length_take];omega
  generalize l.take i=acts at hK h ih2 hal
  have gm:H[im]?=some (.map (mapV acts K)):=h.get (im,_) (List.mem_cons_self ..)
  have gmX:∀ X:Heap,(H++X)[im]?=some (.map (mapV acts K)):=fun X=>by rw [getElem?_append_left (lt_of_get gm)];exact gm
  have gmX2:∀ (X:Heap) (q:im<(H++X).length),(H++X)[im]=.map (mapV acts K):=fun X q=>(List.getElem?_eq_some_iff.1 (gmX X)).2
  have hnd:=h.nd
  have hKl:=hK.len
  generalize l.map encAc=rows at *
  by_cases hin:x.tick∈K.map Prod.fst
  ·obtain ⟨⟨t,j⟩,hq,e⟩:=mem_map.1 hin
   simp only at e
   obtain ⟨K1,K2,rfl⟩:=List.append_of_mem hq
   subst e
   have hk1:x.tick ∉ K1.map Prod.fst/\x.tick ∉ K2.map Prod.fst:=by
    have:=hK.nd
    rw [map_append,List.nodup_append] at this
    have h2:=this.2.1
    rw [map_cons,nodup_cons] at h2
    exact ⟨fun z=>this.2.2 _ z _ (by simp) rfl,h2.1⟩
   have hf:=mfind_mid (t:=x.tick) (i:=j) (acts:=acts) (K2:=K2) hk1.1
   have hp:=fun v=>mput_mid (t:=x.tick) (i:=j) (v:=v) (acts:=acts) (K2:=K2) hk1.1
   have gj:H[j]?=some (dayE acts x.tick):=h.get (j,_) (by
    unfold mapS
    rw [rowS_append,rowS_cons]
    exact mem_cons_of_mem _ (List.mem_append_right _ (List.mem_cons_self ..)))
   have hjim:j≠im:=by
    intro e
    unfold mapS at hnd
    rw [map_cons,nodup_cons,rowS_fst] at hnd
    exact hnd.1 (by rw [<- e];simp)
   have gjX:∀ X:Heap,(H++X)[j]?=some (.arr true false false 15 ((dayL acts x.tick).map encAc)):=fun X=>by rw [getElem?_append_left (lt_of_get gj)];exact gj
   have gjX2:∀ (X:Heap) (q:j<(H++X).length),(H++X)[j]=.arr true false false 15 ((dayL acts x.tick).map encAc):=fun X q=>(List.getElem?_eq_some_iff.1 (gjX X)).2
   have hrow:=rowsAc (dayL acts x.tick)
   have hjN:(j=H.length)=False:=eq_false (fun e=>by have:=lt_of_get gj;omega)
   have hlen:((dayL acts x.tick).map encAc).length=(dayL acts x.tick).length:=by simp
   have hcnt:(dayL acts x.tick).length<=60:=Nat.le_trans (List.length_filter_le _ _) hal
   have h46:(70368744177664<((dayL acts x.tick).length+1) * 56)=False:=eq_false (by omega)
   have e1:mapV (acts++[x]) (K1++(x.tick,j)::K2)=mapV acts K1++(x.tick,rowV j ((dayL acts x.tick).length+1))::mapV acts K2:=by
    rw [mapV_append,mapV_cons,mapV_same hk1.1,mapV_same hk1.2,dayL_snoc,if_pos rfl,length_append];rfl
   have e2:rowS (acts++[x]) (K1++(x.tick,j)::K2)=rowS acts K1++(j,.arr true false false 15 ((dayL acts x.tick).map encAc++[encAc x]))::rowS acts K2:=by
    rw [rowS_append,rowS_cons,rowS_same hk1.1,rowS_same hk1.2]
    unfold dayE
    rw [dayL_snoc,if_pos rfl,map_append];rfl
   have hB:=((h.far [.box (encAc x),.arr true false true 15 [encAc x]]).perm (S2:=(j,dayE acts x.tick)::(im,.map (mapV acts (K1++(x.tick,j)::K2)))::(rowS acts K1++rowS acts K2)) (by
    unfold mapS
    rw [rowS_append,rowS_cons]
    exact (List.Perm.cons _ List.perm_middle).trans (List.Perm.swap ..))).put (e:=.arr true false false 15 ((dayL acts x.tick).map encAc++[encAc x])) (by intro j hj;cases hj)
   have hC:=(hB.perm (S2:=(im,.map (mapV acts (K1++(x.tick,j)::K2)))::(j,.arr true false false 15 ((dayL acts x.tick).map encAc++[encAc x]))::(rowS acts K1++rowS acts K2)) (List.Perm.swap ..)).put (e:=.map (mapV (acts++[x]) (K1++(x.tick,j)::K2))) (by
    intro u hu
    rw [refs_map,refsM_mapV] at hu
    rw [map_cons,map_append,rowS_fst,rowS_fst]
    simp at hu ⊢
    rcases hu with e | e | e
    ·exact .inr (.inr (.inl e))
    ·exact .inr (.inl e)
    ·exact .inr (.inr (.inr e)))
   have hD:=hC.perm (S2:=mapS im (acts++[x]) (K1++(x.tick,j)::K2)) (by
    unfold mapS
    rw [e2]
    exact List.Perm.cons _ List.perm_middle.symm)
   have hK2:KOk2 (acts++[x]) (K1++(x.tick,j)::K2):=by
    refine ⟨hK.nd,?_,by simp at hKl ⊢;omega⟩
    intro y hy
    rcases mem_append.1 hy with e | e
    ·exact hK.all y e
    ·simp at e;subst e;exact hin
   rw [e1] at hD
   unfold rowV at hD hf
   simp [go_sem,r9c E L17_0.eq_1,hlt,hltn,hge,hge2,hml,encAc,gm,gmX,gmX2,hf,hp,gjX,gjX2,hrow,hlen,h46,hjim,hjN,w]
   exact BP.next hD (by rw [sizeS_mapS];simp at hKl ⊢;omega) rfl (ws:=[a,im]) rfl (by simp) (by simp) (by simp [mapS]) (fun q hq=>hq) (mapS_led (by simp)) hD.nd (mapS_cl _ _ _) (fun H2 hB2=>ih2 H2 _ hK2 hB2)
  ·have hf:=mfind_none (acts:=acts) hin
   have hp:=fun v=>mput_none (v:=v) (acts:=acts) hin
   have hd0:dayL acts x.tick=[]:=by
    unfold dayL
    rw [List.filter_eq_nil_iff]
    intro y hy z
    exact hin (by rw [<- (of_decide_eq_true z)];exact hK.all y hy)
   have hB:=((h.far [.box (encAc x),.arr true false true 15 [encAc x]]).app (e:=.arr true false false 15 [encAc x]) (by intro j hj;cases hj))
   rw [List.append_assoc,length_append,show [Entry.box (encAc x),.arr true false true 15 [encAc x]].length=2 from rfl] at hB
   have hC:=(hB.perm (S2:=(im,.map (mapV acts K))::(H.length+2,.arr true false false 15 [encAc x])::rowS acts K) (List.Perm.swap ..)).put (e:=.map (mapV (acts++[x]) (K++[(x.tick,H.length+2)]))) (by
    intro j hj
    rw [refs_map,refsM_mapV] at hj
    rw [map_cons,rowS_fst]
    simp at hj ⊢
    rcases hj with e | e
    ·exact .inr (.inr e)
    ·exact .inr (.inl e))
   have e1:mapV (acts++[x]) (K++[(x.tick,H.length+2)])=mapV acts K++[(x.tick,rowV (H.length+2) 1)]:=by
    rw [mapV_append,mapV_same hin,mapV_cons,dayL_snoc,if_pos rfl,hd0];rfl
   have e2:rowS (acts++[x]) (K++[(x.tick,H.length+2)])=rowS acts K++[(H.length+2,.arr true false false 15 [encAc x])]:=by
    rw [rowS_append,rowS_same hin,rowS_cons]
    unfold dayE
    rw [dayL_snoc,if_pos rfl,hd0];rfl
   have hD:=hC.perm (S2:=mapS im (acts++[x]) (K++[(x.tick,H.length+2)])) (by
    unfold mapS
    rw [e2]
    exact List.Perm.cons _ (List.perm_append_comm (l₁:=[(H.length+2,Entry.arr true false false 15 [encAc x])])))
   have hK2:KOk2 (acts++[x]) (K++[(x.tick,H.length+2)]):=by
    refine ⟨?_,?_,by simp;omega⟩
    ·rw [map_append,List.nodup_append]
     refine ⟨hK.nd,by simp,?_⟩
     intro u hu v hv e
     simp at hv
     subst hv;subst e;exact hin hu
    ·intro y hy
     rcases mem_append.1 hy with e | e
     ·rw [map_append];exact mem_append_left _ (hK.all y e)
     ·simp at e;subst e;simp
   rw [e1] at hD
   simp [go_sem,r9c E L17_0.eq_1,hlt,hltn,hge,hge2,hml,encAc,gm,gmX,gmX2,hf,hp,w]
   exact BP.next hD (by rw [sizeS_mapS];simp;omega) rfl (ws:=[a,im]) rfl (by simp) (by simp) (by simp [mapS]) (fun q hq=>hq) (mapS_led (by simp)) hD.nd (mapS_cl _ _ _) (fun H2 hB2=>ih2 H2 _ hK2 hB2)
def NdsB (B:Nat) (ns:List Nd):Prop:=∀ n∈ns,n.Inv/\n.k<=B
theorem NdsB.ok {B:Nat} {ns:List Nd} (h:NdsB B ns) (hB:B<=1000000000):NdsOk ns:=fun n hn=>⟨(h n hn).1,Nat.le_trans (h n hn).2 hB⟩
def putNs (ns:List Nd) (i:Nat) (f:Fr):List Nd:=match ns[i]? with
 | some n=>ns.set i (nputN n f).2
 | none=>ns
def actN (s:BitVec 32 × List Nd) (a:Ac):BitVec 32 × List Nd:=if a.fault=true then (s.1 ||| bitB a.node.toNat,s.2) else (s.1,putNs s.2 a.node.toNat a.f)
theorem putNs_len (ns:List Nd) (i:Nat) (f:Fr):(putNs ns i f).length=ns.length:=by
 unfold putNs;split<;>simp
theorem putNs_ok {B:Nat} {ns:List Nd} (h:NdsB B ns) (i:Nat) {f:Fr} (hf:f.Ok):NdsB B (putNs ns i f):=by
 unfold putNs
 split
 ·rename_i n hn
  intro m hm
  rcases List.mem_or_eq_of_mem_set hm with e | e
  ·exact h m e
  ·have hh:=h n (mem_of_getElem? hn)
   subst e
   refine ⟨inv_put hh.1 hf,?_⟩
   have:(nputN n f).2.k=n.k:=by unfold nputN;split<;>(try split)<;>rfl
   rw [this];exact hh.2
 ·exact h
theorem busput_at {H:Heap} {a na:Nat} {L:List NdL} {tk:Nat} {l f:Bool} (h:BusAt H a na L tk l f) (hk:L.length<=32) (hI:NdsOk (L.map NdL.n)) (i:Nat) (n:Nd) (hi:(L.map NdL.n)[i]?=some n) (f0:Fr) :
  ∃ H2 L2,callK1 (call E) H (some (.func (.func 11) [] [],[])) (some ([.ptr a 0,.lit (.int .i64 i),.agg (encFr f0)],[]))=some (.lit (.int .i64 (nputN n f0).1),H2)/\L2.map NdL.n=(L.map NdL.n).set i (nputN n f0).2/\BusAt H2 a na L2 tk l f/\Around H H2 (footB a na L) (footB a na L2)/\QuietB H H2 (footB a na L) (footB a na L2):=by
 obtain ⟨b2,H2,L2,e1,e2,e3,e4,e5,-⟩:=bus_do h hk (.func (.func 11) [] []) [.lit (.int .i64 i),.agg (encFr f0)] rfl (by simp [flatL,flatV,encFr,u8v]) (c:=call E) (V:=fun _=>.lit (.int .i64 (nputN n f0).1)) (fun _ _=>rfl) (N2:=(L.map NdL.n).set i (nputN n f0).2) (tk2:=tk) (l2:=l) (f2:=f) (evs:=[]) (fun Hc Lc h1 h2=>by
  have hl:Lc.length=L.length:=by have:=congrArg List.length h1;simpa using this
  obtain ⟨b2,Hf,Lf,e1,e2,e3⟩:=bPut_spec h2 (by omega) (by rw [h1];exact hI) i n (by rw [h1];exact hi) f0
  rw [h1] at e2
  exact ⟨b2,Hf,Lf,e1,e2,e3⟩)
 exact ⟨H2,L2,e1,e2,e3,e4,e5⟩
theorem bstep_at {H:Heap} {a na:Nat} {L:List NdL} {tk:Nat} {l f:Bool} (h:BusAt H a na L tk l f) (hk:L.length<=32) (hI:NdsOk (L.map NdL.n)) (htk:tk<=1000000000) (F:BitVec 32) (hfit:fitsB F L.length=true) :
  ∃ b2 H2 L2,callK1 (call E) H (some (.func (.func 9) [] [],[])) (some ([.ptr a 0,.lit (.int .u32 F.toNat)],[]))=some (forceV F 0#32 0#32 tk (L.map NdL.n) b2,H2)/\L2.map NdL.n=forceN F 0#32 0#32 (L.map NdL.n)/\BusAt H2 a na L2 (tk+1) l f/\Around H H2 (footB a na L) (footB a na L2)/\QuietB H H2 (footB a na L) (footB a na L2) /\
   (forceE F 0#32 0#32 tk (L.map NdL.n)≠[]->(∃ lkb fu,H2[b2]?=some (.arr true lkb fu 15 ((forceE F 0#32 0#32 tk (L.map NdL.n)).map encBev)))/\H.length<=b2/\b2 ∉ footB a na L2) :=
 bus_do h hk (.func (.func 9) [] []) [.lit (.int .u32 F.toNat)] rfl rfl (forceV_ren F 0#32 0#32 tk (L.map NdL.n)) (fun Hc Lc h1 h2=>by
  have hl:Lc.length=L.length:=by have:=congrArg List.length h1;simpa using this
  obtain ⟨b2,Hf,Lf,e1,e2,e3⟩:=bstep_spec h2 (by omega) (by rw [h1];exact hI) htk F (by rw [hl];exact hfit)
  rw [h1] at e1 e2 e3
  exact ⟨b2,Hf,Lf,e1,e2,e3⟩)
theorem sizeS_zero {R:List (Nat × Entry)} (h:∀ q∈R,refsE q.2=[]):sizeS R=0:=by
 induction R with
 | nil=>rfl
 | cons q R ih=>rw [sizeS_cons,ih (fun r hr=>h r (mem_cons_of_mem _ hr)),h q (List.mem_cons_self ..)];rfl
theorem mapR_next {H:Heap} {a na:Nat} {L:List NdL} {tk:Nat} {lb fb:Bool} {im:Nat} {l:List Ac} {K:List (Int × Nat)} {R R2:List (Nat × Entry)} (h:BP H a na L tk lb fb (mapS im l K++R)) (hK:K.length<=60) (hR0:∀ q∈R,refsE q.2=[]) {live:List Nat} {b:ICode} {k:List Item} {τ:Tmps} (hq:marked live=false) {rs:List IRes} {P:Option (AVal × Heap)->Prop}
  {ws:List Nat} (hws:refsT (keep τ (liveT live))=ws) (hl:ws.length<=30) (h1:a∈ws) (h2:im∈ws) (hs:∀ q∈R2,q∈R) (hn:(R2.map Prod.fst).Nodup) (h3:∀ q∈R2,q.1∈ws) (h4:∀ i∈ws,i=a∨i∈(mapS im l K++R).map Prod.fst)
  (hk:∀ H2,BP H2 a na L tk lb fb (mapS im l K++R2)->P (finK 0 rs (run E 0 (.code b::.inLoop live b::k) (keep τ (liveT live)) H2))):P (finK 0 rs (run E 0 (.inLoop live b::k) τ H)):=by
 have hsub:∀ q∈mapS im l K++R2,q∈mapS im l K++R:=fun q hq=>by
  rcases mem_append.1 hq with e | e
  ·exact mem_append_left _ e
  ·exact List.mem_append_right _ (hs q e)
 refine BP.next h (by rw [sizeS_append,sizeS_mapS,sizeS_zero hR0];omega) hq hws hl h1 h4 hsub ?_ ?_ ?_ hk
 ·intro q hq
  rcases mem_append.1 hq with e | e
  ·rcases mapS_led h2 q e with z | ⟨r,hr,z1,z2⟩
   ·exact .inl z
   ·exact .inr ⟨r,mem_append_left _ hr,z1,z2⟩
  ·exact .inl (h3 q e)
 ·have:=h.nd
  rw [map_append,List.nodup_append] at this ⊢
  refine ⟨this.1,hn,fun x hx y hy=>?_⟩
  obtain ⟨q,hq,rfl⟩:=mem_map.1 hy
  exact this.2.2 x hx q.1 (List.mem_map_of_mem (hs q hq))
 ·intro q hq j hj
  rw [map_append]
  rcases mem_append.1 hq with e | e
  ·exact mem_append_left _ (mapS_cl im l K q e j hj)
  ·rw [hR0 q (hs q e)] at hj;cases hj
theorem play_loop2 (l:List Ac) (hll:l.length<=60) (K:List (Int × Nat)) (hK:KOk2 l K) (t:Int) (j:Nat) (hj:(t,j)∈K) (N:Nat) (hN:N<=32) (hok:∀ x∈l,0<=x.node/\x.node<N/\x.f.Ok) (a na im tk:Nat) (lb fb:Bool) (B:Nat) (hB:B<=1000000000) (vr ve:AVal) (R:List (Nat × Entry)) (hR:refsV vr++refsV ve=R.map Prod.fst) (hR0:∀ q∈R,refsE q.2=[]) (hRl:R.length<=2) (v62 v63:Int) (F2:BitVec 32) (N2:List Nd) (rs:List IRes) (k:List Item) (P:Option (AVal × Heap)->Prop)
  (hk:∀ H L τ,L.map NdL.n=N2->L.length=N->NdsB B (L.map NdL.n)->BP H a na L tk lb fb (mapS im l K++R)->lk 10 τ=.ptr a 0->lk 12 τ=.mref im->lk 15 τ=vr->lk 16 τ=ve->lk 18 τ=.lit (.int .u32 F2.toNat)->lk 62 τ=.lit (.int .i64 v62)->lk 63 τ=.lit (.int .i64 v63)->P (finK 0 rs (run E 0 k τ H))) :
  ∀ (d i:Nat),i+d=(dayL l t).length->∀ (H:Heap) (L:List NdL) (F:BitVec 32),L.length=N->NdsB B (L.map NdL.n)->((dayL l t).drop i).foldl actN (F,L.map NdL.n)=(F2,N2)->BP H a na L tk lb fb (mapS im l K++R) ->
  P (finK 0 rs (run E 0 (.code L17_2::.inLoop [10,12,15,16,18,62,63,68,69,70] L17_2::.inBlock 4::k) [(10,.ptr a 0),(12,.mref im),(15,vr),(16,ve),(18,.lit (.int .u32 F.toNat)),(62,.lit (.int .i64 v62)),(63,.lit (.int .i64 v63)),(68,.own j (dayL l t).length 15 0 (dayL l t).length),(69,.lit (.int .i64 (dayL l t).length)),(70,.lit (.int .i64 i))] H)):=by
 intro d
 induction d with
 | zero =>
  intro i hi H L F hL hI hf h
  have hlt:((i:Int)<((dayL l t).length:Int))=False:=eq_false (by omega)
  rw [List.drop_eq_nil_of_le (by omega)] at hf
  simp at hf
  simp [go_sem,r9c E L17_2.eq_1,hlt]
  exact hk H L _ hf.2 hL hI h (by simp [lk]) (by simp [lk]) (by simp [lk]) (by simp [lk]) (by simp [lk,hf.1]) (by simp [lk]) (by simp [lk])
 | succ d ih =>
  intro i hi H L F hL hI hf h
  have hlt:((i:Int)<((dayL l t).length:Int))=True:=eq_true (by omega)
  have hltn:i<(dayL l t).length:=by omega
  have hdl:(dayL l t).length<=60:=Nat.le_trans (List.length_filter_le _ _) hll
  have w:=wrapIdx (i:=i) (by omega)
  obtain ⟨x,hx⟩:∃ x,(dayL l t)[i]=x:=⟨_,rfl⟩
  have hxl:x∈l:=by
   have:x∈dayL l t:=by rw [<- hx];exact List.getElem_mem hltn
   unfold dayL at this
   exact (List.mem_filter.1 this).1
  obtain ⟨x1,x2,x3⟩:=hok x hxl
  rw [List.drop_eq_getElem_cons hltn,hx,List.foldl_cons] at hf
  have hjm:(j,dayE l t)∈mapS im l K++R:=mem_append_left _ (by
   unfold mapS rowS
   exact mem_cons_of_mem _ (mem_map.2 ⟨(t,j),hj,rfl⟩))
  have gj:H[j]?=some (.arr true false false 15 ((dayL l t).map encAc)):=h.get _ hjm
  have hge:((dayL l t).map encAc)[i]?=some (encAc x):=by rw [List.getElem?_map,getElem?_eq_getElem hltn,hx];rfl
  have hge2:∀ q:i<((dayL l t).map encAc).length,((dayL l t).map encAc)[i]=encAc x:=fun q=>(List.getElem?_eq_some_iff.1 hge).2
  have hml:((dayL l t).map encAc).length=(dayL l t).length:=by simp
  have ih2:=fun H2 L2 F3=>ih (i+1) (by omega) H2 L2 F3
  rw [show ((i+1:Nat):Int)=(i:Int)+1 by simp] at ih2
  have hRn:(R.map Prod.fst).Nodup:=by
   have:=h.nd
   rw [map_append,List.nodup_append] at this
   exact this.2.1
  have hws1:∀ q∈R,q.1∈a::im::(refsV vr++(refsV ve++[j])):=by
   intro q hq
   have:q.1∈refsV vr++refsV ve:=by rw [hR];exact List.mem_map_of_mem hq
   rw [<- List.append_assoc]
   exact mem_cons_of_mem _ (mem_cons_of_mem _ (mem_append_left _ this))
  have hws2:∀ u∈a::im::(refsV vr++(refsV ve++[j])),u=a∨u∈(mapS im l K++R).map Prod.fst:=by
   intro u hu
   rcases mem_cons.1 hu with e | hu
   ·exact .inl e
   ·rcases mem_cons.1 hu with e | hu
    ·rw [e];exact .inr (by unfold mapS;simp)
    ·rw [<- List.append_assoc,hR] at hu
     rw [map_append]
     rcases mem_append.1 hu with e | e
     ·exact .inr (List.mem_append_right _ e)
     ·simp at e
      rw [e]
      refine .inr (mem_append_left _ ?_)
      unfold mapS
      rw [map_cons,rowS_fst]
      exact mem_cons_of_mem _ (mem_map.2 ⟨(t,j),hj,rfl⟩)
  generalize (dayL l t).map encAc=rows at *
  cases hfa:x.fault
  ·have hact:actN (F,L.map NdL.n) x=(F,putNs (L.map NdL.n) x.node.toNat x.f):=by unfold actN;rw [if_neg (by simp [hfa])]
   rw [hact] at hf
   obtain ⟨n,hn⟩:∃ n,(L.map NdL.n)[x.node.toNat]?=some n:=⟨_,getElem?_eq_getElem (by rw [length_map];omega)⟩
   have hF:=h.far [.box (encAc x)]
   obtain ⟨H2,L2,s1,s2,s3,s4,-⟩:=busput_at hF.bus (by omega) (hI.ok hB) x.node.toNat n hn x.f
   have hp:putNs (L.map NdL.n) x.node.toNat x.f=(L.map NdL.n).set x.node.toNat (nputN n x.f).2:=by unfold putNs;rw [hn]
   rw [Int.toNat_of_nonneg x1] at s1
   have hL2:L2.length=N:=by rw [map_len s2,List.length_set,length_map];exact hL
   have hC:=hF.call s3 (by omega) s4
   simp [encFr,u8v,encAc,hfa] at s1
   rw [hp,<- s2] at hf
   have hI2:NdsB B (L2.map NdL.n):=by rw [s2,<- hp];exact putNs_ok hI _ x3
   simp [go_sem,r9c E L17_2.eq_1,hlt,hltn,gj,hge,hge2,hml,encAc,hfa,s1,w]
   exact mapR_next hC (Nat.le_trans hK.len hll) hR0 rfl (ws:=a::im::(refsV vr++(refsV ve++[j]))) rfl (by have:=congrArg List.length hR;simp at this ⊢;omega) (by simp) (by simp) (fun q hq=>hq) hRn (hws1) (hws2) (fun H3 hB3=>ih2 H3 L2 F hL2 hI2 hf hB3)
  ·have hact:actN (F,L.map NdL.n) x=(F ||| bitB x.node.toNat,L.map NdL.n):=by unfold actN;rw [if_pos (by simp [hfa])]
   rw [hact] at hf
   have hF:=h.far [.box (encAc x)]
   have hsh:=shl_bit (node:=x.node) (by omega)
   have hor:=ior_bv F (bitB x.node.toNat)
   have hneg:(x.node<0)=False:=eq_false (by omega)
   generalize bitB x.node.toNat=q at hsh hor hf
   generalize F ||| q=F3 at hor hf
   unfold encAc at hF
   rw [hfa] at hF
   simp [go_sem,r9c E L17_2.eq_1,hlt,hltn,gj,hge,hge2,hml,encAc,hfa,hsh,hor,hneg,w]
   exact mapR_next hF (Nat.le_trans hK.len hll) hR0 rfl (ws:=a::im::(refsV vr++(refsV ve++[j]))) rfl (by have:=congrArg List.length hR;simp at this ⊢;omega) (by simp) (by simp) (fun q hq=>hq) hRn (hws1) (hws2) (fun H3 hB3=>ih2 H3 L F3 hL hI hf hB3)
theorem bjoin_nil (r:Run):call E (.func (.func 48) [] []) [nilS,.agg (encRun r)] []=some (.own 0 1 3 0 1,[.arr true false false 3 [encRun r]]):=by
 rw [c9f E E48]
 simp [go_sem,ir48,encRun,p9q,range_succ]
theorem bjoin_snoc (o:List Run) (x r:Run) (ho:o.length<=2000000) (hn:-9223372036854775808<=x.N+r.N/\x.N+r.N<=9223372036854775807) :
  call E (.func (.func 48) [] []) [.own 0 (o++[x]).length 3 0 (o++[x]).length,.agg (encRun r)] [.arr true false false 3 ((o++[x]).map encRun)]=some (.own 0 (push (o++[x]) r).length 3 0 (push (o++[x]) r).length,[.arr true false false 3 ((push (o++[x]) r).map encRun)]):=by
 have hl:(o++[x]).length=o.length+1:=by simp
 have hml:((o++[x]).map encRun).length=o.length+1:=by simp
 have hg:((o++[x]).map encRun)[o.length]?=some (encRun x):=by simp
 have hg2:∀ (q:o.length<((o++[x]).map encRun).length),((o++[x]).map encRun)[o.length]=encRun x:=fun q=>(List.getElem?_eq_some_iff.1 hg).2
 have hrow:rowsOk 3 ((o++[x]).map encRun)=true:=by unfold rowsOk;rw [List.all_map];simp [encRun]
 have w1:IntKind.wrap .i64 (o.length:Int)=(o.length:Int):=wrap64 (by omega) (by omega)
 have w2:=wrap64 hn.1 hn.2
 have hneg:((o.length:Int)<0)=False:=eq_false (by omega)
 have hpos:(0<(o.length:Int)+1)=True:=eq_true (by omega)
 have h46:(70368744177664<(o.length+1+1) * 24)=False:=eq_false (by omega)
 rw [push_snoc,hl]
 rw [c9f E E48]
 by_cases h1:x.Bus=r.Bus
 ·by_cases h2:x.Drive=r.Drive
  ·have ha:alike x r=true:=by simp [alike,h1,h2]
   have hset:((o++[x]).map encRun).set o.length [.lit (.int .i64 (x.N+r.N)),.lit (.int .i64 x.Bus),.lit (.int .u32 x.Drive)]=(o++[(⟨x.N+r.N,x.Bus,x.Drive⟩:Run)]).map encRun:=by
    simp [encRun]
   rw [if_pos ha]
   generalize (o++[x]).map encRun=rows at *
   simp [go_sem,ir48,encRun,hml,hg,hg2,w1,w2,hneg,hpos,h1,h2,p9q,range_succ]
   simpa [encRun,h1,h2] using hset
  ·have ha:alike x r=false:=by simp [alike,h1,h2]
   rw [if_neg (by simp [ha])]
   have happ:(o++[x]).map encRun++[encRun r]=(o++[x,r]).map encRun:=by simp
   generalize (o++[x]).map encRun=rows at *
   simp [go_sem,ir48,encRun,hml,hg,hg2,hrow,h46,w1,w2,hneg,hpos,h1,h2,p9q,range_succ]
   simpa [encRun,h1,h2] using happ
 ·have ha:alike x r=false:=by simp [alike,h1]
  rw [if_neg (by simp [ha])]
  have happ:(o++[x]).map encRun++[encRun r]=(o++[x,r]).map encRun:=by simp
  generalize (o++[x]).map encRun=rows at *
  simp [go_sem,ir48,encRun,hml,hg,hg2,hrow,h46,w1,w2,hneg,hpos,h1,p9q,range_succ]
  simpa [encRun] using happ
def runOf (ns:List Nd):Run:=⟨1,lv (busN 0#32 0#32 ns),(lvlsN 0#32 0#32 ns).toNat⟩
def tickS (l:List Ac) (t:Nat) (ns:List Nd):BitVec 32 × List Nd:=(dayL l (t:Int)).foldl actN (0#32,ns)
def playT (l:List Ac):Nat->Nat->List Nd->List (Run × List Bev)
 | 0,_,_=>[]
 | d+1,t,ns=>(runOf (tickS l t ns).2,forceE (tickS l t ns).1 0#32 0#32 t (tickS l t ns).2)::playT l d (t+1) (forceN (tickS l t ns).1 0#32 0#32 (tickS l t ns).2)
def playR (l:List Ac) (d t:Nat) (ns:List Nd) (runs:List Run):List Run:=((playT l d t ns).map Prod.fst).foldl push runs
def playE (l:List Ac) (d t:Nat) (ns:List Nd) (evs:List Bev):List Bev:=evs++((playT l d t ns).map Prod.snd).flatten
theorem actN_len (s:BitVec 32 × List Nd) (a:Ac):(actN s a).2.length=s.2.length:=by
 unfold actN;split
 ·rfl
 ·exact putNs_len ..
theorem foldN_len:∀ (D:List Ac) (s:BitVec 32 × List Nd),(D.foldl actN s).2.length=s.2.length
 | [],_=>rfl
 | a::D,s=>by rw [List.foldl_cons,foldN_len D,actN_len]
theorem foldN_ok {B:Nat}:∀ (D:List Ac) (s:BitVec 32 × List Nd),(∀ x∈D,x.f.Ok)->NdsB B s.2->NdsB B (D.foldl actN s).2
 | [],_,_,h=>h
 | a::D,s,hf,h=>by
  rw [List.foldl_cons]
  refine foldN_ok D _ (fun x hx=>hf x (mem_cons_of_mem _ hx)) ?_
  unfold actN;split
  ·exact h
  ·exact putNs_ok h _ (hf a (List.mem_cons_self ..))
theorem fitsB_bits {F:BitVec 32} {N:Nat}:fitsB F N=true↔∀ i,N<=i->F.getLsbD i=false:=by
 unfold fitsB
 rw [decide_eq_true_eq]
 constructor
 ·intro h i hi
  exact Nat.testBit_lt_two_pow (Nat.lt_of_lt_of_le h (Nat.pow_le_pow_right (by omega) hi))
 ·intro h
  rcases Nat.lt_or_ge F.toNat (2 ^ N) with q | q
  ·exact q
  ·obtain ⟨i,h1,h2⟩:=Nat.exists_ge_and_testBit_of_ge_two_pow q
   have:=h i h1
   rw [show F.getLsbD i=F.toNat.testBit i from rfl,h2] at this
   cases this
theorem bitB_get (n i:Nat) (hn:n<=31):(bitB n).getLsbD i=decide (i=n):=by
 rw [show (bitB n).getLsbD i=(bitB n).toNat.testBit i from rfl,bitB_nat hn,Nat.testBit_two_pow]
 by_cases h:n=i<;>simp [h,eq_comm]
theorem foldN_fits {N:Nat} (hN:N<=32):∀ (D:List Ac) (s:BitVec 32 × List Nd),(∀ x∈D,0<=x.node/\x.node<N)->fitsB s.1 N=true->fitsB (D.foldl actN s).1 N=true
 | [],_,_,h=>h
 | a :: D,s,hn,h=>by
  rw [List.foldl_cons]
  refine foldN_fits hN D _ (fun x hx=>hn x (mem_cons_of_mem _ hx)) ?_
  unfold actN;split
  ·rw [fitsB_bits] at h ⊢
   intro i hi
   have:=hn a (List.mem_cons_self ..)
   rw [BitVec.getLsbD_or,h i hi,bitB_get _ _ (by omega)]
   simp;omega
  ·exact h
theorem stepL_ok {B:Nat} (F M:BitVec 32) (b:Bool):∀ (ns:List Nd) (i:Nat),NdsB B ns->NdsB (B+1) (stepL F M b ns i)
 | [],_,_=>by intro n hn;cases hn
 | n :: r,i,h=>by
  intro m hm
  rw [stepL] at hm
  rcases mem_cons.1 hm with e | e
  ·have hh:=h n (List.mem_cons_self ..)
   split at e
   ·rw [e];exact ⟨hh.1,Nat.le_trans hh.2 (Nat.le_succ _)⟩
   ·rw [e]
    have:=k_next n (b ^^ F.getLsbD i) hh.1.mode
    exact ⟨inv_next hh.1 _,by omega⟩
  ·exact stepL_ok F M b r (i+1) (fun x hx=>h x (mem_cons_of_mem _ hx)) m e
theorem forceN_len (F M D:BitVec 32) (ns:List Nd):(forceN F M D ns).length=ns.length:=stepL_len ..
theorem forceE_len (F M D:BitVec 32) (tk:Nat) (ns:List Nd):(forceE F M D tk ns).length<=2 * ns.length:=evL_len ..
theorem forceN_ok {B:Nat} (F M D:BitVec 32) {ns:List Nd} (h:NdsB B ns):NdsB (B+1) (forceN F M D ns):=stepL_ok _ _ _ _ _ h
def bruV (b n:Nat):AVal:=if n=0 then nilS else .own b n 3 0 n
def bruS (b:Nat) (runs:List Run):List (Nat × Entry):=if runs=[] then [] else [(b,.arr true false false 3 (runs.map encRun))]
theorem bru_refs (b:Nat) (runs:List Run):refsV (bruV b runs.length)=(bruS b runs).map Prod.fst:=by
 unfold bruV bruS
 cases runs
 ·rfl
 ·simp [refsV]
theorem bruS_zero (b:Nat) (runs:List Run):∀ q∈bruS b runs,refsE q.2=[]:=by
 intro q hq;unfold bruS at hq;split at hq
 ·cases hq
 ·simp at hq;rw [hq];rfl
theorem bouS_zero (b:Nat) (lkb fu:Bool) (rows:List (List AVal)):∀ q∈bouS b lkb fu rows,refsE q.2=[]:=by
 intro q hq;unfold bouS at hq;split at hq
 ·cases hq
 ·simp at hq;rw [hq];rfl
theorem bruS_le (b:Nat) (runs:List Run):(bruS b runs).length<=1:=by unfold bruS;split<;>simp
theorem bou_append {H:Heap} {a na:Nat} {L:List NdL} {tk:Nat} {l f:Bool} {Q:List (Nat × Entry)} {b b2:Nat} {lk1 fu1 lk2 fu2:Bool} {evs es:List Bev} (h:BP H a na L tk l f (Q++(bouS b lk1 fu1 (evs.map encBev)++bouS b2 lk2 fu2 (es.map encBev)))) (hQ:∀ q∈Q,∀ j∈refsE q.2,j∈Q.map Prod.fst) (hl:evs.length+es.length<=100000000) :
  ∃ b3 lk3 fu3 H2,aappend true 15 56 H (bouV b evs.length) (bouV b2 es.length)=some (bouV b3 (evs.length+es.length),H2)/\BP H2 a na L tk l f (Q++bouS b3 lk3 fu3 ((evs++es).map encBev)):=by
 by_cases h2:es=[]
 ·subst h2
  refine ⟨b,lk1,fu1,H,?_,?_⟩
  ·by_cases h1:evs=[]
   ·subst h1;simp [bouV,nilS,aappend,content,aadd,rowsOk]
   ·have g:=h.get (b,.arr true lk1 fu1 15 (evs.map encBev)) (by unfold bouS;simp [h1])
    simp only at g
    simp [bouV,nilS,h1,aappend,content,aadd,rowsOk,g]
  ·simpa [bouS] using h
 ·have g2:=h.get (b2,.arr true lk2 fu2 15 (es.map encBev)) (by unfold bouS;simp [h2])
  simp only at g2
  have hr1:=rowsBev evs
  have hr2:=rowsBev es
  have ht:List.take es.length (es.map encBev)=es.map encBev:=List.take_of_length_le (by simp)
  have hr0:rowsOk 15 []=true:=rfl
  have hnd:=h.nd
  by_cases h1:evs=[]
  ·subst h1
   have hB:=(h.sub (S2:=Q) (fun q hq=>mem_append_left _ hq) (by
    rw [map_append,List.nodup_append] at hnd
    exact hnd.1) hQ).app (e:=.arr true false false 15 (es.map encBev)) (by intro j hj;cases hj)
   refine ⟨H.length,false,false,H++[.arr true false false 15 (es.map encBev)],?_,?_⟩
   ·simp at hl
    simp [bouV,nilS,h2,aappend,content,aadd,g2,hr2,ht,hr0];omega
   ·unfold bouS
    rw [if_neg (by simpa using h2)]
    exact hB.perm (List.perm_append_comm (l₁:=[(H.length,Entry.arr true false false 15 (es.map encBev))]))
  ·have g1:=h.get (b,.arr true lk1 fu1 15 (evs.map encBev)) (by unfold bouS;simp [h1])
   simp only at g1
   have e1:bouS b lk1 fu1 (evs.map encBev)=[(b,.arr true lk1 fu1 15 (evs.map encBev))]:=by unfold bouS;rw [if_neg (by simpa using h1)]
   have e2:bouS b lk1 false ((evs++es).map encBev)=[(b,.arr true lk1 false 15 (evs.map encBev++es.map encBev))]:=by unfold bouS;rw [if_neg (by simp [h1]),map_append]
   rw [e1] at h hnd
   have hB:=(h.sub (S2:=(b,.arr true lk1 fu1 15 (evs.map encBev))::Q) (by
    intro q hq
    rcases mem_cons.1 hq with e | e
    ·rw [e];simp
    ·exact mem_append_left _ e) (by
    rw [map_append,List.nodup_append] at hnd
    rw [map_cons,nodup_cons]
    refine ⟨fun z=>hnd.2.2 _ z b (by simp) rfl,hnd.1⟩) (by
    intro q hq j hj
    rw [map_cons]
    rcases mem_cons.1 hq with e | e
    ·rw [e] at hj;cases hj
    ·exact mem_cons_of_mem _ (hQ q e j hj))).put (e:=.arr true lk1 false 15 (evs.map encBev++es.map encBev)) (by intro j hj;cases hj)
   refine ⟨b,lk1,false,List.set H b (.arr true lk1 false 15 (evs.map encBev++es.map encBev)),?_,?_⟩
   ·simp [bouV,nilS,h1,h2,aappend,content,aadd,g1,g2,hr1,hr2,ht,hr0];omega
   ·rw [e2]
    exact hB.perm (List.perm_append_comm (l₁:=[(b,Entry.arr true lk1 false 15 (evs.map encBev++es.map encBev))]))
theorem playT_len (l:List Ac):∀ (d t:Nat) (ns:List Nd),(playT l d t ns).length=d
 | 0,_,_=>rfl
 | d+1,t,ns=>by rw [playT,List.length_cons,playT_len l d]
theorem lv_one (b:Bool):lv b=if b=true then 1 else 0:=by cases b<;>rfl
theorem lvls_all (x:BitVec 32):(x.toNat:Int)=4294967295↔x=BitVec.allOnes 32:=by
 constructor
 ·intro h
  apply BitVec.eq_of_toNat_eq
  simp
  omega
 ·intro h;subst h;rfl
theorem runOf_right (ns:List Nd):right (runOf ns)=true:=by
 unfold right runOf busN
 by_cases h:lvlsN 0#32 0#32 ns=BitVec.allOnes 32
 ·rw [h];simp [lv_one]
 ·have h2:¬ ((lvlsN 0#32 0#32 ns).toNat:Int)=4294967295:=fun e=>h ((lvls_all _).1 e)
  have h3:¬ lvlsN 0#32 0#32 ns=4294967295#32:=h
  simp [h3,h2,lv_one]
theorem playT_mem (l:List Ac):∀ (d t:Nat) (ns:List Nd),∀ r∈(playT l d t ns).map Prod.fst,right r=true/\r.N=1/\0<=r.Drive/\r.Drive<=4294967295
 | 0,_,_=>by intro r hr;cases hr
 | d + 1,t,ns=>by
  intro r hr
  rw [playT,map_cons] at hr
  rcases mem_cons.1 hr with e | e
  ·rw [e]
   refine ⟨runOf_right _,rfl,?_,?_⟩
   ·simp only [runOf];omega
   ·simp only [runOf];have:=(lvlsN 0#32 0#32 (tickS l t ns).2).isLt;omega
  ·exact playT_mem l d _ _ r e
theorem foldl_push:∀ (rs out:List Run),(∀ r∈rs,r.N=1)->rs.foldl push out=joined out rs
 | [],_,_=>rfl
 | r::rs,out,h=>by
  rw [List.foldl_cons,joined,if_neg (by rw [h r (List.mem_cons_self ..)];omega),foldl_push rs _ (fun x hx=>h x (mem_cons_of_mem _ hx))]
theorem playR_joined (l:List Ac) (d t:Nat) (ns:List Nd) (out:List Run):playR l d t ns out=joined out ((playT l d t ns).map Prod.fst):=foldl_push _ _ fun r hr=>(playT_mem l d t ns r hr).2.1
theorem sumN_ones:∀ {rs:List Run},(∀ r∈rs,r.N=1)->sumN rs=rs.length
 | [],_=>rfl
 | r::rs,h=>by
  rw [sumN,sumN_ones (fun x hx=>h x (mem_cons_of_mem _ hx)),h r (List.mem_cons_self ..),List.length_cons];omega
theorem expand_ones:∀ {rs:List Run},(∀ r∈rs,r.N=1)->expand rs=rs
 | [],_=>rfl
 | r::rs,h=>by
  have h1:=h r (List.mem_cons_self ..)
  rw [expand_cons,expand_ones (fun x hx=>h x (mem_cons_of_mem _ hx)),h1]
  cases r;simp at h1;subst h1;rfl
structure PlayOk (R:List Run) (d:Nat) (T:List Run):Prop where
 chk:chk R=0
 sum:sumN R=d
 exp:expand R=T
 tidy:Tidy R
 len:R.length<=d
 ok:∀ r∈R,r.Ok
 dr:∀ r∈R,0<=r.Drive/\r.Drive<=4294967295
theorem play_ok (l:List Ac) (d t:Nat) (ns:List Nd) (hd:d<=1073741824):PlayOk (playR l d t ns []) d ((playT l d t ns).map Prod.fst):=by
 have hm:=playT_mem l d t ns
 have h1:∀ r∈(playT l d t ns).map Prod.fst,r.N=1:=fun r hr=>(hm r hr).2.1
 have hs:sumN ((playT l d t ns).map Prod.fst)=d:=by rw [sumN_ones h1,length_map,playT_len]
 have hc:chk ((playT l d t ns).map Prod.fst)=0:=by
  unfold chk
  rw [if_pos (List.all_eq_true.2 fun r hr=>(hm r hr).1),hs,if_neg (by omega)]
 obtain ⟨c1,c2,c3⟩:=joined_chk hc
 rw [playR_joined]
 have hl:=joined_length ((playT l d t ns).map Prod.fst) []
 rw [length_map,playT_len] at hl
 have hdr:∀ r∈joined [] ((playT l d t ns).map Prod.fst),0<=r.Drive/\r.Drive<=4294967295:=joined_mem _ [] (fun r=>0<=r.Drive/\r.Drive<=4294967295) (fun r hr _=>(hm r hr).2.2) (fun x r hx hr _=>hx) (fun _ hx=>by cases hx)
 have hcr:=(chk_right c1).1
 refine ⟨c1,by rw [c2,hs],by rw [c3,expand_ones h1],tidy_joined _ _ ⟨fun _ hx=>(by cases hx),fun i hi=>(by cases hi)⟩,by simpa using hl,fun r hr=>?_,hdr⟩
 have:=hcr r hr
 constructor<;>omega
theorem lvlF_get (M D:BitVec 32):∀ (ns:List Nd) (i:Nat) (x:BitVec 32) (j:Nat),i+ns.length<=32 ->
  (lvlF M D ns i x).getLsbD j=(x.getLsbD j && (if i<=j then (match ns[j - i]? with | some n=>!domF n M D j | none=>true) else true))
 | [],i,x,j,_=>by simp [lvlF]
 | n :: r,i,x,j,h=>by
  rw [List.length_cons] at h
  rw [lvlF,lvlF_get M D r (i+1) _ j (by omega)]
  rcases Nat.lt_trichotomy j i with q | q | q
  ·rw [if_neg (show ¬ i+1<=j by omega),if_neg (show ¬ i<=j by omega),Bool.and_true,Bool.and_true]
   split
   ·rw [BitVec.getLsbD_and,BitVec.getLsbD_not,bitB_get _ _ (by omega)]
    have:¬ j=i:=by omega
    by_cases h32:j<32
    ·simp [this,h32]
    ·omega
   ·rfl
  ·subst q
   rw [if_neg (show ¬ j+1<=j by omega),if_pos (Nat.le_refl _),Nat.sub_self]
   simp only [List.getElem?_cons_zero]
   have h32:j<32:=by omega
   by_cases hd:domF n M D j=true
   ·rw [if_pos hd,hd,BitVec.getLsbD_and,BitVec.getLsbD_not,bitB_get _ _ (by omega)]
    simp
   ·rw [if_neg hd]
    have hd:domF n M D j=false:=by simpa using hd
    rw [hd];simp
  ·rw [if_pos (show i+1<=j by omega),if_pos (show i<=j by omega),show j - i=(j - (i+1))+1 by omega,List.getElem?_cons_succ]
   congr 1
   split
   ·rw [BitVec.getLsbD_and,BitVec.getLsbD_not,bitB_get _ _ (by omega)]
    have:¬ j=i:=by omega
    by_cases h32:j<32
    ·simp [this,h32]
    ·rw [BitVec.getLsbD_of_ge _ _ (by omega)];rfl
   ·rfl
theorem lvlsN_get (M D:BitVec 32) (ns:List Nd) (h:ns.length<=32) (j:Nat) (hj:j<32):(lvlsN M D ns).getLsbD j=(match ns[j]? with | some n=>!domF n M D j | none=>true):=by
 unfold lvlsN
 rw [lvlF_get M D ns 0 _ j (by omega),if_pos (Nat.zero_le _),Nat.sub_zero,BitVec.getLsbD_allOnes,decide_eq_true hj,Bool.true_and]
theorem dom0 (n:Nd) (D:BitVec 32) (j:Nat):domF n 0#32 D j=!(drN n):=by unfold domF;simp
structure Agree (M:BitVec 32) (ns ns':List Nd):Prop where
 len:ns.length=ns'.length
 get:∀ i,M.getLsbD i=false->ns[i]?=ns'[i]?
theorem Agree.refl (M:BitVec 32) (ns:List Nd):Agree M ns ns:=⟨rfl,fun _ _=>rfl⟩
theorem Agree.lvls {M:BitVec 32} {ns ns':List Nd} (h:Agree M ns ns') (hl:ns.length<=32):lvlsN M (lvlsN 0#32 0#32 ns') ns=lvlsN 0#32 0#32 ns':=by
 apply BitVec.eq_of_getLsbD_eq
 intro j hj
 rw [lvlsN_get M _ ns hl j hj]
 have h2:=lvlsN_get 0#32 0#32 ns' (by rw [<- h.len];exact hl) j hj
 by_cases hM:M.getLsbD j=true
 ·rcases Nat.lt_or_ge j ns.length with q | q
  ·rw [getElem?_eq_getElem q]
   simp only []
   unfold domF
   rw [if_pos hM];simp
  ·rw [List.getElem?_eq_none (by omega)]
   rw [List.getElem?_eq_none (by have:=h.len;omega)] at h2
   exact h2.symm
 ·have hM:M.getLsbD j=false:=by simpa using hM
  rw [h2,h.get j hM]
  cases ns'[j]? with
  | none=>rfl
  | some n =>
   simp only []
   rw [dom0];unfold domF;rw [if_neg (by simp [hM])]
theorem Agree.step {M F F':BitVec 32} (b:Bool) (hF:∀ i,M.getLsbD i=false->F.getLsbD i=F'.getLsbD i):∀ {ns ns':List Nd} (i:Nat),ns.length=ns'.length->(∀ j,M.getLsbD (i+j)=false->ns[j]?=ns'[j]?) ->
  (stepL F M b ns i).length=(stepL F' 0#32 b ns' i).length/\∀ j,M.getLsbD (i+j)=false->(stepL F M b ns i)[j]?=(stepL F' 0#32 b ns' i)[j]?
 | [],[],_,_,_=>⟨rfl,fun _ _=>rfl⟩
 | [],_::_,_,h,_=>by simp at h
 | _::_,[],_,h,_=>by simp at h
 | n :: r,n'::r',i,hl,hg=>by
  obtain ⟨h1,h2⟩:=Agree.step b hF (ns:=r) (ns':=r') (i+1) (by simpa using hl) (fun j hj=>by
   have:=hg (j+1) (by rw [show i+(j+1)=i+1+j by omega];exact hj)
   simpa using this)
  refine ⟨by simp only [stepL,List.length_cons,h1],fun j hj=>?_⟩
  cases j with
  | zero =>
   have hM:M.getLsbD i=false:=hj
   have:=hg 0 hM
   simp at this
   subst this
   simp [stepL,hM,hF i hM]
  | succ j =>
   have:=h2 j (by rw [show i+1+j=i+(j+1) by omega];exact hj)
   simpa [stepL] using this
def offM (M:BitVec 32) (e:Bev):Bool:=!M.getLsbD e.node
theorem evs_filter {M F F':BitVec 32} (b:Bool) (tk:Nat) (hF:∀ i,M.getLsbD i=false->F.getLsbD i=F'.getLsbD i):∀ {ns ns':List Nd} (i:Nat),ns.length=ns'.length->(∀ j,M.getLsbD (i+j)=false->ns[j]?=ns'[j]?) ->
  evL F M b tk ns i=(evL F' 0#32 b tk ns' i).filter (offM M)
 | [],[],_,_,_=>rfl
 | [],_::_,_,h,_=>by simp at h
 | _::_,[],_,h,_=>by simp at h
 | n :: r,n'::r',i,hl,hg=>by
  have ih:=evs_filter b tk hF (ns:=r) (ns':=r') (i+1) (by simpa using hl) (fun j hj=>by
   have:=hg (j+1) (by rw [show i+(j+1)=i+1+j by omega];exact hj)
   simpa using this)
  rw [evL,evL,List.filter_append,ih]
  congr 1
  have e0:(if (0#32).getLsbD i=true then ([]:List Bev) else (evN n' (b ^^ F'.getLsbD i)).map (tell tk i))=(evN n' (b ^^ F'.getLsbD i)).map (tell tk i):=by rw [if_neg (by simp)]
  rw [e0]
  by_cases hM:M.getLsbD i=true
  ·rw [if_pos hM]
   symm
   rw [List.filter_eq_nil_iff]
   intro e he
   obtain ⟨x,-,rfl⟩:=mem_map.1 he
   simp [offM,tell,hM]
  ·rw [if_neg hM]
   have hM:M.getLsbD i=false:=by simpa using hM
   have:=hg 0 hM
   simp at this
   subst this
   rw [hF i hM]
   symm
   rw [List.filter_eq_self]
   intro e he
   obtain ⟨x,-,rfl⟩:=mem_map.1 he
   simp [offM,tell,hM]
theorem Agree.evs {M F F':BitVec 32} {ns ns':List Nd} (h:Agree M ns ns') (hl:ns.length<=32) (hF:∀ i,M.getLsbD i=false->F.getLsbD i=F'.getLsbD i) (tk:Nat):forceE F M (lvlsN 0#32 0#32 ns') tk ns=(forceE F' 0#32 0#32 tk ns').filter (offM M):=by
 have hb:busN M (lvlsN 0#32 0#32 ns') ns=busN 0#32 0#32 ns':=by unfold busN;rw [h.lvls hl]
 unfold forceE
 rw [hb]
 exact evs_filter _ tk hF 0 h.len (fun j hj=>h.get j (by simpa using hj))
def hasM (M:BitVec 32) (n:Int):Bool:=decide (0<=n) && decide (n<32) && M.getLsbD n.toNat
theorem putNs_get (ns:List Nd) (k i:Nat) (f:Fr) (h:i≠k):(putNs ns k f)[i]?=ns[i]?:=by
 unfold putNs
 split
 ·exact List.getElem?_set_ne (fun e=>h e.symm)
 ·rfl
theorem Agree.put {M:BitVec 32} {ns ns':List Nd} (h:Agree M ns ns') (k:Nat) (f:Fr) (hM:M.getLsbD k=false):Agree M (putNs ns k f) (putNs ns' k f):=by
 refine ⟨by rw [putNs_len,putNs_len];exact h.len,fun i hi=>?_⟩
 by_cases q:i=k
 ·subst q
  have:=h.get i hM
  unfold putNs
  rw [this]
  cases e:ns'[i]? with
  | none=>rw [this,e]
  | some n =>
   have l1:i<ns'.length:=(List.getElem?_eq_some_iff.1 e).1
   have l2:i<ns.length:=by rw [h.len];exact l1
   simp [l1,l2]
 ·rw [putNs_get _ _ _ _ q,putNs_get _ _ _ _ q];exact h.get i hi
theorem Agree.put1 {M:BitVec 32} {ns ns':List Nd} (h:Agree M ns ns') (k:Nat) (f:Fr) (hM:M.getLsbD k=true):Agree M ns (putNs ns' k f):=by
 refine ⟨by rw [putNs_len];exact h.len,fun i hi=>?_⟩
 rw [putNs_get _ _ _ _ (fun e=>by rw [e,hM] at hi;cases hi)]
 exact h.get i hi
theorem Agree.acts {M:BitVec 32}:∀ (D:List Ac) (s s':BitVec 32 × List Nd),(∀ a∈D,0<=a.node/\a.node<32)->(∀ i,M.getLsbD i=false->s.1.getLsbD i=s'.1.getLsbD i)->Agree M s.2 s'.2 ->
  (∀ i,M.getLsbD i=false->((D.filter fun a=>!hasM M a.node).foldl actN s).1.getLsbD i=(D.foldl actN s').1.getLsbD i)/\Agree M ((D.filter fun a=>!hasM M a.node).foldl actN s).2 (D.foldl actN s').2
 | [],_,_,_,h1,h2=>⟨h1,h2⟩
 | a :: D,s,s',hn,h1,h2=>by
  obtain ⟨n0,n1⟩:=hn a (List.mem_cons_self ..)
  have hn2:∀ x∈D,0<=x.node/\x.node<32:=fun x hx=>hn x (mem_cons_of_mem _ hx)
  have hh:hasM M a.node=M.getLsbD a.node.toNat:=by unfold hasM;simp [n0,n1]
  rw [List.foldl_cons]
  by_cases hM:M.getLsbD a.node.toNat=true
  ·rw [List.filter_cons_of_neg (by simp [hh,hM])]
   refine Agree.acts D s _ hn2 ?_ ?_
   ·intro i hi
    unfold actN
    split
    ·show _=(s'.1 ||| bitB a.node.toNat).getLsbD i
     rw [BitVec.getLsbD_or,bitB_get _ _ (by omega),h1 i hi]
     have:¬ i=a.node.toNat:=fun e=>by rw [e,hM] at hi;cases hi
     simp [this]
    ·exact h1 i hi
   ·unfold actN
    split
    ·exact h2
    ·exact h2.put1 _ _ hM
  ·have hM:M.getLsbD a.node.toNat=false:=by simpa using hM
   rw [List.filter_cons_of_pos (by simp [hh,hM]),List.foldl_cons]
   refine Agree.acts D _ _ hn2 ?_ ?_
   ·intro i hi
    unfold actN
    split
    ·show (s.1 ||| _).getLsbD i=(s'.1 ||| _).getLsbD i
     rw [BitVec.getLsbD_or,BitVec.getLsbD_or,h1 i hi]
    ·exact h1 i hi
   ·unfold actN
    split
    ·exact h2
    ·exact h2.put _ _ hM
theorem ofInt_nat (x:BitVec 32):BitVec.ofInt 32 (x.toNat:Int)=x:=by
 apply BitVec.eq_of_toNat_eq
 rw [BitVec.toNat_ofInt]
 have:=x.isLt
 omega
theorem playT_high (l:List Ac):∀ (d t:Nat) (ns:List Nd),ns.length<=32->∀ r∈(playT l d t ns).map Prod.fst,∀ k,ns.length<=k->k<32->(BitVec.ofInt 32 r.Drive).getLsbD k=true
 | 0,_,_,_,r,hr,_,_,_=>by cases hr
 | d + 1,t,ns,hl,r,hr,k,h1,h2=>by
  have hl2:(tickS l t ns).2.length=ns.length:=by unfold tickS;rw [foldN_len]
  rw [playT,map_cons] at hr
  rcases mem_cons.1 hr with e | e
  ·rw [e]
   show (BitVec.ofInt 32 ((lvlsN 0#32 0#32 (tickS l t ns).2).toNat:Int)).getLsbD k=true
   rw [ofInt_nat,lvlsN_get _ _ _ (by omega) k h2,List.getElem?_eq_none (by omega)]
  ·exact playT_high l d (t+1) _ (by rw [forceN_len];omega) r e k (by rw [forceN_len];omega) h2
theorem nodeLv_bit {r:Run} (h:0<=r.Drive/\r.Drive<=4294967295) (n:Nat):nodeLv (n:Int) r=if (BitVec.ofInt 32 r.Drive).getLsbD n=true then 1 else 0:=by
 unfold nodeLv
 rw [Int.toNat_natCast,show (BitVec.ofInt 32 r.Drive).getLsbD n=(BitVec.ofInt 32 r.Drive).toNat.testBit n from rfl,BitVec.toNat_ofInt]
 rw [show (r.Drive % ((2 ^ 32:Nat):Int)).toNat=r.Drive.toNat by rw [Int.emod_eq_of_lt h.1 (by simp;omega)]]
 rw [Nat.testBit_eq_decide_div_mod_eq]
 obtain ⟨m,hm⟩:∃ m:Nat,r.Drive=m:=⟨r.Drive.toNat,by omega⟩
 rw [hm,Int.toNat_natCast,show (m:Int) / (2:Int) ^ n=((m / 2 ^ n:Nat):Int) by simp]
 have h2:((m / 2 ^ n:Nat):Int) % 2=((m / 2 ^ n % 2:Nat):Int):=by omega
 rw [h2]
 by_cases q:m / 2 ^ n % 2=1
 ·rw [q];simp
 ·have:m / 2 ^ n % 2=0:=by omega
  rw [this];simp
structure DOk (R:List Run) (T N:Nat) (TR:List Run):Prop where
 ok:PlayOk R T TR
 high:∀ r∈TR,∀ k,N<=k->k<32->(BitVec.ofInt 32 r.Drive).getLsbD k=true
 dr:∀ r∈TR,0<=r.Drive/\r.Drive<=4294967295
 rt:∀ r∈TR,r.Bus=if r.Drive=4294967295 then 1 else 0
 T1:T<=1000
 N1:N<=32
theorem dra_ok (l:List Ac) (T N:Nat) (hT:T<=1000) (hN:N<=32):DOk (playR l T 0 (List.replicate N nd0) []) T N ((playT l T 0 (List.replicate N nd0)).map Prod.fst):=by
 have hm:=playT_mem l T 0 (List.replicate N nd0)
 refine ⟨play_ok l T 0 _ (by omega),fun r hr k h1 h2=>playT_high l T 0 _ (by simp;exact hN) r hr k (by simpa using h1) h2,fun r hr=>(hm r hr).2.2,fun r hr=>?_,hT,hN⟩
 have:=(hm r hr).1
 unfold right at this
 simp at this
 exact this.2
theorem DOk.len {R TR:List Run} {T N:Nat} (h:DOk R T N TR):TR.length=T:=by
 have hN:=(chk_right h.ok.chk).1
 have:=expand_length R (fun r hr=>by have:=hN r hr;omega)
 rw [h.ok.exp,h.ok.sum] at this
 omega
theorem DOk.ls {R TR:List Run} {T N:Nat} (h:DOk R T N TR) (n:Int):nodeLs R n=TR.map (nodeLv n):=by unfold nodeLs;rw [h.ok.exp]
theorem nodeLv_01 (n:Int) (r:Run):nodeLv n r=0∨nodeLv n r=1:=by unfold nodeLv;omega
theorem DOk.row {R TR:List Run} {T N:Nat} (h:DOk R T N TR) (n:Int) (f:Nat):RowF ((TR.map (nodeLv n)).drop f) (dofR R n f):=by
 unfold dofR
 rw [h.ls,Int.toNat_natCast]
 refine rowF_rows _ fun x hx=>?_
 obtain ⟨r,-,rfl⟩:=mem_map.1 (mem_of_mem_drop hx)
 exact nodeLv_01 n r
theorem DOk.dofE {R TR:List Run} {T N:Nat} (h:DOk R T N TR) {n:Nat} (hn:n<N) {f:Nat} (hf:f<=T):dofE R n f=0:=by
 have h1:=h.N1
 have h2:=h.T1
 have hs:=h.ok.sum
 have e:nodeE R n=0:=by
  unfold nodeE
  rw [if_neg (by simp [h.ok.chk]),if_neg (by omega),if_neg (by omega)]
 unfold Go.AM.R1.dofE
 rw [if_neg (by simp [e]),if_neg]
 rw [h.ls,length_map,h.len]
 omega
theorem DOk.chkS {R TR:List Run} {T N:Nat} (h:DOk R T N TR) {n:Nat} (hn:n<N) {f:Nat} (hf:f<=T):chkS n f (dofR R n f)=0:=by
 have h1:=h.N1
 have h2:=h.T1
 refine rowF_chk (h.row n f) n f ?_ ?_
 ·unfold okP;simp;omega
 ·rw [List.length_drop,length_map,h.len];omega
theorem DOk.ends {R TR:List Run} {T N:Nat} (h:DOk R T N TR) {n:Nat} (hn:n<N) {f:Nat} (hf:f<=T):endsS n f (dofR R n f)=T:=by
 unfold endsS
 rw [if_neg (by simp [h.chkS hn hf]),(h.row n f).sum,List.length_drop,length_map,h.len]
 omega
theorem DOk.at_ {R TR:List Run} {T N:Nat} (h:DOk R T N TR) {n:Nat} (hn:n<N) {f t:Nat} (hf:f<=t) (ht:t<T):atS n f (dofR R n f) t=nodeLv n (TR[t]'(by rw [h.len];exact ht)):=by
 unfold atS
 rw [if_neg (by simp [h.chkS hn (show f<=T by omega)];omega)]
 have hl:t - f<((TR.map (nodeLv n)).drop f).length:=by rw [List.length_drop,length_map,h.len];omega
 have:=(h.row n f).at_ (t - f) hl
 rw [show ((t:Int) - (f:Int))=((t - f:Nat):Int) by omega,this,List.getElem_drop,List.getElem_map]
 congr 2
 omega
theorem DOk.rlen {R TR:List Run} {T N:Nat} (h:DOk R T N TR) (n:Int) (f:Nat):(dofR R n f).length<=1000:=by
 have h1:=h.row n f
 have h2:=sumN_ge _ h1.pos
 have h3:=h1.sum
 rw [List.length_drop,length_map,h.len] at h3
 have:=h.T1
 omega
theorem DOk.nil {R TR:List Run} {T N:Nat} (h:DOk R T N TR) (n:Int) (f:Nat) (hf:f<=T):dofR R n f=[]↔f=T:=by
 have h1:=h.row n f
 have h3:=h1.sum
 have h2:=sumN_ge _ h1.pos
 rw [List.length_drop,length_map,h.len] at h3
 constructor
 ·intro e;rw [e] at h3;simp [sumN] at h3;omega
 ·intro e
  refine List.length_eq_zero_iff.1 ?_
  omega
def scrL (R:List Run):Nat->Nat->List Scr
 | 0,_=>[]
 | d+1,i=>⟨i,0,dofR R i 0,false,false⟩::scrL R d (i+1)
theorem scrL_len (R:List Run):∀ d i,(scrL R d i).length=d
 | 0,_=>rfl
 | d+1,i=>by rw [scrL,List.length_cons,scrL_len R d]
theorem scrL_get (R:List Run):∀ (d i j:Nat) (h:j<(scrL R d i).length),(scrL R d i)[j]=⟨((i+j:Nat):Int),0,dofR R ((i+j:Nat):Int) 0,false,false⟩
 | d+1,i,0,_=>rfl
 | d+1,i,j+1,h=>by
  have:=scrL_get R d (i+1) j (by rw [scrL,List.length_cons] at h;omega)
  simp only [scrL,List.getElem_cons_succ]
  rw [this,show i+1+j=i+(j+1) by omega]
theorem mask_go {R TR:List Run} {T N:Nat} (h:DOk R T N TR) {t:Nat} (ht:t<T):∀ (d i:Nat) (m q:BitVec 32),i+d=N->(∀ k,m.getLsbD k=decide (k<i))->(∀ k,k<32->q.getLsbD k=if k<i then (BitVec.ofInt 32 (TR[t]'(by rw [h.len];exact ht)).Drive).getLsbD k else true) ->
  ∃ m2,maskGo t m q (scrL R d i)=((m2,BitVec.ofInt 32 (TR[t]'(by rw [h.len];exact ht)).Drive),0)/\∀ k,m2.getLsbD k=decide (k<N)
 | 0,i,m,q,hi,hm,hq=>by
  have:i=N:=by omega
  subst this
  refine ⟨m,?_,hm⟩
  rw [scrL,maskGo]
  congr 2
  apply BitVec.eq_of_getLsbD_eq
  intro k hk
  rw [hq k hk]
  split
  ·rfl
  ·rw [h.high _ (List.getElem_mem _) k (by omega) hk]
 | d + 1,i,m,q,hi,hm,hq=>by
  have hN:=h.N1
  have hat:atSc ⟨(i:Int),0,dofR R i 0,false,false⟩ t=nodeLv i (TR[t]'(by rw [h.len];exact ht)):=h.at_ (n:=i) (by omega) (f:=0) (Nat.zero_le _) ht
  have hnl:=nodeLv_bit (h.dr _ (List.getElem_mem (l:=TR) (by rw [h.len];exact ht))) i
  rw [scrL,maskGo]
  simp only [Int.toNat_natCast]
  rw [if_neg (by rw [hm];simp),hat,hnl]
  refine mask_go h ht d (i+1) _ _ (by omega) (fun k=>?_) (fun k hk=>?_)
  ·rw [BitVec.getLsbD_or,hm,bitB_get _ _ (by omega)]
   by_cases e:k=i
   ·simp [e]
   ·by_cases e2:k<i
    ·simp [e2];omega
    ·simp [e2,e];omega
  ·by_cases hb:(BitVec.ofInt 32 (TR[t]'(by rw [h.len];exact ht)).Drive).getLsbD i=true
   ·rw [if_pos hb,if_neg (by simp),hq k hk]
    by_cases e:k=i
    ·subst e;rw [if_neg (by omega),if_pos (by omega),hb]
    ·by_cases e2:k<i
     ·rw [if_pos e2,if_pos (by omega)]
     ·rw [if_neg e2,if_neg (by omega)]
   ·rw [if_neg hb,if_pos rfl,BitVec.getLsbD_and,BitVec.getLsbD_not,bitB_get _ _ (by omega),hq k hk]
    by_cases e:k=i
    ·subst e
     rw [if_neg (by omega),if_pos (by omega),Bool.eq_false_iff.2 hb]
     simp
    ·by_cases e2:k<i
     ·rw [if_pos e2,if_pos (by omega)];simp [hk,e]
     ·rw [if_neg e2,if_neg (by omega)];simp [hk,e]
theorem dra_in (R TR:List Run) (T N:Nat) (hD:DOk R T N TR) (n f:Nat) (hn:n<N) (nR na:Nat) (l7 f7 l10 f10:Bool) (rR rA:List (List AVal)) (ls fs l14 f14:Bool) (K:List Item) (P:Option (AVal × Heap)->Prop)
  (hk:∀ τ ls l14,lk 2 τ=.lit (.int .i64 f)->lk 4 τ=.ptr 0 0->lk 7 τ=.own 1 nR 3 0 nR->lk 10 τ=.own 2 na 3 0 na->lk 11 τ=.lit (.int .i64 n) ->
   P (finK 0 [.tmp 6] (run E 0 K τ [.box [.lit (.int .i64 N),.lit (.int .i64 T)],.arr true l7 f7 3 rR,.arr true l10 f10 3 rA,.box [.lit (.int .i64 n),.lit (.int .i64 0),.own 4 (dofR R n 0).length 3 0 (dofR R n 0).length],.arr true ls fs 3 ((dofR R n 0).map encRun),.box [.lit (.int .i64 n),.lit (.int .i64 f),.own 6 (dofR R n f).length 3 0 (dofR R n f).length],.arr true l14 f14 3 ((dofR R n f).map encRun)]))) :
  ∀ (d t:Nat),t+d=T->f<=t->∀ (ls l14:Bool),
  P (finK 0 [.tmp 6] (run E 0 (.code L8_1::.inLoop [1000000,2,4,7,10,11,12,14,16] L8_1::.inBlock 2::K) [(2,.lit (.int .i64 f)),(4,.ptr 0 0),(7,.own 1 nR 3 0 nR),(10,.own 2 na 3 0 na),(11,.lit (.int .i64 n)),(12,.ptr 3 0),(14,.ptr 5 0),(16,.lit (.int .i64 t))]
   [.box [.lit (.int .i64 N),.lit (.int .i64 T)],.arr true l7 f7 3 rR,.arr true l10 f10 3 rA,.box [.lit (.int .i64 n),.lit (.int .i64 0),.own 4 (dofR R n 0).length 3 0 (dofR R n 0).length],.arr true ls fs 3 ((dofR R n 0).map encRun),.box [.lit (.int .i64 n),.lit (.int .i64 f),.own 6 (dofR R n f).length 3 0 (dofR R n f).length],.arr true l14 f14 3 ((dofR R n f).map encRun)])):=by
 have hm1:((dofR R n 0).map encRun).length=(dofR R n 0).length:=by simp
 have hm2:((dofR R n f).map encRun).length=(dofR R n f).length:=by simp
 have hc1:=cutE_whole hm1
 have hc2:=cutE_whole hm2
 have hl1:(dofR R n 0).length<=1000:=hD.rlen n 0
 have hl2:=hD.rlen n f
 intro d
 induction d with
 | zero =>
  intro t ht hft ls l14
  have:t=T:=by omega
  subst this
  have hk2:=fun τ=>hk τ ls l14
  generalize (dofR R n 0).map encRun=r1 at *
  generalize (dofR R n f).map encRun=r2 at *
  simp [go_sem,r9c E L8_1.eq_1]
  refine hk2 _ ?_ ?_ ?_ ?_ ?_<;>simp [lk]
 | succ d ih =>
  intro t ht hft ls l14
  have htT:t<T:=by omega
  have htTi:((t:Int)<T)=True:=eq_true (by omega)
  have hT1:=hD.T1
  have w:IntKind.wrap .i64 ((t:Int)+1)=(t:Int)+1:=by rw [wrapIdx (by omega)];simp
  have hA1:=fun nl fu=>sat_spec n 0 (dofR R n 0) (by omega) nl fu t (by omega)
  have hA2:=fun nl fu=>sat_spec n f (dofR R n f) (by omega) nl fu t (by omega)
  have e1:=hD.at_ hn (Nat.zero_le t) htT
  have e2:=hD.at_ hn hft htT
  simp only [Int.natCast_zero] at e1
  rw [e1] at hA1
  rw [e2] at hA2
  simp only [encScr] at hA1 hA2
  have ih2:=ih (t+1) (by omega) (by omega) true true
  generalize nodeLv n (TR[t]'(by rw [hD.len];exact htT))=v at *
  generalize (dofR R n 0).map encRun=r1 at *
  generalize (dofR R n f).map encRun=r2 at *
  generalize (dofR R n 0).length=n1 at *
  generalize (dofR R n f).length=n2 at *
  simp at ih2
  simp [go_sem,r9c E L8_1.eq_1,htT,htTi,hm1,hm2,hc1,hc2,hA1,hA2,w,p9q,range_succ]
  rw [r9l]
  simp [go_sem,p9q,range_succ]
  exact ih2
theorem scrL_snoc (R:List Run):∀ d i,scrL R (d+1) i=scrL R d i++[⟨((i+d:Nat):Int),0,dofR R ((i+d:Nat):Int) 0,false,false⟩]
 | 0,i=>rfl
 | d+1,i=>by
  have:=scrL_snoc R d (i+1)
  rw [scrL,this,scrL,List.cons_append,show i+1+d=i+(d+1) by omega]
def encL (R:List Run) (n:Nat):List (List AVal):=(scrL R n 0).map encS
theorem encL_snoc (R:List Run) (n:Nat):encL R (n+1)=encL R n++[[.lit (.int .i64 (n:Int)),.lit (.int .i64 0),.imm false false true ((dofR R (n:Int) 0).map encRun)]]:=by
 unfold encL
 rw [scrL_snoc,map_append,Nat.zero_add]
 rfl
theorem encL_len (R:List Run) (n:Nat):(encL R n).length=n:=by unfold encL;rw [length_map,scrL_len]
theorem dra_turn (R TR:List Run) (T N:Nat) (hD:DOk R T N TR) (hT:0<T) (n:Nat) (hn:n<N) (from_:Int) (hf:-9223372036854775808<=from_/\from_<=9223372036854775807) (l7 f7 l10 f10:Bool) (K:List Item) (P:Option (AVal × Heap)->Prop) (hn0:0<n)
  (hk:∀ τ l7 f7 l10 f10 H,lk 2 τ=.lit (.int .i64 from_)->lk 4 τ=.ptr 0 0->lk 7 τ=.own 1 R.length 3 0 R.length->lk 10 τ=.own 2 (n+1) 3 0 (n+1)->lk 11 τ=.lit (.int .i64 (n+1:Nat)) ->
   P (finK 0 [.tmp 6] (run E 0 K τ (.box [.lit (.int .i64 N),.lit (.int .i64 T)]::.arr true l7 f7 3 (R.map encRun)::.arr true l10 f10 3 (encL R (n+1))::H)))) :
  P (finK 0 [.tmp 6] (run E 0 (.code L8_0::K) [(2,.lit (.int .i64 from_)),(4,.ptr 0 0),(7,.own 1 R.length 3 0 R.length),(10,.own 2 n 3 0 n),(11,.lit (.int .i64 n))]
   [.box [.lit (.int .i64 N),.lit (.int .i64 T)],.arr true l7 f7 3 (R.map encRun),.arr true l10 f10 3 (encL R n)])):=by
 have hN1:=hD.N1
 have hT1:=hD.T1
 have hm0:(R.map encRun).length=R.length:=by simp
 have hcR:=cutE_whole hm0
 have hcA:=cutE_whole (encL_len R n)
 have hRl:=hD.ok.len
 have hR0:R≠[]:=by intro e;have:=hD.ok.sum;rw [e] at this;simp [sumN] at this;omega
 have hne:∀ f,f<T->dofR R n f≠[]:=fun f hf e=>by have:=(hD.nil n f (by omega)).1 e;omega
 have hO:∀ nl fu (f:Nat),f<=T->_:=fun nl fu f hf=>dof_spec R hD.ok.dr (by omega) hD.ok.ok nl fu n f (hD.dofE hn hf)
 have hnN:((n:Int)<N)=True:=eq_true (by omega)
 have w:IntKind.wrap .i64 ((n:Int)+1)=(n:Int)+1:=by rw [wrapIdx (by omega)];simp
 have hl0:(dofR R n 0).length<=1000:=hD.rlen n 0
 have hS0:=fun nl fu=>sends_spec n 0 (dofR R n 0) (by omega) nl fu
 have en0:endsS n 0 (dofR R n 0)=T:=hD.ends hn (Nat.zero_le T)
 have hO0:=fun nl fu=>hO nl fu 0 (by omega)
 have hne0:dofR R n 0≠[]:=hne 0 hT
 have hm1:((dofR R n 0).map encRun).length=(dofR R n 0).length:=by simp
 have hc1:=cutE_whole hm1
 rw [en0] at hS0
 simp only [encScr] at hS0
 simp only [Int.natCast_zero,resV,resH,List.map_eq_nil_iff,if_neg hne0,length_map,List.nil_append] at hO0
 have hLs:=encL_snoc R n
 have hsz:(70368744177664<(n+1) * 40)=False:=eq_false (by omega)
 generalize hd0:dofR R n 0=D0 at *
 by_cases ha:from_<0
 ·simp [go_sem,r9c E L8_0.eq_1,hnN,hm0,hcR,hcA,hm1,hc1,hO0,hS0,w,ha,encL_len,hsz,<- hLs,p9q,range_succ]
  refine hk _ _ _ _ _ _ ?_ ?_ ?_ ?_ ?_<;>simp [lk]
 by_cases hb:(T:Int)<from_
 ·simp [go_sem,r9c E L8_0.eq_1,hnN,hm0,hcR,hcA,hm1,hc1,hO0,hS0,w,ha,hb,encL_len,hsz,<- hLs,p9q,range_succ]
  refine hk _ _ _ _ _ _ ?_ ?_ ?_ ?_ ?_<;>simp [lk]
 obtain ⟨f,rfl⟩:∃ f:Nat,from_=f:=⟨from_.toNat,by omega⟩
 have hfT:f<=T:=by omega
 have hS:=fun nl fu=>sends_spec n f (dofR R n f) (by have:=hD.rlen n f;omega) nl fu
 rw [hD.ends hn hfT] at hS
 simp only [encScr] at hS
 have hOf:=fun nl fu=>hO nl fu f hfT
 have hm2:((dofR R n f).map encRun).length=(dofR R n f).length:=by simp
 have hc2:=cutE_whole hm2
 by_cases hft:f<T
 ·have hnf:=hne f hft
  simp only [resV,resH,List.map_eq_nil_iff,if_neg hnf,length_map,List.nil_append] at hOf
  subst hd0
  simp [go_sem,r9c E L8_0.eq_1,hnN,hm0,hcR,hcA,hm1,hc1,hm2,hc2,hO0,hS0,hOf,hS,w,ha,hb,encL_len,hsz,<- hLs,p9q,range_succ]
  rw [r9l]
  simp [go_sem,p9q,range_succ]
  refine dra_in R TR T N hD n f hn R.length (n+1) _ _ _ _ (R.map encRun) (encL R (n+1)) true _ true _ _ P ?_ (T - f) f (by omega) (Nat.le_refl f) _ _
  intro τ ls l14 t2 t4 t7 t10 t11
  simp [go_sem,t11,w]
  refine hk _ _ _ _ _ _ ?_ ?_ ?_ ?_ ?_<;>simp [lk, *]
 ·have:f=T:=by omega
  subst this
  have hnf:=(hD.nil n f (by omega)).2 rfl
  simp only [resV,resH,hnf,List.map_nil,if_true] at hOf hS
  subst hd0
  simp [go_sem,r9c E L8_0.eq_1,hnN,hm0,hcR,hcA,hm1,hc1,hm2,hc2,hO0,hS0,hOf,hS,w,ha,hb,encL_len,hsz,<- hLs,p9q,range_succ]
  rw [r9l]
  simp [go_sem,p9q,range_succ,r9c E L8_1.eq_1,w]
  refine hk _ _ _ _ _ _ ?_ ?_ ?_ ?_ ?_<;>simp [lk]
theorem dra_first (R TR:List Run) (T N:Nat) (hD:DOk R T N TR) (hT:0<T) (n:Nat) (hn00:n=0) (hn:n<N) (from_:Int) (hf:-9223372036854775808<=from_/\from_<=9223372036854775807) (l7 f7:Bool) (K:List Item) (P:Option (AVal × Heap)->Prop)
  (hk:∀ l7 f7 l10 f10,
   P (finK 0 [.tmp 6] (run E 0 (.code L8_0::.inLoop [1000000,2,4,7,10,11] L8_0::K) [(2,.lit (.int .i64 from_)),(4,.ptr 0 0),(7,.own 1 R.length 3 0 R.length),(10,.own 2 (n+1) 3 0 (n+1)),(11,.lit (.int .i64 (n+1:Nat)))]
   [.box [.lit (.int .i64 N),.lit (.int .i64 T)],.arr true l7 f7 3 (R.map encRun),.arr true l10 f10 3 (encL R (n+1))]))) :
  P (finK 0 [.tmp 6] (run E 0 (.code L8_0::.inLoop [1000000,2,4,7,10,11] L8_0::K) [(2,.lit (.int .i64 from_)),(4,.ptr 0 0),(7,.own 1 R.length 3 0 R.length),(10,nilS),(11,.lit (.int .i64 n))]
   [.box [.lit (.int .i64 N),.lit (.int .i64 T)],.arr true l7 f7 3 (R.map encRun)])):=by
 have hN1:=hD.N1
 have hT1:=hD.T1
 have hm0:(R.map encRun).length=R.length:=by simp
 have hcR:=cutE_whole hm0
 have hRl:=hD.ok.len
 have hR0:R≠[]:=by intro e;have:=hD.ok.sum;rw [e] at this;simp [sumN] at this;omega
 have hne:∀ f,f<T->dofR R n f≠[]:=fun f hf e=>by have:=(hD.nil n f (by omega)).1 e;omega
 have hO:∀ nl fu (f:Nat),f<=T->_:=fun nl fu f hf=>dof_spec R hD.ok.dr (by omega) hD.ok.ok nl fu n f (hD.dofE hn hf)
 have hnN:((n:Int)<N)=True:=eq_true (by omega)
 have w:IntKind.wrap .i64 ((n:Int)+1)=(n:Int)+1:=by rw [wrapIdx (by omega)];simp
 have hl0:(dofR R n 0).length<=1000:=hD.rlen n 0
 have hS0:=fun nl fu=>sends_spec n 0 (dofR R n 0) (by omega) nl fu
 have en0:endsS n 0 (dofR R n 0)=T:=hD.ends hn (Nat.zero_le T)
 have hO0:=fun nl fu=>hO nl fu 0 (by omega)
 have hne0:dofR R n 0≠[]:=hne 0 hT
 have hm1:((dofR R n 0).map encRun).length=(dofR R n 0).length:=by simp
 have hc1:=cutE_whole hm1
 rw [en0] at hS0
 simp only [encScr] at hS0
 simp only [Int.natCast_zero,resV,resH,List.map_eq_nil_iff,if_neg hne0,length_map,List.nil_append] at hO0
 have hLs:=encL_snoc R n
 have hn1:n+1=1:=by omega
 have hn1i:(n:Int)+1=1:=by omega
 rw [show encL R n=[] by subst hn00;rfl,List.nil_append] at hLs
 rw [hn1] at hLs
 simp only [hn00,Nat.zero_add,Int.natCast_one] at hk
 have hsz:(70368744177664<40)=False:=eq_false (by omega)
 generalize hd0:dofR R n 0=D0 at *
 generalize hb1:encL R 1=B1 at *
 have hB1:B1.length=1:=by rw [hLs];rfl
 have hcB:=cutE_whole hB1
 have hrB:rowsOk 3 B1=true:=by rw [hLs];rfl
 by_cases ha:from_<0
 ·simp [go_sem,r9c E L8_0.eq_1,hnN,hm0,hcR,hm1,hc1,hO0,hS0,w,ha,nilS,hsz,<- hLs,hB1,hcB,hrB,p9q,range_succ]
  rw [r9l]
  simp [go_sem,p9q,range_succ,hB1,hcB,hrB,w]
  simp only [hn1i]
  exact hk _ _ _ _
 by_cases hb:(T:Int)<from_
 ·simp [go_sem,r9c E L8_0.eq_1,hnN,hm0,hcR,hm1,hc1,hO0,hS0,w,ha,hb,nilS,hsz,<- hLs,hB1,hcB,hrB,p9q,range_succ]
  rw [r9l]
  simp [go_sem,p9q,range_succ,hB1,hcB,hrB,w]
  simp only [hn1i]
  exact hk _ _ _ _
 obtain ⟨f,rfl⟩:∃ f:Nat,from_=f:=⟨from_.toNat,by omega⟩
 have hfT:f<=T:=by omega
 have hS:=fun nl fu=>sends_spec n f (dofR R n f) (by have:=hD.rlen n f;omega) nl fu
 rw [hD.ends hn hfT] at hS
 simp only [encScr] at hS
 have hOf:=fun nl fu=>hO nl fu f hfT
 have hm2:((dofR R n f).map encRun).length=(dofR R n f).length:=by simp
 have hc2:=cutE_whole hm2
 by_cases hft:f<T
 ·have hnf:=hne f hft
  simp only [resV,resH,List.map_eq_nil_iff,if_neg hnf,length_map,List.nil_append] at hOf
  subst hd0
  simp [go_sem,r9c E L8_0.eq_1,hnN,hm0,hcR,hm1,hc1,hm2,hc2,hO0,hS0,hOf,hS,w,ha,hb,nilS,hsz,<- hLs,hB1,hcB,hrB,p9q,range_succ]
  rw [r9l]
  simp [go_sem,p9q,range_succ]
  refine dra_in R TR T N hD n f hn R.length 1 _ _ _ _ (R.map encRun) B1 true _ true _ _ P ?_ (T - f) f (by omega) (Nat.le_refl f) _ _
  intro τ ls l14 t2 t4 t7 t10 t11
  simp [go_sem,t11,w,p9q,range_succ]
  rw [r9l]
  simp [go_sem,p9q,range_succ,hB1,hcB,hrB,w,t2,t4,t7,t10]
  simp only [hn1i]
  exact hk _ _ _ _
 ·have:f=T:=by omega
  subst this
  have hnf:=(hD.nil n f (by omega)).2 rfl
  simp only [resV,resH,hnf,List.map_nil,if_true] at hOf hS
  subst hd0
  simp [go_sem,r9c E L8_0.eq_1,hnN,hm0,hcR,hm1,hc1,hm2,hc2,hO0,hS0,hOf,hS,w,ha,hb,nilS,hsz,<- hLs,hB1,hcB,hrB,p9q,range_succ]
  rw [r9l]
  simp [go_sem,p9q,range_succ,r9c E L8_1.eq_1,w]
  rw [r9l]
  simp [go_sem,p9q,range_succ,hB1,hcB,hrB,w]
  simp only [hn1i]
  exact hk _ _ _ _
theorem dra_badS {R TR:List Run} {T N:Nat} (h:DOk R T N TR):∀ (d i:Nat),i+d=N->badS (scrL R d i)=0
 | 0,_,_=>rfl
 | d+1,i,hi=>by
  have e:chkS i 0 (dofR R i 0)=0:=h.chkS (n:=i) (by omega) (f:=0) (Nat.zero_le _)
  rw [scrL,badS,if_neg (by simp only [];simp [e]),dra_badS h d (i+1) (by omega)]
theorem dra_mask {R TR:List Run} {T N:Nat} (h:DOk R T N TR) {t:Nat} (ht:t<T) :
  maskS t (scrL R N 0)=((BitVec.ofNat 32 (2 ^ N - 1),BitVec.ofInt 32 (TR[t]'(by rw [h.len];exact ht)).Drive),0):=by
 have hN:=h.N1
 obtain ⟨m2,e,hm⟩:=mask_go h ht N 0 0#32 4294967295#32 (by omega) (by simp) (fun k hk=>by
  rw [if_neg (by omega)]
  have:∀ k,k<32->(4294967295#32).getLsbD k=true:=by decide
  exact this k hk)
 rw [maskS,if_neg (by simp [dra_badS h N 0 (by omega)]),e]
 congr 2
 apply BitVec.eq_of_getLsbD_eq
 intro k hk
 rw [hm,BitVec.getLsbD_ofNat]
 simp [hk]
theorem dra_at {R TR:List Run} {T N:Nat} (h:DOk R T N TR) {t:Nat} (ht:t<T):∃ r:Run,atRun R t=(r,0)/\r.Drive=(TR[t]'(by rw [h.len];exact ht)).Drive/\r.Bus=if r.Drive=4294967295 then 1 else 0:=by
 have htl:t<TR.length:=by rw [h.len];exact ht
 have hr:=h.rt _ (List.getElem_mem htl)
 have hN:∀ r∈R,0<=r.N:=fun r hr=>by have:=(chk_right h.ok.chk).1 r hr;omega
 refine ⟨TR[t],?_,rfl,hr⟩
 rw [atRun,if_neg (by simp [h.ok.chk]),if_neg (by rw [h.ok.sum];omega),pick_expand R t (by omega) hN,h.ok.exp,Int.toNat_natCast,getElem?_eq_getElem htl]
 rfl
theorem dra_last (R TR:List Run) (T N:Nat) (hD:DOk R T N TR) (hN0:1<=N) (hN6:N<=6) (K:List Item) (P:Option (AVal × Heap)->Prop)
  (hk:∀ τ H,P (finK 0 [.tmp 6] (run E 0 K τ H))) :
  ∀ (d t:Nat),t+d=T->∀ (l7 f7 l10 f10:Bool),
  P (finK 0 [.tmp 6] (run E 0 (.code L8_2::.inLoop [1000000,4,7,10,17] L8_2::.inBlock 4::K) [(4,.ptr 0 0),(7,.own 1 R.length 3 0 R.length),(10,.own 2 N 3 0 N),(17,.lit (.int .i64 t))]
   [.box [.lit (.int .i64 N),.lit (.int .i64 T)],.arr true l7 f7 3 (R.map encRun),.arr true l10 f10 3 (encL R N)])):=by
 have hT1:=hD.T1
 have hm0:(R.map encRun).length=R.length:=by simp
 have hcR:=cutE_whole hm0
 have hcA:=cutE_whole (encL_len R N)
 have hRl:=hD.ok.len
 intro d
 induction d with
 | zero =>
  intro t ht l7 f7 l10 f10
  have:t=T:=by omega
  subst this
  simp [go_sem,r9c E L8_2.eq_1]
  exact hk _ _
 | succ d ih =>
  intro t ht l7 f7 l10 f10
  have htT:t<T:=by omega
  have htTi:((t:Int)<T)=True:=eq_true (by omega)
  have w:IntKind.wrap .i64 ((t:Int)+1)=(t:Int)+1:=by rw [wrapIdx (by omega)];simp
  have hM:=fun nl fu=>mask_spec t (by omega) (scrL R N 0) (by rw [scrL_len];omega) (fun s hs=>by
   obtain ⟨j,hj,rfl⟩:=List.mem_iff_getElem.1 hs
   rw [scrL_get]
   have:=hD.rlen ((0+j:Nat):Int) 0
   simp only [Int.natCast_zero] at this
   simp only []
   omega) nl fu
  rw [dra_mask hD htT] at hM
  simp only [encM] at hM
  obtain ⟨r,hr1,hr2,hr3⟩:=dra_at hD htT
  have hA:=fun nl fu=>at_spec R (by omega) hD.ok.ok t (by omega) nl fu
  rw [hr1] at hA
  rw [<- hr2] at hM
  have hdr:=hD.dr _ (List.getElem_mem (l:=TR) (by rw [hD.len];exact htT))
  rw [<- hr2] at hdr
  have hq:((BitVec.ofInt 32 r.Drive).toNat:Int)=r.Drive:=by rw [BitVec.toNat_ofInt];omega
  rw [show (scrL R N 0).map encS=encL R N from rfl] at hM
  simp only [hq,encRun] at hM hA
  have hsh:((BitVec.ofNat 32 (2 ^ N - 1)).toNat:Int)=2 ^ N - 1:=by
   have:N=1∨N=2∨N=3∨N=4∨N=5∨N=6:=by omega
   rcases this with rfl | rfl | rfl | rfl | rfl | rfl<;>rfl
  rw [hsh] at hM
  have hcs:N=1∨N=2∨N=3∨N=4∨N=5∨N=6:=by omega
  have hng:((N:Int)<0)=False:=eq_false (by omega)
  have hw2:IntKind.u32.wrap (2 ^ min N 32)=2 ^ N:=by rcases hcs with rfl | rfl | rfl | rfl | rfl | rfl<;>rfl
  have hw3:IntKind.u32.wrap ((2:Int) ^ N - 1)=2 ^ N - 1:=by rcases hcs with rfl | rfl | rfl | rfl | rfl | rfl<;>rfl
  have ih2:=ih (t+1) (by omega) true f7 true f10
  simp at ih2
  have hLn:=encL_len R N
  generalize R.map encRun=r1 at *
  generalize encL R N=r2 at *
  by_cases hd:r.Drive=4294967295
  ·rw [if_pos hd] at hr3
   simp [go_sem,r9c E L8_2.eq_1,htT,htTi,hm0,hcR,hcA,hM,hA,w,hLn,hr3,hng,hw2,hw3,hd,p9q,range_succ]
   rw [r9l]
   simp [go_sem,p9q,range_succ,hLn,hm0,hcR,hcA,w]

   exact ih2
  ·rw [if_neg hd] at hr3
   simp [go_sem,r9c E L8_2.eq_1,htT,htTi,hm0,hcR,hcA,hM,hA,w,hLn,hr3,hng,hw2,hw3,hd,p9q,range_succ]
   rw [r9l]
   simp [go_sem,p9q,range_succ,hLn,hm0,hcR,hcA,w]
   exact ih2
def jq1:ICode->ICode | .seq x _=>x | c=>c
def jq2:ICode->ICode | .seq _ y=>y | c=>c
def jbl:ICode->ICode | .block _ c=>c | c=>c
def plBody:ICode:=jbl (jq1 (jq2 (jq2 L17_1)))
def plTail:ICode:=jq2 (jq2 (jq2 plBody))
def plInc:ICode:=jq2 (jq2 (jq2 L17_1))
structure RunsB (B:Nat) (runs:List Run):Prop where
 len:runs.length<=B
 n:∀ r∈runs,0<=r.N/\r.N<=B
theorem push_cases (runs:List Run) (r:Run):(runs=[]/\push runs r=[r])∨(∃ o x,runs=o++[x]/\(push runs r=o++[⟨x.N+r.N,x.Bus,x.Drive⟩]∨push runs r=o++[x,r])):=by
 rcases snoc_cases runs with h | ⟨o,x,h⟩
 ·exact .inl ⟨h,by rw [h];rfl⟩
 ·refine .inr ⟨o,x,h,?_⟩
  rw [h,push_snoc]
  split
  ·exact .inl rfl
  ·exact .inr rfl
theorem runsB_push {B:Nat} {runs:List Run} (h:RunsB B runs) (r:Run) (hr:r.N=1):RunsB (B+1) (push runs r):=by
 have hlen:=h.len
 refine ⟨Nat.le_trans (push_length runs r) (by omega),?_⟩
 intro y hy
 rcases push_cases runs r with ⟨h1,h2⟩ | ⟨o,x,h1,h2⟩
 ·rw [h2] at hy;simp at hy;subst hy;omega
 ·have hx:=h.n x (by rw [h1];simp)
  have ho:∀ z∈o,0<=z.N/\z.N<=B:=fun z hz=>h.n z (by rw [h1];simp [hz])
  rcases h2 with h2 | h2
  ·rw [h2] at hy
   rcases mem_append.1 hy with e | e
   ·have:=ho y e;omega
   ·simp at e;subst e;simp only [];omega
  ·rw [h2] at hy
   rcases mem_append.1 hy with e | e
   ·have:=ho y e;omega
   ·simp at e
    rcases e with e | e
    ·subst e;omega
    ·subst e;omega
theorem push_ne (runs:List Run) (r:Run):push runs r≠[]:=by
 rcases push_cases runs r with ⟨-,h2⟩ | ⟨o,x,-,h2 | h2⟩<;>rw [h2]<;>simp
theorem mapS_bru_cl (im:Nat) (l:List Ac) (K:List (Int × Nat)) (b:Nat) (runs:List Run):∀ q∈mapS im l K++bruS b runs,∀ j∈refsE q.2,j∈(mapS im l K++bruS b runs).map Prod.fst:=by
 intro q hq j hj
 rw [map_append]
 rcases mem_append.1 hq with e | e
 ·exact mem_append_left _ (mapS_cl im l K q e j hj)
 ·rw [bruS_zero b runs q e] at hj;cases hj
theorem row_one {H:Heap} {b:Nat} {e:Entry} (h:H[b]?=some e) (he:refsE e=[]):reach H purse [b] []=some [b]:=by
 rw [p9q,reach_step (by simp) h,he,List.nil_append,reach_nil];rfl
theorem play_end {l:List Ac} (hll:l.length<=60) {K:List (Int × Nat)} (hK:KOk2 l K) {im a na i:Nat} {lb fb:Bool} {L:List NdL} {ro:List Run} {b b3:Nat} {lk3 fu3:Bool} {evs:List Bev} {H5:Heap} (hB5:BP H5 a na L i lb fb (mapS im l K++(bruS b ro++bouS b3 lk3 fu3 (evs.map encBev)))) {v62:Int} {n:Nat} {B:ICode} {τ:Tmps} {rs:List IRes} {k:List Item} {P:Option (AVal × Heap)->Prop}
  (hτ:keep τ [10,12,15,16,62,63]=[(10,.ptr a 0),(12,.mref im),(15,bruV b ro.length),(16,bouV b3 evs.length),(62,.lit (.int .i64 v62)),(63,.lit (.int .i64 n))])
  (hk:∀ H2,BP H2 a na L i lb fb (mapS im l K++(bruS b ro++bouS b3 lk3 fu3 (evs.map encBev)))->P (finK 0 rs (run E 0 (.code B::.inLoop [10,12,15,16,62,63] B::k) [(10,.ptr a 0),(12,.mref im),(15,bruV b ro.length),(16,bouV b3 evs.length),(62,.lit (.int .i64 v62)),(63,.lit (.int .i64 n))] H2))) :
  P (finK 0 rs (run E 0 (.inLoop [10,12,15,16,62,63] B::k) τ H5)):=by
 have hl:liveT [10,12,15,16,62,63]=[10,12,15,16,62,63]:=rfl
 have hle1:=bruS_le b ro
 have hle2:=bouS_le b3 lk3 fu3 (evs.map encBev)
 have hr:(bruS b ro).map Prod.fst++(bouS b3 lk3 fu3 (evs.map encBev)).map Prod.fst=(bruS b ro++bouS b3 lk3 fu3 (evs.map encBev)).map Prod.fst:=by rw [map_append]
 refine mapR_next hB5 (Nat.le_trans hK.len hll) (fun q hq=>?_) rfl (ws:=a::im::(bruS b ro++bouS b3 lk3 fu3 (evs.map encBev)).map Prod.fst) ?_ ?_ (by simp) (by simp) (fun q hq=>hq) ?_ ?_ ?_ (fun H2 hB=>?_)
 ·rcases mem_append.1 hq with e | e
  ·exact bruS_zero b ro q e
  ·exact bouS_zero b3 lk3 fu3 _ q e
 ·rw [hl,hτ,<- hr,<- bru_refs,<- bou_refs];simp [refsT,refsV]
 ·simp;omega
 ·have:=hB5.nd
  rw [map_append,List.nodup_append] at this
  exact this.2.1
 ·intro q hq
  exact mem_cons_of_mem _ (mem_cons_of_mem _ (List.mem_map_of_mem hq))
 ·intro x hx
  rcases mem_cons.1 hx with e | hx
  ·exact .inl e
  ·refine .inr ?_
   rw [map_append]
   rcases mem_cons.1 hx with e | hx
   ·rw [e];exact mem_append_left _ (by unfold mapS;simp)
   ·exact List.mem_append_right _ hx
 ·rw [hl,hτ];exact hk H2 hB
theorem play_tail {l:List Ac} (hll:l.length<=60) {K:List (Int × Nat)} (hK:KOk2 l K) {im a na i N:Nat} (hN:N<=32) {lb fb:Bool} {L:List NdL} {F:BitVec 32} (hfit:fitsB F N=true) (hL:L.length=N) (hi:i<=1048576) (hI:NdsB i (L.map NdL.n)) {runs:List Run} (hR:RunsB i runs) {evs:List Bev} (hE:evs.length<=64 * i) {br be:Nat} {lke fue:Bool} {H:Heap}
  (h:BP H a na L i lb fb (mapS im l K++(bruS br runs++bouS be lke fue (evs.map encBev)))) {v62:Int} {τ:Tmps} (t10:lk 10 τ=.ptr a 0) (t12:lk 12 τ=.mref im) (t15:lk 15 τ=bruV br runs.length) (t16:lk 16 τ=bouV be evs.length) (t18:lk 18 τ=.lit (.int .u32 F.toNat)) (t62:lk 62 τ=.lit (.int .i64 v62)) (t63:lk 63 τ=.lit (.int .i64 i)) {rs:List IRes} {k:List Item} {P:Option (AVal × Heap)->Prop}
  (hk:∀ H2 L2 b2 be2 lk2 fu2,L2.map NdL.n=forceN F 0#32 0#32 (L.map NdL.n)->BP H2 a na L2 (i+1) lb fb (mapS im l K++(bruS b2 (push runs (runOf (L.map NdL.n)))++bouS be2 lk2 fu2 ((evs++forceE F 0#32 0#32 i (L.map NdL.n)).map encBev))) ->
   P (finK 0 rs (run E 0 (.code L17_1::.inLoop [10,12,15,16,62,63] L17_1::.inBlock 2::k) [(10,.ptr a 0),(12,.mref im),(15,bruV b2 (push runs (runOf (L.map NdL.n))).length),(16,bouV be2 (evs++forceE F 0#32 0#32 i (L.map NdL.n)).length),(62,.lit (.int .i64 v62)),(63,.lit (.int .i64 ((i+1:Nat):Int)))] H2))) :
  P (finK 0 rs (run E 0 (.code plTail::.inBlock 3::.code plInc::.inLoop [10,12,15,16,62,63] L17_1::.inBlock 2::k) τ H)):=by
 have w:=wrapIdx (i:=i) (by omega)
 obtain ⟨b2,H2,L2,s1,s2,s3,s4,-,s6⟩:=bstep_at h.bus (by omega) (hI.ok (by omega)) (by omega) F (by rw [hL];exact hfit)
 have hL2:L2.length=N:=by rw [map_len s2,forceN_len,length_map];exact hL
 have hel:=forceE_len F 0#32 0#32 i (L.map NdL.n)
 rw [length_map,hL] at hel
 unfold forceV at s1
 generalize hes:forceE F 0#32 0#32 i (L.map NdL.n)=es at *
 have hC:∃ lk5 fu5,BP H2 a na L2 (i+1) lb fb ((mapS im l K++bruS br runs)++(bouS be lke fue (evs.map encBev)++bouS b2 lk5 fu5 (es.map encBev))):=by
  by_cases h0:es=[]
  ·subst h0
   refine ⟨false,false,?_⟩
   have:=h.call s3 (by omega) s4
   rw [show bouS b2 false false (([]:List Bev).map encBev)=[] from rfl,List.append_nil,List.append_assoc]
   exact this
  ·obtain ⟨⟨lkb,fu,q1⟩,q2,q3⟩:=s6 h0
   refine ⟨lkb,fu,?_⟩
   have:=h.callE s3 (by omega) s4 q1 q2 q3 (by intro j hj;cases hj)
   refine this.perm ?_
   rw [show bouS b2 lkb fu (es.map encBev)=[(b2,.arr true lkb fu 15 (es.map encBev))] by unfold bouS;simp [h0]]
   rw [<- List.append_assoc,<- List.append_assoc]
   exact (List.perm_append_comm (l₁:=[(b2,Entry.arr true lkb fu 15 (es.map encBev))]))
 obtain ⟨lk5,fu5,hC⟩:=hC
 obtain ⟨ro,hro⟩:∃ ro,ro=runOf (L.map NdL.n):=⟨_,rfl⟩
 have hror:runOf (L.map NdL.n)=⟨1,lv (busN 0#32 0#32 (L.map NdL.n)),(lvlsN 0#32 0#32 (L.map NdL.n)).toNat⟩:=rfl
 rw [<- hro] at hk
 have hror:encRun ro=[.lit (.int .i64 1),.lit (.int .i64 (lv (busN 0#32 0#32 (L.map NdL.n)))),.lit (.int .u32 (lvlsN 0#32 0#32 (L.map NdL.n)).toNat)]:=by rw [hro];rfl
 have hro1:ro.N=1:=by rw [hro];rfl
 have hbx:encRun ro=[.lit (.int .i64 1),.lit (.int .i64 (lv (busN 0#32 0#32 (L.map NdL.n)))),.lit (.int .u32 (lvlsN 0#32 0#32 (L.map NdL.n)).toNat)]:=hror
 generalize lv (busN 0#32 0#32 (L.map NdL.n))=vb at *
 generalize (lvlsN 0#32 0#32 (L.map NdL.n)).toNat=vd at *
 have hF:=hC.far [.box [.lit (.int .i64 1),.lit (.int .i64 vb),.lit (.int .u32 vd)]]
 have hil:evs.length+es.length<=100000000:=by omega
 have hk2:=fun H5 b2 be2 lk2 fu2=>hk H5 L2 b2 be2 lk2 fu2 s2
 clear hk
 generalize L17_1=B at hk2 ⊢
 have w2:IntKind.wrap .i64 ((i:Int)+1)=(i:Int)+1:=by rw [w];simp
 have hi1:((i+1:Nat):Int)=(i:Int)+1:=by simp
 have hml:(evs++es).length=evs.length+es.length:=length_append
 by_cases hrn:runs=[]
 ·subst hrn
  have J:=bjoin_nil ro
  rw [hbx] at J
  have hG:=(hF.app (e:=.arr true false false 3 [encRun ro]) (by intro j hj;cases hj)).perm (S2:=(mapS im l K++bruS (H2.length+1) [ro])++(bouS be lke fue (evs.map encBev)++bouS b2 lk5 fu5 (es.map encBev))) (by
   rw [show bruS br []=[] from rfl,List.append_nil,show bruS (H2.length+1) [ro]=[(H2.length+1,.arr true false false 3 [encRun ro])] from rfl,length_append]
   exact (List.perm_append_comm (l₁:=[(H2.length+1,Entry.arr true false false 3 [encRun ro])]) (l₂:=mapS im l K)).append_right _)
  obtain ⟨b3,lk3,fu3,H5,e1,hB5⟩:=bou_append hG (mapS_bru_cl _ _ _ _ _) hil
  rw [hbx] at e1
  rw [List.append_assoc] at hB5
  have hk3:=fun H6 hB=>hk2 H6 (H2.length+1) b3 lk3 fu3 hB
  rw [show push [] ro=[ro] from rfl] at hk3
  rw [<- hml] at e1
  rw [show bruV br ([]:List Run).length=nilS from rfl] at t15
  rw [show bruV (H2.length+1) [ro].length=.own (H2.length+1) 1 3 0 1 from rfl] at hk3
  have hpe:=fun τ hτ=>play_end (im:=im) hll hK hB5 (v62:=v62) (n:=i+1) (B:=B) (τ:=τ) (rs:=rs) (k:=.inBlock 2::k) (P:=P) hτ (fun H6 hB=>hk3 H6 hB)
  rw [show bruV (H2.length+1) [ro].length=.own (H2.length+1) 1 3 0 1 from rfl] at hpe
  generalize bouV b3 (evs++es).length=ve at *
  generalize bouV be evs.length=v0 at *
  generalize bouV b2 es.length=v1 at *
  simp [nilS] at t15 J
  simp only [List.append_assoc,List.cons_append,List.nil_append] at e1
  simp [go_sem,plTail,plInc,plBody,jq1,jq2,jbl,L17_1.eq_1,t10,t12,t15,t16,t18,t62,t63,s1,J,e1,w2,p9q,range_succ]
  refine hpe _ ?_
  simp [go_sem,t10,t12,t62,t63]
 ·obtain ⟨o,x,hox⟩:∃ o x,runs=o++[x]:=by
   rcases snoc_cases runs with q | q
   ·exact absurd q hrn
   ·exact q
  have hxN:=hR.n x (by rw [hox];simp)
  have hol:o.length<=2000000:=by have:=hR.len;rw [hox,length_append] at this;omega
  have J:=bjoin_snoc o x ro hol (by omega)
  rw [<- hox,hbx] at J
  have hbr:bruS br runs=[(br,.arr true false false 3 (runs.map encRun))]:=by unfold bruS;rw [if_neg hrn]
  have hbr2:bruS br (push runs ro)=[(br,.arr true false false 3 ((push runs ro).map encRun))]:=by unfold bruS;rw [if_neg (push_ne _ _)]
  have g0:=hF.get (br,.arr true false false 3 (runs.map encRun)) (by rw [hbr];simp)
  simp only [] at g0
  have hre:=row_one g0 rfl
  rw [hbr] at hF
  have hP:(mapS im l K++[(br,Entry.arr true false false 3 (runs.map encRun))]++(bouS be lke fue (evs.map encBev)++bouS b2 lk5 fu5 (es.map encBev))).Perm ((br,Entry.arr true false false 3 (runs.map encRun))::(mapS im l K++(bouS be lke fue (evs.map encBev)++bouS b2 lk5 fu5 (es.map encBev)))) :=
   (List.perm_append_comm (l₁:=mapS im l K)).append_right _
  have hP2:((br,Entry.arr true false false 3 ((push runs ro).map encRun))::(mapS im l K++(bouS be lke fue (evs.map encBev)++bouS b2 lk5 fu5 (es.map encBev)))).Perm ((mapS im l K++bruS br (push runs ro))++(bouS be lke fue (evs.map encBev)++bouS b2 lk5 fu5 (es.map encBev))):=by
   rw [hbr2]
   exact (List.perm_append_comm (l₂:=mapS im l K) (l₁:=[(br,Entry.arr true false false 3 ((push runs ro).map encRun))])).append_right _
  have hG:=((hF.perm hP).put (e:=.arr true false false 3 ((push runs ro).map encRun)) (by intro j hj;cases hj)).perm hP2
  obtain ⟨b3,lk3,fu3,H5,e1,hB5⟩:=bou_append hG (mapS_bru_cl _ _ _ _ _) hil
  rw [List.append_assoc] at hB5
  have hk3:=fun H6 hB=>hk2 H6 br b3 lk3 fu3 hB
  rw [<- hml] at e1
  have hv1:bruV br runs.length=.own br runs.length 3 0 runs.length:=by unfold bruV;rw [if_neg (fun q=>hrn (List.length_eq_zero_iff.1 q))]
  have hv2:bruV br (push runs ro).length=.own br (push runs ro).length 3 0 (push runs ro).length:=by unfold bruV;rw [if_neg (fun q=>push_ne _ _ (List.length_eq_zero_iff.1 q))]
  have hpe:=fun τ hτ=>play_end (im:=im) hll hK hB5 (v62:=v62) (n:=i+1) (B:=B) (τ:=τ) (rs:=rs) (k:=.inBlock 2::k) (P:=P) hτ (fun H6 hB=>hk3 H6 hB)
  rw [hv2] at hpe
  rw [hv1] at t15
  generalize bouV b3 (evs++es).length=ve at *
  generalize bouV be evs.length=v0 at *
  generalize bouV b2 es.length=v1 at *
  clear hk3 hk2 hB5 hG hP2 hP hF
  generalize (push runs ro).map encRun=rows2 at *
  generalize runs.map encRun=rows1 at *
  generalize (push runs ro).length=n2 at *
  generalize runs.length=n1 at *
  simp [go_sem,plTail,plInc,plBody,jq1,jq2,jbl,L17_1.eq_1,t10,t12,t15,t16,t18,t62,t63,s1,J,e1,w2,hre,g0]
  refine hpe _ ?_
  simp [go_sem,t10,t12,t62,t63]
theorem playR_succ (l:List Ac) (d t:Nat) (ns:List Nd) (runs:List Run):playR l (d+1) t ns runs=playR l d (t+1) (forceN (tickS l t ns).1 0#32 0#32 (tickS l t ns).2) (push runs (runOf (tickS l t ns).2)):=rfl
theorem playE_succ (l:List Ac) (d t:Nat) (ns:List Nd) (evs:List Bev):playE l (d+1) t ns evs=playE l d (t+1) (forceN (tickS l t ns).1 0#32 0#32 (tickS l t ns).2) (evs++forceE (tickS l t ns).1 0#32 0#32 t (tickS l t ns).2):=by
 unfold playE
 rw [playT,map_cons,List.flatten_cons,List.append_assoc]
theorem fits0 (N:Nat):fitsB 0#32 N=true:=by rw [fitsB_bits];intro i _;simp
theorem l2_nil {a im:Nat} {vr ve:AVal} {T i:Nat} {H:Heap} {rs:List IRes} {k:List Item} {P:Option (AVal × Heap)->Prop}
  (hk:∀ τ,lk 10 τ=.ptr a 0->lk 12 τ=.mref im->lk 15 τ=vr->lk 16 τ=ve->lk 18 τ=.lit (.int .u32 0)->lk 62 τ=.lit (.int .i64 T)->lk 63 τ=.lit (.int .i64 i)->P (finK 0 rs (run E 0 k τ H))) :
  P (finK 0 rs (run E 0 (.code L17_2::.inLoop [10,12,15,16,18,62,63,68,69,70] L17_2::.inBlock 4::k) [(10,.ptr a 0),(12,.mref im),(15,vr),(16,ve),(18,.lit (.int .u32 0)),(62,.lit (.int .i64 T)),(63,.lit (.int .i64 i)),(68,.imm true true true []),(69,.lit (.int .i64 0)),(70,.lit (.int .i64 0))] H)):=by
 simp [go_sem,r9c E L17_2.eq_1]
 refine hk _ ?_ ?_ ?_ ?_ ?_ ?_ ?_<;>simp [lk]
theorem play_loop1 {l:List Ac} (hll:l.length<=60) {K:List (Int × Nat)} (hK:KOk2 l K) {im a na N:Nat} (hN:N<=32) {lb fb:Bool} (hok:∀ x∈l,0<=x.node/\x.node<N/\x.f.Ok) {T:Nat} (hT:T<=1048576) {RUNS:List Run} {EVS:List Bev} {rs:List IRes} {k:List Item} {P:Option (AVal × Heap)->Prop}
  (hk:∀ H L br be lke fue τ,BP H a na L T lb fb (mapS im l K++(bruS br RUNS++bouS be lke fue (EVS.map encBev)))->lk 15 τ=bruV br RUNS.length->lk 16 τ=bouV be EVS.length->P (finK 0 rs (run E 0 k τ H))) :
  ∀ (d i:Nat),i+d=T->∀ (H:Heap) (L:List NdL) (runs:List Run) (evs:List Bev) (br be:Nat) (lke fue:Bool),L.length=N->NdsB i (L.map NdL.n)->RunsB i runs->evs.length<=64 * i->playR l d i (L.map NdL.n) runs=RUNS->playE l d i (L.map NdL.n) evs=EVS ->
   BP H a na L i lb fb (mapS im l K++(bruS br runs++bouS be lke fue (evs.map encBev))) ->
   P (finK 0 rs (run E 0 (.code L17_1::.inLoop [10,12,15,16,62,63] L17_1::.inBlock 2::k) [(10,.ptr a 0),(12,.mref im),(15,bruV br runs.length),(16,bouV be evs.length),(62,.lit (.int .i64 T)),(63,.lit (.int .i64 i))] H)):=by
 intro d
 induction d with
 | zero =>
  intro i hi H L runs evs br be lke fue hL hI hR hE e1 e2 h
  have hlt:((i:Int)<(T:Int))=False:=eq_false (by omega)
  have e1:runs=RUNS:=e1
  have e2:evs=EVS:=by rw [<- e2];unfold playE;simp [playT]
  subst e1;subst e2
  have:i=T:=by omega
  subst this
  simp [go_sem,r9c E L17_1.eq_1,hlt]
  exact hk H L br be lke fue _ h (by simp [lk]) (by simp [lk])
 | succ d ih =>
  intro i hi H L runs evs br be lke fue hL hI hR hE e1 e2 h
  have hlt:((i:Int)<(T:Int))=True:=eq_true (by omega)
  have hltn:i<T:=by omega
  rw [playR_succ] at e1
  rw [playE_succ] at e2
  have hnl:∀ x∈dayL l (i:Int),x.f.Ok:=fun x hx=>(hok x ((List.mem_filter.1 hx).1)).2.2
  have hnn:∀ x∈dayL l (i:Int),0<=x.node/\x.node<N:=fun x hx=>⟨(hok x ((List.mem_filter.1 hx).1)).1,(hok x ((List.mem_filter.1 hx).1)).2.1⟩
  have hS2:NdsB i (tickS l i (L.map NdL.n)).2:=foldN_ok _ _ hnl hI
  have hSl:(tickS l i (L.map NdL.n)).2.length=N:=by unfold tickS;rw [foldN_len];simp [hL]
  have hSf:fitsB (tickS l i (L.map NdL.n)).1 N=true:=foldN_fits hN _ _ hnn (fits0 N)
  have hev:=forceE_len (tickS l i (L.map NdL.n)).1 0#32 0#32 i (tickS l i (L.map NdL.n)).2
  rw [hSl] at hev
  have hM0:∀ q∈bruS br runs++bouS be lke fue (evs.map encBev),refsE q.2=[]:=fun q hq=>by
   rcases mem_append.1 hq with e | e
   ·exact bruS_zero br runs q e
   ·exact bouS_zero be lke fue _ q e
  have hMr:refsV (bruV br runs.length)++refsV (bouV be evs.length)=(bruS br runs++bouS be lke fue (evs.map encBev)).map Prod.fst:=by rw [map_append,<- bru_refs,<- bou_refs]
  have hMl:(bruS br runs++bouS be lke fue (evs.map encBev)).length<=2:=by
   have:=bruS_le br runs
   have:=bouS_le be lke fue (evs.map encBev)
   rw [length_append];omega
  have hMn:((bruS br runs++bouS be lke fue (evs.map encBev)).map Prod.fst).Nodup:=by
   have:=h.nd
   rw [map_append,List.nodup_append] at this
   exact this.2.1
  have gm:=h.get (im,.map (mapV l K)) (by unfold mapS;simp)
  simp only [] at gm
  have hgo:∀ H2 L2 τ,L2.map NdL.n=(tickS l i (L.map NdL.n)).2->BP H2 a na L2 i lb fb (mapS im l K++(bruS br runs++bouS be lke fue (evs.map encBev)))->lk 10 τ=.ptr a 0->lk 12 τ=.mref im->lk 15 τ=bruV br runs.length->lk 16 τ=bouV be evs.length->lk 18 τ=.lit (.int .u32 (tickS l i (L.map NdL.n)).1.toNat)->lk 62 τ=.lit (.int .i64 T)->lk 63 τ=.lit (.int .i64 i) ->
    P (finK 0 rs (run E 0 (.code plTail::.inBlock 3::.code plInc::.inLoop [10,12,15,16,62,63] L17_1::.inBlock 2::k) τ H2)):=by
   intro H2 L2 τ hn hB t10 t12 t15 t16 t18 t62 t63
   have hL2:L2.length=N:=by have:=congrArg List.length hn;rw [length_map,hSl] at this;exact this
   refine play_tail hll hK hN hSf hL2 (by omega) (by rw [hn];exact hS2) hR hE hB t10 t12 t15 t16 t18 t62 t63 ?_
   rw [hn]
   intro H3 L3 b2 be2 lk2 fu2 hn3 hB3
   refine ih (i+1) (by omega) H3 L3 _ _ b2 be2 lk2 fu2 ?_ ?_ ?_ ?_ ?_ ?_ hB3
   ·have:=congrArg List.length hn3;rw [length_map,forceN_len,hSl] at this;exact this
   ·rw [hn3];exact forceN_ok _ _ _ hS2
   ·exact runsB_push hR _ rfl
   ·rw [length_append];omega
   ·rw [hn3];exact e1
   ·rw [hn3];exact e2
  by_cases hin:(i:Int)∈K.map Prod.fst
  ·obtain ⟨q,hq,hqi⟩:=mem_map.1 hin
   obtain ⟨qt,j⟩:=q
   simp only [] at hqi
   subst hqi
   obtain ⟨K1,K2,hK12⟩:=List.append_of_mem hq
   have hnd:=hK.nd
   have hni:(i:Int) ∉ K1.map Prod.fst:=by
    rw [hK12,map_append,List.nodup_append] at hnd
    intro z
    exact hnd.2.2 _ z (i:Int) (by simp) rfl
   have hf:mfind (i:Int) (mapV l K)=some (rowV j (dayL l (i:Int)).length):=by rw [hK12];exact mfind_mid hni
   unfold rowV at hf
   have hP2:=play_loop2 l hll K hK (i:Int) j hq N hN hok a na im i lb fb i (by omega) (bruV br runs.length) (bouV be evs.length) _ hMr hM0 hMl T i (tickS l i (L.map NdL.n)).1 (tickS l i (L.map NdL.n)).2 rs (.code plTail::.inBlock 3::.code plInc::.inLoop [10,12,15,16,62,63] L17_1::.inBlock 2::k) P (fun H2 L2 τ hn hl2 hI2 hB t10 t12 t15 t16 t18 t62 t63=>hgo H2 L2 τ hn hB t10 t12 t15 t16 t18 t62 t63)
   have hP3:=fun H2 hB2=>hP2 (dayL l (i:Int)).length 0 (by omega) H2 L 0#32 hL hI (by rw [List.drop_zero];rfl) hB2
   clear hP2 hgo ih
   simp only [Int.natCast_zero,show ((0#32).toNat:Int)=0 from rfl] at hP3
   have hws1:∀ q∈bruS br runs++bouS be lke fue (evs.map encBev),q.1∈a::im::(refsV (bruV br runs.length)++(refsV (bouV be evs.length)++[j])):=by
    intro q hq
    have:q.1∈refsV (bruV br runs.length)++refsV (bouV be evs.length):=by rw [hMr];exact List.mem_map_of_mem hq
    rw [<- List.append_assoc]
    exact mem_cons_of_mem _ (mem_cons_of_mem _ (mem_append_left _ this))
   have hws2:∀ u∈a::im::(refsV (bruV br runs.length)++(refsV (bouV be evs.length)++[j])),u=a∨u∈(mapS im l K++(bruS br runs++bouS be lke fue (evs.map encBev))).map Prod.fst:=by
    intro u hu
    rcases mem_cons.1 hu with e | hu
    ·exact .inl e
    ·rcases mem_cons.1 hu with e | hu
     ·rw [e];exact .inr (by unfold mapS;simp)
     ·rw [<- List.append_assoc,hMr] at hu
      rw [map_append]
      rcases mem_append.1 hu with e | e
      ·exact .inr (List.mem_append_right _ e)
      ·simp at e
       rw [e]
       refine .inr (mem_append_left _ ?_)
       unfold mapS
       rw [map_cons,rowS_fst]
       exact mem_cons_of_mem _ (mem_map.2 ⟨((i:Int),j),hq,rfl⟩)
   have hwl:(a::im::(refsV (bruV br runs.length)++(refsV (bouV be evs.length)++[j]))).length<=30:=by
    have:=congrArg List.length hMr
    rw [length_append,length_map] at this
    simp only [List.length_cons,length_append,List.length_nil] at hMl this ⊢;omega
   have hent:=fun (k2:List Item) (b:ICode) (τ:Tmps) hws hk2=>mapR_next (R2:=bruS br runs++bouS be lke fue (evs.map encBev)) (rs:=rs) (P:=P) (b:=b) (k:=k2) (τ:=τ) (live:=[10,12,15,16,18,62,63,68,69,70]) h (Nat.le_trans hK.len hll) hM0 rfl (ws:=a::im::(refsV (bruV br runs.length)++(refsV (bouV be evs.length)++[j]))) hws hwl (by simp) (by simp) (fun q hq=>hq) hMn hws1 hws2 hk2
   generalize bruV br runs.length=vr at *
   generalize bouV be evs.length=ve at *
   have hl2:liveT [10,12,15,16,18,62,63,68,69,70]=[10,12,15,16,18,62,63,68,69,70]:=rfl
   simp [go_sem,r9c E L17_1.eq_1,hlt,hltn,gm,hf]
   refine hent _ _ _ ?_ ?_
   ·simp [hl2,keep,lk,refsT,refsV]
   ·intro H2 hB2
    exact hP3 H2 hB2
  ·have hf:=mfind_none (acts:=l) hin
   have hd0:dayL l (i:Int)=[]:=by
    unfold dayL
    rw [List.filter_eq_nil_iff]
    intro y hy z
    exact hin (by rw [<- (of_decide_eq_true z)];exact hK.all y hy)
   have hts:tickS l i (L.map NdL.n)=(0#32,L.map NdL.n):=by unfold tickS;rw [hd0];rfl
   rw [hts] at hgo
   have hg2:=fun H2 τ hB=>hgo H2 L τ rfl hB
   clear hgo ih
   simp only [show ((0#32).toNat:Int)=0 from rfl] at hg2
   have hws1:∀ q∈bruS br runs++bouS be lke fue (evs.map encBev),q.1∈a::im::(refsV (bruV br runs.length)++refsV (bouV be evs.length)):=by
    intro q hq
    have:q.1∈refsV (bruV br runs.length)++refsV (bouV be evs.length):=by rw [hMr];exact List.mem_map_of_mem hq
    exact mem_cons_of_mem _ (mem_cons_of_mem _ this)
   have hws2:∀ u∈a::im::(refsV (bruV br runs.length)++refsV (bouV be evs.length)),u=a∨u∈(mapS im l K++(bruS br runs++bouS be lke fue (evs.map encBev))).map Prod.fst:=by
    intro u hu
    rcases mem_cons.1 hu with e | hu
    ·exact .inl e
    ·rcases mem_cons.1 hu with e | hu
     ·rw [e];exact .inr (by unfold mapS;simp)
     ·rw [hMr] at hu
      rw [map_append]
      exact .inr (List.mem_append_right _ hu)
   have hwl:(a::im::(refsV (bruV br runs.length)++refsV (bouV be evs.length))).length<=30:=by
    have:=congrArg List.length hMr
    rw [length_append,length_map] at this
    simp only [List.length_cons,length_append,List.length_nil] at hMl this ⊢;omega
   have hent:=fun (k2:List Item) (b:ICode) (τ:Tmps) hws hk2=>mapR_next (R2:=bruS br runs++bouS be lke fue (evs.map encBev)) (rs:=rs) (P:=P) (b:=b) (k:=k2) (τ:=τ) (live:=[10,12,15,16,18,62,63,68,69,70]) h (Nat.le_trans hK.len hll) hM0 rfl (ws:=a::im::(refsV (bruV br runs.length)++refsV (bouV be evs.length))) hws hwl (by simp) (by simp) (fun q hq=>hq) hMn hws1 hws2 hk2
   generalize bruV br runs.length=vr at *
   generalize bouV be evs.length=ve at *
   have hl2:liveT [10,12,15,16,18,62,63,68,69,70]=[10,12,15,16,18,62,63,68,69,70]:=rfl
   simp [go_sem,r9c E L17_1.eq_1,hlt,hltn,gm,hf,nilS]
   refine hent _ _ _ ?_ ?_
   ·simp [hl2,keep,lk,refsT,refsV]
   ·intro H2 hB2
    have hx:=l2_nil (a:=a) (im:=im) (vr:=vr) (ve:=ve) (T:=T) (i:=i) (H:=H2) (rs:=rs) (P:=P) (fun τ a1 a2 a3 a4 a5 a6 a7=>hg2 H2 τ hB2 a1 a2 a3 a4 a5 a6 a7)
    exact hx
end Go.AM.R1
