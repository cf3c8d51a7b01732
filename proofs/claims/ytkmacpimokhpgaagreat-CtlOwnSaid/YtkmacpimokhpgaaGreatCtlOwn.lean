/- The law CtlOwn of package magnetolaw10 returns true for every input, and its arguments read as before. -/
import Derived.Test.YtkmacpimokhpgaaGreatCtl3
import Derived.ProofKit
set_option linter.unusedVariables false
set_option linter.unusedSimpArgs false
open Go Go.AM
namespace Go.AM.R1
theorem quClone_nil (fu:Bool):call E (.func (.func 40) [] []) [.ptr 0 0] (quH true fu [])=some (.ptr 1 0,quH true fu []++[.box [nilS,.lit (.int .i64 16)]]):=by
  have h:=fclone_nil true
  rw [call_func E E40]
  simp [nilS] at h
  simp [go_sem,ir40,quH,nilS,h,purse_eq,List.range_succ]
theorem quClone_spec (fu:Bool) (l:List Fr) (hl:l.length≤1000):∃ fu',call E (.func (.func 40) [] []) [.ptr 0 0] (quH false fu l)=some (.ptr 2 0,quH false fu l++[.box [.own 3 l.length 12 0 l.length,.lit (.int .i64 16)],.arr true false fu' 12 (l.map encFr)]):=by
  obtain ⟨fu',h⟩:=fclone_spec l hl fu
  refine ⟨fu',?_⟩
  have hno:=frNo l
  rw [call_func E E40]
  simp [go_sem,ir40,quH,h,hno,purse_eq,List.range_succ]
end Go.AM.R1
open Go Go.AM
namespace Go.AM.R1
/-! ### Where the row of a node lies -/
def NodeAtW (H:Heap) (a:Nat) (n:Nd) (fs:List Nat) (wx:Nat):Prop:=∃ F rx qx lx,NodeAtF H a n F rx qx lx wx∧fs=footL n a rx qx lx wx
theorem NodeAtW.at {H:Heap} {a:Nat} {n:Nd} {fs:List Nat} {wx:Nat} (h:NodeAtW H a n fs wx):NodeAt H a n fs:=by
  obtain ⟨F,rx,qx,lx,h1,h2⟩:=h
  exact ⟨F,rx,qx,lx,wx,h1,h2⟩
theorem NodeAt.w {H:Heap} {a:Nat} {n:Nd} {fs:List Nat} (h:NodeAt H a n fs):∃ wx,NodeAtW H a n fs wx:=by
  obtain ⟨F,rx,qx,lx,wx,h1,h2⟩:=h
  exact ⟨wx,F,rx,qx,lx,h1,h2⟩
/-- The row that a node had lies as it did, and is in what the node has now as its row alone. -/
def RowKept (n:Nd) (w:Nat) (Hn:Heap) (m:Nd) (gs:List Nat) (wx:Nat):Prop:=n.row≠[]→(∃ lw fw,Hn[w]?=some (.arr true lw fw 1 (n.row.map encLv)))∧(w∈gs→m.row=n.row∧wx=w)
theorem nodeAt_canW (n:Nd) (F:Fl) (X:Heap):NodeAtW (ndH n F++X) 0 n (List.range (mI n)) (wI n):=by
  refine ⟨F,1,qI n,qI n+1,⟨?_,?_,?_,?_,?_,?_⟩,?_⟩ <;>
  by_cases h1:n.raw=[]<;>by_cases h2:n.nq=true<;>by_cases h3:n.row=[] <;>
  simp [ndH,rV,qI,qV,wI,wV,rE,qE,wE,Nd.cells,nilS,mI,footL,rAt,lAt,wAt,h1,h2,h3,List.range_succ]
theorem kept_can {n n':Nd} {F:Fl} {X:Heap} {gs:List Nat} (k1:n'.raw=[]↔n.raw=[]) (k2:n'.nq=n.nq) (k4:n'.row=n.row):RowKept n (wI n) (ndH n' F++X) n' gs (wI n'):=by
  intro h3
  have hw:wI n'=wI n:=by unfold wI qI;simp only [k1,k2]
  obtain ⟨F2,rx,qx,lx,h,-⟩:=nodeAt_canW n' F X
  have:=h.row (by rw [k4];exact h3)
  rw [hw,k4] at this
  exact ⟨⟨_,_,this⟩,fun _=>⟨k4,hw⟩⟩
def LiesW (Hn:Heap) (n n':Nd) (N:Nat) (es:List (Nat × Fr)) (v:AVal):Prop :=
  ∃ gs ix wx,NodeAtW Hn 0 n' gs wx∧N≤Hn.length∧v=evV ix es∧(es≠[]→Hn[ix]?=some (.arr true false false 15 (es.map encEv))∧N≤ix∧ix ∉ gs)∧RowKept n (wI n) Hn n' gs wx
theorem lies_canW (n n':Nd) (F2:Fl) (es:List (Nat × Fr)) (hm:mI n'=mI n) (k1:n'.raw=[]↔n.raw=[]) (k2:n'.nq=n.nq) (k4:n'.row=n.row):LiesW (ndH n' F2++evE es) n n' (mI n) es (evV (mI n) es):=by
  refine ⟨_,mI n,_,nodeAt_canW n' F2 _,by rw [List.length_append,ndH_len];omega,rfl,fun he=>?_,kept_can k1 k2 k4⟩
  refine ⟨?_,Nat.le_refl _,by rw [hm];simp⟩
  rw [List.getElem?_append_right (by rw [ndH_len];omega),ndH_len,hm,Nat.sub_self]
  unfold evE;rw [if_neg he];rfl
theorem step_of_canW (n:Nd) (F:Fl) (b:Bool) (fid:Nat) (hm:n.mode<11) (hg:(stepF.drop n.mode)[0]?=some (.func (.func fid) [] [])) (n':Nd) (F2:Fl) (ks:List Nat) (f':Fr) (hk:KsOk ks)
    (k1:n'.raw=[]↔n.raw=[]) (k2:n'.nq=n.nq) (k4:n'.row=n.row) (hc:call E (.func (.func fid) [] []) [.ptr 0 0,.ptr (mI n) 0,.lit (.int .i64 (lv b))] (ndT n F [] Fr.zero)=some (.tup [],ndT n' F2 ks f')) :
    ∃ Hn v,call E (.func (.func 17) [] []) [.ptr 0 0,.lit (.int .i64 (lv b))] (ndH n F)=some (.tup [v,.lit (.int .i64 0)],Hn)∧LiesW Hn n n' (mI n) (evsOf ks f') v:=by
  have k3:n'.row=[]↔n.row=[]:=by rw [k4]
  have hmi:=mI_same k1 k2 k3
  rcases hk with rfl | ⟨a,rfl⟩ | ⟨a,h1,h2,rfl⟩
  · exact ⟨_,_,nstep_can0 n F b fid hm hg n' F2 f' k1 k2 k3 hc,lies_canW n n' F2 [] hmi k1 k2 k4⟩
  · by_cases ha:a=1∨a=2
    · have e:evsOf [a] f'=[(a,f')]:=by simp [evsOf,ha]
      rw [e]
      exact ⟨_,_,nstep_can1f n F b fid hm hg a ha n' F2 f' k1 k2 k3 hc,lies_canW n n' F2 _ hmi k1 k2 k4⟩
    · have e:evsOf [a] f'=[(a,Fr.zero)]:=by simp [evsOf,ha]
      rw [e]
      exact ⟨_,_,nstep_can1 n F b fid hm hg a (fun q=>ha (.inl q)) (fun q=>ha (.inr q)) n' F2 f' k1 k2 k3 hc,lies_canW n n' F2 _ hmi k1 k2 k4⟩
  · have e:evsOf [a,10] f'=[(a,Fr.zero),(10,Fr.zero)]:=by simp [evsOf,h1,h2]
    rw [e]
    exact ⟨_,_,nstep_can2 n F b fid hm hg a h1 h2 n' F2 f' k1 k2 k3 hc,lies_canW n n' F2 _ hmi k1 k2 k4⟩
theorem nodeAt_stW (n:Nd) (F:Fl) (s:Bool):NodeAtW (stG 0 [] n (startN n s) F s) 0 (startN n s) (footL (startN n s) 0 (mI n) (qI n) (qI n+1) (if s=true then mI n+1 else wI n)) (if s=true then mI n+1 else wI n)∧mI n≤(stG 0 [] n (startN n s) F s).length ∧
    RowKept n (wI n) (stG 0 [] n (startN n s) F s) (startN n s) (footL (startN n s) 0 (mI n) (qI n) (qI n+1) (if s=true then mI n+1 else wI n)) (if s=true then mI n+1 else wI n):=by
  have hne:=allP_ne (n.q.head?.getD Fr.zero)
  refine ⟨⟨⟨false,false,F.fq,if s=true then false else F.lw,if s=true then false else F.fw⟩,mI n,qI n,qI n+1,⟨?_,?_,?_,?_,?_,?_⟩,rfl⟩,?_,fun h3=>⟨⟨F.lw,F.fw,?_⟩,?_⟩⟩
  case refine_9 =>
    cases s
    · exact fun _=>⟨rfl,rfl⟩
    · intro q
      exfalso
      revert q
      by_cases h1:n.raw=[]<;>by_cases h2:n.nq=true <;>
      simp [startN,wI,qI,mI,footL,h1,h2,h3,hne]
  case refine_8 =>
    cases s<;>by_cases h1:n.raw=[]<;>by_cases h2:n.nq=true <;>
    simp [stG,startN,ndH,rV,qI,qV,wI,wV,rE,qE,wE,Nd.cells,nilS,mI,h1,h2,h3,hne]
  all_goals
  cases s<;>by_cases h1:n.raw=[]<;>by_cases h2:n.nq=true<;>by_cases h3:n.row=[] <;>
  simp [stG,startN,ndH,rV,qI,qV,wI,wV,rE,qE,wE,Nd.cells,nilS,mI,footL,rAt,lAt,wAt,h1,h2,h3,hne]
theorem step_of_startW (n:Nd) (F:Fl) (b:Bool) (fid:Nat) (hm:n.mode<11) (hg:(stepF.drop n.mode)[0]?=some (.func (.func fid) [] [])) (s:Bool)
    (hc:call E (.func (.func fid) [] []) [.ptr 0 0,.ptr (mI n) 0,.lit (.int .i64 (lv b))] (ndT n F [] Fr.zero)=some (.tup [],stG 1 (tdE (mI n) [] Fr.zero) n (startN n s) F s)) :
    ∃ Hn v,call E (.func (.func 17) [] []) [.ptr 0 0,.lit (.int .i64 (lv b))] (ndH n F)=some (.tup [v,.lit (.int .i64 0)],Hn)∧LiesW Hn n (startN n s) (mI n) [] v:=by
  have hN:=nodeAt_stW n F s
  refine ⟨stG 0 [] n (startN n s) F s,nilS,?_,_,0,_,hN.1,hN.2.1,rfl,fun q=>absurd rfl q,hN.2.2⟩
  cases s
  · exact nstep_start_f n F b fid hm hg _ hc
  · exact nstep_start_t n F b fid hm hg _ (allP_ne _) hc
theorem step_of_sentW (n:Nd) (F:Fl) (b:Bool) (fid:Nat) (hm:n.mode<11) (hg:(stepF.drop n.mode)[0]?=some (.func (.func fid) [] [])) (h1:¬ n.raw=[]) (hq:n.nq=false) (h3:¬ n.row=[]) (m:Nd) (F2:Fl) (hm1:¬ m.raw=[]) (hm2:m.nq=false) (hm3:m.row=n.row)
    (hmem:m.own∈m.q) (hc:call E (.func (.func fid) [] []) [.ptr 0 0,.ptr (mI n) 0,.lit (.int .i64 (lv b))] (ndT n F [] Fr.zero)=some (.tup [],sentG [.box (tdC (.own 7 1 1 0 1) m.own)] [.arr true false false 1 [encK 1]] 6 m F2)) :
    ∃ Hn v,call E (.func (.func 17) [] []) [.ptr 0 0,.lit (.int .i64 (lv b))] (ndH n F)=some (.tup [v,.lit (.int .i64 0)],Hn)∧LiesW Hn n (sentN m) (mI n) [(1,m.own)] v:=by
  have hmi:mI n=5:=by simp [mI,wI,qI,h1,hq,h3]
  have hlen:=delL_len m.own m.q hmem
  have h3':¬ m.row=[]:=by rw [hm3];exact h3
  refine ⟨_,_,nstep_sent n F b fid hm hg h1 hq h3 m F2 hm1 hm2 hm3 hc,[0,1,2,5,4],6,4,?_,?_,rfl,fun _=>⟨rfl,by omega,by simp⟩,fun _=>⟨⟨F2.lw,F2.fw,?_⟩,fun _=>⟨hm3,by simp [wI,qI,h1,hq]⟩⟩⟩
  · refine ⟨{ F2 with fq:=false },1,2,5,⟨?_,?_,?_,?_,?_,?_⟩,?_⟩ <;>
    simp [sentG,sentN,footL,rAt,lAt,wAt,hm1,hm2,h3',hlen]
  · rw [hmi];simp [sentG]
  · simp [sentG,wI,qI,h1,hq,hm3]
def StepsToW (n:Nd) (F:Fl) (b:Bool) (n':Nd) (es:List (Nat × Fr)):Prop :=
  ∃ Hn v,call E (.func (.func 17) [] []) [.ptr 0 0,.lit (.int .i64 (lv b))] (ndH n F)=some (.tup [v,.lit (.int .i64 0)],Hn)∧LiesW Hn n n' (mI n) es v
theorem keep_stepW (n:Nd) (F:Fl) (b:Bool) (fid:Nat) (hm:n.mode<11) (hg:(stepF.drop n.mode)[0]?=some (.func (.func fid) [] [])) (n':Nd) (F2:Fl) (ks:List Nat) (f':Fr) (hk:KsOk ks) (hp:Keep n n')
    (hc:call E (.func (.func fid) [] []) [.ptr 0 0,.ptr (mI n) 0,.lit (.int .i64 (lv b))] (ndT n F [] Fr.zero)=some (.tup [],ndT n' F2 ks f')):StepsToW n F b n' (evsOf ks f') :=
  step_of_canW n F b fid hm hg n' F2 ks f' hk (by rw [hp.raw]) hp.nq hp.row hc
theorem take_stepW (n:Nd) (F:Fl) (b:Bool) (h1:¬ n.raw=[]) (hmode:n.mode=2) (n':Nd) (F2:Fl) (ks:List Nat) (f':Fr) (hk:KsOk ks) (e1:¬ n'.raw=[]) (e2:n'.nq=n.nq) (e3:n'.row=n.row)
    (hc:call E (.func (.func 54) [] []) [.ptr 0 0,.ptr (mI n) 0,.lit (.int .i64 (lv b))] (ndT n F [] Fr.zero)=some (.tup [],ndT n' F2 ks f')):StepsToW n F b n' (evsOf ks f') :=
  step_of_canW n F b _ (by omega) (by rw [hmode];rfl) n' F2 ks f' hk ⟨fun q=>absurd q e1,fun q=>absurd q h1⟩ e2 e3 hc
/-- Modes other than in a frame. -/
theorem out_stepW (n:Nd) (F:Fl) (hI:n.Inv) (hk:n.k≤1000000000) (b:Bool) (h2:¬ n.mode=2):StepsToW n F b (nxN n b) (evN n b):=by
  have hm:=hI.mode
  have hn:=hI.ok
  have hg:∀ c,n.mode=c→∀ x,(stepF.drop c)[0]?=some x→(stepF.drop n.mode)[0]?=some x:=fun c e x h=>by rw [e];exact h
  unfold nxN evN
  have hcases:n.mode=0∨n.mode=1∨n.mode=3∨n.mode=4∨n.mode=5∨n.mode=6∨n.mode=7∨n.mode=8∨n.mode=9∨n.mode=10:=by omega
  rcases hcases with h | h | h | h | h | h | h | h | h | h
  · rw [show stepN n b=noFr (joinN n b) by unfold stepN;simp only [h]]
    exact keep_stepW n F b _ (by omega) (hg 0 h _ rfl) _ F [] Fr.zero (.inl rfl) (join_keep n b) (njoin_spec n F hk Fr.zero b)
  · rw [show stepN n b=noFr (idleN n b) by unfold stepN;simp only [h]]
    cases b
    · rw [show idleN n false=([],startN n (decide (n.q≠[]))) from rfl]
      cases hq:n.q with
      | nil=>exact step_of_startW n F false _ (by omega) (hg 1 h _ rfl) false (nidle_start_no n F hn hq Fr.zero)
      | cons g r =>
        have hv:=hI.qv g (by rw [hq];simp)
        exact step_of_startW n F false _ (by omega) (hg 1 h _ rfl) true (nidle_start_yes n F hn g r hq hv.1 hv.2 Fr.zero)
    · by_cases hq:n.q=[]
      · rw [show idleN n true=([],n) by unfold idleN;rw [if_neg (by simp),if_pos hq]]
        exact keep_stepW n F true _ (by omega) (hg 1 h _ rfl) n F [] Fr.zero (.inl rfl) (keep_refl n) (nidle_rest n F hn hq Fr.zero)
      · rw [show idleN n true=failN { n with tx:=true } 4 true by unfold idleN;rw [if_neg (by simp),if_neg hq]]
        have kp:=fail_keep { n with tx:=true } 4 true
        exact keep_stepW n F true _ (by omega) (hg 1 h _ rfl) _ F _ Fr.zero (fail_ksok _ 4 true (by omega) (by omega)) ⟨kp.raw,kp.nq,kp.row,kp.q⟩ (nidle_fail n F hn hq Fr.zero)
  · rw [show stepN n b=noFr (domN n b) by unfold stepN;simp only [h]]
    exact keep_stepW n F b _ (by omega) (hg 3 h _ rfl) _ F _ Fr.zero (dom_ks n b) (dom_keep n b) (ndom_spec n F hn hk Fr.zero b)
  · rw [show stepN n b=noFr (pasN n b) by unfold stepN;simp only [h]]
    exact keep_stepW n F b _ (by omega) (hg 4 h _ rfl) _ F _ Fr.zero (pas_ks n b) (pas_keep n b) (npas_spec n F hn hk Fr.zero b)
  · rw [show stepN n b=noFr (domN n b) by unfold stepN;simp only [h]]
    exact keep_stepW n F b _ (by omega) (hg 5 h _ rfl) _ F _ Fr.zero (dom_ks n b) (dom_keep n b) (ndom_spec n F hn hk Fr.zero b)
  · rw [show stepN n b=noFr (waitN n b) by unfold stepN;simp only [h]]
    have ho:n.ct.off=false:=by rw [hI.off];simp;omega
    exact keep_stepW n F b _ (by omega) (hg 6 h _ rfl) _ F _ Fr.zero (wait_ks n b) (wait_keep n b) (nwait_spec n F hn hk ho Fr.zero b)
  · rw [show stepN n b=noFr (closeN n b) by unfold stepN;simp only [h]]
    exact keep_stepW n F b _ (by omega) (hg 7 h _ rfl) _ F _ Fr.zero (close_ks n b) (close_keep n b) (nclose_spec n F hn hk Fr.zero b)
  · rw [show stepN n b=noFr (pausN n b) by unfold stepN;simp only [h]]
    cases b
    · by_cases hk2:n.k<2
      · rw [show pausN n false=overN n by unfold pausN;rw [if_neg (by simp),if_pos hk2]]
        exact keep_stepW n F false _ (by omega) (hg 8 h _ rfl) _ F [9] Fr.zero (.inr (.inl ⟨9,rfl⟩)) ⟨rfl,rfl,rfl,rfl⟩ (npause_over n F hk2 Fr.zero)
      · rw [show pausN n false=([],startN n (decide (n.q≠[]) && !lateP n)) by unfold pausN;rw [if_neg (by simp),if_neg hk2]]
        cases hq:n.q with
        | nil=>exact step_of_startW n F false _ (by omega) (hg 8 h _ rfl) false (npause_no0 n F hn hk2 hq Fr.zero)
        | cons g r =>
          have hv:=hI.qv g (by rw [hq];simp)
          cases hl:lateP n
          · exact step_of_startW n F false _ (by omega) (hg 8 h _ rfl) true (npause_yes n F hn hk2 g r hq hv.1 hv.2 hl Fr.zero)
          · exact step_of_startW n F false _ (by omega) (hg 8 h _ rfl) false (npause_nol n F hn hk2 (by rw [hq];simp) hl Fr.zero)
    · rw [show pausN n true=pauseN n by unfold pausN;rw [if_pos rfl]]
      exact keep_stepW n F true _ (by omega) (hg 8 h _ rfl) _ F [] Fr.zero (.inl rfl) (pause_keep n) (npause_rest n F hk Fr.zero)
  · rw [show stepN n b=noFr (sspN n b) by unfold stepN;simp only [h]]
    cases b
    · rw [show sspN n false=([],startN n false) by unfold sspN;rw [if_neg (by simp)]]
      exact step_of_startW n F false _ (by omega) (hg 9 h _ rfl) false (nsusp_start n F Fr.zero)
    · rw [show sspN n true=suspN n by unfold sspN;rw [if_pos rfl]]
      exact keep_stepW n F true _ (by omega) (hg 9 h _ rfl) _ F [] Fr.zero (.inl rfl) (susp_keep n) (nsusp_rest n F hk Fr.zero)
  · rw [show stepN n b=noFr (offN n b) by unfold stepN;simp only [h]]
    exact keep_stepW n F b _ (by omega) (hg 10 h _ rfl) _ F _ Fr.zero (off_ks n b) (boff_keep n b) (noff_spec n F hk (by have:=hI.rows;omega) Fr.zero b)
/-- A level in a frame that the node sends. -/
theorem in_sendsW (n:Nd) (F:Fl) (hI:n.Inv) (h2:n.mode=2) (hs:n.sends=true) (b:Bool):StepsToW n F b (nxN n b) (evN n b):=by
  have hn:=hI.ok
  obtain ⟨h1,h0,hri,hl5,h58,htx,hse⟩:=hI.inf h2
  have hS:=hse hs
  obtain ⟨hrl,h3,hrow,-⟩:=send_facts hS
  have hr:=hri.ok
  have hq:=hS.nq
  have hkind:=hri.kind
  have tk:=fun b=>take_keep n b h1
  unfold nxN evN
  rw [show stepN n b=inN n b by unfold stepN;simp only [h2]]
  generalize hN:nextF n.raw=kk at hkind h58 hrow
  obtain ⟨kind,k⟩:=kk
  simp only [] at hkind h58 hrow
  have ct:=fun (b:Bool) (F2:Fl) (hc:call E (.func (.func 54) [] []) [.ptr 0 0,.ptr (mI n) 0,.lit (.int .i64 (lv b))] (ndT n F [] Fr.zero)=some (.tup [],ndT (takeN n b).2 F2 [] Fr.zero)) =>
    take_stepW n F b h1 h2 (takeN n b).2 F2 [] Fr.zero (.inl rfl) (tk b).1 (tk b).2.1 (tk b).2.2.1 hc
  have cf:=fun (b:Bool) (x:List Nat × Nd) (F2:Fl) (hk:KsOk x.1) (hp:Keep n x.2) (hc:call E (.func (.func 54) [] []) [.ptr 0 0,.ptr (mI n) 0,.lit (.int .i64 (lv b))] (ndT n F [] Fr.zero)=some (.tup [],ndT x.2 F2 x.1 Fr.zero)) =>
    take_stepW n F b h1 h2 x.2 F2 x.1 Fr.zero hk (by rw [hp.raw];exact h1) hp.nq hp.row hc
  unfold inN
  rw [if_pos hs,hN]
  simp only []
  by_cases hd:b=frL n
  · rw [if_pos hd]
    have hd':frL n=b:=hd.symm
    by_cases h5:n.run=5
    · have hlv:¬ n.lvl=b:=by
        rw [hd];unfold frL;rw [if_pos hs,if_pos h5];cases n.lvl<;>simp
      rw [if_neg (fun e=>e.1 h5),if_neg (fun e=>e.1 h5)]
      have hk5:=h58 h5
      rcases Nat.lt_or_ge 4 kind with h4 | h4
      · have:kind=5:=by omega
        subst this
        cases b
        · obtain ⟨F2,hc⟩:=sin_added_hi_f n F hn hr h1 hl5 Fr.zero hs hrl hq h3 k hN hd' h5 hlv
          exact ct false F2 hc
        · obtain ⟨F2,hc⟩:=sin_added_hi_t n F hn hr h1 hl5 Fr.zero hs hrl hq h3 k hN hd' h5 hlv
          exact ct true F2 hc
      · cases b
        · obtain ⟨F2,hc⟩:=sin_added_lo_f n F hn hr h1 hl5 Fr.zero hs hrl hq h3 kind k hN hd' h5 hlv h4
          exact ct false F2 hc
        · obtain ⟨F2,hc⟩:=sin_added_lo_t n F hn hr h1 hl5 Fr.zero hs hrl hq h3 kind k hN hd' h5 hlv h4
          exact ct true F2 hc
    · rcases Nat.lt_or_ge 4 kind with h4 | h4
      · have hbt:b=true:=by
          rw [hd];unfold frL;rw [if_pos hs,if_neg h5,hrow h4];rfl
        subst hbt
        have hcases:kind=5∨kind=6∨kind=7∨kind=8:=by omega
        rcases hcases with rfl | rfl | rfl | rfl
        · rw [if_neg (by simp),if_neg (by simp)]
          obtain ⟨F2,hc⟩:=sin_delim5 n F hn hr h1 hl5 Fr.zero hs hrl hq h3 k hN hd' h5
          exact ct true F2 hc
        · rw [if_pos ⟨h5,rfl⟩]
          obtain ⟨F2,hc⟩:=sin_ack n F hn hr h1 hl5 Fr.zero hs hrl hq h3 k hN hd' h5
          have kp:=fail_keep n 8 (!decide (n.ct.state=1))
          exact cf true (nackN n) F2 (fail_ksok n 8 _ (by omega) (by omega)) ⟨kp.raw,kp.nq,kp.row,kp.q⟩ hc
        · rw [if_neg (by simp),if_neg (by simp)]
          obtain ⟨F2,hc⟩:=sin_delim7 n F hn hr h1 hl5 Fr.zero hs hrl hq h3 k hN hd' h5
          exact ct true F2 hc
        · by_cases hk6:k=6
          · subst hk6
            rw [if_neg (by simp),if_pos ⟨h5,rfl⟩]
            obtain ⟨F2,hc⟩:=sin_sent n F hn hr h1 hl5 Fr.zero hs hrl hq h3 hN hd' h5 hS.mem
            have hon:(takeN n true).2.own=n.own:=(tk true).2.2.2.2.2.2.2.1
            rw [← hon] at hc
            have hst:=step_of_sentW n F true _ (by omega) (by rw [h2];rfl) h1 hq h3 (takeN n true).2 F2 (tk true).1 ((tk true).2.1.trans hq) (tk true).2.2.1 (by rw [hon,(tk true).2.2.2.1];exact hS.mem) hc
            rw [hon] at hst
            exact hst
          · rw [if_neg (by simp),if_neg (by simp [hk6])]
            obtain ⟨F2,hc⟩:=sin_endx n F hn hr h1 hl5 Fr.zero hs hrl hq h3 k hN hd' h5 hk6
            exact ct true F2 hc
      · rw [if_neg (by omega),if_neg (by simp;omega)]
        cases b
        · obtain ⟨F2,hc⟩:=sin_low_f n F hn hr h1 hl5 Fr.zero hs hrl hq h3 kind k hN hd' h5 h4
          exact ct false F2 hc
        · obtain ⟨F2,hc⟩:=sin_low_t n F hn hr h1 hl5 Fr.zero hs hrl hq h3 kind k hN hd' h5 h4
          exact ct true F2 hc
  · rw [if_neg hd]
    cases b
    · have hd':frL n=true:=by cases h:frL n;exact absurd h.symm hd;rfl
      rw [if_neg (by simp)]
      by_cases hk1:kind=1
      · subst hk1
        rw [if_pos rfl]
        by_cases h5:n.run=5
        · rw [if_pos h5]
          obtain ⟨F2,hc⟩:=sin_stuff n F hn hr h1 hl5 Fr.zero hs hrl hq h3 k hN hd' h5
          exact cf false _ F2 (fail_ksok n 5 false (by omega) (by omega)) (fail_keep n 5 false) hc
        · rw [if_neg h5]
          obtain ⟨F2,hc⟩:=sin_lost n F hn hr h1 hl5 Fr.zero hs hrl hq h3 k hN hd' h5
          have kp:=take_keep { n with tx:=false,sends:=false } false h1
          exact take_stepW n F false h1 h2 _ F2 [3] Fr.zero (.inr (.inl ⟨3,rfl⟩)) kp.1 kp.2.1 kp.2.2.1 hc
      · rw [if_neg hk1]
        by_cases hk6:kind=6
        · subst hk6
          rw [if_pos rfl]
          obtain ⟨F2,hc⟩:=sin_slot n F hn hr h1 hl5 Fr.zero hs hrl hq h3 k hN hd' (fun e=>by have:=h58 e;omega)
          exact ct false F2 hc
        · rw [if_neg hk6]
          obtain ⟨F2,hc⟩:=sin_bit0 n F hn hr h1 hl5 Fr.zero hs hrl hq h3 kind k hN hd' hk1 hk6
          exact cf false _ F2 (fail_ksok n 4 true (by omega) (by omega)) (fail_keep n 4 true) hc
    · have hd':frL n=false:=by cases h:frL n;rfl;exact absurd h.symm hd
      rw [if_pos rfl]
      obtain ⟨F2,hc⟩:=sin_bit1 n F hn hr h1 hl5 Fr.zero hs hrl hq h3 kind k hN hd'
      exact cf true _ F2 (fail_ksok n 4 true (by omega) (by omega)) (fail_keep n 4 true) hc
/-- A level in a frame of another node. -/
theorem in_recvsW (n:Nd) (F:Fl) (hI:n.Inv) (h2:n.mode=2) (hs:n.sends=false) (b:Bool):StepsToW n F b (nxN n b) (evN n b):=by
  have hn:=hI.ok
  obtain ⟨h1,h0,hri,hl5,h58,htx,-⟩:=hI.inf h2
  have hr:=hri.ok
  have hkind:=hri.kind
  have tk:=fun b=>take_keep n b h1
  have hfr:frL n=!(decide ((nextF n.raw).1=6) && rightF n.raw):=by unfold frL;rw [if_neg (by rw [hs];simp)]
  unfold nxN evN
  rw [show stepN n b=inN n b by unfold stepN;simp only [h2]]
  generalize hN:nextF n.raw=kk at hkind h58 hfr
  obtain ⟨kind,k⟩:=kk
  simp only [] at hkind h58 hfr
  have ct:=fun (b:Bool) (F2:Fl) (hc:call E (.func (.func 54) [] []) [.ptr 0 0,.ptr (mI n) 0,.lit (.int .i64 (lv b))] (ndT n F [] Fr.zero)=some (.tup [],ndT (takeN n b).2 F2 [] Fr.zero)) =>
    take_stepW n F b h1 h2 (takeN n b).2 F2 [] Fr.zero (.inl rfl) (tk b).1 (tk b).2.1 (tk b).2.2.1 hc
  have cf:=fun (b:Bool) (x:List Nat × Nd) (F2:Fl) (hk:KsOk x.1) (hp:Keep n x.2) (hc:call E (.func (.func 54) [] []) [.ptr 0 0,.ptr (mI n) 0,.lit (.int .i64 (lv b))] (ndT n F [] Fr.zero)=some (.tup [],ndT x.2 F2 x.1 Fr.zero)) =>
    take_stepW n F b h1 h2 x.2 F2 x.1 Fr.zero hk (by rw [hp.raw];exact h1) hp.nq hp.row hc
  unfold inN
  rw [if_neg (by rw [hs];simp),hN]
  simp only []
  by_cases hd:frL n=false
  · rw [if_pos hd]
    rw [hd] at hfr
    have hk6:kind=6:=by
      apply Classical.byContradiction
      intro q;simp [q] at hfr
    subst hk6
    cases b
    · rw [if_neg (by simp)]
      obtain ⟨F2,hc⟩:=rin_slot_f_f n F hn hr h1 hl5 Fr.zero hs k hN hd (fun e=>by have:=h58 e;omega)
      exact ct false F2 hc
    · rw [if_pos rfl]
      obtain ⟨F2,hc⟩:=rin_bit n F hn hr h1 hl5 Fr.zero hs k hN hd
      exact cf true _ F2 (fail_ksok n 4 true (by omega) (by omega)) (fail_keep n 4 true) hc
  · have hd':frL n=true:=by cases h:frL n;exact absurd h hd;rfl
    rw [if_neg hd]
    by_cases h5:n.run=5
    · rw [if_pos h5]
      have hk5:=h58 h5
      by_cases hb:b=n.lvl
      · rw [if_pos hb]
        refine Exists.elim (?_:∃ F2,call E (.func (.func 54) [] []) [.ptr 0 0,.ptr (mI n) 0,.lit (.int .i64 (lv b))] (ndT n F [] Fr.zero)=some (.tup [],ndT (failN n 5 true).2 F2 (failN n 5 true).1 Fr.zero)) (fun F2 hc=>cf b _ F2 (fail_ksok n 5 true (by omega) (by omega)) (fail_keep n 5 true) hc)
        rcases Nat.lt_or_ge 4 kind with h4 | h4
        · have:kind=5:=by omega
          subst this
          cases b
          · exact rin_stuff_hi_f n F hn hr h1 hl5 Fr.zero hs k hN hd' h5 hb.symm
          · exact rin_stuff_hi_t n F hn hr h1 hl5 Fr.zero hs k hN hd' h5 hb.symm
        · cases b
          · exact rin_stuff_lo_f n F hn hr h1 hl5 Fr.zero hs kind k hN hd' h5 hb.symm h4
          · exact rin_stuff_lo_t n F hn hr h1 hl5 Fr.zero hs kind k hN hd' h5 hb.symm h4
      · rw [if_neg hb]
        have hb':¬ n.lvl=b:=fun e=>hb e.symm
        rcases Nat.lt_or_ge 4 kind with h4 | h4
        · have:kind=5:=by omega
          subst this
          cases b
          · obtain ⟨F2,hc⟩:=rin_added_hi_f n F hn hr h1 hl5 Fr.zero hs k hN hd' h5 hb'
            exact ct false F2 hc
          · obtain ⟨F2,hc⟩:=rin_added_hi_t n F hn hr h1 hl5 Fr.zero hs k hN hd' h5 hb'
            exact ct true F2 hc
        · cases b
          · obtain ⟨F2,hc⟩:=rin_added_lo_f n F hn hr h1 hl5 Fr.zero hs kind k hN hd' h5 hb' h4
            exact ct false F2 hc
          · obtain ⟨F2,hc⟩:=rin_added_lo_t n F hn hr h1 hl5 Fr.zero hs kind k hN hd' h5 hb' h4
            exact ct true F2 hc
    · rw [if_neg h5]
      rcases Nat.lt_or_ge 4 kind with h4 | h4
      · have hcases:kind=5∨kind=6∨kind=7∨kind=8:=by omega
        rcases hcases with rfl | rfl | rfl | rfl
        · rw [if_neg (by simp)]
          cases b
          · rw [if_pos rfl,if_neg (by simp)]
            obtain ⟨F2,hc⟩:=rin_form5 n F hn hr h1 hl5 Fr.zero hs k hN hd' h5
            exact cf false _ F2 (fail_ksok n 7 true (by omega) (by omega)) (fail_keep n 7 true) hc
          · rw [if_neg (by simp),if_neg (by simp),if_neg (by simp),if_neg (by simp)]
            obtain ⟨F2,hc⟩:=rin_delim n F hn hr h1 hl5 Fr.zero hs k hN hd' h5
            exact ct true F2 hc
        · rw [if_pos (.inr rfl)]
          cases b
          · obtain ⟨F2,hc⟩:=rin_slot_t_f n F hn hr h1 hl5 Fr.zero hs k hN hd' h5
            exact ct false F2 hc
          · obtain ⟨F2,hc⟩:=rin_slot_t_t n F hn hr h1 hl5 Fr.zero hs k hN hd' h5
            exact ct true F2 hc
        · rw [if_neg (by simp)]
          cases b
          · rw [if_pos rfl,if_neg (by simp)]
            obtain ⟨F2,hc⟩:=rin_form7 n F hn hr h1 hl5 Fr.zero hs k hN hd' h5
            exact cf false _ F2 (fail_ksok n 7 true (by omega) (by omega)) (fail_keep n 7 true) hc
          · rw [if_neg (by simp)]
            cases hri2:rightF n.raw
            · rw [if_pos ⟨rfl,rfl⟩]
              obtain ⟨F2,hc⟩:=rin_sum n F hn hr h1 hl5 Fr.zero hs k hN hd' h5 hri2
              exact cf true _ F2 (fail_ksok n 6 true (by omega) (by omega)) (fail_keep n 6 true) hc
            · rw [if_neg (by simp),if_neg (by simp),if_neg (by simp)]
              obtain ⟨F2,hc⟩:=rin_ack n F hn hr h1 hl5 Fr.zero hs k hN hd' h5 hri2
              exact ct true F2 hc
        · rw [if_neg (by simp)]
          cases b
          · rw [if_pos rfl]
            by_cases hk6:k=6
            · subst hk6
              rw [if_pos rfl]
              obtain ⟨F2,hc⟩:=rin_over n F hn hr h1 hl5 Fr.zero hs 6 hN hd' h5 rfl
              exact cf false ([9],(overN n).2) F2 (.inr (.inl ⟨9,rfl⟩)) ⟨rfl,rfl,rfl,rfl⟩ hc
            · rw [if_neg (by simp [hk6])]
              obtain ⟨F2,hc⟩:=rin_form8 n F hn hr h1 hl5 Fr.zero hs k hN hd' h5 hk6
              exact cf false _ F2 (fail_ksok n 7 true (by omega) (by omega)) (fail_keep n 7 true) hc
          · rw [if_neg (by simp),if_neg (by simp)]
            by_cases hk5:k=5
            · subst hk5
              rw [if_pos rfl]
              obtain ⟨F2,hc⟩:=rin_end5 n F hn hr h1 hl5 Fr.zero hs 5 hN hd' h5 rfl h0
              exact take_stepW n F true h1 h2 _ F2 [2] _ (.inr (.inl ⟨2,rfl⟩)) (tk true).1 (tk true).2.1 (tk true).2.2.1 hc
            · rw [if_neg (by simp [hk5])]
              by_cases hk6:k=6
              · subst hk6
                rw [if_pos rfl]
                obtain ⟨F2,hc⟩:=rin_end6 n F hn hr h1 hl5 Fr.zero hs 6 hN hd' h5 rfl
                exact take_stepW n F true h1 h2 _ F2 [] _ (.inl rfl) (tk true).1 (tk true).2.1 (tk true).2.2.1 hc
              · rw [if_neg (by simp [hk6])]
                obtain ⟨F2,hc⟩:=rin_endx n F hn hr h1 hl5 Fr.zero hs k hN hd' h5 hk6 hk5
                exact ct true F2 hc
      · rw [if_pos (.inl h4)]
        cases b
        · obtain ⟨F2,hc⟩:=rin_low_f n F hn hr h1 hl5 Fr.zero hs kind k hN hd' h5 h4
          exact ct false F2 hc
        · obtain ⟨F2,hc⟩:=rin_low_t n F hn hr h1 hl5 Fr.zero hs kind k hN hd' h5 h4
          exact ct true F2 hc
theorem nstep_specW (n:Nd) (F:Fl) (hI:n.Inv) (hk:n.k≤1000000000) (b:Bool):StepsToW n F b (nxN n b) (evN n b):=by
  by_cases h2:n.mode=2
  · cases hs:n.sends
    · exact in_recvsW n F hI h2 hs b
    · exact in_sendsW n F hI h2 hs b
  · exact out_stepW n F hI hk b h2
end Go.AM.R1
open Go Go.AM
namespace Go.AM.R1
/-! ### A clone -/
theorem iclone_nil (fu:Bool):call E (.func (.func 41) [] []) [.imm true fu true []] []=some (nilS,[]):=by
  rw [call_func E E41]
  simp [go_sem,ir41,nilS]
theorem iclone_spec (l:List Bool) (h0:¬ l=[]) (hl:l.length≤1000000000) (fu:Bool):∃ fu',call E (.func (.func 41) [] []) [.imm false fu true (l.map encLv)] []=some (.own 0 l.length 1 0 l.length,[.arr true false fu' 1 (l.map encLv)]):=by
  have hr:=rowsLv l
  have hb:¬ 70368744177664<l.length * 8:=by omega
  refine ⟨false,?_⟩
  rw [call_func E E41]
  simp [go_sem,ir41,hr,hb,h0,purse_eq,List.range_succ]
def cqI (n:Nd):Nat:=if n.raw=[] then mI n+1 else mI n+2
def clE (n:Nd) (fu1 fu2:Bool):Heap:=.box (n.cells (if n.raw=[] then nilS else .own (mI n+1) n.raw.length 1 0 n.raw.length) (.ptr (cqI n) 0) (wV n))::((if n.raw=[] then [] else [.arr true false fu1 1 (n.raw.map encLv)])++.box [if n.nq=true then nilS else .own (cqI n+1) n.q.length 12 0 n.q.length,.lit (.int .i64 16)]::(if n.nq=true then [] else [.arr true false fu2 12 (n.q.map encFr)]))
set_option maxHeartbeats 8000000 in
theorem nclone_spec (n:Nd) (F:Fl) (hn:n.Ok) (hr:n.raw.length≤1000000000):∃ F' fu1 fu2,call E (.func (.func 27) [] []) [.ptr 0 0] (ndH n F)=some (.ptr (mI n) 0,ndH n F'++clE n fu1 fu2):=by
  have hq0:=quClone_nil F.fq
  obtain ⟨fu2,hq⟩:=quClone_spec F.fq n.q (by have:=hn.ql;omega)
  have hi0:=iclone_nil
  have hir:¬ n.raw=[]→∀ fu,∃fu',call E (.func (.func 41) [] []) [.imm false fu true (n.raw.map encLv)] []=some (.own 0 n.raw.length 1 0 n.raw.length,[.arr true false fu' 1 (n.raw.map encLv)]):=fun h fu=>iclone_spec n.raw h hr fu
  rw [call_func E E27]
  by_cases h1:n.raw=[]
  · by_cases h2:n.nq=true
    · have hqn:=hn.nq h2
      refine ⟨F,false,false,?_⟩
      by_cases h3:n.row=[] <;>
      simp [quH,nilS] at hq0 hi0 <;>
      simp [go_sem,ir27,ndH,clE,cqI,rV,qI,qV,wI,wV,rE,qE,wE,Nd.cells,nilS,mI,h1,h2,h3,hq0,hi0,purse_eq,List.range_succ]
    · have h2:n.nq=false:=by simpa using h2
      refine ⟨F,false,fu2,?_⟩
      by_cases h3:n.row=[] <;>
      simp [quH,nilS] at hq hi0 <;>
      simp [go_sem,ir27,ndH,clE,cqI,rV,qI,qV,wI,wV,rE,qE,wE,Nd.cells,nilS,mI,h1,h2,h3,hq,hi0,purse_eq,List.range_succ]
  · obtain ⟨fu1,hi⟩:=hir h1 F.fr
    by_cases h2:n.nq=true
    · have hqn:=hn.nq h2
      refine ⟨F.lock,fu1,false,?_⟩
      by_cases h3:n.row=[] <;>
      simp [quH,nilS] at hq0 hi <;>
      simp [go_sem,ir27,ndH,clE,cqI,rV,qI,qV,wI,wV,rE,qE,wE,Nd.cells,Fl.lock,nilS,mI,h1,h2,h3,hq0,hi,purse_eq,List.range_succ]
    · have h2:n.nq=false:=by simpa using h2
      refine ⟨F.lock,fu1,fu2,?_⟩
      by_cases h3:n.row=[] <;>
      simp [quH,nilS] at hq hi <;>
      simp [go_sem,ir27,ndH,clE,cqI,rV,qI,qV,wI,wV,rE,qE,wE,Nd.cells,Fl.lock,nilS,mI,h1,h2,h3,hq,hi,purse_eq,List.range_succ]
end Go.AM.R1
open Go Go.AM
namespace Go.AM.R1
/-! ### Nodes that share a row -/
theorem reach_seen {H:Heap} {k i:Nat} {w acc:List Nat} (hi:i∈acc):reach H (k+1) (i::w) acc=reach H k w acc:=by
  rw [reach_cons,if_pos hi]
theorem reach_nodeS {H:Heap} {a:Nat} {n:Nd} {fs:List Nat} {wx:Nat} (h0:NodeAtW H a n fs wx) (k:Nat) (w acc:List Nat) (hd:∀ i∈fs,i∈acc→n.row≠[]∧i=wx) :
    ∃ L,reach H (k+fs.length) (a::w) acc=reach H k w (acc++L)∧(∀ i∈fs,i∈acc++L)∧(∀ i∈L,i∈fs):=by
  by_cases hcase:n.row≠[]∧wx∈acc
  · obtain ⟨hrow,hwacc⟩:=hcase
    obtain ⟨F,rx,qx,lx,h,rfl⟩:=h0
    have hnd:=h.nd
    have rb:refsE (.box (n.cells (rAt n rx) (.ptr qx 0) (wAt n wx)))=refsV (rAt n rx)++[qx]++refsV (wAt n wx):=by
      simp [refsE,Nd.cells,refsL,refsV]
    have rq:refsE (.box [lAt n lx,.lit (.int .i64 16)])=refsV (lAt n lx):=by simp [refsE,refsL,refsV]
    rw [refs_rAt,refs_wAt,if_neg hrow] at rb
    rw [refs_lAt] at rq
    have hr:=reach_opt (H:=H) (n.raw=[]) (x:=rx) (fun q=>⟨_,_,_,_,h.raw q⟩)
    have hl:=reach_opt (H:=H) (n.nq=true) (x:=lx) (fun q=>⟨_,_,_,_,h.q (by simpa using q)⟩)
    have mr:¬ n.raw=[]→rx∈(if n.raw=[] then [] else [rx]):=fun q=>by simp [q]
    have ml:¬ n.nq=true→lx∈(if n.nq=true then [] else [lx]):=fun q=>by rw [if_neg q];simp
    unfold footL at hnd hd ⊢
    rw [if_neg hrow] at hnd hd ⊢
    generalize (if n.raw=[] then ([]:List Nat) else [rx])=R at *
    generalize (if n.nq=true then ([]:List Nat) else [lx])=L at *
    simp only [List.nodup_cons,List.nodup_append,List.mem_append,List.mem_cons,not_or,List.not_mem_nil,or_false] at hnd
    obtain ⟨⟨a1,a2,a3,a4⟩,b1,⟨⟨c1,c2⟩,c3,c4,c5⟩,b2⟩:=hnd
    have na:∀ i,i∈a::(R++qx::(L++[wx]))→i≠wx→i ∉ acc:=fun i hi hne hm=>hne (hd i hi hm).2
    have hwR:∀ i∈R,i≠wx:=fun i hi=>b2 i hi wx (by simp)
    have hwL:∀ i∈L,i≠wx:=fun i hi=>c5 i hi wx rfl
    refine ⟨a::(R++qx::L),?_,?_,?_⟩
    · have e:k+(a::(R++qx::(L++[wx]))).length=(k+1+L.length+1+R.length)+1:=by simp;omega
      rw [e,reach_step (na a (by simp) a4) h.box,rb,List.append_assoc,List.append_assoc,hr _ _ _ (fun q=>?_),List.singleton_append,reach_step ?_ h.qu,rq,hl _ _ _ (fun q=>?_),List.singleton_append,reach_seen (by simp [hwacc])]
      · simp
      · have m:=ml q
        have:=na lx (by simp [m]) (hwL lx m)
        simp only [List.mem_append,List.mem_singleton,not_or]
        exact ⟨⟨⟨this,fun e=>a3 (e ▸ m)⟩,fun e=>b2 _ e _ (by simp [m]) rfl⟩,fun e=>c1 (e ▸ m)⟩
      · have:=na qx (by simp) c2
        simp only [List.mem_append,List.mem_singleton,not_or]
        exact ⟨⟨this,fun e=>a2 e.symm⟩,fun e=>b2 _ e _ (by simp) rfl⟩
      · have m:=mr q
        have:=na rx (by simp [m]) (hwR rx m)
        simp only [List.mem_append,List.mem_singleton,not_or]
        exact ⟨this,fun e=>a1 (e ▸ m)⟩
    · intro i hi
      simp only [List.mem_cons,List.mem_append,List.not_mem_nil,or_false] at hi ⊢
      rcases hi with q | q | q | q | q
      · exact .inr (.inl q)
      · exact .inr (.inr (.inl q))
      · exact .inr (.inr (.inr (.inl q)))
      · exact .inr (.inr (.inr (.inr q)))
      · rw [q];exact .inl hwacc
    · intro i hi
      simp only [List.mem_cons,List.mem_append,List.not_mem_nil,or_false] at hi ⊢
      rcases hi with q | q | q | q
      · exact .inl q
      · exact .inr (.inl q)
      · exact .inr (.inr (.inl q))
      · exact .inr (.inr (.inr (.inl q)))
  · refine ⟨fs,reach_node h0.at k w acc (fun i hi hm=>?_),fun i hi=>List.mem_append_right _ hi,fun i hi=>hi⟩
    obtain ⟨q1,q2⟩:=hd i hi hm
    exact hcase ⟨q1,q2 ▸ hm⟩
/-- It lies as it did, if what it has does, but for how its row is marked. -/
theorem nodeAtW_same {H H2:Heap} {a:Nat} {n:Nd} {fs:List Nat} {wx:Nat} (h:NodeAtW H a n fs wx) (hs:∀ i∈fs,(n.row=[]∨i≠wx)→H2[i]?=H[i]?) (hw:n.row≠[]→∃ lw fw,H2[wx]?=some (.arr true lw fw 1 (n.row.map encLv))):NodeAtW H2 a n fs wx:=by
  obtain ⟨F,rx,qx,lx,h,rfl⟩:=h
  have hnd:=h.nd
  by_cases h3:n.row=[]
  · refine ⟨F,rx,qx,lx,⟨?_,?_,?_,?_,fun q=>absurd h3 q,h.nd⟩,rfl⟩
    · rw [hs a (by simp [footL]) (.inl h3)];exact h.box
    · intro h1;rw [hs rx (by simp [footL,h1]) (.inl h3)];exact h.raw h1
    · rw [hs qx (by simp [footL]) (.inl h3)];exact h.qu
    · intro h1;rw [hs lx (by simp [footL,h1]) (.inl h3)];exact h.q h1
  · obtain ⟨lw,fw,hw⟩:=hw h3
    have hne:∀ i∈a::((if n.raw=[] then [] else [rx])++qx::(if n.nq=true then [] else [lx])),i≠wx:=by
      unfold footL at hnd
      rw [if_neg h3] at hnd
      intro i hi
      have hnd2:((a::((if n.raw=[] then [] else [rx])++qx::(if n.nq=true then [] else [lx])))++[wx]).Nodup:=by simpa using hnd
      exact (List.nodup_append.1 hnd2).2.2 i hi wx (by simp)
    refine ⟨{ F with lw:=lw,fw:=fw },rx,qx,lx,⟨?_,?_,?_,?_,fun _=>hw,h.nd⟩,rfl⟩
    · rw [hs a (by simp [footL]) (.inr (hne a (by simp)))];exact h.box
    · intro h1;rw [hs rx (by simp [footL,h1]) (.inr (hne rx (by simp [h1])))];exact h.raw h1
    · rw [hs qx (by simp [footL]) (.inr (hne qx (by simp)))];exact h.qu
    · intro h1;rw [hs lx (by simp [footL,h1]) (.inr (hne lx (by simp [h1])))];exact h.q h1
theorem NodeAtW.row {H:Heap} {a:Nat} {n:Nd} {fs:List Nat} {wx:Nat} (h:NodeAtW H a n fs wx) (h3:n.row≠[]):(∃ lw fw,H[wx]?=some (.arr true lw fw 1 (n.row.map encLv)))∧wx∈fs:=by
  obtain ⟨F,rx,qx,lx,h,rfl⟩:=h
  exact ⟨⟨_,_,h.row h3⟩,by simp [footL,h3]⟩
theorem NodeAtW.any {H:Heap} {a:Nat} {n:Nd} {fs:List Nat} {wx:Nat} (h:NodeAtW H a n fs wx) (h3:n.row=[]) (v:Nat):NodeAtW H a n fs v:=by
  obtain ⟨F,rx,qx,lx,h,rfl⟩:=h
  have hf:footL n a rx qx lx wx=footL n a rx qx lx v:=by simp [footL,h3]
  refine ⟨F,rx,qx,lx,⟨?_,h.raw,h.qu,h.q,fun q=>absurd h3 q,hf ▸ h.nd⟩,hf⟩
  have:=h.box
  rwa [show wAt n wx=wAt n v by simp [wAt,h3]] at this
/-- What two nodes have both is the row of both. -/
def Sh (n:Nd) (w:Nat) (fs:List Nat) (m:Nd) (v:Nat) (gs:List Nat):Prop:=∀ i∈fs,i∈gs→n.row≠[]∧i=w∧m.row=n.row∧v=w
theorem Sh.symm {n m:Nd} {w v:Nat} {fs gs:List Nat} (h:Sh n w fs m v gs):Sh m v gs n w fs:=by
  intro i h1 h2
  obtain ⟨q1,q2,q3,q4⟩:=h i h2 h1
  exact ⟨q3 ▸ q1,by rw [q2,q4],q3.symm,q4.symm⟩
theorem sh_call {H H2:Heap} {a w v v2:Nat} {n m m2:Nd} {fs gs gs2:List Nat} (h:NodeAtW H a n fs w) (s:Sh n w fs m v gs) (ar:Around H H2 gs gs2) (kp:RowKept m v H2 m2 gs2 v2):NodeAtW H2 a n fs w∧Sh n w fs m2 v2 gs2:=by
  have hlt:=nodeAt_lt h.at
  constructor
  · refine nodeAtW_same h (fun i hi hne=>ar.same i (hlt i hi) fun hg=>?_) (fun h3=>?_)
    · obtain ⟨q1,q2,-,-⟩:=s i hi hg
      rcases hne with q | q
      · exact q1 q
      · exact q q2
    · obtain ⟨⟨lw,fw,hr⟩,hm⟩:=h.row h3
      by_cases hg:w∈gs
      · obtain ⟨-,-,q3,q4⟩:=s w hm hg
        obtain ⟨⟨lw',fw',hk⟩,-⟩:=kp (q3 ▸ h3)
        rw [q4,q3] at hk
        exact ⟨lw',fw',hk⟩
      · exact ⟨lw,fw,by rw [ar.same w (hlt w hm) hg];exact hr⟩
  · intro i hi hg2
    have hil:=hlt i hi
    rcases ar.new i hg2 with hg | hg
    · obtain ⟨q1,q2,q3,q4⟩:=s i hi hg
      obtain ⟨-,hk⟩:=kp (q3 ▸ q1)
      obtain ⟨k1,k2⟩:=hk (by rw [q4,← q2];exact hg2)
      exact ⟨q1,q2,k1.trans q3,k2.trans q4⟩
    · omega
theorem glob_w {H:Heap} {a:Nat} {n:Nd} {fs:List Nat} {wx:Nat} (h:NodeAtW H a n fs wx) (h3:n.row≠[]) (N:Nat):toGlob fs N (wI n)=wx:=by
  obtain ⟨F,rx,qx,lx,h,rfl⟩:=h
  by_cases h1:n.raw=[]<;>by_cases h2:n.nq=true <;>
  simp [toGlob,footL,wI,qI,h1,h2,h3]
theorem at_backW {H:Heap} {a:Nat} {n:Nd} {fs:List Nat} {wx:Nat} (h:NodeAtW H a n fs wx) {Hn:Heap} (hk:fs.length≤Hn.length) {b:Nat} {m:Nd} {gs:List Nat} {w':Nat} (hm:NodeAtW Hn b m gs w'):NodeAtW (backH H fs Hn) (toGlob fs H.length b) m (gs.map (toGlob fs H.length)) (toGlob fs H.length w'):=by
  obtain ⟨F,rx,qx,lx,h0,rfl⟩:=hm
  have hm:NodeAt Hn b m (footL m b rx qx lx w'):=⟨F,rx,qx,lx,w',h0,rfl⟩
  have G:=fun {j e}=>back_get (H:=H) (Hn:=Hn) (nodeAt_nodup h.at) (nodeAt_lt h.at) hk (j:=j) (e:=e)
  have hinj:=fun {i j}=>glob_inj (H:=H) (nodeAt_nodup h.at) (nodeAt_lt h.at) (i:=i) (j:=j)
  have h:=h0
  generalize toGlob fs H.length=g at G hinj ⊢
  have e1:∀ x,renV g (rAt m x)=rAt m (g x):=fun x=>by unfold rAt;split<;>rfl
  have e2:∀ x,renV g (wAt m x)=wAt m (g x):=fun x=>by unfold wAt;split<;>rfl
  have e3:∀ x,renV g (lAt m x)=lAt m (g x):=fun x=>by unfold lAt;split<;>rfl
  have e4:(footL m b rx qx lx w').map g=footL m (g b) (g rx) (g qx) (g lx) (g w'):=by
    unfold footL
    by_cases h1:m.raw=[]<;>by_cases h2:m.nq=true<;>by_cases h3:m.row=[]<;>simp [h1,h2,h3]
  refine ⟨F,g rx,g qx,g lx,⟨?_,?_,?_,?_,?_,?_⟩,e4⟩
  · rw [G h.box];simp [renE,Nd.cells,renL,renV,e1,e2]
  · intro q;rw [G (h.raw q)];simp [renE]
  · rw [G h.qu];simp [renE,renL,renV,e3]
  · intro q;rw [G (h.q q)];simp [renE]
  · intro q;rw [G (h.row q)];simp [renE]
  · rw [← e4]
    exact h.nd.map g (fun i j hij e=>hij (hinj e))
theorem kept_back {H:Heap} {a:Nat} {n:Nd} {fs:List Nat} {wx:Nat} (h:NodeAtW H a n fs wx) {Hn:Heap} (hk:fs.length≤Hn.length) {m:Nd} {gs:List Nat} {w':Nat} (kp:RowKept n (wI n) Hn m gs w'):RowKept n wx (backH H fs Hn) m (gs.map (toGlob fs H.length)) (toGlob fs H.length w'):=by
  intro h3
  obtain ⟨⟨lw,fw,h1⟩,h2⟩:=kp h3
  have hg:=glob_w h h3 H.length
  refine ⟨⟨lw,fw,?_⟩,fun hm=>?_⟩
  · have:=back_get (H:=H) (nodeAt_nodup h.at) (nodeAt_lt h.at) hk h1
    rw [hg] at this
    rw [this];simp [renE]
  · obtain ⟨j,hj,e⟩:=List.mem_map.1 hm
    rw [← hg] at e
    have:=glob_inj (nodeAt_nodup h.at) (nodeAt_lt h.at) e
    subst this
    obtain ⟨k1,k2⟩:=h2 hj
    exact ⟨k1,by rw [k2];exact hg⟩
/-! ### The calls -/
theorem step_atW {H:Heap} {a:Nat} {n:Nd} {fs:List Nat} {w:Nat} (h:NodeAtW H a n fs w) (hI:n.Inv) (hk:n.k≤1000000000) (b:Bool) :
    ∃ H2 fs2 ix w2,callK1 (call E) H (some (.func (.func 17) [] [],[])) (some ([.ptr a 0,.lit (.int .i64 (lv b))],[]))=some (.tup [evV ix (evN n b),.lit (.int .i64 0)],H2)∧NodeAtW H2 a (nxN n b) fs2 w2∧Around H H2 fs fs2 ∧
      (evN n b≠[]→H2[ix]?=some (.arr true false false 15 ((evN n b).map encEv))∧H.length≤ix∧ix ∉ fs2)∧RowKept n w H2 (nxN n b) fs2 w2:=by
  obtain ⟨v,Hn,h1,v0,rfl,gs,ix,wx,h2,h3,rfl,h4,h5⟩:=call_back (c:=call E) h.at (.func (.func 17) [] []) [.lit (.int .i64 (lv b))] rfl rfl (P:=fun v Hn=>∃ v0,v=.tup [v0,.lit (.int .i64 0)]∧LiesW Hn n (nxN n b) (mI n) (evN n b) v0) (fun F=>by
    obtain ⟨Hn,v,e,q⟩:=nstep_specW n F hI hk b
    exact ⟨_,_,e,v,rfl,q⟩)
  have hl:=nodeAt_fl h.at
  have hkk:fs.length≤Hn.length:=by rw [hl];exact h3
  have hn2:=at_backW h hkk h2
  rw [glob_zero h.at] at hn2
  refine ⟨_,_,toGlob fs H.length ix,_,?_,hn2,around_back h.at hkk gs,fun he=>?_,kept_back h hkk h5⟩
  · rw [h1]
    simp only [renV,renL]
    congr 4
    unfold evV
    split<;>rfl
  · obtain ⟨q1,q2,q3⟩:=h4 he
    refine ⟨?_,by rw [glob_new (by omega)];omega,fun hm=>?_⟩
    · rw [back_get (nodeAt_nodup h.at) (nodeAt_lt h.at) hkk q1];simp [renE]
    · obtain ⟨j,hj,e⟩:=List.mem_map.1 hm
      have:=glob_inj (nodeAt_nodup h.at) (nodeAt_lt h.at) e
      exact q3 (this ▸ hj)
/-- A call that leaves the node as it was. -/
theorem same_back {H:Heap} {a:Nat} {n:Nd} {fs:List Nat} {w:Nat} (h:NodeAtW H a n fs w) {F:Fl} {X:Heap}:NodeAtW (backH H fs (ndH n F++X)) a n fs w∧Around H (backH H fs (ndH n F++X)) fs fs∧RowKept n w (backH H fs (ndH n F++X)) n fs w:=by
  have hl:=nodeAt_fl h.at
  have hk:fs.length≤(ndH n F++X).length:=by rw [List.length_append,ndH_len];omega
  have h1:=at_backW h hk (nodeAt_canW n F X)
  have h2:=around_back h.at hk (List.range (mI n))
  have h3:=kept_back h hk (kept_can (n:=n) (n':=n) (F:=F) (X:=X) (gs:=List.range (mI n)) Iff.rfl rfl rfl)
  rw [glob_zero h.at] at h1
  rw [← hl,map_glob] at h1 h2 h3
  by_cases hrow:n.row=[]
  · exact ⟨h1.any hrow w,h2,fun q=>absurd hrow q⟩
  · rw [glob_w h hrow] at h1 h3
    exact ⟨h1,h2,h3⟩
theorem drive_atW {H:Heap} {a:Nat} {n:Nd} {fs:List Nat} {w:Nat} (h:NodeAtW H a n fs w) (hI:n.Inv) :
    ∃ H2,callK1 (call E) H (some (.func (.func 16) [] [],[])) (some ([.ptr a 0],[]))=some (.lit (.int .i64 (lv (drN n))),H2)∧NodeAtW H2 a n fs w∧Around H H2 fs fs∧RowKept n w H2 n fs w:=by
  obtain ⟨v,Hn,h1,F2,rfl,rfl⟩:=call_back (c:=call E) h.at (.func (.func 16) [] []) [] rfl rfl (P:=fun v Hn=>∃ F2,v=.lit (.int .i64 (lv (drN n)))∧Hn=ndH n F2++[]) (fun F=>by
    obtain ⟨F2,e⟩:=ndrive_spec n F hI
    exact ⟨_,_,e,F2,rfl,by rw [List.append_nil]⟩)
  exact ⟨_,h1,same_back h⟩
theorem look_atW {H:Heap} {a:Nat} {n:Nd} {fs:List Nat} {w:Nat} (h:NodeAtW H a n fs w) (hn:n.Ok) :
    ∃ H2,callK1 (call E) H (some (.func (.func 18) [] [],[])) (some ([.ptr a 0],[]))=some (.agg (lookC n),H2)∧NodeAtW H2 a n fs w∧Around H H2 fs fs∧RowKept n w H2 n fs w:=by
  obtain ⟨v,Hn,h1,F2,rfl,rfl⟩:=call_back (c:=call E) h.at (.func (.func 18) [] []) [] rfl rfl (P:=fun v Hn=>∃ F2,v=.agg (lookC n)∧Hn=ndH n F2++[]) (fun F =>
    ⟨_,_,nlook_spec n F hn,F,rfl,by rw [List.append_nil]⟩)
  refine ⟨_,?_,same_back h (F:=F2) (X:=[])⟩
  rw [h1]
  simp [renV,renL,lookC]
end Go.AM.R1
open Go Go.AM
namespace Go.AM.R1
/-! ### Put, Clone, Queue, where a row is shared -/
theorem nput_specW (n:Nd) (F:Fl) (hn:n.Ok) (f:Fr):∃ Hn gs wx,call E (.func (.func 21) [] []) [.ptr 0 0,.agg (encFr f)] (ndH n F)=some (.lit (.int .i64 (nputN n f).1),Hn)∧NodeAtW Hn 0 (nputN n f).2 gs wx∧mI n≤Hn.length∧RowKept n (wI n) Hn (nputN n f).2 gs wx:=by
  have hl:n.q.length≤1000:=by have:=hn.ql;omega
  have hp:=quPut_spec n.nq F.fq f n.q hn.nq hl
  unfold nputN
  by_cases hc:checkP f≠0
  · rw [if_pos hc] at hp ⊢
    refine ⟨ndH n F++[],_,_,?_,nodeAt_canW n F [],by rw [List.append_nil,ndH_len];omega,kept_can Iff.rfl rfl rfl⟩
    rw [List.append_nil]
    rw [call_func E E21]
    by_cases h1:n.raw=[]<;>by_cases hq:n.nq=true<;>by_cases h3:n.row=[] <;>
    simp [ndH,rV,qI,qV,wI,wV,rE,qE,wE,Nd.cells,nilS,quH,encFr,u8v,h1,hq,h3] at hp <;>
    simp [go_sem,ir21,ndH,rV,qI,qV,wI,wV,rE,qE,wE,Nd.cells,nilS,encFr,u8v,h1,hq,h3,hp,purse_eq,List.range_succ]
  · rw [if_neg hc] at hp ⊢
    by_cases h16:16≤n.q.length
    · rw [if_pos h16] at hp ⊢
      refine ⟨ndH n F++[],_,_,?_,nodeAt_canW n F [],by rw [List.append_nil,ndH_len];omega,kept_can Iff.rfl rfl rfl⟩
      rw [List.append_nil]
      rw [call_func E E21]
      by_cases h1:n.raw=[]<;>by_cases hq:n.nq=true<;>by_cases h3:n.row=[] <;>
      simp [ndH,rV,qI,qV,wI,wV,rE,qE,wE,Nd.cells,nilS,quH,encFr,u8v,h1,hq,h3] at hp <;>
      simp [go_sem,ir21,ndH,rV,qI,qV,wI,wV,rE,qE,wE,Nd.cells,nilS,encFr,u8v,h1,hq,h3,hp,purse_eq,List.range_succ]
    · rw [if_neg h16] at hp ⊢
      have hil:=insP_len f n.q
      by_cases hq:n.nq=true
      · have hq0:=hn.nq hq
        have hi1:insP f []=[f]:=rfl
        refine ⟨.box (n.cells (rV n) (.ptr (qI n) 0) (wV n))::(rE n F++.box [.own (mI n) 1 12 0 1,.lit (.int .i64 16)]::(qE n F++wE n F))++[.arr true false false 12 [encFr f]],footL { n with q:=insP f n.q,nq:=false } 0 1 (qI n) (mI n) (wI n),wI n,?_,⟨{ F with fq:=false },1,qI n,mI n,⟨?_,?_,?_,?_,?_,?_⟩,rfl⟩,?_,fun h3=>⟨⟨F.lw,F.fw,?_⟩,fun _=>⟨rfl,rfl⟩⟩⟩
        · rw [call_func E E21]
          by_cases h1:n.raw=[]<;>by_cases h3:n.row=[] <;>
          simp [ndH,rV,qI,qV,wI,wV,rE,qE,wE,Nd.cells,nilS,quH,putH,encFr,u8v,h1,hq,h3,hq0] at hp <;>
          simp [go_sem,ir21,ndH,rV,qI,qV,wI,wV,rE,qE,wE,Nd.cells,nilS,mI,encFr,u8v,h1,hq,h3,hq0,hp,purse_eq,List.range_succ]
        case refine_9=>by_cases h1:n.raw=[]<;>simp [ndH,rV,qI,qV,wI,wV,rE,qE,wE,Nd.cells,nilS,mI,footL,rAt,lAt,wAt,h1,hq,h3,hq0,hi1]
        all_goals (by_cases h1:n.raw=[]<;>by_cases h3:n.row=[]<;>simp [ndH,rV,qI,qV,wI,wV,rE,qE,wE,Nd.cells,nilS,mI,footL,rAt,lAt,wAt,h1,hq,h3,hq0,hi1])
      · have hq:n.nq=false:=by simpa using hq
        refine ⟨.box (n.cells (rV n) (.ptr (qI n) 0) (wV n))::(rE n F++.box [.own (mI n) (n.q.length+1) 12 0 (n.q.length+1),.lit (.int .i64 16)]::(.dead::wE n F))++[.arr true false false 12 ((insP f n.q).map encFr)],footL { n with q:=insP f n.q,nq:=false } 0 1 (qI n) (mI n) (wI n),wI n,?_,⟨{ F with fq:=false },1,qI n,mI n,⟨?_,?_,?_,?_,?_,?_⟩,rfl⟩,?_,fun h3=>⟨⟨F.lw,F.fw,?_⟩,fun _=>⟨rfl,rfl⟩⟩⟩
        · have hrows:=frRows (insP f n.q)
          unfold putH at hp
          generalize (insP f n.q).map encFr=rows at hp ⊢
          rw [call_func E E21]
          by_cases h1:n.raw=[]<;>by_cases h3:n.row=[] <;>
          simp [ndH,rV,qI,qV,wI,wV,rE,qE,wE,Nd.cells,nilS,quH,encFr,u8v,h1,hq,h3] at hp <;>
          simp [go_sem,ir21,ndH,rV,qI,qV,wI,wV,rE,qE,wE,Nd.cells,nilS,mI,encFr,u8v,h1,hq,h3,hp,purse_eq,List.range_succ]
        case refine_9=>by_cases h1:n.raw=[]<;>simp [ndH,rV,qI,qV,wI,wV,rE,qE,wE,Nd.cells,nilS,mI,footL,rAt,lAt,wAt,h1,hq,h3,hil]
        all_goals (by_cases h1:n.raw=[]<;>by_cases h3:n.row=[]<;>simp [ndH,rV,qI,qV,wI,wV,rE,qE,wE,Nd.cells,nilS,mI,footL,rAt,lAt,wAt,h1,hq,h3,hil])
theorem put_atW {H:Heap} {a:Nat} {n:Nd} {fs:List Nat} {w:Nat} (h:NodeAtW H a n fs w) (hn:n.Ok) (f:Fr) :
    ∃ H2 fs2 w2,callK1 (call E) H (some (.func (.func 21) [] [],[])) (some ([.ptr a 0,.agg (encFr f)],[]))=some (.lit (.int .i64 (nputN n f).1),H2)∧NodeAtW H2 a (nputN n f).2 fs2 w2∧Around H H2 fs fs2∧RowKept n w H2 (nputN n f).2 fs2 w2:=by
  obtain ⟨v,Hn,h1,gs,wx,rfl,h2,h3,h4⟩:=call_back (c:=call E) h.at (.func (.func 21) [] []) [.agg (encFr f)] rfl (by simp [flatL,flatV,encFr,u8v]) (P:=fun v Hn=>∃ gs wx,v=.lit (.int .i64 (nputN n f).1)∧NodeAtW Hn 0 (nputN n f).2 gs wx∧mI n≤Hn.length∧RowKept n (wI n) Hn (nputN n f).2 gs wx) (fun F=>by
    obtain ⟨Hn,gs,wx,e,q1,q2,q3⟩:=nput_specW n F hn f
    exact ⟨_,_,e,gs,wx,rfl,q1,q2,q3⟩)
  have hk:fs.length≤Hn.length:=by rw [nodeAt_fl h.at];exact h3
  have hn2:=at_backW h hk h2
  rw [glob_zero h.at] at hn2
  exact ⟨_,_,_,h1,hn2,around_back h.at hk gs,kept_back h hk h4⟩
theorem queue_atW {H:Heap} {a:Nat} {n:Nd} {fs:List Nat} {w:Nat} (h:NodeAtW H a n fs w) (hn:n.Ok) :
    ∃ H2 fu,callK1 (call E) H (some (.func (.func 25) [] [],[])) (some ([.ptr a 0],[]))=some (if n.nq=true then nilS else .own H.length n.q.length 12 0 n.q.length,H2)∧NodeAtW H2 a n fs w∧Around H H2 fs fs∧RowKept n w H2 n fs w∧(n.nq=false→H2[H.length]?=some (.arr true false fu 12 (n.q.map encFr))∧H2.length=H.length+1):=by
  obtain ⟨v,Hn,h1,F,fu,rfl,rfl⟩:=call_back (c:=call E) h.at (.func (.func 25) [] []) [] rfl rfl (P:=fun v Hn=>∃ F fu,v=(if n.nq=true then nilS else .own (mI n) n.q.length 12 0 n.q.length)∧Hn=ndH n F++if n.nq=true then [] else [.arr true false fu 12 (n.q.map encFr)]) (fun F=>by
    obtain ⟨fu,e⟩:=nqueue_spec n F hn
    exact ⟨_,_,e,F,fu,rfl,rfl⟩)
  have hl:=nodeAt_fl h.at
  have hc:=same_back h (F:=F) (X:=if n.nq=true then [] else [.arr true false fu 12 (n.q.map encFr)])
  have hg:toGlob fs H.length (mI n)=H.length:=by rw [glob_new (by omega),hl];omega
  refine ⟨_,fu,?_,hc.1,hc.2.1,hc.2.2,fun q=>?_⟩
  · rw [h1]
    split
    · rfl
    · simp only [renV,hg]
  · have hk:fs.length≤(ndH n F++if n.nq=true then [] else [Entry.arr true false fu 12 (n.q.map encFr)]).length:=by rw [List.length_append,ndH_len];omega
    rw [if_neg (by rw [q];simp)] at hk ⊢
    refine ⟨?_,by rw [back_len,List.length_append,ndH_len,hl];simp⟩
    have:=back_get (H:=H) (nodeAt_nodup h.at) (nodeAt_lt h.at) hk (j:=mI n) (e:=Entry.arr true false fu 12 (n.q.map encFr)) (by rw [List.getElem?_append_right (by rw [ndH_len];omega),ndH_len];simp)
    rw [hg] at this
    rw [this];simp [renE]
theorem clE_at (n:Nd) (F:Fl) (fu1 fu2:Bool):NodeAtW (ndH n F++clE n fu1 fu2) (mI n) n (footL n (mI n) (mI n+1) (cqI n) (cqI n+1) (wI n)) (wI n):=by
  refine ⟨⟨false,fu1,fu2,F.lw,F.fw⟩,mI n+1,cqI n,cqI n+1,⟨?_,?_,?_,?_,?_,?_⟩,rfl⟩ <;>
  by_cases h1:n.raw=[]<;>by_cases h2:n.nq=true<;>by_cases h3:n.row=[] <;>
  simp [ndH,clE,cqI,rV,qI,qV,wI,wV,rE,qE,wE,Nd.cells,nilS,mI,footL,rAt,lAt,wAt,h1,h2,h3]
theorem clone_atW {H:Heap} {a:Nat} {n:Nd} {fs:List Nat} {w:Nat} (h:NodeAtW H a n fs w) (hn:n.Ok) (hr:n.raw.length≤1000000000) :
    ∃ H2 b gs,callK1 (call E) H (some (.func (.func 27) [] [],[])) (some ([.ptr a 0],[]))=some (.ptr b 0,H2)∧NodeAtW H2 a n fs w∧NodeAtW H2 b n gs w∧Around H H2 fs fs∧RowKept n w H2 n fs w∧H.length≤b∧∀ i∈gs,i<H.length→n.row≠[]∧i=w:=by
  obtain ⟨v,Hn,h1,F,fu1,fu2,rfl,rfl⟩:=call_back (c:=call E) h.at (.func (.func 27) [] []) [] rfl rfl (P:=fun v Hn=>∃ F fu1 fu2,v=.ptr (mI n) 0∧Hn=ndH n F++clE n fu1 fu2) (fun F=>by
    obtain ⟨F',fu1,fu2,e⟩:=nclone_spec n F hn hr
    exact ⟨_,_,e,F',fu1,fu2,rfl,rfl⟩)
  have hl:=nodeAt_fl h.at
  have hk:fs.length≤(ndH n F++clE n fu1 fu2).length:=by rw [List.length_append,ndH_len];omega
  have hc:=same_back h (F:=F) (X:=clE n fu1 fu2)
  have hb:=at_backW h hk (clE_at n F fu1 fu2)
  have hg:toGlob fs H.length (mI n)=H.length:=by rw [glob_new (by omega),hl];omega
  rw [hg] at hb
  have hgs:∀ i∈(footL n (mI n) (mI n+1) (cqI n) (cqI n+1) (wI n)).map (toGlob fs H.length),i<H.length→n.row≠[]∧i=w:=by
    intro i hi hlt
    obtain ⟨j,hj,rfl⟩:=List.mem_map.1 hi
    have hjl:j<fs.length:=by
      apply Classical.byContradiction
      intro q
      rw [glob_new (by omega)] at hlt
      omega
    rw [hl] at hjl
    have hcq:mI n<cqI n:=by unfold cqI;split<;>omega
    by_cases h3:n.row=[]
    · exfalso
      unfold footL at hj
      simp [h3] at hj
      rcases hj with q | ⟨-,q⟩ | q | ⟨-,q⟩<;>omega
    · refine ⟨h3,?_⟩
      unfold footL at hj
      simp [h3] at hj
      rcases hj with q | ⟨-,q⟩ | q | ⟨-,q⟩ | q
      · omega
      · omega
      · omega
      · omega
      · rw [q];exact glob_w h h3 H.length
  refine ⟨_,H.length,_,?_,hc.1,?_,hc.2.1,hc.2.2,Nat.le_refl _,hgs⟩
  · rw [h1]
    simp only [renV,hg]
  · by_cases h3:n.row=[]
    · exact hb.any h3 w
    · rwa [glob_w h h3] at hb
/-! ### A level that is none, and no node -/
theorem nstep_bad (n:Nd) (F:Fl) (z:Int) (h0:¬ z=0) (h1:¬ z=1):call E (.func (.func 17) [] []) [.ptr 0 0,.lit (.int .i64 z)] (ndH n F)=some (.tup [nilS,.lit (.int .i64 10)],ndH n F):=by
  rw [call_func E E17]
  by_cases h1':n.raw=[]<;>by_cases hq:n.nq=true<;>by_cases h3:n.row=[] <;>
  simp [go_sem,ir17,ndH,rV,qI,qV,wI,wV,rE,qE,wE,Nd.cells,nilS,h0,h1,h1',hq,h3,purse_eq,List.range_succ]
theorem bad_atW {H:Heap} {a:Nat} {n:Nd} {fs:List Nat} {w:Nat} (h:NodeAtW H a n fs w) (z:Int) (h0:¬ z=0) (h1:¬ z=1) :
    ∃ H2,callK1 (call E) H (some (.func (.func 17) [] [],[])) (some ([.ptr a 0,.lit (.int .i64 z)],[]))=some (.tup [nilS,.lit (.int .i64 10)],H2)∧NodeAtW H2 a n fs w∧Around H H2 fs fs∧RowKept n w H2 n fs w:=by
  obtain ⟨v,Hn,h1,F2,rfl,rfl⟩:=call_back (c:=call E) h.at (.func (.func 17) [] []) [.lit (.int .i64 z)] rfl rfl (P:=fun v Hn=>∃ F2,v=.tup [nilS,.lit (.int .i64 10)]∧Hn=ndH n F2++[]) (fun F =>
    ⟨_,_,nstep_bad n F z h0 h1,F,rfl,by rw [List.append_nil]⟩)
  refine ⟨_,?_,same_back h (F:=F2) (X:=[])⟩
  rw [h1]
  simp [renV,renL,nilS,renLL]
abbrev noN:AVal:=.lit (.pointer none)
theorem nnil_step:call E (.func (.func 17) [] []) [noN,.lit (.int .i64 1)] []=some (.tup [nilS,.lit (.int .i64 2)],[]):=by
  rw [call_func E E17]
  simp [go_sem,ir17,nilS]
theorem nnil_put (f:Fr):call E (.func (.func 21) [] []) [noN,.agg (encFr f)] []=some (.lit (.int .i64 2),[]):=by
  rw [call_func E E21]
  simp [go_sem,ir21,encFr,u8v,purse_eq,List.range_succ]
theorem nnil_drive:call E (.func (.func 16) [] []) [noN] []=some (.lit (.int .i64 1),[]):=by
  rw [call_func E E16]
  simp [go_sem,ir16]
theorem nnil_look:call E (.func (.func 18) [] []) [noN] []=some (.agg [.lit (.int .i64 0),.lit (.bool false),.lit (.int .i64 0),.lit (.int .i64 0),.lit (.bool false),.lit (.int .i64 0)],[]):=by
  rw [call_func E E18]
  simp [go_sem,ir18]
theorem nnil_queue:call E (.func (.func 25) [] []) [noN] []=some (nilS,[]):=by
  rw [call_func E E25]
  simp [go_sem,ir25,nilS]
theorem nnil_clone:call E (.func (.func 27) [] []) [noN] []=some (noN,[]):=by
  rw [call_func E E27]
  simp [go_sem,ir27]
/-! ### How long the row of what came can be -/
theorem raw_next {n:Nd} (hI:n.Inv) (hr:n.raw.length≤2000000) (b:Bool):(nxN n b).raw.length≤2000000:=by
  rcases step_modes n b hI.mode with ⟨h0,e⟩ | ⟨h0,e⟩ | ⟨h0,e⟩ | ⟨h0,e⟩ | ⟨h0,e⟩ | ⟨h0,e⟩ | ⟨h0,e⟩ | ⟨h0,e⟩ | ⟨h0,e⟩ | ⟨h0,e⟩<;>rw [e]
  · rwa [(join_keep n b).raw]
  · unfold idleN
    split
    · simp [startN]
    · split
      · exact hr
      · rw [(fail_keep { n with tx:=true } 4 true).raw];exact hr
  · have h1:=((hI.inf h0).ri.ok).1
    have ht:∀ (m:Nd) (b:Bool),m.raw=n.raw→(takeN m b).2.raw.length≤2000000:=by
      intro m b hm
      unfold takeN
      repeat' split
      all_goals (simp [hm];try omega)
    unfold inN
    repeat' split
    all_goals first
      | exact ht _ _ rfl
      | (simp only [];rw [(fail_keep n _ _).raw];exact hr)
      | (show (failN n 8 (!decide (n.ct.state=1))).2.raw.length≤_;rw [(fail_keep n _ _).raw];exact hr)
      | exact hr
  · rwa [(dom_keep n b).raw]
  · rwa [(pas_keep n b).raw]
  · rwa [(wait_keep n b).raw]
  · rwa [(close_keep n b).raw]
  · unfold pausN
    split
    · rwa [(pause_keep n).raw]
    · split
      · exact hr
      · simp [startN]
  · unfold sspN
    split
    · rwa [(susp_keep n).raw]
    · simp [startN]
  · rwa [(boff_keep n b).raw]
theorem raw_put {n:Nd} (f:Fr):(nputN n f).2.raw=n.raw:=by
  unfold nputN;repeat' split
  all_goals rfl
end Go.AM.R1
open Go Go.AM
namespace Go.AM.R1
/-! ### A node and two clones -/
structure Tri (H:Heap) (n m1 m2:Nd) (b d bw:Nat) (fs gs ks:List Nat) (w v u:Nat) (e:Entry):Prop where
  hn:NodeAtW H 0 n fs w
  hc:NodeAtW H b m1 gs v
  ho:NodeAtW H d m2 ks u
  nc:Sh n w fs m1 v gs
  no:Sh n w fs m2 u ks
  co:Sh m1 v gs m2 u ks
  x1:Ext H fs bw e
  x2:Ext H gs bw e
  x3:Ext H ks bw e
variable {H H2:Heap} {n m1 m2:Nd} {b d bw:Nat} {fs gs ks:List Nat} {w v u:Nat} {e:Entry}
theorem ext_beside {fs gs gs2:List Nat} (x:Ext H fs bw e) (y:Ext H gs bw e) (ar:Around H H2 gs gs2):Ext H2 fs bw e:=⟨by rw [ar.same bw x.lt y.out];exact x.get,x.out⟩
theorem Tri.onN (t:Tri H n m1 m2 b d bw fs gs ks w v u e) (h:NodeAtW H2 0 n fs w) (ar:Around H H2 fs fs) (kp:RowKept n w H2 n fs w):Tri H2 n m1 m2 b d bw fs gs ks w v u e:=by
  obtain ⟨c1,c2⟩:=sh_call t.hc t.nc.symm ar kp
  obtain ⟨o1,o2⟩:=sh_call t.ho t.no.symm ar kp
  exact ⟨h,c1,o1,t.nc,t.no,t.co,t.x1.around ar,ext_beside t.x2 t.x1 ar,ext_beside t.x3 t.x1 ar⟩
theorem Tri.onC {m':Nd} {gs2:List Nat} {v2:Nat} (t:Tri H n m1 m2 b d bw fs gs ks w v u e) (h:NodeAtW H2 b m' gs2 v2) (ar:Around H H2 gs gs2) (kp:RowKept m1 v H2 m' gs2 v2):Tri H2 n m' m2 b d bw fs gs2 ks w v2 u e:=by
  obtain ⟨c1,c2⟩:=sh_call t.hn t.nc ar kp
  obtain ⟨o1,o2⟩:=sh_call t.ho t.co.symm ar kp
  exact ⟨c1,h,o1,c2,t.no,o2.symm,ext_beside t.x1 t.x2 ar,t.x2.around ar,ext_beside t.x3 t.x2 ar⟩
theorem Tri.onO {m':Nd} {ks2:List Nat} {u2:Nat} (t:Tri H n m1 m2 b d bw fs gs ks w v u e) (h:NodeAtW H2 d m' ks2 u2) (ar:Around H H2 ks ks2) (kp:RowKept m2 u H2 m' ks2 u2):Tri H2 n m1 m' b d bw fs gs ks2 w v u2 e:=by
  obtain ⟨c1,c2⟩:=sh_call t.hn t.no ar kp
  obtain ⟨o1,o2⟩:=sh_call t.hc t.co ar kp
  exact ⟨c1,o1,h,t.nc,c2,o2,ext_beside t.x1 t.x3 ar,ext_beside t.x2 t.x3 ar,t.x3.around ar⟩
theorem nodeAtW_eq {a:Nat} (h:NodeAtW H a n fs w) (hs:∀ i∈fs,H2[i]?=H[i]?):NodeAtW H2 a n fs w :=
  nodeAtW_same h (fun i hi _=>hs i hi) fun h3=>by
    obtain ⟨⟨lw,fw,hr⟩,hm⟩:=h.row h3
    exact ⟨lw,fw,by rw [hs w hm];exact hr⟩
theorem Tri.same (t:Tri H n m1 m2 b d bw fs gs ks w v u e) (hs:∀ i,(i∈fs∨i∈gs∨i∈ks∨i=bw)→H2[i]?=H[i]?):Tri H2 n m1 m2 b d bw fs gs ks w v u e :=
  have hb:H2[bw]?=some e:=by rw [hs bw (.inr (.inr (.inr rfl)))];exact t.x1.get
  ⟨nodeAtW_eq t.hn fun i hi=>hs i (.inl hi),nodeAtW_eq t.hc fun i hi=>hs i (.inr (.inl hi)),nodeAtW_eq t.ho fun i hi=>hs i (.inr (.inr (.inl hi))),t.nc,t.no,t.co,⟨hb,t.x1.out⟩,⟨hb,t.x2.out⟩,⟨hb,t.x3.out⟩⟩
theorem Tri.lt (t:Tri H n m1 m2 b d bw fs gs ks w v u e):∀ i,(i∈fs∨i∈gs∨i∈ks∨i=bw)→i<H.length:=by
  intro i hi
  rcases hi with q | q | q | q
  · exact nodeAt_lt t.hn.at i q
  · exact nodeAt_lt t.hc.at i q
  · exact nodeAt_lt t.ho.at i q
  · rw [q];exact t.x1.lt
theorem Tri.swp (t:Tri H n m1 m2 b d bw fs gs ks w v u e) {R:List Nat} (hR:∀ i,(i∈fs∨i∈gs∨i∈ks∨i=bw)→i∈R):Tri (sweep R 0 H) n m1 m2 b d bw fs gs ks w v u e :=
  t.same fun i hi=>by rw [sweep_get H R 0 i (by rw [Nat.zero_add];exact hR i hi)]
theorem Tri.rch (t:Tri H n m1 m2 b d bw fs gs ks w v u e) (he:refsE e=[]) (ws:List Nat) (hws:ws.length≤2) (hnd:ws.Nodup) (hf:∀ i∈ws,(∃ e,H[i]?=some e∧refsE e=[])∧i ∉ fs∧i ∉ gs∧i ∉ ks∧i≠bw) :
    ∃ R,reach H purse (0::bw::b::d::ws) []=some R∧(∀ i,(i∈fs∨i∈gs∨i∈ks∨i=bw)→i∈R)∧∀ i∈ws,i∈R:=by
  have l1:=nodeAt_len t.hn.at
  have l2:=nodeAt_len t.hc.at
  have l3:=nodeAt_len t.ho.at
  obtain ⟨L1,r1,m1',s1⟩:=reach_nodeS t.hn (399 - fs.length - gs.length - ks.length - ws.length+ws.length+ks.length+gs.length+1) (bw::b::d::ws) [] (fun i _ q=>by cases q)
  obtain ⟨L2,r2,m2',s2⟩:=reach_nodeS t.hc (399 - fs.length - gs.length - ks.length - ws.length+ws.length+ks.length) (d::ws) (L1++[bw]) (fun i hi q=>by
    rcases List.mem_append.1 q with q | q
    · obtain ⟨z1,z2,z3,z4⟩:=t.nc.symm i hi (s1 i q);exact ⟨z1,z2⟩
    · simp at q;rw [q] at hi;exact absurd hi t.x2.out)
  obtain ⟨L3,r3,m3',s3⟩:=reach_nodeS t.ho (399 - fs.length - gs.length - ks.length - ws.length+ws.length) ws (L1++[bw]++L2) (fun i hi q=>by
    rcases List.mem_append.1 q with q | q
    · rcases List.mem_append.1 q with q | q
      · obtain ⟨z1,z2,z3,z4⟩:=t.no.symm i hi (s1 i q);exact ⟨z1,z2⟩
      · simp at q;rw [q] at hi;exact absurd hi t.x3.out
    · obtain ⟨z1,z2,z3,z4⟩:=t.co.symm i hi (s2 i q);exact ⟨z1,z2⟩)
  have hfl:∀ (ws acc:List Nat) (k:Nat),ws.Nodup→(∀ i∈ws,(∃ e,H[i]?=some e∧refsE e=[])∧i ∉ acc)→reach H (k+ws.length) ws acc=some (acc++ws):=by
    intro ws
    induction ws with
    | nil=>intro acc k _ _;rw [reach_nil,List.append_nil]
    | cons z ws ih =>
      intro acc k hnd hf
      obtain ⟨⟨e0,h0,hr0⟩,hn0⟩:=hf z (by simp)
      rw [List.nodup_cons] at hnd
      rw [List.length_cons,show k+(ws.length+1)=(k+ws.length)+1 by omega,reach_step hn0 h0,hr0,List.nil_append,ih (acc++[z]) k hnd.2 (fun i hi=>⟨(hf i (by simp [hi])).1,fun q=>?_⟩)]
      · simp
      · rcases List.mem_append.1 q with q | q
        · exact (hf i (by simp [hi])).2 q
        · simp at q;rw [q] at hi;exact hnd.1 hi
  refine ⟨L1++[bw]++L2++L3++ws,?_,?_,?_⟩
  · rw [show purse=(399 - fs.length - gs.length - ks.length - ws.length+ws.length+ks.length+gs.length+1)+fs.length by rw [purse_eq];omega,r1,List.nil_append]
    rw [reach_step (fun q=>t.x1.out (s1 bw q)) t.x1.get,he,List.nil_append,r2,r3]
    rw [hfl ws _ _ hnd]
    intro i hi
    obtain ⟨q1,q2,q3,q4,q5⟩:=hf i hi
    refine ⟨q1,fun q=>?_⟩
    simp only [List.mem_append,List.mem_singleton] at q
    rcases q with ((q | q) | q) | q
    · exact q2 (s1 i q)
    · exact q5 q
    · exact q3 (s2 i q)
    · exact q4 (s3 i q)
  · intro i hi
    rcases hi with q | q | q | q
    · have:=m1' i q
      simp only [List.nil_append] at this
      simp [this]
    · have:=m2' i q
      simp only [List.mem_append,List.mem_singleton] at this ⊢
      rcases this with (z | z) | z<;>simp [z]
    · have:=m3' i q
      simp only [List.mem_append,List.mem_singleton] at this ⊢
      rcases this with ((z | z) | z) | z<;>simp [z]
    · simp [q]
  · intro i hi
    simp [hi]
end Go.AM.R1
open Go Go.AM
namespace Go.AM.R1
/-! ### Turns -/
structure Tn where
  put:Bool
  f:Fr
  lev:Int
def encTn (t:Tn):List AVal:=[.lit (.bool t.put),.lit (.int .i64 t.f.id),.lit (.bool t.f.ext),.lit (.bool t.f.rtr),.lit (.int .i64 t.f.len),.lit (.int .u8 t.f.d0),.lit (.int .u8 t.f.d1),.lit (.int .u8 t.f.d2),.lit (.int .u8 t.f.d3),.lit (.int .u8 t.f.d4),.lit (.int .u8 t.f.d5),.lit (.int .u8 t.f.d6),.lit (.int .u8 t.f.d7),.lit (.int .i64 t.lev)]
def levelP (t:Tn) (d:Bool):Bool:=if t.lev=0 then false else if t.lev=1 then true else d
theorem tlevel_spec (t:Tn) (d:Bool):call E (.func (.func 20) [] []) [.agg (encTn t),.lit (.int .i64 (lv d))] []=some (.lit (.int .i64 (lv (levelP t d))),[]):=by
  rw [call_func E E20]
  unfold levelP
  by_cases h0:t.lev=0
  · simp [go_sem,ir20,encTn,h0,lvF,purse_eq,List.range_succ]
  · by_cases h1:t.lev=1
    · simp [go_sem,ir20,encTn,h1,lvT,purse_eq,List.range_succ]
    · simp [go_sem,ir20,encTn,h0,h1,purse_eq,List.range_succ]
end Go.AM.R1
open Go Go.AM
namespace Go.AM.R1
/-! ### A node calms: how far it counts in each mode -/
structure KOk (n:Nd):Prop where
  k0:n.mode=0→n.k≤10
  k3:n.mode=3∨n.mode=5→n.k≤5
  k4:n.mode=4→n.k≤5
  k7:n.mode=7→1≤n.k∧n.k≤7
  k8:n.mode=8→n.k≤2
  k9:n.mode=9→n.k≤7
  k10:n.mode=10→n.k≤10
theorem KOk.zero {n:Nd} (h:n.k=0) (h7:n.mode≠7):KOk n:=⟨fun _=>by omega,fun _=>by omega,fun _=>by omega,fun q=>absurd q h7,fun _=>by omega,fun _=>by omega,fun _=>by omega⟩
theorem KOk.calm {n:Nd} (h:n.mode=1∨n.mode=2∨n.mode=6):KOk n:=⟨fun _=>by omega,fun _=>by omega,fun _=>by omega,fun _=>by omega,fun _=>by omega,fun _=>by omega,fun _=>by omega⟩
theorem KOk.of {m:Nd} {x y:Nat} (hx:m.mode=x) (hy:m.k=y) (h:(x=0→y≤10)∧(x=3∨x=5→y≤5)∧(x=4→y≤5)∧(x=7→1≤y∧y≤7)∧(x=8→y≤2)∧(x=9→y≤7)∧(x=10→y≤10)):KOk m:=by
  subst hx hy
  obtain ⟨h1,h2,h3,h4,h5,h6,h7⟩:=h
  exact ⟨h1,h2,h3,h4,h5,h6,h7⟩
end Go.AM.R1
open Go Go.AM
namespace Go.AM.R1
/-! ### What is in the queue, and what is sent -/
def noSent (l:List (Nat × Fr)):Prop:=∀ e∈l,e.1≠1
theorem evs_no {ks:List Nat} {f:Fr} (h:∀ k∈ks,k≠1):noSent (evsOf ks f):=by
  intro e he
  unfold evsOf at he
  obtain ⟨k,hk,rfl⟩:=List.mem_map.1 he
  exact h k hk
/-- What a step does to the queue. -/
def QStep (n m:Nd) (es:List (Nat × Fr)):Prop:=(noSent es∧m.q=n.q)∨∃ f,f∈n.q∧es=[(1,f)]∧m.q=delL f n.q
theorem QStep.no {n m:Nd} {ks:List Nat} {f:Fr} (h:∀ k∈ks,k≠1) (hq:m.q=n.q):QStep n m (evsOf ks f):=.inl ⟨evs_no h,hq⟩
theorem fl_len (n:Nd) (kd:Nat) (c:Bool):(failN n kd c).1.length≤2:=by
  unfold failN;repeat' split
  all_goals simp
theorem k_len (n:Nd) (b:Bool):(stepN n b).1.length≤2:=by
  have hf:=fl_len n
  have hf2:=fl_len { n with tx:=true } 4 true
  have hn:(nackN n).1.length≤2:=hf 8 _
  unfold stepN
  split
  · exact Nat.zero_le _
  · unfold idleN;repeat' split
    · exact Nat.zero_le _
    · exact Nat.zero_le _
    · exact hf2
  · unfold inN;repeat' split
    all_goals first | exact hf 4 true | exact hf 5 true | exact hf 5 false | exact hf 6 true | exact hf 7 true | exact hn | (show ([]:List Nat).length≤2;simp;done) | (simp;done) | (unfold overN;simp;done)
  · unfold domN;repeat' split
    all_goals (simp [noFr])
  · unfold pasN;repeat' split
    all_goals (simp [noFr])
  · unfold domN;repeat' split
    all_goals (simp [noFr])
  · unfold waitN;repeat' split
    all_goals (simp [noFr])
  · unfold closeN overN;repeat' split
    all_goals first | exact hf 7 true | simp [noFr]
  · unfold pausN pauseN overN;repeat' split
    all_goals (simp [noFr])
  · unfold sspN suspN;repeat' split
    all_goals (simp [noFr])
  · unfold offN;repeat' split
    all_goals (simp [noFr])
theorem e_len (n:Nd) (b:Bool):(evN n b).length≤2:=by
  unfold evN evsOf;rw [List.length_map];exact k_len n b
/-! ### Rows with the same frames -/
end Go.AM.R1
open Go Go.AM
namespace Go.AM.R1
/-! ### A row of frames beside a node -/
def LeftAt (H:Heap) (fs:List Nat) (lv:AVal) (l:List Fr) (R:List Nat):Prop :=
  (lv=nilS∧l=[]∧R=[])∨∃ b lk fu,lv=.own b l.length 12 0 l.length∧R=[b]∧Ext H fs b (.arr true lk fu 12 (l.map encFr))
theorem LeftAt.around {H H2:Heap} {fs fs2:List Nat} {lv:AVal} {l:List Fr} {R:List Nat} (h:LeftAt H fs lv l R) (a:Around H H2 fs fs2):LeftAt H2 fs2 lv l R:=by
  rcases h with h | ⟨b,lk,fu,h1,h2,h3⟩
  · exact .inl h
  · exact .inr ⟨b,lk,fu,h1,h2,h3.around a⟩
theorem LeftAt.sweep {H:Heap} {fs:List Nat} {lv:AVal} {l:List Fr} {R T:List Nat} (h:LeftAt H fs lv l R) (hT:∀ i∈R,i∈T):LeftAt (sweep T 0 H) fs lv l R:=by
  rcases h with h | ⟨b,lk,fu,h1,h2,h3⟩
  · exact .inl h
  · exact .inr ⟨b,lk,fu,h1,h2,ext_sweep h3 (hT b (by rw [h2];simp))⟩
theorem LeftAt.lt {H:Heap} {fs:List Nat} {lv:AVal} {l:List Fr} {R:List Nat} (h:LeftAt H fs lv l R):∀ i∈R,i<H.length∧i ∉ fs:=by
  rcases h with ⟨-,-,rfl⟩ | ⟨b,lk,fu,h1,rfl,h3⟩
  · simp
  · intro i hi;simp at hi;subst hi;exact ⟨h3.lt,h3.out⟩
theorem LeftAt.same {H H2:Heap} {fs:List Nat} {lv:AVal} {l:List Fr} {R:List Nat} (h:LeftAt H fs lv l R) (hs:∀ i∈R,H2[i]?=H[i]?):LeftAt H2 fs lv l R:=by
  rcases h with h | ⟨b,lk,fu,h1,h2,h3⟩
  · exact .inl h
  · exact .inr ⟨b,lk,fu,h1,h2,⟨by rw [hs b (by rw [h2];simp)];exact h3.get,h3.out⟩⟩
theorem frames_loop (l:List Fr) (hl:l.length≤1000) (n1 f1 n2 f2:Bool) (k:List Item)
    (hk:∀ τ,finK 0 [.tmp 4] (run E 0 k τ [])=some (.lit (.bool true),[])) :
    ∀ (d i:Nat),i+d=l.length→finK 0 [.tmp 4] (run E 0 (.code L26_0::.inLoop [0,1,5] L26_0::.inBlock 0::k) [(0,.imm n1 f1 true (l.map encFr)),(1,.imm n2 f2 true (l.map encFr)),(5,.lit (.int .i64 i))] [])=some (.lit (.bool true),[]):=by
  intro d
  induction d with
  | zero =>
    intro i hi
    have hlt:((i:Int)<(l.length:Int))=False:=eq_false (by omega)
    simp [go_sem,run_codeL E L26_0.eq_1,hlt]
    exact hk _
  | succ d ih =>
    intro i hi
    have hlt:i<l.length:=by omega
    have w:=wrapIdx (i:=i) (by omega)
    have ih2:=ih (i+1) (by omega)
    simp [encFr,u8v] at ih2 w
    simp [go_sem,run_codeL E L26_0.eq_1,hlt,List.getElem?_eq_getElem hlt,encFr,u8v,↓aleaves_fr,w]
    rw [run_inLoop']
    simp [go_sem,purse_eq,List.range_succ]
    exact ih2
theorem frames_same (l:List Fr) (hl:l.length≤1000) (n1 f1 n2 f2:Bool):call E (.func (.func 26) [] []) [.imm n1 f1 true (l.map encFr),.imm n2 f2 true (l.map encFr)] []=some (.lit (.bool true),[]):=by
  rw [call_func E E26]
  have h:=frames_loop l hl n1 f1 n2 f2
  have h2:=fun k hk=>h k hk l.length 0 (by omega)
  have hml:(l.map encFr).length=l.length:=by simp
  generalize l.map encFr=rows at *
  simp at h2
  simp [go_sem,ir26]
  rw [run_inLoop']
  simp [go_sem,purse_eq,List.range_succ]
  refine h2 _ ?_
  intro τ
  simp [go_sem]
end Go.AM.R1
open Go Go.AM
namespace Go.AM.R1
/-- What is known of a node in these loops. -/
structure OwI (i:Nat) (n:Nd):Prop where
  inv:n.Inv
  k:n.k≤i
  raw:n.raw.length≤2000000
theorem OwI.next {i:Nat} {n:Nd} (h:OwI i n) (b:Bool):OwI (i+1) (nxN n b):=⟨inv_next h.inv b,by have:=k_next n b h.inv.mode;have:=h.k;omega,raw_next h.inv h.raw b⟩
theorem put_k (n:Nd) (f:Fr):(nputN n f).2.k=n.k:=by
  unfold nputN;repeat' split
  all_goals rfl
theorem OwI.put {i:Nat} {n:Nd} (h:OwI i n) {f:Fr} (hf:f.Ok):OwI i (nputN n f).2:=⟨inv_put h.inv hf,by rw [put_k];exact h.k,by rw [raw_put];exact h.raw⟩
set_option maxHeartbeats 4000000 in
theorem ow_loop0 (ts:List Tn) (h3:ts.length≤300) (hts:∀ t∈ts,t.f.Ok) (n1 f1:Bool) (A:Nat) (hA:A≤ts.length) (z:Int) (k:List Item) (Q:Option (AVal × Heap))
    (hk:∀ H fs n τ,lk 0 τ=.imm n1 f1 true (ts.map encTn)→lk 1 τ=.lit (.int .i64 A)→lk 2 τ=.lit (.int .i64 z)→lk 10 τ=.ptr 0 0→NodeAt H 0 n fs→OwI A n→finK 0 [.tmp 6] (run E 0 k τ H)=Q) :
    ∀ (d i:Nat),i+d=A→∀ H fs n,NodeAt H 0 n fs→OwI i n →
    finK 0 [.tmp 6] (run E 0 (.code L11_0::.inLoop [0,1,2,10,11] L11_0::.inBlock 0::k) [(0,.imm n1 f1 true (ts.map encTn)),(1,.lit (.int .i64 A)),(2,.lit (.int .i64 z)),(10,.ptr 0 0),(11,.lit (.int .i64 i))] H)=Q:=by
  intro d
  induction d with
  | zero =>
    intro i hi H fs n h hB
    have hlt:((i:Int)<(A:Int))=False:=eq_false (by omega)
    have:i=A:=by omega
    subst this
    simp [go_sem,run_codeL E L11_0.eq_1,hlt]
    exact hk H fs n _ (by simp [lk]) (by simp [lk]) (by simp [lk]) (by simp [lk]) h hB
  | succ d ih =>
    intro i hi H fs n h hB
    have hlt:((i:Int)<(A:Int))=True:=eq_true (by omega)
    have hltn:i<ts.length:=by omega
    have w:=wrapIdx (i:=i) (by omega)
    have hfi:ts[i]?=some ts[i]:=List.getElem?_eq_getElem hltn
    have hto:=hts ts[i] (List.getElem_mem _)
    generalize ts[i]=t at hfi hto
    have hti:(ts.map encTn)[i]?=some (encTn t):=by rw [List.getElem?_map,hfi];rfl
    have hti2:∀ (q:i<(ts.map encTn).length),(ts.map encTn)[i]=encTn t:=fun q=>(List.getElem?_eq_some_iff.1 hti).2
    have hml:(ts.map encTn).length=ts.length:=by simp
    cases hput:t.put
    · obtain ⟨H1,hd,h1,a1⟩:=drive_at h hB.inv
      have hL:=tlevel_spec t (drN n)
      obtain ⟨H2,fs2,ix,hs,h2,a2,-⟩:=step_at h1 hB.inv (by have:=hB.k;omega) (levelP t (drN n))
      have ih2:=ih (i+1) (by omega) (sweep fs2 0 H2) fs2 _ (nodeAt_sw1 h2) (hB.next _)
      have hre:=reach_p1 h2
      generalize ts.map encTn=rows at *
      simp at w ih2
      simp only [encTn,hput] at hL hti hti2
      simp [go_sem,run_codeL E L11_0.eq_1,hlt,hltn,hti,hti2,hml,hd,hs,hL,w,histK,calm]
      rw [run_inLoop']
      simp [go_sem,hre]
      exact ih2
    · obtain ⟨H0,fs0,hp,h0,a0⟩:=put_at h hB.inv.ok t.f
      have hB0:=hB.put hto
      obtain ⟨H1,hd,h1,a1⟩:=drive_at h0 hB0.inv
      have hL:=tlevel_spec t (drN (nputN n t.f).2)
      obtain ⟨H2,fs2,ix,hs,h2,a2,-⟩:=step_at h1 hB0.inv (by have:=hB0.k;omega) (levelP t (drN (nputN n t.f).2))
      have ih2:=ih (i+1) (by omega) (sweep fs2 0 H2) fs2 _ (nodeAt_sw1 h2) (hB0.next _)
      have hre:=reach_p1 h2
      generalize ts.map encTn=rows at *
      simp at w ih2
      simp only [encTn,hput] at hL hti hti2
      simp [encFr,u8v] at hp
      simp [go_sem,run_codeL E L11_0.eq_1,hlt,hltn,hti,hti2,hml,hp,hd,hs,hL,w,histK,calm]
      rw [run_inLoop']
      simp [go_sem,hre]
      exact ih2
theorem aleaves_ev (e:Nat × Fr):aleaves (encEv e) (encEv e) [(0,.i),(1,.i),(2,.i),(3,.i),(4,.b),(5,.b),(6,.i),(7,.i),(8,.i),(9,.i),(10,.i),(11,.i),(12,.i),(13,.i),(14,.i)]=some true:=by
  simp [encEv,aleaves,aleaf]
set_option maxHeartbeats 4000000 in
theorem ow_loop2 (lv0 c2 c13 c16:AVal) (h0:refsV lv0=[]) (h2:refsV c2=[]) (h13:refsV c13=[]) (h16:refsV c16=[]) (n m1 m2:Nd) (b d bw:Nat) (fs gs ks:List Nat) (w v u:Nat) (e:Entry) (he:refsE e=[]) (es:List (Nat × Fr)) (hes:es.length≤2) (ix iy:Nat) (hxy:ix≠iy) (hx:ix ∉ fs∧ix ∉ gs∧ix ∉ ks∧ix≠bw) (hy:iy ∉ fs∧iy ∉ gs∧iy ∉ ks∧iy≠bw) (k:List Item) (Q:Option (AVal × Heap))
    (hk:∀ H τ,lk 0 τ=lv0→lk 2 τ=c2→lk 10 τ=.ptr 0 0→lk 12 τ=.ptr bw 0→lk 13 τ=c13→lk 14 τ=.ptr b 0→lk 15 τ=.ptr d 0→lk 16 τ=c16→Tri H n m1 m2 b d bw fs gs ks w v u e→finK 0 [.tmp 6] (run E 0 k τ H)=Q) :
    ∀ (D j:Nat),j+D=es.length→∀ H,Tri H n m1 m2 b d bw fs gs ks w v u e→H[ix]?=some (.arr true false false 15 (es.map encEv))→H[iy]?=some (.arr true false false 15 (es.map encEv)) →
    finK 0 [.tmp 6] (run E 0 (.code L11_2::.inLoop [0,2,10,12,13,14,15,16,18,20,22] L11_2::.inBlock 4::k) [(0,lv0),(2,c2),(10,.ptr 0 0),(12,.ptr bw 0),(13,c13),(14,.ptr b 0),(15,.ptr d 0),(16,c16),(18,.own ix es.length 15 0 es.length),(20,.own iy es.length 15 0 es.length),(22,.lit (.int .i64 j))] H)=Q:=by
  intro D
  induction D with
  | zero =>
    intro j hj H t gx gy
    have hlt:((j:Int)<(es.length:Int))=False:=eq_false (by omega)
    simp [go_sem,run_codeL E L11_2.eq_1,hlt]
    exact hk H _ (by simp [lk]) (by simp [lk]) (by simp [lk]) (by simp [lk]) (by simp [lk]) (by simp [lk]) (by simp [lk]) (by simp [lk]) t
  | succ D ih =>
    intro j hj H t gx gy
    have hlt:((j:Int)<(es.length:Int))=True:=eq_true (by omega)
    have hltn:j<es.length:=by omega
    have w1:=wrapIdx (i:=j) (by omega)
    obtain ⟨R,hre,hR1,hR2⟩:=t.rch he [ix,iy] (by simp) (by simp [hxy]) (by
      intro i hi
      simp at hi
      rcases hi with q | q
      · rw [q];exact ⟨⟨_,gx,rfl⟩,hx⟩
      · rw [q];exact ⟨⟨_,gy,rfl⟩,hy⟩)
    have ih2:=ih (j+1) (by omega) (sweep R 0 H) (t.swp hR1) (by rw [sweep_get H R 0 ix (by simp [hR2])];exact gx) (by rw [sweep_get H R 0 iy (by simp [hR2])];exact gy)
    have hej:(es.map encEv)[j]?=some (encEv es[j]):=by rw [List.getElem?_map,List.getElem?_eq_getElem hltn];rfl
    have hej2:∀ (q:j<(es.map encEv).length),(es.map encEv)[j]=encEv es[j]:=fun q=>(List.getElem?_eq_some_iff.1 hej).2
    have hml:(es.map encEv).length=es.length:=by simp
    have hal:=aleaves_ev es[j]
    generalize es[j]=ev at hej hej2 hal
    generalize es.map encEv=rows at *
    simp at w1 ih2 hre
    simp [encEv] at hej hej2 hal
    simp [go_sem,run_codeL E L11_2.eq_1,hlt,hltn,hml,gx,gy,hej,hej2,↓hal,w1]
    rw [run_inLoop']
    simp [go_sem,h0,h2,h13,h16,hre]
    exact ih2
def oq1:ICode→ICode | .seq x _=>x | c=>c
def oq2:ICode→ICode | .seq _ y=>y | c=>c
def obl:ICode→ICode | .block _ c=>c | c=>c
def owL:ICode:=L11_1
def owT:ICode:=oq1 owL
def owBody:ICode:=obl (oq1 (oq2 owL))
def owI:ICode:=oq2 (oq2 owL)
def owA:ICode:=oq1 owBody
def owB:ICode:=oq2 owBody
theorem owE:L11_1=.seq owT (.seq (.block 3 (.seq owA owB)) owI):=rfl
abbrev owK (k:List Item):List Item:=.inBlock 3::.code owI::.inLoop [0,2,10,12,13,14,15,16] L11_1::.inBlock 2::k
set_option maxHeartbeats 8000000 in
theorem ow_B (ts:List Tn) (h3:ts.length≤300) (n1 f1:Bool) (z:Int) (c13:AVal) (h13:refsV c13=[]) (i:Nat) (t:Tn) (ht:ts[i]?=some t) (n:Nd) (b d bw:Nat) (fs:List Nat) (w:Nat) (e:Entry) (he:refsE e=[]) (k:List Item) (Q:Option (AVal × Heap))
    (ih:∀ H gs ks v u m,Tri H n m m b d bw fs gs ks w v u e→OwI (i+1) m→finK 0 [.tmp 6] (run E 0 (.code L11_1::.inLoop [0,2,10,12,13,14,15,16] L11_1::.inBlock 2::k) [(0,.imm n1 f1 true (ts.map encTn)),(2,.lit (.int .i64 z)),(10,.ptr 0 0),(12,.ptr bw 0),(13,c13),(14,.ptr b 0),(15,.ptr d 0),(16,.lit (.int .i64 ((i:Int)+1)))] H)=Q)
    (H:Heap) (τ:Tmps) (gs ks:List Nat) (v u:Nat) (m:Nd) (tr:Tri H n m m b d bw fs gs ks w v u e) (hB:OwI i m)
    (t0:lk 0 τ=.imm n1 f1 true (ts.map encTn)) (t2:lk 2 τ=.lit (.int .i64 z)) (t10:lk 10 τ=.ptr 0 0) (t12:lk 12 τ=.ptr bw 0) (t13:lk 13 τ=c13) (t14:lk 14 τ=.ptr b 0) (t15:lk 15 τ=.ptr d 0) (t16:lk 16 τ=.lit (.int .i64 i)) :
    finK 0 [.tmp 6] (run E 0 (.code owB::owK k) τ H)=Q:=by
  have hltn:i<ts.length:=(List.getElem?_eq_some_iff.1 ht).1
  have w1:=wrapIdx (i:=i) (by omega)
  have hti:(ts.map encTn)[i]?=some (encTn t):=by rw [List.getElem?_map,ht];rfl
  have hti2:∀ (q:i<(ts.map encTn).length),(ts.map encTn)[i]=encTn t:=fun q=>(List.getElem?_eq_some_iff.1 hti).2
  have hml:(ts.map encTn).length=ts.length:=by simp
  obtain ⟨H3,hd,n3,a3,k3⟩:=drive_atW tr.hc hB.inv
  have tr3:=tr.onC n3 a3 k3
  have hL:=tlevel_spec t (drN m)
  obtain ⟨x,hx⟩:∃ x,x=levelP t (drN m):=⟨_,rfl⟩
  rw [← hx] at hL
  have hkk:=hB.k
  obtain ⟨H4,gs2,ix,v2,hs4,n4,a4,hix,k4⟩:=step_atW tr3.hc hB.inv (by omega) x
  have tr4:=tr3.onC n4 a4 k4
  obtain ⟨H5,ks2,iy,u2,hs5,n5,a5,hiy,k5⟩:=step_atW tr4.ho hB.inv (by omega) x
  have tr5:=tr4.onO n5 a5 k5
  have hB2:=hB.next x
  obtain ⟨H6,hl6,n6,a6,k6⟩:=look_atW tr5.hc hB2.inv.ok
  have tr6:=tr5.onC n6 a6 k6
  obtain ⟨H7,hl7,n7,a7,k7⟩:=look_atW tr6.ho hB2.inv.ok
  have tr7:=tr6.onO n7 a7 k7
  have fin:∀ H τ,lk 0 τ=.imm n1 f1 true (ts.map encTn)→lk 2 τ=.lit (.int .i64 z)→lk 10 τ=.ptr 0 0→lk 12 τ=.ptr bw 0→lk 13 τ=c13→lk 14 τ=.ptr b 0→lk 15 τ=.ptr d 0→lk 16 τ=.lit (.int .i64 i)→Tri H n (nxN m x) (nxN m x) b d bw fs gs2 ks2 w v2 u2 e →
      finK 0 [.tmp 6] (run E 0 (.code owI::.inLoop [0,2,10,12,13,14,15,16] L11_1::.inBlock 2::k) τ H)=Q:=by
    intro H τ t0 t2 t10 t12 t13 t14 t15 t16 tr
    obtain ⟨R,hre,hR1,-⟩:=tr.rch he [] (by simp) (by simp) (by simp)
    have ih2:=ih (sweep R 0 H) gs2 ks2 v2 u2 _ (tr.swp hR1) hB2
    generalize ts.map encTn=rows at *
    simp at w1
    simp [go_sem,owI,owL,oq1,oq2,obl,L11_1.eq_1,t16,w1]
    rw [← L11_1.eq_1,run_inLoop']
    simp [go_sem,t0,t2,t10,t12,t13,t14,t15,t16,h13,hre]
    exact ih2
  have hlook:∀ (X Y:Option Bool),True:=fun _ _=>trivial
  have hlen:=e_len m x
  by_cases hev:evN m x=[]
  · rw [hev] at hs4 hs5
    obtain ⟨R,hre,hR1,-⟩:=tr7.rch he [] (by simp) (by simp) (by simp)
    have fn:=fun τ q0 q2 q10 q12 q13 q14 q15 q16=>fin (sweep R 0 H7) τ q0 q2 q10 q12 q13 q14 q15 q16 (tr7.swp hR1)
    generalize ts.map encTn=rows at *
    simp [evV] at hs4 hs5
    simp only [encTn] at hL hti hti2
    simp only [lookC] at hl6 hl7
    simp [go_sem,owB,owBody,owL,oq1,oq2,obl,L11_1.eq_1,t0,t2,t10,t12,t13,t14,t15,t16,hltn,hti,hti2,hml,hd,hL,hs4,hs5,hl6,hl7,histK,calm,nilS]
    rw [run_inLoop']
    simp [go_sem,run_codeL E L11_2.eq_1,t0,t2,t10,t12,t13,t14,t15,t16,h13,hre,nilS]
    refine fn _ ?_ ?_ ?_ ?_ ?_ ?_ ?_ ?_<;>simp [lk]
  · obtain ⟨gx4,hx2,hx3⟩:=hix hev
    obtain ⟨gy5,hy2,hy3⟩:=hiy hev
    have hxl:ix<H4.length:=lt_of_get gx4
    have hks:∀ i∈ks,i<H3.length:=fun i hi=>nodeAt_lt tr3.ho.at i hi
    have hfs:∀ i∈fs,i<H3.length:=fun i hi=>nodeAt_lt tr3.hn.at i hi
    have hbw:bw<H3.length:=tr3.x1.lt
    have hxks:ix ∉ ks:=fun q=>by have:=hks ix q;omega
    have hxks2:ix ∉ ks2:=fun q=>by
      rcases a5.new ix q with z | z
      · exact hxks z
      · omega
    have hxx:ix ∉ fs∧ix ∉ gs2∧ix ∉ ks2∧ix≠bw:=⟨fun q=>by have:=hfs ix q;omega,hx3,hxks2,by omega⟩
    have h34:=a4.len
    have hgs2:∀ i∈gs2,i<H4.length:=fun i hi=>nodeAt_lt tr4.hc.at i hi
    have hyy:iy ∉ fs∧iy ∉ gs2∧iy ∉ ks2∧iy≠bw:=⟨fun q=>by have:=hfs iy q;omega,fun q=>by have:=hgs2 iy q;omega,hy3,by omega⟩
    have h45:=a5.len
    have hyl:iy<H5.length:=lt_of_get gy5
    have h56:=a6.len
    have gx7:H7[ix]?=some (.arr true false false 15 ((evN m x).map encEv)):=by
      rw [a7.same ix (by omega) hxks2,a6.same ix (by omega) hx3,a5.same ix hxl hxks];exact gx4
    have gy7:H7[iy]?=some (.arr true false false 15 ((evN m x).map encEv)):=by
      rw [a7.same iy (by omega) hy3,a6.same iy hyl hyy.2.1];exact gy5
    have hxy:ix≠iy:=by omega
    obtain ⟨R,hre,hR1,hR2⟩:=tr7.rch he [ix,iy] (by simp) (by simp [hxy]) (by
      intro i hi
      simp at hi
      rcases hi with q | q
      · rw [q];exact ⟨⟨_,gx7,rfl⟩,hxx⟩
      · rw [q];exact ⟨⟨_,gy7,rfl⟩,hyy⟩)
    have hlp:=fun k' hk'=>ow_loop2 (.imm n1 f1 true (ts.map encTn)) (.lit (.int .i64 z)) c13 (.lit (.int .i64 i)) rfl rfl h13 rfl n (nxN m x) (nxN m x) b d bw fs gs2 ks2 w v2 u2 e he (evN m x) hlen ix iy hxy hxx hyy k' Q hk' (evN m x).length 0 (by omega) (sweep R 0 H7) (tr7.swp hR1) (by rw [sweep_get H7 R 0 ix (by simp [hR2])];exact gx7) (by rw [sweep_get H7 R 0 iy (by simp [hR2])];exact gy7)
    have e4:evV ix (evN m x)=.own ix (evN m x).length 15 0 (evN m x).length:=by unfold evV;rw [if_neg hev]
    have e5:evV iy (evN m x)=.own iy (evN m x).length 15 0 (evN m x).length:=by unfold evV;rw [if_neg hev]
    rw [e4] at hs4
    rw [e5] at hs5
    generalize ts.map encTn=rows at *
    generalize evN m x=es at *
    simp only [encTn] at hL hti hti2
    simp only [lookC] at hl6 hl7
    simp at hlp hre
    simp [go_sem,owB,owBody,owL,oq1,oq2,obl,L11_1.eq_1,t0,t2,t10,t12,t13,t14,t15,t16,hltn,hti,hti2,hml,hd,hL,hs4,hs5,hl6,hl7,histK,calm,nilS]
    rw [run_inLoop']
    simp [go_sem,t0,t2,t10,t12,t13,t14,t15,t16,h13,hre]
    refine hlp _ ?_
    intro H τ t0 t2 t10 t12 t13 t14 t15 t16 tr
    rw [run_inBlock]
    exact fin H τ t0 t2 t10 t12 t13 t14 t15 t16 tr
set_option maxHeartbeats 8000000 in
theorem ow_loop1 (ts:List Tn) (h3:ts.length≤300) (hts:∀ t∈ts,t.f.Ok) (n1 f1:Bool) (z:Int) (c13:AVal) (h13:refsV c13=[]) (n:Nd) (b d bw:Nat) (fs:List Nat) (w:Nat) (e:Entry) (he:refsE e=[]) (k:List Item) (Q:Option (AVal × Heap))
    (hk:∀ H τ gs ks v u m,lk 2 τ=.lit (.int .i64 z)→lk 10 τ=.ptr 0 0→lk 12 τ=.ptr bw 0→lk 13 τ=c13→Tri H n m m b d bw fs gs ks w v u e→finK 0 [.tmp 6] (run E 0 k τ H)=Q) :
    ∀ (D i:Nat),i+D=ts.length→∀ H gs ks v u m,Tri H n m m b d bw fs gs ks w v u e→OwI i m →
    finK 0 [.tmp 6] (run E 0 (.code L11_1::.inLoop [0,2,10,12,13,14,15,16] L11_1::.inBlock 2::k) [(0,.imm n1 f1 true (ts.map encTn)),(2,.lit (.int .i64 z)),(10,.ptr 0 0),(12,.ptr bw 0),(13,c13),(14,.ptr b 0),(15,.ptr d 0),(16,.lit (.int .i64 i))] H)=Q:=by
  have hT:=owT.eq_1
  have hA:=owA.eq_1
  simp only [owBody,owL,oq1,oq2,obl,L11_1.eq_1] at hT hA
  intro D
  induction D with
  | zero =>
    intro i hi H gs ks v u m tr hB
    have hlt:((i:Int)<(ts.length:Int))=False:=eq_false (by omega)
    simp [go_sem,run_codeL E owE,hT,hlt]
    exact hk H _ gs ks v u m (by simp [lk]) (by simp [lk]) (by simp [lk]) (by simp [lk]) tr
  | succ D ih =>
    intro i hi H gs ks v u m tr hB
    have hlt:((i:Int)<(ts.length:Int))=True:=eq_true (by omega)
    have hltn:i<ts.length:=by omega
    have ht:ts[i]?=some ts[i]:=List.getElem?_eq_getElem hltn
    have hto:=hts ts[i] (List.getElem_mem _)
    generalize ts[i]=t at ht hto
    have hti:(ts.map encTn)[i]?=some (encTn t):=by rw [List.getElem?_map,ht];rfl
    have hti2:∀ (q:i<(ts.map encTn).length),(ts.map encTn)[i]=encTn t:=fun q=>(List.getElem?_eq_some_iff.1 hti).2
    have hml:(ts.map encTn).length=ts.length:=by simp
    have hBB:=ow_B ts h3 n1 f1 z c13 h13 i t ht n b d bw fs w e he k Q (fun H gs ks v u m q1 q2=>by simpa using ih (i+1) (by omega) H gs ks v u m q1 q2)
    cases hput:t.put
    · have hB2:=fun τ=>hBB H τ gs ks v u m tr hB
      generalize ts.map encTn=rows at *
      simp only [encTn,hput] at hti hti2
      simp [go_sem,run_codeL E owE,hT,hA,hlt,hltn,hti,hti2,hml]
      refine hB2 _ ?_ ?_ ?_ ?_ ?_ ?_ ?_ ?_<;>simp [lk]
    · obtain ⟨H1,gs1,v1,hp1,n1',a1,k1⟩:=put_atW tr.hc hB.inv.ok t.f
      have tr1:=tr.onC n1' a1 k1
      obtain ⟨H2,ks2,u2,hp2,n2',a2,k2⟩:=put_atW tr1.ho hB.inv.ok t.f
      have tr2:=tr1.onO n2' a2 k2
      have hB2:=fun τ=>hBB H2 τ gs1 ks2 v1 u2 _ tr2 (hB.put hto)
      generalize ts.map encTn=rows at *
      simp only [encTn,hput] at hti hti2
      simp [encFr,u8v] at hp1 hp2
      simp [go_sem,run_codeL E owE,hT,hA,hlt,hltn,hti,hti2,hml,hp1,hp2]
      refine hB2 _ ?_ ?_ ?_ ?_ ?_ ?_ ?_ ?_<;>simp [lk]
set_option maxHeartbeats 16000000 in
theorem ctlOwn_spec (ts:List Tn) (hts:∀ t∈ts,t.f.Ok) (n1 f1:Bool) (av z:Int) :
    call E (.func (.func 11) [] []) [.imm n1 f1 true (ts.map encTn),.lit (.int .i64 av),.lit (.int .i64 z)] []=some (.lit (.bool true),[]):=by
  have ha:=awake10
  have hn:=nnew_spec
  have z1:=nnil_step
  have z2:=nnil_put Fr.zero
  have z3:=nnil_drive
  have z4:=nnil_look
  have z5:=nnil_queue
  have z6:=nnil_clone
  simp [encFr,u8v,Fr.zero,nilS] at z1 z2 z3 z4 z5 z6
  have h0:=nodeAt_can nd0 ⟨false,false,false,false,false⟩ []
  rw [List.append_nil] at h0
  have hre:=reach_p1 h0
  rw [call_func E E11]
  by_cases h3:(300:Int)<(ts.length:Int)
  · simp [go_sem,ir11,h3,ha,z1,z2,z3,z4,z5,z6,nilS]
  by_cases b1:av<0
  · simp [go_sem,ir11,h3,b1,ha,z1,z2,z3,z4,z5,z6,nilS]
  by_cases b2:(ts.length:Int)<av
  · simp [go_sem,ir11,h3,b1,b2,ha,z1,z2,z3,z4,z5,z6,nilS]
  obtain ⟨A,rfl⟩:∃ A:Nat,av=A:=⟨av.toNat,by omega⟩
  have hA:A≤ts.length:=by omega
  have hA2:¬ ts.length<A:=by omega
  have hl0:=fun k hk=>ow_loop0 ts (by omega) hts n1 f1 A hA z k (some (.lit (.bool true),[])) hk A 0 (by omega) _ _ nd0 (nodeAt_sw1 h0) ⟨nd0_inv,by decide,by decide⟩
  have hl1:=fun n b d bw fs w e he c13 h13 k hk=>ow_loop1 ts (by omega) hts n1 f1 z c13 h13 n b d bw fs w e he k (some (.lit (.bool true),[])) hk (ts.length - A) A (by omega)
  have hml:(ts.map encTn).length=ts.length:=by simp
  generalize ts.map encTn=rows at *
  simp [nilS] at hl0
  simp [go_sem,ir11,hml,h3,b1,b2,hA2,z1,z2,z3,z4,z5,z6,hn,back_new,nilS]
  rw [run_inLoop']
  simp [go_sem,hre]
  refine hl0 _ ?_
  intro H fs n τ t0 t1 t2 t10 h hB
  obtain ⟨H1,hlo,h1,a1⟩:=look_at h hB.inv.ok
  obtain ⟨w,hW⟩:=(nodeAt_append h1 [.box (lookC n)]).w
  have hbx:=ext_new h1 (.box (lookC n))
  obtain ⟨H2,hd,n2,a2,k2⟩:=drive_atW hW hB.inv
  have hbx2:=hbx.around a2
  obtain ⟨H3,b,gs,hc1,n3,c3,a3,k3,hb3,hg3⟩:=clone_atW n2 hB.inv.ok (by have:=hB.raw;omega)
  have hbx3:=hbx2.around a3
  obtain ⟨H4,d,ks,hc2,n4,c4,a4,k4,hb4,hg4⟩:=clone_atW n3 hB.inv.ok (by have:=hB.raw;omega)
  have hfs:∀ i∈fs,i<H2.length:=fun i hi=>nodeAt_lt n2.at i hi
  have hfs3:∀ i∈fs,i<H3.length:=fun i hi=>nodeAt_lt n3.at i hi
  have hgs3:∀ i∈gs,i<H3.length:=fun i hi=>nodeAt_lt c3.at i hi
  have snc:Sh n w fs n w gs:=fun i q1 q2=>by
    obtain ⟨e1,e2⟩:=hg3 i q2 (hfs i q1)
    exact ⟨e1,e2,rfl,rfl⟩
  have sno:Sh n w fs n w ks:=fun i q1 q2=>by
    obtain ⟨e1,e2⟩:=hg4 i q2 (hfs3 i q1)
    exact ⟨e1,e2,rfl,rfl⟩
  have sco:Sh n w gs n w ks:=fun i q1 q2=>by
    obtain ⟨e1,e2⟩:=hg4 i q2 (hgs3 i q1)
    exact ⟨e1,e2,rfl,rfl⟩
  obtain ⟨c4',snc4⟩:=sh_call c3 snc.symm a4 k4
  have hbl2:=hbx2.lt
  have hbl3:=hbx3.lt
  have xg:H1.length ∉ gs:=fun q=>by
    obtain ⟨e1,e2⟩:=hg3 _ q hbl2
    exact hbx2.out (e2 ▸ (n2.row e1).2)
  have xk:H1.length ∉ ks:=fun q=>by
    obtain ⟨e1,e2⟩:=hg4 _ q hbl3
    exact hbx3.out (e2 ▸ (n3.row e1).2)
  have hbx4:=hbx3.around a4
  have tr:Tri H4 n n n b d H1.length fs gs ks w w w (.box (lookC n)):=⟨n4,c4',c4,snc,sno,sco,hbx4,⟨hbx4.get,xg⟩,⟨hbx4.get,xk⟩⟩
  have g4:=tr.x1.get
  obtain ⟨H5,l5,n5,a5,k5⟩:=look_atW tr.hc hB.inv.ok
  have tr5:=tr.onC n5 a5 k5
  have g5:=tr5.x1.get
  obtain ⟨H6,d6,n6,a6,k6⟩:=drive_atW tr5.hc hB.inv
  have tr6:=tr5.onC n6 a6 k6
  obtain ⟨H7,fu7,q7,n7,a7,k7,c7⟩:=queue_atW tr6.hc hB.inv.ok
  have tr7:=tr6.onC n7 a7 k7
  obtain ⟨H8,fu8,q8,n8,a8,k8,c8⟩:=queue_atW tr7.hn hB.inv.ok
  have tr8:=tr7.onN n8 a8 k8
  have rest:∀ Hx:Heap,Tri Hx n n n b d H1.length fs gs ks w w w (.box (lookC n))→∃ R,reach Hx purse [0,H1.length,b,d] []=some R∧∀ k,(∀ H τ gs ks v u m,lk 2 τ=.lit (.int .i64 z)→lk 10 τ=.ptr 0 0→lk 12 τ=.ptr H1.length 0→lk 13 τ=.lit (.int .i64 (lv (drN n)))→Tri H n m m b d H1.length fs gs ks w v u (.box (lookC n))→finK 0 [.tmp 6] (run E 0 k τ H)=some (.lit (.bool true),[])) →
      finK 0 [.tmp 6] (run E 0 (.code L11_1::.inLoop [0,2,10,12,13,14,15,16] L11_1::.inBlock 2::k) [(0,.imm n1 f1 true rows),(2,.lit (.int .i64 z)),(10,.ptr 0 0),(12,.ptr H1.length 0),(13,.lit (.int .i64 (lv (drN n)))),(14,.ptr b 0),(15,.ptr d 0),(16,.lit (.int .i64 A))] (sweep R 0 Hx))=some (.lit (.bool true),[]):=by
    intro Hx tx
    obtain ⟨R,hre,hR1,-⟩:=tx.rch rfl [] (by simp) (by simp) (by simp)
    exact ⟨R,hre,fun k hk=>hl1 n b d H1.length fs w (.box (lookC n)) rfl (.lit (.int .i64 (lv (drN n)))) rfl k hk (sweep R 0 Hx) gs ks w w n (tx.swp hR1) hB⟩
  have fin:∀ H gs ks v u m,Tri H n m m b d H1.length fs gs ks w v u (.box (lookC n))→∃ H2 H3,callK1 (call E) H (some (.func (.func 18) [] [],[])) (some ([.ptr 0 0],[]))=some (.agg (lookC n),H2)∧callK1 (call E) H2 (some (.func (.func 16) [] [],[])) (some ([.ptr 0 0],[]))=some (.lit (.int .i64 (lv (drN n))),H3)∧H[H1.length]?=some (.box (lookC n))∧H2[H1.length]?=some (.box (lookC n))∧(¬ z=0→¬ z=1→∃ H4 H5,callK1 (call E) H3 (some (.func (.func 17) [] [],[])) (some ([.ptr 0 0,.lit (.int .i64 z)],[]))=some (.tup [nilS,.lit (.int .i64 10)],H4)∧callK1 (call E) H4 (some (.func (.func 18) [] [],[])) (some ([.ptr 0 0],[]))=some (.agg (lookC n),H5)∧H4[H1.length]?=some (.box (lookC n))∧H5[H1.length]?=some (.box (lookC n))):=by
    intro H gs ks v u m tx
    obtain ⟨H2,e1,n2,a2,k2⟩:=look_atW tx.hn hB.inv.ok
    have tx2:=tx.onN n2 a2 k2
    obtain ⟨H3,e2,n3,a3,k3⟩:=drive_atW tx2.hn hB.inv
    have tx3:=tx2.onN n3 a3 k3
    refine ⟨H2,H3,e1,e2,tx.x1.get,tx2.x1.get,fun h0 h1=>?_⟩
    obtain ⟨H4,e4,n4,a4,k4⟩:=bad_atW tx3.hn z h0 h1
    have tx4:=tx3.onN n4 a4 k4
    obtain ⟨H5,e5,n5,a5,k5⟩:=look_atW tx4.hn hB.inv.ok
    have tx5:=tx4.onN n5 a5 k5
    exact ⟨H4,H5,e4,e5,tx4.x1.get,tx5.x1.get⟩
  simp only [lookC] at fin
  simp only [lookC] at hlo hd hc1 hc2 l5 g4 g5
  cases hnq:n.nq
  · obtain ⟨y1,y2⟩:=c7 hnq
    obtain ⟨y3,y4⟩:=c8 hnq
    rw [hnq,if_neg (by simp)] at q7 q8
    have hfr:=fun a b c d=>frames_same n.q (by have:=hB.inv.ok.ql;omega) a b c d
    have hlt6:=fun i hi=>tr6.lt i hi
    have hlt7:=fun i hi=>tr7.lt i hi
    have y1':H8[H6.length]?=some (.arr true false fu7 12 (n.q.map encFr)):=by
      rw [a8.same _ (by omega) (fun q=>by have:=hlt6 _ (.inl q);omega)];exact y1
    have y3s:∀ e,(H8.set H6.length e)[H7.length]?=some (.arr true false fu8 12 (n.q.map encFr)):=fun e=>by rw [List.getElem?_set_ne (by omega)];exact y3
    have tr9:∀ e e':Entry,Tri ((H8.set H6.length e).set H7.length e') n n n b d H1.length fs gs ks w w w (.box (lookC n)):=fun e e'=>tr8.same fun i hi=>by
      have h6:=hlt6 i hi
      rw [List.getElem?_set_ne (by omega),List.getElem?_set_ne (by omega)]
    simp [go_sem,t0,t1,t2,t10,hlo,hd,hc1,hc2,l5,g4,g5,d6,q7,q8,y1,y1',y3,y3s,hfr,histK,calm]
    obtain ⟨R,hre,hr⟩:=rest _ (tr9 (.arr true true fu7 12 (n.q.map encFr)) (.arr true true fu8 12 (n.q.map encFr)))
    rw [run_inLoop']
    simp [go_sem,t0,t2,t10,hre]
    refine hr _ ?_
    intro H τ gs ks v u m t2 t10 t12 t13 tx
    obtain ⟨H2,H3,e1,e2,e3,e4,e5⟩:=fin H gs ks v u m tx
    by_cases y0:z=0
    · simp [go_sem,t2,t10,t12,t13,e1,e2,e3,e4,y0,ha]
    · by_cases y1:z=1
      · simp [go_sem,t2,t10,t12,t13,e1,e2,e3,e4,y1,ha]
      · obtain ⟨H4,H5,e6,e7,e8,e9⟩:=e5 y0 y1
        simp [nilS] at e6
        simp [go_sem,t2,t10,t12,t13,e1,e2,e3,e4,e6,e7,e8,e9,y0,y1,ha]
  · rw [hnq,if_pos rfl] at q7 q8
    have hfr:=fun a b c d=>frames_same [] (by simp) a b c d
    simp [nilS] at q7 q8 hfr
    simp [go_sem,t0,t1,t2,t10,hlo,hd,hc1,hc2,l5,g4,g5,d6,q7,q8,hfr,histK,calm]
    obtain ⟨R,hre,hr⟩:=rest _ tr8
    rw [run_inLoop']
    simp [go_sem,t0,t2,t10,hre]
    refine hr _ ?_
    intro H τ gs ks v u m t2 t10 t12 t13 tx
    obtain ⟨H2,H3,e1,e2,e3,e4,e5⟩:=fin H gs ks v u m tx
    by_cases y0:z=0
    · simp [go_sem,t2,t10,t12,t13,e1,e2,e3,e4,y0,ha]
    · by_cases y1:z=1
      · simp [go_sem,t2,t10,t12,t13,e1,e2,e3,e4,y1,ha]
      · obtain ⟨H4,H5,e6,e7,e8,e9⟩:=e5 y0 y1
        simp [nilS] at e6
        simp [go_sem,t2,t10,t12,t13,e1,e2,e3,e4,e6,e7,e8,e9,y0,y1,ha]
end Go.AM.R1
open Go Go.AM Go.Proofs
namespace Go.AM.R1
section
variable {H:Type} {P:Program}
/-- A turn of a node. -/
theorem dec_turn {n:Nat} {t e:TypeId} {g1 g2 g3 f1 f2 f3 f4 f5:Field} (hs:P.underlying t=some (.struct #[g1,g2,g3])) (h1:P.underlying g1.type=some .bool) (i:IsFr P g2.type f1 f2 f3 f4 f5 e) (h3:P.underlying g3.type=some (.int .i64)) {d:DataW H} {cs:List AVal} (h:Dec P (n+4) t d cs):∃ r:Tn,cs=encTn r∧r.f.Ok:=by
  rw [Dec,hs] at h
  obtain ⟨parts,ass,-,rfl,hf⟩:=h
  obtain ⟨p1,ps1,a1,as1,rfl,rfl,r1,hf⟩:=fieldsR_cons hf
  obtain ⟨p2,ps2,a2,as2,rfl,rfl,r2,hf⟩:=fieldsR_cons hf
  obtain ⟨p3,ps3,a3,as3,rfl,rfl,r3,hf⟩:=fieldsR_cons hf
  obtain ⟨rfl,rfl⟩:=fieldsR_nil hf
  simp only [Dec,h1] at r1
  simp only [Dec,h3] at r3
  obtain ⟨b1,-,rfl⟩:=r1
  obtain ⟨f,rfl,hfo⟩:=dec_frame i r2
  obtain ⟨v3,-,w3,rfl⟩:=r3
  exact ⟨⟨b1,f,v3⟩,by simp [encTn,encFr,u8v],hfo⟩
theorem decV_turns {n:Nat} {s t e:TypeId} {g1 g2 g3 f1 f2 f3 f4 f5:Field} (hu:P.underlying s=some (.slice t)) (hs:P.underlying t=some (.struct #[g1,g2,g3])) (h1:P.underlying g1.type=some .bool) (i:IsFr P g2.type f1 f2 f3 f4 f5 e) (h3:P.underlying g3.type=some (.int .i64)) {d:DataW H} {a:AVal} (h:DecV P (n+5) s d a) :
    ∃ (nl fu:Bool) (l:List Tn),a=.imm nl fu true (l.map encTn)∧(∀ t∈l,t.f.Ok)∧l.length≤9223372036854775807:=by
  unfold DecV at h
  rw [if_neg (by simp [isAggT,hu])] at h
  rw [Dec,hu] at h
  rcases h with ⟨-,h⟩ | ⟨elems,spare,rows,-,h,h2,h3'⟩
  · exact ⟨true,true,[],by simpa [nilS] using h,by simp,by simp⟩
  · obtain ⟨l,rfl,hl⟩:=rows_map encTn (fun t=>t.f.Ok) (all2_forall (Q:=fun b=>∃ r:Tn,b=encTn r∧r.f.Ok) (fun a b hab=>dec_turn hs h1 i h3 hab) h2)
    exact ⟨false,false,l,by simpa using h,hl,by simpa [maxLen] using h3'⟩
end
end Go.AM.R1
open Go Go.AM Go.AM.R1 Go.Proofs
namespace Go.Proofs.YtkmacpimokhpgaaGreat
open Go.ChangeShapes Go.WideShapes Go.ChangeAt Go.RowKit
namespace ctlOwn
theorem own:ownKnob Tryz.prog.godebug=none:=by kernel_rfl
theorem laidOut:laidOutB Tryz.prog=true:=by kernel_rfl
theorem mixed:Tryz.prog.follows .mixedOrders=true:=by kernel_rfl
set_option maxRecDepth 100000 in
theorem contract (H:Type) (enc:TypeId × Value→H) (W:World) (base:Nat) (args:Array Value) (ds gs:List (DataW H)) (before:List MemPlace)
    (hval:∀ (j:Nat) t v,Tryz.f11.params[j]?=some t→args[j]?=some v→Value.okWide Tryz.prog W .any base t v)
    (hW:DataW.Whole enc Tryz.prog Tryz.f11.params.toList Rows.ctlOwnSpec.vars false W args.toList ds gs before) :
    Calls Tryz.prog 11 args W fun e W'=>∃ v,e=.returned v∧Rows.ctlOwnSpec.post enc Tryz.prog Tryz.f11 false true false false W args v W':=by
  refine law_contract (id:=11) (f:=Tryz.f11) (s:=Rows.ctlOwnSpec) (k:=7) (nargs:=3) (base:=base) (ds:=ds) (gs:=gs) (before:=before) mixed libs_ok R1.hE laidOut ?e1 ?e2 (tb:=4) ?e3 Tryz.underlying4 ?e4 ?e5 ?e7 ?e8 ?e6
  case e7=>exact hval
  case e8=>exact hW
  case e1=>rfl
  case e3=>kernel_rfl
  case e4=>rw [Tryz.params11];rfl
  · rw [Tryz.params11];decide +kernel
  · intro ds h
    match ds,h with
    | [d1,d2,d3],_=>rfl
  · intro cs hA
    rw [Tryz.params11] at hA
    obtain ⟨d1,r1,a1,s1,rfl,rfl,h1,hA⟩:=decArgs_cons hA
    obtain ⟨d2,r2,a2,s2,rfl,rfl,h2,hA⟩:=decArgs_cons hA
    obtain ⟨d3,r3,a3,s3,rfl,rfl,h3,hA⟩:=decArgs_cons hA
    obtain ⟨rfl,rfl⟩:=decArgs_nil hA
    obtain ⟨n1,f1,ts,rfl,hfo,-⟩:=decV_turns (n:=2) Tryz.underlying46 Tryz.underlying50 Tryz.underlying4 ⟨Tryz.underlying32,Tryz.underlying3,Tryz.underlying4,Tryz.underlying4,Tryz.underlying3,Tryz.underlying30,Tryz.underlying5⟩ Tryz.underlying3 h1
    obtain ⟨av,-,hw2,rfl⟩:=decV_int (n:=6) Tryz.underlying3 h2
    obtain ⟨zv,-,hw3,rfl⟩:=decV_int (n:=6) Tryz.underlying3 h3
    obtain ⟨n,hn⟩:=(call_iff R1.E).1 (ctlOwn_spec ts hfo n1 f1 av zv)
    exact ⟨n,_,hn⟩

set_option maxRecDepth 100000 in
theorem lifted (os:Os) (started:os.Started) (H:Type) (enc:TypeId × Value→H) :
    ReturnsInHanded {} Tryz.checked os 11 .any (Rows.ctlOwnSpec.pre6 enc Tryz.prog Tryz.f11 Rows.ctlOwnRow.domain false) (Rows.ctlOwnSpec.post enc Tryz.prog Tryz.f11 false true false false):=by
  refine returnsInHanded_of_change (C:=Tryz.checked) own started (by kernel_rfl) Tryz.func11
    (ChangeSpec.witness6 (enc:=enc) (C:=Tryz.checked) false ⟨#[],#[.slice none 0 0,.int .i64 0,.int .i64 0],[]⟩ 8 (by kernel_rfl) (by kernel_rfl) (by kernel_rfl) (by kernel_rfl)) ?_
  intro W base args ds gs before hval hW _ _
  exact contract H enc W base args ds gs before hval hW

theorem proved:Rows.CtlOwnSaid :=
  OpenClaim.holds_of_wide 11 Tryz.f11 rfl rfl rfl rfl rfl rfl rfl ⟨rfl,rfl,rfl,rfl,rfl⟩ rfl rfl rfl rfl rfl (by kernel_rfl) Tryz.func11 (by kernel_rfl)
    (of_decide_eq_true (by kernel_rfl)) (by unfold Func.isWrapper;first | (rw [if_pos (by decide +kernel)];kernel_rfl) | (rw [if_neg (by decide +kernel)];exact ⟨rfl,rfl⟩))
    (fun os started H enc _=>lifted os started H enc)
end ctlOwn
theorem ctlOwnProved:Rows.CtlOwnSaid:=ctlOwn.proved
end Go.Proofs.YtkmacpimokhpgaaGreat
