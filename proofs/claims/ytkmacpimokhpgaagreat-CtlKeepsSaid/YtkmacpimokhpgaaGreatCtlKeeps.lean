/- The law CtlKeeps of package magnetolaw10 returns true for every input, and its arguments read as before. -/
import Derived.Test.YtkmacpimokhpgaaGreatCtl3
import Derived.ProofKit
set_option linter.unusedVariables false
set_option linter.unusedSimpArgs false
open Go Go.AM
namespace Go.AM.R1
/-! ### A node calms: how far it counts in each mode -/
structure KOk (n:Nd):Prop where
  k0:n.mode=0→n.k≤10
  k3:n.mode=3∨n.mode=5→n.k≤5
  k4:n.mode=4→n.k≤5
  k7:n.mode=7→1≤n.k∧n.k≤7
  k8:n.mode=8→n.k≤2
  k9:n.mode=9→n.k≤7
  k10:n.mode=10→n.k≤10
theorem KOk.zero {n:Nd} (h:n.k=0) (h7:n.mode≠7):KOk n:=⟨fun _=>by omega,fun _=>by omega,fun _=>by omega,fun q=>absurd q h7,fun _=>by omega,fun _=>by omega,fun _=>by omega⟩
theorem KOk.calm {n:Nd} (h:n.mode=1∨n.mode=2∨n.mode=6):KOk n:=⟨fun _=>by omega,fun _=>by omega,fun _=>by omega,fun _=>by omega,fun _=>by omega,fun _=>by omega,fun _=>by omega⟩
theorem KOk.of {m:Nd} {x y:Nat} (hx:m.mode=x) (hy:m.k=y) (h:(x=0→y≤10)∧(x=3∨x=5→y≤5)∧(x=4→y≤5)∧(x=7→1≤y∧y≤7)∧(x=8→y≤2)∧(x=9→y≤7)∧(x=10→y≤10)):KOk m:=by
  subst hx hy
  obtain ⟨h1,h2,h3,h4,h5,h6,h7⟩:=h
  exact ⟨h1,h2,h3,h4,h5,h6,h7⟩
end Go.AM.R1
open Go Go.AM
namespace Go.AM.R1
/-! ### What is in the queue, and what is sent -/
def noSent (l:List (Nat × Fr)):Prop:=∀ e∈l,e.1≠1
theorem evs_no {ks:List Nat} {f:Fr} (h:∀ k∈ks,k≠1):noSent (evsOf ks f):=by
  intro e he
  unfold evsOf at he
  obtain ⟨k,hk,rfl⟩:=List.mem_map.1 he
  exact h k hk
theorem fail_no (n:Nd) (kd:Nat) (c:Bool) (h:kd≠1):∀ k∈(failN n kd c).1,k≠1:=by
  intro k hk
  unfold failN at hk
  repeat' split at hk
  all_goals (simp at hk;omega)
/-- What a step does to the queue. -/
def QStep (n m:Nd) (es:List (Nat × Fr)):Prop:=(noSent es∧m.q=n.q)∨∃ f,f∈n.q∧es=[(1,f)]∧m.q=delL f n.q
theorem QStep.no {n m:Nd} {ks:List Nat} {f:Fr} (h:∀ k∈ks,k≠1) (hq:m.q=n.q):QStep n m (evsOf ks f):=.inl ⟨evs_no h,hq⟩
theorem step_q {n:Nd} (hI:n.Inv) (b:Bool):QStep n (nxN n b) (evN n b):=by
  have hev:evN n b=evsOf (stepN n b).1 (stepN n b).2.1:=rfl
  have hnx:nxN n b=(stepN n b).2.2:=rfl
  rw [hev,hnx]
  have hm:=hI.mode
  have hcases:n.mode=0∨n.mode=1∨n.mode=2∨n.mode=3∨n.mode=4∨n.mode=5∨n.mode=6∨n.mode=7∨n.mode=8∨n.mode=9∨n.mode=10:=by omega
  rcases hcases with h | h | h | h | h | h | h | h | h | h | h
  · rw [show stepN n b=noFr (joinN n b) by unfold stepN;rw [h];rfl]
    exact .no (by unfold joinN noFr;simp) (join_keep n b).q
  · rw [show stepN n b=noFr (idleN n b) by unfold stepN;rw [h];rfl]
    unfold idleN noFr
    split
    · exact .no (by simp) rfl
    · split
      · exact .no (by simp) rfl
      · exact .no (fail_no _ _ _ (by decide)) (fail_keep { n with tx:=true } 4 true).q
  · rw [show stepN n b=inN n b by unfold stepN;rw [h];rfl]
    have hf:=hI.inf h
    have t:=take_same n true
    unfold inN
    split
    · rename_i hs
      split
      · split
        · refine .no (fail_no _ _ _ (by decide)) ?_
          show (failN n 8 (!decide (n.ct.state=1))).2.q=n.q
          rw [(fail_keep n _ _).q]
        · split
          · refine .inr ⟨n.own,(hf.se hs).mem,rfl,?_⟩
            show delL (takeN n true).2.own (takeN n true).2.q=_
            rw [t.2.2.2.2.2.2.2.2.1,t.1]
          · exact .no (by simp) (take_same n b).1
      · split
        · exact .no (fail_no _ _ _ (by decide)) (fail_keep n _ _).q
        · split
          · split
            · exact .no (fail_no _ _ _ (by decide)) (fail_keep n _ _).q
            · exact .no (by simp) (take_same { n with tx:=false,sends:=false } false).1
          · split
            · exact .no (by simp) (take_same n false).1
            · exact .no (fail_no _ _ _ (by decide)) (fail_keep n _ _).q
    · repeat' split
      all_goals first
        | exact .no (fail_no _ _ _ (by decide)) (fail_keep n _ _).q
        | exact .no (by simp) (take_same n _).1
        | exact .no (by simp [overN]) rfl
        | exact .no (by simp) t.1
  · rw [show stepN n b=noFr (domN n b) by unfold stepN;rw [h];rfl]
    refine .no ?_ (dom_keep n b).q
    unfold domN noFr
    repeat' split
    all_goals simp
  · rw [show stepN n b=noFr (pasN n b) by unfold stepN;rw [h];rfl]
    refine .no ?_ (pas_keep n b).q
    unfold pasN noFr
    repeat' split
    all_goals simp
  · rw [show stepN n b=noFr (domN n b) by unfold stepN;rw [h];rfl]
    refine .no ?_ (dom_keep n b).q
    unfold domN noFr
    repeat' split
    all_goals simp
  · rw [show stepN n b=noFr (waitN n b) by unfold stepN;rw [h];rfl]
    refine .no ?_ (wait_keep n b).q
    unfold waitN noFr
    repeat' split
    all_goals simp
  · rw [show stepN n b=noFr (closeN n b) by unfold stepN;rw [h];rfl]
    refine .no ?_ (close_keep n b).q
    unfold closeN noFr
    split
    · simp
    · split
      · simp [overN]
      · exact fail_no _ _ _ (by decide)
  · rw [show stepN n b=noFr (pausN n b) by unfold stepN;rw [h];rfl]
    unfold pausN noFr
    split
    · exact .no (by unfold pauseN;simp) (pause_keep n).q
    · split
      · exact .no (by simp [overN]) rfl
      · exact .no (by simp) rfl
  · rw [show stepN n b=noFr (sspN n b) by unfold stepN;rw [h];rfl]
    unfold sspN noFr
    split
    · exact .no (by unfold suspN;simp) (susp_keep n).q
    · exact .no (by simp) rfl
  · rw [show stepN n b=noFr (offN n b) by unfold stepN;rw [h];rfl]
    refine .no ?_ (boff_keep n b).q
    unfold offN noFr
    repeat' split
    all_goals simp
theorem fl_len (n:Nd) (kd:Nat) (c:Bool):(failN n kd c).1.length≤2:=by
  unfold failN;repeat' split
  all_goals simp
theorem k_len (n:Nd) (b:Bool):(stepN n b).1.length≤2:=by
  have hf:=fl_len n
  have hf2:=fl_len { n with tx:=true } 4 true
  have hn:(nackN n).1.length≤2:=hf 8 _
  unfold stepN
  split
  · exact Nat.zero_le _
  · unfold idleN;repeat' split
    · exact Nat.zero_le _
    · exact Nat.zero_le _
    · exact hf2
  · unfold inN;repeat' split
    all_goals first | exact hf 4 true | exact hf 5 true | exact hf 5 false | exact hf 6 true | exact hf 7 true | exact hn | (show ([]:List Nat).length≤2;simp;done) | (simp;done) | (unfold overN;simp;done)
  · unfold domN;repeat' split
    all_goals (simp [noFr])
  · unfold pasN;repeat' split
    all_goals (simp [noFr])
  · unfold domN;repeat' split
    all_goals (simp [noFr])
  · unfold waitN;repeat' split
    all_goals (simp [noFr])
  · unfold closeN overN;repeat' split
    all_goals first | exact hf 7 true | simp [noFr]
  · unfold pausN pauseN overN;repeat' split
    all_goals (simp [noFr])
  · unfold sspN suspN;repeat' split
    all_goals (simp [noFr])
  · unfold offN;repeat' split
    all_goals (simp [noFr])
theorem e_len (n:Nd) (b:Bool):(evN n b).length≤2:=by
  unfold evN evsOf;rw [List.length_map];exact k_len n b
/-! ### Rows with the same frames -/
theorem perm_ins (f:Fr) (l:List Fr):(insP f l).Perm (f::l):=by
  unfold insP
  have:=List.perm_middle (a:=f) (l₁:=l.take (ixL f l)) (l₂:=l.drop (ixL f l))
  rw [List.take_append_drop] at this
  simpa using this
theorem perm_cut {l:List Fr} {a:Nat} {f:Fr} (h:l[a]?=some f):l.Perm (f::(l.take a++l.drop (a+1))):=by
  have hl:a<l.length:=(List.getElem?_eq_some_iff.1 h).1
  have e:l=l.take a++f::l.drop (a+1):=by
    have h1:l.drop a=l[a]::l.drop (a+1):=List.drop_eq_getElem_cons hl
    have h2:l[a]=f:=(List.getElem?_eq_some_iff.1 h).2
    rw [← h2,← h1,List.take_append_drop]
  have:=List.perm_middle (a:=f) (l₁:=l.take a) (l₂:=l.drop (a+1))
  rwa [← e] at this
theorem posL_get:∀ {l:List Fr} {f:Fr},f∈l→l[posL f l]?=some f
  | [],_,h=>by cases h
  | g :: r,f,h=>by
    unfold posL
    by_cases q:f=g
    · rw [if_pos q,q];rfl
    · rw [if_neg q]
      have:f∈r:=by
        rcases List.mem_cons.1 h with e | e
        · exact absurd e q
        · exact e
      simpa using posL_get this
theorem perm_del {l:List Fr} {f:Fr} (h:f∈l):l.Perm (f::delL f l):=perm_cut (posL_get h)
/-- One that is put in, and one that is taken out. -/
theorem perm_put {l q:List Fr} (f:Fr) (h:l.Perm q):(l++[f]).Perm (insP f q) :=
  ((List.perm_append_comm (l₁:=l) (l₂:=[f])).trans (h.cons f)).trans (perm_ins f q).symm
theorem perm_out {l q:List Fr} {f:Fr} {a:Nat} (h:l.Perm q) (ha:l[a]?=some f) (hf:f∈q):(l.take a++l.drop (a+1)).Perm (delL f q) :=
  (List.perm_cons f).1 ((perm_cut ha).symm.trans (h.trans (perm_del hf)))
theorem check_two (f:Fr):checkP f=0∨checkP f=14:=by
  unfold checkP
  repeat' split
  all_goals simp
end Go.AM.R1
open Go Go.AM
namespace Go.AM.R1
/-! ### A row of frames beside a node -/
def LeftAt (H:Heap) (fs:List Nat) (lv:AVal) (l:List Fr) (R:List Nat):Prop :=
  (lv=nilS∧l=[]∧R=[])∨∃ b lk fu,lv=.own b l.length 12 0 l.length∧R=[b]∧Ext H fs b (.arr true lk fu 12 (l.map encFr))
theorem LeftAt.refs {H:Heap} {fs:List Nat} {lv:AVal} {l:List Fr} {R:List Nat} (h:LeftAt H fs lv l R):refsV lv=R:=by
  rcases h with ⟨rfl,-,rfl⟩ | ⟨b,lk,fu,rfl,rfl,-⟩<;>rfl
theorem LeftAt.around {H H2:Heap} {fs fs2:List Nat} {lv:AVal} {l:List Fr} {R:List Nat} (h:LeftAt H fs lv l R) (a:Around H H2 fs fs2):LeftAt H2 fs2 lv l R:=by
  rcases h with h | ⟨b,lk,fu,h1,h2,h3⟩
  · exact .inl h
  · exact .inr ⟨b,lk,fu,h1,h2,h3.around a⟩
theorem LeftAt.sweep {H:Heap} {fs:List Nat} {lv:AVal} {l:List Fr} {R T:List Nat} (h:LeftAt H fs lv l R) (hT:∀ i∈R,i∈T):LeftAt (sweep T 0 H) fs lv l R:=by
  rcases h with h | ⟨b,lk,fu,h1,h2,h3⟩
  · exact .inl h
  · exact .inr ⟨b,lk,fu,h1,h2,ext_sweep h3 (hT b (by rw [h2];simp))⟩
theorem LeftAt.lt {H:Heap} {fs:List Nat} {lv:AVal} {l:List Fr} {R:List Nat} (h:LeftAt H fs lv l R):∀ i∈R,i<H.length∧i ∉ fs:=by
  rcases h with ⟨-,-,rfl⟩ | ⟨b,lk,fu,h1,rfl,h3⟩
  · simp
  · intro i hi;simp at hi;subst hi;exact ⟨h3.lt,h3.out⟩
theorem LeftAt.same {H H2:Heap} {fs:List Nat} {lv:AVal} {l:List Fr} {R:List Nat} (h:LeftAt H fs lv l R) (hs:∀ i∈R,H2[i]?=H[i]?):LeftAt H2 fs lv l R:=by
  rcases h with h | ⟨b,lk,fu,h1,h2,h3⟩
  · exact .inl h
  · exact .inr ⟨b,lk,fu,h1,h2,⟨by rw [hs b (by rw [h2];simp)];exact h3.get,h3.out⟩⟩
theorem left_reach {H:Heap} {a:Nat} {n:Nd} {fs:List Nat} (h:NodeAt H a n fs) {lv:AVal} {l:List Fr} {R:List Nat} (hl:LeftAt H fs lv l R):reach H purse (a::R) []=some (fs++R):=by
  rcases hl with ⟨-,-,rfl⟩ | ⟨b,lk,fu,-,rfl,h3⟩
  · rw [List.append_nil];exact reach_p1 h
  · exact reach_p2 h h3
theorem left_reach2 {H:Heap} {a:Nat} {n:Nd} {fs:List Nat} (h:NodeAt H a n fs) {lv:AVal} {l:List Fr} {R:List Nat} (hl:LeftAt H fs lv l R) {ix:Nat} {e:Entry} (hx:Ext H fs ix e) (hi:ix ∉ R) (he:refsE e=[]):reach H purse (a::(R++[ix])) []=some (fs++R++[ix]):=by
  have hm:=reach_mix h [] (R++[ix]) (by
    intro b hb
    rcases hl with ⟨-,-,rfl⟩ | ⟨c,lk,fu,-,rfl,h3⟩
    · simp at hb;rw [hb];exact ⟨_,hx.get,he⟩
    · simp at hb
      rcases hb with q | q
      · rw [q];exact ⟨_,h3.get,rfl⟩
      · rw [q];exact ⟨_,hx.get,he⟩) (by
    rcases hl with ⟨-,-,rfl⟩ | ⟨c,lk,fu,-,rfl,h3⟩
    · simp only [List.nil_append]
      rw [List.nodup_append]
      refine ⟨nodeAt_nodup h,by simp,?_⟩
      intro x hx1 y hy e
      simp at hy;subst hy;subst e;exact hx.out hx1
    · simp only [List.nil_append]
      rw [List.nodup_append]
      simp at hi
      refine ⟨nodeAt_nodup h,by simp;exact fun q=>hi q.symm,?_⟩
      intro x hx1 y hy e
      simp at hy
      rcases hy with q | q
      · subst q;subst e;exact h3.out hx1
      · subst q;subst e;exact hx.out hx1) (by
    rcases hl with ⟨-,-,rfl⟩ | ⟨c,lk,fu,-,rfl,h3⟩<;>simp)
  simpa using hm
theorem frames_loop (l:List Fr) (hl:l.length≤1000) (n1 f1 n2 f2:Bool) (k:List Item)
    (hk:∀ τ,finK 0 [.tmp 4] (run E 0 k τ [])=some (.lit (.bool true),[])) :
    ∀ (d i:Nat),i+d=l.length→finK 0 [.tmp 4] (run E 0 (.code L26_0::.inLoop [0,1,5] L26_0::.inBlock 0::k) [(0,.imm n1 f1 true (l.map encFr)),(1,.imm n2 f2 true (l.map encFr)),(5,.lit (.int .i64 i))] [])=some (.lit (.bool true),[]):=by
  intro d
  induction d with
  | zero =>
    intro i hi
    have hlt:((i:Int)<(l.length:Int))=False:=eq_false (by omega)
    simp [go_sem,run_codeL E L26_0.eq_1,hlt]
    exact hk _
  | succ d ih =>
    intro i hi
    have hlt:i<l.length:=by omega
    have w:=wrapIdx (i:=i) (by omega)
    have ih2:=ih (i+1) (by omega)
    simp [encFr,u8v] at ih2 w
    simp [go_sem,run_codeL E L26_0.eq_1,hlt,List.getElem?_eq_getElem hlt,encFr,u8v,↓aleaves_fr,w]
    rw [run_inLoop']
    simp [go_sem,purse_eq,List.range_succ]
    exact ih2
theorem frames_same (l:List Fr) (hl:l.length≤1000) (n1 f1 n2 f2:Bool):call E (.func (.func 26) [] []) [.imm n1 f1 true (l.map encFr),.imm n2 f2 true (l.map encFr)] []=some (.lit (.bool true),[]):=by
  rw [call_func E E26]
  have h:=frames_loop l hl n1 f1 n2 f2
  have h2:=fun k hk=>h k hk l.length 0 (by omega)
  have hml:(l.map encFr).length=l.length:=by simp
  generalize l.map encFr=rows at *
  simp at h2
  simp [go_sem,ir26]
  rw [run_inLoop']
  simp [go_sem,purse_eq,List.range_succ]
  refine h2 _ ?_
  intro τ
  simp [go_sem]
end Go.AM.R1
open Go Go.AM
namespace Go.AM.R1
/-! ### Turns -/
structure Tn where
  put:Bool
  f:Fr
  lev:Int
def encTn (t:Tn):List AVal:=[.lit (.bool t.put),.lit (.int .i64 t.f.id),.lit (.bool t.f.ext),.lit (.bool t.f.rtr),.lit (.int .i64 t.f.len),.lit (.int .u8 t.f.d0),.lit (.int .u8 t.f.d1),.lit (.int .u8 t.f.d2),.lit (.int .u8 t.f.d3),.lit (.int .u8 t.f.d4),.lit (.int .u8 t.f.d5),.lit (.int .u8 t.f.d6),.lit (.int .u8 t.f.d7),.lit (.int .i64 t.lev)]
def levelP (t:Tn) (d:Bool):Bool:=if t.lev=0 then false else if t.lev=1 then true else d
theorem tlevel_spec (t:Tn) (d:Bool):call E (.func (.func 20) [] []) [.agg (encTn t),.lit (.int .i64 (lv d))] []=some (.lit (.int .i64 (lv (levelP t d))),[]):=by
  rw [call_func E E20]
  unfold levelP
  by_cases h0:t.lev=0
  · simp [go_sem,ir20,encTn,h0,lvF,purse_eq,List.range_succ]
  · by_cases h1:t.lev=1
    · simp [go_sem,ir20,encTn,h1,lvT,purse_eq,List.range_succ]
    · simp [go_sem,ir20,encTn,h0,h1,purse_eq,List.range_succ]
end Go.AM.R1
open Go Go.AM
namespace Go.AM.R1
/-! ### A node that has joined, with frames -/
theorem put_ok {n:Nd} {f:Fr} (hc:checkP f=0) (hl:n.q.length<16):nputN n f=(0,{ n with q:=insP f n.q,nq:=false }):=by
  unfold nputN
  rw [if_neg (by simp [hc]),if_neg (by omega)]
end Go.AM.R1
open Go Go.AM
namespace Go.AM.R1
def kq1:ICode→ICode | .seq x _=>x | c=>c
def kq2:ICode→ICode | .seq _ y=>y | c=>c
def kbl:ICode→ICode | .block _ c=>c | c=>c
def kkL:ICode:=L10_0
def kkT:ICode:=kq1 kkL
def kkBody:ICode:=kbl (kq1 (kq2 kkL))
def kkI:ICode:=kq2 (kq2 kkL)
def kkA:ICode:=kq1 kkBody
def kkB:ICode:=kq2 kkBody
theorem kkE:L10_0=.seq kkT (.seq (.block 1 (.seq kkA kkB)) kkI):=rfl
abbrev kkK (k:List Item):List Item:=.inBlock 1::.code kkI::.inLoop [0,3,4,5,6,7] L10_0::.inBlock 0::k
set_option maxHeartbeats 4000000 in
/-- The events, none of which is Sent. -/
theorem kk_loop1n (lv0 c4 c5 lv c7:AVal) (h0:refsV lv0=[]) (h4:refsV c4=[]) (h5:refsV c5=[]) (h7:refsV c7=[]) (l:List Fr) (R:List Nat) (hR:refsV lv=R) (m:Nd) (es:List (Nat × Fr)) (hes:noSent es) (hel:es.length≤1000) (ix:Nat) (hix:ix ∉ R) (k:List Item) (Q:Option (AVal × Heap))
    (hk:∀ H fs τ,lk 0 τ=lv0→lk 3 τ=.ptr 0 0→lk 4 τ=c4→lk 5 τ=c5→lk 6 τ=lv→lk 7 τ=c7→NodeAt H 0 m fs→LeftAt H fs lv l R→finK 0 [.tmp 2] (run E 0 k τ H)=Q) :
    ∀ (d j:Nat),j+d=es.length→∀ H fs,NodeAt H 0 m fs→LeftAt H fs lv l R→Ext H fs ix (.arr true false false 15 (es.map encEv)) →
    finK 0 [.tmp 2] (run E 0 (.code L10_1::.inLoop [0,3,4,5,6,7,10,12] L10_1::.inBlock 2::k) [(0,lv0),(3,.ptr 0 0),(4,c4),(5,c5),(6,lv),(7,c7),(10,.own ix es.length 15 0 es.length),(12,.lit (.int .i64 j))] H)=Q:=by
  intro d
  induction d with
  | zero =>
    intro j hj H fs h hl hx
    have hlt:((j:Int)<(es.length:Int))=False:=eq_false (by omega)
    simp [go_sem,run_codeL E L10_1.eq_1,hlt]
    exact hk H fs _ (by simp [lk]) (by simp [lk]) (by simp [lk]) (by simp [lk]) (by simp [lk]) (by simp [lk]) h hl
  | succ d ih =>
    intro j hj H fs h hl hx
    have hlt:((j:Int)<(es.length:Int))=True:=eq_true (by omega)
    have hltn:j<es.length:=by omega
    have w:=wrapIdx (i:=j) (by omega)
    have hej:(es.map encEv)[j]?=some (encEv es[j]):=by rw [List.getElem?_map,List.getElem?_eq_getElem hltn];rfl
    have hne:=hes es[j] (List.getElem_mem _)
    generalize es[j]=e at hej hne
    have hej2:∀ (q:j<(es.map encEv).length),(es.map encEv)[j]=encEv e:=fun q=>(List.getElem?_eq_some_iff.1 hej).2
    have hne2:((e.1:Int)=1)=False:=eq_false (by omega)
    have hml:(es.map encEv).length=es.length:=by simp
    have ih2:=ih (j+1) (by omega) (sweep (fs++R++[ix]) 0 H) fs (nodeAt_sweep h (by intro i hi;simp [hi])) (hl.sweep (by intro i hi;simp [hi])) (ext_sweep hx (by simp))
    have hre:=left_reach2 h hl hx hix rfl
    have g:=hx.get
    generalize es.map encEv=rows at *
    simp at w ih2 hre
    simp [encEv] at hej hej2
    simp [go_sem,run_codeL E L10_1.eq_1,hlt,hltn,hml,g,hej,hej2,hne,hne2,w]
    rw [run_inLoop']
    simp [go_sem,h0,h4,h5,h7,hR,hre]
    exact ih2
set_option maxHeartbeats 4000000 in
/-- Where a frame lies in the row. -/
theorem kk_loop2 (lv0 c4 c5 c7:AVal) (h0:refsV lv0=[]) (h4:refsV c4=[]) (h5:refsV c5=[]) (h7:refsV c7=[]) (l:List Fr) (hll:l.length≤1000) (f:Fr) (m:Nd) (b ix:Nat) (hbx:b≠ix) (lkb fub:Bool) (k:List Item) (Q:Option (AVal × Heap))
    (hk:∀ H fs τ (av:Int),lk 0 τ=lv0→lk 3 τ=.ptr 0 0→lk 4 τ=c4→lk 5 τ=c5→lk 6 τ=.own b l.length 12 0 l.length→lk 7 τ=c7→lk 10 τ=.own ix 1 15 0 1→lk 12 τ=.lit (.int .i64 0)→lk 13 τ=.lit (.int .i64 av)→((av=-1∧f ∉ l)∨∃ a:Nat,av=a∧l[a]?=some f)→NodeAt H 0 m fs→Ext H fs b (.arr true lkb fub 12 (l.map encFr))→Ext H fs ix (.arr true false false 15 [encEv (1,f)])→finK 0 [.tmp 2] (run E 0 k τ H)=Q) :
    ∀ (d j:Nat),j+d=l.length→∀ H fs (av:Int),((av=-1∧f ∉ l.take j)∨∃ a:Nat,av=a∧l[a]?=some f)→NodeAt H 0 m fs→Ext H fs b (.arr true lkb fub 12 (l.map encFr))→Ext H fs ix (.arr true false false 15 [encEv (1,f)]) →
    finK 0 [.tmp 2] (run E 0 (.code L10_2::.inLoop [0,3,4,5,6,7,10,12,13,14] L10_2::.inBlock 4::k) [(0,lv0),(3,.ptr 0 0),(4,c4),(5,c5),(6,.own b l.length 12 0 l.length),(7,c7),(10,.own ix 1 15 0 1),(12,.lit (.int .i64 0)),(13,.lit (.int .i64 av)),(14,.lit (.int .i64 j))] H)=Q:=by
  intro d
  induction d with
  | zero =>
    intro j hj H fs av hav h hb hx
    have hlt:((j:Int)<(l.length:Int))=False:=eq_false (by omega)
    rw [List.take_of_length_le (by omega)] at hav
    simp [go_sem,run_codeL E L10_2.eq_1,hlt]
    exact hk H fs _ av (by simp [lk]) (by simp [lk]) (by simp [lk]) (by simp [lk]) (by simp [lk]) (by simp [lk]) (by simp [lk]) (by simp [lk]) (by simp [lk]) hav h hb hx
  | succ d ih =>
    intro j hj H fs av hav h hb hx
    have hlt:((j:Int)<(l.length:Int))=True:=eq_true (by omega)
    have hltn:j<l.length:=by omega
    have w:=wrapIdx (i:=j) (by omega)
    have hlj:l[j]?=some l[j]:=List.getElem?_eq_getElem hltn
    have htk:l.take (j+1)=l.take j++[l[j]]:=by rw [List.take_succ_eq_append_getElem hltn]
    generalize l[j]=g at hlj htk
    have hgj:(l.map encFr)[j]?=some (encFr g):=by rw [List.getElem?_map,hlj];rfl
    have hgj2:∀ (q:j<(l.map encFr).length),(l.map encFr)[j]=encFr g:=fun q=>(List.getElem?_eq_some_iff.1 hgj).2
    have hml:(l.map encFr).length=l.length:=by simp
    have ih2:=fun av' hav'=>ih (j+1) (by omega) (sweep (fs++[b,ix]) 0 H) fs av' hav' (nodeAt_sweep h (by intro i hi;simp [hi])) (ext_sweep hb (by simp)) (ext_sweep hx (by simp))
    have hre:=reach_mix h [] [b,ix] (by
      intro x hx1
      simp at hx1
      rcases hx1 with q | q
      · rw [q];exact ⟨_,hb.get,rfl⟩
      · rw [q];exact ⟨_,hx.get,rfl⟩) (by
      simp only [List.nil_append]
      rw [List.nodup_append]
      refine ⟨nodeAt_nodup h,by simp [hbx],?_⟩
      intro x hx1 y hy e
      simp at hy
      rcases hy with q | q
      · subst q;subst e;exact hb.out hx1
      · subst q;subst e;exact hx.out hx1) (by simp)
    have gb:=hb.get
    have gx:=hx.get
    by_cases hfg:g=f
    · have ih3:=ih2 j (.inr ⟨j,rfl,by rw [hlj,hfg]⟩)
      generalize l.map encFr=rows at *
      simp at w ih3 hre
      simp [encFr,u8v] at hgj hgj2
      simp [encEv] at gx ih3
      simp [go_sem,run_codeL E L10_2.eq_1,hlt,hltn,hml,gb,gx,hgj,hgj2,↓aleaves_fr,hfg,w]
      rw [run_inLoop']
      simp [go_sem,h0,h4,h5,h7,hre]
      exact ih3
    · have ih3:=ih2 av (by
        rcases hav with ⟨q1,q2⟩ | q
        · refine .inl ⟨q1,?_⟩
          rw [htk]
          simp
          exact ⟨by simpa using q2,fun e=>hfg e.symm⟩
        · exact .inr q)
      generalize l.map encFr=rows at *
      simp at w ih3 hre
      simp [encFr,u8v] at hgj hgj2
      simp [encEv] at gx ih3
      simp [go_sem,run_codeL E L10_2.eq_1,hlt,hltn,hml,gb,gx,hgj,hgj2,↓aleaves_fr,hfg,w]
      rw [run_inLoop']
      simp [go_sem,h0,h4,h5,h7,hre]
      exact ih3
set_option maxHeartbeats 8000000 in
/-- A frame that was sent. -/
theorem kk_sent (lv0 c4 c7:AVal) (cs:Nat) (hcs:cs≤1000000) (h0:refsV lv0=[]) (h4:refsV c4=[]) (h7:refsV c7=[]) (l:List Fr) (hll:l.length≤1000) (f:Fr) (hf:f∈l) (m:Nd) (b ix:Nat) (hbx:b≠ix) (lkb fub:Bool) (k:List Item) (Q:Option (AVal × Heap))
    (hk:∀ H fs τ lv' R' (a:Nat),l[a]?=some f→lk 0 τ=lv0→lk 3 τ=.ptr 0 0→lk 4 τ=c4→lk 5 τ=.lit (.int .i64 ((cs:Int)+1))→lk 6 τ=lv'→lk 7 τ=c7→NodeAt H 0 m fs→LeftAt H fs lv' (l.take a++l.drop (a+1)) R'→finK 0 [.tmp 2] (run E 0 k τ H)=Q)
    (H:Heap) (fs:List Nat) (h:NodeAt H 0 m fs) (hb:Ext H fs b (.arr true lkb fub 12 (l.map encFr))) (hx:Ext H fs ix (.arr true false false 15 [encEv (1,f)])) :
    finK 0 [.tmp 2] (run E 0 (.code L10_1::.inLoop [0,3,4,5,6,7,10,12] L10_1::.inBlock 2::k) [(0,lv0),(3,.ptr 0 0),(4,c4),(5,.lit (.int .i64 cs)),(6,.own b l.length 12 0 l.length),(7,c7),(10,.own ix 1 15 0 1),(12,.lit (.int .i64 0))] H)=Q:=by
  have w5:=wrap64 (x:=(cs:Int)+1) (by omega) (by omega)
  have gx:=hx.get
  have reach2:∀ {H fs},NodeAt H 0 m fs→Ext H fs b (.arr true lkb fub 12 (l.map encFr))→Ext H fs ix (.arr true false false 15 [encEv (1,f)])→reach H purse [0,b,ix] []=some (fs++[b,ix]):=by
    intro H fs h hb hx
    have hre:=reach_mix h [] [b,ix] (by
      intro x hx1
      simp at hx1
      rcases hx1 with q | q
      · rw [q];exact ⟨_,hb.get,rfl⟩
      · rw [q];exact ⟨_,hx.get,rfl⟩) (by
      simp only [List.nil_append]
      rw [List.nodup_append]
      refine ⟨nodeAt_nodup h,by simp [hbx],?_⟩
      intro x hx1 y hy e
      simp at hy
      rcases hy with q | q
      · subst q;subst e;exact hb.out hx1
      · subst q;subst e;exact hx.out hx1) (by simp)
    simpa using hre
  have hre:=reach2 h hb hx
  have hl2:=fun k hk=>kk_loop2 lv0 c4 (.lit (.int .i64 ((cs:Int)+1))) c7 h0 h4 rfl h7 l hll f m b ix hbx lkb fub k Q hk l.length 0 (by omega) (sweep (fs++[b,ix]) 0 H) fs (-1) (.inl ⟨rfl,by simp⟩) (nodeAt_sweep h (by intro i hi;simp [hi])) (ext_sweep hb (by simp)) (ext_sweep hx (by simp))
  simp [encEv] at gx
  simp at hl2
  simp [go_sem,run_codeL E L10_1.eq_1,gx,w5]
  rw [run_inLoop']
  simp [go_sem,h0,h4,h7,hre]
  refine hl2 _ ?_
  intro H fs τ av t0 t3 t4 t5 t6 t7 t10 t12 t13 hav h hb hx
  rcases hav with ⟨-,q⟩ | ⟨a,rfl,ha⟩
  · exact absurd hf q
  · have hal:a<l.length:=(List.getElem?_eq_some_iff.1 ha).1
    have ha0:((a:Int)<0)=False:=eq_false (by omega)
    have wa:=wrap64 (x:=(a:Int)+1) (by omega) (by omega)
    have hml:(l.map encFr).length=l.length:=by simp
    have gb:=hb.get
    have hbl:=hb.lt
    have hre:=reach2 h hb hx
    obtain ⟨A,hA⟩:∃ A,A=l.take a:=⟨_,rfl⟩
    obtain ⟨B,hB⟩:∃ B,B=l.drop (a+1):=⟨_,rfl⟩
    have hAl:A.length=a:=by rw [hA,List.length_take];omega
    have hBl:B.length=l.length - (a+1):=by rw [hB,List.length_drop]
    have c1:cutE (l.map encFr) 0 a=A.map encFr:=by rw [hA];unfold cutE;simp [List.map_take]
    have c2:cutE (l.map encFr) (a+1) (l.length - (a+1))=B.map encFr:=by
      rw [hB];unfold cutE
      rw [List.take_of_length_le (by rw [hml];omega),List.map_drop]
    have after:∀ fu,reach (H++[.arr true false fu 12 ((A++B).map encFr)]) purse [0,H.length,ix] []=some (fs++[H.length,ix])∧finK 0 [.tmp 2] (run E 0 (.code L10_1::.inLoop [0,3,4,5,6,7,10,12] L10_1::.inBlock 2::k) [(0,lv0),(3,.ptr 0 0),(4,c4),(5,.lit (.int .i64 ((cs:Int)+1))),(6,.own H.length (A++B).length 12 0 (A++B).length),(7,c7),(10,.own ix 1 15 0 1),(12,.lit (.int .i64 1))] (sweep (fs++[H.length,ix]) 0 (H++[.arr true false fu 12 ((A++B).map encFr)])))=Q:=by
      intro fu
      have h2:=nodeAt_append h [.arr true false fu 12 ((A++B).map encFr)]
      have hb2:=ext_new h (.arr true false fu 12 ((A++B).map encFr))
      have hx2:=ext_append hx [.arr true false fu 12 ((A++B).map encFr)]
      have hxl:=hx.lt
      refine ⟨?_,?_⟩
      · have hre:=reach_mix h2 [] [H.length,ix] (by
          intro x hx1
          simp at hx1
          rcases hx1 with q | q
          · rw [q];exact ⟨_,hb2.get,rfl⟩
          · rw [q];exact ⟨_,hx2.get,rfl⟩) (by
          simp only [List.nil_append]
          rw [List.nodup_append]
          refine ⟨nodeAt_nodup h2,by simp;omega,?_⟩
          intro x hx1 y hy e
          simp at hy
          rcases hy with q | q
          · subst q;subst e;exact hb2.out hx1
          · subst q;subst e;exact hx2.out hx1) (by simp)
        simpa using hre
      · have hn:NodeAt (sweep (fs++[H.length,ix]) 0 (H++[.arr true false fu 12 ((A++B).map encFr)])) 0 m fs:=nodeAt_sweep h2 (by intro i hi;simp [hi])
        have hb3:Ext (sweep (fs++[H.length,ix]) 0 (H++[.arr true false fu 12 ((A++B).map encFr)])) fs H.length (.arr true false fu 12 ((A++B).map encFr)):=ext_sweep hb2 (by simp)
        generalize sweep (fs++[H.length,ix]) 0 (H++[.arr true false fu 12 ((A++B).map encFr)])=H3 at hn hb3
        have hfin:=fun τ q0 q3 q4 q5 q6 q7=>hk H3 fs τ (.own H.length (A++B).length 12 0 (A++B).length) [H.length] a ha q0 q3 q4 q5 q6 q7 hn (.inr ⟨H.length,false,fu,by rw [← hA,← hB],rfl,by rw [← hA,← hB];exact hb3⟩)
        generalize (A++B).length=n' at hfin
        simp [go_sem,run_codeL E L10_1.eq_1]
        exact hfin _ (by simp [lk]) (by simp [lk]) (by simp [lk]) (by simp [lk]) (by simp [lk]) (by simp [lk])
    have hra:=frRows A
    have hrd:=frRows B
    have hma:(A.map encFr).length=A.length:=by simp
    have hmb:(B.map encFr).length=B.length:=by simp
    have ha1:a≤l.length:=by omega
    have ha2:a+1≤l.length:=by omega
    have ha3:((0:Int)≤(a:Int)+1)=True:=eq_true (by omega)
    have z1:¬ 70368744177664<A.length * 32:=by omega
    have z2:¬ 70368744177664<B.length * 32:=by omega
    have z3:¬ 70368744177664<(A.length+B.length) * 32:=by omega
    have gb1:∀ X:Heap,(H++X)[b]?=some (.arr true lkb fub 12 (l.map encFr)):=fun X=>by rw [List.getElem?_append_left hbl];exact gb
    have gbe:∀ (q:b<List.length H),H[b]=Entry.arr true lkb fub 12 (l.map encFr):=fun q=>(List.getElem?_eq_some_iff.1 gb).2
    rw [List.map_append,List.length_append] at after
    by_cases qa:A=[]
    · by_cases qb:B=[]
      · obtain ⟨f1,f2⟩:=after true
        rw [qa,qb] at f1 f2
        rw [qa] at c1
        rw [qb] at c2
        simp at f1 f2 c1 c2
        simp [go_sem,t0,t3,t4,t5,t6,t7,t10,t12,t13,ha0,wa,gb,gb1,gbe,hml,ha1,ha2,ha3,c1,c2]
        rw [run_inLoop']
        simp [go_sem,t0,t3,t4,t5,t6,t7,t10,t12,h0,h4,h7,f1]
        exact f2
      · obtain ⟨f1,f2⟩:=after false
        rw [qa] at f1 f2 c1
        simp at f1 f2 c1
        simp [go_sem,t0,t3,t4,t5,t6,t7,t10,t12,t13,ha0,wa,gb,gb1,gbe,hml,ha1,ha2,ha3,c1,c2,hrd,qb,z2]
        rw [run_inLoop']
        simp [go_sem,t0,t3,t4,t5,t6,t7,t10,t12,h0,h4,h7,f1]
        exact f2
    · by_cases qb:B=[]
      · obtain ⟨f1,f2⟩:=after false
        rw [qb] at f1 f2 c2
        simp at f1 f2 c2
        simp [go_sem,t0,t3,t4,t5,t6,t7,t10,t12,t13,ha0,wa,gb,gb1,gbe,hml,ha1,ha2,ha3,c1,c2,hra,qa,z1]
        rw [run_inLoop']
        simp [go_sem,t0,t3,t4,t5,t6,t7,t10,t12,h0,h4,h7,f1]
        exact f2
      · obtain ⟨f1,f2⟩:=after false
        simp [go_sem,t0,t3,t4,t5,t6,t7,t10,t12,t13,ha0,wa,gb,gb1,gbe,hml,ha1,ha2,ha3,c1,c2,hra,hrd,qa,qb,z1,z2,z3]
        rw [run_inLoop']
        simp [go_sem,t0,t3,t4,t5,t6,t7,t10,t12,h0,h4,h7,f1]
        exact f2
/-- What is known as a turn begins. -/
structure KpI (i:Nat) (n:Nd) (l:List Fr) (ci cs:Nat):Prop where
  inv:n.Inv
  k:n.k≤i
  perm:l.Perm n.q
  sum:ci=cs+n.q.length
  le:ci≤i
set_option maxHeartbeats 8000000 in
theorem kk_B (ts:List Tn) (h5:ts.length≤500) (n1 f1:Bool) (i:Nat) (t:Tn) (ht:ts[i]?=some t) (ci:Nat) (k:List Item) (Q:Option (AVal × Heap))
    (ih:∀ H fs lv l R n (cs:Nat),NodeAt H 0 n fs→LeftAt H fs lv l R→KpI (i+1) n l ci cs→finK 0 [.tmp 2] (run E 0 (.code L10_0::.inLoop [0,3,4,5,6,7] L10_0::.inBlock 0::k) [(0,.imm n1 f1 true (ts.map encTn)),(3,.ptr 0 0),(4,.lit (.int .i64 ci)),(5,.lit (.int .i64 cs)),(6,lv),(7,.lit (.int .i64 ((i:Int)+1)))] H)=Q)
    (H:Heap) (fs:List Nat) (τ:Tmps) (lv:AVal) (l:List Fr) (R:List Nat) (n:Nd) (cs:Nat) (h:NodeAt H 0 n fs) (hl:LeftAt H fs lv l R) (hI:n.Inv) (hkk:n.k≤i) (hp:l.Perm n.q) (hsum:ci=cs+n.q.length) (hle:ci≤i+1)
    (t0:lk 0 τ=.imm n1 f1 true (ts.map encTn)) (t3:lk 3 τ=.ptr 0 0) (t4:lk 4 τ=.lit (.int .i64 ci)) (t5:lk 5 τ=.lit (.int .i64 cs)) (t6:lk 6 τ=lv) (t7:lk 7 τ=.lit (.int .i64 i)) :
    finK 0 [.tmp 2] (run E 0 (.code kkB::kkK k) τ H)=Q:=by
  have hltn:i<ts.length:=(List.getElem?_eq_some_iff.1 ht).1
  have w:=wrapIdx (i:=i) (by omega)
  obtain ⟨H1,hd,h1,a1⟩:=drive_at h hI
  have hL:=tlevel_spec t (drN n)
  obtain ⟨x,hx⟩:∃ x,x=levelP t (drN n):=⟨_,rfl⟩
  rw [← hx] at hL
  obtain ⟨H2,fs2,ix,hs,h2,a2,hix⟩:=step_at h1 hI (by omega) x
  have hl1:=hl.around a1
  have hl2:=hl1.around a2
  have hti:(ts.map encTn)[i]?=some (encTn t):=by rw [List.getElem?_map,ht];rfl
  have hti2:∀ (q:i<(ts.map encTn).length),(ts.map encTn)[i]=encTn t:=fun q=>(List.getElem?_eq_some_iff.1 hti).2
  have hml:(ts.map encTn).length=ts.length:=by simp
  have hI2:=inv_next hI x
  have hk2:(nxN n x).k≤i+1:=by have:=k_next n x hI.mode;omega
  have hlen:=e_len n x
  have hR:=hl.refs
  -- behind the events
  have fin:∀ H fs τ lv' l' R' (cs':Nat),lk 0 τ=.imm n1 f1 true (ts.map encTn)→lk 3 τ=.ptr 0 0→lk 4 τ=.lit (.int .i64 ci)→lk 5 τ=.lit (.int .i64 cs')→lk 6 τ=lv'→lk 7 τ=.lit (.int .i64 i)→NodeAt H 0 (nxN n x) fs→LeftAt H fs lv' l' R'→l'.Perm (nxN n x).q→ci=cs'+(nxN n x).q.length →
      finK 0 [.tmp 2] (run E 0 (.code kkI::.inLoop [0,3,4,5,6,7] L10_0::.inBlock 0::k) τ H)=Q:=by
    intro H fs τ lv' l' R' cs' t0 t3 t4 t5 t6 t7 h hl hp hs
    have hR:=hl.refs
    have hre:=left_reach h hl
    have ih2:=ih (sweep (fs++R') 0 H) fs lv' l' R' _ cs' (nodeAt_sweep h (by intro i hi;simp [hi])) (hl.sweep (by intro i hi;simp [hi])) ⟨hI2,hk2,hp,hs,hle⟩
    generalize ts.map encTn=rows at *
    simp at w
    simp [go_sem,kkI,kkL,kq1,kq2,kbl,L10_0.eq_1,t0,t3,t4,t5,t6,t7,w]
    rw [← L10_0.eq_1,run_inLoop']
    simp [go_sem,t0,t3,t4,t5,t6,t7,hR,hre]
    exact ih2
  rcases step_q hI x with ⟨hno,hq⟩ | ⟨f,hf,hes,hq⟩
  · by_cases he:evN n x=[]
    · rw [he] at hs
      have hre:=left_reach h2 hl2
      have fn:=fun τ q0 q3 q4 q5 q6 q7=>fin (sweep (fs2++R) 0 H2) fs2 τ lv l R cs q0 q3 q4 q5 q6 q7 (nodeAt_sweep h2 (by intro i hi;simp [hi])) (hl2.sweep (by intro i hi;simp [hi])) (by rw [hq];exact hp) (by rw [hq];exact hsum)
      generalize ts.map encTn=rows at *
      simp [evV] at hs
      simp only [encTn] at hL hti hti2
      simp [go_sem,kkB,kkBody,kkL,kq1,kq2,kbl,run_codeL E L10_1.eq_1,L10_0.eq_1,t0,t3,t4,t5,t6,t7,hltn,hti,hti2,hml,hd,hs,hL,histK,calm,nilS]
      rw [run_inLoop']
      simp [go_sem,run_codeL E L10_1.eq_1,t0,t3,t4,t5,t6,t7,hR,hre]
      refine fn _ ?_ ?_ ?_ ?_ ?_ ?_<;>simp [lk]
    · obtain ⟨hx1,hx2,hx3⟩:=hix he
      have hxR:ix ∉ R:=fun q=>by have:=(hl1.lt ix q).1;omega
      have hxe:Ext H2 fs2 ix (.arr true false false 15 ((evN n x).map encEv)):=⟨hx1,hx3⟩
      have hre:=left_reach2 h2 hl2 hxe hxR rfl
      have hlp:=fun k' hk'=>kk_loop1n (.imm n1 f1 true (ts.map encTn)) (.lit (.int .i64 ci)) (.lit (.int .i64 cs)) lv (.lit (.int .i64 i)) rfl rfl rfl rfl l R hR (nxN n x) (evN n x) hno (by omega) ix hxR k' Q hk' (evN n x).length 0 (by omega) (sweep (fs2++R++[ix]) 0 H2) fs2 (nodeAt_sweep h2 (by intro i hi;simp [hi])) (hl2.sweep (by intro i hi;simp [hi])) (ext_sweep hxe (by simp))
      generalize ts.map encTn=rows at *
      have hev:evV ix (evN n x)=.own ix (evN n x).length 15 0 (evN n x).length:=by unfold evV;rw [if_neg he]
      rw [hev] at hs
      generalize evN n x=es at *
      simp only [encTn] at hL hti hti2
      simp at hlp hre
      simp [go_sem,kkB,kkBody,kkL,kq1,kq2,kbl,L10_0.eq_1,t0,t3,t4,t5,t6,t7,hltn,hti,hti2,hml,hd,hs,hL,histK,calm,nilS]
      rw [run_inLoop']
      simp [go_sem,t0,t3,t4,t5,t6,t7,hR,hre]
      refine hlp _ ?_
      intro H fs τ t0 t3 t4 t5 t6 t7 h hl
      rw [run_inBlock]
      exact fin H fs τ lv l R cs t0 t3 t4 t5 t6 t7 h hl (by rw [hq];exact hp) (by rw [hq];exact hsum)
  · have hfl:f∈l:=hp.mem_iff.2 hf
    obtain ⟨hx1,hx2,hx3⟩:=hix (by rw [hes];simp)
    rw [hes] at hs hx1
    have hxe:Ext H2 fs2 ix (.arr true false false 15 [encEv (1,f)]):=⟨hx1,hx3⟩
    rcases hl2 with ⟨-,q,-⟩ | ⟨b,lkb,fub,e1,e2,hb⟩
    · rw [q] at hfl;cases hfl
    · have hbx:b≠ix:=by
        intro q
        have:=(hl1.lt b (by rw [e2];simp)).1
        omega
      have hre:=left_reach2 h2 (.inr ⟨b,lkb,fub,e1,e2,hb⟩:LeftAt H2 fs2 lv l R) hxe (by rw [e2];simp;exact fun q=>hbx q.symm) rfl
      have hqn:n.q.length≤16:=hI.ok.ql
      have hll:l.length≤16:=by rw [hp.length_eq];exact hqn
      have hsn:=fun k' hk'=>kk_sent (.imm n1 f1 true (ts.map encTn)) (.lit (.int .i64 ci)) (.lit (.int .i64 i)) cs (by omega) rfl rfl rfl l (by omega) f hfl (nxN n x) b ix hbx lkb fub k' Q hk' (sweep (fs2++R++[ix]) 0 H2) fs2 (nodeAt_sweep h2 (by intro i hi;simp [hi])) (ext_sweep hb (by rw [e2];simp)) (ext_sweep hxe (by simp))
      subst e1
      subst e2
      generalize ts.map encTn=rows at *
      simp only [encTn] at hL hti hti2
      simp [evV] at hs
      simp at hsn hre
      simp [go_sem,kkB,kkBody,kkL,kq1,kq2,kbl,L10_0.eq_1,t0,t3,t4,t5,t6,t7,hltn,hti,hti2,hml,hd,hs,hL,histK,calm,nilS]
      rw [run_inLoop']
      simp [go_sem,t0,t3,t4,t5,t6,t7,hre]
      refine hsn _ ?_
      intro H fs τ lv' R' a ha t0 t3 t4 t5 t6 t7 h hl
      rw [run_inBlock]
      refine fin H fs τ lv' _ R' (cs+1) t0 t3 t4 (by rw [t5];simp) t6 t7 h hl ?_ ?_
      · rw [hq];exact perm_out hp ha hf
      · rw [hq,delL_len f n.q hf]
        have:0<n.q.length:=List.length_pos_of_mem hf
        omega
set_option maxHeartbeats 8000000 in
theorem kk_loop0 (ts:List Tn) (h5:ts.length≤500) (hts:∀ t∈ts,t.f.Ok) (n1 f1:Bool) (k:List Item) (Q:Option (AVal × Heap))
    (hk:∀ H fs τ lv l R n (ci cs:Nat),lk 3 τ=.ptr 0 0→lk 4 τ=.lit (.int .i64 ci)→lk 5 τ=.lit (.int .i64 cs)→lk 6 τ=lv→NodeAt H 0 n fs→LeftAt H fs lv l R→KpI ts.length n l ci cs→finK 0 [.tmp 2] (run E 0 k τ H)=Q) :
    ∀ (d i:Nat),i+d=ts.length→∀ H fs lv l R n (ci cs:Nat),NodeAt H 0 n fs→LeftAt H fs lv l R→KpI i n l ci cs →
    finK 0 [.tmp 2] (run E 0 (.code L10_0::.inLoop [0,3,4,5,6,7] L10_0::.inBlock 0::k) [(0,.imm n1 f1 true (ts.map encTn)),(3,.ptr 0 0),(4,.lit (.int .i64 ci)),(5,.lit (.int .i64 cs)),(6,lv),(7,.lit (.int .i64 i))] H)=Q:=by
  have hT:=kkT.eq_1
  have hA:=kkA.eq_1
  simp only [kkBody,kkL,kq1,kq2,kbl,L10_0.eq_1] at hT hA
  intro d
  induction d with
  | zero =>
    intro i hi H fs lv l R n ci cs h hl hp
    have hlt:((i:Int)<(ts.length:Int))=False:=eq_false (by omega)
    have:i=ts.length:=by omega
    subst this
    simp [go_sem,run_codeL E kkE,hT]
    exact hk H fs _ lv l R n ci cs (by simp [lk]) (by simp [lk]) (by simp [lk]) (by simp [lk]) h hl hp
  | succ d ih =>
    intro i hi H fs lv l R n ci cs h hl hp
    have hlt:((i:Int)<(ts.length:Int))=True:=eq_true (by omega)
    have hltn:i<ts.length:=by omega
    have ht:ts[i]?=some ts[i]:=List.getElem?_eq_getElem hltn
    have hto:=hts ts[i] (List.getElem_mem _)
    generalize ts[i]=t at ht hto
    have hB:=fun ci=>kk_B ts h5 n1 f1 i t ht ci k Q (fun H fs lv l R n cs q1 q2 q3=>by simpa using ih (i+1) (by omega) H fs lv l R n ci cs q1 q2 q3)
    have hti:(ts.map encTn)[i]?=some (encTn t):=by rw [List.getElem?_map,ht];rfl
    have hti2:∀ (q:i<(ts.map encTn).length),(ts.map encTn)[i]=encTn t:=fun q=>(List.getElem?_eq_some_iff.1 hti).2
    have hml:(ts.map encTn).length=ts.length:=by simp
    obtain ⟨hI,hkk,hperm,hsum,hle⟩:=hp
    cases hput:t.put
    · have hB2:=hB ci H fs
      generalize ts.map encTn=rows at *
      simp only [encTn,hput] at hti hti2
      simp [go_sem,run_codeL E kkE,hT,hA,hlt,hltn,hti,hti2,hml]
      exact hB2 _ lv l R n cs h hl hI hkk hperm hsum (by omega) (by simp [lk]) (by simp [lk]) (by simp [lk]) (by simp [lk]) (by simp [lk]) (by simp [lk])
    · obtain ⟨H1,fu,hqu,h1,a1,c1,c2⟩:=queue_at h hI.ok
      obtain ⟨H2,fs2,hpu,h2,a2⟩:=put_at h1 hI.ok t.f
      have hl2:=(hl.around a1).around a2
      have hck:=fcheck_spec t.f
      rcases check_two t.f with hc | hc
      · have hq16:=hI.ok.ql
        by_cases q16:n.q.length=16
        · have hpn:nputN n t.f=(15,n):=by unfold nputN;rw [if_neg (by omega),if_pos (by omega)]
          rw [hpn] at hpu h2
          have hnq:n.nq=false:=by
            cases q:n.nq
            · rfl
            · have:=hI.ok.nq q
              rw [this] at q16;cases q16
          obtain ⟨H3,fu3,hqu3,h3,a3,c13,c23⟩:=queue_at h2 hI.ok
          have hl3:=hl2.around a3
          rw [hc] at hck
          obtain ⟨g1,g1l⟩:=c1 hnq
          obtain ⟨g3,g3l⟩:=c13 hnq
          rw [hnq,if_neg (by simp)] at hqu hqu3
          have hfr:=fun a b c d=>frames_same n.q (by omega) a b c d
          have hx1:H.length ∉ fs2:=fun q=>by
            rcases a2.new _ q with q | q
            · have:=nodeAt_lt h _ q;omega
            · omega
          have hx2:H2.length ∉ fs2:=fun q=>by have:=nodeAt_lt h2 _ q;omega
          have hle2:=a2.len
          have g1':H3[H.length]?=some (.arr true false fu 12 (n.q.map encFr)):=by
            rw [a3.same _ (by omega) hx1,a2.same _ (by omega) (fun q=>by have:=nodeAt_lt h _ q;omega)];exact g1
          have g1s:∀ e,(H3.set H2.length e)[H.length]?=some (.arr true false fu 12 (n.q.map encFr)):=fun e=>by rw [List.getElem?_set_ne (by omega)];exact g1'
          have hsame:∀ e e':Entry,∀ j,j≠H.length→j≠H2.length→((H3.set H2.length e).set H.length e')[j]?=H3[j]?:=fun e e' j q1 q2=>by rw [List.getElem?_set_ne (fun q=>q1 q.symm),List.getElem?_set_ne (fun q=>q2 q.symm)]
          have hB2:=fun e e' τ q0 q3 q4 q5 q6 q7=>hB ci ((H3.set H2.length e).set H.length e') fs2 τ lv l R n cs (nodeAt_same h3 fun j hj=>hsame e e' j (fun q=>hx1 (q ▸ hj)) (fun q=>hx2 (q ▸ hj))) (hl3.same fun j hj=>hsame e e' j (fun q=>by have:=(hl.lt j hj).1;omega) (fun q=>by have:=(hl.lt j hj).1;omega)) hI hkk hperm hsum (by omega) q0 q3 q4 q5 q6 q7
          have hqr:=frRows n.q
          have e16:((n.q.length:Int)=16)=True:=eq_true (by omega)
          generalize ts.map encTn=rows at *
          simp only [encTn,hput] at hti hti2
          simp [encFr,u8v] at hpu hck
          simp [go_sem,run_codeL E kkE,hT,hA,hlt,hltn,hti,hti2,hml,hqu,hpu,hck,e16,q16,hqu3,g1',g1s,g3,hfr]
          rw [q16] at hqu hqu3
          exact hB2 _ _ _ (by simp [lk]) (by simp [lk]) (by simp [lk]) (by simp [lk]) (by simp [lk]) (by simp [lk])
        · have hpn:=put_ok hc (n:=n) (by omega)
          rw [hpn] at hpu h2
          have hI2:(nputN n t.f).2.Inv:=inv_put hI hto
          rw [hpn] at hI2
          rw [hc] at hck
          have e16:((n.q.length:Int)=16)=False:=eq_false (by omega)
          have wci:=wrap64 (x:=(ci:Int)+1) (by omega) (by omega)
          have hp2:=perm_put t.f hperm
          have hs2:ci+1=cs+(insP t.f n.q).length:=by rw [insP_len];omega
          have hll:l.length≤16:=by rw [hperm.length_eq];omega
          have hB2:=fun H fs τ lv R q1 q2 q0 q3 (q4:lk 4 τ=.lit (.int .i64 ((ci:Int)+1))) q5 q6 q7=>hB (ci+1) H fs τ lv (l++[t.f]) R _ cs q1 q2 hI2 hkk hp2 hs2 (by omega) q0 q3 (by rw [q4];simp) q5 q6 q7
          have hR:=hl.refs
          have hqu':∃ qv,callK1 (call E) H (some (.func (.func 25) [] [],[])) (some ([.ptr 0 0],[]))=some (qv,H1)∧(qv=nilS∧n.q=[]∨qv=.own H.length n.q.length 12 0 n.q.length):=by
            refine ⟨_,hqu,?_⟩
            cases hnq:n.nq
            · rw [if_neg (by simp)];exact .inr rfl
            · rw [if_pos rfl];exact .inl ⟨rfl,hI.ok.nq hnq⟩
          clear hqu
          obtain ⟨qv,hqu,hqv⟩:=hqu'
          simp [encFr,u8v] at hpu hck
          rcases hl2 with ⟨e1,e2,e3⟩ | ⟨b,lkb,fub,e1,e2,hb⟩
          · subst e2
            have g2:NodeAt (H2++[.arr true false true 12 [encFr t.f],.arr true false false 12 [encFr t.f]]) 0 { n with q:=insP t.f n.q,nq:=false } fs2∧LeftAt (H2++[.arr true false true 12 [encFr t.f],.arr true false false 12 [encFr t.f]]) fs2 (.own (H2.length+1) 1 12 0 1) ([]++[t.f]) [H2.length+1]:=by
              refine ⟨nodeAt_append h2 _,.inr ⟨H2.length+1,false,false,rfl,rfl,?_,fun q=>?_⟩⟩
              · rw [List.getElem?_append_right (by omega),Nat.add_sub_cancel_left];rfl
              · have:=nodeAt_lt h2 _ q;omega
            subst e1
            generalize ts.map encTn=rows at *
            simp only [encTn,hput] at hti hti2
            rcases hqv with ⟨q1,q2⟩ | q1
            · subst q1
              rw [q2] at e16
              simp [go_sem,run_codeL E kkE,hT,hA,hlt,hltn,hti,hti2,hml,hqu,hpu,hck,e16,wci,nilS]
              refine hB2 _ _ _ _ _ g2.1 g2.2 ?_ ?_ ?_ ?_ ?_ ?_<;>simp [lk]
            · subst q1
              simp [go_sem,run_codeL E kkE,hT,hA,hlt,hltn,hti,hti2,hml,hqu,hpu,hck,e16,wci,nilS]
              refine hB2 _ _ _ _ _ g2.1 g2.2 ?_ ?_ ?_ ?_ ?_ ?_<;>simp [lk]
          · subst e1
            have gb:=hb.get
            have hbl:=hb.lt
            have gb1:∀ X:Heap,(H2++X)[b]?=some (.arr true lkb fub 12 (l.map encFr)):=fun X=>by rw [List.getElem?_append_left hbl];exact gb
            have hml2:(l.map encFr).length=l.length:=by simp
            have hrr:=frRows l
            have z1:¬ 70368744177664<(l.length+1) * 32:=by omega
            have g2:NodeAt (List.set (H2++[Entry.arr true false true 12 [encFr t.f]]) b (Entry.arr true lkb false 12 (l.map encFr++[encFr t.f]))) 0 { n with q:=insP t.f n.q,nq:=false } fs2∧LeftAt (List.set (H2++[Entry.arr true false true 12 [encFr t.f]]) b (Entry.arr true lkb false 12 (l.map encFr++[encFr t.f]))) fs2 (.own b (l.length+1) 12 0 (l.length+1)) (l++[t.f]) [b]:=by
              refine ⟨nodeAt_same h2 fun j hj=>?_,.inr ⟨b,lkb,false,by simp,rfl,?_,hb.out⟩⟩
              · have hjl:=nodeAt_lt h2 j hj
                rw [List.getElem?_set_ne (fun q=>hb.out (by rw [q];exact hj)),List.getElem?_append_left hjl]
              · rw [List.getElem?_set_self (by simp;omega)];simp
            generalize ts.map encTn=rows at *
            simp only [encTn,hput] at hti hti2
            rcases hqv with ⟨q1,q2⟩ | q1
            · subst q1
              rw [q2] at e16
              simp [go_sem,run_codeL E kkE,hT,hA,hlt,hltn,hti,hti2,hml,hqu,hpu,hck,e16,wci,gb,gb1,hml2,hrr,z1,nilS]
              refine hB2 _ _ _ _ _ g2.1 g2.2 ?_ ?_ ?_ ?_ ?_ ?_<;>simp [lk]
            · subst q1
              simp [go_sem,run_codeL E kkE,hT,hA,hlt,hltn,hti,hti2,hml,hqu,hpu,hck,e16,wci,gb,gb1,hml2,hrr,z1,nilS]
              refine hB2 _ _ _ _ _ g2.1 g2.2 ?_ ?_ ?_ ?_ ?_ ?_<;>simp [lk]
      · have hpn:nputN n t.f=(14,n):=by unfold nputN;rw [if_pos (by omega),hc]
        rw [hpn] at hpu h2
        obtain ⟨H3,fu3,hqu3,h3,a3,c13,c23⟩:=queue_at h2 hI.ok
        have hl3:=hl2.around a3
        rw [hc] at hck
        cases hnq:n.nq
        · obtain ⟨g1,g1l⟩:=c1 hnq
          obtain ⟨g3,g3l⟩:=c13 hnq
          rw [hnq,if_neg (by simp)] at hqu hqu3
          have hfr:=fun a b c d=>frames_same n.q (by have:=hI.ok.ql;omega) a b c d
          have hx1:H.length ∉ fs2:=fun q=>by
            rcases a2.new _ q with q | q
            · have:=nodeAt_lt h _ q;omega
            · omega
          have hx2:H2.length ∉ fs2:=fun q=>by have:=nodeAt_lt h2 _ q;omega
          have hle2:=a2.len
          have g1':H3[H.length]?=some (.arr true false fu 12 (n.q.map encFr)):=by
            rw [a3.same _ (by omega) hx1,a2.same _ (by omega) (fun q=>by have:=nodeAt_lt h _ q;omega)];exact g1
          have g1s:∀ e,(H3.set H2.length e)[H.length]?=some (.arr true false fu 12 (n.q.map encFr)):=fun e=>by rw [List.getElem?_set_ne (by omega)];exact g1'
          have hsame:∀ e e':Entry,∀ j,j≠H.length→j≠H2.length→((H3.set H2.length e).set H.length e')[j]?=H3[j]?:=fun e e' j q1 q2=>by rw [List.getElem?_set_ne (fun q=>q1 q.symm),List.getElem?_set_ne (fun q=>q2 q.symm)]
          have hB2:=fun e e' τ q0 q3 q4 q5 q6 q7=>hB ci ((H3.set H2.length e).set H.length e') fs2 τ lv l R n cs (nodeAt_same h3 fun j hj=>hsame e e' j (fun q=>hx1 (q ▸ hj)) (fun q=>hx2 (q ▸ hj))) (hl3.same fun j hj=>hsame e e' j (fun q=>by have:=(hl.lt j hj).1;omega) (fun q=>by have:=(hl.lt j hj).1;omega)) hI hkk hperm hsum (by omega) q0 q3 q4 q5 q6 q7
          generalize ts.map encTn=rows at *
          simp only [encTn,hput] at hti hti2
          simp [encFr,u8v] at hpu hck
          by_cases q16:n.q.length=16
          · have e16:((n.q.length:Int)=16)=True:=eq_true (by omega)
            simp [go_sem,run_codeL E kkE,hT,hA,hlt,hltn,hti,hti2,hml,hqu,hpu,hck,e16,hqu3,g1',g1s,g3,hfr]
            exact hB2 _ _ _ (by simp [lk]) (by simp [lk]) (by simp [lk]) (by simp [lk]) (by simp [lk]) (by simp [lk])
          · have e16:((n.q.length:Int)=16)=False:=eq_false (by omega)
            simp [go_sem,run_codeL E kkE,hT,hA,hlt,hltn,hti,hti2,hml,hqu,hpu,hck,e16,hqu3,g1',g1s,g3,hfr]
            exact hB2 _ _ _ (by simp [lk]) (by simp [lk]) (by simp [lk]) (by simp [lk]) (by simp [lk]) (by simp [lk])
        · rw [hnq,if_pos rfl] at hqu hqu3
          have hq0:n.q=[]:=hI.ok.nq hnq
          have hfr:=fun a b c d=>frames_same [] (by simp) a b c d
          have hB2:=fun τ q0 q3 q4 q5 q6 q7=>hB ci H3 fs2 τ lv l R n cs h3 hl3 hI hkk hperm hsum (by omega) q0 q3 q4 q5 q6 q7
          generalize ts.map encTn=rows at *
          simp only [encTn,hput] at hti hti2
          simp [encFr,u8v,nilS] at hpu hck hqu hqu3 hfr
          simp [go_sem,run_codeL E kkE,hT,hA,hlt,hltn,hti,hti2,hml,hqu,hpu,hck,hqu3,hfr,nilS]
          exact hB2 _ (by simp [lk]) (by simp [lk]) (by simp [lk]) (by simp [lk]) (by simp [lk]) (by simp [lk])
/-- So many of a frame, ahead of a place. -/
def cnt (g:Fr) (l:List Fr):Int:=(l.countP fun x=>decide (x=g):Nat)
theorem cnt_take {g x:Fr} {l:List Fr} {j:Nat} (h:l[j]?=some x):cnt g (l.take (j+1))=cnt g (l.take j)+if x=g then 1 else 0:=by
  have hl:j<l.length:=(List.getElem?_eq_some_iff.1 h).1
  have hx:l[j]=x:=(List.getElem?_eq_some_iff.1 h).2
  unfold cnt
  rw [List.take_succ_eq_append_getElem hl,List.countP_append,hx]
  by_cases q:x=g
  · simp [q]
  · simp [q]
theorem cnt_le (g:Fr) (l:List Fr):0≤cnt g l∧cnt g l≤l.length:=by
  unfold cnt
  have:=List.countP_le_length (p:=fun x=>decide (x=g)) (l:=l)
  omega
theorem cnt_perm {g:Fr} {l q:List Fr} (h:l.Perm q):cnt g l=cnt g q:=by
  unfold cnt;rw [h.countP_eq]
set_option maxHeartbeats 4000000 in
theorem kk_loop4 (l q:List Fr) (hlq:l.length=q.length) (h16:q.length≤16) (i:Nat) (g:Fr) (hg:q[i]?=some g) (b c:Nat) (hbc:b≠c) (l1 l2 l3 l4:Bool) (k:List Item) (Q:Option (AVal × Heap))
    (hk:∀ H τ,lk 6 τ=.own b l.length 12 0 l.length→lk 15 τ=.own c q.length 12 0 q.length→lk 16 τ=.lit (.int .i64 i)→lk 17 τ=.lit (.int .i64 (cnt g q - cnt g l))→H[b]?=some (.arr true l1 l2 12 (l.map encFr))→H[c]?=some (.arr true l3 l4 12 (q.map encFr))→finK 0 [.tmp 2] (run E 0 k τ H)=Q) :
    ∀ (d j:Nat),j+d=q.length→∀ (H:Heap),H[b]?=some (.arr true l1 l2 12 (l.map encFr))→H[c]?=some (.arr true l3 l4 12 (q.map encFr)) →
    finK 0 [.tmp 2] (run E 0 (.code L10_4::.inLoop [6,15,16,17,18] L10_4::.inBlock 8::k) [(6,.own b l.length 12 0 l.length),(15,.own c q.length 12 0 q.length),(16,.lit (.int .i64 i)),(17,.lit (.int .i64 (cnt g (q.take j) - cnt g (l.take j)))),(18,.lit (.int .i64 j))] H)=Q:=by
  intro d
  induction d with
  | zero =>
    intro j hj H hb hc
    have hlt:((j:Int)<(q.length:Int))=False:=eq_false (by omega)
    rw [List.take_of_length_le (by omega),List.take_of_length_le (by omega)]
    simp [go_sem,run_codeL E L10_4.eq_1,hlt]
    exact hk H _ (by simp [lk]) (by simp [lk]) (by simp [lk]) (by simp [lk]) hb hc
  | succ d ih =>
    intro j hj H hb hc
    have hlt:((j:Int)<(q.length:Int))=True:=eq_true (by omega)
    have hltn:j<q.length:=by omega
    have hltl:j<l.length:=by omega
    have hil:i<q.length:=(List.getElem?_eq_some_iff.1 hg).1
    have w:=wrapIdx (i:=j) (by omega)
    obtain ⟨x,hx⟩:∃ x,q[j]?=some x:=⟨_,List.getElem?_eq_getElem hltn⟩
    obtain ⟨y,hy⟩:∃ y,l[j]?=some y:=⟨_,List.getElem?_eq_getElem hltl⟩
    have hcx:=cnt_take (g:=g) hx
    have hcy:=cnt_take (g:=g) hy
    have b1:=cnt_le g (q.take j)
    have b2:=cnt_le g (l.take j)
    have b3:(q.take j).length≤16:=by rw [List.length_take];omega
    have b4:(l.take j).length≤16:=by rw [List.length_take];omega
    have hxq:(q.map encFr)[j]?=some (encFr x):=by rw [List.getElem?_map,hx];rfl
    have hyl:(l.map encFr)[j]?=some (encFr y):=by rw [List.getElem?_map,hy];rfl
    have hgq:(q.map encFr)[i]?=some (encFr g):=by rw [List.getElem?_map,hg];rfl
    have hxq2:∀ (z:j<(q.map encFr).length),(q.map encFr)[j]=encFr x:=fun z=>(List.getElem?_eq_some_iff.1 hxq).2
    have hyl2:∀ (z:j<(l.map encFr).length),(l.map encFr)[j]=encFr y:=fun z=>(List.getElem?_eq_some_iff.1 hyl).2
    have hgq2:∀ (z:i<(q.map encFr).length),(q.map encFr)[i]=encFr g:=fun z=>(List.getElem?_eq_some_iff.1 hgq).2
    have hmq:(q.map encFr).length=q.length:=by simp
    have hml:(l.map encFr).length=l.length:=by simp
    have hre:reach H purse [b,c] []=some [b,c]:=by
      have:=reach_flats (H:=H) [b,c] [] [] 398 (by
        intro z hz
        simp at hz
        rcases hz with e | e
        · rw [e];exact ⟨_,hb,rfl⟩
        · rw [e];exact ⟨_,hc,rfl⟩) (by simp [hbc])
      rw [show purse=398+[b,c].length by rw [purse_eq];rfl]
      simp only [List.append_nil] at this
      rw [this,reach_nil];rfl
    have s1:(sweep [b,c] 0 H)[b]?=some (.arr true l1 l2 12 (l.map encFr)):=by rw [sweep_get H _ 0 b (by simp)];exact hb
    have s2:(sweep [b,c] 0 H)[c]?=some (.arr true l3 l4 12 (q.map encFr)):=by rw [sweep_get H _ 0 c (by simp)];exact hc
    have ih2:=ih (j+1) (by omega) _ s1 s2
    rw [hcx,hcy] at ih2
    generalize cnt g (q.take j)=u at *
    generalize cnt g (l.take j)=v at *
    have wp:=wrap64 (x:=u - v+1) (by omega) (by omega)
    have wm:=wrap64 (x:=u - v - 1) (by omega) (by omega)
    have wpm:=wrap64 (x:=u - v) (by omega) (by omega)
    generalize q.map encFr=qr at *
    generalize l.map encFr=lr at *
    simp [encFr,u8v] at hxq hyl hgq hxq2 hyl2 hgq2 w
    by_cases q1:x=g
    · by_cases q2:y=g
      · rw [if_pos q1,if_pos q2,show u+1 - (v+1)=u - v+1 - 1 by omega] at ih2
        simp at ih2
        simp [go_sem,run_codeL E L10_4.eq_1,hlt,hltn,hltl,hil,hb,hc,hmq,hml,hxq,hyl,hgq,hxq2,hyl2,hgq2,↓aleaves_fr,q1,q2,wp,wm,wpm,w]
        rw [run_inLoop']
        simp [go_sem,hre]
        exact ih2
      · rw [if_pos q1,if_neg q2,show u+1 - (v+0)=u - v+1 by omega] at ih2
        simp at ih2
        simp [go_sem,run_codeL E L10_4.eq_1,hlt,hltn,hltl,hil,hb,hc,hmq,hml,hxq,hyl,hgq,hxq2,hyl2,hgq2,↓aleaves_fr,q1,q2,wp,wm,wpm,w]
        rw [run_inLoop']
        simp [go_sem,hre]
        exact ih2
    · by_cases q2:y=g
      · rw [if_neg q1,if_pos q2,show u+0 - (v+1)=u - v - 1 by omega] at ih2
        simp at ih2
        simp [go_sem,run_codeL E L10_4.eq_1,hlt,hltn,hltl,hil,hb,hc,hmq,hml,hxq,hyl,hgq,hxq2,hyl2,hgq2,↓aleaves_fr,q1,q2,wp,wm,wpm,w]
        rw [run_inLoop']
        simp [go_sem,hre]
        exact ih2
      · rw [if_neg q1,if_neg q2,show u+0 - (v+0)=u - v by omega] at ih2
        simp at ih2
        simp [go_sem,run_codeL E L10_4.eq_1,hlt,hltn,hltl,hil,hb,hc,hmq,hml,hxq,hyl,hgq,hxq2,hyl2,hgq2,↓aleaves_fr,q1,q2,wp,wm,wpm,w]
        rw [run_inLoop']
        simp [go_sem,hre]
        exact ih2
set_option maxHeartbeats 4000000 in
theorem kk_loop3 (l q:List Fr) (hp:l.Perm q) (h16:q.length≤16) (b c:Nat) (hbc:b≠c) (l1 l2 l3 l4:Bool) (k:List Item) (Q:Option (AVal × Heap))
    (hk:∀ H τ,finK 0 [.tmp 2] (run E 0 k τ H)=Q) :
    ∀ (d i:Nat),i+d=q.length→∀ (H:Heap),H[b]?=some (.arr true l1 l2 12 (l.map encFr))→H[c]?=some (.arr true l3 l4 12 (q.map encFr)) →
    finK 0 [.tmp 2] (run E 0 (.code L10_3::.inLoop [6,15,16] L10_3::.inBlock 6::k) [(6,.own b l.length 12 0 l.length),(15,.own c q.length 12 0 q.length),(16,.lit (.int .i64 i))] H)=Q:=by
  intro d
  induction d with
  | zero =>
    intro i hi H hb hc
    have hlt:((i:Int)<(q.length:Int))=False:=eq_false (by omega)
    simp [go_sem,run_codeL E L10_3.eq_1,hlt]
    exact hk _ _
  | succ d ih =>
    intro i hi H hb hc
    have hlt:((i:Int)<(q.length:Int))=True:=eq_true (by omega)
    have hltn:i<q.length:=by omega
    have w:=wrapIdx (i:=i) (by omega)
    obtain ⟨g,hg⟩:∃ x,q[i]?=some x:=⟨_,List.getElem?_eq_getElem hltn⟩
    have hre:∀ (H:Heap),H[b]?=some (.arr true l1 l2 12 (l.map encFr))→H[c]?=some (.arr true l3 l4 12 (q.map encFr))→reach H purse [b,c] []=some [b,c]:=by
      intro H hb hc
      have:=reach_flats (H:=H) [b,c] [] [] 398 (by
        intro z hz
        simp at hz
        rcases hz with e | e
        · rw [e];exact ⟨_,hb,rfl⟩
        · rw [e];exact ⟨_,hc,rfl⟩) (by simp [hbc])
      rw [show purse=398+[b,c].length by rw [purse_eq];rfl]
      simp only [List.append_nil] at this
      rw [this,reach_nil];rfl
    have hsw:∀ (H:Heap),H[b]?=some (.arr true l1 l2 12 (l.map encFr))→H[c]?=some (.arr true l3 l4 12 (q.map encFr))→(sweep [b,c] 0 H)[b]?=some (.arr true l1 l2 12 (l.map encFr))∧(sweep [b,c] 0 H)[c]?=some (.arr true l3 l4 12 (q.map encFr)):=by
      intro H hb hc
      exact ⟨by rw [sweep_get H _ 0 b (by simp)];exact hb,by rw [sweep_get H _ 0 c (by simp)];exact hc⟩
    have h4:=fun k' hk'=>kk_loop4 l q hp.length_eq h16 i g hg b c hbc l1 l2 l3 l4 k' Q hk' q.length 0 (by omega) _ (hsw H hb hc).1 (hsw H hb hc).2
    have hre0:=hre H hb hc
    have h0:cnt g (q.take 0) - cnt g (l.take 0)=0:=by simp [cnt]
    rw [h0] at h4
    simp at h4 w
    simp [go_sem,run_codeL E L10_3.eq_1,hlt,hltn]
    rw [run_inLoop']
    simp [go_sem,hre0]
    refine h4 _ ?_
    intro H τ t6 t15 t16 t17 hb hc
    rw [cnt_perm hp,Int.sub_self] at t17
    have hre1:=hre H hb hc
    have ih2:=ih (i+1) (by omega) _ (hsw H hb hc).1 (hsw H hb hc).2
    simp at ih2
    simp [go_sem,t6,t15,t16,t17,w]
    rw [run_inLoop']
    simp [go_sem,t6,t15,t16,hre1]
    exact ih2
set_option maxHeartbeats 8000000 in
theorem ctlKeeps_spec (ts:List Tn) (hts:∀ t∈ts,t.f.Ok) (n1 f1:Bool) :
    call E (.func (.func 10) [] []) [.imm n1 f1 true (ts.map encTn)] []=some (.lit (.bool true),[]):=by
  have ha:=awake10
  have hn:=nnew_spec
  have h0:=nodeAt_can nd0 ⟨false,false,false,false,false⟩ []
  rw [List.append_nil] at h0
  have hre:=reach_p1 h0
  rw [call_func E E10]
  by_cases h3:(500:Int)<(ts.length:Int)
  · simp [go_sem,ir10,h3,ha]
  · have hl0:=fun k hk=>kk_loop0 ts (by omega) hts n1 f1 k (some (.lit (.bool true),[])) hk ts.length 0 (by omega) _ _ nilS [] [] nd0 0 0 (nodeAt_sw1 h0) (.inl ⟨rfl,rfl,rfl⟩) ⟨nd0_inv,by decide,by simp [nd0],by simp [nd0],by omega⟩
    simp [nilS] at hl0
    simp [go_sem,ir10,h3,hn,back_new,nilS]
    rw [run_inLoop']
    simp [go_sem,hre]
    refine hl0 _ ?_
    intro H fs τ lv l R n ci cs t3 t4 t5 t6 h hl hp
    obtain ⟨hI,hkk,hperm,hsum,hle⟩:=hp
    obtain ⟨H1,fu,hqu,h1,a1,c1,c2⟩:=queue_at h hI.ok
    have hl1:=hl.around a1
    have hR:=hl.refs
    have hq16:=hI.ok.ql
    have hll:l.length=n.q.length:=hperm.length_eq
    have wsum:=wrap64 (x:=(cs:Int)+(n.q.length:Int)) (by omega) (by omega)
    have hci:((ci:Int)=(cs:Int)+(n.q.length:Int))=True:=eq_true (by omega)
    by_cases hq0:n.q=[]
    · have hl0:l=[]:=by rw [hq0] at hll;exact List.eq_nil_of_length_eq_zero hll
      subst hl0
      have hqv:∃ qv e,callK1 (call E) H (some (.func (.func 25) [] [],[])) (some ([.ptr 0 0],[]))=some (qv,H1)∧(qv=nilS∨(qv=.own H.length 0 12 0 0∧Ext H1 fs H.length e∧refsE e=[])):=by
        rw [hq0] at hqu c1
        refine ⟨_,.arr true false fu 12 [],hqu,?_⟩
        cases hnq:n.nq
        · rw [if_neg (by simp)];exact .inr ⟨rfl,⟨(c1 hnq).1,fun q=>by have:=nodeAt_lt h _ q;omega⟩,rfl⟩
        · rw [if_pos rfl];exact .inl rfl
      clear hqu
      obtain ⟨qv,e,hqu,hqv⟩:=hqv
      rw [hq0] at wsum hci
      simp at wsum hci
      have hfl:∀ (bs:List Nat),bs.length≤2→bs.Nodup→(∀ z∈bs,∃e,H1[z]?=some e∧refsE e=[])→reach H1 purse bs []=some bs:=by
        intro bs h2 hd hz
        have:=reach_flats (H:=H1) bs [] [] (400 - bs.length) hz (by simpa using hd)
        rw [show purse=400 - bs.length+bs.length by rw [purse_eq];omega]
        simp only [List.append_nil] at this
        rw [this,reach_nil];rfl
      rcases hl1 with ⟨e1,-,-⟩ | ⟨b,lkb,fub,e1,e2,hb⟩
      · subst e1
        rcases hqv with e3 | ⟨e3,hx,hxe⟩
        · subst e3
          have hre1:=hfl [] (by simp) (by simp) (by simp)
          simp [nilS] at t6 hqu
          simp [go_sem,t3,t4,t5,t6,hqu,wsum,hci,nilS]
          rw [run_inLoop']
          simp [go_sem,run_codeL E L10_3.eq_1,t6,hre1,ha]
        · subst e3
          have hre1:=hfl [H.length] (by simp) (by simp) (by intro z hz;simp at hz;rw [hz];exact ⟨_,hx.get,hxe⟩)
          simp [nilS] at t6
          simp [go_sem,t3,t4,t5,t6,hqu,wsum,hci,nilS]
          rw [run_inLoop']
          simp [go_sem,run_codeL E L10_3.eq_1,t6,hre1,ha]
      · subst e1
        rcases hqv with e3 | ⟨e3,hx,hxe⟩
        · subst e3
          have hre1:=hfl [b] (by simp) (by simp) (by intro z hz;simp at hz;rw [hz];exact ⟨_,hb.get,rfl⟩)
          simp [nilS] at t6 hqu
          simp [go_sem,t3,t4,t5,t6,hqu,wsum,hci,nilS]
          rw [run_inLoop']
          simp [go_sem,run_codeL E L10_3.eq_1,t6,hre1,ha]
        · subst e3
          have hbc:b≠H.length:=by
            intro q
            have:=(hl.lt b (by rw [e2];simp)).1
            omega
          have hre1:=hfl [b,H.length] (by simp) (by simp [hbc]) (by
            intro z hz
            simp at hz
            rcases hz with e | e
            · rw [e];exact ⟨_,hb.get,rfl⟩
            · rw [e];exact ⟨_,hx.get,hxe⟩)
          simp at t6
          simp [go_sem,t3,t4,t5,t6,hqu,wsum,hci,nilS]
          rw [run_inLoop']
          simp [go_sem,run_codeL E L10_3.eq_1,t6,hre1,ha]
    · obtain ⟨b,lkb,fub,e1,e2,hb⟩:∃ b lk fu,lv=.own b l.length 12 0 l.length∧R=[b]∧Ext H1 fs b (.arr true lk fu 12 (l.map encFr)):=by
        rcases hl1 with ⟨-,q,-⟩ | q
        · rw [q] at hll;exact absurd (List.eq_nil_of_length_eq_zero hll.symm) hq0
        · exact q
      have hnq:n.nq=false:=by
        cases q:n.nq
        · rfl
        · exact absurd (hI.ok.nq q) hq0
      obtain ⟨g1,g1l⟩:=c1 hnq
      rw [hnq,if_neg (by simp)] at hqu
      have hbc:b≠H.length:=by
        intro q
        have:=(hl.lt b (by rw [e2];simp)).1
        omega
      subst e1
      have hre1:reach H1 purse [b,H.length] []=some [b,H.length]:=by
        have:=reach_flats (H:=H1) [b,H.length] [] [] 398 (by
          intro z hz
          simp at hz
          rcases hz with e | e
          · rw [e];exact ⟨_,hb.get,rfl⟩
          · rw [e];exact ⟨_,g1,rfl⟩) (by simp [hbc])
        rw [show purse=398+[b,H.length].length by rw [purse_eq];rfl]
        simp only [List.append_nil] at this
        rw [this,reach_nil];rfl
      have hl3:=fun k hk=>kk_loop3 l n.q hperm (by omega) b H.length hbc lkb fub false fu k (some (.lit (.bool true),[])) hk n.q.length 0 (by omega) (sweep [b,H.length] 0 H1) (by rw [sweep_get H1 _ 0 b (by simp)];exact hb.get) (by rw [sweep_get H1 _ 0 _ (by simp)];exact g1)
      simp at hl3
      rw [hll] at hl3 t6
      simp [go_sem,t3,t4,t5,t6,hqu,hll,wsum,hci]
      rw [run_inLoop']
      simp [go_sem,t6,hre1]
      refine hl3 _ ?_
      intro H τ
      simp [go_sem,ha]
end Go.AM.R1
open Go Go.AM Go.Proofs
namespace Go.AM.R1
section
variable {H:Type} {P:Program}
/-- A turn of a node. -/
theorem dec_turn {n:Nat} {t e:TypeId} {g1 g2 g3 f1 f2 f3 f4 f5:Field} (hs:P.underlying t=some (.struct #[g1,g2,g3])) (h1:P.underlying g1.type=some .bool) (i:IsFr P g2.type f1 f2 f3 f4 f5 e) (h3:P.underlying g3.type=some (.int .i64)) {d:DataW H} {cs:List AVal} (h:Dec P (n+4) t d cs):∃ r:Tn,cs=encTn r∧r.f.Ok:=by
  rw [Dec,hs] at h
  obtain ⟨parts,ass,-,rfl,hf⟩:=h
  obtain ⟨p1,ps1,a1,as1,rfl,rfl,r1,hf⟩:=fieldsR_cons hf
  obtain ⟨p2,ps2,a2,as2,rfl,rfl,r2,hf⟩:=fieldsR_cons hf
  obtain ⟨p3,ps3,a3,as3,rfl,rfl,r3,hf⟩:=fieldsR_cons hf
  obtain ⟨rfl,rfl⟩:=fieldsR_nil hf
  simp only [Dec,h1] at r1
  simp only [Dec,h3] at r3
  obtain ⟨b1,-,rfl⟩:=r1
  obtain ⟨f,rfl,hfo⟩:=dec_frame i r2
  obtain ⟨v3,-,w3,rfl⟩:=r3
  exact ⟨⟨b1,f,v3⟩,by simp [encTn,encFr,u8v],hfo⟩
theorem decV_turns {n:Nat} {s t e:TypeId} {g1 g2 g3 f1 f2 f3 f4 f5:Field} (hu:P.underlying s=some (.slice t)) (hs:P.underlying t=some (.struct #[g1,g2,g3])) (h1:P.underlying g1.type=some .bool) (i:IsFr P g2.type f1 f2 f3 f4 f5 e) (h3:P.underlying g3.type=some (.int .i64)) {d:DataW H} {a:AVal} (h:DecV P (n+5) s d a) :
    ∃ (nl fu:Bool) (l:List Tn),a=.imm nl fu true (l.map encTn)∧(∀ t∈l,t.f.Ok)∧l.length≤9223372036854775807:=by
  unfold DecV at h
  rw [if_neg (by simp [isAggT,hu])] at h
  rw [Dec,hu] at h
  rcases h with ⟨-,h⟩ | ⟨elems,spare,rows,-,h,h2,h3'⟩
  · exact ⟨true,true,[],by simpa [nilS] using h,by simp,by simp⟩
  · obtain ⟨l,rfl,hl⟩:=rows_map encTn (fun t=>t.f.Ok) (all2_forall (Q:=fun b=>∃ r:Tn,b=encTn r∧r.f.Ok) (fun a b hab=>dec_turn hs h1 i h3 hab) h2)
    exact ⟨false,false,l,by simpa using h,hl,by simpa [maxLen] using h3'⟩
end
end Go.AM.R1
open Go Go.AM Go.AM.R1 Go.Proofs
namespace Go.Proofs.YtkmacpimokhpgaaGreat
open Go.ChangeShapes Go.WideShapes Go.ChangeAt Go.RowKit
namespace ctlKeeps
theorem own:ownKnob Tryz.prog.godebug=none:=by kernel_rfl
theorem laidOut:laidOutB Tryz.prog=true:=by kernel_rfl
theorem mixed:Tryz.prog.follows .mixedOrders=true:=by kernel_rfl
set_option maxRecDepth 100000 in
theorem contract (H:Type) (enc:TypeId × Value→H) (W:World) (base:Nat) (args:Array Value) (ds gs:List (DataW H)) (before:List MemPlace)
    (hval:∀ (j:Nat) t v,Tryz.f10.params[j]?=some t→args[j]?=some v→Value.okWide Tryz.prog W .any base t v)
    (hW:DataW.Whole enc Tryz.prog Tryz.f10.params.toList Rows.ctlKeepsSpec.vars false W args.toList ds gs before) :
    Calls Tryz.prog 10 args W fun e W'=>∃ v,e=.returned v∧Rows.ctlKeepsSpec.post enc Tryz.prog Tryz.f10 false true false false W args v W':=by
  refine law_contract (id:=10) (f:=Tryz.f10) (s:=Rows.ctlKeepsSpec) (k:=7) (nargs:=1) (base:=base) (ds:=ds) (gs:=gs) (before:=before) mixed libs_ok R1.hE laidOut ?e1 ?e2 (tb:=4) ?e3 Tryz.underlying4 ?e4 ?e5 ?e7 ?e8 ?e6
  case e7=>exact hval
  case e8=>exact hW
  case e1=>rfl
  case e3=>kernel_rfl
  case e4=>rw [Tryz.params10];rfl
  · rw [Tryz.params10];decide +kernel
  · intro ds h
    match ds,h with
    | [d1],_=>rfl
  · intro cs hA
    rw [Tryz.params10] at hA
    obtain ⟨d1,r1,a1,s1,rfl,rfl,h1,hA⟩:=decArgs_cons hA
    obtain ⟨rfl,rfl⟩:=decArgs_nil hA
    obtain ⟨n1,f1,ts,rfl,hfo,-⟩:=decV_turns (n:=2) Tryz.underlying46 Tryz.underlying50 Tryz.underlying4 ⟨Tryz.underlying32,Tryz.underlying3,Tryz.underlying4,Tryz.underlying4,Tryz.underlying3,Tryz.underlying30,Tryz.underlying5⟩ Tryz.underlying3 h1
    obtain ⟨n,hn⟩:=(call_iff R1.E).1 (ctlKeeps_spec ts hfo n1 f1)
    exact ⟨n,_,hn⟩

set_option maxRecDepth 100000 in
theorem lifted (os:Os) (started:os.Started) (H:Type) (enc:TypeId × Value→H) :
    ReturnsInHanded {} Tryz.checked os 10 .any (Rows.ctlKeepsSpec.pre6 enc Tryz.prog Tryz.f10 Rows.ctlKeepsRow.domain false) (Rows.ctlKeepsSpec.post enc Tryz.prog Tryz.f10 false true false false):=by
  refine returnsInHanded_of_change (C:=Tryz.checked) own started (by kernel_rfl) Tryz.func10
    (ChangeSpec.witness6 (enc:=enc) (C:=Tryz.checked) false ⟨#[],#[.slice none 0 0],[]⟩ 8 (by kernel_rfl) (by kernel_rfl) (by kernel_rfl) (by kernel_rfl)) ?_
  intro W base args ds gs before hval hW _ _
  exact contract H enc W base args ds gs before hval hW

theorem proved:Rows.CtlKeepsSaid :=
  OpenClaim.holds_of_wide 10 Tryz.f10 rfl rfl rfl rfl rfl rfl rfl ⟨rfl,rfl,rfl,rfl,rfl⟩ rfl rfl rfl rfl rfl (by kernel_rfl) Tryz.func10 (by kernel_rfl)
    (of_decide_eq_true (by kernel_rfl)) (by unfold Func.isWrapper;first | (rw [if_pos (by decide +kernel)];kernel_rfl) | (rw [if_neg (by decide +kernel)];exact ⟨rfl,rfl⟩))
    (fun os started H enc _=>lifted os started H enc)
end ctlKeeps
theorem ctlKeepsProved:Rows.CtlKeepsSaid:=ctlKeeps.proved
end Go.Proofs.YtkmacpimokhpgaaGreat
