/- What the functions of the program answer, walked on that machine. -/
import Derived.Test.YtkmacpimokhpgaaGreatCtl2
import Derived.WalkKit
import Derived.Shelf.Spec.SlicesInsertGrow
set_option linter.unusedVariables false
set_option linter.unusedSimpArgs false
open Go Go.AM
namespace Go.AM.R1
set_option maxHeartbeats 8000000 in
theorem sin_lost (n:Nd) (F:Fl) (hn:n.Ok) (hr:RawOk n.raw) (h1:¬ n.raw=[]) (hl5:n.run≤5) (f:Fr) (hs:n.sends=true) (hrl:n.raw.length<n.row.length) (hq:n.nq=false) (h3:¬ n.row=[]) (k:Nat) (hN:nextF n.raw=(1,k)) (hd:frL n=true) (h5:¬ n.run=5):∃ F2,call E (.func (.func 54) [] []) [.ptr 0 0,.ptr (mI n) 0,.lit (.int .i64 (lv false))] (ndT n F [] f)=some (.tup [],ndT (takeN { n with tx:=false,sends:=false } false).2 F2 [3] f):=by
  have hx:=nnextT n F 1 k hN hr
  have hfr:=nframeT n F true hd hr (fun _=>hrl)
  have hdf:=ndiff_lost n F.lock hr h1 hq h3 f k hN h5
  obtain ⟨F2,ht⟩:=ntake_spec ({ n with tx:=false,sends:=false }:Nd) F.lock hr h1 hl5 false
  have hok:=take_ok ({ n with tx:=false,sends:=false }:Nd) false (fun e=>h5 e.1)
  have htk:=take_keep ({ n with tx:=false,sends:=false }:Nd) false h1
  rw [hok] at ht
  clear hok
  generalize (takeN ({ n with tx:=false,sends:=false }:Nd) false).2=m at ht htk ⊢
  obtain ⟨t1,t2,t3,-,t4,-⟩:=htk
  refine ⟨F2,?_⟩
  rw [call_func E E54]
  simp [ndH,rV,qI,qV,wI,wV,rE,qE,wE,Nd.cells,nilS,ndT,tdE,tdV,tdC,mI,encK,Fl.lock,h1,hq,h3,hs,h5,t1,t2,t3,t4,lvT,lvF] at hx hfr hdf ht
  simp [go_sem,ir54,ndH,rV,qI,qV,wI,wV,rE,qE,wE,Nd.cells,nilS,ndT,tdE,tdV,tdC,mI,encK,Fl.lock,h1,hq,h3,hs,h5,t1,t2,t3,t4,lvT,lvF,hx,hfr,hdf,ht,purse_eq,List.range_succ]
set_option maxHeartbeats 8000000 in
theorem sin_stuff (n:Nd) (F:Fl) (hn:n.Ok) (hr:RawOk n.raw) (h1:¬ n.raw=[]) (hl5:n.run≤5) (f:Fr) (hs:n.sends=true) (hrl:n.raw.length<n.row.length) (hq:n.nq=false) (h3:¬ n.row=[]) (k:Nat) (hN:nextF n.raw=(1,k)) (hd:frL n=true) (h5:n.run=5):∃ F2,call E (.func (.func 54) [] []) [.ptr 0 0,.ptr (mI n) 0,.lit (.int .i64 (lv false))] (ndT n F [] f)=some (.tup [],ndT (failN n 5 false).2 F2 (failN n 5 false).1 f):=by
  have hx:=nnextT n F 1 k hN hr
  have hfr:=nframeT n F true hd hr (fun _=>hrl)
  have hf:=ndiff_stuff n F.lock hr h1 hq h3 hn f k hN h5
  have hkp:=fail_keep n 5 false
  have hks:=fail_ks n 5 false
  generalize failN n 5 false=z at hf hkp hks ⊢
  obtain ⟨ks,m⟩:=z
  obtain ⟨e1,e2,e3,-⟩:=hkp
  simp only [] at hf hks e1 e2 e3 ⊢
  refine ⟨F.lock,?_⟩
  rw [call_func E E54]
  rcases hks with rfl | rfl
  · skip
    simp [ndH,rV,qI,qV,wI,wV,rE,qE,wE,Nd.cells,nilS,ndT,tdE,tdV,tdC,mI,encK,Fl.lock,h1,hq,h3,hs,h5,e1,e2,e3,lvT,lvF] at hx hfr hf
    simp [go_sem,ir54,ndH,rV,qI,qV,wI,wV,rE,qE,wE,Nd.cells,nilS,ndT,tdE,tdV,tdC,mI,encK,Fl.lock,h1,hq,h3,hs,h5,e1,e2,e3,lvT,lvF,hx,hfr,hf,purse_eq,List.range_succ]
  · skip
    simp [ndH,rV,qI,qV,wI,wV,rE,qE,wE,Nd.cells,nilS,ndT,tdE,tdV,tdC,mI,encK,Fl.lock,h1,hq,h3,hs,h5,e1,e2,e3,lvT,lvF] at hx hfr hf
    simp [go_sem,ir54,ndH,rV,qI,qV,wI,wV,rE,qE,wE,Nd.cells,nilS,ndT,tdE,tdV,tdC,mI,encK,Fl.lock,h1,hq,h3,hs,h5,e1,e2,e3,lvT,lvF,hx,hfr,hf,purse_eq,List.range_succ]
set_option maxHeartbeats 8000000 in
theorem sin_bit1 (n:Nd) (F:Fl) (hn:n.Ok) (hr:RawOk n.raw) (h1:¬ n.raw=[]) (hl5:n.run≤5) (f:Fr) (hs:n.sends=true) (hrl:n.raw.length<n.row.length) (hq:n.nq=false) (h3:¬ n.row=[]) (kind k:Nat) (hN:nextF n.raw=(kind,k)) (hd:frL n=false) :∃ F2,call E (.func (.func 54) [] []) [.ptr 0 0,.ptr (mI n) 0,.lit (.int .i64 (lv true))] (ndT n F [] f)=some (.tup [],ndT (failN n 4 true).2 F2 (failN n 4 true).1 f):=by
  have hx:=nnextT n F kind k hN hr
  have hfr:=nframeT n F false hd hr (fun _=>hrl)
  have hf:=ndiff_bit1 n F.lock hr h1 hq h3 hn f kind k hN
  have hkp:=fail_keep n 4 true
  have hks:=fail_ks n 4 true
  generalize failN n 4 true=z at hf hkp hks ⊢
  obtain ⟨ks,m⟩:=z
  obtain ⟨e1,e2,e3,-⟩:=hkp
  simp only [] at hf hks e1 e2 e3 ⊢
  refine ⟨F.lock,?_⟩
  rw [call_func E E54]
  rcases hks with rfl | rfl
  · skip
    simp [ndH,rV,qI,qV,wI,wV,rE,qE,wE,Nd.cells,nilS,ndT,tdE,tdV,tdC,mI,encK,Fl.lock,h1,hq,h3,hs,e1,e2,e3,lvT,lvF] at hx hfr hf
    simp [go_sem,ir54,ndH,rV,qI,qV,wI,wV,rE,qE,wE,Nd.cells,nilS,ndT,tdE,tdV,tdC,mI,encK,Fl.lock,h1,hq,h3,hs,e1,e2,e3,lvT,lvF,hx,hfr,hf,purse_eq,List.range_succ]
  · skip
    simp [ndH,rV,qI,qV,wI,wV,rE,qE,wE,Nd.cells,nilS,ndT,tdE,tdV,tdC,mI,encK,Fl.lock,h1,hq,h3,hs,e1,e2,e3,lvT,lvF] at hx hfr hf
    simp [go_sem,ir54,ndH,rV,qI,qV,wI,wV,rE,qE,wE,Nd.cells,nilS,ndT,tdE,tdV,tdC,mI,encK,Fl.lock,h1,hq,h3,hs,e1,e2,e3,lvT,lvF,hx,hfr,hf,purse_eq,List.range_succ]
set_option maxHeartbeats 8000000 in
theorem sin_bit0 (n:Nd) (F:Fl) (hn:n.Ok) (hr:RawOk n.raw) (h1:¬ n.raw=[]) (hl5:n.run≤5) (f:Fr) (hs:n.sends=true) (hrl:n.raw.length<n.row.length) (hq:n.nq=false) (h3:¬ n.row=[]) (kind k:Nat) (hN:nextF n.raw=(kind,k)) (hd:frL n=true)  (hk1:¬ kind=1) (hk6:¬ kind=6):∃ F2,call E (.func (.func 54) [] []) [.ptr 0 0,.ptr (mI n) 0,.lit (.int .i64 (lv false))] (ndT n F [] f)=some (.tup [],ndT (failN n 4 true).2 F2 (failN n 4 true).1 f):=by
  have hx:=nnextT n F kind k hN hr
  have hfr:=nframeT n F true hd hr (fun _=>hrl)
  have hf:=ndiff_bit0 n F.lock hr h1 hq h3 hn f kind k hN hk1 hk6
  have hkp:=fail_keep n 4 true
  have hks:=fail_ks n 4 true
  generalize failN n 4 true=z at hf hkp hks ⊢
  obtain ⟨ks,m⟩:=z
  obtain ⟨e1,e2,e3,-⟩:=hkp
  simp only [] at hf hks e1 e2 e3 ⊢
  refine ⟨F.lock,?_⟩
  rw [call_func E E54]
  rcases hks with rfl | rfl
  · skip
    simp [ndH,rV,qI,qV,wI,wV,rE,qE,wE,Nd.cells,nilS,ndT,tdE,tdV,tdC,mI,encK,Fl.lock,h1,hq,h3,hs,e1,e2,e3,lvT,lvF] at hx hfr hf
    simp [go_sem,ir54,ndH,rV,qI,qV,wI,wV,rE,qE,wE,Nd.cells,nilS,ndT,tdE,tdV,tdC,mI,encK,Fl.lock,h1,hq,h3,hs,e1,e2,e3,lvT,lvF,hx,hfr,hf,purse_eq,List.range_succ]
  · skip
    simp [ndH,rV,qI,qV,wI,wV,rE,qE,wE,Nd.cells,nilS,ndT,tdE,tdV,tdC,mI,encK,Fl.lock,h1,hq,h3,hs,e1,e2,e3,lvT,lvF] at hx hfr hf
    simp [go_sem,ir54,ndH,rV,qI,qV,wI,wV,rE,qE,wE,Nd.cells,nilS,ndT,tdE,tdV,tdC,mI,encK,Fl.lock,h1,hq,h3,hs,e1,e2,e3,lvT,lvF,hx,hfr,hf,purse_eq,List.range_succ]
set_option maxHeartbeats 8000000 in
theorem sin_slot (n:Nd) (F:Fl) (hn:n.Ok) (hr:RawOk n.raw) (h1:¬ n.raw=[]) (hl5:n.run≤5) (f:Fr) (hs:n.sends=true) (hrl:n.raw.length<n.row.length) (hq:n.nq=false) (h3:¬ n.row=[]) (k:Nat) (hN:nextF n.raw=(6,k)) (hd:frL n=true) (h5:¬ n.run=5):∃ F2,call E (.func (.func 54) [] []) [.ptr 0 0,.ptr (mI n) 0,.lit (.int .i64 (lv false))] (ndT n F [] f)=some (.tup [],ndT (takeN n false).2 F2 [] f):=by
  have hx:=nnextT n F 6 k hN hr
  have hfr:=nframeT n F true hd hr (fun _=>hrl)
  have hdf:=ndiff_slot n F.lock hr h1 hq h3 f k hN
  obtain ⟨F2,ht⟩:=ntake_spec n F.lock hr h1 hl5 false
  have hok:=take_ok n false (fun e=>h5 e.1)
  have htk:=take_keep n false h1
  rw [hok] at ht
  clear hok
  generalize (takeN n false).2=m at ht htk ⊢
  obtain ⟨t1,t2,t3,-,t4,-⟩:=htk
  refine ⟨F2,?_⟩
  rw [call_func E E54]
  simp [ndH,rV,qI,qV,wI,wV,rE,qE,wE,Nd.cells,nilS,ndT,tdE,tdV,tdC,mI,encK,Fl.lock,h1,hq,h3,hs,h5,t1,t2,t3,t4,lvT,lvF] at hx hfr hdf ht
  simp [go_sem,ir54,ndH,rV,qI,qV,wI,wV,rE,qE,wE,Nd.cells,nilS,ndT,tdE,tdV,tdC,mI,encK,Fl.lock,h1,hq,h3,hs,h5,t1,t2,t3,t4,lvT,lvF,hx,hfr,hdf,ht,purse_eq,List.range_succ]
set_option maxHeartbeats 8000000 in
theorem sin_ack (n:Nd) (F:Fl) (hn:n.Ok) (hr:RawOk n.raw) (h1:¬ n.raw=[]) (hl5:n.run≤5) (f:Fr) (hs:n.sends=true) (hrl:n.raw.length<n.row.length) (hq:n.nq=false) (h3:¬ n.row=[]) (k:Nat) (hN:nextF n.raw=(6,k)) (hd:frL n=true) (h5:¬ n.run=5):∃ F2,call E (.func (.func 54) [] []) [.ptr 0 0,.ptr (mI n) 0,.lit (.int .i64 (lv true))] (ndT n F [] f)=some (.tup [],ndT (nackN n).2 F2 (nackN n).1 f):=by
  have hx:=nnextT n F 6 k hN hr
  have hfr:=nframeT n F true hd hr (fun _=>hrl)
  have hst:=cstate_spec n.ct
  unfold nackN
  by_cases hpa:n.ct.state=1
  case pos =>
    rw [hpa] at hst
    rw [show decide (n.ct.state=1)=true from decide_eq_true hpa]
    have hf:=nfail_spec n F.lock hn f 8 false
    have hkp:=fail_keep n 8 false
    have hks:=fail_ks n 8 false
    rw [show (!true)=false from rfl]
    generalize failN n 8 false=z at hf hkp hks ⊢
    obtain ⟨ks,m⟩:=z
    obtain ⟨e1,e2,e3,-⟩:=hkp
    simp only [] at hf hks e1 e2 e3 ⊢
    refine ⟨F.lock,?_⟩
    rw [call_func E E54]
    rcases hks with rfl | rfl
    · skip
      simp [ndH,rV,qI,qV,wI,wV,rE,qE,wE,Nd.cells,nilS,ndT,tdE,tdV,tdC,mI,encK,Fl.lock,h1,hq,h3,hs,h5,e1,e2,e3,Ct.cells,lvT,lvF] at hx hfr hf hst
      simp [go_sem,ir54,ndH,rV,qI,qV,wI,wV,rE,qE,wE,Nd.cells,nilS,ndT,tdE,tdV,tdC,mI,encK,Fl.lock,h1,hq,h3,hs,h5,e1,e2,e3,Ct.cells,lvT,lvF,hx,hfr,hf,hst,purse_eq,List.range_succ]
    · skip
      simp [ndH,rV,qI,qV,wI,wV,rE,qE,wE,Nd.cells,nilS,ndT,tdE,tdV,tdC,mI,encK,Fl.lock,h1,hq,h3,hs,h5,e1,e2,e3,Ct.cells,lvT,lvF] at hx hfr hf hst
      simp [go_sem,ir54,ndH,rV,qI,qV,wI,wV,rE,qE,wE,Nd.cells,nilS,ndT,tdE,tdV,tdC,mI,encK,Fl.lock,h1,hq,h3,hs,h5,e1,e2,e3,Ct.cells,lvT,lvF,hx,hfr,hf,hst,purse_eq,List.range_succ]
  case neg =>
    rw [show decide (n.ct.state=1)=false from decide_eq_false hpa]
    have hf:=nfail_spec n F.lock hn f 8 true
    have hkp:=fail_keep n 8 true
    have hks:=fail_ks n 8 true
    rw [show (!false)=true from rfl]
    generalize failN n 8 true=z at hf hkp hks ⊢
    obtain ⟨ks,m⟩:=z
    obtain ⟨e1,e2,e3,-⟩:=hkp
    simp only [] at hf hks e1 e2 e3 ⊢
    refine ⟨F.lock,?_⟩
    rw [call_func E E54]
    rcases hks with rfl | rfl
    · skip
      simp [ndH,rV,qI,qV,wI,wV,rE,qE,wE,Nd.cells,nilS,ndT,tdE,tdV,tdC,mI,encK,Fl.lock,h1,hq,h3,hs,h5,e1,e2,e3,Ct.cells,lvT,lvF] at hx hfr hf hst
      simp [go_sem,ir54,ndH,rV,qI,qV,wI,wV,rE,qE,wE,Nd.cells,nilS,ndT,tdE,tdV,tdC,mI,encK,Fl.lock,h1,hq,h3,hs,h5,e1,e2,e3,Ct.cells,lvT,lvF,hx,hfr,hf,hst,hpa,purse_eq,List.range_succ]
    · skip
      simp [ndH,rV,qI,qV,wI,wV,rE,qE,wE,Nd.cells,nilS,ndT,tdE,tdV,tdC,mI,encK,Fl.lock,h1,hq,h3,hs,h5,e1,e2,e3,Ct.cells,lvT,lvF] at hx hfr hf hst
      simp [go_sem,ir54,ndH,rV,qI,qV,wI,wV,rE,qE,wE,Nd.cells,nilS,ndT,tdE,tdV,tdC,mI,encK,Fl.lock,h1,hq,h3,hs,h5,e1,e2,e3,Ct.cells,lvT,lvF,hx,hfr,hf,hst,hpa,purse_eq,List.range_succ]
set_option maxHeartbeats 8000000 in
theorem sin_added_lo_t (n:Nd) (F:Fl) (hn:n.Ok) (hr:RawOk n.raw) (h1:¬ n.raw=[]) (hl5:n.run≤5) (f:Fr) (hs:n.sends=true) (hrl:n.raw.length<n.row.length) (hq:n.nq=false) (h3:¬ n.row=[]) (kind k:Nat) (hN:nextF n.raw=(kind,k)) (hd:frL n=true) (h5:n.run=5) (hb:¬ n.lvl=true) (h4:kind≤4):∃ F2,call E (.func (.func 54) [] []) [.ptr 0 0,.ptr (mI n) 0,.lit (.int .i64 (lv true))] (ndT n F [] f)=some (.tup [],ndT (takeN n true).2 F2 [] f):=by
  have hx:=nnextT n F kind k hN hr
  have hfr:=nframeT n F true hd hr (fun _=>hrl)
  have h4':(kind:Int)≤4:=by omega
  have h8:¬ kind=8:=by omega
  have h8':¬ (kind:Int)=8:=by omega
  obtain ⟨F2,ht⟩:=ntake_spec n F.lock hr h1 hl5 true
  have hok:=take_ok n true (fun e=>hb e.2.symm)
  have htk:=take_keep n true h1
  rw [hok] at ht
  clear hok
  generalize (takeN n true).2=m at ht htk ⊢
  obtain ⟨t1,t2,t3,-,t4,-⟩:=htk
  refine ⟨F2,?_⟩
  rw [call_func E E54]
  simp [ndH,rV,qI,qV,wI,wV,rE,qE,wE,Nd.cells,nilS,ndT,tdE,tdV,tdC,mI,encK,Fl.lock,h1,hq,h3,hs,h5,t1,t2,t3,t4,lvT,lvF] at hx hfr ht
  simp [go_sem,ir54,ndH,rV,qI,qV,wI,wV,rE,qE,wE,Nd.cells,nilS,ndT,tdE,tdV,tdC,mI,encK,Fl.lock,h1,hq,h3,hs,h5,t1,t2,t3,t4,lvT,lvF,hx,hfr,ht,h4,h4',h8,h8',purse_eq,List.range_succ]
set_option maxHeartbeats 8000000 in
theorem sin_added_hi_t (n:Nd) (F:Fl) (hn:n.Ok) (hr:RawOk n.raw) (h1:¬ n.raw=[]) (hl5:n.run≤5) (f:Fr) (hs:n.sends=true) (hrl:n.raw.length<n.row.length) (hq:n.nq=false) (h3:¬ n.row=[]) (k:Nat) (hN:nextF n.raw=(5,k)) (hd:frL n=true) (h5:n.run=5) (hb:¬ n.lvl=true):∃ F2,call E (.func (.func 54) [] []) [.ptr 0 0,.ptr (mI n) 0,.lit (.int .i64 (lv true))] (ndT n F [] f)=some (.tup [],ndT (takeN n true).2 F2 [] f):=by
  have hx:=nnextT n F 5 k hN hr
  have hfr:=nframeT n F true hd hr (fun _=>hrl)
  obtain ⟨F2,ht⟩:=ntake_spec n F.lock hr h1 hl5 true
  have hok:=take_ok n true (fun e=>hb e.2.symm)
  have htk:=take_keep n true h1
  rw [hok] at ht
  clear hok
  generalize (takeN n true).2=m at ht htk ⊢
  obtain ⟨t1,t2,t3,-,t4,-⟩:=htk
  refine ⟨F2,?_⟩
  rw [call_func E E54]
  simp [ndH,rV,qI,qV,wI,wV,rE,qE,wE,Nd.cells,nilS,ndT,tdE,tdV,tdC,mI,encK,Fl.lock,h1,hq,h3,hs,h5,t1,t2,t3,t4,lvT,lvF] at hx hfr ht
  simp [go_sem,ir54,ndH,rV,qI,qV,wI,wV,rE,qE,wE,Nd.cells,nilS,ndT,tdE,tdV,tdC,mI,encK,Fl.lock,h1,hq,h3,hs,h5,t1,t2,t3,t4,lvT,lvF,hx,hfr,ht,purse_eq,List.range_succ]
set_option maxHeartbeats 8000000 in
theorem sin_low_t (n:Nd) (F:Fl) (hn:n.Ok) (hr:RawOk n.raw) (h1:¬ n.raw=[]) (hl5:n.run≤5) (f:Fr) (hs:n.sends=true) (hrl:n.raw.length<n.row.length) (hq:n.nq=false) (h3:¬ n.row=[]) (kind k:Nat) (hN:nextF n.raw=(kind,k)) (hd:frL n=true) (h5:¬ n.run=5) (h4:kind≤4):∃ F2,call E (.func (.func 54) [] []) [.ptr 0 0,.ptr (mI n) 0,.lit (.int .i64 (lv true))] (ndT n F [] f)=some (.tup [],ndT (takeN n true).2 F2 [] f):=by
  have hx:=nnextT n F kind k hN hr
  have hfr:=nframeT n F true hd hr (fun _=>hrl)
  have h4':(kind:Int)≤4:=by omega
  have h8:¬ kind=8:=by omega
  have h8':¬ (kind:Int)=8:=by omega
  obtain ⟨F2,ht⟩:=ntake_spec n F.lock hr h1 hl5 true
  have hok:=take_ok n true (fun e=>h5 e.1)
  have htk:=take_keep n true h1
  rw [hok] at ht
  clear hok
  generalize (takeN n true).2=m at ht htk ⊢
  obtain ⟨t1,t2,t3,-,t4,-⟩:=htk
  refine ⟨F2,?_⟩
  rw [call_func E E54]
  simp [ndH,rV,qI,qV,wI,wV,rE,qE,wE,Nd.cells,nilS,ndT,tdE,tdV,tdC,mI,encK,Fl.lock,h1,hq,h3,hs,h5,t1,t2,t3,t4,lvT,lvF] at hx hfr ht
  simp [go_sem,ir54,ndH,rV,qI,qV,wI,wV,rE,qE,wE,Nd.cells,nilS,ndT,tdE,tdV,tdC,mI,encK,Fl.lock,h1,hq,h3,hs,h5,t1,t2,t3,t4,lvT,lvF,hx,hfr,ht,h4,h4',h8,h8',purse_eq,List.range_succ]
set_option maxHeartbeats 8000000 in
theorem sin_added_lo_f (n:Nd) (F:Fl) (hn:n.Ok) (hr:RawOk n.raw) (h1:¬ n.raw=[]) (hl5:n.run≤5) (f:Fr) (hs:n.sends=true) (hrl:n.raw.length<n.row.length) (hq:n.nq=false) (h3:¬ n.row=[]) (kind k:Nat) (hN:nextF n.raw=(kind,k)) (hd:frL n=false) (h5:n.run=5) (hb:¬ n.lvl=false) (h4:kind≤4):∃ F2,call E (.func (.func 54) [] []) [.ptr 0 0,.ptr (mI n) 0,.lit (.int .i64 (lv false))] (ndT n F [] f)=some (.tup [],ndT (takeN n false).2 F2 [] f):=by
  have hx:=nnextT n F kind k hN hr
  have hfr:=nframeT n F false hd hr (fun _=>hrl)
  have h4':(kind:Int)≤4:=by omega
  have h8:¬ kind=8:=by omega
  have h8':¬ (kind:Int)=8:=by omega
  obtain ⟨F2,ht⟩:=ntake_spec n F.lock hr h1 hl5 false
  have hok:=take_ok n false (fun e=>hb e.2.symm)
  have htk:=take_keep n false h1
  rw [hok] at ht
  clear hok
  generalize (takeN n false).2=m at ht htk ⊢
  obtain ⟨t1,t2,t3,-,t4,-⟩:=htk
  refine ⟨F2,?_⟩
  rw [call_func E E54]
  simp [ndH,rV,qI,qV,wI,wV,rE,qE,wE,Nd.cells,nilS,ndT,tdE,tdV,tdC,mI,encK,Fl.lock,h1,hq,h3,hs,h5,t1,t2,t3,t4,lvT,lvF] at hx hfr ht
  simp [go_sem,ir54,ndH,rV,qI,qV,wI,wV,rE,qE,wE,Nd.cells,nilS,ndT,tdE,tdV,tdC,mI,encK,Fl.lock,h1,hq,h3,hs,h5,t1,t2,t3,t4,lvT,lvF,hx,hfr,ht,h4,h4',h8,h8',purse_eq,List.range_succ]
set_option maxHeartbeats 8000000 in
theorem sin_added_hi_f (n:Nd) (F:Fl) (hn:n.Ok) (hr:RawOk n.raw) (h1:¬ n.raw=[]) (hl5:n.run≤5) (f:Fr) (hs:n.sends=true) (hrl:n.raw.length<n.row.length) (hq:n.nq=false) (h3:¬ n.row=[]) (k:Nat) (hN:nextF n.raw=(5,k)) (hd:frL n=false) (h5:n.run=5) (hb:¬ n.lvl=false):∃ F2,call E (.func (.func 54) [] []) [.ptr 0 0,.ptr (mI n) 0,.lit (.int .i64 (lv false))] (ndT n F [] f)=some (.tup [],ndT (takeN n false).2 F2 [] f):=by
  have hx:=nnextT n F 5 k hN hr
  have hfr:=nframeT n F false hd hr (fun _=>hrl)
  obtain ⟨F2,ht⟩:=ntake_spec n F.lock hr h1 hl5 false
  have hok:=take_ok n false (fun e=>hb e.2.symm)
  have htk:=take_keep n false h1
  rw [hok] at ht
  clear hok
  generalize (takeN n false).2=m at ht htk ⊢
  obtain ⟨t1,t2,t3,-,t4,-⟩:=htk
  refine ⟨F2,?_⟩
  rw [call_func E E54]
  simp [ndH,rV,qI,qV,wI,wV,rE,qE,wE,Nd.cells,nilS,ndT,tdE,tdV,tdC,mI,encK,Fl.lock,h1,hq,h3,hs,h5,t1,t2,t3,t4,lvT,lvF] at hx hfr ht
  simp [go_sem,ir54,ndH,rV,qI,qV,wI,wV,rE,qE,wE,Nd.cells,nilS,ndT,tdE,tdV,tdC,mI,encK,Fl.lock,h1,hq,h3,hs,h5,t1,t2,t3,t4,lvT,lvF,hx,hfr,ht,purse_eq,List.range_succ]
set_option maxHeartbeats 8000000 in
theorem sin_low_f (n:Nd) (F:Fl) (hn:n.Ok) (hr:RawOk n.raw) (h1:¬ n.raw=[]) (hl5:n.run≤5) (f:Fr) (hs:n.sends=true) (hrl:n.raw.length<n.row.length) (hq:n.nq=false) (h3:¬ n.row=[]) (kind k:Nat) (hN:nextF n.raw=(kind,k)) (hd:frL n=false) (h5:¬ n.run=5) (h4:kind≤4):∃ F2,call E (.func (.func 54) [] []) [.ptr 0 0,.ptr (mI n) 0,.lit (.int .i64 (lv false))] (ndT n F [] f)=some (.tup [],ndT (takeN n false).2 F2 [] f):=by
  have hx:=nnextT n F kind k hN hr
  have hfr:=nframeT n F false hd hr (fun _=>hrl)
  have h4':(kind:Int)≤4:=by omega
  have h8:¬ kind=8:=by omega
  have h8':¬ (kind:Int)=8:=by omega
  obtain ⟨F2,ht⟩:=ntake_spec n F.lock hr h1 hl5 false
  have hok:=take_ok n false (fun e=>h5 e.1)
  have htk:=take_keep n false h1
  rw [hok] at ht
  clear hok
  generalize (takeN n false).2=m at ht htk ⊢
  obtain ⟨t1,t2,t3,-,t4,-⟩:=htk
  refine ⟨F2,?_⟩
  rw [call_func E E54]
  simp [ndH,rV,qI,qV,wI,wV,rE,qE,wE,Nd.cells,nilS,ndT,tdE,tdV,tdC,mI,encK,Fl.lock,h1,hq,h3,hs,h5,t1,t2,t3,t4,lvT,lvF] at hx hfr ht
  simp [go_sem,ir54,ndH,rV,qI,qV,wI,wV,rE,qE,wE,Nd.cells,nilS,ndT,tdE,tdV,tdC,mI,encK,Fl.lock,h1,hq,h3,hs,h5,t1,t2,t3,t4,lvT,lvF,hx,hfr,ht,h4,h4',h8,h8',purse_eq,List.range_succ]
set_option maxHeartbeats 8000000 in
theorem sin_delim5 (n:Nd) (F:Fl) (hn:n.Ok) (hr:RawOk n.raw) (h1:¬ n.raw=[]) (hl5:n.run≤5) (f:Fr) (hs:n.sends=true) (hrl:n.raw.length<n.row.length) (hq:n.nq=false) (h3:¬ n.row=[]) (k:Nat) (hN:nextF n.raw=(5,k)) (hd:frL n=true) (h5:¬ n.run=5):∃ F2,call E (.func (.func 54) [] []) [.ptr 0 0,.ptr (mI n) 0,.lit (.int .i64 (lv true))] (ndT n F [] f)=some (.tup [],ndT (takeN n true).2 F2 [] f):=by
  have hx:=nnextT n F 5 k hN hr
  have hfr:=nframeT n F true hd hr (fun _=>hrl)
  obtain ⟨F2,ht⟩:=ntake_spec n F.lock hr h1 hl5 true
  have hok:=take_ok n true (fun e=>h5 e.1)
  have htk:=take_keep n true h1
  rw [hok] at ht
  clear hok
  generalize (takeN n true).2=m at ht htk ⊢
  obtain ⟨t1,t2,t3,-,t4,-⟩:=htk
  refine ⟨F2,?_⟩
  rw [call_func E E54]
  simp [ndH,rV,qI,qV,wI,wV,rE,qE,wE,Nd.cells,nilS,ndT,tdE,tdV,tdC,mI,encK,Fl.lock,h1,hq,h3,hs,h5,t1,t2,t3,t4,lvT,lvF] at hx hfr ht
  simp [go_sem,ir54,ndH,rV,qI,qV,wI,wV,rE,qE,wE,Nd.cells,nilS,ndT,tdE,tdV,tdC,mI,encK,Fl.lock,h1,hq,h3,hs,h5,t1,t2,t3,t4,lvT,lvF,hx,hfr,ht,purse_eq,List.range_succ]
set_option maxHeartbeats 8000000 in
theorem sin_delim7 (n:Nd) (F:Fl) (hn:n.Ok) (hr:RawOk n.raw) (h1:¬ n.raw=[]) (hl5:n.run≤5) (f:Fr) (hs:n.sends=true) (hrl:n.raw.length<n.row.length) (hq:n.nq=false) (h3:¬ n.row=[]) (k:Nat) (hN:nextF n.raw=(7,k)) (hd:frL n=true) (h5:¬ n.run=5):∃ F2,call E (.func (.func 54) [] []) [.ptr 0 0,.ptr (mI n) 0,.lit (.int .i64 (lv true))] (ndT n F [] f)=some (.tup [],ndT (takeN n true).2 F2 [] f):=by
  have hx:=nnextT n F 7 k hN hr
  have hfr:=nframeT n F true hd hr (fun _=>hrl)
  obtain ⟨F2,ht⟩:=ntake_spec n F.lock hr h1 hl5 true
  have hok:=take_ok n true (fun e=>h5 e.1)
  have htk:=take_keep n true h1
  rw [hok] at ht
  clear hok
  generalize (takeN n true).2=m at ht htk ⊢
  obtain ⟨t1,t2,t3,-,t4,-⟩:=htk
  refine ⟨F2,?_⟩
  rw [call_func E E54]
  simp [ndH,rV,qI,qV,wI,wV,rE,qE,wE,Nd.cells,nilS,ndT,tdE,tdV,tdC,mI,encK,Fl.lock,h1,hq,h3,hs,h5,t1,t2,t3,t4,lvT,lvF] at hx hfr ht
  simp [go_sem,ir54,ndH,rV,qI,qV,wI,wV,rE,qE,wE,Nd.cells,nilS,ndT,tdE,tdV,tdC,mI,encK,Fl.lock,h1,hq,h3,hs,h5,t1,t2,t3,t4,lvT,lvF,hx,hfr,ht,purse_eq,List.range_succ]
set_option maxHeartbeats 8000000 in
theorem sin_endx (n:Nd) (F:Fl) (hn:n.Ok) (hr:RawOk n.raw) (h1:¬ n.raw=[]) (hl5:n.run≤5) (f:Fr) (hs:n.sends=true) (hrl:n.raw.length<n.row.length) (hq:n.nq=false) (h3:¬ n.row=[]) (k:Nat) (hN:nextF n.raw=(8,k)) (hd:frL n=true) (h5:¬ n.run=5) (hk6:¬ k=6):∃ F2,call E (.func (.func 54) [] []) [.ptr 0 0,.ptr (mI n) 0,.lit (.int .i64 (lv true))] (ndT n F [] f)=some (.tup [],ndT (takeN n true).2 F2 [] f):=by
  have hx:=nnextT n F 8 k hN hr
  have hfr:=nframeT n F true hd hr (fun _=>hrl)
  obtain ⟨F2,ht⟩:=ntake_spec n F.lock hr h1 hl5 true
  have hok:=take_ok n true (fun e=>h5 e.1)
  have htk:=take_keep n true h1
  rw [hok] at ht
  clear hok
  have hk6':¬ (k:Int)=6:=by omega
  have he:=nend_none (takeN n true).2 F2 htk.1 k hk6 (.inr (by rw [htk.2.2.2.2.1];exact hs)) f
  generalize (takeN n true).2=m at ht htk he ⊢
  obtain ⟨t1,t2,t3,-,t4,-⟩:=htk
  refine ⟨F2,?_⟩
  rw [call_func E E54]
  simp [ndH,rV,qI,qV,wI,wV,rE,qE,wE,Nd.cells,nilS,ndT,tdE,tdV,tdC,mI,encK,Fl.lock,h1,hq,h3,hs,h5,t1,t2,t3,t4,lvT,lvF] at hx hfr ht he
  simp [go_sem,ir54,ndH,rV,qI,qV,wI,wV,rE,qE,wE,Nd.cells,nilS,ndT,tdE,tdV,tdC,mI,encK,Fl.lock,h1,hq,h3,hs,h5,t1,t2,t3,t4,lvT,lvF,hx,hfr,ht,he,hk6,hk6',purse_eq,List.range_succ]
set_option maxHeartbeats 8000000 in
theorem sin_sent (n:Nd) (F:Fl) (hn:n.Ok) (hr:RawOk n.raw) (h1:¬ n.raw=[]) (hl5:n.run≤5) (f:Fr) (hs:n.sends=true) (hrl:n.raw.length<n.row.length) (hq:n.nq=false) (h3:¬ n.row=[]) (hN:nextF n.raw=(8,6)) (hd:frL n=true) (h5:¬ n.run=5) (ho:n.own∈n.q):∃ F2,call E (.func (.func 54) [] []) [.ptr 0 0,.ptr (mI n) 0,.lit (.int .i64 (lv true))] (ndT n F [] f)=some (.tup [],sentG [.box (tdC (.own 7 1 1 0 1) n.own)] [.arr true false false 1 [encK 1]] 6 (takeN n true).2 F2):=by
  have hx:=nnextT n F 8 6 hN hr
  have hfr:=nframeT n F true hd hr (fun _=>hrl)
  obtain ⟨F2,ht⟩:=ntake_spec n F.lock hr h1 hl5 true
  have hok:=take_ok n true (fun e=>h5 e.1)
  have htk:=take_keep n true h1
  rw [hok] at ht
  clear hok
  have hon:(takeN n true).2.own=n.own:=htk.2.2.2.2.2.2.2.1
  have he:=nend_sent (takeN n true).2 F2 ⟨by rw [htk.2.1,htk.2.2.2.1];exact hn.nq,by rw [htk.2.2.2.1];exact hn.ql,by rw [htk.2.2.2.2.2.2.1];exact hn.ct⟩ htk.1 (by rw [htk.2.1];exact hq) (by rw [htk.2.2.1];exact h3) (by rw [htk.2.2.2.2.1];exact hs) (by rw [hon,htk.2.2.2.1];exact ho) f
  rw [hon] at he
  refine ⟨F2,?_⟩
  generalize (takeN n true).2=m at ht htk he hon ⊢
  obtain ⟨t1,t2,t3,-,t4,-⟩:=htk
  unfold sentG sentN at he ⊢
  rw [hon] at he ⊢
  generalize hrw:(delL n.own m.q).map encFr=rows at he ⊢
  clear hrw
  rw [call_func E E54]
  simp [ndH,rV,qI,qV,wI,wV,rE,qE,wE,Nd.cells,nilS,ndT,tdE,tdV,tdC,mI,encK,Fl.lock,h1,hq,h3,hs,h5,lvT,lvF,t1,t2,t3,t4] at hx hfr ht he
  simp [go_sem,ir54,ndH,rV,qI,qV,wI,wV,rE,qE,wE,Nd.cells,nilS,ndT,tdE,tdV,tdC,mI,encK,Fl.lock,h1,hq,h3,hs,h5,lvT,lvF,t1,t2,t3,t4,hx,hfr,ht,he,purse_eq,List.range_succ]
end Go.AM.R1
open Go Go.AM
namespace Go.AM.R1
set_option maxHeartbeats 16000000 in
theorem nstep_start_f (n:Nd) (F:Fl) (b:Bool) (fid:Nat) (hm:n.mode<11) (hg:(stepF.drop n.mode)[0]?=some (.func (.func fid) [] [])) (n':Nd)  (hc:call E (.func (.func fid) [] []) [.ptr 0 0,.ptr (mI n) 0,.lit (.int .i64 (lv b))] (ndT n F [] Fr.zero)=some (.tup [],stG 1 (tdE (mI n) [] Fr.zero) n n' F false)):call E (.func (.func 17) [] []) [.ptr 0 0,.lit (.int .i64 (lv b))] (ndH n F)=some (.tup [nilS,.lit (.int .i64 0)],stG 0 [] n n' F false):=by
  have hs:=csteps_spec
  have hlv:¬ (¬ lv b=0∧¬ lv b=1):=by cases b<;>simp [lv]
  rw [call_func E E17]
  have hrn:∀ g,renL g stepF=stepF:=fun g=>rfl
  have hrf:refsL stepF=[]:=rfl
  generalize stepF=sf at hs hg hrn hrf
  simp at hg
  cases b <;>
  by_cases h1:n.raw=[]<;>by_cases hq:n.nq=true<;>by_cases h3:n.row=[] <;>
  simp [ndH,rV,qI,qV,wI,wV,rE,qE,wE,Nd.cells,nilS,ndT,tdE,tdV,tdC,mI,encK,h1,hq,h3,stG,lvT,lvF,Fr.zero] at hc <;>
  simp [go_sem,ir17,run_codeL E L17_0.eq_1,run_inLoop',ndH,rV,qI,qV,wI,wV,rE,qE,wE,Nd.cells,nilS,ndT,tdE,tdV,tdC,mI,encK,evV,evE,encEv,Fr.zero,h1,hq,h3,stG,lvT,lvF,Fr.zero,hs,hc,hg,hm,hlv,hrn,hrf,aop_idxV,idxVG_agg,w1c,w2c,purse_eq,List.range_succ]
set_option maxHeartbeats 16000000 in
theorem nstep_start_t (n:Nd) (F:Fl) (b:Bool) (fid:Nat) (hm:n.mode<11) (hg:(stepF.drop n.mode)[0]?=some (.func (.func fid) [] [])) (n':Nd) (k3:¬ n'.row=[]) (hc:call E (.func (.func fid) [] []) [.ptr 0 0,.ptr (mI n) 0,.lit (.int .i64 (lv b))] (ndT n F [] Fr.zero)=some (.tup [],stG 1 (tdE (mI n) [] Fr.zero) n n' F true)):call E (.func (.func 17) [] []) [.ptr 0 0,.lit (.int .i64 (lv b))] (ndH n F)=some (.tup [nilS,.lit (.int .i64 0)],stG 0 [] n n' F true):=by
  have hs:=csteps_spec
  have hlv:¬ (¬ lv b=0∧¬ lv b=1):=by cases b<;>simp [lv]
  rw [call_func E E17]
  have hrn:∀ g,renL g stepF=stepF:=fun g=>rfl
  have hrf:refsL stepF=[]:=rfl
  generalize stepF=sf at hs hg hrn hrf
  simp at hg
  cases b <;>
  by_cases h1:n.raw=[]<;>by_cases hq:n.nq=true<;>by_cases h3:n.row=[] <;>
  simp [ndH,rV,qI,qV,wI,wV,rE,qE,wE,Nd.cells,nilS,ndT,tdE,tdV,tdC,mI,encK,h1,hq,h3,stG,lvT,lvF,Fr.zero,k3] at hc <;>
  simp [go_sem,ir17,run_codeL E L17_0.eq_1,run_inLoop',ndH,rV,qI,qV,wI,wV,rE,qE,wE,Nd.cells,nilS,ndT,tdE,tdV,tdC,mI,encK,evV,evE,encEv,Fr.zero,h1,hq,h3,stG,lvT,lvF,Fr.zero,k3,hs,hc,hg,hm,hlv,hrn,hrf,aop_idxV,idxVG_agg,w1c,w2c,purse_eq,List.range_succ]
set_option maxHeartbeats 16000000 in
theorem nstep_sent (n:Nd) (F:Fl) (b:Bool) (fid:Nat) (hm:n.mode<11) (hg:(stepF.drop n.mode)[0]?=some (.func (.func fid) [] [])) (h1:¬ n.raw=[]) (hq:n.nq=false) (h3:¬ n.row=[]) (m:Nd) (F2:Fl) (hm1:¬ m.raw=[]) (hm2:m.nq=false) (hm3:m.row=n.row) (hc:call E (.func (.func fid) [] []) [.ptr 0 0,.ptr (mI n) 0,.lit (.int .i64 (lv b))] (ndT n F [] Fr.zero)=some (.tup [],sentG [.box (tdC (.own 7 1 1 0 1) m.own)] [.arr true false false 1 [encK 1]] 6 m F2)):call E (.func (.func 17) [] []) [.ptr 0 0,.lit (.int .i64 (lv b))] (ndH n F)=some (.tup [.own 6 1 15 0 1,.lit (.int .i64 0)],sentG [] [.arr true false false 15 [encEv (1,m.own)]] 5 m F2):=by
  have hs:=csteps_spec
  have hlv:¬ (¬ lv b=0∧¬ lv b=1):=by cases b<;>simp [lv]
  rw [call_func E E17]
  have hrn:∀ g,renL g stepF=stepF:=fun g=>rfl
  have hrf:refsL stepF=[]:=rfl
  generalize stepF=sf at hs hg hrn hrf
  simp at hg
  unfold sentG sentN at hc ⊢
  generalize (delL m.own m.q).map encFr=rows at hc ⊢
  generalize m.ct.sent=c at hc ⊢
  cases b
  all_goals simp [ndH,rV,qI,qV,wI,wV,rE,qE,wE,Nd.cells,nilS,ndT,tdE,tdV,tdC,mI,encK,h1,hq,h3,hm1,hm2,hm3,lvT,lvF,Fr.zero] at hc
  all_goals simp [go_sem,ir17,run_codeL E L17_0.eq_1,run_inLoop',ndH,rV,qI,qV,wI,wV,rE,qE,wE,Nd.cells,nilS,ndT,tdE,tdV,tdC,mI,encK,evV,evE,encEv,Fr.zero,h1,hq,h3,hm1,hm2,hm3,lvT,lvF,Fr.zero,hs,hc,hg,hm,hlv,hrn,hrf,aop_idxV,idxVG_agg,w1c,w2c,purse_eq,List.range_succ]
end Go.AM.R1
open Go Go.AM
namespace Go.AM.R1
set_option maxHeartbeats 8000000 in
theorem npause_over (n:Nd) (F:Fl) (hk2:n.k<2) (f:Fr):call E (.func (.func 59) [] []) [.ptr 0 0,.ptr (mI n) 0,.lit (.int .i64 0)] (ndT n F [] f)=some (.tup [],ndT (overN n).2 F [9] f):=by
  have ho:=nover_spec n F f
  have hk3:(n.k:Int)<2:=by omega
  rw [call_func E E59]
  simp only [overN] at ho ⊢
  by_cases h1:n.raw=[]<;>by_cases hq:n.nq=true<;>by_cases h3:n.row=[] <;>
  simp [ndH,rV,qI,qV,wI,wV,rE,qE,wE,Nd.cells,nilS,ndT,tdE,tdV,tdC,mI,encK,h1,hq,h3] at ho <;>
  simp [go_sem,ir59,ndH,rV,qI,qV,wI,wV,rE,qE,wE,Nd.cells,nilS,ndT,tdE,tdV,tdC,mI,encK,h1,hq,h3,ho,hk3,hk2,purse_eq,List.range_succ]
set_option maxHeartbeats 8000000 in
theorem npause_no0 (n:Nd) (F:Fl) (hn:n.Ok) (hk2:¬ n.k<2) (hq0:n.q=[]) (f:Fr):call E (.func (.func 59) [] []) [.ptr 0 0,.ptr (mI n) 0,.lit (.int .i64 0)] (ndT n F [] f)=some (.tup [],stG 1 (tdE (mI n) [] f) n (startN n false) F false):=by
  have hp:=npend_spec n F hn
  have hs:=nstart_no n F
  have hk3:¬ (n.k:Int)<2:=by omega
  rw [hq0] at hp
  rw [call_func E E59]
  by_cases h1:n.raw=[]<;>by_cases hq:n.nq=true<;>by_cases h3:n.row=[] <;>
  simp [ndH,rV,qI,qV,wI,wV,rE,qE,wE,Nd.cells,nilS,ndT,tdE,tdV,tdC,mI,encK,h1,hq,h3,hq0,stG,startN,encLv,lvF] at hp hs <;>
  simp [go_sem,ir59,ndH,rV,qI,qV,wI,wV,rE,qE,wE,Nd.cells,nilS,ndT,tdE,tdV,tdC,mI,encK,h1,hq,h3,hq0,stG,startN,encLv,lvF,hp,hs,hk3,hk2,purse_eq,List.range_succ]
set_option maxHeartbeats 8000000 in
theorem npause_nol (n:Nd) (F:Fl) (hn:n.Ok) (hk2:¬ n.k<2) (hq0:¬ n.q=[]) (hl:lateP n=true) (f:Fr):call E (.func (.func 59) [] []) [.ptr 0 0,.ptr (mI n) 0,.lit (.int .i64 0)] (ndT n F [] f)=some (.tup [],stG 1 (tdE (mI n) [] f) n (startN n false) F false):=by
  have hp:=npend_spec n F hn
  have hs:=nstart_no n F
  have hla:=nlate_spec n F
  have hk3:¬ (n.k:Int)<2:=by omega
  rw [show (n.tx && decide (n.ct.state=1))=true from hl] at hla
  rw [call_func E E59]
  by_cases h1:n.raw=[]<;>by_cases hq:n.nq=true<;>by_cases h3:n.row=[] <;>
  simp [ndH,rV,qI,qV,wI,wV,rE,qE,wE,Nd.cells,nilS,ndT,tdE,tdV,tdC,mI,encK,h1,hq,h3,hq0,stG,startN,encLv,lvF] at hp hs hla <;>
  simp [go_sem,ir59,ndH,rV,qI,qV,wI,wV,rE,qE,wE,Nd.cells,nilS,ndT,tdE,tdV,tdC,mI,encK,h1,hq,h3,hq0,stG,startN,encLv,lvF,hp,hs,hla,hk3,hk2,purse_eq,List.range_succ]
set_option maxHeartbeats 8000000 in
theorem npause_yes (n:Nd) (F:Fl) (hn:n.Ok) (hk2:¬ n.k<2) (g:Fr) (r:List Fr) (hg:n.q=g::r) (hok:g.Ok) (hc:checkP g=0) (hl:lateP n=false) (f:Fr):call E (.func (.func 59) [] []) [.ptr 0 0,.ptr (mI n) 0,.lit (.int .i64 0)] (ndT n F [] f)=some (.tup [],stG 1 (tdE (mI n) [] f) n (startN n true) F true):=by
  have hp:=npend_spec n F hn
  have hs:=nstart_yes n F hn g r hg hok hc
  have hla:=nlate_spec n F
  have hk3:¬ (n.k:Int)<2:=by omega
  rw [show (n.tx && decide (n.ct.state=1))=false from hl] at hla
  rw [hg] at hp
  have hq:n.nq=false:=by
    cases h:n.nq
    · rfl
    · have:=hn.nq h;rw [hg] at this;cases this
  have hne:=allP_ne g
  have e:startN n true={ n with mode:=2,k:=0,raw:=[false],lvl:=false,run:=1,tx:=true,sends:=true,own:=g,row:=allP g }:=by unfold startN;rw [hg];rfl
  rw [e] at hs ⊢
  clear e
  generalize allP g=rw0 at hs hne ⊢
  rw [call_func E E59]
  by_cases h1:n.raw=[]<;>by_cases h3:n.row=[] <;>
  simp [ndH,rV,qI,qV,wI,wV,rE,qE,wE,Nd.cells,nilS,ndT,tdE,tdV,tdC,mI,encK,stG,encLv,lvF,h1,hq,h3,hg] at hp hs hla <;>
  simp [go_sem,ir59,ndH,rV,qI,qV,wI,wV,rE,qE,wE,Nd.cells,nilS,ndT,tdE,tdV,tdC,mI,encK,stG,encLv,lvF,h1,hq,h3,hg,hp,hs,hla,hne,hk3,hk2,purse_eq,List.range_succ]
set_option maxHeartbeats 8000000 in
theorem npause_rest (n:Nd) (F:Fl) (hk:n.k≤1000000000) (f:Fr):call E (.func (.func 59) [] []) [.ptr 0 0,.ptr (mI n) 0,.lit (.int .i64 1)] (ndT n F [] f)=some (.tup [],ndT (pauseN n).2 F [] f):=by
  have w1:=k1w hk
  have hla:=nlate_spec { n with k:=n.k+1 } F
  rw [call_func E E59]
  by_cases hk2:n.k+1<3
  case pos =>
    rw [show (pauseN n).2={ n with k:=n.k+1 } by unfold pauseN;simp only [];rw [if_pos hk2]]
    have hk3:(n.k:Int)+1<3:=by omega
    by_cases h1:n.raw=[]<;>by_cases hq:n.nq=true<;>by_cases h3:n.row=[] <;>
    simp [go_sem,ir59,ndH,rV,qI,qV,wI,wV,rE,qE,wE,Nd.cells,nilS,ndT,tdE,tdV,tdC,mI,encK,h1,hq,h3,w1,hk3,purse_eq,List.range_succ]
  case neg =>
    have hk3:¬ ((n.k:Int)+1<3):=by omega
    by_cases hl:lateP n=true
    case pos =>
      rw [show (pauseN n).2={ n with mode:=9,k:=0 } by unfold pauseN;simp only [];rw [if_neg hk2,if_pos hl]]
      rw [show (({ n with k:=n.k+1 }:Nd).tx && decide (({ n with k:=n.k+1 }:Nd).ct.state=1))=true from hl] at hla
      have hu:=nturn_spec { n with k:=n.k+1 } F 9
      by_cases h1:n.raw=[]<;>by_cases hq:n.nq=true<;>by_cases h3:n.row=[] <;>
      simp [ndH,rV,qI,qV,wI,wV,rE,qE,wE,Nd.cells,nilS,ndT,tdE,tdV,tdC,mI,encK,h1,hq,h3] at hla hu <;>
      simp [go_sem,ir59,ndH,rV,qI,qV,wI,wV,rE,qE,wE,Nd.cells,nilS,ndT,tdE,tdV,tdC,mI,encK,h1,hq,h3,hla,hu,w1,hk3,natCastS,purse_eq,List.range_succ]
    case neg =>
      have hl:lateP n=false:=by simpa using hl
      rw [show (pauseN n).2={ n with mode:=1,k:=0 } by unfold pauseN;simp only [];rw [if_neg hk2,if_neg (by rw [hl];simp)]]
      rw [show (({ n with k:=n.k+1 }:Nd).tx && decide (({ n with k:=n.k+1 }:Nd).ct.state=1))=false from hl] at hla
      have hu:=nturn_spec { n with k:=n.k+1 } F 1
      by_cases h1:n.raw=[]<;>by_cases hq:n.nq=true<;>by_cases h3:n.row=[] <;>
      simp [ndH,rV,qI,qV,wI,wV,rE,qE,wE,Nd.cells,nilS,ndT,tdE,tdV,tdC,mI,encK,h1,hq,h3] at hla hu <;>
      simp [go_sem,ir59,ndH,rV,qI,qV,wI,wV,rE,qE,wE,Nd.cells,nilS,ndT,tdE,tdV,tdC,mI,encK,h1,hq,h3,hla,hu,w1,hk3,natCastS,purse_eq,List.range_succ]
set_option maxHeartbeats 8000000 in
theorem nsusp_start (n:Nd) (F:Fl) (f:Fr):call E (.func (.func 60) [] []) [.ptr 0 0,.ptr (mI n) 0,.lit (.int .i64 0)] (ndT n F [] f)=some (.tup [],stG 1 (tdE (mI n) [] f) n (startN n false) F false):=by
  have hs:=nstart_no n F
  rw [call_func E E60]
  by_cases h1:n.raw=[]<;>by_cases hq:n.nq=true<;>by_cases h3:n.row=[] <;>
  simp [ndH,rV,qI,qV,wI,wV,rE,qE,wE,Nd.cells,nilS,ndT,tdE,tdV,tdC,mI,encK,h1,hq,h3,stG,startN,encLv,lvF] at hs <;>
  simp [go_sem,ir60,ndH,rV,qI,qV,wI,wV,rE,qE,wE,Nd.cells,nilS,ndT,tdE,tdV,tdC,mI,encK,h1,hq,h3,stG,startN,encLv,lvF,hs,purse_eq,List.range_succ]
set_option maxHeartbeats 8000000 in
theorem nsusp_rest (n:Nd) (F:Fl) (hk:n.k≤1000000000) (f:Fr):call E (.func (.func 60) [] []) [.ptr 0 0,.ptr (mI n) 0,.lit (.int .i64 1)] (ndT n F [] f)=some (.tup [],ndT (suspN n).2 F [] f):=by
  have w1:=k1w hk
  rw [call_func E E60]
  by_cases hk2:n.k+1=8
  case pos =>
    rw [show (suspN n).2={ n with mode:=1,k:=0 } by unfold suspN;simp only [];rw [if_pos hk2]]
    have hk3:(n.k:Int)+1=8:=by omega
    have hu:=nturn_spec { n with k:=8 } F 1
    by_cases h1:n.raw=[]<;>by_cases hq:n.nq=true<;>by_cases h3:n.row=[] <;>
    simp [ndH,rV,qI,qV,wI,wV,rE,qE,wE,Nd.cells,nilS,ndT,tdE,tdV,tdC,mI,encK,h1,hq,h3] at hu <;>
    simp [go_sem,ir60,ndH,rV,qI,qV,wI,wV,rE,qE,wE,Nd.cells,nilS,ndT,tdE,tdV,tdC,mI,encK,h1,hq,h3,hu,hk3,w8,purse_eq,List.range_succ]
  case neg =>
    rw [show (suspN n).2={ n with k:=n.k+1 } by unfold suspN;simp only [];rw [if_neg hk2]]
    have hk3:¬ ((n.k:Int)+1=8):=by omega
    by_cases h1:n.raw=[]<;>by_cases hq:n.nq=true<;>by_cases h3:n.row=[] <;>
    simp [go_sem,ir60,ndH,rV,qI,qV,wI,wV,rE,qE,wE,Nd.cells,nilS,ndT,tdE,tdV,tdC,mI,encK,h1,hq,h3,w1,hk3,purse_eq,List.range_succ]
end Go.AM.R1
open Go Go.AM
namespace Go.AM.R1
/-! ### A node's step, plainly -/
def inN (n:Nd) (b:Bool):List Nat × Fr × Nd :=
  if n.sends=true then
    if b=frL n then
      if n.run≠5∧(nextF n.raw).1=6 then ((nackN n).1,Fr.zero,(nackN n).2)
      else if n.run≠5∧nextF n.raw=(8,6) then ([1],n.own,sentN (takeN n true).2)
      else ([],Fr.zero,(takeN n b).2)
    else if b=true then ((failN n 4 true).1,Fr.zero,(failN n 4 true).2)
    else if (nextF n.raw).1=1 then (if n.run=5 then ((failN n 5 false).1,Fr.zero,(failN n 5 false).2) else ([3],Fr.zero,(takeN { n with tx:=false,sends:=false } false).2))
    else if (nextF n.raw).1=6 then ([],Fr.zero,(takeN n false).2)
    else ((failN n 4 true).1,Fr.zero,(failN n 4 true).2)
  else if frL n=false then (if b=true then ((failN n 4 true).1,Fr.zero,(failN n 4 true).2) else ([],Fr.zero,(takeN n false).2))
  else if n.run=5 then (if b=n.lvl then ((failN n 5 true).1,Fr.zero,(failN n 5 true).2) else ([],Fr.zero,(takeN n b).2))
  else if (nextF n.raw).1≤4∨(nextF n.raw).1=6 then ([],Fr.zero,(takeN n b).2)
  else if b=false then (if nextF n.raw=(8,6) then ([9],Fr.zero,(overN n).2) else ((failN n 7 true).1,Fr.zero,(failN n 7 true).2))
  else if (nextF n.raw).1=7∧rightF n.raw=false then ((failN n 6 true).1,Fr.zero,(failN n 6 true).2)
  else if nextF n.raw=(8,5) then ([2],frameOf (n.raw++[true]),{ (takeN n true).2 with ct:=n.ct.recv })
  else if nextF n.raw=(8,6) then ([],Fr.zero,{ (takeN n true).2 with mode:=8,k:=0 })
  else ([],Fr.zero,(takeN n true).2)
def noFr (x:List Nat × Nd):List Nat × Fr × Nd:=(x.1,Fr.zero,x.2)
def idleN (n:Nd) (b:Bool):List Nat × Nd :=
  if b=false then ([],startN n (decide (n.q≠[]))) else if n.q=[] then ([],n) else failN { n with tx:=true } 4 true
def pausN (n:Nd) (b:Bool):List Nat × Nd :=
  if b=true then pauseN n else if n.k<2 then overN n else ([],startN n (decide (n.q≠[]) && !lateP n))
def sspN (n:Nd) (b:Bool):List Nat × Nd:=if b=true then suspN n else ([],startN n false)
def stepN (n:Nd) (b:Bool):List Nat × Fr × Nd :=
  match n.mode with
  | 0=>noFr (joinN n b)
  | 1=>noFr (idleN n b)
  | 2=>inN n b
  | 3=>noFr (domN n b)
  | 4=>noFr (pasN n b)
  | 5=>noFr (domN n b)
  | 6=>noFr (waitN n b)
  | 7=>noFr (closeN n b)
  | 8=>noFr (pausN n b)
  | 9=>noFr (sspN n b)
  | _=>noFr (offN n b)
def evN (n:Nd) (b:Bool):List (Nat × Fr):=evsOf (stepN n b).1 (stepN n b).2.1
def nxN (n:Nd) (b:Bool):Nd:=(stepN n b).2.2
def drN (n:Nd):Bool:=if n.mode=1 then decide (n.q=[]) else if n.mode=3∨n.mode=5 then false else if n.mode=2 then frL n else true
/-! ### What holds of a node -/
def NIn (m:List Bool):Prop:=dataF m≤m.length→m.length≤sumF m+24
structure SendOk (n:Nd):Prop where
  nq:n.nq=false
  mem:n.own∈n.q
  ok:n.own.Ok
  chk:checkP n.own=0
  row:n.row=allP n.own
  raw:(∃ r,r≠[]∧n.raw++r=sentP n.own)∨(∃ t,n.raw=sentP n.own++t∧t.length≤9)
structure InF (n:Nd):Prop where
  ne:¬ n.raw=[]
  h0:n.raw[0]?=some false
  ri:NIn n.raw
  run:n.run≤5
  r58:n.run=5→(nextF n.raw).1≤5
  tx:n.tx=n.sends
  se:n.sends=true→SendOk n
structure Nd.Inv (n:Nd):Prop where
  ok:n.Ok
  qv:∀ g∈n.q,g.Ok∧checkP g=0
  mode:n.mode≤10
  off:n.ct.off=decide (n.mode=10)
  rows:n.rows≤128
  r10:n.mode=10→n.rows≤127
  inf:n.mode=2→InF n
theorem NIn.ok {m:List Bool} (h:NIn m):RawOk m:=by
  have h1:=sumF_ge m
  have h2:dataF m≤m.length→m.length≤sumF m+24:=h
  refine ⟨?_,fun q=>by have:=h2 q;omega⟩
  rcases Nat.lt_or_ge m.length (dataF m) with q | q
  · omega
  · have:=h2 q;omega
theorem NIn.kind {m:List Bool} (h:NIn m):(nextF m).1≤8:=by
  unfold nextF
  have h1:=sumF_ge m
  have h2:dataF m≤m.length→m.length≤sumF m+24:=h
  repeat (split;· simp)
  rename_i q
  have:=h2 (by omega)
  omega
theorem NIn.last {m:List Bool} (h:NIn m) (h8:(nextF m).1=8) (hk:(nextF m).2=6):dataF m≤m.length∧m.length=sumF m+24:=by
  obtain ⟨g1,g2⟩:=nextF_six (m:=m) (by omega)
  unfold nextF at hk h8
  have h2:=h g1
  repeat' split at hk
  all_goals (first | (simp at h8;done) | skip)
  all_goals simp at hk
  all_goals simp_all
  all_goals omega
theorem nIn_one (b:Bool):NIn [b]:=by
  intro h
  have:=(sumF_ge [b]).2.2
  simp at h;omega
theorem nIn_append {m:List Bool} (h:NIn m) (hn:¬ (dataF m≤m.length∧m.length=sumF m+24)) (b:Bool):NIn (m++[b]):=by
  intro q
  rcases Nat.lt_or_ge m.length (dataF m) with h1 | h1
  · have h2:=sumF_ge (m++[b])
    rw [List.length_append] at q ⊢
    simp only [List.length_singleton] at *
    rcases Nat.lt_or_ge m.length 14 with h3 | h3
    · have:=(sumF_ge (m++[b])).2.2;omega
    · have hx:dataF (m++[b])=dataF m:=by unfold dataF;rw [extF_append h3]
      rw [hx] at q h2
      omega
  · have h2:=h h1
    rw [sumF_append h1]
    simp;omega
theorem kind_next {m:List Bool} (h:(nextF m).1≤4) (b:Bool):(nextF (m++[b])).1≤5:=by
  apply Classical.byContradiction
  intro hk
  have hk:6≤(nextF (m++[b])).1:=by omega
  have h9:=nextF_le (m++[b])
  have key:dataF (m++[b])≤(m++[b]).length∧sumF (m++[b])+16≤(m++[b]).length:=by
    unfold nextF at hk
    repeat' split at hk
    all_goals first | (simp at hk;done) | (constructor<;>omega)
  obtain ⟨k1,k2⟩:=key
  have h2:=sumF_ge (m++[b])
  simp only [List.length_append,List.length_singleton] at k1 k2
  have h14:14≤m.length:=by omega
  have hx:dataF (m++[b])=dataF m:=by unfold dataF;rw [extF_append h14]
  have h1:dataF m≤m.length:=by omega
  rw [sumF_append h1] at k2
  have:=nextF_gt' h1 (by omega)
  omega
theorem allP_sent (f:Fr):allP f=sentP f++List.replicate 10 true:=rfl
/-- What a sender drives, and where it is. -/
theorem send_facts {n:Nd} (h:SendOk n):n.raw.length<n.row.length∧¬ n.row=[]∧(4<(nextF n.raw).1→n.row[n.raw.length]?=some true)∧∀ r,n.raw++r=sentP n.own→∀ x s,r=x::s→n.row[n.raw.length]?=some x:=by
  obtain ⟨-,-,-,hc,hrow,hraw⟩:=h
  have hl:n.row.length=(sentP n.own).length+10:=by rw [hrow,allP_sent];simp
  have h4:∀ r,n.raw++r=sentP n.own→∀ x s,r=x::s→n.row[n.raw.length]?=some x:=by
    intro r hr x s hx
    rw [hrow,allP_sent,← hr,hx];simp
  rcases hraw with ⟨r,hr,e⟩ | ⟨t,e,ht⟩
  · have h1:n.raw.length<(sentP n.own).length:=by
      rw [← e,List.length_append];have:=List.length_pos_iff.2 hr;omega
    refine ⟨by omega,by intro q;rw [q] at hl;simp at hl,fun hk=>?_,h4⟩
    have:=prefix_kind n.own hc n.raw r hr e
    omega
  · have h1:n.raw.length=(sentP n.own).length+t.length:=by rw [e,List.length_append]
    refine ⟨by omega,by intro q;rw [q] at hl;simp at hl,fun _=>?_,h4⟩
    rw [hrow,allP_sent,List.getElem?_append_right (by omega),List.getElem?_replicate,if_pos (by omega)]
end Go.AM.R1
open Go Go.AM
namespace Go.AM.R1
/-! ### What one asks of a node -/
theorem ndrive_spec (n:Nd) (F:Fl) (hI:n.Inv):∃ F2,call E (.func (.func 16) [] []) [.ptr 0 0] (ndH n F)=some (.lit (.int .i64 (lv (drN n))),ndH n F2):=by
  have hn:=hI.ok
  by_cases m1:n.mode=1
  · refine ⟨F,?_⟩
    have hp:=npend_spec n F hn
    rw [show drN n=decide (n.q=[]) by unfold drN;rw [if_pos m1]]
    rw [call_func E E16]
    by_cases hq0:n.q=[]<;>by_cases h1:n.raw=[]<;>by_cases hq:n.nq=true<;>by_cases h3:n.row=[] <;>
    simp [ndH,rV,qI,qV,wI,wV,rE,qE,wE,Nd.cells,nilS,h1,hq,h3,hq0,m1] at hp <;>
    simp [go_sem,ir16,ndH,rV,qI,qV,wI,wV,rE,qE,wE,Nd.cells,nilS,h1,hq,h3,hq0,m1,hp,lvT,lvF,purse_eq,List.range_succ]
  · have m1':¬ (n.mode:Int)=1:=by omega
    by_cases m35:n.mode=3∨n.mode=5
    · refine ⟨F,?_⟩
      rw [show drN n=false by unfold drN;rw [if_neg m1,if_pos m35]]
      rw [call_func E E16]
      rcases m35 with m3 | m3
      · by_cases h1:n.raw=[]<;>by_cases hq:n.nq=true<;>by_cases h3:n.row=[] <;>
        simp [go_sem,ir16,ndH,rV,qI,qV,wI,wV,rE,qE,wE,Nd.cells,nilS,h1,hq,h3,m3,lvT,lvF,purse_eq,List.range_succ]
      · by_cases h1:n.raw=[]<;>by_cases hq:n.nq=true<;>by_cases h3:n.row=[] <;>
        simp [go_sem,ir16,ndH,rV,qI,qV,wI,wV,rE,qE,wE,Nd.cells,nilS,h1,hq,h3,m3,lvT,lvF,purse_eq,List.range_succ]
    · have m3':¬ (n.mode:Int)=3:=by omega
      have m5':¬ (n.mode:Int)=5:=by omega
      have m3:¬ n.mode=3:=by omega
      have m5:¬ n.mode=5:=by omega
      by_cases m2:n.mode=2
      · refine ⟨F.lock,?_⟩
        have hf:=hI.inf m2
        have hfr:=nframe_spec n F hf.ri.ok (fun hs=>(send_facts (hf.se hs)).1)
        rw [show drN n=frL n by unfold drN;rw [if_neg m1,if_neg m35,if_pos m2]]
        rw [call_func E E16]
        generalize frL n=d at hfr ⊢
        cases d<;>by_cases h1:n.raw=[]<;>by_cases hq:n.nq=true<;>by_cases h3:n.row=[] <;>
        simp [ndH,rV,qI,qV,wI,wV,rE,qE,wE,Nd.cells,nilS,Fl.lock,h1,hq,h3,m2,lvT,lvF] at hfr <;>
        simp [go_sem,ir16,ndH,rV,qI,qV,wI,wV,rE,qE,wE,Nd.cells,nilS,Fl.lock,h1,hq,h3,m2,hfr,lvT,lvF,purse_eq,List.range_succ]
      · have m2':¬ (n.mode:Int)=2:=by omega
        refine ⟨F,?_⟩
        rw [show drN n=true by unfold drN;rw [if_neg m1,if_neg m35,if_neg m2]]
        rw [call_func E E16]
        by_cases h1:n.raw=[]<;>by_cases hq:n.nq=true<;>by_cases h3:n.row=[] <;>
        simp [go_sem,ir16,ndH,rV,qI,qV,wI,wV,rE,qE,wE,Nd.cells,nilS,h1,hq,h3,m1,m2,m3,m5,m1',m2',m3',m5',lvT,lvF,purse_eq,List.range_succ]
/-- What one sees of a node. -/
def lookC (n:Nd):List AVal:=[.lit (.int .i64 n.mode),.lit (.bool n.tx),.lit (.int .i64 n.ct.te),.lit (.int .i64 n.ct.re),.lit (.bool n.ct.off),.lit (.int .i64 n.q.length)]
theorem nlook_spec (n:Nd) (F:Fl) (hn:n.Ok):call E (.func (.func 18) [] []) [.ptr 0 0] (ndH n F)=some (.agg (lookC n),ndH n F):=by
  have hl:=quLen_spec n.nq F.fq n.q hn.nq
  rw [call_func E E18]
  by_cases h1:n.raw=[]<;>by_cases hq:n.nq=true<;>by_cases h3:n.row=[] <;>
  simp [ndH,rV,qI,qV,wI,wV,rE,qE,wE,Nd.cells,nilS,quH,h1,hq,h3] at hl <;>
  simp [go_sem,ir18,ndH,rV,qI,qV,wI,wV,rE,qE,wE,Nd.cells,nilS,lookC,h1,hq,h3,hl,histK,calm,purse_eq,List.range_succ]
end Go.AM.R1
open Go Go.AM
namespace Go.AM.R1
/-! ### A node anywhere on a heap -/
def rAt (n:Nd) (rx:Nat):AVal:=if n.raw=[] then nilS else .own rx n.raw.length 1 0 n.raw.length
def lAt (n:Nd) (lx:Nat):AVal:=if n.nq=true then nilS else .own lx n.q.length 12 0 n.q.length
def wAt (n:Nd) (wx:Nat):AVal:=if n.row=[] then nilS else .own wx n.row.length 1 0 n.row.length
def footL (n:Nd) (a rx qx lx wx:Nat):List Nat:=a::((if n.raw=[] then [] else [rx])++qx::((if n.nq=true then [] else [lx])++(if n.row=[] then [] else [wx])))
structure NodeAtF (H:Heap) (a:Nat) (n:Nd) (F:Fl) (rx qx lx wx:Nat):Prop where
  box:H[a]?=some (.box (n.cells (rAt n rx) (.ptr qx 0) (wAt n wx)))
  raw:¬ n.raw=[]→H[rx]?=some (.arr true F.lr F.fr 1 (n.raw.map encLv))
  qu:H[qx]?=some (.box [lAt n lx,.lit (.int .i64 16)])
  q:n.nq=false→H[lx]?=some (.arr true false F.fq 12 (n.q.map encFr))
  row:¬ n.row=[]→H[wx]?=some (.arr true F.lw F.fw 1 (n.row.map encLv))
  nd:(footL n a rx qx lx wx).Nodup
def NodeAt (H:Heap) (a:Nat) (n:Nd) (fs:List Nat):Prop:=∃ F rx qx lx wx,NodeAtF H a n F rx qx lx wx∧fs=footL n a rx qx lx wx
theorem nodeAt_nodup {H:Heap} {a:Nat} {n:Nd} {fs:List Nat} (h:NodeAt H a n fs):fs.Nodup:=by
  obtain ⟨F,rx,qx,lx,wx,h,rfl⟩:=h
  exact h.nd
theorem nodeAt_len {H:Heap} {a:Nat} {n:Nd} {fs:List Nat} (h:NodeAt H a n fs):fs.length≤5:=by
  obtain ⟨F,rx,qx,lx,wx,h,rfl⟩:=h
  unfold footL
  split<;>split<;>split<;>simp
theorem lt_of_get {H:Heap} {i:Nat} {e:Entry} (h:H[i]?=some e):i<H.length:=(List.getElem?_eq_some_iff.1 h).1
theorem nodeAt_lt {H:Heap} {a:Nat} {n:Nd} {fs:List Nat} (h:NodeAt H a n fs):∀ i∈fs,i<H.length:=by
  obtain ⟨F,rx,qx,lx,wx,h,rfl⟩:=h
  intro i hi
  simp only [footL,List.mem_cons,List.mem_append] at hi
  rcases hi with rfl | hi | rfl | hi | hi
  · exact lt_of_get h.box
  · by_cases h1:n.raw=[]
    · simp [h1] at hi
    · simp [h1] at hi
      subst hi
      exact lt_of_get (h.raw h1)
  · exact lt_of_get h.qu
  · cases h1:n.nq
    · simp [h1] at hi
      subst hi
      exact lt_of_get (h.q h1)
    · simp [h1] at hi
  · by_cases h1:n.row=[]
    · simp [h1] at hi
    · simp [h1] at hi
      subst hi
      exact lt_of_get (h.row h1)
/-- It lies as it did, if what it has does. -/
theorem nodeAt_same {H H2:Heap} {a:Nat} {n:Nd} {fs:List Nat} (h:NodeAt H a n fs) (hs:∀ i∈fs,H2[i]?=H[i]?):NodeAt H2 a n fs:=by
  obtain ⟨F,rx,qx,lx,wx,h,rfl⟩:=h
  refine ⟨F,rx,qx,lx,wx,⟨?_,?_,?_,?_,?_,h.nd⟩,rfl⟩
  · rw [hs a (by simp [footL])];exact h.box
  · intro h1;rw [hs rx (by simp [footL,h1])];exact h.raw h1
  · rw [hs qx (by simp [footL])];exact h.qu
  · intro h1;rw [hs lx (by simp [footL,h1])];exact h.q h1
  · intro h1;rw [hs wx (by simp [footL,h1])];exact h.row h1
theorem refs_rAt (n:Nd) (rx:Nat):refsV (rAt n rx)=if n.raw=[] then [] else [rx]:=by unfold rAt;split<;>rfl
theorem refs_wAt (n:Nd) (wx:Nat):refsV (wAt n wx)=if n.row=[] then [] else [wx]:=by unfold wAt;split<;>rfl
theorem refs_lAt (n:Nd) (lx:Nat):refsV (lAt n lx)=if n.nq=true then [] else [lx]:=by unfold lAt;split<;>rfl
theorem reach_step {H:Heap} {k i:Nat} {w acc:List Nat} {e:Entry} (hi:i ∉ acc) (he:H[i]?=some e):reach H (k+1) (i::w) acc=reach H k (refsE e++w) (acc++[i]):=by
  rw [reach_cons,if_neg hi,he,reachK_some]
theorem reach_opt {H:Heap} (c:Prop) [Decidable c] {x:Nat} (he:¬ c→∃ b d z l,H[x]?=some (.arr true b d z l)) (k:Nat) (w acc:List Nat) (hd:¬ c→x ∉ acc) :
    reach H (k+(if c then ([]:List Nat) else [x]).length) ((if c then [] else [x])++w) acc=reach H k w (acc++if c then [] else [x]):=by
  by_cases h:c
  · simp [h]
  · obtain ⟨b,d,z,l,he⟩:=he h
    simp only [h,if_false,List.length_cons,List.length_nil,Nat.zero_add,List.cons_append,List.nil_append]
    rw [reach_step (hd h) he]
    simp [refsE]
/-- What is led to by a node. -/
theorem reach_node {H:Heap} {a:Nat} {n:Nd} {fs:List Nat} (h:NodeAt H a n fs) (k:Nat) (w acc:List Nat) (hd:∀ i∈fs,i ∉ acc):reach H (k+fs.length) (a::w) acc=reach H k w (acc++fs):=by
  obtain ⟨F,rx,qx,lx,wx,h,rfl⟩:=h
  have hnd:=h.nd
  have rb:refsE (.box (n.cells (rAt n rx) (.ptr qx 0) (wAt n wx)))=refsV (rAt n rx)++[qx]++refsV (wAt n wx):=by
    simp [refsE,Nd.cells,refsL,refsV]
  have rq:refsE (.box [lAt n lx,.lit (.int .i64 16)])=refsV (lAt n lx):=by simp [refsE,refsL,refsV]
  rw [refs_rAt,refs_wAt] at rb
  rw [refs_lAt] at rq
  have hr:=reach_opt (H:=H) (n.raw=[]) (x:=rx) (fun q=>⟨_,_,_,_,h.raw q⟩)
  have hl:=reach_opt (H:=H) (n.nq=true) (x:=lx) (fun q=>⟨_,_,_,_,h.q (by simpa using q)⟩)
  have hw:=reach_opt (H:=H) (n.row=[]) (x:=wx) (fun q=>⟨_,_,_,_,h.row q⟩)
  have mr:¬ n.raw=[]→rx∈(if n.raw=[] then [] else [rx]):=fun q=>by simp [q]
  have ml:¬ n.nq=true→lx∈(if n.nq=true then [] else [lx]):=fun q=>by rw [if_neg q];simp
  have mw:¬ n.row=[]→wx∈(if n.row=[] then [] else [wx]):=fun q=>by simp [q]
  unfold footL at hnd hd ⊢
  generalize (if n.raw=[] then ([]:List Nat) else [rx])=R at *
  generalize (if n.nq=true then ([]:List Nat) else [lx])=L at *
  generalize (if n.row=[] then ([]:List Nat) else [wx])=W at *
  simp only [List.nodup_cons,List.nodup_append,List.mem_append,List.mem_cons,not_or] at hnd
  obtain ⟨⟨a1,a2,a3,a4⟩,b1,⟨⟨c1,c2⟩,c3,c4,c5⟩,b2⟩:=hnd
  have e:k+(a::(R++qx::(L++W))).length=(k+W.length+L.length+1+R.length)+1:=by simp;omega
  rw [e,reach_step (hd a (by simp)) h.box,rb,List.append_assoc,List.append_assoc,hr _ _ _ (fun q=>?_),List.singleton_append,reach_step ?_ h.qu,rq,hl _ _ _ (fun q=>?_),hw _ _ _ (fun q=>?_)]
  · simp
  · have:=hd wx (by simp [mw q])
    have m:=mw q
    simp only [List.mem_append,List.mem_singleton,not_or]
    exact ⟨⟨⟨⟨this,fun e=>a4 (e ▸ m)⟩,fun e=>b2 _ e _ (by simp [m]) rfl⟩,fun e=>c2 (e ▸ m)⟩,fun e=>c5 _ e _ m rfl⟩
  · have:=hd lx (by simp [ml q])
    have m:=ml q
    simp only [List.mem_append,List.mem_singleton,not_or]
    exact ⟨⟨⟨this,fun e=>a3 (e ▸ m)⟩,fun e=>b2 _ e _ (by simp [m]) rfl⟩,fun e=>c1 (e ▸ m)⟩
  · have:=hd qx (by simp)
    simp only [List.mem_append,List.mem_singleton,not_or]
    exact ⟨⟨this,fun e=>a2 e.symm⟩,fun e=>b2 _ e _ (by simp) rfl⟩
  · have:=hd rx (by simp [mr q])
    have m:=mr q
    simp only [List.mem_append,List.mem_singleton,not_or]
    exact ⟨this,fun e=>a1 (e ▸ m)⟩
end Go.AM.R1
open Go Go.AM
namespace Go.AM.R1
theorem bifNe {a b x y:Nat} (h:¬ a=b):(bif a == b then x else y)=y:=by
  have q:(a == b)=false:=by simpa using h
  rw [q];rfl
theorem canon_of {H:Heap} {a:Nat} {n:Nd} {fs:List Nat} (h:NodeAt H a n fs):fs.idxOf a=0∧∃ F,(fs.map fun i=>renE (fun i=>fs.idxOf i) (H.getD i .dead))=ndH n F:=by
  obtain ⟨F,rx,qx,lx,wx,h,rfl⟩:=h
  refine ⟨by simp [footL,List.idxOf_cons],F,?_⟩
  have hnd:=h.nd
  have hb:=h.box
  have hqu:=h.qu
  have hr:=h.raw
  have hl:=h.q
  have hw:=h.row
  clear h
  by_cases h1:n.raw=[]<;>by_cases h2:n.nq=true<;>by_cases h3:n.row=[] <;>
  simp [footL,rAt,lAt,wAt,h1,h2,h3] at hnd hb hqu hr hl hw <;>
  simp [footL,h1,h2,h3,List.getD_eq_getElem?_getD,hb,hqu,hr,hl,hw,renE,renL,renV,nilS,renLL,ndH,rV,qI,qV,wI,wV,rE,qE,wE,Nd.cells,nilS,List.idxOf_cons,hnd,bifNe]
theorem nodeAt_can (n:Nd) (F:Fl) (X:Heap):NodeAt (ndH n F++X) 0 n (List.range (mI n)):=by
  refine ⟨F,1,qI n,qI n+1,wI n,⟨?_,?_,?_,?_,?_,?_⟩,?_⟩ <;>
  by_cases h1:n.raw=[]<;>by_cases h2:n.nq=true<;>by_cases h3:n.row=[] <;>
  simp [ndH,rV,qI,qV,wI,wV,rE,qE,wE,Nd.cells,nilS,mI,footL,rAt,lAt,wAt,h1,h2,h3,List.range_succ]
theorem ndH_len (n:Nd) (F:Fl):(ndH n F).length=mI n:=by
  by_cases h1:n.raw=[]<;>by_cases h2:n.nq=true<;>by_cases h3:n.row=[] <;>
  simp [ndH,rV,qI,qV,wI,wV,rE,qE,wE,Nd.cells,nilS,mI,h1,h2,h3]
theorem nodeAt_fl {H:Heap} {a:Nat} {n:Nd} {fs:List Nat} (h:NodeAt H a n fs):fs.length=mI n:=by
  obtain ⟨F,rx,qx,lx,wx,h,rfl⟩:=h
  by_cases h1:n.raw=[]<;>by_cases h2:n.nq=true<;>by_cases h3:n.row=[] <;>
  simp [footL,mI,wI,qI,h1,h2,h3]
/-- A call on a node, wherever it lies. -/
theorem call_at (c:Callee) {H:Heap} {a:Nat} {n:Nd} {fs:List Nat} (h:NodeAt H a n fs) (f:AVal) (xs:List AVal) (hf:flatV f=true) (hx:flatL xs=true) :
    ∃ F,callK1 c H (some (f,[])) (some (.ptr a 0::xs,[]))=refK H fs (c f (.ptr 0 0::xs) (ndH n F)):=by
  obtain ⟨e0,F,hF⟩:=canon_of h
  refine ⟨F,?_⟩
  have hl:=nodeAt_len h
  have hreach:reach H purse (refsV f++refsL (.ptr a 0::xs)) []=some fs:=by
    rw [refsV_flat f hf,List.nil_append,refsL,refsL_flat xs hx,show refsV (.ptr a 0)++[]=[a] from rfl,show purse=(400 - fs.length)+fs.length by rw [purse_eq];omega,reach_node h _ [] [] (by simp)]
    rw [reach_nil];rfl
  rw [callK1_ref]
  simp only [List.nil_append,locks]
  rw [hreach,rchK_some,hF,renV_flat _ f hf]
  rw [renL,renL_flat _ xs hx]
  simp only [renV,e0]
theorem glob_old {fs:List Nat} {N j:Nat} (hj:j<fs.length):toGlob fs N j=fs[j]:=by
  unfold toGlob
  rw [if_pos hj,List.getD_eq_getElem?_getD,List.getElem?_eq_getElem hj];rfl
theorem glob_new {fs:List Nat} {N j:Nat} (hj:fs.length≤j):toGlob fs N j=N+(j - fs.length):=by
  unfold toGlob
  rw [if_neg (by omega)]
/-- The heap that a call leaves. -/
def backH (H:Heap) (fs:List Nat) (Hn:Heap):Heap:=setAll H fs ((Hn.take fs.length).map (renE (toGlob fs H.length)))++(Hn.drop fs.length).map (renE (toGlob fs H.length))
theorem back_len {H:Heap} {fs:List Nat} {Hn:Heap}:(backH H fs Hn).length=H.length+(Hn.length - fs.length):=by
  unfold backH
  rw [List.length_append,setAll_length];simp
theorem back_other {H:Heap} {fs:List Nat} {Hn:Heap} (hnd:fs.Nodup) (hlt:∀ i∈fs,i<H.length) (hk:fs.length≤Hn.length) {i:Nat} (hi:i<H.length) (hf:i ∉ fs):(backH H fs Hn)[i]?=H[i]?:=by
  unfold backH
  rw [List.getElem?_append_left (by rw [setAll_length];exact hi),setAll_get fs _ H hnd (by simp;omega) hlt,if_neg hf]
theorem back_get {H:Heap} {fs:List Nat} {Hn:Heap} (hnd:fs.Nodup) (hlt:∀ i∈fs,i<H.length) (hk:fs.length≤Hn.length) {j:Nat} {e:Entry} (hj:Hn[j]?=some e):(backH H fs Hn)[toGlob fs H.length j]?=some (renE (toGlob fs H.length) e):=by
  have hjl:=lt_of_get hj
  rcases Nat.lt_or_ge j fs.length with hlt2 | hge
  · have hm:fs[j]∈fs:=List.getElem_mem hlt2
    have hg:=glob_old (N:=H.length) hlt2
    unfold backH
    rw [hg,List.getElem?_append_left (by rw [setAll_length];exact hlt _ hm),setAll_get fs _ H hnd (by simp;omega) hlt,if_pos hm]
    rw [idxOf_get hnd (List.getElem?_eq_getElem hlt2),List.getElem?_map,List.getElem?_take,if_pos hlt2,hj];rfl
  · have hg:=glob_new (N:=H.length) hge
    unfold backH
    rw [hg,List.getElem?_append_right (by rw [setAll_length];omega),setAll_length,List.getElem?_map,List.getElem?_drop]
    rw [show fs.length+(H.length+(j - fs.length) - H.length)=j by omega,hj];rfl
theorem glob_inj {H:Heap} {fs:List Nat} (hnd:fs.Nodup) (hlt:∀ i∈fs,i<H.length) {i j:Nat} (h:toGlob fs H.length i=toGlob fs H.length j):i=j:=by
  rcases Nat.lt_or_ge i fs.length with h1 | h1<;>rcases Nat.lt_or_ge j fs.length with h2 | h2
  · rw [glob_old h1,glob_old h2] at h
    have q:=idxOf_get hnd (List.getElem?_eq_getElem h1)
    rw [h] at q
    exact q.symm.trans (idxOf_get hnd (List.getElem?_eq_getElem h2))
  · rw [glob_old h1,glob_new h2] at h
    have:=hlt _ (List.getElem_mem h1);omega
  · rw [glob_new h1,glob_old h2] at h
    have:=hlt _ (List.getElem_mem h2);omega
  · rw [glob_new h1,glob_new h2] at h;omega
/-- A node behind a call, back in its place. -/
theorem nodeAt_back {H:Heap} {fs:List Nat} {Hn:Heap} (hnd:fs.Nodup) (hlt:∀ i∈fs,i<H.length) (hk:fs.length≤Hn.length) {b:Nat} {m:Nd} {gs:List Nat} (h:NodeAt Hn b m gs):NodeAt (backH H fs Hn) (toGlob fs H.length b) m (gs.map (toGlob fs H.length)):=by
  obtain ⟨F,rx,qx,lx,wx,h,rfl⟩:=h
  have G:=fun {j e}=>back_get (H:=H) (Hn:=Hn) hnd hlt hk (j:=j) (e:=e)
  have hinj:=fun {i j}=>glob_inj (H:=H) hnd hlt (i:=i) (j:=j)
  generalize toGlob fs H.length=g at G hinj ⊢
  have e1:∀ x,renV g (rAt m x)=rAt m (g x):=fun x=>by unfold rAt;split<;>rfl
  have e2:∀ x,renV g (wAt m x)=wAt m (g x):=fun x=>by unfold wAt;split<;>rfl
  have e3:∀ x,renV g (lAt m x)=lAt m (g x):=fun x=>by unfold lAt;split<;>rfl
  have e4:(footL m b rx qx lx wx).map g=footL m (g b) (g rx) (g qx) (g lx) (g wx):=by
    unfold footL
    by_cases h1:m.raw=[]<;>by_cases h2:m.nq=true<;>by_cases h3:m.row=[]<;>simp [h1,h2,h3]
  refine ⟨F,g rx,g qx,g lx,g wx,⟨?_,?_,?_,?_,?_,?_⟩,e4⟩
  · rw [G h.box];simp [renE,Nd.cells,renL,renV,e1,e2]
  · intro q;rw [G (h.raw q)];simp [renE]
  · rw [G h.qu];simp [renE,renL,renV,e3]
  · intro q;rw [G (h.q q)];simp [renE]
  · intro q;rw [G (h.row q)];simp [renE]
  · rw [← e4]
    exact h.nd.map g (fun i j hij e=>hij (hinj e))
end Go.AM.R1
open Go Go.AM
namespace Go.AM.R1
def nd0:Nd:=⟨[],false,0,0,0,0,false,false,false,false,Ct.zero,Fr.zero,[],true,[]⟩
theorem nnew_spec:call E (.func (.func 19) [] []) [] []=some (.ptr 0 0,ndH nd0 ⟨false,false,false,false,false⟩):=by
  have h:=qnew_spec
  simp [quH,nilS] at h
  rw [call_func E E19]
  simp [go_sem,ir19,ndH,rV,qI,qV,wI,wV,rE,qE,wE,Nd.cells,nilS,nd0,Ct.zero,Fr.zero,lvF,h,purse_eq,List.range_succ]
/-- A frame is put in. -/
def nputN (n:Nd) (f:Fr):Int × Nd:=if checkP f≠0 then (checkP f,n) else if 16≤n.q.length then (15,n) else (0,{ n with q:=insP f n.q,nq:=false })
theorem insP_len (f:Fr) (l:List Fr):(insP f l).length=l.length+1:=by
  have:=ixL_le f l
  simp [insP];omega
theorem nput_spec (n:Nd) (F:Fl) (hn:n.Ok) (f:Fr):∃ Hn gs,call E (.func (.func 21) [] []) [.ptr 0 0,.agg (encFr f)] (ndH n F)=some (.lit (.int .i64 (nputN n f).1),Hn)∧NodeAt Hn 0 (nputN n f).2 gs∧mI n≤Hn.length:=by
  have hl:n.q.length≤1000:=by have:=hn.ql;omega
  have hp:=quPut_spec n.nq F.fq f n.q hn.nq hl
  unfold nputN
  by_cases hc:checkP f≠0
  · rw [if_pos hc] at hp ⊢
    refine ⟨ndH n F++[],_,?_,nodeAt_can n F [],by rw [List.append_nil,ndH_len];omega⟩
    rw [List.append_nil]
    rw [call_func E E21]
    by_cases h1:n.raw=[]<;>by_cases hq:n.nq=true<;>by_cases h3:n.row=[] <;>
    simp [ndH,rV,qI,qV,wI,wV,rE,qE,wE,Nd.cells,nilS,quH,encFr,u8v,h1,hq,h3] at hp <;>
    simp [go_sem,ir21,ndH,rV,qI,qV,wI,wV,rE,qE,wE,Nd.cells,nilS,encFr,u8v,h1,hq,h3,hp,purse_eq,List.range_succ]
  · rw [if_neg hc] at hp ⊢
    by_cases h16:16≤n.q.length
    · rw [if_pos h16] at hp ⊢
      refine ⟨ndH n F++[],_,?_,nodeAt_can n F [],by rw [List.append_nil,ndH_len];omega⟩
      rw [List.append_nil]
      rw [call_func E E21]
      by_cases h1:n.raw=[]<;>by_cases hq:n.nq=true<;>by_cases h3:n.row=[] <;>
      simp [ndH,rV,qI,qV,wI,wV,rE,qE,wE,Nd.cells,nilS,quH,encFr,u8v,h1,hq,h3] at hp <;>
      simp [go_sem,ir21,ndH,rV,qI,qV,wI,wV,rE,qE,wE,Nd.cells,nilS,encFr,u8v,h1,hq,h3,hp,purse_eq,List.range_succ]
    · rw [if_neg h16] at hp ⊢
      have hil:=insP_len f n.q
      by_cases hq:n.nq=true
      · have hq0:=hn.nq hq
        have hi1:insP f []=[f]:=rfl
        refine ⟨.box (n.cells (rV n) (.ptr (qI n) 0) (wV n))::(rE n F++.box [.own (mI n) 1 12 0 1,.lit (.int .i64 16)]::(qE n F++wE n F))++[.arr true false false 12 [encFr f]],footL { n with q:=insP f n.q,nq:=false } 0 1 (qI n) (mI n) (wI n),?_,⟨{ F with fq:=false },1,qI n,mI n,wI n,⟨?_,?_,?_,?_,?_,?_⟩,rfl⟩,?_⟩
        · rw [call_func E E21]
          by_cases h1:n.raw=[]<;>by_cases h3:n.row=[] <;>
          simp [ndH,rV,qI,qV,wI,wV,rE,qE,wE,Nd.cells,nilS,quH,putH,encFr,u8v,h1,hq,h3,hq0] at hp <;>
          simp [go_sem,ir21,ndH,rV,qI,qV,wI,wV,rE,qE,wE,Nd.cells,nilS,mI,encFr,u8v,h1,hq,h3,hq0,hp,purse_eq,List.range_succ]
        all_goals (by_cases h1:n.raw=[]<;>by_cases h3:n.row=[]<;>simp [ndH,rV,qI,qV,wI,wV,rE,qE,wE,Nd.cells,nilS,mI,footL,rAt,lAt,wAt,h1,hq,h3,hq0,hi1])
      · have hq:n.nq=false:=by simpa using hq
        refine ⟨.box (n.cells (rV n) (.ptr (qI n) 0) (wV n))::(rE n F++.box [.own (mI n) (n.q.length+1) 12 0 (n.q.length+1),.lit (.int .i64 16)]::(.dead::wE n F))++[.arr true false false 12 ((insP f n.q).map encFr)],footL { n with q:=insP f n.q,nq:=false } 0 1 (qI n) (mI n) (wI n),?_,⟨{ F with fq:=false },1,qI n,mI n,wI n,⟨?_,?_,?_,?_,?_,?_⟩,rfl⟩,?_⟩
        · have hrows:=frRows (insP f n.q)
          unfold putH at hp
          generalize (insP f n.q).map encFr=rows at hp ⊢
          rw [call_func E E21]
          by_cases h1:n.raw=[]<;>by_cases h3:n.row=[] <;>
          simp [ndH,rV,qI,qV,wI,wV,rE,qE,wE,Nd.cells,nilS,quH,encFr,u8v,h1,hq,h3] at hp <;>
          simp [go_sem,ir21,ndH,rV,qI,qV,wI,wV,rE,qE,wE,Nd.cells,nilS,mI,encFr,u8v,h1,hq,h3,hp,purse_eq,List.range_succ]
        all_goals (by_cases h1:n.raw=[]<;>by_cases h3:n.row=[]<;>simp [ndH,rV,qI,qV,wI,wV,rE,qE,wE,Nd.cells,nilS,mI,footL,rAt,lAt,wAt,h1,hq,h3,hil])
theorem nqueue_spec (n:Nd) (F:Fl) (hn:n.Ok):∃ fu,call E (.func (.func 25) [] []) [.ptr 0 0] (ndH n F)=some (if n.nq=true then nilS else .own (mI n) n.q.length 12 0 n.q.length,ndH n F++if n.nq=true then [] else [.arr true false fu 12 (n.q.map encFr)]):=by
  by_cases hq:n.nq=true
  · have hq0:=hn.nq hq
    have h:=quAll_nil F.fq
    refine ⟨false,?_⟩
    rw [if_pos hq,if_pos hq,List.append_nil,call_func E E25]
    by_cases h1:n.raw=[]<;>by_cases h3:n.row=[] <;>
    simp [ndH,rV,qI,qV,wI,wV,rE,qE,wE,Nd.cells,nilS,quH,h1,hq,h3,hq0] at h <;>
    simp [go_sem,ir25,ndH,rV,qI,qV,wI,wV,rE,qE,wE,Nd.cells,nilS,h1,hq,h3,hq0,h,purse_eq,List.range_succ]
  · obtain ⟨fu,h⟩:=quAll_spec F.fq n.q (by have:=hn.ql;omega)
    refine ⟨fu,?_⟩
    rw [if_neg hq,if_neg hq,call_func E E25]
    by_cases h1:n.raw=[]<;>by_cases h3:n.row=[] <;>
    simp [ndH,rV,qI,qV,wI,wV,rE,qE,wE,Nd.cells,nilS,quH,h1,hq,h3] at h <;>
    simp [go_sem,ir25,ndH,rV,qI,qV,wI,wV,rE,qE,wE,Nd.cells,nilS,mI,h1,hq,h3,h,purse_eq,List.range_succ]
end Go.AM.R1
open Go Go.AM
namespace Go.AM.R1
/-! ### What holds of a node holds behind a step -/
theorem state_two (c:Ct):c.state=2↔c.off=true:=by
  unfold Ct.state
  by_cases h:c.off=true
  · simp [h]
  · rw [if_neg h];split<;>simp [h]
theorem chCt_ok {n:Nd} (h:n.ct.Ok) (w:Nat):(chCt n w).Ok:=by
  unfold chCt;split
  · exact Ct.txE_ok h
  · exact Ct.rxE_ok h w
/-- What is left of the invariant when the mode is another one. -/
structure Part (n:Nd):Prop where
  ok:n.Ok
  qv:∀ g∈n.q,g.Ok∧checkP g=0
  rows:n.rows≤128
theorem Nd.Inv.part {n:Nd} (h:n.Inv):Part n:=⟨h.ok,h.qv,h.rows⟩
theorem Part.inv {n:Nd} (h:Part n) (hm:n.mode≤10) (h2:¬ n.mode=2) (ho:n.ct.off=decide (n.mode=10)) (h10:n.mode=10→n.rows≤127:=by simp):n.Inv:=⟨h.ok,h.qv,hm,ho,h.rows,h10,fun e=>absurd e h2⟩
theorem part_of {n m:Nd} (h:Part n) (hk:Keep n m) (hc:m.ct.Ok) (hr:m.rows≤128):Part m:=⟨⟨by rw [hk.nq,hk.q];exact h.ok.nq,by rw [hk.q];exact h.ok.ql,hc⟩,by rw [hk.q];exact h.qv,hr⟩
/-- An error that counts: the node has gone off, or is as it was but for its counts. -/
theorem ch_cases (n:Nd) (w:Nat):(chN n w=(false,{ n with ct:=chCt n w,mode:=10,k:=0,rows:=0 })∧(chCt n w).off=true)∨(chN n w=(true,{ n with ct:=chCt n w })∧(chCt n w).off=false):=by
  unfold chN
  by_cases h:(chCt n w).state=2
  · rw [if_pos h];exact .inl ⟨rfl,(state_two _).1 h⟩
  · rw [if_neg h]
    refine .inr ⟨rfl,?_⟩
    cases h2:(chCt n w).off
    · rfl
    · exact absurd ((state_two _).2 h2) h
theorem flag_inv {m:Nd} (h:Part m) (ho:m.ct.off=false) (st:Int):(flagN m st).Inv:=by
  refine Part.inv ⟨⟨h.ok.nq,h.ok.ql,h.ok.ct⟩,h.qv,h.rows⟩ ?_ ?_ ?_ ?_
  · unfold flagN;simp only [];split<;>omega
  · unfold flagN;simp only [];split<;>omega
  · show m.ct.off=_
    rw [ho];unfold flagN;simp only [];split<;>rfl
  · unfold flagN;simp only [];split<;>(intro e;omega)
theorem fail_inv {n:Nd} (h:Part n) (ho:n.ct.off=false) (kind:Nat) (c:Bool):(failN n kind c).2.Inv:=by
  unfold failN
  split
  · rcases ch_cases n 1 with ⟨e,h1⟩ | ⟨e,h1⟩
    · rw [e]
      exact Part.inv ⟨⟨h.ok.nq,h.ok.ql,chCt_ok h.ok.ct 1⟩,h.qv,by simp⟩ (by simp) (by simp) (by simp [h1])
    · rw [e]
      exact flag_inv (m:={ n with ct:=chCt n 1 }) ⟨⟨h.ok.nq,h.ok.ql,chCt_ok h.ok.ct 1⟩,h.qv,h.rows⟩ h1 _
  · exact flag_inv h ho _
theorem over_inv {n:Nd} (h:Part n) (ho:n.ct.off=false):(overN n).2.Inv:=Part.inv ⟨⟨h.ok.nq,h.ok.ql,h.ok.ct⟩,h.qv,h.rows⟩ (by simp [overN]) (by simp [overN]) (by simp [overN,ho]) (by simp [overN])
theorem part_mode {n:Nd} (h:Part n) (ho:n.ct.off=false) {m:Nd} (e1:Keep n m) (e2:m.ct=n.ct) (e3:m.rows=n.rows) (hm:m.mode≤9) (h2:¬ m.mode=2):m.Inv :=
  Part.inv (part_of h e1 (by rw [e2];exact h.ok.ct) (by rw [e3];exact h.rows)) (by omega) h2 (by rw [e2,ho];simp;omega) (fun e=>by omega)
theorem start_inv {n:Nd} (h:Part n) (ho:n.ct.off=false) (s:Bool) (hs:s=true→n.q≠[]):(startN n s).Inv:=by
  refine ⟨⟨h.ok.nq,h.ok.ql,h.ok.ct⟩,h.qv,by simp [startN],by simp [startN,ho],h.rows,by simp [startN],fun _=>⟨by simp [startN],rfl,nIn_one false,by simp [startN],by simp [startN],rfl,fun hs2=>?_⟩⟩
  have hs2:s=true:=hs2
  subst hs2
  cases hq:n.q with
  | nil=>exact absurd hq (hs rfl)
  | cons g r =>
    have hv:=h.qv g (by rw [hq];simp)
    have hown:(startN n true).own=g:=by unfold startN;rw [hq];rfl
    refine ⟨?_,?_,?_,?_,?_,?_⟩
    · show n.nq=false
      cases hn:n.nq
      · rfl
      · have:=h.ok.nq hn;rw [hq] at this;cases this
    · rw [hown];show g∈n.q;rw [hq];simp
    · rw [hown];exact hv.1
    · rw [hown];exact hv.2
    · rw [hown];show (if true=true then allP (n.q.head?.getD Fr.zero) else n.row)=allP g
      rw [if_pos rfl,hq]<;>rfl
    · rw [hown]
      have e:sentP g=false::(sentP g).tail:=by unfold sentP bitsP;rfl
      refine .inl ⟨(sentP g).tail,?_,by rw [show (startN n true).raw=[false] from rfl,List.singleton_append];exact e.symm⟩
      intro q
      have hl:=(sentP_sum g hv.2 []).2.2
      have hb:=(bitsP_length g).2
      rw [e,q] at hl
      simp only [List.length_cons,List.length_nil] at hl;omega
/-- A level in a frame is taken. -/
theorem take_inf {n:Nd} (h:InF n) (hk:nextF n.raw≠(8,6)) (b:Bool) (hb:n.sends=true→b=frL n∨(nextF n.raw).1=6):InF (takeN n b).2:=by
  obtain ⟨h1,h0,hri,hl5,h58,htx,hse⟩:=h
  have hkind:=hri.kind
  have hnl:¬ (dataF n.raw≤n.raw.length∧n.raw.length=sumF n.raw+24):=by
    rintro ⟨q1,q2⟩
    apply hk
    have h3:=sumF_ge n.raw
    unfold nextF
    rw [if_neg (by omega),if_neg (by
      rintro (q | ⟨q3,q4⟩)
      · omega
      · have:dataF n.raw=39:=by unfold dataF;rw [if_pos q3]
        omega),if_neg (by omega),if_neg (by omega),if_neg (by omega),if_neg (by omega),if_neg (by omega),if_neg (by omega),if_pos (by omega)]
    congr 1;omega
  have happ:=nIn_append hri hnl b
  have h0':(n.raw++[b])[0]?=some false:=by rw [List.getElem?_append_left (List.length_pos_iff.2 h1)];exact h0
  have hsend:n.run≠5→n.sends=true→SendOk { n with raw:=n.raw++[b] }:=by
    intro h5 hs
    obtain ⟨s1,s2,s3,s4,s5,s6⟩:=hse hs
    obtain ⟨-,-,f1,f2⟩:=send_facts (hse hs)
    refine ⟨s1,s2,s3,s4,s5,?_⟩
    rcases s6 with ⟨r,hr,e⟩ | ⟨t,e,ht⟩
    · have hk4:=prefix_kind n.own s4 n.raw r hr e
      cases r with
      | nil=>exact absurd rfl hr
      | cons x s =>
        have hx:=f2 _ e x s rfl
        have hbx:b=x:=by
          rcases hb hs with q | q
          · rw [q];unfold frL;rw [if_pos hs,if_neg h5,hx];rfl
          · omega
        subst hbx
        by_cases hs0:s=[]
        · subst hs0
          exact .inr ⟨[],by simpa using e,by simp⟩
        · exact .inl ⟨s,hs0,by simpa using e⟩
    · refine .inr ⟨t++[b],by simp [e],?_⟩
      have ht9:t.length≠9:=by
        intro q
        apply hk
        rw [e,nextF_sent n.own s4 t (by omega)]
        simp [q]
      simp;omega
  by_cases h5:n.run=5
  · by_cases hlb:b=n.lvl
    · rw [show (takeN n b).2=n by unfold takeN;rw [if_pos h5,if_pos hlb]]
      exact ⟨h1,h0,hri,hl5,h58,htx,hse⟩
    · rw [show (takeN n b).2={ n with lvl:=b,run:=1 } by unfold takeN;rw [if_pos h5,if_neg hlb]]
      exact ⟨h1,h0,hri,by simp,by simp,htx,fun hs=>let q:=hse hs;⟨q.nq,q.mem,q.ok,q.chk,q.row,q.raw⟩⟩
  · by_cases hk4:4<(nextF n.raw).1
    · rw [show (takeN n b).2={ n with run:=0,raw:=n.raw++[b] } by unfold takeN;rw [if_neg h5,if_pos hk4]]
      exact ⟨by simp,h0',happ,by simp,by simp,htx,fun hs=>let q:=hsend h5 hs;⟨q.nq,q.mem,q.ok,q.chk,q.row,q.raw⟩⟩
    · have kn:=kind_next (m:=n.raw) (by omega) b
      by_cases hr:0<n.run∧b=n.lvl
      · rw [show (takeN n b).2={ n with run:=n.run+1,raw:=n.raw++[b] } by unfold takeN;rw [if_neg h5,if_neg hk4,if_pos hr]]
        exact ⟨by simp,h0',happ,by simp only [];omega,fun _=>kn,htx,fun hs=>let q:=hsend h5 hs;⟨q.nq,q.mem,q.ok,q.chk,q.row,q.raw⟩⟩
      · rw [show (takeN n b).2={ n with lvl:=b,run:=1,raw:=n.raw++[b] } by unfold takeN;rw [if_neg h5,if_neg hk4,if_neg hr]]
        exact ⟨by simp,h0',happ,by simp,fun _=>kn,htx,fun hs=>let q:=hsend h5 hs;⟨q.nq,q.mem,q.ok,q.chk,q.row,q.raw⟩⟩
theorem take_same (n:Nd) (b:Bool):(takeN n b).2.q=n.q∧(takeN n b).2.nq=n.nq∧(takeN n b).2.ct=n.ct∧(takeN n b).2.rows=n.rows∧(takeN n b).2.mode=n.mode∧(takeN n b).2.k=n.k∧(takeN n b).2.tx=n.tx∧(takeN n b).2.sends=n.sends∧(takeN n b).2.own=n.own∧(takeN n b).2.row=n.row:=by
  unfold takeN
  split
  · split<;>exact ⟨rfl,rfl,rfl,rfl,rfl,rfl,rfl,rfl,rfl,rfl⟩
  · split
    · exact ⟨rfl,rfl,rfl,rfl,rfl,rfl,rfl,rfl,rfl,rfl⟩
    · split<;>exact ⟨rfl,rfl,rfl,rfl,rfl,rfl,rfl,rfl,rfl,rfl⟩
theorem take_inv {n:Nd} (h:n.Inv) (h2:n.mode=2) (hk:nextF n.raw≠(8,6)) (b:Bool) (hb:n.sends=true→b=frL n∨(nextF n.raw).1=6):(takeN n b).2.Inv:=by
  have t:=take_same n b
  have hi:=take_inf (h.inf h2) hk b hb
  exact ⟨⟨by rw [t.2.1,t.1];exact h.ok.nq,by rw [t.1];exact h.ok.ql,by rw [t.2.2.1];exact h.ok.ct⟩,by rw [t.1];exact h.qv,by rw [t.2.2.2.2.1];exact h.mode,by rw [t.2.2.1,t.2.2.2.2.1];exact h.off,by rw [t.2.2.2.1];exact h.rows,by rw [t.2.2.2.1,t.2.2.2.2.1];exact h.r10,fun _=>hi⟩
theorem join_keep0 (n:Nd) (b:Bool):Keep n (joinN n b).2∧(joinN n b).2.ct=n.ct∧(joinN n b).2.rows=n.rows:=by
  unfold joinN;simp only [];split
  · exact ⟨⟨rfl,rfl,rfl,rfl⟩,rfl,rfl⟩
  · split<;>exact ⟨⟨rfl,rfl,rfl,rfl⟩,rfl,rfl⟩
theorem join_inv {n:Nd} (h:n.Inv) (hm:n.mode=0) (b:Bool):(joinN n b).2.Inv:=by
  have ho:n.ct.off=false:=by rw [h.off];simp;omega
  refine part_mode h.part ho (join_keep0 n b).1 (join_keep0 n b).2.1 (join_keep0 n b).2.2 ?_ ?_<;>(unfold joinN;simp only [];split<;>first | (simp only [];omega) | (split<;>simp only []<;>omega))
theorem mem_delL {f g:Fr} {l:List Fr} (h:g∈delL f l):g∈l:=by
  unfold delL at h
  rcases List.mem_append.1 h with h | h
  · exact List.mem_of_mem_take h
  · exact List.mem_of_mem_drop h
theorem in_inv {n : Nd} (h:n.Inv) (h2:n.mode=2) (b:Bool):(inN n b).2.2.Inv:=by
  have hp:=h.part
  have ho:n.ct.off=false:=by rw [h.off];simp;omega
  have hf:=h.inf h2
  have t:=take_same n true
  unfold inN
  split
  · rename_i hs
    split
    · rename_i hd
      split
      · have hi:=fail_inv hp ho 8 (!decide (n.ct.state=1))
        exact ⟨⟨hi.ok.nq,hi.ok.ql,hi.ok.ct⟩,hi.qv,hi.mode,hi.off,hi.rows,hi.r10,fun e=>by
          have hf2:=hi.inf e
          exact ⟨hf2.ne,hf2.h0,hf2.ri,hf2.run,hf2.r58,hf2.tx,fun q=>⟨(hf2.se q).nq,(hf2.se q).mem,(hf2.se q).ok,(hf2.se q).chk,(hf2.se q).row,(hf2.se q).raw⟩⟩⟩
      · rename_i hq1
        split
        · have hS:=hf.se hs
          have hlen:=delL_len n.own n.q hS.mem
          refine Part.inv ⟨⟨fun e=>?_,?_,?_⟩,?_,?_⟩ (by simp [sentN]) (by simp [sentN]) ?_ (by simp [sentN])
          · have:(takeN n true).2.nq=true:=e
            rw [t.2.1,hS.nq] at this;cases this
          · show (delL (takeN n true).2.own (takeN n true).2.q).length≤16
            rw [t.2.2.2.2.2.2.2.2.1,t.1,hlen];have:=h.ok.ql;omega
          · show ((takeN n true).2.ct.sent).Ok
            rw [t.2.2.1];exact Ct.sent_ok h.ok.ct
          · intro g hg
            have hg:g∈delL (takeN n true).2.own (takeN n true).2.q:=hg
            rw [t.2.2.2.2.2.2.2.2.1,t.1] at hg
            exact h.qv g (mem_delL hg)
          · show (takeN n true).2.rows≤128
            rw [t.2.2.2.1];exact h.rows
          · show ((takeN n true).2.ct.sent).off=_
            rw [t.2.2.1]
            unfold Ct.sent;rw [ho];simp [sentN]
        · rename_i hq2
          refine take_inv h h2 (fun e=>hq2 ⟨fun e5=>?_,e⟩) b (fun _=>.inl hd)
          have:=hf.r58 e5
          rw [e] at this;simp at this
    · split
      · exact fail_inv hp ho 4 true
      · split
        · rename_i hk1
          split
          · exact fail_inv hp ho 5 false
          · have hM:({ n with tx:=false,sends:=false }:Nd).Inv:=⟨⟨h.ok.nq,h.ok.ql,h.ok.ct⟩,h.qv,h.mode,h.off,h.rows,h.r10,fun _=>⟨hf.ne,hf.h0,hf.ri,hf.run,hf.r58,rfl,fun e=>by cases e⟩⟩
            exact take_inv hM h2 (fun e=>by rw [show ({ n with tx:=false,sends:=false }:Nd).raw=n.raw from rfl] at e;rw [e] at hk1;simp at hk1) false (fun e=>by cases e)
        · split
          · rename_i hk6
            exact take_inv h h2 (fun e=>by rw [e] at hk6;simp at hk6) false (fun _=>.inr hk6)
          · exact fail_inv hp ho 4 true
  · rename_i hs
    have hs:n.sends=false:=by simpa using hs
    have tk:=fun (b:Bool) (hk:nextF n.raw≠(8,6))=>take_inv h h2 hk b (fun e=>by rw [hs] at e;cases e)
    split
    · rename_i hd
      split
      · exact fail_inv hp ho 4 true
      · refine tk false (fun e=>?_)
        unfold frL at hd
        rw [if_neg (by rw [hs];simp),e] at hd
        simp at hd
    · split
      · rename_i h5
        split
        · exact fail_inv hp ho 5 true
        · exact tk b (fun e=>by have:=hf.r58 h5;rw [e] at this;simp at this)
      · split
        · rename_i hkk
          exact tk b (fun e=>by rw [e] at hkk;simp at hkk)
        · split
          · split
            · exact over_inv hp ho
            · exact fail_inv hp ho 7 true
          · split
            · exact fail_inv hp ho 6 true
            · split
              · rename_i h85
                have hi:=tk true (fun e=>by rw [e] at h85;cases h85)
                have hf2:=hi.inf (by rw [t.2.2.2.2.1];exact h2)
                refine ⟨⟨hi.ok.nq,hi.ok.ql,Ct.recv_ok h.ok.ct⟩,hi.qv,hi.mode,?_,hi.rows,hi.r10,fun _=>⟨hf2.ne,hf2.h0,hf2.ri,hf2.run,hf2.r58,hf2.tx,fun q=>⟨(hf2.se q).nq,(hf2.se q).mem,(hf2.se q).ok,(hf2.se q).chk,(hf2.se q).row,(hf2.se q).raw⟩⟩⟩
                show n.ct.recv.off=decide ((takeN n true).2.mode=10)
                rw [t.2.2.2.2.1,h2]
                unfold Ct.recv;rw [ho];simp
              · split
                · refine Part.inv ⟨⟨?_,?_,?_⟩,?_,?_⟩ (by simp) (by simp) ?_
                  · show (takeN n true).2.nq=true→(takeN n true).2.q=[]
                    rw [t.2.1,t.1];exact h.ok.nq
                  · show (takeN n true).2.q.length≤16
                    rw [t.1];exact h.ok.ql
                  · show (takeN n true).2.ct.Ok
                    rw [t.2.2.1];exact h.ok.ct
                  · show ∀ g∈(takeN n true).2.q,_
                    rw [t.1];exact h.qv
                  · show (takeN n true).2.rows≤128
                    rw [t.2.2.2.1];exact h.rows
                  · show (takeN n true).2.ct.off=_
                    rw [t.2.2.1,ho];simp
                · rename_i h86
                  exact tk true h86
theorem dom_inv {n:Nd} (h:n.Inv) (hm:n.mode=3∨n.mode=5) (b:Bool):(domN n b).2.Inv:=by
  have hp:=h.part
  have ho:n.ct.off=false:=by rw [h.off];simp;omega
  unfold domN
  split
  · simp only []
    split
    · exact part_mode hp ho (m:={ n with mode:=6,k:=0 }) ⟨rfl,rfl,rfl,rfl⟩ rfl rfl (by simp) (by simp)
    · exact part_mode hp ho (m:={ n with k:=n.k+1 }) ⟨rfl,rfl,rfl,rfl⟩ rfl rfl (by simp only [];omega) (by simp only [];omega)
  · rcases ch_cases n 8 with ⟨e,h1⟩ | ⟨e,h1⟩
    · rw [e]
      exact Part.inv ⟨⟨hp.ok.nq,hp.ok.ql,chCt_ok hp.ok.ct 8⟩,hp.qv,by simp⟩ (by simp) (by simp) (by simp [h1])
    · rw [e]
      have hq:Part { n with ct:=chCt n 8 }:=⟨⟨hp.ok.nq,hp.ok.ql,chCt_ok hp.ok.ct 8⟩,hp.qv,hp.rows⟩
      rw [if_pos rfl]
      simp only []
      split
      · exact part_mode hq h1 (m:={ n with ct:=chCt n 8,mode:=6,k:=0 }) ⟨rfl,rfl,rfl,rfl⟩ rfl rfl (by simp) (by simp)
      · exact part_mode hq h1 (m:={ n with ct:=chCt n 8,k:=n.k+1 }) ⟨rfl,rfl,rfl,rfl⟩ rfl rfl (by simp only [];omega) (by simp only [];omega)
theorem pas_inv {n:Nd} (h:n.Inv) (hm:n.mode=4) (b:Bool):(pasN n b).2.Inv:=by
  have hp:=h.part
  have ho:n.ct.off=false:=by rw [h.off];simp;omega
  unfold pasN
  split
  · have hq0:Part { n with k:=pasK n b,lvl:=b,owed:=false }:=⟨⟨hp.ok.nq,hp.ok.ql,hp.ok.ct⟩,hp.qv,hp.rows⟩
    rcases ch_cases { n with k:=pasK n b,lvl:=b,owed:=false } 8 with ⟨e,h1⟩ | ⟨e,h1⟩
    · rw [e]
      exact Part.inv ⟨⟨hp.ok.nq,hp.ok.ql,chCt_ok hq0.ok.ct 8⟩,hp.qv,by simp⟩ (by simp) (by simp) (by simp [h1])
    · rw [e]
      have hq:Part { n with k:=pasK n b,lvl:=b,owed:=false,ct:=chCt { n with k:=pasK n b,lvl:=b,owed:=false } 8 }:=⟨⟨hp.ok.nq,hp.ok.ql,chCt_ok hq0.ok.ct 8⟩,hp.qv,hp.rows⟩
      rw [if_pos rfl]
      simp only []
      split
      · exact part_mode hq h1 (m:={ n with k:=0,lvl:=b,owed:=false,ct:=chCt { n with k:=pasK n b,lvl:=b,owed:=false } 8,mode:=6 }) ⟨rfl,rfl,rfl,rfl⟩ rfl rfl (by simp) (by simp)
      · exact part_mode hq h1 (m:={ n with k:=pasK n b,lvl:=b,owed:=false,ct:=chCt { n with k:=pasK n b,lvl:=b,owed:=false } 8 }) ⟨rfl,rfl,rfl,rfl⟩ rfl rfl (by simp only [];omega) (by simp only [];omega)
  · simp only []
    split
    · exact part_mode hp ho (m:={ n with lvl:=b,mode:=6,k:=0 }) ⟨rfl,rfl,rfl,rfl⟩ rfl rfl (by simp) (by simp)
    · exact part_mode hp ho (m:={ n with k:=pasK n b,lvl:=b }) ⟨rfl,rfl,rfl,rfl⟩ rfl rfl (by simp only [];omega) (by simp only [];omega)
theorem wait_inv {n:Nd} (h:n.Inv) (hm:n.mode=6) (b:Bool):(waitN n b).2.Inv:=by
  have hp:=h.part
  have ho:n.ct.off=false:=by rw [h.off];simp;omega
  unfold waitN
  split
  · exact part_mode hp ho (m:={ n with mode:=7,k:=1 }) ⟨rfl,rfl,rfl,rfl⟩ rfl rfl (by simp) (by simp)
  · split
    · rename_i hA
      have hoff:(chCt n 8).off=false:=by
        cases q:(chCt n 8).off
        · rfl
        · exact absurd ((state_two _).2 q) (rx_on hA.2.2 ho 8)
      exact part_mode (n:={ n with ct:=chCt n 8 }) ⟨⟨hp.ok.nq,hp.ok.ql,chCt_ok hp.ok.ct 8⟩,hp.qv,hp.rows⟩ hoff (m:={ n with k:=1,ct:=chCt n 8 }) ⟨rfl,rfl,rfl,rfl⟩ rfl rfl (by simp only [];omega) (by simp only [];omega)
    · split
      · rcases ch_cases { n with k:=n.k+1 } 8 with ⟨e,h1⟩ | ⟨e,h1⟩
        · rw [e]
          exact Part.inv ⟨⟨hp.ok.nq,hp.ok.ql,chCt_ok (n:={ n with k:=n.k+1 }) hp.ok.ct 8⟩,hp.qv,by simp⟩ (by simp) (by simp) (by simp [h1])
        · rw [e]
          rw [if_pos rfl]
          exact part_mode (n:={ n with ct:=chCt { n with k:=n.k+1 } 8 }) ⟨⟨hp.ok.nq,hp.ok.ql,chCt_ok (n:={ n with k:=n.k+1 }) hp.ok.ct 8⟩,hp.qv,hp.rows⟩ h1 (m:={ n with k:=n.k+1,ct:=chCt { n with k:=n.k+1 } 8 }) ⟨rfl,rfl,rfl,rfl⟩ rfl rfl (by simp only [];omega) (by simp only [];omega)
      · exact part_mode hp ho (m:={ n with k:=n.k+1 }) ⟨rfl,rfl,rfl,rfl⟩ rfl rfl (by simp only [];omega) (by simp only [];omega)
theorem close_inv {n:Nd} (h:n.Inv) (hm:n.mode=7) (b:Bool):(closeN n b).2.Inv:=by
  have hp:=h.part
  have ho:n.ct.off=false:=by rw [h.off];simp;omega
  unfold closeN
  split
  · simp only []
    split
    · exact part_mode hp ho (m:={ n with mode:=8,k:=0 }) ⟨rfl,rfl,rfl,rfl⟩ rfl rfl (by simp) (by simp)
    · exact part_mode hp ho (m:={ n with k:=n.k+1 }) ⟨rfl,rfl,rfl,rfl⟩ rfl rfl (by simp only [];omega) (by simp only [];omega)
  · split
    · exact over_inv hp ho
    · exact fail_inv hp ho 7 true
theorem off_inv {n:Nd} (h:n.Inv) (hm:n.mode=10) (b:Bool):(offN n b).2.Inv:=by
  have hp:=h.part
  have ho:n.ct.off=true:=by rw [h.off];simp [hm]
  unfold offN
  split
  · split
    · exact Part.inv ⟨⟨hp.ok.nq,hp.ok.ql,Ct.zero_ok⟩,hp.qv,by simp⟩ (by simp) (by simp) (by simp [Ct.zero])
    · exact Part.inv ⟨⟨hp.ok.nq,hp.ok.ql,hp.ok.ct⟩,hp.qv,by have:=h.r10 hm;simp only [];omega⟩ (by simp only [];omega) (by simp only [];omega) (by simp [ho,hm]) (fun _=>by have:=h.r10 hm;simp only [];omega)
  · split
    · exact Part.inv ⟨⟨hp.ok.nq,hp.ok.ql,Ct.zero_ok⟩,hp.qv,hp.rows⟩ (by simp) (by simp) (by simp [Ct.zero])
    · exact Part.inv ⟨⟨hp.ok.nq,hp.ok.ql,hp.ok.ct⟩,hp.qv,hp.rows⟩ (by simp only [];omega) (by simp only [];omega) (by simp [ho,hm]) (fun _=>h.r10 hm)
theorem idle_inv {n:Nd} (h:n.Inv) (hm:n.mode=1) (b:Bool):(idleN n b).2.Inv:=by
  have hp:=h.part
  have ho:n.ct.off=false:=by rw [h.off];simp;omega
  unfold idleN
  split
  · exact start_inv hp ho _ (fun e=>by simpa using e)
  · split
    · exact h
    · exact fail_inv (n:={ n with tx:=true }) ⟨⟨hp.ok.nq,hp.ok.ql,hp.ok.ct⟩,hp.qv,hp.rows⟩ ho 4 true
theorem paus_inv {n:Nd} (h:n.Inv) (hm:n.mode=8) (b:Bool):(pausN n b).2.Inv:=by
  have hp:=h.part
  have ho:n.ct.off=false:=by rw [h.off];simp;omega
  unfold pausN
  split
  · unfold pauseN
    simp only []
    split
    · exact part_mode hp ho (m:={ n with k:=n.k+1 }) ⟨rfl,rfl,rfl,rfl⟩ rfl rfl (by simp only [];omega) (by simp only [];omega)
    · split
      · exact part_mode hp ho (m:={ n with mode:=9,k:=0 }) ⟨rfl,rfl,rfl,rfl⟩ rfl rfl (by simp) (by simp)
      · exact part_mode hp ho (m:={ n with mode:=1,k:=0 }) ⟨rfl,rfl,rfl,rfl⟩ rfl rfl (by simp) (by simp)
  · split
    · exact over_inv hp ho
    · exact start_inv hp ho _ (fun e=>by simp at e;exact e.1)
theorem ssp_inv {n:Nd} (h:n.Inv) (hm:n.mode=9) (b:Bool):(sspN n b).2.Inv:=by
  have hp:=h.part
  have ho:n.ct.off=false:=by rw [h.off];simp;omega
  unfold sspN
  split
  · unfold suspN
    simp only []
    split
    · exact part_mode hp ho (m:={ n with mode:=1,k:=0 }) ⟨rfl,rfl,rfl,rfl⟩ rfl rfl (by simp) (by simp)
    · exact part_mode hp ho (m:={ n with k:=n.k+1 }) ⟨rfl,rfl,rfl,rfl⟩ rfl rfl (by simp only [];omega) (by simp only [];omega)
  · exact start_inv hp ho false (fun e=>by cases e)
theorem step_modes (n:Nd) (b:Bool) (hm:n.mode≤10):(n.mode=0∧nxN n b=(joinN n b).2)∨(n.mode=1∧nxN n b=(idleN n b).2)∨(n.mode=2∧nxN n b=(inN n b).2.2)∨((n.mode=3∨n.mode=5)∧nxN n b=(domN n b).2)∨(n.mode=4∧nxN n b=(pasN n b).2)∨(n.mode=6∧nxN n b=(waitN n b).2)∨(n.mode=7∧nxN n b=(closeN n b).2)∨(n.mode=8∧nxN n b=(pausN n b).2)∨(n.mode=9∧nxN n b=(sspN n b).2)∨(n.mode=10∧nxN n b=(offN n b).2):=by
  have hcases:n.mode=0∨n.mode=1∨n.mode=2∨n.mode=3∨n.mode=4∨n.mode=5∨n.mode=6∨n.mode=7∨n.mode=8∨n.mode=9∨n.mode=10:=by omega
  rcases hcases with h | h | h | h | h | h | h | h | h | h | h<;>simp [nxN,stepN,h,noFr]
/-- WHAT HOLDS OF A NODE HOLDS BEHIND A STEP. -/
theorem inv_next {n:Nd} (h:n.Inv) (b:Bool):(nxN n b).Inv:=by
  rcases step_modes n b h.mode with ⟨m,e⟩ | ⟨m,e⟩ | ⟨m,e⟩ | ⟨m,e⟩ | ⟨m,e⟩ | ⟨m,e⟩ | ⟨m,e⟩ | ⟨m,e⟩ | ⟨m,e⟩ | ⟨m,e⟩<;>rw [e]
  · exact join_inv h m b
  · exact idle_inv h m b
  · exact in_inv h m b
  · exact dom_inv h m b
  · exact pas_inv h m b
  · exact wait_inv h m b
  · exact close_inv h m b
  · exact paus_inv h m b
  · exact ssp_inv h m b
  · exact off_inv h m b
theorem nd0_inv:nd0.Inv:=⟨⟨fun _=>rfl,by simp [nd0],Ct.zero_ok⟩,by simp [nd0],by simp [nd0],rfl,by simp [nd0],by simp [nd0],fun e=>by cases e⟩
end Go.AM.R1
open Go Go.AM
namespace Go.AM.R1
/-- How it lies behind a step: the node, and what happened. -/
def Lies (Hn:Heap) (n':Nd) (N:Nat) (es:List (Nat × Fr)) (v:AVal):Prop :=
  ∃ gs ix,NodeAt Hn 0 n' gs∧N≤Hn.length∧v=evV ix es∧(es≠[]→Hn[ix]?=some (.arr true false false 15 (es.map encEv))∧N≤ix∧ix ∉ gs)
def KsOk (ks:List Nat):Prop:=ks=[]∨(∃ a,ks=[a])∨(∃ a,a≠1∧a≠2∧ks=[a,10])
theorem mI_same {n m:Nd} (k1:m.raw=[]↔n.raw=[]) (k2:m.nq=n.nq) (k3:m.row=[]↔n.row=[]):mI m=mI n:=by
  unfold mI wI qI
  simp only [k1,k2,k3]
theorem lies_can (n n':Nd) (F2:Fl) (es:List (Nat × Fr)) (hm:mI n'=mI n):Lies (ndH n' F2++evE es) n' (mI n) es (evV (mI n) es):=by
  refine ⟨_,mI n,nodeAt_can n' F2 _,by rw [List.length_append,ndH_len];omega,rfl,fun he=>?_⟩
  refine ⟨?_,Nat.le_refl _,by rw [hm];simp⟩
  rw [List.getElem?_append_right (by rw [ndH_len];omega),ndH_len,hm,Nat.sub_self]
  unfold evE;rw [if_neg he];rfl
theorem step_of_can (n:Nd) (F:Fl) (b:Bool) (fid:Nat) (hm:n.mode<11) (hg:(stepF.drop n.mode)[0]?=some (.func (.func fid) [] [])) (n':Nd) (F2:Fl) (ks:List Nat) (f':Fr) (hk:KsOk ks)
    (k1:n'.raw=[]↔n.raw=[]) (k2:n'.nq=n.nq) (k3:n'.row=[]↔n.row=[]) (hc:call E (.func (.func fid) [] []) [.ptr 0 0,.ptr (mI n) 0,.lit (.int .i64 (lv b))] (ndT n F [] Fr.zero)=some (.tup [],ndT n' F2 ks f')) :
    ∃ Hn v,call E (.func (.func 17) [] []) [.ptr 0 0,.lit (.int .i64 (lv b))] (ndH n F)=some (.tup [v,.lit (.int .i64 0)],Hn)∧Lies Hn n' (mI n) (evsOf ks f') v:=by
  have hmi:=mI_same k1 k2 k3
  rcases hk with rfl | ⟨a,rfl⟩ | ⟨a,h1,h2,rfl⟩
  · exact ⟨_,_,nstep_can0 n F b fid hm hg n' F2 f' k1 k2 k3 hc,lies_can n n' F2 [] hmi⟩
  · by_cases ha:a=1∨a=2
    · have e:evsOf [a] f'=[(a,f')]:=by simp [evsOf,ha]
      rw [e]
      exact ⟨_,_,nstep_can1f n F b fid hm hg a ha n' F2 f' k1 k2 k3 hc,lies_can n n' F2 _ hmi⟩
    · have e:evsOf [a] f'=[(a,Fr.zero)]:=by simp [evsOf,ha]
      rw [e]
      exact ⟨_,_,nstep_can1 n F b fid hm hg a (fun q=>ha (.inl q)) (fun q=>ha (.inr q)) n' F2 f' k1 k2 k3 hc,lies_can n n' F2 _ hmi⟩
  · have e:evsOf [a,10] f'=[(a,Fr.zero),(10,Fr.zero)]:=by simp [evsOf,h1,h2]
    rw [e]
    exact ⟨_,_,nstep_can2 n F b fid hm hg a h1 h2 n' F2 f' k1 k2 k3 hc,lies_can n n' F2 _ hmi⟩
theorem nodeAt_st (n:Nd) (F:Fl) (s:Bool):NodeAt (stG 0 [] n (startN n s) F s) 0 (startN n s) (footL (startN n s) 0 (mI n) (qI n) (qI n+1) (if s=true then mI n+1 else wI n))∧mI n≤(stG 0 [] n (startN n s) F s).length:=by
  have hne:=allP_ne (n.q.head?.getD Fr.zero)
  refine ⟨⟨⟨false,false,F.fq,if s=true then false else F.lw,if s=true then false else F.fw⟩,mI n,qI n,qI n+1,(if s=true then mI n+1 else wI n),⟨?_,?_,?_,?_,?_,?_⟩,rfl⟩,?_⟩ <;>
  cases s<;>by_cases h1:n.raw=[]<;>by_cases h2:n.nq=true<;>by_cases h3:n.row=[] <;>
  simp [stG,startN,ndH,rV,qI,qV,wI,wV,rE,qE,wE,Nd.cells,nilS,mI,footL,rAt,lAt,wAt,h1,h2,h3,hne]
theorem step_of_start (n:Nd) (F:Fl) (b:Bool) (fid:Nat) (hm:n.mode<11) (hg:(stepF.drop n.mode)[0]?=some (.func (.func fid) [] [])) (s:Bool)
    (hc:call E (.func (.func fid) [] []) [.ptr 0 0,.ptr (mI n) 0,.lit (.int .i64 (lv b))] (ndT n F [] Fr.zero)=some (.tup [],stG 1 (tdE (mI n) [] Fr.zero) n (startN n s) F s)) :
    ∃ Hn v,call E (.func (.func 17) [] []) [.ptr 0 0,.lit (.int .i64 (lv b))] (ndH n F)=some (.tup [v,.lit (.int .i64 0)],Hn)∧Lies Hn (startN n s) (mI n) [] v:=by
  have hN:=nodeAt_st n F s
  refine ⟨stG 0 [] n (startN n s) F s,nilS,?_,_,0,hN.1,hN.2,rfl,fun q=>absurd rfl q⟩
  cases s
  · exact nstep_start_f n F b fid hm hg _ hc
  · exact nstep_start_t n F b fid hm hg _ (allP_ne _) hc
theorem step_of_sent (n:Nd) (F:Fl) (b:Bool) (fid:Nat) (hm:n.mode<11) (hg:(stepF.drop n.mode)[0]?=some (.func (.func fid) [] [])) (h1:¬ n.raw=[]) (hq:n.nq=false) (h3:¬ n.row=[]) (m:Nd) (F2:Fl) (hm1:¬ m.raw=[]) (hm2:m.nq=false) (hm3:m.row=n.row)
    (hmem:m.own∈m.q) (hc:call E (.func (.func fid) [] []) [.ptr 0 0,.ptr (mI n) 0,.lit (.int .i64 (lv b))] (ndT n F [] Fr.zero)=some (.tup [],sentG [.box (tdC (.own 7 1 1 0 1) m.own)] [.arr true false false 1 [encK 1]] 6 m F2)) :
    ∃ Hn v,call E (.func (.func 17) [] []) [.ptr 0 0,.lit (.int .i64 (lv b))] (ndH n F)=some (.tup [v,.lit (.int .i64 0)],Hn)∧Lies Hn (sentN m) (mI n) [(1,m.own)] v:=by
  have hmi:mI n=5:=by simp [mI,wI,qI,h1,hq,h3]
  have hlen:=delL_len m.own m.q hmem
  have h3':¬ m.row=[]:=by rw [hm3];exact h3
  refine ⟨_,_,nstep_sent n F b fid hm hg h1 hq h3 m F2 hm1 hm2 hm3 hc,[0,1,2,5,4],6,?_,?_,rfl,fun _=>⟨rfl,by omega,by simp⟩⟩
  · refine ⟨{ F2 with fq:=false },1,2,5,4,⟨?_,?_,?_,?_,?_,?_⟩,?_⟩ <;>
    simp [sentG,sentN,footL,rAt,lAt,wAt,hm1,hm2,h3',hlen]
  · rw [hmi];simp [sentG]
end Go.AM.R1
open Go Go.AM
namespace Go.AM.R1
theorem keep_refl (n:Nd):Keep n n:=⟨rfl,rfl,rfl,rfl⟩
theorem join_keep (n:Nd) (b:Bool):Keep n (joinN n b).2:=by
  unfold joinN;simp only [];split
  · exact ⟨rfl,rfl,rfl,rfl⟩
  · split<;>exact ⟨rfl,rfl,rfl,rfl⟩
theorem dom_keep (n:Nd) (b:Bool):Keep n (domN n b).2:=by
  have h:=ch_keep n 8
  unfold domN
  split
  · simp only [];split<;>exact ⟨rfl,rfl,rfl,rfl⟩
  · split
    · simp only [];split<;>exact ⟨h.raw,h.nq,h.row,h.q⟩
    · exact h
theorem dom_ks (n:Nd) (b:Bool):KsOk (domN n b).1:=by
  unfold domN
  split
  · exact .inl rfl
  · split
    · exact .inr (.inl ⟨4,rfl⟩)
    · exact .inr (.inr ⟨4,by omega,by omega,rfl⟩)
theorem pas_keep (n:Nd) (b:Bool):Keep n (pasN n b).2:=by
  have h:=ch_keep { n with k:=pasK n b,lvl:=b,owed:=false } 8
  unfold pasN
  split
  · split
    · simp only [];split
      · exact ⟨h.raw,h.nq,h.row,h.q⟩
      · exact ⟨h.raw,h.nq,h.row,h.q⟩
    · exact ⟨h.raw,h.nq,h.row,h.q⟩
  · simp only [];split<;>exact ⟨rfl,rfl,rfl,rfl⟩
theorem pas_ks (n:Nd) (b:Bool):KsOk (pasN n b).1:=by
  unfold pasN
  split
  · split
    · exact .inl rfl
    · exact .inr (.inl ⟨10,rfl⟩)
  · exact .inl rfl
theorem wait_keep (n:Nd) (b:Bool):Keep n (waitN n b).2:=by
  have h:=ch_keep { n with k:=n.k+1 } 8
  unfold waitN
  split
  · exact ⟨rfl,rfl,rfl,rfl⟩
  · split
    · exact ⟨rfl,rfl,rfl,rfl⟩
    · split
      · split<;>exact ⟨h.raw,h.nq,h.row,h.q⟩
      · exact ⟨rfl,rfl,rfl,rfl⟩
theorem wait_ks (n:Nd) (b:Bool):KsOk (waitN n b).1:=by
  unfold waitN
  split
  · exact .inl rfl
  · split
    · exact .inl rfl
    · split
      · split
        · exact .inl rfl
        · exact .inr (.inl ⟨10,rfl⟩)
      · exact .inl rfl
theorem fail_ksok (n:Nd) (kind:Nat) (c:Bool) (h1:kind≠1) (h2:kind≠2):KsOk (failN n kind c).1:=by
  rcases fail_ks n kind c with h | h
  · exact .inr (.inl ⟨_,h⟩)
  · exact .inr (.inr ⟨_,h1,h2,h⟩)
theorem close_keep (n:Nd) (b:Bool):Keep n (closeN n b).2:=by
  unfold closeN
  split
  · simp only [];split<;>exact ⟨rfl,rfl,rfl,rfl⟩
  · split
    · exact ⟨rfl,rfl,rfl,rfl⟩
    · exact fail_keep n 7 true
theorem close_ks (n:Nd) (b:Bool):KsOk (closeN n b).1:=by
  unfold closeN
  split
  · exact .inl rfl
  · split
    · exact .inr (.inl ⟨9,rfl⟩)
    · exact fail_ksok n 7 true (by omega) (by omega)
theorem boff_keep (n:Nd) (b:Bool):Keep n (offN n b).2:=by
  unfold offN
  split
  · split<;>exact ⟨rfl,rfl,rfl,rfl⟩
  · split<;>exact ⟨rfl,rfl,rfl,rfl⟩
theorem off_ks (n:Nd) (b:Bool):KsOk (offN n b).1:=by
  unfold offN
  split
  · split
    · exact .inr (.inl ⟨11,rfl⟩)
    · exact .inl rfl
  · split
    · exact .inr (.inl ⟨11,rfl⟩)
    · exact .inl rfl
theorem pause_keep (n:Nd):Keep n (pauseN n).2:=by
  unfold pauseN;simp only [];split
  · exact ⟨rfl,rfl,rfl,rfl⟩
  · split<;>exact ⟨rfl,rfl,rfl,rfl⟩
theorem susp_keep (n:Nd):Keep n (suspN n).2:=by
  unfold suspN;simp only [];split<;>exact ⟨rfl,rfl,rfl,rfl⟩
def StepsTo (n:Nd) (F:Fl) (b:Bool) (n':Nd) (es:List (Nat × Fr)):Prop :=
  ∃ Hn v,call E (.func (.func 17) [] []) [.ptr 0 0,.lit (.int .i64 (lv b))] (ndH n F)=some (.tup [v,.lit (.int .i64 0)],Hn)∧Lies Hn n' (mI n) es v
theorem keep_step (n:Nd) (F:Fl) (b:Bool) (fid:Nat) (hm:n.mode<11) (hg:(stepF.drop n.mode)[0]?=some (.func (.func fid) [] [])) (n':Nd) (F2:Fl) (ks:List Nat) (f':Fr) (hk:KsOk ks) (hp:Keep n n')
    (hc:call E (.func (.func fid) [] []) [.ptr 0 0,.ptr (mI n) 0,.lit (.int .i64 (lv b))] (ndT n F [] Fr.zero)=some (.tup [],ndT n' F2 ks f')):StepsTo n F b n' (evsOf ks f') :=
  step_of_can n F b fid hm hg n' F2 ks f' hk (by rw [hp.raw]) hp.nq (by rw [hp.row]) hc
theorem take_step (n:Nd) (F:Fl) (b:Bool) (h1:¬ n.raw=[]) (hmode:n.mode=2) (n':Nd) (F2:Fl) (ks:List Nat) (f':Fr) (hk:KsOk ks) (e1:¬ n'.raw=[]) (e2:n'.nq=n.nq) (e3:n'.row=n.row)
    (hc:call E (.func (.func 54) [] []) [.ptr 0 0,.ptr (mI n) 0,.lit (.int .i64 (lv b))] (ndT n F [] Fr.zero)=some (.tup [],ndT n' F2 ks f')):StepsTo n F b n' (evsOf ks f') :=
  step_of_can n F b _ (by omega) (by rw [hmode];rfl) n' F2 ks f' hk ⟨fun q=>absurd q e1,fun q=>absurd q h1⟩ e2 (by rw [e3]) hc
/-- Modes other than in a frame. -/
theorem out_step (n:Nd) (F:Fl) (hI:n.Inv) (hk:n.k≤1000000000) (b:Bool) (h2:¬ n.mode=2):StepsTo n F b (nxN n b) (evN n b):=by
  have hm:=hI.mode
  have hn:=hI.ok
  have hg:∀ c,n.mode=c→∀ x,(stepF.drop c)[0]?=some x→(stepF.drop n.mode)[0]?=some x:=fun c e x h=>by rw [e];exact h
  unfold nxN evN
  have hcases:n.mode=0∨n.mode=1∨n.mode=3∨n.mode=4∨n.mode=5∨n.mode=6∨n.mode=7∨n.mode=8∨n.mode=9∨n.mode=10:=by omega
  rcases hcases with h | h | h | h | h | h | h | h | h | h
  · rw [show stepN n b=noFr (joinN n b) by unfold stepN;simp only [h]]
    exact keep_step n F b _ (by omega) (hg 0 h _ rfl) _ F [] Fr.zero (.inl rfl) (join_keep n b) (njoin_spec n F hk Fr.zero b)
  · rw [show stepN n b=noFr (idleN n b) by unfold stepN;simp only [h]]
    cases b
    · rw [show idleN n false=([],startN n (decide (n.q≠[]))) from rfl]
      cases hq:n.q with
      | nil=>exact step_of_start n F false _ (by omega) (hg 1 h _ rfl) false (nidle_start_no n F hn hq Fr.zero)
      | cons g r =>
        have hv:=hI.qv g (by rw [hq];simp)
        exact step_of_start n F false _ (by omega) (hg 1 h _ rfl) true (nidle_start_yes n F hn g r hq hv.1 hv.2 Fr.zero)
    · by_cases hq:n.q=[]
      · rw [show idleN n true=([],n) by unfold idleN;rw [if_neg (by simp),if_pos hq]]
        exact keep_step n F true _ (by omega) (hg 1 h _ rfl) n F [] Fr.zero (.inl rfl) (keep_refl n) (nidle_rest n F hn hq Fr.zero)
      · rw [show idleN n true=failN { n with tx:=true } 4 true by unfold idleN;rw [if_neg (by simp),if_neg hq]]
        have kp:=fail_keep { n with tx:=true } 4 true
        exact keep_step n F true _ (by omega) (hg 1 h _ rfl) _ F _ Fr.zero (fail_ksok _ 4 true (by omega) (by omega)) ⟨kp.raw,kp.nq,kp.row,kp.q⟩ (nidle_fail n F hn hq Fr.zero)
  · rw [show stepN n b=noFr (domN n b) by unfold stepN;simp only [h]]
    exact keep_step n F b _ (by omega) (hg 3 h _ rfl) _ F _ Fr.zero (dom_ks n b) (dom_keep n b) (ndom_spec n F hn hk Fr.zero b)
  · rw [show stepN n b=noFr (pasN n b) by unfold stepN;simp only [h]]
    exact keep_step n F b _ (by omega) (hg 4 h _ rfl) _ F _ Fr.zero (pas_ks n b) (pas_keep n b) (npas_spec n F hn hk Fr.zero b)
  · rw [show stepN n b=noFr (domN n b) by unfold stepN;simp only [h]]
    exact keep_step n F b _ (by omega) (hg 5 h _ rfl) _ F _ Fr.zero (dom_ks n b) (dom_keep n b) (ndom_spec n F hn hk Fr.zero b)
  · rw [show stepN n b=noFr (waitN n b) by unfold stepN;simp only [h]]
    have ho:n.ct.off=false:=by rw [hI.off];simp;omega
    exact keep_step n F b _ (by omega) (hg 6 h _ rfl) _ F _ Fr.zero (wait_ks n b) (wait_keep n b) (nwait_spec n F hn hk ho Fr.zero b)
  · rw [show stepN n b=noFr (closeN n b) by unfold stepN;simp only [h]]
    exact keep_step n F b _ (by omega) (hg 7 h _ rfl) _ F _ Fr.zero (close_ks n b) (close_keep n b) (nclose_spec n F hn hk Fr.zero b)
  · rw [show stepN n b=noFr (pausN n b) by unfold stepN;simp only [h]]
    cases b
    · by_cases hk2:n.k<2
      · rw [show pausN n false=overN n by unfold pausN;rw [if_neg (by simp),if_pos hk2]]
        exact keep_step n F false _ (by omega) (hg 8 h _ rfl) _ F [9] Fr.zero (.inr (.inl ⟨9,rfl⟩)) ⟨rfl,rfl,rfl,rfl⟩ (npause_over n F hk2 Fr.zero)
      · rw [show pausN n false=([],startN n (decide (n.q≠[]) && !lateP n)) by unfold pausN;rw [if_neg (by simp),if_neg hk2]]
        cases hq:n.q with
        | nil=>exact step_of_start n F false _ (by omega) (hg 8 h _ rfl) false (npause_no0 n F hn hk2 hq Fr.zero)
        | cons g r =>
          have hv:=hI.qv g (by rw [hq];simp)
          cases hl:lateP n
          · exact step_of_start n F false _ (by omega) (hg 8 h _ rfl) true (npause_yes n F hn hk2 g r hq hv.1 hv.2 hl Fr.zero)
          · exact step_of_start n F false _ (by omega) (hg 8 h _ rfl) false (npause_nol n F hn hk2 (by rw [hq];simp) hl Fr.zero)
    · rw [show pausN n true=pauseN n by unfold pausN;rw [if_pos rfl]]
      exact keep_step n F true _ (by omega) (hg 8 h _ rfl) _ F [] Fr.zero (.inl rfl) (pause_keep n) (npause_rest n F hk Fr.zero)
  · rw [show stepN n b=noFr (sspN n b) by unfold stepN;simp only [h]]
    cases b
    · rw [show sspN n false=([],startN n false) by unfold sspN;rw [if_neg (by simp)]]
      exact step_of_start n F false _ (by omega) (hg 9 h _ rfl) false (nsusp_start n F Fr.zero)
    · rw [show sspN n true=suspN n by unfold sspN;rw [if_pos rfl]]
      exact keep_step n F true _ (by omega) (hg 9 h _ rfl) _ F [] Fr.zero (.inl rfl) (susp_keep n) (nsusp_rest n F hk Fr.zero)
  · rw [show stepN n b=noFr (offN n b) by unfold stepN;simp only [h]]
    exact keep_step n F b _ (by omega) (hg 10 h _ rfl) _ F _ Fr.zero (off_ks n b) (boff_keep n b) (noff_spec n F hk (by have:=hI.rows;omega) Fr.zero b)
end Go.AM.R1
open Go Go.AM
namespace Go.AM.R1
/-- A level in a frame that the node sends. -/
theorem in_sends (n:Nd) (F:Fl) (hI:n.Inv) (h2:n.mode=2) (hs:n.sends=true) (b:Bool):StepsTo n F b (nxN n b) (evN n b):=by
  have hn:=hI.ok
  obtain ⟨h1,h0,hri,hl5,h58,htx,hse⟩:=hI.inf h2
  have hS:=hse hs
  obtain ⟨hrl,h3,hrow,-⟩:=send_facts hS
  have hr:=hri.ok
  have hq:=hS.nq
  have hkind:=hri.kind
  have tk:=fun b=>take_keep n b h1
  unfold nxN evN
  rw [show stepN n b=inN n b by unfold stepN;simp only [h2]]
  generalize hN:nextF n.raw=kk at hkind h58 hrow
  obtain ⟨kind,k⟩:=kk
  simp only [] at hkind h58 hrow
  have ct:=fun (b:Bool) (F2:Fl) (hc:call E (.func (.func 54) [] []) [.ptr 0 0,.ptr (mI n) 0,.lit (.int .i64 (lv b))] (ndT n F [] Fr.zero)=some (.tup [],ndT (takeN n b).2 F2 [] Fr.zero)) =>
    take_step n F b h1 h2 (takeN n b).2 F2 [] Fr.zero (.inl rfl) (tk b).1 (tk b).2.1 (tk b).2.2.1 hc
  have cf:=fun (b:Bool) (x:List Nat × Nd) (F2:Fl) (hk:KsOk x.1) (hp:Keep n x.2) (hc:call E (.func (.func 54) [] []) [.ptr 0 0,.ptr (mI n) 0,.lit (.int .i64 (lv b))] (ndT n F [] Fr.zero)=some (.tup [],ndT x.2 F2 x.1 Fr.zero)) =>
    take_step n F b h1 h2 x.2 F2 x.1 Fr.zero hk (by rw [hp.raw];exact h1) hp.nq hp.row hc
  unfold inN
  rw [if_pos hs,hN]
  simp only []
  by_cases hd:b=frL n
  · rw [if_pos hd]
    have hd':frL n=b:=hd.symm
    by_cases h5:n.run=5
    · have hlv:¬ n.lvl=b:=by
        rw [hd];unfold frL;rw [if_pos hs,if_pos h5];cases n.lvl<;>simp
      rw [if_neg (fun e=>e.1 h5),if_neg (fun e=>e.1 h5)]
      have hk5:=h58 h5
      rcases Nat.lt_or_ge 4 kind with h4 | h4
      · have:kind=5:=by omega
        subst this
        cases b
        · obtain ⟨F2,hc⟩:=sin_added_hi_f n F hn hr h1 hl5 Fr.zero hs hrl hq h3 k hN hd' h5 hlv
          exact ct false F2 hc
        · obtain ⟨F2,hc⟩:=sin_added_hi_t n F hn hr h1 hl5 Fr.zero hs hrl hq h3 k hN hd' h5 hlv
          exact ct true F2 hc
      · cases b
        · obtain ⟨F2,hc⟩:=sin_added_lo_f n F hn hr h1 hl5 Fr.zero hs hrl hq h3 kind k hN hd' h5 hlv h4
          exact ct false F2 hc
        · obtain ⟨F2,hc⟩:=sin_added_lo_t n F hn hr h1 hl5 Fr.zero hs hrl hq h3 kind k hN hd' h5 hlv h4
          exact ct true F2 hc
    · rcases Nat.lt_or_ge 4 kind with h4 | h4
      · have hbt:b=true:=by
          rw [hd];unfold frL;rw [if_pos hs,if_neg h5,hrow h4];rfl
        subst hbt
        have hcases:kind=5∨kind=6∨kind=7∨kind=8:=by omega
        rcases hcases with rfl | rfl | rfl | rfl
        · rw [if_neg (by simp),if_neg (by simp)]
          obtain ⟨F2,hc⟩:=sin_delim5 n F hn hr h1 hl5 Fr.zero hs hrl hq h3 k hN hd' h5
          exact ct true F2 hc
        · rw [if_pos ⟨h5,rfl⟩]
          obtain ⟨F2,hc⟩:=sin_ack n F hn hr h1 hl5 Fr.zero hs hrl hq h3 k hN hd' h5
          have kp:=fail_keep n 8 (!decide (n.ct.state=1))
          exact cf true (nackN n) F2 (fail_ksok n 8 _ (by omega) (by omega)) ⟨kp.raw,kp.nq,kp.row,kp.q⟩ hc
        · rw [if_neg (by simp),if_neg (by simp)]
          obtain ⟨F2,hc⟩:=sin_delim7 n F hn hr h1 hl5 Fr.zero hs hrl hq h3 k hN hd' h5
          exact ct true F2 hc
        · by_cases hk6:k=6
          · subst hk6
            rw [if_neg (by simp),if_pos ⟨h5,rfl⟩]
            obtain ⟨F2,hc⟩:=sin_sent n F hn hr h1 hl5 Fr.zero hs hrl hq h3 hN hd' h5 hS.mem
            have hon:(takeN n true).2.own=n.own:=(tk true).2.2.2.2.2.2.2.1
            rw [← hon] at hc
            have hst:=step_of_sent n F true _ (by omega) (by rw [h2];rfl) h1 hq h3 (takeN n true).2 F2 (tk true).1 ((tk true).2.1.trans hq) (tk true).2.2.1 (by rw [hon,(tk true).2.2.2.1];exact hS.mem) hc
            rw [hon] at hst
            exact hst
          · rw [if_neg (by simp),if_neg (by simp [hk6])]
            obtain ⟨F2,hc⟩:=sin_endx n F hn hr h1 hl5 Fr.zero hs hrl hq h3 k hN hd' h5 hk6
            exact ct true F2 hc
      · rw [if_neg (by omega),if_neg (by simp;omega)]
        cases b
        · obtain ⟨F2,hc⟩:=sin_low_f n F hn hr h1 hl5 Fr.zero hs hrl hq h3 kind k hN hd' h5 h4
          exact ct false F2 hc
        · obtain ⟨F2,hc⟩:=sin_low_t n F hn hr h1 hl5 Fr.zero hs hrl hq h3 kind k hN hd' h5 h4
          exact ct true F2 hc
  · rw [if_neg hd]
    cases b
    · have hd':frL n=true:=by cases h:frL n;exact absurd h.symm hd;rfl
      rw [if_neg (by simp)]
      by_cases hk1:kind=1
      · subst hk1
        rw [if_pos rfl]
        by_cases h5:n.run=5
        · rw [if_pos h5]
          obtain ⟨F2,hc⟩:=sin_stuff n F hn hr h1 hl5 Fr.zero hs hrl hq h3 k hN hd' h5
          exact cf false _ F2 (fail_ksok n 5 false (by omega) (by omega)) (fail_keep n 5 false) hc
        · rw [if_neg h5]
          obtain ⟨F2,hc⟩:=sin_lost n F hn hr h1 hl5 Fr.zero hs hrl hq h3 k hN hd' h5
          have kp:=take_keep { n with tx:=false,sends:=false } false h1
          exact take_step n F false h1 h2 _ F2 [3] Fr.zero (.inr (.inl ⟨3,rfl⟩)) kp.1 kp.2.1 kp.2.2.1 hc
      · rw [if_neg hk1]
        by_cases hk6:kind=6
        · subst hk6
          rw [if_pos rfl]
          obtain ⟨F2,hc⟩:=sin_slot n F hn hr h1 hl5 Fr.zero hs hrl hq h3 k hN hd' (fun e=>by have:=h58 e;omega)
          exact ct false F2 hc
        · rw [if_neg hk6]
          obtain ⟨F2,hc⟩:=sin_bit0 n F hn hr h1 hl5 Fr.zero hs hrl hq h3 kind k hN hd' hk1 hk6
          exact cf false _ F2 (fail_ksok n 4 true (by omega) (by omega)) (fail_keep n 4 true) hc
    · have hd':frL n=false:=by cases h:frL n;rfl;exact absurd h.symm hd
      rw [if_pos rfl]
      obtain ⟨F2,hc⟩:=sin_bit1 n F hn hr h1 hl5 Fr.zero hs hrl hq h3 kind k hN hd'
      exact cf true _ F2 (fail_ksok n 4 true (by omega) (by omega)) (fail_keep n 4 true) hc
/-- A level in a frame of another node. -/
theorem in_recvs (n:Nd) (F:Fl) (hI:n.Inv) (h2:n.mode=2) (hs:n.sends=false) (b:Bool):StepsTo n F b (nxN n b) (evN n b):=by
  have hn:=hI.ok
  obtain ⟨h1,h0,hri,hl5,h58,htx,-⟩:=hI.inf h2
  have hr:=hri.ok
  have hkind:=hri.kind
  have tk:=fun b=>take_keep n b h1
  have hfr:frL n=!(decide ((nextF n.raw).1=6) && rightF n.raw):=by unfold frL;rw [if_neg (by rw [hs];simp)]
  unfold nxN evN
  rw [show stepN n b=inN n b by unfold stepN;simp only [h2]]
  generalize hN:nextF n.raw=kk at hkind h58 hfr
  obtain ⟨kind,k⟩:=kk
  simp only [] at hkind h58 hfr
  have ct:=fun (b:Bool) (F2:Fl) (hc:call E (.func (.func 54) [] []) [.ptr 0 0,.ptr (mI n) 0,.lit (.int .i64 (lv b))] (ndT n F [] Fr.zero)=some (.tup [],ndT (takeN n b).2 F2 [] Fr.zero)) =>
    take_step n F b h1 h2 (takeN n b).2 F2 [] Fr.zero (.inl rfl) (tk b).1 (tk b).2.1 (tk b).2.2.1 hc
  have cf:=fun (b:Bool) (x:List Nat × Nd) (F2:Fl) (hk:KsOk x.1) (hp:Keep n x.2) (hc:call E (.func (.func 54) [] []) [.ptr 0 0,.ptr (mI n) 0,.lit (.int .i64 (lv b))] (ndT n F [] Fr.zero)=some (.tup [],ndT x.2 F2 x.1 Fr.zero)) =>
    take_step n F b h1 h2 x.2 F2 x.1 Fr.zero hk (by rw [hp.raw];exact h1) hp.nq hp.row hc
  unfold inN
  rw [if_neg (by rw [hs];simp),hN]
  simp only []
  by_cases hd:frL n=false
  · rw [if_pos hd]
    rw [hd] at hfr
    have hk6:kind=6:=by
      apply Classical.byContradiction
      intro q;simp [q] at hfr
    subst hk6
    cases b
    · rw [if_neg (by simp)]
      obtain ⟨F2,hc⟩:=rin_slot_f_f n F hn hr h1 hl5 Fr.zero hs k hN hd (fun e=>by have:=h58 e;omega)
      exact ct false F2 hc
    · rw [if_pos rfl]
      obtain ⟨F2,hc⟩:=rin_bit n F hn hr h1 hl5 Fr.zero hs k hN hd
      exact cf true _ F2 (fail_ksok n 4 true (by omega) (by omega)) (fail_keep n 4 true) hc
  · have hd':frL n=true:=by cases h:frL n;exact absurd h hd;rfl
    rw [if_neg hd]
    by_cases h5:n.run=5
    · rw [if_pos h5]
      have hk5:=h58 h5
      by_cases hb:b=n.lvl
      · rw [if_pos hb]
        refine Exists.elim (?_:∃ F2,call E (.func (.func 54) [] []) [.ptr 0 0,.ptr (mI n) 0,.lit (.int .i64 (lv b))] (ndT n F [] Fr.zero)=some (.tup [],ndT (failN n 5 true).2 F2 (failN n 5 true).1 Fr.zero)) (fun F2 hc=>cf b _ F2 (fail_ksok n 5 true (by omega) (by omega)) (fail_keep n 5 true) hc)
        rcases Nat.lt_or_ge 4 kind with h4 | h4
        · have:kind=5:=by omega
          subst this
          cases b
          · exact rin_stuff_hi_f n F hn hr h1 hl5 Fr.zero hs k hN hd' h5 hb.symm
          · exact rin_stuff_hi_t n F hn hr h1 hl5 Fr.zero hs k hN hd' h5 hb.symm
        · cases b
          · exact rin_stuff_lo_f n F hn hr h1 hl5 Fr.zero hs kind k hN hd' h5 hb.symm h4
          · exact rin_stuff_lo_t n F hn hr h1 hl5 Fr.zero hs kind k hN hd' h5 hb.symm h4
      · rw [if_neg hb]
        have hb':¬ n.lvl=b:=fun e=>hb e.symm
        rcases Nat.lt_or_ge 4 kind with h4 | h4
        · have:kind=5:=by omega
          subst this
          cases b
          · obtain ⟨F2,hc⟩:=rin_added_hi_f n F hn hr h1 hl5 Fr.zero hs k hN hd' h5 hb'
            exact ct false F2 hc
          · obtain ⟨F2,hc⟩:=rin_added_hi_t n F hn hr h1 hl5 Fr.zero hs k hN hd' h5 hb'
            exact ct true F2 hc
        · cases b
          · obtain ⟨F2,hc⟩:=rin_added_lo_f n F hn hr h1 hl5 Fr.zero hs kind k hN hd' h5 hb' h4
            exact ct false F2 hc
          · obtain ⟨F2,hc⟩:=rin_added_lo_t n F hn hr h1 hl5 Fr.zero hs kind k hN hd' h5 hb' h4
            exact ct true F2 hc
    · rw [if_neg h5]
      rcases Nat.lt_or_ge 4 kind with h4 | h4
      · have hcases:kind=5∨kind=6∨kind=7∨kind=8:=by omega
        rcases hcases with rfl | rfl | rfl | rfl
        · rw [if_neg (by simp)]
          cases b
          · rw [if_pos rfl,if_neg (by simp)]
            obtain ⟨F2,hc⟩:=rin_form5 n F hn hr h1 hl5 Fr.zero hs k hN hd' h5
            exact cf false _ F2 (fail_ksok n 7 true (by omega) (by omega)) (fail_keep n 7 true) hc
          · rw [if_neg (by simp),if_neg (by simp),if_neg (by simp),if_neg (by simp)]
            obtain ⟨F2,hc⟩:=rin_delim n F hn hr h1 hl5 Fr.zero hs k hN hd' h5
            exact ct true F2 hc
        · rw [if_pos (.inr rfl)]
          cases b
          · obtain ⟨F2,hc⟩:=rin_slot_t_f n F hn hr h1 hl5 Fr.zero hs k hN hd' h5
            exact ct false F2 hc
          · obtain ⟨F2,hc⟩:=rin_slot_t_t n F hn hr h1 hl5 Fr.zero hs k hN hd' h5
            exact ct true F2 hc
        · rw [if_neg (by simp)]
          cases b
          · rw [if_pos rfl,if_neg (by simp)]
            obtain ⟨F2,hc⟩:=rin_form7 n F hn hr h1 hl5 Fr.zero hs k hN hd' h5
            exact cf false _ F2 (fail_ksok n 7 true (by omega) (by omega)) (fail_keep n 7 true) hc
          · rw [if_neg (by simp)]
            cases hri2:rightF n.raw
            · rw [if_pos ⟨rfl,rfl⟩]
              obtain ⟨F2,hc⟩:=rin_sum n F hn hr h1 hl5 Fr.zero hs k hN hd' h5 hri2
              exact cf true _ F2 (fail_ksok n 6 true (by omega) (by omega)) (fail_keep n 6 true) hc
            · rw [if_neg (by simp),if_neg (by simp),if_neg (by simp)]
              obtain ⟨F2,hc⟩:=rin_ack n F hn hr h1 hl5 Fr.zero hs k hN hd' h5 hri2
              exact ct true F2 hc
        · rw [if_neg (by simp)]
          cases b
          · rw [if_pos rfl]
            by_cases hk6:k=6
            · subst hk6
              rw [if_pos rfl]
              obtain ⟨F2,hc⟩:=rin_over n F hn hr h1 hl5 Fr.zero hs 6 hN hd' h5 rfl
              exact cf false ([9],(overN n).2) F2 (.inr (.inl ⟨9,rfl⟩)) ⟨rfl,rfl,rfl,rfl⟩ hc
            · rw [if_neg (by simp [hk6])]
              obtain ⟨F2,hc⟩:=rin_form8 n F hn hr h1 hl5 Fr.zero hs k hN hd' h5 hk6
              exact cf false _ F2 (fail_ksok n 7 true (by omega) (by omega)) (fail_keep n 7 true) hc
          · rw [if_neg (by simp),if_neg (by simp)]
            by_cases hk5:k=5
            · subst hk5
              rw [if_pos rfl]
              obtain ⟨F2,hc⟩:=rin_end5 n F hn hr h1 hl5 Fr.zero hs 5 hN hd' h5 rfl h0
              exact take_step n F true h1 h2 _ F2 [2] _ (.inr (.inl ⟨2,rfl⟩)) (tk true).1 (tk true).2.1 (tk true).2.2.1 hc
            · rw [if_neg (by simp [hk5])]
              by_cases hk6:k=6
              · subst hk6
                rw [if_pos rfl]
                obtain ⟨F2,hc⟩:=rin_end6 n F hn hr h1 hl5 Fr.zero hs 6 hN hd' h5 rfl
                exact take_step n F true h1 h2 _ F2 [] _ (.inl rfl) (tk true).1 (tk true).2.1 (tk true).2.2.1 hc
              · rw [if_neg (by simp [hk6])]
                obtain ⟨F2,hc⟩:=rin_endx n F hn hr h1 hl5 Fr.zero hs k hN hd' h5 hk6 hk5
                exact ct true F2 hc
      · rw [if_pos (.inl h4)]
        cases b
        · obtain ⟨F2,hc⟩:=rin_low_f n F hn hr h1 hl5 Fr.zero hs kind k hN hd' h5 h4
          exact ct false F2 hc
        · obtain ⟨F2,hc⟩:=rin_low_t n F hn hr h1 hl5 Fr.zero hs kind k hN hd' h5 h4
          exact ct true F2 hc
theorem nstep_spec (n:Nd) (F:Fl) (hI:n.Inv) (hk:n.k≤1000000000) (b:Bool):StepsTo n F b (nxN n b) (evN n b):=by
  by_cases h2:n.mode=2
  · cases hs:n.sends
    · exact in_recvs n F hI h2 hs b
    · exact in_sends n F hI h2 hs b
  · exact out_step n F hI hk b h2
end Go.AM.R1
open Go Go.AM
namespace Go.AM.R1
/-! ### The node's calls, wherever it lies -/
theorem map_glob (fs:List Nat) (N:Nat):(List.range fs.length).map (toGlob fs N)=fs:=by
  apply List.ext_getElem
  · simp
  · intro i h1 h2
    simp only [List.getElem_map,List.getElem_range]
    exact glob_old h2
theorem glob_zero {H:Heap} {a:Nat} {n:Nd} {fs:List Nat} (h:NodeAt H a n fs) (N:Nat):toGlob fs N 0=a:=by
  obtain ⟨F,rx,qx,lx,wx,h,rfl⟩:=h
  rw [glob_old (by simp [footL])];rfl
/-- What a call leaves as it was. -/
structure Around (H H2:Heap) (fs fs2:List Nat):Prop where
  len:H.length≤H2.length
  same:∀ i,i<H.length→i ∉ fs→H2[i]?=H[i]?
  new:∀ i∈fs2,i∈fs∨H.length≤i
theorem around_back {H:Heap} {a:Nat} {n:Nd} {fs:List Nat} (h:NodeAt H a n fs) {Hn:Heap} (hk:fs.length≤Hn.length) (gs:List Nat):Around H (backH H fs Hn) fs (gs.map (toGlob fs H.length)):=by
  have hnd:=nodeAt_nodup h
  have hlt:=nodeAt_lt h
  refine ⟨by rw [back_len];omega,fun i hi hf=>back_other hnd hlt hk hi hf,fun i hi=>?_⟩
  obtain ⟨j,-,rfl⟩:=List.mem_map.1 hi
  rcases Nat.lt_or_ge j fs.length with q | q
  · rw [glob_old q];exact .inl (List.getElem_mem q)
  · rw [glob_new q];exact .inr (by omega)
theorem at_back {H:Heap} {a:Nat} {n:Nd} {fs:List Nat} (h:NodeAt H a n fs) {Hn:Heap} (hk:fs.length≤Hn.length) {m:Nd} {gs:List Nat} (hm:NodeAt Hn 0 m gs):NodeAt (backH H fs Hn) a m (gs.map (toGlob fs H.length)):=by
  have:=nodeAt_back (H:=H) (nodeAt_nodup h) (nodeAt_lt h) hk hm
  rwa [glob_zero h] at this
theorem at_can {H:Heap} {a:Nat} {n:Nd} {fs:List Nat} (h:NodeAt H a n fs) {m:Nd} {F:Fl} {X:Heap} (hm:mI m=mI n):NodeAt (backH H fs (ndH m F++X)) a m fs∧Around H (backH H fs (ndH m F++X)) fs fs:=by
  have hl:=nodeAt_fl h
  have hk:fs.length≤(ndH m F++X).length:=by rw [List.length_append,ndH_len];omega
  have h1:=at_back h hk (nodeAt_can m F X)
  have h2:=around_back h hk (List.range (mI m))
  rw [hm,← hl,map_glob] at h1 h2
  exact ⟨h1,h2⟩
theorem call_back {c:Callee} {H:Heap} {a:Nat} {n:Nd} {fs:List Nat} (h:NodeAt H a n fs) (f:AVal) (xs:List AVal) (hf:flatV f=true) (hx:flatL xs=true) {P:AVal→Heap→Prop} (hc:∀ F,∃v Hn,c f (.ptr 0 0::xs) (ndH n F)=some (v,Hn)∧P v Hn) :
    ∃ v Hn,callK1 c H (some (f,[])) (some (.ptr a 0::xs,[]))=some (renV (toGlob fs H.length) v,backH H fs Hn)∧P v Hn:=by
  obtain ⟨F,e⟩:=call_at c h f xs hf hx
  obtain ⟨v,Hn,h1,h2⟩:=hc F
  refine ⟨v,Hn,?_,h2⟩
  rw [e,h1,refK_some];rfl
theorem drive_at {H:Heap} {a:Nat} {n:Nd} {fs:List Nat} (h:NodeAt H a n fs) (hI:n.Inv) :
    ∃ H2,callK1 (call E) H (some (.func (.func 16) [] [],[])) (some ([.ptr a 0],[]))=some (.lit (.int .i64 (lv (drN n))),H2)∧NodeAt H2 a n fs∧Around H H2 fs fs:=by
  obtain ⟨v,Hn,h1,F2,rfl,rfl⟩:=call_back (c:=call E) h (.func (.func 16) [] []) [] rfl rfl (P:=fun v Hn=>∃ F2,v=.lit (.int .i64 (lv (drN n)))∧Hn=ndH n F2++[]) (fun F=>by
    obtain ⟨F2,e⟩:=ndrive_spec n F hI
    exact ⟨_,_,e,F2,rfl,by rw [List.append_nil]⟩)
  exact ⟨_,h1,at_can h rfl⟩
theorem look_at {H:Heap} {a:Nat} {n:Nd} {fs:List Nat} (h:NodeAt H a n fs) (hn:n.Ok) :
    ∃ H2,callK1 (call E) H (some (.func (.func 18) [] [],[])) (some ([.ptr a 0],[]))=some (.agg (lookC n),H2)∧NodeAt H2 a n fs∧Around H H2 fs fs:=by
  obtain ⟨v,Hn,h1,F2,rfl,rfl⟩:=call_back (c:=call E) h (.func (.func 18) [] []) [] rfl rfl (P:=fun v Hn=>∃ F2,v=.agg (lookC n)∧Hn=ndH n F2++[]) (fun F =>
    ⟨_,_,nlook_spec n F hn,F,rfl,by rw [List.append_nil]⟩)
  refine ⟨_,?_,at_can h (m:=n) (F:=F2) (X:=[]) rfl⟩
  rw [h1]
  simp [renV,renL,lookC]
theorem put_at {H:Heap} {a:Nat} {n:Nd} {fs:List Nat} (h:NodeAt H a n fs) (hn:n.Ok) (f:Fr) :
    ∃ H2 fs2,callK1 (call E) H (some (.func (.func 21) [] [],[])) (some ([.ptr a 0,.agg (encFr f)],[]))=some (.lit (.int .i64 (nputN n f).1),H2)∧NodeAt H2 a (nputN n f).2 fs2∧Around H H2 fs fs2:=by
  obtain ⟨v,Hn,h1,gs,rfl,h2,h3⟩:=call_back (c:=call E) h (.func (.func 21) [] []) [.agg (encFr f)] rfl (by simp [flatL,flatV,encFr,u8v]) (P:=fun v Hn=>∃ gs,v=.lit (.int .i64 (nputN n f).1)∧NodeAt Hn 0 (nputN n f).2 gs∧mI n≤Hn.length) (fun F=>by
    obtain ⟨Hn,gs,e,q1,q2⟩:=nput_spec n F hn f
    exact ⟨_,_,e,gs,rfl,q1,q2⟩)
  have hk:fs.length≤Hn.length:=by rw [nodeAt_fl h];exact h3
  exact ⟨_,_,h1,at_back h hk h2,around_back h hk gs⟩
theorem queue_at {H:Heap} {a:Nat} {n:Nd} {fs:List Nat} (h:NodeAt H a n fs) (hn:n.Ok) :
    ∃ H2 fu,callK1 (call E) H (some (.func (.func 25) [] [],[])) (some ([.ptr a 0],[]))=some (if n.nq=true then nilS else .own H.length n.q.length 12 0 n.q.length,H2)∧NodeAt H2 a n fs∧Around H H2 fs fs∧(n.nq=false→H2[H.length]?=some (.arr true false fu 12 (n.q.map encFr))∧H2.length=H.length+1)∧(n.nq=true→H2.length=H.length):=by
  obtain ⟨v,Hn,h1,F,fu,rfl,rfl⟩:=call_back (c:=call E) h (.func (.func 25) [] []) [] rfl rfl (P:=fun v Hn=>∃ F fu,v=(if n.nq=true then nilS else .own (mI n) n.q.length 12 0 n.q.length)∧Hn=ndH n F++if n.nq=true then [] else [.arr true false fu 12 (n.q.map encFr)]) (fun F=>by
    obtain ⟨fu,e⟩:=nqueue_spec n F hn
    exact ⟨_,_,e,F,fu,rfl,rfl⟩)
  have hl:=nodeAt_fl h
  have hc:=at_can h (m:=n) (F:=F) (X:=if n.nq=true then [] else [.arr true false fu 12 (n.q.map encFr)]) rfl
  have hg:toGlob fs H.length (mI n)=H.length:=by rw [glob_new (by omega),hl];omega
  refine ⟨_,fu,?_,hc.1,hc.2,fun q=>?_,fun q=>?_⟩
  · rw [h1]
    split
    · rfl
    · simp only [renV,hg]
  · have hk:fs.length≤(ndH n F++if n.nq=true then [] else [Entry.arr true false fu 12 (n.q.map encFr)]).length:=by rw [List.length_append,ndH_len];omega
    rw [if_neg (by rw [q];simp)] at hk ⊢
    refine ⟨?_,by rw [back_len,List.length_append,ndH_len,hl];simp⟩
    have:=back_get (H:=H) (nodeAt_nodup h) (nodeAt_lt h) hk (j:=mI n) (e:=Entry.arr true false fu 12 (n.q.map encFr)) (by rw [List.getElem?_append_right (by rw [ndH_len];omega),ndH_len];simp)
    rw [hg] at this
    rw [this];simp [renE]
  · rw [if_pos q,List.append_nil,back_len,ndH_len,hl];omega
theorem step_at {H:Heap} {a:Nat} {n:Nd} {fs:List Nat} (h:NodeAt H a n fs) (hI:n.Inv) (hk:n.k≤1000000000) (b:Bool) :
    ∃ H2 fs2 ix,callK1 (call E) H (some (.func (.func 17) [] [],[])) (some ([.ptr a 0,.lit (.int .i64 (lv b))],[]))=some (.tup [evV ix (evN n b),.lit (.int .i64 0)],H2)∧NodeAt H2 a (nxN n b) fs2∧Around H H2 fs fs2 ∧
      (evN n b≠[]→H2[ix]?=some (.arr true false false 15 ((evN n b).map encEv))∧H.length≤ix∧ix ∉ fs2):=by
  obtain ⟨v,Hn,h1,v0,rfl,gs,ix,h2,h3,rfl,h4⟩:=call_back (c:=call E) h (.func (.func 17) [] []) [.lit (.int .i64 (lv b))] rfl rfl (P:=fun v Hn=>∃ v0,v=.tup [v0,.lit (.int .i64 0)]∧Lies Hn (nxN n b) (mI n) (evN n b) v0) (fun F=>by
    obtain ⟨Hn,v,e,q⟩:=nstep_spec n F hI hk b
    exact ⟨_,_,e,v,rfl,q⟩)
  have hl:=nodeAt_fl h
  have hkk:fs.length≤Hn.length:=by rw [hl];exact h3
  refine ⟨_,_,toGlob fs H.length ix,?_,at_back h hkk h2,around_back h hkk gs,fun he=>?_⟩
  · rw [h1]
    simp only [renV,renL]
    congr 4
    unfold evV
    split<;>rfl
  · obtain ⟨q1,q2,q3⟩:=h4 he
    refine ⟨?_,by rw [glob_new (by omega)];omega,fun hm=>?_⟩
    · rw [back_get (nodeAt_nodup h) (nodeAt_lt h) hkk q1];simp [renE]
    · obtain ⟨j,hj,e⟩:=List.mem_map.1 hm
      have:=glob_inj (nodeAt_nodup h) (nodeAt_lt h) e
      exact q3 (this ▸ hj)
end Go.AM.R1
open Go Go.AM
namespace Go.AM.R1
/-! ### Nodes in loops -/
theorem sweep_get:∀ (H:Heap) (R:List Nat) (i j:Nat),i+j∈R→(sweep R i H)[j]?=H[j]?
  | [],_,_,_,_=>by simp [sweep]
  | e::H,R,i,0,hj=>by
    rw [sweep_cons,if_pos (by simpa using hj)];rfl
  | e :: H,R,i,j+1,hj=>by
    have ih:=sweep_get H R (i+1) j (by rwa [show i+1+j=i+(j+1) by omega])
    rw [sweep_cons]
    split
    · simpa using ih
    · split
      · rename_i q
        rw [q] at ih
        simpa using ih
      · simpa using ih
theorem nodeAt_sweep {H:Heap} {a:Nat} {n:Nd} {fs R:List Nat} (h:NodeAt H a n fs) (hR:∀ i∈fs,i∈R):NodeAt (sweep R 0 H) a n fs :=
  nodeAt_same h fun i hi=>sweep_get H R 0 i (by rw [Nat.zero_add];exact hR i hi)
theorem reach_p1 {H:Heap} {a:Nat} {n:Nd} {fs:List Nat} (h:NodeAt H a n fs):reach H purse [a] []=some fs:=by
  have hl:=nodeAt_len h
  rw [show purse=(400 - fs.length)+fs.length by rw [purse_eq];omega,reach_node h _ [] [] (by simp),reach_nil];rfl
/-- Another entry, beside the node. -/
structure Ext (H:Heap) (fs:List Nat) (b:Nat) (e:Entry):Prop where
  get:H[b]?=some e
  out:b ∉ fs
theorem Ext.lt {H:Heap} {fs:List Nat} {b:Nat} {e:Entry} (h:Ext H fs b e):b<H.length:=lt_of_get h.get
theorem Ext.around {H H2:Heap} {fs fs2:List Nat} {b:Nat} {e:Entry} (h:Ext H fs b e) (w:Around H H2 fs fs2):Ext H2 fs2 b e:=by
  refine ⟨by rw [w.same b h.lt h.out];exact h.get,fun hm=>?_⟩
  rcases w.new b hm with q | q
  · exact h.out q
  · have:=h.lt;omega
theorem reach_p2 {H:Heap} {a:Nat} {n:Nd} {fs:List Nat} (h:NodeAt H a n fs) {b:Nat} {lk fu:Bool} {z:Nat} {l:List (List AVal)} (hb:Ext H fs b (.arr true lk fu z l)):reach H purse [a,b] []=some (fs++[b]):=by
  have hl:=nodeAt_len h
  rw [show purse=(400 - fs.length)+fs.length by rw [purse_eq];omega,reach_node h _ [b] [] (by simp),List.nil_append,show 400 - fs.length=(399 - fs.length)+1 by omega,reach_step hb.out hb.get]
  simp only [refsE,if_true,List.nil_append]
  rw [reach_nil]
theorem nodeAt_sw1 {H:Heap} {a:Nat} {n:Nd} {fs:List Nat} (h:NodeAt H a n fs):NodeAt (sweep fs 0 H) a n fs:=nodeAt_sweep h fun _ q=>q
theorem nodeAt_sw2 {H:Heap} {a:Nat} {n:Nd} {fs:List Nat} (h:NodeAt H a n fs) (b:Nat):NodeAt (sweep (fs++[b]) 0 H) a n fs:=nodeAt_sweep h fun _ q=>List.mem_append_left _ q
theorem ext_sw2 {H:Heap} {fs:List Nat} {b:Nat} {e:Entry} (h:Ext H fs b e):Ext (sweep (fs++[b]) 0 H) fs b e:=⟨by rw [sweep_get H _ 0 b (by simp)];exact h.get,h.out⟩
/-- What is handed back of a call: the node alone. -/
theorem ret_node {H:Heap} {a:Nat} {n:Nd} {fs:List Nat} (h:NodeAt H a n fs):∃ F,gcRet 0 (.ptr a 0) H=some (.ptr 0 0,ndH n F):=by
  obtain ⟨e0,F,hF⟩:=canon_of h
  refine ⟨F,?_⟩
  unfold gcRet
  rw [show rootsOf H 0++refsV (.ptr a 0)=[a] from rfl,show List.range 0=[] from rfl,reach_p1 h]
  simp only [Option.map_some,hF]
  simp only [renV,e0]
def itN (n:Nd):Nat→Nd
  | 0=>n
  | i+1=>nxN (itN n i) true
def nd1:Nd:={ nd0 with mode:=1 }
theorem join_it:∀ i,i<11→itN nd0 i={ nd0 with k:=i }:=by
  intro i
  induction i with
  | zero=>intro _;rfl
  | succ i ih =>
    intro h
    rw [itN,ih (by omega)]
    show (joinN { nd0 with k:=i } true).2=_
    unfold joinN
    simp only [Bool.true_eq_false,if_false]
    rw [if_neg (by omega)]
theorem join_end:itN nd0 11=nd1:=by
  rw [itN,join_it 10 (by omega)];rfl
theorem it_inv {n:Nd} (h:n.Inv):∀ i,(itN n i).Inv
  | 0=>h
  | i+1=>inv_next (it_inv h i) true
theorem nd1_inv:nd1.Inv:=by rw [← join_end];exact it_inv nd0_inv 11
theorem jn_loop0 (lv0:AVal) (hlv:refsV lv0=[]) (k:List Item) (Q:Option (AVal × Heap)→Prop) (hk:∀ H fs τ,lk 0 τ=lv0→lk 3 τ=.ptr 0 0→NodeAt H 0 nd1 fs→Q (finK 0 [.tmp 2] (run E 0 k τ H))) :
    ∀ (d i:Nat),i+d=11→∀ H fs,NodeAt H 0 (itN nd0 i) fs→Q (finK 0 [.tmp 2] (run E 0 (.code L13_0::.inLoop [0,3,4] L13_0::.inBlock 0::k) [(0,lv0),(3,.ptr 0 0),(4,.lit (.int .i64 i))] H)):=by
  intro d
  induction d with
  | zero =>
    intro i hi H fs h
    have:i=11:=by omega
    subst this
    rw [join_end] at h
    simp [go_sem,run_codeL E L13_0.eq_1]
    exact hk H fs _ (by simp [lk]) (by simp [lk]) h
  | succ d ih =>
    intro i hi H fs h
    have hlt:(i:Int)<11:=by omega
    have w:=wrapIdx (i:=i) (by omega)
    have hj:=join_it i (by omega)
    obtain ⟨H2,fs2,ix,hs,h2,ha,he⟩:=step_at h (it_inv nd0_inv i) (by rw [hj];simp only [];omega) true
    have ih2:=ih (i+1) (by omega) (sweep fs2 0 H2) fs2 (nodeAt_sw1 h2)
    have hre:=reach_p1 h2
    simp [lvT] at hs w ih2
    simp [go_sem,run_codeL E L13_0.eq_1,hlt,hs,w]
    rw [run_inLoop']
    simp [go_sem,hlv,hre]
    exact ih2
end Go.AM.R1
open Go Go.AM
namespace Go.AM.R1
/-! ### The law's own example -/
def nA:Nd:={ nd0 with q:=[Fr.zero],nq:=false }
def okRun (i:Nat) (n:Nd):List Bool→Bool
  | []=>decide (n.mode=8) && decide (n.q=[])
  | b::r=>(decide (drN n=b) || decide (i=41)) && decide (evN n b=if i=49 then [(1,Fr.zero)] else []) && okRun (i+1) (nxN n b) r
set_option maxRecDepth 100000 in
theorem ok_run:okRun 0 (itN nA 11) (encodeP Fr.zero true)=true:=by decide +kernel
set_option maxRecDepth 100000 in
theorem enc_len:(encodeP Fr.zero true).length=50:=by decide +kernel
set_option maxRecDepth 100000 in
theorem nA_drives:∀ i,i<11→drN (itN nA i)=true:=by decide +kernel
end Go.AM.R1
open Go Go.AM
namespace Go.AM.R1
/-! ### Frames that are put in; a node that has joined; the law's own example -/
theorem mem_insP {f g:Fr} {l:List Fr}:g∈insP f l↔g=f∨g∈l:=by
  unfold insP
  have h:g∈l↔g∈l.take (ixL f l)∨g∈l.drop (ixL f l):=by rw [← List.mem_append,List.take_append_drop]
  rw [h]
  simp only [List.mem_append,List.mem_singleton]
  constructor
  · rintro ((q | q) | q)
    · exact .inr (.inl q)
    · exact .inl q
    · exact .inr (.inr q)
  · rintro (q | q | q)
    · exact .inl (.inr q)
    · exact .inl (.inl q)
    · exact .inr q
theorem inv_put {n:Nd} (h:n.Inv) {f:Fr} (hf:f.Ok):(nputN n f).2.Inv:=by
  unfold nputN
  by_cases hc:checkP f≠0
  · rw [if_pos hc];exact h
  · rw [if_neg hc]
    by_cases hl:16≤n.q.length
    · rw [if_pos hl];exact h
    · rw [if_neg hl]
      have hc:checkP f=0:=Classical.not_not.1 hc
      refine ⟨⟨fun q=>(by cases q),?_,h.ok.ct⟩,?_,h.mode,h.off,h.rows,h.r10,fun hm=>?_⟩
      · show (insP f n.q).length≤16
        rw [insP_len];omega
      · intro g hg
        rcases mem_insP.1 hg with q | q
        · rw [q];exact ⟨hf,hc⟩
        · exact h.qv g q
      · have hi:=h.inf hm
        refine ⟨hi.ne,hi.h0,hi.ri,hi.run,hi.r58,hi.tx,fun hs=>?_⟩
        obtain ⟨-,s2,s3,s4,s5,s6⟩:=hi.se hs
        exact ⟨rfl,mem_insP.2 (.inr s2),s3,s4,s5,s6⟩
set_option maxHeartbeats 2000000 in
theorem joined_nil:∃ F,call E (.func (.func 13) [] []) [nilS] []=some (.ptr 0 0,ndH nd1 F):=by
  have hn:=nnew_spec
  suffices hs:∀ (Q:Option (AVal × Heap)→Prop),(∀ F,Q (some (.ptr 0 0,ndH nd1 F)))→Q (call E (.func (.func 13) [] []) [nilS] []) by
    refine hs (fun r=>∃ F,r=some (.ptr 0 0,ndH nd1 F)) fun F=>⟨F,rfl⟩
  intro Q hQ
  have hloop:=fun k hk=>jn_loop0 nilS rfl k Q hk 11 0 (by omega)
  have h0:=nodeAt_sw1 (nodeAt_can nd0 ⟨false,false,false,false,false⟩ [])
  rw [List.append_nil] at h0
  have hre:=reach_p1 (by have:=nodeAt_can nd0 ⟨false,false,false,false,false⟩ [];rwa [List.append_nil] at this)
  rw [call_func E E13]
  simp [itN,nilS] at hloop
  simp [go_sem,ir13,hn,nilS]
  rw [run_inLoop']
  simp [go_sem,hre]
  refine hloop _ ?_ _ _ h0
  intro H fs τ t0 t3 h
  obtain ⟨F,hF⟩:=ret_node (nodeAt_sw1 h)
  have hre:=reach_p1 h
  simp [go_sem,t0,t3]
  rw [run_inLoop']
  simp [go_sem,t0,t3,hre]
  have hq:=hQ F
  rw [← hF] at hq
  simp [go_sem,run_codeL E L13_1.eq_1]
  exact hq
theorem chN_k (n:Nd) (w:Nat):(chN n w).2.k=0∨(chN n w).2.k=n.k:=by
  unfold chN;split
  · exact .inl rfl
  · exact .inr rfl
theorem fail_k (n:Nd) (kd:Nat) (c:Bool):(failN n kd c).2.k≤n.k:=by
  have:=chN_k n 1
  unfold failN
  split
  · split
    · exact Nat.zero_le _
    · show (chN n 1).2.k≤n.k;omega
  · exact Nat.zero_le _
theorem in_k (n:Nd) (b:Bool):(inN n b).2.2.k≤n.k:=by
  have h1:∀ b,(takeN n b).2.k≤n.k:=fun b=>by rw [(take_same n b).2.2.2.2.2.1];exact Nat.le_refl _
  have h2:(takeN { n with tx:=false,sends:=false } false).2.k≤n.k:=by rw [(take_same _ false).2.2.2.2.2.1];exact Nat.le_refl _
  have h3:(nackN n).2.k≤n.k:=fail_k n 8 _
  have h4:∀ kd c,(failN n kd c).2.k≤n.k:=fail_k n
  have h5:(sentN (takeN n true).2).k≤n.k:=Nat.zero_le _
  have h6:(overN n).2.k≤n.k:=Nat.zero_le _
  unfold inN
  repeat' split
  all_goals first | exact h1 _ | exact h2 | exact h3 | exact h4 _ _ | exact h5 | exact h6 | exact Nat.zero_le _
theorem k_next (n:Nd) (b:Bool) (hm:n.mode≤10):(nxN n b).k≤n.k+1:=by
  rcases step_modes n b hm with ⟨-,e⟩ | ⟨-,e⟩ | ⟨-,e⟩ | ⟨-,e⟩ | ⟨-,e⟩ | ⟨-,e⟩ | ⟨-,e⟩ | ⟨-,e⟩ | ⟨-,e⟩ | ⟨-,e⟩<;>rw [e]
  · unfold joinN;simp only [];repeat' split
    all_goals simp
  · unfold idleN
    have:=fail_k { n with tx:=true } 4 true
    simp only [] at this
    repeat' split
    · exact Nat.zero_le _
    · simp
    · omega
  · have:=in_k n b;omega
  · have:=chN_k n 8
    unfold domN
    repeat' split
    all_goals first | (simp;done) | ((try simp only []);omega)
  · have:=chN_k { n with k:=pasK n b,lvl:=b,owed:=false } 8
    have h2:pasK n b≤n.k+1:=by unfold pasK;split<;>omega
    simp only [] at this
    unfold pasN
    repeat' split
    all_goals first | (simp;done) | ((try simp only []);omega)
  · have:=chN_k { n with k:=n.k+1 } 8
    simp only [] at this
    unfold waitN
    repeat' split
    all_goals first | (simp;done) | ((try simp only []);omega)
  · have:=fail_k n 7 true
    unfold closeN overN
    repeat' split
    all_goals first | (simp;done) | ((try simp only []);omega)
  · unfold pausN pauseN overN startN
    repeat' split
    all_goals first | (simp;done) | ((try simp only []);omega)
  · unfold sspN suspN startN
    repeat' split
    all_goals first | (simp;done) | ((try simp only []);omega)
  · have:offK n b≤n.k+1:=by unfold offK;split<;>omega
    unfold offN
    repeat' split
    all_goals first | (simp;done) | ((try simp only []);omega)
theorem nodeAt_append {H:Heap} {a:Nat} {n:Nd} {fs:List Nat} (h:NodeAt H a n fs) (X:Heap):NodeAt (H++X) a n fs :=
  nodeAt_same h fun i hi=>List.getElem?_append_left (nodeAt_lt h i hi)
theorem ext_new {H:Heap} {a:Nat} {n:Nd} {fs:List Nat} (h:NodeAt H a n fs) (e:Entry):Ext (H++[e]) fs H.length e :=
  ⟨by simp,fun q=>Nat.lt_irrefl _ (nodeAt_lt h _ q)⟩
end Go.AM.R1
open Go Go.AM
namespace Go.AM.R1
/-! ### The law's own example: the walk -/
theorem it_k {n:Nd} (h:n.Inv):∀ i,(itN n i).k≤n.k+i
  | 0=>Nat.le_refl _
  | i+1=>by
    have:=k_next (itN n i) true (it_inv h i).mode
    have:=it_k h i
    show (nxN (itN n i) true).k≤_
    omega
theorem nA_put:(nputN nd0 Fr.zero).2=nA:=by
  unfold nputN
  rw [if_neg (by decide +kernel),if_neg (by decide)];rfl
theorem nA_putE:(nputN nd0 Fr.zero).1=0:=by decide +kernel
theorem nA_inv:nA.Inv:=by
  rw [← nA_put]
  exact inv_put nd0_inv ⟨by decide,by decide,by decide,by decide,by decide⟩
def rowE (row:List Bool) (lk:Bool):Entry:=.arr true lk false 1 (row.map encLv)
theorem aw_loop0 (k:List Item) (Q:Option (AVal × Heap)) (row:List Bool) (hlen:row.length=50) (b:Nat) (lkr:Bool)
    (hk:∀ H fs τ,lk 1 τ=.ptr 0 0→lk 2 τ=.own b 50 1 0 50→NodeAt H 0 (itN nA 11) fs→Ext H fs b (rowE row lkr)→finK 0 [.tmp 0] (run E 0 k τ H)=Q) :
    ∀ (d i:Nat),i+d=11→∀ H fs,NodeAt H 0 (itN nA i) fs→Ext H fs b (rowE row lkr) →
    finK 0 [.tmp 0] (run E 0 (.code L12_0::.inLoop [1,2,4] L12_0::.inBlock 0::k) [(1,.ptr 0 0),(2,.own b 50 1 0 50),(4,.lit (.int .i64 i))] H)=Q:=by
  intro d
  induction d with
  | zero =>
    intro i hi H fs h hb
    have:i=11:=by omega
    subst this
    simp [go_sem,run_codeL E L12_0.eq_1]
    exact hk H fs _ (by simp [lk]) (by simp [lk]) h hb
  | succ d ih =>
    intro i hi H fs h hb
    have hlt:(i:Int)<11:=by omega
    have w:=wrapIdx (i:=i) (by omega)
    have hI:=it_inv nA_inv i
    have hkk:(itN nA i).k≤1000000000:=by have:=it_k nA_inv i;have:nA.k=0:=rfl;omega
    obtain ⟨H1,hd,h1,a1⟩:=drive_at h hI
    have hb1:=hb.around a1
    rw [nA_drives i (by omega)] at hd
    obtain ⟨H2,fs2,ix,hs,h2,a2,-⟩:=step_at h1 hI hkk true
    have hb2:=hb1.around a2
    have ih2:=ih (i+1) (by omega) (sweep (fs2++[b]) 0 H2) fs2 (nodeAt_sw2 h2 b) (ext_sw2 hb2)
    have hre:=reach_p2 h2 hb2
    simp [lvT] at hs hd w ih2
    simp [go_sem,run_codeL E L12_0.eq_1,hlt,hd,hs,w]
    rw [run_inLoop']
    simp [go_sem,hre]
    exact ih2
theorem aw_loop1 (k:List Item) (Q:Option (AVal × Heap)) (row:List Bool) (hlen:row.length=50) (b:Nat) (lkr:Bool)
    (hk:∀ H fs n τ,lk 1 τ=.ptr 0 0→NodeAt H 0 n fs→n.Inv→n.mode=8→n.q=[]→finK 0 [.tmp 0] (run E 0 k τ H)=Q) :
    ∀ (d i:Nat),i+d=50→∀ H fs n,NodeAt H 0 n fs→n.Inv→n.k≤100+i→Ext H fs b (rowE row lkr)→okRun i n (row.drop i)=true →
    finK 0 [.tmp 0] (run E 0 (.code L12_1::.inLoop [1,2,5] L12_1::.inBlock 2::k) [(1,.ptr 0 0),(2,.own b 50 1 0 50),(5,.lit (.int .i64 i))] H)=Q:=by
  intro d
  induction d with
  | zero =>
    intro i hi H fs n h hI hkk hb hok
    have:i=50:=by omega
    subst this
    rw [show row.drop 50=[] from List.drop_eq_nil_of_le (by omega)] at hok
    simp [okRun] at hok
    simp [go_sem,run_codeL E L12_1.eq_1]
    exact hk H fs n _ (by simp [lk]) h hI hok.1 hok.2
  | succ d ih =>
    intro i hi H fs n h hI hkk hb hok
    have hlt:(i:Int)<50:=by omega
    have hil:i<row.length:=by omega
    have hltn:i<50:=by omega
    have w:=wrapIdx (i:=i) (by omega)
    obtain ⟨x,hx⟩:∃ x,x=row[i]:=⟨_,rfl⟩
    have hg:(row.map encLv)[i]?=some (encLv x):=by rw [List.getElem?_map,List.getElem?_eq_getElem hil,hx];rfl
    rw [List.drop_eq_getElem_cons hil,← hx] at hok
    have hml:(row.map encLv).length=50:=by rw [List.length_map,hlen]
    rw [okRun] at hok
    simp only [Bool.and_eq_true,decide_eq_true_eq,Bool.or_eq_true] at hok
    obtain ⟨⟨hd0,hev⟩,hrest⟩:=hok
    obtain ⟨H1,hd,h1,a1⟩:=drive_at h hI
    have hb1:=hb.around a1
    obtain ⟨H2,fs2,ix,hs,h2,a2,hix⟩:=step_at h1 hI (by omega) x
    have hb2:=hb1.around a2
    have ih2:=ih (i+1) (by omega) (sweep (fs2++[b]) 0 H2) fs2 (nxN n x) (nodeAt_sw2 h2 b) (inv_next hI x) (by have:=k_next n x hI.mode;omega) (ext_sw2 hb2) hrest
    have hre:=reach_p2 h2 hb2
    have g0:=hb.get
    have g1:=hb1.get
    have g2:=hb2.get
    unfold rowE at g0 g1 g2
    have hn1:evN n x≠[]→49≤i∧i=49∧evN n x=[(1,Fr.zero)]:=by
      intro q;rw [hev] at q ⊢;by_cases q2:i=49
      · rw [if_pos q2];exact ⟨by omega,q2,rfl⟩
      · rw [if_neg q2] at q;exact absurd rfl q
    generalize row.map encLv=rows at *
    have hg2:∀ (q:i<rows.length),rows[i]=encLv x:=fun q=>(List.getElem?_eq_some_iff.1 hg).2
    by_cases q49:i=49
    · have h49:((i:Int)=49)=True:=eq_true (by omega)
      have h49l:((i:Int)<49)=False:=eq_false (by omega)
      rw [if_pos q49] at hev
      have hx2:=hix (by rw [hev];simp)
      rw [hev] at hs hx2
      have hx3:=hx2.1
      simp [evV,encEv,Fr.zero] at hs hx3
      simp at hd w ih2
      have hd1:drN n=x:=by rcases hd0 with q | q;exact q;omega
      rw [hd1] at hd
      simp [go_sem,run_codeL E L12_1.eq_1,hlt,hltn,hd,hs,hg,hg2,hml,g0,g1,g2,w,h49,h49l,encLv,hx3,histK,calm,lv_eq]
      rw [run_inLoop']
      simp [go_sem,hre]
      exact ih2
    · rw [if_neg q49] at hev
      rw [hev] at hs
      simp [evV] at hs
      simp at hd w ih2
      have h49:((i:Int)=49)=False:=eq_false (by omega)
      have h49l:((i:Int)<49)=True:=eq_true (by omega)
      by_cases q41:i=41
      · have h41:((i:Int)=41)=True:=eq_true (by omega)
        by_cases hq:drN n=x
        · simp [go_sem,run_codeL E L12_1.eq_1,hlt,hltn,hd,hs,hg,hg2,hml,g0,g1,g2,w,h41,h49,h49l,encLv,histK,calm,lv_eq,nilS,hq]
          rw [run_inLoop']
          simp [go_sem,hre]
          exact ih2
        · simp [go_sem,run_codeL E L12_1.eq_1,hlt,hltn,hd,hs,hg,hg2,hml,g0,g1,g2,w,h41,h49,h49l,encLv,histK,calm,lv_eq,nilS,hq]
          rw [run_inLoop']
          simp [go_sem,hre]
          exact ih2
      · have h41:((i:Int)=41)=False:=eq_false (by omega)
        have hd1:drN n=x:=by rcases hd0 with q | q;exact q;omega
        rw [hd1] at hd
        simp [go_sem,run_codeL E L12_1.eq_1,hlt,hltn,hd,hs,hg,hg2,hml,g0,g1,g2,w,encLv,h41,h49,h49l,histK,calm,lv_eq,nilS]
        rw [run_inLoop']
        simp [go_sem,hre]
        exact ih2
theorem ren_new:List.map (renE (toGlob [] 0)) (ndH nd0 ⟨false,false,false,false,false⟩)=ndH nd0 ⟨false,false,false,false,false⟩:=rfl
set_option maxHeartbeats 2000000 in
theorem awake10:call E (.func (.func 12) [] []) [] []=some (.lit (.bool true),[]):=by
  have hn:=nnew_spec
  have h0:=nodeAt_can nd0 ⟨false,false,false,false,false⟩ []
  rw [List.append_nil] at h0
  obtain ⟨H1,fs1,hp,h1,a1⟩:=put_at h0 nd0_inv.ok Fr.zero
  rw [nA_put] at h1
  rw [nA_putE] at hp
  have hE:=encode_spec Fr.zero zero_ok (by decide +kernel) true
  have hok:=ok_run
  have hlen:=enc_len
  generalize encodeP Fr.zero true=row at *
  have h2:=nodeAt_append h1 [rowE row false]
  have hb:=ext_new h1 (rowE row false)
  have hre:=reach_p2 h2 hb
  have hl0:=fun k hk=>aw_loop0 k (some (.lit (.bool true),[])) row hlen H1.length false hk 11 0 (by omega)
  have hl1:=fun k hk=>aw_loop1 k (some (.lit (.bool true),[])) row hlen H1.length false hk 50 0 (by omega)
  rw [call_func E E12]
  simp [encFr,Fr.zero,u8v] at hp hE
  simp [itN] at hl0 hl1
  rw [hlen] at hE
  have hrr:=rowsLv row
  unfold rowE at *
  generalize row.map encLv=rows at *
  simp [go_sem,ir12,hn,ren_new,hp,hE,hlen,nilS]
  rw [run_inLoop']
  simp [go_sem,hre]
  refine hl0 _ ?_ _ _ (nodeAt_sw2 h2 _) (ext_sw2 hb)
  intro H fs τ t1 t2 h hb
  have hre:=reach_p2 h hb
  simp [go_sem,t1,t2]
  rw [run_inLoop']
  simp [go_sem,t1,t2,hre]
  have hI:=it_inv nA_inv 11
  refine hl1 _ ?_ _ _ (itN nA 11) (nodeAt_sw2 h _) hI (by have:=it_k nA_inv 11;have:nA.k=0:=rfl;omega) (ext_sw2 hb) hok
  intro H fs n τ t1 h hI hm hq
  obtain ⟨H3,hl1,h1,-⟩:=look_at h hI.ok
  obtain ⟨H4,hl2,h2,-⟩:=look_at h1 hI.ok
  simp [lookC,hm,hq] at hl1 hl2
  simp [go_sem,t1,hl1,hl2]
end Go.AM.R1
open Go Go.AM
namespace Go.AM.R1
/-! ### Levels, one behind the other -/
def Chk (P:Nat→Nd→Bool→Prop):Nat→Nd→List Bool→Nd→Prop
  | _,n,[],m=>m=n
  | i,n,b::r,m=>P i n b∧Chk P (i+1) (nxN n b) r m
theorem chk_append {P:Nat→Nd→Bool→Prop}:∀ (a:List Bool) {i:Nat} {n x m:Nd} {b:List Bool},Chk P i n a x→Chk P (i+a.length) x b m→Chk P i n (a++b) m
  | [],i,n,x,m,b,h1,h2=>by
    have:x=n:=h1
    subst this;exact h2
  | c::a,i,n,x,m,b,h1,h2=>by
    refine ⟨h1.1,chk_append a h1.2 ?_⟩
    rwa [show i+1+a.length=i+(c::a).length by simp;omega]
theorem chk_mono {P Q:Nat→Nd→Bool→Prop}:∀ (a:List Bool) {i:Nat} {n m:Nd},(∀ j n b,i≤j→j<i+a.length→P j n b→Q j n b)→Chk P i n a m→Chk Q i n a m
  | [],_,_,_,_,h=>h
  | b::a,i,n,m,hq,h=>⟨hq i n b (by omega) (by simp) h.1,chk_mono a (fun j n b h1 h2 h3=>hq j n b (by omega) (by simp at h2 ⊢;omega) h3) h.2⟩
theorem chk_one {P:Nat→Nd→Bool→Prop} {i:Nat} {n m:Nd} {b:Bool} (h:P i n b) (e:nxN n b=m):Chk P i n [b] m:=⟨h,e.symm⟩
theorem step_in {n:Nd} (h:n.mode=2) (b:Bool):evN n b=evsOf (inN n b).1 (inN n b).2.1∧nxN n b=(inN n b).2.2∧drN n=frL n:=by
  have e:stepN n b=inN n b:=by unfold stepN;rw [h];rfl
  refine ⟨by unfold evN;rw [e],by unfold nxN;rw [e],?_⟩
  unfold drN
  rw [if_neg (by omega),if_neg (by omega),if_pos h]
/-- A node with another reader. -/
def rdN (n:Nd) (p:List Bool) (c:Bool) (r:Nat):Nd:={ n with raw:=p,lvl:=c,run:=r }
theorem in_plain {n:Nd} (hm:n.mode=2) (p:List Bool) (c:Bool) (r:Nat) (h0:0<r) (h5:r<5) (hk:(nextF p).1≤4) (x:Bool) (hs:n.sends=true→(n.row[p.length]?).getD true=x) :
    drN (rdN n p c r)=(if n.sends=true then x else true)∧evN (rdN n p c r) x=[]∧nxN (rdN n p c r) x=rdN n (p++[x]) x (if x=c then r+1 else 1):=by
  obtain ⟨e1,e2,e3⟩:=step_in (n:=rdN n p c r) hm x
  have hfr:frL (rdN n p c r)=if n.sends=true then x else true:=by
    unfold frL
    show (if n.sends=true then (if r=5 then !c else (n.row[p.length]?).getD true) else !(decide ((nextF p).1=6) && rightF p))=_
    cases hq:n.sends
    · have:¬ (nextF p).1=6:=by omega
      simp [this]
    · rw [if_pos rfl,if_neg (by omega),if_pos rfl,hs hq]
  have ht:(takeN (rdN n p c r) x).2=rdN n (p++[x]) x (if x=c then r+1 else 1):=by
    unfold takeN
    show (if r=5 then _ else if 4<(nextF p).1 then _ else if 0<r∧x=c then _ else _:Bool × Nd).2=_
    rw [if_neg (by omega),if_neg (by omega)]
    by_cases q:x=c
    · rw [if_pos ⟨h0,q⟩,if_pos q,q];rfl
    · rw [if_neg (fun g=>q g.2),if_neg q];rfl
  have hin:inN (rdN n p c r) x=([],Fr.zero,(takeN (rdN n p c r) x).2):=by
    unfold inN
    rw [hfr]
    show (if n.sends=true then _ else _)=_
    have hn6:¬ (nextF p).1=6:=by omega
    have h86:¬ nextF p=(8,6):=by intro q;rw [q] at hk;simp at hk
    have hr5:¬ r=5:=by omega
    cases hq:n.sends
    · simp only [Bool.false_eq_true,if_false,Bool.true_eq_false]
      rw [if_neg (show ¬ (rdN n p c r).run=5 from hr5),if_pos (.inl hk)]
    · simp only [if_true]
      rw [if_neg (show ¬ ((rdN n p c r).run≠5∧(nextF (rdN n p c r).raw).1=6) from fun g=>hn6 g.2),if_neg (show ¬ ((rdN n p c r).run≠5∧nextF (rdN n p c r).raw=(8,6)) from fun g=>h86 g.2)]
  rw [hin] at e1 e2
  exact ⟨by rw [e3,hfr],by rw [e1];rfl,by rw [e2];exact ht⟩
theorem in_stuff {n:Nd} (hm:n.mode=2) (p:List Bool) (c:Bool) (hk:(nextF p).1≤5) :
    drN (rdN n p c 5)=(if n.sends=true then !c else true)∧evN (rdN n p c 5) (!c)=[]∧nxN (rdN n p c 5) (!c)=rdN n p (!c) 1:=by
  obtain ⟨e1,e2,e3⟩:=step_in (n:=rdN n p c 5) hm (!c)
  have hn6:¬ (nextF p).1=6:=by omega
  have hfr:frL (rdN n p c 5)=if n.sends=true then !c else true:=by
    unfold frL
    show (if n.sends=true then (if 5=5 then !c else (n.row[p.length]?).getD true) else !(decide ((nextF p).1=6) && rightF p))=_
    cases hq:n.sends
    · simp [hn6]
    · simp
  have ht:(takeN (rdN n p c 5) (!c)).2=rdN n p (!c) 1:=by
    unfold takeN
    rw [if_pos (show (rdN n p c 5).run=5 from rfl),if_neg (show ¬ (!c)=(rdN n p c 5).lvl by show ¬ (!c)=c;simp)];rfl
  have hin:inN (rdN n p c 5) (!c)=([],Fr.zero,(takeN (rdN n p c 5) (!c)).2):=by
    unfold inN
    rw [hfr]
    show (if n.sends=true then _ else _)=_
    have h5:(rdN n p c 5).run=5:=rfl
    cases hq:n.sends
    · simp only [Bool.false_eq_true,if_false,Bool.true_eq_false]
      rw [if_pos h5,if_neg (show ¬ (!c)=(rdN n p c 5).lvl by show ¬ (!c)=c;simp)]
    · simp only [if_true]
      rw [if_neg (fun g=>g.1 h5),if_neg (fun g=>g.1 h5)]
  rw [hin] at e1 e2
  exact ⟨by rw [e3,hfr],by rw [e1];rfl,by rw [e2];exact ht⟩
def FedP (s:Bool) (_:Nat) (n:Nd) (b:Bool):Prop:=drN n=(if s=true then b else true)∧evN n b=[]
theorem feedN {f:Fr} (h:checkP f=0) {n:Nd} (hm:n.mode=2) (hrow:n.sends=true→n.row=allP f):∀ (l p:List Bool) (c:Bool) (r i:Nat),p++l=sentP f→0<r→r<5 →
    ∃ c' r',0<r'∧r'<5∧Chk (FedP n.sends) i (rdN n p c r) (emit (some c) r l) (rdN n (sentP f) c' r')
  | [],p,c,r,i,e,h0,h5=>by
    rw [List.append_nil] at e
    exact ⟨c,r,h0,h5,by rw [e];exact rfl⟩
  | x :: l,p,c,r,i,e,h0,h5=>by
    have hk:=prefix_kind f h p (x::l) (by simp) e
    obtain ⟨a1,a2,a3⟩:=in_plain hm p c r h0 h5 hk x (fun q=>by rw [hrow q,allP_sent,← e];simp)
    have e':(p++[x])++l=sentP f:=by rw [← e];simp
    rw [emit]
    have hr:(if some c=some x then r+1 else 1)=if x=c then r+1 else 1:=by
      by_cases q:x=c
      · rw [if_pos q,if_pos (by rw [q])]
      · rw [if_neg q,if_neg (fun g=>q (by simpa using g.symm))]
    rw [hr]
    by_cases h55:(if x=c then r+1 else 1)=5
    · rw [if_pos h55]
      rw [h55] at a3
      have hk5:(nextF (p++[x])).1≤5:=kind_next hk x
      obtain ⟨b1,b2,b3⟩:=in_stuff hm (p++[x]) x hk5
      obtain ⟨c',r',q0,q1,q2⟩:=feedN h hm hrow l (p++[x]) (!x) 1 (i+1+1) e' (by omega) (by omega)
      refine ⟨c',r',q0,q1,⟨a1,a2⟩,?_⟩
      rw [a3]
      refine ⟨⟨b1,b2⟩,?_⟩
      rw [b3];exact q2
    · rw [if_neg h55]
      have hlt:(if x=c then r+1 else 1)<5∧0<(if x=c then r+1 else 1):=by by_cases q:x=c<;>simp only [q,if_true,if_false] at h55 ⊢<;>omega
      obtain ⟨c',r',q0,q1,q2⟩:=feedN h hm hrow l (p++[x]) x _ (i+1) e' hlt.2 hlt.1
      refine ⟨c',r',q0,q1,⟨a1,a2⟩,?_⟩
      rw [a3];exact q2
end Go.AM.R1
open Go Go.AM
namespace Go.AM.R1
/-! ### A row, to its end: a receiver -/
theorem rx_true {n:Nd} (hm:n.mode=2) (hs:n.sends=false) {p:List Bool} {c:Bool} {r:Nat} (h5:¬ r=5) (hk:(nextF p).1=5∨((nextF p).1=7∧rightF p=true)∨((nextF p).1=8∧(nextF p).2<5)) :
    drN (rdN n p c r)=true∧evN (rdN n p c r) true=[]∧nxN (rdN n p c r) true=rdN n (p++[true]) c 0:=by
  obtain ⟨e1,e2,e3⟩:=step_in (n:=rdN n p c r) hm true
  have hn6:¬ (nextF p).1=6:=by omega
  have hfr:frL (rdN n p c r)=true:=by
    unfold frL
    show (if n.sends=true then _ else !(decide ((nextF p).1=6) && rightF p))=_
    rw [hs];simp [hn6]
  have ht:(takeN (rdN n p c r) true).2=rdN n (p++[true]) c 0:=by
    unfold takeN
    rw [if_neg (show ¬ (rdN n p c r).run=5 from h5),if_pos (show 4<(nextF (rdN n p c r).raw).1 by show 4<(nextF p).1;omega)]
    rfl
  have hin:inN (rdN n p c r) true=([],Fr.zero,(takeN (rdN n p c r) true).2):=by
    unfold inN
    have h85:¬ nextF p=(8,5):=by intro q;rw [q] at hk;simp at hk
    have h86:¬ nextF p=(8,6):=by intro q;rw [q] at hk;simp at hk
    have h7:¬ ((nextF p).1=7∧rightF p=false):=by
      rintro ⟨q1,q2⟩
      rcases hk with q | ⟨-,q⟩ | ⟨q,-⟩
      · omega
      · rw [q] at q2;cases q2
      · omega
    rw [if_neg (show ¬ (rdN n p c r).sends=true by show ¬ n.sends=true;rw [hs];simp),hfr,if_neg (by simp),if_neg (show ¬ (rdN n p c r).run=5 from h5)]
    have e4:¬ ((nextF (rdN n p c r).raw).1≤4∨(nextF (rdN n p c r).raw).1=6):=by show ¬ ((nextF p).1≤4∨(nextF p).1=6);omega
    rw [if_neg e4,if_neg (by simp),if_neg (show ¬ ((nextF (rdN n p c r).raw).1=7∧rightF (rdN n p c r).raw=false) from h7),if_neg (show ¬ nextF (rdN n p c r).raw=(8,5) from h85),if_neg (show ¬ nextF (rdN n p c r).raw=(8,6) from h86)]
  rw [hin] at e1 e2
  exact ⟨by rw [e3,hfr],by rw [e1];rfl,by rw [e2];exact ht⟩
theorem rx_slot {n:Nd} (hm:n.mode=2) (hs:n.sends=false) {p:List Bool} {c:Bool} {r:Nat} (h5:¬ r=5) (hk:(nextF p).1=6) (hr:rightF p=true) :
    drN (rdN n p c r)=false∧evN (rdN n p c r) false=[]∧nxN (rdN n p c r) false=rdN n (p++[false]) c 0:=by
  obtain ⟨e1,e2,e3⟩:=step_in (n:=rdN n p c r) hm false
  have hfr:frL (rdN n p c r)=false:=by
    unfold frL
    show (if n.sends=true then _ else !(decide ((nextF p).1=6) && rightF p))=_
    rw [hs];simp [hk,hr]
  have ht:(takeN (rdN n p c r) false).2=rdN n (p++[false]) c 0:=by
    unfold takeN
    rw [if_neg (show ¬ (rdN n p c r).run=5 from h5),if_pos (show 4<(nextF (rdN n p c r).raw).1 by show 4<(nextF p).1;omega)]
    rfl
  have hin:inN (rdN n p c r) false=([],Fr.zero,(takeN (rdN n p c r) false).2):=by
    unfold inN
    rw [if_neg (show ¬ (rdN n p c r).sends=true by show ¬ n.sends=true;rw [hs];simp),hfr,if_pos rfl,if_neg (by simp)]
  rw [hin] at e1 e2
  exact ⟨by rw [e3,hfr],by rw [e1];rfl,by rw [e2];exact ht⟩
theorem rx_tell {n:Nd} (hm:n.mode=2) (hs:n.sends=false) {p:List Bool} {c:Bool} {r:Nat} (h5:¬ r=5) (hk:nextF p=(8,5)) {f:Fr} (hf:frameOf (p++[true])=f) :
    drN (rdN n p c r)=true∧evN (rdN n p c r) true=[(2,f)]∧nxN (rdN n p c r) true=rdN { n with ct:=n.ct.recv } (p++[true]) c 0:=by
  obtain ⟨e1,e2,e3⟩:=step_in (n:=rdN n p c r) hm true
  have hfr:frL (rdN n p c r)=true:=by
    unfold frL
    show (if n.sends=true then _ else !(decide ((nextF p).1=6) && rightF p))=_
    rw [hs,hk];simp
  have ht:(takeN (rdN n p c r) true).2=rdN n (p++[true]) c 0:=by
    unfold takeN
    rw [if_neg (show ¬ (rdN n p c r).run=5 from h5),if_pos (show 4<(nextF (rdN n p c r).raw).1 by show 4<(nextF p).1;rw [hk];decide)]
    rfl
  have hin:inN (rdN n p c r) true=([2],f,{ (takeN (rdN n p c r) true).2 with ct:=n.ct.recv }):=by
    unfold inN
    rw [if_neg (show ¬ (rdN n p c r).sends=true by show ¬ n.sends=true;rw [hs];simp),hfr,if_neg (by simp),if_neg (show ¬ (rdN n p c r).run=5 from h5)]
    have e4:¬ ((nextF (rdN n p c r).raw).1≤4∨(nextF (rdN n p c r).raw).1=6):=by show ¬ ((nextF p).1≤4∨(nextF p).1=6);rw [hk];decide
    have h7:¬ ((nextF (rdN n p c r).raw).1=7∧rightF (rdN n p c r).raw=false):=by show ¬ ((nextF p).1=7∧rightF p=false);rw [hk];simp
    rw [if_neg e4,if_neg (by simp),if_neg h7,if_pos (show nextF (rdN n p c r).raw=(8,5) from hk)]
    show ([2],frameOf (p++[true]),_)=_
    rw [hf];rfl
  rw [hin] at e1 e2
  refine ⟨by rw [e3,hfr],by rw [e1];rfl,?_⟩
  rw [e2]
  show { (takeN (rdN n p c r) true).2 with ct:=n.ct.recv }=_
  rw [ht];rfl
theorem rx_last {n:Nd} (hm:n.mode=2) (hs:n.sends=false) {p:List Bool} {c:Bool} {r:Nat} (h5:¬ r=5) (hk:nextF p=(8,6)) :
    drN (rdN n p c r)=true∧evN (rdN n p c r) true=[]∧nxN (rdN n p c r) true=rdN { n with mode:=8,k:=0 } (p++[true]) c 0:=by
  obtain ⟨e1,e2,e3⟩:=step_in (n:=rdN n p c r) hm true
  have hfr:frL (rdN n p c r)=true:=by
    unfold frL
    show (if n.sends=true then _ else !(decide ((nextF p).1=6) && rightF p))=_
    rw [hs,hk];simp
  have ht:(takeN (rdN n p c r) true).2=rdN n (p++[true]) c 0:=by
    unfold takeN
    rw [if_neg (show ¬ (rdN n p c r).run=5 from h5),if_pos (show 4<(nextF (rdN n p c r).raw).1 by show 4<(nextF p).1;rw [hk];decide)]
    rfl
  have hin:inN (rdN n p c r) true=([],Fr.zero,{ (takeN (rdN n p c r) true).2 with mode:=8,k:=0 }):=by
    unfold inN
    rw [if_neg (show ¬ (rdN n p c r).sends=true by show ¬ n.sends=true;rw [hs];simp),hfr,if_neg (by simp),if_neg (show ¬ (rdN n p c r).run=5 from h5)]
    have e4:¬ ((nextF (rdN n p c r).raw).1≤4∨(nextF (rdN n p c r).raw).1=6):=by show ¬ ((nextF p).1≤4∨(nextF p).1=6);rw [hk];decide
    have h7:¬ ((nextF (rdN n p c r).raw).1=7∧rightF (rdN n p c r).raw=false):=by show ¬ ((nextF p).1=7∧rightF p=false);rw [hk];simp
    have h85:¬ nextF (rdN n p c r).raw=(8,5):=by show ¬ nextF p=(8,5);rw [hk];decide
    rw [if_neg e4,if_neg (by simp),if_neg h7,if_neg h85,if_pos (show nextF (rdN n p c r).raw=(8,6) from hk)]
  rw [hin] at e1 e2
  refine ⟨by rw [e3,hfr],by rw [e1];rfl,?_⟩
  rw [e2]
  show { (takeN (rdN n p c r) true).2 with mode:=8,k:=0 }=_
  rw [ht];rfl
/-- What a receiver does at each level of a row of S levels ahead of the slot's delimiter. -/
def RcvP (f:Fr) (S:Nat) (i:Nat) (n:Nd) (b:Bool):Prop:=drN n=!(decide (i=S+1))∧evN n b=if i=S+8 then [(2,f)] else []
theorem rcv_tail {f:Fr} (hf:f.Ok) (h:checkP f=0) {n:Nd} (hm:n.mode=2) (hs:n.sends=false) (c:Bool) (r S:Nat) (h5:r<5) :
    Chk (RcvP f S) S (rdN n (sentP f) c r) [true,false,true,true,true,true,true,true,true,true] (rdN { n with ct:=n.ct.recv,mode:=8,k:=0 } (sentP f++[true,false,true,true,true,true,true,true,true,true]) c 0):=by
  have nx:=fun t ht=>nextF_sent f h t ht
  have hr:=fun t=>sentP_right f h t
  obtain ⟨a1,a2,a3⟩:=rx_true (n:=n) hm hs (p:=sentP f) (c:=c) (r:=r) (by omega) (.inl (by have:=nx [] (by simp);rw [List.append_nil] at this;rw [this];rfl))
  obtain ⟨b1,b2,b3⟩:=rx_slot (n:=n) hm hs (p:=sentP f++[true]) (c:=c) (r:=0) (by omega) (by rw [nx [true] (by simp)];rfl) (hr _)
  obtain ⟨c1,c2,c3⟩:=rx_true (n:=n) hm hs (p:=sentP f++[true]++[false]) (c:=c) (r:=0) (by omega) (.inr (.inl ⟨by rw [List.append_assoc,nx _ (by simp)];rfl,by rw [List.append_assoc];exact hr _⟩))
  have step8:∀ t:List Bool,3≤t.length→t.length≤7→drN (rdN n (sentP f++t) c 0)=true∧evN (rdN n (sentP f++t) c 0) true=[]∧nxN (rdN n (sentP f++t) c 0) true=rdN n (sentP f++(t++[true])) c 0:=by
    intro t h3 h7
    have hn:=nx t (by omega)
    rw [if_neg (by omega),if_neg (by omega),if_neg (by omega)] at hn
    have:=rx_true (n:=n) hm hs (p:=sentP f++t) (c:=c) (r:=0) (by omega) (.inr (.inr (by rw [hn];exact ⟨rfl,by show t.length - 3<5;omega⟩)))
    rwa [List.append_assoc] at this
  have a3':=a3
  rw [List.append_assoc] at b3 c1 c2 c3
  rw [List.append_assoc] at c3
  simp only [List.cons_append,List.nil_append] at b3 c1 c2 c3
  obtain ⟨d1,d2,d3⟩:=step8 [true,false,true] (by simp) (by simp)
  obtain ⟨e1,e2,e3⟩:=step8 [true,false,true,true] (by simp) (by simp)
  obtain ⟨f1,f2,f3⟩:=step8 [true,false,true,true,true] (by simp) (by simp)
  obtain ⟨g1,g2,g3⟩:=step8 [true,false,true,true,true,true] (by simp) (by simp)
  obtain ⟨i1,i2,i3⟩:=step8 [true,false,true,true,true,true,true] (by simp) (by simp)
  have n85:=nx [true,false,true,true,true,true,true,true] (by simp)
  have n86:=nx [true,false,true,true,true,true,true,true,true] (by simp)
  obtain ⟨j1,j2,j3⟩:=rx_tell (n:=n) hm hs (p:=sentP f++[true,false,true,true,true,true,true,true]) (c:=c) (r:=0) (by omega) n85 (f:=f) (by rw [List.append_assoc];exact frameOf_sent f hf h _)
  obtain ⟨k1,k2,k3⟩:=rx_last (n:={ n with ct:=n.ct.recv }) hm hs (p:=sentP f++[true,false,true,true,true,true,true,true,true]) (c:=c) (r:=0) (by omega) n86
  rw [List.append_assoc] at j3 k3
  simp only [List.cons_append,List.nil_append] at d3 e3 f3 g3 i3 j3 k3
  have no:∀ {i:Nat} {n:Nd} {b:Bool},i≠S+1→i≠S+8→drN n=true→evN n b=[]→RcvP f S i n b:=by
    intro i n b q1 q2 q3 q4
    exact ⟨by rw [q3];simp [q1],by rw [q4,if_neg q2]⟩
  refine ⟨no (by omega) (by omega) a1 a2,?_⟩
  rw [a3]
  refine ⟨⟨by rw [b1];simp,by rw [b2,if_neg (by omega)]⟩,?_⟩
  rw [b3]
  refine ⟨no (by omega) (by omega) c1 c2,?_⟩
  rw [c3]
  refine ⟨no (by omega) (by omega) d1 d2,?_⟩
  rw [d3]
  refine ⟨no (by omega) (by omega) e1 e2,?_⟩
  rw [e3]
  refine ⟨no (by omega) (by omega) f1 f2,?_⟩
  rw [f3]
  refine ⟨no (by omega) (by omega) g1 g2,?_⟩
  rw [g3]
  refine ⟨no (by omega) (by omega) i1 i2,?_⟩
  rw [i3]
  refine ⟨⟨by rw [j1];simp;omega,by rw [j2,if_pos (by omega)]⟩,?_⟩
  rw [j3]
  refine ⟨no (by omega) (by omega) k1 k2,?_⟩
  rw [k3]
  exact rfl
theorem sent_head (f:Fr):∃ l,sentP f=false::l:=by
  unfold sentP
  rw [bitsP_head]
  cases f.ext
  · exact ⟨_,rfl⟩
  · exact ⟨_,rfl⟩
theorem stuff_head {f:Fr} {l:List Bool} (e:sentP f=false::l):stuffP (sentP f)=false::emit (some false) 1 l:=by
  unfold stuffP
  rw [addS_emit,e,List.nil_append,emit,if_neg (by simp)]
  rfl
/-- What a receiver is behind a row. -/
def rcvN (f:Fr) (n:Nd) (c:Bool):Nd:=rdN { (startN n false) with ct:=n.ct.recv,mode:=8,k:=0 } (sentP f++[true,false,true,true,true,true,true,true,true,true]) c 0
/-- A node without frames receives a row. -/
theorem rcv_row {f:Fr} (hf:f.Ok) (h:checkP f=0) {n:Nd} (hm:n.mode=1) (hq:n.q=[]):∃ c,Chk (RcvP f ((encodeP f true).length - 10)) 0 n (encodeP f true) (rcvN f n c):=by
  obtain ⟨l,hl⟩:=sent_head f
  have hS:=stuff_head hl
  have hE:=encodeP_parts f true
  have hlen:(encodeP f true).length=(stuffP (sentP f)).length+10:=by rw [hE];simp
  rw [hlen,Nat.add_sub_cancel]
  rw [hE]
  have st:stepN n false=([],Fr.zero,startN n false):=by
    unfold stepN;rw [hm];show noFr (idleN n false)=_
    unfold idleN noFr;rw [if_pos rfl,hq];rfl
  have hd:drN n=true:=by unfold drN;rw [if_pos hm,hq];rfl
  have hev:evN n false=[]:=by unfold evN;rw [st];rfl
  have hnx:nxN n false=rdN (startN n false) [false] false 1:=by unfold nxN;rw [st];rfl
  obtain ⟨c,r,h0,h5,hc⟩:=feedN h (n:=startN n false) rfl (fun q=>by cases q) l [false] false 1 1 (by rw [hl];rfl) (by omega) (by omega)
  refine ⟨c,chk_append (stuffP (sentP f)) (x:=rdN (startN n false) (sentP f) c r) ?_ ?_⟩
  · rw [hS]
    refine ⟨⟨by rw [hd];simp,by rw [hev];simp⟩,?_⟩
    rw [hnx]
    refine chk_mono _ ?_ hc
    intro j m b j1 j2 hj
    have q1:¬ j=(emit (some false) 1 l).length+1+1:=by omega
    have q2:¬ j=(emit (some false) 1 l).length+1+8:=by omega
    refine ⟨?_,?_⟩
    · rw [hj.1]
      show (if false=true then b else true)=_
      simp [q1]
    · rw [hj.2,if_neg]
      simpa using q2
  · rw [Nat.zero_add]
    exact rcv_tail hf h rfl rfl c r _ h5
theorem step_pause {n:Nd} (h:n.mode=8) (b:Bool):stepN n b=noFr (pausN n b):=by unfold stepN;rw [h];rfl
/-- .. and is idle again, three levels behind. -/
theorem pause3 {n:Nd} (hm:n.mode=8) (hk:n.k=0) (ht:n.tx=false):∀ (P:Nat→Nd→Bool→Prop) (i:Nat),(∀ j m,i≤j→j<i+3→drN m=true→evN m true=[]→m.mode=8→P j m true)→Chk P i n [true,true,true] { n with mode:=1,k:=0 }:=by
  intro P i hP
  have hl:∀ k,lateP { n with k:=k }=false:=by intro k;unfold lateP;show (n.tx && _)=false;rw [ht];rfl
  have st:∀ k,k<2→stepN { n with k:=k } true=([],Fr.zero,{ n with k:=k+1 }):=by
    intro k h2
    rw [step_pause (n:={ n with k:=k }) hm]
    unfold pausN pauseN noFr
    rw [if_pos rfl,if_pos (show k+1<3 by omega)]
  have st2:stepN { n with k:=2 } true=([],Fr.zero,{ n with mode:=1,k:=0 }):=by
    rw [step_pause (n:={ n with k:=2 }) hm]
    unfold pausN pauseN noFr
    rw [if_pos rfl,if_neg (show ¬ 2+1<3 by omega),hl 2];rfl
  have hd:∀ k,drN { n with k:=k }=true:=by
    intro k;unfold drN
    show (if n.mode=1 then _ else if n.mode=3∨n.mode=5 then false else if n.mode=2 then _ else true)=true
    rw [hm];rfl
  have e0:n={ n with k:=0 }:=by rw [← hk]
  rw [show Chk P i n [true,true,true] { n with mode:=1,k:=0 }=Chk P i { n with k:=0 } [true,true,true] { n with mode:=1,k:=0 } by rw [← e0]]
  have nx:∀ k,k<2→nxN { n with k:=k } true={ n with k:=k+1 }:=fun k q=>by unfold nxN;rw [st k q]
  have ev:∀ k,k<2→evN { n with k:=k } true=[]:=fun k q=>by unfold evN;rw [st k q];rfl
  refine ⟨hP _ _ (by omega) (by omega) (hd 0) (ev 0 (by omega)) hm,?_⟩
  rw [nx 0 (by omega)]
  refine ⟨hP _ _ (by omega) (by omega) (hd 1) (ev 1 (by omega)) hm,?_⟩
  rw [nx 1 (by omega)]
  refine ⟨hP _ _ (by omega) (by omega) (hd 2) (by unfold evN;rw [st2];rfl) hm,?_⟩
  unfold nxN
  rw [st2]
  exact rfl
end Go.AM.R1
open Go Go.AM
namespace Go.AM.R1
/-! ### Helpers of the laws' walks -/
theorem renE_id (e:Entry):renE id e=e:=by
  cases e<;>simp [renE,renL_id,renLL_id,renT_id]
theorem back_new (v:AVal) (Hn:Heap):backK [] (some (v,Hn))=some (v,Hn):=by
  have h0:((([]:Heap).length)+·:Nat→Nat)=id:=by funext x;simp
  cases Hn with
  | nil=>rw [backK_nil,h0,renV_id]
  | cons e r =>
    rw [backK_cons,h0,renV_id,List.nil_append,show (e::r).map (renE id)=e::r from by rw [show renE id=id from funext renE_id,List.map_id]]
/-- Ready for the next frame. -/
structure Ready (n:Nd):Prop where
  inv:n.Inv
  mode:n.mode=1
  q:n.q=[]
  ct:n.ct=Ct.zero
  tx:n.tx=false
  k:n.k=0
theorem nd1_ready:Ready nd1:=⟨nd1_inv,rfl,rfl,rfl,rfl,rfl⟩
theorem chk_inv {P:Nat→Nd→Bool→Prop}:∀ (a:List Bool) {i:Nat} {n m:Nd},n.Inv→Chk P i n a m→m.Inv
  | [],_,_,_,h,e=>by have e:_=_:=e;rw [e];exact h
  | b::a,_,_,_,h,hc=>chk_inv a (inv_next h b) hc.2
theorem ready_row {f:Fr} (hf:f.Ok) (h:checkP f=0) {n:Nd} (r:Ready n):∃ m,Chk (RcvP f ((encodeP f true).length - 10)) 0 n (encodeP f true++[true,true,true]) m∧Ready m:=by
  obtain ⟨c,hc⟩:=rcv_row hf h r.mode r.q
  have hlen:(encodeP f true).length=(stuffP (sentP f)).length+10:=by rw [encodeP_parts];simp
  have hp:=pause3 (n:=rcvN f n c) rfl rfl rfl (RcvP f ((encodeP f true).length - 10)) (0+(encodeP f true).length) (fun j m j1 j2 hd he _=>⟨by rw [hd];simp;omega,by rw [he,if_neg (by omega)]⟩)
  have hall:=chk_append _ hc hp
  have hI:=chk_inv _ r.inv hall
  refine ⟨_,hall,hI,rfl,?_,?_,rfl,rfl⟩
  · exact r.q
  · show n.ct.recv=Ct.zero
    rw [r.ct];rfl
end Go.AM.R1
open Go Go.AM
namespace Go.AM.R1
/-! ### A node among other entries -/
theorem reach_flats {H:Heap}:∀ (bs w acc:List Nat) (k:Nat),(∀ b∈bs,∃e,H[b]?=some e∧refsE e=[])→(acc++bs).Nodup→reach H (k+bs.length) (bs++w) acc=reach H k w (acc++bs)
  | [],w,acc,k,_,_=>by simp
  | b :: bs,w,acc,k,hf,hd=>by
    obtain ⟨e,he,hr⟩:=hf b (List.mem_cons_self ..)
    have hb:b ∉ acc:=by
      intro q
      have:=List.nodup_append.1 hd
      exact this.2.2 b q b (List.mem_cons_self ..) rfl
    rw [List.length_cons,show k+(bs.length+1)=(k+bs.length)+1 by omega,List.cons_append,reach_step hb he,hr,List.nil_append,
      reach_flats bs w (acc++[b]) k (fun c hc=>hf c (List.mem_cons_of_mem _ hc)) (by simpa using hd),List.append_assoc]
    rfl
theorem reach_mix {H:Heap} {a:Nat} {n:Nd} {fs:List Nat} (h:NodeAt H a n fs) (pre post:List Nat) (hf:∀ b∈pre++post,∃e,H[b]?=some e∧refsE e=[]) (hd:(pre++fs++post).Nodup) (hl:pre.length+post.length≤300) :
    reach H purse (pre++a::post) []=some (pre++fs++post):=by
  have hl5:=nodeAt_len h
  have hd1:=List.nodup_append.1 hd
  have hd2:=List.nodup_append.1 hd1.1
  rw [show purse=(400 - fs.length - post.length - pre.length+fs.length+post.length)+pre.length by rw [purse_eq];omega]
  rw [reach_flats pre _ [] _ (fun b hb=>hf b (List.mem_append_left _ hb)) (by simpa using hd2.1),List.nil_append]
  rw [show 400 - fs.length - post.length - pre.length+fs.length+post.length=(400 - fs.length - post.length - pre.length+post.length)+fs.length by omega]
  rw [reach_node h _ post pre (fun i hi q=>hd2.2.2 i q i hi rfl)]
  have:=reach_flats (H:=H) post [] (pre++fs) (400 - fs.length - post.length - pre.length) (fun b hb=>hf b (List.mem_append_right _ hb)) hd
  rw [List.append_nil] at this
  rw [this,reach_nil]
theorem ext_sweep {H:Heap} {fs:List Nat} {b:Nat} {e:Entry} (h:Ext H fs b e) {R:List Nat} (hR:b∈R):Ext (sweep R 0 H) fs b e :=
  ⟨by rw [sweep_get H R 0 b (by rw [Nat.zero_add];exact hR)];exact h.get,h.out⟩
theorem ext_append {H:Heap} {fs:List Nat} {b:Nat} {e:Entry} (h:Ext H fs b e) (X:Heap):Ext (H++X) fs b e :=
  ⟨by rw [List.getElem?_append_left h.lt];exact h.get,h.out⟩
/-- A node, put behind a heap. -/
def ndS (n:Nd) (F:Fl) (N:Nat):Heap:=(ndH n F).map (renE (N+·))
theorem back_node (X:Heap) (n:Nd) (F:Fl):backK X (some (.ptr 0 0,ndH n F))=some (.ptr X.length 0,X++ndS n F X.length):=by
  unfold ndS ndH
  rw [backK_cons]
  simp [renV]
theorem nodeAt_ndS (X:Heap) (n:Nd) (F:Fl):∃ fs,NodeAt (X++ndS n F X.length) X.length n fs∧∀ i∈fs,X.length≤i:=by
  have hc:=nodeAt_can n F []
  rw [List.append_nil] at hc
  have h:=nodeAt_back (H:=X) (fs:=[]) List.nodup_nil (fun _ q=>absurd q (by simp)) (Nat.zero_le _) hc
  have e:backH X [] (ndH n F)=X++ndS n F X.length:=by
    unfold backH ndS
    have:toGlob [] X.length=(X.length+·):=by funext q;simp [toGlob]
    rw [this];simp [setAll]
  rw [e,show toGlob [] X.length 0=X.length by simp [toGlob]] at h
  refine ⟨_,h,fun i hi=>?_⟩
  obtain ⟨j,-,rfl⟩:=List.mem_map.1 hi
  simp [toGlob]
theorem ext_pre {X:Heap} {n:Nd} {F:Fl} {fs:List Nat} (hfs:∀ i∈fs,X.length≤i) {b:Nat} {e:Entry} (hb:X[b]?=some e):Ext (X++ndS n F X.length) fs b e:=by
  have hlt:=lt_of_get hb
  exact ⟨by rw [List.getElem?_append_left hlt];exact hb,fun q=>by have:=hfs b q;omega⟩
/-- Levels 1, one behind the other. -/
theorem chk_rep_inv {P:Nat→Nd→Bool→Prop} {a:List Bool} {i:Nat} {n m:Nd} (h:n.Inv) (hc:Chk P i n a m):m.Inv:=chk_inv a h hc
end Go.AM.R1
open Go Go.AM Go.Proofs
namespace Go.AM.R1

section
variable {H:Type} {P:Program}
theorem decV_int {n:Nat} {t:TypeId} {ik:IntKind} (hu:P.underlying t=some (.int ik)) {d:DataW H} {a:AVal} (h:DecV P (n+1) t d a) :
    ∃ v,d=.lit (.int ik v)∧(Lit.int ik v).wf=true∧a=.lit (.int ik v):=by
  unfold DecV at h
  rw [if_neg (by simp [isAggT,hu])] at h
  simp only [Dec,hu] at h
  obtain ⟨v,h1,h2,h3⟩:=h
  exact ⟨v,h1,h2,by simpa using h3⟩
theorem all2_forall {α β:Type} {R:α→β→Prop} {Q:β→Prop} (h:∀ a b,R a b→Q b):∀ {l:List α} {m:List β},All2 R l m→∀ b∈m,Q b
  | [],[],_,b,hb=>by cases hb
  | [],_::_,h',_,_=>h'.elim
  | _::_,[],h',_,_=>h'.elim
  | a::r,c::s,h',b,hb=>by
    rcases List.mem_cons.1 hb with rfl | hb
    · exact h _ _ h'.1
    · exact all2_forall h h'.2 b hb
theorem all2_length {α β:Type} {R:α→β→Prop}:∀ {l:List α} {m:List β},All2 R l m→l.length=m.length
  | [],[],_=>rfl
  | [],_::_,h'=>h'.elim
  | _::_,[],h'=>h'.elim
  | a::r,c::s,h'=>by simp [all2_length h'.2]
/-- Rows that are all of a form. -/
theorem rows_map {α:Type} (f:α→List AVal) (Q:α→Prop):∀ {rows:List (List AVal)},(∀ r∈rows,∃x,r=f x∧Q x)→∃ l:List α,rows=l.map f∧∀ x∈l,Q x
  | [],_=>⟨[],rfl,by simp⟩
  | r::s,h=>by
    obtain ⟨x,hx,hq⟩:=h r (by simp)
    obtain ⟨l,hl,hl2⟩:=rows_map f Q (rows:=s) fun y hy=>h y (by simp [hy])
    exact ⟨x::l,by rw [hx,hl];rfl,fun y hy=>by rcases List.mem_cons.1 hy with rfl | hy<;>simp_all⟩

theorem wf64 {v:Int} (h:(Lit.int .i64 v).wf=true):-9223372036854775808≤v∧v≤9223372036854775807:=by
  simpa [Lit.wf,IntKind.min,IntKind.max,IntKind.signed,IntKind.bits] using h
theorem wfu32 {v:Int} (h:(Lit.int .u32 v).wf=true):0≤v∧v≤4294967295:=by
  simpa [Lit.wf,IntKind.min,IntKind.max,IntKind.signed,IntKind.bits] using h

theorem fieldsR_cons {α β:Type} {R:TypeId→α→β→Prop} {f:Field} {fs:List Field}:∀ {l:List α} {m:List β},FieldsR R (f::fs) l m→∃ a r b s,l=a::r∧m=b::s∧R f.type a b∧FieldsR R fs r s
  | [],_,h=>h.elim
  | _::_,[],h=>h.elim
  | a::r,b::s,h=>⟨a,r,b,s,rfl,rfl,h.1,h.2⟩
theorem fieldsR_nil {α β:Type} {R:TypeId→α→β→Prop}:∀ {l:List α} {m:List β},FieldsR R [] l m→l=[]∧m=[]
  | [],[],_=>⟨rfl,rfl⟩
  | [],_::_,h=>h.elim
  | _::_,_,h=>h.elim
theorem decArgs_cons {k:Nat} {t:TypeId} {ts:List TypeId}:∀ {ds:List (DataW H)} {cs:List AVal},DecArgs P k (t::ts) ds cs→∃ d r b s,ds=d::r∧cs=b::s∧DecV P k t d b∧DecArgs P k ts r s
  | [],_,h=>h.elim
  | _::_,[],h=>h.elim
  | d::r,b::s,h=>⟨d,r,b,s,rfl,rfl,h.1,h.2⟩
theorem decArgs_nil {k:Nat}:∀ {ds:List (DataW H)} {cs:List AVal},DecArgs P k [] ds cs→ds=[]∧cs=[]
  | [],[],_=>⟨rfl,rfl⟩
  | [],_::_,h=>h.elim
  | _::_,_,h=>h.elim
structure IsRun (P:Program) (t:TypeId) where
  f1:Field
  f2:Field
  f3:Field
  hu:P.underlying t=some (.struct #[f1,f2,f3])
  h1:P.underlying f1.type=some (.int .i64)
  h2:P.underlying f2.type=some (.int .i64)
  h3:P.underlying f3.type=some (.int .u32)
def Run.Fit (r:Run):Prop:=(-9223372036854775808≤r.N∧r.N≤9223372036854775807)∧(-9223372036854775808≤r.Bus∧r.Bus≤9223372036854775807)∧(0≤r.Drive∧r.Drive≤4294967295)
theorem dec_run {n:Nat} {t:TypeId} (i:IsRun P t) {d:DataW H} {cs:List AVal} (h:Dec P (n+2) t d cs):∃ r:Run,cs=encRun r∧r.Fit:=by
  simp only [Dec,i.hu] at h
  obtain ⟨parts,ass,-,rfl,hf⟩:=h
  obtain ⟨p1,ps1,a1,as1,rfl,rfl,r1,hf⟩:=fieldsR_cons hf
  obtain ⟨p2,ps2,a2,as2,rfl,rfl,r2,hf⟩:=fieldsR_cons hf
  obtain ⟨p3,ps3,a3,as3,rfl,rfl,r3,hf⟩:=fieldsR_cons hf
  obtain ⟨rfl,rfl⟩:=fieldsR_nil hf
  simp only [Dec,i.h1,i.h2,i.h3] at r1 r2 r3
  obtain ⟨v1,-,w1,rfl⟩:=r1
  obtain ⟨v2,-,w2,rfl⟩:=r2
  obtain ⟨v3,-,w3,rfl⟩:=r3
  exact ⟨⟨v1,v2,v3⟩,rfl,wf64 w1,wf64 w2,wfu32 w3⟩
theorem dec_runs {n:Nat} {t e:TypeId} (hu:P.underlying t=some (.slice e)) (i:IsRun P e) {d:DataW H} {a:AVal} (h:DecV P (n+3) t d a) :
    ∃ (nl fu:Bool) (l:List Run),a=.imm nl fu true (l.map encRun)∧∀ r∈l,r.Fit:=by
  unfold DecV at h
  rw [if_neg (by simp [isAggT,hu])] at h
  rw [Dec,hu] at h
  rcases h with ⟨-,h⟩ | ⟨elems,spare,rows,-,h,h2,h3⟩
  · exact ⟨true,true,[],by simpa [nilS] using h,by simp⟩
  · obtain ⟨l,rfl,hl⟩:=rows_map encRun Run.Fit (all2_forall (Q:=fun b=>∃ r:Run,b=encRun r∧r.Fit) (fun a b hab=>dec_run i hab) h2)
    exact ⟨false,false,l,by simpa using h,hl⟩
theorem all2_flat {α:Type} (f:α→List AVal) (Q:α→Prop) {R:DataW H→List AVal→Prop} (h:∀ d a,R d a→∃ x,a=f x∧Q x) :
    ∀ {ds:List (DataW H)} {ass:List (List AVal)},All2 R ds ass→∃ l:List α,l.length=ds.length∧ass=l.map f∧∀ x∈l,Q x
  | [],[],_=>⟨[],rfl,rfl,by simp⟩
  | [],_::_,h'=>h'.elim
  | _::_,[],h'=>h'.elim
  | d::ds,a::ass,h'=>by
    obtain ⟨x,hx,hq⟩:=h _ _ h'.1
    obtain ⟨l,h1,h2,h3⟩:=all2_flat f Q h h'.2
    exact ⟨x::l,by simp [h1],by rw [hx,h2];rfl,fun y hy=>by rcases List.mem_cons.1 hy with rfl | hy<;>simp_all⟩
theorem decV_ints {n m:Nat} {t e:TypeId} {ik:IntKind} (hu:P.underlying t=some (.array m e)) (he:P.underlying e=some (.int ik)) {d:DataW H} {a:AVal} (h:DecV P (n+2) t d a) :
    ∃ l:List Int,l.length=m∧a=.agg (l.map fun v=>.lit (.int ik v))∧∀ v∈l,(Lit.int ik v).wf=true:=by
  unfold DecV at h
  rw [if_pos (by simp [isAggT,hu])] at h
  obtain ⟨cs,rfl,h⟩:=h
  rw [Dec,hu] at h
  obtain ⟨parts,ass,-,rfl,hm,h2⟩:=h
  obtain ⟨l,h3,rfl,h5⟩:=all2_flat (fun v=>[AVal.lit (.int ik v)]) (fun v=>(Lit.int ik v).wf=true) (fun d a hda=>by
    simp only [Dec,he] at hda
    obtain ⟨v,-,hw,rfl⟩:=hda
    exact ⟨v,rfl,hw⟩) h2
  refine ⟨l,by omega,?_,h5⟩
  congr 1
  clear h5 h3 h2
  induction l with
  | nil=>rfl
  | cons x r ih=>simp [ih]
end
end Go.AM.R1
open Go Go.AM Go.Proofs
namespace Go.AM.R1
section
variable {H:Type} {P:Program}
end
end Go.AM.R1
open Go Go.AM
namespace Go.AM.R1

/-! ### Scripts -/
end Go.AM.R1
open Go Go.AM Go.Proofs
namespace Go.AM.R1
section
variable {H:Type} {P:Program}
structure Scr where
  node:Int
  first:Int
  runs:List Run
  nl:Bool
  fu:Bool
def Scr.Fit (s:Scr):Prop:=(-9223372036854775808≤s.node∧s.node≤9223372036854775807)∧(-9223372036854775808≤s.first∧s.first≤9223372036854775807)∧∀ r∈s.runs,r.Fit
end
end Go.AM.R1
open Go Go.AM Go.Proofs
namespace Go.AM.R1
section
variable {H:Type} {P:Program}
/-- A row of runs, as it is handed over. -/
structure RowV where
  nl:Bool
  fu:Bool
  l:List Run
def RowV.Fit (r:RowV):Prop:=(∀ x∈r.l,x.Fit)∧r.l.length≤9223372036854775807
end
end Go.AM.R1
open Go Go.AM Go.Proofs
namespace Go.AM.R1
section
variable {H:Type} {P:Program}
end
end Go.AM.R1
open Go Go.AM Go.Proofs
namespace Go.AM.R1
section
variable {H:Type} {P:Program}
/-- The types of a frame. -/
structure IsFr (P:Program) (t:TypeId) (f1 f2 f3 f4 f5:Field) (e:TypeId):Prop where
  hs:P.underlying t=some (.struct #[f1,f2,f3,f4,f5])
  h1:P.underlying f1.type=some (.int .i64)
  h2:P.underlying f2.type=some .bool
  h3:P.underlying f3.type=some .bool
  h4:P.underlying f4.type=some (.int .i64)
  h5:P.underlying f5.type=some (.array 8 e)
  he:P.underlying e=some (.int .u8)
theorem wfu8 {v:Int} (h:(Lit.int .u8 v).wf=true):0≤v∧v≤255:=by
  simpa [Lit.wf,IntKind.min,IntKind.max,IntKind.signed,IntKind.bits] using h
theorem dec_frame {n:Nat} {t e:TypeId} {f1 f2 f3 f4 f5:Field} (i:IsFr P t f1 f2 f3 f4 f5 e) {d:DataW H} {cs:List AVal} (h:Dec P (n+3) t d cs):∃ f:Fr,cs=encFr f∧f.Ok:=by
  rw [Dec,i.hs] at h
  obtain ⟨parts,ass,-,rfl,hf⟩:=h
  obtain ⟨p1,ps1,a1,as1,rfl,rfl,r1,hf⟩:=fieldsR_cons hf
  obtain ⟨p2,ps2,a2,as2,rfl,rfl,r2,hf⟩:=fieldsR_cons hf
  obtain ⟨p3,ps3,a3,as3,rfl,rfl,r3,hf⟩:=fieldsR_cons hf
  obtain ⟨p4,ps4,a4,as4,rfl,rfl,r4,hf⟩:=fieldsR_cons hf
  obtain ⟨p5,ps5,a5,as5,rfl,rfl,r5,hf⟩:=fieldsR_cons hf
  obtain ⟨rfl,rfl⟩:=fieldsR_nil hf
  simp only [Dec,i.h1] at r1
  simp only [Dec,i.h2] at r2
  simp only [Dec,i.h3] at r3
  simp only [Dec,i.h4] at r4
  rw [Dec,i.h5] at r5
  obtain ⟨v1,-,w1,rfl⟩:=r1
  obtain ⟨b2,-,rfl⟩:=r2
  obtain ⟨b3,-,rfl⟩:=r3
  obtain ⟨v4,-,w4,rfl⟩:=r4
  obtain ⟨pp,aa,-,rfl,hm,h2⟩:=r5
  obtain ⟨l,hl,rfl,hw⟩:=all2_flat (fun v=>[AVal.lit (.int .u8 v)]) (fun v=>(Lit.int .u8 v).wf=true) (fun d a hda=>by
    simp only [Dec,i.he] at hda
    obtain ⟨v,-,hw,rfl⟩:=hda
    exact ⟨v,rfl,hw⟩) h2
  rw [hm] at hl
  match l,hl,hw with
  | [x0,x1,x2,x3,x4,x5,x6,x7],_,hw =>
    have y0:=wfu8 (hw x0 (by simp))
    have y1:=wfu8 (hw x1 (by simp))
    have y2:=wfu8 (hw x2 (by simp))
    have y3:=wfu8 (hw x3 (by simp))
    have y4:=wfu8 (hw x4 (by simp))
    have y5:=wfu8 (hw x5 (by simp))
    have y6:=wfu8 (hw x6 (by simp))
    have y7:=wfu8 (hw x7 (by simp))
    refine ⟨⟨v1,b2,b3,v4,x0.toNat,x1.toNat,x2.toNat,x3.toNat,x4.toNat,x5.toNat,x6.toNat,x7.toNat⟩,?_,⟨(wf64 w1).1,(wf64 w1).2,(wf64 w4).1,(wf64 w4).2,?_⟩⟩
    · have e:∀ v:Int,0≤v∧v≤255→u8v v.toNat=.lit (.int .u8 v):=fun v hv=>by unfold u8v;rw [show ((v.toNat:Nat):Int)=v from by omega]
      simp only [encFr,e x0 y0,e x1 y1,e x2 y2,e x3 y3,e x4 y4,e x5 y5,e x6 y6,e x7 y7]
      rfl
    · intro c hc
      simp only [Fr.bytes,List.mem_cons,List.not_mem_nil,or_false] at hc
      omega
theorem decV_frame {n:Nat} {t e:TypeId} {f1 f2 f3 f4 f5:Field} (i:IsFr P t f1 f2 f3 f4 f5 e) {d:DataW H} {a:AVal} (h:DecV P (n+3) t d a):∃ f:Fr,a=.agg (encFr f)∧f.Ok:=by
  unfold DecV at h
  rw [if_pos (by simp [isAggT,i.hs])] at h
  obtain ⟨cs,rfl,h⟩:=h
  obtain ⟨f,rfl,hf⟩:=dec_frame i h
  exact ⟨f,rfl,hf⟩
/-- A row of frames. -/
theorem decV_frames {n:Nat} {s t e:TypeId} {f1 f2 f3 f4 f5:Field} (hu:P.underlying s=some (.slice t)) (i:IsFr P t f1 f2 f3 f4 f5 e) {d:DataW H} {a:AVal} (h:DecV P (n+4) s d a) :
    ∃ (nl fu:Bool) (l:List Fr),a=.imm nl fu true (l.map encFr)∧(∀ f∈l,f.Ok)∧l.length≤9223372036854775807:=by
  unfold DecV at h
  rw [if_neg (by simp [isAggT,hu])] at h
  rw [Dec,hu] at h
  rcases h with ⟨-,h⟩ | ⟨elems,spare,rows,-,h,h2,h3⟩
  · exact ⟨true,true,[],by simpa [nilS] using h,by simp,by simp⟩
  · obtain ⟨l,rfl,hl⟩:=rows_map encFr Fr.Ok (all2_forall (Q:=fun b=>∃ r:Fr,b=encFr r∧r.Ok) (fun a b hab=>dec_frame i hab) h2)
    exact ⟨false,false,l,by simpa using h,hl,by simpa [maxLen] using h3⟩
/-- A row of numbers. -/
theorem dec_nums {n:Nat} {t e:TypeId} (hu:P.underlying t=some (.slice e)) (he:P.underlying e=some (.int .i64)) {d:DataW H} {cs:List AVal} (h:Dec P (n+2) t d cs) :
    ∃ (nl fu:Bool) (l:List Int),cs=[.imm nl fu true (l.map encI)]∧(∀ x∈l,-9223372036854775808≤x∧x≤9223372036854775807)∧l.length≤9223372036854775807:=by
  rw [Dec,hu] at h
  rcases h with ⟨-,h⟩ | ⟨elems,spare,rows,-,h,h2,h3⟩
  · exact ⟨true,true,[],by simpa [nilS] using h,by simp,by simp⟩
  · obtain ⟨l,rfl,hl⟩:=rows_map encI (fun x=>-9223372036854775808≤x∧x≤9223372036854775807) (all2_forall (Q:=fun b=>∃ x:Int,b=encI x∧(-9223372036854775808≤x∧x≤9223372036854775807)) (fun a b hab=>by
      simp only [Dec,he] at hab
      obtain ⟨v,-,hw,rfl⟩:=hab
      exact ⟨v,rfl,wf64 hw⟩) h2)
    exact ⟨false,false,l,h,hl,by simpa [maxLen] using h3⟩
theorem decV_nums {n:Nat} {t e:TypeId} (hu:P.underlying t=some (.slice e)) (he:P.underlying e=some (.int .i64)) {d:DataW H} {a:AVal} (h:DecV P (n+2) t d a) :
    ∃ (nl fu:Bool) (l:List Int),a=.imm nl fu true (l.map encI)∧(∀ x∈l,-9223372036854775808≤x∧x≤9223372036854775807)∧l.length≤9223372036854775807:=by
  unfold DecV at h
  rw [if_neg (by simp [isAggT,hu])] at h
  obtain ⟨nl,fu,l,h1,h2⟩:=dec_nums hu he h
  exact ⟨nl,fu,l,by simpa using h1,h2⟩
end
end Go.AM.R1
set_option linter.unusedVariables false
set_option linter.unusedSimpArgs false
namespace Go.AM.R1
open Go Go.AM Go.Proofs Go.Lib

/-- A row with others put over its cells. -/
def lay (c:Array Value) (o:Nat) (xs:List Value):Array Value:=(c.toList.take o++xs++c.toList.drop (o+xs.length)).toArray

theorem lay_size {c:Array Value} {o:Nat} {xs:List Value} (h:o+xs.length≤c.size):(lay c o xs).size=c.size:=by
  simp [lay];omega

theorem run_copyK {P:Program} (w:World) {dT sT ty e:TypeId} {sz:Nat} (hu:P.underlying dT=some (.slice e)) (hsz:∀ w,(sizeOf e).run P w=.ok sz w) (b:Nat) (c:Array Value) (t:TypeId) (hb:w.heap[b]?=some (.cells c t (0,0)))
    (o dLen dCap:Nat) (sa:Addr) (sLen sCap:Nat) (xs:List Value) (hxl:xs.length=min sLen dLen * sz) (hx1:∀ v∈xs,v.oneCell'=true) (hxc:∀ j v,xs[j]?=some v→w.cell? (sa.add j)=some v) (hfit:o+xs.length≤c.size) :
    (Builtin.copy_ #[dT,sT] ty #[.slice (some ⟨b,o,none⟩) dLen dCap,.slice (some sa) sLen sCap]).run P w=.ok (goInt ((min sLen dLen:Nat):Int)) (w.setRow b (lay c o xs)):=by
  have hf:(Builtin.firstCells sz (Nat.min sLen dLen) (.slice (some sa) sLen sCap)).run P w=.ok xs.toArray w:=by
    simp only [Builtin.firstCells]
    have:Nat.min sLen dLen * sz=xs.length:=hxl.symm
    rw [this]
    exact run_loadCells_list w sa xs hxc
  have hst:=run_storeCells_at (P:=P) b o t xs 0 c w hb (by omega) hx1
  have hst':(storeCells ⟨b,o,none⟩ xs).run P w=.ok () (w.setRow b (lay c o xs)):=by simpa [lay] using hst
  simp only [Builtin.copy_,List.getElem?_toArray,List.getElem?_cons_zero,List.getElem?_cons_succ,Sem.run_bind,run_underlying hu,Result.andThen_ok,Builtin.lenOf,Sem.run_pure,hsz,hf,hst',goInt]


set_option maxHeartbeats 4000000 in
set_option maxRecDepth 100000 in
theorem ins_shift (w:World) (b vb n cap vcap p:Nat) (c vc:Array Value) (t vt:TypeId) (hb:w.heap[b]?=some (.cells c t (0,0))) (hvb:w.heap[vb]?=some (.cells vc vt (0,0))) (hne:vb≠b)
    (hroom:n+1≤cap) (hcs:cap * 12≤c.size) (hvs:12≤vc.size) (h1c:∀ v∈c.toList,v.oneCell'=true) (h1v:∀ v∈vc.toList,v.oneCell'=true) (hp:p<n) (h46:(n+1) * 32≤70368744177664) (h1:1≤vcap) :
    Calls Tryz.prog 93 #[.slice (some ⟨b,0,none⟩) n cap,.int .i64 p,.slice (some ⟨vb,0,none⟩) 1 vcap] w fun r w' =>
      r=.returned (.slice (some ⟨b,0,none⟩) (n+1) cap)∧w'=(w.drew.setRow b (lay c ((p+1) * 12) ((c.toList.take (n * 12)).drop (p * 12)))).setRow b (lay (lay c ((p+1) * 12) ((c.toList.take (n * 12)).drop (p * 12))) (p * 12) (vc.toList.take 12)):=by
  have hz2:¬ ((p:Int)=(n:Int)):=by omega
  have hw0:IntKind.i64.wrap ((n:Int)+1)=(n:Int)+1:=by rw [IntKind.wrap_i64];omega
  have hw1:IntKind.i64.wrap ((p:Int)+1)=(p:Int)+1:=by rw [IntKind.wrap_i64];omega
  have hb1:(0:Int)≤(p:Int)+1:=by omega
  have hin:p≤n:=by omega
  have hpc:p≤cap:=by omega
  have htn:((p:Int)+1).toNat=p+1:=by omega
  have hb2:¬ (cap=p+1):=by omega
  have hb3:(p:Int)≤(n:Int):=by omega
  have hb4:¬ (cap=p):=by omega
  have hb5:¬ ((cap:Int)<(n:Int)+1):=by omega
  have hb6:(p:Int)+1≤(n:Int)+1:=by omega
  have hsa:w.shape? vb=some (vt,vc.size):=by simp [World.shape?,hvb]
  have hsb:w.shape? b=some (t,c.size):=by simp [World.shape?,hb]
  have hfr:∀ o,w.frozen? ⟨vb,o,none⟩=false:=fun o=>by simp [World.frozen?,hvb]
  have hov:∀ off lb cb,(callFunc 109 #[.slice (some ⟨vb,0,none⟩) 1 vcap,.slice (some ⟨b,off,none⟩) lb cb]).run Tryz.prog w=.ok (.value (.bool false)) w:=fun off lb cb=>by
    rw [run_callFunc_extern Tryz.func109 (by kernel_rfl) (by kernel_rfl) (by kernel_rfl) (e:=Extern.SlicesOverlaps.overlaps #[22,22] #[4]) (by kernel_rfl),
      Lib.run_overlaps_apart w 22 4 32 Tryz.underlying22 12 Tryz.sizeOf32 ⟨vb,0,none⟩ ⟨b,off,none⟩ 1 vcap lb cb hne vt t vc.size c.size hsa hsb (by omega) (hfr _) (hfr _)]
    rfl
  have hbd:w.drew.heap[b]?=some (.cells c t (0,0)):=hb
  have hnc:n * 12≤c.size:=by omega
  have hxl:((c.toList.take (n * 12)).drop (p * 12)).length=(n - p) * 12:=by simp;omega
  have hm1:min (n+1 - p) (n - p)=n - p:=by omega
  have hcp1:∀ ty dc sc,(Builtin.copy_ #[22,22] ty #[.slice (some ⟨b,(p+1) * 12,none⟩) (n - p) dc,.slice (some ⟨b,p * 12,none⟩) (n+1 - p) sc]).run Tryz.prog w.drew =
      .ok (goInt ((n - p:Nat):Int)) (w.drew.setRow b (lay c ((p+1) * 12) ((c.toList.take (n * 12)).drop (p * 12)))):=fun ty dc sc=>by
    have:=run_copyK (P:=Tryz.prog) (sT:=22) (ty:=ty) w.drew Tryz.underlying22 Tryz.sizeOf32 b c t hbd ((p+1) * 12) (n - p) dc ⟨b,p * 12,none⟩ (n+1 - p) sc ((c.toList.take (n * 12)).drop (p * 12))
      (by rw [hxl,hm1]) (fun v hv=>h1c v (List.mem_of_mem_take (List.mem_of_mem_drop hv))) (fun j v hj=>by
        rw [List.getElem?_drop,List.getElem?_take] at hj
        split at hj
        · rw [addr_add,cell_of_heap hbd];exact hj
        · cases hj) (by rw [hxl];omega)
    rw [hm1] at this
    exact this
  obtain ⟨S1,hS1⟩:∃ S1,S1=lay c ((p+1) * 12) ((c.toList.take (n * 12)).drop (p * 12)):=⟨_,rfl⟩
  obtain ⟨S2,hS2⟩:∃ S2,S2=lay S1 (p * 12) (vc.toList.take 12):=⟨_,rfl⟩
  rw [← hS1] at hcp1 ⊢
  rw [← hS2]
  have hSs:S1.size=c.size:=by rw [hS1];exact lay_size (by rw [hxl];omega)
  have hvl:(vc.toList.take 12).length=12:=by simp;omega
  have hcp2:∀ (W:World),W.heap=(w.drew.setRow b S1).heap→∀ ty dc,(Builtin.copy_ #[22,22] ty #[.slice (some ⟨b,p * 12,none⟩) (n+1 - p) dc,.slice (some ⟨vb,0,none⟩) 1 vcap]).run Tryz.prog W =
      .ok (goInt 1) (W.setRow b S2):=fun W hW ty dc=>by
    have hbW:W.heap[b]?=some (.cells S1 t (0,0)):=by rw [hW];exact setRow_heap _ _ _ _ _ _ hbd
    have hvW:W.heap[vb]?=some (.cells vc vt (0,0)):=by rw [hW,setRow_other _ _ _ _ hne];exact hvb
    have:=run_copyK (P:=Tryz.prog) (sT:=22) (ty:=ty) W Tryz.underlying22 Tryz.sizeOf32 b S1 t hbW (p * 12) (n+1 - p) dc ⟨vb,0,none⟩ 1 vcap (vc.toList.take 12)
      (by rw [hvl,Nat.min_eq_left (by omega)]) (fun v hv=>h1v v (List.mem_of_mem_take hv)) (fun j v hj=>by
        rw [List.getElem?_take] at hj
        split at hj
        · rw [addr_add,cell_of_heap hvW,Nat.zero_add];exact hj
        · cases hj) (by rw [hvl,hSs];omega)
    rw [Nat.min_eq_left (by omega),← hS2] at this
    exact this
  clear hxl hm1 hvl hSs hbd
  have mixed:Tryz.prog.follows .mixedOrders=true:=by kernel_rfl
  have hb7:(p:Int)≤(n:Int)+1:=by omega
  go_enter Tryz.func93,Tryz.ntmps93
  go_wp2_with (simp only [hov])
  go_region_law_o (refine step_copy_runI rfl _ _ 22 22 rfl _ _ (by simp [Act.eval,Act.put]) (by simp [Act.eval,Act.put]) (hcp1 _ _ _) ?_)
  go_wp2_with (at_builtin;refine wpList_copy_runI _ rfl _ _ 22 22 rfl _ _ rfl rfl (hcp2 _ rfl _ _) ?_)
  go_ret
  exact ⟨rfl,by rw [hS2,hS1]⟩

set_option maxHeartbeats 4000000 in
set_option maxRecDepth 100000 in
/-- At the end. -/
theorem ins_end (w:World) (base:Option Addr) (n cap vb vcap:Nat) (v':Value) (w1:World) (h46:(n+1) * 32≤70368744177664)
    (hnc:n≤cap) (hrun:∀ ty,(Builtin.append_ #[22,22] ty #[.slice base n cap,.slice (some ⟨vb,0,none⟩) 1 vcap]).run Tryz.prog w=.ok v' w1) :
    Calls Tryz.prog 93 #[.slice base n cap,.int .i64 n,.slice (some ⟨vb,0,none⟩) 1 vcap] w fun r w'=>r=.returned v'∧w'=w1:=by
  go_enter Tryz.func93,Tryz.ntmps93
  cases base with
  | none =>
    go_wp2_with (at_builtin;refine Lib.wpList_append_run _ rfl _ _ _ _ rfl _ _ rfl rfl _ _ (hrun _) ?_)
    all_goals (go_ret;exact ⟨rfl,rfl⟩)
  | some a =>
    obtain ⟨ab,ao,asp⟩:=a
    go_wp2_with (at_builtin;refine Lib.wpList_append_run _ rfl _ _ _ _ rfl _ _ rfl rfl _ _ (hrun _) ?_)
    all_goals (go_ret;exact ⟨rfl,rfl⟩)

set_option maxHeartbeats 4000000 in
set_option maxRecDepth 100000 in
/-- In the midst, without room. -/
theorem ins_grow (w:World) (b vb n vcap p:Nat) (c vc:Array Value) (t vt:TypeId) (hb:w.heap[b]?=some (.cells c t (0,0))) (hvb:w.heap[vb]?=some (.cells vc vt (0,0)))
    (hcs:n * 12≤c.size) (hvs:12≤vc.size) (h1c:∀ v∈c.toList,v.oneCell'=true) (h1v:∀ v∈vc.toList,v.oneCell'=true) (hp:p<n) (h46:(n+1) * 32≤70368744177664) (h1:1≤vcap)
    (G:Nat) (R:Array Value) (t2:TypeId) (w1:World) (hG:n+1≤G) (hR:G * 12≤R.size) (hw1:w1.heap=w.heap.push (.cells R t2 (0,0)))
    (hrz:∀ ty,(Builtin.append_ #[22,3] ty #[.slice (some ⟨b,0,none⟩) p n,.int .i64 ((n:Int)+1 - (p:Int))]).run Tryz.prog w=.ok (.slice (some ⟨w.heap.size,0,none⟩) (n+1) G) w1) :
    Calls Tryz.prog 93 #[.slice (some ⟨b,0,none⟩) n n,.int .i64 p,.slice (some ⟨vb,0,none⟩) 1 vcap] w fun r w' =>
      r=.returned (.slice (some ⟨w.heap.size,0,none⟩) (n+1) G)∧w'=((w1.setRow w.heap.size (lay R (p * 12) (vc.toList.take 12))).drew.setRow w.heap.size (lay (lay R (p * 12) (vc.toList.take 12)) ((p+1) * 12) ((c.toList.take (n * 12)).drop (p * 12)))):=by
  have hz2:¬ ((p:Int)=(n:Int)):=by omega
  have hw0:IntKind.i64.wrap ((n:Int)+1)=(n:Int)+1:=by rw [IntKind.wrap_i64];omega
  have hw1':IntKind.i64.wrap ((p:Int)+1)=(p:Int)+1:=by rw [IntKind.wrap_i64];omega
  have hw2:IntKind.i64.wrap ((n:Int)+1 - (p:Int))=(n:Int)+1 - (p:Int):=by rw [IntKind.wrap_i64];omega
  have hb1:(0:Int)≤(p:Int)+1:=by omega
  have hin:p≤n:=by omega
  have htn:((p:Int)+1).toNat=p+1:=by omega
  have hb2:¬ (G=p+1):=by omega
  have hb2':¬ (G=p):=by omega
  have hb3:(p:Int)≤(n:Int):=by omega
  have hb4:¬ (n=p):=by omega
  have hb6:(p:Int)+1≤(n:Int)+1:=by omega
  have hb7:(p:Int)≤(n:Int)+1:=by omega
  have mixed:Tryz.prog.follows .mixedOrders=true:=by kernel_rfl
  obtain ⟨S1,hS1⟩:∃ S1,lay R (p * 12) (vc.toList.take 12)=S1:=⟨_,rfl⟩
  obtain ⟨S2,hS2⟩:∃ S2,lay S1 ((p+1) * 12) ((c.toList.take (n * 12)).drop (p * 12))=S2:=⟨_,rfl⟩
  rw [hS1,hS2]
  have hbl:b<w.heap.size:=(Array.getElem?_eq_some_iff.1 hb).1
  have hvl2:vb<w.heap.size:=(Array.getElem?_eq_some_iff.1 hvb).1
  have hvl:(vc.toList.take 12).length=12:=by simp;omega
  have hxl:((c.toList.take (n * 12)).drop (p * 12)).length=(n - p) * 12:=by simp;omega
  have hSs:S1.size=R.size:=by rw [← hS1];exact lay_size (by rw [hvl];omega)
  have hbR:w1.heap[w.heap.size]?=some (.cells R t2 (0,0)):=by rw [hw1];simp
  have hbv:w1.heap[vb]?=some (.cells vc vt (0,0)):=by rw [hw1,Array.getElem?_push,if_neg (by omega)];exact hvb
  have hbb:w1.heap[b]?=some (.cells c t (0,0)):=by rw [hw1,Array.getElem?_push,if_neg (by omega)];exact hb
  have hcp1:∀ ty dc,(Builtin.copy_ #[22,22] ty #[.slice (some ⟨w.heap.size,p * 12,none⟩) (n+1 - p) dc,.slice (some ⟨vb,0,none⟩) 1 vcap]).run Tryz.prog w1 =
      .ok (goInt 1) (w1.setRow w.heap.size S1):=fun ty dc=>by
    have:=run_copyK (P:=Tryz.prog) (sT:=22) (ty:=ty) w1 Tryz.underlying22 Tryz.sizeOf32 w.heap.size R t2 hbR (p * 12) (n+1 - p) dc ⟨vb,0,none⟩ 1 vcap (vc.toList.take 12)
      (by rw [hvl,Nat.min_eq_left (by omega)]) (fun v hv=>h1v v (List.mem_of_mem_take hv)) (fun j v hj=>by
        rw [List.getElem?_take] at hj
        split at hj
        · rw [addr_add,cell_of_heap hbv,Nat.zero_add];exact hj
        · cases hj) (by rw [hvl];omega)
    rw [Nat.min_eq_left (by omega),hS1] at this
    exact this
  have hm1:min (n - p) (n - p)=n - p:=by omega
  have hcp2:∀ ty dc sc,(Builtin.copy_ #[22,22] ty #[.slice (some ⟨w.heap.size,(p+1) * 12,none⟩) (n - p) dc,.slice (some ⟨b,p * 12,none⟩) (n - p) sc]).run Tryz.prog (w1.setRow w.heap.size S1).drew =
      .ok (goInt ((n - p:Nat):Int)) ((w1.setRow w.heap.size S1).drew.setRow w.heap.size S2):=fun ty dc sc=>by
    have hb1:(w1.setRow w.heap.size S1).drew.heap[w.heap.size]?=some (.cells S1 t2 (0,0)):=setRow_heap _ _ _ _ _ _ hbR
    have hb2:(w1.setRow w.heap.size S1).drew.heap[b]?=some (.cells c t (0,0)):=(setRow_other _ _ _ _ (by omega)).trans hbb
    have:=run_copyK (P:=Tryz.prog) (sT:=22) (ty:=ty) (w1.setRow w.heap.size S1).drew Tryz.underlying22 Tryz.sizeOf32 w.heap.size S1 t2 hb1 ((p+1) * 12) (n - p) dc ⟨b,p * 12,none⟩ (n - p) sc ((c.toList.take (n * 12)).drop (p * 12))
      (by rw [hxl,hm1]) (fun v hv=>h1c v (List.mem_of_mem_take (List.mem_of_mem_drop hv))) (fun j v hj=>by
        rw [List.getElem?_drop,List.getElem?_take] at hj
        split at hj
        · rw [addr_add,cell_of_heap hb2];exact hj
        · cases hj) (by rw [hxl,hSs];omega)
    rw [hm1,hS2] at this
    exact this
  clear hxl hm1 hvl hSs hbR hbv hbb hS1 hS2
  go_enter Tryz.func93,Tryz.ntmps93
  go_wp2_with (first
    | (at_builtin;refine Lib.wpList_append_run _ rfl _ _ _ _ rfl _ _ rfl rfl _ _ (hrz _) ?_)
    | (at_builtin;refine wpList_copy_runI _ rfl _ _ 22 22 rfl _ _ rfl rfl (hcp1 _ _) ?_))
  go_region_law_o (refine step_copy_runI rfl _ _ 22 22 rfl _ _ (by simp [Act.eval,Act.put]) (by simp [Act.eval,Act.put]) (hcp2 _ _ _) ?_)
  go_wp2
  go_ret
  exact ⟨rfl,rfl⟩

theorem step_app_run {P:Program} {ops:Array Oper} {o:Oper} {a:Act} {w:World} {K:Act→World→Prop} {Q:Exit→Act→World→Prop} {E:Prop}
    (hg:o.guard=none) (d x:Operand) (dT sT:TypeId) (hop:o.op=Op.call { callee:=Callee.builtin Builtin.append,args:=#[d,x],argTypes:=#[dT,sT] })
    (v u:Value) (hd:a.eval d=v) (hx:a.eval x=u) {v':Value} {w':World} (hr:(Builtin.append_ #[dT,sT] o.type #[v,u]).run P w=.ok v' w') (hK:K (a.put o.dst v') w') :
    if Region.wanted o (yielded ops a.tmps)=true then Oper.wp P o a w K Q else E:=by
  rw [if_pos (by simp [Region.wanted,hg])]
  unfold Oper.wp
  simp [execOp,hop,resolve,invoke,builtin,hd,hx,hr,Result.andThen]
  exact hK

theorem run_clearK {P:Program} (w:World) {t ty e:TypeId} {z:Value} {sz:Nat} (ht:P.underlying t=some (.slice e)) (hv:∀ w,(zeroValue e).run P w=.ok z w) (hz:z.cells.size=sz) (h0:0<sz) (h1:∀ v∈z.cells.toList,v.oneCell'=true)
    (b:Nat) (c:Array Value) (tc:TypeId) (hb:w.heap[b]?=some (.cells c tc (0,0))) (o n cp:Nat) (hn:0<n) (hfit:o+n * sz≤c.size) :
    (Builtin.clear_ #[t] ty #[.slice (some ⟨b,o,none⟩) n cp]).run P w=.ok (.tuple #[]) (w.setRow b (lay c o (Builtin.zeroCells z.cells n).toList)):=by
  have hl:(Builtin.zeroCells z.cells n).toList.length=n * sz:=by simp [size_zeroCells,hz]
  have hst:=run_storeCells_at (P:=P) b o tc (Builtin.zeroCells z.cells n).toList 0 c w hb (by omega) (zeroCells_ok h1 (by omega))
  have hst':(storeCells ⟨b,o,none⟩ (Builtin.zeroCells z.cells n).toList).run P w=.ok () (w.setRow b (lay c o (Builtin.zeroCells z.cells n).toList)):=by simpa [lay] using hst
  obtain ⟨m,rfl⟩:∃ m,n=m+1:=⟨n - 1,by omega⟩
  simp [Builtin.clear_,run_underlying ht,hv,hst']

set_option maxHeartbeats 4000000 in
set_option maxRecDepth 100000 in
theorem del_run (w:World) (b n cap p q:Nat) (c:Array Value) (t:TypeId) (hb:w.heap[b]?=some (.cells c t (0,0))) (hnc:n≤cap) (hcs:cap * 12≤c.size) (h1c:∀ v∈c.toList,v.oneCell'=true) (hpq:p<q) (hq:q≤n) :
    Calls Tryz.prog 123 #[.slice (some ⟨b,0,none⟩) n cap,.int .i64 p,.int .i64 q] w fun r w' =>
      r = .returned (.slice (some ⟨b,0,none⟩) (n - (q - p)) cap)∧∃ zs:List Value,zs.length=(q - p) * 12∧(∀ v∈zs,v.oneCell'=true) ∧
        w'=(w.drew.setRow b (lay c (p * 12) ((c.toList.take (n * 12)).drop (q * 12)))).setRow b (lay (lay c (p * 12) ((c.toList.take (n * 12)).drop (q * 12))) ((p+(n - q)) * 12) zs):=by
  have hne:¬ ((p:Int)=(q:Int)):=by omega
  have hnn:n - (q - p)=p+(n - q):=by omega
  rw [hnn]
  have mixed:Tryz.prog.follows .mixedOrders=true:=by kernel_rfl
  obtain ⟨z,hv,hz,h1z⟩:∃ z:Value,(∀ w,(zeroValue 32).run Tryz.prog w=.ok z w)∧z.cells.size=12∧∀ v∈z.cells.toList,v.oneCell'=true:=⟨_,Tryz.zeroValue32,rfl,by simp [Value.cells,Value.oneCell']⟩
  have hxl:((c.toList.take (n * 12)).drop (q * 12)).length=(n - q) * 12:=by simp;omega
  have hn12:n * 12≤c.size:=by omega
  have hbd:w.drew.heap[b]?=some (.cells c t (0,0)):=hb
  obtain ⟨A,hA⟩:∃ A:Addr,(if cap=q then (some ⟨b,0,none⟩:Option Addr) else some ⟨b,q * 12,none⟩)=some A:=by
    split
    · exact ⟨_,rfl⟩
    · exact ⟨_,rfl⟩
  have hAc:∀ j v,((c.toList.take (n * 12)).drop (q * 12))[j]?=some v→w.drew.cell? (A.add j)=some v:=fun j v hj=>by
    have hjl:=(List.getElem?_eq_some_iff.1 hj).1
    rw [hxl] at hjl
    split at hA
    · omega
    · cases hA
      rw [List.getElem?_drop,List.getElem?_take] at hj
      split at hj
      · rw [addr_add,cell_of_heap hbd];exact hj
      · cases hj
  obtain ⟨i,hi⟩:∃ i,Tryz.prog.info? 32=some i:=⟨_,rfl⟩
  have his:i.size=12:=by
    have:(Tryz.prog.info? 32).map (·.size)=some 12:=by kernel_rfl
    rw [hi] at this;simpa using this
  have hap:∀ ty,(Builtin.append_ #[22,22] ty #[.slice (some ⟨b,0,none⟩) p cap,.slice (some A) (n - q) (cap - q)]).run Tryz.prog w.drew=.ok (.slice (some ⟨b,0,none⟩) (p+(n - q)) cap) (w.drew.setRow b (lay c (p * 12) ((c.toList.take (n * 12)).drop (q * 12)))):=fun ty=>by
    have h1:=run_append_in (P:=Tryz.prog) (ty:=ty) (xt:=22) w.drew Tryz.underlying22 hi Tryz.underlying22 (fun k e=>by cases e) (base:=some ⟨b,0,none⟩) (sLen:=p) (sCap:=cap) (n:=n - q) (x:=.slice (some A) (n - q) (cap - q)) (news:=((c.toList.take (n * 12)).drop (q * 12)).toArray)
      rfl (by
        simp only [Builtin.firstCells,his]
        rw [← hxl]
        exact run_loadCells_list w.drew A _ hAc) (by omega)
    have hst:=run_storeCells_at (P:=Tryz.prog) b (p * 12) t ((c.toList.take (n * 12)).drop (q * 12)) 0 c w.drew hbd (by rw [hxl];omega) (fun v hv=>h1c v (List.mem_of_mem_take (List.mem_of_mem_drop hv)))
    have hst':(storeCells ⟨b,p * 12,none⟩ ((c.toList.take (n * 12)).drop (q * 12))).run Tryz.prog w.drew=.ok () (w.drew.setRow b (lay c (p * 12) ((c.toList.take (n * 12)).drop (q * 12)))):=by simpa [lay] using hst
    rw [h1]
    simp only [his,addr_add,Nat.zero_add]
    rw [hst'];rfl
  obtain ⟨S1,hS1⟩:∃ S1,lay c (p * 12) ((c.toList.take (n * 12)).drop (q * 12))=S1:=⟨_,rfl⟩
  rw [hS1] at hap ⊢
  have hSs:S1.size=c.size:=by rw [← hS1];exact lay_size (by rw [hxl];omega)
  have hb1:(w.drew.setRow b S1).heap[b]?=some (.cells S1 t (0,0)):=setRow_heap _ _ _ _ _ _ hbd
  have hcl:∀ ty,(Builtin.clear_ #[22] ty #[.slice (some ⟨b,(p+(n - q)) * 12,none⟩) (n - (p+(n - q))) (cap - (p+(n - q)))]).run Tryz.prog (w.drew.setRow b S1)=.ok (.tuple #[]) ((w.drew.setRow b S1).setRow b (lay S1 ((p+(n - q)) * 12) (Builtin.zeroCells z.cells (n - (p+(n - q)))).toList)):=fun ty =>
    run_clearK (P:=Tryz.prog) (w.drew.setRow b S1) Tryz.underlying22 hv hz (by omega) h1z b S1 t hb1 _ _ _ (by omega) (by rw [hSs];omega)
  obtain ⟨zs,hzs⟩:∃ zs,(Builtin.zeroCells z.cells (n - (p+(n - q)))).toList=zs:=⟨_,rfl⟩
  have hz1:zs.length=(q - p) * 12:=by rw [← hzs];simp [size_zeroCells,hz];omega
  have hz2:∀ v∈zs,v.oneCell'=true:=by rw [← hzs];exact zeroCells_ok h1z (by omega)
  rw [hzs] at hcl
  have hq1:(p:Int)≤(q:Int):=by omega
  have hq2:(q:Int)≤(n:Int):=by omega
  have hq3:p≤cap:=by omega
  have hq4:q≤cap:=by omega
  have hq5:¬ (cap=p+(n - q)):=by omega
  have hq6:(p:Int)+((n - q:Nat):Int)≤(n:Int):=by omega
  have hq7:¬ (n=p):=by omega
  have hq8:¬ (cap=p):=by omega
  clear hxl hAc hi his hS1 hSs hb1 hzs hv hz h1z hbd
  go_enter Tryz.func123,Tryz.ntmps123
  go_wp2_with fail
  go_region_law_o (refine step_app_run rfl (.tmp 22) (.tmp 25) 22 22 rfl (.slice (some ⟨b,0,none⟩) p cap) (.slice (some A) (n - q) (cap - q)) (by simp [Act.eval,Act.put]) (by simp [Act.eval,Act.put,hA]) (hap _) ?_)
  go_wp2
  go_ret
  exact ⟨rfl,zs,hz1,hz2,rfl⟩

theorem lay_list (c:Array Value) (o:Nat) (xs:List Value):(lay c o xs).toList=c.toList.take o++xs++c.toList.drop (o+xs.length):=rfl
theorem lay_one {c:Array Value} {o:Nat} {xs:List Value} (hc:∀ v∈c.toList,v.oneCell'=true) (hx:∀ v∈xs,v.oneCell'=true):∀ v∈(lay c o xs).toList,v.oneCell'=true:=by
  intro v hv
  rw [lay_list] at hv
  simp only [List.mem_append] at hv
  rcases hv with (hv | hv) | hv
  · exact hc v (List.mem_of_mem_take hv)
  · exact hx v hv
  · exact hc v (List.mem_of_mem_drop hv)
theorem lay_take {c:Array Value} {o m:Nat} {xs:List Value} (h:o+xs.length≤c.size) (hm:m=o+xs.length):(lay c o xs).toList.take m=c.toList.take o++xs:=by
  have hl:(c.toList.take o++xs).length=m:=by simp;omega
  rw [lay_list,List.take_append_of_le_length (by omega),List.take_of_length_le (by omega)]
theorem lay_take_le {c:Array Value} {o m:Nat} {xs:List Value} (h:o≤c.size) (hm:m≤o):(lay c o xs).toList.take m=c.toList.take m:=by
  rw [lay_list,List.append_assoc,List.take_append_of_le_length (by simp;omega),List.take_take,Nat.min_eq_left hm]

/-- A row turned in its place. -/
theorem turned_set {w w':World} {b:Nat} {c c':Array Value} {t:TypeId} {row:List Value} {cap n sz:Nat} (hb:w.heap[b]?=some (.cells c t (0,0))) (hw:w'.heap[b]?=some (.cells c' t (0,0))) (hE:Env w w')
    (hsz:w'.heap.size=w.heap.size) (ho:∀ x,x≠b→w'.heap[x]?=w.heap[x]?) (h1:cap * sz≤c'.size) (h2:c'.toList.take (n * sz)=row) (h3:∀ v∈c'.toList,v.oneCell'=true) (h4:n≤cap):Turned w w' b b row cap n sz :=
  ⟨⟨c',t,hw,h1,h2,h3⟩,h4,hE,Nat.le_of_eq hsz.symm,fun x _ hx=>ho x hx,.inl rfl⟩

theorem env_drewSet (w:World) (b:Nat) (cs:Array Value):Env w (w.drew.setRow b cs):=(Env.drew w).trans (Env.setRow _ _ _)


theorem frame_info:∃ i z,Tryz.prog.info? 32=some i∧i.zero=some z∧i.size=12∧i.bytes=32∧z.cells.size=12∧∀ v∈z.cells.toList,v.oneCell'=true:=by
  have h1:(Tryz.prog.info? 32).map (·.size)=some 12:=by kernel_rfl
  have h2:(Tryz.prog.info? 32).map (·.bytes)=some 32:=by kernel_rfl
  have h3:(Tryz.prog.info? 32).map (fun i=>(i.zero.map fun z=>(z.cells.size,z.cells.toList.all fun v=>v.oneCell')))=some (some (12,true)):=by kernel_rfl
  cases hi:Tryz.prog.info? 32 with
  | none=>rw [hi] at h1;cases h1
  | some i =>
    rw [hi] at h1 h2 h3
    simp only [Option.map_some,Option.some.injEq] at h1 h2 h3
    cases hz:i.zero with
    | none=>rw [hz] at h3;cases h3
    | some z =>
      rw [hz] at h3
      simp only [Option.map_some,Option.some.injEq,Prod.mk.injEq,List.all_eq_true] at h3
      exact ⟨i,z,rfl,hz,h1,h2,h3.1,h3.2⟩

theorem cells32:Tryz.prog.cellsOf 32=12:=by kernel_rfl
theorem bytes32:Tryz.prog.bytesOf 32=32:=by kernel_rfl

theorem append_in (w:World) (b n cap vb vcap:Nat) (c vc:Array Value) (t vt:TypeId) (hb:w.heap[b]?=some (.cells c t (0,0))) (hvb:w.heap[vb]?=some (.cells vc vt (0,0)))
    (hroom:n+1≤cap) (hcs:cap * 12≤c.size) (hvs:12≤vc.size) (h1v:∀ v∈vc.toList,v.oneCell'=true) (ty:TypeId) :
    (Builtin.append_ #[22,22] ty #[.slice (some ⟨b,0,none⟩) n cap,.slice (some ⟨vb,0,none⟩) 1 vcap]).run Tryz.prog w=.ok (.slice (some ⟨b,0,none⟩) (n+1) cap) (w.setRow b (lay c (n * 12) (vc.toList.take 12))):=by
  obtain ⟨i,z,hi,hz,his,hib,hzs,hz1⟩:=frame_info
  have hvl:(vc.toList.take 12).length=12:=by simp;omega
  have h1:=run_append_in (P:=Tryz.prog) (ty:=ty) (xt:=22) w Tryz.underlying22 hi Tryz.underlying22 (fun k e=>by cases e) (base:=some ⟨b,0,none⟩) (sLen:=n) (sCap:=cap) (n:=1) (x:=.slice (some ⟨vb,0,none⟩) 1 vcap) (news:=(vc.toList.take 12).toArray)
    rfl (by
      simp only [Builtin.firstCells,his,Nat.one_mul]
      have:=run_loadCells_list (P:=Tryz.prog) w ⟨vb,0,none⟩ (vc.toList.take 12) (fun j v hj=>by
        rw [List.getElem?_take] at hj
        split at hj
        · rw [addr_add,cell_of_heap hvb,Nat.zero_add];exact hj
        · cases hj)
      rw [hvl] at this
      exact this) hroom
  have hst:=run_storeCells_at (P:=Tryz.prog) b (n * 12) t (vc.toList.take 12) 0 c w hb (by rw [hvl];omega) (fun v hv=>h1v v (List.mem_of_mem_take hv))
  have hst':(storeCells ⟨b,n * 12,none⟩ (vc.toList.take 12)).run Tryz.prog w=.ok () (w.setRow b (lay c (n * 12) (vc.toList.take 12))):=by simpa [lay] using hst
  rw [h1]
  simp only [his,addr_add,Nat.zero_add]
  rw [hst'];rfl

theorem append_new (w:World) (base:Option Addr) (n vb vcap:Nat) (olds:List Value) (vc:Array Value) (vt:TypeId) (hvb:w.heap[vb]?=some (.cells vc vt (0,0))) (hvs:12≤vc.size) (h46:(n+1) * 32≤70368744177664)
    (hn:base=none→olds=[]) (hl:olds.length=n * 12) (ho:∀ a,base=some a→∀ j v,olds[j]?=some v→w.cell? (a.add j)=some v) :
    ∃ G R,n+1≤G∧R.size=G * 12∧R.toList.take ((n+1) * 12)=olds++vc.toList.take 12∧((∀ v∈olds,v.oneCell'=true)→(∀ v∈vc.toList,v.oneCell'=true)→∀ v∈R.toList,v.oneCell'=true)∧∀ ty,
    (Builtin.append_ #[22,22] ty #[.slice base n n,.slice (some ⟨vb,0,none⟩) 1 vcap]).run Tryz.prog w=.ok (.slice (some ⟨w.heap.size,0,none⟩) (n+1) G) (w.drew.alloc (.cells R 32)):=by
  obtain ⟨i,z,hi,hz,his,hib,hzs,hz1⟩:=frame_info
  have hvl:(vc.toList.take 12).length=12:=by simp;omega
  have hold:(Builtin.firstCells i.size n (.slice base n n)).run Tryz.prog w.drew=.ok olds.toArray w.drew:=by
    cases base with
    | none=>rw [hn rfl];rfl
    | some a =>
      simp only [Builtin.firstCells,his]
      rw [← hl]
      exact run_loadCells_list w.drew a olds (ho a rfl)
  have hnew:(Builtin.firstCells i.size 1 (.slice (some ⟨vb,0,none⟩) 1 vcap)).run Tryz.prog w.drew=.ok (vc.toList.take 12).toArray w.drew:=by
    simp only [Builtin.firstCells,his,Nat.one_mul]
    have hvd:w.drew.heap[vb]?=some (.cells vc vt (0,0)):=hvb
    have:=run_loadCells_list (P:=Tryz.prog) w.drew ⟨vb,0,none⟩ (vc.toList.take 12) (fun j v hj=>by
      rw [List.getElem?_take] at hj
      split at hj
      · rw [addr_add,cell_of_heap hvd,Nat.zero_add];exact hj
      · cases hj)
    rw [hvl] at this
    exact this
  have key:=fun ty=>run_append_new (P:=Tryz.prog) (ty:=ty) (xt:=22) w Tryz.underlying22 hi Tryz.underlying22 (fun k e=>by cases e) hz (base:=base) (sLen:=n) (sCap:=n) (n:=1) (x:=.slice (some ⟨vb,0,none⟩) 1 vcap) (fun _=>rfl) hold hnew (by omega) (by rw [hib];omega) (by omega)
  have hG:=grownCap_ge w (n+1) n 32
  refine ⟨_,_,hG,?_,?_,?_,key⟩
  · simp [size_zeroCells,hzs,hl,hvl];omega
  · simp only [Array.toList_append,List.append_assoc]
    rw [← List.append_assoc,List.take_append_of_le_length (by simp;omega),List.take_of_length_le (by simp;omega)]
  · intro h1 h2 v hv
    simp only [Array.toList_append,List.mem_append] at hv
    rcases hv with (hv | hv) | hv
    · exact h1 v hv
    · exact h2 v (List.mem_of_mem_take hv)
    · exact zeroCells_ok hz1 (by omega) v hv

theorem turned_new {w:World} {b:Nat} {R:Array Value} {row:List Value} {G n:Nat} (h1:n≤G) (h2:R.size=G * 12) (h3:R.toList.take (n * 12)=row) (h4:∀ v∈R.toList,v.oneCell'=true) (w':World) (hE:Env w w') (hw:w'.heap=w.heap.push (.cells R 32 (0,0))) :
    Turned w w' b w.heap.size row G n 12 :=
  ⟨⟨R,32,by rw [hw];simp,by omega,h3,h4⟩,h1,hE,by rw [hw];simp,fun x hx _=>by rw [hw,Array.getElem?_push,if_neg (by omega)],.inr (Nat.le_refl _)⟩

theorem ins_ok:InsOk Tryz.prog 93 32:=by
  unfold InsOk
  rw [cells32,bytes32]
  refine ⟨fun w b vb n cap vcap p c vc t vt hb hvb hne hnc h0 hcs hvs h1c h1v hp h46 h1=>?_,fun w base vb vcap vc vt hvb hvs h1v h46 h1=>?_⟩
  · have hvl:(vc.toList.take 12).length=12:=by simp;omega
    have hnl:(c.toList.take (n * 12)).length=n * 12:=by simp;omega
    rcases Nat.lt_or_ge p n with hlt | hge
    · have hxl:((c.toList.take (n * 12)).drop (p * 12)).length=(n - p) * 12:=by simp;omega
      have hpt:(c.toList.take (n * 12)).take (p * 12)=c.toList.take (p * 12):=by rw [List.take_take,Nat.min_eq_left (by omega)]
      rcases Nat.lt_or_ge n cap with hr | hr
      · -- in its place
        refine (ins_shift w b vb n cap vcap p c vc t vt hb hvb hne (by omega) hcs hvs h1c h1v hlt (by omega) h1).mono fun r w' hk=>?_
        obtain ⟨rfl,rfl⟩:=hk
        refine ⟨b,cap,rfl,?_⟩
        have hS1:(lay c ((p+1) * 12) ((c.toList.take (n * 12)).drop (p * 12))).size=c.size:=lay_size (by rw [hxl];omega)
        have hbd:w.drew.heap[b]?=some (.cells c t (0,0)):=hb
        refine turned_set hb (setRow_heap _ _ _ _ _ _ (setRow_heap _ _ _ _ _ _ hbd)) ((env_drewSet _ _ _).trans (Env.setRow _ _ _)) (by rw [setRow_size,setRow_size];rfl) (fun x hx=>by rw [setRow_other _ _ _ _ hx,setRow_other _ _ _ _ hx];rfl)
          (by rw [lay_size (by rw [hvl,hS1];omega),hS1];exact hcs) ?_ (lay_one (lay_one h1c fun v hv=>h1c v (List.mem_of_mem_take (List.mem_of_mem_drop hv))) fun v hv=>h1v v (List.mem_of_mem_take hv)) (by omega)
        rw [lay_list,lay_take_le (by omega) (by omega),hvl,lay_list,hpt]
        have e1:(c.toList.take ((p+1) * 12)).length=(p+1) * 12:=by simp;omega
        have e2:p * 12+12=(c.toList.take ((p+1) * 12)).length:=by omega
        rw [e2,List.append_assoc (c.toList.take ((p+1) * 12)),List.drop_left]
        rw [← List.append_assoc,List.take_append_of_le_length (by simp;omega),List.take_of_length_le (by simp;omega)]
      · -- a new row
        have:cap=n:=by omega
        subst this
        obtain ⟨i,z,hi,hz,his,hib,hzs,hz1⟩:=frame_info
        have hbd:w.drew.heap[b]?=some (.cells c t (0,0)):=hb
        have hold:(Builtin.firstCells i.size p (.slice (some ⟨b,0,none⟩) p cap)).run Tryz.prog w.drew=.ok (c.toList.take (p * 12)).toArray w.drew:=by
          simp only [Builtin.firstCells,his]
          have:=run_loadCells_list (P:=Tryz.prog) w.drew ⟨b,0,none⟩ (c.toList.take (p * 12)) (fun j v hj=>by
            rw [List.getElem?_take] at hj
            split at hj
            · rw [addr_add,cell_of_heap hbd,Nat.zero_add];exact hj
            · cases hj)
          rw [show (c.toList.take (p * 12)).length=p * 12 by simp;omega] at this
          exact this
        have hkk:(cap:Int)+1 - (p:Int)=((cap+1 - p:Nat):Int):=by omega
        have hik:p+(cap+1 - p)=cap+1:=by omega
        have key:=fun ty=>run_appendZ_new (P:=Tryz.prog) (ty:=ty) w Tryz.underlying22 hi Tryz.underlying3 hz (base:=some ⟨b,0,none⟩) (sLen:=p) (sCap:=cap) (m:=cap+1 - p) (k':=.i64) (by omega) (by rw [hib];omega) (by omega) hold (by omega) (by rw [hib];omega) (by omega)
        simp only [hik,← hkk] at key
        have hG:=grownCap_ge w (cap+1) cap 32
        generalize grownCap w (cap+1) cap 32=G at key hG
        obtain ⟨R,hR⟩:∃ R,R=(c.toList.take (p * 12)).toArray++Builtin.zeroCells z.cells (cap+1 - p)++Builtin.zeroCells z.cells (G - (cap+1)):=⟨_,rfl⟩
        rw [← hR] at key
        have hRs:R.size=G * 12:=by rw [hR];simp [size_zeroCells,hzs];omega
        have hRt:R.toList.take (p * 12)=c.toList.take (p * 12):=by
          rw [hR]
          simp only [Array.toList_append,List.append_assoc]
          rw [List.take_append_of_le_length (by simp;omega),List.take_of_length_le (by simp;omega)]
        have hR1:∀ v∈R.toList,v.oneCell'=true:=by
          intro v hv
          rw [hR] at hv
          simp only [Array.toList_append,List.mem_append] at hv
          rcases hv with (hv | hv) | hv
          · exact h1c v (List.mem_of_mem_take hv)
          · exact zeroCells_ok hz1 (by omega) v hv
          · exact zeroCells_ok hz1 (by omega) v hv
        refine (ins_grow w b vb cap vcap p c vc t vt hb hvb hcs hvs h1c h1v hlt (by omega) h1 G R 32 _ hG (by omega) rfl key).mono fun r w' hk=>?_
        obtain ⟨rfl,rfl⟩:=hk
        refine ⟨w.heap.size,G,rfl,?_⟩
        have hS1:(lay R (p * 12) (vc.toList.take 12)).size=R.size:=lay_size (by rw [hvl];omega)
        have hn:(w.drew.alloc (.cells R 32)).heap[w.heap.size]?=some (.cells R 32 (0,0)):=alloc_new w _
        refine ⟨⟨_,32,setRow_heap _ _ _ _ _ _ (setRow_heap _ _ _ _ _ _ hn),?_,?_,?_⟩,hG,?_,?_,fun x hx hxb=>?_,.inr (Nat.le_refl _)⟩
        · rw [lay_size (by rw [hxl,hS1];omega),hS1];omega
        · rw [lay_take (by rw [hxl,hS1];omega) (by rw [hxl];omega),lay_take (by rw [hvl];omega) (by rw [hvl];omega),hRt,hpt]
        · exact lay_one (lay_one hR1 fun v hv=>h1v v (List.mem_of_mem_take hv)) fun v hv=>h1c v (List.mem_of_mem_take (List.mem_of_mem_drop hv))
        · exact (((Env.drewAlloc w R 32).trans (Env.setRow _ _ _)).trans (Env.drew _)).trans (Env.setRow _ _ _)
        · rw [setRow_size];show _≤((w.drew.alloc (.cells R 32)).setRow _ _).heap.size;rw [setRow_size];exact alloc_size _ _
        · rw [setRow_other _ _ _ _ (by omega)]
          show ((w.drew.alloc (.cells R 32)).setRow _ _).heap[x]?=_
          rw [setRow_other _ _ _ _ (by omega)];exact alloc_old _ _ hx
    · have:p=n:=by omega
      subst this
      have e1:(c.toList.take (p * 12)).take (p * 12)++vc.toList.take 12++(c.toList.take (p * 12)).drop (p * 12)=c.toList.take (p * 12)++vc.toList.take 12:=by
        rw [List.take_of_length_le (by omega),List.drop_of_length_le (by omega),List.append_nil]
      rw [e1]
      rcases Nat.lt_or_ge p cap with hr | hr
      · refine (ins_end w (some ⟨b,0,none⟩) p cap vb vcap _ _ (by omega) hnc (fun ty=>append_in w b p cap vb vcap c vc t vt hb hvb hr hcs hvs h1v ty)).mono fun r w' hk=>?_
        obtain ⟨rfl,rfl⟩:=hk
        refine ⟨b,cap,rfl,turned_set hb (setRow_heap _ _ _ _ _ _ hb) (Env.setRow _ _ _) (setRow_size _ _ _) (fun x hx=>setRow_other _ _ _ _ hx) (by rw [lay_size (by rw [hvl];omega)];exact hcs) (lay_take (by rw [hvl];omega) (by rw [hvl];omega)) (lay_one h1c fun v hv=>h1v v (List.mem_of_mem_take hv)) hr⟩
      · have:cap=p:=by omega
        subst this
        obtain ⟨G,R,g1,g2,g3,g4,g5⟩:=append_new w (some ⟨b,0,none⟩) cap vb vcap (c.toList.take (cap * 12)) vc vt hvb hvs (by omega) (fun e=>by cases e) hnl (fun a e j v hj=>by
          cases e
          rw [List.getElem?_take] at hj
          split at hj
          · rw [addr_add,cell_of_heap hb,Nat.zero_add];exact hj
          · cases hj)
        refine (ins_end w (some ⟨b,0,none⟩) cap cap vb vcap _ _ (by omega) hnc g5).mono fun r w' hk=>?_
        obtain ⟨rfl,rfl⟩:=hk
        exact ⟨_,G,rfl,turned_new g1 g2 g3 (g4 (fun v hv=>h1c v (List.mem_of_mem_take hv)) h1v) _ (Env.drewAlloc _ _ _) rfl⟩
  · obtain ⟨G,R,g1,g2,g3,g4,g5⟩:=append_new w base 0 vb vcap [] vc vt hvb hvs (by omega) (fun _=>rfl) rfl (fun a e j v hj=>by simp at hj)
    refine (ins_end w base 0 0 vb vcap _ _ (by omega) (Nat.le_refl _) g5).mono fun r w' hk=>?_
    obtain ⟨rfl,rfl⟩:=hk
    exact ⟨_,G,rfl,turned_new g1 g2 (by simpa using g3) (g4 (fun v hv=>by cases hv) h1v) _ (Env.drewAlloc _ _ _) rfl,Nat.le_refl _⟩

theorem del_ok:DelOk Tryz.prog 123 32:=by
  unfold DelOk
  rw [cells32]
  intro w b n cap p q c t hb hnc hcs h1c hpq hq
  refine (del_run w b n cap p q c t hb hnc hcs h1c hpq hq).mono fun r w' hk=>?_
  obtain ⟨rfl,zs,hz1,hz2,rfl⟩:=hk
  refine ⟨rfl,?_⟩
  have hxl:((c.toList.take (n * 12)).drop (q * 12)).length=(n - q) * 12:=by simp;omega
  have hS1:(lay c (p * 12) ((c.toList.take (n * 12)).drop (q * 12))).size=c.size:=lay_size (by rw [hxl];omega)
  have hbd:w.drew.heap[b]?=some (.cells c t (0,0)):=hb
  refine turned_set hb (setRow_heap _ _ _ _ _ _ (setRow_heap _ _ _ _ _ _ hbd)) ((env_drewSet _ _ _).trans (Env.setRow _ _ _)) (by rw [setRow_size,setRow_size];rfl) (fun x hx=>by rw [setRow_other _ _ _ _ hx,setRow_other _ _ _ _ hx];rfl)
    (by rw [lay_size (by rw [hz1,hS1];omega),hS1];exact hcs) ?_ (lay_one (lay_one h1c fun v hv=>h1c v (List.mem_of_mem_take (List.mem_of_mem_drop hv))) hz2) (by omega)
  rw [lay_take_le (by omega) (by omega),lay_take (by rw [hxl];omega) (by rw [hxl];omega),List.take_take,Nat.min_eq_left (by omega)]

theorem libs_are:((List.range Tryz.prog.funcs.size).filterMap fun f=>(libOf Tryz.prog f).map fun k=>(f,k))=[(93,LibK.ins),(123,LibK.del)]:=by kernel_rfl
theorem libs_ok:LibsOk Tryz.prog:=by
  intro f k e hk he _ _
  have hlt:f<Tryz.prog.funcs.size:=by
    unfold libOf at hk
    split at hk
    · rename_i fn hf;exact (Array.getElem?_eq_some_iff.1 hf).1
    · cases hk
  have hm:(f,k)∈((List.range Tryz.prog.funcs.size).filterMap fun f=>(libOf Tryz.prog f).map fun k=>(f,k)):=List.mem_filterMap.2 ⟨f,List.mem_range.2 hlt,by rw [hk];rfl⟩
  rw [libs_are] at hm
  have hI:rowOf Tryz.prog 93=some 32:=by kernel_rfl
  have hD:rowOf Tryz.prog 123=some 32:=by kernel_rfl
  simp only [List.mem_cons,List.not_mem_nil,or_false,Prod.mk.injEq] at hm
  rcases hm with ⟨rfl,rfl⟩ | ⟨rfl,rfl⟩
  · rw [hI] at he;cases he;exact ins_ok
  · rw [hD] at he;cases he;exact del_ok
end Go.AM.R1
