/- A machine of its own for the loaded program's code, and that it is sound: what it answers, a call of the program answers. -/
import Derived.Test.YtefpgafgpanpfaaGreatAm2
import Derived.ChangeSame
import Derived.ChangeShapes
set_option linter.unusedVariables false
set_option linter.unusedSimpArgs false
set_option maxHeartbeats 16000000
namespace Go.AM
open Go.RowKit Go.ChangeShapes
section
set_option linter.unusedSectionVars false
variable {H:Type} {enc:TypeId × Value->H} {P:Program} {w:World} {sp:Nat->Bool} {held:Bool}

theorem okWide_plain {base:Nat} {t:TypeId} {v:Value} {k:Nat} (hd:dataT P k t=true) (h:Value.okWide P w .any base t v) :
  (isAggT P t=true/\∃ cs,v=.agg cs)∨(isAggT P t=false/\v.cells=#[v]):=by
 cases k with
 | zero=>simp [dataT] at hd
 | succ k =>
  rw [dataT] at hd
  unfold Value.okWide at h
  unfold isAggT
  cases hu:P.underlying t with
  | none=>rw [hu] at hd;cases hd
  | some td =>
   rw [hu] at hd h
   cases td<;>simp only [] at hd h ⊢
   case struct fs=>obtain ⟨cs,rfl,_⟩:=h;exact .inl ⟨trivial,cs,rfl⟩
   case array n e=>obtain ⟨cs,rfl,_⟩:=h;exact .inl ⟨trivial,cs,rfl⟩
   all_goals first
    | (exfalso;revert hd;simp;done)
    | (right;refine ⟨trivial,?_⟩;unfold Cell.okWide Cell.ok at h;rw [hu] at h;cases v<;>first | rfl | (simp at h))

def DecV (P:Program) (k:Nat) (t:TypeId) (d:DataW H) (a:AVal):Prop :=
 if isAggT P t=true then∃cs,a=.agg cs/\Dec P k t d cs else Dec P k t d [a]

def DecArgs (P:Program) (k:Nat):List TypeId->List (DataW H)->List AVal->Prop
 | [],[],[]=>True
 | t::ts,d::ds,a::as=>DecV P k t d a/\DecArgs P k ts ds as
 | _,_,_=>False

theorem decode_arg {base k:Nat} {t:TypeId} {v:Value} {d:DataW H} {ps:List MemPlace} (hd:dataT P k t=true) (hok:Value.okWide P w .any base t v) (h:DataW.Trod enc P w 0 sp held t v d ps) :
  ∃ a,RV (startC w) a v/\DecV P k t d a:=by
 obtain ⟨fuel,h⟩:=h
 obtain ⟨as,h1,h2,h3,h4⟩:=of_trod k t fuel _ _ hd h
 unfold DecV
 rcases okWide_plain hd hok with ⟨ha,cs,rfl⟩ | ⟨ha,hc⟩
 ·simp only [ha,if_true]
  exact ⟨.agg as,⟨cs,rfl,fun v hv=>h3 v hv,h1⟩,as,rfl,h4⟩
 ·simp only [ha,Bool.false_eq_true,if_false]
  rw [hc] at h1
  have hl:=RL_length h1
  cases as with
  | nil=>simp at hl
  | cons a r =>
   cases r with
   | cons b r=>simp at hl
   | nil =>
    simp only [RL] at h1
    obtain ⟨x,s,e,hx,_⟩:=h1
    cases e
    exact ⟨a,hx,h4⟩

theorem decode_args {base k:Nat}:∀ {ts:List TypeId} {vs:List Value} {ds:List (DataW H)} {ps:List MemPlace},(∀ t∈ts,dataT P k t=true)->(∀ (j:Nat) (t:TypeId) (v:Value),ts[j]?=some t->vs[j]?=some v->Value.okWide P w .any base t v) ->
  DataW.TrodAll enc P w 0 sp held ts vs ds ps->∃ as,RL (startC w) as vs/\DecArgs P k ts ds as
 | [],[],[],ps,_,_,_=>⟨[],rfl,trivial⟩
 | [],[],_::_,ps,_,_,h=>by simp [DataW.TrodAll] at h
 | [],_::_,_,ps,_,_,h=>by simp [DataW.TrodAll] at h
 | _::_,[],_,ps,_,_,h=>by simp [DataW.TrodAll] at h
 | _::_,_::_,[],ps,_,_,h=>by simp [DataW.TrodAll] at h
 | t::ts,v::vs,d::ds,ps,hd,hok,h=>by
  obtain ⟨p,q,h1,h2,rfl⟩:=h
  obtain ⟨a,a1,a2⟩:=decode_arg (hd t (by simp)) (hok 0 t v rfl rfl) h1
  obtain ⟨as,b1,b2⟩:=decode_args (fun u hu=>hd u (by simp [hu])) (fun j u x hu hx=>hok (j+1) u x (by simpa using hu) (by simpa using hx)) h2
  exact ⟨a::as,⟨v,vs,rfl,a1,b1⟩,a2,b2⟩

theorem trodAll_stays (hl:laidOutB P=true) {W W':World} {sp':Nat->Bool} (hb:Below W.heap.size W W'):∀ {ts:List TypeId} {vs:List Value} {ds:List (DataW H)} {ps:List MemPlace},(∀ t∈ts,P.readableRec t=true/\t<P.types.size) ->
  DataW.TrodAll enc P W 0 (fun _=>true) true ts vs ds ps->(∀ p∈ps,p.block<W.heap.size)->(∀ p∈ps,sp' p.block=true)->DataW.TrodAll enc P W' 0 sp' true ts vs ds ps
 | [],[],[],ps,_,h,_,_=>h
 | [],[],_::_,ps,_,h,_,_=>by simp [DataW.TrodAll] at h
 | [],_::_,_,ps,_,h,_,_=>by simp [DataW.TrodAll] at h
 | _::_,[],_,ps,_,h,_,_=>by simp [DataW.TrodAll] at h
 | _::_,_::_,[],ps,_,h,_,_=>by simp [DataW.TrodAll] at h
 | t :: ts,v::vs,d::ds,ps,hr,h,hlt,hs=>by
  obtain ⟨p,q,h1,h2,rfl⟩:=h
  exact ⟨p,q,WideElems.Trod_stays hl (hr t (by simp)).1 (hr t (by simp)).2 h1 (fun x hx=>hb.same (hlt x (List.mem_append_left _ hx))) (fun x hx=>hs x (List.mem_append_left _ hx)),
   trodAll_stays hl hb (fun u hu=>hr u (by simp [hu])) h2 (fun x hx=>hlt x (List.mem_append_right _ hx)) (fun x hx=>hs x (List.mem_append_right _ hx)),rfl⟩

variable [DecidableEq AVal] {E:Nat->Option IFn}

theorem law_calls (hmix:P.follows .mixedOrders=true) (hL:LibsOk P) (hE:∀ f fn,E f=some fn->∃ ls,compF P ls f=some fn) {n id:Nat} {as:List AVal} {H':Heap} {args:Array Value} {W:World} (hs:acall E n (.func (.func id) [] []) as []=some (.lit (.bool true),H')) (hr:RL (startC W) as args.toList) :
    Calls P id args W fun e W'=>e=.returned (.bool true)/\Below W.heap.size W W'/\∀ a,W'.frozen? a=W.frozen? a:=by
  have hg:=(sound hmix hL hE n).1.1 _ _ _ _ _ hs (startC W) (.func (.func id) #[] #[]) args (startC_ok P W) ⟨#[],#[],rfl,rfl,rfl⟩ hr
  -- the function has a body
  have hb:∃ fn ls,E id=some fn/\compF P ls id=some fn:=by
    cases n with
    | zero=>simp [acall] at hs
    | succ n =>
      rw [acall_func] at hs
      simp only [Option.bind_eq_some_iff] at hs
      obtain ⟨fn,hfn,_⟩:=hs
      obtain ⟨ls,hls⟩:=hE id fn hfn
      exact ⟨fn,ls,hfn,hls⟩
  obtain ⟨fn,ls,_,hcf⟩:=hb
  simp only [compF,Option.bind_eq_some_iff] at hcf
  obtain ⟨fd,hfd,c,hbody,hcf⟩:=hcf
  obtain ⟨hhb,_⟩:=Option.ite_none_right_eq_some.1 hcf
  have hen:(do let d <- Deferred.ofValue (.func (.func id) #[] #[]) args;invoke d.target d.args:Sem Next).run P W=.ok (.enter id args) W:=by
    have hb : fd.body.isSome = true ∧ (fd.name == "runtime.NumGoroutine") = false := by
      unfold hasBody at hhb
      rw [hfd] at hhb
      simp only [Bool.and_eq_true,bne_iff_ne,ne_eq] at hhb
      exact ⟨hhb.1,by simpa using hhb.2⟩
    have hb1:fd.body.isNone=false:=by rw [hbody];rfl
    simp only [Deferred.ofValue,pure_bind,invoke,callFunc,Sem.run_bind,run_program,Result.andThen_ok,hfd,hb.2,hb1,Bool.false_eq_true,if_false,Sem.run_pure]
    simp
  have key:Calls P id args W fun e w'=>∃ v,e=.returned v/\After P (startC W) (.lit (.bool true)) H' v w':=by
    rcases hg with ⟨v,w',h,_⟩ | ⟨w',h,_⟩ | ⟨f,as',w₁,h,hk⟩ | ⟨l,f,t,a,b,w₁,h,_⟩
    · rw [show (startC W).w=W from rfl,hen] at h;cases h
    · rw [show (startC W).w=W from rfl,hen] at h;cases h
    · rw [show (startC W).w=W from rfl,hen] at h
      cases h
      exact hk
    · rw [show (startC W).w=W from rfl,hen] at h;cases h
  refine key.mono fun e W' hk=>?_
  obtain ⟨v,rfl,C',rfl,hH,hN,hv⟩:=hk
  have hv:v=.bool true:=hv
  subst hv
  refine ⟨rfl,⟨hN.env.os,hN.env.tape,hN.env.output,hN.size,fun k hk=>hN.frame k hk fun i s hs=>by cases hs⟩,hN.env.frozen⟩

theorem law_contract (hmix:P.follows .mixedOrders=true) (hL:LibsOk P) (hE:∀ f fn,E f=some fn->∃ ls,compF P ls f=some fn) (hl:laidOutB P=true) {id:Nat} {f:Func} {s:ChangeSpec} {k nargs:Nat} (hvars:s.vars=[])
  (hts:∀ t∈f.params.toList,dataT P k t=true/\P.readableRec t=true/\t<P.types.size) {tb:TypeId} (hres:f.resultTypes=#[tb]) (htb:P.underlying tb=some .bool) (hn:f.params.size=nargs)
  (hfn:∀ ds:List (DataW H),ds.length=nargs->s.fn H ds={ results:=[.lit (.bool true)],args:=ds })
  {W:World} {base:Nat} {args:Array Value} {ds gs:List (DataW H)} {before:List MemPlace}
  (hval:∀ (j:Nat) t v,f.params[j]?=some t->args[j]?=some v->Value.okWide P W .any base t v)
  (hW:DataW.Whole enc P f.params.toList s.vars false W args.toList ds gs before)
  (hspec:∀ as,DecArgs P k f.params.toList ds as->∃ n H',acall E n (.func (.func id) [] []) as []=some (.lit (.bool true),H')) :
  Calls P id args W fun e W'=>∃ v,e=.returned v/\s.post enc P f false true false false W args v W':=by
 have hW':=hW
 obtain ⟨p,q,hA,hV,rfl,hfz,hnd⟩:=hW
 obtain ⟨as,h1,h2⟩:=decode_args (k:=k) (fun t ht=>(hts t ht).1) (fun j t v ht hv=>hval j t v (by simpa using ht) (by simpa using hv)) hA
 obtain ⟨n,H',hs⟩:=hspec as h2
 rw [hvars] at hV
 obtain ⟨rfl,rfl⟩:=trodVars_none hV
 refine (law_calls hmix hL hE hs h1).mono fun e W' hk=>?_
 obtain ⟨rfl,hb,hfr⟩:=hk
 have hlen:ds.length=nargs:=by
  have:∀ {ts:List TypeId} {vs:List Value} {ds:List (DataW H)} {ps:List MemPlace},DataW.TrodAll enc P W 0 (fun _=>true) true ts vs ds ps->ds.length=ts.length:=by
   intro ts
   induction ts with
   | nil=>intro vs ds ps h;cases vs<;>cases ds<;>simp_all [DataW.TrodAll]
   | cons t ts ih =>
    intro vs ds ps h
    cases vs with
    | nil=>simp [DataW.TrodAll] at h
    | cons v vs=>cases ds with
     | nil=>simp [DataW.TrodAll] at h
     | cons d ds=>obtain ⟨_,_,_,h2,_⟩:=h;simp [ih h2]
  rw [this hA];simpa using hn
 have hlt:∀ x∈p,x.block<W.heap.size:=fun x hx=>by simpa using hW'.lt x (by simp [hx])
 have e1:=hfn (ds++[]) (by simpa using hlen)
 refine ⟨_,rfl,post_of_same (pa:=p) (pv:=[]) hW' (fun b sp hd=>?_) (fun sp hsp=>?_) (fun sp _=>?_) (by simp) (hb.frame _) hfr ?_⟩
 ·rw [e1,hres]
  exact trodAll_cons_mk (shut_bool htb _) trodAll_mk0
 ·rw [e1,List.append_nil]
  exact trodAll_stays hl hb (fun t ht=>(hts t ht).2) hA hlt (fun x hx=>hsp x (by simp [hx]))
 ·rw [hvars,e1];rfl
 ·exact ok_one hres rfl (okWide_bool_mk htb _)
end
end Go.AM
namespace Go.AM
open Go
section
variable (c:Callee) (ρ:Opd->AVal) (H:Heap)
theorem aop_isNil (neg k x):aop c ρ H (.isNil neg k x)=pairK H ((anil k (ρ x)).map fun b=>vbool (if neg then !b else b)):=by
 simp only [aop]
 cases anil k (ρ x)<;>rfl
theorem aop_eqB (neg x y):aop c ρ H (.eqB neg x y)=pairK H ((aleaf .b (ρ x) (ρ y)).map fun b=>vbool (if neg then !b else b)):=by
 simp only [aop]
 cases aleaf .b (ρ x) (ρ y)<;>rfl
def eqK (neg:Bool) (ls:List (Nat × LeafK)) (H:Heap):AVal->AVal->Option (AVal × Heap)
 | .agg xs,.agg ys=>pairK H ((aleaves xs ys ls).map fun b=>vbool (if neg then !b else b))
 | _,_=>none
theorem aop_eqA (neg ls x y):aop c ρ H (.eqA neg ls x y)=eqK neg ls H (ρ x) (ρ y):=by
 simp only [aop,eqK]
 cases ρ x<;>try rfl
 cases ρ y<;>try rfl
 simp only
 rename_i xs ys
 cases aleaves xs ys ls<;>rfl
theorem eqK_agg (neg ls xs ys):eqK neg ls H (.agg xs) (.agg ys)=pairK H ((aleaves xs ys ls).map fun b=>vbool (if neg then !b else b)):=rfl
theorem aleaf_i (k:IntKind) (x y:Int):aleaf .i (.lit (.int k x)) (.lit (.int k y))=some (decide (x=y)):=by simp [aleaf]
theorem aleaf_b (x y:Bool):aleaf .b (.lit (.bool x)) (.lit (.bool y))=some (x == y):=rfl
theorem aleaf_s (x y:ByteArray):aleaf .s (.lit (.string x)) (.lit (.string y))=some (x == y):=rfl
def toIntK (k:IntKind) (H:Heap):AVal->Option (AVal × Heap)
 | .lit (.int _ n)=>some (.lit (.int k (k.wrap n)),H)
 | _=>none
theorem aop_toInt (k x):aop c ρ H (.toInt k x)=toIntK k H (ρ x):=by
 simp only [aop]
 cases ρ x with
 | lit v=>cases v<;>rfl
 | _=>rfl
theorem toIntK_int (k k' n):toIntK k H (.lit (.int k' n))=some (.lit (.int k (k.wrap n)),H):=rfl
theorem aop_mkFunc (fn xs ys):aop c ρ H (.mkFunc fn xs ys)=some (.func fn (xs.map ρ) (ys.map ρ),H):=rfl
theorem aop_mkIface (t x):aop c ρ H (.mkIface t x)=some (.iface t (ρ x),H):=rfl
theorem aop_lenArr (n):aop c ρ H (.lenArr n)=some (.lit (.int .i64 n),H):=rfl
def aggK (H:Heap):Option (List AVal)->Option (AVal × Heap)
 | some cs=>some (.agg cs,H)
 | none=>none
theorem aop_build (z ps):aop c ρ H (.build z ps)=aggK H (afill ρ z ps):=by
 simp only [aop]
 cases afill ρ z ps<;>rfl
theorem aggK_some (cs):aggK H (some cs)=some (.agg cs,H):=rfl
def fillK (ρ:Opd->AVal) (cells:List AVal) (off n:Nat) (r:List (Nat × Nat × Opd)):Option (List AVal)->Option (List AVal)
 | some vs=>if vs.length=n/\off+n<=cells.length then afill ρ (over cells off vs) r else none
 | none=>none
theorem afill_nil (cells):afill ρ cells []=some cells:=rfl
theorem afill_cons (cells off n x r):afill ρ cells ((off,n,x)::r)=fillK ρ cells off n r (cellsO (ρ x)):=by
 simp only [afill]
 cases cellsO (ρ x)<;>rfl
theorem fillK_some (cells off n r vs):fillK ρ cells off n r (some vs)=if vs.length=n/\off+n<=cells.length then afill ρ (over cells off vs) r else none:=rfl
def sliceK (fl:Bool) (sz len:Nat) (H:Heap):Option (List (List AVal) × List Nat)->Option (AVal × Heap)
 | some r=>some (.own H.length len sz 0 len,locks H r.2++[.arr fl false true sz r.1])
 | none=>none
theorem aop_mkSlice (fl sz z len ps):aop c ρ H (.mkSlice fl sz z len ps)=sliceK fl sz len H (afillS fl sz ρ H (List.replicate len z) [] ps):=by
 simp only [aop]
 cases afillS fl sz ρ H (List.replicate len z) [] ps<;>rfl
theorem sliceK_some (fl sz len es ls):sliceK fl sz len H (some (es,ls))=some (.own H.length len sz 0 len,locks H ls++[.arr fl false true sz es]):=rfl
theorem locks_nil:locks H []=H:=rfl
theorem afillS_nil (fl sz es ls):afillS fl sz ρ H es ls []=some (es,ls):=rfl
def cellsK (fl:Bool) (sz:Nat) (ρ:Opd->AVal) (H:Heap) (es:List (List AVal)) (ls:List Nat) (j:Nat) (r:List (Nat × Opd)) (l:List Nat):Option (List AVal)->Option (List (List AVal) × List Nat)
 | some vs=>if vs.length=sz/\j<es.length/\(fl=true->flatL vs=true) then afillS fl sz ρ H (es.set j vs) (ls++l) r else none
 | none=>none
def snapK (fl:Bool) (sz:Nat) (ρ:Opd->AVal) (H:Heap) (es:List (List AVal)) (ls:List Nat) (j:Nat) (r:List (Nat × Opd)):Option (AVal × List Nat)->Option (List (List AVal) × List Nat)
 | some v=>cellsK fl sz ρ H es ls j r v.2 (cellsO v.1)
 | none=>none
theorem afillS_cons (fl sz es ls j x r):afillS fl sz ρ H es ls ((j,x)::r)=snapK fl sz ρ H es ls j r (snapV H (ρ x)):=by
 simp only [afillS]
 cases snapV H (ρ x) with
 | none=>rfl
 | some v=>simp only [snapK,Option.bind_some];cases cellsO v.1<;>rfl
theorem snapK_some (fl sz es ls j r v l):snapK fl sz ρ H es ls j r (some (v,l))=cellsK fl sz ρ H es ls j r l (cellsO v):=rfl
theorem cellsK_some (fl sz es ls j r l vs):cellsK fl sz ρ H es ls j r l (some vs)=if vs.length=sz/\j<es.length/\(fl=true->flatL vs=true) then afillS fl sz ρ H (es.set j vs) (ls++l) r else none:=rfl
theorem aop_append (fl sz b s x):aop c ρ H (.append fl sz b s x)=aappend fl sz b H (ρ s) (ρ x):=rfl
def appK (fl:Bool) (sz bytes:Nat) (H:Heap) (s:AVal):Option (Bool × List (List AVal))->Option (AVal × Heap)
 | some r=>aadd fl sz bytes H s r.1 r.2
 | none=>none
theorem aappend_str (fl sz b s x):aappend fl sz b H s (.lit (.string x))=aadd fl sz b H s true (x.toList.map fun c=>[vint .u8 c.toNat]):=rfl
theorem aappend_own (fl sz b s i l z o n):aappend fl sz b H s (.own i l z o n)=appK fl sz b H s (content H (.own i l z o n)):=by
 simp only [aappend]
 cases content H (.own i l z o n)<;>rfl
theorem aappend_imm (fl sz b s x y z es):aappend fl sz b H s (.imm x y z es)=aadd fl sz b H s z es:=rfl
theorem appK_some (fl sz b s r):appK fl sz b H s (some r)=aadd fl sz b H s r.1 r.2:=rfl
def contK (len sz off n:Nat):Option Entry->Option (Bool × List (List AVal))
 | some (.arr fl _ _ se es)=>if es.length=len/\se=sz then some (fl,(es.take (off+n)).drop off) else none
 | _=>none
theorem content_own (i len sz off n):content H (.own i len sz off n)=contK len sz off n H[i]?:=by
 simp only [content,contK]
 cases H[i]? with
 | none=>rfl
 | some e=>cases e<;>rfl
def cutE (es:List (List AVal)) (off n:Nat):List (List AVal):=(es.take (off+n)).drop off
theorem cutE_whole {es:List (List AVal)} {n:Nat} (h:es.length=n):cutE es 0 n=es:=by
 unfold cutE
 rw [List.drop_zero,List.take_of_length_le (by omega)]
theorem contK_arr (len sz off n fl lk fu se es):contK len sz off n (some (.arr fl lk fu se es))=if es.length=len/\se=sz then some (fl,cutE es off n) else none:=rfl
theorem content_imm (x y z es):content H (.imm x y z es)=some (z,es):=rfl
theorem aadd_imm (fl sz bytes n full fs es fx ys):aadd fl sz bytes H (.imm n full fs es) fx ys =
  if ((fl && !fx) || !rowsOk sz ys)=true then none else if ys.length=0 then some (.imm n full fs es,H)
  else if (!full || (fl && !fs) || !rowsOk sz es || decide ((es.length+ys.length) * bytes > 2 ^ 46))=true then none
  else some (.own H.length (es.length+ys.length) sz 0 (es.length+ys.length),H++[.arr fl false false sz (es++ys)]):=by
 simp only [aadd]
def addK (fl:Bool) (sz bytes:Nat) (H:Heap) (i len so off n:Nat) (ys:List (List AVal)):Option Entry->Option (AVal × Heap)
  | some (.arr fe lk fu se es) =>
        if es.length=len/\so=sz/\off=0/\n<=len/\se=sz/\fe=fl then
          if ys.length=0 then some (.own i len so off n,H)
          else if (n+ys.length) * bytes > 2 ^ 46 then none
          else if n=len then some (.own i (len+ys.length) sz 0 (len+ys.length),H.set i (.arr fl lk false sz (es++ys)))
          else if lk then none
          else some (.own H.length (n+ys.length) sz 0 (n+ys.length),H.set i .dead++[.arr fl false false sz (es.take n++ys)])
        else none
  | _=>none
theorem aadd_own (fl sz bytes i len so off n fx ys):aadd fl sz bytes H (.own i len so off n) fx ys =
  if ((fl && !fx) || !rowsOk sz ys)=true then none else addK fl sz bytes H i len so off n ys H[i]?:=by
 simp only [aadd,addK]
 cases H[i]? with
 | none=>rfl
 | some e=>cases e<;>rfl
theorem addK_arr (fl sz bytes i len so off n ys fe lk fu se es):addK fl sz bytes H i len so off n ys (some (.arr fe lk fu se es)) =
    if es.length=len/\so=sz/\off=0/\n<=len/\se=sz/\fe=fl then
     if ys.length=0 then some (.own i len so off n,H)
     else if (n+ys.length) * bytes > 2 ^ 46 then none
     else if n=len then some (.own i (len+ys.length) sz 0 (len+ys.length),H.set i (.arr fl lk false sz (es++ys)))
     else if lk then none
     else some (.own H.length (n+ys.length) sz 0 (n+ys.length),H.set i .dead++[.arr fl false false sz (es.take n++ys)])
    else none:=rfl
theorem rowsOk_nil (sz):rowsOk sz []=true:=rfl
theorem rowsOk_cons (sz r es):rowsOk sz (r::es)=(r.length == sz && rowsOk sz es):=rfl
theorem rowsOk_map {α:Type} {sz:Nat} {f:α->List AVal} (h:∀ a,(f a).length=sz) (l:List α):rowsOk sz (l.map f)=true:=by
 unfold rowsOk
 rw [List.all_eq_true]
 intro r hr
 obtain ⟨a,_,rfl⟩:=List.mem_map.1 hr
 simp [h a]
theorem rowsOk_append (sz l r):rowsOk sz (l++r)=(rowsOk sz l && rowsOk sz r):=by unfold rowsOk;rw [List.all_append]

def callK1 (c:Callee) (H:Heap):Option (AVal × List Nat)->Option (List AVal × List Nat)->Option (AVal × Heap)
 | some fs,some xs=>let H1:=locks H (fs.2++xs.2)
  (reach H1 purse (refsV fs.1++refsL xs.1) []).bind fun ρ =>
  let g:=fun i=>ρ.idxOf i
  (c (renV g fs.1) (renL g xs.1) (ρ.map fun i=>renE g (H1.getD i .dead))).bind fun r =>
  let h:=toGlob ρ H1.length
  some (renV h r.1,setAll H1 ρ ((r.2.take ρ.length).map (renE h))++(r.2.drop ρ.length).map (renE h))
 | _,_=>none
theorem withCall_eq (f args):withCall c f args H=callK1 c H (snapV H f) (snapL H args):=by
 unfold withCall
 cases snapV H f with
 | none=>rfl
 | some fs=>cases snapL H args<;>rfl
theorem callK1_flat (f xs l l') (hf:flatV f=true) (hx:flatL xs=true):callK1 c H (some (f,l)) (some (xs,l'))=backK (locks H (l++l')) (c f xs []):=by
 rw [<- withCall_flat c (locks H (l++l')) f xs hf hx,withCall_eq]
 rw [snapV_flat _ f hf,snapL_flat _ xs hx]
 simp only [callK1,List.append_nil,locks]
def lockK (H:Heap) (i:Nat):Option Entry->Heap
 | some (.arr fl _ full sz es)=>H.set i (.arr fl true full sz es)
 | _=>H
theorem locks_cons (i l):locks H (i::l)=locks (lockK H i H[i]?) l:=by
 rw [locks]
 unfold lock lockK
 cases H[i]? with
 | none=>rfl
 | some e=>cases e<;>rfl
theorem lockK_arr (i fl lk fu sz es):lockK H i (some (.arr fl lk fu sz es))=H.set i (.arr fl true fu sz es):=rfl
def snK (i len sz off n:Nat):Option Entry->Option (AVal × List Nat)
 | some (.arr fl _ full se es)=>if es.length=len/\se=sz then some (.imm false (full && decide (off+n=len)) fl ((es.take (off+n)).drop off),[i]) else none
 | _=>none
theorem snapV_own (i len sz off n):snapV H (.own i len sz off n)=snK i len sz off n H[i]?:=by
 rw [snapV]
 simp only [snK]
 cases H[i]? with
 | none=>rfl
 | some e=>cases e<;>rfl
theorem snK_arr (i len sz off n fl lk fu se es):snK i len sz off n (some (.arr fl lk fu se es))=if es.length=len/\se=sz then some (.imm false (fu && decide (off+n=len)) fl (cutE es off n),[i]) else none:=rfl
theorem snapL_nil:snapL H []=some ([],[]):=by rw [snapL]
def snapCK:Option (AVal × List Nat)->Option (List AVal × List Nat)->Option (List AVal × List Nat)
 | some x,some y=>some (x.1::y.1,x.2++y.2)
 | _,_=>none
theorem snapL_cons (v r):snapL H (v::r)=snapCK (snapV H v) (snapL H r):=by
 rw [snapL]
 cases snapV H v with
 | none=>rfl
 | some x=>cases snapL H r<;>rfl
theorem snapCK_some (x l y l'):snapCK (some (x,l)) (some (y,l'))=some (x::y,l++l'):=rfl
theorem snapV_lit (v):snapV H (.lit v)=some (.lit v,[]):=by rw [snapV]
theorem snapV_ptr (i k):snapV H (.ptr i k)=some (.ptr i k,[]):=by rw [snapV]
theorem snapV_yld (i):snapV H (.yld i)=some (.yld i,[]):=by rw [snapV]
theorem snapV_mref (i):snapV H (.mref i)=some (.mref i,[]):=by rw [snapV]
theorem snapV_imm (x y z es):snapV H (.imm x y z es)=some (.imm x y z es,[]):=by rw [snapV]
def snapAK:Option (List AVal × List Nat)->Option (AVal × List Nat)
 | some r=>some (.agg r.1,r.2)
 | none=>none
theorem snapV_agg (cs):snapV H (.agg cs)=snapAK (snapL H cs):=by
 rw [snapV]
 cases snapL H cs<;>rfl
theorem snapAK_some (cs l):snapAK (some (cs,l))=some (.agg cs,l):=rfl
def snapFK (fn:Fn):Option (List AVal × List Nat)->Option (List AVal × List Nat)->Option (AVal × List Nat)
 | some r,some s=>some (.func fn r.1 s.1,r.2++s.2)
 | _,_=>none
theorem snapV_func (fn a b):snapV H (.func fn a b)=snapFK fn (snapL H a) (snapL H b):=by
 rw [snapV]
 cases snapL H a with
 | none=>rfl
 | some r=>cases snapL H b<;>rfl
theorem snapFK_some (fn a l b l'):snapFK fn (some (a,l)) (some (b,l'))=some (.func fn a b,l++l'):=rfl
def sliceOK (sz:Nat) (H:Heap) (x:AVal) (lo:Option Nat) (hi mx:Option (Option Nat)):Option (AVal × Heap) :=
 match lo,hi,mx with
 | some l,none,none=>aslice sz H x l none none
 | some l,some (some h),none=>aslice sz H x l (some h) none
 | some l,some (some h),some (some m)=>aslice sz H x l (some h) (some m)
 | _,_,_=>none
theorem aop_slice (sz x lo hi mx):aop c ρ H (.slice sz x lo hi mx)=sliceOK sz H (ρ x) (optNat ρ 0 lo) (hi.map fun h=>asNat (ρ h)) (mx.map fun m=>asNat (ρ m)):=by
  simp only [aop,sliceOK]
  cases optNat ρ 0 lo with
  | none=>rfl
  | some l =>
    simp only [Option.bind_some]
    cases hi with
    | none=>cases mx with
      | none=>rfl
      | some m=>cases asNat (ρ m)<;>rfl
    | some h=>cases mx with
      | none=>simp only [Option.map_some,Option.map_none];cases asNat (ρ h)<;>rfl
      | some m => simp only [Option.map_some];cases asNat (ρ h)<;>try rfl
                  simp only [Option.bind_some];cases asNat (ρ m)<;>rfl
theorem sliceOK_0 (sz x l):sliceOK sz H x (some l) none none=aslice sz H x l none none:=rfl
theorem sliceOK_1 (sz x l h):sliceOK sz H x (some l) (some (some h)) none=aslice sz H x l (some h) none:=rfl
theorem sliceOK_2 (sz x l h m):sliceOK sz H x (some l) (some (some h)) (some (some m))=aslice sz H x l (some h) (some m):=rfl
theorem optNat_none (d):optNat ρ d none=some d:=rfl
theorem optNat_some (d x):optNat ρ d (some x)=asNat (ρ x):=rfl
theorem asNat_int (k n):asNat (.lit (.int k n))=if 0<=n then some n.toNat else none:=rfl
theorem aslice_imm (sz n full fl es lo hi mx):aslice sz H (.imm n full fl es) lo hi mx =
  if lo<=hi.getD es.length/\hi.getD es.length<=mx.getD (hi.getD es.length)/\mx.getD (hi.getD es.length)<=es.length/\rowsOk sz es=true then
   some (.imm n (if mx.isSome then decide (mx.getD (hi.getD es.length)=hi.getD es.length) else full && decide (hi.getD es.length=es.length)) fl ((es.take (hi.getD es.length)).drop lo),H)
  else none:=by
 simp only [aslice]
theorem aslice_own (sz i len so off n lo hi):aslice sz H (.own i len so off n) lo hi none =
  if so≠sz then none else if lo<=hi.getD n/\hi.getD n<=n then some (.own i len sz (off+lo) (hi.getD n - lo),H) else none:=by
 simp only [aslice]
end
theorem getElem?_set_self' {α:Type} {l:List α} {i:Nat} {a:α}:(l.set i a)[i]?=if i<l.length then some a else none:=by
 rw [List.getElem?_set];simp
attribute [go_sem] aop_isNil aop_eqB aop_eqA eqK_agg aleaf_i aleaf_b aleaf_s aleaves aop_toInt toIntK_int aop_mkFunc aop_mkIface aop_lenArr aop_build aggK_some afill_nil afill_cons fillK_some
 aop_mkSlice sliceK_some locks_nil afillS_nil afillS_cons snapK_some cellsK_some aop_append aappend_str aappend_own aappend_imm appK_some content_own contK_arr content_imm aadd_imm aadd_own addK_arr
 rowsOk_nil rowsOk_cons rowsOk_append withCall_eq callK1_flat locks_cons lockK_arr snapV_own snK_arr snapL_nil snapL_cons snapCK_some snapV_lit snapV_ptr snapV_yld snapV_imm snapV_agg snapAK_some snapV_func snapFK_some
 aop_slice sliceOK_0 sliceOK_1 sliceOK_2 optNat_none optNat_some asNat_int aslice_imm aslice_own anil
attribute [-go_sem] withCall_flat
attribute [go_sem] nilS

def refK (H:Heap) (ρ:List Nat):Option (AVal × Heap)->Option (AVal × Heap)
 | some r=>some (renV (toGlob ρ H.length) r.1,setAll H ρ ((r.2.take ρ.length).map (renE (toGlob ρ H.length)))++(r.2.drop ρ.length).map (renE (toGlob ρ H.length)))
 | none=>none
def rchK (c:Callee) (H:Heap) (f:AVal) (xs:List AVal):Option (List Nat)->Option (AVal × Heap)
 | some ρ=>refK H ρ (c (renV (fun i=>ρ.idxOf i) f) (renL (fun i=>ρ.idxOf i) xs) (ρ.map fun i=>renE (fun i=>ρ.idxOf i) (H.getD i .dead)))
 | none=>none
theorem callK1_ref (c:Callee) (H:Heap) (f xs l l'):callK1 c H (some (f,l)) (some (xs,l'))=rchK c (locks H (l++l')) f xs (reach (locks H (l++l')) purse (refsV f++refsL xs) []):=by
 simp only [callK1]
 cases reach (locks H (l++l')) purse (refsV f++refsL xs) [] with
 | none=>rfl
 | some ρ =>
  simp only [Option.bind_some,rchK]
  cases c (renV (fun i=>ρ.idxOf i) f) (renL (fun i=>ρ.idxOf i) xs) (ρ.map fun i=>renE (fun i=>ρ.idxOf i) ((locks H (l++l')).getD i .dead))<;>rfl
theorem rchK_some (c:Callee) (H:Heap) (f xs ρ):rchK c H f xs (some ρ)=refK H ρ (c (renV (fun i=>ρ.idxOf i) f) (renL (fun i=>ρ.idxOf i) xs) (ρ.map fun i=>renE (fun i=>ρ.idxOf i) (H.getD i .dead))):=rfl
theorem refK_some (H:Heap) (ρ v Hn):refK H ρ (some (v,Hn))=some (renV (toGlob ρ H.length) v,setAll H ρ ((Hn.take ρ.length).map (renE (toGlob ρ H.length)))++(Hn.drop ρ.length).map (renE (toGlob ρ H.length))):=rfl
theorem setAll_cons (H:Heap) (i r e es):setAll H (i::r) (e::es)=setAll (H.set i e) r es:=rfl
theorem sweep_cons (R i e r):sweep R i (e::r)=if i∈R then e::sweep R (i+1) r else match sweep R (i+1) r with
  | []=>[]
  | r'=>.dead::r':=rfl
attribute [go_sem] cutE_whole
attribute [go_sem low] callK1_ref
attribute [go_sem] rchK_some refK_some setAll_cons setAll_nil toGlob sweep_cons List.idxOf_cons

section
variable (c:Callee) (ρ:Opd->AVal) (H:Heap)
def idxAK (len sz:Nat) (H:Heap) (x:AVal):AVal->Option (AVal × Heap)
 | .lit (.int _ n)=>if 0<=n then (if n.toNat<len then pairK H (addOff (n.toNat * sz) x) else none) else none
 | _=>none
theorem aop_idxA (len sz x i):aop c ρ H (.idxA len sz x i)=idxAK len sz H (ρ x) (ρ i):=by
 show (asNat (ρ i)).bind _=_
 rw [bind_asNat]
 cases ρ i with
 | lit v=>cases v<;>first | rfl | (simp only [natK,idxAK,map_pair])
 | _=>rfl
theorem idxAK_int (len sz x k n):idxAK len sz H x (.lit (.int k n))=if 0<=n then (if n.toNat<len then pairK H (addOff (n.toNat * sz) x) else none) else none:=rfl
def aggGetK (ag:Bool) (n off:Nat) (H:Heap):AVal->Option (AVal × Heap)
 | .agg cs=>pairK H (get1 ag n (cs.drop off))
 | _=>none
theorem aop_fieldV (ag n off x):aop c ρ H (.fieldV ag n off x)=aggGetK ag n off H (ρ x):=by
 simp only [aop]
 cases ρ x<;>first | rfl | exact map_pair _ _
theorem aggGetK_agg (ag n off cs):aggGetK ag n off H (.agg cs)=pairK H (get1 ag n (cs.drop off)):=rfl
def strIdxK (x:AVal) (H:Heap):AVal->Option (AVal × Heap)
 | .lit (.int _ n)=>if 0<=n then (match x with
  | .lit (.string s)=>(s.toList[n.toNat]?).map fun b=>(vint .u8 b.toNat,H)
  | _=>none) else none
 | _=>none
theorem aop_idxStr (x i):aop c ρ H (.idxStr x i)=strIdxK (ρ x) H (ρ i):=by
 show (asNat (ρ i)).bind _=_
 rw [bind_asNat]
 cases ρ i with
 | lit v=>cases v<;>first | rfl | (simp only [natK,strIdxK];rfl)
 | _=>rfl
def makeK (fl:Bool) (sz bytes:Nat) (zero:List AVal) (H:Heap):AVal->AVal->Option (AVal × Heap)
 | .lit (.int .i64 l),.lit (.int .i64 c) =>
   if 0<=l/\l<=c/\c<=2 ^ 46/\c * bytes<=2 ^ 46 then some (.own H.length l.toNat sz 0 l.toNat,H++[.arr fl false false sz (List.replicate l.toNat zero)]) else none
 | _,_=>none
theorem aop_make (fl sz b z l k):aop c ρ H (.make fl sz b z l k)=makeK fl sz b z H (ρ l) (ρ k):=by
 simp only [aop]
 unfold makeK
 split<;>split<;>simp_all
theorem makeK_int (fl sz bytes zero l c):makeK fl sz bytes zero H (.lit (.int .i64 l)) (.lit (.int .i64 c))=if 0<=l/\l<=c/\c<=2 ^ 46/\c * bytes<=2 ^ 46 then some (.own H.length l.toNat sz 0 l.toNat,H++[.arr fl false false sz (List.replicate l.toNat zero)]) else none:=rfl
def lenStrK (H:Heap):AVal->Option (AVal × Heap)
 | .lit (.string s)=>some (.lit (.int .i64 s.size),H)
 | _=>none
theorem aop_lenStr (x):aop c ρ H (.lenStr x)=lenStrK H (ρ x):=by
 simp only [aop]
 cases ρ x with
 | lit v=>cases v<;>rfl
 | _=>rfl
theorem lenStrK_str (s):lenStrK H (.lit (.string s))=some (.lit (.int .i64 s.size),H):=rfl
def nilChkK (H:Heap):AVal->Option (AVal × Heap)
 | .ptr i k=>some (.ptr i k,H)
 | .iptr fl es j k=>some (.iptr fl es j k,H)
 | .func fn a b=>match fn with
  | .func f=>some (.func (.func f) a b,H)
  | _=>none
 | .yld i=>some (.yld i,H)
 | _=>none
theorem aop_nilCheck (x):aop c ρ H (.nilCheck x)=nilChkK H (ρ x):=by
 simp only [aop]
 cases ρ x with
 | func fn a b=>cases fn<;>rfl
 | _=>rfl
end
attribute [go_sem] aop_idxA idxAK_int aop_fieldV aggGetK_agg aop_idxStr strIdxK aop_make makeK_int aop_lenStr lenStrK_str aop_nilCheck nilChkK
end Go.AM
namespace Go.AM
open Go
section
variable (E:Nat->Option IFn)
noncomputable def afterK (m i:Nat) (k:List Item) (τ:Tmps) (H:Heap):Option Entry->Option (Option Jump × Tmps × Heap)
 | some (.loop st pend _ _ _ _) =>
  if st=1 then none else
  match pend with
  | none=>run E m k τ (H.set i .dead)
  | some .ret=>some (some .ret,τ,H.set i .dead)
  | some (.exit id)=>exitK E m id τ (H.set i .dead) (exitTo id k)
 | _=>none
noncomputable def rangeK (m i:Nat) (k:List Item) (τ:Tmps):Option (AVal × Heap)->Option (Option Jump × Tmps × Heap)
 | some r=>afterK E m i k τ r.2 r.2[i]?
 | none=>none
theorem afterA_some {n m i k τ H r} (h:afterA E n m i k τ H=some r):afterK E m i k τ H H[i]?=some r:=by
 unfold afterA at h
 unfold afterK
 split at h
 ·rename_i st pend s ps a b he
  rw [he]
  simp only
  split at h
  ·cases h
  ·rename_i hst
   rw [if_neg hst]
   split at h
   ·exact (run_iff E).2 ⟨n,h⟩
   ·exact h
   ·rename_i id
    simp only
    split at h
    ·rename_i k' hk
     rw [hk]
     exact (run_iff E).2 ⟨n,h⟩
    ·rename_i hk
     rw [hk];exact h
 ·cases h
theorem afterK_some {m i k τ H r} (h:afterK E m i k τ H H[i]?=some r):∃ n,∀ n',n<=n'->afterA E n' m i k τ H=some r:=by
 unfold afterK at h
 unfold afterA
 split at h
 ·rename_i st pend s ps a b he
  rw [he]
  simp only
  split at h
  ·cases h
  ·rename_i hst
   simp only [if_neg hst]
   split at h
   ·obtain ⟨n,hn⟩:=(run_iff E).1 h
    refine ⟨n,fun n' hn'=>?_⟩
    have:=arun_add E (k:=n' - n) hn
    rwa [Nat.add_sub_cancel' hn'] at this
   ·exact ⟨0,fun _ _=>h⟩
   ·rename_i id
    simp only
    cases hk:exitTo id k with
    | none=>rw [hk] at h;exact ⟨0,fun _ _=>h⟩
    | some k' =>
     rw [hk] at h
     obtain ⟨n,hn⟩:=(run_iff E).1 h
     refine ⟨n,fun n' hn'=>?_⟩
     have:=arun_add E (k:=n' - n) hn
     rwa [Nat.add_sub_cancel' hn'] at this
 ·cases h
theorem run_range (m f u ps a b k τ H):run E m (.code (.range f u ps a b)::k) τ H =
  rangeK E m H.length k τ (withCall (call E) (ev τ f) [.yld H.length] (H++[.loop 0 none (keep τ u) ps a b])):=by
 refine opt_ext fun r=>?_
 rw [run_iff]
 constructor
 ·rintro ⟨n,hn⟩
  cases n with
  | zero=>simp [arun] at hn
  | succ n =>
   rw [arun_range,Option.bind_eq_some_iff] at hn
   obtain ⟨x,hx,hr⟩:=hn
   rw [withCall_le (le_call E n) hx]
   exact afterA_some E hr
 ·intro h
  cases hw:withCall (call E) (ev τ f) [.yld H.length] (H++[.loop 0 none (keep τ u) ps a b]) with
  | none=>rw [hw] at h;cases h
  | some x =>
   rw [hw] at h
   obtain ⟨n1,h1⟩:=withCall_fin E hw
   obtain ⟨n2,h2⟩:=afterK_some E h
   refine ⟨max n1 n2+1,?_⟩
   rw [arun_range,withCall_le (le_acall E (Nat.le_max_left n1 n2)) h1,Option.bind_some]
   exact h2 _ (Nat.le_max_right n1 n2)
theorem rangeK_some (m i k τ v H):rangeK E m i k τ (some (v,H))=afterK E m i k τ H H[i]?:=rfl
theorem afterK_none (m i k τ H st s ps a b):afterK E m i k τ H (some (.loop st none s ps a b))=if st=1 then none else run E m k τ (H.set i .dead):=rfl
theorem afterK_ret (m i k τ H st s ps a b):afterK E m i k τ H (some (.loop st (some .ret) s ps a b))=if st=1 then none else some (some .ret,τ,H.set i .dead):=rfl
theorem afterK_exit (m i k τ H st id s ps a b):afterK E m i k τ H (some (.loop st (some (.exit id)) s ps a b))=if st=1 then none else exitK E m id τ (H.set i .dead) (exitTo id k):=rfl

def endK2 (m i:Nat) (j:Option Jump) (H:Heap):Option Entry->Option (AVal × Heap)
 | some (.loop _ _ snap ps a b)=>gcRet m (vbool j.isNone) (H.set i (.loop (if j.isNone then 0 else 2) j snap ps a b))
 | _=>none
def endK (m i:Nat):Option (Option Jump × Tmps × Heap)->Option (AVal × Heap)
 | some (j,_,H)=>endK2 m i j H H[i]?
 | none=>none
noncomputable def bodyK2 (m i:Nat) (b:ICode) (τ:Tmps) (H:Heap):Option Entry->Option (AVal × Heap)
 | some (.loop st p snap ps a' b')=>if st=0 then endK m i (run E m [.code b] τ (H.set i (.loop 1 p snap ps a' b'))) else none
 | _=>none
noncomputable def bodyK (m i:Nat) (b:ICode):Option (Option Jump × Tmps × Heap)->Option (AVal × Heap)
 | some (none,τ,H)=>bodyK2 E m i b τ H H[i]?
 | _=>none
noncomputable def yldK (i:Nat) (args:List AVal) (H:Heap):Option Entry->Option (AVal × Heap)
 | some (.loop st _ snap ps a b)=>if st=0 then (if args.length≠ps.length then none else bodyK E H.length i b (run E H.length [.code a] (ps.zip args++snap) H)) else none
 | _=>none
theorem roundEnd_eq (m i u):roundEnd m i u=endK m i (some u):=by
 obtain ⟨j,τ,H⟩:=u
 simp only [roundEnd,endK,endK2]
 cases H[i]? with
 | none=>rfl
 | some e=>cases e<;>rfl
theorem roundBody_some {n m i b s r} (h:roundBody E n m i b s=some r):bodyK E m i b (some s)=some r:=by
 obtain ⟨j,τ,H⟩:=s
 cases j with
 | some j=>simp [roundBody] at h
 | none =>
  simp only [roundBody] at h
  simp only [bodyK,bodyK2]
  split at h
  ·rename_i p sn ps a b' he
   rw [he]
   simp only [Option.bind_eq_some_iff] at h
   obtain ⟨u,hu,hr⟩:=h
   simp only [if_true]
   rw [(run_iff E).2 ⟨n,hu⟩,<- roundEnd_eq];exact hr
  ·cases h
theorem roundBody_of {m i b s r} (h:bodyK E m i b (some s)=some r):∃ n,∀ n',n<=n'->roundBody E n' m i b s=some r:=by
 obtain ⟨j,τ,H⟩:=s
 cases j with
 | some j=>simp [bodyK] at h
 | none =>
  simp only [bodyK,bodyK2] at h
  cases he:H[i]? with
  | none=>rw [he] at h;simp at h
  | some e =>
   rw [he] at h
   cases e with
   | loop st p sn ps a b' =>
    simp only at h
    split at h
    ·rename_i hst
     subst hst
     cases hu:run E m [.code b] τ (H.set i (.loop 1 p sn ps a b')) with
     | none=>rw [hu] at h;simp [endK] at h
     | some u =>
      rw [hu,<- roundEnd_eq] at h
      obtain ⟨n,hn⟩:=(run_iff E).1 hu
      refine ⟨n,fun n' hn'=>?_⟩
      have:=arun_add E (k:=n' - n) hn
      rw [Nat.add_sub_cancel' hn'] at this
      simp only [roundBody,he,this,Option.bind_some,h]
    ·cases h
   | _=>simp at h
theorem call_yld (i args H):call E (.yld i) args H=yldK E i args H H[i]?:=by
 refine opt_ext fun r=>?_
 rw [call_iff]
 constructor
 ·rintro ⟨n,hn⟩
  cases n with
  | zero=>simp [acall] at hn
  | succ n =>
   rw [acall_yld] at hn
   split at hn
   ·rename_i p sn ps a b he
    rw [he]
    simp only [yldK,if_true]
    split at hn
    ·cases hn
    ·rename_i hl
     rw [if_neg hl]
     simp only [Option.bind_eq_some_iff] at hn
     obtain ⟨s,hs,hr⟩:=hn
     rw [(run_iff E).2 ⟨n,hs⟩]
     exact roundBody_some E hr
   ·cases hn
 ·intro h
  cases he:H[i]? with
  | none=>rw [he] at h;simp [yldK] at h
  | some e =>
   rw [he] at h
   cases e with
   | loop st p sn ps a b =>
    simp only [yldK] at h
    split at h
    ·rename_i hst
     subst hst
     split at h
     ·cases h
     ·rename_i hl
      cases hs:run E H.length [.code a] (ps.zip args++sn) H with
      | none=>rw [hs] at h;simp [bodyK] at h
      | some s =>
       rw [hs] at h
       obtain ⟨n1,h1⟩:=(run_iff E).1 hs
       obtain ⟨n2,h2⟩:=roundBody_of E h
       refine ⟨max n1 n2+1,?_⟩
       have h1':=arun_add E (k:=max n1 n2 - n1) h1
       rw [Nat.add_sub_cancel' (Nat.le_max_left n1 n2)] at h1'
       rw [acall_yld,he]
       simp only [if_neg hl,h1',Option.bind_some]
       exact h2 _ (Nat.le_max_right n1 n2)
    ·cases h
   | _=>simp [yldK] at h
theorem yldK_loop (i args H p sn ps a b):yldK E i args H (some (.loop 0 p sn ps a b))=if args.length≠ps.length then none else bodyK E H.length i b (run E H.length [.code a] (ps.zip args++sn) H):=rfl
theorem bodyK_none (m i b τ H):bodyK E m i b (some (none,τ,H))=bodyK2 E m i b τ H H[i]?:=rfl
theorem bodyK2_loop (m i b τ H p sn ps a' b'):bodyK2 E m i b τ H (some (.loop 0 p sn ps a' b'))=endK m i (run E m [.code b] τ (H.set i (.loop 1 p sn ps a' b'))):=rfl
theorem endK_some (m i j τ H):endK m i (some (j,τ,H))=endK2 m i j H H[i]?:=rfl
theorem endK2_loop (m i j H st p sn ps a b):endK2 m i j H (some (.loop st p sn ps a b))=gcRet m (vbool j.isNone) (H.set i (.loop (if j.isNone then 0 else 2) j sn ps a b)):=rfl

theorem run_reg1 (m ops c chk k τ H):run E m (.code (.reg ops (c::chk) [])::k) τ H =
  if (c::chk).all (calm (call E) ops (hist (call E) ops τ H))=true then runK E m k (aops (call E) ops τ H) else none:=by
 rw [run_reg]
 show (if ((c::chk).all (calm (call E) ops (hist (call E) ops τ H)) && [].all (aside (call E) ops (hist (call E) ops τ H)))=true then aops (call E) ops τ H else none).bind _=_
 rw [List.all_nil,Bool.and_true]
 split
 ·cases aops (call E) ops τ H<;>rfl
 ·rfl
end
def histK (c:Callee) (d:Option Nat) (r:List IOper) (τ:Tmps):Option (AVal × Heap)->List (Tmps × Heap)
 | some x=>hist c r (put d x.1 τ) x.2
 | none=>[]
theorem hist_nil (c τ H):hist c [] τ H=[(τ,H)]:=rfl
theorem hist_cons (c d op r τ H):hist c (⟨none,d,op⟩::r) τ H=(τ,H)::histK c d r τ (aop c (ev τ) H op):=by
 show (τ,H)::_=_
 congr 1
theorem hist_g (c t w d op r τ H):hist c (⟨some (t,w),d,op⟩::r) τ H=(τ,H)::histK c d r τ (guardK c w (ev τ) H op (lk t τ)):=by
 show (τ,H)::_=_
 congr 1
theorem histK_some (c d r τ v H):histK c d r τ (some (v,H))=hist c r (put d v τ) H:=rfl
noncomputable def calm3:Option (AVal × Heap)->Option (AVal × Heap)->Option (AVal × Heap)->Bool
 | some x,some y,some z=>decide (x.1=y.1) && decide (x.1=z.1)
 | _,_,_=>false
noncomputable def calm4 (c:Callee):Option IOper->Option (Tmps × Heap)->Option (Tmps × Heap)->Option (Tmps × Heap)->Bool
 | some o,some s,some a,some b=>calm3 (aval c o s.1 s.2) (aval c o s.1 a.2) (aval c o s.1 b.2)
 | _,_,_,_=>false
theorem calm_eq (c ops hs i j):calm c ops hs (i,j)=calm4 c ops[i]? hs[i]? hs[j]? hs[j+1]?:=by
 unfold calm calm4
 simp only
 cases ops[i]? with
 | none=>rfl
 | some o =>
  cases hs[i]? with
  | none=>rfl
  | some s =>
   cases hs[j]? with
   | none=>rfl
   | some a =>
    cases hs[j+1]? with
    | none=>rfl
    | some b =>
     obtain ⟨τ,H⟩:=s
     obtain ⟨τa,Ha⟩:=a
     obtain ⟨τb,Hb⟩:=b
     simp only [calm3]
     cases aval c o τ H with
     | none=>rfl
     | some x=>cases aval c o τ Ha with
      | none=>rfl
      | some y=>cases aval c o τ Hb<;>rfl
theorem calm4_some (c o s a b):calm4 c (some o) (some s) (some a) (some b)=calm3 (aval c o s.1 s.2) (aval c o s.1 a.2) (aval c o s.1 b.2):=rfl
theorem calm3_some (x y z):calm3 (some x) (some y) (some z)=(decide (x.1=y.1) && decide (x.1=z.1)):=rfl
theorem aval_0 (c d op τ H):aval c ⟨none,d,op⟩ τ H=aop c (ev τ) H op:=rfl
theorem aval_g (c t w d op τ H):aval c ⟨some (t,w),d,op⟩ τ H=guardK c w (ev τ) H op (lk t τ):=rfl
theorem exitK_none (E:Nat->Option IFn) (m id τ H):exitK E m id τ H none=some (some (.exit id),τ,H):=rfl
attribute [go_sem ↓] run_range run_reg1
attribute [go_sem] exitK_none
attribute [go_sem] rangeK_some afterK_none afterK_ret afterK_exit call_yld yldK_loop bodyK_none bodyK2_loop endK_some endK2_loop
 hist_nil hist_cons hist_g histK_some calm_eq calm4_some calm3_some aval_0 aval_g

section
variable (c:Callee) (ρ:Opd->AVal) (H:Heap)
def strK (H:Heap):Option (List UInt8)->Option (AVal × Heap)
 | some l=>some (.lit (.string (ByteArray.mk l.toArray)),H)
 | none=>none
def toStrK (H:Heap):AVal->Option (AVal × Heap)
 | .lit (.string s)=>some (.lit (.string s),H)
 | v=>strK H ((content H v).bind fun r=>bytesOf r.2)
theorem aop_toStr (x):aop c ρ H (.toStr x)=toStrK H (ρ x):=by
 have h:∀ v:AVal,((content H v).bind fun r=>(bytesOf r.2).map fun l=>(AVal.lit (.string (ByteArray.mk l.toArray)),H))=strK H ((content H v).bind fun r=>bytesOf r.2):=by
  intro v
  cases content H v with
  | none=>rfl
  | some r=>simp only [Option.bind_some];cases bytesOf r.2<;>rfl
 simp only [aop,toStrK]
 split
 ·rename_i s hs;rw [hs]
 ·rename_i hs
  rw [h]
  split
  ·rename_i s hs2;exact absurd hs2 (fun e=>hs s e)
  ·rfl
theorem toStrK_imm (n fu fl es):toStrK H (.imm n fu fl es)=strK H (bytesOf es):=rfl
theorem toStrK_own (i l z o n):toStrK H (.own i l z o n)=strK H ((contK l z o n H[i]?).bind fun r=>bytesOf r.2):=by
 show strK H ((content H (.own i l z o n)).bind fun r=>bytesOf r.2)=_
 rw [content_own]
theorem toStrK_str (s):toStrK H (.lit (.string s))=some (.lit (.string s),H):=rfl
theorem strK_some (l):strK H (some l)=some (.lit (.string (ByteArray.mk l.toArray)),H):=rfl
end
theorem abin_seql (x y:ByteArray):abin .eql (.lit (.string x)) (.lit (.string y))=some (.lit (.bool (x.toList == y.toList))):=rfl
theorem abin_sneq (x y:ByteArray):abin .neq (.lit (.string x)) (.lit (.string y))=some (.lit (.bool (!(x.toList == y.toList)))):=rfl
attribute [go_sem] aop_toStr toStrK_imm toStrK_own toStrK_str strK_some abin_seql abin_sneq
section
variable (c:Callee) (ρ:Opd->AVal) (H:Heap)
theorem aop_mapNew:aop c ρ H .mapNew=some (.mref H.length,H++[.map []]):=rfl
def mgetK (z:AVal) (n:Int) (H:Heap):Option Entry->Option (AVal × Heap)
 | some (.map es)=>some ((mfind n es).getD z,H)
 | _=>none
def mapGetK (z:AVal) (H:Heap):AVal->AVal->Option (AVal × Heap)
 | .mref i,.lit (.int .i64 n)=>mgetK z n H H[i]?
 | _,_=>none
theorem aop_mapGet (z m k):aop c ρ H (.mapGet z m k)=mapGetK z H (ρ m) (ρ k):=by
 simp only [aop]
 unfold mapGetK mgetK
 rfl
theorem mapGetK_ref (z i n):mapGetK z H (.mref i) (.lit (.int .i64 n))=mgetK z n H H[i]?:=rfl
theorem mgetK_map (z n es):mgetK z n H (some (.map es))=some ((mfind n es).getD z,H):=rfl
def msetK (i:Nat) (n:Int) (v:AVal) (H:Heap):Option Entry->Option (AVal × Heap)
 | some (.map es)=>(cellsO v).bind fun vs=>if vs.length=1 then some (.lit (.tuple #[]),H.set i (.map (mput n v es))) else none
 | _=>none
def mapSetK (v:AVal) (H:Heap):AVal->AVal->Option (AVal × Heap)
 | .mref i,.lit (.int .i64 n)=>msetK i n v H H[i]?
 | _,_=>none
theorem aop_mapSet (m k v):aop c ρ H (.mapSet m k v)=mapSetK (ρ v) H (ρ m) (ρ k):=by
 simp only [aop]
 unfold mapSetK msetK
 rfl
theorem mapSetK_ref (v i n):mapSetK v H (.mref i) (.lit (.int .i64 n))=msetK i n v H H[i]?:=rfl
theorem msetK_imm (i n nl fu fl rows es):msetK i n (.imm nl fu fl rows) H (some (.map es))=some (.lit (.tuple #[]),H.set i (.map (mput n (.imm nl fu fl rows) es))):=rfl
theorem msetK_own (i n j l z o k es):msetK i n (.own j l z o k) H (some (.map es))=some (.lit (.tuple #[]),H.set i (.map (mput n (.own j l z o k) es))):=rfl
end
attribute [go_sem] aop_mapNew aop_mapGet aop_mapSet mapGetK_ref mgetK_map mapSetK_ref msetK_imm msetK_own snapV_mref
theorem aop_callR (c:Callee) (ρ:Opd->AVal) (H:Heap) (f xs):aop c ρ H (.callR f xs)=rchK c H (.func (.func f) [] []) (xs.map ρ) (reach H purse (refsL (xs.map ρ)) []):=by
 simp only [aop,withCallR]
 rw [show refsV (.func (.func f) [] [])=[] from rfl,List.nil_append]
 cases reach H purse (refsL (xs.map ρ)) [] with
 | none=>rfl
 | some R =>
  simp only [Option.bind_some,rchK]
  cases c (renV (fun i=>R.idxOf i) (.func (.func f) [] [])) (renL (fun i=>R.idxOf i) (xs.map ρ)) (R.map fun i=>renE (fun i=>R.idxOf i) (H.getD i .dead)) with
  | none=>rfl
  | some r=>rfl
attribute [go_sem] aop_callR
end Go.AM
