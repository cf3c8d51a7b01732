/- A machine of its own for the loaded program's code, and that it is sound: what it answers, a call of the program answers. -/
import Derived.Test.YtefpgafgpanpfaaGreatAm1
import Derived.AtR
import Derived.RangeFuncRecord
import Derived.Orders
import Derived.RangeFuncLeaves
import Derived.Deep.Slices
import Derived.Carry
import Derived.ChangeArms
import Derived.OpenShut
set_option linter.unusedVariables false
set_option linter.unusedSimpArgs false
set_option maxHeartbeats 16000000
namespace Go.AM
section
variable {callee:Callee} {P:Program} {C:Ctx} {H H':Heap} {v:AVal} {ρ:Opd->AVal} {ρr:Operand->Value} {o:Oper}

theorem flatV_ofV {v:Value} {a:AVal} (h:ofV v=some a):flatV a=true:=by
 unfold ofV at h
 split at h<;>first
  | (cases h;rfl)
  | (obtain ⟨_,h⟩:=Option.ite_none_right_eq_some.1 h;cases h;rfl)
  | cases h
theorem flatL_ofVs:∀ {l:List Value} {as:List AVal},ofVs l=some as->flatL as=true
 | [],as,h=>by simp [ofVs] at h;subst h;rfl
 | v::r,as,h=>by
  simp only [ofVs,Option.bind_eq_some_iff,Option.map_eq_some_iff] at h
  obtain ⟨a,ha,bs,hb,rfl⟩:=h
  rw [flatL,flatV_ofV ha,flatL_ofVs hb];rfl
theorem flatL_zero {e:TypeId} {z:List AVal} (h:zeroOf P e=some z):flatL z=true:=by
 simp only [zeroOf,Option.bind_eq_some_iff] at h
 obtain ⟨v,_,hz⟩:=h
 exact flatL_ofVs hz
theorem flatLL_replicate {z:List AVal} (h:flatL z=true):∀ n,flatLL (List.replicate n z)=true
 | 0=>rfl
 | n+1=>by rw [List.replicate_succ,flatLL,h,flatLL_replicate h n];rfl

theorem heap_new (w:World) (o:Obj):(w.alloc o).heap[w.heap.size]?=some o:=by
 show (w.heap.push o)[w.heap.size]?=some o
 simp

theorem push_box {cs:List AVal} {c:Array Value} {t:TypeId} (hH:HR P C H) (hx:RL C cs c.toList) (h1:∀ v∈c.toList,v.oneCell'=true) :
  ∃ C',C'.w=C.w.alloc (.cells c t)/\HR P C' (H++[.box cs])/\Nx C C'/\RV C' (.ptr H.length 0) (.pointer (some ⟨C.w.heap.size,0,none⟩)):=by
 let C':Ctx:={ ν:=upd C.ν H.length C.w.heap.size,sh:=upd C.sh H.length (some .box),Fz:=C.Fz,w:=C.w.alloc (.cells c t) }
 have s1:C'.sh H.length=some .box:=upd_same _ _ _
 have s2:C'.ν H.length=C.w.heap.size:=upd_same _ _ _
 have hp:=hH.push (C':=C') (o:=.cells c t) (e:=.box cs) (s:=.box) rfl rfl rfl rfl (fun N=>by
  refine ⟨s1,c,t,?_,RL_id N.tr (fun _ _=>trivial) hx,h1,fun o ho=>?_⟩
  ·rw [s2];exact heap_new _ _
  ·rw [s2] at ho;exact absurd (hH.low _ _ ho) (Nat.lt_irrefl _))
 exact ⟨C',rfl,hp.1,hp.2,_,rfl,.inr ⟨s1,by rw [s2]⟩⟩

theorem push_arr {fl full:Bool} {sz cp n:Nat} {es:List (List AVal)} {c:Array Value} {t:TypeId} (hH:HR P C H) (h0:0<sz) (hn:es.length=n) (hc:cp * sz<=c.size) (hcp:n<=cp) (hfull:full=true->cp=n)
  (hrows:∀ r∈es,r.length=sz) (hx:RL C es.flatten (c.toList.take (n * sz))) (h1:∀ v∈c.toList,v.oneCell'=true) (hfl:fl=true->flatLL es=true) :
  ∃ C',C'.w=C.w.alloc (.cells c t)/\HR P C' (H++[.arr fl false full sz es])/\Nx C C'/\RV C' (.own H.length n sz 0 n) (.slice (some ⟨C.w.heap.size,0,none⟩) n cp):=by
 let C':Ctx:={ ν:=upd C.ν H.length C.w.heap.size,sh:=upd C.sh H.length (some (.arr n sz cp)),Fz:=C.Fz,w:=C.w.alloc (.cells c t) }
 have s1:C'.sh H.length=some (.arr n sz cp):=upd_same _ _ _
 have s2:C'.ν H.length=C.w.heap.size:=upd_same _ _ _
 have hp:=hH.push (C':=C') (o:=.cells c t) (e:=.arr fl false full sz es) (s:=.arr n sz cp) rfl rfl rfl rfl (fun N=>by
  refine ⟨c,t,cp,by rw [hn];exact s1,?_,hc,by omega,h0,fun e=>by rw [hn];exact hfull e,hrows,?_,h1,hfl,fun o ho=>?_⟩
  ·rw [s2];exact heap_new _ _
  ·rw [hn];exact RL_id N.tr (fun _ _=>trivial) hx
  ·rw [s2] at ho;exact absurd (hH.low _ _ ho) (Nat.lt_irrefl _))
 exact ⟨C',rfl,hp.1,hp.2,_,cp,rfl,hcp,.inr ⟨n,sz,cp,s1,Nat.le_refl _,fun _ _=>⟨by omega,by omega,.inr (by rw [s2];simp)⟩⟩⟩

theorem run_zeroValue' {t:TypeId} {i:TypeInfo} {z:Value} (hi:P.info? t=some i) (hz:i.zero=some z) (w:World):(zeroValue t).run P w=.ok z w:=by
 simp [zeroValue,typeInfo,hi,hz]

theorem op_alloc {t:TypeId} {z:List AVal} (hH:HR P C H) (he:execOp ρr o=valS (Instr.alloc t true (.tuple #[]))) (hz:zeroOf P t=some z) (h:aop callee ρ H (.alloc z)=some (v,H')) :
  Goes P (execOp ρr o) C.w (After P C v H'):=by
 simp only [aop,Option.some.injEq,Prod.mk.injEq] at h
 obtain ⟨rfl,rfl⟩:=h
 obtain ⟨i,x,hi,hx,hrl,hone,_⟩:=zeroOf_spec hz
 obtain ⟨C',e1,e2,e3,e4⟩:=push_box (t:=t) hH (hrl C) hone
 rw [he]
 refine goes_val ?_ ⟨C',rfl,e2,e3,e4⟩
 rw [e1]
 simp [Instr.alloc,run_zeroValue' hi hx,newVar,newRow]

theorem op_box {t:TypeId} {n:Nat} {x:Operand} {a:Opd} (hH:HR P C H) (hρ:RO' C ρ ρr) (he:execOp ρr o=valS (Instr.box t (ρr x))) (ha:opd x=some a) (h:aop callee ρ H (.box n a)=some (v,H')) :
  Goes P (execOp ρr o) C.w (After P C v H'):=by
 simp only [aop,Option.bind_eq_some_iff] at h
 obtain ⟨cs,hc,h⟩:=h
 obtain ⟨_,h⟩:=Option.ite_none_right_eq_some.1 h
 cases h
 obtain ⟨h1,h2⟩:=cells_rel (hρ.ro x a ha) hc
 obtain ⟨C',e1,e2,e3,e4⟩:=push_box (t:=t) hH h1 h2
 rw [he]
 refine goes_val ?_ ⟨C',rfl,e2,e3,e4⟩
 rw [e1]
 simp [Instr.box,newVar,newRow]

theorem op_store {t:TypeId} {n:Nat} {x y:Operand} {a b:Opd} (hH:HR P C H) (hρ:RO' C ρ ρr) (he:execOp ρr o=(do Instr.storeAt t (ρr x) (ρr y);pure .skip)) (hu:(P.underlying t).isSome=true) (hn:P.cellsOf t=n) (ha:opd x=some a) (hb:opd y=some b)
  (h:aop callee ρ H (.store n a b)=some (v,H')):Goes P (execOp ρr o) C.w (After P C v H'):=by
 simp only [aop,Option.map_eq_some_iff,Prod.mk.injEq,astore,Option.bind_eq_some_iff] at h
 obtain ⟨H2,⟨vs,hvs,hput⟩,rfl,rfl⟩:=h
 obtain ⟨d,hd⟩:=Option.isSome_iff_exists.1 hu
 obtain ⟨h1,h2⟩:=cells_rel (hρ.ro y b hb) hvs
 obtain ⟨C',e1,e2,e3⟩:=sim_store hH hd hn (hρ.ro x a ha) h1 h2 hput
 rw [he]
 refine Goes.skip (w':=C'.w) ?_ ⟨C',rfl,e2,e3,rfl⟩
 simp [e1]


theorem foldl_set (off:Nat):∀ (vs:List Value) (k:Nat) (cs:Array Value),off+k+vs.length<=cs.size ->
  ((vs.zipIdx k).foldl (fun (cs:Array Value) (p:Value × Nat)=>cs.setIfInBounds (off+p.2) p.1) cs).toList=cs.toList.take (off+k)++vs++cs.toList.drop (off+k+vs.length)
 | [],k,cs,h=>by simp
 | v::r,k,cs,h=>by
  simp only [List.length_cons] at h
  rw [List.zipIdx_cons,List.foldl_cons,foldl_set off r (k+1) _ (by simp;omega)]
  have hlt:off+k<cs.toList.length:=by simp;omega
  simp only [Array.toList_setIfInBounds]
  rw [show off+(k+1)=off+k+1 by omega,List.take_add_one,List.getElem?_set_self hlt,List.take_set_of_le (Nat.le_refl _),List.drop_set_of_lt (by omega)]
  simp [Nat.add_assoc,Nat.add_comm,Nat.add_left_comm]

theorem fill_rel {place:Nat->Option (Nat × Nat)} (hρ:RO' C ρ ρr):∀ (ps:List (Nat × Operand)) (l:List (Nat × Nat × Opd)) (cs out:List AVal) (cr:Array Value),partsOf place ps=some l->RL C cs cr.toList->(∀ v∈cr.toList,v.oneCell'=true)->afill ρ cs l=some out ->
  ∃ outr,Instr.fill place cr (ps.map fun p=>(p.1,ρr p.2))=some outr/\RL C out outr.toList/\∀ v∈outr.toList,v.oneCell'=true
 | [],l,cs,out,cr,hp,hx,h1,h=>by
  simp only [partsOf,Option.some.injEq] at hp;subst hp
  simp only [afill,Option.some.injEq] at h;subst h
  exact ⟨cr,rfl,hx,h1⟩
 | (i,x)::r,l,cs,out,cr,hp,hx,h1,h=>by
  simp only [partsOf,Option.bind_eq_some_iff,Option.map_eq_some_iff] at hp
  obtain ⟨p,hp1,a,ha,l',hl,rfl⟩:=hp
  simp only [afill,Option.bind_eq_some_iff] at h
  obtain ⟨vs,hvs,h⟩:=h
  obtain ⟨⟨hn,hle⟩,h⟩:=Option.ite_none_right_eq_some.1 h
  obtain ⟨e1,e2⟩:=cells_rel (hρ.ro x a ha) hvs
  have hvl:=RL_length e1
  have hcl:=RL_length hx
  have hsz:(ρr x).cells.size=p.2:=by rw [<- hn];simpa using hvl
  have hcs:cr.size=cs.length:=by simpa using hcl
  have hset:((ρr x).cells.zipIdx.foldl (fun (cs:Array Value) (p_1:Value × Nat)=>cs.setIfInBounds (p.1+p_1.2) p_1.1) cr).toList=cr.toList.take p.1++(ρr x).cells.toList++cr.toList.drop (p.1+(ρr x).cells.toList.length):=by
   have:=foldl_set p.1 (ρr x).cells.toList 0 cr (by simp only [Array.length_toList,hsz];omega)
   rw [Nat.add_zero] at this
   rw [<- this,<- Array.foldl_toList,Array.toList_zipIdx]
  have hov:=RL_over hx e1 p.1
  rw [<- hset] at hov
  obtain ⟨outr,k1,k2,k3⟩:=fill_rel hρ r l' (over cs p.1 vs) out _ hl hov (by
   rw [hset]
   intro v hv
   simp only [List.mem_append] at hv
   rcases hv with (hv | hv) | hv
   ·exact h1 v (List.mem_of_mem_take hv)
   ·exact e2 v hv
   ·exact h1 v (List.mem_of_mem_drop hv)) h
  refine ⟨outr,?_,k2,k3⟩
  rw [List.map_cons,Instr.fill,hp1]
  have:(¬ ((ρr x).cells.size≠p.2)/\¬ (p.1+(ρr x).cells.size > cr.size)):=⟨by rw [hsz];simp,by rw [hsz];omega⟩
  simp only []
  rw [if_neg (by simp [hsz];omega)]
  exact k1

theorem op_build_struct {t:TypeId} {fs:Array Field} {z:List AVal} {ps:Array (Nat × Operand)} {l:List (Nat × Nat × Opd)} (hH:HR P C H) (hρ:RO' C ρ ρr) (he:execOp ρr o=valS (Instr.build t (ps.map fun (i,x)=>(i,ρr x)))) (hz:zeroOf P t=some z)
  (hu:P.underlying t=some (.struct fs)) (hf:(fs.all fun f=>(P.info? f.type).isSome)=true) (hl:partsOf (fun i=>(fs[i]?).map fun f=>(f.offset,P.cellsOf f.type)) ps.toList=some l)
  (h:aop callee ρ H (.build z l)=some (v,H')):Goes P (execOp ρr o) C.w (After P C v H'):=by
 simp only [aop,Option.map_eq_some_iff,Prod.mk.injEq] at h
 obtain ⟨out,hout,rfl,rfl⟩:=h
 obtain ⟨i,x,hi,hx,hrl,hone,_⟩:=zeroOf_spec hz
 obtain ⟨outr,k1,k2,k3⟩:=fill_rel hρ ps.toList l z out x.cells hl (hrl C) hone hout
 rw [he]
 refine goes_read (r:=.agg outr) hH ?_ ⟨outr,rfl,k3,k2⟩
 have hm:∀ (l:List Field),(∀ f∈l,(P.info? f.type).isSome=true)->(l.mapM fun f=>(do pure (f.offset,<- sizeOf f.type):Sem (Nat × Nat))).run P C.w=.ok (l.map fun f=>(f.offset,P.cellsOf f.type)) C.w:=by
  intro l
  induction l with
  | nil=>intro _;rfl
  | cons f r ih =>
   intro hl
   rw [List.mapM_cons]
   simp only [Sem.run_bind,run_sizeOf' (hl f (by simp)),Result.andThen_ok,Sem.run_pure,ih (fun g hg=>hl g (by simp [hg])),List.map_cons]
 have hmA:(fs.mapM fun f=>(do pure (f.offset,<- sizeOf f.type):Sem (Nat × Nat))).run P C.w=.ok (fs.map fun f=>(f.offset,P.cellsOf f.type)) C.w:=by
  rw [Array.mapM_eq_mapM_toList]
  have hall:∀ f∈fs.toList,(P.info? f.type).isSome=true:=by
   intro f hf'
   have:=Array.all_eq_true_iff_forall_mem.1 hf f (by simpa using hf')
   exact this
  have:=hm fs.toList hall
  rw [map_eq_pure_bind,Sem.run_bind,this,Result.andThen_ok,Sem.run_pure,<- Array.toList_map]
 have hpl:(fun (i:Nat)=>(fs.map fun (f:Field)=>(f.offset,P.cellsOf f.type))[i]?)=(fun (i:Nat)=>(fs[i]?).map fun (f:Field)=>(f.offset,P.cellsOf f.type)):=by
  funext i;simp
 have hps:(ps.map fun (i,x)=>(i,ρr x)).toList=ps.toList.map fun p=>(p.1,ρr p.2):=by simp
 simp only [Instr.build,Sem.run_bind,run_zeroValue' hi hx,Result.andThen_ok,run_underlying hu,hmA]
 rw [hpl]
 simp only [hps,k1,Sem.run_pure]

theorem op_build_array {t e:TypeId} {n:Nat} {z:List AVal} {ps:Array (Nat × Operand)} {l:List (Nat × Nat × Opd)} (hH:HR P C H) (hρ:RO' C ρ ρr) (he:execOp ρr o=valS (Instr.build t (ps.map fun (i,x)=>(i,ρr x)))) (hz:zeroOf P t=some z)
  (hu:P.underlying t=some (.array n e)) (hf:(P.info? e).isSome=true) (hl:partsOf (fun i=>some (i * P.cellsOf e,P.cellsOf e)) ps.toList=some l)
  (h:aop callee ρ H (.build z l)=some (v,H')):Goes P (execOp ρr o) C.w (After P C v H'):=by
 simp only [aop,Option.map_eq_some_iff,Prod.mk.injEq] at h
 obtain ⟨out,hout,rfl,rfl⟩:=h
 obtain ⟨i,x,hi,hx,hrl,hone,_⟩:=zeroOf_spec hz
 obtain ⟨outr,k1,k2,k3⟩:=fill_rel hρ ps.toList l z out x.cells hl (hrl C) hone hout
 rw [he]
 refine goes_read (r:=.agg outr) hH ?_ ⟨outr,rfl,k3,k2⟩
 have hps:(ps.map fun (i,x)=>(i,ρr x)).toList=ps.toList.map fun p=>(p.1,ρr p.2):=by simp
 simp only [Instr.build,Sem.run_bind,run_zeroValue' hi hx,Result.andThen_ok,run_underlying hu,run_sizeOf' hf,hps,k1,Sem.run_pure]

theorem putObj_env' {w:World} {b:Nat} {o o':Obj} (hb:w.heap[b]?=some o) (hc:∀ c t f,o≠.cells c t f) (hc':∀ c t f,o'≠.cells c t f):Env w (w.putObj b o'):=by
 have hlt:b<w.heap.size:=(Array.getElem?_eq_some_iff.1 hb).1
 refine ⟨rfl,rfl,rfl,fun a=>?_⟩
 unfold World.frozen?
 by_cases h:a.block=b
 ·rw [h,World.putObj_heap_same hlt,hb]
  cases o<;>cases o'<;>first | rfl | exact absurd rfl (hc _ _ _) | exact absurd rfl (hc' _ _ _)
 ·rw [World.putObj_heap_other h]

theorem find_rel {C:Ctx} {n:Int}:∀ {es:List (Int × AVal)} {ms:List MapEntry} (i:Nat),RM C es ms ->
  (mfind n es=none/\Instr.findNow (.int .i64) (.int .i64 n) ms i=some none/\∀ x xr born,RV C x xr->RM C (mput n x es) (ms++[{ key:=.int .i64 n,val:=xr,born:=born }])) ∨
  (∃ v j m,mfind n es=some v/\Instr.findNow (.int .i64) (.int .i64 n) ms i=some (some (i+j,m.val))/\ms[j]?=some m/\m.key=.int .i64 n/\RV C v m.val/\∀ x xr,RV C x xr->RM C (mput n x es) (ms.modify j fun e=>{ e with key:=.int .i64 n,val:=xr }))
 | [],ms,i,h=>by
  have h:ms=[]:=h
  subst h
  exact .inl ⟨rfl,rfl,fun x xr born hx=>⟨_,[],rfl,rfl,hx,rfl⟩⟩
 | (k, v)::r,ms,i,h=>by
  obtain ⟨m,s,rfl,h1,h2,h3⟩:=h
  have h1:m.key=.int .i64 k:=h1
  by_cases e:n=k
  ·subst e
   refine .inr ⟨v,0,m,by simp [mfind],?_,rfl,h1,h2,fun x xr hx=>?_⟩
   ·simp [Instr.findNow,h1,Instr.sameNow]
   ·simp only [mput,if_true]
    exact ⟨_,s,rfl,rfl,hx,h3⟩
  ·have hf:Instr.findNow (.int .i64) (.int .i64 n) (m::s) i=Instr.findNow (.int .i64) (.int .i64 n) s (i+1):=by
    have e':(n == k)=false:=by simpa using e
    simp [Instr.findNow,h1,Instr.sameNow,e']
   rcases find_rel (i+1) h3 with ⟨a1,a2,a3⟩ | ⟨v',j,m',a1,a2,a3,a4,a5,a6⟩
   ·refine .inl ⟨by simp only [mfind,if_neg e];exact a1,by rw [hf];exact a2,fun x xr born hx=>?_⟩
    simp only [mput,if_neg e]
    exact ⟨m,_,rfl,h1,h2,a3 x xr born hx⟩
   ·refine .inr ⟨v',j+1,m',by simp only [mfind,if_neg e];exact a1,by rw [hf,a2,show i+1+j=i+(j+1) by omega],a3,a4,a5,fun x xr hx=>?_⟩
    simp only [mput,if_neg e]
    exact ⟨m,_,rfl,h1,h2,a6 x xr hx⟩

theorem mapT_spec {t:TypeId} (h:mapT P t=true):∃ k e i,P.underlying t=some (.map k e)/\P.underlying k=some (.int .i64)/\P.info? e=some i/\i.zero=some (.slice none 0 0):=by
 unfold mapT at h
 split at h
 ·rename_i k e hu
  rw [Bool.and_eq_true] at h
  obtain ⟨h1,h2⟩:=h
  split at h1
  ·rename_i hk
   split at h2
   ·rename_i hz
    simp only [Option.bind_eq_some_iff] at hz
    obtain ⟨i,hi,hz⟩:=hz
    exact ⟨k,e,i,hu,hk,hi,hz⟩
   ·cases h2
  ·cases h1
 ·cases h

theorem run_checkKey {k:TypeId} {v:Value} (h:P.underlying k=some (.int .i64)) (b:Bool) (w:World):(Instr.checkKey b 10000 k v).run P w=.ok () w:=by
 rw [Instr.checkKey]
 simp only [Sem.run_bind,run_underlying h,Result.andThen_ok]
 rfl
theorem run_findKey {k:TypeId} {v:Value} {ms:List MapEntry} {r:Option (Nat × Value)} (h:P.underlying k=some (.int .i64)) (hf:Instr.findNow (.int .i64) v ms 0=some r) (w:World):(Instr.findKey k v ms).run P w=.ok r w:=by
 unfold Instr.findKey
 simp only [Sem.run_bind,run_underlying h,Result.andThen_ok,hf]
 rfl
theorem run_getMap {w:World} {r:Nat} {es:Array MapEntry} {clock:Nat} (hb:w.heap[r]?=some (.map es clock)):(getObj r).run P w=.ok (.map es clock) w:=by simp [getObj,Sem.run,hb]
theorem run_setMap {w:World} {r:Nat} {es:Array MapEntry} {clock:Nat} (o:Obj) (hb:w.heap[r]?=some (.map es clock)):(setObj r o).run P w=.ok () (w.putObj r o):=by simp [setObj,Sem.run,hb,World.putObj]

theorem run_lookup_no {t k e:TypeId} {i:TypeInfo} {z kv:Value} {w:World} {r:Nat} {ms:Array MapEntry} {ck:Nat} (hu:P.underlying t=some (.map k e)) (hk:P.underlying k=some (.int .i64)) (hi:P.info? e=some i) (hz:i.zero=some z) (hb:w.heap[r]?=some (.map ms ck))
  (hf:Instr.findNow (.int .i64) kv ms.toList 0=some none):(Instr.lookup t (.map (some r)) kv false).run P w=.ok z w:=by
 unfold Instr.lookup
 simp [run_underlying hu,run_getMap hb,run_checkKey hk,run_findKey hk hf,run_zeroValue' hi hz]
theorem run_lookup_yes {t k e:TypeId} {kv v:Value} {w:World} {r j:Nat} {ms:Array MapEntry} {ck:Nat} (hu:P.underlying t=some (.map k e)) (hk:P.underlying k=some (.int .i64)) (hb:w.heap[r]?=some (.map ms ck))
  (hf:Instr.findNow (.int .i64) kv ms.toList 0=some (some (j,v))):(Instr.lookup t (.map (some r)) kv false).run P w=.ok v w:=by
 unfold Instr.lookup
 simp [run_underlying hu,run_getMap hb,run_checkKey hk,run_findKey hk hf]
theorem run_mapUpdate_no {t k e:TypeId} {kv x:Value} {w:World} {r:Nat} {ms:Array MapEntry} {ck:Nat} (hu:P.underlying t=some (.map k e)) (hk:P.underlying k=some (.int .i64)) (hb:w.heap[r]?=some (.map ms ck))
  (hf:Instr.findNow (.int .i64) kv ms.toList 0=some none):(Instr.mapUpdate t (.map (some r)) kv x).run P w=.ok () (w.putObj r (.map (ms.push { key:=kv,val:=x,born:=ck }) (ck+1))):=by
 unfold Instr.mapUpdate
 simp [run_underlying hu,run_getMap hb,run_checkKey hk,run_findKey hk hf,run_setMap _ hb]
theorem run_mapUpdate_yes {t k e:TypeId} {kv x v:Value} {w:World} {r j:Nat} {m:MapEntry} {ms:Array MapEntry} {ck:Nat} (hu:P.underlying t=some (.map k e)) (hk:P.underlying k=some (.int .i64)) (hb:w.heap[r]?=some (.map ms ck))
  (hf:Instr.findNow (.int .i64) kv ms.toList 0=some (some (j,v))) (hj:ms[j]?=some m) (hs:Instr.sameBits 10000 m.key kv=true):(Instr.mapUpdate t (.map (some r)) kv x).run P w=.ok () (w.putObj r (.map (ms.modify j fun e=>{ e with key:=kv,val:=x }) ck)):=by
 have hkey:∀ w,(Instr.keyThatStays m.key kv).run P w=.ok kv w:=by
  intro w;unfold Instr.keyThatStays;rw [if_pos hs];rfl
 unfold Instr.mapUpdate
 simp [run_underlying hu,run_getMap hb,run_checkKey hk,run_findKey hk hf,hj,hkey,run_setMap _ hb]

theorem op_mapNew {t:TypeId} {r:Option Value} (hH:HR P C H) (he:execOp ρr o=valS (Instr.makeMap t r)) (ht:mapT P t=true) (hr:r=none∨∃ k n,r=some (.int k n)) (h:aop callee ρ H .mapNew=some (v,H')) :
  Goes P (execOp ρr o) C.w (After P C v H'):=by
 simp only [aop,Option.some.injEq,Prod.mk.injEq] at h
 obtain ⟨rfl,rfl⟩:=h
 obtain ⟨k,e,i,hu,-,-,-⟩:=mapT_spec ht
 let C':Ctx:={ ν:=upd C.ν H.length C.w.heap.size,sh:=upd C.sh H.length (some .map),Fz:=C.Fz,w:=C.w.alloc (.map #[] 0) }
 have s1:C'.sh H.length=some .map:=upd_same _ _ _
 have s2:C'.ν H.length=C.w.heap.size:=upd_same _ _ _
 have hp:=hH.push (C':=C') (o:=.map #[] 0) (e:=.map []) (s:=.map) rfl rfl rfl rfl (fun N=>by
  refine ⟨s1,#[],0,?_,rfl,fun o ho=>?_⟩
  ·rw [s2];exact heap_new _ _
  ·rw [s2] at ho;exact absurd (hH.low _ _ ho) (Nat.lt_irrefl _)) (env:=Env.new _ _ (by intro c t f e;cases e))
 rw [he]
 refine goes_val ?_ ⟨C',rfl,hp.1,hp.2,_,rfl,.inr ⟨s1,s2.symm⟩⟩
 rcases hr with rfl | ⟨k',n,rfl⟩
 ·simp [Instr.makeMap,C']
 ·simp [Instr.makeMap,run_underlying hu,asInt,asIntOf,C']

theorem op_mapGet {t:TypeId} {x y:Operand} {a b:Opd} (hH:HR P C H) (hρ:RO' C ρ ρr) (he:execOp ρr o=valS (Instr.lookup t (ρr x) (ρr y) false)) (ht:mapT P t=true) (ha:opd x=some a) (hb:opd y=some b) (h:aop callee ρ H (.mapGet nilS a b)=some (v,H')) :
    Goes P (execOp ρr o) C.w (After P C v H'):=by
  obtain ⟨kt,et,ti,hu,hk,hi,hz⟩:=mapT_spec ht
  have hx:=hρ.ro x a ha
  have hy:=hρ.ro y b hb
  simp only [aop] at h
  generalize ρ a=va at h hx
  generalize ρ b=vb at h hy
  cases va with
  | mref i => cases vb with
    | lit lv => cases lv with
      | int kk n=>cases kk with
        | i64 =>
          cases hes:H[i]? with
          | none=>simp [hes] at h
          | some en=>cases en with
            | map es =>
              simp only [hes] at h
              simp only [Option.some.injEq,Prod.mk.injEq] at h
              obtain ⟨rfl,rfl⟩:=h
              obtain ⟨h1,ms,ck,h2,h3,h4⟩:=hH.ent i _ hes
              obtain ⟨r,e1,e2⟩:=hx
              have hr:r=C.ν i:=by
                rcases e2 with e2 | e2
                · rw [h1] at e2;cases e2
                · exact e2.2
              subst hr
              have hy:ρr y=.int .i64 n:=hy
              rw [he,e1,hy]
              have hval:∃ rv,(Instr.lookup t (.map (some (C.ν i))) (.int .i64 n) false).run P C.w=.ok rv C.w/\RV C ((mfind n es).getD nilS) rv:=by
                rcases find_rel 0 h3 with ⟨a1,a2,-⟩ | ⟨v',j,m',a1,a2,a3,a4,a5,-⟩
                · refine ⟨.slice none 0 0,run_lookup_no hu hk hi hz h2 a2,?_⟩
                  rw [a1]
                  exact ⟨none,0,rfl,by simp,by simp,by simp,by simp,fun _=>rfl,fun ad e=>by cases e⟩
                · refine ⟨m'.val,run_lookup_yes hu hk h2 a2,?_⟩
                  rw [a1];exact a5
              obtain ⟨rv,r1,r2⟩:=hval
              exact goes_read hH r1 r2
            | _=>simp [hes] at h
        | _=>simp at h
      | _=>simp at h
    | _=>simp at h
  | _=>simp at h

theorem op_mapSet {t:TypeId} {x y z:Operand} {a b c:Opd} (hH:HR P C H) (hρ:RO' C ρ ρr) (he:execOp ρr o=(do Instr.mapUpdate t (ρr x) (ρr y) (ρr z);pure .skip)) (ht:mapT P t=true) (ha:opd x=some a) (hb:opd y=some b) (hz:opd z=some c) (h:aop callee ρ H (.mapSet a b c)=some (v,H')) :
    Goes P (execOp ρr o) C.w (After P C v H'):=by
  obtain ⟨kt,et,ti,hu,hk,hi,hzero⟩:=mapT_spec ht
  have hx:=hρ.ro x a ha
  have hy:=hρ.ro y b hb
  have hzv:=hρ.ro z c hz
  simp only [aop] at h
  generalize ρ a=va at h hx
  generalize ρ b=vb at h hy
  cases va with
  | mref i => cases vb with
    | lit lv => cases lv with
      | int kk n=>cases kk with
        | i64 =>
          cases hes:H[i]? with
          | none=>simp [hes] at h
          | some en=>cases en with
            | map es =>
              simp only [hes] at h
              simp only [Option.bind_eq_some_iff] at h
              obtain ⟨vs,hvs,h⟩:=h
              obtain ⟨hv1,h⟩:=Option.ite_none_right_eq_some.1 h
              simp only [Option.some.injEq,Prod.mk.injEq] at h
              obtain ⟨rfl,rfl⟩:=h
              obtain ⟨h1,ms,ck,h2,h3,h4⟩:=hH.ent i _ hes
              obtain ⟨r,e1,e2⟩:=hx
              have hr:r=C.ν i:=by
                rcases e2 with e2 | e2
                · rw [h1] at e2;cases e2
                · exact e2.2
              subst hr
              have hbz:C.ν i<C.w.heap.size:=hH.block h1 (by simp)
              have hy:ρr y=.int .i64 n:=hy
              rw [he,e1,hy]
              have hrun:∃ (ms':Array MapEntry) (ck':Nat),(Instr.mapUpdate t (.map (some (C.ν i))) (.int .i64 n) (ρr z)).run P C.w=.ok () (C.w.putObj (C.ν i) (.map ms' ck'))/\RM C (mput n (ρ c) es) ms'.toList:=by
                rcases find_rel 0 h3 with ⟨a1,a2,a3⟩ | ⟨v',j,m',a1,a2,a3,a4,a5,a6⟩
                · refine ⟨_,_,run_mapUpdate_no hu hk h2 a2,?_⟩
                  rw [Array.toList_push];exact a3 _ _ _ hzv
                · have hj:ms[0+j]?=some m':=by rw [Nat.zero_add,<- Array.getElem?_toList];exact a3
                  refine ⟨_,_,run_mapUpdate_yes hu hk h2 a2 hj (by rw [a4];simp [Instr.sameBits]),?_⟩
                  rw [Nat.zero_add,Array.toList_modify];exact a6 _ _ hzv
              obtain ⟨ms',ck',r1,r2⟩:=hrun
              let C':Ctx:={ C with w:=C.w.putObj (C.ν i) (.map ms' ck') }
              have hp:=hH.turn (C':=C') (i:=i) (e:=.map es) (e':=.map (mput n (ρ c) es)) (s:=.map) (s':=.map) hes h1 (by simp) (fun b hb=>World.putObj_heap_other hb) (by simp [C']) rfl (by
                funext j
                by_cases hj:j=i
                · subst hj;rw [upd_same];exact h1
                · rw [upd_ne _ _ hj]) (by simp) rfl (fun o ho=>absurd ho (h4 o)) (.inl rfl) (fun N=>⟨h1,ms',ck',World.putObj_heap_same hbz,r2.nx N,h4⟩) (env:=putObj_env' h2 (by simp) (by simp))
              refine Goes.skip (w':=C'.w) ?_ ⟨C',rfl,hp.1,hp.2,rfl⟩
              simp [r1,C']
            | _=>simp [hes] at h
        | _=>simp at h
      | _=>simp at h
    | _=>simp at h
  | _=>simp at h
end
end Go.AM
namespace Go.AM
section
variable {callee:Callee} {P:Program} {C:Ctx} {H H':Heap} {v:AVal} {ρ:Opd->AVal} {ρr:Operand->Value} {o:Oper}


def lockE:Entry->Entry
 | .arr fl _ full sz es=>.arr fl true full sz es
 | e=>e

theorem lock_get (H:Heap) (i j:Nat):(lock H i)[j]?=(H[j]?).map fun e=>if j=i then lockE e else e:=by
 unfold lock
 split
 ·rename_i fl lk full sz es hi
  by_cases h:j=i
  ·subst h
   have hlt:=(List.getElem?_eq_some_iff.1 hi).1
   rw [List.getElem?_set_self hlt,hi]
   simp [lockE]
  ·rw [List.getElem?_set_ne (fun e=>h e.symm)]
   simp [h]
 ·rename_i hne
  by_cases h:j=i
  ·subst h
   cases hj:H[j]? with
   | none=>rfl
   | some e=>cases e<;>first | rfl | exact absurd hj (hne _ _ _ _ _) | simp [lockE]
  ·simp [h]

theorem lockE_twice (e:Entry):lockE (lockE e)=lockE e:=by cases e<;>rfl

theorem locks_get:∀ (ls:List Nat) (H:Heap) (j:Nat),(locks H ls)[j]?=(H[j]?).map fun e=>if j∈ls then lockE e else e
 | [],H,j=>by simp [locks]
 | i::r,H,j=>by
  rw [locks,locks_get r,lock_get,Option.map_map]
  congr 1
  funext e
  simp only [Function.comp,List.mem_cons]
  by_cases h1:j=i<;>by_cases h2:j∈r<;>simp [h1,h2,lockE_twice]

theorem lock_length (H:Heap) (i:Nat):(lock H i).length=H.length:=by
 unfold lock;split<;>simp
theorem locks_length:∀ (ls:List Nat) (H:Heap),(locks H ls).length=H.length
 | [],_=>rfl
 | i::r,H=>by rw [locks,locks_length r,lock_length]

def lockC (C:Ctx) (H:Heap) (ls:List Nat):Ctx :=
 { C with Fz:=fun b o=>C.Fz b o∨∃ i fl lk full sz es,i∈ls/\H[i]?=some (.arr fl lk full sz es)/\C.ν i=b/\o<es.length * sz }

theorem lockC_tr (C:Ctx) (H:Heap) (ls:List Nat):Tr C (lockC C H ls) id (fun _=>True) :=
 ⟨fun b o h=>⟨.inl h,rfl⟩,fun i s _ h=>.inr (.inl ⟨h,rfl⟩)⟩

theorem HR.locks (hH:HR P C H) (ls:List Nat):HR P (lockC C H ls) (locks H ls)/\Nx C (lockC C H ls):=by
 have N:Nx C (lockC C H ls):=⟨lockC_tr C H ls,Nat.le_refl _,fun _ _ _=>rfl,fun i s h hd _=>⟨i,s,h,hd,rfl⟩,Env.refl _,fun b o h=>by
  rcases h with h | ⟨i,fl,lk,full,sz,es,_,hi,rfl,_⟩
  ·exact .inl h
  ·obtain ⟨_,_,_,hs,_⟩:=hH.ent i _ hi
   exact .inr (.inr ⟨i,_,hs,by simp,rfl⟩)⟩
 have old:∀ {j:Nat} {s:Sh},C.sh j=some s->s≠.dead->(∀ fl lk full sz es,H[j]?≠some (.arr fl lk full sz es))->∀ o,(lockC C H ls).Fz (C.ν j) o->C.Fz (C.ν j) o:=by
  intro j s hs hd hne o ho
  rcases ho with ho | ⟨i,fl,lk,full,sz,es,_,hi,hij,_⟩
  ·exact ho
  ·obtain ⟨_,_,_,hs',_⟩:=hH.ent i _ hi
   have:=hH.inj i j _ _ hs' (by simp) hs hd hij
   subst this
   exact absurd hi (hne _ _ _ _ _)
 refine ⟨⟨fun j e hj=>?_,fun j hj=>hH.out j (by rw [locks_length] at hj;exact hj),hH.inj,fun b o h=>?_⟩,N⟩
 ·rw [locks_get] at hj
  cases he:H[j]? with
  | none=>rw [he] at hj;cases hj
  | some e0 =>
   rw [he] at hj
   simp only [Option.map_some,Option.some.injEq] at hj
   have h0:=hH.ent j e0 he
   cases e0 with
   | dead=>split at hj<;>(subst hj;exact h0)
   | box cs =>
    have:e=.box cs:=by split at hj<;>exact hj.symm
    subst this
    obtain ⟨h1,c,t,h2,h3,h4,h5⟩:=h0
    exact ⟨h1,c,t,h2,RL_id (lockC_tr C H ls) (fun _ _=>trivial) h3,h4,fun o ho=>h5 o (old h1 (by simp) (by simp [he]) o ho)⟩
   | map es =>
    have:e=.map es:=by split at hj<;>exact hj.symm
    subst this
    obtain ⟨h1,ms,ck,h2,h3,h4⟩:=h0
    exact ⟨h1,ms,ck,h2,h3.nx N,fun o ho=>h4 o (old h1 (by simp) (by simp [he]) o ho)⟩
   | loop st pd snap ps a b =>
    have:e=.loop st pd snap ps a b:=by split at hj<;>exact hj.symm
    subst this
    obtain ⟨h1,L,nt,h2,h3,h4,h5,h6,h7,h8,h9,h10,h11,h12⟩:=h0
    exact ⟨h1,L,nt,h2,h3,h4,h5,h6.nx N,h7,h8,h9,h10,h11,fun o ho=>h12 o (old h1 (by simp) (by simp [he]) o ho)⟩
   | arr fl lk full sz es =>
    obtain ⟨c,t,cp,h1,h2,h3,h4,h5,h6,h7,h8,h9,h10,h11⟩:=h0
    have key:∀ o,(lockC C H ls).Fz (C.ν j) o->(lk=true∨j∈ls)/\(o<es.length * sz∨full=true):=by
     intro o ho
     rcases ho with ho | ⟨i,fl',lk',full',sz',es',hil,hi,hij,hlt⟩
     ·exact ⟨.inl (h11 o ho).1,(h11 o ho).2⟩
     ·obtain ⟨_,_,_,hs',_⟩:=hH.ent i _ hi
      have:=hH.inj i j _ _ hs' (by simp) h1 (by simp) hij
      subst this
      rw [he] at hi
      cases hi
      exact ⟨.inr hil,.inl hlt⟩
    by_cases hm:j∈ls
    ·rw [if_pos hm] at hj
     subst hj
     exact ⟨c,t,cp,h1,h2,h3,h4,h5,h6,h7,RL_id (lockC_tr C H ls) (fun _ _=>trivial) h8,h9,h10,fun o ho=>⟨rfl,(key o ho).2⟩⟩
    ·rw [if_neg hm] at hj
     subst hj
     exact ⟨c,t,cp,h1,h2,h3,h4,h5,h6,h7,RL_id (lockC_tr C H ls) (fun _ _=>trivial) h8,h9,h10,fun o ho=>⟨(key o ho).1.resolve_right hm,(key o ho).2⟩⟩
 ·rcases h with h | ⟨i,fl,lk,full,sz,es,_,hi,rfl,_⟩
  ·exact hH.low b o h
  ·obtain ⟨_,_,_,hs,_⟩:=hH.ent i _ hi
   exact hH.block hs (by simp)

theorem RLL_of_row {b sz:Nat}:∀ {es:List (List AVal)} {xs:List Value} {o:Nat},(∀ r∈es,r.length=sz)->RL C es.flatten xs->(∀ v∈xs,v.oneCell'=true) ->
  (∀ j v,xs[j]?=some v->C.w.cell? ⟨b,o+j,none⟩=some v/\C.Fz b (o+j))->RLL C b o sz es
 | [],xs,o,_,_,_,_=>trivial
 | c :: r,xs,o,hl,hx,h1,h=>by
  rw [List.flatten_cons] at hx
  have hc:=hl c (by simp)
  have e1:=RL_take hx c.length
  rw [List.take_left' rfl] at e1
  have e2:=RL_drop hx c.length
  rw [List.drop_left' rfl] at e2
  refine ⟨hc,?_,RLL_of_row (fun q hq=>hl q (by simp [hq])) e2 (fun v hv=>h1 v (List.mem_of_mem_drop hv)) fun j v hv=>?_⟩
  ·rw [RC_iff]
   intro i a ha
   obtain ⟨x,hx1,hx2⟩:=RL_get e1 ha
   rw [List.getElem?_take] at hx1
   split at hx1
   ·obtain ⟨k1,k2⟩:=h i x hx1
    exact ⟨x,k1,k2,h1 x (List.mem_of_getElem? hx1),hx2⟩
   ·cases hx1
  ·rw [List.getElem?_drop] at hv
   obtain ⟨k1,k2⟩:=h _ v hv
   rw [show o+sz+j=o+(c.length+j) by omega]
   exact ⟨k1,k2⟩

mutual
theorem snapV_rel (hH:HR P C H) {ls:List Nat}:∀ (a a':AVal) (x:Value) (l:List Nat),snapV H a=some (a',l)->(∀ i∈l,i∈ls)->RV C a x->RV (lockC C H ls) a' x
 | .own i len sz off n,a',x,l,h,hl,hx=>by
  rw [snapV] at h
  split at h
  ·rename_i fl lk full se es hi
   obtain ⟨⟨h1,h2⟩,h⟩:=Option.ite_none_right_eq_some.1 h
   cases h
   subst h1 h2
   obtain ⟨c,t,cp,k1,k2,k3,k4,k5,k6,k7,k8,k9,k10,k11⟩:=hH.ent i _ hi
   obtain ⟨ad,cap,rfl,hn,hd⟩:=hx
   rw [k1] at hd
   rcases hd with hd | ⟨cur,s,cp',e,_,hd⟩
   ·cases hd
   ·cases e
    obtain ⟨j1,j2,j3⟩:=hd rfl rfl
    have hlen:((es.take (off+n)).drop off).length=n:=by simp;omega
    refine ⟨some ad,cap,by rw [hlen],by rw [hlen];exact hn,fun e=>?_,rfl,(fun e=>by cases e),fun e=>flatLL_drop (flatLL_take (k10 e) _) _,fun b hb hne=>?_⟩
    ·rw [hlen]
     rw [Bool.and_eq_true,decide_eq_true_eq] at e
     have:=k6 e.1
     omega
    ·cases hb
     have hn0:n≠0:=fun e=>hne (List.length_eq_zero_iff.1 (by rw [hlen,e]))
     rcases j3 with j3 | j3
     ·omega
     subst j3
     refine ⟨rfl,se,?_⟩
     have hoff:(off+n) * se<=es.length * se:=Nat.mul_le_mul_right _ j1
     have hx2:=RL_drop (RL_take k8 ((off+n) * se)) (off * se)
     rw [<- take_flatten (off+n) k7,<- drop_flatten (sz:=se) off (fun r hr=>k7 r (List.mem_of_mem_take hr))] at hx2
     refine RLL_of_row (fun r hr=>k7 r (List.mem_of_mem_take (List.mem_of_mem_drop hr))) (RL_id (lockC_tr C H ls) (fun _ _=>trivial) hx2) (fun v hv=>k9 v (List.mem_of_mem_take (List.mem_of_mem_take (List.mem_of_mem_drop hv)))) fun j v hv=>?_
     rw [List.getElem?_drop,List.getElem?_take] at hv
     split at hv
     ·rename_i hj1
      rw [List.getElem?_take] at hv
      split at hv
      ·refine ⟨?_,.inr ⟨i,fl,lk,full,se,es,hl i (by simp),hi,rfl,by omega⟩⟩
       show C.w.cell? _=_
       rw [cell_of_heap k2]
       exact hv
      ·cases hv
     ·cases hv
  ·cases h
 | .agg cs,a',x,l,h,hl,hx=>by
  simp only [snapV,Option.map_eq_some_iff] at h
  obtain ⟨⟨cs',l'⟩,hc,h⟩:=h
  cases h
  obtain ⟨vs,rfl,h1,h2⟩:=hx
  exact ⟨vs,rfl,h1,snapL_rel hH cs cs' _ l' hc hl h2⟩
 | .tup cs,a',x,l,h,hl,hx=>by
  simp only [snapV,Option.map_eq_some_iff] at h
  obtain ⟨⟨cs',l'⟩,hc,h⟩:=h
  cases h
  obtain ⟨vs,rfl,h2⟩:=hx
  exact ⟨vs,rfl,snapL_rel hH cs cs' _ l' hc hl h2⟩
 | .iface t v,a',x,l,h,hl,hx=>by
  simp only [snapV,Option.map_eq_some_iff] at h
  obtain ⟨⟨v',l'⟩,hc,h⟩:=h
  cases h
  obtain ⟨y,rfl,h2⟩:=hx
  exact ⟨y,rfl,snapV_rel hH v v' _ l' hc hl h2⟩
 | .func fn p q,a',x,l,h,hl,hx=>by
  simp only [snapV,Option.bind_eq_some_iff,Option.map_eq_some_iff] at h
  obtain ⟨⟨p',l1⟩,hp,⟨q',l2⟩,hq,h⟩:=h
  cases h
  obtain ⟨va,vb,rfl,h1,h2⟩:=hx
  exact ⟨va,vb,rfl,snapL_rel hH p p' _ l1 hp (fun i hi=>hl i (by simp [hi])) h1,snapL_rel hH q q' _ l2 hq (fun i hi=>hl i (by simp [hi])) h2⟩
 | .asl ..,a',x,l,h,hl,hx=>by simp [snapV] at h
 | .eptr ..,a',x,l,h,hl,hx=>by simp [snapV] at h
 | .lit v,a',x,l,h,hl,hx=>by simp only [snapV,Option.some.injEq,Prod.mk.injEq] at h;obtain ⟨rfl,rfl⟩:=h;exact hx
 | .any,a',x,l,h,hl,hx=>by simp only [snapV,Option.some.injEq,Prod.mk.injEq] at h;obtain ⟨rfl,rfl⟩:=h;exact hx
 | .ptr i k,a',x,l,h,hl,hx=>by simp only [snapV,Option.some.injEq,Prod.mk.injEq] at h;obtain ⟨rfl,rfl⟩:=h;exact RV_id (lockC_tr C H ls) (fun _ _=>trivial) hx
 | .iptr fl es j k,a',x,l,h,hl,hx=>by simp only [snapV,Option.some.injEq,Prod.mk.injEq] at h;obtain ⟨rfl,rfl⟩:=h;exact RV_id (lockC_tr C H ls) (fun _ _=>trivial) hx
 | .imm n fu fl es,a',x,l,h,hl,hx=>by simp only [snapV,Option.some.injEq,Prod.mk.injEq] at h;obtain ⟨rfl,rfl⟩:=h;exact RV_id (lockC_tr C H ls) (fun _ _=>trivial) hx
 | .yld i,a',x,l,h,hl,hx=>by simp only [snapV,Option.some.injEq,Prod.mk.injEq] at h;obtain ⟨rfl,rfl⟩:=h;exact RV_id (lockC_tr C H ls) (fun _ _=>trivial) hx
 | .mref i,a',x,l,h,hl,hx=>by simp only [snapV,Option.some.injEq,Prod.mk.injEq] at h;obtain ⟨rfl,rfl⟩:=h;exact RV_id (lockC_tr C H ls) (fun _ _=>trivial) hx
theorem snapL_rel (hH:HR P C H) {ls:List Nat}:∀ (a a':List AVal) (x:List Value) (l:List Nat),snapL H a=some (a',l)->(∀ i∈l,i∈ls)->RL C a x->RL (lockC C H ls) a' x
 | [],a',x,l,h,hl,hx=>by
  simp only [snapL,Option.some.injEq,Prod.mk.injEq] at h;obtain ⟨rfl,rfl⟩:=h;exact hx
 | c::r,a',x,l,h,hl,hx=>by
  simp only [snapL,Option.bind_eq_some_iff,Option.map_eq_some_iff] at h
  obtain ⟨⟨p',l1⟩,hp,⟨q',l2⟩,hq,h⟩:=h
  cases h
  simp only [RL] at hx
  obtain ⟨y,s,rfl,h1,h2⟩:=hx
  exact ⟨y,s,rfl,snapV_rel hH c p' _ l1 hp (fun i hi=>hl i (by simp [hi])) h1,snapL_rel hH r q' _ l2 hq (fun i hi=>hl i (by simp [hi])) h2⟩
end
end
end Go.AM
namespace Go.AM
section
variable {callee:Callee} {P:Program} {C:Ctx} {H H':Heap} {v:AVal} {ρ:Opd->AVal} {ρr:Operand->Value} {o:Oper}

theorem afillS_mono {fl:Bool} {sz:Nat}:∀ (l:List (Nat × Opd)) {es es':List (List AVal)} {ls ls':List Nat},afillS fl sz ρ H es ls l=some (es',ls')->∀ i∈ls,i∈ls'
 | [],es,es',ls,ls',h,i,hi=>by
  simp only [afillS,Option.some.injEq,Prod.mk.injEq] at h
  rw [<- h.2];exact hi
 | (j,x)::r,es,es',ls,ls',h,i,hi=>by
  simp only [afillS,Option.bind_eq_some_iff] at h
  obtain ⟨v,_,vs,_,h⟩:=h
  obtain ⟨_,h⟩:=Option.ite_none_right_eq_some.1 h
  exact afillS_mono r h i (List.mem_append_left _ hi)

theorem fillS_rel {fl:Bool} {sz:Nat} {LS:List Nat} (hH:HR P C H) (hρ:RO' C ρ ρr):∀ (ps:List (Nat × Operand)) (l:List (Nat × Opd)) (es es':List (List AVal)) (ls ls':List Nat) (cr:Array Value),partsS ps=some l->afillS fl sz ρ H es ls l=some (es',ls')->(∀ i∈ls',i∈LS) ->
  (∀ r∈es,r.length=sz)->RL (lockC C H LS) es.flatten cr.toList->(∀ v∈cr.toList,v.oneCell'=true)->(fl=true->flatLL es=true) ->
  ∃ outr,Instr.fill (fun i=>some (i * sz,sz)) cr (ps.map fun p=>(p.1,ρr p.2))=some outr/\RL (lockC C H LS) es'.flatten outr.toList/\(∀ v∈outr.toList,v.oneCell'=true)/\(∀ r∈es',r.length=sz)/\es'.length=es.length/\(fl=true->flatLL es'=true)
 | [],l,es,es',ls,ls',cr,hp,h,hLS,hr,hx,h1,hf=>by
  simp only [partsS,Option.some.injEq] at hp;subst hp
  simp only [afillS,Option.some.injEq,Prod.mk.injEq] at h
  obtain ⟨rfl,rfl⟩:=h
  exact ⟨cr,rfl,hx,h1,hr,rfl,hf⟩
 | (i,x)::r,l,es,es',ls,ls',cr,hp,h,hLS,hr,hx,h1,hf=>by
  simp only [partsS,Option.bind_eq_some_iff,Option.map_eq_some_iff] at hp
  obtain ⟨a,ha,l',hl,rfl⟩:=hp
  simp only [afillS,Option.bind_eq_some_iff] at h
  obtain ⟨sv,hsv,vs,hvs,h⟩:=h
  obtain ⟨⟨hn,hlt,hfl⟩,h⟩:=Option.ite_none_right_eq_some.1 h
  have hsub:∀ i∈sv.2,i∈LS:=fun q hq=>hLS q (afillS_mono _ h q (List.mem_append_right _ hq))
  have hv:=snapV_rel hH (ls:=LS) (ρ a) sv.1 (ρr x) sv.2 hsv hsub (hρ.ro x a ha)
  obtain ⟨e1,e2⟩:=cells_rel hv hvs
  have hvl:=RL_length e1
  have hcl:=RL_length hx
  rw [flatten_length hr] at hcl
  have hsz:(ρr x).cells.size=sz:=by rw [<- hn];simpa using hvl
  have hcs:cr.size=es.length * sz:=by simpa using hcl
  have hi1:i * sz+sz<=es.length * sz:=by rw [<- Nat.succ_mul];exact Nat.mul_le_mul_right _ hlt
  have hset:((ρr x).cells.zipIdx.foldl (fun (cs:Array Value) (q:Value × Nat)=>cs.setIfInBounds (i * sz+q.2) q.1) cr).toList=cr.toList.take (i * sz)++(ρr x).cells.toList++cr.toList.drop (i * sz+sz):=by
   have:=foldl_set (i * sz) (ρr x).cells.toList 0 cr (by simp only [Array.length_toList,hsz];omega)
   rw [Nat.add_zero] at this
   simp only [Array.length_toList,hsz] at this
   rw [<- this,<- Array.foldl_toList,Array.toList_zipIdx]
  obtain ⟨row,hrow⟩:∃ row,es[i]?=some row:=⟨_,List.getElem?_eq_getElem hlt⟩
  have hfs:=flatten_set hr hrow hn
  have hov:RL (lockC C H LS) (es.set i vs).flatten ((ρr x).cells.zipIdx.foldl (fun (cs:Array Value) (q:Value × Nat)=>cs.setIfInBounds (i * sz+q.2) q.1) cr).toList:=by
   rw [hfs,hset]
   exact RL_append (RL_append (RL_take hx _) e1) (RL_drop hx _)
  have hr':∀ r∈es.set i vs,r.length=sz:=by
   intro q hq
   rcases List.mem_or_eq_of_mem_set hq with hq | rfl
   ·exact hr q hq
   ·exact hn
  obtain ⟨outr,k1,k2,k3,k4,k5,k6⟩:=fillS_rel hH hρ r l' (es.set i vs) es' _ ls' _ hl h hLS hr' hov (by
   rw [hset]
   intro v hv
   simp only [List.mem_append] at hv
   rcases hv with (hv | hv) | hv
   ·exact h1 v (List.mem_of_mem_take hv)
   ·exact e2 v hv
   ·exact h1 v (List.mem_of_mem_drop hv)) (fun e=>flatLL_set (hf e) (hfl e))
  refine ⟨outr,?_,k2,k3,k4,by rw [k5,List.length_set],k6⟩
  rw [List.map_cons,Instr.fill]
  simp only []
  rw [if_neg (by simp [hsz];omega)]
  exact k1

theorem zeroCells_nil {zc:Array Value} {n:Nat} (h:n * zc.size=0) (f:Nat->Value):(Array.range (n * zc.size)).map f=Builtin.zeroCells zc n:=by
 unfold Builtin.zeroCells
 rw [h];simp

theorem op_mkSlice {t e:TypeId} {z:List AVal} {len:Nat} {ps:Array (Nat × Operand)} {l:List (Nat × Opd)} {fl:Bool} (hH:HR P C H) (hρ:RO' C ρ ρr) (he:execOp ρr o=valS (Instr.buildSlice t len (ps.map fun (i,x)=>(i,ρr x))))
  (hu:P.underlying t=some (.slice e)) (hz:zeroOf P e=some z) (hl:partsS ps.toList=some l) (hc:len * P.cellsOf e<=2 ^ 24/\P.cellsOf e≠0/\z.length=P.cellsOf e)
  (h:aop callee ρ H (.mkSlice fl (P.cellsOf e) z len l)=some (v,H')):Goes P (execOp ρr o) C.w (After P C v H'):=by
 obtain ⟨c1,c2,c3⟩:=hc
 simp only [aop,Option.map_eq_some_iff] at h
 obtain ⟨⟨es,ls⟩,hes,h⟩:=h
 cases h
 obtain ⟨i,x,hi,hx,z2,z3,z1⟩:=zeroOf_spec hz
 have hzl:0<z.length:=by omega
 have hLT:=hH.locks ls
 obtain ⟨outr,k1,k2,k3,k4,k5,k6⟩:=fillS_rel hH hρ ps.toList l (List.replicate len z) es [] ls (Builtin.zeroCells x.cells len) hl hes (fun _ h=>h) (fun r hr=>by rw [List.eq_of_mem_replicate hr];exact c3)
  (RL_zeroCells (z2 _) hzl len) (zeroCells_ok z3 (by omega)) (fun _=>flatLL_replicate (flatL_zero hz) len)
 have hlen:es.length=len:=by rw [k5];simp
 have hol:outr.size=len * P.cellsOf e:=by
  have:=RL_length k2
  rw [flatten_length k4,hlen] at this
  simpa using this
 obtain ⟨C',e1,e2,e3,e4⟩:=push_arr (t:=e) (fl:=fl) (full:=true) (cp:=len) (n:=len) (c:=outr) hLT.1 (Nat.pos_of_ne_zero c2) hlen (by omega) (Nat.le_refl _) (fun _=>rfl) k4 (by rw [List.take_of_length_le (by simp [hol])];exact k2) k3 k6
 rw [locks_length] at e4
 rw [he]
 refine goes_val (r:=.slice (some ⟨C.w.heap.size,0,none⟩) len len) ?_ ⟨C',rfl,e2,hLT.2.trans e3,e4⟩
 rw [e1]
 have hinfo:(P.info? e).isSome=true:=by rw [hi];rfl
 have hps:(ps.map fun (i,x)=>(i,ρr x)).toList=ps.toList.map fun p=>(p.1,ρr p.2):=by simp
 have hbig:¬ (len * P.cellsOf e > 2 ^ 24):=by omega
 have hxs:P.cellsOf e=x.cells.size:=by omega
 simp only [Instr.buildSlice,Sem.run_bind,run_underlying hu,Result.andThen_ok,run_sizeOf' hinfo]
 rw [if_neg hbig,hps]
 rw [hxs] at k1 ⊢
 by_cases h0:len * x.cells.size=0
 ·rw [if_pos h0]
  simp only [Sem.run_bind,Sem.run_pure,Result.andThen_ok]
  rw [zeroCells_nil h0]
  simp only [k1]
  simp [newRow,lockC]
 ·rw [if_neg h0]
  simp only [Sem.run_bind,Sem.run_pure,Result.andThen_ok,run_zeroValue' hi hx]
  rw [show (Array.range (len * x.cells.size)).map (fun i=>x.cells[i % x.cells.size]!)=Builtin.zeroCells x.cells len from rfl]
  simp only [k1]
  simp [newRow,lockC]

theorem wrap64 {n:Int} (h0:0<=n) (h1:n<=2 ^ 46):IntKind.i64.wrap n=n:=by
 simp [IntKind.wrap,IntKind.bits,IntKind.signed];omega

theorem op_make {t e:TypeId} {z:List AVal} {lo co:Operand} {lo' co':Opd} {fl:Bool} (hH:HR P C H) (hρ:RO' C ρ ρr) (he:execOp ρr o=valS (Instr.makeSlice t (ρr lo) (ρr co)))
  (hu:P.underlying t=some (.slice e)) (hz:zeroOf P e=some z) (hl:opd lo=some lo') (hcc:opd co=some co') (hc:P.cellsOf e≠0/\z.length=P.cellsOf e)
  (h:aop callee ρ H (.make fl (P.cellsOf e) (P.bytesOf e) z lo' co')=some (v,H')):Goes P (execOp ρr o) C.w (After P C v H'):=by
 obtain ⟨c2,c3⟩:=hc
 have h1:=hρ.ro lo lo' hl
 have h2:=hρ.ro co co' hcc
 simp only [aop] at h
 split at h
 ·rename_i l c e1 e2
  obtain ⟨⟨b1,b2,b3,b4⟩,h⟩:=Option.ite_none_right_eq_some.1 h
  cases h
  rw [e1] at h1;rw [e2] at h2
  have h1:ρr lo=_:=h1
  have h2:ρr co=_:=h2
  obtain ⟨i,x,hi,hx,z2,z3,z1⟩:=zeroOf_spec hz
  obtain ⟨q1,q2⟩:=bytesOf_eq hi
  have hzl:0<z.length:=by omega
  have hxs:P.cellsOf e=x.cells.size:=by omega
  have hll:(List.replicate l.toNat z).length=l.toNat:=by simp
  have hlc:l.toNat<=c.toNat:=by omega
  have hfl:=RL_zeroCells (z2 C) hzl c.toNat
  have hrc:∀ r∈List.replicate c.toNat z,r.length=P.cellsOf e:=fun r hr=>by rw [List.eq_of_mem_replicate hr];exact c3
  have hfl2:RL C (List.replicate l.toNat z).flatten ((Builtin.zeroCells x.cells c.toNat).toList.take (l.toNat * P.cellsOf e)):=by
   have:=RL_take hfl (l.toNat * P.cellsOf e)
   rw [<- take_flatten l.toNat hrc,List.take_replicate,Nat.min_eq_left hlc] at this
   exact this
  have hsz:(Builtin.zeroCells x.cells c.toNat).size=c.toNat * P.cellsOf e:=by rw [size_zeroCells,hxs]
  obtain ⟨C',e3,e4,e5,e6⟩:=push_arr (t:=e) (fl:=fl) (full:=false) (cp:=c.toNat) (n:=l.toNat) (c:=Builtin.zeroCells x.cells c.toNat) hH (Nat.pos_of_ne_zero c2) hll (by rw [hsz];exact Nat.le_refl _) hlc (fun e=>by cases e)
   (fun r hr=>by rw [List.eq_of_mem_replicate hr];exact c3) hfl2 (zeroCells_ok z3 (by omega)) (fun _=>flatLL_replicate (flatL_zero hz) _)
  rw [he]
  refine goes_val (r:=.slice (some ⟨C.w.heap.size,0,none⟩) l.toNat c.toNat) ?_ ⟨C',rfl,e4,e5,e6⟩
  rw [e3,h1,h2]
  have hinfo:(P.info? e).isSome=true:=by rw [hi];rfl
  have w1:=wrap64 b1 (by omega)
  have w2:=wrap64 (n:=c) (by omega) b3
  have n1:¬ (c<0):=by omega
  have n2:¬ (2 ^ 48<(i.bytes:Int) * c):=by
   rw [<- q1,Int.mul_comm];omega
  have n3:¬ (l<0):=by omega
  have n4:¬ (c<l):=by omega
  simp only [Instr.makeSlice,Sem.run_bind,run_underlying hu,Result.andThen_ok,asInt,asIntOf,Sem.run_pure,typeInfo,w1,w2]
  have n2':¬ (281474976710656<(i.bytes:Int) * c):=by omega
  simp [hi,n1,n2',n3,n4,run_askRoom,run_sizeOf' hinfo]
  rw [hxs]
  by_cases h0:c.toNat * x.cells.size=0
  ·rw [if_pos h0,zeroCells_nil h0]
   simp [newRow]
  ·rw [if_neg h0]
   simp only [run_zeroValue' hi hx,Result.andThen_ok]
   rw [show (Array.range (c.toNat * x.cells.size)).map (fun i=>x.cells[i % x.cells.size]!)=Builtin.zeroCells x.cells c.toNat from rfl]
   simp [newRow]
 ·cases h
end
end Go.AM
namespace Go.AM
section
variable {callee:Callee} {P:Program} {C:Ctx} {H H':Heap} {v:AVal} {ρ:Opd->AVal} {ρr:Operand->Value} {o:Oper}

theorem op_slice {t e:TypeId} {x:Operand} {lo hi mx:Option Operand} {a:Opd} {lo' hi' mx':Option Opd} (hH:HR P C H) (hρ:RO' C ρ ρr) (he:execOp ρr o=valS (Instr.sliceAt t (ρr x) (lo.map ρr) (hi.map ρr) (mx.map ρr)))
  (hu:P.underlying t=some (.slice e)) (hi0:(P.info? e).isSome=true)
  (ha:opd x=some a) (hlo:opdO lo=some lo') (hhi:opdO hi=some hi') (hmx:opdO mx=some mx') (h:aop callee ρ H (.slice (P.cellsOf e) a lo' hi' mx')=some (v,H')):Goes P (execOp ρr o) C.w (After P C v H'):=by
 have hx:=hρ.ro x a ha
 simp only [aop,Option.bind_eq_some_iff] at h
 obtain ⟨l,hl,h⟩:=h
 have hlo':=optNat_rel hρ hlo hl
 have fin:∀ {hh mm:Option Nat},(((hi.map ρr)=none/\hh=none)∨∃ (k:IntKind) (q:Nat),(hi.map ρr)=some (.int k (q:Int))/\hh=some q) ->
   (((mx.map ρr)=none/\mm=none)∨∃ (k:IntKind) (q r:Nat),(mx.map ρr)=some (.int k (q:Int))/\mm=some q/\hh=some r) ->
   aslice (P.cellsOf e) H (ρ a) l hh mm=some (v,H')->Goes P (execOp ρr o) C.w (After P C v H'):=by
  intro hh mm h1 h2 h3
  obtain ⟨C',r,k1,k2,k3,k4⟩:=aslice_rel hH hu hi0 rfl hlo' h1 h2 hx h3
  rw [he]
  refine goes_val (r:=r) ?_ ⟨C',rfl,k2,k3,k4⟩
  simp only [Instr.sliceAt,Sem.run_bind,run_underlying hu,Result.andThen_ok]
  exact k1
 have one:∀ {y:Option Operand} {y':Opd} {n:Nat},opdO y=some (some y')->asNat (ρ y')=some n->∃ k,y.map ρr=some (.int k (n:Int)):=by
  intro y y' n h1 h2
  rcases opdO_rel h1 with ⟨_,e⟩ | ⟨z,b,rfl,e,hb⟩
  ·cases e
  ·cases e
   obtain ⟨k,hk⟩:=asNat_rel (hρ.ro z _ hb) h2
   exact ⟨k,by simp [hk]⟩
 have non:∀ {y:Option Operand},opdO y=some none->y.map ρr=none:=by
  intro y h1
  rcases opdO_rel h1 with ⟨rfl,e⟩ | ⟨z,b,rfl,e,hb⟩
  ·rfl
  ·cases e
 split at h
 ·exact fin (.inl ⟨non hhi,rfl⟩) (.inl ⟨non hmx,rfl⟩) h
 ·simp only [Option.bind_eq_some_iff] at h
  obtain ⟨q,hq,h⟩:=h
  obtain ⟨k,hk⟩:=one hhi hq
  exact fin (.inr ⟨k,q,hk,rfl⟩) (.inl ⟨non hmx,rfl⟩) h
 ·simp only [Option.bind_eq_some_iff] at h
  obtain ⟨q,hq,m,hm,h⟩:=h
  obtain ⟨k,hk⟩:=one hhi hq
  obtain ⟨k',hk'⟩:=one hmx hm
  exact fin (.inr ⟨k,q,hk,rfl⟩) (.inr ⟨k',m,q,hk',rfl,rfl⟩) h
 ·cases h

theorem op_append {at':Array TypeId} {t xt ty e:TypeId} {d:TypeDesc} {z:List AVal} {x y:Operand} {a b:Opd} {fl:Bool} (hH:HR P C H) (hρ:RO' C ρ ρr) (he:execOp ρr o=valS (Builtin.append_ at' ty #[ρr x,ρr y])) (hat:at'=#[t,xt])
  (hu:P.underlying t=some (.slice e)) (hxt:P.underlying xt=some d) (hd:∀ k,d≠.int k) (hz:zeroOf P e=some z) (hzl:z.length=P.cellsOf e) (h0:P.cellsOf e≠0) (hb0:P.bytesOf e≠0)
  (ha:opd x=some a) (hb:opd y=some b) (h:aop callee ρ H (.append fl (P.cellsOf e) (P.bytesOf e) a b)=some (v,H')):Goes P (execOp ρr o) C.w (After P C v H'):=by
 subst hat
 have hx:=hρ.ro x a ha
 have hy:=hρ.ro y b hb
 simp only [aop,aappend] at h
 rw [he]
 split at h
 ·rename_i s e1
  rw [e1] at hy
  have hy:ρr y=_:=hy
  rw [hy]
  have hlen:(s.toList.map fun c=>[vint .u8 c.toNat]).length=s.size:=by
   rw [ByteArray.toList_eq];simp
  have hsz:P.cellsOf e=1∨s.size=0:=by
   unfold aadd at h
   split at h
   ·cases h
   ·rename_i hpre
    have hrows:rowsOk (P.cellsOf e) (s.toList.map fun c=>[vint .u8 c.toNat])=true:=by
     cases hr:rowsOk (P.cellsOf e) (s.toList.map fun c=>[vint .u8 c.toNat]) with
     | true=>rfl
     | false=>simp [hr] at hpre
    have:=rows_of hrows
    cases hl:s.toList with
    | nil=>right;rw [<- hlen,hl];rfl
    | cons c r=>left;have:=this [vint .u8 c.toNat] (by rw [hl];simp);simpa using this.symm
  have hnews:(s.data.map fun b=>Value.int .u8 b.toNat).toList.length=(s.toList.map fun c=>[vint .u8 c.toNat]).length * P.cellsOf e:=by
   rcases hsz with hsz | hsz
   ·rw [hsz,hlen];simp
   ·rw [hlen,hsz]
    have:s.data.size=0:=hsz
    simp [this]
  have hext:∀ w,(Builtin.firstCells (P.cellsOf e) s.size (.string s)).run P w=.ok (s.data.map fun b=>Value.int .u8 b.toNat).toList.toArray w:=by
   intro w
   have:s.extract 0 s.size=s:=by simp
   rw [Array.toArray_toList]
   simp only [Builtin.firstCells,this,Sem.run_pure]
  have hA:=adds_append (C:=C) (ty:=ty) (x:=.string s) (n:=s.size) (news:=(s.data.map fun b=>Value.int .u8 b.toNat).toList) hu hxt hd hz hzl h0 hb0 (fun w=>rfl) (fun w _=>hext w)
  rw [<- hlen] at hA
  obtain ⟨C',r,k1,k2,k3,k4⟩:=sim_add hH (Nat.pos_of_ne_zero h0) hA hnews (by
   rw [ByteArray.toList_eq]
   have:∀ l:List UInt8,RL C (l.map fun c=>[vint .u8 c.toNat]).flatten (l.map fun b=>Value.int .u8 b.toNat):=by
    intro l
    induction l with
    | nil=>rfl
    | cons c r ih=>exact ⟨_,_,rfl,rfl,ih⟩
   simpa using this s.data.toList) (by intro v hv;simp at hv;obtain ⟨c,_,rfl⟩:=hv;rfl) (fun _=>by
   have:∀ l:List UInt8,flatLL (l.map fun c=>[vint .u8 c.toNat])=true:=by
    intro l
    induction l with
    | nil=>rfl
    | cons c r ih=>rw [List.map_cons,flatLL,ih];rfl
   exact this _) hx h
  exact goes_val k1 ⟨C',rfl,k2,k3,k4⟩
 ·simp only [Option.bind_eq_some_iff] at h
  obtain ⟨⟨fx,es⟩,hc,h⟩:=h
  have hrows:rowsOk (P.cellsOf e) es=true:=by
   unfold aadd at h
   split at h
   ·cases h
   ·rename_i hpre
    cases hr:rowsOk (P.cellsOf e) es with
    | true=>rfl
    | false=>simp [hr] at hpre
  obtain ⟨ad,c,xs,e1,e2,e3,e4,e5,e6,e7,e8⟩:=content_rel hH hy hc hrows
  rw [e1]
  have hA:=adds_append (C:=C) (ty:=ty) (x:=.slice ad es.length c) (n:=es.length) (news:=xs) hu hxt hd hz hzl h0 hb0 (fun w=>rfl) (fun w hw=>firstCells_of (fun e=>by have:=e3 e;subst this;simpa using e4) e4 e7 w hw)
  obtain ⟨C',r,k1,k2,k3,k4⟩:=sim_add hH (Nat.pos_of_ne_zero h0) hA e4 e5 e6 e8 hx h
  exact goes_val k1 ⟨C',rfl,k2,k3,k4⟩

theorem op_appendZ {at':Array TypeId} {t xt ty e:TypeId} {k:IntKind} {z:List AVal} {x y:Operand} {a b:Opd} {fl:Bool} (hH:HR P C H) (hρ:RO' C ρ ρr) (he:execOp ρr o=valS (Builtin.append_ at' ty #[ρr x,ρr y])) (hat:at'=#[t,xt])
  (hu:P.underlying t=some (.slice e)) (hxt:P.underlying xt=some (.int k)) (hz:zeroOf P e=some z) (hzl:z.length=P.cellsOf e) (h0:P.cellsOf e≠0) (hb0:P.bytesOf e≠0)
  (ha:opd x=some a) (hb:opd y=some b) (h:aop callee ρ H (.appendZ fl (P.cellsOf e) (P.bytesOf e) z a b)=some (v,H')):Goes P (execOp ρr o) C.w (After P C v H'):=by
 subst hat
 have hx:=hρ.ro x a ha
 have hy:=hρ.ro y b hb
 simp only [aop] at h
 rw [he]
 split at h
 ·rename_i l e1
  obtain ⟨⟨b1,b2,b3⟩,h⟩:=Option.ite_none_right_eq_some.1 h
  rw [e1] at hy
  have hy:ρr y=_:=hy
  obtain ⟨m,rfl⟩:∃ m:Nat,l=(m:Int):=⟨l.toNat,by omega⟩
  rw [hy]
  simp only [Int.toNat_natCast] at h
  obtain ⟨news,hA,n1,n2,n3⟩:=adds_zeros (C:=C) (ty:=ty) (k':=.i64) (m:=m) hu hxt hz hzl h0 hb0 (by omega) (by have:=Int.natCast_mul m (P.bytesOf e);omega)
  obtain ⟨C',r,k1,k2,k3,k4⟩:=sim_add hH (Nat.pos_of_ne_zero h0) hA n1 n2 n3 (fun e=>flatLL_replicate e _) hx h
  exact goes_val k1 ⟨C',rfl,k2,k3,k4⟩
 ·cases h
end
end Go.AM
namespace Go.AM
section
variable {callee:Callee} {P:Program} {C:Ctx} {H H':Heap} {v:AVal} {ρ:Opd->AVal} {ρr:Operand->Value} {o:Oper}

theorem op_copyS {at':Array TypeId} {t ty e:TypeId} {x y:Operand} {a b:Opd} (hH:HR P C H) (hρ:RO' C ρ ρr) (he:execOp ρr o=valS (Builtin.copy_ at' ty #[ρr x,ρr y])) (h0:at'[0]?=some t)
    (hu:P.underlying t=some (.slice e)) (hi0:(P.info? e).isSome=true)
    (ha:opd x=some a) (hb:opd y=some b) (h:aop callee ρ H (.copyS (P.cellsOf e) a b)=some (v,H')):Goes P (execOp ρr o) C.w (After P C v H'):=by
  have hx:=hρ.ro x a ha
  have hy:=hρ.ro y b hb
  simp only [aop,Option.bind_eq_some_iff] at h
  obtain ⟨⟨fx,es⟩,hc,h⟩:=h
  split at h
  · cases h
  · rename_i hrw
    have hrows:rowsOk (P.cellsOf e) es=true:=by simpa using hrw
    have hr:=rows_of hrows
    obtain ⟨ad,c,xs,e1,e2,e3,e4,e5,e6,e7,e8⟩:=content_rel hH hy hc hrows
    generalize hsz:P.cellsOf e=sz at *
    rw [he]
    -- what is written
    have run:∀ {q:Addr} {n cc:Nat} {w':World},ρr x=.slice (some q) n cc->(storeCells q (xs.take (min es.length n * sz))).run P C.w=.ok () w' ->
        (Builtin.copy_ at' ty #[ρr x,ρr y]).run P C.w=.ok (.int .i64 (min es.length n:Nat)) w':=by
      intro q n cc w' hq hst
      have hmin:min es.length n * sz<=es.length * sz:=Nat.mul_le_mul_right _ (Nat.min_le_left _ _)
      have hf:(Builtin.firstCells sz (Nat.min es.length n) (.slice ad (Nat.min es.length n) c)).run P C.w=.ok (xs.take (min es.length n * sz)).toArray C.w :=
        firstCells_of (fun e => by have:=e3 e;subst this;have:xs=[]:=by simpa using e4
                                   rw [this];simp) (by rw [List.length_take,e4];exact Nat.min_eq_left hmin) (fun b hb j v hv=>by
          rw [List.getElem?_take] at hv
          split at hv
          · exact e7 b hb j v hv
          · cases hv) C.w rfl
      have hf':(Builtin.firstCells sz (Nat.min es.length n) (.slice ad es.length c)).run P C.w=.ok (xs.take (min es.length n * sz)).toArray C.w:=by
        rw [<- hf];cases ad<;>rfl
      rw [hq,e1]
      have hso:=run_sizeOf' hi0 C.w
      rw [hsz] at hso
      simp only [Builtin.copy_,h0,List.getElem?_toArray,List.getElem?_cons_zero,List.getElem?_cons_succ,Sem.run_bind,run_underlying hu,Result.andThen_ok,Builtin.lenOf,Sem.run_pure,hso,hf',hst,goInt]
    have hmm:∀ n,(xs.take (min es.length n * sz)).length=min es.length n * sz:=fun n=>by
      rw [List.length_take,e4];exact Nat.min_eq_left (Nat.mul_le_mul_right _ (Nat.min_le_left _ _))
    have hrel:∀ n,RL C (es.take (min es.length n)).flatten (xs.take (min es.length n * sz)):=fun n=>by
      rw [take_flatten _ hr];exact RL_take e5 _
    split at h
    · rename_i i k sd n ed
      rw [ed] at hx
      obtain ⟨q,cc,hq,hn,hd⟩:=hx
      split at h
      · rename_i cs hi
        obtain ⟨⟨b1,hk⟩,h'⟩:=Option.ite_none_right_eq_some.1 h
        clear h
        subst b1
        cases h'
        obtain ⟨hs,cells,ty',hbk,hl,h1c,hF⟩:=hH.ent i _ hi
        rw [hs] at hd
        rcases hd with hd | ⟨_,hd⟩
        · cases hd
        have hcl:cells.toList.length=cs.length:=RL_length hl
        have hcs:cells.size=cs.length:=by simpa using hcl
        have hmn:min es.length n * sd<=n * sd:=Nat.mul_le_mul_right _ (Nat.min_le_right _ _)
        have hst:(storeCells q (xs.take (min es.length n * sd))).run P C.w=.ok () (C.w.setRow (C.ν i) (cells.toList.take k++xs.take (min es.length n * sd)++cells.toList.drop (k+(xs.take (min es.length n * sd)).length)).toArray) ∨
            (min es.length n * sd=0/\(storeCells q (xs.take (min es.length n * sd))).run P C.w=.ok () C.w):=by
          rcases hd with hd | hd
          · right
            have:n=0:=by omega
            subst this
            simp [storeCells]
          · left
            subst hd
            have:=run_storeCells_at (P:=P) (C.ν i) k ty' (xs.take (min es.length n * sd)) 0 cells C.w hbk (by rw [hmm];omega) (fun v hv=>e6 v (List.mem_of_mem_take hv))
            simpa using this
        rcases hst with hst | ⟨hz,hst⟩
        · have hp:=hH.turn (C':=C.row (C.ν i) (cells.toList.take k++xs.take (min es.length n * sd)++cells.toList.drop (k+(xs.take (min es.length n * sd)).length)).toArray) (e':=.box (over cs k (es.take (min es.length n)).flatten)) (s:=.box) (s':=.box) hi hs (by simp) (fun b hb'=>setRow_other _ _ _ _ hb') (setRow_size _ _ _) rfl (by
              funext j;by_cases hj:j=i
              · subst hj;rw [upd_same];exact hs
              · rw [upd_ne _ _ hj];rfl) (by simp) rfl (fun o hf=>absurd hf (hF o)) (.inl rfl) (fun N=>by
              refine ⟨hs,_,ty',setRow_heap _ _ _ _ _ _ hbk,?_,?_,hF⟩
              · simp only []
                exact RL_id N.tr (fun _ _=>trivial) (RL_over hl (hrel n) k)
              · intro v hv
                simp only [List.mem_append] at hv
                rcases hv with (hv | hv) | hv
                · exact h1c v (List.mem_of_mem_take hv)
                · exact e6 v (List.mem_of_mem_take hv)
                · exact h1c v (List.mem_of_mem_drop hv))
          exact goes_val (run hq hst) ⟨_,rfl,hp.1,hp.2,rfl⟩
        · have hnil:(es.take (min es.length n)).flatten=[]:=by
            have:=RL_length (hrel n)
            rw [hmm,hz] at this
            exact List.length_eq_zero_iff.1 this.symm
          have hsame:H.set i (.box (over cs k (es.take (min es.length n)).flatten))=H:=by
            rw [hnil]
            simp only [over,List.length_nil,Nat.add_zero,List.append_nil,List.take_append_drop]
            rw [<- (List.getElem?_eq_some_iff.1 hi).2]
            simp
          rw [hsame]
          exact goes_val (run hq hst) ⟨C,rfl,hH,Nx.refl C,rfl⟩
      · cases h
    · rename_i i len so off n ed
      rw [ed] at hx
      obtain ⟨q,cc,hq,hn,hd⟩:=hx
      split at h
      · rename_i fl lck full se ws hi
        obtain ⟨⟨b1,b2,b3,b4,b5,b6⟩,h'⟩:=Option.ite_none_right_eq_some.1 h
        clear h
        subst b1 b2 b4
        cases h'
        obtain ⟨cells,ty',cp,hs,hbk,hcsz,hcp,hse,hfull,hrows0,hl,h1c,hflat,hF⟩:=hH.ent i _ hi
        rw [hs] at hd
        rcases hd with hd | ⟨cur,s,cp',e',_,hd⟩
        · cases hd
        cases e'
        obtain ⟨_,k2,k3⟩:=hd rfl rfl
        have hFz:∀ o,¬ C.Fz (C.ν i) o:=fun o ho=>by have:=(hF o ho).1;rw [b5] at this;cases this
        generalize hm:min es.length n=m at *
        have hm1:m<=n:=by omega
        have hm2:m<=es.length:=by omega
        have hmul1:(off+m) * se<=ws.length * se:=Nat.mul_le_mul_right _ (by omega)
        have hmul2:ws.length * se<=cp * se:=Nat.mul_le_mul_right _ hcp
        rw [Nat.add_mul] at hmul1
        have hmmn:=hmm n
        rw [hm] at hmmn
        have hreln:=hrel n
        rw [hm] at hreln
        have hst:(storeCells q (xs.take (m * se))).run P C.w=.ok () (C.w.setRow (C.ν i) (cells.toList.take (off * se)++xs.take (m * se)++cells.toList.drop (off * se+m * se)).toArray) ∨
            (m=0/\(storeCells q (xs.take (m * se))).run P C.w=.ok () C.w):=by
          rcases k3 with k3 | k3
          · right
            have:m=0:=by omega
            subst this
            exact ⟨rfl,by simp [storeCells]⟩
          · left
            subst k3
            have:=run_storeCells_at (P:=P) (C.ν i) (off * se) ty' (xs.take (m * se)) 0 cells C.w hbk (by rw [hmmn];omega) (fun v hv=>e6 v (List.mem_of_mem_take hv))
            simpa [hmmn] using this
        have hlen2:(ws.take off++es.take m++ws.drop (off+m)).length=ws.length:=by simp;omega
        have hcl:cp * se<=cells.toList.length:=by simpa using hcsz
        have hrows2:∀ r∈ws.take off++es.take m++ws.drop (off+m),r.length=se:=by
          intro r hr'
          simp only [List.mem_append] at hr'
          rcases hr' with (hr' | hr') | hr'
          · exact hrows0 r (List.mem_of_mem_take hr')
          · exact hr r (List.mem_of_mem_take hr')
          · exact hrows0 r (List.mem_of_mem_drop hr')
        have hflat2:fl=true->flatLL (ws.take off++es.take m++ws.drop (off+m))=true:=fun e=>by
          rw [flatLL_append,flatLL_append,flatLL_take (hflat e),flatLL_take (e8 (b6 e)),flatLL_drop (hflat e)];rfl
        rcases hst with hst | ⟨hz,hst⟩
        · have hp := hH.turn (C':=C.row (C.ν i) (cells.toList.take (off * se)++xs.take (m * se)++cells.toList.drop (off * se+m * se)).toArray) (e':=.arr fl false full se (ws.take off++es.take m++ws.drop (off+m))) (s:=.arr ws.length se cp) (s':=.arr ws.length se cp) hi hs (by simp) (fun b hb'=>setRow_other _ _ _ _ hb') (setRow_size _ _ _) rfl (by
              funext j;by_cases hj:j=i
              · subst hj;rw [upd_same];exact hs
              · rw [upd_ne _ _ hj];rfl) (by simp) rfl (fun o hf=>absurd hf (hFz o)) (.inl rfl) (fun N=>by
              refine ⟨_,ty',cp,by rw [hlen2];exact hs,setRow_heap _ _ _ _ _ _ hbk,?_,by rw [hlen2];exact hcp,hse,fun e=>by rw [hlen2];exact hfull e,hrows2,?_,?_,hflat2,fun o ho=>absurd ho (hFz o)⟩
              · simp only [List.size_toArray,List.length_append,List.length_take,List.length_drop]
                rw [e4]
                have:m * se<=es.length * se:=Nat.mul_le_mul_right _ hm2
                omega
              · rw [hlen2]
                refine RL_id N.tr (fun _ _=>trivial) ?_
                have e1:=RL_append (RL_append (RL_take hl (off * se)) hreln) (RL_drop hl (off * se+m * se))
                have e2:(ws.take off++es.take m++ws.drop (off+m)).flatten=ws.flatten.take (off * se)++(es.take m).flatten++ws.flatten.drop (off * se+m * se):=by
                  rw [List.flatten_append,List.flatten_append,take_flatten off hrows0,drop_flatten (off+m) hrows0,Nat.add_mul]
                rw [e2]
                have e3:(cells.toList.take (off * se)++xs.take (m * se)++cells.toList.drop (off * se+m * se)).toArray.toList.take (ws.length * se)=(cells.toList.take (ws.length * se)).take (off * se)++xs.take (m * se)++(cells.toList.take (ws.length * se)).drop (off * se+m * se):=by
                  apply List.ext_getElem?
                  intro q
                  simp only [List.getElem?_append,List.getElem?_take,List.getElem?_drop,List.length_append,List.length_take,List.length_drop,e4]
                  have:m * se<=es.length * se:=Nat.mul_le_mul_right _ hm2
                  grind
                rw [e3]
                exact e1
              · intro v hv
                simp only [List.mem_append] at hv
                rcases hv with (hv | hv) | hv
                · exact h1c v (List.mem_of_mem_take hv)
                · exact e6 v (List.mem_of_mem_take hv)
                · exact h1c v (List.mem_of_mem_drop hv))
          have hrun:=run hq (w':=C.w.setRow (C.ν i) (cells.toList.take (off * se)++xs.take (m * se)++cells.toList.drop (off * se+m * se)).toArray) (by rw [hm];exact hst)
          rw [hm] at hrun
          exact goes_val hrun ⟨_,rfl,hp.1,hp.2,rfl⟩
        · subst hz
          have hsame:H.set i (.arr fl false full se (ws.take off++es.take 0++ws.drop (off+0)))=H:=by
            simp only [List.take_zero,List.append_nil,Nat.add_zero,List.take_append_drop]
            rw [<- b5,<- (List.getElem?_eq_some_iff.1 hi).2]
            simp
          rw [hsame]
          have hrun:=run hq (w':=C.w) (by rw [hm];exact hst)
          rw [hm] at hrun
          exact goes_val hrun ⟨C,rfl,hH,Nx.refl C,rfl⟩
      · cases h
    · cases h
end
end Go.AM
namespace Go.AM
section
variable {callee:Callee} {P:Program} {C:Ctx} {H H':Heap} {v:AVal} {ρ:Opd->AVal} {ρr:Operand->Value} {o:Oper}

theorem reach_spec (H:Heap):∀ (n:Nat) (w acc R:List Nat),reach H n w acc=some R->acc.Nodup ->
  R.Nodup/\(∃ t,R=acc++t)/\(∀ i∈w,i∈R)/\(∀ i∈R,i∈acc∨(i<H.length/\∀ e,H[i]?=some e->∀ j∈refsE e,j∈R))
 | n,[],acc,R,h,ha=>by
  have:R=acc:=by cases n<;>simp [reach] at h<;>exact h.symm
  subst this
  exact ⟨ha,⟨[],by simp⟩,by simp,fun i hi=>.inl hi⟩
 | 0,_::_,acc,R,h,ha=>by simp [reach] at h
 | n + 1, i :: w,acc,R,h,ha=>by
  rw [reach] at h
  split at h
  ·rename_i hi
   obtain ⟨h1,⟨t,ht⟩,h3,h4⟩:=reach_spec H n w acc R h ha
   refine ⟨h1,⟨t,ht⟩,fun j hj=>?_,h4⟩
   rcases List.mem_cons.1 hj with rfl | hj
   ·rw [ht];exact List.mem_append_left _ hi
   ·exact h3 j hj
  ·rename_i hi
   split at h
   ·rename_i e he
    have hnd:(acc++[i]).Nodup:=by
     rw [List.nodup_append]
     refine ⟨ha,by simp,?_⟩
     intro a ha' b hb
     simp at hb
     subst hb
     rintro rfl
     exact hi ha'
    obtain ⟨h1,⟨t,ht⟩,h3,h4⟩:=reach_spec H n (refsE e++w) (acc++[i]) R h hnd
    have hiR:i∈R:=by rw [ht];simp
    refine ⟨h1,⟨i::t,by rw [ht];simp⟩,fun j hj=>?_,fun j hj=>?_⟩
    ·rcases List.mem_cons.1 hj with rfl | hj
     ·exact hiR
     ·exact h3 j (List.mem_append_right _ hj)
    ·rcases h4 j hj with h5 | h5
     ·rcases List.mem_append.1 h5 with h5 | h5
      ·exact .inl h5
      ·simp at h5
       subst h5
       exact .inr ⟨(List.getElem?_eq_some_iff.1 he).1,fun e' he' q hq=>by
        rw [he] at he';cases he'
        exact h3 q (List.mem_append_left _ hq)⟩
     ·exact .inr h5
   ·cases h

theorem idxOf_get {R:List Nat} (hR:R.Nodup) {q i:Nat} (h:R[q]?=some i):R.idxOf i=q:=by
 obtain ⟨hq,rfl⟩:=List.getElem?_eq_some_iff.1 h
 exact hR.idxOf_getElem _ hq

theorem get_idxOf {R:List Nat} {i:Nat} (h:i∈R):R[R.idxOf i]?=some i:=by
 rw [List.getElem?_eq_getElem (List.idxOf_lt_length_iff.2 h)]
 simp


section
variable {R:List Nat}

def locC (C:Ctx) (R:List Nat):Ctx :=
 { C with ν:=fun q=>C.ν (R.getD q 0),sh:=fun q=>if q<R.length then C.sh (R.getD q 0) else none }

theorem locC_tr (C:Ctx) (R:List Nat):Tr C (locC C R) (fun i=>R.idxOf i) (·∈R):=by
 refine ⟨fun b o h=>⟨h,rfl⟩,fun i s hi hs=>.inr (.inl ?_)⟩
 have hlt:=List.idxOf_lt_length_iff.2 hi
 have hg:R.getD (R.idxOf i) 0=i:=by rw [List.getD_eq_getElem?_getD,get_idxOf hi];rfl
 simp only [locC,hlt,if_true,hg]
 exact ⟨hs,trivial⟩

theorem HR.loc (hH:HR P C H) (hR:R.Nodup) (hlt:∀ i∈R,i<H.length) (hcl:∀ i∈R,∀ e,H[i]?=some e->∀ j∈refsE e,j∈R) :
  HR P (locC C R) (R.map fun i=>renE (fun i=>R.idxOf i) (H.getD i .dead)):=by
 have hget:∀ {q:Nat},q<R.length->R[q]?=some (R.getD q 0):=fun {q} hq=>by
  rw [List.getD_eq_getElem?_getD,List.getElem?_eq_getElem hq];rfl
 refine ⟨fun q e hq=>?_,fun q hq=>?_,fun i j s s' hs hd hs' hd' e=>?_,hH.low⟩
 ·simp only [List.getElem?_map,Option.map_eq_some_iff] at hq
  obtain ⟨i,hi,rfl⟩:=hq
  have him:=List.mem_of_getElem? hi
  have hil:=hlt i him
  have hgd:H.getD i .dead=H[i]:=by rw [List.getD_eq_getElem?_getD,List.getElem?_eq_getElem hil];rfl
  rw [hgd]
  have he:=hH.ent i _ (List.getElem?_eq_getElem hil)
  have hqi:=idxOf_get hR hi
  have hql:=(List.getElem?_eq_some_iff.1 hi).1
  have hg:R.getD q 0=i:=by rw [List.getD_eq_getElem?_getD,hi];rfl
  have:=RE_tr (locC_tr C R) he (hcl i him _ (List.getElem?_eq_getElem hil)) (by rw [hqi];simp only [locC,hql,if_true,hg]) (by rw [hqi];simp only [locC,hg]) (fun _=>rfl) (fun o _ h=>h)
  rwa [hqi] at this
 ·simp only [List.length_map] at hq
  simp only [locC,Nat.not_lt.2 hq,if_false]
 ·simp only [locC] at hs hs' e
  split at hs
  ·rename_i hi
   split at hs'
   ·rename_i hj
    have:=hH.inj _ _ s s' hs hd hs' hd' e
    have h1:=hget hi
    have h2:=hget hj
    rw [this] at h1
    exact (idxOf_get hR h1).symm.trans (idxOf_get hR h2)
   ·cases hs'
  ·cases hs

def backC (C C2:Ctx) (n:Nat) (R:List Nat):Ctx :=
 { C2 with
  ν:=fun i=>if i∈R then C2.ν (R.idxOf i) else if i<n then C.ν i else C2.ν (R.length+(i - n))
  sh:=fun i=>if i∈R then C2.sh (R.idxOf i) else if i<n then C.sh i else C2.sh (R.length+(i - n)) }

theorem setAll_length:∀ (R:List Nat) (es:List Entry) (H:Heap),(setAll H R es).length=H.length
 | [],_,_=>by simp [setAll]
 | i::r,[],H=>by simp [setAll]
 | i::r,e::es,H=>by rw [setAll,setAll_length r es];simp

theorem setAll_get:∀ (R:List Nat) (es:List Entry) (H:Heap),R.Nodup->R.length=es.length->(∀ i∈R,i<H.length)->∀ j,(setAll H R es)[j]?=if j∈R then es[R.idxOf j]? else H[j]?
 | [],es,H,_,_,_,j=>by simp [setAll]
 | i::r,[],H,_,hl,_,j=>by simp at hl
 | i :: r,e::es,H,hn,hl,hlt,j=>by
  rw [List.nodup_cons] at hn
  rw [setAll,setAll_get r es (H.set i e) hn.2 (by simpa using hl) (fun q hq=>by simp;exact hlt q (by simp [hq]))]
  by_cases hj:j=i
  ·subst hj
   rw [if_neg hn.1,if_pos (by simp)]
   rw [List.getElem?_set_self (hlt j (by simp))]
   simp
  ·by_cases hjr:j∈r
   ·rw [if_pos hjr,if_pos (by simp [hjr])]
    have:(i == j)=false:=by simpa using fun e=>hj e.symm
    simp [List.idxOf_cons,this]
   ·rw [if_neg hjr,if_neg (by simp [hj,hjr])]
    rw [List.getElem?_set_ne (fun e=>hj e.symm)]

theorem back {C2:Ctx} {Hn:Heap} (hH:HR P C H) (hR:R.Nodup) (hlt:∀ i∈R,i<H.length) (h2:HR P C2 Hn) (hN:Nx (locC C R) C2) (hlen:R.length<=Hn.length) :
  HR P (backC C C2 H.length R) (setAll H R ((Hn.take R.length).map (renE (toGlob R H.length)))++(Hn.drop R.length).map (renE (toGlob R H.length)))/\Nx C (backC C C2 H.length R) /\
   Tr C2 (backC C C2 H.length R) (toGlob R H.length) (fun _=>True):=by
 generalize hn:H.length=n at *
 have hget:∀ {q:Nat},q<R.length->R[q]?=some (R.getD q 0):=fun {q} hq=>by
  rw [List.getD_eq_getElem?_getD,List.getElem?_eq_getElem hq];rfl
 -- where local positions go
 have hglob:∀ q,(backC C C2 n R).sh (toGlob R n q)=C2.sh q/\(backC C C2 n R).ν (toGlob R n q)=C2.ν q:=by
  intro q
  unfold toGlob
  by_cases hq:q<R.length
  ·have h1:=hget hq
   have h3:=List.mem_of_getElem? h1
   have h4:=idxOf_get hR h1
   simp only [hq,if_true,backC,h3,h4,and_self]
  ·have h3:n+(q - R.length) ∉ R:=fun h=>by have:=hlt _ h;omega
   have h4:¬ (n+(q - R.length)<n):=by omega
   simp only [hq,if_false,backC,h3,h4]
   rw [show R.length+(n+(q - R.length) - n)=q by omega]
   exact ⟨rfl,rfl⟩
 have T2:Tr C2 (backC C C2 n R) (toGlob R n) (fun _=>True):=⟨fun b o h=>⟨h,rfl⟩,fun i s _ hs=>.inr (.inl ⟨(hglob i).1.trans hs,(hglob i).2⟩)⟩
 -- a position among these
 have hin:∀ {i},i∈R->(backC C C2 n R).sh i=C2.sh (R.idxOf i)/\(backC C C2 n R).ν i=C2.ν (R.idxOf i):=fun {i} hi=>by simp only [backC,hi,if_true,and_self]
 have hout:∀ {i},i ∉ R->i<n->(backC C C2 n R).sh i=C.sh i/\(backC C C2 n R).ν i=C.ν i:=fun {i} hi h=>by simp only [backC,hi,h,if_true,if_false,and_self]
 have hnew:∀ {i},¬ i<n->(backC C C2 n R).sh i=C2.sh (R.length+(i - n))/\(backC C C2 n R).ν i=C2.ν (R.length+(i - n)):=fun {i} h=>by
  have:i ∉ R:=fun hi=>h (hlt i hi)
  simp only [backC,this,h,if_false,and_self]
 have hloc:∀ {i},i∈R->(locC C R).sh (R.idxOf i)=C.sh i/\(locC C R).ν (R.idxOf i)=C.ν i:=fun {i} hi=>by
  have h1:=List.idxOf_lt_length_iff.2 hi
  have hg:R.getD (R.idxOf i) 0=i:=by rw [List.getD_eq_getElem?_getD,get_idxOf hi];rfl
  simp only [locC,h1,if_true,hg,and_self]
 have hlocq:∀ {q s},(locC C R).sh q=some s->q<R.length/\C.sh (R.getD q 0)=some s/\(locC C R).ν q=C.ν (R.getD q 0)/\R.getD q 0∈R:=fun {q s} hs=>by
  simp only [locC] at hs
  split at hs
  ·rename_i hq
   exact ⟨hq,hs,rfl,List.mem_of_getElem? (hget hq)⟩
  ·cases hs
 have T:Tr C (backC C C2 n R) id (fun _=>True):=by
  refine ⟨fun b o h=>hN.tr.fz b o h,fun i s _ hs=>?_⟩
  simp only [id]
  by_cases hi:i∈R
  ·obtain ⟨e1,e2⟩:=hin hi
   obtain ⟨e3,e4⟩:=hloc hi
   have:=hN.tr.sh (R.idxOf i) s trivial (e3.trans hs)
   simp only [id] at this
   rw [e1,e2,<- e4]
   exact this
  ·have hil:i<n:=by
    rcases Nat.lt_or_ge i n with h | h
    ·exact h
    ·rw [hH.out i (by omega)] at hs;cases hs
   obtain ⟨e1,e2⟩:=hout hi hil
   exact .inr (.inl ⟨e1.trans hs,e2⟩)
 have notin:∀ {j s},j ∉ R->C.sh j=some s->s≠.dead->∀ q u,(locC C R).sh q=some u->u≠.dead->(locC C R).ν q≠C.ν j:=by
  intro j s hj hs hd q u hq hu e
  obtain ⟨_,h1,h2,h3⟩:=hlocq hq
  have:=hH.inj _ _ _ _ h1 hu hs hd (h2.symm.trans e)
  rw [this] at h3
  exact hj h3
 have N:Nx C (backC C C2 n R):=by
  refine ⟨T,hN.size,fun b hb hne=>hN.frame b hb fun q u hq hu e=>?_,fun i s hs hd hlt'=>?_,hN.env,fun b o h=>?_⟩
  ·obtain ⟨_,h1,h2,_⟩:=hlocq hq
   exact hne _ _ h1 hu (h2.symm.trans e)
  ·have key:∀ q,C2.sh q=some s->C2.ν q=(backC C C2 n R).ν i->∃ j u,C.sh j=some u/\u≠.dead/\C.ν j=(backC C C2 n R).ν i:=by
    intro q hq e
    obtain ⟨j,u,k1,k2,k3⟩:=hN.own q s hq hd (by rw [e];exact hlt')
    obtain ⟨_,h1,h2,_⟩:=hlocq k1
    exact ⟨_,u,h1,k2,h2.symm.trans (k3.trans e)⟩
   by_cases hi:i∈R
   ·exact key _ ((hin hi).1 ▸ hs) (hin hi).2.symm
   ·by_cases hil:i<n
    ·exact ⟨i,s,(hout hi hil).1 ▸ hs,hd,(hout hi hil).2.symm⟩
    ·exact key _ ((hnew hil).1 ▸ hs) (hnew hil).2.symm
  ·rcases hN.fzg b o h with h1 | h1 | ⟨j,u,k1,k2,k3⟩
   ·exact .inl h1
   ·exact .inr (.inl h1)
   ·obtain ⟨_,h1,h2,_⟩:=hlocq k1
    exact .inr (.inr ⟨_,u,h1,k2,h2.symm.trans k3⟩)
 refine ⟨⟨fun j e hj=>?_,fun i hi=>?_,fun i j s s' hs hd hs' hd' e=>?_,h2.low⟩,N,T2⟩
 ·-- the entries
  have entry2:∀ {q:Nat} {e:Entry},Hn[q]?=some e->toGlob R n q=j->RE P (backC C C2 n R) j (renE (toGlob R n) e):=by
   intro q e he hj
   have:=RE_tr T2 (h2.ent q e he) (fun _ _=>trivial) (hglob q).1 (hglob q).2 (fun _=>rfl) (fun o _ h=>h)
   rwa [hj] at this
  have hsl:(setAll H R ((Hn.take R.length).map (renE (toGlob R n)))).length=n:=by rw [setAll_length,hn]
  rw [List.getElem?_append,hsl] at hj
  split at hj
  ·rename_i hjn
   rw [setAll_get R _ H hR (by simp;omega) (fun i hi=>by rw [hn];exact hlt i hi)] at hj
   split at hj
   ·rename_i hjR
    have hq:=List.idxOf_lt_length_iff.2 hjR
    simp only [List.getElem?_map,List.getElem?_take,hq,if_true,Option.map_eq_some_iff] at hj
    obtain ⟨e0,he0,rfl⟩:=hj
    refine entry2 he0 ?_
    unfold toGlob
    rw [if_pos hq,List.getD_eq_getElem?_getD,get_idxOf hjR];rfl
   ·rename_i hjR
    have h0:=hH.ent j e hj
    obtain ⟨cp,hs0⟩:=h0.shape
    obtain ⟨e1,e2⟩:=hout hjR hjn
    have:=RE_tr T h0 (fun _ _=>trivial) e1 e2 (fun hd=>by
     have hd':shapeOf cp e≠.dead:=fun e=>hd (by rw [hs0,e])
     exact hN.frame _ (hH.block hs0 hd') (notin hjR hs0 hd')) (fun o hd hf=>by
     have hd':shapeOf cp e≠.dead:=fun e=>hd (by rw [hs0,e])
     rcases hN.fzg _ _ hf with h1 | h1 | ⟨q,u,k1,k2,k3⟩
     ·exact h1
     ·have:=hH.block hs0 hd'
      simp only [locC] at h1
      omega
     ·exact absurd k3 (notin hjR hs0 hd' q u k1 k2))
    simp only [id] at this
    rwa [renE_id] at this
  ·rename_i hjn
   simp only [List.getElem?_map,List.getElem?_drop,Option.map_eq_some_iff] at hj
   obtain ⟨e0,he0,rfl⟩:=hj
   refine entry2 he0 ?_
   unfold toGlob
   rw [if_neg (by omega)];omega
 ·have hsl:(setAll H R ((Hn.take R.length).map (renE (toGlob R n)))).length=n:=by rw [setAll_length,hn]
  rw [List.length_append,hsl] at hi
  simp only [List.length_map,List.length_drop] at hi
  rw [(hnew (by omega)).1]
  exact h2.out _ (by omega)
 ·have cross:∀ {i s s' q},i ∉ R->C.sh i=some s->s≠.dead->C2.sh q=some s'->s'≠.dead->C.ν i≠C2.ν q:=by
   intro i s s' q hi hs hd hq hd' e
   have hb:=hH.block hs hd
   obtain ⟨p,u,k1,k2,k3⟩:=hN.own q s' hq hd' (by rw [<- e];exact hb)
   exact notin hi hs hd p u k1 k2 (k3.trans e.symm)
  have idx:∀ {i},i∈R∨¬ i<n->∃ q,(backC C C2 n R).sh i=C2.sh q/\(backC C C2 n R).ν i=C2.ν q/\toGlob R n q=i:=by
   rintro i (hi | hi)
   ·refine ⟨_,(hin hi).1,(hin hi).2,?_⟩
    unfold toGlob
    rw [if_pos (List.idxOf_lt_length_iff.2 hi),List.getD_eq_getElem?_getD,get_idxOf hi];rfl
   ·refine ⟨_,(hnew hi).1,(hnew hi).2,?_⟩
    unfold toGlob
    rw [if_neg (by omega)];omega
  by_cases hi:i∈R∨¬ i<n
  ·obtain ⟨q,a1,a2,a3⟩:=idx hi
   by_cases hj:j∈R∨¬ j<n
   ·obtain ⟨p,b1,b2,b3⟩:=idx hj
    have:=h2.inj q p s s' (a1 ▸ hs) hd (b1 ▸ hs') hd' (by rw [<- a2,<- b2];exact e)
    rw [<- a3,<- b3,this]
   ·simp only [not_or,Nat.not_lt,Nat.not_le] at hj
    obtain ⟨b1,b2⟩:=hout hj.1 hj.2
    exact absurd (by rw [<- b2,<- a2];exact e.symm) (cross hj.1 (b1 ▸ hs') hd' (a1 ▸ hs) hd)
  ·simp only [not_or,Nat.not_lt,Nat.not_le] at hi
   obtain ⟨a1,a2⟩:=hout hi.1 hi.2
   by_cases hj:j∈R∨¬ j<n
   ·obtain ⟨p,b1,b2,b3⟩:=idx hj
    exact absurd (by rw [<- a2,<- b2];exact e) (cross hi.1 (a1 ▸ hs) hd (b1 ▸ hs') hd')
   ·simp only [not_or,Nat.not_lt,Nat.not_le] at hj
    obtain ⟨b1,b2⟩:=hout hj.1 hj.2
    exact hH.inj i j s s' (a1 ▸ hs) hd (b1 ▸ hs') hd' (by rw [<- a2,<- b2];exact e)
end


structure Turned (w w':World) (b B:Nat) (row:List Value) (cap n sz:Nat):Prop where
 row:∃ c t,w'.heap[B]?=some (.cells c t (0,0))/\cap * sz<=c.size/\c.toList.take (n * sz)=row/\∀ v∈c.toList,v.oneCell'=true
 room:n<=cap
 env:Env w w'
 size:w.heap.size<=w'.heap.size
 other:∀ x,x<w.heap.size->x≠b->w'.heap[x]?=w.heap[x]?
 place:B=b∨w.heap.size<=B

def InsOk (P:Program) (f:FuncId) (e:TypeId):Prop :=
  (∀ (w:World) (b vb n cap vcap p:Nat) (c vc:Array Value) (t vt:TypeId),w.heap[b]?=some (.cells c t (0,0))->w.heap[vb]?=some (.cells vc vt (0,0))->vb≠b->n<=cap->0<cap->cap * P.cellsOf e<=c.size->P.cellsOf e<=vc.size ->
    (∀ v∈c.toList,v.oneCell'=true)->(∀ v∈vc.toList,v.oneCell'=true)->p<=n->(n+1) * P.bytesOf e<=2 ^ 46->1<=vcap ->
    Calls P f #[.slice (some ⟨b,0,none⟩) n cap,.int .i64 p,.slice (some ⟨vb,0,none⟩) 1 vcap] w fun r w'=>∃ B cap',r=.returned (.slice (some ⟨B,0,none⟩) (n+1) cap') /\
      Turned w w' b B ((c.toList.take (n * P.cellsOf e)).take (p * P.cellsOf e)++vc.toList.take (P.cellsOf e)++(c.toList.take (n * P.cellsOf e)).drop (p * P.cellsOf e)) cap' (n+1) (P.cellsOf e)) /\
  (∀ (w:World) (base:Option Addr) (vb vcap:Nat) (vc:Array Value) (vt:TypeId),w.heap[vb]?=some (.cells vc vt (0,0))->P.cellsOf e<=vc.size->(∀ v∈vc.toList,v.oneCell'=true)->P.bytesOf e<=2 ^ 46->1<=vcap ->
    Calls P f #[.slice base 0 0,.int .i64 0,.slice (some ⟨vb,0,none⟩) 1 vcap] w fun r w'=>∃ B cap',r=.returned (.slice (some ⟨B,0,none⟩) 1 cap') /\
      Turned w w' B B (vc.toList.take (P.cellsOf e)) cap' 1 (P.cellsOf e)/\w.heap.size<=B)

def DelOk (P:Program) (f:FuncId) (e:TypeId):Prop :=
 ∀ (w:World) (b n cap p q:Nat) (c:Array Value) (t:TypeId),w.heap[b]?=some (.cells c t (0,0))->n<=cap->cap * P.cellsOf e<=c.size->(∀ v∈c.toList,v.oneCell'=true)->p<q->q<=n ->
  Calls P f #[.slice (some ⟨b,0,none⟩) n cap,.int .i64 p,.int .i64 q] w fun r w'=>r=.returned (.slice (some ⟨b,0,none⟩) (n - (q - p)) cap) /\
   Turned w w' b b ((c.toList.take (n * P.cellsOf e)).take (p * P.cellsOf e)++(c.toList.take (n * P.cellsOf e)).drop (q * P.cellsOf e)) cap (n - (q - p)) (P.cellsOf e)

def LibOk (P:Program):LibK->FuncId->TypeId->Prop
 | .ins,f,e=>InsOk P f e
 | .del,f,e=>DelOk P f e

def LibsOk (P:Program):Prop:=∀ f k e,libOf P f=some k->rowOf P f=some e->P.cellsOf e≠0->P.bytesOf e≠0->LibOk P k f e

def CalleeOk (P:Program) (callee:Callee):Prop :=
 (∀ (f:AVal) (args:List AVal) (H:Heap) (v:AVal) (H':Heap),callee f args H=some (v,H')->∀ (C:Ctx) (rf:Value) (rargs:Array Value),HR P C H->RV C f rf->RL C args rargs.toList ->
  Goes P (do let d <- Deferred.ofValue rf rargs;invoke d.target d.args) C.w (After P C v H'))/\LibsOk P

theorem sim_call (hc:CalleeOk P callee) {f:AVal} {args:List AVal} {rf:Value} {rargs:Array Value} (hH:HR P C H) (hf:RV C f rf) (ha:RL C args rargs.toList) (h:withCall callee f args H=some (v,H')) :
  Goes P (do let d <- Deferred.ofValue rf rargs;invoke d.target d.args) C.w (After P C v H'):=by
 simp only [withCall,Option.bind_eq_some_iff] at h
 obtain ⟨⟨f1,l1⟩,hf1,⟨x1,l2⟩,hx1,R,hR,⟨u,Hn⟩,hcall,h⟩:=h
 obtain ⟨k1,k2⟩:=hH.locks (l1++l2)
 have hf2:=snapV_rel hH (ls:=l1++l2) f f1 rf l1 hf1 (fun i hi=>List.mem_append_left _ hi) hf
 have ha2:=snapL_rel hH (ls:=l1++l2) args x1 _ l2 hx1 (fun i hi=>List.mem_append_right _ hi) ha
 obtain ⟨r1,_,r3,r4⟩:=reach_spec _ _ _ _ _ hR List.nodup_nil
 simp only [List.not_mem_nil,false_or] at r4
 have hL:=k1.loc r1 (fun i hi=>(r4 i hi).1) (fun i hi=>(r4 i hi).2)
 have hf3:=RV_tr (locC_tr _ R) f1 rf (fun i hi=>r3 i (List.mem_append_left _ hi)) hf2
 have ha3:=RL_tr (locC_tr _ R) x1 _ (fun i hi=>r3 i (List.mem_append_right _ hi)) ha2
 refine (hc.1 _ _ _ _ _ hcall (locC (lockC C H (l1++l2)) R) rf rargs hL hf3 ha3).mono fun r w' hk=>?_
 obtain ⟨C2,rfl,h2,hN,hv⟩:=hk
 have hlen:R.length<=Hn.length:=by
  rcases Nat.lt_or_ge Hn.length R.length with hlt | hge
  ·exfalso
   have h0:=h2.out Hn.length (Nat.le_refl _)
   have hm:R.getD Hn.length 0∈R:=by rw [List.getD_eq_getElem?_getD,List.getElem?_eq_getElem hlt];simp
   have hlt2:=(r4 _ hm).1
   obtain ⟨cp,hs⟩:=(k1.ent _ _ (List.getElem?_eq_getElem hlt2)).shape
   have:=hN.tr.sh Hn.length _ trivial (show (locC (lockC C H (l1++l2)) R).sh Hn.length=some _ by simp only [locC,hlt,if_true];exact hs)
   simp only [id,h0] at this
   rcases this with h | ⟨h,_⟩ | ⟨_,_,_,_,_,_,h,_⟩<;>cases h
  ·exact hge
 obtain ⟨b1,b2,b3⟩:=back k1 r1 (fun i hi=>(r4 i hi).1) h2 hN hlen
 simp only [Option.some.injEq,Prod.mk.injEq] at h
 obtain ⟨rfl,rfl⟩:=h
 exact ⟨backC (lockC C H (l1++l2)) C2 (locks H (l1++l2)).length R,rfl,b1,k2.trans b2,RV_tr b3 u r (fun _ _=>trivial) hv⟩

theorem sim_callR (hc:CalleeOk P callee) {f:AVal} {args:List AVal} {rf:Value} {rargs:Array Value} (hH:HR P C H) (hf:RV C f rf) (ha:RL C args rargs.toList) (h:withCallR callee f args H=some (v,H')) :
  Goes P (do let d <- Deferred.ofValue rf rargs;invoke d.target d.args) C.w (After P C v H'):=by
 simp only [withCallR,Option.bind_eq_some_iff] at h
 obtain ⟨R,hR,⟨u,Hn⟩,hcall,h⟩:=h
 obtain ⟨r1,_,r3,r4⟩:=reach_spec _ _ _ _ _ hR List.nodup_nil
 simp only [List.not_mem_nil,false_or] at r4
 have hL:=hH.loc r1 (fun i hi=>(r4 i hi).1) (fun i hi=>(r4 i hi).2)
 have hf3:=RV_tr (locC_tr _ R) f rf (fun i hi=>r3 i (List.mem_append_left _ hi)) hf
 have ha3:=RL_tr (locC_tr _ R) args _ (fun i hi=>r3 i (List.mem_append_right _ hi)) ha
 refine (hc.1 _ _ _ _ _ hcall (locC C R) rf rargs hL hf3 ha3).mono fun r w' hk=>?_
 obtain ⟨C2,rfl,h2,hN,hv⟩:=hk
 have hlen:R.length<=Hn.length:=by
  rcases Nat.lt_or_ge Hn.length R.length with hlt | hge
  ·exfalso
   have h0:=h2.out Hn.length (Nat.le_refl _)
   have hm:R.getD Hn.length 0∈R:=by rw [List.getD_eq_getElem?_getD,List.getElem?_eq_getElem hlt];simp
   have hlt2:=(r4 _ hm).1
   obtain ⟨cp,hs⟩:=(hH.ent _ _ (List.getElem?_eq_getElem hlt2)).shape
   have:=hN.tr.sh Hn.length _ trivial (show (locC C R).sh Hn.length=some _ by simp only [locC,hlt,if_true];exact hs)
   simp only [id,h0] at this
   rcases this with h | ⟨h,_⟩ | ⟨_,_,_,_,_,_,h,_⟩<;>cases h
  ·exact hge
 obtain ⟨b1,b2,b3⟩:=back hH r1 (fun i hi=>(r4 i hi).1) h2 hN hlen
 simp only [Option.some.injEq,Prod.mk.injEq] at h
 obtain ⟨rfl,rfl⟩:=h
 exact ⟨backC C C2 H.length R,rfl,b1,b2,RV_tr b3 u r (fun _ _=>trivial) hv⟩

mutual
theorem RV_fz {C:Ctx} {F:Nat->Nat->Prop}:∀ (a:AVal) (x:Value),noImmV a=true->RV C a x->RV { C with Fz:=F } a x
 | .lit v,x,_,h=>h
 | .any,x,_,h=>trivial
 | .ptr i k,x,_,h=>h
 | .asl i k sz n,x,_,h=>h
 | .yld i,x,_,h=>h
 | .mref i,x,_,h=>h
 | .eptr i len sz j k,x,_,h=>h
 | .own i len sz off n,x,_,h=>h
 | .iptr fl es j k,x,hn,h=>by simp [noImmV] at hn
 | .imm nil full fl es,x,hn,h=>by
  have he:es=[]:=by simpa [noImmV] using hn
  subst he
  obtain ⟨a,c,h1,h2,h3,h4,h5,h6,_⟩:=h
  exact ⟨a,c,h1,h2,h3,h4,h5,h6,fun _ _ hne=>absurd rfl hne⟩
 | .agg cs,x,hn,h=>by
  obtain ⟨vs,e,h1,h⟩:=h
  exact ⟨vs,e,h1,RL_fz cs _ (by simpa [noImmV] using hn) h⟩
 | .tup cs,x,hn,h=>by
  obtain ⟨vs,e,h⟩:=h
  exact ⟨vs,e,RL_fz cs _ (by simpa [noImmV] using hn) h⟩
 | .iface t v,x,hn,h=>by
  obtain ⟨y,e,h⟩:=h
  exact ⟨y,e,RV_fz v _ (by simpa [noImmV] using hn) h⟩
 | .func fn a b,x,hn,h=>by
  obtain ⟨va,vb,e,h1,h2⟩:=h
  simp only [noImmV,Bool.and_eq_true] at hn
  exact ⟨va,vb,e,RL_fz a _ hn.1 h1,RL_fz b _ hn.2 h2⟩
theorem RL_fz {C:Ctx} {F:Nat->Nat->Prop}:∀ (l:List AVal) (xs:List Value),noImmL l=true->RL C l xs->RL { C with Fz:=F } l xs
 | [],xs,_,h=>h
 | a::r,xs,hn,h=>by
  simp only [noImmL,Bool.and_eq_true] at hn
  simp only [RL] at h ⊢
  obtain ⟨x,s,e,h1,h2⟩:=h
  exact ⟨x,s,e,RV_fz a x hn.1 h1,RL_fz r s hn.2 h2⟩
end
theorem noImmL_append:∀ (l m:List AVal),noImmL (l++m)=(noImmL l && noImmL m)
 | [],m=>rfl
 | a::l,m=>by rw [List.cons_append,noImmL,noImmL,noImmL_append l m,Bool.and_assoc]
theorem noImmL_flatten:∀ l:List (List AVal),noImmLL l=true->noImmL l.flatten=true
 | [],_=>rfl
 | a::l,h=>by
  rw [noImmLL,Bool.and_eq_true] at h
  rw [List.flatten_cons,noImmL_append,h.1,noImmL_flatten l h.2];rfl
theorem RE_fz {P:Program} {C:Ctx} {F:Nat->Nat->Prop} {i:Nat} {e:Entry} (hn:noImmE e=true) (hF:∀ o,C.sh i≠some .dead->¬ F (C.ν i) o) (h:RE P C i e):RE P { C with Fz:=F } i e:=by
 cases e with
 | dead=>exact h
 | box cs =>
  obtain ⟨h1,c,t,h2,h3,h4,h5⟩:=h
  exact ⟨h1,c,t,h2,RL_fz cs _ hn h3,h4,fun o=>hF o (by rw [h1];simp)⟩
 | arr fl lk full sz es =>
  obtain ⟨c,t,cp,h1,h2,h3,h4,h5,h6,h7,h8,h9,h10,h11⟩:=h
  exact ⟨c,t,cp,h1,h2,h3,h4,h5,h6,h7,RL_fz _ _ (noImmL_flatten es hn) h8,h9,h10,fun o ho=>absurd ho (hF o (by rw [h1];simp))⟩
 | loop st p sn ps a b=>simp [noImmE] at hn
 | map es=>simp [noImmE] at hn
theorem noImmH_mem:∀ {H:Heap} {e:Entry},noImmH H=true->e∈H->noImmE e=true
 | [],e,_,he=>by cases he
 | a::r,e,h,he=>by
  rw [noImmH,Bool.and_eq_true] at h
  rcases List.mem_cons.1 he with rfl | he
  ·exact h.1
  ·exact noImmH_mem h.2 he

theorem RE_fz2 {P:Program} {C:Ctx} {F:Nat->Nat->Prop} {i:Nat} {e:Entry} (hn:noImmE e=true) (hF:∀ b o,F b o->C.Fz b o) (h:RE P C i e):RE P { C with Fz:=F } i e:=by
 cases e with
 | dead=>exact h
 | box cs =>
  obtain ⟨h1,c,t,h2,h3,h4,h5⟩:=h
  exact ⟨h1,c,t,h2,RL_fz cs _ hn h3,h4,fun o ho=>h5 o (hF _ _ ho)⟩
 | arr fl lk full sz es =>
  obtain ⟨c,t,cp,h1,h2,h3,h4,h5,h6,h7,h8,h9,h10,h11⟩:=h
  exact ⟨c,t,cp,h1,h2,h3,h4,h5,h6,h7,RL_fz _ _ (noImmL_flatten es hn) h8,h9,h10,fun o ho=>h11 o (hF _ _ ho)⟩
 | loop st p sn ps a b=>simp [noImmE] at hn
 | map es=>simp [noImmE] at hn

section
variable {P:Program} {C:Ctx} {H H':Heap} {callee:Callee} {v:AVal}
theorem sim_lent (hc:CalleeOk P callee) {f:AVal} {args x1:List AVal} {l2:List Nat} {rf:Value} {rargs:Array Value} (hH:HR P C H) (hff:flatV f=true) (hf:RV C f rf) (ha:RL C args rargs.toList)
  (hx1:snapL H args=some (x1,l2)) (h:lentCall callee f x1 l2 H=some (v,H')) :
  Goes P (do let d <- Deferred.ofValue rf rargs;invoke d.target d.args) C.w (After P C v H'):=by
 simp only [lentCall,Option.bind_eq_some_iff] at h
 obtain ⟨R,hR,⟨u,Hn⟩,hcall,h⟩:=h
 obtain ⟨⟨hn1,hn2⟩,h⟩:=Option.ite_none_right_eq_some.1 h
 simp only [Option.some.injEq,Prod.mk.injEq] at h
 obtain ⟨rfl,rfl⟩:=h
 obtain ⟨k1,k2⟩:=hH.locks l2
 have hf2:RV (lockC C H l2) f rf:=by
  have:=RV_tr (lockC_tr C H l2) f rf (fun _ _=>trivial) hf
  rwa [renV_id] at this
 have ha2:=snapL_rel hH (ls:=l2) args x1 _ l2 hx1 (fun i hi=>hi) ha
 obtain ⟨r1,_,r3,r4⟩:=reach_spec _ _ _ _ _ hR List.nodup_nil
 simp only [List.not_mem_nil,false_or] at r4
 have hlk:(locks H l2).length=H.length:=locks_length l2 H
 have hL:=k1.loc r1 (fun i hi=>(r4 i hi).1) (fun i hi=>(r4 i hi).2)
 have hf3:=RV_tr (locC_tr _ R) f rf (fun i hi=>by rw [refsV_flat f hff] at hi;exact absurd hi (by simp)) hf2
 have ha3:=RL_tr (locC_tr _ R) x1 _ (fun i hi=>r3 i hi) ha2
 rw [renV_flat _ f hff] at hf3
 refine (hc.1 _ _ _ _ _ hcall (locC (lockC C H l2) R) rf rargs hL hf3 ha3).mono fun r w' hk=>?_
 obtain ⟨C2,rfl,h2,hN,hv⟩:=hk
 have hlen:R.length<=Hn.length:=by
  rcases Nat.lt_or_ge Hn.length R.length with hlt | hge
  ·exfalso
   have h0:=h2.out Hn.length (Nat.le_refl _)
   have hm:R.getD Hn.length 0∈R:=by rw [List.getD_eq_getElem?_getD,List.getElem?_eq_getElem hlt];simp
   have hlt2:=(r4 _ hm).1
   obtain ⟨cp,hs⟩:=(k1.ent _ _ (List.getElem?_eq_getElem hlt2)).shape
   have:=hN.tr.sh Hn.length _ trivial (show (locC (lockC C H l2) R).sh Hn.length=some _ by simp only [locC,hlt,if_true];exact hs)
   simp only [id,h0] at this
   rcases this with h | ⟨h,_⟩ | ⟨_,_,_,_,_,_,h,_⟩<;>cases h
  ·exact hge
 let C3:Ctx:={ C2 with Fz:=C.Fz }
 have hFz:∀ b o,C.Fz b o->C2.Fz b o:=fun b o hb=>(hN.tr.fz b o (.inl hb)).1
 have h3:HR P C3 Hn:=⟨fun i e he=>RE_fz2 (noImmH_mem hn2 (List.mem_of_getElem? he)) hFz (h2.ent i e he),h2.out,h2.inj,fun b o hb=>Nat.lt_of_lt_of_le (hH.low b o hb) hN.size⟩
 have hN3:Nx (locC C R) C3:=by
  refine ⟨⟨fun b o hb=>⟨hb,(hN.tr.fz b o (.inl hb)).2⟩,fun i s hi hs=>hN.tr.sh i s hi hs⟩,hN.size,fun b hb hno=>hN.frame b hb hno,fun i s hs hd hlt=>hN.own i s hs hd hlt,hN.env,fun b o hb=>.inl hb⟩
 obtain ⟨b1,b2,b3⟩:=back hH r1 (fun i hi=>by rw [<- hlk];exact (r4 i hi).1) h3 hN3 hlen
 exact ⟨backC C C3 H.length R,rfl,b1,b2,RV_tr b3 u r (fun _ _=>trivial) (RV_fz u r hn1 hv)⟩

theorem enter_run {P:Program} {f:FuncId} (h:hasBody P f=true) (args:Array Value) (W:World) :
    (do let d <- Deferred.ofValue (.func (.func f) #[] #[]) args;invoke d.target d.args:Sem Next).run P W=.ok (.enter f args) W:=by
  unfold hasBody at h
  split at h
  · rename_i fd hfd
    simp only [Bool.and_eq_true,bne_iff_ne,ne_eq] at h
    have hb1:fd.body.isNone=false:=by
      have:=h.1
      cases hb:fd.body with
      | none=>rw [hb] at this;cases this
      | some c=>rfl
    have hb2 : (fd.name == "runtime.NumGoroutine") = false := by simpa using h.2
    simp only [Deferred.ofValue,pure_bind,invoke,callFunc,Sem.run_bind,run_program,Result.andThen_ok,hfd,hb2,hb1,Bool.false_eq_true,if_false,Sem.run_pure]
    simp
  · cases h

theorem after_turn {i B cap sz:Nat} {fl full:Bool} {es es':List (List AVal)} {row:List Value} {w':World} (hH:HR P C H) (hi:H[i]?=some (.arr fl false full sz es)) (h0:0<sz)
    (T:Turned C.w w' (C.ν i) B row cap es'.length sz) (hrows:∀ r∈es',r.length=sz) (hflat:fl=true->flatLL es'=true) (hrl:RL C es'.flatten row) :
    After P C (.own H.length es'.length sz 0 es'.length) (H.set i .dead++[.arr fl false false sz es']) (.slice (some ⟨B,0,none⟩) es'.length cap) w':=by
  obtain ⟨⟨c,t,r1,r2,r3,r4⟩,r5,r6,r7,r8,r9⟩:=T
  obtain ⟨cells,ty,cp,hsh,hb,hcsz,hcp,_,hfull,hrows0,hl,h1c,hflat0,hF⟩:=hH.ent i _ hi
  have hFz:∀ o,¬ C.Fz (C.ν i) o:=fun o ho=>by have:=(hF o ho).1;cases this
  have hil:i<H.length:=(List.getElem?_eq_some_iff.1 hi).1
  let C':Ctx:={ ν:=upd C.ν H.length B,sh:=upd (upd C.sh i (some .dead)) H.length (some (.arr es'.length sz cap)),Fz:=C.Fz,w:=w' }
  have s1:C'.sh H.length=some (.arr es'.length sz cap):=upd_same _ _ _
  have s2:C'.sh i=some .dead:=by simp only [C'];rw [upd_ne _ _ (by omega),upd_same]
  have hp := hH.gen (C':=C') (fun j=>j=i∨j=H.length) (H':=H.set i .dead++[.arr fl false false sz es'])
    (fun j hj=>by
      rw [List.getElem?_append]
      simp only [List.length_set]
      split
      · rw [List.getElem?_set_ne (fun e=>hj (.inl e.symm))]
      · rename_i hjl
        rw [List.getElem?_eq_none (l:=H) (by omega)]
        exact List.getElem?_eq_none (by simp;have:j≠H.length:=fun e=>hj (.inr e)
                                        omega))
    (fun j hj=>by simp at hj;simp only [C'];rw [upd_ne _ _ (by omega),upd_ne _ _ (by omega)];exact hH.out j (by omega))
    (fun j hj=>by simp only [C'];rw [upd_ne _ _ (fun e=>hj (.inr e)),upd_ne _ _ (fun e=>hj (.inl e)),upd_ne _ _ (fun e=>hj (.inr e))];exact ⟨rfl,rfl⟩)
    (fun j s hj hs hd=>r8 _ (hH.block hs hd) (fun e=>hj (.inl (hH.inj j i _ _ hs hd hsh (by simp) e)))) rfl
    (fun b o hf=>by
      by_cases hb':b=C.ν i
      · subst hb';exact absurd hf (hFz o)
      · simp only [World.cell?,r8 _ (hH.low _ _ hf) hb',C']) r7
    (fun b hb' hn=>r8 b hb' (fun e=>hn i _ hsh (by simp) e.symm))
    (fun j s hj hs hd=>by
      rcases hj with rfl | rfl
      · rw [s2] at hs;cases hs;exact absurd rfl hd
      · simp only [C',upd_same]
        rcases r9 with r9 | r9
        · exact .inr ⟨i,_,.inl rfl,hsh,by simp,r9.symm⟩
        · exact .inl r9)
    (fun j k s s' hj hk hs hd hs' hd' e=>by
      rcases hj with rfl | rfl<;>rcases hk with rfl | rfl
      · rfl
      · rw [s2] at hs;cases hs;exact absurd rfl hd
      · rw [s2] at hs';cases hs';exact absurd rfl hd'
      · rfl)
    (fun j s hj hs=>by
      rcases hj with rfl | rfl
      · exact .inl s2
      · rw [hH.out _ (Nat.le_refl _)] at hs;cases hs)
    (fun N j e' hj he'=>by
      rcases hj with rfl | rfl
      · rw [List.getElem?_append_left (by simpa using hil),List.getElem?_set_self hil] at he'
        cases he';exact s2
      · rw [List.getElem?_append_right (by simp)] at he'
        simp at he';subst he'
        refine ⟨c,t,cap,s1,by simp only [C',upd_same];exact r1,r2,r5,h0,(fun e=>by cases e),hrows,?_,r4,hflat,?_⟩
        · rw [r3];exact RL_id N.tr (fun _ _=>trivial) hrl
        · intro o ho
          simp only [C',upd_same] at ho
          rcases r9 with r9 | r9
          · rw [r9] at ho;exact absurd ho (hFz o)
          · exact absurd (hH.low _ _ ho) (by omega)) (env:=r6)
  exact ⟨C',rfl,hp.1,hp.2,⟨_,cap,rfl,r5,.inr ⟨_,sz,cap,s1,Nat.le_refl _,fun _ _=>⟨by omega,by omega,.inr (by simp [C',upd_same])⟩⟩⟩⟩

theorem after_lay {B b cap sz:Nat} {fl:Bool} {es':List (List AVal)} {row:List Value} {w':World} (hH:HR P C H) (h0:0<sz)
  (T:Turned C.w w' b B row cap es'.length sz) (hb:C.w.heap.size<=B) (hbb:b=B) (hrows:∀ r∈es',r.length=sz) (hflat:fl=true->flatLL es'=true) (hrl:RL C es'.flatten row) :
  After P C (.own H.length es'.length sz 0 es'.length) (H++[.arr fl false false sz es']) (.slice (some ⟨B,0,none⟩) es'.length cap) w':=by
 obtain ⟨⟨c,t,r1,r2,r3,r4⟩,r5,r6,r7,r8,_⟩:=T
 have r8:∀ x,x<C.w.heap.size->w'.heap[x]?=C.w.heap[x]?:=fun x hx=>r8 x hx (by omega)
 let C':Ctx:={ ν:=upd C.ν H.length B,sh:=upd C.sh H.length (some (.arr es'.length sz cap)),Fz:=C.Fz,w:=w' }
 have s1:C'.sh H.length=some (.arr es'.length sz cap):=upd_same _ _ _
 have hp:=hH.gen (C':=C') (fun j=>j=H.length) (H':=H++[.arr fl false false sz es'])
  (fun j hj=>by
   rw [List.getElem?_append]
   split
   ·rfl
   ·rename_i hjl
    rw [List.getElem?_eq_none (l:=H) (by omega)]
    exact List.getElem?_eq_none (by simp;omega))
  (fun j hj=>by simp at hj;simp only [C'];rw [upd_ne _ _ (by omega)];exact hH.out j (by omega))
  (fun j hj=>by simp only [C'];rw [upd_ne _ _ hj,upd_ne _ _ hj];exact ⟨rfl,rfl⟩)
  (fun j s hj hs hd=>r8 _ (hH.block hs hd)) rfl
  (fun b o hf=>by simp only [World.cell?,r8 _ (hH.low _ _ hf),C']) r7
  (fun b hb' hn=>r8 b hb')
  (fun j s hj hs hd=>by subst hj;simp only [C',upd_same];exact .inl hb)
  (fun j k s s' hj hk hs hd hs' hd' e=>by rw [hj,hk])
  (fun j s hj hs=>by subst hj;rw [hH.out _ (Nat.le_refl _)] at hs;cases hs)
  (fun N j e' hj he'=>by
   subst hj
   rw [List.getElem?_append_right (by simp)] at he'
   simp at he';subst he'
   refine ⟨c,t,cap,s1,by simp only [C',upd_same];exact r1,r2,r5,h0,(fun e=>by cases e),hrows,?_,r4,hflat,?_⟩
   ·rw [r3];exact RL_id N.tr (fun _ _=>trivial) hrl
   ·intro o ho
    simp only [C',upd_same] at ho
    exact absurd (hH.low _ _ ho) (by omega)) (env:=r6)
 exact ⟨C',rfl,hp.1,hp.2,⟨_,cap,rfl,r5,.inr ⟨_,sz,cap,s1,Nat.le_refl _,fun _ _=>⟨by omega,by omega,.inr (by simp [C',upd_same])⟩⟩⟩⟩

theorem take_flat {sz:Nat} {es:List (List AVal)} (h:∀ r∈es,r.length=sz):∀ p,(es.take p).flatten=es.flatten.take (p * sz)/\(es.drop p).flatten=es.flatten.drop (p * sz):=by
 induction es with
 | nil=>intro p;simp
 | cons r es ih =>
  intro p
  cases p with
  | zero=>simp
  | succ p =>
   have hr:=h r (by simp)
   obtain ⟨h1,h2⟩:=ih (fun q hq=>h q (by simp [hq])) p
   have e:(p+1) * sz=r.length+p * sz:=by rw [Nat.succ_mul,hr];omega
   rw [List.take_succ_cons,List.drop_succ_cons,List.flatten_cons,List.flatten_cons,h1,h2,e,List.take_length_add_append,List.drop_length_add_append]
   exact ⟨rfl,rfl⟩

theorem sim_lib {k:LibK} {f:FuncId} {e:TypeId} (hL:LibsOk P) (hk:libOf P f=some k) (hr:rowOf P f=some e) (hz:P.cellsOf e≠0) (hy:P.bytesOf e≠0) (hb:hasBody P f=true) {args:List AVal} {rargs:Array Value} (hH:HR P C H) (ha:RL C args rargs.toList)
    {fl:Bool} (h:libV k fl (P.cellsOf e) (P.bytesOf e) H args=some (v,H')) :
    Goes P (do let d <- Deferred.ofValue (.func (.func f) #[] #[]) rargs;invoke d.target d.args) C.w (After P C v H'):=by
  have hlib:=hL f k e hk hr hz hy
  refine .inr (.inr (.inl ⟨f,rargs,C.w,enter_run hb rargs C.w,?_⟩))
  have h0:0<P.cellsOf e:=Nat.pos_of_ne_zero hz
  generalize hsz:P.cellsOf e=sz at h h0 hlib
  unfold libV at h
  split at h
  · rename_i s p vv
    replace h:=Option.ite_none_right_eq_some.1 h
    obtain ⟨hp0,h⟩:=h
    simp only [Option.bind_eq_some_iff] at h
    obtain ⟨⟨j,fe,r⟩,ho,h⟩:=h
    simp only [RL] at ha
    obtain ⟨x1,s1,e1,hs,x2,s2,rfl,hpv,x3,s3,rfl,hv3,rfl⟩:=ha
    have hargs:rargs=#[x1,x2,x3]:=by rw [<- Array.toArray_toList (xs:=rargs),e1]
    have hpv:x2=.int .i64 p:=hpv
    obtain ⟨pn,rfl⟩:=Int.eq_ofNat_of_zero_le hp0
    simp only [Int.ofNat_eq_natCast,Int.toNat_natCast] at h hpv
    -- what is put in
    unfold oneRow at ho
    split at ho
    · rename_i j' len so off n
      split at ho
      · rename_i fe' lk' fu' se r' hj
        replace ho:=Option.ite_none_right_eq_some.1 ho
        obtain ⟨⟨c1,c2,c3,c4,c5,c6⟩,ho⟩:=ho
        cases ho
        subst c1 c2 c4 c5
        have c3:se=so:=c3
        subst c3
        obtain ⟨vcells,vty,vcp,vsh,vb,vcsz,vcp1,_,vfull,vrows,vl,v1c,vflat,vF⟩:=hH.ent j _ hj
        obtain ⟨va,vcap,hv3e,hvn,hv3⟩:=hv3
        rw [vsh] at hv3
        rcases hv3 with hv3 | ⟨cur,s2,cp2,q1,_,hv3⟩
        · cases hv3
        · cases q1
          obtain ⟨_,q2,q3⟩:=hv3 rfl rfl
          have q3 : va = ⟨C.ν j, 0, none⟩ := by rcases q3 with q3 | q3;· omega
                                                · simpa using q3
          subst q3
          simp only [List.length_cons,List.length_nil,Nat.zero_add,Nat.one_mul,List.flatten_cons,List.flatten_nil,List.append_nil] at vl vcp1 vcsz
          have hvsz:se<=vcells.size:=by have:=Nat.mul_le_mul_right se vcp1;omega
          -- the row
          unfold insV at h
          split at h
          · rename_i nl fu2 fl2 es
            replace h:=Option.ite_none_right_eq_some.1 h
            obtain ⟨⟨d1,d2,d3,d4,d5⟩,h⟩:=h
            cases h
            subst d1 d3
            obtain ⟨ad,c,hx1,m1,m2,m3,m4,m5,m6⟩:=hs
            have hc0:=m4 rfl
            subst hc0
            have hes:es=[]:=List.length_eq_zero_iff.1 d2
            subst hes
            rw [hargs,hx1,hpv,hv3e]
            refine (hlib.2 C.w ad (C.ν j) vcap vcells vty vb (by omega) v1c d4 hvn).mono fun r0 w' hw'=>?_
            obtain ⟨B,cap',e5,T,hB⟩:=hw'
            refine ⟨_,e5,?_⟩
            rw [hsz] at T
            refine after_lay (es':=[r]) hH h0 T hB rfl (by simpa using c6) (fun e=>by simp only [flatLL,Bool.and_true];have:=vflat (d5 e);simpa [flatLL] using this) ?_
            simpa using vl
          · rename_i i len so2 off2 n2
            split at h
            · rename_i f2 lk fu3 se2 es hi
              replace h:=Option.ite_none_right_eq_some.1 h
              obtain ⟨⟨d1,d2,d3,d4,d5,d6,d7,d8,d9,d10,d11⟩,h⟩:=h
              cases h
              subst d1 d3 d4 d6 d7
              have d2:so2=se:=d2
              subst d2
              have d5:se2=so2:=d5
              subst d5
              obtain ⟨cells,ty,cp,hsh,hbk,hcsz,hcp,_,hfull,hrows0,hl,h1c,hflat,hF⟩:=hH.ent i _ hi
              obtain ⟨a,c,hx1,hnc,hs⟩:=hs
              rw [hsh] at hs
              rcases hs with hs | ⟨cur,s2,cp2,q1,_,hs⟩
              · cases hs
              · cases q1
                obtain ⟨_,q2,q3⟩:=hs rfl rfl
                have hrows':∀ q∈es.take pn++[r]++es.drop pn,q.length=se2:=fun q hq=>by
                  simp only [List.mem_append,List.mem_singleton] at hq
                  rcases hq with (hq | rfl) | hq
                  · exact hrows0 q (List.mem_of_mem_take hq)
                  · exact c6
                  · exact hrows0 q (List.mem_of_mem_drop hq)
                have hflat':f2=true->flatLL (es.take pn++[r]++es.drop pn)=true:=fun e=>by
                  have h1:=hflat e
                  have h2:=vflat (d11 e)
                  rw [flatLL_append,flatLL_append,flatLL_take h1,flatLL_drop h1,h2];rfl
                have hlen':(es.take pn++[r]++es.drop pn).length=es.length+1:=by simp;omega
                obtain ⟨t1,t2⟩:=take_flat hrows0 pn
                by_cases hc0:c=0
                · subst hc0
                  have hn0:es=[]:=List.length_eq_zero_iff.1 (by omega)
                  subst hn0
                  have hp:pn=0:=by simpa using d9
                  subst hp
                  rw [hargs,hx1,hpv,hv3e]
                  refine (hlib.2 C.w (some a) (C.ν j) vcap vcells vty vb (by omega) v1c (by simpa using d10) hvn).mono fun r0 w' hw'=>?_
                  obtain ⟨B,cap',e5,T,hB⟩:=hw'
                  refine ⟨_,e5,?_⟩
                  rw [hsz] at T
                  have T':Turned C.w w' (C.ν i) B (vcells.toList.take se2) cap' ([]++[r]++[]:List (List AVal)).length se2:=⟨T.row,T.room,T.env,T.size,fun x hx _=>T.other x hx (by omega),.inr hB⟩
                  exact after_turn (es':=[]++[r]++[]) hH hi h0 T' hrows' hflat' (by simpa using vl)
                · have q3 : a = ⟨C.ν i, 0, none⟩ := by rcases q3 with q3 | q3;· omega
                                                       · simpa using q3
                  subst q3
                  rw [hargs,hx1,hpv,hv3e]
                  have hne:C.ν j≠C.ν i:=fun e=>d8 (hH.inj i j _ _ hsh (by simp) vsh (by simp) e.symm)
                  have hcc:c * se2<=cells.size:=by
                    have:=Nat.mul_le_mul_right se2 (show c<=cp by omega);omega
                  refine (hlib.1 C.w (C.ν i) (C.ν j) es.length c vcap pn cells vcells ty vty hbk vb hne hnc (by omega) (by rw [hsz];exact hcc) (by omega) h1c v1c d9 d10 hvn).mono fun r0 w' hw'=>?_
                  obtain ⟨B,cap',e5,T⟩:=hw'
                  refine ⟨_,e5,?_⟩
                  rw [hsz] at T
                  have:=after_turn (es':=es.take pn++[r]++es.drop pn) hH hi h0 (by rw [hlen'];exact T) hrows' hflat' (by
                    rw [List.flatten_append,List.flatten_append,t1,t2]
                    refine RL_append (RL_append (RL_take hl _) (by simpa using vl)) (RL_drop hl _))
                  rw [hlen'] at this
                  exact this
            · cases h
          · cases h
      · cases ho
    · cases ho
  · rename_i s p q
    replace h:=Option.ite_none_right_eq_some.1 h
    obtain ⟨⟨hp0,hq0⟩,h⟩:=h
    simp only [RL] at ha
    obtain ⟨x1,s1,e1,hs,x2,s2,rfl,hpv,x3,s3,rfl,hqv,rfl⟩:=ha
    have hargs:rargs=#[x1,x2,x3]:=by rw [<- Array.toArray_toList (xs:=rargs),e1]
    have hpv:x2=.int .i64 p:=hpv
    have hqv:x3=.int .i64 q:=hqv
    obtain ⟨pn,rfl⟩:=Int.eq_ofNat_of_zero_le hp0
    obtain ⟨qn,rfl⟩:=Int.eq_ofNat_of_zero_le hq0
    simp only [Int.ofNat_eq_natCast,Int.toNat_natCast] at h hpv hqv
    unfold delV at h
    split at h
    · rename_i i len so2 off2 n2
      split at h
      · rename_i f2 lk fu3 se2 es hi
        replace h:=Option.ite_none_right_eq_some.1 h
        obtain ⟨⟨d1,d2,d3,d4,d5,d6,d7,d8⟩,h⟩:=h
        cases h
        subst d1 d3 d4 d6
        have d2:so2=sz:=d2
        subst d2
        have d5:se2=so2:=d5
        subst d5
        obtain ⟨cells,ty,cp,hsh,hbk,hcsz,hcp,_,hfull,hrows0,hl,h1c,hflat,hF⟩:=hH.ent i _ hi
        obtain ⟨a,c,hx1,hnc,hs⟩:=hs
        rw [hsh] at hs
        rcases hs with hs | ⟨cur,s2,cp2,q1,_,hs⟩
        · cases hs
        · cases q1
          obtain ⟨_,q2,q3⟩:=hs rfl rfl
          have q3 : a = ⟨C.ν i, 0, none⟩ := by rcases q3 with q3 | q3;· omega
                                               · simpa using q3
          subst q3
          rw [hargs,hx1,hpv,hqv]
          have hcc:c * se2<=cells.size:=by
            have:=Nat.mul_le_mul_right se2 (show c<=cp by omega);omega
          have hlen':(es.take pn++es.drop qn).length=es.length - (qn - pn):=by simp;omega
          obtain ⟨t1,_⟩:=take_flat hrows0 pn
          obtain ⟨_,t2⟩:=take_flat hrows0 qn
          refine (hlib C.w (C.ν i) es.length c pn qn cells ty hbk hnc (by rw [hsz];exact hcc) h1c d7 d8).mono fun r0 w' hw'=>?_
          obtain ⟨e5,T⟩:=hw'
          refine ⟨_,e5,?_⟩
          rw [hsz] at T
          have:=after_turn (es':=es.take pn++es.drop qn) hH hi h0 (by rw [hlen'];exact T) (fun q hq=>by
              rcases List.mem_append.1 hq with hq | hq
              · exact hrows0 q (List.mem_of_mem_take hq)
              · exact hrows0 q (List.mem_of_mem_drop hq))
            (fun e=>by have h1:=hflat e;rw [flatLL_append,flatLL_take h1,flatLL_drop h1];rfl) (by
            rw [List.flatten_append,t1,t2]
            exact RL_append (RL_take hl _) (RL_drop hl _))
          rw [hlen'] at this
          exact this
      · cases h
    · cases h
  · cases h
end

section
variable {P:Program} {C:Ctx} {H H':Heap} {callee:Callee} {v:AVal}
theorem sim_callU (hc:CalleeOk P callee) {f:AVal} {args:List AVal} {rf:Value} {rargs:Array Value} (hH:HR P C H) (hff:flatV f=true) (hf:RV C f rf) (ha:RL C args rargs.toList) (h:withCallU callee f args H=some (v,H')) :
  Goes P (do let d <- Deferred.ofValue rf rargs;invoke d.target d.args) C.w (After P C v H'):=by
 simp only [withCallU,Option.bind_eq_some_iff] at h
 obtain ⟨⟨x1,l2⟩,hx1,h⟩:=h
 by_cases hflat:flatL x1=true
 case neg=>rw [if_neg hflat] at h;exact sim_lent hc hH hff hf ha hx1 h
 rw [if_pos hflat] at h
 simp only [Option.bind_eq_some_iff] at h
 obtain ⟨⟨u,Hn⟩,hcall,h⟩:=h
 obtain ⟨⟨hn1,hn2⟩,h⟩:=Option.ite_none_right_eq_some.1 h
 simp only [Option.some.injEq,Prod.mk.injEq] at h
 obtain ⟨rfl,rfl⟩:=h
 obtain ⟨k1,k2⟩:=hH.locks l2
 have hf2:RV (lockC C H l2) f rf:=by
  have:=RV_tr (lockC_tr C H l2) f rf (fun _ _=>trivial) hf
  rwa [renV_id] at this
 have ha2:=snapL_rel hH (ls:=l2) args x1 _ l2 hx1 (fun i hi=>hi) ha
 have hL:=k1.loc (R:=[]) List.nodup_nil (fun i hi=>absurd hi (by simp)) (fun i hi=>absurd hi (by simp))
 have hf3:=RV_tr (locC_tr _ []) f rf (fun i hi=>by rw [refsV_flat f hff] at hi;exact absurd hi (by simp)) hf2
 have ha3:=RL_tr (locC_tr _ []) x1 _ (fun i hi=>by rw [refsL_flat x1 hflat] at hi;exact absurd hi (by simp)) ha2
 rw [renV_flat _ f hff] at hf3
 rw [renL_flat _ x1 hflat] at ha3
 refine (hc.1 _ _ _ _ _ hcall (locC (lockC C H l2) []) rf rargs (by simpa using hL) hf3 ha3).mono fun r w' hk=>?_
 obtain ⟨C2,rfl,h2,hN,hv⟩:=hk
 -- what is frozen is what was
 have hge:∀ q s,C2.sh q=some s->s≠.dead->C.w.heap.size<=C2.ν q:=fun q s hs hd=>by
  rcases Nat.lt_or_ge (C2.ν q) C.w.heap.size with hlt | hge
  ·obtain ⟨j,s',h1,_⟩:=hN.own q s hs hd hlt
   simp [locC] at h1
  ·exact hge
 let C3:Ctx:={ C2 with Fz:=C.Fz }
 have h3:HR P C3 Hn:=by
  refine ⟨fun i e he=>?_,h2.out,h2.inj,fun b o hb=>Nat.lt_of_lt_of_le (hH.low b o hb) hN.size⟩
  have hE:=h2.ent i e he
  refine RE_fz (noImmH_mem hn2 (List.mem_of_getElem? he)) (fun o hd hfz=>?_) hE
  obtain ⟨cp,hs⟩:=hE.shape
  have hlow:=hH.low _ _ hfz
  have:=hge i _ hs (fun e=>hd (by rw [hs,e]))
  omega
 have hN3:Nx (locC C []) C3:=by
  refine ⟨⟨fun b o hb=>⟨hb,?_⟩,fun i s _ hs=>by simp [locC] at hs⟩,hN.size,fun b hb hno=>hN.frame b hb (fun i s hs=>by simp [locC] at hs),fun i s hs hd hlt=>?_,hN.env,fun b o hb=>.inl hb⟩
  ·exact (hN.tr.fz b o (.inl hb)).2
  ·have:=hge i s hs hd
   exact absurd hlt (Nat.not_lt.2 this)
 obtain ⟨b1,b2,b3⟩:=back hH List.nodup_nil (fun i hi=>absurd hi (by simp)) h3 hN3 (Nat.zero_le _)
 have hg:(toGlob [] H.length)=(H.length+·):=by
  funext q;simp [toGlob]
 have hs0:setAll H [] ((Hn.take 0).map (renE (toGlob [] H.length)))=H:=by simp [setAll]
 simp only [List.length_nil,List.drop_zero] at b1
 rw [hs0,hg] at b1
 rw [hg] at b3
 exact ⟨backC C C3 H.length [],rfl,b1,b2,RV_tr b3 u r (fun _ _=>trivial) (RV_fz u r hn1 hv)⟩
end
end
end Go.AM
namespace Go.AM
section
variable {callee:Callee} {P:Program} {C:Ctx} {H H':Heap} {v:AVal} {ρ:Opd->AVal} {ρr:Operand->Value} {o:Oper}

theorem opds_cons {x:Operand} {r:List Operand} {as:List Opd} (h:opds (x::r)=some as):∃ a bs,opd x=some a/\opds r=some bs/\as=a::bs:=by
 simp only [opds,Option.bind_eq_some_iff,Option.map_eq_some_iff] at h
 obtain ⟨a,ha,b,hb,rfl⟩:=h
 exact ⟨a,b,ha,hb,rfl⟩
theorem opds_two {l:List Operand} {a b:Opd} (h:opds l=some [a,b]):∃ x y,l=[x,y]/\opd x=some a/\opd y=some b:=by
 cases l with
 | nil=>cases h
 | cons x r =>
  obtain ⟨a',bs,h1,h2,e⟩:=opds_cons h
  cases e
  cases r with
  | nil=>cases h2
  | cons y r =>
   obtain ⟨b',cs,h3,h4,e⟩:=opds_cons h2
   cases e
   cases r with
   | nil=>exact ⟨x,y,rfl,h1,h3⟩
   | cons z r=>obtain ⟨_,_,_,_,e⟩:=opds_cons h4;cases e
theorem opds_one {l:List Operand} {a:Opd} (h:opds l=some [a]):∃ x,l=[x]/\opd x=some a:=by
 cases l with
 | nil=>cases h
 | cons x r =>
  obtain ⟨a',bs,h1,h2,e⟩:=opds_cons h
  cases e
  cases r with
  | nil=>exact ⟨x,rfl,h1⟩
  | cons z r=>obtain ⟨_,_,_,_,e⟩:=opds_cons h2;cases e
theorem opds_some {l:List Operand} {a:Opd} {as:List Opd} (h:opds l=some (a::as)):∃ x r,l=x::r/\opd x=some a/\opds r=some as:=by
 cases l with
 | nil=>cases h
 | cons x r =>
  obtain ⟨a',bs,h1,h2,e⟩:=opds_cons h
  cases e
  exact ⟨x,r,rfl,h1,h2⟩

theorem elemT_spec {t e:TypeId} (h:elemT P t=some e):P.underlying t=some (.slice e):=by
 unfold elemT at h
 split at h
 ·cases h;assumption
 ·cases h

theorem getD_underlying {at':Array TypeId} {d:TypeDesc} (h:P.underlying (at'.getD 0 0)=some d) (hn:0<at'.size):∃ t,at'[0]?=some t/\P.underlying t=some d:=by
 refine ⟨at'.getD 0 0,?_,h⟩
 simp [Array.getD,hn]

theorem run_op (hc:CalleeOk P callee) (hH:HR P C H) (hρ:RO' C ρ ρr) {iop:IOp} (hi:compOp P o=some iop) (h:aop callee ρ H iop=some (v,H')):Goes P (execOp ρr o) C.w (After P C v H'):=by
 unfold compOp at hi
 split at hi
 ·rename_i x e
  simp only [Option.map_eq_some_iff] at hi
  obtain ⟨a,ha,rfl⟩:=hi
  exact op_copy hH hρ (by unfold execOp;rw [e]) ha h
 ·rename_i x e
  simp only [Option.map_eq_some_iff] at hi
  obtain ⟨a,ha,rfl⟩:=hi
  exact op_copy hH hρ (by unfold execOp;rw [e]) ha h
 ·rename_i c a b e
  simp only [Option.bind_eq_some_iff,Option.map_eq_some_iff] at hi
  obtain ⟨c',hc',a',ha',b',hb',rfl⟩:=hi
  exact op_pick hH hρ (by unfold execOp;rw [e]) hc' ha' hb' h
 ·rename_i t e
  simp only [Option.map_eq_some_iff] at hi
  obtain ⟨z,hz,rfl⟩:=hi
  exact op_alloc hH (by unfold execOp;rw [e];rfl) hz h
 ·rename_i t x e
  simp only [Option.map_eq_some_iff] at hi
  obtain ⟨a,ha,rfl⟩:=hi
  exact op_box hH hρ (by unfold execOp;rw [e];rfl) ha h
 ·rename_i t ps e
  simp only [Option.bind_eq_some_iff] at hi
  obtain ⟨z,hz,hi⟩:=hi
  split at hi
  ·rename_i fs hu
   split at hi
   ·cases hi
   ·rename_i hf
    simp only [Option.map_eq_some_iff] at hi
    obtain ⟨l,hl,rfl⟩:=hi
    exact op_build_struct hH hρ (by unfold execOp;rw [e];rfl) hz hu (by cases hh:(fs.all fun f=>(P.info? f.type).isSome) with
     | true=>rfl
     | false=>rw [hh] at hf;simp at hf) hl h
  ·rename_i n e' hu
   split at hi
   ·cases hi
   ·rename_i hf
    simp only [Option.map_eq_some_iff] at hi
    obtain ⟨l,hl,rfl⟩:=hi
    exact op_build_array hH hρ (by unfold execOp;rw [e];rfl) hz hu (by cases hq:P.info? e' with
     | none=>simp [hq] at hf
     | some _=>rfl) hl h
  ·cases hi
 ·rename_i t n ps e
  simp only [Option.bind_eq_some_iff] at hi
  obtain ⟨e',he',z,hz,l,hl,hi⟩:=hi
  obtain ⟨hcnd,hi⟩:=Option.ite_none_right_eq_some.1 hi
  cases hi
  exact op_mkSlice hH hρ (by unfold execOp;rw [e];rfl) (elemT_spec he') hz hl hcnd h
 ·rename_i t x e
  obtain ⟨hu,hi⟩:=Option.ite_none_right_eq_some.1 hi
  simp only [Option.map_eq_some_iff] at hi
  obtain ⟨a,ha,rfl⟩:=hi
  exact op_load hH hρ (by unfold execOp;rw [e];rfl) hu rfl rfl ha h
 ·rename_i t x y e
  obtain ⟨hu,hi⟩:=Option.ite_none_right_eq_some.1 hi
  simp only [Option.bind_eq_some_iff,Option.map_eq_some_iff] at hi
  obtain ⟨a,ha,b,hb,rfl⟩:=hi
  exact op_store hH hρ (by unfold execOp;rw [e]) hu rfl ha hb h
 ·rename_i x e
  simp only [Option.map_eq_some_iff] at hi
  obtain ⟨a,ha,rfl⟩:=hi
  exact op_nilCheck hH hρ e ha h
 ·rename_i op t x y yt e
  simp only [Option.bind_eq_some_iff] at hi
  obtain ⟨a,ha,b,hb,d,hd,hi⟩:=hi
  have he:execOp ρr o=valS (do eqGuard op t x y (ρr x) (ρr y);binOp op t (ρr x) (ρr y)):=by unfold execOp;rw [e];rfl
  split at hi
  ·cases hi
   exact op_bin hH hρ he ha hb h
  ·cases hi
   exact op_bin hH hρ he ha hb h
  ·split at hi
   ·exact op_eqs (neg:=false) hH hρ he rfl hd ha hb hi h
   ·exact op_eqs (neg:=true) hH hρ he rfl hd ha hb hi h
   ·cases hi
 ·rename_i op t x e
  simp only [Option.map_eq_some_iff] at hi
  obtain ⟨a,ha,rfl⟩:=hi
  exact op_un hH hρ (by unfold execOp;rw [e];rfl) ha h
 ·rename_i s d x e
  simp only [Option.bind_eq_some_iff] at hi
  obtain ⟨a,ha,hi⟩:=hi
  have he:execOp ρr o=valS (convert s d (ρr x)):=by unfold execOp;rw [e];rfl
  split at hi
  ·cases hi
   exact op_toInt hH hρ he (by assumption) (by assumption) ha h
  ·cases hi
   exact op_cpStr hH hρ he (by assumption) (by assumption) ha h
  ·split at hi
   ·cases hi
    exact op_toStr hH hρ he (by assumption) (by assumption) (by assumption) ha h
   ·cases hi
  ·cases hi
 ·rename_i fn a b e
  split at hi
  ·simp only [Option.bind_eq_some_iff,Option.map_eq_some_iff] at hi
   obtain ⟨fs,hfs,cs,hcs,rfl⟩:=hi
   exact op_mkFunc hH hρ (by unfold execOp;rw [e];rfl) hfs hcs h
  ·cases hi
 ·rename_i t l c e
  simp only [Option.bind_eq_some_iff] at hi
  obtain ⟨e',he',z,hz,l',hl,c',hcc,hi⟩:=hi
  obtain ⟨hcnd,hi⟩:=Option.ite_none_right_eq_some.1 hi
  cases hi
  exact op_make hH hρ (by unfold execOp;rw [e];rfl) (elemT_spec he') hz hl hcc hcnd h
 ·rename_i t x lo hi' mx e
  simp only [Option.bind_eq_some_iff] at hi
  obtain ⟨a,ha,lo',hlo,hi'',hhi,mx',hmx,hi⟩:=hi
  have he:execOp ρr o=valS (Instr.sliceAt t (ρr x) (lo.map ρr) (hi'.map ρr) (mx.map ρr)):=by unfold execOp;rw [e];rfl
  split at hi
  ·obtain ⟨hcnd,hi⟩:=Option.ite_none_right_eq_some.1 hi
   cases hi
   exact op_slice hH hρ he (by assumption) hcnd ha hlo hhi hmx h
  ·obtain ⟨hcnd,hi⟩:=Option.ite_none_right_eq_some.1 hi
   cases hi
   rcases opdO_rel hmx with ⟨rfl,rfl⟩ | ⟨_,_,_,rfl,_⟩
   ·exact op_sliceStr hH hρ he (by assumption) ha hlo hhi h
   ·cases hcnd
  ·obtain ⟨hcnd,hi⟩:=Option.ite_none_right_eq_some.1 hi
   cases hi
   rcases opdO_rel hmx with ⟨rfl,rfl⟩ | ⟨_,_,_,rfl,_⟩
   ·exact op_sliceArr hH hρ he (.inl (by assumption)) hcnd.2 ha hlo hhi h
   ·cases hcnd.1
  ·split at hi
   ·obtain ⟨hcnd,hi⟩:=Option.ite_none_right_eq_some.1 hi
    cases hi
    rcases opdO_rel hmx with ⟨rfl,rfl⟩ | ⟨_,_,_,rfl,_⟩
    ·exact op_sliceArr hH hρ he (.inr ⟨_,by assumption,by assumption⟩) hcnd.2 ha hlo hhi h
    ·cases hcnd.1
   ·cases hi
  ·cases hi
 ·rename_i t x f e
  simp only [Option.bind_eq_some_iff] at hi
  obtain ⟨a,ha,hi⟩:=hi
  split at hi
  ·simp only [Option.bind_eq_some_iff] at hi
   obtain ⟨fd,hfd,hi⟩:=hi
   obtain ⟨hcnd,hi⟩:=Option.ite_none_right_eq_some.1 hi
   cases hi
   exact op_fieldA hH hρ (by unfold execOp;rw [e];rfl) (by assumption) hfd hcnd ha h
  ·cases hi
 ·rename_i t x f e
  simp only [Option.bind_eq_some_iff] at hi
  obtain ⟨a,ha,hi⟩:=hi
  split at hi
  ·simp only [Option.bind_eq_some_iff] at hi
   obtain ⟨fd,hfd,hi⟩:=hi
   obtain ⟨hcnd,hi⟩:=Option.ite_none_right_eq_some.1 hi
   cases hi
   exact op_fieldV hH hρ (by unfold execOp;rw [e];rfl) (by assumption) hfd hcnd ha h
  ·cases hi
 ·rename_i t x i e
  simp only [Option.bind_eq_some_iff] at hi
  obtain ⟨a,ha,b,hb,hi⟩:=hi
  split at hi
  ·obtain ⟨hcnd,hi⟩:=Option.ite_none_right_eq_some.1 hi
   cases hi
   exact op_idxS hH hρ (by unfold execOp;rw [e];rfl) (by assumption) hcnd ha hb h
  ·obtain ⟨hcnd,hi⟩:=Option.ite_none_right_eq_some.1 hi
   cases hi
   exact op_idxA hH hρ (by unfold execOp;rw [e];rfl) (by assumption) hcnd ha hb h
  ·cases hi
 ·rename_i t x i e
  simp only [Option.bind_eq_some_iff] at hi
  obtain ⟨a,ha,b,hb,hi⟩:=hi
  split at hi
  ·obtain ⟨hcnd,hi⟩:=Option.ite_none_right_eq_some.1 hi
   cases hi
   exact op_idxV hH hρ (by unfold execOp;rw [e];rfl) (by assumption) hcnd ha hb h
  ·cases hi
   exact op_idxStr hH hρ (by unfold execOp;rw [e];rfl) (by assumption) ha hb h
  ·cases hi
 ·rename_i t i e
  simp only [Option.map_eq_some_iff] at hi
  obtain ⟨a,ha,rfl⟩:=hi
  exact op_extract hH hρ (by unfold execOp;rw [e];rfl) ha h
 ·rename_i c e
  simp only [Option.bind_eq_some_iff] at hi
  obtain ⟨xs,hxs,hi⟩:=hi
  have hargs:RL C (xs.map ρ) (c.args.map ρr).toList:=by simpa using hρ.ro.list hxs
  split at hi
  ·rename_i f hcal
   obtain ⟨hb,hi⟩:=Option.ite_none_right_eq_some.1 hi
   have he:execOp ρr o=(do let d <- Deferred.ofValue (ρr (.func f)) (c.args.map ρr);invoke d.target d.args):=by
    unfold execOp;rw [e];simp only [resolve,hcal]
   rw [he]
   have hf:=hρ.ro (.func f) _ rfl
   rw [hρ.con] at hf
   split at hi
   ·rename_i k hk
    simp only [Option.bind_eq_some_iff] at hi
    obtain ⟨e',he',hi⟩:=hi
    obtain ⟨⟨hz,hy⟩,hi⟩:=Option.ite_none_right_eq_some.1 hi
    cases hi
    obtain ⟨va,vb,hx,h1,h2⟩:=hf
    have e1:va=#[]:=by simpa [RL] using h1
    have e2:vb=#[]:=by simpa [RL] using h2
    rw [hx,e1,e2]
    exact sim_lib hc.2 hk he' hz hy hb hH hargs h
   ·cases hi
    split at h
    ·exact sim_callU hc hH rfl hf hargs h
    ·split at h
     ·exact sim_callR hc hH hf hargs h
     ·exact sim_call hc hH hf hargs h
  ·rename_i x hne hcal
   simp only [Option.map_eq_some_iff] at hi
   obtain ⟨a,ha,rfl⟩:=hi
   have he:execOp ρr o=(do let d <- Deferred.ofValue (ρr x) (c.args.map ρr);invoke d.target d.args):=by
    unfold execOp;rw [e];simp only [resolve,hcal]
   rw [he]
   exact sim_call hc hH (hρ.ro x a ha) hargs h
  ·rename_i b hcal
   have hee:∀ {args:List Operand} {s:Array Value->Sem Value},c.args.toList=args->builtin b c.argTypes o.type (c.args.map fun | .const _=>true | _=>false) (args.map ρr).toArray=valS (s (args.map ρr).toArray)->execOp ρr o=valS (s (args.map ρr).toArray):=by
    intro args s ha hb
    have:c.args=args.toArray:=by rw [<- ha]
    unfold execOp;rw [e]
    simp only [resolve,hcal,pure_bind,invoke]
    rw [<- hb,this]
    simp
    rfl
   split at hi
   ·rename_i s x
    obtain ⟨y,z',hl,hy,hz'⟩:=opds_two hxs
    have he:=hee (s:=fun as=>Builtin.append_ c.argTypes o.type as) hl rfl
    split at hi
    ·rename_i st xt hat
     have hat':c.argTypes=#[st,xt]:=by rw [<- Array.toArray_toList (xs:=c.argTypes),hat]
     simp only [Option.bind_eq_some_iff] at hi
     obtain ⟨e',he',z,hz,hi⟩:=hi
     obtain ⟨⟨c1,c2,c3⟩,hi⟩:=Option.ite_none_right_eq_some.1 hi
     split at hi
     ·cases hi
      exact op_appendZ hH hρ he hat' (elemT_spec he') (by assumption) hz c3 c1 c2 hy hz' h
     ·cases hi
     ·rename_i d hnd hu
      cases hi
      exact op_append hH hρ he hat' (elemT_spec he') hu (fun k e=>hnd k (by rw [e])) hz c3 c1 c2 hy hz' h
    ·cases hi
   ·rename_i x
    obtain ⟨y,hl,hy⟩:=opds_one hxs
    have he:=hee (s:=fun as=>Builtin.cap_ c.argTypes o.type as) hl rfl
    simp only [Option.bind_eq_some_iff] at hi
    obtain ⟨t,ht,hi⟩:=hi
    split at hi
    ·cases hi
     exact op_cap hH hρ he ht (by assumption) hy h
    ·cases hi
   ·rename_i x
    obtain ⟨y,hl,hy⟩:=opds_one hxs
    have he:=hee (s:=fun as=>Builtin.len_ c.argTypes o.type as) hl rfl
    simp only [Option.bind_eq_some_iff] at hi
    obtain ⟨t,ht,hi⟩:=hi
    split at hi
    ·cases hi
     exact op_len hH hρ he ht (by assumption) hy h
    ·cases hi
     exact op_lenStr hH hρ he ht (by assumption) hy h
    ·cases hi
     exact op_lenArr hH he ht (.inl ⟨_,by assumption⟩) h
    ·split at hi
     ·cases hi
      exact op_lenArr hH he ht (.inr ⟨_,_,by assumption,by assumption⟩) h
     ·cases hi
    ·cases hi
   ·rename_i d x
    obtain ⟨y,z',hl,hy,hz'⟩:=opds_two hxs
    have he:=hee (s:=fun as=>Builtin.copy_ c.argTypes o.type as) hl rfl
    simp only [Option.bind_eq_some_iff] at hi
    obtain ⟨t,ht,e',he',hi⟩:=hi
    obtain ⟨hcnd,hi⟩:=Option.ite_none_right_eq_some.1 hi
    cases hi
    exact op_copyS hH hρ he ht (elemT_spec he') hcnd hy hz' h
   ·rename_i x r
    cases hi
    obtain ⟨y,q,hl,hy,hq⟩:=opds_some hxs
    exact op_min hH hρ (hee (s:=fun as=>Builtin.min_ c.argTypes o.type as) hl rfl) hy hq h
   ·rename_i x r
    cases hi
    obtain ⟨y,q,hl,hy,hq⟩:=opds_some hxs
    exact op_max hH hρ (hee (s:=fun as=>Builtin.max_ c.argTypes o.type as) hl rfl) hy hq h
   ·cases hi
  ·cases hi
 ·rename_i t x e
  simp only [Option.bind_eq_some_iff] at hi
  obtain ⟨a,ha,hi⟩:=hi
  split at hi
  ·cases hi
  ·rename_i d hne hd
   cases hi
   exact op_mkIface hH hρ (by unfold execOp;rw [e];rfl) hd (fun m e=>hne m e) ha h
  ·cases hi
 ·cases hi
  simp [aop] at h
 ·rename_i t r e
  obtain ⟨ht,hi⟩:=Option.ite_none_right_eq_some.1 hi
  split at hi
  ·cases hi
   exact op_mapNew hH (by unfold execOp;rw [e];rfl) ht (.inl rfl) h
  ·rename_i kk nn _
   cases hi
   have hq:ρr (.const (.int kk nn))=.int kk nn:=by
    have:=hρ.ro (.const (.int kk nn)) (.c (.lit (.int kk nn))) rfl
    rw [hρ.con] at this
    exact this
   exact op_mapNew hH (r:=some (ρr (.const (.int kk nn)))) (by unfold execOp;rw [e];rfl) ht (.inr ⟨kk,nn,by rw [hq]⟩) h
  ·cases hi
 ·rename_i t x y ok e
  have hh:mapT P t=true/\ok=false:=by
   by_cases hh:mapT P t=true/\ok=false
   ·exact hh
   ·rw [if_neg hh] at hi;cases hi
  rw [if_pos hh] at hi
  obtain ⟨ht,hok⟩:=hh
  subst hok
  simp only [Option.bind_eq_some_iff,Option.map_eq_some_iff] at hi
  obtain ⟨a,ha,b,hb,rfl⟩:=hi
  exact op_mapGet hH hρ (by unfold execOp;rw [e];rfl) ht ha hb h
 ·rename_i t x y z e
  obtain ⟨ht,hi⟩:=Option.ite_none_right_eq_some.1 hi
  simp only [Option.bind_eq_some_iff,Option.map_eq_some_iff] at hi
  obtain ⟨a,ha,b,hb,c,hc',rfl⟩:=hi
  exact op_mapSet hH hρ (by unfold execOp;rw [e]) ht ha hb hc' h
 ·cases hi
end
end Go.AM
namespace Go.AM
section
variable {callee:Callee} {P:Program} {C:Ctx} {H H':Heap} {v:AVal} {τ τ':Tmps} {nt:Nat}


theorem compOp_defer {o:Oper} {iop:IOp} (h:compOp P o=some iop):∀ c,o.op≠.defer c:=by
 intro c e
 unfold compOp at h
 rw [e] at h
 cases h

section
variable {b:Frame} {a:Act} {k:List Go.Item} {cs:List Frame} {w:World} {ops:Array Oper}

theorem steps_goes {i:Nat} {rest:List Nat} {o:Oper} {K:Value->World->Prop} (ho:ops[i]?=some o) (hw:Region.wanted o (yielded ops a.tmps)=true) (hd:∀ c,o.op≠.defer c) (h:Goes P (execOp a.eval o) w K) :
  ∃ v w',K v w'/\Steps P (lone (b.atR a (.inRegion ops (i::rest)::k)) cs w) (lone (b.atR (a.put o.dst v) (.inRegion ops rest::k)) cs w'):=by
 have hg:=stepGR_op (P:=P) (b:=b) (k:=k) (cs:=cs) (w:=w) (rest:=rest) ho hw
 rw [Oper.semAt_eq _ _ _ hd] at hg
 have hfin:∀ v,(b.atR a (.inRegion ops (i::rest)::k)).finish v=b.atR (a.put o.dst v) (.inRegion ops rest::k):=by
  intro v;rw [Frame.finish_atR,ho];rfl
 rcases h with ⟨v,w',h,hk⟩ | ⟨w',h,hk⟩ | ⟨f,args,w₁,h,hk⟩ | ⟨l,f,tmps,as,bd,w₁,h,hk⟩
 ·refine ⟨v,w',hk,.one (step_lone_go ?_)⟩
  rw [hg,<- hfin];simp [stepG.apply,h]
 ·refine ⟨undef,w',hk,.one (step_lone_go ?_)⟩
  rw [hg,<- hfin];simp [stepG.apply,h]
 ·obtain ⟨e,w'',fr,⟨v,rfl,hK⟩,hsteps,_,hleave⟩:=hk (b.atR a (.inRegion ops (i::rest)::k)::cs)
  have henter:step P (lone (b.atR a (.inRegion ops (i::rest)::k)) cs w)=.next (lone (Frame.enter P f args .normal) (b.atR a (.inRegion ops (i::rest)::k)::cs) w₁) :=
   step_lone_go (by rw [hg];simp [stepG.apply,h,Frame.atR])
  refine ⟨v,w'',hK,.head henter (hsteps.trans (.one ?_))⟩
  rw [<- hfin];exact step_leave_returned hleave
 ·obtain ⟨v,w',hK,hs⟩:=hk (b.atR a (.inRegion ops (i::rest)::k)) cs
  have henter:step P (lone (b.atR a (.inRegion ops (i::rest)::k)) cs w)=.next (lone (Frame.round l f tmps as bd .normal) (b.atR a (.inRegion ops (i::rest)::k)::cs) w₁) :=
   step_lone_go (by rw [hg];simp [stepG.apply,h,Frame.atR])
  refine ⟨v,w',hK,.head henter ?_⟩
  rw [<- hfin];exact hs

end


theorem RT.put {a:Act} {dst:Option Nat} {x:Value} (h:RT C τ a.tmps) (hv:RV C v x) (hd:∀ d,dst=some d->d<a.tmps.size):RT C (put dst v τ) (a.put dst x).tmps:=by
 cases dst with
 | none=>exact h
 | some d =>
  intro t
  simp only [Go.AM.put,lk,Act.put]
  have hlt:=hd d rfl
  by_cases ht:t=d
  ·subst ht
   simp only [if_true]
   rw [Array.getD_eq_getD_getElem?,Array.getElem?_setIfInBounds_self_of_lt hlt]
   exact hv
  ·simp only [ht,if_false]
   rw [Array.getD_eq_getD_getElem?,Array.getElem?_setIfInBounds_ne (fun e=>ht e.symm),<- Array.getD_eq_getD_getElem?]
   exact h t

theorem Act.put_tmps (a:Act) (dst:Option Nat) (x:Value):(a.put dst x).tmps=(match dst with | some d=>a.tmps.setIfInBounds d x | none=>a.tmps):=by
 cases dst<;>rfl
theorem Act.put_size (a:Act) (dst:Option Nat) (x:Value):(a.put dst x).tmps.size=a.tmps.size:=by
 cases dst<;>simp [Act.put]
theorem Act.put_defers' (a:Act) (dst:Option Nat) (x:Value):(a.put dst x).defers=a.defers:=by
 cases dst<;>rfl

theorem RO'.of_RT {tmps:Array Value} {ds:List Deferred} (h:RT C τ tmps):RO' C (ev τ) (Act.eval { tmps,defers:=ds }) :=
 ⟨RO.of_RT h (fun _=>rfl) (fun _=>rfl) (fun _=>rfl),fun _=>rfl⟩

theorem compOper_spec {ops:Array Oper} {o:Oper} {u:IOper} (h:compOper P ops nt o=some u):compOp P o=some u.op/\guardT ops o=some u.guard/\u.dst=o.dst/\∀ d,o.dst=some d->d<nt:=by
 simp only [compOper,Option.bind_eq_some_iff] at h
 obtain ⟨op,h1,g,h2,h⟩:=h
 cases hd:o.dst with
 | none=>rw [hd] at h;cases h;exact ⟨h1,h2,rfl,by simp⟩
 | some d =>
  rw [hd] at h
  obtain ⟨hlt,h⟩:=Option.ite_none_right_eq_some.1 h
  cases h
  exact ⟨h1,h2,rfl,fun d' e=>by cases e;exact hlt⟩

theorem guard_spec {ops:Array Oper} {o:Oper} {t:Nat} {want:Bool} {tmps:Array Value} (h:guardT ops o=some (some (t,want))) (hx:RT C τ tmps) :
  (∀ q,lk t τ=.lit (.bool q)->Region.wanted o (yielded ops tmps)=decide (q=want))/\(∀ l,lk t τ=.lit l->(∀ q,l≠.bool q)->Region.wanted o (yielded ops tmps)=false):=by
 unfold guardT at h
 cases hg:o.guard with
 | none=>rw [hg] at h;cases h
 | some p =>
  obtain ⟨j,w⟩:=p
  rw [hg] at h
  simp only [] at h
  split at h
  ·rename_i t' ht
   cases h
   have hy:yielded ops tmps j=match tmps[t]? with | some (.bool b)=>some b | _=>none:=by
    unfold yielded;rw [ht];rfl
   have hxt:=hx t
   constructor
   ·intro q hq
    rw [hq] at hxt
    have hxt:tmps.getD t undef=.bool q:=hxt
    have:tmps[t]?=some (.bool q):=by
     rw [Array.getD_eq_getD_getElem?] at hxt
     cases hh:tmps[t]? with
     | none=>rw [hh] at hxt;cases hxt
     | some y=>rw [hh] at hxt;exact congrArg some hxt
    rw [this] at hy
    simp only [Region.wanted,hg,hy]
    cases q<;>cases want<;>rfl
   ·intro l hl hne
    rw [hl] at hxt
    have hxt:tmps.getD t undef=l:=hxt
    simp only [Region.wanted,hg,hy]
    cases hh:tmps[t]? with
    | none=>rfl
    | some y =>
     rw [Array.getD_eq_getD_getElem?,hh] at hxt
     have hxt:y=l:=hxt
     subst hxt
     cases y<;>first | rfl | exact absurd rfl (hne _)
  ·cases h

theorem guard_none {ops:Array Oper} {o:Oper} {tmps:Array Value} (h:guardT ops o=some none):Region.wanted o (yielded ops tmps)=true:=by
 unfold guardT at h
 cases hg:o.guard with
 | none=>simp [Region.wanted,hg]
 | some p =>
  rw [hg] at h
  simp only [] at h
  split at h<;>cases h

theorem sim_step {b:Frame} {a:Act} {k:List Go.Item} {cs:List Frame} {ops:Array Oper} {i:Nat} {rest:List Nat} {o:Oper} {u:IOper} (hc:CalleeOk P callee) (hH:HR P C H) (ho:ops[i]?=some o) (hu:compOper P ops nt o=some u)
  (hx:RT C τ a.tmps) (hn:nt<=a.tmps.size) (h:aval callee u τ H=some (v,H')) :
  ∃ x C',HR P C' H'/\Nx C C'/\RV C' v x/\Steps P (lone (b.atR a (.inRegion ops (i::rest)::k)) cs C.w) (lone (b.atR (a.put o.dst x) (.inRegion ops rest::k)) cs C'.w):=by
 obtain ⟨h1,h2,h3,h4⟩:=compOper_spec hu
 have go:Region.wanted o (yielded ops a.tmps)=true->aop callee (ev τ) H u.op=some (v,H') ->
   (∃ x C',HR P C' H'/\Nx C C'/\RV C' v x/\Steps P (lone (b.atR a (.inRegion ops (i::rest)::k)) cs C.w) (lone (b.atR (a.put o.dst x) (.inRegion ops rest::k)) cs C'.w)):=fun hw h=>by
  have hg:=run_op hc hH (RO'.of_RT (ds:=a.defers) hx) h1 h
  obtain ⟨x,w',⟨C',rfl,k1,k2,k3⟩,hs⟩:=steps_goes (b:=b) (k:=k) (cs:=cs) (rest:=rest) ho hw (compOp_defer h1) hg
  exact ⟨x,C',k1,k2,k3,hs⟩
 have skip:Region.wanted o (yielded ops a.tmps)=false->(v,H')=((AVal.lit (.tuple #[])),H) ->
   (∃ x C',HR P C' H'/\Nx C C'/\RV C' v x/\Steps P (lone (b.atR a (.inRegion ops (i::rest)::k)) cs C.w) (lone (b.atR (a.put o.dst x) (.inRegion ops rest::k)) cs C'.w)):=fun hw e=>by
  cases e
  have hs:=stepR_op_skip (P:=P) (b:=b) (a:=a) (k:=k) (cs:=cs) (w:=C.w) (ops:=ops) (i:=i) (rest:=rest) (by simp [ho,hw])
  simp only [ho,Option.bind_some] at hs
  exact ⟨undef,C,hH,Nx.refl C,rfl,.one hs⟩
 unfold aval at h
 split at h
 ·rename_i hg
  rw [hg] at h2
  exact go (guard_none h2) h
 ·rename_i t want hg
  rw [hg] at h2
  obtain ⟨g1,g2⟩:=guard_spec h2 hx
  split at h
  ·rename_i q hq
   have:=g1 q hq
   split at h
   ·rename_i hqw
    exact go (by rw [this];simpa using hqw) h
   ·rename_i hqw
    exact skip (by rw [this];simpa using hqw) (Option.some.inj h).symm
  ·rename_i l hne hl
   exact skip (g2 l hl (fun q e=>hne q (by rw [e]))) (Option.some.inj h).symm
  ·cases h

theorem sim_ops {b:Frame} {ops:Array Oper} {k:List Go.Item} {cs:List Frame} (hc:CalleeOk P callee):∀ (l:List (Nat × Oper × IOper)) {a:Act} {τ:Tmps} {H:Heap} {C:Ctx},(∀ x∈l,ops[x.1]?=some x.2.1/\compOper P ops nt x.2.1=some x.2.2) ->
  HR P C H->RT C τ a.tmps->nt<=a.tmps.size->aops callee (l.map (·.2.2)) τ H=some (τ',H') ->
  ∃ tmps' C',HR P C' H'/\Nx C C'/\RT C' τ' tmps'/\tmps'.size=a.tmps.size/\Steps P (lone (b.atR a (.inRegion ops (l.map (·.1))::k)) cs C.w) (lone (b.atR { tmps:=tmps',defers:=a.defers } k) cs C'.w)
 | [],a,τ,H,C,_,hH,hx,hn,h=>by
  simp only [List.map_nil,aops,Option.some.injEq,Prod.mk.injEq] at h
  obtain ⟨rfl,rfl⟩:=h
  exact ⟨a.tmps,C,hH,Nx.refl C,hx,rfl,.one stepR_region_end⟩
 | (i,o,u)::r,a,τ,H,C,hl,hH,hx,hn,h=>by
  simp only [List.map_cons,aops,Option.bind_eq_some_iff] at h
  obtain ⟨⟨v,H1⟩,hv,h⟩:=h
  obtain ⟨ho,hu⟩:=hl (i,o,u) (by simp)
  obtain ⟨x,C1,k1,k2,k3,k4⟩:=sim_step (b:=b) (k:=k) (cs:=cs) (rest:=r.map (·.1)) hc hH ho hu hx hn hv
  obtain ⟨_,_,h3,h4⟩:=compOper_spec hu
  have hx1:=(hx.nx k2).put (dst:=o.dst) k3 (fun d hd=>Nat.lt_of_lt_of_le (h4 d hd) hn)
  rw [h3] at h
  obtain ⟨tmps',C',j1,j2,j3,j4,j5⟩:=sim_ops hc r (a:=a.put o.dst x) (fun y hy=>hl y (by simp [hy])) k1 hx1 (by rw [Act.put_size];exact hn) h
  rw [Act.put_defers'] at j5
  exact ⟨tmps',C',j1,k2.trans j2,j3,by rw [j4,Act.put_size],k4.trans j5⟩

theorem compOpers_spec {ops:Array Oper}:∀ {l:List Oper} {is:List IOper},compOpers P ops nt l=some is->is.length=l.length/\∀ (i:Nat) (o:Oper) (u:IOper),l[i]?=some o->is[i]?=some u->compOper P ops nt o=some u
 | [],is,h=>by simp [compOpers] at h;subst h;simp
 | o::r,is,h=>by
  simp only [compOpers,Option.bind_eq_some_iff,Option.map_eq_some_iff] at h
  obtain ⟨u,hu,us,hus,rfl⟩:=h
  obtain ⟨h1,h2⟩:=compOpers_spec hus
  refine ⟨by simp [h1],fun i x y hx hy=>?_⟩
  cases i with
  | zero=>simp at hx hy;subst hx hy;exact hu
  | succ i=>exact h2 i x y (by simpa using hx) (by simpa using hy)

theorem sim_region {b:Frame} {a:Act} {ops:Array Oper} {k:List Go.Item} {cs:List Frame} {id:Nat} {is:List IOper} (hc:CalleeOk P callee) (hi:compOpers P ops nt ops.toList=some is) (hH:HR P C H) (hx:RT C τ a.tmps) (hn:nt<=a.tmps.size)
  (h:aops callee is τ H=some (τ',H')) :
  ∃ tmps' C',HR P C' H'/\Nx C C'/\RT C' τ' tmps'/\tmps'.size=a.tmps.size/\Steps P (lone (b.atR a (.code (.region id ops false)::k)) cs C.w) (lone (b.atR { tmps:=tmps',defers:=a.defers } k) cs C'.w):=by
 obtain ⟨hl,hs⟩:=compOpers_spec hi
 have hz:(List.range ops.size).zip (ops.toList.zip is)=(List.range ops.size).zip (ops.toList.zip is):=rfl
 have hm1:((List.range ops.size).zip (ops.toList.zip is)).map (·.1)=List.range ops.size:=by
  rw [List.map_fst_zip];simp [hl]
 have hm2:((List.range ops.size).zip (ops.toList.zip is)).map (·.2.2)=is:=by
  rw [show ((List.range ops.size).zip (ops.toList.zip is)).map (·.2.2)=(((List.range ops.size).zip (ops.toList.zip is)).map (·.2)).map (·.2) by simp [Function.comp],List.map_snd_zip (by simp [hl]),List.map_snd_zip (by simp [hl])]
 obtain ⟨tmps',C',j1,j2,j3,j4,j5⟩:=sim_ops (b:=b) (k:=k) (cs:=cs) (ops:=ops) (nt:=nt) hc ((List.range ops.size).zip (ops.toList.zip is)) (fun x hx=>by
  obtain ⟨j,hj⟩:=List.mem_iff_getElem?.1 hx
  rw [List.getElem?_zip_eq_some] at hj
  obtain ⟨h1,h2⟩:=hj
  rw [List.getElem?_zip_eq_some] at h2
  obtain ⟨h2,h3⟩:=h2
  have h4:x.1=j:=by
   have:=(List.getElem?_eq_some_iff.1 h1).2
   simpa using this.symm
  rw [h4]
  exact ⟨by simpa using h2,hs j _ _ h2 h3⟩) hH hx hn (by rw [hm2];exact h)
 rw [hm1] at j5
 exact ⟨tmps',C',j1,j2,j3,j4,.head stepR_region j5⟩
end
end Go.AM
namespace Go.AM
section
variable {callee:Callee} {H H':Heap} {v:AVal} {τ τ':Tmps} {ρ ρ':Opd->AVal}


theorem rd (hc:∀ v,ρ (.c v)=ρ' (.c v)):∀ {x:Opd},(∀ t∈readsO x,ρ (.t t)=ρ' (.t t))->ρ x=ρ' x
 | .t n,h=>h n (by simp [readsO])
 | .c v,_=>hc v
theorem rdL (hc:∀ v,ρ (.c v)=ρ' (.c v)) {xs:List Opd} (h:∀ t∈xs.flatMap readsO,ρ (.t t)=ρ' (.t t)):xs.map ρ=xs.map ρ' :=
 List.map_congr_left fun x hx=>rd hc fun t ht=>h t (List.mem_flatMap.2 ⟨x,hx,ht⟩)

theorem afill_congr (hc:∀ v,ρ (.c v)=ρ' (.c v)):∀ (ps:List (Nat × Nat × Opd)) (cs:List AVal),(∀ t∈ps.flatMap (fun p=>readsO p.2.2),ρ (.t t)=ρ' (.t t))->afill ρ cs ps=afill ρ' cs ps
 | [],cs,_=>rfl
 | (o,n,x)::r,cs,h=>by
  simp only [List.flatMap_cons,List.mem_append] at h
  simp only [afill,rd hc (fun t ht=>h t (.inl ht))]
  congr 1;funext vs
  split
  ·exact afill_congr hc r _ fun t ht=>h t (.inr ht)
  ·rfl
theorem afillS_congr (hc:∀ v,ρ (.c v)=ρ' (.c v)) {fl:Bool} {sz:Nat}:∀ (ps:List (Nat × Opd)) (es:List (List AVal)) (ls:List Nat),(∀ t∈ps.flatMap (fun p=>readsO p.2),ρ (.t t)=ρ' (.t t))->afillS fl sz ρ H es ls ps=afillS fl sz ρ' H es ls ps
 | [],es,ls,_=>rfl
 | (j,x)::r,es,ls,h=>by
  simp only [List.flatMap_cons,List.mem_append] at h
  simp only [afillS,rd hc (fun t ht=>h t (.inl ht))]
  congr 1;funext v
  congr 1;funext vs
  split
  ·exact afillS_congr hc r _ _ fun t ht=>h t (.inr ht)
  ·rfl
theorem foldI_congr (hc:∀ v,ρ (.c v)=ρ' (.c v)) {f:Int->Int->Int} {k:IntKind}:∀ (xs:List Opd) (a:Int),(∀ t∈xs.flatMap readsO,ρ (.t t)=ρ' (.t t))->foldI f ρ k a xs=foldI f ρ' k a xs
 | [],a,_=>rfl
 | x :: r,a,h=>by
  simp only [List.flatMap_cons,List.mem_append] at h
  simp only [foldI,rd hc (fun t ht=>h t (.inl ht))]
  split
  ·split
   ·exact foldI_congr hc r _ fun t ht=>h t (.inr ht)
   ·rfl
  ·rfl
theorem optNat_congr (hc:∀ v,ρ (.c v)=ρ' (.c v)) {d:Nat} {x:Option Opd} (h:∀ t∈readsQ x,ρ (.t t)=ρ' (.t t)):optNat ρ d x=optNat ρ' d x:=by
 cases x with
 | none=>rfl
 | some x=>simp only [optNat,rd hc (fun t ht=>h t ht)]

theorem aop_congr (hc:∀ v,ρ (.c v)=ρ' (.c v)) {op:IOp} (h:∀ t∈readsI op,ρ (.t t)=ρ' (.t t)):aop callee ρ H op=aop callee ρ' H op:=by
 cases op<;>simp only [readsI,List.mem_append] at h<;>simp only [aop]
 case copy x=>rw [rd hc h]
 case box n x=>rw [rd hc h]
 case load ag n x=>rw [rd hc h]
 case nilCheck x=>rw [rd hc h]
 case isNil n k x=>rw [rd hc h]
 case un k x=>rw [rd hc h]
 case toInt k x=>rw [rd hc h]
 case toStr x=>rw [rd hc h]
 case cpStr x=>rw [rd hc h]
 case fieldA k x=>rw [rd hc h]
 case fieldV k n o x=>rw [rd hc h]
 case extract x i=>rw [rd hc h]
 case cap x=>rw [rd hc h]
 case mkIface t x=>rw [rd hc h]
 case len x=>rw [rd hc h]
 case lenStr x=>rw [rd hc h]
 case pick c a b=>rw [rd hc (fun t ht=>h t (.inl (.inl ht))),rd hc (x:=a) (fun t ht=>h t (.inl (.inr ht))),rd hc (x:=b) (fun t ht=>h t (.inr ht))]
 case build z ps=>rw [afill_congr hc _ _ h]
 case mkSlice fl sz z len ps=>rw [afillS_congr hc _ _ _ h]
 case store n a v=>rw [rd hc (fun t ht=>h t (.inl ht)),rd hc (x:=v) (fun t ht=>h t (.inr ht))]
 case bin op x y=>rw [rd hc (fun t ht=>h t (.inl ht)),rd hc (x:=y) (fun t ht=>h t (.inr ht))]
 case eqB n x y=>rw [rd hc (fun t ht=>h t (.inl ht)),rd hc (x:=y) (fun t ht=>h t (.inr ht))]
 case eqA n l x y=>rw [rd hc (fun t ht=>h t (.inl ht)),rd hc (x:=y) (fun t ht=>h t (.inr ht))]
 case idxS sz x y=>rw [rd hc (x:=x) (fun t ht=>h t (.inl ht)),rd hc (x:=y) (fun t ht=>h t (.inr ht))]
 case idxA l sz x y=>rw [rd hc (x:=x) (fun t ht=>h t (.inl ht)),rd hc (x:=y) (fun t ht=>h t (.inr ht))]
 case idxV g l sz x y=>rw [rd hc (x:=x) (fun t ht=>h t (.inl ht)),rd hc (x:=y) (fun t ht=>h t (.inr ht))]
 case idxStr x y=>rw [rd hc (x:=x) (fun t ht=>h t (.inl ht)),rd hc (x:=y) (fun t ht=>h t (.inr ht))]
 case append fl sz bt x y=>rw [rd hc (x:=x) (fun t ht=>h t (.inl ht)),rd hc (x:=y) (fun t ht=>h t (.inr ht))]
 case appendZ fl sz bt z x y=>rw [rd hc (x:=x) (fun t ht=>h t (.inl ht)),rd hc (x:=y) (fun t ht=>h t (.inr ht))]
 case copyS sz x y=>rw [rd hc (x:=x) (fun t ht=>h t (.inl ht)),rd hc (x:=y) (fun t ht=>h t (.inr ht))]
 case mkFunc fn a b=>rw [rdL hc (fun t ht=>h t (.inl ht)),rdL hc (xs:=b) (fun t ht=>h t (.inr ht))]
 case make fl sz bt z l c=>rw [rd hc (x:=l) (fun t ht=>h t (.inl ht)),rd hc (x:=c) (fun t ht=>h t (.inr ht))]
 case slice sz x a b c =>
  rw [rd hc (x:=x) (fun t ht=>h t (.inl (.inl (.inl ht)))),optNat_congr hc (x:=a) (fun t ht=>h t (.inl (.inl (.inr ht))))]
  cases b with
  | none=>cases c<;>rfl
  | some b =>
   have hb:=rd hc (x:=b) (fun t ht=>h t (.inl (.inr ht)))
   cases c with
   | none=>simp only [hb]
   | some c=>simp only [hb,rd hc (x:=c) (fun t ht=>h t (.inr ht))]
 case sliceStr x a b =>
  rw [rd hc (x:=x) (fun t ht=>h t (.inl (.inl ht))),optNat_congr hc (x:=a) (fun t ht=>h t (.inl (.inr ht)))]
  simp only [optNat_congr hc (x:=b) (fun t ht=>h t (.inr ht))]
 case sliceArr n sz x a b =>
  rw [rd hc (x:=x) (fun t ht=>h t (.inl (.inl ht))),optNat_congr hc (x:=a) (fun t ht=>h t (.inl (.inr ht))),optNat_congr hc (x:=b) (fun t ht=>h t (.inr ht))]
 case call f xs=>rw [rdL hc h]
 case callU f xs=>rw [rdL hc h]
 case callR f xs=>rw [rdL hc h]
 case mapGet z m k=>rw [rd hc (x:=m) (fun t ht=>h t (.inl ht)),rd hc (x:=k) (fun t ht=>h t (.inr ht))]
 case mapSet m k v=>rw [rd hc (x:=m) (fun t ht=>h t (.inl (.inl ht))),rd hc (x:=k) (fun t ht=>h t (.inl (.inr ht))),rd hc (x:=v) (fun t ht=>h t (.inr ht))]
 case callL k fl sz bt f xs=>rw [rdL hc h]
 case callV f xs=>rw [rd hc (fun t ht=>h t (.inl ht)),rdL hc (fun t ht=>h t (.inr ht))]
 case minI x xs =>
  rw [rd hc (x:=x) (fun t ht=>h t (.inl ht))]
  simp only [foldI_congr hc xs _ (fun t ht=>h t (.inr ht))]
 case maxI x xs =>
  rw [rd hc (x:=x) (fun t ht=>h t (.inl ht))]
  simp only [foldI_congr hc xs _ (fun t ht=>h t (.inr ht))]

theorem aval_congr {u:IOper} (h:∀ t∈readsU u,lk t τ=lk t τ'):aval callee u τ H=aval callee u τ' H:=by
 have h1:∀ t∈readsI u.op,lk t τ=lk t τ':=fun t ht=>h t (List.mem_append_right _ ht)
 have h2:=aop_congr (callee:=callee) (H:=H) (ρ:=ev τ) (ρ':=ev τ') (fun _=>rfl) h1
 unfold aval
 cases hg:u.guard with
 | none=>exact h2
 | some p =>
  obtain ⟨t,w⟩:=p
  have:lk t τ=lk t τ':=h t (List.mem_append_left _ (by simp [hg]))
  simp only [this,h2]

theorem aop_pure {op:IOp} (ha:acts op=false) (hl:looks op=false) (h:aop callee ρ H op=some (v,H')):H'=H/\∀ G,aop callee ρ G op=some (v,G):=by
 cases op<;>simp only [acts,looks,reduceCtorEq] at ha hl<;>simp only [aop] at h ⊢
 case slice sz x a b c =>
  cases c with
  | some c=>simp at ha
  | none =>
   have key:∀ {l:Nat} {hh:Option Nat},aslice sz H (ρ x) l hh none=some (v,H')->H'=H/\∀ G,aslice sz G (ρ x) l hh none=some (v,G):=by
    intro l hh h
    generalize ρ x=a at h ⊢
    cases a<;>simp only [aslice,reduceCtorEq] at h ⊢
    ·obtain ⟨hso,h⟩:=Option.ite_none_left_eq_some.1 h
     obtain ⟨hb,h⟩:=Option.ite_none_right_eq_some.1 h
     cases h
     exact ⟨rfl,fun G=>by rw [if_neg hso,if_pos hb]⟩
    ·obtain ⟨hb,h⟩:=Option.ite_none_right_eq_some.1 h
     cases h
     exact ⟨rfl,fun G=>by rw [if_pos hb]⟩
    ·obtain ⟨hb,h⟩:=Option.ite_none_right_eq_some.1 h
     cases h
     exact ⟨rfl,fun G=>by rw [if_pos hb]⟩
   simp only [Option.bind_eq_some_iff] at h ⊢
   obtain ⟨l,hl',h⟩:=h
   cases b with
   | none =>
    obtain ⟨k1,k2⟩:=key h
    exact ⟨k1,fun G=>⟨l,hl',k2 G⟩⟩
   | some b =>
    simp only [Option.bind_eq_some_iff] at h
    obtain ⟨q,hq,h⟩:=h
    obtain ⟨k1,k2⟩:=key h
    exact ⟨k1,fun G=>⟨l,hl',by simp only [Option.bind_eq_some_iff];exact ⟨q,hq,k2 G⟩⟩⟩
 all_goals first
  | (cases h;exact ⟨rfl,fun _=>rfl⟩)
  | (simp only [Option.map_eq_some_iff,Prod.mk.injEq] at h;obtain ⟨q,h1,rfl,rfl⟩:=h;exact ⟨rfl,fun _=>by simp only [h1,Option.map_some]⟩)
  | skip
 case pick c a b=>generalize ρ c=q at h ⊢;split at h<;>first | (cases h;exact ⟨rfl,fun _=>rfl⟩) | cases h
 case nilCheck x =>
  generalize ρ x=q at h ⊢
  split at h
  ·cases h;exact ⟨rfl,fun _=>rfl⟩
  ·cases h;exact ⟨rfl,fun _=>rfl⟩
  ·split at h
   ·cases h;exact ⟨rfl,fun _=>rfl⟩
   ·cases h
  ·cases h;exact ⟨rfl,fun _=>rfl⟩
  ·cases h
 case toInt k x=>generalize ρ x=q at h ⊢;split at h<;>first | (cases h;exact ⟨rfl,fun _=>rfl⟩) | cases h
 case cpStr x=>generalize ρ x=q at h ⊢;split at h<;>first | (cases h;exact ⟨rfl,fun _=>rfl⟩) | cases h
 case cap x=>generalize ρ x=q at h ⊢;split at h<;>first | (cases h;exact ⟨rfl,fun _=>rfl⟩) | cases h
 case len x=>generalize ρ x=q at h ⊢;split at h<;>first | (cases h;exact ⟨rfl,fun _=>rfl⟩) | cases h
 case lenStr x=>generalize ρ x=q at h ⊢;split at h<;>first | (cases h;exact ⟨rfl,fun _=>rfl⟩) | cases h
 case fieldV ag n o x =>
  generalize ρ x=q at h ⊢
  split at h
  ·simp only [Option.map_eq_some_iff,Prod.mk.injEq] at h;obtain ⟨q,h1,rfl,rfl⟩:=h;exact ⟨rfl,fun _=>by simp only [h1,Option.map_some]⟩
  ·cases h
 case extract x i =>
  generalize ρ x=q at h ⊢
  split at h
  ·simp only [Option.map_eq_some_iff,Prod.mk.injEq] at h;obtain ⟨q,h1,rfl,rfl⟩:=h;exact ⟨rfl,fun _=>by simp only [h1,Option.map_some]⟩
  ·cases h
 case eqA n l x y =>
  generalize ρ x=q at h ⊢
  generalize ρ y=q' at h ⊢
  split at h
  ·simp only [Option.map_eq_some_iff,Prod.mk.injEq] at h;obtain ⟨q,h1,rfl,rfl⟩:=h;exact ⟨rfl,fun _=>by simp only [h1,Option.map_some]⟩
  ·cases h
 case idxS sz x y =>
  simp only [Option.bind_eq_some_iff,Option.map_eq_some_iff,Prod.mk.injEq] at h
  obtain ⟨i,hi,q,h1,rfl,rfl⟩:=h
  exact ⟨rfl,fun _=>by simp only [hi,h1,Option.map_some,Option.bind_some]⟩
 case idxA l sz x y =>
  simp only [Option.bind_eq_some_iff] at h
  obtain ⟨i,hi,h⟩:=h
  obtain ⟨hlt,h⟩:=Option.ite_none_right_eq_some.1 h
  simp only [Option.map_eq_some_iff,Prod.mk.injEq] at h
  obtain ⟨q,h1,rfl,rfl⟩:=h
  exact ⟨rfl,fun _=>by simp only [hi,h1,hlt,if_true,Option.map_some,Option.bind_some]⟩
 case idxV ag l sz x y =>
  simp only [Option.bind_eq_some_iff] at h
  obtain ⟨i,hi,h⟩:=h
  simp only [hi,Option.bind_some]
  generalize ρ x=q at h ⊢
  split at h
  ·obtain ⟨hlt,h⟩:=Option.ite_none_right_eq_some.1 h
   simp only [Option.map_eq_some_iff,Prod.mk.injEq] at h
   obtain ⟨q,h1,rfl,rfl⟩:=h
   exact ⟨rfl,fun _=>by simp only [h1,hlt,if_true,Option.map_some]⟩
  ·cases h
 case idxStr x y =>
  simp only [Option.bind_eq_some_iff] at h
  obtain ⟨i,hi,h⟩:=h
  simp only [hi,Option.bind_some]
  generalize ρ x=q at h ⊢
  split at h
  ·simp only [Option.map_eq_some_iff,Prod.mk.injEq] at h
   obtain ⟨q,h1,rfl,rfl⟩:=h
   exact ⟨rfl,fun _=>by simp only [h1,Option.map_some]⟩
  ·cases h
 case sliceStr x a b =>
  simp only [Option.bind_eq_some_iff] at h
  obtain ⟨l,hl',h⟩:=h
  simp only [hl',Option.bind_some]
  generalize ρ x=q at h ⊢
  split at h
  ·simp only [Option.bind_eq_some_iff] at h
   obtain ⟨q,hq,h⟩:=h
   obtain ⟨hb,h⟩:=Option.ite_none_right_eq_some.1 h
   cases h
   exact ⟨rfl,fun _=>by simp only [hq,Option.bind_some];rw [if_pos hb]⟩
  ·cases h
 case sliceArr n sz x a b =>
  simp only [Option.bind_eq_some_iff] at h
  obtain ⟨l,hl',q,hq,h⟩:=h
  simp only [hl',hq,Option.bind_some]
  generalize ρ x=q at h ⊢
  split at h
  ·obtain ⟨hb,h⟩:=Option.ite_none_right_eq_some.1 h
   cases h
   exact ⟨rfl,fun _=>by rw [if_pos hb]⟩
  ·cases h
 case minI x xs =>
  generalize ρ x=q at h ⊢
  split at h
  ·simp only [Option.map_eq_some_iff,Prod.mk.injEq] at h;obtain ⟨q,h1,rfl,rfl⟩:=h;exact ⟨rfl,fun _=>by simp only [h1,Option.map_some]⟩
  ·cases h
 case maxI x xs =>
  generalize ρ x=q at h ⊢
  split at h
  ·simp only [Option.map_eq_some_iff,Prod.mk.injEq] at h;obtain ⟨q,h1,rfl,rfl⟩:=h;exact ⟨rfl,fun _=>by simp only [h1,Option.map_some]⟩
  ·cases h

theorem aop_quiet {op:IOp} (ha:acts op=false) (h:aop callee ρ H op=some (v,H')):H'=H:=by
 by_cases hl:looks op=true
 ·cases op<;>simp only [looks,reduceCtorEq] at hl<;>simp only [aop] at h
  ·simp only [Option.map_eq_some_iff,Prod.mk.injEq] at h;obtain ⟨_,_,_,rfl⟩:=h;rfl
  ·split at h
   ·cases h;rfl
   ·simp only [Option.bind_eq_some_iff,Option.map_eq_some_iff,Prod.mk.injEq] at h;obtain ⟨_,_,_,_,_,rfl⟩:=h;rfl
  ·split at h
   ·split at h
    ·cases h;rfl
    ·cases h
   ·cases h
 ·exact (aop_pure ha (by simpa using hl) h).1

theorem aval_pure {u:IOper} (ha:acts u.op=false) (hl:looks u.op=false) (h:aval callee u τ H=some (v,H')) (G:Heap):aval callee u τ G=some (v,G):=by
 unfold aval at h ⊢
 split at h
 ·exact (aop_pure ha hl h).2 G
 ·rename_i t w hg
  generalize lk t τ=q at h ⊢
  split at h
  ·rename_i b
   by_cases hbw:b=w
   ·rw [if_pos hbw] at h
    simp only [hbw,if_true]
    exact (aop_pure ha hl h).2 G
   ·rw [if_neg hbw] at h
    simp only [hbw,if_false]
    cases h;rfl
  ·rename_i l hne
   cases h
   cases l<;>first | rfl | exact absurd rfl (hne _)
  ·cases h

theorem aval_quiet {u:IOper} (ha:acts u.op=false) (h:aval callee u τ H=some (v,H')):H'=H:=by
 unfold aval at h
 split at h
 ·exact aop_quiet ha h
 ·split at h
  ·split at h
   ·exact aop_quiet ha h
   ·cases h;rfl
  ·cases h;rfl
  ·cases h
end
end Go.AM
namespace Go.AM


inductive Sched (ops:Array Oper):List Nat->List Nat->Prop
 | nil {done:List Nat}:(∀ i,i<ops.size->i∈done)->Sched ops done []
 | cons {done:List Nat} {i:Nat} {l:List Nat} {o:Oper}:ops[i]?=some o->i ∉ done->(∀ e∈o.after,Region.binds .any e=true->e.on∈done)->Sched ops (i::done) l->Sched ops done (i::l)

section
variable {ops:Array Oper}

theorem nodup_le {α:Type} [DecidableEq α]:∀ (l m:List α),l.Nodup->l ⊆ m->l.length<=m.length
 | [],m,_,_=>Nat.zero_le _
 | a::r,m,hn,hs=>by
  rw [List.nodup_cons] at hn
  have ha:a∈m:=hs (by simp)
  have:=nodup_le r (m.erase a) hn.2 (fun x hx=>(List.mem_erase_of_ne (by rintro rfl;exact hn.1 hx)).2 (hs (by simp [hx])))
  rw [List.length_erase_of_mem ha] at this
  have:=List.length_pos_of_mem ha
  simp;omega

theorem pigeon {n:Nat} {done:List Nat} (hl:n<=done.length) (hn:done.Nodup) (hlt:∀ k∈done,k<n):∀ i,i<n->i∈done:=by
 intro i hi
 by_cases h:i∈done
 ·exact h
 ·exfalso
  have h1:(i::done).Nodup:=List.nodup_cons.2 ⟨h,hn⟩
  have h2:(i::done) ⊆ List.range n:=by
   intro k hk
   rcases List.mem_cons.1 hk with rfl | hk
   ·simpa using hi
   ·simpa using hlt k hk
  have:=nodup_le _ _ h1 h2
  simp at this
  omega

theorem sched_of_lin (hb:∀ (i:Nat) (o:Oper),ops[i]?=some o->∀ e∈o.after,Region.binds .any e=true->e.on<i):∀ (fuel t:Nat) (listed:Array Bool) (done:List Nat),listed.size=ops.size->(∀ k,k<ops.size->listed.getD k true=decide (k∈done)) ->
  done.Nodup->(∀ k∈done,k<ops.size)->fuel+done.length=ops.size->Sched ops done (Region.linearise.go .any ops fuel t listed [])
 | 0,t,listed,done,hs,hl,hn,hlt,hf=>by
  simp only [Region.linearise.go,List.reverse_nil]
  exact .nil (pigeon (by omega) hn hlt)
 | fuel+1,t,listed,done,hs,hl,hn,hlt,hf=>by
  simp only [Region.linearise.go]
  change Sched ops done (match (Region.ready .any ops listed)[t % (Region.ready .any ops listed).length]? with
   | some i=>Region.linearise.go .any ops fuel (t / (Region.ready .any ops listed).length) (listed.setIfInBounds i true) [i]
   | none=>[].reverse)
  have hget:∀ k,k<ops.size->listed.getD k false=decide (k∈done):=fun k hk=>by
   rw [<- hl k hk]
   have:k<listed.size:=by omega
   simp [Array.getD,this]
  -- something is ready
  have hex:∃ i,i∈Region.ready .any ops listed:=by
   have:∃ i,i<ops.size/\i ∉ done:=by
    apply Classical.byContradiction
    intro h
    have h':∀ i,i<ops.size->i∈done:=fun i hi=>Classical.byContradiction fun hd=>h ⟨i,hi,hd⟩
    have h2:List.range ops.size ⊆ done:=fun k hk=>h' k (by simpa using hk)
    have:=nodup_le _ _ List.nodup_range h2
    simp at this
    omega
   -- the first that is not listed
   have hmin:∃ i,i<ops.size/\i ∉ done/\∀ j,j<i->j∈done:=by
    obtain ⟨i,hi,hd⟩:=this
    induction i using Nat.strongRecOn with
    | ind i ih =>
     by_cases h:∀ j,j<i->j∈done
     ·exact ⟨i,hi,hd,h⟩
     ·simp only [Classical.not_forall] at h
      obtain ⟨j,hj,hjd⟩:=h
      exact ih j hj (by omega) hjd
   obtain ⟨i,hi,hd,hj⟩:=hmin
   refine ⟨i,mem_ready.2 ⟨by rw [hl i hi];simpa using hd,ops[i],by simp [hi],fun e he hbd=>?_⟩⟩
   have hlt:=hb i ops[i] (by simp [hi]) e he hbd
   rw [hget e.on (by omega)]
   simpa using hj e.on hlt
  cases hi:(Region.ready .any ops listed)[t % (Region.ready .any ops listed).length]? with
  | none =>
   exfalso
   obtain ⟨i,hmem⟩:=hex
   have hpos:0<(Region.ready .any ops listed).length:=List.length_pos_of_mem hmem
   have hlt:=Nat.mod_lt t hpos
   rw [List.getElem?_eq_getElem hlt] at hi
   cases hi
  | some i =>
   simp only []
   have hmem:=List.mem_of_getElem? hi
   obtain ⟨h0,o,ho,he⟩:=mem_ready.1 hmem
   have hlt':i<ops.size:=(Array.getElem?_eq_some_iff.1 ho).1
   have hd:i ∉ done:=by rw [hl i hlt'] at h0;simpa using h0
   rw [linearise_go_acc,List.reverse_singleton,List.singleton_append]
   refine .cons ho hd (fun e hem hbd=>?_) (sched_of_lin hb fuel _ _ (i::done) (by simp [hs]) (fun k hk=>?_) (List.nodup_cons.2 ⟨hd,hn⟩) (fun k hk=>?_) (by simp;omega))
   ·have h1:=he e hem hbd
    have h2:=hb i o ho e hem hbd
    rw [hget e.on (by omega)] at h1
    simpa using h1
   ·by_cases hki:k=i
    ·subst hki
     have:k<listed.size:=by omega
     simp [Array.getD,this]
    ·have h1:=hl k hk
     rw [getD_set_ne true (fun e=>hki e.symm),h1]
     simp [hki]
   ·rcases List.mem_cons.1 hk with rfl | hk
    ·exact hlt'
    ·exact hlt k hk


def beforeOne (acc:Array Nat) (o:Oper):Nat:=o.after.foldl (fun s e=>if Region.binds .any e then s ||| 2 ^ e.on ||| acc.getD e.on 0 else s) 0

theorem beforeOne_bit (acc:Array Nat) (o:Oper) (i:Nat) (h:(beforeOne acc o).testBit i=true):∃ e∈o.after,Region.binds .any e=true/\(i=e.on∨(acc.getD e.on 0).testBit i=true):=by
 unfold beforeOne at h
 rw [<- Array.foldl_toList] at h
 have key:∀ (l:List Edge) (s:Nat),(l.foldl (fun s e=>if Region.binds .any e then s ||| 2 ^ e.on ||| acc.getD e.on 0 else s) s).testBit i=true->s.testBit i=true∨∃ e∈l,Region.binds .any e=true/\(i=e.on∨(acc.getD e.on 0).testBit i=true):=by
  intro l
  induction l with
  | nil=>exact fun s h=>.inl h
  | cons e r ih =>
   intro s h
   rw [List.foldl_cons] at h
   rcases ih _ h with h | ⟨e',he',hb,h⟩
   ·split at h
    ·rename_i hb
     rw [Nat.testBit_or,Nat.testBit_or,Nat.testBit_two_pow] at h
     simp only [Bool.or_eq_true,decide_eq_true_eq] at h
     rcases h with (h | h) | h
     ·exact .inl h
     ·exact .inr ⟨e,by simp,hb,.inl h.symm⟩
     ·exact .inr ⟨e,by simp,hb,.inr h⟩
    ·exact .inl h
   ·exact .inr ⟨e',by simp [he'],hb,h⟩
 rcases key o.after.toList 0 h with h | ⟨e,he,hb,h⟩
 ·simp at h
 ·exact ⟨e,by simpa using he,hb,h⟩

theorem before_bit {i j:Nat} (h:((Region.before ops).getD j 0).testBit i=true):∃ o,ops[j]?=some o/\∃ e∈o.after,Region.binds .any e=true/\(i=e.on∨(((Region.before ops).getD e.on 0).testBit i=true)):=by
 have key:∀ (l:List Oper) (acc:Array Nat),∃t:List Nat,(l.foldl (fun acc o=>acc.push (beforeOne acc o)) acc).toList=acc.toList++t/\t.length=l.length /\
   ∀ (k:Nat) (o:Oper),l[k]?=some o->∃ pre:Array Nat,t[k]?=some (beforeOne pre o)/\pre.toList=(acc.toList++t).take (acc.size+k):=by
  intro l
  induction l with
  | nil=>exact fun acc=>⟨[],by simp,rfl,by simp⟩
  | cons o r ih =>
   intro acc
   obtain ⟨t,h1,h2,h3⟩:=ih (acc.push (beforeOne acc o))
   refine ⟨beforeOne acc o::t,by rw [List.foldl_cons,h1];simp,by simp [h2],fun k o' hk=>?_⟩
   cases k with
   | zero =>
    simp at hk;subst hk
    exact ⟨acc,rfl,by rw [Nat.add_zero,List.take_left' (by simp)]⟩
   | succ k =>
    obtain ⟨pre,p1,p2⟩:=h3 k o' (by simpa using hk)
    refine ⟨pre,by simpa using p1,?_⟩
    rw [p2]
    simp [Nat.add_assoc,Nat.add_comm 1 k]
 obtain ⟨t,h1,h2,h3⟩:=key ops.toList #[]
 have hb:(Region.before ops).toList=t:=by
  have:Region.before ops=ops.toList.foldl (fun acc o=>acc.push (beforeOne acc o)) #[]:=by
   unfold Region.before
   rw [<- Array.foldl_toList];rfl
  rw [this,h1];simp
 have hj:j<t.length:=by
  rcases Nat.lt_or_ge j t.length with h' | h'
  ·exact h'
  ·exfalso
   have:(Region.before ops).getD j 0=0:=by
    rw [Array.getD_eq_getD_getElem?,<- Array.getElem?_toList,hb,List.getElem?_eq_none h'];rfl
   rw [this] at h;simp at h
 have hj':j<ops.size:=by rw [h2] at hj;simpa using hj
 obtain ⟨pre,p1,p2⟩:=h3 j ops[j] (by simp [hj'])
 have hval:(Region.before ops).getD j 0=beforeOne pre ops[j]:=by
  rw [Array.getD_eq_getD_getElem?,<- Array.getElem?_toList,hb,p1];rfl
 rw [hval] at h
 obtain ⟨e,he,hbd,hor⟩:=beforeOne_bit pre _ i h
 refine ⟨ops[j],by simp [hj'],e,he,hbd,?_⟩
 rcases hor with hor | hor
 ·exact .inl hor
 ·right
  have h4:pre.getD e.on 0=(Region.before ops).getD e.on 0∨pre.getD e.on 0=0:=by
   simp only [Array.getD_eq_getD_getElem?,<- Array.getElem?_toList,p2,hb]
   rw [List.getElem?_take]
   split
   ·left;simp
   ·right;rfl
  rcases h4 with h4 | h4
  ·rw [<- h4];exact hor
  ·rw [h4] at hor;simp at hor

theorem sure_comm (b:Array Nat) (i j:Nat):sure b i j=sure b j i:=by unfold sure;rw [Nat.max_comm,Nat.min_comm]
theorem sure_lt {b:Array Nat} {i j:Nat} (h:i<j):sure b i j=(b.getD j 0).testBit i:=by
 unfold sure;rw [Nat.max_eq_right (by omega),Nat.min_eq_left (by omega)]

structure Done (ops:Array Oper) (done:List Nat):Prop where
 nodup:done.Nodup
 lt:∀ k∈done,k<ops.size
 down:∀ k∈done,∀ i,((Region.before ops).getD k 0).testBit i=true->i∈done
 desc:∀ i rest pre,done=pre++i::rest->∀ k∈rest,sure (Region.before ops) i k=true->k<i

theorem ready_down (hb:∀ (i:Nat) (o:Oper),ops[i]?=some o->∀ e∈o.after,Region.binds .any e=true->e.on<i) {done:List Nat} (hd:Done ops done) {k:Nat} {o:Oper} (ho:ops[k]?=some o) (he:∀ e∈o.after,Region.binds .any e=true->e.on∈done) {i:Nat}
  (h:((Region.before ops).getD k 0).testBit i=true):i∈done:=by
 obtain ⟨o',ho',e,hem,hbd,hor⟩:=before_bit h
 rw [ho] at ho';cases ho'
 have:=he e hem hbd
 rcases hor with rfl | hor
 ·exact this
 ·exact hd.down _ this i hor

theorem Done.step (hb:∀ (i:Nat) (o:Oper),ops[i]?=some o->∀ e∈o.after,Region.binds .any e=true->e.on<i) {done:List Nat} (hd:Done ops done) {k:Nat} {o:Oper} (ho:ops[k]?=some o) (hk:k ∉ done) (he:∀ e∈o.after,Region.binds .any e=true->e.on∈done):Done ops (k::done):=by
 refine ⟨List.nodup_cons.2 ⟨hk,hd.nodup⟩,fun i hi=>?_,fun j hj i hi=>?_,fun i rest pre e j hj hs=>?_⟩
 ·rcases List.mem_cons.1 hi with rfl | hi
  ·exact (Array.getElem?_eq_some_iff.1 ho).1
  ·exact hd.lt i hi
 ·rcases List.mem_cons.1 hj with rfl | hj
  ·exact List.mem_cons_of_mem _ (ready_down hb hd ho he hi)
  ·exact List.mem_cons_of_mem _ (hd.down j hj i hi)
 ·cases pre with
  | nil =>
   simp only [List.nil_append,List.cons.injEq] at e
   obtain ⟨rfl,rfl⟩:=e
   rcases Nat.lt_trichotomy j k with h | h | h
   ·exact h
   ·subst h;exact absurd hj hk
   ·rw [sure_lt h] at hs
    exact absurd (hd.down j hj k hs) hk
  | cons p pre =>
   simp only [List.cons_append,List.cons.injEq] at e
   exact hd.desc i rest pre e.2 j hj hs

theorem find_top {done:List Nat} (hd:∀ i rest pre,done=pre++i::rest->∀ k∈rest,sure (Region.before ops) i k=true->k<i) {p:Nat->Bool} (hp:∀ i k,p i=true->p k=true->i≠k->sure (Region.before ops) i k=true) {i:Nat} (h:done.find? p=some i) (hn:done.Nodup):i∈done/\p i=true/\∀ k∈done,p k=true->k<=i:=by
 induction done with
 | nil=>cases h
 | cons j r ih =>
  rw [List.find?_cons] at h
  split at h
  ·rename_i hpj
   cases h
   refine ⟨by simp,hpj,fun k hk hpk=>?_⟩
   rcases List.mem_cons.1 hk with rfl | hk
   ·exact Nat.le_refl _
   ·have hne:i≠k:=fun e=>(List.nodup_cons.1 hn).1 (e ▸ hk)
    exact Nat.le_of_lt (hd i r [] rfl k hk (hp i k hpj hpk hne))
  ·rename_i hpj
   obtain ⟨h1,h2,h3⟩:=ih (fun i rest pre e=>hd i rest (j::pre) (by simp [e])) h (List.nodup_cons.1 hn).2
   refine ⟨List.mem_cons_of_mem _ h1,h2,fun k hk hpk=>?_⟩
   rcases List.mem_cons.1 hk with rfl | hk
   ·rw [hpk] at hpj;cases hpj
   ·exact h3 k hk hpk

theorem find_eq {l1 l2:List Nat} (h1:∀ i rest pre,l1=pre++i::rest->∀ k∈rest,sure (Region.before ops) i k=true->k<i) (n1:l1.Nodup) (h2:∀ i rest pre,l2=pre++i::rest->∀ k∈rest,sure (Region.before ops) i k=true->k<i) (n2:l2.Nodup)
  {p:Nat->Bool} (hp:∀ i k,p i=true->p k=true->i≠k->sure (Region.before ops) i k=true) (hm:∀ k,p k=true->(k∈l1↔k∈l2)):l1.find? p=l2.find? p:=by
 cases e1:l1.find? p with
 | none =>
  symm
  rw [List.find?_eq_none] at e1 ⊢
  intro k hk hpk
  exact e1 k ((hm k hpk).2 hk) hpk
 | some i =>
  obtain ⟨a1,a2,a3⟩:=find_top h1 hp e1 n1
  cases e2:l2.find? p with
  | none =>
   rw [List.find?_eq_none] at e2
   exact absurd a2 (e2 i ((hm i a2).1 a1))
  | some j =>
   obtain ⟨b1,b2,b3⟩:=find_top h2 hp e2 n2
   have:=a3 j ((hm j b2).2 b1) b2
   have:=b3 i ((hm i a2).1 a1) a2
   congr 1;omega

def ahead:Nat->List Nat
 | 0=>[]
 | n+1=>n::ahead n
theorem mem_ahead {n k:Nat}:k∈ahead n↔k<n:=by
 induction n with
 | zero=>simp [ahead]
 | succ n ih=>simp only [ahead,List.mem_cons,ih];omega
theorem ahead_nodup:∀ n,(ahead n).Nodup
 | 0=>List.nodup_nil
 | n+1=>List.nodup_cons.2 ⟨fun h=>by have:=mem_ahead.1 h;omega,ahead_nodup n⟩
theorem ahead_desc (b:Array Nat):∀ n i rest pre,ahead n=pre++i::rest->∀ k∈rest,sure b i k=true->k<i
 | 0,i,rest,pre,e,k,hk,_=>by cases pre<;>cases e
 | n+1,i,rest,[],e,k,hk,_=>by
  simp only [ahead,List.nil_append,List.cons.injEq] at e
  obtain ⟨rfl,rfl⟩:=e
  exact mem_ahead.1 hk
 | n+1,i,rest,p::pre,e,k,hk,hs=>by
  simp only [ahead,List.cons_append,List.cons.injEq] at e
  exact ahead_desc b n i rest pre e.2 k hk hs
end
end Go.AM
namespace Go.AM

theorem world_heap {P:Program} {C:Ctx} {H:Heap} (hH:HR P C H) {w:World} (hw:w.heap=C.w.heap) (env:Env C.w w):HR P { C with w:=w } H/\Nx C { C with w:=w }:=by
 have hc:∀ a,w.cell? a=C.w.cell? a:=fun a=>by simp only [World.cell?,hw]
 have N:Nx C { C with w:=w }:=by
  refine ⟨⟨fun b o h=>⟨h,hc _⟩,fun i s _ h=>.inr (.inl ⟨h,rfl⟩)⟩,Nat.le_of_eq (by simp only [hw]),fun b _ _=>by simp only [hw],fun i s h hd _=>⟨i,s,h,hd,rfl⟩,env,fun b o h=>.inl h⟩
 refine ⟨⟨fun i e h=>?_,hH.out,hH.inj,fun b o h=>by simp only [hw];exact hH.low b o h⟩,N⟩
 have:=RE_tr N.tr (hH.ent i e h) (fun _ _=>trivial) rfl rfl (fun _=>by simp only [hw]) (fun o _ h=>h)
 rwa [renE_id] at this

section
variable {callee:Callee} {P:Program} {C:Ctx} {H0 Hn:Heap} {τ0 τn:Tmps} {nt:Nat}

theorem states:∀ (is:List IOper) {τ0 τn:Tmps} {H0 Hn:Heap},aops callee is τ0 H0=some (τn,Hn)->∃ (st:Nat->Tmps × Heap) (val:Nat->AVal),st 0=(τ0,H0)/\st is.length=(τn,Hn) /\
  (∀ i u,is[i]?=some u->aval callee u (st i).1 (st i).2=some (val i,(st (i+1)).2)/\(st (i+1)).1=put u.dst (val i) (st i).1)/\∀ i,i<=is.length->(hist callee is τ0 H0)[i]?=some (st i)
 | [],τ0,τn,H0,Hn,h=>by
  simp only [aops,Option.some.injEq,Prod.mk.injEq] at h
  obtain ⟨rfl,rfl⟩:=h
  exact ⟨fun _=>(τ0,H0),fun _=>.any,rfl,rfl,by simp,fun i hi=>by simp at hi;subst hi;rfl⟩
 | o :: r,τ0,τn,H0,Hn,h=>by
  simp only [aops,Option.bind_eq_some_iff] at h
  obtain ⟨⟨v,H1⟩,hv,h⟩:=h
  obtain ⟨st,val,s1,s2,s3,s4⟩:=states r h
  refine ⟨fun i=>match i with | 0=>(τ0,H0) | i+1=>st i,fun i=>match i with | 0=>v | i+1=>val i,rfl,s2,fun i u hu=>?_,fun i hi=>?_⟩
  ·cases i with
   | zero=>simp at hu;subst hu;simp only [s1];exact ⟨hv,trivial⟩
   | succ i=>exact s3 i u (by simpa using hu)
  ·cases i with
   | zero=>rfl
   | succ i =>
    simp only [hist,hv,List.getElem?_cons_succ]
    exact s4 i (by simpa using hi)

section
variable {ops:Array Oper} {is:List IOper} {st:Nat->Tmps × Heap} {val:Nat->AVal}

def writes (is:List IOper) (d i:Nat):Bool:=(is[i]?).any fun u=>u.dst == some d
def actsAt (is:List IOper) (i:Nat):Bool:=(is[i]?).any fun u=>acts u.op

def τd (is:List IOper) (val:Nat->AVal) (τ0:Tmps):List Nat->Tmps
 | []=>τ0
 | i::r=>put ((is[i]?).bind (·.dst)) (val i) (τd is val τ0 r)

theorem lk_τd (d:Nat):∀ L:List Nat,lk d (τd is val τ0 L)=match L.find? (writes is d) with | some i=>val i | none=>lk d τ0
 | []=>rfl
 | i :: r=>by
  rw [τd,List.find?_cons]
  cases hi:is[i]? with
  | none =>
   have:writes is d i=false:=by simp [writes,hi]
   simp only [this,Option.bind_none,put]
   exact lk_τd d r
  | some u =>
   cases hd:u.dst with
   | none =>
    have:writes is d i=false:=by simp [writes,hi,hd]
    simp only [this,Option.bind_some,hd,put]
    exact lk_τd d r
   | some d' =>
    simp only [Option.bind_some,hd,put,lk]
    by_cases h:d=d'
    ·subst h
     have:writes is d i=true:=by simp [writes,hi,hd]
     simp [this]
    ·have:writes is d i=false:=by simp [writes,hi,hd];exact fun e=>h e.symm
     simp only [this,h,if_false]
     exact lk_τd d r

def Hd (is:List IOper) (st:Nat->Tmps × Heap) (H0:Heap) (L:List Nat):Heap:=match L.find? (actsAt is) with | some i=>(st (i+1)).2 | none=>H0

variable (hst:∀ i u,is[i]?=some u->aval callee u (st i).1 (st i).2=some (val i,(st (i+1)).2)/\(st (i+1)).1=put u.dst (val i) (st i).1) (h0:st 0=(τ0,H0))
include hst h0

theorem st_tmps:∀ i,i<=is.length->(st i).1=τd is val τ0 (ahead i)
 | 0,_=>by rw [h0];rfl
 | i+1,hi=>by
  have hlt:i<is.length:=by omega
  have hu:=List.getElem?_eq_getElem hlt
  rw [(hst i _ hu).2,st_tmps i (by omega),ahead,τd,hu]
  rfl
theorem st_heap:∀ i,i<=is.length->(st i).2=Hd is st H0 (ahead i)
 | 0,_=>by rw [h0];rfl
 | i + 1,hi=>by
  have hlt:i<is.length:=by omega
  have hu:=List.getElem?_eq_getElem hlt
  unfold Hd
  rw [ahead,List.find?_cons]
  by_cases ha:acts is[i].op=true
  ·have:actsAt is i=true:=by simp [actsAt,hu,ha]
   simp [this]
  ·have ha:acts is[i].op=false:=by simpa using ha
   have:actsAt is i=false:=by simp [actsAt,hu,ha]
   simp only [this]
   rw [aval_quiet ha (hst i _ hu).1]
   exact st_heap i (by omega)

variable (hb:∀ (i:Nat) (o:Oper),ops[i]?=some o->∀ e∈o.after,Region.binds .any e=true->e.on<i) (hlen:is.length=ops.size)
 (hpair:∀ i j u v,i<j->is[i]?=some u->is[j]?=some v->pairOk (Region.before ops) i j u v=true)
 (hcalm:∀ i q u v,is[i]?=some u->is[q]?=some v->i≠q->looks u.op=true->acts v.op=true->sure (Region.before ops) i q=false->(∃ Ha,aval callee u (st i).1 (st q).2=some (val i,Ha))/\∃ Hb,aval callee u (st i).1 (st (q+1)).2=some (val i,Hb))
include hb hlen hpair hcalm

theorem sched_step {done:List Nat} {i:Nat} {o:Oper} {u:IOper} (hd:Done ops done) (ho:ops[i]?=some o) (hi:i ∉ done) (he:∀ e∈o.after,Region.binds .any e=true->e.on∈done) (hu:is[i]?=some u) :
  aval callee u (τd is val τ0 done) (Hd is st H0 done)=some (val i,Hd is st H0 (i::done)):=by
 have hin:i<is.length:=(List.getElem?_eq_some_iff.1 hu).1
 -- of an operation that is surely in order with this one
 have mem:∀ k,k≠i->sure (Region.before ops) k i=true->(k∈done↔k∈ahead i):=by
  intro k hk hs
  rw [mem_ahead]
  rcases Nat.lt_or_ge k i with h | h
  ·rw [sure_lt h] at hs
   exact ⟨fun _=>h,fun _=>ready_down hb hd ho he hs⟩
  ·have h:i<k:=by omega
   rw [sure_comm,sure_lt h] at hs
   exact ⟨fun hkd=>absurd (hd.down k hkd i hs) hi,fun h'=>by omega⟩
 have writer:∀ d k,writes is d k=true->∃ v,is[k]?=some v/\v.dst=some d:=by
  intro d k h
  unfold writes at h
  cases hk:is[k]? with
  | none=>rw [hk] at h;simp at h
  | some v=>rw [hk] at h;exact ⟨v,rfl,by simpa using h⟩
 have actor:∀ k,actsAt is k=true->∃ v,is[k]?=some v/\acts v.op=true:=by
  intro k h
  unfold actsAt at h
  cases hk:is[k]? with
  | none=>rw [hk] at h;simp at h
  | some v=>rw [hk] at h;exact ⟨v,rfl,by simpa using h⟩
 have sw:∀ d k q,writes is d k=true->writes is d q=true->k≠q->sure (Region.before ops) k q=true:=by
  intro d k q hk hq hne
  obtain ⟨x,hx,hxd⟩:=writer d k hk
  obtain ⟨y,hy,hyd⟩:=writer d q hq
  rcases Nat.lt_or_gt_of_ne hne with h | h
  ·have:=hpair k q x y h hx hy
   simpa [pairOk,apart,hxd,hyd] using this
  ·have:=hpair q k y x h hy hx
   rw [sure_comm]
   simpa [pairOk,apart,hxd,hyd] using this
 have sa:∀ k q,actsAt is k=true->actsAt is q=true->k≠q->sure (Region.before ops) k q=true:=by
  intro k q hk hq hne
  obtain ⟨x,hx,hxa⟩:=actor k hk
  obtain ⟨y,hy,hya⟩:=actor q hq
  rcases Nat.lt_or_gt_of_ne hne with h | h
  ·have:=hpair k q x y h hx hy
   simpa [pairOk,hxa,hya] using this
  ·have:=hpair q k y x h hy hx
   rw [sure_comm]
   simpa [pairOk,hxa,hya] using this
 have hread:∀ t∈readsU u,lk t (τd is val τ0 done)=lk t (st i).1:=by
  intro t ht
  rw [st_tmps hst h0 i (by omega),lk_τd,lk_τd]
  rw [find_eq hd.desc hd.nodup (ahead_desc _ i) (ahead_nodup i) (fun k q hk hq hne=>sw t k q hk hq hne) (fun k hk=>?_)]
  by_cases hki:k=i
  ·subst hki
   exact ⟨fun h=>absurd h hi,fun h=>absurd (mem_ahead.1 h) (Nat.lt_irrefl _)⟩
  ·refine mem k hki ?_
   obtain ⟨x,hx,hxd⟩:=writer t k hk
   rcases Nat.lt_or_gt_of_ne hki with h | h
   ·have:=hpair k i x u h hx hu
    simpa [pairOk,apart,hxd,ht] using this
   ·have:=hpair i k u x h hu hx
    rw [sure_comm]
    simpa [pairOk,apart,hxd,ht] using this
 rw [aval_congr hread]
 obtain ⟨hval,_⟩:=hst i u hu
 by_cases ha:acts u.op=true
 ·have hai:actsAt is i=true:=by simp [actsAt,hu,ha]
  have hhd:Hd is st H0 done=(st i).2:=by
   rw [st_heap hst h0 i (by omega)]
   unfold Hd
   rw [find_eq hd.desc hd.nodup (ahead_desc _ i) (ahead_nodup i) sa (fun k hk=>?_)]
   by_cases hki:k=i
   ·subst hki
    exact ⟨fun h=>absurd h hi,fun h=>absurd (mem_ahead.1 h) (Nat.lt_irrefl _)⟩
   ·exact mem k hki (sa k i hk hai hki)
  rw [hhd,hval]
  unfold Hd
  rw [List.find?_cons,hai]
 ·have ha : acts u.op=false:=by simpa using ha
  have hai:actsAt is i=false:=by simp [actsAt,hu,ha]
  have hsame:Hd is st H0 (i::done)=Hd is st H0 done:=by unfold Hd;rw [List.find?_cons,hai]
  rw [hsame]
  by_cases hl:looks u.op=true
  ·have fin:∀ {G:Heap} {G':Heap},aval callee u (st i).1 G=some (val i,G')->aval callee u (st i).1 G=some (val i,G):=fun {G G'} h=>by
    have:=aval_quiet ha h
    subst this;exact h
   by_cases hall:∀ k,actsAt is k=true->(k∈done↔k∈ahead i)
   ·have hhd:Hd is st H0 done=(st i).2:=by
     rw [st_heap hst h0 i (by omega)]
     unfold Hd
     rw [find_eq hd.desc hd.nodup (ahead_desc _ i) (ahead_nodup i) sa hall]
    rw [hhd]
    exact fin hval
   ·by_cases hq:∃ q,actsAt is q=true/\q∈done/\i<q
    ·-- more is done than in the text
     obtain ⟨q,hqa,hqd,hiq⟩:=hq
     cases hf:done.find? (actsAt is) with
     | none=>exact absurd hqa (by rw [List.find?_eq_none] at hf;exact hf q hqd)
     | some q0 =>
      obtain ⟨f1,f2,f3⟩:=find_top hd.desc sa hf hd.nodup
      have hq0:i<q0:=Nat.lt_of_lt_of_le hiq (f3 q hqd hqa)
      obtain ⟨y,hy,hya⟩:=actor q0 f2
      have hns:sure (Region.before ops) i q0=false:=by
       cases hs:sure (Region.before ops) i q0 with
       | false=>rfl
       | true=>rw [sure_lt hq0] at hs;exact absurd (hd.down q0 f1 i hs) hi
      obtain ⟨_,Hb,hB⟩:=hcalm i q0 u y hu hy (by omega) hl hya hns
      have:Hd is st H0 done=(st (q0+1)).2:=by unfold Hd;rw [hf]
      rw [this]
      exact fin hB
    ·-- less is done
     have hlow:∀ k,actsAt is k=true->k∈done->k<i:=by
      intro k hk hkd
      rcases Nat.lt_trichotomy k i with h | h | h
      ·exact h
      ·subst h;exact absurd hkd hi
      ·exact absurd ⟨k,hk,hkd,h⟩ hq
     have hex:∃ e,actsAt is e=true/\e<i/\e ∉ done:=by
      apply Classical.byContradiction
      intro hno
      apply hall
      intro k hk
      rw [mem_ahead]
      exact ⟨hlow k hk,fun h=>Classical.byContradiction fun hn=>hno ⟨k,hk,h,hn⟩⟩
     have hmin:∃ e,actsAt is e=true/\e<i/\e ∉ done/\∀ k,actsAt is k=true->k<e->k∈done:=by
      obtain ⟨e,h1,h2,h3⟩:=hex
      induction e using Nat.strongRecOn with
      | ind e ih =>
       by_cases h:∀ k,actsAt is k=true->k<e->k∈done
       ·exact ⟨e,h1,h2,h3,h⟩
       ·simp only [Classical.not_forall] at h
        obtain ⟨k,hk1,hk2,hk3⟩:=h
        exact ih k hk2 hk1 (by omega) hk3
     obtain ⟨e,e1,e2,e3,e4⟩:=hmin
     obtain ⟨y,hy,hya⟩:=actor e e1
     have hns:sure (Region.before ops) i e=false:=by
      cases hs:sure (Region.before ops) i e with
      | false=>rfl
      | true =>
       rw [sure_comm,sure_lt e2] at hs
       exact absurd (ready_down hb hd ho he hs) e3
     obtain ⟨⟨Ha,hA⟩,_⟩:=hcalm i e u y hu hy (by omega) hl hya hns
     have hhd:Hd is st H0 done=(st e).2:=by
      rw [st_heap hst h0 e (by omega)]
      unfold Hd
      rw [find_eq hd.desc hd.nodup (ahead_desc _ e) (ahead_nodup e) sa (fun k hk=>?_)]
      rw [mem_ahead]
      constructor
      ·intro hkd
       rcases Nat.lt_trichotomy k e with h | h | h
       ·exact h
       ·subst h;exact absurd hkd e3
       ·have hs:=sa e k e1 hk (by omega)
        rw [sure_lt h] at hs
        exact absurd (hd.down k hkd e hs) e3
      ·exact e4 k hk
     rw [hhd]
     exact fin hA
  ·exact aval_pure ha (by simpa using hl) hval _

theorem sim_sched (hc:CalleeOk P callee) (hcomp:∀ (i:Nat) (o:Oper) (u:IOper),ops[i]?=some o->is[i]?=some u->compOper P ops nt o=some u) {b:Frame} {k:List Go.Item} {cs:List Frame}:∀ {done l:List Nat},Sched ops done l->∀ {a:Act} {C:Ctx},Done ops done ->
  HR P C (Hd is st H0 done)->RT C (τd is val τ0 done) a.tmps->nt<=a.tmps.size ->
  ∃ tmps' C' all,(∀ i,i<ops.size->i∈all)/\Done ops all/\HR P C' (Hd is st H0 all)/\Nx C C'/\RT C' (τd is val τ0 all) tmps'/\tmps'.size=a.tmps.size /\
   Steps P (lone (b.atR a (.inRegion ops l::k)) cs C.w) (lone (b.atR { tmps:=tmps',defers:=a.defers } k) cs C'.w):=by
 intro done l hs
 induction hs with
 | @nil done hall =>
  intro a C hd hH hx hn
  exact ⟨a.tmps,C,done,hall,hd,hH,Nx.refl C,hx,rfl,.one stepR_region_end⟩
 | @cons done i l o ho hi he hs ih =>
  intro a C hd hH hx hn
  have hil:i<is.length:=by rw [hlen];exact (Array.getElem?_eq_some_iff.1 ho).1
  have hu:=List.getElem?_eq_getElem hil
  have hv:=sched_step hst h0 hb hlen hpair hcalm hd ho hi he hu
  have hcu:=hcomp i o _ ho hu
  obtain ⟨x,C1,k1,k2,k3,k4⟩:=sim_step (b:=b) (k:=k) (cs:=cs) (rest:=l) hc hH ho hcu hx hn hv
  obtain ⟨_,_,h3,h4⟩:=compOper_spec hcu
  have hx1:=(hx.nx k2).put (dst:=o.dst) k3 (fun d hd=>Nat.lt_of_lt_of_le (h4 d hd) hn)
  have hτ:put o.dst (val i) (τd is val τ0 done)=τd is val τ0 (i::done):=by
   rw [τd,hu,Option.bind_some,h3]
  rw [hτ] at hx1
  obtain ⟨tmps',C',all,j1,j2,j3,j4,j5,j6,j7⟩:=ih (a:=a.put o.dst x) (C:=C1) (hd.step hb ho hi he) k1 hx1 (by rw [Act.put_size];exact hn)
  rw [Act.put_defers'] at j7
  exact ⟨tmps',C',all,j1,j2,j3,k2.trans j4,j5,by rw [j6,Act.put_size],k4.trans j7⟩
end
end
end Go.AM
namespace Go.AM
section
set_option linter.unusedSectionVars false
variable [DecidableEq AVal] {callee:Callee} {P:Program} {C:Ctx} {H H':Heap} {τ τ':Tmps} {nt:Nat}

theorem pairsOk_spec {b:Array Nat}:∀ {l:List Placed},pairsOk b l=true->l.Pairwise fun p q=>pairOk b p.2 q.2 p.1.2 q.1.2=true
 | [],_=>.nil
 | p::r,h=>by
  rw [pairsOk,Bool.and_eq_true] at h
  refine .cons (fun q hq=>?_) (pairsOk_spec h.2)
  exact List.all_eq_true.1 h.1 q hq

theorem chk_mem {b:Array Nat} {l:List Placed} {p q:Placed} (hp:p∈l) (hq:q∈l) (hl:looks p.1.2.op=true) (ha:acts q.1.2.op=true) (hne:p.2≠q.2) (hs:sure b p.2 q.2=false):(p.2,q.2)∈chkOf b l:=by
 unfold chkOf
 rw [List.mem_flatMap]
 refine ⟨p,hp,?_⟩
 rw [if_pos hl,List.mem_filterMap]
 exact ⟨q,hq,by simp [ha,hne,hs]⟩

theorem zip_mem {ops:Array Oper} {is:List IOper} {i:Nat} {o:Oper} {u:IOper} (ho:ops[i]?=some o) (hu:is[i]?=some u):((ops.toList.zip is).zipIdx)[i]?=some ((o,u),i):=by
 rw [List.getElem?_zipIdx]
 have:(ops.toList.zip is)[i]?=some (o,u):=by rw [List.getElem?_zip_eq_some];exact ⟨by simpa using ho,hu⟩
 rw [this];simp

theorem sim_draw {b:Frame} {a:Act} {ops:Array Oper} {k:List Go.Item} {cs:List Frame} {id:Nat} {is:List IOper} (hmix:P.follows .mixedOrders=true) (hc:CalleeOk P callee) (hi:compOpers P ops nt ops.toList=some is) (hdr:drawOk (Region.before ops) ((ops.toList.zip is).zipIdx)=true)
  (hH:HR P C H) (hx:RT C τ a.tmps) (hn:nt<=a.tmps.size) (h:areg callee is (chkOf (Region.before ops) ((ops.toList.zip is).zipIdx)) [] τ H=some (τ',H')) :
  ∃ tmps' C',HR P C' H'/\Nx C C'/\RT C' τ' tmps'/\tmps'.size=a.tmps.size/\Steps P (lone (b.atR a (.code (.region id ops true)::k)) cs C.w) (lone (b.atR { tmps:=tmps',defers:=a.defers } k) cs C'.w):=by
 obtain ⟨hl,hs⟩:=compOpers_spec hi
 have hlen:is.length=ops.size:=by rw [hl];simp
 have hcomp:∀ (i:Nat) (o:Oper) (u:IOper),ops[i]?=some o->is[i]?=some u->compOper P ops nt o=some u:=fun i o u ho hu=>hs i o u (by simpa using ho) hu
 have hex:∀ {i:Nat} {u:IOper},is[i]?=some u->∃ o,ops[i]?=some o:=fun {i u} hu=>by
  have:i<ops.size:=by rw [<- hlen];exact (List.getElem?_eq_some_iff.1 hu).1
  exact ⟨ops[i],by simp [this]⟩
 rw [drawOk,Bool.and_eq_true] at hdr
 have hb:∀ (i:Nat) (o:Oper),ops[i]?=some o->∀ e∈o.after,Region.binds .any e=true->e.on<i:=by
  intro i o ho e he hbd
  have hil:i<is.length:=by rw [hlen];exact (Array.getElem?_eq_some_iff.1 ho).1
  have hz:=zip_mem ho (List.getElem?_eq_getElem hil)
  have h1:=List.all_eq_true.1 hdr.1 _ (List.mem_of_getElem? hz)
  have h2:=Array.all_eq_true_iff_forall_mem.1 h1 e he
  simp only [hbd,Bool.not_true,Bool.false_or,decide_eq_true_eq] at h2
  exact h2
 have hpair:∀ i j u v,i<j->is[i]?=some u->is[j]?=some v->pairOk (Region.before ops) i j u v=true:=by
  intro i j u v hij hu hv
  obtain ⟨o,ho⟩:=hex hu
  obtain ⟨o',ho'⟩:=hex hv
  have h1:=zip_mem ho hu
  have h2:=zip_mem ho' hv
  obtain ⟨l1,e1⟩:=List.getElem?_eq_some_iff.1 h1
  obtain ⟨l2,e2⟩:=List.getElem?_eq_some_iff.1 h2
  have:=(List.pairwise_iff_getElem.1 (pairsOk_spec hdr.2)) i j l1 l2 hij
  rw [e1,e2] at this
  exact this
 have hboth:(∀ p∈chkOf (Region.before ops) ((ops.toList.zip is).zipIdx),calm callee is (hist callee is τ H) p=true)/\aops callee is τ H=some (τ',H'):=by
  unfold areg at h
  split at h
  ·rename_i e _
   rw [e];exact ⟨by simp,h⟩
  ·simp only [List.all_nil,Bool.and_true] at h
   obtain ⟨h1,h2⟩:=Option.ite_none_right_eq_some.1 h
   exact ⟨fun p hp=>List.all_eq_true.1 h1 p hp,h2⟩
 obtain ⟨hchk,hops⟩:=hboth
 obtain ⟨st,val,s1,s2,s3,s4⟩:=states is hops
 have hcalm:∀ i q u v,is[i]?=some u->is[q]?=some v->i≠q->looks u.op=true->acts v.op=true->sure (Region.before ops) i q=false->(∃ Ha,aval callee u (st i).1 (st q).2=some (val i,Ha))/\∃ Hb,aval callee u (st i).1 (st (q+1)).2=some (val i,Hb):=by
  intro i q u v hu hv hne hlk hac hns
  obtain ⟨o,ho⟩:=hex hu
  obtain ⟨o',ho'⟩:=hex hv
  have hm:=chk_mem (b:=Region.before ops) (List.mem_of_getElem? (zip_mem ho hu)) (List.mem_of_getElem? (zip_mem ho' hv)) hlk hac hne hns
  have hcm:=hchk _ hm
  have hil:=(List.getElem?_eq_some_iff.1 hu).1
  have hql:=(List.getElem?_eq_some_iff.1 hv).1
  unfold calm at hcm
  simp only [hu,s4 i (by omega),s4 q (by omega),s4 (q+1) (by omega),(s3 i u hu).1] at hcm
  cases h1:aval callee u (st i).1 (st q).2 with
  | none=>rw [h1] at hcm;cases hcm
  | some y =>
   cases h2:aval callee u (st i).1 (st (q+1)).2 with
   | none=>rw [h1,h2] at hcm;cases hcm
   | some z =>
    rw [h1,h2] at hcm
    simp only [Bool.and_eq_true,decide_eq_true_eq] at hcm
    obtain ⟨y1,y2⟩:=y
    obtain ⟨z1,z2⟩:=z
    simp only [] at hcm
    rw [hcm.1,hcm.2] at *
    exact ⟨⟨y2,rfl⟩,z2,rfl⟩
 -- the order that is drawn
 obtain ⟨hH1,hN1⟩:=world_heap hH (w:={ C.w with drawn:=C.w.drawn+1 }) rfl ⟨rfl,rfl,rfl,fun _=>rfl⟩
 have hsched:Sched ops [] (Region.schedule (P.follows .mixedOrders) ops (C.w.tape C.w.drawn (.order b.fn id))):=by
  simp only [Region.schedule,hmix,Bool.true_or,if_true]
  exact sched_of_lin hb ops.size _ _ [] (by simp) (fun k hk=>by simp [Array.getD,hk]) List.nodup_nil (by simp) (by simp)
 have hd0:Done ops []:=⟨List.nodup_nil,by simp,by simp,fun i rest pre e=>by cases pre<;>cases e⟩
 have hh0:Hd is st H []=H:=rfl
 obtain ⟨tmps',C',all,a1,a2,a3,a4,a5,a6,a7⟩:=sim_sched s3 s1 hb hlen hpair hcalm hc hcomp (b:=b) (k:=k) (cs:=cs) hsched (a:=a) (C:={ C with w:={ C.w with drawn:=C.w.drawn+1 } }) hd0 (by rw [hh0];exact hH1) (hx.nx hN1) hn
 -- all is done: the machine's own end
 have hall:∀ p:Nat->Bool,(∀ i k,p i=true->p k=true->i≠k->sure (Region.before ops) i k=true)->all.find? p=(ahead is.length).find? p:=fun p hp =>
  find_eq a2.desc a2.nodup (ahead_desc _ _) (ahead_nodup _) hp (fun k hk=>by
   rw [mem_ahead,hlen]
   exact ⟨a2.lt k,a1 k⟩)
 have sw:∀ d k q,writes is d k=true->writes is d q=true->k≠q->sure (Region.before ops) k q=true:=by
  intro d k q hk hq hne
  unfold writes at hk hq
  cases hx:is[k]? with
  | none=>rw [hx] at hk;simp at hk
  | some x =>
   cases hy:is[q]? with
   | none=>rw [hy] at hq;simp at hq
   | some y =>
    rw [hx] at hk;rw [hy] at hq
    have hxd:x.dst=some d:=by simpa using hk
    have hyd:y.dst=some d:=by simpa using hq
    rcases Nat.lt_or_gt_of_ne hne with h | h
    ·simpa [pairOk,apart,hxd,hyd] using hpair k q x y h hx hy
    ·rw [sure_comm];simpa [pairOk,apart,hxd,hyd] using hpair q k y x h hy hx
 have sa:∀ k q,actsAt is k=true->actsAt is q=true->k≠q->sure (Region.before ops) k q=true:=by
  intro k q hk hq hne
  unfold actsAt at hk hq
  cases hx:is[k]? with
  | none=>rw [hx] at hk;simp at hk
  | some x =>
   cases hy:is[q]? with
   | none=>rw [hy] at hq;simp at hq
   | some y =>
    rw [hx] at hk;rw [hy] at hq
    have hxa:acts x.op=true:=by simpa using hk
    have hya:acts y.op=true:=by simpa using hq
    rcases Nat.lt_or_gt_of_ne hne with h | h
    ·simpa [pairOk,hxa,hya] using hpair k q x y h hx hy
    ·rw [sure_comm];simpa [pairOk,hxa,hya] using hpair q k y x h hy hx
 have e1:Hd is st H all=H':=by
  have:(st is.length).2=H':=by rw [s2]
  rw [<- this,st_heap s3 s1 is.length (Nat.le_refl _)]
  unfold Hd
  rw [hall _ sa]
 have e2:RT C' τ' tmps':=by
  intro t
  have h1:τ'=τd is val τ (ahead is.length):=by rw [<- st_tmps s3 s1 is.length (Nat.le_refl _),s2]
  rw [h1,lk_τd,<- hall _ (sw t),<- lk_τd]
  exact a5 t
 rw [e1] at a3
 exact ⟨tmps',C',a3,hN1.trans a4,e2,a6,.head stepR_region_draw a7⟩
end
end Go.AM
namespace Go.AM
section
set_option linter.unusedSectionVars false
variable {callee:Callee} {P:Program} {H0:Heap} {τ0:Tmps} {nt:Nat}


theorem alloc_free {C:Ctx} {H:Heap} (hH:HR P C H) (o:Obj) (env:Env C.w (C.w.alloc o)):HR P { C with w:=C.w.alloc o } H/\Nx C { C with w:=C.w.alloc o }:=by
 have hold:∀ b,b<C.w.heap.size->(C.w.alloc o).heap[b]?=C.w.heap[b]?:=fun b hb=>by
  show (C.w.heap.push o)[b]?=_
  rw [Array.getElem?_push,if_neg (by omega)]
 have hz:(C.w.alloc o).heap.size=C.w.heap.size+1:=World.size_alloc _ _
 have N:Nx C { C with w:=C.w.alloc o }:=by
  refine ⟨⟨fun b q h=>⟨h,?_⟩,fun i s _ h=>.inr (.inl ⟨h,rfl⟩)⟩,by simp only [hz];omega,fun b hb _=>hold b hb,fun i s h hd _=>⟨i,s,h,hd,rfl⟩,env,fun b q h=>.inl h⟩
  simp only [World.cell?,hold b (hH.low b q h)]
 refine ⟨⟨fun i e h=>?_,hH.out,hH.inj,fun b q h=>?_⟩,N⟩
 ·have h0:=hH.ent i e h
  obtain ⟨cp,hs⟩:=h0.shape
  have:=RE_tr N.tr h0 (fun _ _=>trivial) rfl rfl (fun hd=>hold _ (hH.block hs (fun e=>hd (by rw [hs,e])))) (fun o _ h=>h)
  rwa [renE_id] at this
 ·have:=hH.low b q h
  simp only [hz];omega



structure Pend (C0 C:Ctx) (β:Nat) (z:List AVal):Prop where
 base:C0.w.heap.size<=β
 lt:β<C.w.heap.size
 own:∀ i s,C.sh i=some s->s≠.dead->C.ν i≠β
 fz:∀ o,¬ C.Fz β o
 row:∃ c t,C.w.heap[β]?=some (.cells c t (0,0))/\(∀ C,RL C z c.toList)/\∀ v∈c.toList,v.oneCell'=true

theorem Pend.nx {C0 C C1:Ctx} {β:Nat} {z:List AVal} (h:Pend C0 C β z) (n:Nx C C1):Pend C0 C1 β z where
 base:=h.base
 lt:=Nat.lt_of_lt_of_le h.lt n.size
 own i s hs hd e:=by
  obtain ⟨j,u,h1,h2,h3⟩:=n.own i s hs hd (by rw [e];exact h.lt)
  exact h.own j u h1 h2 (h3.trans e)
 fz o hf:=by
  rcases n.fzg β o hf with h1 | h1 | ⟨j,u,h1,h2,h3⟩
  ·exact h.fz o h1
  ·exact absurd h.lt (Nat.not_lt.2 h1)
  ·exact h.own j u h1 h2 h3
 row:=by
  obtain ⟨c,t,h1,h2⟩:=h.row
  exact ⟨c,t,by rw [n.frame β h.lt h.own];exact h1,h2⟩

theorem Pend.commit {C0 C:Ctx} {β:Nat} {z:List AVal} {H:Heap} (h:Pend C0 C β z) (hH:HR P C H) (hN:Nx C0 C) :
  ∃ C',C'.w=C.w/\HR P C' (H++[.box z])/\Nx C0 C'/\Tr C C' id (fun _=>True)/\RV C' (.ptr H.length 0) (.pointer (some ⟨β,0,none⟩)):=by
 let C':Ctx:={ ν:=upd C.ν H.length β,sh:=upd C.sh H.length (some .box),Fz:=C.Fz,w:=C.w }
 have s1:C'.sh H.length=some .box:=upd_same _ _ _
 have s2:C'.ν H.length=β:=upd_same _ _ _
 have hne:∀ i,i≠H.length->C'.sh i=C.sh i/\C'.ν i=C.ν i:=fun i hi=>by simp only [C'];rw [upd_ne _ _ hi,upd_ne _ _ hi];exact ⟨rfl,rfl⟩
 have T:Tr C C' id (fun _=>True):=by
  refine ⟨fun b o hf=>⟨hf,rfl⟩,fun i s _ hs=>.inr (.inl ?_)⟩
  have hi:i≠H.length:=by rintro rfl;rw [hH.out _ (Nat.le_refl _)] at hs;cases hs
  simp only [id]
  rw [(hne i hi).1,(hne i hi).2]
  exact ⟨hs,rfl⟩
 obtain ⟨c,t,r1,r2,r3⟩:=h.row
 have hinj:∀ i s,i≠H.length->C'.sh i=some s->s≠.dead->C'.ν i≠β:=fun i s hi hs hd=>by
  rw [(hne i hi).1] at hs
  rw [(hne i hi).2]
  exact h.own i s hs hd
 refine ⟨C',rfl,⟨fun i e he=>?_,fun i hi=>?_,fun i j s s' hs hd hs' hd' e=>?_,fun b o hf=>hH.low b o hf⟩,⟨?_,hN.size,?_,?_,hN.env,hN.fzg⟩,T,_,rfl,.inr ⟨s1,by rw [s2]⟩⟩
 ·by_cases hi:i=H.length
  ·subst hi
   simp at he
   subst he
   exact ⟨s1,c,t,by rw [s2];exact r1,r2 _,r3,fun o=>by rw [s2];exact h.fz o⟩
  ·have hil:i<H.length:=by
    have:=(List.getElem?_eq_some_iff.1 he).1
    simp at this
    omega
   rw [List.getElem?_append_left hil] at he
   have h0:=hH.ent i e he
   have h2:=RE_tr T h0 (fun _ _=>trivial) (hne i hi).1 (hne i hi).2 (fun _=>rfl) (fun o _ hf=>hf)
   rwa [renE_id] at h2
 ·simp at hi
  rw [(hne i (by omega)).1]
  exact hH.out i (by omega)
 ·by_cases h1:i=H.length<;>by_cases h2:j=H.length
  ·rw [h1,h2]
  ·subst h1
   rw [s2] at e
   exact absurd e.symm (hinj j s' h2 hs' hd')
  ·subst h2
   rw [s2] at e
   exact absurd e (hinj i s h1 hs hd)
  ·rw [(hne i h1).1] at hs
   rw [(hne j h2).1] at hs'
   rw [(hne i h1).2,(hne j h2).2] at e
   exact hH.inj i j s s' hs hd hs' hd' e
 ·have:=hN.tr.comp T (fun _ _=>trivial)
  simpa using this
 ·intro b hb hn
  exact hN.frame b hb hn
 ·intro i s hs hd hlt
  by_cases hi:i=H.length
  ·subst hi
   rw [s2] at hlt
   exact absurd hlt (Nat.not_lt.2 h.base)
  ·rw [(hne i hi).1] at hs
   rw [(hne i hi).2] at hlt ⊢
   exact hN.own i s hs hd hlt

section
variable {ops ops2:Array Oper} {is:List IOper} {st:Nat->Tmps × Heap} {val:Nat->AVal}
variable (hst:∀ i u,is[i]?=some u->aval callee u (st i).1 (st i).2=some (val i,(st (i+1)).2)/\(st (i+1)).1=put u.dst (val i) (st i).1) (h0:st 0=(τ0,H0))
variable (hb:∀ (i:Nat) (o:Oper),ops2[i]?=some o->∀ e∈o.after,Region.binds .any e=true->e.on<i) (hlen:is.length=ops2.size)
 (hpair:∀ i j u v,i<j->is[i]?=some u->is[j]?=some v->pairOk (Region.before ops2) i j u v=true)
 (hcalm:∀ i q u v,is[i]?=some u->is[q]?=some v->i≠q->looks u.op=true->acts v.op=true->sure (Region.before ops2) i q=false->(∃ Ha,aval callee u (st i).1 (st q).2=some (val i,Ha))/\∃ Hb,aval callee u (st i).1 (st (q+1)).2=some (val i,Hb))
 (hb1:∀ (i:Nat) (o:Oper),ops[i]?=some o->∀ e∈o.after,Region.binds .any e=true->e.on<i)
 {i0 d0:Nat} {z:List AVal} {js:List Nat} (hsize:ops2.size=ops.size) (hsame:∀ k,k≠i0->ops2[k]?=ops[k]?)
 (hi0:is[i0]?=some ⟨none,some d0,.alloc z⟩)
 (hafter:∀ o2,ops2[i0]?=some o2->∀ e∈o2.after,Region.binds .any e=true->e.on∈js∨∃ o,ops[i0]?=some o/\∃ e'∈o.after,Region.binds .any e'=true/\e'.on=e.on)
 (hjs:∀ k o,ops[k]?=some o->(∃ e∈o.after,Region.binds .any e=true/\e.on=i0)->∀ j∈js,((Region.before ops).getD k 0).testBit j=true)
 (hjl:∀ j∈js,j<i0) (htake:∀ k u,k<i0->is[k]?=some u->d0 ∉ readsU u/\u.dst≠some d0)
 {t0:TypeId} (hop:∃ o,ops[i0]?=some o/\o.op=.alloc t0/\o.guard=none/\o.dst=some d0) (hz:zeroOf P t0=some z)

def StA (P:Program) (ops ops2:Array Oper) (is:List IOper) (st:Nat->Tmps × Heap) (val:Nat->AVal) (τ0:Tmps) (H0:Heap) (C0 C:Ctx) (dv done:List Nat) (tmps:Array Value):Prop :=
 Done ops2 dv/\Done ops done/\Nx C0 C/\HR P C (Hd is st H0 dv)/\(∀ k,k∈done↔k∈dv)/\RT C (τd is val τ0 dv) tmps
def StB (P:Program) (ops ops2:Array Oper) (is:List IOper) (st:Nat->Tmps × Heap) (val:Nat->AVal) (τ0:Tmps) (H0:Heap) (i0 d0:Nat) (z:List AVal) (C0 C:Ctx) (dv done:List Nat) (tmps:Array Value):Prop :=
 Done ops2 dv/\Done ops done/\Nx C0 C/\HR P C (Hd is st H0 dv)/\i0∈done/\i0 ∉ dv/\(∀ k,k≠i0->(k∈done↔k∈dv)) /\
  (∀ o,ops[i0]?=some o->∀ e∈o.after,Region.binds .any e=true->e.on∈dv)/\RT C ((d0,.any)::τd is val τ0 dv) tmps/\∃ β,Pend C0 C β z/\tmps.getD d0 undef=.pointer (some ⟨β,0,none⟩)

include hst h0 hb hlen hpair hcalm hsize hsame in
theorem stepA (hb1:∀ (i:Nat) (o:Oper),ops[i]?=some o->∀ e∈o.after,Region.binds .any e=true->e.on<i) (hc:CalleeOk P callee) (hcomp:∀ (i:Nat) (o:Oper) (u:IOper),ops[i]?=some o->is[i]?=some u->compOper P ops nt o=some u) {b:Frame} {k:List Go.Item} {cs:List Frame} {C0 C:Ctx} {dv done l:List Nat} {a:Act} {i:Nat} {o:Oper}
  (h:StA P ops ops2 is st val τ0 H0 C0 C dv done a.tmps) (hn:nt<=a.tmps.size) (ho:ops[i]?=some o) (hne:i≠i0) (hi:i ∉ done) (he:∀ e∈o.after,Region.binds .any e=true->e.on∈done) :
  ∃ x C1,StA P ops ops2 is st val τ0 H0 C0 C1 (i::dv) (i::done) (a.put o.dst x).tmps/\Steps P (lone (b.atR a (.inRegion ops (i::l)::k)) cs C.w) (lone (b.atR (a.put o.dst x) (.inRegion ops l::k)) cs C1.w):=by
 obtain ⟨d1,d2,hN,hH,hm,hx⟩:=h
 have hil:i<is.length:=by rw [hlen,hsize];exact (Array.getElem?_eq_some_iff.1 ho).1
 have hu:=List.getElem?_eq_getElem hil
 have ho2:ops2[i]?=some o:=by rw [hsame i hne];exact ho
 have hi2:i ∉ dv:=fun q=>hi ((hm i).2 q)
 have he2:∀ e∈o.after,Region.binds .any e=true->e.on∈dv:=fun e q r=>(hm _).1 (he e q r)
 have hv:=sched_step hst h0 hb hlen hpair hcalm d1 ho2 hi2 he2 hu
 have hcu:=hcomp i o _ ho hu
 obtain ⟨x,C1,k1,k2,k3,k4⟩:=sim_step (b:=b) (k:=k) (cs:=cs) (rest:=l) hc hH ho hcu hx hn hv
 obtain ⟨_,_,h3,h4⟩:=compOper_spec hcu
 have hx1:=(hx.nx k2).put (dst:=o.dst) k3 (fun d hd=>Nat.lt_of_lt_of_le (h4 d hd) hn)
 have hτ:put o.dst (val i) (τd is val τ0 dv)=τd is val τ0 (i::dv):=by
  rw [τd,hu,Option.bind_some,h3]
 rw [hτ] at hx1
 refine ⟨x,C1,⟨d1.step hb ho2 hi2 he2,d2.step hb1 ho hi he,hN.trans k2,k1,fun q=>?_,hx1⟩,k4⟩
 simp only [List.mem_cons,hm q]

include hst h0 hb hlen hpair hcalm hsize hsame hi0 hafter in
theorem commitB {C0 C:Ctx} {dv done:List Nat} {tmps:Array Value} (h:StB P ops ops2 is st val τ0 H0 i0 d0 z C0 C dv done tmps) (hj:∀ j∈js,j∈dv) :
  ∃ C1,C1.w=C.w/\StA P ops ops2 is st val τ0 H0 C0 C1 (i0::dv) done tmps:=by
 obtain ⟨d1,d2,hN,hH,hi,hi2,hm,ha,hx,β,hp,hβ⟩:=h
 have hil:i0<is.length:=(List.getElem?_eq_some_iff.1 hi0).1
 have hil2:i0<ops2.size:=by rw [<- hlen];exact hil
 have ho2:ops2[i0]?=some ops2[i0]:=by simp [hil2]
 have he2:∀ e∈ops2[i0].after,Region.binds .any e=true->e.on∈dv:=fun e q r=>by
  rcases hafter _ ho2 e q r with h1 | ⟨o,h1,e',h2,h3,h4⟩
  ·exact hj _ h1
  ·rw [<- h4];exact ha o h1 e' h2 h3
 have hv:=sched_step hst h0 hb hlen hpair hcalm d1 ho2 hi2 he2 hi0
 simp only [aval,aop,Option.some.injEq,Prod.mk.injEq] at hv
 obtain ⟨v1,v2⟩:=hv
 obtain ⟨C1,c1,c2,c3,c4,c5⟩:=hp.commit hH hN
 refine ⟨C1,c1,d1.step hb ho2 hi2 he2,d2,c3,by rw [<- v2];exact c2,fun q=>?_,fun t=>?_⟩
 ·rw [List.mem_cons]
  by_cases hq:q=i0
  ·subst hq;simp [hi]
  ·rw [hm q hq];simp [hq]
 ·rw [τd,hi0]
  simp only [Option.bind_some,put,lk]
  by_cases ht:t=d0
  ·subst ht
   rw [if_pos rfl,hβ,<- v1]
   exact c5
  ·rw [if_neg ht]
   have:=hx t
   simp only [lk,if_neg ht] at this
   exact RV_id c4 (fun _ _=>trivial) this

include hst h0 hb hlen hpair hcalm hsize hsame hi0 hafter hjs hjl htake hop hz hb1 in
theorem sim_late (hc:CalleeOk P callee) (hcomp:∀ (i:Nat) (o:Oper) (u:IOper),ops[i]?=some o->is[i]?=some u->compOper P ops nt o=some u) {b:Frame} {k:List Go.Item} {cs:List Frame} {C0:Ctx}:∀ {done l:List Nat},Sched ops done l->∀ {a:Act} {C:Ctx} {dv:List Nat},
  StA P ops ops2 is st val τ0 H0 C0 C dv done a.tmps∨StB P ops ops2 is st val τ0 H0 i0 d0 z C0 C dv done a.tmps->nt<=a.tmps.size ->
  ∃ tmps' C' all,(∀ i,i<ops2.size->i∈all)/\Done ops2 all/\HR P C' (Hd is st H0 all)/\Nx C0 C'/\RT C' (τd is val τ0 all) tmps'/\tmps'.size=a.tmps.size /\
   Steps P (lone (b.atR a (.inRegion ops l::k)) cs C.w) (lone (b.atR { tmps:=tmps',defers:=a.defers } k) cs C'.w):=by
 intro done l hs
 induction hs with
 | @nil done hall =>
  intro a C dv h hn
  have fin:∀ {C:Ctx} {dv:List Nat},StA P ops ops2 is st val τ0 H0 C0 C dv done a.tmps->∃ tmps' C' all,(∀ i,i<ops2.size->i∈all)/\Done ops2 all/\HR P C' (Hd is st H0 all)/\Nx C0 C'/\RT C' (τd is val τ0 all) tmps'/\tmps'.size=a.tmps.size /\
   Steps P (lone (b.atR a (.inRegion ops []::k)) cs C.w) (lone (b.atR { tmps:=tmps',defers:=a.defers } k) cs C'.w):=by
   rintro C dv ⟨d1,d2,hN,hH,hm,hx⟩
   exact ⟨a.tmps,C,dv,fun i hi=>(hm i).1 (hall i (by omega)),d1,hH,hN,hx,rfl,.one stepR_region_end⟩
  rcases h with h | h
  ·exact fin h
  ·have hB:=h
   obtain ⟨d1,d2,hN,hH,hi,hi2,hm,_⟩:=hB
   obtain ⟨C1,c1,c2⟩:=commitB hst h0 hb hlen hpair hcalm hsize hsame hi0 hafter h (fun j hj=>by
    have h1:=hjl j hj
    have h2:i0<is.length:=(List.getElem?_eq_some_iff.1 hi0).1
    exact (hm j (by omega)).1 (hall j (by omega)))
   have:=fin c2
   rwa [c1] at this
 | @cons done i l o ho hi he hs ih =>
  intro a C dv h hn
  -- from where both are alike
  have fromA:∀ {C:Ctx} {dv:List Nat},StA P ops ops2 is st val τ0 H0 C0 C dv done a.tmps->i≠i0->∃ tmps' C' all,(∀ i,i<ops2.size->i∈all)/\Done ops2 all/\HR P C' (Hd is st H0 all)/\Nx C0 C'/\RT C' (τd is val τ0 all) tmps'/\tmps'.size=a.tmps.size /\
   Steps P (lone (b.atR a (.inRegion ops (i::l)::k)) cs C.w) (lone (b.atR { tmps:=tmps',defers:=a.defers } k) cs C'.w):=by
   intro C dv hA hne
   obtain ⟨x,C1,hA1,hst1⟩:=stepA (b:=b) (k:=k) (cs:=cs) (l:=l) hst h0 hb hlen hpair hcalm hsize hsame hb1 hc hcomp hA hn ho hne hi he
   obtain ⟨tmps',C',all,j1,j2,j3,j4,j5,j6,j7⟩:=ih (a:=a.put o.dst x) (C:=C1) (.inl hA1) (by rw [Act.put_size];exact hn)
   rw [Act.put_defers'] at j7
   exact ⟨tmps',C',all,j1,j2,j3,j4,j5,by rw [j6,Act.put_size],hst1.trans j7⟩
  have hil:i<is.length:=by rw [hlen,hsize];exact (Array.getElem?_eq_some_iff.1 ho).1
  rcases h with h | h
  ·by_cases hne:i=i0
   ·-- it is laid
    subst hne
    obtain ⟨d1,d2,hN,hH,hm,hx⟩:=h
    obtain ⟨o',ho',hop1,hop2,hop3⟩:=hop
    rw [ho] at ho';cases ho'
    obtain ⟨ti,x,hti,hxz,hrl,hone,_⟩:=zeroOf_spec hz
    have hw:Region.wanted o (yielded ops a.tmps)=true:=by simp [Region.wanted,hop2]
    have hg:Goes P (execOp a.eval o) C.w (fun v w'=>v=.pointer (some ⟨C.w.heap.size,0,none⟩)/\w'=C.w.alloc (.cells x.cells t0)):=by
     have e:execOp a.eval o=valS (Instr.alloc t0 true (.tuple #[])):=by unfold execOp;rw [hop1];rfl
     rw [e]
     refine goes_val (C:=C) (r:=.pointer (some ⟨C.w.heap.size,0,none⟩)) (w':=C.w.alloc (.cells x.cells t0)) ?_ ⟨rfl,rfl⟩
     simp [Instr.alloc,run_zeroValue' hti hxz,newVar,newRow]
    obtain ⟨v,w',⟨rfl,rfl⟩,hs1⟩:=steps_goes (b:=b) (k:=k) (cs:=cs) (rest:=l) ho hw (fun c q=>by rw [hop1] at q;cases q) hg
    obtain ⟨f1,f2⟩:=alloc_free hH (.cells x.cells t0) (Env.alloc _ _ _)
    have hin:i ∉ dv:=fun q=>hi ((hm i).2 q)
    have hdt:d0<a.tmps.size:=Nat.lt_of_lt_of_le ((compOper_spec (hcomp i o _ ho hi0)).2.2.2 d0 hop3) hn
    have hput:(a.put o.dst (.pointer (some ⟨C.w.heap.size,0,none⟩))).tmps.getD d0 undef=.pointer (some ⟨C.w.heap.size,0,none⟩):=by
     rw [hop3];simp [Act.put,hdt]
    have hxB:RT { C with w:=C.w.alloc (.cells x.cells t0) } ((d0,.any)::τd is val τ0 dv) (a.put o.dst (.pointer (some ⟨C.w.heap.size,0,none⟩))).tmps:=by
     have:=(hx.nx f2).put (v:=.any) (x:=.pointer (some ⟨C.w.heap.size,0,none⟩)) (dst:=o.dst) trivial (fun d hd=>by rw [hop3] at hd;cases hd;exact hdt)
     rw [hop3] at this ⊢
     exact this
    obtain ⟨tmps',C',all,j1,j2,j3,j4,j5,j6,j7⟩:=ih (a:=a.put o.dst (.pointer (some ⟨C.w.heap.size,0,none⟩))) (C:={ C with w:=C.w.alloc (.cells x.cells t0) }) (dv:=dv) (.inr ⟨d1,d2.step hb1 ho hi he,hN.trans f2,f1,by simp,hin,fun q hq=>by simp [hq,hm q],fun o' ho' e q r=>by
      rw [ho] at ho';cases ho'
      exact (hm _).1 (he e q r),hxB,C.w.heap.size,⟨hN.size,by
       show C.w.heap.size<(C.w.alloc (.cells x.cells t0)).heap.size
       rw [World.size_alloc];omega,fun q s hs hd e=>by
       have:=hH.block hs hd
       simp only [] at e
       omega,fun o' hf=>absurd (hH.low _ _ hf) (Nat.lt_irrefl _),x.cells,t0,by
       show (C.w.heap.push _)[C.w.heap.size]?=_
       simp,hrl,hone⟩,hput⟩) (by rw [Act.put_size];exact hn)
    rw [Act.put_defers'] at j7
    exact ⟨tmps',C',all,j1,j2,j3,j4,j5,by rw [j6,Act.put_size],hs1.trans j7⟩
   ·exact fromA h hne
  ·have hB := h
   obtain ⟨d1,d2,hN,hH,h1,h2,hm,ha,hx,β,hp,hβ⟩:=hB
   have hne:i≠i0:=fun e=>hi (e ▸ h1)
   by_cases hdep:∃ e∈o.after,Region.binds .any e=true/\e.on=i0
   ·obtain ⟨C1,c1,c2⟩:=commitB hst h0 hb hlen hpair hcalm hsize hsame hi0 hafter h (fun j hj=>by
     have h3:=hjs i o ho hdep j hj
     have h4:=ready_down hb1 d2 ho he h3
     exact (hm j (by have:=hjl j hj;omega)).1 h4)
    have:=fromA c2 hne
    rwa [c1] at this
   ·-- it is not known yet
    have hu:=List.getElem?_eq_getElem hil
    have ho2:ops2[i]?=some o:=by rw [hsame i hne];exact ho
    have hi2:i ∉ dv:=fun q=>hi ((hm i hne).2 q)
    have he2:∀ e∈o.after,Region.binds .any e=true->e.on∈dv:=fun e q r=>(hm _ (fun e'=>hdep ⟨e,q,r,e'⟩)).1 (he e q r)
    have hv:=sched_step hst h0 hb hlen hpair hcalm d1 ho2 hi2 he2 hu
    have hno:d0 ∉ readsU is[i]/\is[i].dst≠some d0:=by
     rcases Nat.lt_or_gt_of_ne hne with hlt | hgt
     ·exact htake i _ hlt hu
     ·have hpo:=hpair i0 i _ _ hgt hi0 hu
      have hns:sure (Region.before ops2) i0 i=false:=by
       cases hs':sure (Region.before ops2) i0 i with
       | false=>rfl
       | true=>rw [sure_lt hgt] at hs';exact absurd (ready_down hb d1 ho2 he2 hs') h2
      simp only [pairOk,hns,Bool.or_false,Bool.and_eq_true,apart] at hpo
      obtain ⟨_,hpo,_⟩:=hpo
      simpa using hpo
    have hv2:aval callee is[i] ((d0,.any)::τd is val τ0 dv) (Hd is st H0 dv)=some (val i,Hd is st H0 (i::dv)):=by
     rw [<- hv]
     refine aval_congr fun t ht=>?_
     have:t≠d0:=fun e=>hno.1 (e ▸ ht)
     simp only [lk,if_neg this]
    have hcu:=hcomp i o _ ho hu
    obtain ⟨x,C1,k1,k2,k3,k4⟩:=sim_step (b:=b) (k:=k) (cs:=cs) (rest:=l) hc hH ho hcu hx hn hv2
    obtain ⟨_,_,h3,h4⟩:=compOper_spec hcu
    have hx1:=(hx.nx k2).put (dst:=o.dst) k3 (fun d hd=>Nat.lt_of_lt_of_le (h4 d hd) hn)
    have hdd:o.dst≠some d0:=by rw [<- h3];exact hno.2
    have hτ:∀ t,lk t (put o.dst (val i) ((d0,.any)::τd is val τ0 dv))=lk t ((d0,.any)::τd is val τ0 (i::dv)):=by
     intro t
     rw [τd,hu,Option.bind_some,h3]
     cases hd:o.dst with
     | none=>rfl
     | some d =>
      have:d≠d0:=fun e=>hdd (by rw [hd,e])
      simp only [put,lk]
      by_cases ht:t=d
      ·subst ht;simp [this]
      ·simp [ht]
    have hx2:RT C1 ((d0,.any)::τd is val τ0 (i::dv)) (a.put o.dst x).tmps:=fun t=>by rw [<- hτ t];exact hx1 t
    have hput:(a.put o.dst x).tmps.getD d0 undef=.pointer (some ⟨β,0,none⟩):=by
     cases hd:o.dst with
     | none=>exact hβ
     | some d =>
      have:d≠d0:=fun e=>hdd (by rw [hd,e])
      rw [<- hβ]
      simp only [Act.put,Array.getD_eq_getD_getElem?,Array.getElem?_setIfInBounds,if_neg this]
    obtain ⟨tmps',C',all,j1,j2,j3,j4,j5,j6,j7⟩:=ih (a:=a.put o.dst x) (C:=C1) (dv:=i::dv) (.inr ⟨d1.step hb ho2 hi2 he2,d2.step hb1 ho hi he,hN.trans k2,k1,List.mem_cons_of_mem _ h1,by
      rw [List.mem_cons];rintro (e | e)
      ·exact hne e.symm
      ·exact h2 e,fun q hq=>by simp only [List.mem_cons,hm q hq],fun o' ho' e q r=>List.mem_cons_of_mem _ (ha o' ho' e q r),hx2,β,hp.nx k2,hput⟩) (by rw [Act.put_size];exact hn)
    rw [Act.put_defers'] at j7
    exact ⟨tmps',C',all,j1,j2,j3,j4,j5,by rw [j6,Act.put_size],k4.trans j7⟩
end
end
section
set_option linter.unusedSectionVars false
variable [DecidableEq AVal] {callee:Callee} {P:Program} {C:Ctx} {H H':Heap} {τ τ':Tmps} {nt:Nat}

theorem hoisted_size (ops:Array Oper) (i0:Nat) (js:List Nat):(hoisted ops i0 js).size=ops.size:=by simp [hoisted]
theorem hoisted_get (ops:Array Oper) (i0:Nat) (js:List Nat) (k:Nat):(hoisted ops i0 js)[k]?=if i0=k then (ops[k]?).map (fun o=>{ o with after:=o.after++(js.map fun j=>({ on:=j,ground:=.data }:Edge)).toArray }) else ops[k]?:=by
 unfold hoisted
 rw [Array.getElem?_modify]

theorem zip_mem2 {ops:Array Oper} {is:List IOper} {i:Nat} {o:Oper} {u:IOper} (ho:ops[i]?=some o) (hu:is[i]?=some u):((ops.toList.zip is).zipIdx)[i]?=some ((o,u),i):=zip_mem ho hu

theorem sim_draw2 {b:Frame} {a:Act} {ops:Array Oper} {k:List Go.Item} {cs:List Frame} {id:Nat} {is:List IOper} {i0 d0:Nat} {js:List Nat} (hmix:P.follows .mixedOrders=true) (hc:CalleeOk P callee) (hi:compOpers P ops nt ops.toList=some is)
  (hok:lateOk ops is i0 d0 js=true) (hedge:edgesOk ((ops.toList.zip is).zipIdx)=true) (hdr:drawOk (Region.before (hoisted ops i0 js)) (((hoisted ops i0 js).toList.zip is).zipIdx)=true)
  (hH:HR P C H) (hx:RT C τ a.tmps) (hn:nt<=a.tmps.size) (h:areg callee is (chkOf (Region.before (hoisted ops i0 js)) (((hoisted ops i0 js).toList.zip is).zipIdx)) [] τ H=some (τ',H')) :
  ∃ tmps' C',HR P C' H'/\Nx C C'/\RT C' τ' tmps'/\tmps'.size=a.tmps.size/\Steps P (lone (b.atR a (.code (.region id ops true)::k)) cs C.w) (lone (b.atR { tmps:=tmps',defers:=a.defers } k) cs C'.w):=by
 obtain ⟨hl,hs⟩:=compOpers_spec hi
 have hlen1:is.length=ops.size:=by rw [hl];simp
 have hcomp:∀ (i:Nat) (o:Oper) (u:IOper),ops[i]?=some o->is[i]?=some u->compOper P ops nt o=some u:=fun i o u ho hu=>hs i o u (by simpa using ho) hu
 generalize hops2:hoisted ops i0 js=ops2 at *
 have hsize:ops2.size=ops.size:=by rw [<- hops2,hoisted_size]
 have hget:∀ k,ops2[k]?=if i0=k then (ops[k]?).map (fun o=>{ o with after:=o.after++(js.map fun j=>({ on:=j,ground:=.data }:Edge)).toArray }) else ops[k]?:=fun k=>by rw [<- hops2,hoisted_get]
 have hsame:∀ k,k≠i0->ops2[k]?=ops[k]?:=fun k hk=>by rw [hget,if_neg (fun e=>hk e.symm)]
 have hlen:is.length=ops2.size:=by omega
 have hex:∀ {i:Nat} {u:IOper},is[i]?=some u->∃ o,ops2[i]?=some o:=fun {i u} hu=>by
  have:i<ops2.size:=by rw [<- hlen];exact (List.getElem?_eq_some_iff.1 hu).1
  exact ⟨ops2[i],by simp [this]⟩
 rw [drawOk,Bool.and_eq_true] at hdr
 have edges:∀ (ops':Array Oper),is.length=ops'.size->edgesOk ((ops'.toList.zip is).zipIdx)=true->∀ (i:Nat) (o:Oper),ops'[i]?=some o->∀ e∈o.after,Region.binds .any e=true->e.on<i:=by
  intro ops' hlen' hed i o ho e he hbd
  have hil:i<is.length:=by rw [hlen'];exact (Array.getElem?_eq_some_iff.1 ho).1
  have hz:=zip_mem ho (List.getElem?_eq_getElem hil)
  have h1:=List.all_eq_true.1 hed _ (List.mem_of_getElem? hz)
  have h2:=Array.all_eq_true_iff_forall_mem.1 h1 e he
  simp only [hbd,Bool.not_true,Bool.false_or,decide_eq_true_eq] at h2
  exact h2
 have hb:=edges ops2 hlen hdr.1
 have hb1:=edges ops hlen1 hedge
 have hpair:∀ i j u v,i<j->is[i]?=some u->is[j]?=some v->pairOk (Region.before ops2) i j u v=true:=by
  intro i j u v hij hu hv
  obtain ⟨o,ho⟩:=hex hu
  obtain ⟨o',ho'⟩:=hex hv
  have h1:=zip_mem ho hu
  have h2:=zip_mem ho' hv
  obtain ⟨l1,e1⟩:=List.getElem?_eq_some_iff.1 h1
  obtain ⟨l2,e2⟩:=List.getElem?_eq_some_iff.1 h2
  have:=(List.pairwise_iff_getElem.1 (pairsOk_spec hdr.2)) i j l1 l2 hij
  rw [e1,e2] at this
  exact this
 have hboth:(∀ p∈chkOf (Region.before ops2) ((ops2.toList.zip is).zipIdx),calm callee is (hist callee is τ H) p=true)/\aops callee is τ H=some (τ',H'):=by
  unfold areg at h
  split at h
  ·rename_i e _
   rw [e];exact ⟨by simp,h⟩
  ·simp only [List.all_nil,Bool.and_true] at h
   obtain ⟨h1,h2⟩:=Option.ite_none_right_eq_some.1 h
   exact ⟨fun p hp=>List.all_eq_true.1 h1 p hp,h2⟩
 obtain ⟨hchk,hops⟩:=hboth
 obtain ⟨st,val,s1,s2,s3,s4⟩:=states is hops
 have hcalm:∀ i q u v,is[i]?=some u->is[q]?=some v->i≠q->looks u.op=true->acts v.op=true->sure (Region.before ops2) i q=false->(∃ Ha,aval callee u (st i).1 (st q).2=some (val i,Ha))/\∃ Hb,aval callee u (st i).1 (st (q+1)).2=some (val i,Hb):=by
  intro i q u v hu hv hne hlk hac hns
  obtain ⟨o,ho⟩:=hex hu
  obtain ⟨o',ho'⟩:=hex hv
  have hm:=chk_mem (b:=Region.before ops2) (List.mem_of_getElem? (zip_mem ho hu)) (List.mem_of_getElem? (zip_mem ho' hv)) hlk hac hne hns
  have hcm:=hchk _ hm
  have hil:=(List.getElem?_eq_some_iff.1 hu).1
  have hql:=(List.getElem?_eq_some_iff.1 hv).1
  unfold calm at hcm
  simp only [hu,s4 i (by omega),s4 q (by omega),s4 (q+1) (by omega),(s3 i u hu).1] at hcm
  cases h1:aval callee u (st i).1 (st q).2 with
  | none=>rw [h1] at hcm;cases hcm
  | some y =>
   cases h2:aval callee u (st i).1 (st (q+1)).2 with
   | none=>rw [h1,h2] at hcm;cases hcm
   | some z =>
    rw [h1,h2] at hcm
    simp only [Bool.and_eq_true,decide_eq_true_eq] at hcm
    obtain ⟨y1,y2⟩:=y
    obtain ⟨z1,z2⟩:=z
    simp only [] at hcm
    rw [hcm.1,hcm.2] at *
    exact ⟨⟨y2,rfl⟩,z2,rfl⟩
 -- what the check says
 simp only [lateOk,Bool.and_eq_true] at hok
 obtain ⟨⟨⟨k1,k2⟩,k3⟩,k4⟩:=hok
 have hjl:∀ j∈js,j<i0:=fun j hj=>by simpa using List.all_eq_true.1 k2 j hj
 obtain ⟨o0,ho0,k1⟩:∃ o0,ops[i0]?=some o0/\(isLay o0 && o0.guard.isNone && o0.dst == some d0)=true:=by
  cases hq:ops[i0]? with
  | none=>rw [hq] at k1;cases k1
  | some o0=>rw [hq] at k1;exact ⟨o0,rfl,k1⟩
 simp only [Bool.and_eq_true,beq_iff_eq,Option.isNone_iff_eq_none] at k1
 obtain ⟨⟨k5,k6⟩,k7⟩:=k1
 obtain ⟨t0,hop0⟩:∃ t0,o0.op=.alloc t0:=by
  unfold isLay at k5
  split at k5
  ·rename_i t e;exact ⟨t,e⟩
  ·cases k5
 have hil0:i0<is.length:=by rw [hlen1];exact (Array.getElem?_eq_some_iff.1 ho0).1
 obtain ⟨q1,q2,q3,_⟩:=compOper_spec (hcomp i0 o0 _ ho0 (List.getElem?_eq_getElem hil0))
 simp only [compOp,hop0,Option.map_eq_some_iff] at q1
 obtain ⟨z,hz,q1⟩:=q1
 simp only [guardT,k6,Option.some.injEq] at q2
 have hi0:is[i0]?=some ⟨none,some d0,.alloc z⟩:=by
  rw [List.getElem?_eq_getElem hil0]
  generalize is[i0]=u at *
  cases u
  simp only [] at q1 q2 q3
  rw [<- q1,<- q2,q3,k7]
 have htake:∀ k u,k<i0->is[k]?=some u->d0 ∉ readsU u/\u.dst≠some d0:=fun k u hk hu=>by
  have hm:u∈is.take i0:=List.mem_of_getElem? (i:=k) (by rw [List.getElem?_take,if_pos hk];exact hu)
  have:=List.all_eq_true.1 k3 u hm
  simpa using this
 have hjs:∀ k o,ops[k]?=some o->(∃ e∈o.after,Region.binds .any e=true/\e.on=i0)->∀ j∈js,((Region.before ops).getD k 0).testBit j=true:=fun k o ho hde j hj=>by
  obtain ⟨e,he,hbd,hon⟩:=hde
  have hm:(o,k)∈ops.toList.zipIdx:=by
   rw [List.mem_zipIdx_iff_getElem?];simpa using ho
  have h1:=List.all_eq_true.1 k4 _ hm
  simp only [Bool.or_eq_true,Bool.not_eq_true'] at h1
  rcases h1 with h1 | h1
  ·have h2:(o.after.any fun e=>Region.binds .any e && e.on == i0)=true:=by
    rw [Array.any_eq_true']
    exact ⟨e,he,by simp [hbd,hon]⟩
   rw [h2] at h1;cases h1
  ·exact List.all_eq_true.1 h1 j hj
 have hafter:∀ o2,ops2[i0]?=some o2->∀ e∈o2.after,Region.binds .any e=true->e.on∈js∨∃ o,ops[i0]?=some o/\∃ e'∈o.after,Region.binds .any e'=true/\e'.on=e.on:=fun o2 h2 e he hbd=>by
  rw [hget,if_pos rfl,ho0] at h2
  simp only [Option.map_some,Option.some.injEq] at h2
  subst h2
  simp only [Array.mem_append,List.mem_toArray,List.mem_map] at he
  rcases he with he | ⟨j,hj,rfl⟩
  ·exact .inr ⟨o0,ho0,e,he,hbd,rfl⟩
  ·exact .inl hj
 -- the order that is drawn
 obtain ⟨hH1,hN1⟩:=world_heap hH (w:={ C.w with drawn:=C.w.drawn+1 }) rfl ⟨rfl,rfl,rfl,fun _=>rfl⟩
 have hsched:Sched ops [] (Region.schedule (P.follows .mixedOrders) ops (C.w.tape C.w.drawn (.order b.fn id))):=by
  simp only [Region.schedule,hmix,Bool.true_or,if_true]
  exact sched_of_lin hb1 ops.size _ _ [] (by simp) (fun k hk=>by simp [Array.getD,hk]) List.nodup_nil (by simp) (by simp)
 have hd0:∀ ops:Array Oper,Done ops []:=fun ops=>⟨List.nodup_nil,by simp,by simp,fun i rest pre e=>by cases pre<;>cases e⟩
 have hh0:Hd is st H []=H:=rfl
 obtain ⟨tmps',C',all,a1,a2,a3,a4,a5,a6,a7⟩:=sim_late (P:=P) (nt:=nt) s3 s1 hb hlen hpair hcalm hb1 hsize hsame hi0 hafter hjs hjl htake ⟨o0,ho0,hop0,k6,k7⟩ hz hc hcomp (b:=b) (k:=k) (cs:=cs) (C0:={ C with w:={ C.w with drawn:=C.w.drawn+1 } }) hsched (a:=a) (C:={ C with w:={ C.w with drawn:=C.w.drawn+1 } }) (dv:=[])
  (.inl ⟨hd0 _,hd0 _,Nx.refl _,by rw [hh0];exact hH1,fun _=>Iff.rfl,hx.nx hN1⟩) hn
 -- all is done: the machine's own end
 have hall:∀ p:Nat->Bool,(∀ i k,p i=true->p k=true->i≠k->sure (Region.before ops2) i k=true)->all.find? p=(ahead is.length).find? p:=fun p hp =>
  find_eq a2.desc a2.nodup (ahead_desc _ _) (ahead_nodup _) hp (fun k hk=>by
   rw [mem_ahead,hlen]
   exact ⟨a2.lt k,a1 k⟩)
 have sw:∀ d k q,writes is d k=true->writes is d q=true->k≠q->sure (Region.before ops2) k q=true:=by
  intro d k q hk hq hne
  unfold writes at hk hq
  cases hx:is[k]? with
  | none=>rw [hx] at hk;simp at hk
  | some x =>
   cases hy:is[q]? with
   | none=>rw [hy] at hq;simp at hq
   | some y =>
    rw [hx] at hk;rw [hy] at hq
    have hxd:x.dst=some d:=by simpa using hk
    have hyd:y.dst=some d:=by simpa using hq
    rcases Nat.lt_or_gt_of_ne hne with h | h
    ·simpa [pairOk,apart,hxd,hyd] using hpair k q x y h hx hy
    ·rw [sure_comm];simpa [pairOk,apart,hxd,hyd] using hpair q k y x h hy hx
 have sa:∀ k q,actsAt is k=true->actsAt is q=true->k≠q->sure (Region.before ops2) k q=true:=by
  intro k q hk hq hne
  unfold actsAt at hk hq
  cases hx:is[k]? with
  | none=>rw [hx] at hk;simp at hk
  | some x =>
   cases hy:is[q]? with
   | none=>rw [hy] at hq;simp at hq
   | some y =>
    rw [hx] at hk;rw [hy] at hq
    have hxa:acts x.op=true:=by simpa using hk
    have hya:acts y.op=true:=by simpa using hq
    rcases Nat.lt_or_gt_of_ne hne with h | h
    ·simpa [pairOk,hxa,hya] using hpair k q x y h hx hy
    ·rw [sure_comm];simpa [pairOk,hxa,hya] using hpair q k y x h hy hx
 have e1:Hd is st H all=H':=by
  have:(st is.length).2=H':=by rw [s2]
  rw [<- this,st_heap s3 s1 is.length (Nat.le_refl _)]
  unfold Hd
  rw [hall _ sa]
 have e2:RT C' τ' tmps':=by
  intro t
  have h1:τ'=τd is val τ (ahead is.length):=by rw [<- st_tmps s3 s1 is.length (Nat.le_refl _),s2]
  rw [h1,lk_τd,<- hall _ (sw t),<- lk_τd]
  exact a5 t
 rw [e1] at a3
 exact ⟨tmps',C',a3,hN1.trans a4,e2,a6,.head stepR_region_draw a7⟩
end
end Go.AM
namespace Go.AM
section
variable {P:Program} {C C0:Ctx} {H H0:Heap} {τ:Tmps} {m:Nat}

theorem rootsOf_mem (H:Heap):∀ (m:Nat) {j:Nat} {e:Entry},j<m->H[j]?=some e->∀ i∈refsE e,i∈rootsOf H m
 | 0,j,e,h,_,_,_=>by omega
 | m + 1,j,e,h,he,i,hi=>by
  rw [rootsOf]
  by_cases hj:j=m
  ·subst hj
   refine List.mem_append_right _ ?_
   rw [List.getD_eq_getElem?_getD,he];exact hi
  ·exact List.mem_append_left _ (rootsOf_mem H m (by omega) he i hi)

theorem sweep_get (R:List Nat):∀ (H:Heap) (k j:Nat) (e:Entry),(sweep R k H)[j]?=some e->∃ e0,H[j]?=some e0/\((k+j∈R/\e=e0)∨(k+j ∉ R/\e=.dead))
 | [],k,j,e,h=>by simp [sweep] at h
 | x :: r,k,j,e,h=>by
  rw [sweep] at h
  have rest:∀ {j},(sweep R (k+1) r)[j]?=some e->∃ e0,r[j]?=some e0/\((k+(j+1)∈R/\e=e0)∨(k+(j+1) ∉ R/\e=.dead)):=fun {j} h=>by
   obtain ⟨e0,h1,h2⟩:=sweep_get R r (k+1) j e h
   rw [show k+1+j=k+(j+1) by omega] at h2
   exact ⟨e0,h1,h2⟩
  split at h
  ·rename_i hk
   cases j with
   | zero=>simp at h;subst h;exact ⟨x,rfl,.inl ⟨hk,rfl⟩⟩
   | succ j=>simp at h;obtain ⟨e0,h1,h2⟩:=rest h;exact ⟨e0,by simpa using h1,h2⟩
  ·rename_i hk
   cases hs:sweep R (k+1) r with
   | nil=>rw [hs] at h;simp at h
   | cons y s =>
    rw [hs] at h
    simp only [] at h
    cases j with
    | zero=>simp at h;subst h;exact ⟨x,rfl,.inr ⟨hk,rfl⟩⟩
    | succ j =>
     simp only [List.getElem?_cons_succ] at h
     obtain ⟨e0,h1,h2⟩:=rest (by rw [hs];exact h)
     exact ⟨e0,by simpa using h1,h2⟩

theorem sweep_keep (R:List Nat):∀ (H:Heap) (k j:Nat) (e:Entry),H[j]?=some e->k+j∈R->(sweep R k H)[j]?=some e
 | [],k,j,e,h,_=>by simp at h
 | x :: r,k,j,e,h,hR=>by
  rw [sweep]
  cases j with
  | zero =>
   simp at h;subst h
   rw [Nat.add_zero] at hR
   rw [if_pos hR];rfl
  | succ j =>
   have ih:=sweep_keep R r (k+1) j e (by simpa using h) (by rw [show k+1+j=k+(j+1) by omega];exact hR)
   split
   ·simpa using ih
   ·cases hs:sweep R (k+1) r with
    | nil=>rw [hs] at ih;simp at ih
    | cons y s =>
     simp only [List.getElem?_cons_succ]
     rw [hs] at ih;exact ih

theorem lk_keep (t:Nat):∀ (live:List Nat),lk t (keep τ live)=.any∨(lk t (keep τ live)=lk t τ)
 | []=>.inl rfl
 | u::r=>by
  simp only [keep,lk]
  by_cases h:t=u
  ·subst h;simp
  ·simp only [h,if_false];exact lk_keep t r

theorem sim_gcSweep {live:List Nat} {s:Tmps × Heap} {tmps:Array Value} (hH0:HR P C0 H0) (hm:H0.length=m) (hN:Nx C0 C) (hH:HR P C H) (hx:RT C τ tmps) {R:List Nat} (hR:reach H purse (rootsOf H m++refsT (keep τ live)) (List.range m)=some R) (h:s=(keep τ live,sweep R 0 H)) :
  ∃ C',C'.w=C.w/\HR P C' s.2/\Nx C0 C'/\RT C' s.1 tmps/\∀ i u,C'.sh i=some u->u≠.dead->C.sh i=some u/\C'.ν i=C.ν i:=by
 subst h
 obtain ⟨r1,⟨t,ht⟩,r3,r4⟩:=reach_spec _ _ _ _ _ hR List.nodup_range
 have hmR:∀ i,i<m->i∈R:=fun i hi=>by rw [ht];exact List.mem_append_left _ (by simpa using hi)
 have hcl:∀ i∈R,∀ e,H[i]?=some e->∀ j∈refsE e,j∈R:=by
  intro i hi e he j hj
  rcases r4 i hi with h1 | h1
  ·exact r3 j (List.mem_append_left _ (rootsOf_mem H m (by simpa using h1) he j hj))
  ·exact h1.2 e he j hj
 let C':Ctx:={ C with sh:=fun i=>if i∈R then C.sh i else if i<(sweep R 0 H).length then some .dead else none }
 have T:Tr C C' id (·∈R):=⟨fun b o h=>⟨h,rfl⟩,fun i s hi hs=>.inr (.inl ⟨by simp only [C',id,hi,if_true];exact hs,rfl⟩)⟩
 have alive:∀ i u,C'.sh i=some u->u≠.dead->C.sh i=some u/\C'.ν i=C.ν i:=by
  intro i u hu hd
  simp only [C'] at hu
  split at hu
  ·exact ⟨hu,rfl⟩
  ·split at hu
   ·cases hu;exact absurd rfl hd
   ·cases hu
 refine ⟨C',rfl,⟨fun i e he=>?_,fun i (hi:(sweep R 0 H).length<=i)=>?_,fun i j s s' hs hd hs' hd' e=>?_,hH.low⟩,?_,fun t=>?_,alive⟩
 ·obtain ⟨e0,h1,h2⟩:=sweep_get R H 0 i e he
  rw [Nat.zero_add] at h2
  rcases h2 with ⟨hi,rfl⟩ | ⟨hi,rfl⟩
  ·have:=RE_tr T (hH.ent i _ h1) (hcl i hi _ h1) (by simp only [C',id,hi,if_true]) rfl (fun _=>rfl) (fun o _ h=>h)
   rwa [renE_id] at this
  ·have hlt:i<(sweep R 0 H).length:=(List.getElem?_eq_some_iff.1 he).1
   show C'.sh i=some .dead
   simp only [C',hi,if_false,hlt,if_true]
 ·simp only [C']
  split
  ·rename_i hiR
   rcases Nat.lt_or_ge i H.length with hlt | hge
   ·have:=sweep_keep R H 0 i _ (List.getElem?_eq_getElem hlt) (by rw [Nat.zero_add];exact hiR)
    have:=(List.getElem?_eq_some_iff.1 this).1
    omega
   ·exact hH.out i hge
  ·rw [if_neg (by omega)]
 ·obtain ⟨a1,a2⟩:=alive i s hs hd
  obtain ⟨b1,b2⟩:=alive j s' hs' hd'
  exact hH.inj i j s s' a1 hd b1 hd' (by rw [<- a2,<- b2];exact e)
 ·refine ⟨⟨fun b o h=>hN.tr.fz b o h,fun i s _ hs=>?_⟩,hN.size,hN.frame,fun i s hs hd hlt=>?_,hN.env,hN.fzg⟩
  ·have hi:i<m:=by
    rcases Nat.lt_or_ge i m with h | h
    ·exact h
    ·rw [hH0.out i (by omega)] at hs;cases hs
   have:=hN.tr.sh i s trivial hs
   simp only [id] at this ⊢
   simp only [C',hmR i hi,if_true]
   exact this
  ·obtain ⟨a1,a2⟩:=alive i s hs hd
   rw [a2] at hlt ⊢
   exact hN.own i s a1 hd hlt
 ·rcases lk_keep (τ:=τ) t live with h1 | h1
  ·rw [h1];trivial
  ·have h2:∀ i∈refsV (lk t (keep τ live)),i∈R:=fun i hi=>r3 i (List.mem_append_right _ (refs_lk t _ i hi))
   rw [h1] at h2 ⊢
   exact RV_id T h2 (hx t)

theorem sim_gcRet {v v':AVal} {H':Heap} {x:Value} (hH0:HR P C0 H0) (hm:H0.length=m) (hN:Nx C0 C) (hH:HR P C H) (hx:RV C v x) (h:gcRet m v H=some (v',H')) :
  ∃ C',C'.w=C.w/\HR P C' H'/\Nx C0 C'/\RV C' v' x:=by
 simp only [gcRet,Option.map_eq_some_iff,Prod.mk.injEq] at h
 obtain ⟨R,hR,rfl,rfl⟩:=h
 obtain ⟨r1,⟨t,ht⟩,r3,r4⟩:=reach_spec _ _ _ _ _ hR List.nodup_range
 have hmH:m<=H.length:=by
  rcases Nat.eq_zero_or_pos m with h0 | h0
  ·omega
  ·have hlt:m - 1<H0.length:=by omega
   obtain ⟨cp,hs⟩:=(hH0.ent _ _ (List.getElem?_eq_getElem hlt)).shape
   have:=hN.tr.sh (m - 1) _ trivial hs
   simp only [id] at this
   rcases Nat.lt_or_ge (m - 1) H.length with h1 | h1
   ·omega
   ·rw [hH.out _ h1] at this
    rcases this with h | ⟨h,_⟩ | ⟨_,_,_,_,_,_,h,_⟩<;>cases h
 have hcl:∀ i∈R,∀ e,H[i]?=some e->∀ j∈refsE e,j∈R:=by
  intro i hi e he j hj
  rcases r4 i hi with h1 | h1
  ·exact r3 j (List.mem_append_left _ (rootsOf_mem H m (by simpa using h1) he j hj))
  ·exact h1.2 e he j hj
 have hlt:∀ i∈R,i<H.length:=by
  intro i hi
  rcases r4 i hi with h1 | h1
  ·have:i<m:=by simpa using h1
   omega
  ·exact h1.1
 have hL:=hH.loc r1 hlt hcl
 have hidx:∀ i,i<m->R[i]?=some i/\R.getD i 0=i:=by
  intro i hi
  have:R[i]?=some i:=by rw [ht,List.getElem?_append_left (by simpa using hi)];simp [hi]
  exact ⟨this,by rw [List.getD_eq_getElem?_getD,this];rfl⟩
 have hRl:m<=R.length:=by rw [ht];simp
 refine ⟨locC C R,rfl,hL,⟨⟨fun b o h=>hN.tr.fz b o h,fun i s _ hs=>?_⟩,hN.size,hN.frame,fun i s hs hd hlt'=>?_,hN.env,hN.fzg⟩,RV_tr (locC_tr C R) v x (fun i hi=>r3 i (List.mem_append_right _ hi)) hx⟩
 ·have hi:i<m:=by
   rcases Nat.lt_or_ge i m with h | h
   ·exact h
   ·rw [hH0.out i (by omega)] at hs;cases hs
  have:=hN.tr.sh i s trivial hs
  simp only [id] at this ⊢
  have hiR:i<R.length:=by omega
  simp only [locC,hiR,if_true,(hidx i hi).2]
  exact this
 ·simp only [locC] at hs hlt' ⊢
  split at hs
  ·exact hN.own _ s hs hd hlt'
  ·cases hs

theorem lk_renT (g:Nat->Nat) (t:Nat):∀ τ:Tmps,lk t (renT g τ)=renV g (lk t τ)
 | []=>by rw [renT,lk,renV]
 | (u,v)::r=>by
  rw [renT,lk,lk]
  split
  ·rfl
  ·exact lk_renT g t r

theorem sim_gcPack {live:List Nat} {s:Tmps × Heap} {tmps:Array Value} (hH0:HR P C0 H0) (hm:H0.length=m) (hN:Nx C0 C) (hH:HR P C H) (hx:RT C τ tmps) {R:List Nat} (hR:reach H purse (rootsOf H m++refsT (keep τ live)) (List.range m)=some R)
  (h:s=(renT (fun i=>R.idxOf i) (keep τ live),R.map fun i=>renE (fun i=>R.idxOf i) (H.getD i .dead))) :
  ∃ C',C'.w=C.w/\HR P C' s.2/\Nx C0 C'/\RT C' s.1 tmps/\∀ i u,C'.sh i=some u->u≠.dead->∃ j,C.sh j=some u/\C'.ν i=C.ν j:=by
 subst h
 obtain ⟨r1,⟨t,ht⟩,r3,r4⟩:=reach_spec _ _ _ _ _ hR List.nodup_range
 have hmH:m<=H.length:=by
  rcases Nat.eq_zero_or_pos m with h0 | h0
  ·omega
  ·have hlt:m - 1<H0.length:=by omega
   obtain ⟨cp,hs⟩:=(hH0.ent _ _ (List.getElem?_eq_getElem hlt)).shape
   have:=hN.tr.sh (m - 1) _ trivial hs
   simp only [id] at this
   rcases Nat.lt_or_ge (m - 1) H.length with h1 | h1
   ·omega
   ·rw [hH.out _ h1] at this
    rcases this with h | ⟨h,_⟩ | ⟨_,_,_,_,_,_,h,_⟩<;>cases h
 have hcl:∀ i∈R,∀ e,H[i]?=some e->∀ j∈refsE e,j∈R:=by
  intro i hi e he j hj
  rcases r4 i hi with h1 | h1
  ·exact r3 j (List.mem_append_left _ (rootsOf_mem H m (by simpa using h1) he j hj))
  ·exact h1.2 e he j hj
 have hlt:∀ i∈R,i<H.length:=by
  intro i hi
  rcases r4 i hi with h1 | h1
  ·have:i<m:=by simpa using h1
   omega
  ·exact h1.1
 have hL:=hH.loc r1 hlt hcl
 have hidx:∀ i,i<m->R[i]?=some i/\R.getD i 0=i:=by
  intro i hi
  have:R[i]?=some i:=by rw [ht,List.getElem?_append_left (by simpa using hi)];simp [hi]
  exact ⟨this,by rw [List.getD_eq_getElem?_getD,this];rfl⟩
 have hRl:m<=R.length:=by rw [ht];simp
 refine ⟨locC C R,rfl,hL,⟨⟨fun b o h=>hN.tr.fz b o h,fun i s _ hs=>?_⟩,hN.size,hN.frame,fun i s hs hd hlt'=>?_,hN.env,hN.fzg⟩,fun t=>?_,fun i u hu hd=>?_⟩
 ·have hi:i<m:=by
   rcases Nat.lt_or_ge i m with h | h
   ·exact h
   ·rw [hH0.out i (by omega)] at hs;cases hs
  have:=hN.tr.sh i s trivial hs
  simp only [id] at this ⊢
  have hiR:i<R.length:=by omega
  simp only [locC,hiR,if_true,(hidx i hi).2]
  exact this
 ·simp only [locC] at hs hlt' ⊢
  split at hs
  ·exact hN.own _ s hs hd hlt'
  ·cases hs
 ·rw [lk_renT]
  rcases lk_keep (τ:=τ) t live with h1 | h1
  ·rw [h1,renV];trivial
  ·have h2:∀ i∈refsV (lk t (keep τ live)),i∈R:=fun i hi=>r3 i (List.mem_append_right _ (refs_lk t _ i hi))
   rw [h1] at h2 ⊢
   exact RV_tr (locC_tr C R) _ _ h2 (hx t)
 ·simp only [locC] at hu ⊢
  split at hu
  ·exact ⟨_,hu,rfl⟩
  ·cases hu

theorem sim_gcLoop {live:List Nat} {s:Tmps × Heap} {tmps:Array Value} (hH0:HR P C0 H0) (hm:H0.length=m) (hN:Nx C0 C) (hH:HR P C H) (hx:RT C τ tmps) (h:gcLoop m live τ H=some s) :
  ∃ C',C'.w=C.w/\HR P C' s.2/\Nx C0 C'/\RT C' s.1 tmps/\∀ i u,C'.sh i=some u->u≠.dead->∃ j,C.sh j=some u/\C'.ν i=C.ν j:=by
 simp only [gcLoop,Option.map_eq_some_iff] at h
 obtain ⟨R,hR,h⟩:=h
 split at h
 ·exact sim_gcPack hH0 hm hN hH hx hR h.symm
 ·obtain ⟨C',a,b,c,d,e⟩:=sim_gcSweep hH0 hm hN hH hx hR h.symm
  exact ⟨C',a,b,c,d,fun i u hu hd=>⟨i,e i u hu hd⟩⟩
end
end Go.AM
namespace Go.AM
section
variable {P:Program} {C C0:Ctx} {H H' H0:Heap} {τ τ':Tmps} {nt:Nat}


def TodoR (P:Program) (nt:Nat):List Go.Item->List Item->Prop
 | [],[]=>True
 | .code c::k,.code ic::k'=>CompC P nt c ic/\TodoR P nt k k'
 | .inBlock i::k,.inBlock j::k'=>i=j/\TodoR P nt k k'
 | .inLoop c::k,.inLoop _ ic::k'=>CompC P nt c ic/\TodoR P nt k k'
 | .inScope _::k,.inScope::k'=>TodoR P nt k k'
 | _,_=>False

def plainT:List Go.Item->Bool
 | []=>true
 | .code c::k=>plain c && plainT k
 | .inLoop c::k=>plain c && plainT k
 | _::k=>plainT k

theorem exit_some {id:Nat} {r':List Item}:∀ {k:List Go.Item} {k':List Item},TodoR P nt k k'->exitTo id k'=some r'->∃ r,(∀ tail,Go.exitTo id (k++tail)=some (r++tail))/\TodoR P nt r r'/\(plainT k=true->plainT r=true):=by
 intro k
 induction k with
 | nil =>
  intro k' hk h
  cases k' with
  | nil=>simp [exitTo] at h
  | cons y k'=>simp [TodoR] at hk
 | cons x k ih =>
  intro k' hk h
  cases k' with
  | nil=>cases x<;>simp [TodoR] at hk
  | cons y k' =>
   cases x<;>cases y<;>simp only [TodoR] at hk
   ·simp only [exitTo] at h
    obtain ⟨r,h1,h2,h3⟩:=ih hk.2 h
    exact ⟨r,fun tail=>by simp only [List.cons_append,Go.exitTo];exact h1 tail,h2,fun hp=>h3 (by simp [plainT] at hp;exact hp.2)⟩
   ·obtain ⟨e,hk⟩:=hk
    subst e
    rename_i i
    simp only [exitTo] at h
    by_cases hid:i=id
    ·rw [if_pos hid] at h
     have h:=Option.some.inj h
     refine ⟨k,fun tail=>by simp [Go.exitTo,hid],by rw [<- h];exact hk,fun hp=>by simpa [plainT] using hp⟩
    ·rw [if_neg hid] at h
     obtain ⟨r,h1,h2,h3⟩:=ih hk h
     exact ⟨r,fun tail=>by
      have:(i == id)=false:=by simpa using hid
      simp only [List.cons_append,Go.exitTo,this,Bool.false_eq_true,if_false];exact h1 tail,h2,fun hp=>h3 (by simpa [plainT] using hp)⟩
   ·simp only [exitTo] at h
    obtain ⟨r,h1,h2,h3⟩:=ih hk.2 h
    exact ⟨r,fun tail=>by simp only [List.cons_append,Go.exitTo];exact h1 tail,h2,fun hp=>h3 (by simp [plainT] at hp;exact hp.2)⟩
   ·simp only [exitTo] at h
    obtain ⟨r,h1,h2,h3⟩:=ih hk h
    exact ⟨r,fun tail=>by simp only [List.cons_append,Go.exitTo];exact h1 tail,h2,fun hp=>h3 (by simpa [plainT] using hp)⟩

theorem exit_none {id:Nat}:∀ {k:List Go.Item} {k':List Item},TodoR P nt k k'->exitTo id k'=none->Go.exitTo id k=none
 | [],[],_,h=>rfl
 | [],_::_,hk,h=>by simp [TodoR] at hk
 | x::k,[],hk,h=>by cases x<;>simp [TodoR] at hk
 | .code c::k,.code ic::k',hk,h=>by
  simp only [exitTo] at h;simp only [Go.exitTo];exact exit_none hk.2 h
 | .inLoop c::k,.inLoop l ic::k',hk,h=>by
  simp only [exitTo] at h;simp only [Go.exitTo];exact exit_none hk.2 h
 | .inScope c::k,.inScope::k',hk,h=>by
  simp only [exitTo] at h;simp only [Go.exitTo];exact exit_none hk h
 | .inBlock i::k,.inBlock j::k',hk,h=>by
  obtain ⟨rfl,hk⟩:=hk
  simp only [exitTo] at h
  by_cases hid:i=id
  ·rw [if_pos hid] at h;cases h
  ·rw [if_neg hid] at h
   have:(i == id)=false:=by simpa using hid
   simp only [Go.exitTo,this,Bool.false_eq_true,if_false];exact exit_none hk h


def Marks (lo:Nat) (C:Ctx):List Deferred->Prop
 | []=>True
 | d::ds=>(∃ b,d={ target:=.collected b,args:=#[] }/\lo<=b/\C.w.heap[b]?=some (.deferred (some []))/\(∀ i s,C.sh i=some s->s≠.dead->C.ν i≠b)/\∀ d'∈ds,d'≠{ target:=.collected b,args:=#[] })/\Marks lo C ds

theorem Marks.nx {lo:Nat} {C C':Ctx} (N:Nx C C'):∀ {ds:List Deferred},Marks lo C ds->Marks lo C' ds
 | [],_=>trivial
 | d::ds,⟨⟨b,h1,h0,h2,h3,h4⟩,h5⟩=>by
  have hlt:b<C.w.heap.size:=(Array.getElem?_eq_some_iff.1 h2).1
  refine ⟨⟨b,h1,h0,by rw [N.frame b hlt h3];exact h2,fun i s hs hd e=>?_,h4⟩,Marks.nx N h5⟩
  obtain ⟨j,u,k1,k2,k3⟩:=N.own i s hs hd (by rw [e];exact hlt)
  exact h3 j u k1 k2 (k3.trans e)

theorem Marks.less {lo:Nat} {C C':Ctx} (hw:C'.w=C.w) (hs:∀ i u,C'.sh i=some u->u≠.dead->∃ j,C.sh j=some u/\C'.ν i=C.ν j):∀ {ds:List Deferred},Marks lo C ds->Marks lo C' ds
 | [],_=>trivial
 | d::ds,⟨⟨b,h1,h0,h2,h3,h4⟩,h5⟩=>by
  refine ⟨⟨b,h1,h0,by rw [hw];exact h2,fun i s hs' hd e=>?_,h4⟩,Marks.less hw hs h5⟩
  obtain ⟨j,k1,k2⟩:=hs i s hs' hd
  exact h3 j s k1 hd (k2.symm.trans e)

theorem putObj_env {w:World} {b:Nat} {o o':Obj} (hb:w.heap[b]?=some o) (hc:∀ c t f,o≠.cells c t f) (hc':∀ c t f,o'≠.cells c t f):Env w (w.putObj b o'):=by
 have hlt:b<w.heap.size:=(Array.getElem?_eq_some_iff.1 hb).1
 refine ⟨rfl,rfl,rfl,fun a=>?_⟩
 unfold World.frozen?
 by_cases h:a.block=b
 ·rw [h,World.putObj_heap_same hlt,hb]
  cases o<;>cases o'<;>first | rfl | exact absurd rfl (hc _ _ _) | exact absurd rfl (hc' _ _ _)
 ·rw [World.putObj_heap_other h]

theorem put_free (hH:HR P C H) {b:Nat} {o o':Obj} (hb:C.w.heap[b]?=some o) (hc:∀ c t f,o≠.cells c t f) (hc':∀ c t f,o'≠.cells c t f) (hn:∀ i s,C.sh i=some s->s≠.dead->C.ν i≠b) :
  HR P { C with w:=C.w.putObj b o' } H/\Tr C { C with w:=C.w.putObj b o' } id (fun _=>True) /\
   ∀ j,j≠b->(C.w.putObj b o').heap[j]?=C.w.heap[j]?:=by
 have hlt:b<C.w.heap.size:=(Array.getElem?_eq_some_iff.1 hb).1
 have ho:∀ j,j≠b->(C.w.putObj b o').heap[j]?=C.w.heap[j]?:=fun j hj=>World.putObj_heap_other hj
 have T:Tr C { C with w:=C.w.putObj b o' } id (fun _=>True):=by
  refine ⟨fun b' q h=>⟨h,?_⟩,fun i s _ h=>.inr (.inl ⟨h,rfl⟩)⟩
  by_cases hbb:b'=b
  ·subst hbb
   simp only [World.cell?,World.putObj_heap_same hlt,hb]
   cases o<;>cases o'<;>first | rfl | exact absurd rfl (hc _ _ _) | exact absurd rfl (hc' _ _ _)
  ·simp only [World.cell?,ho b' hbb]
 refine ⟨⟨fun i e h=>?_,hH.out,hH.inj,fun b' q h=>?_⟩,T,ho⟩
 ·have h0:=hH.ent i e h
  obtain ⟨cp,hs⟩:=h0.shape
  have:=RE_tr T h0 (fun _ _=>trivial) rfl rfl (fun hd=>ho _ (hn i _ hs (fun e=>hd (by rw [hs,e])))) (fun o _ h=>h)
  rwa [renE_id] at this
 ·rw [World.putObj_size];exact hH.low b' q h

theorem unmark {fr:Frame} {cs:List Frame} {lo:Nat} (hm:fr.mode=.returning):∀ {ds:List Deferred} {C:Ctx},Marks lo C ds->HR P C H ->
  ∃ w',HR P { C with w:=w' } H/\Tr C { C with w:=w' } id (fun _=>True)/\w'.heap.size=C.w.heap.size/\Env C.w w'/\(∀ j,j<lo->w'.heap[j]?=C.w.heap[j]?) /\
   Steps P (lone { fr with defers:=ds } cs C.w) (lone { fr with defers:=[] } cs w')
 | [],C,_,hH=>⟨C.w,hH,Tr.refl C _,rfl,Env.refl _,fun _ _=>rfl,.refl P _⟩
 | d :: ds,C,⟨⟨b,h1,h0,h2,h3,h4⟩,h5⟩,hH=>by
  obtain ⟨k1,k2,k3⟩:=put_free hH h2 (o':=.deferred none) (by simp) (by simp) h3
  have hM:Marks lo { C with w:=C.w.putObj b (.deferred none) } ds:=by
   have:∀ {ds:List Deferred},Marks lo C ds->(∀ d'∈ds,d'≠{ target:=.collected b,args:=#[] })->Marks lo { C with w:=C.w.putObj b (.deferred none) } ds:=by
    intro ds
    induction ds with
    | nil=>exact fun _ _=>trivial
    | cons d ds ih =>
     rintro ⟨⟨b',e1,e0,e2,e3,e4⟩,e5⟩ hne
     refine ⟨⟨b',e1,e0,?_,e3,e4⟩,ih e5 fun d' hd'=>hne d' (by simp [hd'])⟩
     show (C.w.putObj b (.deferred none)).heap[b']?=_
     rw [k3 b' (fun e=>hne d (by simp) (by rw [e1,e]))];exact e2
   exact this h5 h4
  obtain ⟨w',j1,j2,j3,j6,j4,j5⟩:=unmark hm hM k1
  refine ⟨w',j1,by simpa using k2.comp j2 (fun _ _=>trivial),by rw [j3];simp,(putObj_env h2 (by simp) (by simp)).trans j6,fun j hj=>?_,.head ?_ j5⟩
  ·rw [j4 j hj]
   exact k3 j (by omega)
  ·exact step_collected (fr:={ fr with defers:=d::ds }) (by simp [hm]) rfl (by rw [h1]) (run_takeDeferred h2)


theorem steps_apply {fr F':Frame} {cs:List Frame} {S:Sem Next} {w w1:World} {K:Value->World->Prop}
  (hst:(stepG P true { frame:=fr,callers:=cs,status:=.running,dying:=none } w).bare=(stepG.apply P true F' cs none S w1).bare)
  {l:Nat} {k:List Go.Item} (hk:F'.todo=.inRangeFunc l::k) (h:Goes P S w1 K):∃ v w',K v w'/\Steps P (lone fr cs w) (lone (F'.finish v) cs w'):=by
 rcases h with ⟨v,w',h,hK⟩ | ⟨w',h,hK⟩ | ⟨f,args,w₁,h,hK⟩ | ⟨l,f,tmps,as,bd,w₁,h,hK⟩
 ·exact ⟨v,w',hK,.one (step_lone_go (by rw [hst];simp [stepG.apply,h]))⟩
 ·exact ⟨undef,w',hK,.one (step_lone_go (by rw [hst];simp [stepG.apply,h]))⟩
 ·obtain ⟨e,w'',fr',⟨v,rfl,hK⟩,hsteps,_,hleave⟩:=hK (F'::cs)
  have henter:step P (lone fr cs w)=.next (lone (Frame.enter P f args .normal) (F'::cs) w₁) :=
   step_lone_go (by rw [hst];simp [stepG.apply,h,hk])
  exact ⟨v,w'',hK,.head henter (hsteps.trans (.one (step_leave_returned hleave)))⟩
 ·obtain ⟨v,w',hK,hs⟩:=hK F' cs
  have henter:step P (lone fr cs w)=.next (lone (Frame.round l f tmps as bd .normal) (F'::cs) w₁) :=
   step_lone_go (by rw [hst];simp [stepG.apply,h])
  exact ⟨v,w',hK,.head henter hs⟩

theorem step_range {b:Frame} {a:Act} {k:List Go.Item} {cs:List Frame} {w w1:World} {g:Operand} {ps:Array Tmp} {as bd:Code} {l:Nat} {mark:List Deferred} (he:(Instr.enterLoop b.fn a.tmps ps as bd b.roundOf).run P w=.ok (l,mark) w1) :
  (stepG P true { frame:=b.atR a (.code (.rangeFunc g ps as bd)::k),callers:=cs,status:=.running,dying:=none } w).bare =
   (stepG.apply P true (b.atR { a with defers:=mark++a.defers } (.inRangeFunc l::k)) cs none (do let d <- Deferred.ofValue (a.eval g) #[.func (.yield l) #[] #[]];invoke d.target d.args) w1).bare:=by
 have hev:=Frame.eval_atR b { a with defers:=mark++a.defers } (.inRangeFunc l::k)
 simp only [Frame.atR] at hev
 have hev2:({ tmps:=a.tmps,defers:=mark++a.defers }:Act).eval=a.eval:=by funext x;cases x<;>rfl
 simp only [stepG,stepG.exec,Frame.atR,Sem.runT_eq,he,GStep.bare_after]
 have hres:resolve a.eval { callee:=Go.Callee.value g,args:=#[Operand.const (Value.func (Fn.yield l) #[] #[])],argTypes:=#[] } 0=Go.Deferred.ofValue (a.eval g) #[Value.func (Fn.yield l) #[] #[]]:=by
  simp [resolve,Act.eval]
 rw [hev,hev2,hres]
end
end Go.AM
namespace Go.AM
section
set_option linter.unusedSectionVars false
variable [DecidableEq AVal] {E:Nat->Option IFn} {P:Program}

def Ends (P:Program) (C0:Ctx) (b:Frame) (size:Nat) (tail:List Go.Item) (cs:List Frame) (M:Machine) (j:Option Jump) (τ':Tmps) (H':Heap):Prop :=
 ∃ C' tmps' ds',HR P C' H'/\Nx C0 C'/\RT C' τ' tmps'/\tmps'.size=size/\Marks C0.w.heap.size C' ds' /\
  match j with
  | none=>Steps P M (lone (b.atR ⟨tmps',ds'⟩ tail) cs C'.w)
  | some .ret=>∃ rest,Steps P M (lone (b.atR ⟨tmps',ds'⟩ (.code .ret::rest)) cs C'.w)
  | some (.exit id)=>tail=[]->∃ rest,Go.exitTo id rest=none/\Steps P M (lone (b.atR ⟨tmps',ds'⟩ (.code (.exit id)::rest)) cs C'.w)

theorem Ends.head {C0 b size tail cs M M' j τ' H'} (h:Steps P M M') (k:Ends P C0 b size tail cs M' j τ' H'):Ends P C0 b size tail cs M j τ' H':=by
 obtain ⟨C',tmps',ds',h1,h2,h3,h4,h5,h6⟩:=k
 refine ⟨C',tmps',ds',h1,h2,h3,h4,h5,?_⟩
 cases j with
 | none=>exact h.trans h6
 | some j =>
  cases j with
  | ret=>obtain ⟨rest,h6⟩:=h6;exact ⟨rest,h.trans h6⟩
  | exit id=>exact fun e=>by obtain ⟨rest,h7,h8⟩:=h6 e;exact ⟨rest,h7,h.trans h8⟩

def RunOk (E:Nat->Option IFn) (P:Program) (n:Nat):Prop :=
 ∀ (m:Nat) (k:List Item) (τ:Tmps) (H:Heap) (j:Option Jump) (τ':Tmps) (H':Heap),arun E n m k τ H=some (j,τ',H') ->
  ∀ (C0:Ctx) (H0:Heap) (C:Ctx) (b:Frame) (a:Act) (kr tail:List Go.Item) (cs:List Frame) (nt:Nat),HR P C0 H0->H0.length=m->Nx C0 C->HR P C H->TodoR P nt kr k->RT C τ a.tmps->nt<=a.tmps.size->Marks C0.w.heap.size C a.defers ->
   (b.roundOf=none∨plainT kr=true)->Ends P C0 b a.tmps.size tail cs (lone (b.atR a (kr++tail)) cs C.w) j τ' H'

theorem stepR_scope {b:Frame} {a:Act} {k:List Go.Item} {cs:List Frame} {w:World} {c:Code}:step P (lone (b.atR a (.code (.scope c)::k)) cs w)=.next (lone (b.atR a (.code c::.inScope c::k)) cs w) :=
 step_lone_go (by simp [stepG,stepG.exec,Frame.atR])
theorem stepR_inScope {b:Frame} {a:Act} {k:List Go.Item} {cs:List Frame} {w:World} {c:Code}:step P (lone (b.atR a (.inScope c::k)) cs w)=.next (lone (b.atR a k) cs w) :=
 step_lone_go (by simp [stepG,stepG.exec,Frame.atR])

theorem sim_range_call {n:Nat} {C C0:Ctx} {H:Heap} {τ:Tmps} {nt:Nat} {b:Frame} {a:Act} {k:List Go.Item} {cs:List Frame} {g:Operand} {f:Opd} {ps:Array Tmp} {as bd:Code} {ia ib:ICode} {uses:List Nat} {r:AVal × Heap} (hc:CalleeOk P (acall E n))
  (hN:Nx C0 C) (hH:HR P C H) (hx:RT C τ a.tmps) (hn:nt<=a.tmps.size) (hM:Marks C0.w.heap.size C a.defers) (hround:b.roundOf=none) (hf:opd g=some f) (hps:(∀ p∈ps.toList,p<nt)/\ps.toList.Nodup) (hca:CompP P nt as ia) (hcb:CompP P nt bd ib)
  (h:withCall (acall E n) (ev τ f) [.yld H.length] (H++[.loop 0 none (keep τ uses) ps.toList ia ib])=some r) :
  ∃ C2,HR P C2 r.2/\Nx C0 C2/\Nx C C2/\RT C2 τ a.tmps /\
   Marks C0.w.heap.size C2 ({ target:=.collected C.w.heap.size,args:=#[] }::a.defers)/\(∀ st pd sn p' a' b',r.2[H.length]?=some (.loop st pd sn p' a' b')->C2.sh H.length=some .loop/\C2.ν H.length=C.w.heap.size+1) /\
   Steps P (lone (b.atR a (.code (.rangeFunc g ps as bd)::k)) cs C.w) (lone (b.atR { tmps:=a.tmps,defers:={ target:=.collected C.w.heap.size,args:=#[] }::a.defers } (.endRangeFunc (C.w.heap.size+1)::k)) cs C2.w):=by
 obtain ⟨hA,nA⟩:=alloc_free hH (.deferred (some [])) (Env.new _ _ (by simp))
 let L:Loop:={ state:=.ready,pending:=none,fn:=b.fn,tmps:=a.tmps,params:=ps,assign:=as,body:=bd,defers:=C.w.heap.size }
 let CA:Ctx:={ C with w:=C.w.alloc (.deferred (some [])) }
 have hzA:CA.w.heap.size=C.w.heap.size+1:=World.size_alloc _ _
 let C1:Ctx:={ ν:=upd CA.ν H.length CA.w.heap.size,sh:=upd CA.sh H.length (some .loop),Fz:=CA.Fz,w:=CA.w.alloc (.loop L) }
 have s1:C1.sh H.length=some .loop:=upd_same _ _ _
 have s2:C1.ν H.length=C.w.heap.size+1:=by rw [<- hzA];exact upd_same _ _ _
 have hp:=hA.push (C':=C1) (o:=.loop L) (e:=.loop 0 none (keep τ uses) ps.toList ia ib) (s:=.loop) rfl rfl rfl rfl (fun N=>by
  refine ⟨s1,L,nt,?_,by omega,rfl,rfl,fun t=>?_,hn,rfl,hps,hca,hcb,fun o ho=>?_⟩
  ·show C1.w.heap[C1.ν H.length]?=_
   rw [show C1.ν H.length=CA.w.heap.size from upd_same _ _ _]
   exact heap_new _ _
  ·rcases lk_keep (τ:=τ) t uses with h1 | h1
   ·rw [h1];trivial
   ·rw [h1];exact RV_id (nA.trans N).tr (fun _ _=>trivial) (hx t)
  ·rw [s2] at ho
   have:=hH.low _ _ ho
   omega) (env:=Env.new _ _ (by simp))
 have nC1:=nA.trans hp.2
 have hyl:RV C1 (.yld H.length) (.func (.yield (C.w.heap.size+1)) #[] #[]):=⟨_,rfl,.inr ⟨s1,s2.symm⟩⟩
 have hfv:RV C1 (ev τ f) (a.eval g):=(RO'.of_RT (ds:=a.defers) (hx.nx nC1)).ro g f hf
 have hg:=sim_call hc (args:=[.yld H.length]) (rargs:=#[.func (.yield (C.w.heap.size+1)) #[] #[]]) hp.1 hfv ⟨_,_,rfl,hyl,rfl⟩ h
 have hM1:Marks C0.w.heap.size C1 ({ target:=.collected C.w.heap.size,args:=#[] }::a.defers):=by
  refine ⟨⟨C.w.heap.size,rfl,hN.size,?_,fun i s hs hd e=>?_,fun d' hd' e=>?_⟩,hM.nx nC1⟩
  ·have h1:CA.w.heap[C.w.heap.size]?=some (.deferred (some [])):=heap_new _ _
   show (CA.w.heap.push _)[_]?=_
   rw [Array.getElem?_push,if_neg (by omega)];exact h1
  ·by_cases hi:i=H.length
   ·subst hi
    rw [s2] at e;omega
   ·simp only [C1,upd_ne _ _ hi] at hs e
    have:=hH.block hs hd
    simp only [CA] at e
    omega
  ·-- the other marks are of older blocks
   have:∀ {ds:List Deferred},Marks C0.w.heap.size C ds->∀ d∈ds,∃b,d={ target:=.collected b,args:=#[] }/\b<C.w.heap.size:=by
    intro ds
    induction ds with
    | nil=>simp
    | cons d ds ih =>
     rintro ⟨⟨b,e1,_,e2,_⟩,e3⟩ d' hd'
     rcases List.mem_cons.1 hd' with rfl | hd'
     ·exact ⟨b,e1,(Array.getElem?_eq_some_iff.1 e2).1⟩
     ·exact ih e3 d' hd'
   obtain ⟨b',e1,e2⟩:=this hM d' hd'
   rw [e1] at e
   cases e
   omega
 have he:(Instr.enterLoop b.fn a.tmps ps as bd b.roundOf).run P C.w=.ok (C.w.heap.size+1,[{ target:=.collected C.w.heap.size,args:=#[] }]) C1.w:=by
  rw [hround];exact run_enterLoop_outer b.fn a.tmps ps as bd
 obtain ⟨v,w',⟨C2,rfl,k1,k2,k3⟩,hs⟩:=steps_apply (cs:=cs) (step_range (P:=P) (k:=k) (cs:=cs) (g:=g) he) rfl hg
 have hloop:∀ st pd sn p' a' b',r.2[H.length]?=some (.loop st pd sn p' a' b')->C2.sh H.length=some .loop/\C2.ν H.length=C.w.heap.size+1:=by
  intro st pd sn p' a' b' hr
  obtain ⟨h1,_⟩:=k1.ent _ _ hr
  refine ⟨h1,?_⟩
  have:=k2.tr.sh H.length _ trivial s1
  simp only [id,h1] at this
  rcases this with h2 | ⟨_,h2⟩ | ⟨_,_,_,_,_,h2,_⟩
  ·cases h2
  ·rw [h2,s2]
  ·cases h2
 rw [finish_atR_inRangeFunc] at hs
 exact ⟨C2,k1,hN.trans (nC1.trans k2),nC1.trans k2,hx.nx (nC1.trans k2),hM1.nx k2,hloop,hs⟩
end
end Go.AM
namespace Go.AM
section
set_option linter.unusedSectionVars false
variable [DecidableEq AVal] {E:Nat->Option IFn} {P:Program}

theorem arun_nil {n m τ H}:arun E (n+1) m [] τ H=some (none,τ,H):=by simp only [arun]
theorem arun_inBlock {n m id k τ H}:arun E (n+1) m (.inBlock id::k) τ H=arun E n m k τ H:=by simp only [arun]
theorem arun_inScope {n m k τ H}:arun E (n+1) m (.inScope::k) τ H=arun E n m k τ H:=by simp only [arun]
theorem arun_inLoop {n m live b k τ H}:arun E (n+1) m (.inLoop live b::k) τ H=(gcLoop m live τ H).bind fun s=>arun E n m (.code b::.inLoop live b::k) s.1 s.2:=by simp only [arun]

theorem end_loop {C:Ctx} {H:Heap} {i st:Nat} {pd:Option Jump} {sn:Tmps} {ps:List Nat} {a b:ICode} {τ:Tmps} {tmps:Array Value} (hH:HR P C H) (hi:H[i]?=some (.loop st pd sn ps a b)) (hst:st≠1) (hx:RT C τ tmps) :
  ∃ C' ,(Instr.endLoop (C.ν i)).run P C.w=.ok (jumpCode pd) C'.w/\HR P C' (H.set i .dead)/\Nx C C'/\RT C' τ tmps/\C'.Fz=C.Fz:=by
 obtain ⟨h1,L,nt,h2,h3,h4,h5,h6,h7,h8,h9,h10,h11,h12⟩:=hH.ent i _ hi
 have hil:i<H.length:=(List.getElem?_eq_some_iff.1 hi).1
 have hbz:C.ν i<C.w.heap.size:=hH.block h1 (by simp)
 have hbusy:L.state≠.busy:=by
  rw [h4]
  unfold stateOf
  split
  ·simp
  ·exact absurd rfl hst
  ·simp
 let C':Ctx:={ C with sh:=upd C.sh i (some .dead),w:=C.w.putObj (C.ν i) (.loop { L with state:=.exhausted }) }
 have s1:C'.sh i=some .dead:=upd_same _ _ _
 have hrun:(Instr.endLoop (C.ν i)).run P C.w=.ok (jumpCode pd) C'.w:=by rw [<- h5];exact run_endLoop h2 hbusy
 have hp:=hH.gen (C':=C') (fun j=>j=i) (H':=H.set i .dead)
  (fun j hj=>by rw [List.getElem?_set_ne (fun e=>hj e.symm)])
  (fun j hj=>by simp at hj;simp only [C'];rw [upd_ne _ _ (by omega)];exact hH.out j hj)
  (fun j hj=>by simp only [C'];rw [upd_ne _ _ hj];exact ⟨rfl,trivial⟩)
  (fun j s hj hs hd=>World.putObj_heap_other (fun e=>hj (hH.inj j i _ _ hs hd h1 (by simp) e))) rfl
  (fun b o hf=>by
   by_cases hb:b=C.ν i
   ·subst hb;exact absurd hf (h12 o)
   ·simp only [World.cell?,C',World.putObj_heap_other hb]) (by simp [C'])
  (fun b hb hn=>World.putObj_heap_other (fun e=>hn i _ h1 (by simp) e.symm))
  (fun j s hj hs hd=>by subst hj;rw [s1] at hs;cases hs;exact absurd rfl hd)
  (fun j k s s' hj hk hs hd hs' hd' e=>by rw [hj,hk])
  (fun j s hj hs=>by subst hj;exact .inl s1)
  (fun N j e' hj he'=>by
   subst hj
   rw [List.getElem?_set_self hil] at he'
   cases he';exact s1) (env:=putObj_env h2 (by simp) (by simp))
 exact ⟨C',hrun,hp.1,hp.2,hx.nx hp.2,rfl⟩

theorem compC_inv {nt:Nat} {c:Code} {ic:ICode} (h:CompC P nt c ic) :
  match c with
  | .skip=>ic=.skip
  | .label _=>ic=.skip
  | .region _ ops d=>∃ is,compOpers P ops nt ops.toList=some is/\(if d then ((drawOk (Region.before ops) ((ops.toList.zip is).zipIdx)=true/\ic=.reg is (chkOf (Region.before ops) ((ops.toList.zip is).zipIdx)) []) ∨
    ∃ i0 d0 js,lateOk ops is i0 d0 js=true/\edgesOk ((ops.toList.zip is).zipIdx)=true/\drawOk (Region.before (hoisted ops i0 js)) (((hoisted ops i0 js).toList.zip is).zipIdx)=true /\
     ic=.reg is (chkOf (Region.before (hoisted ops i0 js)) (((hoisted ops i0 js).toList.zip is).zipIdx)) []) else ic=.reg is [] [])
  | .seq a b=>∃ ia ib,CompC P nt a ia/\CompC P nt b ib/\ic=.seq ia ib
  | .cond c a b=>∃ c' ia ib,opd c=some c'/\CompC P nt a ia/\CompC P nt b ib/\ic=.cond c' ia ib
  | .block id b=>∃ ib,CompC P nt b ib/\ic=.block id ib
  | .loop b=>∃ l ib,CompC P nt b ib/\ic=.loop l ib
  | .rangeFunc f ps a b=>∃ f' l ia ib,opd f=some f'/\((∀ p∈ps.toList,p<nt)/\ps.toList.Nodup)/\CompP P nt a ia/\CompP P nt b ib/\ic=.range f' l ps.toList ia ib
  | .exit id=>ic=.exit id
  | .scope b=>∃ ib,CompC P nt b ib/\ic=.scope ib
  | .ret=>ic=.ret
  | _=>False:=by
 obtain ⟨ls,ls',h⟩:=h
 cases c with
 | skip =>
  simp only [compC] at h
  cases h;rfl
 | label l =>
  simp only [compC] at h
  cases h;rfl
 | ret =>
  simp only [compC] at h
  cases h;rfl
 | exit id =>
  simp only [compC] at h
  cases h;rfl
 | region id ops d =>
  simp only [compC] at h
  simp only [Option.bind_eq_some_iff] at h
  obtain ⟨is,hi,h⟩:=h
  refine ⟨is,hi,?_⟩
  cases d with
  | true =>
   simp only [if_true] at h ⊢
   split at h
   ·rename_i h1
    cases h
    exact .inl ⟨h1,rfl⟩
   ·simp only [Option.bind_eq_some_iff] at h
    obtain ⟨i0,_,d0,_,h⟩:=h
    obtain ⟨h1,h⟩:=Option.ite_none_right_eq_some.1 h
    cases h
    simp only [Bool.and_eq_true] at h1
    exact .inr ⟨i0,d0,_,h1.1,h1.2.1,h1.2.2,rfl⟩
  | false=>cases h;rfl
 | seq a b =>
  simp only [compC] at h
  simp only [Option.bind_eq_some_iff,Option.map_eq_some_iff] at h
  obtain ⟨x,hx,y,hy,h⟩:=h
  cases h
  exact ⟨x.1,y.1,⟨_,_,hx⟩,⟨_,_,hy⟩,rfl⟩
 | cond c a b =>
  simp only [compC] at h
  simp only [Option.bind_eq_some_iff,Option.map_eq_some_iff] at h
  obtain ⟨c',hc,x,hx,y,hy,h⟩:=h
  cases h
  exact ⟨c',x.1,y.1,hc,⟨_,_,hx⟩,⟨_,_,hy⟩,rfl⟩
 | block id b =>
  simp only [compC] at h
  simp only [Option.map_eq_some_iff] at h
  obtain ⟨x,hx,h⟩:=h
  cases h
  exact ⟨x.1,⟨_,_,hx⟩,rfl⟩
 | loop b =>
  cases ls with
  | nil=>simp [compC] at h
  | cons l ls =>
   simp only [compC,Option.map_eq_some_iff] at h
   obtain ⟨x,hx,h⟩:=h
   cases h
   exact ⟨l,x.1,⟨_,_,hx⟩,rfl⟩
 | scope b =>
  simp only [compC] at h
  simp only [Option.map_eq_some_iff] at h
  obtain ⟨x,hx,h⟩:=h
  cases h
  exact ⟨x.1,⟨_,_,hx⟩,rfl⟩
 | rangeFunc f ps a b =>
  cases ls with
  | nil=>simp [compC] at h
  | cons l ls =>
   simp only [compC] at h
   obtain ⟨hp,h⟩:=Option.ite_none_left_eq_some.1 h
   simp only [Option.bind_eq_some_iff,Option.map_eq_some_iff] at h
   obtain ⟨f',hf,x,hx,y,hy,h⟩:=h
   cases h
   have hp':((plain a && plain b) && (ps.toList.all fun p=>decide (p<nt)) && decide ps.toList.Nodup)=true:=by
    cases hq:((plain a && plain b) && (ps.toList.all fun p=>decide (p<nt)) && decide ps.toList.Nodup) with
    | true=>rfl
    | false=>rw [hq] at hp;exact absurd rfl hp
   simp only [Bool.and_eq_true] at hp'
   exact ⟨f',l,x.1,y.1,hf,⟨fun p hpm=>by have:=List.all_eq_true.1 hp'.1.2 p hpm;simpa using this,of_decide_eq_true hp'.2⟩,⟨⟨_,_,hx⟩,hp'.1.1.1⟩,⟨⟨_,_,hy⟩,hp'.1.1.2⟩,rfl⟩
 | _=>simp only [compC] at h;cases h

theorem run_step (hmix:P.follows .mixedOrders=true) {n:Nat} (hc:CalleeOk P (acall E n)) (ih:RunOk E P n):RunOk E P (n+1):=by
 intro m k τ H j τ' H' h C0 H0 C b a kr tail cs nt hH0 hm hN hH hT hx hn hM hpl
 cases k with
 | nil =>
  cases kr with
  | cons x kr=>cases x<;>simp [TodoR] at hT
  | nil =>
   rw [arun_nil] at h
   cases h
   exact ⟨C,a.tmps,a.defers,hH,hN,hx,rfl,hM,.refl P _⟩
 | cons y k =>
  cases kr with
  | nil=>simp [TodoR] at hT
  | cons x kr =>
   have hplk:∀ {kr'},(plainT (x::kr)=true->plainT kr'=true)->(b.roundOf=none∨plainT kr'=true):=fun {kr'} hh=>hpl.imp id hh
   cases x<;>cases y<;>simp only [TodoR] at hT
   case inBlock.inBlock i i' =>
    obtain ⟨rfl,hT⟩:=hT
    rw [arun_inBlock] at h
    exact Ends.head (.one stepR_inBlock) (ih m k τ H j τ' H' h C0 H0 C b a kr tail cs nt hH0 hm hN hH hT hx hn hM (hplk fun hp=>by simpa [plainT] using hp))
   case inScope.inScope c =>
    rw [arun_inScope] at h
    exact Ends.head (.one stepR_inScope) (ih m k τ H j τ' H' h C0 H0 C b a kr tail cs nt hH0 hm hN hH hT hx hn hM (hplk fun hp=>by simpa [plainT] using hp))
   case inLoop.inLoop c l ic =>
    rw [arun_inLoop,Option.bind_eq_some_iff] at h
    obtain ⟨s,hs,h⟩:=h
    obtain ⟨C1,w1,k1,k2,k3,k4⟩:=sim_gcLoop hH0 hm hN hH hx hs
    have:=ih m _ s.1 s.2 j τ' H' h C0 H0 C1 b a (.code c::.inLoop c::kr) tail cs nt hH0 hm k2 k1 ⟨hT.1,hT.1,hT.2⟩ k3 hn (hM.less w1 k4) (hplk fun hp=>by simp [plainT] at hp ⊢;exact ⟨hp.1,hp.2⟩)
    rw [w1] at this
    exact Ends.head (.one stepR_inLoop) this
   case code.code c ic =>
    obtain ⟨hcc,hT⟩:=hT
    have hinv:=compC_inv hcc
    cases c<;>simp only [] at hinv
    case skip =>
     subst hinv
     rw [arun_skip] at h
     exact Ends.head (.one stepR_skip) (ih m k τ H j τ' H' h C0 H0 C b a kr tail cs nt hH0 hm hN hH hT hx hn hM (hplk fun hp=>by simp [plainT] at hp;exact hp.2))
    case label l =>
     subst hinv
     rw [arun_skip] at h
     exact Ends.head (.one stepR_label) (ih m k τ H j τ' H' h C0 H0 C b a kr tail cs nt hH0 hm hN hH hT hx hn hM (hplk fun hp=>by simp [plainT] at hp;exact hp.2))
    case region id ops d =>
     obtain ⟨is,hi,hd⟩:=hinv
     have key:∀ {chk flo},ic=.reg is chk flo->(∀ τ1 H1,areg (acall E n) is chk flo τ H=some (τ1,H1)->∃ tmps' C',HR P C' H1/\Nx C C'/\RT C' τ1 tmps'/\tmps'.size=a.tmps.size /\
       Steps P (lone (b.atR a (.code (.region id ops d)::(kr++tail))) cs C.w) (lone (b.atR { tmps:=tmps',defers:=a.defers } (kr++tail)) cs C'.w))->Ends P C0 b a.tmps.size tail cs (lone (b.atR a (.code (.region id ops d)::kr++tail)) cs C.w) j τ' H':=by
      rintro chk flo rfl hk
      rw [arun_reg,Option.bind_eq_some_iff] at h
      obtain ⟨⟨τ1,H1⟩,hs,h⟩:=h
      obtain ⟨tmps',C',k1,k2,k3,k4,k5⟩:=hk τ1 H1 hs
      have:=ih m k τ1 H1 j τ' H' h C0 H0 C' b { tmps:=tmps',defers:=a.defers } kr tail cs nt hH0 hm (hN.trans k2) k1 hT k3 (by simp only [k4];exact hn) (hM.nx k2) (hplk fun hp=>by simp [plainT] at hp;exact hp.2)
      simp only [k4] at this
      exact Ends.head k5 this
     cases d with
     | false =>
      simp only [Bool.false_eq_true,if_false] at hd
      exact key hd fun τ1 H1 hs=>by
       simp only [areg] at hs
       exact sim_region hc hi hH hx hn hs
     | true =>
      simp only [if_true] at hd
      rcases hd with hd | ⟨i0,d0,js,e1,e2,e3,e4⟩
      ·exact key hd.2 fun τ1 H1 hs=>sim_draw hmix hc hi hd.1 hH hx hn hs
      ·exact key e4 fun τ1 H1 hs=>sim_draw2 hmix hc hi e1 e2 e3 hH hx hn hs
    case seq c1 c2 =>
     obtain ⟨ia,ib,ha,hb,rfl⟩:=hinv
     rw [arun_seq] at h
     exact Ends.head (.one stepR_seq) (ih m _ τ H j τ' H' h C0 H0 C b a (.code c1::.code c2::kr) tail cs nt hH0 hm hN hH ⟨ha,hb,hT⟩ hx hn hM (hplk fun hp=>by simp [plainT,plain] at hp ⊢;exact ⟨hp.1.1,hp.1.2,hp.2⟩))
    case cond c c1 c2 =>
     obtain ⟨c',ia,ib,hcd,ha,hb,rfl⟩:=hinv
     rw [arun_cond] at h
     split at h
     ·rename_i t ht
      have hv:=(RO'.of_RT (ds:=a.defers) hx).ro c c' hcd
      rw [ht] at hv
      have hv:a.eval c=.bool t:=hv
      refine Ends.head (.one (stepR_cond hv)) ?_
      cases t with
      | true=>exact ih m _ τ H j τ' H' h C0 H0 C b a (.code c1::kr) tail cs nt hH0 hm hN hH ⟨ha,hT⟩ hx hn hM (hplk fun hp=>by simp [plainT,plain] at hp ⊢;exact ⟨hp.1.1,hp.2⟩)
      | false=>exact ih m _ τ H j τ' H' h C0 H0 C b a (.code c2::kr) tail cs nt hH0 hm hN hH ⟨hb,hT⟩ hx hn hM (hplk fun hp=>by simp [plainT,plain] at hp ⊢;exact ⟨hp.1.2,hp.2⟩)
     ·cases h
    case block id c =>
     obtain ⟨ib,hb,rfl⟩:=hinv
     rw [arun_block] at h
     exact Ends.head (.one stepR_block) (ih m _ τ H j τ' H' h C0 H0 C b a (.code c::.inBlock id::kr) tail cs nt hH0 hm hN hH ⟨hb,rfl,hT⟩ hx hn hM (hplk fun hp=>by simp [plainT,plain] at hp ⊢;exact ⟨hp.1,hp.2⟩))
    case scope c =>
     obtain ⟨ib,hb,rfl⟩:=hinv
     rw [arun_scope] at h
     exact Ends.head (.one stepR_scope) (ih m _ τ H j τ' H' h C0 H0 C b a (.code c::.inScope c::kr) tail cs nt hH0 hm hN hH ⟨hb,hT⟩ hx hn hM (hplk fun hp=>by simp [plainT,plain] at hp ⊢;exact ⟨hp.1,hp.2⟩))
    case loop c =>
     obtain ⟨l,ib,hb,rfl⟩:=hinv
     rw [arun_loop,Option.bind_eq_some_iff] at h
     obtain ⟨s,hs,h⟩:=h
     obtain ⟨C1,w1,k1,k2,k3,k4⟩:=sim_gcLoop hH0 hm hN hH hx hs
     have:=ih m _ s.1 s.2 j τ' H' h C0 H0 C1 b a (.code c::.inLoop c::kr) tail cs nt hH0 hm k2 k1 ⟨hb,hb,hT⟩ k3 hn (hM.less w1 k4) (hplk fun hp=>by simp [plainT,plain] at hp ⊢;exact ⟨hp.1,hp.2⟩)
     rw [w1] at this
     exact Ends.head (.one stepR_loop) this
    case exit id =>
     subst hinv
     rw [arun_exit] at h
     split at h
     ·rename_i k' hk'
      obtain ⟨r,e1,e2,e3⟩:=exit_some hT hk'
      exact Ends.head (.one (stepR_exit (e1 tail))) (ih m _ τ H j τ' H' h C0 H0 C b a r tail cs nt hH0 hm hN hH e2 hx hn hM (hplk fun hp=>by simp [plainT] at hp;exact e3 hp.2))
     ·rename_i hk'
      cases h
      refine ⟨C,a.tmps,a.defers,hH,hN,hx,rfl,hM,fun e=>⟨kr++tail,?_,.refl P _⟩⟩
      rw [e,List.append_nil];exact exit_none hT hk'
    case ret =>
     subst hinv
     rw [arun_ret] at h
     cases h
     exact ⟨C,a.tmps,a.defers,hH,hN,hx,rfl,hM,kr++tail,.refl P _⟩
    case rangeFunc f ps as bd =>
     obtain ⟨f',l,ia,ib,hf,hps,hca,hcb,rfl⟩:=hinv
     have hround:b.roundOf=none:=by
      rcases hpl with hp | hp
      ·exact hp
      ·simp [plainT,plain] at hp
     rw [arun_range,Option.bind_eq_some_iff] at h
     obtain ⟨r,hr,h⟩:=h
     simp only [afterA] at h
     obtain ⟨C2,k1,k2,k2',k3,k4,k5,k6⟩:=sim_range_call (k:=kr++tail) (cs:=cs) hc hN hH hx hn hM hround hf hps hca hcb hr
     split at h
     ·rename_i st pd sn p' a' b' hl
      obtain ⟨hst,h⟩:=Option.ite_none_left_eq_some.1 h
      obtain ⟨s1,s2⟩:=k5 _ _ _ _ _ _ hl
      obtain ⟨C3,e1,e2,e3,e4,e5⟩:=end_loop k1 hl hst k3
      rw [s2] at e1
      have hstep:=stepR_endRangeFunc (b:=b) (a:={ tmps:=a.tmps,defers:={ target:=.collected C.w.heap.size,args:=#[] }::a.defers }) (k:=kr++tail) (cs:=cs) e1
      have hsteps:=k6.trans (.one hstep)
      have hM3:=k4.nx e3
      have hN3:=k2.trans e3
      split at h
      ·simp only [jumpCode,Option.map_none,Option.toList_none,List.nil_append] at hsteps
       have:=ih m k τ _ j τ' H' h C0 H0 C3 b { tmps:=a.tmps,defers:={ target:=.collected C.w.heap.size,args:=#[] }::a.defers } kr tail cs nt hH0 hm hN3 e2 hT e4 hn hM3 (.inl hround)
       exact Ends.head hsteps this
      ·simp only [jumpCode,Option.map_some,Option.toList_some,List.singleton_append] at hsteps
       cases h
       exact ⟨C3,a.tmps,_,e2,hN3,e4,rfl,hM3,kr++tail,hsteps⟩
      ·rename_i id
       simp only [jumpCode,Option.map_some,Option.toList_some,List.singleton_append] at hsteps
       split at h
       ·rename_i k' hk'
        obtain ⟨q,q1,q2,q3⟩:=exit_some hT hk'
        have:=ih m k' τ _ j τ' H' h C0 H0 C3 b { tmps:=a.tmps,defers:={ target:=.collected C.w.heap.size,args:=#[] }::a.defers } q tail cs nt hH0 hm hN3 e2 q2 e4 hn hM3 (.inl hround)
        exact Ends.head (hsteps.trans (.one (stepR_exit (q1 tail)))) this
       ·rename_i hk'
        cases h
        refine ⟨C3,a.tmps,_,e2,hN3,e4,rfl,hM3,fun e=>⟨kr++tail,?_,hsteps⟩⟩
        rw [e,List.append_nil];exact exit_none hT hk'
     ·cases h
end
end Go.AM
namespace Go.AM
section
set_option linter.unusedSectionVars false
variable [DecidableEq AVal] {E:Nat->Option IFn} {P:Program}

theorem lk_number {C:Ctx}:∀ {vs:List AVal} {xs:List Value},RL C vs xs->∀ (i t:Nat),RV C (lk t (number i vs)) (if i<=t then xs.getD (t - i) undef else undef)
 | [],xs,h,i,t=>trivial
 | v :: r,xs,h,i,t=>by
  simp only [RL] at h
  obtain ⟨x,s,rfl,h1,h2⟩:=h
  simp only [number,lk]
  by_cases ht:t=i
  ·subst ht;simp;exact h1
  ·rw [if_neg ht]
   have:=lk_number h2 (i+1) t
   by_cases hle:i<=t
   ·rw [if_pos hle]
    rw [if_pos (by omega)] at this
    have e:t - i=(t - (i+1))+1:=by omega
    rw [e];simpa using this
   ·rw [if_neg hle]
    rw [if_neg (by omega)] at this
    exact this

theorem rt_number {C:Ctx} {vs:List AVal} {xs:Array Value} {n:Nat} (h:RL C vs xs.toList):RT C (number 0 vs) (xs++Array.replicate n undef):=by
 intro t
 have:=lk_number h 0 t
 simp only [Nat.zero_le,if_true,Nat.sub_zero] at this
 have e:(xs++Array.replicate n undef).getD t undef=xs.toList.getD t undef:=by
  rw [Array.getD_eq_getD_getElem?,List.getD_eq_getElem?_getD,Array.getElem?_append]
  split
  ·simp
  ·rename_i hlt
   rw [List.getElem?_eq_none (by simpa using hlt)]
   by_cases h2:t - xs.size<n
   ·simp [h2]
   ·simp [h2]
 rw [e];exact this

theorem results_rel {C:Ctx} {H:Heap} {τ:Tmps} {tmps:Array Value} (hH:HR P C H) (hx:RT C τ tmps):∀ {rs:List ResultVar} {irs:List IRes} {vs:List AVal},compR P rs=some irs->aresults τ H irs=some vs ->
  ∃ xs,(rs.mapM fun | .tmp t=>pure (tmps.getD t undef) | .cell a t=>do loadVar t (<- asAddr (tmps.getD a undef)):Sem (List Value)).run P C.w=.ok xs C.w/\RL C vs xs
 | [],irs,vs,hc,h=>by
  simp only [compR,Option.some.injEq] at hc;subst hc
  simp only [aresults,Option.some.injEq] at h;subst h
  exact ⟨[],rfl,rfl⟩
 | .tmp t::r,irs,vs,hc,h=>by
  simp only [compR,Option.map_eq_some_iff] at hc
  obtain ⟨l,hl,rfl⟩:=hc
  simp only [aresults,Option.map_eq_some_iff] at h
  obtain ⟨ws,hw,rfl⟩:=h
  obtain ⟨xs,h1,h2⟩:=results_rel hH hx hl hw
  refine ⟨tmps.getD t undef::xs,?_,_,_,rfl,hx t,h2⟩
  rw [List.mapM_cons]
  simp only [Sem.run_bind,Sem.run_pure,Result.andThen_ok,h1]
 | .cell a t::r,irs,vs,hc,h=>by
  simp only [compR] at hc
  obtain ⟨hu,hc⟩:=Option.ite_none_right_eq_some.1 hc
  simp only [Option.map_eq_some_iff] at hc
  obtain ⟨l,hl,rfl⟩:=hc
  simp only [aresults,Option.bind_eq_some_iff,Option.map_eq_some_iff] at h
  obtain ⟨v,hv,ws,hw,rfl⟩:=h
  obtain ⟨xs,h1,h2⟩:=results_rel hH hx hl hw
  obtain ⟨d,hd⟩:=Option.isSome_iff_exists.1 hu
  obtain ⟨x,hx1,hx2⟩:=sim_load (t:=t) hH hd rfl rfl (hx a) hv
  have hx3:(do loadVar t (<- asAddr (tmps.getD a undef)):Sem Value).run P C.w=.ok x C.w:=by
   rw [<- hx1]
   generalize tmps.getD a undef=q at hx1 ⊢
   unfold Instr.loadAt at hx1 ⊢
   cases q with
   | pointer p=>cases p with
    | none=>simp [Instr.sureAddr,stuck] at hx1
    | some p=>rfl
   | _=>simp [Instr.sureAddr,stuck] at hx1
  refine ⟨x::xs,?_,_,_,rfl,hx2,h2⟩
  rw [List.mapM_cons]
  simp only [Sem.run_bind,Sem.run_pure,Result.andThen_ok,h1]
  simp only [Sem.run_bind] at hx3
  rw [hx3]
  simp only [Result.andThen_ok,Sem.run_pure]
  rw [h1];rfl

theorem packed_rel {C:Ctx} {vs:List AVal} {xs:List Value} (h:RL C vs xs):RV C (packed vs) (if hh:xs.toArray.size=1 then xs.toArray[0] else .tuple xs.toArray):=by
 have hl:=RL_length h
 unfold packed
 split
 ·rename_i v
  simp only [RL] at h
  obtain ⟨x,s,rfl,h1,h2⟩:=h
  subst h2
  exact h1
 ·rename_i hne
  have:¬ (xs.toArray.size=1):=by
   intro e
   have:vs.length=1:=by rw [<- hl];simpa using e
   obtain ⟨v,hv⟩:=List.length_eq_one_iff.1 this
   exact hne v hv
  rw [dif_neg this]
  exact ⟨_,rfl,h⟩

theorem run_results {C:Ctx} {H:Heap} {τ:Tmps} {fn:Func} {tmps:Array Value} {irs:List IRes} {vs:List AVal} (hH:HR P C H) (hx:RT C τ tmps) (hc:compR P fn.results.toList=some irs) (h:aresults τ H irs=some vs) :
  ∃ x,(results fn tmps).run P C.w=.ok x C.w/\RV C (packed vs) x:=by
 obtain ⟨xs,h1,h2⟩:=results_rel hH hx hc h
 refine ⟨_,?_,packed_rel h2⟩
 unfold results
 rw [Array.mapM_eq_mapM_toList]
 rw [Sem.run_bind,map_eq_pure_bind,Sem.run_bind]
 have:∀ f:ResultVar->Sem Value,(f=fun | .tmp t=>pure (tmps.getD t undef) | .cell a t=>do loadVar t (<- asAddr (tmps.getD a undef)))->(fn.results.toList.mapM f).run P C.w=.ok xs C.w:=fun f e=>by rw [e];exact h1
 rw [this _ (by funext q;cases q<;>rfl)]
 simp only [Result.andThen_ok,Sem.run_pure]

theorem func_ok (hE:∀ f fn,E f=some fn->∃ ls,compF P ls f=some fn) {n:Nat} (ih:RunOk E P n) {id:Nat} {first cap args:List AVal} {H:Heap} {v:AVal} {H':Heap} (h:acall E (n+1) (.func (.func id) first cap) args H=some (v,H'))
    {C:Ctx} {rf:Value} {rargs:Array Value} (hH:HR P C H) (hf:RV C (.func (.func id) first cap) rf) (ha:RL C args rargs.toList) :
    Goes P (do let d <- Deferred.ofValue rf rargs;invoke d.target d.args) C.w (After P C v H'):=by
  rw [acall_func] at h
  simp only [Option.bind_eq_some_iff] at h
  obtain ⟨fn,hfn,⟨j,τ1,H1⟩,hrun,h⟩:=h
  obtain ⟨ls,hcf⟩:=hE id fn hfn
  simp only [compF,Option.bind_eq_some_iff] at hcf
  obtain ⟨fd,hfd,c,hbody,hcf⟩:=hcf
  obtain ⟨hhb,hcf⟩:=Option.ite_none_right_eq_some.1 hcf
  simp only [Option.bind_eq_some_iff,Option.map_eq_some_iff] at hcf
  obtain ⟨x,hx,rs,hrs,rfl⟩:=hcf
  obtain ⟨va,vb,rfl,hva,hvb⟩:=hf
  have hargs:RL C (first++args++cap) (va++rargs++vb).toList:=by
    simp only [Array.toList_append]
    exact RL_append (RL_append hva ha) hvb
  have hen:(do let d <- Deferred.ofValue (.func (.func id) va vb) rargs;invoke d.target d.args:Sem Next).run P C.w=.ok (.enter id (va++rargs++vb)) C.w:=by
    have hb : fd.body.isSome = true ∧ (fd.name == "runtime.NumGoroutine") = false := by
      unfold hasBody at hhb
      rw [hfd] at hhb
      simp only [Bool.and_eq_true,bne_iff_ne,ne_eq] at hhb
      exact ⟨hhb.1,by simpa using hhb.2⟩
    have hb1:fd.body.isNone=false:=by rw [hbody];rfl
    simp only [Deferred.ofValue,pure_bind,invoke,callFunc,Sem.run_bind,run_program,Result.andThen_ok,hfd,hb.2,hb1,Bool.false_eq_true,if_false,Sem.run_pure]
  refine .inr (.inr (.inl ⟨id,_,C.w,hen,fun cs=>?_⟩))
  -- the run of its body
  let b:Frame:={ (default:Frame) with fn:=id,kind:=.normal }
  have henter:Frame.enter P id (va++rargs++vb) .normal=b.atR { tmps:=(va++rargs++vb)++Array.replicate (fd.ntmps - (va++rargs++vb).size) undef,defers:=[] } [.code c]:=by
    simp [Frame.enter,Frame.atR,hfd,hbody,b]
    rfl
  have hends:=ih H.length _ _ H j τ1 H1 hrun C H C b { tmps:=(va++rargs++vb)++Array.replicate (fd.ntmps - (va++rargs++vb).size) undef,defers:=[] } [.code c] [] cs fd.ntmps hH rfl (Nx.refl C) hH ⟨⟨_,_,hx⟩,trivial⟩ (rt_number hargs)
    (by simp only [Array.size_append,Array.size_replicate];omega) trivial (.inl rfl)
  rw [List.append_nil,<- henter] at hends
  obtain ⟨C1,tmps',ds',k1,k2,k3,k4,k5,k6⟩:=hends
  -- to the end of the frame
  have hret:∃ todo,Steps P (lone (Frame.enter P id (va++rargs++vb) .normal) cs C.w) (lone { (b.atR ⟨tmps',ds'⟩ todo) with mode:=.returning } cs C1.w)/\∃ vs,aresults τ1 H1 rs=some vs/\gcRet H.length (packed vs) H1=some (v,H'):=by
    cases j with
    | none =>
      simp only [Option.bind_eq_some_iff] at h
      obtain ⟨vs,hvs,h⟩:=h
      exact ⟨[],Steps.trans k6 (.one (stepR_end rfl)),vs,hvs,h⟩
    | some j =>
      cases j with
      | exit i=>cases h
      | ret =>
        simp only [Option.bind_eq_some_iff] at h
        obtain ⟨vs,hvs,h⟩:=h
        obtain ⟨rest,k6⟩:=k6
        exact ⟨_,Steps.trans k6 (.one (stepR_ret rfl)),vs,hvs,h⟩
  obtain ⟨todo,hs,vs,hvs,hgc⟩:=hret
  obtain ⟨w',u1,u2,u3,u6,u4,u5⟩:=unmark (fr:={ (b.atR ⟨tmps',ds'⟩ todo) with mode:=.returning }) (cs:=cs) rfl k5 k1
  have hx2:RT { C1 with w:=w' } τ1 tmps':=fun t=>RV_id u2 (fun _ _=>trivial) (k3 t)
  have hN2:Nx C { C1 with w:=w' }:=by
    refine ⟨by simpa using k2.tr.comp u2 (fun _ _=>trivial),by simp only [u3];exact k2.size,fun b hb hne=>?_,fun i s hs hd hlt=>k2.own i s hs hd hlt,k2.env.trans u6,fun b o hf=>k2.fzg b o hf⟩
    show w'.heap[b]?=_
    rw [u4 b hb];exact k2.frame b hb hne
  obtain ⟨y,y1,y2⟩:=run_results u1 hx2 hrs hvs
  obtain ⟨C3,w3,g1,g2,g3⟩:=sim_gcRet hH rfl hN2 u1 y2 hgc
  refine ⟨.returned y,w',{ (b.atR ⟨tmps',ds'⟩ todo) with mode:=.returning,defers:=[] },⟨y,rfl,C3,w3,g1,g2,g3⟩,?_,rfl,rfl,rfl,rfl,fd,hfd,y1⟩
  exact Steps.trans hs u5
end
end Go.AM
namespace Go.AM
section
set_option linter.unusedSectionVars false
variable [DecidableEq AVal] {E:Nat->Option IFn} {P:Program}

theorem turn_loop {C:Ctx} {H:Heap} {i st st':Nat} {pd pd':Option Jump} {sn:Tmps} {ps:List Nat} {a b:ICode} (hH:HR P C H) (hi:H[i]?=some (.loop st pd sn ps a b)) (hst:st'<=2) :
  ∃ L:Loop,C.w.heap[C.ν i]?=some (.loop L)/\L.state=stateOf st/\∀ {C':Ctx},C'.w=C.w.putObj (C.ν i) (.loop { L with state:=stateOf st',pending:=jumpCode pd' })->C'.ν=C.ν->C'.sh=C.sh->C'.Fz=C.Fz ->
   HR P C' (H.set i (.loop st' pd' sn ps a b))/\Nx C C':=by
 obtain ⟨h1,L,nt,h2,h3,h4,h5,h6,h7,h8,h9,h10,h11,h12⟩:=hH.ent i _ hi
 have hbz:C.ν i<C.w.heap.size:=hH.block h1 (by simp)
 refine ⟨L,h2,h4,fun {C'} hw hν hsh hF=>?_⟩
 refine hH.turn (s:=.loop) (s':=.loop) hi h1 (by simp) (fun b hb=>by rw [hw];exact World.putObj_heap_other hb) (by rw [hw];simp) hν (by
  rw [hsh]
  funext j
  by_cases hj:j=i
  ·subst hj;rw [upd_same];exact h1
  ·rw [upd_ne _ _ hj]) (by simp) hF (fun o ho=>absurd ho (h12 o)) (.inl rfl) (fun N=>?_) (env:=by rw [hw];exact putObj_env h2 (by simp) (by simp))
 exact ⟨by rw [hsh];exact h1,{ L with state:=stateOf st',pending:=jumpCode pd' },nt,by rw [hν,hw];exact World.putObj_heap_same hbz,hst,rfl,rfl,h6.nx N,h7,h8,h9,h10,h11,fun o ho=>h12 o (by rw [hF,hν] at ho;exact ho)⟩

theorem lk_middle {t p:Nat} {v:AVal} {τ:Tmps}:∀ {A:Tmps},(∀ q∈A,q.1≠p)->lk t (A++(p,v)::τ)=lk t ((p,v)::(A++τ))
 | [],_=>rfl
 | (u,x)::r,h=>by
  have h1:=h (u,x) (by simp)
  have ih:=lk_middle (t:=t) (v:=v) (τ:=τ) (A:=r) (fun q hq=>h q (by simp [hq]))
  simp only [List.cons_append,lk] at ih ⊢
  by_cases e1:t=u
  ·have:¬ (t=p):=fun e=>h1 (e1.symm.trans e)
   simp [e1,h1]
  ·simp only [e1,if_false,ih]

theorem foldl_params {C:Ctx}:∀ {ps:List Nat} {args:List AVal} {xs:List Value} {τ:Tmps} {tmps:Array Value},args.length=ps.length->RL C args xs->RT C τ tmps->(∀ p∈ps,p<tmps.size)->ps.Nodup ->
  RT C (ps.zip args++τ) ((ps.zip xs).foldl (fun tmps (p:Nat × Value)=>tmps.setIfInBounds p.1 p.2) tmps)/\((ps.zip xs).foldl (fun tmps (p:Nat × Value)=>tmps.setIfInBounds p.1 p.2) tmps).size=tmps.size
 | [],args,xs,τ,tmps,hl,ha,hx,hp,hn=>⟨by simpa using hx,by simp⟩
 | p::ps,[],xs,τ,tmps,hl,ha,hx,hp,hn=>by simp at hl
 | p :: ps,v::args,xs,τ,tmps,hl,ha,hx,hp,hn=>by
  simp only [RL] at ha
  obtain ⟨x,s,rfl,h1,h2⟩:=ha
  rw [List.nodup_cons] at hn
  have hx':RT C ((p,v)::τ) (tmps.setIfInBounds p x):=RT.put (a:={ tmps,defers:=[] }) (dst:=some p) hx h1 (fun d e=>by cases e;exact hp p (by simp))
  obtain ⟨j1,j2⟩:=foldl_params (ps:=ps) (args:=args) (τ:=(p,v)::τ) (tmps:=tmps.setIfInBounds p x) (by simpa using hl) h2 hx' (fun q hq=>by simp;exact hp q (by simp [hq])) hn.2
  simp only [List.zip_cons_cons,List.foldl_cons]
  refine ⟨fun t=>?_,by rw [j2];simp⟩
  have:=j1 t
  rw [lk_middle (fun q hq=>by
   have:=(List.of_mem_zip hq).1
   exact fun e=>hn.1 (e ▸ this))] at this
  exact this

theorem yld_ok {n:Nat} (ih:RunOk E P n) {i:Nat} {args:List AVal} {H:Heap} {v:AVal} {H':Heap} (h:acall E (n+1) (.yld i) args H=some (v,H'))
    {C:Ctx} {rf:Value} {rargs:Array Value} (hH:HR P C H) (hf:RV C (.yld i) rf) (ha:RL C args rargs.toList) :
    Goes P (do let d <- Deferred.ofValue rf rargs;invoke d.target d.args) C.w (After P C v H'):=by
  rw [acall_yld] at h
  split at h
  · rename_i pd sn ps ia ib hi
    split at h
    · cases h
    · rename_i hlen
      have hlen:args.length=ps.length:=by simpa using hlen
      simp only [Option.bind_eq_some_iff] at h
      obtain ⟨⟨j1,τ1,H1⟩,hr1,h⟩:=h
      unfold roundBody at h
      split at h
      · cases h
      · rename_i hj1
        simp only [] at hj1
        subst hj1
        split at h
        · rename_i p1 sn1 ps1 a1 b1 hi1
          simp only [Option.bind_eq_some_iff] at h
          obtain ⟨⟨j2,τ2,H2⟩,hr2,h⟩:=h
          unfold roundEnd at h
          split at h
          · rename_i st2 pd2 sn2 ps2 a2 b2 hi2
            simp only [] at hi1 hi2 h hr2
            -- the record
            obtain ⟨h1,L,nt,h2,h3,h4,h5,h6,h7,h8,h9,h10,h11,h12⟩:=hH.ent i _ hi
            obtain ⟨l,rfl,hl⟩:=hf
            rw [h1] at hl
            rcases hl with hl | ⟨_,rfl⟩
            · cases hl
            have hrl:=RL_length ha
            have hsz:(#[]++rargs).size=L.params.size:=by
              have e1:rargs.size=args.length:=by simpa using hrl
              have e2:L.params.size=ps.length:=by rw [<- h8];simp
              simp [e1,e2,hlen]
            have hy:(do let d <- Deferred.ofValue (.func (.yield (C.ν i)) #[] #[]) rargs;invoke d.target d.args:Sem Next).run P C.w=.ok (.round (C.ν i) L.fn ((L.params.zip (#[]++rargs)).foldl (fun tmps (t,a)=>tmps.setIfInBounds t a) L.tmps) L.assign L.body) C.w:=by
              simp only [Deferred.ofValue,pure_bind,invoke]
              exact run_yield h2 hsz
            refine .inr (.inr (.inr ⟨_,_,_,_,_,C.w,hy,fun c cs=>?_⟩))
            have hfold:(L.params.zip (#[]++rargs)).foldl (fun tmps (x:Nat × Value)=>tmps.setIfInBounds x.1 x.2) L.tmps=(ps.zip rargs.toList).foldl (fun tmps (x:Nat × Value)=>tmps.setIfInBounds x.1 x.2) L.tmps:=by
              rw [<- Array.foldl_toList,Array.toList_zip,h8];simp
            obtain ⟨f1,f2⟩:=foldl_params (C:=C) hlen ha h6 (fun p hp=>Nat.lt_of_lt_of_le (h9.1 p hp) h7) h9.2
            rw [<- hfold] at f1 f2
            generalize hT:(L.params.zip (#[]++rargs)).foldl (fun tmps (x:Nat × Value)=>tmps.setIfInBounds x.1 x.2) L.tmps=T at f1 f2
            let b:Frame:={ (default:Frame) with fn:=L.fn,kind:=.normal,roundOf:=some (C.ν i) }
            have hfr:Frame.round (C.ν i) L.fn T L.assign L.body .normal=b.atR { tmps:=T,defers:=[] } ([.code L.assign]++[.beginRound,.code L.body]):=rfl
            rw [hfr]
            -- the assignments
            obtain ⟨C1,T1,ds1,k1,k2,k3,k4,k5,k6⟩:=ih H.length _ _ H none τ1 H1 hr1 C H C b { tmps:=T,defers:=[] } [.code L.assign] [.beginRound,.code L.body] (c::cs) nt hH rfl (Nx.refl C) hH ⟨h10.1,trivial⟩ f1 (by simp only [f2];exact h7) trivial
              (.inr (by simp [plainT,h10.2]))
            simp only [] at k6 k4
            -- the round is begun
            have hν1:C1.ν i=C.ν i:=by
              obtain ⟨e1,_⟩:=k1.ent i _ hi1
              have:=k2.tr.sh i _ trivial h1
              simp only [id,e1] at this
              rcases this with e | ⟨_,e⟩ | ⟨_,_,_,_,_,e,_⟩
              · cases e
              · exact e
              · cases e
            obtain ⟨L1,m1,m2,m3⟩:=turn_loop (st':=1) (pd':=p1) k1 hi1 (by omega)
            have hbz:C1.ν i<C1.w.heap.size:=(Array.getElem?_eq_some_iff.1 m1).1
            have hbeg:=run_beginRound (P:=P) m1 (by rw [m2];rfl)
            rw [hν1] at hbeg
            have hpend:L1.pending=jumpCode p1:=by
              obtain ⟨_,L',_,e1,_,_,e2,_⟩:=k1.ent i _ hi1
              rw [m1] at e1;cases e1;exact e2
            obtain ⟨n1,n2⟩:=m3 (C':={ C1 with w:=C1.w.putObj (C1.ν i) (.loop { L1 with state:=.busy }) }) (by rw [<- hpend];rfl) rfl rfl rfl
            have hst1:=stepR_beginRound (b:=b) (a:={ tmps:=T1,defers:=ds1 }) (k:=[.code L.body]) (cs:=c::cs) rfl hbeg
            -- the body
            have hends:=ih H.length _ _ _ j2 τ2 H2 hr2 C H { C1 with w:=C1.w.putObj (C1.ν i) (.loop { L1 with state:=.busy }) } b { tmps:=T1,defers:=ds1 } [.code L.body] [] (c::cs) nt hH rfl (k2.trans n2) n1 ⟨h11.1,trivial⟩ (k3.nx n2)
              (by simp only [k4,f2];exact h7) (k5.nx n2) (.inr (by simp [plainT,h11.2]))
            obtain ⟨C2,T2,ds2,q1,q2,q3,q4,q5,q6⟩:=hends
            have hν2:C2.ν i=C.ν i:=by
              obtain ⟨e1,_⟩:=q1.ent i _ hi2
              have:=q2.tr.sh i _ trivial h1
              simp only [id,e1] at this
              rcases this with e | ⟨_,e⟩ | ⟨_,_,_,_,_,e,_⟩
              · cases e
              · exact e
              · cases e
            -- the round is ended
            obtain ⟨L2,r1,r2,r3⟩:=turn_loop (st':=if j2.isNone=true then 0 else 2) (pd':=j2) q1 hi2 (by split<;>omega)
            have hend:=run_endRound (P:=P) (jumpCode j2) r1
            rw [hν2] at hend
            have hjn:(jumpCode j2).isNone=j2.isNone:=by
              cases j2 with
              | none=>rfl
              | some j=>cases j<;>rfl
            rw [hjn] at hend
            have hstate:(if j2.isNone=true then LoopState.ready else .done)=stateOf (if j2.isNone=true then 0 else 2):=by split<;>rfl
            rw [hstate,<- hν2] at hend
            obtain ⟨t1,t2⟩:=r3 (C':={ C2 with w:=C2.w.putObj (C2.ν i) (.loop { L2 with state:=stateOf (if j2.isNone=true then 0 else 2),pending:=jumpCode j2 }) }) rfl rfl rfl rfl
            obtain ⟨C3,w3,g1,g2,g3⟩:=sim_gcRet (v:=vbool j2.isNone) (x:=.bool j2.isNone) hH rfl (q2.trans t2) t1 rfl h
            refine ⟨.bool j2.isNone,C3.w,⟨C3,rfl,g1,g2,g3⟩,?_⟩
            rw [w3]
            have hpre:=Steps.trans k6 (.one hst1)
            rw [hν1] at q6
            simp only [List.append_nil] at q6
            rw [hν2] at hend
            rw [hν2]
            cases j2 with
            | none=>exact Steps.trans hpre (Steps.trans q6 (.one (stepR_round_end rfl rfl hend)))
            | some j =>
              cases j with
              | ret =>
                obtain ⟨rest,q6⟩:=q6
                exact Steps.trans hpre (Steps.trans q6 (.one (stepR_round_ret rfl rfl hend)))
              | exit id =>
                obtain ⟨rest,q7,q6⟩:=q6 trivial
                exact Steps.trans hpre (Steps.trans q6 (.one (stepR_round_exit rfl rfl q7 hend)))
          · cases h
        · cases h
  · cases h

theorem sound (hmix:P.follows .mixedOrders=true) (hL:LibsOk P) (hE:∀ f fn,E f=some fn->∃ ls,compF P ls f=some fn):∀ n,CalleeOk P (acall E n)/\RunOk E P n
 | 0=>⟨⟨fun f args H v H' h=>by simp [acall] at h,hL⟩,fun m k τ H j τ' H' h=>by simp [arun] at h⟩
 | n + 1=>by
  obtain ⟨h1,h2⟩:=sound hmix hL hE n
  refine ⟨⟨fun f args H v H' h C rf rargs hH hf ha=>?_,hL⟩,run_step hmix h1 h2⟩
  cases f with
  | func fn first cap =>
   cases fn with
   | func id=>exact func_ok hE h2 h hH hf ha
   | _=>simp [acall] at h
  | yld i=>exact yld_ok h2 h hH hf ha
  | _=>simp [acall] at h
end
end Go.AM
namespace Go.AM
section
variable {H:Type}


def All2 {α β:Type} (R:α->β->Prop):List α->List β->Prop
 | [],[]=>True
 | a::r,b::s=>R a b/\All2 R r s
 | _,_=>False

def FieldsR {α β:Type} (R:TypeId->α->β->Prop):List Field->List α->List β->Prop
 | [],[],[]=>True
 | f::fs,a::r,b::s=>R f.type a b/\FieldsR R fs r s
 | _,_,_=>False

def Dec (P:Program):Nat->TypeId->DataW H->List AVal->Prop
 | 0,_,_,_=>False
 | n+1,t,d,as=>match P.underlying t with
  | some .bool=>∃ b,d=.lit (.bool b)/\as=[.lit (.bool b)]
  | some (.int k)=>∃ v,d=.lit (.int k v)/\(Lit.int k v).wf=true/\as=[.lit (.int k v)]
  | some .string=>∃ s:ByteArray,d=.lit (.string s.data.toList)/\s.size<=maxLen/\as=[.lit (.string s)]
  | some (.slice e)=>(d=.nil/\as=[nilS])∨∃ elems spare rows,d=.slice elems spare/\as=[.imm false false true rows]/\All2 (Dec P n e) elems rows/\rows.length<=maxLen
  | some (.struct fs)=>∃ parts ass,d=.agg parts/\as=ass.flatten/\FieldsR (Dec P n) fs.toList parts ass
  | some (.array m e)=>∃ parts ass,d=.agg parts/\as=ass.flatten/\parts.length=m/\All2 (Dec P n e) parts ass
  | _=>False

def tiles (P:Program):Nat->List Field->Nat->Bool
 | off,[],total=>off == total
 | off,f::r,total=>f.offset == off && tiles P (off+P.cellsOf f.type) r total

def dataT (P:Program):Nat->TypeId->Bool
 | 0,_=>false
 | d+1,t=>match P.underlying t with
  | some .bool | some (.int _) | some .string=>true
  | some (.slice e)=>dataT P d e && P.cellsOf e != 0
  | some (.array n e)=>dataT P d e && P.cellsOf t == n * P.cellsOf e
  | some (.struct fs)=>tiles P 0 fs.toList (P.cellsOf t) && fs.toList.all fun f=>dataT P d f.type
  | _=>false

def startC (w:World):Ctx:={ ν:=fun _=>0,sh:=fun _=>none,Fz:=fun b o=>(w.cell? ⟨b,o,none⟩).isSome=true,w:=w }

theorem startC_ok (P:Program) (w:World):HR P (startC w) []:=by
 refine ⟨by simp,fun _ _=>rfl,fun i j s s' h=>by simp [startC] at h,fun b o h=>?_⟩
 simp only [startC,World.cell?] at h ⊢
 rcases Nat.lt_or_ge b w.heap.size with hlt | hge
 ·exact hlt
 ·rw [Array.getElem?_eq_none hge] at h;simp at h

theorem mapM_spec {α β:Type} {f:α->Option β}:∀ {l:List α} {bs:List β},l.mapM f=some bs->bs.length=l.length/\∀ (i:Nat) (a:α) (b:β),l[i]?=some a->bs[i]?=some b->f a=some b
 | [],bs,h=>by simp at h;subst h;simp
 | x::r,bs,h=>by
  rw [List.mapM_cons] at h
  simp only [bind,Option.bind_eq_some_iff,pure,Option.some.injEq] at h
  obtain ⟨y,hy,ys,hys,rfl⟩:=h
  obtain ⟨h1,h2⟩:=mapM_spec hys
  refine ⟨by simp [h1],fun i a b ha hb=>?_⟩
  cases i with
  | zero=>simp at ha hb;subst ha hb;exact hy
  | succ i=>exact h2 i a b (by simpa using ha) (by simpa using hb)

theorem cells_spec {w:World} {a:Addr} {n:Nat} {cs:List Value} (h:w.cells? 0 a n=some cs):cs.length=n/\∀ i v,cs[i]?=some v->w.cell? (a.add i)=some v:=by
 unfold World.cells? at h
 rw [if_pos (Nat.zero_le _)] at h
 obtain ⟨h1,h2⟩:=mapM_spec h
 have hl:cs.length=n:=by simpa using h1
 refine ⟨hl,fun i v hv=>?_⟩
 have hi:=(List.getElem?_eq_some_iff.1 hv).1
 exact h2 i i v (by rw [List.getElem?_range (by omega)]) hv

theorem all2_map {α β γ:Type} {R:α->β->Prop} {D:γ->α} {f:γ->β}:∀ {l:List γ},(∀ x∈l,R (D x) (f x))->All2 R (l.map D) (l.map f)
 | [],_=>trivial
 | x::r,h=>⟨h x (by simp),all2_map fun y hy=>h y (by simp [hy])⟩

theorem flatL_mem {l:List AVal} (h:∀ a∈l,flatV a=true):flatL l=true:=by
 induction l with
 | nil=>rfl
 | cons a r ih=>rw [flatL,h a (by simp),ih fun b hb=>h b (by simp [hb])];rfl
theorem flatL_flatten {ass:List (List AVal)} (h:∀ a∈ass,flatL a=true):flatL ass.flatten=true:=by
 induction ass with
 | nil=>rfl
 | cons a r ih=>rw [List.flatten_cons,flatL_append,h a (by simp),ih fun b hb=>h b (by simp [hb])];rfl
theorem flatLL_of {ass:List (List AVal)} (h:∀ a∈ass,flatL a=true):flatLL ass=true:=by
 rw [flatLL_flatten];exact flatL_flatten h

variable {enc:TypeId × Value->H} {P:Program} {w:World} {sp:Nat->Bool} {held:Bool}

theorem fields_rel {R:TypeId->DataW H->List AVal->Prop}:∀ {fs:List Field} {off total:Nat} {cs:List Value} {xs:List (DataW H × List MemPlace)},tiles P off fs total=true->cs.length=total->xs.length=fs.length ->
  (∀ (i:Nat) (f:Field) (y:DataW H × List MemPlace),fs[i]?=some f->xs[i]?=some y->∃ as,RL (startC w) as ((cs.drop f.offset).take (P.cellsOf f.type))/\flatL as=true/\(∀ c∈(cs.drop f.offset).take (P.cellsOf f.type),c.oneCell'=true)/\R f.type y.1 as) ->
  ∃ ass,RL (startC w) ass.flatten (cs.drop off)/\flatL ass.flatten=true/\(∀ c∈cs.drop off,c.oneCell'=true)/\FieldsR R fs (xs.map (·.1)) ass
 | [],off,total,cs,xs,ht,hl,hx,h=>by
  have:off=total:=by simpa [tiles] using ht
  have hxs:xs=[]:=List.length_eq_zero_iff.1 (by simpa using hx)
  subst hxs
  refine ⟨[],?_,rfl,?_,trivial⟩
  ·rw [List.drop_eq_nil_of_le (by omega)];rfl
  ·rw [List.drop_eq_nil_of_le (by omega)];simp
 | f::r,off,total,cs,[],ht,hl,hx,h=>by simp at hx
 | f :: r,off,total,cs,y::ys,ht,hl,hx,h=>by
  simp only [tiles,Bool.and_eq_true,beq_iff_eq] at ht
  obtain ⟨as,h1,h2,h3,h4⟩:=h 0 f y rfl rfl
  rw [ht.1] at h1 h3
  obtain ⟨ass,k1,k2,k3,k4⟩:=fields_rel (fs:=r) (xs:=ys) ht.2 hl (by simpa using hx) (fun i g z hg hz=>h (i+1) g z (by simpa using hg) (by simpa using hz))
  have hsplit:cs.drop off=(cs.drop off).take (P.cellsOf f.type)++cs.drop (off+P.cellsOf f.type):=by
   rw [<- List.drop_drop,List.take_append_drop]
  refine ⟨as::ass,?_,?_,fun c hc=>?_,h4,k4⟩
  ·rw [List.flatten_cons,hsplit];exact RL_append h1 k1
  ·rw [List.flatten_cons,flatL_append,h2,k2];rfl
  ·rw [hsplit] at hc
   rcases List.mem_append.1 hc with hc | hc
   ·exact h3 c hc
   ·exact k3 c hc

theorem elems_rel {R:DataW H->List AVal->Prop} {sz:Nat}:∀ {n:Nat} {cs:List Value} {xs:List (DataW H × List MemPlace)},cs.length=n * sz->xs.length=n ->
  (∀ (i:Nat) (y:DataW H × List MemPlace),xs[i]?=some y->∃ as,RL (startC w) as ((cs.drop (i * sz)).take sz)/\flatL as=true/\(∀ c∈(cs.drop (i * sz)).take sz,c.oneCell'=true)/\R y.1 as) ->
  ∃ ass,RL (startC w) ass.flatten cs/\flatL ass.flatten=true/\(∀ c∈cs,c.oneCell'=true)/\All2 R (xs.map (·.1)) ass
 | 0,cs,xs,hl,hx,h=>by
  have hc:cs=[]:=List.length_eq_zero_iff.1 (by simpa using hl)
  have hxs:xs=[]:=List.length_eq_zero_iff.1 hx
  subst hc hxs
  exact ⟨[],rfl,rfl,by simp,trivial⟩
 | n+1,cs,[],hl,hx,h=>by simp at hx
 | n + 1,cs,y::ys,hl,hx,h=>by
  obtain ⟨as,h1,h2,h3,h4⟩:=h 0 y rfl
  simp only [Nat.zero_mul,List.drop_zero] at h1 h3
  rw [Nat.succ_mul] at hl
  obtain ⟨ass,k1,k2,k3,k4⟩:=elems_rel (sz:=sz) (n:=n) (cs:=cs.drop sz) (xs:=ys) (by rw [List.length_drop];omega) (by simpa using hx) (fun i z hz=>by
   have:=h (i+1) z (by simpa using hz)
   rw [show (i+1) * sz=sz+i * sz by rw [Nat.succ_mul];omega,<- List.drop_drop] at this
   exact this)
  refine ⟨as::ass,?_,?_,fun c hc=>?_,h4,k4⟩
  ·rw [List.flatten_cons]
   have:=RL_append h1 k1
   rwa [List.take_append_drop] at this
  ·rw [List.flatten_cons,flatL_append,h2,k2];rfl
  ·rw [<- List.take_append_drop sz cs] at hc
   rcases List.mem_append.1 hc with hc | hc
   ·exact h3 c hc
   ·exact k3 c hc

theorem of_trod:∀ (d:Nat) (t:TypeId) (fuel:Nat) (cs:List Value) (x:DataW H × List MemPlace),dataT P d t=true->DataW.trod enc P w 0 sp held fuel t cs=some x ->
  ∃ as,RL (startC w) as cs/\flatL as=true/\(∀ c∈cs,c.oneCell'=true)/\Dec P d t x.1 as
 | 0,t,fuel,cs,x,hd,h=>by simp [dataT] at hd
 | d + 1, t, fuel,cs,x,hd,h=>by
  rw [dataT] at hd
  simp only [Dec]
  cases hu:P.underlying t with
  | none=>rw [hu] at hd;cases hd
  | some td =>
   rw [hu] at hd
   cases td with
   | bool =>
    obtain ⟨b,rfl,rfl⟩:=DataW.trod_bool hu h
    exact ⟨[.lit (.bool b)],⟨_,[],rfl,rfl,rfl⟩,rfl,by simp [Value.oneCell'],b,rfl,rfl⟩
   | int k =>
    obtain ⟨n,rfl,rfl,hw⟩:=DataW.trod_int hu h
    exact ⟨[.lit (.int k n)],⟨_,[],rfl,rfl,rfl⟩,rfl,by simp [Value.oneCell'],n,rfl,hw,rfl⟩
   | string =>
    obtain ⟨s,rfl,rfl,hs⟩:=DataW.trod_string hu h
    exact ⟨[.lit (.string s)],⟨_,[],rfl,rfl,rfl⟩,rfl,by simp [Value.oneCell'],s,rfl,hs,rfl⟩
   | struct fs =>
    simp only [Bool.and_eq_true] at hd
    obtain ⟨xs,n,rfl,rfl,hl,hxl,hf⟩:=DataW.trod_struct hu h
    obtain ⟨ass,k1,k2,k3,k4⟩:=fields_rel (R:=fun t y as=>Dec P d t y as) (w:=w) hd.1 hl (by simpa using hxl) (fun i f y hfi hy=>by
     have h1:=hf i f (by simpa using hfi)
     rw [hy] at h1
     exact of_trod d f.type n _ y (List.all_eq_true.1 hd.2 f (List.mem_of_getElem? hfi)) h1)
    rw [List.drop_zero] at k1 k3
    exact ⟨_,k1,k2,k3,_,ass,rfl,rfl,k4⟩
   | array n e =>
    simp only [Bool.and_eq_true,beq_iff_eq] at hd
    obtain ⟨xs,m,rfl,rfl,hl,hxl,hf⟩:=DataW.trod_array hu h
    obtain ⟨ass,k1,k2,k3,k4⟩:=elems_rel (R:=fun y as=>Dec P d e y as) (w:=w) (sz:=P.cellsOf e) (n:=n) (by rw [hl,hd.2]) hxl (fun i y hy=>by
     have hi:i<n:=by rw [<- hxl];exact (List.getElem?_eq_some_iff.1 hy).1
     have h1:=hf i hi
     rw [hy] at h1
     exact of_trod d e m _ y hd.1 h1)
    exact ⟨_,k1,k2,k3,_,ass,rfl,rfl,by simpa using hxl,k4⟩
   | slice e =>
    simp only [Bool.and_eq_true,bne_iff_ne,ne_eq] at hd
    rcases DataW.trod_slice hu h with ⟨rfl,rfl⟩ | ⟨a,len,cap,elems,rest,n,rfl,rfl,rfl,_,hlc,hcm,hel,hcell,_,_⟩
    ·refine ⟨[nilS],⟨_,[],rfl,⟨none,0,rfl,Nat.le_refl _,fun _=>rfl,rfl,fun _=>rfl,fun _=>rfl,fun ad e=>by cases e⟩,rfl⟩,rfl,by simp [Value.oneCell'],.inl ⟨rfl,rfl⟩⟩
    ·-- the rows
     have hrow:∀ i,i<len->∃ as cs',w.cells? 0 (a.add (i * P.cellsOf e)) (P.cellsOf e)=some cs'/\RL (startC w) as cs'/\flatL as=true/\(∀ c∈cs',c.oneCell'=true)/\∃ y,elems[i]?=some y/\Dec P d e y.1 as:=by
      intro i hi
      have h1:=hcell i hi
      have h2:∃ y,elems[i]?=some y:=⟨_,List.getElem?_eq_getElem (by omega)⟩
      obtain ⟨y,hy⟩:=h2
      rw [hy,Option.bind_eq_some_iff] at h1
      obtain ⟨cs',hc,ht⟩:=h1
      obtain ⟨as,k1,k2,k3,k4⟩:=of_trod d e n cs' y hd.1 ht
      exact ⟨as,cs',hc,k1,k2,k3,y,hy,k4⟩
     let row:Nat->List AVal:=fun i=>if h:i<len then Classical.choose (hrow i h) else []
     have hrs:∀ i,i<len->∃ cs',w.cells? 0 (a.add (i * P.cellsOf e)) (P.cellsOf e)=some cs'/\RL (startC w) (row i) cs'/\flatL (row i)=true/\(∀ c∈cs',c.oneCell'=true)/\∃ y,elems[i]?=some y/\Dec P d e y.1 (row i):=by
      intro i hi
      have:=Classical.choose_spec (hrow i hi)
      simp only [row,hi,dif_pos]
      exact this
     let rows:=(List.range len).map row
     have hlen:rows.length=len:=by simp [rows]
     have hget:∀ i r,rows[i]?=some r->i<len/\r=row i:=by
      intro i r hr
      simp only [rows,List.getElem?_map,Option.map_eq_some_iff] at hr
      obtain ⟨j,hj,rfl⟩:=hr
      obtain ⟨h1,h2⟩:=List.getElem?_eq_some_iff.1 hj
      simp at h1 h2
      subst h2
      exact ⟨h1,rfl⟩
     have hflat:flatLL rows=true:=flatLL_of fun r hr=>by
      obtain ⟨i,hi⟩:=List.mem_iff_getElem?.1 hr
      obtain ⟨h1,rfl⟩:=hget i r hi
      obtain ⟨_,_,_,h2,_⟩:=hrs i h1
      exact h2
     have hall:All2 (Dec P d e) (elems.map (·.1)) rows:=by
      have he:elems.map (·.1)=(List.range len).map fun i=>(elems.getD i (.nil,[])).1:=by
       apply List.ext_getElem?
       intro i
       simp only [List.getElem?_map]
       by_cases hi:i<len
       ·have:i<elems.length:=by omega
        simp [hi,List.getD_eq_getElem?_getD,List.getElem?_eq_getElem this]
       ·rw [List.getElem?_eq_none (by omega),List.getElem?_eq_none (by simpa using hi)];rfl
      rw [he]
      refine all2_map fun i hi=>?_
      have hi:i<len:=by simpa using hi
      obtain ⟨_,_,_,_,_,y,hy,hdec⟩:=hrs i hi
      rw [List.getD_eq_getElem?_getD,hy]
      exact hdec
     refine ⟨[.imm false false true rows],⟨_,[],rfl,⟨some a,cap,by rw [hlen],by rw [hlen];exact hlc,(fun e=>by cases e),rfl,(fun e=>by cases e),fun _=>hflat,fun ad e hne=>?_⟩,rfl⟩,rfl,by simp [Value.oneCell'],.inr ⟨_,_,rows,rfl,rfl,hall,by rw [hlen];omega⟩⟩
     cases e
     have h0:0<len:=by
      rcases Nat.eq_zero_or_pos len with h0 | h0
      ·exact absurd (List.length_eq_zero_iff.1 (by rw [hlen,h0])) hne
      ·exact h0
     have hspot:a.spot=none:=by
      obtain ⟨cs',hc,_⟩:=hrs 0 h0
      obtain ⟨h1,h2⟩:=cells_spec hc
      have hpos:0<cs'.length:=by rw [h1];exact Nat.pos_of_ne_zero hd.2
      have h3:=h2 0 _ (List.getElem?_eq_getElem hpos)
      simp only [Nat.zero_mul] at h3
      unfold World.cell? at h3
      split at h3
      ·split at h3
       ·cases h3
       ·rename_i hsp
        have:((a.add 0).add 0).spot=a.spot:=by simp [Addr.add]
        rw [this] at hsp
        simpa using hsp
      ·cases h3
     refine ⟨hspot,P.cellsOf e,?_⟩
     have ha:a=⟨a.block,a.off,none⟩:=by cases a;simp_all
     rw [RLL_iff]
     intro j r hr
     obtain ⟨hj,rfl⟩:=hget j r hr
     obtain ⟨cs',hc,k1,k2,k3,_⟩:=hrs j hj
     obtain ⟨h1,h2⟩:=cells_spec hc
     refine ⟨by rw [<- RL_length k1,h1],?_⟩
     rw [RC_iff]
     intro i b hb
     obtain ⟨v,hv,hrv⟩:=RL_get k1 hb
     have h3:=h2 i v hv
     rw [ha,addr_add,addr_add] at h3
     exact ⟨v,h3,by show (w.cell? _).isSome=true;rw [h3];rfl,k3 v (List.mem_of_getElem? hv),hrv⟩
   | _=>cases hd
end
end Go.AM
