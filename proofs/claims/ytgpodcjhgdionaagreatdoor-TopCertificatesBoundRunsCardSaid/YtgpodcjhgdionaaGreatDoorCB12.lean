/- Part 12 of the texts under TopCertificatesBoundRuns. -/
import Derived.WalkKit
import Derived.Laws.Bits64b
import Derived.Test.YtgpodcjhgdionaaGreatDoorCB4
import Derived.Test.YtgpodcjhgdionaaGreatDoorCB5
import Derived.Test.YtgpodcjhgdionaaGreatDoorCB6
import Derived.Test.YtgpodcjhgdionaaGreatDoorCB8
import Derived.Test.YtgpodcjhgdionaaGreatDoorCB9
import Derived.Test.YtgpodcjhgdionaaGreatDoorCB10
import Derived.Test.YtgpodcjhgdionaaGreatDoorCB11
set_option linter.unusedVariables false
set_option maxHeartbeats 4000000
namespace Go.Proofs.YtgpodcjhgdionaaGreatDoor
open Go.Proofs.Tryz
variable {B e x:BitVec 32} {g:GraphD} {k id n v:Nat} {c:List (List Int)} {l:List Int} {ls:List Lk} {p:ProgD}
section
open Go.RowKit
variable {P:Program} {N:Nat} {ops:Array Oper} {lf:Oper->Bool} {Q:SS->Prop}
def ymf (hs:List Nat) (t:Nat->Option AV):Nat->Option AV:=fun x=>match ynr x hs with|true=>(t x).map fun _=>.any|false=>t x
def zzd (hs:List Nat):List (Nat × AV)->List (Nat × AV)
 | []=>[]
 | (x,y)::t=>(x,match ynr x hs with|true=>.any|false=>y)::zzd hs t
theorem zpi {hs:List Nat}:∀ t:List (Nat × AV),yaj (zzd hs t)=ymf hs (yaj t)
 | []=>by funext z;simp only [zzd,ymf,yaj];split <;> rfl
 | (x,y)::t=>by
  have ih:=zpi (hs:=hs) t;funext z;simp only [zzd,yaj];by_cases hz:z=x
  .subst hz;simp only [ymf,qgc];split <;> rfl
  rw [show Nat.beq z x=false from ycr hz];simp only [ih,ymf,show Nat.beq z x=false from ycr hz]
def zwi (okA:AV->Bool) (hs:List Nat):List (Nat × AV)->Bool
 | []=>true
 | (x,y)::t=>(match ynr x hs with|true=>true|false=>okA y) && zwi okA hs t
theorem zeo {okA:AV->Bool} {hs:List Nat}:∀ {t:List (Nat × AV)},zwi okA hs t=true->∀ x y,yaj t x=some y->ynr x hs=false->okA y=true
 | [],_,x,y,h,_=>by simp [yaj] at h
 | (a,b)::t,hl,x,y,h,hm=>by
  simp only [zwi,qac] at hl;simp only [yaj] at h;by_cases hx:x=a
  .subst hx;rw [qgc] at h;cases h;rw [hm] at hl;exact hl.1
  rw [show Nat.beq x a=false from ycr hx] at h;exact zeo hl.2 x y h hm
def zhb (base:List (Nat × AV)) (A:List (Nat × Nat × AV)) (L:Nat->Bool):Nat->Option AV:=fun x=>match A.find? (fun v=>Nat.beq v.2.1 x && L v.1) with|some v=>some v.2.2|none=>yaj base x
def xie (tl:List (Nat × AV)) (op:Op):Bool:=op.operands.toList.all fun x=>match x with
 | .tmp s=>(match yaj tl s with|some _=>Nat.blt s 1000000|none=>false)
 | _=>true
def ztn (T:Nat->Option Ty) (t:List (Nat × AV)) (h:List (Nat × Option LObj)) (op:Op) (ty:TypeId):Option AV:=match op with
 | .nilCheck x=>(match evF (yaj t) x with
  | some (.lp id off)=>(match yti (yac h id) with|some _=>some (.lp id off)|none=>none)
  | some (.dp r o)=>some (.dp r o)
  | _=>none)
 | .indexAddr ti x y=>(match evF (yaj t) x,evF (yaj t) y with
  | some (.sl es rows),some (.v (.int _ i))=>(match T ti with
   | some ⟨.slc _ es' _ _ _,_,_,_⟩=>(match Nat.beq es' es && decide (0<=i) with
    | true=>(match rows[i.toNat]? with
     | some row=>some (.dp row 0)
     | none=>none)
    | false=>none)
   | _=>none)
  | _,_=>ysz T t h (.indexAddr ti x y) ty)
 | op=>ysz T t h op ty
theorem stepN_sound {T:Nat->Option Ty} (hT:TOK P T) {t:List (Nat × AV)} {h:List (Nat × Option LObj)} {op:Op} {ty:TypeId} {r:AV} (hr:ztn T t h op ty=some r):yby P (yac h) (evF (yaj t)) op ty r:=by
 unfold ztn at hr;split at hr
 .split at hr
  .rename_i id off hx;split at hr
   .rename_i xs hc;cases hr;exact ynq hx hc
   cases hr
  .rename_i hx;cases hr;exact ymd hx
  cases hr
 .split at hr
  .rename_i hx hy;split at hr
   .rename_i hk;split at hr
    .rename_i hb;simp only [qac,decide_eq_true_eq] at hb;split at hr
     .rename_i hrow;cases hr;obtain rfl:=qaf hb.1;exact ynp (hT _ _ hk).2.2 hx hy hb.2 hrow
     cases hr
    cases hr
   cases hr
  exact ymb hT hr
 exact ymb hT hr
theorem zgp {T:Nat->Option Ty} (hT:TOK P T) {t:Nat->Option AV} {tl:List (Nat × AV)} {h:List (Nat × Option LObj)} {op:Op} {ty:TypeId} {r:AV} (ht:∀ x y,yaj tl x=some y->t x=some y) (hr:ztn T tl h op ty=some r) (hk:xie tl op=true):yby P (yac h) (evF t) op ty r:=by
 refine (stepN_sound hT hr).congr fun x hx=>?_;have:=List.all_eq_true.1 hk x (by simpa using hx);cases x with
 | tmp s=>
  simp only at this;split at this
  .rename_i y hy;simp only [evF];split
   .rw [ht s y hy,hy]
   rfl
  cases this
 | _=>rfl
def zmz (T:Nat->Option Ty) (ops:Array Oper) (okA:AV->Bool) (req:List (Nat × AV)) (A0:List (Nat × Nat × AV)) (h0 h1:List (Nat × Option LObj)) (hs:List Nat) (base:List (Nat × AV)):List (Nat × Nat × AV)->Prop
 | []=>True
 | a::A=>(∃ (o:Oper) (tl:List (Nat × AV)),ops[a.1]?=some o/\o.dst=some a.2.1/\o.guard=none/\tl=((A0.filter fun b=>yks ops ops.size a.1 b.1).map fun b=>b.2)++req/\ztn T tl h0 o.op o.type=some a.2.2/\ztn T tl h1 o.op o.type=some a.2.2/\xie tl o.op=true/\ynr a.2.1 hs=false/\okA a.2.2=true/\yaj base a.2.1=none)/\zmz T ops okA req A0 h0 h1 hs base A
theorem zmz.get {T:Nat->Option Ty} {okA:AV->Bool} {req:List (Nat × AV)} {A0:List (Nat × Nat × AV)} {h0 h1:List (Nat × Option LObj)} {hs:List Nat} {base:List (Nat × AV)}:∀ {A:List (Nat × Nat × AV)},zmz T ops okA req A0 h0 h1 hs base A->∀ a∈A,∃ (o:Oper) (tl:List (Nat × AV)),ops[a.1]?=some o/\o.dst=some a.2.1/\o.guard=none/\tl=((A0.filter fun b=>yks ops ops.size a.1 b.1).map fun b=>b.2)++req/\ztn T tl h0 o.op o.type=some a.2.2/\ztn T tl h1 o.op o.type=some a.2.2/\xie tl o.op=true/\ynr a.2.1 hs=false/\okA a.2.2=true/\yaj base a.2.1=none
 | [],_,a,h=>by cases h
 | b::A,hA,a,h=>by
  rcases qas.1 h with rfl|h
  .exact hA.1
  exact zmz.get hA.2 a h
def xad (base:List (Nat × AV)) (hs:List Nat) (d:Nat):List (Nat × AV)->Prop
 | []=>True
 | (x,y)::r=>(yaj base x=some y/\ynr x hs=false/\Nat.beq x d=false)/\xad base hs d r
theorem xad.get {base:List (Nat × AV)} {hs:List Nat} {d:Nat}:∀ {r:List (Nat × AV)},xad base hs d r->∀ x y,(x,y)∈r->yaj base x=some y/\ynr x hs=false/\x≠d
 | [],_,x,y,h=>by cases h
 | (u,v)::r,hr,x,y,h=>by
  rcases qas.1 h with e|h
  .cases e;exact ⟨hr.1.1,hr.1.2.1,fun e=>by have:=hr.1.2.2;rw [e,qgc] at this;cases this⟩
  exact xad.get hr.2 x y h
theorem beqN {a b:Nat} (h:Nat.beq a b=true):a=b:=qaf h
section
variable {base:List (Nat × AV)} {A:List (Nat × Nat × AV)} {L:Nat->Bool}
theorem zmk (hb:∀ a∈A,yaj base a.2.1=none) {x:Nat} {y:AV} (h:yaj base x=some y):zhb base A L x=some y:=by
 unfold zhb;split
 .rename_i v hv;have h1:=qeu hv;have h2:=List.find?_some hv;simp only [qac] at h2;have:=hb v h1;rw [beqN h2.1,h] at this;cases this
 exact h
theorem find_nd (hd:(A.map (·.2.1)).Nodup) {a:Nat × Nat × AV} (ha:a∈A) (hL:L a.1=true):A.find? (fun v=>Nat.beq v.2.1 a.2.1 && L v.1)=some a:=by
 induction A with
 | nil=>cases ha
 | cons b A ih=>
  rw [qcl,qde] at hd;rw [qfk];rcases qas.1 ha with rfl|ha
  .simp [hL]
  have hne:b.2.1≠a.2.1:=fun e=>hd.1 (by rw [e];exact qag.2 ⟨a,ha,rfl⟩);rw [show Nat.beq b.2.1 a.2.1=false from ycr hne];simp only [qdx];exact ih hd.2 ha
theorem xed (hd:(A.map (·.2.1)).Nodup) {a:Nat × Nat × AV} (ha:a∈A) (hL:L a.1=true):zhb base A L a.2.1=some a.2.2:=by
 unfold zhb;rw [find_nd hd ha hL]
theorem xec (hd:(A.map (·.2.1)).Nodup) (hi:(A.map (·.1)).Nodup) {a:Nat × Nat × AV} (ha:a∈A):zhb base A (fun k=>if k=a.1 then true else L k)=yfk (zhb base A L) (some a.2.1) a.2.2:=by
 funext x;simp only [yfk];by_cases hx:x=a.2.1
 .subst hx;rw [if_pos rfl];exact xed hd ha sm
 rw [if_neg hx];unfold zhb;have:∀ l:List (Nat × Nat × AV),(∀ b∈l,b∈A)->l.find? (fun v=>Nat.beq v.2.1 x && (if v.1=a.1 then true else L v.1))=l.find? (fun v=>Nat.beq v.2.1 x && L v.1):=by
  intro l hl;induction l with
  | nil=>rfl
  | cons b l ih=>
   rw [qfk,qfk,ih fun c hc=>hl c (by simp [hc])];by_cases hb:b.1=a.1
   .have hba:b=a:=by
     have h1:=hl b sm;obtain ⟨i,hi1⟩:=qan h1;obtain ⟨j,hj1⟩:=qan ha;have hlt:=(qaa.1 hi1).1;have:=(List.getElem?_inj (i:=i) (j:=j) (by simpa using hlt) hi).1 (by rw [qah,qah,hi1,hj1];simp [hb]);subst this;rw [hi1] at hj1;exact Option.some.inj hj1
    subst hba;rw [show Nat.beq b.2.1 x=false from ycr (Ne.symm hx)];rfl
   rw [if_neg hb]
 rw [this A fun b hb=>hb]
theorem tbl_all (hL:∀ a∈A,L a.1=true):zhb base A L=yaj (A.map (fun a=>a.2)++base):=by
 funext x;unfold zhb;induction A with
 | nil=>rfl
 | cons a A ih=>
  rw [qfk,hL a sm,qfl,qcl,qax];have ih:=ih fun b hb=>hL b (by simp [hb]);obtain ⟨i,q,v⟩:=a;simp only [yaj];by_cases hx:x=q
  .subst hx;simp
  rw [show Nat.beq q x=false from ycr (Ne.symm hx),show Nat.beq x q=false from ycr hx];exact ih
theorem hide_upd {hs:List Nat} {d:Nat} {t:Nat->Option AV} {v:AV} (hv:ynr d hs=false):ymf hs (yfk t (some d) v)=yfk (ymf hs t) (some d) v:=by
 funext x;by_cases hx:x=d
 .subst hx;simp [ymf,yfk,hv]
 simp [ymf,yfk,hx]
theorem zor {hs:List Nat} {t:Nat->Option AV} {x:Nat} {v:AV} (h:t x=some v) (hv:ynr x hs=false):ymf hs t x=some v:=by simp [ymf,h,hv]
theorem zvx {okA:AV->Bool} {hs:List Nat} {t:Nat->Option AV} (h:∀ x y,t x=some y->ynr x hs=false->okA y=true) {x:Nat} {y:AV} (hx:ymf hs t x=some y):y=.any\/(t x=some y/\okA y=true):=by
 simp only [ymf] at hx;split at hx
 .cases ht:t x with
  | none=>rw [ht] at hx;cases hx
  | some u=>rw [ht] at hx;cases hx;exact .inl rfl
 rename_i hm;exact .inr ⟨hx,h x y hx hm⟩
theorem zos {hs:List Nat} {t:Nat->Option AV} {x:Nat} {y:AV} (hx:ymf hs t x=some y):∃ z,t x=some z:=by
 simp only [ymf] at hx;split at hx
 .cases ht:t x with
  | none=>rw [ht] at hx;cases hx
  | some u=>exact ⟨u,rfl⟩
 exact ⟨y,hx⟩
end
theorem xca:∀ {l:List Nat} {listed:Array Bool} {k:Nat},(yiy l listed).getD k false=true->listed.getD k false=true\/k∈l
 | [],listed,k,h=>.inl h
 | x::l,listed,k,h=>by
  rcases xca (l:=l) h with h|h
  .by_cases hx:x=k
   .exact .inr (by simp [hx])
   refine .inl ?_;rw [qaw,qbz,if_neg hx] at h;rw [qaw];exact h
  exact .inr (by simp [h])
theorem zuj:∀ {l:List Nat} {listed:Array Bool},(yiy l listed).size=listed.size
 | [],_=>rfl
 | x::l,listed=>by rw [yiy,zuj,qfr]
theorem zry:∀ {l:List Nat} {listed:Array Bool} {k:Nat},(listed.getD k false=true\/(k∈l/\k < listed.size))->(yiy l listed).getD k false=true
 | [],listed,k,h=>by
  rcases h with h|h
  .exact h
  cases h.1
 | x::l,listed,k,h=>by
  refine zry (l:=l) ?_;by_cases hx:x=k
  .subst hx;left;rcases h with h|h
   .rw [qaw,qbz,if_pos rfl];rw [qaw] at h;by_cases hs:x < listed.size
    .rw [if_pos hs];rfl
    rw [qdw om] at h;cases h
   rw [qaw,qbz,if_pos rfl,if_pos h.2];rfl
  rcases h with h|h
  .left;rw [qaw,qbz,if_neg hx];rw [qaw] at h;exact h
  right;rw [qfr];exact ⟨by simpa [Ne.symm hx] using h.1,h.2⟩
theorem arr_extD {a b:Array Bool} (hs:a.size=b.size) (h:∀ k,k < a.size->a.getD k false=b.getD k false):a=b:=by
 apply Array.ext hs;intro i h1 h2;have:=h i h1;rw [qaw,qaw,qbr h1,qbr h2] at this;simpa using this
def zpd (W:List Nat) (L:Nat->Bool):Nat:=(W.filter fun k=>!L k).length
theorem left_zero {W:List Nat} {L:Nat->Bool} (h:zpd W L=0):∀ k∈W,L k=true:=fun k hk=>by
 have:=List.filter_eq_nil_iff.1 (qaz h) k hk;simpa using this
theorem left_pos {W:List Nat} {L:Nat->Bool} {n:Nat} (h:zpd W L=n+1):∃ k∈W,L k=false:=by
 unfold zpd at h;obtain ⟨k,l,e⟩:=List.exists_cons_of_length_eq_add_one h;have:k∈W.filter fun k=>!L k:=by rw [e];simp
 obtain ⟨h1,h2⟩:=qdq.1 this;exact ⟨k,h1,by simpa using h2⟩
theorem left_set {W:List Nat} {L:Nat->Bool} (hnd:W.Nodup) {i:Nat} (hi:i∈W) (hL:L i=false):zpd W (fun k=>if k=i then true else L k)+1=zpd W L:=by
 unfold zpd;induction W with
 | nil=>cases hi
 | cons b W ih=>
  rw [qde] at hnd;rcases qas.1 hi with rfl|hi
  .have:W.filter (fun k=>!(if k=i then true else L k))=W.filter fun k=>!L k:=qfz fun k hk=>by
    have:k≠i:=fun e=>hnd.1 (e ▸ hk);simp [this]
   rw [qfc sm,this,qdt (by simp [hL]),qaj]
  have hb:b≠i:=fun e=>hnd.1 (e ▸ hi);have:=ih hnd.2 hi;cases hb2:L b with
  | true=>
   rw [qfc (by simp [hb,hb2]),qfc (by simp [hb2])];exact this
  | false=>
   rw [qdt (by simp [hb,hb2]),qdt (by simp [hb2]),qaj,qaj,this]
def postOk (ops:Array Oper) (listed:Array Bool) (W:List Nat):Bool:=(List.range ops.size).all fun i=>listed.getD i false || ynr i W || W.all fun w=>yks ops ops.size i w
theorem hide_nil {t:Nat->Option AV}:ymf [] t=t:=rfl
theorem zpl {T:Nat->Option Ty} (hT:TOK P T) {o:Oper} {ti e es eb sz d:Nat} {ea ag:Bool} {ez z:List Value} {x y:Operand} {m:Nat} {t:Nat->Option AV} {h:List (Nat × Option LObj)} (id:Nat) (hl:∀ x y,t x=some y->ynr x []=false->(!ment id y)=true) (ho:o.op=.makeSlice ti x y) (hd:o.dst=some d) (hdN:Nat.blt d N=true) (hk:T ti=some ⟨.slc e es ea eb ez,sz,ag,z⟩) (hone:ez.all Value.oneCell'=true)
  (hx:evF t x=some (.v (.int .i64 m))) (hy:evF t y=some (.v (.int .i64 m))) (hm:m<=4294967296/\eb * m<=281474976710656) (h2:ybv id h=true):yco P N o ⟨t,yac h⟩ (·=⟨yfk (ymf [] t) (some d) (.ls id es m),yac ((id,some (.vec (ykr m (yit ez))))::h)⟩):=by
 have hf:=yhj (t:=[]) (id:=id) rfl h2;rw [hide_nil,<- ysc];exact ywe hT ho hd (by simpa using hdN) id hk hone hx hy hm ⟨hf.1,fun x y hx=>by simpa using hl x y hx rfl,hf.2.2⟩
theorem zbj {T:Nat->Option Ty} (hT:TOK P T) (okA:AV->Bool) (A:List (Nat × Nat × AV)) (j d:Nat) (hs:List Nat) (z:AV) {oj:Oper} {base req:List (Nat × AV)} {h0 h1:List (Nat × Option LObj)} (fuel:Nat) {n:Nat} {listed:Array Bool}
  (hn:n=fuel+(A.length+1)) (hsz:listed.size=ops.size) (hbk:znn 0 ops.toList=true) (hW:ydm (j::A.map (·.1))=true) (hdn:ydm (A.map (·.2.1))=true) (hfree:((j::A.map (·.1)).all fun k=>!listed.getD k false)=true) (hpost:postOk ops listed (j::A.map (·.1))=true)
  (hd:(A.all fun a=>!Nat.beq a.2.1 d)=true) (hreq:xad base hs d req) (hbl:zwi okA hs base=true) (hA:zmz T ops okA req A h0 h1 hs base A) (hoj:ops[j]?=some oj) (hgj:oj.guard=none) (hlj:lf oj=true)
  (hloud:∀ t:Nat->Option AV,(∀ x y,yaj base x=some y->t x=some y)->(∀ x y,t x=some y->ynr x hs=false->okA y=true)->yco P N oj ⟨t,yac h0⟩ (·=⟨yfk (ymf hs t) (some d) z,yac h1⟩))
  (k:xej P N ops lf Q fuel (yiy (j::A.map (·.1)) listed) (S ((d,z)::zzd hs (A.map (fun a=>a.2)++base)) h1)):xej P N ops lf Q n listed (S base h0):=by
 intro hDst hcl;have hback:∀ (k:Nat) (o:Oper),ops[k]?=some o->∀ e∈o.after,Region.binds .any e=true->e.on < k:=fun k o ho e he hb=>by
  have:=zdg hbk k o (by simpa using ho) e he hb;omega
 have hWn:(j::A.map (·.1)).Nodup:=ylx hW;have hdN:(A.map (·.2.1)).Nodup:=ylx hdn;have hiN:(A.map (·.1)).Nodup:=(qde.1 hWn).2;have hjA:∀ a∈A,a.1≠j:=fun a ha e=>(qde.1 hWn).1 (qag.2 ⟨a,ha,e⟩);have hbn:∀ a∈A,yaj base a.2.1=none:=fun a ha=>by
  obtain ⟨_,_,_,_,_,_,_,_,_,_,_,h⟩:=hA.get a ha;exact h
 have hdA:∀ a∈A,a.2.1≠d:=fun a ha e=>by
  have:=List.all_eq_true.1 hd a ha;rw [e,qgc] at this;cases this
 generalize hWe:j::A.map (·.1)=W at *;have hWj:j∈W:=by rw [<- hWe];simp
 have hWA:∀ a∈A,a.1∈W:=fun a ha=>by rw [<- hWe];simp;exact .inr ⟨_,_,ha⟩
 have hWc:∀ i∈W,i=j\/∃ a∈A,a.1=i:=fun i hi=>by
  rw [<- hWe] at hi;rcases qas.1 hi with h|h
  .exact .inl h
  obtain ⟨a,ha,e⟩:=qag.1 h;exact .inr ⟨a,ha,e⟩
 have hlen:W.length=A.length+1:=by rw [<- hWe];simp
 have hWs:∀ i∈W,i < listed.size:=fun i hi=>by
  rw [hsz];rcases hWc i hi with rfl|⟨a,ha,rfl⟩
  .exact (qbd.1 hoj).1
  obtain ⟨o,_,ho,_⟩:=hA.get a ha;exact (qbd.1 ho).1
 -- the states
 let st:(Nat->Bool)->SS:=fun L=>if L j then ⟨yfk (ymf hs (zhb base A L)) (some d) z,yac h1⟩ else ⟨zhb base A L,yac h0⟩
 have main:∀ (r:Nat) (L:Nat->Bool) (lst:Array Bool),zpd W L=r->lst.size=listed.size->ytb ops lst->(∀ i,i < listed.size->lst.getD i false=(listed.getD i false || (ynr i W && L i)))->xak P N ops lf Q (fuel+r) lst (st L):=by
  intro r;induction r with
  | zero=>
   intro L lst hr hsz2 hc hlst;have hall:=left_zero hr;have e1:lst=yiy W listed:=arr_extD (by rw [zuj,hsz2]) fun i hi=>by
    rw [hsz2] at hi;rw [hlst i hi];by_cases hiW:i∈W
    .rw [ydy.2 hiW,hall i hiW,zry (.inr ⟨hiW,hi⟩)];simp
    rw [show ynr i W=false by rw [<- qbv,ydy];exact hiW];simp only [qdx,qdv];cases hb:listed.getD i false with
    | true=>exact (zry (.inl hb)).symm
    | false=>
     cases hb2:(yiy W listed).getD i false with
     | false=>rfl
     | true=>
      rcases xca hb2 with h|h
      .rw [hb] at h;cases h
      exact absurd h hiW
   have e2:st L=S ((d,z)::zzd hs (A.map (fun a=>a.2)++base)) h1:=by
    simp only [st,hall j hWj,if_true];rw [tbl_all fun a ha=>hall _ (hWA a ha),<- zpi,ydh];rfl
   rw [e1,e2];exact k hDst (e1 ▸ hc)
  | succ r ih=>
   intro L lst hr hsz2 hc hlst;obtain ⟨w0,hw0,hL0⟩:=left_pos hr;have hget:∀ i,i < ops.size->lst[i]?=some (lst.getD i false):=fun i hi=>by
    rw [qaw,qbr (show i < lst.size by omega)];rfl
   -- the one that runs is one of these
   have key:∀ i∈Region.ready .any ops lst,i∈W/\L i=false:=by
    intro i hi;obtain ⟨g1,o,ho,g2⟩:=mem_ready.1 hi;have hlt:=(qbd.1 ho).1;have hf:lst.getD i false=false:=by
     rw [qaw,hget i hlt] at g1;simpa using g1
    have hf2:=hlst i om;rw [hf] at hf2;have hf2:=qei.1 hf2.symm;have hp:=List.all_eq_true.1 hpost i (qca.2 hlt);rw [hf2.1,qfa,qcm] at hp;rcases hp with hp|hp
    .rw [hp,qfv] at hf2;exact ⟨ydy.1 hp,hf2.2⟩
    exfalso;have h1:=List.all_eq_true.1 hp w0 hw0;have h2:=ymy hc _ _ _ o ho g2 h1;rw [hlst w0 (hWs w0 hw0),ydy.2 hw0,hL0] at h2;have h3:=List.all_eq_true.1 hfree w0 hw0;rw [qch,qdv] at h2;rw [h2] at h3;cases h3
   refine ⟨fun hnil=>?_,fun i hi=>?_⟩
   .exfalso;have hall:∀ i,i < ops.size->lst.getD i false=true:=by
     intro i;induction i using Nat.strongRecOn with
     | _ i ih2=>
      intro hi;cases hb:lst.getD i false with
      | true=>rfl
      | false=>
       have ho:ops[i]?=some (ops[i]'hi):=qbr hi;have:i∈Region.ready .any ops lst:=mem_ready.2 ⟨by rw [qaw,hget i hi,hb];rfl,_,ho,fun e he hbd=>by
        have h9:=hback i _ ho e he hbd
        exact ih2 e.on h9 om⟩
       rw [hnil] at this;cases this
    have h2:=hall w0 (by rw [<- hsz];exact hWs w0 hw0);rw [hlst w0 (hWs w0 hw0),ydy.2 hw0,hL0] at h2;have h3:=List.all_eq_true.1 hfree w0 hw0;rw [qch,qdv] at h2;rw [h2] at h3;cases h3
   obtain ⟨hiW,hiL⟩:=key i hi;have hc':=hc.set hi;have hnext:=ih (fun k=>if k=i then true else L k) (lst.setIfInBounds i true) (by have:=left_set hWn hiW hiL;omega) (by rw [qfr];exact hsz2) hc' (fun q hq=>by
    rw [qaw,qbz]
    by_cases hqi:i=q
    .subst hqi
     rw [if_pos rfl,if_pos om,ydy.2 hiW];simp
    rw [if_neg hqi,if_neg (fun e=>hqi e.symm),<- hlst q hq,qaw])
   rcases hWc i hiW with rfl|⟨a,ha,rfl⟩
   .refine aOp_loud hoj (hDst _ _ hoj) hgj hlj (s':=st fun k=>if k=i then true else L k) ?_ hnext;have e1:st L=⟨zhb base A L,yac h0⟩:=by simp only [st,hiL];rfl
    have e2:st (fun k=>if k=i then true else L k)=⟨yfk (ymf hs (zhb base A L)) (some d) z,yac h1⟩:=by
     simp only [st,if_true];have:zhb base A (fun k=>if k=i then true else L k)=zhb base A L:=by
      funext x;unfold zhb;have:∀ l:List (Nat × Nat × AV),(∀ b∈l,b∈A)->l.find? (fun v=>Nat.beq v.2.1 x && (if v.1=i then true else L v.1))=l.find? (fun v=>Nat.beq v.2.1 x && L v.1):=by
       intro l hl;induction l with
       | nil=>rfl
       | cons b l ih=>rw [qfk,qfk,ih fun c hc=>hl c (by simp [hc]),if_neg (hjA b (hl b sm))]
      rw [this A fun b hb=>hb]
     rw [this]
    rw [e1,e2];refine hloud _ (fun x y hx=>zmk hbn hx) fun x y hx hm=>?_;unfold zhb at hx;split at hx
    .rename_i v hv;cases hx;obtain ⟨_,_,_,_,_,_,_,_,_,_,hlw,_⟩:=hA.get v (qeu hv);exact hlw
    exact zeo hbl x y hx hm
   obtain ⟨o,tl,ho,hod,hog,htl,hr0,hr1,hkn,hm,_,_⟩:=hA.get a ha;obtain ⟨_,o2,ho2,g2⟩:=mem_ready.1 hi;rw [ho] at ho2;cases ho2
   -- the operands stand where they should
   have hdep:∀ b∈A,yks ops ops.size a.1 b.1=true->L b.1=true:=fun b hb hw=>by
    have h2:=ymy hc _ _ _ o ho g2 hw;rw [hlst b.1 (hWs _ (hWA b hb)),ydy.2 (hWA b hb),qfv] at h2;have h3:=List.all_eq_true.1 hfree b.1 (hWA b hb);cases hlb:listed.getD b.1 false with
    | true=>rw [hlb] at h3;cases h3
    | false=>rw [hlb,qfa] at h2;exact h2
   have hmem:∀ x y,yaj tl x=some y->(∃ b∈A,L b.1=true/\b.2=(x,y))\/(x,y)∈req:=fun x y hx=>by
    have hx:=zwh hx;rw [htl] at hx;rcases qau.1 hx with h|h
    .obtain ⟨b,hb,e⟩:=qag.1 h;obtain ⟨hb1,hb2⟩:=qdq.1 hb;exact .inl ⟨b,hb1,hdep b hb1 hb2,e⟩
    exact .inr h
   have hadd:st (fun k=>if k=a.1 then true else L k)=⟨yfk (st L).t o.dst a.2.2,(st L).h⟩:=by
    rw [hod];have hja:(j=a.1)=False:=by simp;exact fun e=>hjA a ha e.symm
    simp only [st,hja,if_false];cases hj:L j with
    | false=>simp only [qbl,if_false];rw [xec hdN hiN ha]
    | true=>
     simp only [if_true];rw [xec hdN hiN ha,hide_upd hm,zrg];intro q hq e;cases hq;cases e;exact hdA a ha rfl
   rw [hadd] at hnext;refine aOp_calm (r:=a.2.2) ho (hDst _ _ ho) hog ?_ hnext;cases hj:L j with
   | false=>
    have e1:st L=⟨zhb base A L,yac h0⟩:=by simp only [st,hj];rfl
    rw [e1];refine zgp hT (fun x y hx=>?_) hr0 hkn;rcases hmem x y hx with ⟨b,hb,hbL,e⟩|h
    .have:=xed (base:=base) hdN hb hbL;rw [e] at this;exact this
    exact zmk hbn (hreq.get x y h).1
   | true=>
    have e1:st L=⟨yfk (ymf hs (zhb base A L)) (some d) z,yac h1⟩:=by simp only [st,hj,if_true]
    rw [e1];refine zgp hT (fun x y hx=>?_) hr1 hkn;simp only [yfk];rcases hmem x y hx with ⟨b,hb,hbL,e⟩|h
    .have h9:=xed (base:=base) hdN hb hbL;have hne:=hdA b hb;obtain ⟨_,_,_,_,_,_,_,_,_,hmb,_,_⟩:=hA.get b hb;rw [e] at h9 hne hmb;rw [if_neg hne];exact zor h9 hmb
    obtain ⟨q1,q2,q3⟩:=hreq.get x y h;rw [if_neg q3];exact zor (zmk hbn q1) q2
 have h0L:∀ k,(fun _:Nat=>false) k=false:=fun _=>rfl;have:=main (A.length+1) (fun _=>false) listed (by unfold zpd;rw [List.filter_eq_self.2 sm];exact hlen) rfl hcl (fun i hi=>by simp);have e1:st (fun _=>false)=S base h0:=by
  simp only [st,qbl,if_false];have:zhb base A (fun _=>false)=yaj base:=by
   funext x;unfold zhb;rw [qdr.2 sm]
  rw [this];rfl
 rw [e1] at this;rw [hn];exact this
end
set_option maxRecDepth 100000
set_option maxHeartbeats 8000000
section
open Go.RowKit
theorem portto_con (g:GraphD) (v:Int) (u:Int) (ls:List Lk) (h0:0<=v) (hv:g.ports[v.toNat]?=some ls) (hlen:ls.length<=5000):Con prog 108 [yfm g,i64 v,i64 u] (i64 (yjw ls u)):=by
 refine ze Tryz.func108 ntmps108 Tryz.results108 ?_;refine zY ?_;refine ybl (α:=Nat) (fun k=>[(15,i64 k),(14,i64 ls.length),(13,ykm ls),(2,i64 u)]) (fun k=>[]) (fun k=>ls.length - k) (fun k=>k<=ls.length/\∀ (j:Nat) (y:Lk),j < k->ls[j]?=some y->y.1≠u) 0 ⟨om,om⟩ zs zh ?_;intro k ⟨hk,hok⟩;refine zY ?_;refine zj ?_ ?_ <;> intro h
 .simp at h;obtain ⟨x,hx⟩:=ybr h;refine zY ?_;refine zj ?_ ?_ <;> intro h1
  .simp at h1;refine zk ?_;exact yaf (zfe hx h1 hok).symm
  simp at h1;refine zY ?_;refine rnd (k+1) ⟨om,fun j y hj hy=>?_⟩ om zs zh;rcases qbi j k with h6|h6
  .exact hok j y h6 hy
  obtain rfl:j=k:=by omega
  rw [hx] at hy;cases hy;exact h1
 simp at h;obtain rfl:k=ls.length:=by omega
 refine zk ?_;exact yaf (zfd fun j y hy=>hok j y (qaa.1 hy).1 hy).symm
end
section
open Go.RowKit
theorem Frz.boxF {h:Nat->Option LObj} {off:Nat} {xs ys:List AV} (hx:h id=some (.cells xs)) (hl:xs.length=ys.length) (hc:∀ y∈ys,yea y=true) (hf:∀ (i:Nat) (x y:AV),xs[i]?=some x->ys[i]?=some y->Frz h x y):Frz h (.lp id off) (.dp ys off):=by
 intro B ok0 lv w u hi hr;obtain ⟨b,n,h1,rfl,h2⟩:=yho hi (by rw [hx];rfl) (.inr hx) hr;obtain ⟨_,_,g1,g2,_⟩:=hi.lvat h1;have:=Rel.dp (ok:=fun g=>(ok0 g\/B.mine g)/\g < w.heap.size) (w:=w) (lv:=fun _=>none) (row:=ys) (off:=off) b 0 (fun j=>(w.cell? ⟨b,0+j,none⟩).getD undef) ⟨.inr g1,g2⟩ (fun j c hj=>?_) (fun j c hj=>?_)
 .rwa [qba] at this
 .obtain ⟨x,hx'⟩:∃ x,xs[j]?=some x:=⟨_,qae (by have:=(qaa.1 hj).1;omega)⟩;obtain ⟨q1,v,q2,_⟩:=h2 j x hx';exact ⟨by rw [q2];rfl,hc c (qab hj)⟩
 obtain ⟨x,hx'⟩:∃ x,xs[j]?=some x:=⟨_,qae (by have:=(qaa.1 hj).1;omega)⟩;obtain ⟨_,v,q2,q3⟩:=h2 j x hx';rw [q2];exact hf j x c hx' hj B ok0 lv w v hi q3
def yrv (p:ProgD) (g:GraphD) (k:Nat):List AV:=[ynt p.name,.sl 6 (p.vars.map ybq),.sl 3 (p.rules.map ybg),yah g.ids,yat g.ports,i64 (ybz (g.ids.take k)),.ls 15 1 g.ports.length]
def ymw (p:ProgD) (g:GraphD) (k:Nat):List (Nat × Option LObj):=[(17,some (.cells (yrv p g k))),(3,some (.cells [yah g.ids,yat g.ports]))]
def zti (g:GraphD) (k:Nat):List (List AV):=yfq ((ypn g).take k)++List.replicate (g.ports.length - k) []
def yqb (g:GraphD) (k:Nat) (l:List Int):List (List AV):=yfq ((ypn g).take k)++(l.map i64)::List.replicate (g.ports.length - k - 1) []
theorem rowsC0 (hk:k < g.ports.length):zti g k=yqb g k []:=by
 unfold zti yqb;rw [show g.ports.length - k=(g.ports.length - k - 1)+1 by omega,qbo];simp
theorem yrj (hk:k < g.ports.length):(yfq ((ypn g).take k)).length=k:=by
 simp [yfq,ypn];omega
theorem rowsC_at (hk:k < g.ports.length):(yqb g k l)[k]?=some (l.map i64):=by
 unfold yqb;rw [qai (by rw [yrj hk];omega),yrj hk,qbn];rfl
theorem zqk (hk:k < g.ports.length):(yqb g k l).length=g.ports.length:=by
 unfold yqb;rw [qao,yrj hk,qaj,qdk];omega
theorem rowsC_next {x:Int} (hk:k < g.ports.length):(yqb g k l).set k (l.map i64++[i64 x])=yqb g k (l++[x]):=by
 unfold yqb;rw [qbm _ _ (by rw [yrj hk];omega),yrj hk,qbn,qer];simp
theorem rowsC_end (hls:g.ports[k]?=some ls):yqb g k (ydt g k ls)=zti g (k+1):=by
 unfold zti yqb;have e:(ypn g)[k]?=some (ydt g k ls):=by simp [ypn,hls]
 rw [yan e];simp [yfq,Nat.sub_sub]
theorem yqx (p:ProgD) (g:GraphD) (hg:ych g=true):Con prog 58 [yhb p,yfm g] (yis p g):=by
 have hv:=yba hg;refine ze Tryz.func58 ntmps58 Tryz.results58 ?_;refine zW ?_;refine ybx (lf:=lf0) ysy rfl ?_;refine yee [2,3,4] 6 (yab rfl (yab rfl (yab rfl yak))) rfl kf ?_;refine zO ?_;refine zbj tok (fun y=>!ment 15 y) [(0,10,.agg [ynt p.name,.sl 6 (p.vars.map ybq),.sl 3 (p.rules.map ybg)]),(1,11,.agg [yah g.ids,yat g.ports])] 5 15 [] (.ls 15 1 g.ports.length) (req:=[(3,.lp 3 0),(2,.lp 2 0)]) 3 rfl kf rfl rfl rfl kf kf rfl ⟨⟨rfl,rfl,rfl⟩,⟨rfl,rfl,rfl⟩,trivial⟩ rfl
  ⟨⟨_,[(3,.lp 3 0),(2,.lp 2 0)],rfl,rfl,rfl,kf,kf,kf,kf,rfl,rfl,rfl⟩,⟨_,[(3,.lp 3 0),(2,.lp 2 0)],rfl,rfl,rfl,kf,kf,kf,kf,rfl,rfl,rfl⟩,trivial⟩ rfl rfl rfl
  (fun t ht hl=>zpl tok 15 hl rfl rfl rfl rfl rfl (ht 14 _ rfl) (ht 14 _ rfl) co rfl) ?_
 refine yau [6,7,8] (yab rfl (yab rfl (yab rfl yak))) rfl kf ?_;refine zY ?_;refine yxv 15 (List.replicate g.ports.length yfj) rfl (zxi _ _) ?_;refine yqf (t':=[(21,i64 (0:Nat)),(20,i64 g.ports.length),(19,yat g.ports),(5,.lp 17 0),(3,.lp 3 0)]) (h':=[(17,some (.cells (yrv p g 0))),(3,some (.cells [yah g.ids,yat g.ports]))]++[(15,some (ygy (List.replicate g.ports.length yfj)))]) ?_ zs (yai (yaa rfl (yaa rfl (yaa rfl yag)))) ;refine zmu (f:=[(17,some (.cells (yrv p g 0))),(3,some (.cells [yah g.ids,yat g.ports]))]) 15 1 g.ports.length rfl rfl rfl rfl rfl ?_;refine ycx (α:=Nat) (fun k=>[(21,i64 k),(20,i64 g.ports.length),(19,yat g.ports),(5,.lp 17 0),(3,.lp 3 0)]) (fun k=>ymw p g k++ybs 15 1 (zti g k) []) (fun k=>g.ports.length - k) (fun k=>k<=g.ports.length) 0 om zs (hsE rfl) ?_;intro k hk;refine zY ?_;refine zj ?_ ?_ <;> intro h
 .simp at h;obtain ⟨ls,hls⟩:=ybr h;obtain ⟨a,ha⟩:=ybr (show k < g.ids.length by omega);have hlb:=hv.2.2.2.2.2.1 k ls hls;have hll:=ydb h hlb;refine zY ?_;refine ycx (α:=Nat) (fun j=>[(41,i64 j),(40,i64 ls.length),(39,ykm ls),(6,i64 k),(21,i64 k),(20,i64 g.ports.length),(19,yat g.ports),(5,.lp 17 0),(3,.lp 3 0)]) (fun j=>ymw p g (k+1)++ybs 15 1 (yqb g k ((ydt g k ls).take j)) []) (fun j=>ls.length - j) (fun j=>j<=ls.length) 0 om zs (hsE ?_) ?_
  .unfold ymw yrv;rw [yjk _ _ _ ha,qff,rowsC0 h];exact yic
  intro j hj;refine zY ?_;refine zj ?_ ?_ <;> intro h2
  .simp at h2;obtain ⟨l,hl⟩:=ybr h2;have hl1:=(ybp _ _ _).1 (((yck _ _ _).1 hlb).1 l (qab hl));obtain ⟨ls',hls'⟩:=ybr (show l.1.toNat < g.ports.length by omega);have hll':=ydb (show l.1.toNat < g.ports.length by omega) (hv.2.2.2.2.2.1 _ ls' hls');refine zW ?_;refine zA ?_ (h2:=ypp (f:=ymw p g (k+1)) rfl rfl rfl rfl);have hblen:(ydt g k ls).length=ls.length:=by simp [ydt]
   have hbj:(ydt g k ls)[j]?=some (yjw ls' k):=by
    simp only [ydt,qah,hl,qar,Option.some.injEq];rw [qad,hls'];rfl
   have htj:(((ydt g k ls).take j).map i64).length=j:=by simp [hblen];omega
   have hrow:=rowsC_at (l:=(ydt g k ls).take j) h;have hcell:(yfi 15 1 0 (yqb g k ((ydt g k ls).take j))++[])[k]?=some (.ls (fam 15 k) 1 j):=by
    rw [qbe,yel,hrow];simp only [qar,htj,Nat.div_one,qba]
   have hk1:((k:Int).toNat * 1)=k:=by simp
   refine zW ?_;refine ybx (lf:=lf0) ysy rfl ?_;refine yee [5,6,7,8,9,10,11,12,13,14,15,16,17] 8 (yab rfl (yab rfl (yab rfl (yab rfl (yab rfl (yab rfl (yab rfl (yab rfl (yab rfl (yab rfl (yab rfl (yab rfl (yab rfl yak))))))))))))) rfl kf ?_;refine xft (h':=((9,some (.cells (yfe l)))::ymw p g (k+1))++ybs 15 1 (yqb g k ((ydt g k ls).take j)) []) yic ?_
   (repeat (first|refine zo ?_|refine yaw tok rfl rfl (ybt (f:=(9,some (.cells (yfe l)))::ymw p g (k+1)) rfl) rfl om om rfl rfl ?_|refine yft (r:=.ls (fam 15 k) 1 j) tok rfl rfl rfl (by rw [ybt (f:=(9,some (.cells (yfe l)))::ymw p g (k+1)) rfl];exact ygd _) (by rw [hk1];exact hcell) rfl rfl ?_|refine zc (portto_con g l.1 k ls' hl1.1 hls' om) ?_))
   have hat:yac ((9,some (LObj.cells (yfe l)))::ymw p g (k+1)++(15,some (ygy ((yfi 15 1 0 (yqb g k ((ydt g k ls).take j))++[]).set k .one)))::ypy 15 0 ((yqb g k ((ydt g k ls).take j)).set k (((ydt g k ls).take j).map i64++[[i64 (yjw ls' k)]].flatten))) 15=some (ygy ((yfi 15 1 0 (yqb g k ((ydt g k ls).take j))++[]).set k .one)):=by rw [ybh _ _ (ynj rfl),yaz]
   refine zbj tok yqu [(0,45,.lp 17 0),(1,46,.lp 17 0),(2,47,.lp 17 (0+6)),(3,48,.ls 15 1 g.ports.length),(4,49,i64 k)] 18 63 [56] (.ls (fam 15 k) 1 (j+1)) (req:=[(5,.lp 17 0),(6,i64 k)]) 2 rfl kf rfl rfl rfl kf kf rfl ⟨⟨rfl,rfl,rfl⟩,⟨rfl,rfl,rfl⟩,trivial⟩ rfl
    ⟨⟨_,[(5,.lp 17 0),(6,i64 k)],rfl,rfl,rfl,kf,kf,kf,kf,rfl,rfl,rfl⟩,⟨_,[(45,.lp 17 0),(5,.lp 17 0),(6,i64 k)],rfl,rfl,rfl,kf,kf,kf,kf,rfl,rfl,rfl⟩,⟨_,[(45,.lp 17 0),(46,.lp 17 0),(5,.lp 17 0),(6,i64 k)],rfl,rfl,rfl,kf,kf,kf,kf,rfl,rfl,rfl⟩,⟨_,[(45,.lp 17 0),(46,.lp 17 0),(47,.lp 17 (0+6)),(5,.lp 17 0),(6,i64 k)],rfl,rfl,rfl,kf,kf,kf,kf,rfl,rfl,rfl⟩,⟨_,[(5,.lp 17 0),(6,i64 k)],rfl,rfl,rfl,kf,kf,kf,kf,rfl,rfl,rfl⟩,trivial⟩ rfl rfl rfl
    (fun t ht hl=>zal (s:=⟨t,_⟩) (t':=ymf [56] t) (i:=k) (news:=[[i64 (yjw ls' k)]]) (f:=(9,some (.cells (yfe l)))::ymw p g (k+1)) tok (fun x y h=>(zvx hl h).imp (fun e=>e) fun e=>⟨e.1,yqu.ment (ygf _ _) e.2⟩) (fun x y h=>zos h) rfl rfl rfl (ht 56 _ rfl) hrow (by rw [htj,qgy]) (ht 62 _ rfl) (by intro c hc;simp at hc;subst hc;rfl) (by constructor <;> simp <;> omega) rfl rfl rfl rfl rfl rfl) ?_
   refine yau [19,20] (yab rfl (yab rfl yak)) rfl kf ?_;refine yaw tok rfl rfl hat rfl om om rfl rfl ?_;refine yrr tok rfl rfl rfl rfl rfl hat (by rw [qfw,qbe,yem,zqk h];omega) rfl rfl ?_;refine xft (h':=((9,some (.cells (yfe l)))::ymw p g (k+1))++ybs 15 1 (yqb g k ((ydt g k ls).take (j+1))) []) ?_ ?_
   .rw [hk1];refine (zvv (f:=(9,some (.cells (yfe l)))::ymw p g (k+1)) rfl om rfl (by rw [zqk h];exact h) (by simp [hblen];omega)).trans ?_;rw [yan hbj,<- rowsC_next h];rfl
   refine zY ?_;exact ylb (j+1) om om zs (hsM (f:=(9,some (.cells (yfe l)))::ymw p g (k+1)) (yaa rfl (yaa rfl yag)) rfl rfl rfl)
  simp at h2;obtain rfl:j=ls.length:=by omega
  refine zY ?_;refine ylb (k+1) om om zs (hsE ?_);rw [show (ydt g k ls).take ls.length=ydt g k ls from qak (by simp [ydt]),rowsC_end hls]
 simp at h;obtain rfl:k=g.ports.length:=by omega
 refine zk ?_;have hal:g.ids.take g.ports.length=g.ids:=qak om;have hbl:(ypn g).length=g.ports.length:=by simp [ypn]
 have hm:Frz (yac (ymw p g g.ports.length++ybs 15 1 (zti g g.ports.length) [])) (.ls 15 1 g.ports.length) (yds (ypn g)):=yum (f:=ymw p g g.ports.length) rfl rfl rfl hbl.symm (by
  unfold zti
  rw [qbn,qgm,qbe,qak om])
 refine Frz.boxF (xs:=yrv p g g.ports.length) (ys:=zci p g) rfl rfl (fun y hy=>?_) (fun i x y hx hy=>?_)
 .simp only [zci,qas,qdu,or_false] at hy;rcases hy with rfl|rfl|rfl|rfl|rfl|rfl|rfl <;> rfl
 have hi:i < 7:=(qaa.1 hx).1;have:i=0\/i=1\/i=2\/i=3\/i=4\/i=5\/i=6:=by omega
 rcases this with rfl|rfl|rfl|rfl|rfl|rfl|rfl <;> simp only [yrv,zci,qat,qce,Option.some.injEq] at hx hy <;> subst hx hy
 .exact Frz.pure
 .exact Frz.pure
 .exact Frz.pure
 .exact Frz.pure
 .exact Frz.pure
 .rw [hal];exact Frz.pure
 exact hm
end
section
open Go.RowKit
def rowMover (p:ProgD) (g:GraphD):List AV:=[ynt p.name,.sl 6 (p.vars.map ybq),.sl 3 (p.rules.map ybg),yis p g,ydl (yad p g)]
def ygi (p:ProgD) (g:GraphD):AV:=.dp (rowMover p g) 0
theorem yqw (p:ProgD) (g:GraphD) (hf:Fair p g) (h0:ycn p g=0):Con prog 85 [yhb p,yfm g] (ygi p g):=by
 have hg:=(ycv.1 h0).2.1;refine ze Tryz.func85 ntmps85 Tryz.results85 ?_
 (repeat (first|refine zy ?_|refine zc (yqx p g hg) ?_|refine zc (yoq p g hf h0) ?_))
 refine zr ?_;exact Frz.box rfl rfl
theorem ywi (h:CfgOk p g c) (hv:v < c.length):Con prog 123 [ygi p g,yds c,i64 v] (i64 (zzk p ⟨g,c,v⟩)):=by
 have hlen:=(ycp h.prog).2.2.1;refine ze Tryz.func123 ntmps123 Tryz.results123 ?_;refine zY ?_;refine ybl (α:=Nat) (fun k=>[(14,i64 k),(13,i64 p.rules.length),(0,ygi p g),(1,yds c),(2,i64 v)]) (fun k=>[]) (fun k=>p.rules.length - k) (fun k=>k<=p.rules.length/\∀ j b,j < k->(p.rules.map fun r=>(⟨g,c,v⟩:Scn).of r.guard)[j]?=some b->b=0) 0 ⟨om,fun j b hj=>by omega⟩ zs yag ?_;intro k ⟨hk,hall⟩;refine zY ?_;refine zj ?_ ?_ <;> intro h1
 .simp at h1;obtain ⟨r,hr⟩:=ybr h1;have hat:(p.rules.map fun r=>(⟨g,c,v⟩:Scn).of r.guard)[k]?=some ((⟨g,c,v⟩:Scn).of r.guard):=by rw [qah,hr];rfl
  (repeat (first|refine zy ?_|refine zc (sguard_con h hv hr) ?_))
  refine zj ?_ ?_ <;> intro h2
  .refine zk ?_;exact yaf (by unfold zzk;rw [zvr hat (by simpa using h2) hall];simp)
  refine zY ?_;refine rnd (k+1) ⟨om,fun j b hj hb=>?_⟩ om zs yag;by_cases e:j=k
  .subst e;rw [hat] at hb;cases hb;simpa using h2
  exact hall j b om hb
 simp at h1;obtain rfl:k=p.rules.length:=by omega
 refine zk ?_;refine yaf ?_;unfold zzk;rw [zbr];intro a ha;obtain ⟨j,hj⟩:=qan ha;exact hall j a (by have:=(qaa.1 hj).1;simpa using this) hj
theorem snodes_con {f:Nat} {caps:List AV} {b:Nat->Bool} (n:Nat) (hn:n<=1000) (hp:yar.pureL caps=true) (hf:∀ v:Nat,v < n->Con prog f (i64 v::caps) (yay (b v))):Con prog 204 [i64 n,.fn f caps] (ybd (yns b n)):=by
 refine ze Tryz.func204 ntmps204 Tryz.results204 ?_;refine zY ?_;refine ybl (α:=Nat) (fun k=>[(8,i64 k),(7,i64 n),(5,ybd (yns b k)),(1,.fn f caps)]) (fun k=>[]) (fun k=>n - k) (fun k=>k<=n) 0 om zs yag ?_;intro k hk;refine zY ?_;refine zj ?_ ?_ <;> intro h1
 .simp at h1
  (repeat (first|refine zy ?_|refine zc (hf k h1) ?_))
  have hnext:∀ q,b k=q->yns b (k+1)=if q=true then yns b k ||| (1#32 <<< k) else yns b k:=fun q hq=>by rw [yns,hq]
  refine zj ?_ ?_ <;> intro h2
  ·(try refine zbx ?_)
   have e:=hnext true h2;rw [if_pos rfl] at e;refine rnd (k+1) om om ?_ yag;rw [e];exact zs
  refine zY ?_;have e:=hnext false h2;rw [if_neg sm] at e;refine rnd (k+1) om om ?_ yag;rw [e];exact zs
 simp at h1;obtain rfl:k=n:=by omega
 exact zkp
theorem menabled1_con (h:CfgOk p g c) (hv:v < c.length):Con prog 205 [i64 v,.dp [ygi p g] 0,.dp [yds c] 0] (yay (yrz p g c v)):=by
 refine ze Tryz.func205 ntmps205 Tryz.results205 ?_
 (repeat (first|refine zy ?_|refine zc (ywi h hv) ?_))
 refine zr ?_;exact yae rfl
theorem ymr (h:CfgOk p g c):Con prog 151 [ygi p g,yds c] (ybd (ydn p g c)):=by
 have hn:=h.n24;have hl:=h.len;have htl:(yad p g).length=c.length:=(yoz h.table).1.symm;have hnc:=snodes_con (f:=205) (caps:=[.dp [ygi p g] 0,.dp [yds c] 0]) (b:=yrz p g c) c.length om rfl fun v hv=>menabled1_con h hv;refine ze Tryz.func151 ntmps151 Tryz.results151 ?_
 (repeat (first|with_reducible refine ydk ?_|with_reducible refine ycd ?_|refine ycy ?_));refine ynb ?_;refine ybi (lf:=lfT) rfl ?_
 refine zO ?_;refine zt ?_;refine yct 2 rfl rfl rfl rfl rfl ?_;refine yct 3 rfl rfl rfl rfl rfl ?_
 (repeat (first|refine zz ?_|refine ymj 9 (y:=i64 c.length) rfl (yof (by rw [htl])) ?_))
 exact zp
end
section
open Go.RowKit
def yps (f:Nat->Bool) (n:Nat):Nat:=((List.range n).filter f).length
def zpw (B:BitVec 32):Nat:=yps B.getLsbD 32
theorem yws (f:Nat->Bool) (m:Nat):∀ n,yps f (m+n)=yps f m+yps (fun i=>f (m+i)) n
 | 0=>by simp [yps]
 | n+1=>by
  have ih:=yws f m n;unfold yps at *;rw [show m+(n+1)=(m+n)+1 by omega,qcr,qck,qao,ih,qcr,qck,qao];simp only [qgh,qhq];cases f (m+n) <;> simp <;> omega
theorem yla {f g:Nat->Bool} (h:∀ i,i < n->f i=g i):yps f n=yps g n:=by
 unfold yps;congr 1;exact qfz fun i hi=>h i (qca.1 hi)
theorem zsy (f:Nat->Bool) (n:Nat):yps f n<=n:=by
 unfold yps;have:=qdl f (List.range n);simpa using this
def zgy (x:Nat):Nat:=yps x.testBit 8
def yux:ByteArray:=⟨((List.range 256).map fun n=>UInt8.ofNat (zgy n)).toArray⟩
theorem yst (h:n < 256):yux[n]?=some (UInt8.ofNat (zgy n)):=by
 have hs:n < yux.size:=by
  show n < (((List.range 256).map fun n=>UInt8.ofNat (zgy n)).toArray).size;simpa using h
 rw [getElem?_pos yux n hs];show some ((((List.range 256).map fun n=>UInt8.ofNat (zgy n)).toArray)[n]'(by simpa using h))=_;simp
theorem pop_split (B:BitVec 32):zpw B=zgy (B >>> 24).toNat+zgy ((B >>> 16) &&& 255#32).toNat+zgy ((B >>> 8) &&& 255#32).toNat+zgy (B &&& 255#32).toNat:=by
 have h255:∀ i,i < 8->(255#32).getLsbD i=true:=by decide
 have e1:zgy (B >>> 24).toNat=yps (fun i=>B.getLsbD (24+i)) 8:=yla fun i hi=>by
  show (B >>> 24).getLsbD i=_;rw [qep]
 have e2:zgy ((B >>> 16) &&& 255#32).toNat=yps (fun i=>B.getLsbD (16+i)) 8:=yla fun i hi=>by
  show ((B >>> 16) &&& 255#32).getLsbD i=_;rw [qav,qep,h255 i hi,qfl]
 have e3:zgy ((B >>> 8) &&& 255#32).toNat=yps (fun i=>B.getLsbD (8+i)) 8:=yla fun i hi=>by
  show ((B >>> 8) &&& 255#32).getLsbD i=_;rw [qav,qep,h255 i hi,qfl]
 have e4:zgy (B &&& 255#32).toNat=yps B.getLsbD 8:=yla fun i hi=>by
  show (B &&& 255#32).getLsbD i=_;rw [qav,h255 i hi,qfl]
 have s1:yps B.getLsbD 32=yps B.getLsbD 8+yps (fun i=>B.getLsbD (8+i)) 24:=yws B.getLsbD 8 24;have s2:yps (fun i=>B.getLsbD (8+i)) 24=yps (fun i=>B.getLsbD (8+i)) 8+yps (fun i=>B.getLsbD (8+(8+i))) 16:=yws (fun i=>B.getLsbD (8+i)) 8 16;have s3:yps (fun i=>B.getLsbD (8+(8+i))) 16=yps (fun i=>B.getLsbD (8+(8+i))) 8+yps (fun i=>B.getLsbD (8+(8+(8+i)))) 8:=yws (fun i=>B.getLsbD (8+(8+i))) 8 8;have f1:yps (fun i=>B.getLsbD (8+(8+i))) 8=yps (fun i=>B.getLsbD (16+i)) 8:=yla fun i _=>by congr 1;omega
 have f2:yps (fun i=>B.getLsbD (8+(8+(8+i)))) 8=yps (fun i=>B.getLsbD (24+i)) 8:=yla fun i _=>by congr 1;omega
 rw [e1,e2,e3,e4];show yps B.getLsbD 32=_;omega
theorem zlv (n:Nat):zgy n<=8:=zsy _ _
theorem xaj (B:BitVec 32):(B &&& 255#32).toNat < 256:=by
 rw [BitVec.toNat_and];exact Nat.lt_of_le_of_lt Nat.and_le_right dc
theorem shr24 (B:BitVec 32):(B >>> 24).toNat < 256:=by
 rw [BitVec.toNat_ushiftRight,Nat.shiftRight_eq_div_pow];have:=B.isLt;omega
theorem zyk (h:n<=8):((UInt8.ofNat n).toNat:Int)=n:=by
 rw [UInt8.toNat_ofNat'];omega
theorem zwv (B:BitVec 32):Con prog 80 [ybd B] (i64 (zpw B)):=by
 have p1:=zlv (B >>> 24).toNat;have p2:=zlv ((B >>> 16) &&& 255#32).toNat;have p3:=zlv ((B >>> 8) &&& 255#32).toNat;have p4:=zlv (B &&& 255#32).toNat;refine ze Tryz.func80 ntmps80 Tryz.results80 ?_
 (repeat (first|refine xfx rfl rfl om rfl rfl ?_|refine zcu (C:=255#32) rfl rfl rfl rfl ?_|refine ymk (s:=yux) (b:=UInt8.ofNat (zgy (B >>> 24).toNat)) tok rfl kf rfl om (yst (shr24 B)) rfl rfl (ymj 5 (y:=.v (.int .u8 (zgy (B >>> 24).toNat))) rfl (by rw [zyk p1]) ?_)|refine ymk (s:=yux) (b:=UInt8.ofNat (zgy ((B >>> 16) &&& 255#32).toNat)) tok rfl kf rfl om (yst (xaj _)) rfl rfl (ymj 9 (y:=.v (.int .u8 (zgy ((B >>> 16) &&& 255#32).toNat))) rfl (by rw [zyk p2]) ?_)|refine ymk (s:=yux) (b:=UInt8.ofNat (zgy ((B >>> 8) &&& 255#32).toNat)) tok rfl kf rfl om (yst (xaj _)) rfl rfl (ymj 14 (y:=.v (.int .u8 (zgy ((B >>> 8) &&& 255#32).toNat))) rfl (by rw [zyk p3]) ?_)|refine ymk (s:=yux) (b:=UInt8.ofNat (zgy (B &&& 255#32).toNat)) tok rfl kf rfl om (yst (xaj _)) rfl rfl (ymj 18 (y:=.v (.int .u8 (zgy (B &&& 255#32).toNat))) rfl (by rw [zyk p4]) ?_)|refine L_u8 tok rfl co rfl rfl ?_|refine z1 ?_|fail))
 refine zr ?_;exact yaf (by rw [pop_split];omega)
end
section
open Go.RowKit
structure CntD where
 steps:Int
 moves:Int
 rounds:Int
 begun:Int
 pend:BitVec 32
def xes:BitVec 32:=16777215#32
def yir (k:CntD):List AV:=[i64 k.steps,i64 k.moves,i64 k.rounds,i64 k.begun,ybd k.pend]
def ynv (e:BitVec 32):CntD:=⟨0,0,0,0,e &&& xes⟩
def xag (k:CntD) (ch af:BitVec 32):CntD:=
 if k.pend &&& ~~~ch &&& af=0#32 then ⟨k.steps+1,k.moves+zpw ch,k.rounds+1,k.rounds+1,af⟩ else ⟨k.steps+1,k.moves+zpw ch,k.rounds,k.rounds+1,k.pend &&& ~~~ch &&& af⟩
def InM (B:BitVec 32):Prop:=B &&& ~~~xes=0#32
structure CntOk (k:CntD):Prop where
 s0:0<=k.steps
 s1:k.steps<=4096
 r0:0<=k.rounds
 r1:k.rounds<=k.begun
 b1:k.begun<=k.steps
 b2:k.begun<=k.rounds+1
 m0:k.steps<=k.moves
 m1:k.moves<=24 * k.steps
 pend:InM k.pend
theorem zsj (h:InM B) {i:Nat} (hi:24<=i):B.getLsbD i=false:=by
 rcases qbi i 32 with h9|h9
 .have:=congrArg (fun X=>BitVec.getLsbD X i) h;simp only [qav,qcc,qbf] at this;have e:xes.getLsbD i=false:=by
   have:∀ j:Fin 8,xes.getLsbD (24+j.val)=false:=by decide
   have:=this ⟨i - 24,om⟩
   rwa [show 24+(i - 24)=i by omega] at this
  rw [e] at this;simpa [h9] using this
 exact qbs _ _ h9
theorem zik (h:∀ i,24<=i->B.getLsbD i=false):InM B:=by
 apply qbj;intro i hi;rw [qav,qcc,qbf];rcases qbi i 24 with h9|h9
 .have:∀ j:Fin 24,xes.getLsbD j.val=true:=by decide
  rw [this ⟨i,h9⟩];simp
 rw [h i h9];simp
theorem xjw (h:InM B):zpw B<=24:=by
 have e:zpw B=yps B.getLsbD 24+yps (fun i=>B.getLsbD (24+i)) 8:=yws _ 24 8;have e2:yps (fun i=>B.getLsbD (24+i)) 8=0:=by
  unfold yps;rw [List.filter_eq_nil_iff.2 (fun i _=>by simp [zsj h (show 24<=24+i by omega)])];rfl
 have:=zsy B.getLsbD 24;omega
theorem xcy (h:B≠0#32):1<=zpw B:=by
 rcases qeq (zpw B) with h0|h0
 .exfalso;refine h (qbj fun i hi=>?_);rw [qbf];have:=List.filter_eq_nil_iff.1 (qaz h0) i (qca.2 hi);simpa using this
 exact h0
theorem xga {k:CntD} (h:CntOk k) (h4:k.steps < 4096) {ch af:BitVec 32} (hc:ch≠0#32) (h1:InM ch) (h2:InM af):CntOk (xag k ch af):=by
 have p1:=xcy hc;have p2:=xjw h1;obtain ⟨a1,a2,a3,a4,a5,a6,a7,a8,a9⟩:=h;unfold xag;split
 .exact ⟨by simp only;omega,by simp only;omega,by simp only;omega,by simp only;omega,by simp only;omega,by simp only;omega,by simp only;omega,by simp only;omega,h2⟩
 refine ⟨by simp only;omega,by simp only;omega,by simp only;omega,by simp only;omega,by simp only;omega,by simp only;omega,by simp only;omega,by simp only;omega,zik fun i hi=>?_⟩;rw [qav,qav,zsj a9 hi];simp
theorem zus:CntOk (ynv e):=⟨by simp [ynv],by simp [ynv],by simp [ynv],by simp [ynv],by simp [ynv],by simp [ynv],by simp [ynv],by simp [ynv],zik fun i hi=>by
 simp only [ynv]
 rw [qav,zsj (B:=xes) (by unfold InM xes;decide) hi,qch]⟩
theorem zno (e:BitVec 32):Con prog 152 [ybd e] (.agg (yir (ynv e))):=by
 refine ydv tok Tryz.func152 rfl rfl ntmps152 Tryz.results152 rfl rfl ?_
 (repeat (first|refine zcu (C:=xes) rfl rfl rfl rfl ?_|refine z1 ?_|fail))
 exact zp
def ynn (l:List (BitVec 32)):AV:=.sl 1 (l.map fun B=>[ybd B])
theorem zaq (l:List (BitVec 32)) (hl:l.length<=1000) (h:∀ B∈l,InM B):Con prog 208 [ynn l] (yay true):=by
 refine ze Tryz.func208 ntmps208 Tryz.results208 ?_;refine zY ?_;refine ybl (α:=Nat) (fun k=>[(7,i64 k),(6,i64 l.length),(5,ynn l)]) (fun k=>[]) (fun k=>l.length - k) (fun k=>k<=l.length) 0 om zs yag ?_;intro k hk;refine zY ?_;refine zj ?_ ?_ <;> intro h1
 .simp at h1;obtain ⟨B,hB⟩:=ybr h1;have hm:=h B (qab hB)
  (repeat (first|refine zct (C:=xes) rfl rfl rfl rfl ?_|refine z1 ?_|fail))
  refine zj ?_ ?_ <;> intro h2
  .rw [yfh,hm] at h2;simp at h2
  refine zY ?_;exact rnd (k+1) om om zs yag
 simp at h1;obtain rfl:k=l.length:=by omega
 exact zkp
theorem avalid_con (k:CntD) (h:CntOk k):Con prog 207 [.agg (yir k)] (yay true):=by
 obtain ⟨a1,a2,a3,a4,a5,a6,a7,a8,a9⟩:=h;have hp:=zaq [k.pend] sm (by simp [a9]);refine ze Tryz.func207 ntmps207 Tryz.results207 ?_;refine zY ?_;refine yam 6 rfl (fun h1=>?_) (fun h1=>?_)
 .simp at h1;omega
 refine zY ?_;refine yam 11 rfl (fun h2=>?_) (fun h2=>?_)
 .simp at h2;omega
 refine zY ?_;refine yam 16 rfl (fun h3=>?_) (fun h3=>?_)
 .simp at h3;omega
 refine zY ?_;refine yam 23 rfl (fun h4=>?_) (fun h4=>?_)
 .simp at h4;omega
 refine zY ?_;refine zj ?_ ?_ <;> intro h5
 .simp at h5;omega
 refine zY ?_;refine zj ?_ ?_ <;> intro h6
 .simp at h6;omega
 refine zY ?_;refine yam 41 rfl (fun h7=>?_) (fun h7=>?_)
 .refine zY ?_;refine yam 49 rfl (fun h8=>?_) (fun h8=>?_)
  .refine zZ ?_;exact zp
  simp at h8;omega
 simp at h7;omega
theorem xah (k:CntD) (h:CntOk k) (h4:k.steps < 4096) {ch af:BitVec 32} (hc:ch≠0#32) (h1:InM ch) (h2:InM af):Con prog 155 [.agg (yir k),ybd ch,ybd af] (.tup [.agg (yir (xag k ch af)),i64 0]):=by
 have hv:=avalid_con k h;have hp:=zaq [ch,af] sm (by simp [h1,h2]);have p1:=xcy hc;have p2:=xjw h1;obtain ⟨a1,a2,a3,a4,a5,a6,a7,a8,a9⟩:=h;refine ydv tok Tryz.func155 rfl rfl ntmps155 Tryz.results155 rfl rfl ?_;refine zZ ?_;refine yam 14 rfl (fun q1=>?_) (fun q1=>?_)
 .rw [yeq] at q1;exact absurd (by simpa using q1) hc
 refine zZ ?_;refine zj ?_ ?_ <;> intro q2
 .simp at q2;omega
 (repeat (first|refine zb ?_|refine zc (zwv ch) ?_))
 refine zj ?_ ?_ <;> intro q3
 .rw [yeq] at q3;have e:xag k ch af=⟨k.steps+1,k.moves+zpw ch,k.rounds+1,k.rounds+1,af⟩:=by unfold xag;rw [if_pos (by simpa using q3)]
  rw [e];exact zkp
 rw [yeq] at q3;have e:xag k ch af=⟨k.steps+1,k.moves+zpw ch,k.rounds,k.rounds+1,k.pend &&& ~~~ch &&& af⟩:=by unfold xag;rw [if_neg (by simpa using q3)]
 rw [e];exact zkp
end
section
open Go.RowKit
def zpq (ls:List Lk):BitVec 32:=ls.foldl (fun B l=>B ||| (1#32 <<< l.1.toNat)) 0#32
def ynk (g:GraphD):List (BitVec 32):=g.ports.map zpq
def yxr (g:GraphD):AV:=ynn (ynk g)
def zze (g:GraphD) (k:Nat) (B:BitVec 32):List (BitVec 32):=(ynk g).take k++B::List.replicate (g.ports.length - k - 1) 0#32
def xfh (g:GraphD) (k:Nat):List (BitVec 32):=(ynk g).take k++List.replicate (g.ports.length - k) 0#32
theorem ywj:(ynk g).length=g.ports.length:=by simp [ynk]
theorem netK_zero (h:k < g.ports.length):xfh g k=zze g k 0#32:=by
 unfold xfh zze;rw [show g.ports.length - k=(g.ports.length - k - 1)+1 by omega,qbo];simp
theorem ywk (h:k < g.ports.length):((ynk g).take k).length=k:=by simp [ynk];omega
theorem netK_at (h:k < g.ports.length):(zze g k B)[k]?=some B:=by
 unfold zze;rw [qai (by rw [ywk h];omega),ywk h,qbn];rfl
theorem netK_len (h:k < g.ports.length):(zze g k B).length=g.ports.length:=by
 unfold zze;rw [qao,ywk h,qaj,qdk];omega
theorem netK_set {C:BitVec 32} (h:k < g.ports.length):(zze g k B).set k C=zze g k C:=by
 unfold zze;rw [qbm _ _ (by rw [ywk h];omega),ywk h,qbn,qer]
theorem netK_end (hls:g.ports[k]?=some ls):zze g k (zpq ls)=xfh g (k+1):=by
 unfold zze xfh;have e:(ynk g)[k]?=some (zpq ls):=by simp [ynk,hls]
 rw [yan e];simp [Nat.sub_sub]
theorem netV_snoc {j:Nat} {l:Lk} (h:ls[j]?=some l):zpq (ls.take (j+1))=zpq (ls.take j) ||| (1#32 <<< l.1.toNat):=by
 unfold zpq;rw [yan h,qcu];rfl
theorem yyy (g:GraphD) (hg:ych g=true):Con prog 86 [yfm g] (yxr g):=by
 have hv:=yba hg;refine ze Tryz.func86 ntmps86 Tryz.results86 ?_
 (repeat (first|refine zy ?_|refine yqg tok rfl rfl rfl rfl co rfl rfl rfl rfl rfl ?_))
 refine ycx (α:=Nat) (fun k=>[(15,i64 k),(14,i64 g.ports.length),(13,yat g.ports),(3,.ls 11 1 g.ports.length)]) (fun k=>[(11,some (.vec ((xfh g k).map ybd)))]) (fun k=>g.ports.length - k) (fun k=>k<=g.ports.length) 0 om zs ?_ ?_
 .refine yai (yaa ?_ yag);show some _=some _;congr 2;rw [show yit [Value.int .u32 0]=[ybd 0#32] from rfl,zxi];simp [xfh]
 intro k hk;refine zY ?_;refine zj ?_ ?_ <;> intro h1
 .simp at h1;obtain ⟨ls,hls⟩:=ybr h1;have hlb:=hv.2.2.2.2.2.1 k ls hls;have hll:=ydb h1 hlb;refine zY ?_;refine ycx (α:=Nat) (fun j=>[(22,i64 j),(21,i64 ls.length),(20,ykm ls),(4,i64 k),(15,i64 k),(14,i64 g.ports.length),(13,yat g.ports),(3,.ls 11 1 g.ports.length)]) (fun j=>[(11,some (.vec ((zze g k (zpq (ls.take j))).map ybd)))]) (fun j=>ls.length - j) (fun j=>j<=ls.length) 0 om zs (hsE (by rw [netK_zero h1];rfl)) ?_;intro j hj;refine zY ?_;refine zj ?_ ?_ <;> intro h2
  .simp at h2;obtain ⟨l,hl⟩:=ybr h2;have hl1:=(ybp _ _ _).1 (((yck _ _ _).1 hlb).1 l (qab hl));have hat:=netK_at (B:=zpq (ls.take j)) h1;refine zY ?_;refine yaw tok rfl rfl rfl rfl om om rfl rfl ?_;refine yft (r:=ybd (zpq (ls.take j))) tok rfl rfl rfl rfl (by rw [qah,show ((k:Int).toNat * 1)=k by simp,hat];rfl) rfl rfl ?_
   (repeat (first|refine zb ?_|refine yaw tok rfl rfl rfl rfl om om rfl rfl ?_))
   refine yjh tok rfl rfl rfl rfl rfl rfl (by rw [qal,netK_len h1];omega) rfl (congrArg (fun z=>yac ((11,some (LObj.vec z))::_)) (show _=(zze g k (zpq (ls.take (j+1)))).map ybd by rw [netV_snoc hl,<- qeg,show ((k:Int).toNat * 1)=k by simp,netK_set h1])) rfl rfl ?_;refine zY ?_;exact ylb (j+1) om om zs (yai (yaa rfl yag))
  simp at h2;obtain rfl:j=ls.length:=by omega
  refine zY ?_;exact ylb (k+1) om om zs (hsE (by rw [qay,netK_end hls]))
 simp at h1;obtain rfl:k=g.ports.length:=by omega
 refine zk ?_;have e:xfh g g.ports.length=ynk g:=by unfold xfh;rw [qbn,qak (by rw [ywj];omega)];simp
 refine Frz.ls (rows:=(ynk g).map fun B=>[ybd B]) (xs:=(ynk g).map ybd) ?_ (by rw [qal,ywj]) (by intro r hr;obtain ⟨z,_,rfl⟩:=qag.1 hr;rfl) (ycz _) (by intro x hx i;obtain ⟨z,_,rfl⟩:=qag.1 hx;rfl);show some ((xfh g g.ports.length).map ybd)=_;rw [e]
theorem zul (g:GraphD) (hg:ych g=true):Con prog 87 [yfm g] (ybd (xet g.ports.length)):=by
 have hv:=yba hg;refine ze Tryz.func87 ntmps87 Tryz.results87 ?_
 (try refine zq ?_)
 refine zr ?_;rw [show xet g.ports.length=(1#32 <<< ((g.ids.length:Int)).toNat) - 1#32 by rw [hv.2.2.1,qct];rfl];exact Frz.pure
theorem zhs (kind:Int) (hk:1<=kind/\kind<=4):Con prog 66 [i64 kind] (yay true):=by
 refine ze Tryz.func66 ntmps66 Tryz.results66 ?_;refine zY ?_;refine yam 5 rfl (fun h1=>?_) (fun h1=>?_)
 .refine zk ?_;exact yae so
 simp at h1;omega
def ytm (g:GraphD) (s:BitVec 32):Bool:=(List.range 24).all fun v=>!(s.getLsbD v) || (ynk g).getD v 0#32 &&& s == 0#32
def yxt (g:GraphD) (kind:Int) (e s:BitVec 32):Bool:=!(s == 0#32) && (s &&& ~~~e == 0#32) && (if kind=1 then s &&& (s - 1#32) == 0#32 else if kind=2 then ytm g s else if kind=4 then s == e else true)
theorem yuu (g:GraphD) (kind:Int) (hk:1<=kind/\kind<=4) (e s:BitVec 32) (hi:kind=2->s &&& ~~~e=0#32->Con prog 206 [yxr g,ybd s] (yay (ytm g s))):Con prog 153 [yxr g,i64 kind,ybd e,ybd s] (yay (yxt g kind e s)):=by
 refine ze Tryz.func153 ntmps153 Tryz.results153 ?_;refine zY ?_;refine yam 11 rfl (fun h1=>?_) (fun h1=>?_)
 .rw [yeq] at h1;refine zk ?_;exact yae (by simp only [yxt,h1];rfl)
 rw [yeq] at h1
 (try refine zb ?_)
 refine zj ?_ ?_ <;> intro h2
 .rw [yfh] at h2;refine zk ?_;exact yae (by unfold yxt;rw [show (s &&& ~~~e == 0#32)=false by simpa [bne] using h2];simp)
 rw [yfh] at h2;have h2:(s &&& ~~~e == 0#32)=true:=by simpa [bne] using h2
 have hbase:yxt g kind e s=(if kind=1 then s &&& (s - 1#32) == 0#32 else if kind=2 then ytm g s else if kind=4 then s == e else true):=by
  unfold yxt;rw [h1,h2];simp
 rw [hbase];have:kind=1\/kind=2\/kind=3\/kind=4:=by omega
 rcases this with rfl|rfl|rfl|rfl
 ·(try refine zq ?_)
  refine zr ?_;rw [yeq];exact yae rfl
 ·(repeat (first|refine zy ?_|refine zc (hi rfl (by simpa using h2)) ?_))
  refine zr ?_;exact yae rfl
 .refine zk ?_;exact yae rfl
 refine zk ?_;rw [ztu];exact yae rfl
end
section
open Go.RowKit
section
variable {P:Program} {N:Nat} {t:List (Nat × AV)} {h:List (Nat × Option LObj)}
theorem Sim.freezeM {B:Bse} {ok0:Nat->Prop} {s:SS} {lv:Live} {a:Act} {w:World} (hs:Sim B ok0 N s lv a w) {jb k id size len:Nat} {xs ys:List AV} {rows:List (List AV)} (hj:s.h jb=some (.mcells ys)) (hk:ys[k]?=some (.ls id size len)) (hx:s.h id=some (.vec xs)) (hlen:rows.length=len)
  (hsize:∀ row∈rows,row.length=size) (hfl:rows.flatten=xs) {s':SS} (ht:∀ x y,s'.t x=some y->s.t x=some y) (hid:s'.h id=none) (hj':s'.h jb=some (.mcells (ys.set k (.sl size rows)))) (hh:∀ j ob,j≠jb->s'.h j=some ob->s.h j=some ob):∃ lv',Sim B ok0 N s' lv' a w:=by
 obtain ⟨lv',h1,h2,h3,h4⟩:=hs.forg (s':=⟨s'.t,fun j=>if j=jb then some (.mcells ys) else s'.h j⟩) (fun x y hy=>.inr (ht x y hy)) (fun x y hy=>⟨y,ht x y hy⟩) (fun j ob hb=>by
  simp only at hb
  split at hb
  .rename_i e;subst e;cases hb;exact ⟨_,hj,.inl rfl⟩
  rename_i e;exact ⟨ob,hh j ob e hb,.inl rfl⟩)
 refine ⟨lv',?_⟩;have hne:id≠jb:=by intro e;subst e;rw [hj'] at hid;cases hid
 have hpure:∀ x∈xs,∀ i,ment i x=false:=by
  intro x hxm i;obtain ⟨b,n,g1,g2⟩:=hs.inv.obj id _ hx;cases b with
  | none=>simp only [ygb,reduceCtorEq,exists_const,or_false] at g2;cases g2;cases hxm
  | some b=>exact yar.ment (g2.2.2.2 x hxm)
 obtain ⟨bo,n,g1,g2⟩:=hs.inv.obj jb _ hj;obtain ⟨bo',n',k1,k2⟩:=h1.inv.obj jb (.mcells ys) sm;have hsame:=h2 jb bo' n' k1;rw [g1] at hsame;cases hsame;cases bo with
 | none=>simp [ygb] at g2
 | some b=>
  obtain ⟨q1,q2,c,e,q3,q4,q5,q6,q7⟩:=g2;obtain ⟨r1,r2,c',e',r3,r4,r5,r6,r7⟩:=k2;rw [q3] at r3;cases r3;have hkl:=(qaa.1 hk).1;have hkc:k < c.size:=by omega
  have hold:Rel (yax B ok0 lv w) w lv (.ls id size len) c[k]:=q7 k _ _ hk (by simp [hkc]);have hnew:Rel (yax B ok0 lv' w) w lv' (.sl size rows) c[k]:=by
   have hr:=ysh hs.inv hold (by rw [hx];rfl) hlen hsize hfl hpure (yax B ok0 lv' w) h4 (fun b n hb=>?_)
   .exact hr.relive fun i b n _ hm=>by simp [ment] at hm
   obtain ⟨_,_,g1,g2,_⟩:=hs.inv.lvat hb;refine ⟨.inr g1,g2,fun j b' m hj he=>?_⟩;subst he;have:=hs.inv.inj j id b' m n (h2 j _ m hj) hb;subst this;rw [h1.inv.dom j (by simp [hne,hid])] at hj;cases hj
  refine ⟨⟨h1.inv.base,h1.inv.ok0lt,fun j hjn=>?_,h1.inv.inj,fun j x hxj=>?_⟩,h1.size,h1.frame,h1.defers,h1.big,fun j b o hN hjx hc hb=>?_⟩
  .by_cases hjj:j=jb
   .subst hjj;rw [hj'] at hjn;cases hjn
   exact h1.inv.dom j (by simp [hjj,hjn])
  .by_cases hjj:j=jb
   .subst hjj;rw [hj'] at hxj;cases hxj;refine ⟨some b,n,k1,r1,r2,c,e,q3,q4,by simpa using r5,fun x hxm=>?_,fun i x u hi hu=>?_⟩
    .rcases qet hxm with hm|hm
     .exact r6 x hm
     subst hm;rfl
    rw [qcy] at hi;split at hi
    .rename_i e1;subst e1;cases hi;simp only [hkc,qbr,Option.some.injEq] at hu;subst hu;exact hnew
    exact r7 i x u hi hu
   exact h1.inv.obj j x (by simp [hjj,hxj])
  by_cases hjj:j=jb
  .subst hjj;rw [hj'] at hjx;cases hjx;cases hc
  exact h1.pin j b o hN (by simp [hjj,hjx]) hc hb
theorem A_freezeM {c:Code} {Q:Exit->SS->Prop} {t':List (Nat × AV)} {h':List (Nat × Option LObj)} (jb k:Nat) {id size len:Nat} {xs ys:List AV} (rows:List (List AV)) (hj:yac h jb=some (ygy ys)) (hk:ys[k]?=some (.ls id size len)) (hx:yac h id=some (.vec xs)) (hlen:rows.length=len)
  (hsize:∀ row∈rows,row.length=size) (hfl:rows.flatten=xs) (ht:yxu t t') (hh:yts h h') (hid:yac h' id=none) (hne:id≠jb) (k:A P N c Q (S t' ((jb,some (ygy (ys.set k (.sl size rows))))::h'))):A P N c Q (S t h):=by
 have hy:ys≠[]:=by intro e;subst e;simp at hk
 rw [yjo hy] at hj;rw [yjo (by intro e;have:=congrArg List.length e;simp at this;exact hy this)] at k;intro B ok0 lv a w hs;obtain ⟨lv',hs'⟩:=hs.freezeM (s':=S t' ((jb,some (.mcells (ys.set _ (.sl size rows))))::h')) hj hk hx hlen hsize hfl (ybo ht) (by rw [S];simp only;rw [yao hne];exact hid) yaz (fun j ob hj hb=>by
  rw [S] at hb
  simp only at hb
  rw [yao hj] at hb
  exact yai hh j ob hb)
 exact k B ok0 lv' a w hs'
theorem A_asPlain {c:Code} {Q:Exit->SS->Prop} (id:Nat) {xs:List AV} (hx:yac h id=some (ygy xs)) (hp:yar.pureL xs=true) (k:A P N c Q (S t ((id,some (.vec xs))::h))):A P N c Q (S t h):=by
 intro B ok0 lv a w hs;refine k B ok0 lv a w ⟨⟨hs.inv.base,hs.inv.ok0lt,fun j hj=>?_,hs.inv.inj,fun j x hj=>?_⟩,hs.size,hs.frame,hs.defers,hs.big,fun j b ws hN hj hc hb=>?_⟩
 .refine hs.inv.dom j ?_;simp only [S,yac] at hj ⊢;split at hj
  .cases hj
  exact hj
 .simp only [S,yac] at hj;split at hj
  .rename_i hb;cases hj;have e:=qaf hb;subst e;obtain ⟨b,n,h1,h2⟩:=hs.inv.obj j _ hx;refine ⟨b,n,h1,?_⟩;cases xs with
   | nil=>exact h2
   | cons x xs=>
    cases b with
    | none=>simp [ygb,ygy] at h2
    | some b=>exact ⟨h2.1,h2.2.1,h2.2.2,ylz hp⟩
  exact hs.inv.obj j x hj
 simp only [S,yac] at hj;split at hj
 .cases hj;cases hc
 exact hs.pin j b ws hN hj hc hb
end
section
variable {P:Program} {T:Nat->Option Ty} {N:Nat} {ops:Array Oper} {lf:Oper->Bool} {Q:SS->Prop} {t:List (Nat × AV)} {h:List (Nat × Option LObj)} {rest:List Oper} {d:Nat} {ty:TypeId} {pos:String} {af:Array Edge} {gd:Option (Nat × Bool)}
theorem L_fieldLp (hT:TOK P T) {ti i o s sz:Nat} {ag a2:Bool} {fs:List (Nat × Nat × Bool)} {z:List Value} {x:Operand} {id off:Nat} {xs:List AV} (hk:T ti=some ⟨.strct fs,sz,a2,z⟩) (hf:fs[i]?=some (o,s,ag)) (hx:evF (yaj t) x=some (.lp id off)) (hh:ycu (yac h id)=some xs) (hne:xs≠[])
  (hw:yal ops (yaj t) ⟨some d,.fieldAddr ti x i,ty,pos,af,gd⟩=some true) (hd:Nat.blt d N=true) (k:Lex P N ops lf Q rest (S ((d,.lp id (off+o))::t) h)):Lex P N ops lf Q (⟨some d,.fieldAddr ti x i,ty,pos,af,gd⟩::rest) (S t h):=
 ycl (ytv (hT _ _ hk).2.2 hf hx hh (.inl hne)) hw hd k
end
theorem pureL_map {α:Type} {f:α->AV} (l:List α) (hf:∀ x,yar (f x)=true):yar.pureL (l.map f)=true:=by
 induction l with
 | nil=>rfl
 | cons x l ih=>simp [yar.pureL,hf,ih]
end
section
open Go.RowKit
def zbe:List (Int × Int)->Int->List Int × Int
 | [],P=>([],P)
 | r::rs,P=>((zbe rs P).2::(zbe rs P).1,(zbe rs P).2 * (r.2 - r.1+1))
def zaw:List (List (Int × Int))->Int->List (List Int) × Int
 | [],P=>([],P)
 | r::rs,P=>((zbe r (zaw rs P).2).1::(zaw rs P).1,(zbe r (zaw rs P).2).2)
def ymg:List (Int × Int)->Int
 | []=>1
 | r::rs=>(r.2 - r.1+1) * ymg rs
theorem xdj:∀ (l:List (Int × Int)) (P:Int),(zbe l P).2=P * ymg l
 | [],P=>by simp [zbe,ymg]
 | r::rs,P=>by
  simp only [zbe,ymg];rw [xdj rs P,qez,Int.mul_comm (ymg rs)]
theorem ywt:∀ (a b:List (Int × Int)),ymg (a++b)=ymg a * ymg b
 | [],b=>by simp [ymg]
 | r::rs,b=>by
  simp only [qax,ymg];rw [ywt rs b,qez]
theorem xgw:∀ (t:List (List (Int × Int))) (P:Int),(zaw t P).2=P * ymg t.flatten
 | [],P=>by simp [zaw,ymg]
 | r::rs,P=>by
  simp only [zaw,qci];rw [xdj,xgw rs P,ywt,qez,Int.mul_comm (ymg rs.flatten)]
theorem yxa:∀ (l:List (Int × Int)) (P:Int),(zbe l P).1.length=l.length
 | [],P=>rfl
 | r::rs,P=>by simp [zbe,yxa rs P]
theorem yxg:∀ (t:List (List (Int × Int))) (P:Int),(zaw t P).1.length=t.length
 | [],P=>rfl
 | r::rs,P=>by simp [zaw,yxg rs P]
theorem ywu:∀ {l:List (Int × Int)},(∀ q∈l,yua q)->1<=ymg l
 | [],_=>by simp [ymg]
 | r::rs,h=>by
  have ih:=ywu (l:=rs) fun q hq=>h q (qap _ hq);have hr:=h r (qbk ..);have:=qge (show (1:Int)<=r.2 - r.1+1 by have:=hr.2.1;omega) ih om (by have:=hr.2.1;omega);simpa [ymg] using this
theorem prodL_le {a b:List (Int × Int)} (h:∀ q∈a++b,yua q):ymg b<=ymg (a++b):=by
 have ha:=ywu (l:=a) fun q hq=>h q (List.mem_append_left _ hq);have hb:=ywu (l:=b) fun q hq=>h q (qgd _ hq);rw [ywt];have:=qge ha (qgz (ymg b)) om om;simpa using this
theorem znx:∀ {l:List (Int × Int)} {n m:Int},n<=32768->yhp n l=some m->m=n * ymg l/\m<=32768
 | [],n,m,hn,h=>by simp only [yhp,Option.some.injEq] at h;subst h;simp [ymg,hn]
 | r::rs,n,m,hn,h=>by
  simp only [yhp] at h;split at h
  .cases h
  rename_i h1;obtain ⟨e,h2⟩:=znx om h;exact ⟨by rw [e,ymg,qez],h2⟩
theorem tab_split {tbl:List (List (Int × Int))} {r:List (Int × Int)} (hk:tbl[k]?=some r) (j:Nat):tbl.flatten=((tbl.take k).flatten++r.take j)++(r.drop j++(tbl.drop (k+1)).flatten):=by
 conv=>lhs;rw [<- qcg (k+1) tbl,yan hk]
 rw [qea,qea,qbb,qbb];congr 1;rw [<- qbb,qcg];simp
theorem zlu {tbl:List (List (Int × Int))} (ht:xae tbl) {n:Int} (hn:yci tbl=(n,0)) {r:List (Int × Int)} (hk:tbl[k]?=some r) (j:Nat):1<=(zbe (r.drop j) (zaw (tbl.drop (k+1)) 1).2).2/\(zbe (r.drop j) (zaw (tbl.drop (k+1)) 1).2).2<=32768:=by
 have hall:∀ q∈tbl.flatten,yua q:=fun q hq=>by
  obtain ⟨r,hr,hq⟩:=qda.1 hq;exact (ht.2 r hr).2 q hq
 have hc:yhp 1 tbl.flatten=some n:=by
  unfold yci at hn;split at hn
  .rename_i e;cases hn;exact e
  cases hn
 obtain ⟨e,hn2⟩:=znx om hc;rw [qen] at e;have hs:=tab_split hk j;rw [xdj,xgw,qen,Int.mul_comm,<- ywt];rw [hs] at hall e;have h1:=ywu (l:=r.drop j++(tbl.drop (k+1)).flatten) fun q hq=>hall q (qgd _ hq);have h2:=prodL_le hall;omega
theorem xbd {α:Type} {l:List α} {x:α} (h:l[k]?=some x):l.drop k=x::l.drop (k+1):=by
 obtain ⟨h1,h2⟩:=qaa.1 h;rw [qby h1,h2]
def yht (p:ProgD) (g:GraphD):List (List Int):=(zaw (yad p g) 1).1
def xdh (p:ProgD) (g:GraphD) (kind:Int) (pl:AV):List AV:=[ygi p g,yxr g,i64 kind,ydl (yad p g),pl]
def ygn (p:ProgD) (g:GraphD) (kind:Int):AV:=.dp (xdh p g kind (.sl 1 ((yht p g).map fun r=>[yah r]))) 0
def plX (k:Nat) (R:List (List Int)):List AV:=List.replicate k yfj++R.map yah
theorem plX_len (k:Nat) (R:List (List Int)):(plX k R).length=k+R.length:=by simp [plX]
theorem plX_ment (d k:Nat) (R:List (List Int)):ment.mentL d (plX k R)=false:=by
 unfold plX;rw [ywg,zlm d yfj rfl,qfa];refine ygh fun x hx=>?_;obtain ⟨y,_,rfl⟩:=qag.1 hx;rfl
theorem plX_set (k:Nat) (R:List (List Int)) (x:AV):(plX (k+1) R).set k x=List.replicate k yfj++x::R.map yah:=by
 unfold plX;rw [List.replicate_succ',qbb,qbm _ _ sm];simp
theorem xcd (k:Nat) (x:AV) (l:List AV):(List.replicate k yfj++x::l)[k]?=some x:=by
 rw [qai sm];simp
theorem mid_set (k:Nat) (x y:AV) (l:List AV):(List.replicate k yfj++x::l).set k y=List.replicate k yfj++y::l:=by
 rw [qbm _ _ sm];simp
def rwX (j:Nat) (Q:List Int):List AV:=(List.replicate j 0++Q).map i64
theorem rwX_len (j:Nat) (Q:List Int):(rwX j Q).length=j+Q.length:=by simp [rwX]
theorem rwX_set (j:Nat) (Q:List Int) (z:Int):(rwX (j+1) Q).set j (i64 z)=rwX j (z::Q):=by
 unfold rwX;rw [<- qeg,List.replicate_succ',qbb,qbm _ _ sm];simp
theorem newbuilder_con (p:ProgD) (g:GraphD) (hf:Fair p g) (h0:ycn p g=0) (kind:Int) (n:Int) (hn:yci (yad p g)=(n,0)):Con prog 67 [yhb p,yfm g,i64 kind] (ygn p g kind):=by
 have hg:=(ycv.1 h0).2.1;have ht:=ydf hf h0;obtain ⟨tbl,htb⟩:∃ tbl,yad p g=tbl:=⟨_,rfl⟩;have hT:=yoq p g hf h0;have htl:=ht.1;unfold ygn yht xdh;rw [htb] at hn ht hT htl ⊢;refine ze Tryz.func67 ntmps67 Tryz.results67 ?_
 (repeat (first|refine zz ?_|refine zc (yqw p g hf h0) ?_|refine zc (yyy g hg) ?_|refine yqg tok rfl rfl rfl rfl co rfl rfl rfl rfl rfl ?_))
 refine yxv 28 (List.replicate tbl.length yfj) rfl (zxi _ _) ?_;refine ycx (α:=Int × Int × List (List Int)) (fun q=>[(9,i64 q.1),(8,i64 q.2.1),(7,.lp 21 0)]) (fun q=>[(28,some (ygy (plX (q.1+1).toNat q.2.2))),(21,some (.cells [ygi p g,yxr g,i64 kind,ydl tbl,.ls 28 1 tbl.length]))]) (fun q=>(q.1+1).toNat) (fun q=>-1<=q.1/\q.1 < tbl.length/\zaw (tbl.drop (q.1+1).toNat) 1=(q.2.2,q.2.1)) (tbl.length - 1,1,[]) ⟨by simp only;omega,by simp only;omega,?_⟩ zs ?_ ?_
 .simp only;rw [show ((tbl.length:Int) - 1+1).toNat=tbl.length by omega,qcb];rfl
 .refine yai (yaa ?_ (yaa rfl yag));simp only;rw [show ((tbl.length:Int) - 1+1).toNat=tbl.length by omega];simp [plX,yac]
 rintro ⟨z,P0,R⟩ ⟨hz1,hz2,hR⟩;simp only at hz1 hz2 hR ⊢;refine zY ?_;refine zj ?_ ?_ <;> intro h1
 .simp at h1;obtain ⟨k,rfl⟩:∃ k:Nat,z=k:=⟨z.toNat,om⟩;obtain ⟨r,hr⟩:=ybr (show k < tbl.length by omega);obtain ⟨hrl,hrq⟩:=ht.2 r (qab hr);rw [show ((k:Int)+1).toNat=k+1 by omega] at hR ⊢;have hP:(zaw (tbl.drop (k+1)) 1).2=P0:=by rw [hR]
  have hRl:R.length=tbl.length - (k+1):=by
   have:=yxg (tbl.drop (k+1)) 1;rw [hR] at this;simpa using this
  refine zW ?_;refine ybx (lf:=lf0) ysy rfl ?_;refine yee [5,6,7,8,9,10,11,12] 8 (yab rfl (yab rfl (yab rfl (yab rfl (yab rfl (yab rfl (yab rfl (yab rfl yak)))))))) rfl dk ?_;refine zO ?_;refine zbj tok (fun y=>!ment 54 y) [(0,41,.lp 21 0),(1,42,.lp 21 0),(2,43,.lp 21 (0+4)),(3,44,.ls 28 1 tbl.length),(4,45,i64 k)] 13 54 [] (.ls 54 1 r.length) (req:=[(7,.lp 21 0),(9,i64 k)]) 2 rfl kf rfl rfl rfl kf kf rfl ⟨⟨rfl,rfl,rfl⟩,⟨rfl,rfl,rfl⟩,trivial⟩ rfl
   ⟨⟨_,[(7,.lp 21 0),(9,i64 k)],rfl,rfl,rfl,kf,kf,kf,kf,rfl,rfl,rfl⟩,⟨_,[(41,.lp 21 0),(7,.lp 21 0),(9,i64 k)],rfl,rfl,rfl,kf,kf,kf,kf,rfl,rfl,rfl⟩,⟨_,[(41,.lp 21 0),(42,.lp 21 0),(7,.lp 21 0),(9,i64 k)],rfl,rfl,rfl,kf,kf,kf,kf,rfl,rfl,rfl⟩,⟨_,[(41,.lp 21 0),(42,.lp 21 0),(43,.lp 21 (0+4)),(7,.lp 21 0),(9,i64 k)],rfl,rfl,rfl,kf,kf,kf,kf,rfl,rfl,rfl⟩,⟨_,[(7,.lp 21 0),(9,i64 k)],rfl,rfl,rfl,kf,kf,kf,kf,rfl,rfl,rfl⟩,trivial⟩ rfl rfl rfl
   (fun t ht hl=>zpl tok 54 hl rfl rfl rfl rfl rfl (ht 53 _ rfl) (ht 53 _ rfl) co (yul dc (by rw [yiz];exact plX_ment _ _ _) rfl)) ?_
  refine yau [14,15] (yab rfl (yab rfl yak)) rfl kf ?_
  (repeat (first|refine zo ?_|refine yaw tok rfl rfl rfl rfl om om rfl rfl ?_))
  refine yrr tok rfl rfl rfl rfl rfl rfl (by rw [plX_len];simp;omega) rfl rfl ?_;refine zY ?_;refine ycx (α:=Int × Int × List Int) (fun q=>[(10,i64 q.1),(8,i64 q.2.1),(9,i64 k),(7,.lp 21 0)]) (fun q=>[(54,some (.vec (rwX (q.1+1).toNat q.2.2))),(28,some (ygy (List.replicate k yfj++.ls 54 1 r.length::R.map yah))),(21,some (.cells [ygi p g,yxr g,i64 kind,ydl tbl,.ls 28 1 tbl.length]))]) (fun q=>(q.1+1).toNat) (fun q=>-1<=q.1/\q.1 < r.length/\zbe (r.drop (q.1+1).toNat) P0=(q.2.2,q.2.1)) (r.length - 1,P0,[]) ⟨by simp only;omega,by simp only;omega,?_⟩ zs ?_ ?_
  .simp only;rw [show ((r.length:Int) - 1+1).toNat=r.length by omega,qcb];rfl
  .refine yai (yaa ?_ (yaa ?_ (yaa rfl yag)))
   .simp only;rw [show ((r.length:Int) - 1+1).toNat=r.length by omega,show yit [Value.int .i64 0]=[i64 0] from rfl,zxi];simp [rwX,yac]
   rw [show ((k:Int).toNat * 1)=k by simp,plX_set];rfl
  rintro ⟨y,P,Q⟩ ⟨hy1,hy2,hQ⟩;simp only at hy1 hy2 hQ ⊢;refine zY ?_;refine zj ?_ ?_ <;> intro h2
  .simp at h2;obtain ⟨j,rfl⟩:∃ j:Nat,y=j:=⟨y.toNat,om⟩;obtain ⟨q,hq⟩:=ybr (show j < r.length by omega);rw [show ((j:Int)+1).toNat=j+1 by omega] at hQ ⊢;have hQl:Q.length=r.length - (j+1):=by
    have:=yxa (r.drop (j+1)) P0;rw [hQ] at this;simpa using this
   have b1:=zlu ht hn hr (j+1);have b2:=zlu ht hn hr j;have hnew:zbe (r.drop j) P0=(P::Q,P * (q.2 - q.1+1)):=by rw [xbd hq];simp only [zbe,hQ]
   rw [hP,hQ] at b1;rw [hP,hnew] at b2;simp only at b1 b2;obtain ⟨q1,q2,q3⟩:=hrq q (qab hq)
   (repeat (first|refine zy ?_|refine yaw tok rfl rfl rfl rfl om om rfl rfl ?_|refine yft (r:=.ls 54 1 r.length) tok rfl rfl rfl (ygd _) (by rw [show ((k:Int).toNat * 1)=k by simp];exact xcd _ _ _) rfl rfl ?_|refine ykk tok rfl rfl rfl rfl rfl rfl (by rw [rwX_len];simp;omega) rfl rfl rfl ?_))
   refine ylb ((j:Int) - 1,P * (q.2 - q.1+1),P::Q) ⟨by simp only;omega,by simp only;omega,?_⟩ (by simp only;omega) zs (yai (yaa ?_ (yaa rfl (yaa rfl yag))))
   .simp only;rw [show ((j:Int) - 1+1).toNat=j by omega];exact hnew
   simp only;rw [show ((j:Int) - 1+1).toNat=j by omega,show ((j:Int).toNat * 1)=j by simp,rwX_set];rfl
  simp at h2;obtain rfl:y=-1:=by omega
  have hQ':zbe r P0=(Q,P):=hQ;have hQl:Q.length=r.length:=by
   have:=yxa r P0;rw [hQ'] at this;simpa using this
  have hnew:zaw (tbl.drop k) 1=(Q::R,P):=by rw [xbd hr];simp only [zaw,hR,hQ']
  (repeat (first|with_reducible refine ydk ?_|with_reducible refine ycd ?_|refine ycy ?_))
  refine A_freezeM (t':=[(8,i64 P),(9,i64 k),(7,.lp 21 0)]) (h':=[(21,some (.cells [ygi p g,yxr g,i64 kind,ydl tbl,.ls 28 1 tbl.length]))]) 28 k (Q.map fun z=>[i64 z]) rfl (xcd _ _ _) rfl (by simpa using hQl) (fun row hrow=>by obtain ⟨z,_,rfl⟩:=qag.1 hrow;rfl) ?_ zs (yaa rfl yag) rfl dc ?_
  .rw [ydj];simp [rwX]
  rw [mid_set];refine zY ?_;refine ylb ((k:Int) - 1,P,Q::R) ⟨by simp only;omega,by simp only;omega,?_⟩ (by simp only;omega) zs (yai (yaa ?_ (yaa rfl yag)))
  .simp only;rw [show ((k:Int) - 1+1).toNat=k by omega];exact hnew
  simp only;rw [show ((k:Int) - 1+1).toNat=k by omega];rfl
 simp at h1;obtain rfl:z=-1:=by omega
 have hR':zaw tbl 1=(R,P0):=hR;have hRl:R.length=tbl.length:=by
  have:=yxg tbl 1;rw [hR'] at this;simpa using this
 rw [hR']
 (repeat (first|with_reducible refine ydk ?_|with_reducible refine ycd ?_|refine ycy ?_))
 refine A_asPlain 28 (xs:=R.map yah) rfl (pureL_map _ fun _=>rfl) ?_;refine yqf (t':=[(7,.lp 21 0)]) (h':=[(28,some (.vec (R.map yah))),(21,some (.cells [ygi p g,yxr g,i64 kind,ydl tbl,.ls 28 1 tbl.length]))]) ?_ zs (yai (yaa rfl (yaa rfl yag)));refine yeg 21 4 (R.map fun r=>[yah r]) rfl rfl rfl (by simpa using hRl) (fun row hrow=>by obtain ⟨z,_,rfl⟩:=qag.1 hrow;rfl) (ycz _) rfl rfl rfl rfl ?_;refine zk ?_;exact Frz.box rfl rfl
end
section
open Go.RowKit
def tzV (B:BitVec 32):Nat:=B.ctz.toNat
theorem yhc (h:B≠0#32):tzV B < 32/\B.getLsbD (tzV B)=true/\∀ u,u < tzV B->B.getLsbD u=false:=by
 refine ⟨?_,BitVec.getLsbD_true_ctz_of_ne_zero h,fun u hu=>BitVec.getLsbD_false_of_lt_ctz hu⟩;have:=BitVec.ctz_lt_iff_ne_zero.2 h;simpa [BitVec.lt_def,tzV] using this
theorem zbw (h:B≠0#32) (u:Nat):(∃ j,j < u/\B.getLsbD j=true)<->tzV B < u:=by
 obtain ⟨_,h2,h3⟩:=yhc h;constructor
 .rintro ⟨j,hj,hb⟩;rcases qbi j (tzV B) with h4|h4
  .rw [h3 j h4] at hb;cases hb
  omega
 intro hu;exact ⟨_,hu,h2⟩
theorem zso (h:B≠0#32) (u:Nat):(B &&& (B - 1#32)).getLsbD u=(B.getLsbD u && decide (u≠tzV B)):=by
 rcases qbi u 32 with hu|hu
 .obtain ⟨_,h2,h3⟩:=yhc h;have e:B - 1#32 = ~~~(-B):=(BitVec.not_neg B).symm;rw [qav,e,qcc,qfx];have hl:=zbw h u;by_cases h4:tzV B < u
  .simp [hu,hl.2 h4,show u≠tzV B by omega]
  by_cases h5:u=tzV B
  .subst h5;rw [decide_eq_false (show ¬ ∃ j,j < tzV B/\B.getLsbD j=true from fun q=>h4 (hl.1 q)),h2];simp
  simp [h3 u om]
 rw [qbs _ _ hu,qbs _ _ hu];rfl
theorem yyw (h:B≠0#32):B &&& -B=1#32 <<< tzV B:=by
 obtain ⟨h1,h2,h3⟩:=yhc h;apply qbj;intro u hu;rw [qav,qfx,qey];have hl:=zbw h u;by_cases h4:tzV B < u
 .have:¬ u - tzV B=0:=by omega
  simp [hu,hl.2 h4,this]
 by_cases h5:u=tzV B
 .subst h5;rw [decide_eq_false (show ¬ ∃ j,j < tzV B/\B.getLsbD j=true from fun q=>h4 (hl.1 q)),h2];simp [h1]
 simp [h3 u om,show u < tzV B by omega]
def yca (B:BitVec 32):List Nat:=(List.range 32).filter B.getLsbD
theorem zhx (p:Nat->Bool) (k:Nat) (hk:p k=true) (hl:∀ u,u < k->p u=false):∀ n,k < n->(List.range n).filter p=k::(List.range n).filter fun u=>p u && decide (u≠k)
 | 0,h=>by omega
 | n+1,h=>by
  rw [qcr,qck,qck];by_cases e:k=n
  .subst e;have e1:(List.range k).filter p=[]:=List.filter_eq_nil_iff.2 fun u hu=>by simp [hl u (qca.1 hu)]
   have e2:((List.range k).filter fun u=>p u && decide (u≠k))=[]:=List.filter_eq_nil_iff.2 fun u hu=>by simp [hl u (qca.1 hu)]
   rw [e1,e2];simp [hk]
  rw [zhx p k hk hl n om];have:decide (n≠k)=true:=by simp;omega
  simp only [qgh,qhq,this,qfl,qax]
theorem zja (h:B≠0#32):yca B=tzV B::yca (B &&& (B - 1#32)):=by
 obtain ⟨h1,h2,h3⟩:=yhc h;unfold yca;rw [zhx B.getLsbD (tzV B) h2 h3 32 h1];congr 1;exact qfz fun u _=>(zso h u).symm
theorem zez:yca B=[]<->B=0#32:=by
 constructor
 .intro h;refine qbj fun u hu=>?_;rw [qbf];simpa using List.filter_eq_nil_iff.1 h u (qca.2 hu)
 rintro rfl;exact List.filter_eq_nil_iff.2 fun u _=>by simp
def yso (B:BitVec 32):Nat->BitVec 32
 | 0=>B
 | k+1=>yso B k &&& (yso B k - 1#32)
theorem zcd (B:BitVec 32):∀ k,yca (yso B k)=(yca B).drop k
 | 0=>rfl
 | k+1=>by
  have ih:=zcd B k;rw [<- qhv,<- ih];show yca (yso B k &&& (yso B k - 1#32))=_;by_cases h:yso B k=0#32
  .rw [h];simp [zez.2]
  rw [zja h];rfl
theorem zxf:yso B k=0#32<->(yca B).length<=k:=by
 rw [<- zez,zcd,List.drop_eq_nil_iff]
theorem rem_at (h:yso B k≠0#32):(yca B)[k]?=some (tzV (yso B k)):=by
 have e:=zcd B k;rw [zja h] at e;have:=congrArg List.head? e;rw [List.head?_drop] at this;exact this.symm
theorem ygk:v∈yca B<->v < 32/\B.getLsbD v=true:=by
 unfold yca;rw [qdq,qca]
theorem zey (B:BitVec 32):(yca B).length<=32:=by
 unfold yca;have:=qdl B.getLsbD (List.range 32);simpa using this
theorem xct:(B &&& (B - 1#32) == 0#32)=true<->∀ u v,B.getLsbD u=true->B.getLsbD v=true->u=v:=by
 rw [beq_iff_eq];by_cases h:B=0#32
 .subst h;simp
 obtain ⟨h1,h2,h3⟩:=yhc h;constructor
 .intro e u v hu hv;have key:∀ u,B.getLsbD u=true->u=tzV B:=fun u hu=>by
   have:=zso h u;rw [e,qbf,hu] at this;simpa using this
  rw [key u hu,key v hv]
 intro q;refine qbj fun u hu=>?_;rw [zso h,qbf];cases hb:B.getLsbD u with
 | false=>rfl
 | true=>simp [q u _ hb h2]
end
section
open Go.RowKit
def ykq (e x:BitVec 32):BitVec 32:=(x - e) &&& e
def ysw (x e:BitVec 32):Prop:=x &&& ~~~e=0#32
theorem ysw.bit (h:ysw x e) {u:Nat} (hu:x.getLsbD u=true):e.getLsbD u=true:=by
 have:=congrArg (fun X=>BitVec.getLsbD X u) h;simp only [qav,qcc,qbf,hu] at this;rcases qbi u 32 with h1|h1
 .simpa [h1] using this
 rw [qbs _ _ h1] at hu;cases hu
theorem yjm (e x:BitVec 32):ysw (ykq e x) e:=by
 apply qbj;intro u hu;simp only [ykq,qav,qcc,qbf];cases e.getLsbD u <;> simp
theorem zwn (h:ysw x e):ykq e x=-(e &&& ~~~x) &&& e:=by
 unfold ykq;congr 1;have h1:x+~~~e=x ||| ~~~e:=BitVec.add_eq_or_of_and_eq_zero _ _ h;have h2 : ~~~(e &&& ~~~x)=x ||| ~~~e:=by
  apply qbj;intro u hu;simp only [qcc,qav,qfn,hu,decide_true,qfv];cases e.getLsbD u <;> cases x.getLsbD u <;> rfl
 rw [BitVec.neg_eq_not_add,h2,<- h1,BitVec.sub_eq_add_neg,BitVec.neg_eq_not_add,BitVec.add_assoc]
theorem ywn:ykq e e=0#32:=by
 unfold ykq;simp
theorem bit_lt {m:Nat} (k:Nat) (h1:n.testBit k=false) (h2:m.testBit k=true) (h3:∀ j,k < j->n.testBit j=m.testBit j):n < m:=by
 have e:n / 2 ^ k / 2=m / 2 ^ k / 2:=Nat.eq_of_testBit_eq fun j=>by
  rw [Nat.testBit_div_two,Nat.testBit_div_two,qfu,qfu];exact h3 _ om
 have a1:n / 2 ^ k % 2=0:=by
  have:=qfu (n:=k) n 0;rw [qba,h1,qhe] at this;simpa using this
 have a2:m / 2 ^ k % 2=1:=by
  have:=qfu (n:=k) m 0;rw [qba,h2,qhe] at this;simpa using this
 have hlt:n / 2 ^ k < m / 2 ^ k:=by omega
 exact qdg fun hge=>by
  have:=Nat.div_le_div_right (c:=2 ^ k) hge;omega
theorem yyz (h:ysw x e) (hne:x≠e):x.toNat < (ykq e x).toNat:=by
 have hr:e &&& ~~~x≠0#32:=fun q=>hne (by
  apply qbj
  intro u hu
  have:=congrArg (fun X=>BitVec.getLsbD X u) q
  simp only [qav,qcc,qbf,hu,decide_true,qfv] at this
  cases hx:x.getLsbD u with
  | true=>exact (h.bit hx).symm
  | false=>rw [hx] at this;simpa using this.symm)
 obtain ⟨k1,k2,k3⟩:=yhc hr;have hlow:=zbw hr;rw [zwn h];generalize hR:e &&& ~~~x=r at *;have rb:∀ u,u < 32->r.getLsbD u=(e.getLsbD u && !x.getLsbD u):=fun u hu=>by
  rw [<- hR];simp [hu]
 have hk:=k2;rw [rb _ k1] at hk;simp only [qac,qbt] at hk;refine bit_lt (tzV r) hk.2 ?_ fun u hu=>?_
 .show (-r &&& e).getLsbD (tzV r)=true;rw [qav,qfx,k2,hk.1,decide_eq_false (show ¬ ∃ j,j < tzV r/\r.getLsbD j=true from fun q=>by have:=(hlow _).1 q;omega)];simp
 show x.getLsbD u=(-r &&& e).getLsbD u;rcases qbi u 32 with h1|h1
 .rw [qav,qfx,decide_eq_true ((hlow u).2 hu),rb u h1];cases hx:x.getLsbD u with
  | true=>rw [h.bit hx];simp [h1]
  | false=>cases e.getLsbD u <;> simp [h1]
 rw [qbs _ _ h1,qbs _ _ h1]
def ymc (e:BitVec 32):Nat->BitVec 32->List (BitVec 32)
 | 0,_=>[]
 | n+1,x=>if x=0#32 then [] else x::ymc e n (ykq e x)
def zgz (e x:BitVec 32):List (BitVec 32):=ymc e (4294967296 - x.toNat) x
theorem yld:∀ n,ymc e n 0#32=[]
 | 0=>rfl
 | n+1=>by simp [ymc]
theorem zav:∀ (n m:Nat) (x:BitVec 32),ysw x e->4294967296<=n+x.toNat->4294967296<=m+x.toNat->ymc e n x=ymc e m x
 | 0,m,x,hs,hn,hm=>by have:=x.isLt;omega
 | n+1,0,x,hs,hn,hm=>by have:=x.isLt;omega
 | n+1,m+1,x,hs,hn,hm=>by
  unfold ymc;by_cases h0:x=0#32
  .rw [if_pos h0,if_pos h0]
  rw [if_neg h0,if_neg h0];by_cases he:x=e
  .subst he;rw [ywn,yld,yld]
  have:=yyz hs he;rw [zav n m (ykq e x) (yjm e x) om om]
theorem yzs:zgz e 0#32=[]:=yld _
theorem yzr (hs:ysw x e) (h0:x≠0#32):zgz e x=x::zgz e (ykq e x):=by
 have hx:=x.isLt;unfold zgz;obtain ⟨n,hn⟩:∃ n,4294967296 - x.toNat=n+1:=⟨4294967296 - x.toNat - 1,om⟩;rw [hn]
 conv=>lhs;unfold ymc
 rw [if_neg h0];congr 1;by_cases he:x=e
 .subst he;rw [ywn,yld,yld]
 have:=yyz hs he;have:=(ykq e x).isLt;exact zav _ _ _ (yjm e x) om om
def xjo (x:BitVec 32):Nat:=if x=0#32 then 0 else 4294967296 - x.toNat
theorem zvk (hs:ysw x e) (h0:x≠0#32):xjo (ykq e x) < xjo x:=by
 have hx:=x.isLt;unfold xjo;rw [if_neg h0];by_cases h1:ykq e x=0#32
 .rw [if_pos h1];omega
 rw [if_neg h1];have:x≠e:=fun q=>h1 (by rw [q];exact ywn);have:=yyz hs this;omega
def yzq (e:BitVec 32):List (BitVec 32):=zgz e (-e &&& e)
theorem yjs (e:BitVec 32):ysw (-e &&& e) e:=by
 apply qbj;intro u hu;simp only [qav,qcc,qbf];cases e.getLsbD u <;> simp
end
section
open Go.RowKit
set_option maxHeartbeats 1000000 in
theorem tz32_core (x k idx:Nat) (w:World) (hx0:((x:Int) == 0)=false) (key:bits BinOp.and IntKind.u32 (x:Int) (-(x:Int) % 4294967296) * 125613361 % 4294967296 / 134217728=(idx:Int))
  (hi:idx < 32) (hk:k < 32) (hcell:w.cell? ⟨0,idx,none⟩=some (.int .u8 k)) :
  Calls prog 181 #[.int .u32 x] w fun e w'=>e=.returned (.int .i64 k)/\w'=w:=by
 go_enter Tryz.func181,ntmps181;go_wp2_with (simp only [key]);go_ret;exact ⟨rfl,rfl⟩
theorem tab32_at:∀ k:Fin 32,2 ^ k.val * 125613361 % 4294967296 / 134217728 < 32/\xfn[2 ^ k.val * 125613361 % 4294967296 / 134217728]?=some (k.val:Int):=by decide +kernel
theorem glob32 {w:World} (h:zba w) {j:Nat} {z:Int} (hz:xfn[j]?=some z):w.cell? ⟨0,j,none⟩=some (.int .u8 z):=by
 unfold zba Lib.TabIs World.var? at h;rw [zvt] at h;simp only [qed] at h;split at h
 .rename_i cs a b hc;cases h;simp [World.cell?,hc,hz]
 cases h
theorem tz_con (B:BitVec 32) (h:B≠0#32):Con prog 181 [ybd B] (i64 (tzV B)):=by
 refine ⟨⟨_,Tryz.func181,rfl,rfl⟩,rfl,fun ok0 w us hG hok hr=>?_⟩;obtain ⟨u,rfl,hu⟩:=zcc hr;cases hu;have hlt:=(yhc h).1;have hB:=B.isLt;have hne:B.toNat≠0:=fun e=>h (qes (by simpa using e));obtain ⟨t1,t2⟩:=tab32_at ⟨tzV B,hlt⟩;have hlow:=congrArg BitVec.toNat (yyw h);rw [qha,BitVec.toNat_and,qhd,qef (show 2 ^ 32 - B.toNat < 2 ^ 32 by omega)] at hlow;simp only [qgr,Nat.shiftLeft_eq] at hlow;have hp:2 ^ tzV B < 2 ^ 32:=qhr om hlt;rw [show (1 % 2 ^ 32) * 2 ^ tzV B=2 ^ tzV B by omega,qef hp] at hlow;have e1:-(B.toNat:Int) % 4294967296=((-B).toNat:Int):=by
  rw [qhd];omega
 have e2:bits .and .u32 (B.toNat:Int) ((-B).toNat:Int)=((B &&& -B).toNat:Int):=by
  have h1:BitVec.ofInt IntKind.u32.bits (B.toNat:Int)=B:=yig B;have h2:BitVec.ofInt IntKind.u32.bits ((-B).toNat:Int)=-B:=yig (-B);unfold bits;simp only [h1,h2];exact zcn (B &&& -B)
 have e3:(B &&& -B).toNat=2 ^ tzV B:=by
  rw [BitVec.toNat_and,qhd,qef (show 2 ^ 32 - B.toNat < 2 ^ 32 by omega)];exact hlow
 refine (tz32_core B.toNat (tzV B) _ w so ?_ t1 hlt (glob32 hG t2)).mono ?_
 .rw [e1,e2,e3];generalize 2 ^ tzV B=m;omega
 rintro e w' ⟨rfl,rfl⟩;exact ⟨_,rfl,.v _,Below.refl _ _⟩
end
set_option maxHeartbeats 4000000
section
open Go.RowKit
def zzj (c:Array Value) (v:Value):Array Value:=(c.toList.take 0++[v]++c.toList.drop 1).toArray
def zyq (W:World) (b:Nat) (v:Value):Prop:=∃ c e,W.heap[b]?=some (.cells c e (0,0))/\c[0]?=some v
def zka (P:Program) (f:FuncId) (els:List (List AV)) (st:Nat->Value):Prop:=
 ylh P f/\∀ (l:Nat) (ok:Nat->Prop) (W:World) (b:Nat) (J J':Nat->World->Prop) (X:World->Prop),
  (∀ k W',J k W'->zyq W' b (st k)/\zba W')->(∀ k W',J' k W'->zyq W' b (st k)) ->
  (∀ k W1 W2,J k W1->Below W1.heap.size W1 W2->J k W2)->(∀ k W1 W2,J' k W1->Below W1.heap.size W1 W2->J' k W2)->(∀ W1 W2,X W1->Below W1.heap.size W1 W2->X W2) ->
  (∀ k c e W1,J' k W1->W1.heap[b]?=some (.cells c e (0,0))->J (k+1) (W1.setRow b (zzj c (st (k+1))))) ->
  (∀ k el vs W1,els[k]?=some el->J k W1->ybm ok W1 (fun _=>none) el vs->YieldAt Fence.wide 0 P l vs.toArray W1 fun e W'=>(e=.returned (.bool true)/\J' k W')\/(e=.returned (.bool false)/\X W')) ->
  J 0 W->CallsIn Fence.wide 0 P f (#[.func (.yield l) #[] #[]]++[Value.pointer (some ⟨b,0,none⟩)].toArray) W fun e W'=>(∃ v,e=.returned v)/\(J els.length W'\/X W')
def yno (id:Nat) (v:Value) (h:Nat->Option LObj):Nat->Option LObj:=fun i=>match Nat.beq i id with
 | true=>some (.cells [.v v])
 | false=>h i
theorem ymz {v:Value} {h:Nat->Option LObj}:yno id v h id=some (.cells [.v v]):=by simp [yno]
theorem withB_upd {v v':Value} {h:Nat->Option LObj}:yek (yno id v h) id (some (.cells [.v v']))=yno id v' h:=by
 funext i;unfold yek yno;by_cases e:i=id
 .subst e;simp
 simp [e,ycr e]
section
variable {P:Program} {N:Nat} {g:Operand} {ps:List Nat} {assign body:Code} {Q:Exit->SS->Prop} {s:SS} {gf:Nat} {els:List (List AV)} {st:Nat->Value}
variable {B Bx:Bse} {okx:Nat->Prop} {l:Nat} {rec:LoopState->Option Code->Loop} {t0:Nat->Option AV} {vt:Nat->Value} {o:Loop} {h:Nat->Option LObj} {W:World} {id b:Nat} {v v':Value}
theorem yim.cellB (hK:yim B Bx okx N l rec t0 vt o (yno id v h) W) (hl:¬ Bx.mine l) (hN:N<=id) (hp:B.pin id=some b):zyq W b v:=by
 obtain ⟨hWl,lv',i1,f1,p1⟩:=hK;obtain ⟨n,hlv⟩:=p1 id b _ hN ymz rfl hp;obtain ⟨b',n',g1,g2⟩:=i1.obj id _ ymz;rw [hlv] at g1;cases g1;have hbl:b≠l:=yyu i1 hl ⟨id,n,hlv⟩;obtain ⟨g3,g4,c,e,q1,q2,q3,q4,q5⟩:=g2;rw [World.putObj_heap_other hbl] at q1;simp only [qaj,qeb] at q3;obtain ⟨u,hu⟩:∃ u,c[0]?=some u:=⟨_,qbr om⟩;have:=q5 0 _ u rfl hu;cases this;exact ⟨c,e,q1,hu⟩
theorem yim.glob (hK:yim B Bx okx N l rec t0 vt o h W) (hl:GN<=l):zba W:=by
 obtain ⟨hWl,lv',i1,_,_⟩:=hK;have:=zbu (o:=.loop o) i1.base.glob hl
 rwa [yrc,ypi hWl] at this
theorem yim.write (hK:yim B Bx okx N l rec t0 vt o (yno id v h) W) (hl:¬ Bx.mine l) (hpx:∀ x,Bx.pin x=none) (hN:N<=id) (hp:B.pin id=some b) {c:Array Value} {e:TypeId} (hc:W.heap[b]?=some (.cells c e (0,0))) (hv':v'.oneCell'=true):yim B Bx okx N l rec t0 vt o (yno id v' h) (W.setRow b (zzj c v')):=by
 obtain ⟨hWl,lv',i1,f1,p1⟩:=hK;obtain ⟨n,hlv⟩:=p1 id b _ hN ymz rfl hp;obtain ⟨b',n',g1,g2⟩:=i1.obj id _ ymz;rw [hlv] at g1;cases g1;have hbl:b≠l:=yyu i1 hl ⟨id,n,hlv⟩;obtain ⟨g3,g4,c',e',q1,q2,q3,q4,q5⟩:=g2;have q1':=q1;rw [World.putObj_heap_other hbl,hc] at q1';cases q1';have hlt:=(qbd.1 hWl).1;have hos:((W.setRow b (zzj c v')).putObj l (.loop (rec .ready none))).os=(W.putObj l (.loop (rec .ready none))).os/\((W.setRow b (zzj c v')).putObj l (.loop (rec .ready none))).tape=(W.putObj l (.loop (rec .ready none))).tape/\((W.setRow b (zzj c v')).putObj l (.loop (rec .ready none))).output=(W.putObj l (.loop (rec .ready none))).output/\((W.setRow b (zzj c v')).putObj l (.loop (rec .ready none))).heap.size=(W.putObj l (.loop (rec .ready none))).heap.size:=⟨rfl,rfl,rfl,sm⟩;have hsz:(W.setRow b (zzj c v')).heap.size=W.heap.size:=by simp
 have hoth:∀ g,g≠b->((W.setRow b (zzj c v')).putObj l (.loop (rec .ready none))).heap[g]?=(W.putObj l (.loop (rec .ready none))).heap[g]?:=by
  intro g hg;by_cases hgl:g=l
  .subst hgl;rw [World.putObj_heap_same (by rw [hsz];exact hlt),World.putObj_heap_same hlt]
  rw [World.putObj_heap_other hgl,World.putObj_heap_other hgl,setRow_other W b g _ hg]
 have hwb:((W.setRow b (zzj c v')).putObj l (.loop (rec .ready none))).heap[b]?=some (.cells (zzj c v') e (0,0)):=by
  rw [World.putObj_heap_other hbl];exact setRow_heap W b c _ e _ hc
 generalize hw':(W.setRow b (zzj c v')).putObj l (.loop (rec .ready none))=w' at hos hoth hwb;have hsim:Sim Bx okx 0 ⟨fun _=>none,yno id v h⟩ lv' { tmps:=#[],defers:=Bx.dl } (W.putObj l (.loop (rec .ready none))):=
  ⟨i1,rfl,fun x y hx=>(by cases hx),⟨[],rfl,qdp,fun d hd=>(by cases hd)⟩,om,fun id b o hN hx hc hb=>by rw [hpx] at hb;cases hb⟩
 have hw:=(hsim.write hlv hos.1 hos.2.1 hos.2.2.1 hos.2.2.2 hoth (ob:=.cells [.v v']) (fun _=>⟨_,ymz,rfl⟩) fun ok' hk=>
  zqr (w:=W.putObj l (.loop (rec .ready none))) (xs:=[.v v]) (cs:=[.v v']) (vs:=[v']) (off:=0) q1 q2 q3 q4 q5 ⟨rfl,fun j x u hx hu=>by
   cases j with
   | zero=>cases hx;cases hu;exact .v _
   | succ j=>simp at hx⟩ (fun x hx=>by cases qaq.1 hx;exact hv') sm hwb ok' hk).inv
 rw [withB_upd] at hw;refine ⟨(setRow_other W b l _ hbl.symm).trans hWl,lv',?_,fun x y hx=>?_,fun id' b' o' hN' hx hc' hb'=>?_⟩
 .rw [hw'];exact hw
 .rw [hw'];exact (f1 x y hx).keep fun g hg=>⟨⟨hg.1,by rw [hos.2.2.2];exact hg.2.1,hg.2.2⟩,hoth g fun e=>hg.2.2 id b n hlv e.symm⟩
 by_cases e:id'=id
 .subst e;exact p1 id' b' _ hN' ymz rfl hb'
 exact p1 id' b' o' hN' (by simpa [yno,ycr e] using hx) hc' hb'
def xfz (id:Nat) (Q:Exit->SS->Prop) (e:Exit) (s:SS):Prop:=∃ h',(∀ i o,h' i=some o->s.h i=some o/\i ∉ [id])/\Q e ⟨s.t,h'⟩
theorem A_rangeB (hgv:evF s.t g=some (.fn gf [.lp id 0])) (hit:zka P gf els st) (hst:∀ k,(st k).oneCell'=true) (hN:N<=id) (hpe:∀ el∈els,el.length=ps.length/\yar.pureL el=true) (hps:∀ p∈ps,p < N) (hpn:ps.Nodup) (ht0:∀ x y,t0 x=some y->s.t x=some y/\(x < N\/1000000<=x))
  (hk:Nat->Nat->Option LObj) (hv:s.h id=some (.vec [.v (st 0)])) (h0:∀ i o,hk 0 i=some o->s.h i=some o) (round:∀ k el,els[k]?=some el->A P N assign (fun e s1=>e=.normal/\A P N body (xek t0 (fun j=>yno id (st k) (hk j)) k (xfz id Q)) s1) ⟨zas t0 ps el,yno id (st k) (hk k)⟩)
  (done:xfz id Q .normal ⟨t0,yno id (st els.length) (hk els.length)⟩):A P N (.rangeFunc g ps.toArray assign body) Q s:=by
 refine zty [id] hgv hit.1 hps hpn t0 ht0 (yno id (st 0) (hk 0)) (yno id (st els.length) (hk els.length)) (fun i o ho=>?_) (fun i hi=>?_) (xfz id Q) (fun e h hq=>hq) (fun B Bx okx l rec vt lv lb W1 hL hK0=>?_) done
 .by_cases e:i=id
  .subst e;rw [ymz] at ho;cases ho;exact .inr ⟨sm,_,_,rfl,hv⟩
  exact .inl (h0 i o (by simpa [yno,ycr e] using ho))
 .cases qaq.1 hi;exact ⟨hN,_,ymz⟩
 obtain ⟨b,n,hlv,hp⟩:=hL.pin id (qgt _);have hlb:lb=[Value.pointer (some ⟨b,0,none⟩)]:=by
  have h1:=hL.len
  match lb,h1,hL.caps with
  | [u],_,hc=>
   have:=hc 0 _ u rfl rfl;cases this with
   | lp _ _ h=>rw [h b n hlv]
 subst hlb;exact hit.2 l okx W1 b (fun k W=>yim B Bx okx N l rec t0 vt (rec .ready none) (yno id (st k) (hk k)) W) (fun k W=>yim B Bx okx N l rec t0 vt (rec .ready none) (yno id (st k) (hk (k+1))) W)
  (fun W=>∃ (c:Code) (h:Nat->Option LObj),((c=.ret/\xfz id Q .ret ⟨t0,h⟩)\/∃ i,c=.exit i/\xfz id Q (.exit i) ⟨t0,h⟩)/\yim B Bx okx N l rec t0 vt (rec .done (some c)) h W)
  (fun k W' hK=>⟨hK.cellB hL.mx hN hp,hK.glob hL.gl⟩) (fun k W' hK=>hK.cellB hL.mx hN hp) (fun k W2 W3 hK hb=>hK.grow hb) (fun k W2 W3 hK hb=>hK.grow hb) (fun W2 W3 ⟨c,h,hc,hK⟩ hb=>⟨c,h,hc,hK.grow hb⟩) (fun k c e W2 hK hc=>hK.write hL.mx hL.pinx hN hp hc (hst _))
  (fun k el vs W2 hel hK hvs=>hL.yield (fun j=>yno id (st k) (hk j)) k el vs W2 (hpe el (qab hel)) (round k el hel) hK hvs) hK0
def xld (id:Nat) (l:List (Nat × Option LObj)):Bool:=l.all fun x=>!Nat.beq x.1 id
theorem zfb {id:Nat}:∀ {l:List (Nat × Option LObj)},xld id l=true->∀ i o,yac l i=some o->i ∉ [id]
 | [],_,i,o,h=>by simp [yac] at h
 | (k,x)::l,hl,i,o,h=>by
  simp only [xld,qeo,qac,qbt] at hl;simp only [yac] at h;cases hb:Nat.beq i k with
  | true=>
   rw [qaf hb];intro hm;rw [qaq.1 hm] at hl;simp at hl
  | false=>rw [hb] at h;exact zfb (l:=l) hl.2 i o h
theorem zbi {t:List (Nat × AV)} {h:List (Nat × Option LObj)} (id:Nat) (hgv:evF (yaj t) g=some (.fn gf [.lp id 0])) (hit:zka P gf els st) (hst:∀ k,(st k).oneCell'=true) (hN:Nat.ble N id=true)
  (hpe:∀ el∈els,el.length=ps.length/\yar.pureL el=true) (hps:(zpk N ps && (ydm ps && zpk 1000000 ps))=true) (t0:List (Nat × AV)) (ht0:yxu t t0) (hlt:zox N t0=true) (hk:Nat->List (Nat × Option LObj)) (hv:yac h id=some (.vec [.v (st 0)])) (h0:∀ i o,yac (hk 0) i=some o->yac h i=some o) (hoff:xld id (hk els.length)=true)
  (round:∀ k el,els[k]?=some el->A P N assign (fun e s1=>e=.normal/\A P N body (xek (yaj t0) (fun j=>yac ((id,some (.cells [.v (st k)]))::hk j)) k (xfz id Q)) s1) (S (zxm ps el t0) ((id,some (.cells [.v (st k)]))::hk k))) (done:Q .normal (S t0 (hk els.length))):A P N (.rangeFunc g ps.toArray assign body) Q (S t h):=by
 simp only [qac] at hps;have hd:xfz id Q .normal ⟨yaj t0,yno id (st els.length) (yac (hk els.length))⟩:=⟨yac (hk els.length),fun i o ho=>by
  have hn:=zfb hoff i o ho
  refine ⟨?_,hn⟩
  have:i≠id:=fun e=>hn (by simp [e])
  simpa [yno,ycr this] using ho,done⟩
 refine A_rangeB hgv hit hst (by simpa using hN) hpe (ysi hps.1) (ylx hps.2.1) (t0:=yaj t0) (fun x y hx=>⟨ybo ht0 x y hx,yuo hlt x y hx⟩) (fun k=>yac (hk k)) hv h0 (fun k el hel=>?_) hd;refine ynu (round k el hel) ⟨fun x y hx=>zfn hps.2.2 hx,fun id o ho=>ho⟩
theorem rndN_ret {t0' t1:List (Nat × AV)} {hk:Nat->List (Nat × Option LObj)} {h1:List (Nat × Option LObj)} {k:Nat} (hx:List (Nat × Option LObj)) (g1:yxu t1 (zdf t0')) (g2:yts h1 hx) (ho:xld id hx=true) (hq:Q .ret (S t0' hx)):xek (yaj t0') (fun k=>yac (hk k)) k (xfz id Q) .ret (S t1 h1):=
 ⟨yac hx,fun x y hx=>ybo g1 _ y (by rw [ykz];exact hx),yai g2,yac hx,fun i o h=>⟨h,zfb ho i o h⟩,hq⟩
end
end
end Go.Proofs.YtgpodcjhgdionaaGreatDoor
