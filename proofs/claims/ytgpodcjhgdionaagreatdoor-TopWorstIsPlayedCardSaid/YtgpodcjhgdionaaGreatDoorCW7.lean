/- Part 7 of the texts under TopWorstIsPlayed. -/
import Derived.WideKeyPair
import Derived.DeepKeys4
import Derived.Below
import Derived.WalkSmall
import Derived.Test.YtgpodcjhgdionaaGreatDoorRows
import Derived.WalkKit
import Derived.WalkSpells
import Derived.WalkLawsBesides
import Derived.Lib.Hide
import Derived.Deep.Slices
import Derived.ChangeArms
import Derived.OpenShut
import Derived.WideShapes
import Derived.Deep.AppendLies
import Derived.Deep.RegionLaw
import Derived.Deep.LoopGhost
import Derived.Test.YtgpodcjhgdionaaGreatDoorCW4
import Derived.Test.YtgpodcjhgdionaaGreatDoorCW6
set_option linter.unusedVariables false
set_option maxRecDepth 100000
namespace Go.Proofs.YtgpodcjhgdionaaGreatDoor
open Go.Proofs.Tryz
variable{w w':World}{v:Value}{xs cs:List Value}{size n B e:Nat}{ports:List (List Lk)}{ls:List Lk}{α H:Type}{P:Program}{g:GraphD}{t:TypeId}{k:IntKind}{R:List Value->α->Prop}{enc:TypeId × Value->H}
section
open Go.RowKit
def inB(v lo hi:Int):Bool:=decide (lo<=v) && decide (v<=hi)
theorem inB_iff(v lo hi:Int):inB v lo hi=true<->lo<=v/\v<=hi:=by simp[inB]
theorem ypm(v lo hi:Int):Con prog 36 [i64 v,i64 lo,i64 hi] (yau (inB v lo hi)):=by
 refine ze Tryz.func36 ntmps36 Tryz.results36 ?_;refine zY ?_;refine yaj 10 rfl (fun h=>?_) (fun h=>?_)
 .refine zk ?_;exact yae (by simp at h;simp[inB,h])
 refine zk ?_;exact yae (by simp at h;simp[inB];omega)
theorem differentIDs_con(ids:List Int)(hlen:ids.length<=5000):Con prog 209 [yai ids] (yau (zsr ids)):=by
 refine ze Tryz.func209 ntmps209 Tryz.results209 ?_;refine zY ?_;refine zsw 3 ((yve []).map yau) rfl (by rw[bits_nil];rfl) (by intro y hy;obtain⟨b,_,rfl⟩:=qag.1 hy;rfl) ?_;refine ybj (α:=Nat) (fun k=>[(8,i64 k),(7,i64 ids.length),(6,yai ids),(3,.lp 3 0)]) (fun k=>[(3,some (.vec ((yve (ids.take k)).map yau)))]) (fun k=>ids.length - k) (fun k=>k<=ids.length/\zsr (ids.take k)=true) 0 ⟨om,rfl⟩ zs zh ?_;intro k ⟨hk,hok⟩;refine zY ?_;refine zj ?_ ?_ <;> intro h
 .simp at h;obtain⟨x,hx⟩:=ybk h;refine zY ?_;refine yaj 14 rfl (fun h1=>?_) (fun h1=>?_)
  .simp at h1;refine zk ?_;exact yae (zlo hx (by simp[idB];omega)).symm
  simp at h1;refine zY ?_;refine yaj 18 rfl (fun h2=>?_) (fun h2=>?_)
  .simp at h2;refine zk ?_;exact yae (zlo hx (by simp[idB];omega)).symm
  simp at h2;refine zY ?_;refine yiz tok rfl rfl rfl (by simp[yve]) rfl om om rfl rfl ?_;refine ydp (r:=yau (decide (x∈ids.take k))) tok rfl rfl rfl rfl (by simp[bits_get (ids.take k) x h1 h2]) rfl rfl ?_;refine zY ?_;refine zj ?_ ?_ <;> intro h3
  .simp at h3;refine zk ?_;exact yae (zit hx h3).symm
  simp at h3;refine zY ?_;refine yiz tok rfl rfl rfl (by simp[yve]) rfl om om rfl rfl ?_;refine yom tok rfl rfl rfl rfl rfl rfl (by simp[bits_len];omega) rfl rfl rfl ?_;refine zY ?_;refine rnd (k+1) ⟨om,zpy hx hok (by simp[idB];omega) h3⟩ om zs ?_;refine yab ?_ yag;rw[yhj hx,<- bits_set _ x h1 h2,qdx];simp[yac,yau]
 simp at h;obtain rfl:k=ids.length:=by omega
 refine zk ?_;rw[qaw]at hok;exact yae hok.symm
end
set_option maxHeartbeats 4000000
section
open Go.RowKit
def yko(g:GraphD):Bool:=decide (g.ids.length<=30) && (decide (g.ports.length<=30) && g.ports.all fun l=>decide (l.length<=30))
theorem ygq(g:GraphD):yko g=true<->g.ids.length<=30/\g.ports.length<=30/\∀ l∈g.ports,l.length<=30:=by
 unfold yko;simp
theorem lightGraph_con(g:GraphD):Con prog 111 [yev g] (yau (yko g)):=by
 refine ze Tryz.func111 ntmps111 Tryz.results111 ?_;refine zY ?_;refine yaj 8 rfl (fun h1=>?_) (fun h1=>?_)
 .simp at h1;refine zk ?_;exact yae (by rw[eq_comm,<- qbv,ygq];omega)
 simp at h1;refine zY ?_;refine zj ?_ ?_ <;> intro h2
 .simp at h2;refine zk ?_;exact yae (by rw[eq_comm,<- qbv,ygq];omega)
 simp at h2;refine zY ?_;refine ybj (α:=Nat) (fun k=>[(3,i64 k),(1,.lp 1 0)]) (fun k=>[(1,some (.cells [yai g.ids,yaq g.ports]))]) (fun k=>g.ports.length - k) (fun k=>k<=g.ports.length/\∀ l∈g.ports.take k,l.length<=30) 0 ⟨om,sm⟩ zs zh ?_;intro k ⟨hk,hok⟩;refine zY ?_;refine zj ?_ ?_ <;> intro h
 .simp at h;obtain⟨x,hx⟩:=ybk h;refine zY ?_;refine zj ?_ ?_ <;> intro h3
  .simp at h3;refine zk ?_;refine yae ?_;rw[eq_comm,<- qbv,ygq];intro h4;have:=h4.2.2 x (qab hx);omega
  simp at h3;refine zY ?_;refine rnd (k+1) ⟨om,?_⟩ om zs zh;intro l hl;rw[yhj hx]at hl;rcases qat.1 hl with hl|hl
  .exact hok l hl
  simp at hl;subst hl;omega
 simp at h;obtain rfl:k=g.ports.length:=by omega
 refine zk ?_;rw[qaw]at hok;exact yae (by rw[eq_comm,ygq];exact⟨om,om,hok⟩)
theorem linksValid_con(l:List Lk)(v n:Nat)(hlen:l.length<=5000)(hn:n<=5000):Con prog 173 [ykr l,i64 v,i64 n] (yau (yij n v l)):=by
 refine ze Tryz.func173 ntmps173 Tryz.results173 ?_;refine zY ?_;refine ybj (α:=Nat) (fun k=>[(7,i64 k),(0,ykr l),(1,i64 v),(2,i64 n)]) (fun k=>[]) (fun k=>l.length - k) (fun k=>k<=l.length/\yij n v (l.take k)=true) 0 ⟨om,rfl⟩ zs zh ?_;intro k ⟨hk,hok⟩;refine zY ?_;refine zj ?_ ?_ <;> intro h
 .simp at h;obtain⟨x,hx⟩:=ybk h
  (repeat (first|refine zy ?_|refine zc (ypm _ _ _) ?_))
  refine yaj 24 rfl (fun h1=>?_) (fun h1=>?_)
  .refine zk ?_;refine yae (yic hx ?_).symm;rw[<- qbv,ybv];simp[inB]at h1;omega
  refine zY ?_;refine yaj 33 rfl (fun h2=>?_) (fun h2=>?_)
  .refine zk ?_;refine yae (yic hx ?_).symm;rw[<- qbv,ybv];simp at h2;omega
  (repeat (first|refine zy ?_|refine zc (ypm _ _ _) ?_))
  refine zj ?_ ?_ <;> intro h3
  .refine zk ?_;refine yae (yic hx ?_).symm;rw[<- qbv,ybv];simp[inB]at h3;omega
  refine zY ?_;have hlk:zqh n v x=true:=by
   rw[ybv];simp[inB]at h1 h2 h3;omega
  refine ybj (α:=Nat) (fun j=>[(8,i64 j),(7,i64 k),(0,ykr l),(1,i64 v),(2,i64 n)]) (fun k=>[]) (fun j=>k - j) (fun j=>j<=k/\∀ (i:Nat) (y:Lk),i < j->l[i]?=some y->y.1≠x.1) 0 ⟨om,om⟩ zs zh ?_;intro j ⟨hj,hjo⟩;refine zY ?_;refine zj ?_ ?_ <;> intro h4
  .simp at h4;obtain⟨y,hy⟩:=ybk (show j < l.length by omega);refine zY ?_;refine zj ?_ ?_ <;> intro h5
   .simp at h5;refine zk ?_;exact yae (zae h4 hy hx h5).symm
   simp at h5;refine zY ?_;refine rnd (j+1) ⟨om,fun i z hi hz=>?_⟩ om zs zh;rcases qbh i j with h6|h6
   .exact hjo i z h6 hz
   obtain rfl:i=j:=by omega
   rw[hy]at hz;cases hz;exact h5
  simp at h4;obtain rfl:j=k:=by omega
  refine zY ?_;refine rnd (j+1) ⟨om,zei hx hok hlk hjo⟩ om zs zh
 simp at h;obtain rfl:k=l.length:=by omega
 refine zk ?_;rw[qaw]at hok;exact yae hok.symm
theorem zyf(g:GraphD)(v:Int)(u:Int)(ls:List Lk)(h0:0<=v)(hv:g.ports[v.toNat]?=some ls)(hlen:ls.length<=5000):Con prog 174 [yev g,i64 v,i64 u] (i64 (ykd ls u)):=by
 refine ze Tryz.func174 ntmps174 Tryz.results174 ?_;refine zY ?_;refine ybj (α:=Nat) (fun k=>[(7,i64 k),(3,.lp 3 0),(1,i64 v),(2,i64 u)]) (fun k=>[(3,some (.cells [yai g.ids,yaq g.ports]))]) (fun k=>ls.length - k) (fun k=>k<=ls.length/\∀ (j:Nat) (y:Lk),j < k->ls[j]?=some y->y.1≠u) 0 ⟨om,om⟩ zs zh ?_;intro k ⟨hk,hok⟩;refine zY ?_;refine zj ?_ ?_ <;> intro h
 .simp at h;obtain⟨x,hx⟩:=ybk h;refine zY ?_;refine zj ?_ ?_ <;> intro h1
  .simp at h1;refine zk ?_;exact yad (zfe hx h1 hok).symm
  simp at h1;refine zY ?_;refine rnd (k+1) ⟨om,fun j y hj hy=>?_⟩ om zs zh;rcases qbh j k with h6|h6
  .exact hok j y h6 hy
  obtain rfl:j=k:=by omega
  rw[hx]at hy;cases hy;exact h1
 simp at h;obtain rfl:k=ls.length:=by omega
 refine zk ?_;exact yad (zfd fun j y hy=>hok j y (qaa.1 hy).1 hy).symm
end
set_option maxHeartbeats 8000000
section
open Go.RowKit
theorem yrp(h:¬ (1<=g.ports.length/\g.ports.length<=24/\g.ids.length=g.ports.length)):ycf g=false:=by
 rw[<- qbv,yli];intro h1;exact h ⟨h1.1,h1.2.1,h1.2.2.1⟩
theorem zgk(h:zsr g.ids=false):ycf g=false:=by
 rw[<- qbv,yli];intro h1;rw[h1.2.2.2.1]at h;cases h
theorem zgl{v:Nat}(hv:g.ports[v]?=some ls)(h:yij g.ports.length v ls=false):ycf g=false:=by
 rw[<- qbv,yli];intro h1;rw[yjj]at h1;rw[h1.2.2.2.2.1 v ls hv]at h;cases h
theorem zso{v:Nat}{l:Lk}(hv:g.ports[v]?=some ls)(hl:l∈ls)(h:ygu (g.ports.getD l.1.toNat []) v≠l.2):ycf g=false:=by
 rw[<- qbv,yli];intro h1;rw[zcm]at h1;exact h (h1.2.2.2.2.2 v ls hv l hl)
def xmw(g:GraphD):Prop:=g.ids.length<=5000/\g.ports.length<=5000/\∀ l∈g.ports,l.length<=5000
theorem xdg(h:yko g=true):xmw g:=by
 obtain⟨h1,h2,h3⟩:=(ygq g).1 h;exact⟨om,om,fun l hl=>by have:=h3 l hl;omega⟩
theorem rvalid_con'(g:GraphD)(hl:xmw g):Con prog 115 [yev g] (yau (ycf g)):=by
 obtain⟨hl1,hl2,hl3⟩:=hl;refine ze Tryz.func115 ntmps115 Tryz.results115 ?_
 (repeat (first|refine zy ?_|refine zc (ypm _ _ _) ?_))
 refine yaj 16 rfl (fun h1=>?_) (fun h1=>?_)
 .refine zk ?_;exact yae (yrp (by simp[inB]at h1;omega)).symm
 simp[inB]at h1;refine zY ?_;refine zj ?_ ?_ <;> intro h2
 .simp at h2;refine zk ?_;exact yae (yrp om).symm
 simp at h2;refine zY ?_;refine ybj (α:=Nat) (fun k=>[(4,i64 k),(3,i64 g.ports.length),(1,.lp 1 0)]) (fun k=>[(1,some (.cells [yai g.ids,yaq g.ports]))]) (fun k=>g.ports.length - k) (fun k=>k<=g.ports.length/\zsr (g.ids.take k)=true/\∀ (v:Nat) (ls:List Lk),v < k->g.ports[v]?=some ls->yij g.ports.length v ls=true) 0 ⟨om,rfl,om⟩ zs zh ?_;intro k ⟨hk,hok1,hok2⟩;refine zY ?_;refine zj ?_ ?_ <;> intro h
 .simp at h;obtain⟨x,hx⟩:=ybk (show k < g.ids.length by omega);obtain⟨ls,hls⟩:=ybk h;have hll:=hl3 ls (qab hls)
  (repeat (first|refine zy ?_|refine zc (ypm _ _ _) ?_))
  refine yaj 35 rfl (fun h3=>?_) (fun h3=>?_)
  .refine zk ?_;exact yae (zgk (zlo hx (by simp[inB]at h3;simp[idB];omega))).symm
  simp[inB]at h3;refine zY ?_;refine yaj 45 rfl (fun h4=>?_) (fun h4=>?_)
  .simp at h4;refine zk ?_;refine yae (zgl hls ?_).symm;rw[<- qbv];intro h5;have:=yde h h5;omega
  simp at h4
  (repeat (first|refine zy ?_|refine zc (linksValid_con ls k g.ports.length om om) ?_))
  refine zj ?_ ?_ <;> intro h5
  .refine zk ?_;exact yae (zgl hls (by simpa using h5)).symm
  simp at h5;refine zY ?_;refine ybj (α:=Nat) (fun j=>[(5,i64 j),(4,i64 k),(3,i64 g.ports.length),(1,.lp 1 0)]) (fun k=>[(1,some (.cells [yai g.ids,yaq g.ports]))]) (fun j=>k - j) (fun j=>j<=k/\x ∉ g.ids.take j) 0 ⟨om,sm⟩ zs zh ?_;intro j ⟨hj,hjo⟩;refine zY ?_;refine zj ?_ ?_ <;> intro h6
  .simp at h6;obtain⟨y,hy⟩:=ybk (show j < g.ids.length by omega);refine zY ?_;refine zj ?_ ?_ <;> intro h7
   .simp at h7;refine zk ?_;refine yae (zgk (zit hx ?_)).symm;subst h7;exact qab (show (g.ids.take k)[j]?=some y by rw[qbc,if_pos h6];exact hy)
   simp at h7;refine zY ?_;refine rnd (j+1) ⟨om,?_⟩ om zs zh;rw[yhj hy];simp only[qat,qau,not_or];exact⟨hjo,fun e=>h7 e.symm⟩
  simp at h6;obtain rfl:j=k:=by omega
  refine zY ?_;refine rnd (j+1) ⟨om,zpy hx hok1 (by simp[idB];omega) hjo,fun v ls' hv hls'=>?_⟩ om zs zh;rcases qbh v j with h8|h8
  .exact hok2 v ls' h8 hls'
  obtain rfl:v=j:=by omega
  rw[hls]at hls';cases hls';exact h5
 simp at h;obtain rfl:k=g.ports.length:=by omega
 have hids:zsr g.ids=true:=by rw[show g.ports.length=g.ids.length by omega,qaw]at hok1;exact hok1
 have hports:zff g.ports=true:=by rw[yjj];exact fun v ls hv=>hok2 v ls (qaa.1 hv).1 hv
 clear hok1 hok2;refine zY ?_;refine ybj (α:=Nat) (fun k=>[(6,i64 k),(3,i64 g.ports.length),(1,.lp 1 0)]) (fun k=>[(1,some (.cells [yai g.ids,yaq g.ports]))]) (fun k=>g.ports.length - k) (fun k=>k<=g.ports.length/\∀ (v:Nat) (ls:List Lk),v < k->g.ports[v]?=some ls->∀ l∈ls,ygu (g.ports.getD l.1.toNat []) v=l.2) 0 ⟨om,om⟩ zs zh ?_;intro k ⟨hk,hok⟩;refine zY ?_;refine zj ?_ ?_ <;> intro h3
 .simp at h3;obtain⟨ls,hls⟩:=ybk h3;have hll:=hl3 ls (qab hls);refine zY ?_;refine ybj (α:=Nat) (fun i=>[(7,i64 i),(6,i64 k),(3,i64 g.ports.length),(1,.lp 1 0)]) (fun k=>[(1,some (.cells [yai g.ids,yaq g.ports]))]) (fun i=>ls.length - i) (fun i=>i<=ls.length/\∀ l∈ls.take i,ygu (g.ports.getD l.1.toNat []) k=l.2) 0 ⟨om,sm⟩ zs zh ?_;intro i ⟨hi,hio⟩;refine zY ?_;refine zj ?_ ?_ <;> intro h4
  .simp at h4;obtain⟨l,hlk⟩:=ybk h4;have hlb:=(ybv _ _ _).1 (((ycq _ _ _).1 ((yjj _).1 hports k ls hls)).1 l (qab hlk));obtain⟨os,hos⟩:=ybk (show l.1.toNat < g.ports.length by omega);have hol:=hl3 os (qab hos);have hgd:g.ports.getD l.1.toNat []=os:=by rw[qac,hos];rfl
   (repeat (first|refine zy ?_|refine zc (zyf g l.1 k os om hos om) ?_))
   rcases yqx os k with⟨hp,hpn⟩|⟨q,y,hp,hy,hyk,hfd⟩
   .refine yaj 102 rfl (fun h5=>?_) (fun h5=>?_)
    .refine zk ?_;refine yae (zso hls (qab hlk) ?_).symm;rw[hgd,zgn hpn];omega
    rw[hp]at h5;simp at h5
   have hwt:=zgo hfd;refine yaj 102 rfl (fun h5=>?_) (fun h5=>?_)
   .rw [hp]at h5;simp at h5;omega
   rw[hp];refine zY ?_;refine zj ?_ ?_ <;> intro h6
   .refine zk ?_;refine yae (zso hls (qab hlk) ?_).symm;rw[hgd,hwt];simpa using h6
   simp at h6;refine zY ?_;refine rnd (i+1) ⟨om,fun z hz=>?_⟩ om zs zh;rw[yhj hlk]at hz;rcases qat.1 hz with hz|hz
   .exact hio z hz
   simp at hz;subst hz;rw[hgd,hwt,h6]
  simp at h4;obtain rfl:i=ls.length:=by omega
  rw[qaw]at hio;refine zY ?_;refine rnd (k+1) ⟨om,fun v ls' hv hls'=>?_⟩ om zs zh;rcases qbh v k with h8|h8
  .exact hok v ls' h8 hls'
  obtain rfl:v=k:=by omega
  rw[hls]at hls';cases hls';exact hio
 simp at h3;obtain rfl:k=g.ports.length:=by omega
 refine zk ?_;refine yae ?_;rw[eq_comm,yli];exact⟨om,om,om,hids,hports,(zcm _).2 fun v ls hv=>hok v ls (qaa.1 hv).1 hv⟩
end
section
open Go.RowKit Go.Maps Go.WideMaps
theorem laidB:laidOutB prog=true:=by kernel_rfl
theorem arr2:ArrKey prog 104 3 2:=⟨underlying104,kf,kf,kf⟩
theorem wide2:(match prog.underlying 104 with|some (.array _ _)|some (.struct _)=>true|_=>false)=true:=by rw[underlying104]
theorem row2:(104:TypeId) < prog.types.size:=of_decide_eq_true kf
theorem zxf:Keyed prog 104:=Keyed.of_law (deep_law_laid laidB (m:=2) om row2 kf wide2)
def zgs(v u:Int):Value:=.agg #[.int .i64 v,.int .i64 u]
theorem yvw{a b c d:Int}(h:zgs a b=zgs c d):a=c/\b=d:=by
 unfold zgs at h;simpa using h
theorem typesPos:∃ m,prog.types.size=m+1:=by
 have h:0 < prog.types.size:=of_decide_eq_true kf;exact⟨prog.types.size - 1,om⟩
theorem zzt{x:Int}(h:0<=x/\x<=5000):(Lit.int .i64 x).wf=true:=by
 have e1:IntKind.i64.min=-9223372036854775808:=by decide
 have e2:IntKind.i64.max=9223372036854775807:=by decide
 simp only[Lit.wf,qad,decide_eq_true_eq];omega
theorem zbw{v u:Int}(hv:0<=v/\v<=5000)(hu:0<=u/\u<=5000):∃ l,keyOf prog 104 (zgs v u)=some l:=
 ⟨_,keyOf_pair arr2 underlying3 typesPos (zzt hv) (zzt hu)⟩
theorem xjl:∀ w,(zeroValue 3).run prog w=.ok (.int .i64 0) w:=fun w=>by kernel_rfl
def zzv(ports:List (List Lk))(k i:Nat)(e:Value × Value):Prop:=∃ (v j:Nat) (ls:List Lk) (l:Lk),ports[v]?=some ls/\ls[j]?=some l/\(v < k\/(v=k/\j < i))/\e=(zgs v l.1,.int .i64 l.2)
theorem ent_next{k i:Nat}{l:Lk}{es:List (Value × Value)}(hls:ports[k]?=some ls)(hl:ls[i]?=some l)(h:∀ e,e∈es<->zzv ports k i e)(e:Value × Value):e∈es++[(zgs k l.1,.int .i64 l.2)]<->zzv ports k (i+1) e:=by
 rw[qat,h e,qau];constructor
 .rintro (⟨v,j,ls',l',h1,h2,h3,h4⟩|rfl)
  .exact ⟨v,j,ls',l',h1,h2,om,h4⟩
  exact⟨k,i,ls,l,hls,hl,.inr ⟨rfl,om⟩,rfl⟩
 rintro⟨v,j,ls',l',h1,h2,h3,h4⟩;by_cases hvj:v=k/\j=i
 .obtain ⟨rfl,rfl⟩:=hvj;rw[hls]at h1;cases h1;rw[hl]at h2;cases h2;exact .inr h4
 exact .inl ⟨v,j,ls',l',h1,h2,om,h4⟩
theorem ent_row{k:Nat}(hls:ports[k]?=some ls)(e:Value × Value):zzv ports k ls.length e<->zzv ports (k+1) 0 e:=by
 constructor
 .rintro ⟨v,j,ls',l',h1,h2,h3,h4⟩;exact⟨v,j,ls',l',h1,h2,om,h4⟩
 rintro⟨v,j,ls',l',h1,h2,h3,h4⟩;refine⟨v,j,ls',l',h1,h2,?_,h4⟩;rcases qbh v k with h|h
 .exact .inl h
 obtain rfl:v=k:=by omega
 rw[hls]at h1;cases h1;exact .inr ⟨rfl,(qaa.1 h2).1⟩
theorem zxy{v:Nat}(h:yij n v ls=true){i j:Nat}{a b:Lk}(hi:ls[i]?=some a)(hj:ls[j]?=some b)(he:a.1=b.1):i=j:=by
 have hn:=((ycq _ _ _).1 h).2;have g1:=qaa.1 hi;have g2:=qaa.1 hj;rcases Nat.lt_trichotomy i j with h1|h1|h1
 .have:=(qdo.1 hn) i j (by simpa using g1.1) (by simpa using g2.1) h1;simp[g1.2,g2.2,he]at this
 .exact h1
 have:=(qdo.1 hn) j i (by simpa using g2.1) (by simpa using g1.1) h1;simp[g1.2,g2.2,he]at this
def xji(ports:List (List Lk)):Bool:=zff ports && xld ports
theorem ylh{v:Nat}(hv:ports[v]?=some ls)(h:yij ports.length v ls=false):xji ports=false:=by
 unfold xji;rw[<- qbv,qad,yjj];intro h1;rw[h1.1 v ls hv]at h;cases h
theorem symG_sym{v:Nat}{l:Lk}(hv:ports[v]?=some ls)(hl:l∈ls)(h:ygu (ports.getD l.1.toNat []) v≠l.2):xji ports=false:=by
 unfold xji;rw[<- qbv,qad,zcm];intro h1;exact h (h1.2 v ls hv l hl)
theorem symmetric_con(ports:List (List Lk))(hn:ports.length<=30)(hp:∀ l∈ports,l.length<=5000):Con prog 210 [yaq ports] (yau (xji ports)):=by
 refine ze Tryz.func210 ntmps210 Tryz.results210 ?_
 (repeat (first|refine zy ?_|refine yuy rfl rfl rfl rfl rfl ?_))
 refine ybj (α:=Nat × List (Value × Value)) (fun s=>[(16,i64 s.1),(15,i64 ports.length),(14,yaq ports),(0,yaq ports),(3,.mp 13)]) (fun s=>[(13,some (.map s.2))]) (fun s=>ports.length - s.1)
  (fun s=>s.1<=ports.length/\(∀ (v:Nat) (ls:List Lk),v < s.1->ports[v]?=some ls->yij ports.length v ls=true)/\∀ e,e∈s.2<->zzv ports s.1 0 e) (0,[]) ⟨om,om,fun e=>by simp;rintro⟨v,j,_,_,_,_,h,_⟩;omega⟩ zs zh ?_
 rintro⟨k,es⟩ ⟨hk,hok,hes⟩;simp only at hk hok hes;refine zY ?_;refine zj ?_ ?_ <;> intro h
 .simp at h;obtain⟨ls,hls⟩:=ybk h;have hll:=hp ls (qab hls);refine zY ?_;refine ybj (α:=Nat × List (Value × Value)) (fun s=>[(23,i64 s.1),(22,i64 ls.length),(21,ykr ls),(4,i64 k),(16,i64 k),(15,i64 ports.length),(14,yaq ports),(0,yaq ports),(3,.mp 13)]) (fun s=>[(13,some (.map s.2))]) (fun s=>ls.length - s.1)
   (fun s=>s.1<=ls.length/\yij ports.length k (ls.take s.1)=true/\∀ e,e∈s.2<->zzv ports k s.1 e) (0,es) ⟨om,rfl,hes⟩ zs zh ?_
  rintro⟨i,es'⟩ ⟨hi,hio,hes'⟩;simp only at hi hio hes';refine zY ?_;refine zj ?_ ?_ <;> intro h1
  .simp at h1;obtain⟨l,hl⟩:=ybk h1;refine zY ?_;refine yaj 30 rfl (fun h2=>?_) (fun h2=>?_)
   .simp at h2;refine zk ?_;exact yae (ylh hls (yic hl (by rw[<- qbv,ybv];omega))).symm
   simp at h2;refine zY ?_;refine yaj 37 rfl (fun h3=>?_) (fun h3=>?_)
   .simp at h3;refine zk ?_;exact yae (ylh hls (yic hl (by rw[<- qbv,ybv];omega))).symm
   simp at h3;refine zY ?_;refine zj ?_ ?_ <;> intro h4
   .simp at h4;refine zk ?_;exact yae (ylh hls (yic hl (by rw[<- qbv,ybv];omega))).symm
   simp at h4;refine zY ?_;refine yaj 46 rfl (fun h5=>?_) (fun h5=>?_)
   .simp at h5;refine zk ?_;exact yae (ylh hls (yic hl (by rw[<- qbv,ybv];omega))).symm
   simp at h5;refine zY ?_;refine zj ?_ ?_ <;> intro h6
   .simp at h6;refine zk ?_;exact yae (ylh hls (yic hl (by rw[<- qbv,ybv];omega))).symm
   simp at h6;have hlk:zqh ports.length k l=true:=by rw[ybv];omega
   have hks:∀ e∈es',∃ q,keyOf prog 104 e.1=some q:=by
    intro e he;obtain⟨v,j,ls',l',g1,g2,g3,rfl⟩:=(hes' e).1 he;have hv:=(qaa.1 g1).1;have hl':0<=l'.1/\l'.1 < ports.length:=by
     rcases g3 with g3|⟨rfl,g3⟩
     .have:=(ybv _ _ _).1 (((ycq _ _ _).1 (hok v ls' g3 g1)).1 l' (qab g2));omega
     rw[hls]at g1;cases g1;have:=(ybv _ _ _).1 (((ycq _ _ _).1 hio).1 l' (qab (show (ls.take i)[j]?=some l' by rw[qbc,if_pos g3];exact g2)));omega
    exact zbw om om
   obtain⟨kl,hkl⟩:=zbw (v:=k) (u:=l.1) om om;refine zY ?_;by_cases hdup:∃ (j:Nat) (y:Lk),j < i/\ls[j]?=some y/\y.1=l.1
   .obtain ⟨j,y,g1,g2,g3⟩:=hdup;refine ylk (v:=.int .i64 y.2) (okb:=true) underlying302 zxf rfl rfl rfl rfl hks hkl xjl ?_ rfl rfl ?_
    .refine .hit ⟨(zgs k y.1,.int .i64 y.2),(hes' _).2 ⟨k,j,ls,y,hls,g2,.inr ⟨rfl,g1⟩,rfl⟩,by rw[g3];rfl⟩ ?_;intro e he hek;obtain⟨v,j',ls',l',q1,q2,q3,rfl⟩:=(hes' e).1 he;have:=yvw (show zgs v l'.1=zgs k l.1 from hek);obtain rfl:v=k:=by omega
     rw[hls]at q1;cases q1;have hj':j' < i:=by omega
     have:=zxy hio (show (ls.take i)[j']?=some l' by rw[qbc,if_pos hj'];exact q2) (show (ls.take i)[j]?=some y by rw[qbc,if_pos g1];exact g2) om;subst this;rw[g2]at q2;cases q2;rfl
    refine zk ?_;exact yae (ylh hls (zae g1 g2 hl g3)).symm
   have hmiss:∀ e∈es',e.1≠zgs k l.1:=by
    intro e he hek;obtain⟨v,j',ls',l',q1,q2,q3,rfl⟩:=(hes' e).1 he;have:=yvw (show zgs v l'.1=zgs k l.1 from hek);obtain rfl:v=k:=by omega
    rw[hls]at q1;cases q1;exact hdup ⟨j',l',om,q2,om⟩
   refine ylk (v:=.int .i64 0) (okb:=false) underlying302 zxf rfl rfl rfl rfl hks hkl xjl (.miss hmiss) rfl rfl ?_;refine zY ?_;refine yol underlying302 zxf rfl rfl rfl rfl rfl rfl hks hkl hmiss rfl rfl ?_;refine zY ?_;refine rnd (i+1,es'++[(zgs k l.1,.int .i64 l.2)]) ⟨by simp only;omega,zei hl hio hlk (fun j y hj hy he=>hdup ⟨j,y,hj,hy,he⟩),ent_next hls hl hes'⟩ (by simp only;omega) zs zh
  simp at h1;obtain rfl:i=ls.length:=by omega
  rw[qaw]at hio;refine zY ?_;refine rnd (k+1,es') ⟨by simp only;omega,fun v ls' hv hls'=>?_,fun e=>(hes' e).trans (ent_row hls e)⟩ (by simp only;omega) zs zh;simp only at hv;rcases qbh v k with h8|h8
  .exact hok v ls' h8 hls'
  obtain rfl:v=k:=by omega
  rw[hls]at hls';cases hls';exact hio
 simp at h;obtain rfl:k=ports.length:=by omega
 have hports:zff ports=true:=by rw[yjj];exact fun v ls hv=>hok v ls (qaa.1 hv).1 hv
 have hent:∀ e,e∈es<->∃ (v:Nat) (ls:List Lk) (l:Lk),ports[v]?=some ls/\l∈ls/\e=(zgs v l.1,.int .i64 l.2):=by
  intro e;rw[hes e];constructor
  .rintro ⟨v,j,ls,l,g1,g2,_,g4⟩;exact⟨v,ls,l,g1,qab g2,g4⟩
  rintro⟨v,ls,l,g1,g2,g3⟩;obtain⟨j,hj⟩:=qao g2;exact⟨v,j,ls,l,g1,hj,.inl (qaa.1 g1).1,g3⟩
 have hlb:∀ (v:Nat) (ls:List Lk) (l:Lk),ports[v]?=some ls->l∈ls->0<=l.1/\l.1 < ports.length/\1<=l.2/\l.2<=15:=by
  intro v ls l hv hl;have:=(ybv _ _ _).1 (((ycq _ _ _).1 ((yjj _).1 hports v ls hv)).1 l hl);omega
 have hks:∀ e∈es,∃ q,keyOf prog 104 e.1=some q:=by
  intro e he;obtain⟨v,ls,l,g1,g2,rfl⟩:=(hent e).1 he;have:=hlb v ls l g1 g2;have hv:=(qaa.1 g1).1;exact zbw om om
 clear hok hes
 repeat (first|refine ydu ?_|refine ype ?_)
 refine A_freezeMap 3 rfl rfl rfl rfl ?_
 (repeat (first|refine zy ?_|refine L_range underlying302 rfl rfl rfl rfl rfl rfl ?_))
 refine ybj (α:=List (Value × Value) × Option (Value × Value)) (fun s=>[(69,.lp 69 0),(3,.mv es)]) (fun s=>[(69,some (.iter es s.1 s.2))]) (fun s=>s.1.length)
  (fun s=>(∀ p∈s.1,p∈es)/\∀ (v:Nat) (ls:List Lk) (l:Lk),ports[v]?=some ls->l∈ls->(zgs v l.1,Value.int .i64 l.2)∈s.1\/ygu (ports.getD l.1.toNat []) v=l.2) (es,none) ⟨fun p h=>h,fun v ls l hv hl=>.inl ((hent _).2 ⟨v,ls,l,hv,hl,rfl⟩)⟩ zs zh ?_
 rintro⟨left,cur⟩ ⟨hl1,hl2⟩;simp only at hl1 hl2;refine zY ?_;refine L_next rfl rfl rfl rfl rfl (fun hnil=>?_) (fun p left' hperm=>?_)
 .refine zk ?_;subst hnil;refine yae ?_;unfold xji;rw[eq_comm,qad,zcm];exact⟨hports,fun v ls hv l hl=>(hl2 v ls l hv hl).resolve_left sm⟩
 have hp1:=hl1 p (hperm.symm.subset sm);obtain⟨v,ls,l,g1,g2,rfl⟩:=(hent p).1 hp1;have hlv:=hlb v ls l g1 g2;have hv:=(qaa.1 g1).1;obtain⟨os,hos⟩:=ybk (show l.1.toNat < ports.length by omega);have hgd:ports.getD l.1.toNat []=os:=by rw[qac,hos];rfl
 have hcast:((l.1.toNat:Nat):Int)=l.1:=by omega
 obtain⟨kl,hkl⟩:=zbw (v:=l.1) (u:=v) om om;have hfound:∃ b,Found (.int .i64 0) es (zgs l.1 v) (.int .i64 (ygu os v)) b:=by
  rcases yqx os v with⟨_,hpn⟩|⟨q,y,_,hy,hyk,hfd⟩
  .refine ⟨false,?_⟩;rw[zgn hpn];refine .miss fun e he hek=>?_;obtain⟨v',ls',l',q1,q2,rfl⟩:=(hent e).1 he;have:=yvw (show zgs v' l'.1=zgs l.1 v from hek);obtain rfl:v'=l.1.toNat:=by omega
   rw[hos]at q1;cases q1;exact hpn l' q2 this.2
  refine⟨true,?_⟩;rw[zgo hfd];refine .hit ⟨(zgs l.1 y.1,.int .i64 y.2),(hent _).2 ⟨l.1.toNat,os,y,hos,qab hy,by rw[hcast]⟩,by rw[hyk]⟩ fun e he hek=>?_;obtain⟨v',ls',l',q1,q2,rfl⟩:=(hent e).1 he;have:=yvw (show zgs v' l'.1=zgs l.1 v from hek);obtain rfl:v'=l.1.toNat:=by omega
  rw[hos]at q1;cases q1;obtain⟨j,hj⟩:=qao q2;have:=zxy ((yjj _).1 hports _ _ hos) hj hy om;subst this;rw[hy]at hj;cases hj;rfl
 obtain⟨fb,hfound⟩:=hfound
 (repeat (first|refine zy ?_|refine L_entry rfl rfl rfl rfl ?_))
 refine L_lookup_mv underlying302 zxf rfl rfl rfl hks hkl xjl hfound rfl rfl ?_;refine zY ?_;refine zj ?_ ?_ <;> intro h1
 .simp at h1;refine zk ?_;exact yae (symG_sym g1 g2 (by rw[hgd];exact h1)).symm
 simp at h1;refine zY ?_;refine rnd (left',some (zgs v l.1,.int .i64 l.2)) ⟨fun q hq=>hl1 q (hperm.symm.subset (by simp[hq])),fun v' ls' l' hv' hl'=>?_⟩ (by have:=hperm.length_eq;simp only[qaj]at this;simp only;omega) zs zh;rcases hl2 v' ls' l' hv' hl' with hq|hq
 .rcases qaq.1 (hperm.subset hq)with he|he
  .right;simp only[Prod.mk.injEq,Value.int.injEq,true_and]at he;have:=yvw he.1;obtain rfl:v'=v:=by omega
   rw[this.2,hgd,h1,he.2]
  exact .inl he
 exact .inr hq
theorem gvalid_con'(g:GraphD)(hl:xmw g):Con prog 156 [yev g] (yau (ycf g)):=by
 obtain⟨hl1,hl2,hl3⟩:=hl;refine ze Tryz.func156 ntmps156 Tryz.results156 ?_;refine zY ?_;refine yaj 9 rfl (fun h1=>?_) (fun h1=>?_)
 .simp at h1;refine zk ?_;exact yae (yrp om).symm
 simp at h1;refine zY ?_;refine yaj 13 rfl (fun h2=>?_) (fun h2=>?_)
 .simp at h2;refine zk ?_;exact yae (yrp om).symm
 simp at h2;refine zY ?_;refine zj ?_ ?_ <;> intro h3
 .simp at h3;refine zk ?_;exact yae (yrp om).symm
 simp at h3
 (repeat (first|refine zy ?_|refine zc (differentIDs_con g.ids om) ?_))
 refine yaj 23 rfl (fun h4=>?_) (fun h4=>?_)
 ·(repeat (first|refine zy ?_|refine zc (symmetric_con g.ports om hl3) ?_))
  refine zr ?_;refine yae ?_;rw[qbw,yli];unfold xji;rw[qad];constructor
  .intro h5;exact⟨om,om,om,h4,h5⟩
  intro h5;exact h5.2.2.2.2
 refine zk ?_;exact yae (zgk h4).symm
theorem yof(g:GraphD)(hl:yko g=true):Con prog 115 [yev g] (yau (ycf g)):=rvalid_con' g (xdg hl)
theorem gvalid_con(g:GraphD)(hl:yko g=true):Con prog 156 [yev g] (yau (ycf g)):=gvalid_con' g (xdg hl)
end
section
open Go.RowKit
theorem zor{w1 w2:World}(h1:Below w.heap.size w w1)(h2:Below w1.heap.size w1 w2):Below w.heap.size w w2:=h1.trans (h2.mono h1.size)
theorem xbt{w1:World}(h1:Below w.heap.size w w1)(n:Nat):Below w.heap.size w (w1.drewN n):=below_drewN h1 n
theorem yen{a b:Bool}(h:a=b):Ending.returned (.bool a)=.returned (.bool b):=by rw[h]
theorem yhb{a b:Int}(h:a=b):Ending.returned (.int k a)=.returned (.int k b):=by rw[h]
def Row(w:World)(v:Value)(size n:Nat)(xs:List Value):Prop:=
 ∃ a cap,v=.slice a n cap/\n<=cap/\cap<=maxLen/\xs.length=n * size/\(a=none->cap=0) /\
  (n=0\/∃ g o,a=some ⟨g,o,none⟩/\g < w.heap.size/\∀ j u,xs[j]?=some u->w.cell? ⟨g,o+j,none⟩=some u)
theorem Row.below(h:Row w v size n xs)(hb:Below w.heap.size w w'):Row w' v size n xs:=by
 obtain⟨a,cap,hv,h1,h2,h3,h4,h5⟩:=h;refine⟨a,cap,hv,h1,h2,h3,h4,?_⟩;rcases h5 with h5|⟨g,o,ha,hg,hc⟩
 .exact .inl h5
 exact .inr ⟨g,o,ha,qbg hg hb.size,fun j u hu=>(hb.cell (p:=⟨g,_,none⟩) hg).trans (hc j u hu)⟩
theorem Row.drew(h:Row w v size n xs)(k:Nat):Row (w.drewN k) v size n xs:=h.below (xbt (Below.refl _ _) k)
theorem yin(h:w.ownsRow B e size v n xs)(hb:Below w.heap.size w w'):w'.ownsRow B e size v n xs:=by
 obtain⟨h1,h2⟩:=h;refine⟨h1,?_⟩;rcases h2 with h2|⟨g,cap,cur,hv,hg,hh,r⟩
 .exact .inl h2
 exact .inr ⟨g,cap,cur,hv,hg,by rw[hb.block g (by rcases qbh g w.heap.size with h|h;exact h;simp[qed h]at hh)];exact hh,r⟩
theorem yqw(h:w.ownsRow B e size v n xs):∃ a cap,v=.slice a n cap:=by
 rcases h.2 with⟨rfl,rfl⟩|⟨g,cap,cur,hv,_⟩
 .exact ⟨_,_,rfl⟩
 exact⟨_,_,hv⟩
theorem zye(h:w.ownsRow B e size v n xs):∀ k,v.ownBlock=some k->B<=k:=fun k hk=>(h.lt k hk).1
theorem zeu(W:World)(l:List Value)(e n:Nat)(hn:n=W.heap.size):∀ j u,l[j]?=some u->(W.alloc (.cells l.toArray e)).cell? ((⟨n,0,none⟩:Addr).add j)=some u:=by
 intro j u h;subst hn;have h0:(⟨W.heap.size,0,none⟩:Addr).add j=⟨W.heap.size,j,none⟩:=by
  unfold Addr.add;split <;> simp_all
 rw[h0];have h1:(W.alloc (.cells l.toArray e)).heap[W.heap.size]?=some (.cells l.toArray e):=by
  show (W.heap.push (.cells l.toArray e))[W.heap.size]?=_;rw[Array.getElem?_push,if_pos rfl]
 unfold World.cell?;simp only[h1];simpa using h
theorem row_of_own(h:w.ownsRow B e size v n xs):Row w v size n xs:=by
 obtain⟨h1,h2⟩:=h;rcases h2 with⟨rfl,rfl⟩|⟨g,cap,cur,hv,hg,hh,hle,hcap,hcs,htk⟩
 .exact ⟨none,0,rfl,om,by simp[maxLen],h1,fun _=>rfl,.inl rfl⟩
 refine⟨some ⟨g,0,none⟩,cap,hv,hle,hcap,h1,(fun h=>by cases h),.inr ⟨g,0,rfl,?_,fun j u hu=>?_⟩⟩
 .rcases qbh g w.heap.size with h|h
  .exact h
  simp[qed h]at hh
 have hj:(cur.toList.take (n * size))[j]?=some u:=by rw[htk];exact hu
 rw[qbc]at hj;unfold World.cell?;simp only[hh,qay];split at hj
 .simpa using hj
 cases hj
theorem row_nil(w:World)(size:Nat):Row w (.slice none 0 0) size 0 []:=⟨none,0,rfl,sm,by simp[maxLen],sm,fun _=>rfl,.inl rfl⟩
theorem Row.open(h:Row w v size n xs):∃ a cap,v=.slice a n cap/\n<=cap/\cap<=9223372036854775807/\(a=none->cap=0) /\
  (0 < n->∃ g o,a=some ⟨g,o,none⟩/\g < w.heap.size/\∀ j u,xs[j]?=some u->w.cell? ⟨g,o+j,none⟩=some u):=by
 obtain⟨a,cap,hv,h1,h2,h3,h4,h5⟩:=h;unfold maxLen at h2;refine⟨a,cap,hv,h1,om,h4,fun hn=>?_⟩;rcases h5 with h5|h5
 .omega
 exact h5
theorem yks(f:α->List Value)(k:Nat)(hf:∀ x,(f x).length=k)(l:List α):∀ (i j:Nat) (x:α) (u:Value),l[i]?=some x->(f x)[j]?=some u->(l.flatMap f)[i * k+j]?=some u:=by
 induction l with
 | nil=>intro i j x u h;simp at h
 | cons y l ih=>
  intro i j x u h hu;rw[qdh];have hj:j < k:=by have:=(qaa.1 hu).1;rw[hf]at this;exact this
  cases i with
  | zero=>
   simp at h;subst h;rw[qhg,qay,qam (by rw[hf];exact hj)];exact hu
  | succ i=>
   rw[qdi,qah (by rw[hf];omega),hf,show i * k+k+j - k=i * k+j by omega];exact ih i j x u (by simpa using h) hu
theorem zbq(f:α->List Value)(k:Nat)(hf:∀ x,(f x).length=k)(l:List α):(l.flatMap f).length=l.length * k:=by
 induction l with
 | nil=>simp
 | cons y l ih=>rw[qdh,qan,hf,ih,qaj,qdi];omega
def xfi(k:IntKind)(w:World)(v:Value)(l:List Int):Prop:=Row w v 1 l.length (l.map (.int k))
theorem xfi.below{l:List Int}(h:xfi k w v l)(hb:Below w.heap.size w w'):xfi k w' v l:=Row.below h hb
theorem xfi.open{l:List Int}(h:xfi k w v l):∃ a cap,v=.slice a l.length cap/\l.length<=cap/\cap<=9223372036854775807/\(a=none->cap=0) /\
  (0 < l.length->∃ g o,a=some ⟨g,o,none⟩/\g < w.heap.size/\∀ i x,l[i]?=some x->w.cell? ⟨g,o+i,none⟩=some (.int k x)):=by
 obtain⟨a,cap,hv,h1,h2,h3,h4⟩:=Row.open h;refine⟨a,cap,hv,h1,h2,h3,fun hn=>?_⟩;obtain⟨g,o,ha,hg,hc⟩:=h4 hn;exact⟨g,o,ha,hg,fun i x hx=>hc i _ (by rw[qak,hx];rfl)⟩
end
section
open Go.RowKit
abbrev Tm:=Int × Int
def ar(op:Int):Int:=if op < 1\/43 < op then -1 else if op<=17 then 0 else if op<=29 then 1 else if op<=42 then 2 else 3
def yja(op:Int):Bool:=decide (20<=op) && decide (op<=29)
theorem ztd(op:Int):-1<=ar op/\ar op<=3:=by
 unfold ar;repeat' split
 all_goals omega
inductive Ex where
 | lf (t:Tm)
 | un (t:Tm) (a:Ex)
 | bi (t:Tm) (a b:Ex)
 | tr (t:Tm) (a b c:Ex)
namespace Ex
def fl:Ex->List Tm
 | lf t=>[t]
 | un t a=>t::a.fl
 | bi t a b=>t::(a.fl++b.fl)
 | tr t a b c=>t::(a.fl++(b.fl++c.fl))
def ok:Ex->Prop
 | lf t=>ar t.1=0
 | un t a=>ar t.1=1/\a.ok
 | bi t a b=>ar t.1=2/\a.ok/\b.ok
 | tr t a b c=>ar t.1=3/\a.ok/\b.ok/\c.ok
def dp:Ex->Nat
 | lf _=>1
 | un _ a=>a.dp+1
 | bi _ a b=>max a.dp b.dp+1
 | tr _ a b c=>max a.dp (max b.dp c.dp)+1
def ns:Ex->Nat
 | lf _=>0
 | un t a=>if yja t.1 then a.ns+1 else a.ns
 | bi _ a b=>max a.ns b.ns
 | tr _ a b c=>max a.ns (max b.ns c.ns)
theorem fl_pos(E:Ex):1<=E.fl.length:=by cases E <;> simp[fl]
end Ex
def zsq:Nat->List Tm->Option Nat
 | 0,_=>some 0
 | _+1,[]=>none
 | w+1,t::l=>if ar t.1 < 0 then none else(zsq (w+(ar t.1).toNat) l).map (·+1)
theorem yqj(l:List Tm):zsq 0 l=some 0:=by cases l <;> rfl
theorem endN_nil(w:Nat):zsq (w+1) []=none:=rfl
theorem zwi(w:Nat)(t:Tm)(l:List Tm)(h:ar t.1 < 0):zsq (w+1) (t::l)=none:=by simp only[zsq];rw[if_pos h]
theorem ynu(w:Nat)(t:Tm)(l:List Tm)(h:¬ ar t.1 < 0):zsq (w+1) (t::l)=(zsq (w+(ar t.1).toNat) l).map (·+1):=by simp only[zsq];rw[if_neg h]
theorem ztk(E:Ex):E.ok->∀ (w:Nat) (r:List Tm),zsq (w+1) (E.fl++r)=(zsq w r).map (·+E.fl.length):=by
 induction E with
 | lf t=>
  intro h w r;have h':ar t.1=0:=h;simp only[Ex.fl,qbb,qcw];rw[ynu w t r om,h'];rfl
 | un t a iha=>
  intro ⟨h,ha⟩ w r;simp only[Ex.fl,qbb];rw[ynu w t _ om,h,show w+(1:Int).toNat=w+1 from rfl,iha ha,qfh];congr 1
 | bi t a b iha ihb=>
  intro ⟨h,ha,hb⟩ w r;simp only[Ex.fl,qbb,qbd];rw[ynu w t _ om,h,show w+(2:Int).toNat=(w+1)+1 from rfl,iha ha,ihb hb,qfh,qfh];congr 1;funext x;simp;omega
 | tr t a b c iha ihb ihc=>
  intro ⟨h,ha,hb,hc⟩ w r;simp only[Ex.fl,qbb,qbd];rw[ynu w t _ om,h,show w+(3:Int).toNat=((w+1)+1)+1 from rfl,iha ha,ihb hb,ihc hc,qfh,qfh,qfh];congr 1;funext x;simp;omega
def yfd:List Tm->Option (List Ex)
 | []=>some []
 | t::l=>
  match yfd l with
  | none=>none
  | some F=>
   if ar t.1=0 then some (.lf t::F)
   else if ar t.1=1 then(match F with|a::F=>some (.un t a::F)|_=>none)
   else if ar t.1=2 then(match F with|a::b::F=>some (.bi t a b::F)|_=>none)
   else if ar t.1=3 then(match F with|a::b::c::F=>some (.tr t a b c::F)|_=>none)
   else none
theorem zdr(E:Ex):E.ok->∀ (r:List Tm) (F:List Ex),yfd r=some F->yfd (E.fl++r)=some (E::F):=by
 induction E with
 | lf t=>intro h r F hr;have h':ar t.1=0:=h;simp[Ex.fl,yfd,hr,h']
 | un t a iha=>intro ⟨h,ha⟩ r F hr;simp[Ex.fl,yfd,iha ha r F hr,h]
 | bi t a b iha ihb=>intro ⟨h,ha,hb⟩ r F hr;simp[Ex.fl,yfd,iha ha _ _ (ihb hb r F hr),h]
 | tr t a b c iha ihb ihc=>intro ⟨h,ha,hb,hc⟩ r F hr;simp[Ex.fl,yfd,iha ha _ _ (ihb hb _ _ (ihc hc r F hr)),h]
def yui(F:List Ex):List Tm:=F.flatMap Ex.fl
theorem forest_inv(l:List Tm):∀ F,yfd l=some F->(∀ E∈F,E.ok)/\yui F=l:=by
 induction l with
 | nil=>intro F h;simp[yfd]at h;subst h;simp[yui]
 | cons t l ih=>
  intro F h;simp only[yfd]at h;cases hl:yfd l with
  | none=>rw[hl]at h;cases h
  | some G=>
   obtain⟨h1,h2⟩:=ih G hl;rw[hl]at h;simp only at h;by_cases a0:ar t.1=0
   .rw [if_pos a0]at h;cases h;refine⟨fun E hE=>?_,by simp only[yui,qdh,Ex.fl]at *;rw[h2];rfl⟩;cases hE with
    | head=>exact a0
    | tail _ hE=>exact h1 E hE
   rw[if_neg a0]at h;by_cases a1:ar t.1=1
   .rw [if_pos a1]at h
    match G,h,h1,h2 with
    | a::G,h,h1,h2=>
     cases h;refine⟨fun E hE=>?_,by simp only[yui,qdh,Ex.fl]at *;rw[<- h2];rfl⟩;cases hE with
     | head=>exact⟨a1,h1 a (qbe ..)⟩
     | tail _ hE=>exact h1 E (qap _ hE)
   rw[if_neg a1]at h;by_cases a2:ar t.1=2
   .rw [if_pos a2]at h
    match G,h,h1,h2 with
    | a::b::G,h,h1,h2=>
     cases h;refine⟨fun E hE=>?_,by simp only[yui,qdh,Ex.fl]at *;rw[<- h2];simp⟩;cases hE with
     | head=>exact⟨a2,h1 a sm,h1 b sm⟩
     | tail _ hE=>exact h1 E (qap _ (qap _ hE))
   rw[if_neg a2]at h;by_cases a3:ar t.1=3
   .rw [if_pos a3]at h
    match G,h,h1,h2 with
    | a::b::c::G,h,h1,h2=>
     cases h;refine⟨fun E hE=>?_,by simp only[yui,qdh,Ex.fl]at *;rw[<- h2];simp⟩;cases hE with
     | head=>exact⟨a3,h1 a sm,h1 b sm,h1 c sm⟩
     | tail _ hE=>exact h1 E (qap _ (qap _ (qap _ hE)))
   rw[if_neg a3]at h;cases h
def yfy(l:List Tm):Option Ex:=match yfd l with|some [E]=>some E|_=>none
theorem parse_fl(E:Ex)(h:E.ok):yfy E.fl=some E:=by
 have:=zdr E h [] [] rfl;rw[qba]at this;unfold yfy;rw[this]
theorem yji{l:List Tm}{E:Ex}(h:yfy l=some E):E.ok/\E.fl=l:=by
 unfold yfy at h;split at h
 .rename_i E' hf;cases h;obtain⟨h1,h2⟩:=forest_inv l _ hf;exact⟨h1 E sm,by simpa[yui]using h2⟩
 cases h
theorem endN_forest(l:List Tm):∀ (w n:Nat),zsq w l=some n->∃ F:List Ex,F.length=w/\(∀ E∈F,E.ok)/\l.take n=yui F:=by
 induction l with
 | nil=>intro w n h;cases w <;> simp[zsq]at h;exact⟨[],rfl,sm,by simp[yui]⟩
 | cons t l ih=>
  intro w n h;cases w with
  | zero=>rw[yqj]at h;cases h;exact⟨[],rfl,sm,by simp[yui]⟩
  | succ w=>
   by_cases hb:ar t.1 < 0
   .rw [zwi w t l hb]at h;cases h
   rw[ynu w t l hb,qgt]at h;obtain⟨m,hm,rfl⟩:=h;obtain⟨F,h1,h2,h3⟩:=ih _ _ hm;rw[qhn,h3];have hk:=ztd t.1;have cases4:ar t.1=0\/ar t.1=1\/ar t.1=2\/ar t.1=3:=by omega
   rcases cases4 with hk|hk|hk|hk <;> rw[hk]at h1
   .exact ⟨.lf t::F,by simp at *;omega,fun E hE=>by
     cases hE with
     | head=>exact hk
     | tail _ hE=>exact h2 E hE,by simp[yui,Ex.fl]⟩
   .match F,h1,h2 with
    | a::F,h1,h2=>exact⟨.un t a::F,by simp at *;omega,fun E hE=>by
      cases hE with
      | head=>exact⟨hk,h2 a sm⟩
      | tail _ hE=>exact h2 E (qap _ hE),by simp[yui,Ex.fl]⟩
    | [],h1,_=>simp at h1
   .match F,h1,h2 with
    | a::b::F,h1,h2=>exact⟨.bi t a b::F,by simp at *;omega,fun E hE=>by
      cases hE with
      | head=>exact⟨hk,h2 a sm,h2 b sm⟩
      | tail _ hE=>exact h2 E (qap _ (qap _ hE)),by simp[yui,Ex.fl]⟩
    | [a],h1,_=>simp at h1
    | [],h1,_=>simp at h1
   match F,h1,h2 with
   | a::b::c::F,h1,h2=>exact⟨.tr t a b c::F,by simp at *;omega,fun E hE=>by
     cases hE with
     | head=>exact⟨hk,h2 a sm,h2 b sm,h2 c sm⟩
     | tail _ hE=>exact h2 E (qap _ (qap _ (qap _ hE))),by simp[yui,Ex.fl]⟩
   | [a,b],h1,_=>simp at h1
   | [a],h1,_=>simp at h1
   | [],h1,_=>simp at h1
theorem parse_iff(l:List Tm):(∃ E,yfy l=some E)<->zsq 1 l=some l.length:=by
 constructor
 .rintro ⟨E,h⟩;obtain⟨h1,h2⟩:=yji h;have:=ztk E h1 0 [];rw[qba,h2,yqj]at this;simpa using this
 intro h;obtain⟨F,h1,h2,h3⟩:=endN_forest l 1 l.length h
 match F,h1,h2,h3 with
 | [E],_,h2,h3=>
  refine⟨E,?_⟩;rw[qaw]at h3;rw[h3,yui,qdh,qgz,qba];exact parse_fl E (h2 E sm)
def yvb(vars:Int)(t:Tm):Bool:=
 if t.1=1 then decide (0<=t.2) && decide (t.2<=1073741824)else if t.1=5\/t.1=12 then decide (0<=t.2) && decide (t.2 < vars)else decide (t.2=0)
def ycu(l:List Tm)(vars:Int):Bool:=
 match yfy l with
 | none=>false
 | some E=>decide (l.length<=200) && (l.all (yvb vars) && (decide (E.dp<=24) && decide (E.ns<=2)))
end
variable{l:List Tm}
section
open Go.RowKit
def ywc:List Nat->Nat
 | []=>0
 | a::l=>max a (ywc l)
def val(f:Int->Nat->Nat):Ex->Nat
 | .lf t=>f t.1 0
 | .un t a=>f t.1 (val f a)
 | .bi t a b=>f t.1 (max (val f a) (val f b))
 | .tr t a b c=>f t.1 (max (val f a) (max (val f b) (val f c)))
def lev(f:Int->Nat->Nat):List Tm->List Nat
 | []=>[]
 | t::l=>f t.1 (ywc ((lev f l).take (ar t.1).toNat))::(lev f l).drop (ar t.1).toNat
theorem ziw(f:Int->Nat->Nat)(l:List Tm):∀ F,yfd l=some F->lev f l=F.map (val f):=by
 induction l with
 | nil=>intro F h;simp[yfd]at h;subst h;rfl
 | cons t l ih=>
  intro F h;simp only[yfd]at h;cases hl:yfd l with
  | none=>rw[hl]at h;cases h
  | some G=>
   have hG:=ih G hl;rw[hl]at h;simp only at h;simp only[lev,hG];by_cases a0:ar t.1=0
   .rw [if_pos a0]at h;cases h;rw[a0];simp[ywc,val]
   rw[if_neg a0]at h;by_cases a1:ar t.1=1
   .rw [if_pos a1]at h
    match G,h with
    | a::G,h=>cases h;rw[a1];simp[ywc,val]
   rw[if_neg a1]at h;by_cases a2:ar t.1=2
   .rw [if_pos a2]at h
    match G,h with
    | a::b::G,h=>cases h;rw[a2];simp[ywc,val]
   rw[if_neg a2]at h;by_cases a3:ar t.1=3
   .rw [if_pos a3]at h
    match G,h with
    | a::b::c::G,h=>cases h;rw[a3];simp[ywc,val]
   rw[if_neg a3]at h;cases h
theorem yvn(l:List Tm)(t:Tm)(F:List Ex)(h:yfd (t::l)=some F):∃ G,yfd l=some G/\0<=ar t.1/\(ar t.1).toNat<=G.length/\F.length=G.length - (ar t.1).toNat+1:=by
 simp only[yfd]at h;cases hl:yfd l with
 | none=>rw[hl]at h;cases h
 | some G=>
  rw[hl]at h;simp only at h;by_cases a0:ar t.1=0
  .rw [if_pos a0]at h;cases h;exact⟨G,rfl,om,by rw[a0];simp,by rw[a0];simp⟩
  rw[if_neg a0]at h;by_cases a1:ar t.1=1
  .rw [if_pos a1]at h
   match G,h with
   | a::G,h=>cases h;exact⟨_,rfl,om,by rw[a1];simp,by rw[a1];simp⟩
  rw[if_neg a1]at h;by_cases a2:ar t.1=2
  .rw [if_pos a2]at h
   match G,h with
   | a::b::G,h=>cases h;exact⟨_,rfl,om,by rw[a2];simp,by rw[a2];simp⟩
  rw[if_neg a2]at h;by_cases a3:ar t.1=3
  .rw [if_pos a3]at h
   match G,h with
   | a::b::c::G,h=>cases h;exact⟨_,rfl,om,by rw[a3];simp,by rw[a3];simp⟩
  rw[if_neg a3]at h;cases h
theorem forest_suffix(l:List Tm):∀ (k:Nat) (F:List Ex),yfd l=some F->∃ G,yfd (l.drop k)=some G:=by
 induction l with
 | nil=>intro k F h;simp[yfd]
 | cons t l ih=>
  intro k F h;cases k with
  | zero=>exact⟨F,h⟩
  | succ k=>
   obtain⟨G,hG,_⟩:=yvn l t F h;exact ih k G hG
def ytj:Int->Nat->Nat:=fun _ g=>g+1
def zhb:Int->Nat->Nat:=fun op g=>if yja op then g+1 else g
theorem val_depth(E:Ex):val ytj E=E.dp:=by
 induction E with
 | lf t=>rfl
 | un t a iha=>simp only[val,Ex.dp,iha,ytj]
 | bi t a b iha ihb=>simp only[val,Ex.dp,iha,ihb,ytj]
 | tr t a b c iha ihb ihc=>simp only[val,Ex.dp,iha,ihb,ihc,ytj]
theorem agg_ar{op:Int}(h:yja op=true):ar op=1:=by
 simp[yja]at h;unfold ar;rw[if_neg om,if_neg om,if_pos om]
theorem ytg{op:Int}(h:ar op≠1):yja op=false:=by
 cases hb:yja op
 .rfl
 exact absurd (agg_ar hb) h
theorem val_nest(E:Ex):E.ok->val zhb E=E.ns:=by
 induction E with
 | lf t=>intro h;have h':ar t.1=0:=h;simp only[val,Ex.ns,zhb,ytg (op:=t.1) om];rfl
 | un t a iha=>intro ⟨h,ha⟩;simp only[val,Ex.ns,iha ha,zhb]
 | bi t a b iha ihb=>intro ⟨h,ha,hb⟩;simp only[val,Ex.ns,iha ha,ihb hb,zhb,ytg (op:=t.1) om];rfl
 | tr t a b c iha ihb ihc=>intro ⟨h,ha,hb,hc⟩;simp only[val,Ex.ns,iha ha,ihb hb,ihc hc,zhb,ytg (op:=t.1) om];rfl
abbrev Open:=List (Nat × Bool)
def yhz(k:Nat)(b:Bool):Open->Open
 | []=>if k=0 then []else [(k,b)]
 | (x,c)::S=>if k=0 then yhz (x - 1) c S else(k,b)::(x,c)::S
def xcj:Open->Open
 | []=>[]
 | (x,c)::S=>yhz (x - 1) c S
def cnt(S:Open):Nat:=(S.filter (·.2)).length
structure Lev where
 S:Open
 d:Nat
 n:Nat
def ylt(s:Lev)(t:Tm):Lev:=
 ⟨yhz (ar t.1).toNat (yja t.1) s.S,max s.d (s.S.length+1),max s.n (cnt (((ar t.1).toNat,yja t.1)::s.S))⟩
def xfy(s:Lev)(l:List Tm):Lev:=l.foldl ylt s
theorem yum(s:Lev)(l m:List Tm):xfy s (l++m)=xfy (xfy s l) m:=by unfold xfy;rw[qcx]
theorem zef(s:Lev)(t:Tm)(l:List Tm):xfy s (t::l)=xfy (ylt s t) l:=rfl
theorem ynr(k:Nat)(b:Bool)(S:Open)(h:k≠0):yhz k b S=(k,b)::S:=by
 cases S with
 | nil=>simp[yhz,h]
 | cons x S=>obtain⟨x,c⟩:=x;simp[yhz,h]
theorem zdg(b:Bool)(S:Open):yhz 0 b S=xcj S:=by
 cases S with
 | nil=>simp[yhz,xcj]
 | cons x S=>obtain⟨x,c⟩:=x;simp[yhz,xcj]
theorem zpi(k:Nat)(b:Bool)(S:Open):xcj ((k+2,b)::S)=(k+1,b)::S:=by
 simp only[xcj];rw[ynr _ _ _ om];rfl
theorem zwq(b:Bool)(S:Open):xcj ((2,b)::S)=(1,b)::S:=zpi 0 b S
theorem finS_three(b:Bool)(S:Open):xcj ((3,b)::S)=(2,b)::S:=zpi 1 b S
theorem zle(b:Bool)(S:Open):xcj ((1,b)::S)=xcj S:=by simp only[xcj];exact zdg b S
theorem zbm(k:Nat)(b:Bool)(S:Open):cnt ((k,b)::S)=cnt S+(if b then 1 else 0):=by
 unfold cnt;cases b <;> simp
theorem levR_fl(E:Ex):E.ok->∀ s:Lev,xfy s E.fl=⟨xcj s.S,max s.d (s.S.length+E.dp),max s.n (cnt s.S+E.ns)⟩:=by
 induction E with
 | lf t=>
  intro h s;have h':ar t.1=0:=h;show ylt s t=_;unfold ylt;rw[h',ytg (op:=t.1) om];simp only[Int.toNat_zero,zdg,zbm,Ex.dp,Ex.ns];rfl
 | un t a iha=>
  intro ⟨h,ha⟩ s;simp only[Ex.fl,zef];rw[iha ha];unfold ylt;rw[h];simp only[Int.toNat_one,ynr 1 _ _ om,zle,qaj,zbm,Ex.dp,Ex.ns];congr 1
  .omega
  split <;> omega
 | bi t a b iha ihb=>
  intro ⟨h,ha,hb⟩ s;simp only[Ex.fl,zef,yum];rw[iha ha,ihb hb];unfold ylt;rw[h,ytg (op:=t.1) om];simp only[show (2:Int).toNat=2 from rfl,ynr 2 _ _ om,zwq,zle,qaj,zbm,Ex.dp,Ex.ns];simp only[Lev.mk.injEq,qbj,if_false,true_and];omega
 | tr t a b c iha ihb ihc=>
  intro ⟨h,ha,hb,hc⟩ s;simp only[Ex.fl,zef,yum];rw[iha ha,ihb hb,ihc hc];unfold ylt;rw[h,ytg (op:=t.1) om];simp only[show (3:Int).toNat=3 from rfl,ynr 3 _ _ om,finS_three,zwq,zle,qaj,zbm,Ex.dp,Ex.ns];simp only[Lev.mk.injEq,qbj,if_false,true_and];omega
end
section
open Go.RowKit
def zqs(op:Int):Bool:=decide (11<=op) && decide (op<=17)
def ytl(kinds:List Int)(t:Tm):Int:=
 if t.1=2\/t.1=3\/t.1=10\/t.1=15 then 2 else if t.1=4\/t.1=11\/t.1=17 then 3 else if t.1=5\/t.1=12 then kinds.getD t.2.toNat 0 else 1
def ty1(op a:Int):Int:=
 if op=19\/op=20\/op=21 then(if a=2 then 2 else 0)else if op=22 then(if a=2 then 1 else 0)else if op=23 then(if a=2 then 3 else 0)else(if a=1 then 1 else 0)
def ty2(op a b:Int):Int:=
 if op=35\/op=36 then(if a=b/\a≠0 then 2 else 0)else if op=41\/op=42 then(if a=2/\b=2 then 2 else 0)else if a=1/\b=1 then(if 37<=op/\op<=40 then 2 else 1)else 0
def ty3(a b c:Int):Int:=if a=2/\b=c then b else 0
def ty(kinds:List Int):Bool->Ex->Int
 | bound,.lf t=>if zqs t.1 && !bound then 0 else ytl kinds t
 | bound,.un t a=>ty1 t.1 (ty kinds (bound || yja t.1) a)
 | bound,.bi t a b=>ty2 t.1 (ty kinds bound a) (ty kinds bound b)
 | bound,.tr _ a b c=>ty3 (ty kinds bound a) (ty kinds bound b) (ty kinds bound c)
theorem xhr(op a:Int):0<=ty1 op a/\ty1 op a<=3/\(ty1 op a≠0->a≠0):=by
 unfold ty1;repeat' split
 all_goals omega
theorem xhs(op a b:Int):0<=ty2 op a b/\ty2 op a b<=3/\(ty2 op a b≠0->a≠0/\b≠0):=by
 unfold ty2;repeat' split
 all_goals omega
theorem xht(a b c:Int)(h:0<=b/\b<=3):0<=ty3 a b c/\ty3 a b c<=3/\(ty3 a b c≠0->a≠0/\b≠0/\c≠0):=by
 unfold ty3;split <;> omega
def ygv(kinds:List Int):Bool:=kinds.all fun k=>decide (k=1) || (decide (k=2) || decide (k=3))
theorem leafTy_bd(kinds:List Int)(hk:ygv kinds=true)(t:Tm):0<=ytl kinds t/\ytl kinds t<=3:=by
 unfold ytl
 repeat' split
 .omega
 .omega
 .rw [qac];cases h:kinds[t.2.toNat]? with
  | none=>simp
  | some k=>
   have:=qab h;unfold ygv at hk;rw[List.all_eq_true]at hk;have:=hk k this;simp at this;simp;omega
 omega
theorem ty_bd(kinds:List Int)(hk:ygv kinds=true)(E:Ex):∀ bound,0<=ty kinds bound E/\ty kinds bound E<=3:=by
 induction E with
 | lf t=>intro bound;have:=leafTy_bd kinds hk t;simp only[ty];split <;> omega
 | un t a iha=>intro bound;have:=xhr t.1 (ty kinds (bound || yja t.1) a);simp only[ty];omega
 | bi t a b iha ihb=>intro bound;have:=xhs t.1 (ty kinds bound a) (ty kinds bound b);simp only[ty];omega
 | tr t a b c iha ihb ihc=>intro bound;have:=xht (ty kinds bound a) (ty kinds bound b) (ty kinds bound c) (ihb bound);simp only[ty];omega
def ofF(l:List Tm)(kinds:List Int)(bound:Bool):Int × Int:=
 if 6 < kinds.length then(0,7)else if ygv kinds=false then(0,7)else if ycu l kinds.length=false then(0,7)else
 match yfy l with
 | none=>(0,7)
 | some E=>if ty kinds bound E=0 then(0,6)else(ty kinds bound E,0)
theorem zya(l:List Tm)(kinds:List Int)(bound:Bool)(h:6 < kinds.length):ofF l kinds bound=(0,7):=by unfold ofF;rw[if_pos h]
theorem zez(l:List Tm)(kinds:List Int)(bound:Bool)(h:ygv kinds=false):ofF l kinds bound=(0,7):=by unfold ofF;rw[if_pos h];split <;> rfl
theorem zey(l:List Tm)(kinds:List Int)(bound:Bool)(h:ycu l kinds.length=false):ofF l kinds bound=(0,7):=by unfold ofF;rw[if_pos h];split <;> (try split) <;> rfl
theorem xdr(l:List Tm)(kinds:List Int)(bound:Bool)(E:Ex)(h6:¬ 6 < kinds.length)(hk:ygv kinds=true)(hv:ycu l kinds.length=true)(hp:yfy l=some E) :
  ofF l kinds bound=if ty kinds bound E=0 then(0,6)else(ty kinds bound E,0):=by
 unfold ofF;rw[if_neg h6,if_neg (by simp[hk]),if_neg (by simp[hv]),hp]
theorem yuv{vars:Int}(h:ycu l vars=true):∃ E,yfy l=some E/\E.ok/\E.fl=l/\l.length<=200/\l.all (yvb vars)=true/\E.dp<=24/\E.ns<=2:=by
 unfold ycu at h;cases hp:yfy l with
 | none=>rw[hp]at h;cases h
 | some E=>
  rw[hp]at h;simp only[qad,decide_eq_true_eq]at h;obtain⟨h1,h2⟩:=yji hp;exact⟨E,rfl,h1,h2,h.1,h.2.1,h.2.2.1,h.2.2.2⟩
end
section
open Go.RowKit
set_option maxHeartbeats 400000 in
theorem yvc(op:Int)(w:World):Calls prog 211 #[.int .i64 op] w fun e w'=>e=.returned (.int .i64 (ar op))/\w=w':=by
 go_enter Tryz.func211,ntmps211;go_wp2
 all_goals go_ret
 all_goals exact⟨yhb (by unfold ar;(repeat' split) <;> omega),rfl⟩
set_option maxHeartbeats 400000 in
theorem aggregate_any(op:Int)(w:World):Calls prog 215 #[.int .i64 op] w fun e w'=>e=.returned (.bool (yja op))/\w=w':=by
 go_enter Tryz.func215,ntmps215;go_wp2
 all_goals go_ret
 all_goals exact⟨yen (by rw[qbw];simp[yja];omega),rfl⟩
set_option maxHeartbeats 400000 in
theorem ysl(op:Int)(w:World):Calls prog 223 #[.int .i64 op] w fun e w'=>e=.returned (.int .i64 (ar op))/\w=w':=by
 go_enter Tryz.func223,ntmps223;go_wp2
 all_goals go_ret
 all_goals refine⟨yhb ?_,rfl⟩
 all_goals try simp only[beq_iff_eq,beq_eq_false_iff_ne,ne_eq]at *
 all_goals (unfold ar;(repeat' split) <;> omega)
set_option maxHeartbeats 400000 in
theorem raggregate_any(op:Int)(w:World):Calls prog 225 #[.int .i64 op] w fun e w'=>e=.returned (.bool (yja op))/\w=w':=by
 go_enter Tryz.func225,ntmps225;go_wp2
 all_goals go_ret
 all_goals exact⟨yen (by rw[qbw];simp[yja];omega),rfl⟩
def yit(w:World)(v:Value)(l:List Tm):Prop:=Row w v 2 l.length (l.flatMap fun t=>[.int .i64 t.1,.int .i64 t.2])
theorem yit.below(h:yit w v l)(hb:Below w.heap.size w w'):yit w' v l:=Row.below h hb
theorem yit.open(h:yit w v l):∃ a cap,v=.slice a l.length cap/\l.length<=cap/\cap<=9223372036854775807 /\
  (0 < l.length->∃ g o,a=some ⟨g,o,none⟩/\g < w.heap.size/\∀ i t,l[i]?=some t->w.cell? ⟨g,o+i * 2,none⟩=some (.int .i64 t.1)/\w.cell? ⟨g,o+i * 2+1,none⟩=some (.int .i64 t.2)):=by
 obtain⟨a,cap,hv,h1,h2,h3,h4⟩:=Row.open h;refine⟨a,cap,hv,h1,h2,fun hn=>?_⟩;obtain⟨g,o,ha,hg,hc⟩:=h4 hn;exact⟨g,o,ha,hg,fun i t ht=>⟨hc _ _ (yks _ 2 (fun _=>rfl) l i 0 t _ ht rfl),hc _ _ (yks _ 2 (fun _=>rfl) l i 1 t _ ht rfl)⟩⟩
def ysx(w k:Nat)(l:List Tm):Int:=match zsq w (l.drop k)with|none=>-1|some n=>(k:Int)+n
theorem ynv(m k:Nat)(l:List Tm)(hm:1<=m)(h:l.length<=k):ysx m k l=-1:=by
 obtain⟨m,rfl⟩:∃ q,m=q+1:=⟨m - 1,om⟩;unfold ysx;rw[qgu h,endN_nil]
theorem zla(m k:Nat)(l:List Tm)(hm:1<=m)(h:k < l.length)(hn:ar l[k].1 < 0):ysx m k l=-1:=by
 obtain⟨m,rfl⟩:∃ q,m=q+1:=⟨m - 1,om⟩;unfold ysx;rw[qbl h,zwi _ _ _ hn]
theorem yvj(m k:Nat)(l:List Tm)(hm:1<=m)(h:k < l.length)(hn:¬ ar l[k].1 < 0):ysx m k l=ysx (m+(ar l[k].1).toNat - 1) (k+1) l:=by
 obtain⟨m,rfl⟩:∃ q,m=q+1:=⟨m - 1,om⟩;unfold ysx;rw[qbl h,ynu _ _ _ hn,show m+1+(ar l[k].1).toNat - 1=m+(ar l[k].1).toNat by omega];cases zsq (m+(ar l[k].1).toNat) (l.drop (k+1))with
 | none=>rfl
 | some n=>simp;omega
theorem zdk(m k:Nat)(l:List Tm)(hm:1<=m)(h:k < l.length)(hn:¬ ar l[k].1 < 0)(hz:(m:Int)+(ar l[k].1 - 1)=0):ysx m k l=k+1:=by
 rw[yvj m k l hm h hn,show m+(ar l[k].1).toNat - 1=0 by omega];unfold ysx;rw[yqj];simp
set_option maxHeartbeats 1000000 in
theorem yzt(t:Tm)(vars:Int)(w:World):Calls prog 164 #[.agg #[.int .i64 t.1,.int .i64 t.2],.int .i64 vars] w fun e w'=>e=.returned (.bool (yvb vars t))/\Below w.heap.size w w':=by
 obtain⟨op,x⟩:=t;have hcases:(op == 1)=true\/(op == 1)=false/\((op == 5)=true\/(op == 5)=false/\((op == 12)=true\/(op == 12)=false)):=by
  cases (op == 1) <;> cases (op == 5) <;> cases (op == 12) <;> simp
 rcases hcases with q0|⟨q0,q1|⟨q1,q2|q2⟩⟩
 all_goals
  go_enter Tryz.func164,ntmps164;go_wp2
  all_goals go_ret
  all_goals refine⟨yen ?_,(Below.refl _ _).alloc (qbf _) _⟩
  all_goals simp only[beq_iff_eq,beq_eq_false_iff_ne,ne_eq]at *
  all_goals rw[qbw]
  all_goals simp[yvb, *]
  all_goals try omega
set_option maxHeartbeats 1000000 in
theorem yws(t:Tm)(vars:Int)(w:World):Calls prog 285 #[.agg #[.int .i64 t.1,.int .i64 t.2],.int .i64 vars] w fun e w'=>e=.returned (.bool (yvb vars t))/\Below w.heap.size w w':=by
 obtain⟨op,x⟩:=t;have hcases:(op == 1)=true\/(op == 1)=false/\((op == 5)=true\/(op == 5)=false/\((op == 12)=true\/(op == 12)=false)):=by
  cases (op == 1) <;> cases (op == 5) <;> cases (op == 12) <;> simp
 rcases hcases with q0|⟨q0,q1|⟨q1,q2|q2⟩⟩
 all_goals
  go_enter Tryz.func285,ntmps285;go_wp2
  all_goals go_ret
  all_goals refine⟨yen ?_,(Below.refl _ _).alloc (qbf _) _⟩
  all_goals simp only[beq_iff_eq,beq_eq_false_iff_ne,ne_eq]at *
  all_goals rw[qbw]
  all_goals simp[yvb, *]
  all_goals try omega
set_option maxHeartbeats 1000000 in
theorem end_any_in(v:Value)(l:List Tm)(at_:Nat)(w:World)(hl:l.length<=1000)(hv:Hid (yit w v l))(ha:at_ < l.length) :
  Calls prog 163 #[v,.int .i64 at_] w fun e w'=>e=.returned (.int .i64 (ysx 1 at_ l))/\w=w':=by
 obtain⟨a,cap,rfl,h1,h2,h3⟩:=hv.out.open;obtain⟨g,o,rfl,hg,hc⟩:=h3 om;have HC:=Lib.hid hc;have b1:decide ((at_:Int) < 0)=false:=by simp
 have b2:decide (l.length<=at_)=false:=by simp;omega
 clear hc h3;go_enter Tryz.func163,ntmps163;go_wp2;go_loop [1,5,6] (fun i x _=>∃ k m:Nat,k<=l.length/\1<=m/\m<=2 * k+1/\i=.int .i64 k/\x=.int .i64 m/\Hid (ysx 1 at_ l=ysx m k l)) (fun i _ _=>l.length - (intOf i).toNat);case atStart=>exact⟨at_,1,om,om,om,rfl,rfl,rfl⟩
 case round=>
  obtain⟨k,m,hk,hm1,hm2,rfl,rfl,he⟩:=hrel
  by_cases hlt:k < l.length
  .obtain ⟨c0,c1⟩:=HC.out k _ (qae hlt)
   have hb:=ztd l[k].1
   have hb1:=hb.1
   have hb2:=hb.2
   clear hb
   have HD:=Lib.hid (qbl hlt)
   by_cases hneg:ar l[k].1 < 0
   .go_wp2_with (go_at_call 211;refine(yvc _ _).mono ?_;rintro e w' ⟨rfl,rfl⟩)
    go_ret
    exact⟨yhb (by rw[he.out,zla m k l hm1 hlt hneg]),rfl⟩
   by_cases hz:(m:Int)+(ar l[k].1 - 1)=0
   .have hz':((m:Int)+(ar l[k].1 - 1) == 0)=true:=by simp;omega
    have HZ:=Lib.hid hz
    clear hz
    go_wp2_with (go_at_call 211;refine(yvc _ _).mono ?_;rintro e w' ⟨rfl,rfl⟩)
    go_ret
    exact⟨yhb (by rw[he.out,zdk m k l hm1 hlt om HZ.out]),rfl⟩
   have hz':((m:Int)+(ar l[k].1 - 1) == 0)=false:=by simp;omega
   go_wp2_with (go_at_call 211;refine(yvc _ _).mono ?_;rintro e w' ⟨rfl,rfl⟩)
   exact⟨⟨k+1,m+(ar l[k].1).toNat - 1,om,om,om,by go_num,by congr 1;omega,he.out.trans (yvj m k l hm1 hlt om)⟩,by simp[intOf];omega⟩
  go_wp2
  go_ret
  exact⟨yhb (by rw[he.out,ynv m k l hm1 om]),rfl⟩
set_option maxHeartbeats 1000000 in
theorem rend_any_in(v:Value)(l:List Tm)(at_:Nat)(w:World)(hl:l.length<=1000)(hv:Hid (yit w v l))(ha:at_ < l.length) :
  Calls prog 257 #[v,.int .i64 at_] w fun e w'=>e=.returned (.int .i64 (ysx 1 at_ l))/\w=w':=by
 obtain⟨a,cap,rfl,h1,h2,h3⟩:=hv.out.open;obtain⟨g,o,rfl,hg,hc⟩:=h3 om;have HC:=Lib.hid hc;have b1:decide ((at_:Int) < 0)=false:=by simp
 have b2:decide (l.length<=at_)=false:=by simp;omega
 clear hc h3;go_enter Tryz.func257,ntmps257;go_wp2;go_loop [5,6,7] (fun x i _=>∃ k m:Nat,k<=l.length/\1<=m/\m<=2 * k+1/\i=.int .i64 k/\x=.int .i64 m/\Hid (ysx 1 at_ l=ysx m k l)) (fun _ i _=>l.length - (intOf i).toNat);case atStart=>exact⟨at_,1,om,om,om,rfl,rfl,rfl⟩
 case round=>
  obtain⟨k,m,hk,hm1,hm2,rfl,rfl,he⟩:=hrel
  by_cases hlt:k < l.length
  .obtain ⟨c0,c1⟩:=HC.out k _ (qae hlt)
   have hb:=ztd l[k].1
   have hb1:=hb.1
   have hb2:=hb.2
   clear hb
   have HD:=Lib.hid (qbl hlt)
   by_cases hneg:ar l[k].1 < 0
   .go_wp2_with (go_at_call 223;refine(ysl _ _).mono ?_;rintro e w' ⟨rfl,rfl⟩)
    go_ret
    exact⟨yhb (by rw[he.out,zla m k l hm1 hlt hneg]),rfl⟩
   by_cases hz:(m:Int)+(ar l[k].1 - 1)=0
   .have hz':((m:Int)+(ar l[k].1 - 1) == 0)=true:=by simp;omega
    have HZ:=Lib.hid hz
    clear hz
    go_wp2_with (go_at_call 223;refine(ysl _ _).mono ?_;rintro e w' ⟨rfl,rfl⟩)
    go_ret
    exact⟨yhb (by rw[he.out,zdk m k l hm1 hlt om HZ.out]),rfl⟩
   have hz':((m:Int)+(ar l[k].1 - 1) == 0)=false:=by simp;omega
   go_wp2_with (go_at_call 223;refine(ysl _ _).mono ?_;rintro e w' ⟨rfl,rfl⟩)
   exact⟨⟨k+1,m+(ar l[k].1).toNat - 1,om,om,om,by go_num,by congr 1;omega,he.out.trans (yvj m k l hm1 hlt om)⟩,by simp[intOf];omega⟩
  go_wp2
  go_ret
  exact⟨yhb (by rw[he.out,ynv m k l hm1 om]),rfl⟩
end
section
open Go.ChangeShapes Go.WideShapes Go.RowKit
def Rd{H:Type}(enc:TypeId × Value->H)(P:Program)(w:World)(t:TypeId)(cs:List Value):Prop:=∃ fuel x,DataW.trod enc P w 0 (fun _=>true) true fuel t cs=some x
section
variable{H:Type}{enc:TypeId × Value->H}{P:Program}{w:World}{t:TypeId}{cs:List Value}
theorem rd_int(ht:P.underlying t=some (.int k))(h:Rd enc P w t cs):∃ n,cs=[.int k n]/\(Lit.int k n).wf=true:=by
 obtain⟨fuel,x,h⟩:=h;obtain⟨n,h1,_,h2⟩:=DataW.trod_int ht h;exact⟨n,h1,h2⟩
theorem wf64{n:Int}(h:(Lit.int .i64 n).wf=true):-9223372036854775808<=n/\n<=9223372036854775807:=by
 simp only[Lit.wf,qad,decide_eq_true_eq]at h;have e1:IntKind.i64.min=-9223372036854775808:=by decide
 have e2:IntKind.i64.max=9223372036854775807:=by decide
 omega
theorem yio(ht:P.underlying t=some (.int .i64))(h:Rd enc P w t cs):∃ n,cs=[.int .i64 n]/\-9223372036854775808<=n/\n<=9223372036854775807:=by
 obtain⟨n,h1,h2⟩:=rd_int ht h;exact⟨n,h1,wf64 h2⟩
theorem zfl(ht:P.underlying t=some .string)(h:Rd enc P w t cs):∃ s:ByteArray,cs=[.string s]/\s.size<=maxLen:=by
 obtain⟨fuel,x,h⟩:=h;obtain⟨s,h1,_,h2⟩:=DataW.trod_string ht h;exact⟨s,h1,h2⟩
theorem rd_bool(ht:P.underlying t=some .bool)(h:Rd enc P w t cs):∃ b,cs=[.bool b]:=by
 obtain⟨fuel,x,h⟩:=h;obtain⟨b,h1,_⟩:=DataW.trod_bool ht h;exact⟨b,h1⟩
theorem ymb{fs:Array Field}(ht:P.underlying t=some (.struct fs))(h:Rd enc P w t cs) :
  cs.length=P.cellsOf t/\∀ (i:Nat) (f:Field),fs[i]?=some f->Rd enc P w f.type ((cs.drop f.offset).take (P.cellsOf f.type)):=by
 obtain⟨fuel,x,h⟩:=h;obtain⟨xs,n,_,_,h1,h2,h3⟩:=DataW.trod_struct ht h;refine⟨h1,fun i f hf=>?_⟩;have hi:i < xs.length:=by rw[h2];exact(qaz.1 hf).1
 exact⟨n,xs[i],by rw[h3 i f hf,qae hi]⟩
theorem rd_slice{e:TypeId}(ht:P.underlying t=some (.slice e))(h:Rd enc P w t cs) :
  cs=[.slice none 0 0]\/∃ (a:Addr) (len cap:Nat),cs=[.slice (some a) len cap]/\len<=cap/\cap<=maxLen /\
   ∀ i,i < len->∃ cs',cs'.length=P.cellsOf e/\(∀ j,j < P.cellsOf e->w.cell? ((a.add (i * P.cellsOf e)).add j)=cs'[j]?)/\Rd enc P w e cs':=by
 obtain⟨fuel,x,h⟩:=h;rcases Deep.open_slice ht h with⟨h0,_⟩|⟨a,len,cap,m,n,D,Pl,h1,_,h2,h3,h4,_,h5⟩
 .exact .inl h0
 refine .inr ⟨a,len,cap,h1,h2,h3,fun i hi=>?_⟩;have hm:m=cap:=by simpa using h4
 obtain⟨cs',h6,h7⟩:=h5 i om;obtain⟨_,h8,h9⟩:=World.cells?_some h6;exact⟨cs',h8,h9,⟨n,_,h7⟩⟩
end
def Seq{α:Type}(R:List Value->α->Prop)(size:Nat)(w:World)(v:Value)(l:List α):Prop:=
 ∃ xs,Row w v size l.length xs/\∀ i x,l[i]?=some x->R ((xs.drop (i * size)).take size) x
theorem Seq.below{R':List Value->α->Prop}{l:List α}(h:Seq R size w v l)(hb:Below w.heap.size w w')(hR:∀ cs x,R cs x->R' cs x):Seq R' size w' v l:=by
 obtain⟨xs,h1,h2⟩:=h;exact⟨xs,h1.below hb,fun i x hx=>hR _ _ (h2 i x hx)⟩
theorem Seq.imp{R':List Value->α->Prop}{l:List α}(h:Seq R size w v l)(hR:∀ cs x,x∈l->R cs x->R' cs x):Seq R' size w v l:=by
 obtain⟨xs,h1,h2⟩:=h;exact⟨xs,h1,fun i x hx=>hR _ _ (qab hx) (h2 i x hx)⟩
theorem flat_chunk(f:Nat->List Value)(size:Nat)(hf:∀ i,(f i).length=size)(n i:Nat)(hi:i < n):(((List.range n).flatMap f).drop (i * size)).take size=f i:=by
 apply qdt;intro j;rw[qbc];split
 .rename_i hj;rw[qby];obtain⟨u,hu⟩:∃ u,(f i)[j]?=some u:=⟨_,qae (by rw[hf];exact hj)⟩;rw[hu];exact yks f size hf (List.range n) i j i u (by rw[qcf hi]) hu
 rename_i hj;rw[qch (by rw[hf];omega)]
theorem ymy{e:TypeId}(ht:P.underlying t=some (.slice e))(hs:P.cellsOf e=size)(h0:0 < size)(hR:∀ cs,Rd enc P w e cs->∃ x,R cs x)(h:Rd enc P w t cs):∃ v l,cs=[v]/\Seq R size w v l:=by
 rcases rd_slice ht h with rfl|⟨a,len,cap,rfl,h1,h2,h3⟩
 .exact ⟨_,[],rfl,[],row_nil w size,fun i x hx=>by simp at hx⟩
 rw[hs]at h3;by_cases hl:len=0
 .subst hl;exact⟨_,[],rfl,[],⟨_,cap,rfl,sm,h2,sm,(fun h=>by cases h),.inl rfl⟩,fun i x hx=>by simp at hx⟩
 have hch:∀ i:Nat,∃ q:List Value,q.length=size/\(i < len->(∀ j,j < size->w.cell? ((a.add (i * size)).add j)=q[j]?)/\∃ x,R q x):=by
  intro i;by_cases hi:i < len
  .obtain ⟨c,c1,c2,c3⟩:=h3 i hi;exact⟨c,c1,fun _=>⟨c2,hR c c3⟩⟩
  exact⟨List.replicate size undef,sm,fun h=>absurd h hi⟩
 obtain⟨f,hf⟩:=Classical.axiomOfChoice hch;obtain⟨x0,_⟩:=((hf 0).2 om).2;have hx:∀ i:Nat,∃ x:α,i < len->R (f i) x:=by
  intro i;by_cases hi:i < len
  .obtain ⟨x,hx⟩:=((hf i).2 hi).2;exact⟨x,fun _=>hx⟩
  exact⟨x0,fun h=>absurd h hi⟩
 obtain⟨g,hg⟩:=Classical.axiomOfChoice hx;have hc0:w.cell? a=(f 0)[0]?:=by
  have:=((hf 0).2 om).1 0 h0;simpa[Addr.add]using this
 obtain⟨u0,hu0⟩:∃ u,(f 0)[0]?=some u:=⟨_,qae (by rw[(hf 0).1];exact h0)⟩;rw[hu0]at hc0;obtain⟨b,o,sp⟩:=a;have hsp:sp=none:=by
  unfold World.cell? at hc0;split at hc0
  .split at hc0
   .cases hc0
   rename_i hsp;simpa using hsp
  cases hc0
 subst hsp;have hb:b < w.heap.size:=by
  rcases qbh b w.heap.size with h|h
  .exact h
  unfold World.cell? at hc0;simp[qed h]at hc0
 have hadd:∀ n:Nat,(⟨b,o,none⟩:Addr).add n=⟨b,o+n,none⟩:=by intro n;unfold Addr.add;split <;> simp_all
 refine⟨_,(List.range len).map g,rfl,(List.range len).flatMap f,?_,?_⟩
 .rw [qai,qds];refine⟨_,cap,rfl,h1,h2,by rw[zbq f size (fun i=>(hf i).1),qds],(fun h=>by cases h),.inr ⟨b,o,rfl,hb,fun j u hu=>?_⟩⟩;have hj:j < len * size:=by
   have:=(qaa.1 hu).1;rw[zbq f size (fun i=>(hf i).1),qds]at this;exact this
  have hi:j / size < len:=(qhe h0).2 hj;have hr:j % size < size:=Nat.mod_lt _ h0;have hjd:j / size * size+j % size=j:=by rw[Nat.mul_comm];exact Nat.div_add_mod j size
  have c:=((hf (j / size)).2 hi).1 (j % size) hr;obtain⟨u',hu'⟩:∃ u,(f (j / size))[j % size]?=some u:=⟨_,qae (by rw[(hf _).1];exact hr)⟩;have e1:=yks f size (fun i=>(hf i).1) (List.range len) (j / size) (j % size) (j / size) u' (by rw[qcf hi]) hu';rw[hjd,hu]at e1;cases e1;rw[hadd]at c;have h5:(⟨b,o+j / size * size,none⟩:Addr).add (j % size)=⟨b,o+j,none⟩:=by
   have:(⟨b,o+j / size * size,none⟩:Addr).add (j % size)=⟨b,o+j / size * size+j % size,none⟩:=by unfold Addr.add;split <;> simp_all
   rw[this,qdf,hjd]
  rw[h5]at c;rw[c,hu']
 intro i x hx;have hi:i < len:=by
  have:=(qaa.1 hx).1;simpa using this
 rw[qak,qcf hi]at hx;simp at hx;subst hx;rw[flat_chunk f size (fun i=>(hf i).1) len i hi];exact hg i hi
theorem ysr{l:List α}(f:α->List Value)(hf:∀ x,(f x).length=size)(h0:0 < size)(h:Seq R size w v l)(hR:∀ cs x,R cs x->cs=f x):Row w v size l.length (l.flatMap f):=by
 obtain⟨xs,⟨a,cap,hv,h1,h2,h3,h4,h5⟩,h6⟩:=h;refine⟨a,cap,hv,h1,h2,zbq f size hf l,h4,?_⟩;rcases h5 with h5|⟨g,o,ha,hg,hc⟩
 .exact .inl h5
 refine .inr ⟨g,o,ha,hg,fun j u hu=>hc j u ?_⟩;have hj:j < l.length * size:=by
  have:=(qaa.1 hu).1;rw[zbq f size hf]at this;exact this
 have hi:j / size < l.length:=(qhe h0).2 hj;have hr:j % size < size:=Nat.mod_lt _ h0;have hjd:j / size * size+j % size=j:=by rw[Nat.mul_comm];exact Nat.div_add_mod j size
 have e1:=yks f size hf l (j / size) (j % size) l[j / size] ((f l[j / size])[j % size]'(by rw[hf];exact hr)) (qae hi) (qae (by rw[hf];exact hr));rw[hjd,hu]at e1;cases e1;have e2:=hR _ _ (h6 (j / size) _ (qae hi));have e3:((xs.drop (j / size * size)).take size)[j % size]?=some ((f l[j / size])[j % size]'(by rw[hf];exact hr)):=by rw[e2];exact qae (by rw[hf];exact hr)
 rw[qbc,if_pos hr,qby,hjd]at e3;exact e3
theorem xjd{d:DataW H}{ps:List MemPlace}(h:DataW.Trod enc P w 0 (fun _=>true) true t v d ps):Rd enc P w t v.cells.toList:=by
 obtain⟨fuel,h⟩:=h;exact⟨fuel,_,h⟩
theorem open_seq_arg{base:Nat}{e:TypeId}{d:DataW H}{ps:List MemPlace}(ht:P.underlying t=some (.slice e))(hs:P.cellsOf e=size)(h0:0 < size)(hR:∀ cs,Rd enc P w e cs->∃ x,R cs x)(hv:Value.okWide P w .any base t v)(h:DataW.Trod enc P w 0 (fun _=>true) true t v d ps):∃ l,Seq R size w v l:=by
 obtain⟨a,len,cap,rfl⟩:=okWide_slice ht hv;obtain⟨v',l,h1,h2⟩:=ymy ht hs h0 hR (xjd h);simp[Value.cells]at h1;subst h1;exact⟨l,h2⟩
theorem zwu(l:List Int):l.flatMap (fun x=>[Value.int .i64 x])=l.map (.int .i64):=by
 induction l with
 | nil=>rfl
 | cons a l ih=>rw[qdh,ih];rfl
def yxn(n:Int):Prop:=-9223372036854775808<=n/\n<=9223372036854775807
end
section
open Go.ChangeShapes Go.WideShapes Go.RowKit
theorem zku:prog.cellsOf 3=1:=by kernel_rfl
theorem zov:prog.cellsOf 238=2:=by kernel_rfl
section
variable{H:Type}{enc:TypeId × Value->H}{w:World}{cs:List Value}{v:Value}{base:Nat}{d:DataW H}{ps:List MemPlace}
def zcz(t:Tm):Prop:=yxn t.1/\yxn t.2
theorem rd_term(h:Rd enc prog w 238 cs):∃ t:Tm,cs=[.int .i64 t.1,.int .i64 t.2]/\zcz t:=by
 obtain⟨h1,h2⟩:=ymb underlying238 h;rw[zov]at h1
 match cs,h1 with
 | [a,b],_=>
  have g0:=h2 0 _ rfl;have g1:=h2 1 _ rfl;simp[zku]at g0 g1;obtain⟨x,hx,hx'⟩:=yio underlying3 g0;obtain⟨y,hy,hy'⟩:=yio underlying3 g1;simp at hx hy;exact⟨(x,y),by simp[hx,hy],hx',hy'⟩
theorem terms_of_seq{l:List Tm}(h:Seq (fun cs (t:Tm)=>cs=[.int .i64 t.1,.int .i64 t.2]/\zcz t) 2 w v l):yit w v l/\∀ t∈l,zcz t:=by
 refine⟨ysr (fun t:Tm=>[.int .i64 t.1,.int .i64 t.2]) (fun _=>rfl) om h (fun cs x h=>h.1),fun x hx=>?_⟩;obtain⟨xs,_,h2⟩:=h;obtain⟨i,hi⟩:=qao hx;exact(h2 i x hi).2
theorem zyh(h:Rd enc prog w 68 cs):∃ v l,cs=[v]/\yit w v l/\∀ t∈l,zcz t:=by
 obtain⟨v,l,h1,h2⟩:=ymy (R:=fun cs (t:Tm)=>cs=[.int .i64 t.1,.int .i64 t.2]/\zcz t) underlying68 zov (qhi 1) (fun cs h=>rd_term h) h;exact⟨v,l,h1,terms_of_seq h2⟩
end
end
section
open Go.ChangeShapes Go.WideShapes Go.RowKit
structure VarD where
 name:ByteArray
 kind:Int
 lo:Int
 hi:Int
 perNode:Int
 perID:Int
structure SetD where
 var:Int
 val:List Tm
structure RuleD where
 name:ByteArray
 guard:List Tm
 sets:List SetD
structure ProgD where
 name:ByteArray
 vars:List VarD
 rules:List RuleD
def ynd(x:VarD):List Value:=[.string x.name,.int .i64 x.kind,.int .i64 x.lo,.int .i64 x.hi,.int .i64 x.perNode,.int .i64 x.perID]
def zof(w:World)(cs:List Value)(s:SetD):Prop:=∃ v,cs=[.int .i64 s.var,v]/\yit w v s.val
def zcy(w:World)(cs:List Value)(r:RuleD):Prop:=∃ gv sv,cs=[.string r.name,gv,sv]/\yit w gv r.guard/\Seq (zof w) 2 w sv r.sets
def yzr(w:World)(v:Value)(l:List VarD):Prop:=Row w v 6 l.length (l.flatMap ynd)
def yty(w:World)(v:Value)(l:List RuleD):Prop:=Seq (zcy w) 3 w v l
def zhm(w:World)(v:Value)(p:ProgD):Prop:=∃ vv rv,v=.agg #[.string p.name,vv,rv]/\yzr w vv p.vars/\yty w rv p.rules
def xfq(x:VarD):Prop:=x.name.size<=9223372036854775807/\yxn x.kind/\yxn x.lo/\yxn x.hi/\yxn x.perNode/\yxn x.perID
def xin(s:SetD):Prop:=yxn s.var/\∀ t∈s.val,zcz t
def zod(r:RuleD):Prop:=r.name.size<=9223372036854775807/\(∀ t∈r.guard,zcz t)/\∀ s∈r.sets,xin s
def yjt(p:ProgD):Prop:=p.name.size<=9223372036854775807/\(∀ x∈p.vars,xfq x)/\∀ r∈p.rules,zod r
theorem zof.below{s:SetD}(hb:Below w.heap.size w w')(h:zof w cs s):zof w' cs s:=by
 obtain⟨v,h1,h2⟩:=h;exact⟨v,h1,h2.below hb⟩
theorem zcy.below{r:RuleD}(hb:Below w.heap.size w w')(h:zcy w cs r):zcy w' cs r:=by
 obtain⟨gv,sv,h1,h2,h3⟩:=h;exact⟨gv,sv,h1,h2.below hb,h3.below hb fun _ _=>zof.below hb⟩
theorem yzr.below{l:List VarD}(h:yzr w v l)(hb:Below w.heap.size w w'):yzr w' v l:=Row.below h hb
theorem yty.below{l:List RuleD}(h:yty w v l)(hb:Below w.heap.size w w'):yty w' v l:=Seq.below h hb fun _ _=>zcy.below hb
theorem zhm.below{p:ProgD}(h:zhm w v p)(hb:Below w.heap.size w w'):zhm w' v p:=by
 obtain⟨vv,rv,h1,h2,h3⟩:=h;exact⟨vv,rv,h1,h2.below hb,h3.below hb⟩
theorem Seq.open{l:List α}(h:Seq R size w v l):∃ a cap,v=.slice a l.length cap/\l.length<=cap/\cap<=9223372036854775807 /\
  (0 < l.length->∃ g o,a=some ⟨g,o,none⟩/\g < w.heap.size/\∀ i x,l[i]?=some x->∃ cs,cs.length=size/\R cs x/\∀ j u,cs[j]?=some u->w.cell? ⟨g,o+i * size+j,none⟩=some u):=by
 obtain⟨xs,h1,h2⟩:=h;have hlen:xs.length=l.length * size:=by obtain⟨_,_,_,_,_,h,_⟩:=h1;exact h
 obtain⟨a,cap,hv,h3,h4,_,h5⟩:=Row.open h1;refine⟨a,cap,hv,h3,h4,fun hn=>?_⟩;obtain⟨g,o,ha,hg,hc⟩:=h5 hn;refine⟨g,o,ha,hg,fun i x hx=>⟨_,?_,h2 i x hx,fun j u hu=>?_⟩⟩
 .have hi:=(qaa.1 hx).1;rw[qcj,qdj,hlen];have:i * size+size<=l.length * size:=by rw[<- qdi];exact qel _ hi
  omega
 rw[qbc]at hu;split at hu
 .rw [qby]at hu;have:=hc _ u hu;rw[<- qdf]at this;exact this
 cases hu
theorem yzr.open{l:List VarD}(h:yzr w v l):∃ a cap,v=.slice a l.length cap/\l.length<=cap/\cap<=9223372036854775807 /\
  (0 < l.length->∃ g o,a=some ⟨g,o,none⟩/\g < w.heap.size/\∀ i x,l[i]?=some x->w.cell? ⟨g,o+i * 6,none⟩=some (.string x.name)/\w.cell? ⟨g,o+i * 6+1,none⟩=some (.int .i64 x.kind)/\w.cell? ⟨g,o+i * 6+2,none⟩=some (.int .i64 x.lo) /\
   w.cell? ⟨g,o+i * 6+3,none⟩=some (.int .i64 x.hi)/\w.cell? ⟨g,o+i * 6+4,none⟩=some (.int .i64 x.perNode)/\w.cell? ⟨g,o+i * 6+5,none⟩=some (.int .i64 x.perID)):=by
 obtain⟨a,cap,hv,h3,h4,_,h5⟩:=Row.open h;refine⟨a,cap,hv,h3,h4,fun hn=>?_⟩;obtain⟨g,o,ha,hg,hc⟩:=h5 hn;refine⟨g,o,ha,hg,fun i x hx=>?_⟩;have h0:=fun j u hu=>yks ynd 6 (fun _=>rfl) l i j x u hx hu;exact⟨hc _ _ (h0 0 _ rfl),hc _ _ (h0 1 _ rfl),hc _ _ (h0 2 _ rfl),hc _ _ (h0 3 _ rfl),hc _ _ (h0 4 _ rfl),hc _ _ (h0 5 _ rfl)⟩
theorem yty.open{l:List RuleD}(h:yty w v l):∃ a cap,v=.slice a l.length cap/\l.length<=cap/\cap<=9223372036854775807 /\
  (0 < l.length->∃ g o,a=some ⟨g,o,none⟩/\g < w.heap.size/\∀ i r,l[i]?=some r->∃ gv sv,yit w gv r.guard/\Seq (zof w) 2 w sv r.sets/\w.cell? ⟨g,o+i * 3,none⟩=some (.string r.name)/\w.cell? ⟨g,o+i * 3+1,none⟩=some gv/\w.cell? ⟨g,o+i * 3+2,none⟩=some sv):=by
 obtain⟨a,cap,hv,h3,h4,h5⟩:=Seq.open h;refine⟨a,cap,hv,h3,h4,fun hn=>?_⟩;obtain⟨g,o,ha,hg,hc⟩:=h5 hn;refine⟨g,o,ha,hg,fun i r hr=>?_⟩;obtain⟨cs,_,⟨gv,sv,rfl,q1,q2⟩,q3⟩:=hc i r hr;exact⟨gv,sv,q1,q2,q3 0 _ rfl,q3 1 _ rfl,q3 2 _ rfl⟩
theorem zvz:prog.cellsOf 160=6:=by kernel_rfl
theorem zvy:prog.cellsOf 249=2:=by kernel_rfl
theorem zou:prog.cellsOf 217=3:=by kernel_rfl
theorem cellsProgram:prog.cellsOf 25=3:=by kernel_rfl
theorem yub:prog.cellsOf 9=1:=by kernel_rfl
theorem zhu:prog.cellsOf 68=1:=by kernel_rfl
theorem cellsSets:prog.cellsOf 215=1:=by kernel_rfl
theorem cellsVars:prog.cellsOf 22=1:=by kernel_rfl
theorem cellsRules:prog.cellsOf 23=1:=by kernel_rfl
theorem zmc(h:n<=maxLen):n<=9223372036854775807:=by unfold maxLen at h;omega
section
variable{H:Type}{enc:TypeId × Value->H}{w:World}{cs:List Value}{v:Value}{base:Nat}{d:DataW H}{ps:List MemPlace}
theorem rd_var(h:Rd enc prog w 160 cs):∃ x:VarD,cs=ynd x/\xfq x:=by
 obtain⟨h1,h2⟩:=ymb underlying160 h;rw[zvz]at h1
 match cs,h1 with
 | [a,b,c,d,e,f],_=>
  have g0:=h2 0 _ rfl;have g1:=h2 1 _ rfl;have g2:=h2 2 _ rfl;have g3:=h2 3 _ rfl;have g4:=h2 4 _ rfl;have g5:=h2 5 _ rfl;simp[zku,yub]at g0 g1 g2 g3 g4 g5;obtain⟨s,hs,hs'⟩:=zfl underlying9 g0;obtain⟨x1,e1,q1⟩:=yio underlying3 g1;obtain⟨x2,e2,q2⟩:=yio underlying3 g2;obtain⟨x3,e3,q3⟩:=yio underlying3 g3;obtain⟨x4,e4,q4⟩:=yio underlying3 g4;obtain⟨x5,e5,q5⟩:=yio underlying3 g5;simp at hs e1 e2 e3 e4 e5;exact⟨⟨s,x1,x2,x3,x4,x5⟩,by simp[ynd,hs,e1,e2,e3,e4,e5],zmc hs',q1,q2,q3,q4,q5⟩
theorem rd_set(h:Rd enc prog w 249 cs):∃ s:SetD,zof w cs s/\xin s:=by
 obtain⟨h1,h2⟩:=ymb underlying249 h;rw[zvy]at h1
 match cs,h1 with
 | [a,b],_=>
  have g0:=h2 0 _ rfl;have g1:=h2 1 _ rfl;simp[zku,zhu]at g0 g1;obtain⟨x1,e1,q1⟩:=yio underlying3 g0;obtain⟨v,l,e2,q2,q3⟩:=zyh g1;simp at e1 e2;exact⟨⟨x1,l⟩,⟨v,by simp[e1,e2],q2⟩,q1,q3⟩
theorem rd_rule(h:Rd enc prog w 217 cs):∃ r:RuleD,zcy w cs r/\zod r:=by
 obtain⟨h1,h2⟩:=ymb underlying217 h;rw[zou]at h1
 match cs,h1 with
 | [a,b,c],_=>
  have g0:=h2 0 _ rfl;have g1:=h2 1 _ rfl;have g2:=h2 2 _ rfl;simp[yub,zhu,cellsSets]at g0 g1 g2;obtain⟨s,hs,hs'⟩:=zfl underlying9 g0;obtain⟨gv,l,e2,q2,q3⟩:=zyh g1;obtain⟨sv,ss,e3,q4⟩:=ymy (R:=fun cs s=>zof w cs s/\xin s) underlying215 zvy (qhi 1) (fun cs h=>rd_set h) g2;simp at hs e2 e3;refine⟨⟨s,l,ss⟩,⟨gv,sv,by simp[hs,e2,e3],q2,q4.imp fun _ _ _ h=>h.1⟩,zmc hs',q3,fun x hx=>?_⟩;obtain⟨xs,_,h2⟩:=q4;obtain⟨i,hi⟩:=qao hx;exact(h2 i x hi).2
theorem rd_vars(h:Rd enc prog w 22 cs):∃ v l,cs=[v]/\yzr w v l/\∀ x∈l,xfq x:=by
 obtain⟨v,l,h1,h2⟩:=ymy (R:=fun cs x=>cs=ynd x/\xfq x) underlying22 zvz (qhi 5) (fun cs h=>rd_var h) h;refine⟨v,l,h1,ysr ynd (fun _=>rfl) om h2 (fun cs x h=>h.1),fun x hx=>?_⟩;obtain⟨xs,_,h3⟩:=h2;obtain⟨i,hi⟩:=qao hx;exact(h3 i x hi).2
theorem rd_rules(h:Rd enc prog w 23 cs):∃ v l,cs=[v]/\yty w v l/\∀ x∈l,zod x:=by
 obtain⟨v,l,h1,h2⟩:=ymy (R:=fun cs x=>zcy w cs x/\zod x) underlying23 zou (qhi 2) (fun cs h=>rd_rule h) h;refine⟨v,l,h1,h2.imp fun _ _ _ h=>h.1,fun x hx=>?_⟩;obtain⟨xs,_,h3⟩:=h2;obtain⟨i,hi⟩:=qao hx;exact(h3 i x hi).2
theorem open_program(hv:Value.okWide prog w .any base 25 v)(h:DataW.Trod enc prog w 0 (fun _=>true) true 25 v d ps):∃ p,zhm w v p/\yjt p:=by
 obtain⟨cs,rfl,hcs⟩:∃ cs,v=.agg cs/\cs.size=prog.cellsOf 25:=by
  unfold Value.okWide at hv;rw[underlying25]at hv;obtain⟨cs,h1,h2,_⟩:=hv;exact⟨cs,h1,h2⟩
 have hr:=xjd h;simp only[Value.cells]at hr;obtain⟨h1,h2⟩:=ymb underlying25 hr;rw[cellsProgram]at h1;obtain⟨cs⟩:=cs;simp only at h1 h2
 match cs,h1 with
 | [a,b,c],_=>
  have g0:=h2 0 _ rfl;have g1:=h2 1 _ rfl;have g2:=h2 2 _ rfl;simp[yub,cellsVars,cellsRules]at g0 g1 g2;obtain⟨s,hs,hs'⟩:=zfl underlying9 g0;obtain⟨vv,l,e2,q2,q3⟩:=rd_vars g1;obtain⟨rv,rr,e3,q4,q5⟩:=rd_rules g2;simp at hs e2 e3;exact⟨⟨s,l,rr⟩,⟨vv,rv,by simp[hs,e2,e3],q2,q4⟩,zmc hs',q3,q5⟩
end
end
section
open Go.RowKit
theorem zpf(v:Value)(l:List Tm)(k:Nat)(w:World)(hl:l.length<=1000)(hv:Hid (yit w v l))(_hk:k<=1000) :
  Calls prog 163 #[v,.int .i64 k] w fun e w'=>e=.returned (.int .i64 (ysx 1 k l))/\w=w':=by
 by_cases h:k < l.length
 .exact end_any_in v l k w hl hv h
 obtain⟨a,cap,rfl,h1,h2,_⟩:=hv.out.open;have H:=Lib.hid (ynv 1 k l om om);go_enter Tryz.func163,ntmps163;go_wp2;go_ret;exact⟨yhb H.out.symm,rfl⟩
theorem xee(v:Value)(l:List Tm)(k:Nat)(w:World)(hl:l.length<=1000)(hv:Hid (yit w v l))(_hk:k<=1000) :
  Calls prog 257 #[v,.int .i64 k] w fun e w'=>e=.returned (.int .i64 (ysx 1 k l))/\w=w':=by
 by_cases h:k < l.length
 .exact rend_any_in v l k w hl hv h
 obtain⟨a,cap,rfl,h1,h2,_⟩:=hv.out.open;have H:=Lib.hid (ynv 1 k l om om);go_enter Tryz.func257,ntmps257;go_wp2;go_ret;exact⟨yhb H.out.symm,rfl⟩
theorem zlb(l:List Tm):ysx 1 0 l=l.length<->∃ E,yfy l=some E:=by
 rw[parse_iff];unfold ysx;rw[qfi];cases h:zsq 1 l with
 | none=>simp
 | some n=>simp;omega
theorem depth1_any(op:Int)(g:Nat)(w:World)(hg:g<=1000):Calls prog 213 #[.int .i64 op,.int .i64 g] w fun e w'=>e=.returned (.int .i64 (ytj op g:Nat))/\w=w':=by
 go_enter Tryz.func213,ntmps213;go_wp2;go_ret;exact⟨yhb (by unfold ytj;omega),rfl⟩
theorem nest1_any(op:Int)(g:Nat)(w:World)(hg:g<=1000):Calls prog 214 #[.int .i64 op,.int .i64 g] w fun e w'=>e=.returned (.int .i64 (zhb op g:Nat))/\w=w':=by
 cases ha:yja op
 all_goals
  go_enter Tryz.func214,ntmps214;go_wp2_with (go_at_call 215;refine(aggregate_any _ _).mono ?_;rintro e w' ⟨rfl,rfl⟩);go_ret;exact⟨yhb (by unfold zhb;rw[ha];simp),rfl⟩
theorem lev_bd(f:Int->Nat->Nat)(hf:∀ op g,f op g<=g+1)(l:List Tm):∀ x∈lev f l,x<=l.length:=by
 have hm:∀ (xs:List Nat) (b:Nat),(∀ x∈xs,x<=b)->ywc xs<=b:=by
  intro xs b;induction xs with
  | nil=>intro _;simp[ywc]
  | cons a xs ih=>
   intro h;have h1:=h a (qbe ..);have h2:=ih (fun x hx=>h x (qap _ hx));simp only[ywc];omega
 induction l with
 | nil=>intro x hx;simp[lev]at hx
 | cons t l ih=>
  intro x hx;simp only[lev]at hx;cases hx with
  | head=>
   have h1:=hm ((lev f l).take (ar t.1).toNat) l.length (fun x hx=>ih x (qcv hx));have h2:=hf t.1 (ywc ((lev f l).take (ar t.1).toNat));simp only[qaj];omega
  | tail _ hx=>have:=ih x (qdn hx);simp only[qaj];omega
theorem lev_len(f:Int->Nat->Nat)(l:List Tm):(lev f l).length<=l.length:=by
 induction l with
 | nil=>simp[lev]
 | cons t l ih=>simp only[lev,qaj,qdj];omega
theorem zep(xs ys:List Nat):ywc (xs++ys)=max (ywc xs) (ywc ys):=by
 induction xs with
 | nil=>simp[ywc]
 | cons a xs ih=>simp only[qbb,ywc,ih];omega
theorem maxl_reverse(xs:List Nat):ywc xs.reverse=ywc xs:=by
 induction xs with
 | nil=>rfl
 | cons a xs ih=>rw[List.reverse_cons,zep,ih];simp only[ywc];omega
theorem maxl_take_succ(xs:List Nat)(q:Nat)(x:Nat)(h:xs[q]?=some x):ywc (xs.take (q+1))=max (ywc (xs.take q)) x:=by
 obtain⟨h1,h2⟩:=qaa.1 h;rw[qcp h1,zep,h2];simp[ywc]
def yea(xs:List Nat):List Value:=xs.map fun(n:Nat)=>Value.int .i64 n
theorem yqs(xs:List Nat)(i x:Nat)(h:xs[i]?=some x):(yea xs)[i]?=some (.int .i64 x):=by unfold yea;rw[qak,h];rfl
theorem yik(xs:List Nat):(yea xs).length=xs.length:=by simp[yea]
theorem yfa(xs ys:List Nat):yea (xs++ys)=yea xs++yea ys:=by simp[yea]
theorem zmk{cap m:Nat}{a:Option Addr}{ys:List Value}(hm:ys.length=m)(h:w.ownsRow B e 1 (.slice a n cap) n (ys++xs)):w.ownsRow B e 1 (.slice a m cap) m ys:=by
 obtain⟨h1,h2⟩:=h;refine⟨om,?_⟩;rw[qan]at h1;rcases h2 with⟨h0,h3⟩|⟨g',cap',cur,hv,hg,hh,hn,hcap,hsz,htake⟩
 .cases h0;exact .inl ⟨by rw[show m=0 by omega],om⟩
 cases hv;refine .inr ⟨g',cap,cur,rfl,hg,hh,om,hcap,hsz,?_⟩;have h4:=congrArg (List.take m) htake;rw[List.take_take,qfw om,<- hm,qei (qbf _),qaw]at h4;rw[qgv,<- hm];exact h4
theorem slice_tail(ht:P.underlying t=some (.slice (P.elem t)))(hs:∀ w,(sizeOf (P.elem t)).run P w=.ok 1 w)(a:Option Addr)(n cap r m:Nat)(i:Int)(hi:i=r)(h:m+r=n)(hc:n<=cap):
  ∃ sb capb,(∀ w,(Instr.slice t (.slice a n cap) (some (.int .i64 i)) none none).run P w=.ok (.slice sb m capb) w)/\m<=capb/\capb<=cap/\(∀ g o,a=some ⟨g,o,none⟩->0 < m->sb=some ⟨g,o+r,none⟩):=by
 subst hi;refine⟨if cap=r then a else a.map (·.add (r * 1)),cap - r,fun w=>?_,om,om,fun g o ha hr=>?_⟩
 .rw [run_slice_l w t a n cap ht .i64 r om om,hs];show Result.ok (sliced a r n cap 1) w=_;unfold sliced;rw[show n - r=m by omega]
 rw[if_neg om,ha];simp only[qav,qgv,Addr.add];split
 .simp_all
 rfl
theorem yzf(ht:P.underlying t=some (.slice (P.elem t)))(hs:∀ w,(sizeOf (P.elem t)).run P w=.ok 1 w)(a:Option Addr)(n cap r:Nat)(i:Int)(hi:i=r)(h:r<=cap):
  ∀ w,(Instr.slice t (.slice a n cap) none (some (.int .i64 i)) none).run P w=.ok (.slice a r cap) w:=by
 subst hi;intro w;rw[run_slice_h w t a n cap ht .i64 r om om,hs];show Result.ok (sliced a 0 r cap 1) w=_;unfold sliced;by_cases h0:cap=0
 .rw [if_pos h0];rfl
 rw[if_neg h0];cases a <;> simp[Addr.add]
theorem own_first{x:Value}(h:w.ownsRow B e 1 v 1 [x]):∃ g cap,v=.slice (some ⟨g,0,none⟩) 1 cap/\1<=cap/\cap<=9223372036854775807/\w.cell? ⟨g,0,none⟩=some x:=by
 have h5:=h;obtain⟨h1,h2⟩:=h;rcases h2 with⟨h0,h3⟩|⟨g,cap,cur,rfl,hg,hh,hn,hcap,hsz,htake⟩
 .omega
 unfold maxLen at hcap;have hc:=h5.cells (g:=g) rfl 0 x rfl;exact⟨g,cap,rfl,hn,om,by simpa[Addr.add]using hc⟩
theorem yod{cap:Nat}{a:Option Addr}(h:w.ownsRow B e 1 (.slice a n cap) n xs):n<=cap/\cap<=9223372036854775807/\(0 < n->∃ g,a=some ⟨g,0,none⟩/\∀ j u,xs[j]?=some u->w.cell? ⟨g,j,none⟩=some u):=by
 obtain⟨a',cap',hv,h1,h2,h3,h4⟩:=(row_of_own h).open;cases hv;refine⟨h1,h2,fun hn=>?_⟩;rcases h.2 with⟨h0,h5⟩|⟨g,cap,cur,hv,hg,hh,hn',hcap,hsz,htake⟩
 .omega
 cases hv;refine⟨g,rfl,fun j u hu=>?_⟩;have hc:=h.cells (g:=g) rfl j u hu;have h0:(⟨g,0,none⟩:Addr).add j=⟨g,j,none⟩:=by unfold Addr.add;split <;> simp_all
 rw[h0]at hc;exact hc
theorem zqg(f:Int->Nat->Nat)(l:List Tm)(E:Ex)(hf:yfd l=some [E])(j:Nat)(hj:j < l.length) :
  0<=ar l[j].1/\∃ lo seg:List Nat,(lev f (l.drop (j+1))).reverse=lo++seg/\(seg.length:Int)=ar l[j].1/\(lev f (l.drop j)).reverse=lo++[f l[j].1 (ywc seg)]:=by
 obtain⟨G',hG'⟩:=forest_suffix l j _ hf;rw[qbl hj]at hG';obtain⟨G,hG,h0,hle,_⟩:=yvn _ _ _ hG';have hlen:(lev f (l.drop (j+1))).length=G.length:=by rw[ziw f _ G hG,qai]
 refine⟨h0,((lev f (l.drop (j+1))).drop (ar l[j].1).toNat).reverse,((lev f (l.drop (j+1))).take (ar l[j].1).toNat).reverse,?_,?_,?_⟩
 .rw [<- List.reverse_append,qcd]
 .rw [qgi,qcj,hlen];omega
 rw[qbl hj];simp only[lev,List.reverse_cons,maxl_reverse]
theorem xcx:(prog.info? 3).map (fun i=>(i.zero,i.size,i.bytes))=some (some (.int .i64 0),1,8):=by kernel_rfl
theorem zuo(w:World):(sizeOf (prog.elem 26)).run prog w=.ok 1 w:=by kernel_rfl
theorem zgj:prog.underlying 26=some (.slice (prog.elem 26)):=by kernel_rfl
set_option maxHeartbeats 4000000 in
theorem zix(F:Nat)(hFF:F=213\/F=214)(f:Int->Nat->Nat)(hF:∀ op g w,g<=1000->Calls prog F #[.int .i64 op,.int .i64 (g:Nat)] w fun e w'=>e=.returned (.int .i64 (f op g:Nat))/\w=w')(hf:∀ op g,f op g<=g+1)(v:Value)(l:List Tm)(E:Ex)(w:World)(hl:l.length<=1000)(hv:Hid (yit w v l))(hp:Hid (yfy l=some E)) :
  Calls prog 212 #[v,.func (.func F) #[] #[]] w fun e w'=>e=.returned (.tuple #[.int .i64 (val f E:Nat),.bool true])/\Below w.heap.size w w':=by
 obtain⟨i0,hi,hz0,hz1,hz2⟩:=info_parts xcx;have Hi:=Lib.hid hi;have Hz0:=Lib.hid hz0;have Hz1:=Lib.hid hz1;have Hz2:=Lib.hid hz2;clear hi hz0 hz1 hz2;obtain⟨hok,hfl⟩:=yji hp.out;have HF:Hid (yfd l=some [E]):=by rw[<- hfl];have:=zdr E hok [] [] rfl;rw[qba]at this;exact this
 have hpos:0 < l.length:=by rw[<- hfl];exact E.fl_pos
 have HE:=Lib.hid ((zlb l).2 ⟨E,hp.out⟩);have hne:(ysx 1 0 l != (l.length:Int))=false:=by rw[HE.out];simp
 clear hok hfl;obtain⟨a0,cap0,rfl,h1,h2,h3⟩:=hv.out.open;obtain⟨g0,o0,rfl,hg0,hc⟩:=h3 hpos;have HC:=Lib.hid hc;clear h3 hc;go_enter Tryz.func212,ntmps212;go_wp2_with (go_at_call 163;refine(zpf _ l 0 _ hl hv om).mono ?_;rintro e w' ⟨rfl,rfl⟩);go_loopg [6,7,8,9,11] l.length (fun m st i _ _ _ wr=>m<=l.length/\i=.int .i64 ((m:Int) - 1)/\wr.ownsRow w.heap.size 3 1 st (lev f (l.drop m)).length (yea (lev f (l.drop m)).reverse)/\Below w.heap.size w wr);case atStart=>
  refine⟨qbf _,rfl,?_,Below.refl _ _⟩
  rw[qcb];exact World.ownsRow_nil _ _ _ _
 case round=>
  obtain⟨hm,rfl,hown,hbel⟩:=hrel
  by_cases h0:gk=0
  .subst h0
   rw[qfi,ziw f l [E] HF.out]at hown
   obtain⟨g,cap,rfl,hc1,hc2,hcell⟩:=own_first hown
   go_wp2_with fail
   go_ret2
   exact⟨rfl,hbel⟩
  obtain⟨j,rfl⟩:∃ j,gk=j+1:=⟨gk - 1,om⟩
  have hj:j < l.length:=by omega
  obtain⟨ha0,lo,seg,hr1,hr2,hr3⟩:=zqg f l E HF.out j hj
  have hlen:(lev f (l.drop (j+1))).length=lo.length+seg.length:=by rw[<- qgi,hr1,qan]
  have hsegb:ywc seg<=1000:=by
   have h1:=lev_bd f hf (l.drop (j+1));have h2:∀ (xs:List Nat) (b:Nat),(∀ x∈xs,x<=b)->ywc xs<=b:=by
    intro xs b;induction xs with
    | nil=>intro _;simp[ywc]
    | cons a xs ih=>
     intro h;have h1:=h a (qbe ..);have h2:=ih (fun x hx=>h x (qap _ hx));simp only[ywc];omega
   refine qbp (h2 seg (l.drop (j+1)).length fun x hx=>h1 x ?_) (by rw[qdj];omega);rw[<- List.mem_reverse,hr1];exact qfy _ hx
  have e1:((j+1:Nat):Int) - 1=j:=by omega
  rw[e1]
  rw[hr1,hlen]at hown
  have H3:=Lib.hid hr3
  obtain⟨sa,scap,rfl⟩:=yqw hown
  obtain⟨hn1,hn2,hn3⟩:=yod hown
  obtain⟨sb,capb,hsl,hb1,hb2,hb3⟩:=slice_tail zgj zuo sa (lo.length+seg.length) scap lo.length seg.length (((lo.length+seg.length:Nat):Int) - ar l[j].1) om om hn1
  have hsl2:=yzf zgj zuo sa (lo.length+seg.length) scap lo.length (((lo.length+seg.length:Nat):Int) - ar l[j].1) om om
  obtain⟨c0,c1⟩:=HC.out j _ (qae hj)
  rw[<- hbel.cell (p:=⟨g0,_,none⟩) hg0]at c0 c1
  have HR2:=Lib.hid hr2
  have hra:ar l[j].1<=((lo.length+seg.length:Nat):Int):=by omega
  have hlo:lo.length+seg.length<=1000:=by have h1:=lev_len f (l.drop (j+1));rw[qdj]at h1;omega
  have hnpos:(0 < seg.length->0 < lo.length+seg.length):=by omega
  have hlo2:lo.length<=scap:=by omega
  have hlo3:lo.length<=1000:=by omega
  generalize hN:lo.length+seg.length=n at *
  have HN:=Lib.hid hN
  clear hN
  clear hr1 hr2 hr3 hlen e1 h0
  go_wp2_with (go_at_call 211;refine(yvc _ _).mono ?_;rintro e w' ⟨rfl,rfl⟩)
  go_loop [9,11,37] (fun gr _ q=>∃ k:Nat,k<=seg.length/\q=.int .i64 k/\gr=.int .i64 (ywc (seg.take k):Nat)) (fun _ _ q=>seg.length - (intOf q).toNat)
  case atStart=>exact⟨0,om,rfl,rfl⟩
  case round=>
   obtain⟨k,hk,rfl,rfl⟩:=hrel
   by_cases hq:k < seg.length
   .obtain ⟨g,rfl,hcs⟩:=hn3 (by have:=HN.out;omega)
    obtain rfl:=hb3 g 0 rfl om
    obtain⟨x,hx⟩:∃ x,seg[k]?=some x:=⟨seg[k],qae hq⟩
    have hcell:=hcs (lo.length+k) _ (yqs (lo++seg) (lo.length+k) x (by rw[qah om,qft];exact hx))
    have HM:=Lib.hid (maxl_take_succ seg k x hx)
    clear hcs hx
    simp only[qay]
    generalize ywc (seg.take k)=mk at *
    go_wp2_with fail
    refine⟨⟨k+1,om,by go_num,?_⟩,by simp[intOf];omega⟩
    rw[HM.out]
    congr 1
    split <;> omega
   obtain rfl:k=seg.length:=by omega
   rw[qaw]
   go_wp2_with fail
   have hown':wr.ownsRow w.heap.size 3 1 (.slice sa lo.length scap) lo.length (yea lo):=zmk (yik lo) (by rw[yfa]at hown;exact hown)
   rcases hFF with rfl|rfl
   all_goals
    go_region_law (first|(go_simp;refine(hF _ _ _ hsegb).mono ?_;rintro e w' ⟨rfl,rfl⟩;dsimp only)|(refine step_append_lies _ rfl (.tmp 47) (.tmp 56) 26 rfl w.heap.size 3 i0 (.int .i64 0) 1 8 underlying26 Hi.out Hz0.out Hz1.out Hz2.out rfl dc _ _ _ rfl (by exact yin hown' (by repeat (first|exact Below.refl _ _|apply Below.drew|refine Below.alloc ?_ sm _))) ⟨wr.heap.size,0,none⟩ 1 1 [.int .i64 (f l[j].1 (ywc seg):Nat)] rfl rfl (by exact zeu _ _ _ _ sm) (by simp[Value.oneCell']) dc (by unfold maxLen;omega) om (by have:=hbel.size;simp;omega) _ rfl ?_;intro g2 cap2 w2 hown2 hgrow2 _ _))
    have HO:w2.ownsRow w.heap.size 3 1 (.slice (some ⟨g2,0,none⟩) (lo.length+1) cap2) (lev f (l.drop j)).length (yea (lev f (l.drop j)).reverse):=by
     have e5:=congrArg List.length H3.out;rw[qgi,qan]at e5;rw[e5,H3.out,yfa];exact hown2
    have HB:Below w.heap.size w w2:=Below.grown (by repeat (first|exact hbel|apply Below.drew|refine Below.alloc ?_ (by have:=hbel.size;simp;omega) _)) hgrow2 (by have:=hbel.size;simp;omega) (zye hown')
    clear hown2 hgrow2 hown'
    go_wp2_with fail
    go_roundg j
    case measure=>omega
    case rel=>exact⟨om,by go_num,HO,HB⟩
theorem levels_depth(v:Value)(l:List Tm)(E:Ex)(w:World)(hl:l.length<=1000)(hv:Hid (yit w v l))(hp:Hid (yfy l=some E)) :
  Calls prog 212 #[v,.func (.func 213) #[] #[]] w fun e w'=>e=.returned (.tuple #[.int .i64 (val ytj E:Nat),.bool true])/\Below w.heap.size w w':=zix _ (.inl rfl) _ depth1_any (by intro op g;simp[ytj]) v l E w hl hv hp
theorem levels_nest(v:Value)(l:List Tm)(E:Ex)(w:World)(hl:l.length<=1000)(hv:Hid (yit w v l))(hp:Hid (yfy l=some E)) :
  Calls prog 212 #[v,.func (.func 214) #[] #[]] w fun e w'=>e=.returned (.tuple #[.int .i64 (val zhb E:Nat),.bool true])/\Below w.heap.size w w':=zix _ (.inr rfl) _ nest1_any (by intro op g;simp only[zhb];split <;> omega) v l E w hl hv hp
theorem zeg(v fv:Value)(l:List Tm)(w:World)(hl:l.length<=1000)(hv:Hid (yit w v l))(hp:Hid (yfy l=none)) :
  Calls prog 212 #[v,fv] w fun e w'=>e=.returned (.tuple #[.int .i64 0,.bool false])/\w=w':=by
 have hne:(ysx 1 0 l != (l.length:Int))=true:=by
  rw[bne_iff_ne];intro h;obtain⟨E,hE⟩:=(zlb l).1 h;rw[hp.out]at hE;cases hE
 obtain⟨a0,cap0,rfl,h1,h2,h3⟩:=hv.out.open;clear h3;go_enter Tryz.func212,ntmps212;go_wp2_with (go_at_call 163;refine(zpf _ l 0 _ hl hv om).mono ?_;rintro e w' ⟨rfl,rfl⟩);go_ret2;exact⟨rfl,rfl⟩
def yzy(l:List Tm):Nat:=match yfy l with|none=>0|some E=>E.dp
def ztz(l:List Tm):Nat:=match yfy l with|none=>0|some E=>E.ns
theorem depth_any(v:Value)(l:List Tm)(w:World)(hl:l.length<=1000)(hv:Hid (yit w v l)) :
  Calls prog 165 #[v] w fun e w'=>e=.returned (.int .i64 (yzy l))/\Below w.heap.size w w':=by
 cases hp:yfy l with
 | none=>
  have H:Hid (yzy l=0):=by unfold yzy;rw[hp];rfl
  have HP:=Lib.hid hp;clear hp;go_enter Tryz.func165,ntmps165;go_wp2_with (go_at_call 212;refine(zeg _ _ l _ hl hv HP).mono ?_;rintro e w' ⟨rfl,rfl⟩);go_ret;exact⟨yhb (by rw[H.out];rfl),Below.refl _ _⟩
 | some E=>
  have H:Hid (yzy l=val ytj E):=by unfold yzy;rw[hp,val_depth];rfl
  have HP:=Lib.hid hp;clear hp;go_enter Tryz.func165,ntmps165;go_wp2_with (go_at_call 212;refine(levels_depth _ l E _ hl hv HP).mono ?_;rintro e w' ⟨rfl,hb⟩);go_ret;exact⟨yhb (by rw[H.out]),hb⟩
theorem nest_any(v:Value)(l:List Tm)(w:World)(hl:l.length<=1000)(hv:Hid (yit w v l)) :
  Calls prog 166 #[v] w fun e w'=>e=.returned (.int .i64 (ztz l))/\Below w.heap.size w w':=by
 cases hp:yfy l with
 | none=>
  have H:Hid (ztz l=0):=by unfold ztz;rw[hp];rfl
  have HP:=Lib.hid hp;clear hp;go_enter Tryz.func166,ntmps166;go_wp2_with (go_at_call 212;refine(zeg _ _ l _ hl hv HP).mono ?_;rintro e w' ⟨rfl,rfl⟩);go_ret;exact⟨yhb (by rw[H.out];rfl),Below.refl _ _⟩
 | some E=>
  have H:Hid (ztz l=val zhb E):=by unfold ztz;rw[hp,val_nest E (yji hp).1];rfl
  have HP:=Lib.hid hp;clear hp;go_enter Tryz.func166,ntmps166;go_wp2_with (go_at_call 212;refine(levels_nest _ l E _ hl hv HP).mono ?_;rintro e w' ⟨rfl,hb⟩);go_ret;exact⟨yhb (by rw[H.out]),hb⟩
end
end Go.Proofs.YtgpodcjhgdionaaGreatDoor
