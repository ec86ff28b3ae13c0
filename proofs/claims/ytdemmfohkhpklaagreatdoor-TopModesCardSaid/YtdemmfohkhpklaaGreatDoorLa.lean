/- The plain law: the ciphers, the modes, the contexts of both sides are one. -/
import Derived.Test.YtdemmfohkhpklaaGreatDoorXp
import Derived.Test.YtdemmfohkhpklaaGreatDoorFp
set_option linter.unusedVariables false
set_option linter.unusedSimpArgs false
set_option linter.unnecessarySimpa false
set_option linter.unusedSectionVars false
namespace Go.Scr.S
theorem iR (n:Nat):U8 (n:Int)=((n%256:Nat):Int):=by simp [U8,IntKind.wrap,IntKind.bits,IntKind.signed]
theorem kI (n:Nat):fv (n:Int)=((n%4294967296:Nat):Int):=by simp [fv,IntKind.wrap,IntKind.bits,IntKind.signed]
theorem po (n:Nat):kX (n:Int)=((n%18446744073709551616:Nat):Int):=by simp [kX,IntKind.wrap,IntKind.bits,IntKind.signed]
theorem Gn {x:Int} (h0:0≤x) (h1:x<256):U8 x=x:=by simp [U8,IntKind.wrap,IntKind.bits,IntKind.signed];omega
theorem MQ {x:Int} (h0:0≤x) (h1:x<4294967296):fv x=x:=by simp [fv,IntKind.wrap,IntKind.bits,IntKind.signed];omega
theorem lR {x:Int} (h0:0≤x) (h1:x<18446744073709551616):kX x=x:=by simp [kX,IntKind.wrap,IntKind.bits,IntKind.signed];omega
theorem cA {x:Int} (h0: -9223372036854775808≤x) (h1:x<9223372036854775808):ak x=x:=by
 simp only [ak,IntKind.wrap,IntKind.bits,IntKind.signed,Bool.true_and];split<;>simp at* <;>omega
theorem au {n:Nat} (h1:n<9223372036854775808):ak (n:Int)=n:=cA (by omega) (by omega)
theorem Gp {k:IntKind} {a b:Nat} (ha:a<2^k.bits) (hb:b<2^k.bits):aK k (a:Int) (b:Int)=k.wrap ((a ^^^ b:Nat):Int):=by
 unfold aK;congr 2
 rw [BitVec.toNat_xor,BitVec.ofInt_natCast,BitVec.ofInt_natCast,BitVec.toNat_ofNat,BitVec.toNat_ofNat,Nat.mod_eq_of_lt ha,Nat.mod_eq_of_lt hb]
theorem Gq {k:IntKind} {a b:Nat} (ha:a<2^k.bits) (hb:b<2^k.bits):iT k (a:Int) (b:Int)=k.wrap ((a &&& b:Nat):Int):=by
 unfold iT;congr 2
 rw [BitVec.toNat_and,BitVec.ofInt_natCast,BitVec.ofInt_natCast,BitVec.toNat_ofNat,BitVec.toNat_ofNat,Nat.mod_eq_of_lt ha,Nat.mod_eq_of_lt hb]
theorem BY {k:IntKind} {a b:Nat} (ha:a<2^k.bits) (hb:b<2^k.bits):rm k (a:Int) (b:Int)=k.wrap ((a ||| b:Nat):Int):=by
 unfold rm;congr 2
 rw [BitVec.toNat_or,BitVec.ofInt_natCast,BitVec.ofInt_natCast,BitVec.toNat_ofNat,BitVec.toNat_ofNat,Nat.mod_eq_of_lt ha,Nat.mod_eq_of_lt hb]
theorem BZ {a b:Nat} (ha:a<256) (hb:b<256):aK .u8 (a:Int) (b:Int)=((a ^^^ b:Nat):Int):=by
 rw [Gp (by simpa [IntKind.bits] using ha) (by simpa [IntKind.bits] using hb)]
 exact (iR _).trans (by rw [Nat.mod_eq_of_lt (Nat.xor_lt_two_pow (n:=8) ha hb)])
theorem nt {a b:Nat} (ha:a<4294967296) (hb:b<4294967296):aK .u32 (a:Int) (b:Int)=((a ^^^ b:Nat):Int):=by
 rw [Gp (by simpa [IntKind.bits] using ha) (by simpa [IntKind.bits] using hb)]
 exact (kI _).trans (by rw [Nat.mod_eq_of_lt (Nat.xor_lt_two_pow (n:=32) ha hb)])
theorem Qi {a b:Nat} (ha:a<9223372036854775808) (hb:b<9223372036854775808):aK .i64 (a:Int) (b:Int)=((a ^^^ b:Nat):Int):=by
 rw [Gp (by simp [IntKind.bits];omega) (by simp [IntKind.bits];omega)]
 exact au (Nat.xor_lt_two_pow (n:=63) ha hb)
theorem Qj {a b:Nat} (ha:a<9223372036854775808) (hb:b<9223372036854775808):iT .i64 (a:Int) (b:Int)=((a &&& b:Nat):Int):=by
 rw [Gq (by simp [IntKind.bits];omega) (by simp [IntKind.bits];omega)]
 exact au (Nat.lt_of_le_of_lt Nat.and_le_left ha)
theorem RQ {a b:Nat} (ha:a<256) (hb:b<256):iT .u8 (a:Int) (b:Int)=((a &&& b:Nat):Int):=by
 rw [Gq (by simpa [IntKind.bits] using ha) (by simpa [IntKind.bits] using hb)]
 exact (iR _).trans (by rw [Nat.mod_eq_of_lt (Nat.lt_of_le_of_lt Nat.and_le_left ha)])
theorem RR {a b:Nat} (ha:a<256) (hb:b<256):rm .u8 (a:Int) (b:Int)=((a ||| b:Nat):Int):=by
 rw [BY (by simpa [IntKind.bits] using ha) (by simpa [IntKind.bits] using hb)]
 exact (iR _).trans (by rw [Nat.mod_eq_of_lt (Nat.or_lt_two_pow (n:=8) ha hb)])
theorem I7 {a b:Nat} (ha:a<4294967296) (hb:b<4294967296):rm .u32 (a:Int) (b:Int)=((a ||| b:Nat):Int):=by
 rw [BY (by simpa [IntKind.bits] using ha) (by simpa [IntKind.bits] using hb)]
 exact (kI _).trans (by rw [Nat.mod_eq_of_lt (Nat.or_lt_two_pow (n:=32) ha hb)])
theorem Ql {a b:Nat} (ha:a<18446744073709551616) (hb:b<18446744073709551616):rm .u64 (a:Int) (b:Int)=((a ||| b:Nat):Int):=by
 rw [BY (by simpa [IntKind.bits] using ha) (by simpa [IntKind.bits] using hb)]
 exact (po _).trans (by rw [Nat.mod_eq_of_lt (Nat.or_lt_two_pow (n:=64) ha hb)])
theorem gW (a n:Nat):shr (a:Int) n=((a >>> n:Nat):Int):=by
 unfold shr;rw [Int.fdiv_eq_ediv_of_nonneg _ (Int.le_of_lt (Int.pow_pos (by decide)))];simp [Nat.shiftRight_eq_div_pow]
theorem tO (k:IntKind) (a n:Nat):shl k (a:Int) n=k.wrap ((a <<< n:Nat):Int):=by
 unfold shl;congr 1;simp [Nat.shiftLeft_eq]
theorem Gr {a n:Nat} (h:a <<< n<9223372036854775808):shl .i64 (a:Int) n=((a <<< n:Nat):Int):=(tO _ _ _).trans (au h)
theorem I8 (a n:Nat):shl .u8 (a:Int) n=(((a <<< n)%256:Nat):Int):=(tO _ _ _).trans (iR _)
theorem yT (a n:Nat):shl .u32 (a:Int) n=(((a <<< n)%4294967296:Nat):Int):=(tO _ _ _).trans (kI _)
theorem K5 (a n:Nat):shl .u64 (a:Int) n=(((a <<< n)%18446744073709551616:Nat):Int):=(tO _ _ _).trans (po _)
theorem Qm {x:Int} (h:In .u8 x): ∃n:Nat,n<256∧x=n:=by obtain ⟨h0,h1⟩:=h;exact ⟨x.toNat,by omega,by omega⟩
theorem Gs (a n:Int) (h:0<n):(if a.tmod n<0 then a.tmod n+n else a.tmod n)=a%n:=by
 have h1:=Int.emod_nonneg a (Int.ne_of_gt h)
 have h2:=Int.emod_lt_of_pos a h
 have h3:=Int.tmod_eq_emod (a:=a) (b:=n)
 rw [h3]
 split at* <;>split<;>omega
def il (l:List Nat):List Int:=l.map (fun n:Nat=>(n:Int))
theorem ag (l:List Nat):(il l).length=l.length:=by simp [il]
theorem bf (l:List Nat) (i:Nat):rd (il l) (i:Int)=((l.getD i 0:Nat):Int):=by
 unfold rd il;rw [Int.toNat_natCast,List.getD_eq_getElem?_getD,List.getElem?_map,List.getD_eq_getElem?_getD]
 cases l[i]? <;>rfl
theorem dN {l:List Nat} (hl: ∀x∈l,x<256) (i:Nat):l.getD i 0<256:=by
 rw [List.getD_eq_getElem?_getD]
 cases e:l[i]? with
 | none=>decide
 | some x=>exact hl x (List.mem_of_getElem? e)
theorem Gt {l:List Int} (h: ∀x∈l,In .u8 x): ∃m:List Nat,l=il m∧ ∀x∈m,x<256:=by
 induction l with
 | nil=>exact ⟨[],rfl,by simp⟩
 | cons b l ih=>
  obtain ⟨m,e,hm⟩:=ih (fun x hx=>h x (by simp [hx]))
  obtain ⟨n,hn,en⟩:=Qm (h b (by simp))
  exact ⟨n::m,by rw [en,e];rfl,by intro x hx;rcases List.mem_cons.1 hx with rfl | hx;exact hn;exact hm x hx⟩
theorem kw (l:List Nat) (i v:Nat):(il l).set i (v:Int)=il (l.set i v):=by simp [il,List.map_set]
theorem kJ (n:Nat):List.replicate n (0:Int)=il (List.replicate n 0):=by simp [il]
def fill (n:Nat) (F:Nat→Int):List Int:=(List.range n).map F
def Fl (F:Nat→Int) (n i:Nat) (x:List Int):Prop:=x.length=n∧ ∀j,j<i→x[j]? =some (F j)
theorem Fl.zero {F:Nat→Int} {n:Nat} {x:List Int} (h:x.length=n):Fl F n 0 x:=⟨h,fun j hj=>absurd hj (Nat.not_lt_zero j)⟩
theorem Fl.set {F:Nat→Int} {n i:Nat} {x:List Int} (h:Fl F n i x) (hi:i<n) {v:Int} (hv:v=F i):Fl F n (i+1) (x.set i v):=by
 refine ⟨by rw [List.length_set];exact h.1,fun j hj=> ?_⟩
 rw [List.getElem?_set]
 by_cases e:i=j
 ·subst e;rw [if_pos rfl,if_pos (by rw [h.1];exact hi),hv]
 ·rw [if_neg e];exact h.2 j (by omega)
theorem Fl.done {F:Nat→Int} {n:Nat} {x:List Int} (h:Fl F n n x):x=fill n F:=by
 refine List.ext_getElem? fun j=> ?_
 unfold fill
 by_cases e:j<n
 ·rw [h.2 j e,List.getElem?_map,List.getElem?_range e];rfl
 ·rw [List.getElem?_eq_none (by rw [h.1];omega),List.getElem?_eq_none (by simp;omega)]
theorem uQ {n:Nat} {F G:Nat→Int} (h: ∀i,i<n→F i=G i):fill n F=fill n G:=by
 unfold fill;refine List.map_congr_left fun i hi=>h i (by simpa using hi)
theorem nR (n:Nat) (F:Nat→Nat):il ((List.range n).map F)=fill n (fun j=>((F j:Nat):Int)):=by simp [il,fill]
def xo (a b:List Int) (j:Nat):Int:=aK .u8 (rd a (j:Int)) (rd b (j:Int))
theorem MR {a b:List Int} (h:a.length=b.length) (hl:a.length<1000000000) (d:Nat) {k i:Nat} {x:List Int} (hi:i+d=a.length) (hk:d<k) (hx:Fl (xo a b) a.length i x):
 bw.l0 k a b x (i:Int)=some (fill a.length (xo a b),true):=by
 induction d generalizing k i x with
 | zero=>
  obtain ⟨k,rfl⟩: ∃j,k=j+1:=⟨k-1,by omega⟩
  have:i=a.length:=by omega
  subst this
  simp only [bw.l0,gd]
  rw [if_neg (by simp),hx.done]
 | succ d ih=>
  obtain ⟨k,rfl⟩: ∃j,k=j+1:=⟨k-1,by omega⟩
  have c1:decide ((i:Int)<(a.length:Int))=true:=by rw [decide_eq_true_eq];omega
  have c2:decide (0≤(i:Int))=true:=by rw [decide_eq_true_eq];omega
  have c3:decide ((i:Int)<(b.length:Int))=true:=by rw [decide_eq_true_eq];omega
  have c4:decide ((i:Int)<(x.length:Int))=true:=by rw [decide_eq_true_eq,hx.1];omega
  have e5:ak ((i:Int)+1)=((i+1:Nat):Int):=by rw [cA (by omega) (by omega)];simp
  simp only [bw.l0,c1,c2,c3,c4,if_true,e5,Int.toNat_natCast,gd]
  exact ih (by omega) (by omega) (hx.set (by omega) rfl)
theorem z7 {a b:List Int} {k:Nat} (h:a.length=b.length) (hl:a.length<1000000000) (hk:a.length<k):bw.f k a b=some (fill a.length (xo a b),true):=by
 unfold bw.f gd
 rw [if_neg (by simp [h]),if_pos (by simp),if_pos (by rw [decide_eq_true_eq];omega)]
 exact MR h hl a.length (i:=0) (by omega) hk (Fl.zero (by simp))
def lT (a b:List Nat):List Nat:=(List.range 16).map fun i=>a.getD i 0 ^^^ b.getD i 0
theorem qg (a b:List Nat):(lT a b).length=16:=by simp [lT]
theorem w7 {a b:List Nat} (ha: ∀x∈a,x<256) (hb: ∀x∈b,x<256): ∀x∈lT a b,x<256:=by
 intro x hx
 unfold lT at hx
 obtain ⟨i,_,rfl⟩:=List.mem_map.1 hx
 exact Nat.xor_lt_two_pow (n:=8) (dN ha i) (dN hb i)
theorem B3 {a b:List Nat} (ha: ∀x∈a,x<256) (hb: ∀x∈b,x<256):fill 16 (xo (il a) (il b))=il (lT a b):=by
 unfold lT
 rw [nR]
 refine uQ fun i hi=> ?_
 unfold xo
 rw [bf,bf,BZ (dN ha i) (dN hb i)]
theorem I9 {a b:List Int} (h:a.length=b.length) (hl:a.length<1000000000) (d:Nat) {k i:Nat} {x:List Int} (hi:i+d=a.length) (hk:d<k) (hx:Fl (xo a b) a.length i x):
 ar.l0 k a b x (i:Int)=some (fill a.length (xo a b)):=by
 induction d generalizing k i x with
 | zero=>
  obtain ⟨k,rfl⟩: ∃j,k=j+1:=⟨k-1,by omega⟩
  have:i=a.length:=by omega
  subst this
  simp only [ar.l0,gd]
  rw [if_neg (by simp),hx.done]
 | succ d ih=>
  obtain ⟨k,rfl⟩: ∃j,k=j+1:=⟨k-1,by omega⟩
  have c1:decide ((i:Int)<(a.length:Int))=true:=by rw [decide_eq_true_eq];omega
  have c2:decide (0≤(i:Int))=true:=by rw [decide_eq_true_eq];omega
  have c3:decide ((i:Int)<(b.length:Int))=true:=by rw [decide_eq_true_eq];omega
  have c4:decide ((i:Int)<(x.length:Int))=true:=by rw [decide_eq_true_eq,hx.1];omega
  have e5:ak ((i:Int)+1)=((i+1:Nat):Int):=by rw [cA (by omega) (by omega)];simp
  simp only [ar.l0,c1,c2,c3,c4,if_true,e5,Int.toNat_natCast,gd]
  exact ih (by omega) (by omega) (hx.set (by omega) rfl)
theorem B5 {a b:List Int} {k:Nat} (h:a.length=b.length) (hl:a.length<1000000000) (hk:a.length<k):ar.f k a b=some (fill a.length (xo a b)):=by
 (unfold ar.f;(try dsimp only [gd,gb,Option.bind_some]))
 rw [if_pos (by simp),if_pos (by rw [decide_eq_true_eq];omega)]
 exact I9 h hl a.length (i:=0) (by omega) hk (Fl.zero (by simp))
theorem oy {a b:List Nat} (h1:a.length=16) (h2:b.length=16) (ha: ∀x∈a,x<256) (hb: ∀x∈b,x<256) {k:Nat} (hk:20≤k):ar.f k (il a) (il b)=some (il (lT a b)):=by
 have l:(il a).length=16:=by rw [ag,h1]
 rw [B5 (by rw [ag,ag,h1,h2]) (by omega) (by omega),l,B3 ha hb]
theorem qO {a b:List Nat} (h1:a.length=16) (h2:b.length=16) (ha: ∀x∈a,x<256) (hb: ∀x∈b,x<256) {k:Nat} (hk:20≤k):bw.f k (il a) (il b)=some (il (lT a b),true):=by
 have l:(il a).length=16:=by rw [ag,h1]
 rw [z7 (by rw [ag,ag,h1,h2]) (by omega) (by omega),l,B3 ha hb]
end Go.Scr.S
namespace Go.Scr.S.Ds
def bt (m:List Nat) (p:Nat):Nat:=(m.getD ((p-1)/8) 0 >>> (7-(p-1)%8)) &&& 1
theorem kW (m:List Nat) (p:Nat):bt m p<2:=by unfold bt;rw [Nat.and_one_is_mod];omega
def zu (m:List Nat):List Nat→Nat→List Nat→List Nat
 | [],_,x=>x
 | p::t,i,x=>zu m t (i+1) (x.set (i/8) (x.getD (i/8) 0 ||| (bt m p <<< (7-i%8))))
def pm (m t:List Nat):List Nat:=zu m t 0 (List.replicate ((t.length+7)/8) 0)
theorem z9 (m t:List Nat): ∀i x,(zu m t i x).length=x.length:=by
 induction t with
 | nil=>intro i x;rfl
 | cons p t ih=>intro i x;rw [zu,ih,List.length_set]
theorem lZ (m t:List Nat):(pm m t).length=(t.length+7)/8:=by unfold pm;rw [z9,List.length_replicate]
theorem w8 {b s:Nat} (hb:b<2) (hs:s<8):b <<< s<256:=by
 rw [Nat.shiftLeft_eq]
 have:2^s≤2^7:=Nat.pow_le_pow_right (by decide) (by omega)
 have:b*2^s≤1*2^s:=Nat.mul_le_mul_right _ (by omega)
 omega
theorem MS (m t:List Nat): ∀i x,(∀v∈x,v<256)→ ∀v∈zu m t i x,v<256:=by
 induction t with
 | nil=>intro i x h;exact h
 | cons p t ih=>
  intro i x h
  refine ih _ _ fun v hv=> ?_
  rcases List.mem_or_eq_of_mem_set hv with hv | rfl
  ·exact h v hv
  ·exact Nat.or_lt_two_pow (n:=8) (dN h _) (w8 (kW _ _) (by omega))
theorem vT (m t:List Nat): ∀v∈pm m t,v<256:=MS m t _ _ fun v hv=>by rw [List.eq_of_mem_replicate hv];decide
theorem xa {m:List Nat} {p:Nat} (hm: ∀v∈m,v<256) (h1:1≤p) (h2:p≤8*m.length) (h3:m.length<1000):
 ak ((p:Int)-1)=((p-1:Nat):Int)∧ak (Int.tdiv ((p-1:Nat):Int) 8)=(((p-1)/8:Nat):Int)∧Int.tmod ((p-1:Nat):Int) 8=(((p-1)%8:Nat):Int)∧ak (7-(((p-1)%8:Nat):Int))=((7-(p-1)%8:Nat):Int)∧
 mM .u8 ((m.getD ((p-1)/8) 0:Nat):Int) ((7-(p-1)%8:Nat):Int)=((m.getD ((p-1)/8) 0 >>> (7-(p-1)%8):Nat):Int)∧iT .i64 (ak ((m.getD ((p-1)/8) 0 >>> (7-(p-1)%8):Nat):Int)) 1=((bt m p:Nat):Int):=by
 have hv:=dN hm ((p-1)/8)
 have hs:m.getD ((p-1)/8) 0 >>> (7-(p-1)%8)≤m.getD ((p-1)/8) 0:=by rw [Nat.shiftRight_eq_div_pow];exact Nat.div_le_self _ _
 refine ⟨?_,au (n:=(p-1)/8) (by omega),rfl,?_,?_,?_⟩
 ·rw [cA (by omega) (by omega)];omega
 ·rw [cA (by omega) (by omega)];omega
 ·unfold mM
  rw [Int.toNat_natCast,show min (7-(p-1)%8) (IntKind.bits .u8)=7-(p-1)%8 from Nat.min_eq_left (show _≤8 by omega),gW]
 ·rw [au (by omega)]
  exact Qj (by omega) (by decide)
theorem Gu {m:List Nat} {p k:Nat} (hm: ∀v∈m,v<256) (h1:1≤p) (h2:p≤8*m.length) (h3:m.length<1000):iY.f k (il m) (p:Int)=some ((bt m p:Nat):Int):=by
 obtain ⟨e1,e2,e3,e4,e5,e6⟩:=xa hm h1 h2 h3
 unfold iY.f gd
 rw [if_neg (by rw [decide_eq_true_eq];omega),e1,e2,Option.bind_some,if_neg (by rw [decide_eq_true_eq,ag];omega),if_pos (by rw [decide_eq_true_eq];omega),if_pos (by rw [decide_eq_true_eq,ag];omega),e3,e4,if_pos (by rw [decide_eq_true_eq];omega),bf,e5,Option.bind_some,e6]
theorem B7 {m:List Nat} {p k:Nat} (hm: ∀v∈m,v<256) (h1:1≤p) (h2:p≤8*m.length) (h3:m.length<1000):gy.f k (il m) (p:Int)=some ((bt m p:Nat):Int):=by
 obtain ⟨e1,e2,e3,e4,e5,e6⟩:=xa hm h1 h2 h3
 have e8:ak (8*((il m).length:Int))=((8*m.length:Nat):Int):=by rw [ag,cA (by omega) (by omega)];omega
 have e7:kX ((7-(p-1)%8:Nat):Int)=((7-(p-1)%8:Nat):Int):=by rw [po,Nat.mod_eq_of_lt (by omega)]
 unfold gy.f gd
 rw [if_neg (by rw [decide_eq_true_eq];omega),e8,if_neg (by rw [decide_eq_true_eq];omega),e1,e2,if_pos (by rw [decide_eq_true_eq];omega),if_pos (by rw [decide_eq_true_eq,ag];omega),e3,e4,e7,if_pos (by rw [decide_eq_true_eq];omega),bf,e5,Option.bind_some,e6]
def Pl (n:Nat) (t:List Nat):Prop:=t.length≤64∧ ∀p∈t,1≤p∧p≤8*n
theorem Gv {m x:List Nat} {p i:Nat} (hx: ∀v∈x,v<256) (hi:i<64):
 ak (Int.tdiv (i:Int) 8)=((i/8:Nat):Int)∧Int.tmod (i:Int) 8=((i%8:Nat):Int)∧ak (7-((i%8:Nat):Int))=((7-i%8:Nat):Int)∧rm .u8 ((x.getD (i/8) 0:Nat):Int) (((bt m p <<< (7-i%8):Nat):Int))=((x.getD (i/8) 0 ||| (bt m p <<< (7-i%8)):Nat):Int):=by
 refine ⟨au (n:=i/8) (by omega),rfl,?_,?_⟩
 ·rw [cA (by omega) (by omega)];omega
 ·exact RR (dN hx _) (w8 (kW _ _) (by omega))
section
variable {m t:List Nat} (hm: ∀v∈m,v<256) (hl:m.length<1000) (ht:Pl m.length t)
include hm hl ht
theorem B9 (d:Nat): ∀ {k i:Nat} {x:List Nat},i+d=t.length→(∀v∈x,v<256)→x.length=(t.length+7)/8→
 cJ.l0 (k+d+1) (il m) (il t) (il x) (i:Int)=some (il (zu m (t.drop i) i x),true)∧cd.l0 (k+d+1) (il m) (il t) (il x) (i:Int)=some (il (zu m (t.drop i) i x),true):=by
 have c0: ∀z:Nat,decide (0≤(z:Int))=true:=fun z=>by rw [decide_eq_true_eq];omega
 induction d with
 | zero=>
  intro k i x hi hx hlx
  have e:t.drop i=[]:=List.drop_of_length_le (by omega)
  rw [e]
  constructor
  ·rw [cJ.l0,if_neg (by rw [decide_eq_true_eq,ag];omega)];rfl
  ·rw [cd.l0,if_neg (by rw [decide_eq_true_eq,ag];omega)];rfl
 | succ d ih=>
  intro k i x hi hx hlx
  have h64:=ht.1
  have hit:i<t.length:=by omega
  have hp:t.getD i 0=t[i]:=by rw [List.getD_eq_getElem?_getD,List.getElem?_eq_getElem hit];rfl
  obtain ⟨p1,p2⟩:=ht.2 (t.getD i 0) (by rw [hp];exact List.getElem_mem hit)
  have ed:t.drop i=t.getD i 0::t.drop (i+1):=by rw [List.drop_eq_getElem_cons hit,hp]
  generalize t.getD i 0=p at hp p1 p2 ed
  have rp:rd (il t) (i:Int)=(p:Int):=by rw [bf,List.getD_eq_getElem?_getD,List.getElem?_eq_getElem hit,hp];rfl
  obtain ⟨e1,e2,_,_,_,_⟩:=xa hm p1 p2 hl
  obtain ⟨q1,q2,q3,q4⟩:=Gv (m:=m) (p:=p) hx (i:=i) (by omega)
  have a2:ak ((i:Int)+1)=((i+1:Nat):Int):=au (n:=i+1) (by omega)
  have c1:decide ((i:Int)<((il t).length:Int))=true:=by rw [decide_eq_true_eq,ag];omega
  have c2:decide (((i/8:Nat):Int)<((il x).length:Int))=true:=by rw [decide_eq_true_eq,ag,hlx];omega
  have c3:¬ decide ((p:Int)<1)=true:=by rw [decide_eq_true_eq];omega
  have sl:=w8 (kW m p) (by omega:7-i%8<8)
  have mn:min (7-i%8) 64=7-i%8:=by omega
  have mn8:min (7-i%8) 8=7-i%8:=by omega
  have hx': ∀v∈x.set (i/8) (x.getD (i/8) 0 ||| (bt m p <<< (7-i%8))),v<256:=fun v hv=>by
   rcases List.mem_or_eq_of_mem_set hv with hv | rfl
   ·exact hx v hv
   ·exact Nat.or_lt_two_pow (n:=8) (dN hx _) sl
  obtain ⟨x1,x2⟩:=ih (k:=k) (i:=i+1) (x:=x.set (i/8) (x.getD (i/8) 0 ||| (bt m p <<< (7-i%8)))) (by omega) hx' (by rw [List.length_set];exact hlx)
  rw [ed]
  constructor
  ·have s:U8 (lG .i64 ((bt m p:Nat):Int) ((7-i%8:Nat):Int))=((bt m p <<< (7-i%8):Nat):Int):=by
    unfold lG
    rw [Int.toNat_natCast,show min (7-i%8) (IntKind.bits .i64)=7-i%8 from mn,Gr (by omega),iR,Nat.mod_eq_of_lt sl]
   rw [show k+(d+1)+1=(k+d+1)+1 by omega,cJ.l0,if_pos c1];unfold gd
   rw [if_pos (c0 _),if_pos c1,rp,if_neg c3,if_pos (c0 _),if_pos c1,e1,e2,Option.bind_some,if_neg (by rw [decide_eq_true_eq,ag];omega),q1,if_pos (c0 _),if_pos c2,if_pos (c0 _),if_pos c1,Gu hm p1 p2 hl,Option.bind_some,q2,q3,if_pos (c0 _),bf,s,q4,Option.bind_some,if_pos (c0 _),if_pos c2,a2,Int.toNat_natCast,kw]
   exact x1
  ·have e8:ak (8*((il m).length:Int))=((8*m.length:Nat):Int):=by rw [ag,cA (by omega) (by omega)];omega
   have e7:kX ((7-i%8:Nat):Int)=((7-i%8:Nat):Int):=by rw [po,Nat.mod_eq_of_lt (by omega)]
   have s:lG .u8 1 ((7-i%8:Nat):Int)=((1 <<< (7-i%8):Nat):Int):=by
    unfold lG
    rw [Int.toNat_natCast,show min (7-i%8) (IntKind.bits .u8)=7-i%8 from mn8]
    refine (I8 1 (7-i%8)).trans ?_
    rw [Nat.mod_eq_of_lt (w8 (by decide:(1:Nat)<2) (by omega))]
   rw [show k+(d+1)+1=(k+d+1)+1 by omega,cd.l0,if_pos c1];unfold gd
   rw [if_pos (c0 _),if_pos c1,rp,if_neg c3,if_pos (c0 _),if_pos c1,e8,if_neg (by rw [decide_eq_true_eq];omega),if_pos (c0 _),if_pos c1,B7 hm p1 p2 hl,Option.bind_some]
   have b2:=kW m p
   have hb:bt m p=0∨bt m p=1:=by omega
   rcases hb with hb | hb
   ·rw [hb,if_neg (by decide),a2]
    rw [hb,Nat.zero_shiftLeft,Nat.or_zero] at x2
    rw [zu,hb,Nat.zero_shiftLeft,Nat.or_zero]
    have es:x.set (i/8) (x.getD (i/8) 0)=x:=by
     refine List.ext_getElem (by rw [List.length_set]) fun j h1 h2=> ?_
     rw [List.getElem_set]
     split
     ·next h=>subst h;rw [List.getD_eq_getElem?_getD,List.getElem?_eq_getElem h2];rfl
     ·rfl
    rw [es] at x2 ⊢
    exact x2
   ·rw [hb] at q4 x2
    rw [hb,if_pos (by decide),q1,if_pos (c0 _),if_pos c2,q2,q3,e7,if_pos (c0 _),bf,s,q4,Option.bind_some,if_pos (c0 _),if_pos c2,a2,Int.toNat_natCast,kw,zu,hb]
    exact x2
theorem rP {k:Nat} (hk:70≤k):cJ.f k (il m) (il t)=some (il (pm m t),true):=by
 have h64:=ht.1
 obtain ⟨k,rfl⟩: ∃j,k=j+t.length+1:=⟨k-t.length-1,by omega⟩
 have e1:ak (((il t).length:Int)+8)=((t.length+8:Nat):Int):=by rw [ag];exact au (n:=t.length+8) (by omega)
 have e2:ak (((t.length+8:Nat):Int)-1)=((t.length+7:Nat):Int):=by rw [cA (by omega) (by omega)];omega
 have e3:ak (Int.tdiv ((t.length+7:Nat):Int) 8)=(((t.length+7)/8:Nat):Int):=au (n:=(t.length+7)/8) (by omega)
 unfold cJ.f gd
 rw [e1,e2,e3,if_pos (by rw [decide_eq_true_eq];omega),if_pos (by rw [decide_eq_true_eq];omega),Option.bind_some,Int.toNat_natCast,kJ]
 exact (B9 hm hl ht t.length (i:=0) (by omega) (fun v hv=>by rw [List.eq_of_mem_replicate hv];decide) (by rw [List.length_replicate])).1
theorem sL {k:Nat} (hk:70≤k):d6.f k (il m) (il t)=some (il (pm m t)):=by
 have h64:=ht.1
 obtain ⟨k,rfl⟩: ∃j,k=j+t.length+1:=⟨k-t.length-1,by omega⟩
 have e1:ak (((il t).length:Int)+7)=((t.length+7:Nat):Int):=by rw [ag];exact au (n:=t.length+7) (by omega)
 have e3:ak (Int.tdiv ((t.length+7:Nat):Int) 8)=(((t.length+7)/8:Nat):Int):=au (n:=(t.length+7)/8) (by omega)
 unfold d6.f cd.f gd
 rw [e1,e3,if_pos (by rw [decide_eq_true_eq];omega),if_pos (by rw [decide_eq_true_eq];omega),Option.bind_some,Int.toNat_natCast,kJ]
 have:=(B9 hm hl ht t.length (k:=k) (i:=0) (x:=List.replicate ((t.length+7)/8) 0) (by omega) (fun v hv=>by rw [List.eq_of_mem_replicate hv];decide) (by rw [List.length_replicate])).2
 rw [show ((0:Nat):Int)=0 from rfl] at this
 rw [this,Option.bind_some];rfl
end
def IP:List Nat:=[58,50,42,34,26,18,10,2,60,52,44,36,28,20,12,4,62,54,46,38,30,22,14,6,64,56,48,40,32,24,16,8,57,49,41,33,25,17,9,1,59,51,43,35,27,19,11,3,61,53,45,37,29,21,13,5,63,55,47,39,31,23,15,7]
def FP:List Nat:=[40,8,48,16,56,24,64,32,39,7,47,15,55,23,63,31,38,6,46,14,54,22,62,30,37,5,45,13,53,21,61,29,36,4,44,12,52,20,60,28,35,3,43,11,51,19,59,27,34,2,42,10,50,18,58,26,33,1,41,9,49,17,57,25]
def EX:List Nat:=[32,1,2,3,4,5,4,5,6,7,8,9,8,9,10,11,12,13,12,13,14,15,16,17,16,17,18,19,20,21,20,21,22,23,24,25,24,25,26,27,28,29,28,29,30,31,32,1]
def PP:List Nat:=[16,7,20,21,29,12,28,17,1,15,23,26,5,18,31,10,2,8,24,14,32,27,3,9,19,13,30,6,22,11,4,25]
def Ja:List Nat:=[57,49,41,33,25,17,9,1,58,50,42,34,26,18,10,2,59,51,43,35,27,19,11,3,60,52,44,36,63,55,47,39,31,23,15,7,62,54,46,38,30,22,14,6,61,53,45,37,29,21,13,5,28,20,12,4]
def Jb:List Nat:=[14,17,11,24,1,5,3,28,15,6,21,10,23,19,12,4,26,8,16,7,27,20,13,2,41,52,31,37,47,55,30,40,51,45,33,48,44,49,39,56,34,53,46,42,50,36,29,32]
def Ts (s:Nat) (l:List Nat):List Nat:=(((l.take 28).drop s++(l.take 28).take s)++(l.drop 28).drop s)++(l.drop 28).take s
def Te (i:Nat):Nat:=if i=0∨i=1∨i=8∨i=15 then 1 else 2
def XX:Nat→List Nat
 | 0=>Ja
 | i+1=>Ts (Te i) (XX i)
def RS:Nat→Nat
 | 0=>0
 | i+1=>RS i+Te i
def TT (i:Nat):List Nat:=Jb.map fun p=>(XX (i+1)).getD (p-1) 0
theorem uR {k:Nat} (hk:100≤k):gV.f k=some (il IP)∧bQ.f k=some (il IP):=by
 obtain ⟨j,rfl⟩: ∃j,k=j+100:=⟨k-100,by omega⟩
 exact ⟨by kernel_rfl,by kernel_rfl⟩
theorem Gw {k:Nat} (hk:100≤k):fF.f k (il IP)=some (il FP,true)∧dA.f k (il IP)=some (il FP,true):=by
 obtain ⟨j,rfl⟩: ∃j,k=j+100:=⟨k-100,by omega⟩
 exact ⟨by kernel_rfl,by kernel_rfl⟩
theorem Ca {k:Nat} (hk:100≤k):iA.f k=some (il EX)∧dJ.f k=some (il EX):=by
 obtain ⟨j,rfl⟩: ∃j,k=j+100:=⟨k-100,by omega⟩
 exact ⟨by kernel_rfl,by kernel_rfl⟩
theorem yU (k:Nat):kN.f k=some (il PP)∧hJ.f k=some (il PP):=⟨rfl,rfl⟩
theorem Jc (k:Nat):g9.f k=some (il Jb):=rfl
theorem vU {k:Nat} (hk:100≤k):j9.f k=some (il Ja,il Jb)∧bD.f k=some (il Ja):=by
 obtain ⟨j,rfl⟩: ∃j,k=j+100:=⟨k-100,by omega⟩
 exact ⟨by kernel_rfl,by kernel_rfl⟩
theorem Sk (k:Nat) (a0:List Int) (x6:List (List Int)) (i:Nat) (hi:i<16):
 d9.l0 (k+50) a0 (il Ja,il Jb) (il (XX i)) x6 (i:Int)=(cJ.f k a0 (il (TT i))).bind fun t=>gd (x6.length+([t.1]:List (List Int)).length≤1000000000)<|d9.l0 k a0 (il Ja,il Jb) (il (XX (i+1))) (x6++[t.1]) ((i+1:Nat):Int):=by
 have:i=0∨i=1∨i=2∨i=3∨i=4∨i=5∨i=6∨i=7∨i=8∨i=9∨i=10∨i=11∨i=12∨i=13∨i=14∨i=15:=by omega
 rcases this with rfl | rfl | rfl | rfl | rfl | rfl | rfl | rfl | rfl | rfl | rfl | rfl | rfl | rfl | rfl | rfl<;>exact Eq.trans (by kernel_rfl) (Eq.refl _)
theorem Sl (k:Nat) (a0:List Int) (x6:List (List Int)) (i:Nat) (hi:i<16):
 bb.l0 (k+58) a0 (il Ja) ((RS i:Nat):Int) x6 ((i+1:Nat):Int)=(d6.f k a0 (il (XX (i+1)))).bind fun t=>(g9.f k).bind fun u=>(d6.f k t u).bind fun t=>gd (x6.length+([t]:List (List Int)).length≤1000000000)<|bb.l0 k a0 (il Ja) ((RS (i+1):Nat):Int) (x6++[t]) ((i+1+1:Nat):Int):=by
 have:i=0∨i=1∨i=2∨i=3∨i=4∨i=5∨i=6∨i=7∨i=8∨i=9∨i=10∨i=11∨i=12∨i=13∨i=14∨i=15:=by omega
 rcases this with rfl | rfl | rfl | rfl | rfl | rfl | rfl | rfl | rfl | rfl | rfl | rfl | rfl | rfl | rfl | rfl<;>exact Eq.trans (by kernel_rfl) (Eq.refl _)
def sv (i r c:Nat):Nat:=match ja.f 0 (i:Int) (r:Int) with
 | some t=>match jX.f 0 (sb t (c:Int)) with
  | some v=>v.toNat
  | none=>0
 | none=>0
def Qn (i r c:Nat):Bool:=match ja.f 0 (i:Int) (r:Int),fV.f 0 (i:Int) with
 | some t,some rs=>decide ((c:Int)<(t.size:Int))&&decide ((r:Int)<(rs.length:Int))&&(jX.f 0 (sb t (c:Int))==some ((sv i r c:Nat):Int))&&(eo.f 0 (tz rs (r:Int)) (c:Int)==some ((sv i r c:Nat):Int))&&decide (sv i r c<16)
 | _,_=>false
theorem Cb:((List.range 8).all fun i=>(List.range 4).all fun r=>(List.range 16).all fun c=>Qn i r c)=true:=by kernel_rfl
theorem Aa (k:Nat) {i r c:Nat} (hi:i<8) (hr:r<4) (hc:c<16): ∃t rs,ja.f k (i:Int) (r:Int)=some t∧fV.f k (i:Int)=some rs∧(c:Int)<(t.size:Int)∧(r:Int)<(rs.length:Int)∧jX.f k (sb t (c:Int))=some ((sv i r c:Nat):Int)∧eo.f k (tz rs (r:Int)) (c:Int)=some ((sv i r c:Nat):Int)∧sv i r c<16:=by
 have h:=List.all_eq_true.1 (List.all_eq_true.1 (List.all_eq_true.1 Cb i (List.mem_range.2 hi)) r (List.mem_range.2 hr)) c (List.mem_range.2 hc)
 unfold Qn at h
 have ek:ja.f k=ja.f 0:=rfl
 have er:fV.f k=fV.f 0:=rfl
 have es:jX.f k=jX.f 0:=rfl
 have ea:eo.f k=eo.f 0:=rfl
 rw [ek,er,es,ea]
 cases h1:ja.f 0 (i:Int) (r:Int) with
 | none=>rw [h1] at h;cases h
 | some t=>
  cases h2:fV.f 0 (i:Int) with
  | none=>rw [h1,h2] at h;cases h
  | some rs=>
   rw [h1,h2] at h
   simp only [Bool.and_eq_true,decide_eq_true_eq,beq_iff_eq] at h
   exact ⟨t,rs,rfl,rfl,h.1.1.1.1,h.1.1.1.2,h.1.1.2,h.1.2,h.2⟩
def fR (w:List Nat) (i:Nat):Nat:=2*bt w (6*i+1)+bt w (6*i+6)
def fC (w:List Nat) (i:Nat):Nat:=2*(2*(2*bt w (6*i+2)+bt w (6*i+3))+bt w (6*i+4))+bt w (6*i+5)
def fS (w:List Nat) (i:Nat) (x:List Nat):List Nat:=x.set (i/2) (x.getD (i/2) 0 ||| (sv i (fR w i) (fC w i) <<< (4*(1-i%2))))
def fA (w:List Nat):Nat→Nat→List Nat→List Nat
 | _,0,x=>x
 | i,d+1,x=>fA w (i+1) d (fS w i x)
theorem Gx {x b:Nat} (h:x<1000) (hb:b<2):ak (ak (2*(x:Int))+(b:Int))=((2*x+b:Nat):Int):=by
 have:ak (2*(x:Int))=((2*x:Nat):Int):=au (n:=2*x) (by omega)
 rw [this];exact au (n:=2*x+b) (by omega)
def B4 (x:List Nat):Prop:=x.length=4∧ ∀v∈x,v<256
def B6 (x:List Nat):Prop:=x.length=6∧ ∀v∈x,v<256
theorem xb {v i:Nat} (h:v<16):v <<< (4*(1-i%2))<256:=by
 rcases (by omega:i%2=0∨i%2=1) with e | e<;>rw [e,Nat.shiftLeft_eq]<;>omega
theorem Qo {w:List Nat} (i:Nat) (hi:i<8) {x:List Nat} (hx:B4 x):B4 (fS w i x):=by
 unfold fS
 refine ⟨by rw [List.length_set];exact hx.1,fun v hv=> ?_⟩
 rcases List.mem_or_eq_of_mem_set hv with hv | rfl
 ·exact hx.2 v hv
 ·have h1:=kW w (6*i+1);have h2:=kW w (6*i+2);have h3:=kW w (6*i+3);have h4:=kW w (6*i+4);have h5:=kW w (6*i+5);have h6:=kW w (6*i+6)
  obtain ⟨_,_,_,_,_,_,_,_,h⟩:=Aa 0 hi (r:=fR w i) (c:=fC w i) (by unfold fR;omega) (by unfold fC;omega)
  exact Nat.or_lt_two_pow (n:=8) (dN hx.2 _) (xb h)
section
variable {w x:List Nat} (hw:B6 w) (hx:B4 x) {i:Nat} (hi:i<8)
include hw hx hi
theorem tA {j k:Nat} (h1:1≤j) (h6:j≤6) {p:Int} (hp:p=((6*i+j:Nat):Int)):iY.f k (il w) p=some ((bt w (6*i+j):Nat):Int)∧gy.f k (il w) p=some ((bt w (6*i+j):Nat):Int):=by
 subst hp
 have:=hw.1
 exact ⟨Gu hw.2 (by omega) (by omega) (by omega),B7 hw.2 (by omega) (by omega) (by omega)⟩
theorem Tt (k:Nat):i5.l0 (k+6) (il w,true) (il x) (i:Int)=if i+1<8 then i5.l0 k (il w,true) (il (fS w i x)) ((i+1:Nat):Int) else (cJ.f k (il (fS w i x)) (il PP)).bind fun t=>some (t.1,t.2):=by
 have l1:=kW w (6*i+1);have l2:=kW w (6*i+2);have l3:=kW w (6*i+3);have l4:=kW w (6*i+4);have l5:=kW w (6*i+5);have l6:=kW w (6*i+6)
 have p0:ak (6*(i:Int))=((6*i:Nat):Int):=au (n:=6*i) (by omega)
 have p1:ak (((6*i:Nat):Int)+1)=((6*i+1:Nat):Int):=au (n:=6*i+1) (by omega)
 have p6:ak (((6*i+1:Nat):Int)+5)=((6*i+6:Nat):Int):=au (n:=6*i+6) (by omega)
 have p2:ak (((6*i+1:Nat):Int)+1)=((6*i+2:Nat):Int):=au (n:=6*i+2) (by omega)
 have p3:ak (((6*i+1:Nat):Int)+2)=((6*i+3:Nat):Int):=au (n:=6*i+3) (by omega)
 have p4:ak (((6*i+1:Nat):Int)+3)=((6*i+4:Nat):Int):=au (n:=6*i+4) (by omega)
 have p5:ak (((6*i+1:Nat):Int)+4)=((6*i+5:Nat):Int):=au (n:=6*i+5) (by omega)
 have b1:=fun k=>(tA hw hx hi (j:=1) (k:=k) (by decide) (by decide) rfl).1
 have b2:=fun k=>(tA hw hx hi (j:=2) (k:=k) (by decide) (by decide) rfl).1
 have b3:=fun k=>(tA hw hx hi (j:=3) (k:=k) (by decide) (by decide) rfl).1
 have b4:=fun k=>(tA hw hx hi (j:=4) (k:=k) (by decide) (by decide) rfl).1
 have b5:=fun k=>(tA hw hx hi (j:=5) (k:=k) (by decide) (by decide) rfl).1
 have b6:=fun k=>(tA hw hx hi (j:=6) (k:=k) (by decide) (by decide) rfl).1
 have x2:ak (ak (2*(0:Int))+((bt w (6*i+2):Nat):Int))=((bt w (6*i+2):Nat):Int):=by
  have:=Gx (x:=0) (by decide) l2
  rw [show 2*0+bt w (6*i+2)=bt w (6*i+2) by omega] at this;exact this
 have x3:=Gx (x:=bt w (6*i+2)) (by omega) l3
 have x4:=Gx (x:=2*bt w (6*i+2)+bt w (6*i+3)) (by omega) l4
 have x5:=Gx (x:=2*(2*bt w (6*i+2)+bt w (6*i+3))+bt w (6*i+4)) (by omega) l5
 have xr:=Gx (x:=bt w (6*i+1)) (by omega) l6
 obtain ⟨t,_,h1,_,h3,_,h5,_,h7⟩:=Aa k hi (r:=fR w i) (c:=fC w i) (by unfold fR;omega) (by unfold fC;omega)
 have q1:ak (Int.tdiv (i:Int) 2)=((i/2:Nat):Int):=au (n:=i/2) (by omega)
 have q2:Int.tmod (i:Int) 2=((i%2:Nat):Int):=rfl
 have q3:ak (1-((i%2:Nat):Int))=((1-i%2:Nat):Int):=by rw [cA (by omega) (by omega)];omega
 have q4:ak (4*((1-i%2:Nat):Int))=((4*(1-i%2):Nat):Int):=au (n:=4*(1-i%2)) (by omega)
 have c2:decide (((i/2:Nat):Int)<((il x).length:Int))=true:=by rw [decide_eq_true_eq,ag,hx.1];omega
 have c0: ∀z:Nat,decide (0≤(z:Int))=true:=fun z=>by rw [decide_eq_true_eq];omega
 have a2:ak ((i:Int)+1)=((i+1:Nat):Int):=au (n:=i+1) (by omega)
 have mn:min (4*(1-i%2)) 8=4*(1-i%2):=by omega
 have s:lG .u8 ((sv i (fR w i) (fC w i):Nat):Int) ((4*(1-i%2):Nat):Int)=((sv i (fR w i) (fC w i) <<< (4*(1-i%2)):Nat):Int):=by
  unfold lG
  rw [Int.toNat_natCast,show min (4*(1-i%2)) (IntKind.bits .u8)=4*(1-i%2) from mn,I8,Nat.mod_eq_of_lt (xb h7)]
 have q5:=RR (dN hx.2 (i/2)) (xb (i:=i) h7)
 have g1:decide ((1:Int)≤4)=true:=rfl
 have g2:decide ((2:Int)≤4)=true:=rfl
 have g3:decide ((3:Int)≤4)=true:=rfl
 have g4:decide ((4:Int)≤4)=true:=rfl
 have g5:decide ((5:Int)≤4)=false:=rfl
 have n1:ak ((1:Int)+1)=2:=rfl
 have n2:ak ((2:Int)+1)=3:=rfl
 have n3:ak ((3:Int)+1)=4:=rfl
 have n4:ak ((4:Int)+1)=5:=rfl
 rw [i5.l0,p0,p1,b1,Option.bind_some,p6,b6,Option.bind_some,
  i5.l1,if_pos g1,p0,p1,p2,b2,Option.bind_some,x2,n1,
  i5.l1,if_pos g2,p0,p1,p3,b3,Option.bind_some,x3,n2,
  i5.l1,if_pos g3,p0,p1,p4,b4,Option.bind_some,x4,n3,
  i5.l1,if_pos g4,p0,p1,p5,b5,Option.bind_some,x5,n4,
  i5.l1,if_neg (by rw [g5];decide)]
 have hR:((2*bt w (6*i+1)+bt w (6*i+6):Nat):Int)=((fR w i:Nat):Int):=rfl
 have hC:((2*(2*(2*bt w (6*i+2)+bt w (6*i+3))+bt w (6*i+4))+bt w (6*i+5):Nat):Int)=((fC w i:Nat):Int):=rfl
 unfold gd
 rw [xr,hR,hC,q1,if_pos (c0 _),if_pos c2,h1,Option.bind_some,if_pos (c0 _),if_pos (by rw [decide_eq_true_eq];exact h3),h5,Option.bind_some,q2,q3,q4,if_pos (c0 _),bf,s,q5,Option.bind_some,if_pos (c0 _),if_pos c2,a2,Int.toNat_natCast,kw,(yU k).1,Option.bind_some]
 by_cases e:i+1<8
 ·rw [if_pos e,if_pos (by rw [decide_eq_true_eq];omega)];rfl
 ·rw [if_neg e,if_neg (by rw [decide_eq_true_eq];omega)];rfl
theorem Sn (k:Nat):cu.l0 (k+8) (il w) (il x) (i:Int)=cu.l0 k (il w) (il (fS w i x)) ((i+1:Nat):Int):=by
 have l1:=kW w (6*i+1);have l2:=kW w (6*i+2);have l3:=kW w (6*i+3);have l4:=kW w (6*i+4);have l5:=kW w (6*i+5);have l6:=kW w (6*i+6)
 have p0:ak (6*(i:Int))=((6*i:Nat):Int):=au (n:=6*i) (by omega)
 have pj: ∀j:Nat,j≤6→ak (((6*i:Nat):Int)+(j:Int))=((6*i+j:Nat):Int):=fun j hj=>au (n:=6*i+j) (by omega)
 have p1:ak (((6*i:Nat):Int)+1)=((6*i+1:Nat):Int):=pj 1 (by decide)
 have p2:ak (((6*i:Nat):Int)+2)=((6*i+2:Nat):Int):=pj 2 (by decide)
 have p3:ak (((6*i:Nat):Int)+3)=((6*i+3:Nat):Int):=pj 3 (by decide)
 have p4:ak (((6*i:Nat):Int)+4)=((6*i+4:Nat):Int):=pj 4 (by decide)
 have p5:ak (((6*i:Nat):Int)+5)=((6*i+5:Nat):Int):=pj 5 (by decide)
 have p6:ak (((6*i:Nat):Int)+6)=((6*i+6:Nat):Int):=pj 6 (by decide)
 have b1:=fun k=>(tA hw hx hi (j:=1) (k:=k) (by decide) (by decide) rfl).2
 have b2:=fun k=>(tA hw hx hi (j:=2) (k:=k) (by decide) (by decide) rfl).2
 have b3:=fun k=>(tA hw hx hi (j:=3) (k:=k) (by decide) (by decide) rfl).2
 have b4:=fun k=>(tA hw hx hi (j:=4) (k:=k) (by decide) (by decide) rfl).2
 have b5:=fun k=>(tA hw hx hi (j:=5) (k:=k) (by decide) (by decide) rfl).2
 have b6:=fun k=>(tA hw hx hi (j:=6) (k:=k) (by decide) (by decide) rfl).2
 obtain ⟨_,rs,_,h2,_,h4,_,h6,h7⟩:=Aa k hi (r:=fR w i) (c:=fC w i) (by unfold fR;omega) (by unfold fC;omega)
 have eR:fR w i=2*bt w (6*i+1)+bt w (6*i+6):=rfl
 have eC:fC w i=2*(2*(2*bt w (6*i+2)+bt w (6*i+3))+bt w (6*i+4))+bt w (6*i+5):=rfl
 generalize bt w (6*i+1)=v1 at*
 generalize bt w (6*i+2)=v2 at*
 generalize bt w (6*i+3)=v3 at*
 generalize bt w (6*i+4)=v4 at*
 generalize bt w (6*i+5)=v5 at*
 generalize bt w (6*i+6)=v6 at*
 have x1:ak (ak (2*(0:Int))+((v1:Nat):Int))=((v1:Nat):Int):=by
  have:=Gx (x:=0) (by decide) l1
  rw [show 2*0+v1=v1 by omega] at this;exact this
 have x2:=Gx (x:=v1) (by omega) l2
 have x3:=Gx (x:=2*v1+v2) (by omega) l3
 have x4:=Gx (x:=2*(2*v1+v2)+v3) (by omega) l4
 have x5:=Gx (x:=2*(2*(2*v1+v2)+v3)+v4) (by omega) l5
 have x6:=Gx (x:=2*(2*(2*(2*v1+v2)+v3)+v4)+v5) (by omega) l6
 obtain ⟨n,hn⟩: ∃n,n=2*(2*(2*(2*(2*v1+v2)+v3)+v4)+v5)+v6:=⟨_,rfl⟩
 rw [←hn] at x6
 have r1:ak (Int.tdiv (n:Int) 32)=((n/32:Nat):Int):=au (n:=n/32) (by omega)
 have r2:ak (((n/32:Nat):Int)*2)=((n/32*2:Nat):Int):=au (n:=n/32*2) (by omega)
 have r3:Int.tmod (n:Int) 2=((n%2:Nat):Int):=rfl
 have r4:ak (((n/32*2:Nat):Int)+((n%2:Nat):Int))=((fR w i:Nat):Int):=by
  rw [cA (by omega) (by omega),eR];omega
 have r5:ak (Int.tdiv (n:Int) 2)=((n/2:Nat):Int):=au (n:=n/2) (by omega)
 have r6:Int.tmod ((n/2:Nat):Int) 16=((fC w i:Nat):Int):=by
  have:Int.tmod ((n/2:Nat):Int) 16=((n/2%16:Nat):Int):=rfl
  rw [this,eC];congr 1;omega
 have q1:ak (Int.tdiv (i:Int) 2)=((i/2:Nat):Int):=au (n:=i/2) (by omega)
 have q2:Int.tmod (i:Int) 2=((i%2:Nat):Int):=rfl
 have q3:ak (4*((i%2:Nat):Int))=((4*(i%2):Nat):Int):=au (n:=4*(i%2)) (by omega)
 have q4:ak (4-((4*(i%2):Nat):Int))=((4*(1-i%2):Nat):Int):=by rw [cA (by omega) (by omega)];omega
 have q6:kX ((4*(1-i%2):Nat):Int)=((4*(1-i%2):Nat):Int):=by rw [po,Nat.mod_eq_of_lt (by omega)]
 have c2:decide (((i/2:Nat):Int)<((il x).length:Int))=true:=by rw [decide_eq_true_eq,ag,hx.1];omega
 have c0: ∀z:Nat,decide (0≤(z:Int))=true:=fun z=>by rw [decide_eq_true_eq];omega
 have a2:ak ((i:Int)+1)=((i+1:Nat):Int):=au (n:=i+1) (by omega)
 have mn:min (4*(1-i%2)) 64=4*(1-i%2):=by omega
 have fl:=xb (i:=i) h7
 have s:lG .i64 ((sv i (fR w i) (fC w i):Nat):Int) ((4*(1-i%2):Nat):Int)=((sv i (fR w i) (fC w i) <<< (4*(1-i%2)):Nat):Int):=by
  unfold lG
  rw [Int.toNat_natCast,show min (4*(1-i%2)) (IntKind.bits .i64)=4*(1-i%2) from mn,Gr (by omega)]
 have s8:U8 ((sv i (fR w i) (fC w i) <<< (4*(1-i%2)):Nat):Int)=((sv i (fR w i) (fC w i) <<< (4*(1-i%2)):Nat):Int):=by rw [iR,Nat.mod_eq_of_lt fl]
 have q5:=RR (dN hx.2 (i/2)) fl
 have g0:decide ((i:Int)<8)=true:=by rw [decide_eq_true_eq];omega
 have g1:decide ((1:Int)≤6)=true:=rfl
 have g2:decide ((2:Int)≤6)=true:=rfl
 have g3:decide ((3:Int)≤6)=true:=rfl
 have g4:decide ((4:Int)≤6)=true:=rfl
 have g5:decide ((5:Int)≤6)=true:=rfl
 have g6:decide ((6:Int)≤6)=true:=rfl
 have g7:decide ((7:Int)≤6)=false:=rfl
 have n1:ak ((1:Int)+1)=2:=rfl
 have n2:ak ((2:Int)+1)=3:=rfl
 have n3:ak ((3:Int)+1)=4:=rfl
 have n4:ak ((4:Int)+1)=5:=rfl
 have n5:ak ((5:Int)+1)=6:=rfl
 have n6:ak ((6:Int)+1)=7:=rfl
 rw [cu.l0,if_pos g0,
  cu.l1,if_pos g1,p0,p1,b1,Option.bind_some,x1,n1,
  cu.l1,if_pos g2,p0,p2,b2,Option.bind_some,x2,n2,
  cu.l1,if_pos g3,p0,p3,b3,Option.bind_some,x3,n3,
  cu.l1,if_pos g4,p0,p4,b4,Option.bind_some,x4,n4,
  cu.l1,if_pos g5,p0,p5,b5,Option.bind_some,x5,n5,
  cu.l1,if_pos g6,p0,p6,b6,Option.bind_some,x6,n6,
  cu.l1,if_neg (by rw [g7];decide),h2,Option.bind_some]
 unfold gd
 rw [r1,r2,r3,r4,Option.bind_some,if_pos (c0 _),if_pos (by rw [decide_eq_true_eq];exact h4),r5,r6,h6,Option.bind_some,q1,if_pos (c0 _),if_pos c2,q2,q3,q4,q6,if_pos (c0 _),s,Option.bind_some,if_pos (c0 _),if_pos c2,bf,s8,q5,a2,Int.toNat_natCast,kw]
 rfl
end
def xL (n:Nat) (a b:List Nat):List Nat:=(List.range n).map fun i=>a.getD i 0 ^^^ b.getD i 0
theorem jH (n:Nat) (a b:List Nat):(xL n a b).length=n:=by simp [xL]
theorem tc {n:Nat} {a b:List Nat} (ha: ∀x∈a,x<256) (hb: ∀x∈b,x<256): ∀x∈xL n a b,x<256:=by
 intro x hx
 unfold xL at hx
 obtain ⟨i,_,rfl⟩:=List.mem_map.1 hx
 exact Nat.xor_lt_two_pow (n:=8) (dN ha i) (dN hb i)
theorem Cc {n:Nat} {a b:List Nat} (ha: ∀x∈a,x<256) (hb: ∀x∈b,x<256):fill n (xo (il a) (il b))=il (xL n a b):=by
 unfold xL
 rw [nR]
 refine uQ fun i hi=> ?_
 unfold xo
 rw [bf,bf,BZ (dN ha i) (dN hb i)]
theorem n8 {n:Nat} {a b:List Nat} (h1:a.length=n) (h2:b.length=n) (hn:n<100) (ha: ∀x∈a,x<256) (hb: ∀x∈b,x<256) {k:Nat} (hk:n<k):bw.f k (il a) (il b)=some (il (xL n a b),true)∧ar.f k (il a) (il b)=some (il (xL n a b)):=by
 have l:(il a).length=n:=by rw [ag,h1]
 constructor
 ·rw [z7 (by rw [ag,ag,h1,h2]) (by omega) (by omega),l,Cc ha hb]
 ·rw [B5 (by rw [ag,ag,h1,h2]) (by omega) (by omega),l,Cc ha hb]
theorem Qp:Pl 4 EX:=by refine ⟨by decide,?_⟩;decide
theorem Qq:Pl 4 PP:=by refine ⟨by decide,?_⟩;decide
theorem Qr:Pl 8 IP:=by refine ⟨by decide,?_⟩;decide
theorem Qs:Pl 8 FP:=by refine ⟨by decide,?_⟩;decide
def FN (r K:List Nat):List Nat:=pm (fA (xL 6 (pm r EX) K) 0 8 [0,0,0,0]) PP
theorem rQ (r K:List Nat):B4 (FN r K):=⟨lZ _ _,vT _ _⟩
theorem Tf {w:List Nat} (hw:B6 w) (d:Nat): ∀ {k i:Nat} {x:List Nat},i+d=8→i<8→B4 x→70≤k→
 i5.l0 (k+6*d) (il w,true) (il x) (i:Int)=some (il (pm (fA w i d x) PP),true)∧cu.l0 (k+1+8*d) (il w) (il x) (i:Int)=some (il (pm (fA w i d x) PP),true):=by
 induction d with
 | zero=>intro k i x h1 h2;omega
 | succ d ih=>
  intro k i x hi h8 hx hk
  have ox:=Qo (w:=w) i h8 hx
  rw [show k+6*(d+1)=k+6*d+6 by omega,show k+1+8*(d+1)=k+1+8*d+8 by omega,Tt hw hx h8,Sn hw hx h8]
  by_cases e:i+1<8
  ·rw [if_pos e]
   exact ih (by omega) e ox hk
  ·obtain rfl:d=0:=by omega
   obtain rfl:i=7:=by omega
   rw [if_neg e,rP ox.2 (by rw [ox.1];decide) (by rw [ox.1];exact Qq) (by omega),Option.bind_some]
   have ef:fA w 7 (0+1) x=fS w 7 x:=rfl
   rw [ef]
   have:k+1+8*0=k+1:=rfl
   have c8:((7+1:Nat):Int)=8:=rfl
   rw [this,c8,cu.l0,if_neg (by decide),(yU k).2,Option.bind_some,sL ox.2 (by rw [ox.1];decide) (by rw [ox.1];exact Qq) (by omega),Option.bind_some]
   generalize pm (fS w 7 x) PP=z
   exact ⟨rfl,rfl⟩
theorem MT {r K:List Nat} (hr:B4 r) (hK:B6 K) {k:Nat} (hk:200≤k):i5.f k (il r) (il K)=some (il (FN r K),true)∧cu.f k (il r) (il K)=some (il (FN r K),true):=by
 have o1:B6 (pm r EX):=⟨lZ _ _,vT _ _⟩
 have o2:B6 (xL 6 (pm r EX) K):=⟨jH _ _ _,tc o1.2 hK.2⟩
 have p:=rP hr.2 (by rw [hr.1];decide) (by rw [hr.1];exact Qp) (k:=k) (by omega)
 have q:=sL hr.2 (by rw [hr.1];decide) (by rw [hr.1];exact Qp) (k:=k) (by omega)
 obtain ⟨x1,x2⟩:=n8 o1.1 hK.1 (by decide) o1.2 hK.2 (k:=k) (by omega)
 have z:B4 [0,0,0,0]:=by refine ⟨rfl,?_⟩;decide
 constructor
 ·obtain ⟨y,_⟩:=Tf o2 8 (k:=k-48) (i:=0) rfl (by decide) z (by omega)
  rw [show k-48+6*8=k by omega] at y
  unfold i5.f
  rw [ag,ag,hr.1,hK.1,if_neg (by decide),if_neg (by decide),(Ca (by omega)).1,Option.bind_some,p,Option.bind_some,x1,Option.bind_some]
  exact y
 ·obtain ⟨_,y⟩:=Tf o2 8 (k:=k-65) (i:=0) rfl (by decide) z (by omega)
  rw [show k-65+1+8*8=k by omega] at y
  unfold cu.f
  rw [ag,ag,hr.1,hK.1,if_neg (by decide),if_neg (by decide),(Ca (by omega)).2,Option.bind_some,q,Option.bind_some,x2,Option.bind_some]
  exact y
def ro:List (List Nat)→List Nat×List Nat→List Nat×List Nat
 | [],s=>s
 | K::t,s=>ro t (s.2,xL 4 s.1 (FN s.2 K))
def hv (p:List Nat):List Nat×List Nat:=((pm p IP).take 4,(pm p IP).drop 4)
def te (Ks:List (List Nat)) (p:List Nat):List Nat:=pm ((ro Ks (hv p)).2++(ro Ks (hv p)).1) FP
def B8 (x:List Nat):Prop:=x.length=8∧ ∀v∈x,v<256
theorem yV (Ks:List (List Nat)) (p:List Nat):B8 (te Ks p):=⟨lZ _ _,vT _ _⟩
theorem Cd (p:List Nat):B4 (hv p).1∧B4 (hv p).2:=by
 have l:(pm p IP).length=8:=lZ _ _
 have b:=vT p IP
 unfold hv
 generalize pm p IP=y at l b
 exact ⟨⟨by rw [List.length_take,l];rfl,fun v h=>b v (List.mem_of_mem_take h)⟩,⟨by rw [List.length_drop,l],fun v h=>b v (List.mem_of_mem_drop h)⟩⟩
theorem MU {a b:List Int} (ha:a.length=4) (hb:b.length=4) {k:Nat} (hk:20≤k):ai.f k [a,b]=some (a++b):=by
 obtain ⟨j,rfl⟩: ∃j,k=j+20:=⟨k-20,by omega⟩
 match a,ha,b,hb with
 | [a0,a1,a2,a3],_,[b0,b1,b2,b3],_=>exact Eq.trans (by kernel_rfl) (Eq.refl _)
def Ce (Ks:List (List Nat)):Prop:=Ks.length=16∧ ∀K∈Ks,B6 K
theorem Ce.at {Ks:List (List Nat)} (h:Ce Ks) {i:Nat} (hi:i<16): ∃K,B6 K∧rr (Ks.map il) (i:Int)=il K∧Ks.drop i=K::Ks.drop (i+1):=by
 have hl:i<Ks.length:=by rw [h.1];exact hi
 refine ⟨Ks[i],h.2 _ (List.getElem_mem hl),?_,List.drop_eq_getElem_cons hl⟩
 unfold rr
 rw [Int.toNat_natCast,List.getD_eq_getElem?_getD,List.getElem?_map,List.getElem?_eq_getElem hl];rfl
theorem Ce.rev {Ks:List (List Nat)} (h:Ce Ks):Ce Ks.reverse:=⟨by rw [List.length_reverse];exact h.1,fun K hK=>h.2 K (by simpa using hK)⟩
theorem MV {Ks:List (List Nat)} (h:Ce Ks) (d:Nat): ∀ {k i:Nat} {s:List Nat×List Nat},i+d=16→B4 s.1→B4 s.2→300+d≤k→
 fK.l0 k (Ks.map il) (il IP) (il s.1) (il s.2) (i:Int)=some (il (pm ((ro (Ks.drop i) s).2++(ro (Ks.drop i) s).1) FP)):=by
 induction d with
 | zero=>
  intro k i s hi h1 h2 hk
  obtain ⟨k,rfl⟩: ∃j,k=j+1:=⟨k-1,by omega⟩
  obtain rfl:i=16:=by omega
  have e:Ks.drop 16=[]:=List.drop_of_length_le (by rw [h.1];decide)
  have l8:(s.2++s.1).length=8:=by rw [List.length_append,h1.1,h2.1]
  have b8: ∀v∈s.2++s.1,v<256:=fun v hv=>by
   rcases List.mem_append.1 hv with hv | hv
   ·exact h2.2 v hv
   ·exact h1.2 v hv
  rw [e,fK.l0,if_neg (by rw [decide_eq_true_eq,List.length_map,h.1];decide),(Gw (by omega)).1,Option.bind_some,MU (by rw [ag,h2.1]) (by rw [ag,h1.1]) (by omega),Option.bind_some]
  have ea:il s.2++il s.1=il (s.2++s.1):=by simp [il]
  have l9:(s.2++s.1).length<1000:=by omega
  have pe:=rP (m:=s.2++s.1) (t:=FP) b8 l9 (l8▸Qs) (k:=k) (by omega)
  rw [ea,show ro [] s=s from rfl]
  generalize il FP=q at pe ⊢
  show (cJ.f k (il (s.2++s.1)) q).bind (fun t=>some t.1)=_
  rw [pe,Option.bind_some]
 | succ d ih=>
  intro k i s hi h1 h2 hk
  obtain ⟨k,rfl⟩: ∃j,k=j+1:=⟨k-1,by omega⟩
  obtain ⟨K,oK,eK,dK⟩:=h.at (i:=i) (by omega)
  have a2:ak ((i:Int)+1)=((i+1:Nat):Int):=au (n:=i+1) (by omega)
  have nx:=ih (k:=k) (i:=i+1) (s:=(s.2,xL 4 s.1 (FN s.2 K))) (by omega) h2 ⟨jH _ _ _,tc h1.2 (rQ _ _).2⟩ (by omega)
  have x:=(n8 h1.1 (rQ s.2 K).1 (by decide) h1.2 (rQ s.2 K).2 (k:=k) (by omega)).1
  rw [fK.l0,if_pos (by rw [decide_eq_true_eq,List.length_map,h.1];omega)];unfold gd
  rw [if_pos (by rw [decide_eq_true_eq];omega),if_pos (by rw [decide_eq_true_eq,List.length_map,h.1];omega),eK,(MT h2 oK (by omega)).1,Option.bind_some,x,Option.bind_some,a2,dK]
  exact nx
theorem MW {Ks:List (List Nat)} (h:Ce Ks) (f:Bool) (d:Nat): ∀ {k i:Nat} {s:List Nat×List Nat},i+d=16→B4 s.1→B4 s.2→300+d≤k→
 da.l0 k (Ks.map il) f (il s.1) (il s.2) (i:Int)=some (il (pm ((ro ((bif f then Ks.reverse else Ks).drop i) s).2++(ro ((bif f then Ks.reverse else Ks).drop i) s).1) FP)):=by
 induction d with
 | zero=>
  intro k i s hi h1 h2 hk
  obtain ⟨k,rfl⟩: ∃j,k=j+1:=⟨k-1,by omega⟩
  obtain rfl:i=16:=by omega
  have e:(bif f then Ks.reverse else Ks).drop 16=[]:=List.drop_of_length_le (by cases f<;>simp [h.1])
  have l8:(s.2++s.1).length=8:=by rw [List.length_append,h1.1,h2.1]
  have b8: ∀v∈s.2++s.1,v<256:=fun v hv=>by
   rcases List.mem_append.1 hv with hv | hv
   ·exact h2.2 v hv
   ·exact h1.2 v hv
  have ea:([]:List Int)++il s.2++il s.1=il (s.2++s.1):=by simp [il]
  rw [e,da.l0,if_neg (by decide),(uR (by omega)).2,Option.bind_some,(Gw (by omega)).2,Option.bind_some];unfold gd
  rw [if_pos (by rw [decide_eq_true_eq,ag,h2.1];decide),if_pos (by rw [decide_eq_true_eq,List.length_append,ag,ag,h2.1,h1.1];decide),ea]
  rw [sL b8 (by rw [l8];decide) (by rw [l8];exact Qs) (by omega),Option.bind_some]
  rw [show ro [] s=s from rfl]
 | succ d ih=>
  intro k i s hi h1 h2 hk
  obtain ⟨k,rfl⟩: ∃j,k=j+1:=⟨k-1,by omega⟩
  have a2:ak ((i:Int)+1)=((i+1:Nat):Int):=au (n:=i+1) (by omega)
  cases f with
  | false=>
   obtain ⟨K,oK,eK,dK⟩:=h.at (i:=i) (by omega)
   have nx:=ih (k:=k) (i:=i+1) (s:=(s.2,xL 4 s.1 (FN s.2 K))) (by omega) h2 ⟨jH _ _ _,tc h1.2 (rQ _ _).2⟩ (by omega)
   have x:=(n8 h1.1 (rQ s.2 K).1 (by decide) h1.2 (rQ s.2 K).2 (k:=k) (by omega)).2
   have dK':(bif false then Ks.reverse else Ks).drop i=K::(bif false then Ks.reverse else Ks).drop (i+1):=dK
   rw [da.l0,if_pos (by rw [decide_eq_true_eq];omega),if_neg (by decide)];unfold gd
   rw [if_pos (by rw [decide_eq_true_eq];omega),if_pos (by rw [decide_eq_true_eq,List.length_map,h.1];omega),eK,(MT h2 oK (by omega)).2,Option.bind_some,x,Option.bind_some,a2,dK']
   exact nx
  | true=>
   obtain ⟨K,oK,eK,dK⟩:=h.rev.at (i:=i) (by omega)
   have nx:=ih (k:=k) (i:=i+1) (s:=(s.2,xL 4 s.1 (FN s.2 K))) (by omega) h2 ⟨jH _ _ _,tc h1.2 (rQ _ _).2⟩ (by omega)
   have x:=(n8 h1.1 (rQ s.2 K).1 (by decide) h1.2 (rQ s.2 K).2 (k:=k) (by omega)).2
   have dK':(bif true then Ks.reverse else Ks).drop i=K::(bif true then Ks.reverse else Ks).drop (i+1):=dK
   have Tu:ak (15-(i:Int))=((15-i:Nat):Int):=by rw [cA (by omega) (by omega)];omega
   have eK':rr (Ks.map il) ((15-i:Nat):Int)=il K:=by
    rw [←eK]
    unfold rr
    rw [Int.toNat_natCast,Int.toNat_natCast,List.map_reverse,List.getD_eq_getElem?_getD,List.getD_eq_getElem?_getD,List.getElem?_reverse (by rw [List.length_map,h.1];omega),List.length_map,h.1,show 16-1-i=15-i by omega]
   rw [da.l0,if_pos (by rw [decide_eq_true_eq];omega),if_pos rfl];unfold gd
   rw [Tu,if_pos (by rw [decide_eq_true_eq];omega),if_pos (by rw [decide_eq_true_eq,List.length_map,h.1];omega),eK',(MT h2 oK (by omega)).2,Option.bind_some,x,Option.bind_some,a2,dK']
   exact nx
theorem Gy (l:List Nat) (n:Nat):(il l).take n=il (l.take n):=by simp [il,List.map_take]
theorem Gz (l:List Nat) (n:Nat):(il l).drop n=il (l.drop n):=by simp [il,List.map_drop]
theorem tP {Ks:List (List Nat)} (h:Ce Ks) {p:List Nat} (hp:B8 p) {k:Nat} (hk:400≤k):fK.f k (il p) (Ks.map il)=some (il (te Ks p)):=by
 have l8:(pm p IP).length=8:=lZ _ _
 have t4:decide (4≤((il (pm p IP)).length:Int))=true:=by rw [decide_eq_true_eq,ag,l8];decide
 have e1:((il (pm p IP)).take 4).drop 0=il (hv p).1:=by rw [Gy,List.drop_zero,hv]
 have e2:((il (pm p IP)).take (il (pm p IP)).length).drop 4=il (hv p).2:=by rw [List.take_length,Gz,hv]
 have z:=MV h 16 (k:=k) (i:=0) (s:=hv p) rfl (Cd p).1 (Cd p).2 (by omega)
 unfold fK.f gd
 rw [(uR (by omega)).1,Option.bind_some,rP hp.2 (by rw [hp.1];decide) (by rw [hp.1];exact Qr) (by omega),Option.bind_some,if_pos t4,if_pos t4,e1,e2]
 exact z
theorem Cf {Ks:List (List Nat)} (h:Ce Ks) (f:Bool) {p:List Nat} (hp:B8 p) {k:Nat} (hk:400≤k):da.f k (Ks.map il) (il p) f=some (il (te (bif f then Ks.reverse else Ks) p)):=by
 have l8:(pm p IP).length=8:=lZ _ _
 have t4:decide (4≤((il (pm p IP)).length:Int))=true:=by rw [decide_eq_true_eq,ag,l8];decide
 have e1:((il (pm p IP)).take 4).drop 0=il (hv p).1:=by rw [Gy,List.drop_zero,hv]
 have e2:((il (pm p IP)).take (il (pm p IP)).length).drop 4=il (hv p).2:=by rw [List.take_length,Gz,hv]
 have z:=MW h f 16 (k:=k) (i:=0) (s:=hv p) rfl (Cd p).1 (Cd p).2 (by omega)
 unfold da.f gd
 rw [(uR (by omega)).2,Option.bind_some,sL hp.2 (by rw [hp.1];decide) (by rw [hp.1];exact Qr) (by omega),Option.bind_some,if_pos t4,if_pos t4,e1,e2]
 exact z
theorem K6 {Ks:List (List Nat)} (h:Ce Ks) {k:Nat} (hk:20≤k):aI.f k (([]:List (List Int))++Ks.map il)=some (Ks.reverse.map il):=by
 obtain ⟨j,rfl⟩: ∃j,k=j+20:=⟨k-20,by omega⟩
 rw [List.nil_append,List.map_reverse]
 have l:(Ks.map il).length=16:=by rw [List.length_map];exact h.1
 generalize Ks.map il=L at l
 match L,l with
 | [a0,a1,a2,a3,a4,a5,a6,a7,a8,a9,aa,ab,ac,ad,ae,af],_=>exact Eq.trans (by kernel_rfl) (Eq.refl _)
end Go.Scr.S.Ds
namespace Go.Scr.S
theorem yW (n:Int) (by_:Nat) (h:0<by_) (h1:by_<4611686018427387904):Int.tmod (ak (Int.tmod n (by_:Int)+(by_:Int))) (by_:Int)=((n%(by_:Int)).toNat:Nat):=by
 have e:=Int.tmod_eq_emod (a:=n) (b:=(by_:Int))
 have h2:=Int.emod_nonneg n (show (by_:Int)≠0 by omega)
 have h3:=Int.emod_lt_of_pos n (show (0:Int)<by_ by omega)
 have h4:0≤Int.tmod n (by_:Int)+(by_:Int)∧Int.tmod n (by_:Int)+(by_:Int)<2*by_:=by rw [e];split<;>omega
 rw [cA (by omega) (by omega),Int.tmod_eq_emod_of_nonneg h4.1,e]
 split
 ·rw [show n%(by_:Int)-((0:Nat):Int)+(by_:Int)=n%(by_:Int)+(by_:Int) by omega,Int.add_emod_right,Int.emod_emod];omega
 ·rw [Int.natAbs_natCast]
  rw [show n%(by_:Int)-(by_:Int)+(by_:Int)=n%(by_:Int) by omega,Int.emod_emod];omega
theorem yX {k:Nat} (n:Int) {b:Nat} (h:0<b) (h1:b<4611686018427387904):i7.f k n (b:Int)=some (((n%(b:Int)).toNat:Nat):Int):=by
 unfold i7.f gb
 rw [if_pos (by simp;omega),if_pos (by simp;omega),yW n b h h1]
def kz (a s:Nat):Nat:=((a <<< s)%4294967296) ||| (a >>> (32-s))
theorem jD {a s:Nat} (ha:a<4294967296):kz a s<4294967296:=by
 refine Nat.or_lt_two_pow (n:=32) (by omega) ?_
 rw [Nat.shiftRight_eq_div_pow];exact Nat.lt_of_le_of_lt (Nat.div_le_self _ _) ha
theorem j0 {a k:Nat} (ha:a<4294967296) (n:Int):bF.f k (a:Int) n=some ((kz a (n%32).toNat:Nat):Int):=by
 unfold bF.f gd
 have e2:=yX (k:=k) n (b:=32) (by decide) (by decide)
 simp only [Int.cast_ofNat_Int] at e2
 have h3:=Int.emod_lt_of_pos n (show (0:Int)<32 by decide)
 obtain ⟨s,es⟩: ∃s,s=(n%32).toNat:=⟨_,rfl⟩
 have hs:s<32:=by omega
 rw [e2,←es]
 clear e2 es h3
 simp only [Option.bind_some]
 have u1:kX (s:Int)=(s:Int):=lR (by omega) (by omega)
 have u2:kX (32-(s:Int))=((32-s:Nat):Int):=by rw [lR (by omega) (by omega)];omega
 have e1:lG .u32 (a:Int) (s:Int)=(((a <<< s)%4294967296:Nat):Int):=by
  show shl .u32 _ (min ((s:Int)).toNat 32)=_
  rw [yT,Int.toNat_natCast,Nat.min_eq_left (by omega)]
 have e4:mM .u32 (a:Int) ((32-s:Nat):Int)=((a >>> (32-s):Nat):Int):=by
  show shr _ (min (((32-s:Nat):Int)).toNat 32)=_
  rw [gW];congr 2;rw [Int.toNat_natCast];omega
 have hY:a >>> (32-s)<4294967296:=by rw [Nat.shiftRight_eq_div_pow];exact Nat.lt_of_le_of_lt (Nat.div_le_self _ _) ha
 have e3:=I7 (a:=(a <<< s)%4294967296) (by omega) hY
 rw [u1,u2,if_pos (by rw [decide_eq_true_eq];omega),if_pos (by rw [decide_eq_true_eq];omega),e1,e4,e3];rfl
theorem yY {k:Nat} (n:Int) {b:Nat} (h:0<b) (h1:b<4611686018427387904):gr.f k n (b:Int)=some (((n%(b:Int)).toNat:Nat):Int):=by
 unfold gr.f gb
 rw [if_pos (by simp;omega),if_pos (by simp;omega),yW n b h h1]
theorem kC {a k:Nat} (ha:a<4294967296) (n:Int):aH.f k (a:Int) n=some ((kz a (n%32).toNat:Nat):Int):=by
 unfold aH.f gd
 have e2:=yY (k:=k) n (b:=32) (by decide) (by decide)
 simp only [Int.cast_ofNat_Int] at e2
 have h3:=Int.emod_lt_of_pos n (show (0:Int)<32 by decide)
 obtain ⟨s,es⟩: ∃s,s=(n%32).toNat:=⟨_,rfl⟩
 have hs:s<32:=by omega
 rw [e2,←es]
 clear e2 es h3
 simp only [Option.bind_some]
 have u1:kX (s:Int)=(s:Int):=lR (by omega) (by omega)
 have u2:kX (32-(s:Int))=((32-s:Nat):Int):=by rw [lR (by omega) (by omega)];omega
 have e1:lG .u32 (a:Int) (s:Int)=(((a <<< s)%4294967296:Nat):Int):=by
  show shl .u32 _ (min ((s:Int)).toNat 32)=_
  rw [yT,Int.toNat_natCast,Nat.min_eq_left (by omega)]
 have e4:mM .u32 (a:Int) ((32-s:Nat):Int)=((a >>> (32-s):Nat):Int):=by
  show shr _ (min (((32-s:Nat):Int)).toNat 32)=_
  rw [gW];congr 2;rw [Int.toNat_natCast];omega
 have hY:a >>> (32-s)<4294967296:=by rw [Nat.shiftRight_eq_div_pow];exact Nat.lt_of_le_of_lt (Nat.div_le_self _ _) ha
 have e3:=I7 (a:=(a <<< s)%4294967296) (by omega) hY
 rw [u1,u2,if_pos (by rw [decide_eq_true_eq];omega),if_pos (by rw [decide_eq_true_eq];omega),e1,e4,e3];rfl
def wa (x y:Nat):Nat:=(x+y)%4294967296
def ws (x y:Nat):Nat:=(x+(4294967296-y))%4294967296
theorem kD (z:Int):fv z=z%4294967296:=by simp [fv,IntKind.wrap,IntKind.bits,IntKind.signed]
theorem fL (x y:Nat):fv ((x:Int)+(y:Int))=((wa x y:Nat):Int):=by rw [←Int.natCast_add,kI];rfl
theorem ln {x y:Nat} (hy:y<4294967296):fv ((x:Int)-(y:Int))=((ws x y:Nat):Int):=by
 rw [kD];unfold ws;omega
theorem gk (x y:Nat):wa x y<4294967296:=Nat.mod_lt _ (by decide)
theorem m5 (x y:Nat):ws x y<4294967296:=Nat.mod_lt _ (by decide)
theorem ve {x y:Nat} (hx:x<4294967296) (hy:y<4294967296):x ^^^ y<4294967296:=Nat.xor_lt_two_pow (n:=32) hx hy
theorem Qt {a b:Nat} (ha:a<4294967296) (hb:b<4294967296):iT .u32 (a:Int) (b:Int)=((a &&& b:Nat):Int):=by
 rw [Gq (by simpa [IntKind.bits] using ha) (by simpa [IntKind.bits] using hb)]
 exact (kI _).trans (by rw [Nat.mod_eq_of_lt (Nat.lt_of_le_of_lt Nat.and_le_left ha)])
theorem Sp (x:Nat):x &&& 3=x%4:=Nat.and_two_pow_sub_one_eq_mod x 2
theorem Qu (x:Nat):x &&& 15=x%16:=Nat.and_two_pow_sub_one_eq_mod x 4
theorem RT {a:Nat} (ha:a<4294967296):iT .u32 (a:Int) 3=((a%4:Nat):Int):=by
 have:=Qt (b:=3) ha (by decide)
 rw [Sp] at this;exact this
theorem Qv {a:Nat} (ha:a<4294967296):iT .u32 (a:Int) 15=((a%16:Nat):Int):=by
 have:=Qt (b:=15) ha (by decide)
 rw [Qu] at this;exact this
theorem rR {l:List Nat} (hl: ∀x∈l,x<4294967296) (i:Nat):l.getD i 0<4294967296:=by
 rw [List.getD_eq_getElem?_getD]
 cases e:l[i]? with
 | none=>decide
 | some x=>exact hl x (List.mem_of_getElem? e)
theorem nv (a:List Nat) (n:Nat):(il a).take n=il (a.take n):=by simp [il,List.map_take]
theorem tQ (a:List Nat) (n:Nat):(il a).drop n=il (a.drop n):=by simp [il,List.map_drop]
theorem gF (a b:List Nat):il (a++b)=il a++il b:=by simp [il]
end Go.Scr.S
namespace Go.Scr.S.Sm
def Qw:List (List Nat):=[[12,4,6,2,10,5,11,9,14,8,13,7,0,3,15,1],[6,8,2,3,9,10,5,12,1,14,4,7,11,13,0,15],[11,3,5,8,2,15,10,13,14,1,7,4,12,9,6,0],[12,8,2,1,13,4,15,6,7,0,10,5,3,14,9,11],
 [7,15,5,10,8,1,6,13,0,9,3,14,11,4,2,12],[5,13,15,6,9,2,12,10,11,7,8,1,4,3,14,0],[8,14,2,5,6,9,1,12,15,4,11,0,13,10,3,7],[1,7,14,13,0,5,8,3,4,15,10,6,9,12,11,2]]
def mT (i d:Nat):Nat:=(Qw.getD i []).getD d 0
theorem GA: ∀i,i<8→ ∀d,d<16→mT i d<16:=by decide
def ac (x:Nat):Nat→Nat
 | 0=>0
 | i+1=>ac x i+mT i (x/16^i%16)*16^i
theorem Cg (x:Nat): ∀i,i≤8→ac x i<16^i
 | 0,_=>by simp [ac]
 | i+1,h=>by
  have h1:=Cg x i (by omega)
  have h2:=GA i (by omega) (x/16^i%16) (Nat.mod_lt _ (by decide))
  show ac x i+mT i (x/16^i%16)*16^i<16^(i+1)
  rw [Nat.pow_succ]
  have h3:(mT i (x/16^i%16)+1)*16^i≤16*16^i:=Nat.mul_le_mul_right _ (by omega)
  rw [Nat.add_mul,Nat.one_mul] at h3
  omega
theorem MX (x:Nat):ac x 8<4294967296:=Cg x 8 (by decide)
def gN (x:Nat):Nat:=kz (ac x 8) 11
theorem GB (x:Nat):gN x<4294967296:=jD (MX x)
theorem Ch (x i:Nat):x >>> (4*i)=x/16^i:=by
 rw [Nat.shiftRight_eq_div_pow,Nat.pow_mul]
theorem GE {a t i:Nat} (ha:a<16^i):a ||| t <<< (4*i)=a+t*16^i:=by
 rw [Nat.or_comm,←Nat.shiftLeft_add_eq_or_of_lt (by rw [Nat.pow_mul];exact ha),Nat.shiftLeft_eq,Nat.pow_mul,Nat.add_comm]
theorem GF {a n:Nat} (hn:n<32):mM .u32 (a:Int) (n:Int)=((a >>> n:Nat):Int):=by
 show shr _ (min _ 32)=_
 rw [Int.toNat_natCast,Nat.min_eq_left (by omega),gW]
theorem GH {a n:Nat} (hn:n<32):lG .u32 (a:Int) (n:Int)=(((a <<< n)%4294967296:Nat):Int):=by
 show shl .u32 _ (min _ 32)=_
 rw [Int.toNat_natCast,Nat.min_eq_left (by omega),yT]
def uS:List ByteArray:=match jM.f 0 with | some l=>l | none=>[]
theorem Jd {k:Nat}:jM.f k=some uS:=rfl
theorem GI: ∀i:Nat,i<8→(tz uS (i:Int)).size=16:=by decide+kernel
theorem GJ: ∀i:Nat,i<8→ ∀d:Nat,d<16→jr.f 0 (sb (tz uS (i:Int)) (d:Int))=some ((mT i d:Nat):Int):=by decide+kernel
theorem MY {k:Nat} (a:Int):jr.f k a=jr.f 0 a:=rfl
theorem Qx {x y:Nat} (z:Nat) (hz:wa x y=z) (d:Nat) {k i:Nat} (hk:d<k) (hi:i+d=8):iD.l0 k (x:Int) (y:Int) uS ((ac z i:Nat):Int) (i:Int)=some ((gN z:Nat):Int):=by
 have hzl:z<4294967296:=hz▸gk x y
 induction d generalizing k i with
 | zero=>
  obtain ⟨k,rfl⟩: ∃q,k=q+1:=⟨k-1,by omega⟩
  have:i=8:=by omega
  subst this
  have:=j0 (k:=k) (MX z) 11
  (rw [iD.l0];unfold gd;rw [if_neg (by decide),this]);rfl
 | succ d ih=>
  obtain ⟨k,rfl⟩: ∃q,k=q+1:=⟨k-1,by omega⟩
  have a1:ak (4*(i:Int))=((4*i:Nat):Int):=au (n:=4*i) (by omega)
  have a2:ak ((i:Int)+1)=((i+1:Nat):Int):=au (n:=i+1) (by omega)
  have a3:iT .u32 (mM .u32 (fv ((x:Int)+(y:Int))) ((4*i:Nat):Int)) 15=((z/16^i%16:Nat):Int):=by
   rw [fL,hz,GF (by omega),Qv (Nat.lt_of_le_of_lt (Nat.shiftRight_le _ _) hzl),Ch]
  have hd:z/16^i%16<16:=Nat.mod_lt _ (by decide)
  have a4:=GJ i (by omega) (z/16^i%16) hd
  have a5:=GI i (by omega)
  have ht:=GA i (by omega) _ hd
  have hacl:=Cg z i (by omega)
  have hp:16^i*16≤4294967296:=by
   have:16^(i+1)≤16^8:=Nat.pow_le_pow_right (by decide) (by omega)
   rw [Nat.pow_succ] at this;omega
  have hmul:mT i (z/16^i%16)*16^i<4294967296:=by
   have:mT i (z/16^i%16)*16^i≤15*16^i:=Nat.mul_le_mul_right _ (by omega)
   omega
  have hsh:mT i (z/16^i%16) <<< (4*i)=mT i (z/16^i%16)*16^i:=by rw [Nat.shiftLeft_eq,Nat.pow_mul]
  have a6:rm .u32 ((ac z i:Nat):Int) (lG .u32 ((mT i (z/16^i%16):Nat):Int) ((4*i:Nat):Int))=((ac z (i+1):Nat):Int):=by
   rw [GH (by omega),hsh,Nat.mod_eq_of_lt hmul,I7 (by omega) hmul,←hsh,GE hacl];rfl
  have d1: ∀n:Nat,decide (0≤(n:Int))=true:=fun n=>by rw [decide_eq_true_eq];omega
  have d2:decide ((i:Int)<8)=true:=by rw [decide_eq_true_eq];omega
  have d3:decide (((z/16^i%16:Nat):Int)<((tz uS (i:Int)).size:Int))=true:=by rw [decide_eq_true_eq,a5];omega
  simp only [iD.l0,gd,d1,d2,if_true,a1,a3,Option.bind_some,d3,MY,a4,a6,a2]
  exact ih (by omega) (by omega)
theorem Qy {x y k:Nat} (hk:10≤k):iD.f k (x:Int) (y:Int)=some ((gN (wa x y):Nat):Int):=by
 unfold iD.f
 rw [Jd,Option.bind_some]
 exact Qx (wa x y) rfl 8 (i:=0) (by omega) (by omega)
theorem Je {k i:Nat} (hi:i<8):ip.f k (i:Int)=some (tz uS (i:Int)):=by
 (unfold ip.f;simp only [gd,Option.bind_some,List.length_cons,List.length_nil])
 rw [if_pos (by rw [decide_eq_true_eq];omega),if_pos (by rw [decide_eq_true_eq];omega)];rfl
theorem MZ: ∀i:Nat,i<8→ ∀d:Nat,d<16→eo.f 0 (tz uS (i:Int)) (d:Int)=some ((mT i d:Nat):Int):=by decide+kernel
theorem Sq {k:Nat} (s:ByteArray) (a:Int):eo.f k s a=eo.f 0 s a:=rfl
theorem Qz {x y:Nat} (z:Nat) (hz:wa x y=z) (d:Nat) {k i:Nat} (hk:d<k) (hi:i+d=8):dG.l0 k (x:Int) (y:Int) ((ac z i:Nat):Int) (i:Int)=some ((gN z:Nat):Int):=by
 have hzl:z<4294967296:=hz▸gk x y
 induction d generalizing k i with
 | zero=>
  obtain ⟨k,rfl⟩: ∃q,k=q+1:=⟨k-1,by omega⟩
  have:i=8:=by omega
  subst this
  have:=kC (k:=k) (MX z) 11
  (rw [dG.l0];(try dsimp only [gd,gb,Option.bind_some]);rw [if_neg (by decide),this]);rfl
 | succ d ih=>
  obtain ⟨k,rfl⟩: ∃q,k=q+1:=⟨k-1,by omega⟩
  have a1:kX (ak (4*(i:Int)))=((4*i:Nat):Int):=by
   have:ak (4*(i:Int))=((4*i:Nat):Int):=au (n:=4*i) (by omega)
   rw [this,po,Nat.mod_eq_of_lt (by omega)]
  have a2:ak ((i:Int)+1)=((i+1:Nat):Int):=au (n:=i+1) (by omega)
  have hd:z/16^i%16<16:=Nat.mod_lt _ (by decide)
  have a3:ak (iT .u32 (mM .u32 (fv ((x:Int)+(y:Int))) ((4*i:Nat):Int)) 15)=((z/16^i%16:Nat):Int):=by
   rw [fL,hz,GF (by omega),Qv (Nat.lt_of_le_of_lt (Nat.shiftRight_le _ _) hzl),Ch,au (by omega)]
  have a4:=MZ i (by omega) (z/16^i%16) hd
  have ht:=GA i (by omega) _ hd
  have hacl:=Cg z i (by omega)
  have hp:16^i*16≤4294967296:=by
   have:16^(i+1)≤16^8:=Nat.pow_le_pow_right (by decide) (by omega)
   rw [Nat.pow_succ] at this;omega
  have hmul:mT i (z/16^i%16)*16^i<4294967296:=by
   have:mT i (z/16^i%16)*16^i≤15*16^i:=Nat.mul_le_mul_right _ (by omega)
   omega
  have hsh:mT i (z/16^i%16) <<< (4*i)=mT i (z/16^i%16)*16^i:=by rw [Nat.shiftLeft_eq,Nat.pow_mul]
  have a6:rm .u32 ((ac z i:Nat):Int) (lG .u32 (fv ((mT i (z/16^i%16):Nat):Int)) ((4*i:Nat):Int))=((ac z (i+1):Nat):Int):=by
   rw [kI,Nat.mod_eq_of_lt (by omega),GH (by omega),hsh,Nat.mod_eq_of_lt hmul,I7 (by omega) hmul,←hsh,GE hacl];rfl
  (rw [dG.l0];(try dsimp only [gd,gb,Option.bind_some]);rw [if_pos (by rw [decide_eq_true_eq];omega),Je (by omega)];(try rw [Option.bind_some]);rw [a1,if_pos (by rw [decide_eq_true_eq];omega),a3];(try rw [Option.bind_some]);rw [Sq,a4];(try rw [Option.bind_some]);rw [if_pos (by rw [decide_eq_true_eq];omega),a6];(try rw [Option.bind_some]);rw [a2])
  exact ih (by omega) (by omega)
theorem Ci {x y k:Nat} (hk:10≤k):dG.f k (x:Int) (y:Int)=some ((gN (wa x y):Nat):Int):=by
 (unfold dG.f;(try dsimp only [gd,gb,Option.bind_some]))
 exact Qz (wa x y) rfl 8 (i:=0) (by omega) (by omega)
end Go.Scr.S.Sm
namespace Go.Scr.S
def jk (l:List Nat):Nat:=l.foldl (fun v b=>v*256+b) 0
theorem QA {l:List Nat} {i:Nat} (h:i<l.length):rd (il l) (i:Int)=((l[i]:Nat):Int):=by
 unfold rd il;rw [Int.toNat_natCast,List.getD_eq_getElem?_getD,List.getElem?_map,List.getElem?_eq_getElem h];rfl
theorem vV (l:List Nat) (b:Nat):jk (l++[b])=jk l*256+b:=by simp [jk]
theorem rS (l:List Nat) (h: ∀x∈l,x<256):jk l<256^l.length:=by
 suffices H: ∀m:List Nat,(∀x∈m,x<256)→jk m.reverse<256^m.length by
  have:=H l.reverse (fun x hx=>h x (by simpa using hx));simpa using this
 intro m hm
 induction m with
 | nil=>decide
 | cons b m ih=>
  rw [List.reverse_cons,vV,List.length_cons,Nat.pow_succ]
  have h1:=ih (fun x hx=>hm x (by simp [hx]));have h2:=hm b (by simp)
  generalize 256^m.length=p at*
  omega
theorem Jf {l:List Nat} (hl: ∀x∈l,x<256) (h8:l.length≤8) (d:Nat) {k i:Nat} (hi:i+d=l.length) (hk:d<k):
 ez.l0 k (il l) ((jk (l.take i):Nat):Int) (i:Int)=some ((jk l:Nat):Int):=by
 induction d generalizing k i with
 | zero=>
  obtain ⟨k,rfl⟩: ∃j,k=j+1:=⟨k-1,by omega⟩
  simp only [ez.l0,gd]
  rw [ag,if_neg (by simp;omega),List.take_of_length_le (by omega)]
 | succ d ih=>
  obtain ⟨k,rfl⟩: ∃j,k=j+1:=⟨k-1,by omega⟩
  have hlt:i<l.length:=by omega
  have hb:l[i]<256:=hl _ (List.getElem_mem _)
  have h1:=rS (l.take i) (fun x hx=>hl x (List.mem_of_mem_take hx))
  have h2:jk (l.take i)<256^7:=Nat.lt_of_lt_of_le h1 (Nat.pow_le_pow_right (by decide) (by simp;omega))
  have h3:jk (l.take i) <<< 8<18446744073709551616:=by rw [Nat.shiftLeft_eq];omega
  have e1:shl .u64 ((jk (l.take i):Nat):Int) 8=((jk (l.take i) <<< 8:Nat):Int):=by rw [K5,Nat.mod_eq_of_lt h3]
  have e2:kX ((l[i]:Nat):Int)=((l[i]:Nat):Int):=lR (by omega) (by omega)
  have e3:=Ql h3 (b:=l[i]) (by omega)
  have e4:jk (l.take i) <<< 8 ||| l[i]=jk (l.take (i+1)):=by
   rw [List.take_succ_eq_append_getElem hlt,vV,←Nat.shiftLeft_add_eq_or_of_lt (by omega:l[i]<2^8),Nat.shiftLeft_eq]
  have e5:ak ((i:Int)+1)=((i+1:Nat):Int):=by rw [cA (by omega) (by omega)];simp
  simp only [ez.l0,gd]
  rw [ag,if_pos (by simp;omega),if_pos (by simp),if_pos (by simp;omega),QA hlt,e1,e2,e3,e4,e5]
  exact ih (by omega) (by omega)
theorem tR {l:List Nat} {k:Nat} (hl: ∀x∈l,x<256) (h8:l.length≤8) (hk:8<k):ez.f k (il l)=some ((jk l:Nat):Int):=Jf hl h8 l.length (i:=0) (by omega) (by omega)
theorem xc {l:List Nat} {k:Nat} (hl: ∀x∈l,x<256) (h4:l.length=4) (hk:8<k):iw.f k (il l)=some (((jk l:Nat):Int),true):=by
 unfold iw.f
 rw [ag,h4,if_neg (by decide),tR hl (by omega) hk]
 have:=rS l hl;rw [h4] at this
 show some _=_
 rw [MQ (by omega) (by omega)]
def vW (v n:Nat):List Nat:=(List.range n).map fun j=>(v >>> (8*(n-1-j)))%256
def Fd (F:Nat→Int) (n i:Nat) (x:List Int):Prop:=x.length=n∧ ∀j,i≤j→j<n→x[j]? =some (F j)
theorem Fd.set {F:Nat→Int} {n i:Nat} {x:List Int} (h:Fd F n (i+1) x) (hi:i<n) {v:Int} (hv:v=F i):Fd F n i (x.set i v):=by
 refine ⟨by rw [List.length_set];exact h.1,fun j hj hjn=> ?_⟩
 rw [List.getElem?_set]
 by_cases e:i=j
 ·subst e;rw [if_pos rfl,if_pos (by rw [h.1];exact hi),hv]
 ·rw [if_neg e];exact h.2 j (by omega) hjn
theorem GK (v n:Nat) (hn:n<1000) (i:Nat) {k:Nat} {x:List Int} (hi:i≤n) (hk:i<k) (hx:Fd (fun j=>(((v >>> (8*(n-1-j)))%256:Nat):Int)) n i x):
 dW.l0 k ((v >>> (8*(n-i)):Nat):Int) x (i:Int)=some (il (vW v n)):=by
 induction i generalizing k x with
 | zero=>
  obtain ⟨k,rfl⟩: ∃j,k=j+1:=⟨k-1,by omega⟩
  have c0:decide (((0:Nat):Int)>0)=false:=by decide
  simp only [dW.l0,c0,Bool.false_eq_true,if_false,gd]
  unfold vW
  rw [nR]
  have:Fl (fun j=>(((v >>> (8*(n-1-j)))%256:Nat):Int)) n n x:=⟨hx.1,fun j hj=>hx.2 j (Nat.zero_le _) hj⟩
  rw [this.done]
 | succ i ih=>
  obtain ⟨k,rfl⟩: ∃j,k=j+1:=⟨k-1,by omega⟩
  have e1:ak (((i+1:Nat):Int)-1)=(i:Int):=by rw [cA (by omega) (by omega)];omega
  have c0:decide (((i+1:Nat):Int)>0)=true:=by rw [decide_eq_true_eq];omega
  have c1:decide (0≤(i:Int))=true:=by rw [decide_eq_true_eq];omega
  have c2:decide ((i:Int)<(x.length:Int))=true:=by rw [decide_eq_true_eq,hx.1];omega
  have e2:shr ((v >>> (8*(n-(i+1))):Nat):Int) 8=((v >>> (8*(n-i)):Nat):Int):=by
   rw [gW,←Nat.shiftRight_add];congr 2;omega
  simp only [dW.l0,c0,c1,c2,e1,e2,if_true,Int.toNat_natCast,iR,gd]
  refine ih (by omega) (by omega) (hx.set (by omega) ?_)
  show _=(((v >>> (8*(n-1-i)))%256:Nat):Int)
  congr 4;omega
theorem GL (v n:Nat) (hn:n<1000) {k:Nat} (hk:n<k):dW.f k (v:Int) (n:Int)=some (il (vW v n)):=by
 unfold dW.f gd
 rw [if_pos (by rw [decide_eq_true_eq];omega),if_pos (by rw [decide_eq_true_eq];omega)]
 have:=GK v n hn n (k:=k) (x:=List.replicate ((n:Int)).toNat 0) (Nat.le_refl _) hk ⟨by simp,fun j h1 h2=>by omega⟩
 rw [Nat.sub_self,Nat.mul_zero,Nat.shiftRight_zero] at this
 exact this
theorem pt (v:Nat) (hv:v<4294967296) {k:Nat} (hk:4<k):fX.f k (v:Int)=some (il (vW v 4)):=by
 unfold fX.f
 have e:kX (v:Int)=(v:Int):=lR (by omega) (by omega)
 have:=GL v 4 (by decide) hk
 simp only [Int.cast_ofNat_Int] at this
 rw [e,this];rfl
theorem ri (v:Nat):vW v 4=[v >>> 24%256,v >>> 16%256,v >>> 8%256,v%256]:=rfl
theorem mP (v n:Nat):(vW v n).length=n:=by simp [vW]
theorem M0 (v n:Nat): ∀x∈vW v n,x<256:=by
 intro x hx;unfold vW at hx;obtain ⟨j,_,rfl⟩:=List.mem_map.1 hx;omega
theorem xd (a b:List Nat):il a++il b=il (a++b):=by simp [il]
end Go.Scr.S
namespace Go.Scr.S.Sm
def W (b:Bool):List Nat→List Nat
 | x::y::z::w::r=>(if b then jk [w,z,y,x] else jk [x,y,z,w])::W b r
 | _=>[]
theorem four {l:List Nat} {n:Nat} (h:l.length=4*(n+1)): ∃x y z w r,l=x::y::z::w::r∧r.length=4*n:=by
 match l,h with
 | x::y::z::w::r,h=>exact ⟨x,y,z,w,r,rfl,by simp at h;omega⟩
 | [],h=>simp only [List.length_cons,List.length_nil] at h;omega
 | [_],h=>simp only [List.length_cons,List.length_nil] at h;omega
 | [_,_],h=>simp only [List.length_cons,List.length_nil] at h;omega
 | [_,_,_],h=>simp only [List.length_cons,List.length_nil] at h;omega
theorem jO (b:Bool): ∀(n:Nat) (l:List Nat),l.length=4*n→(W b l).length=n
 | 0,l,h=>by have:l=[]:=List.eq_nil_of_length_eq_zero (by omega);subst this;rfl
 | n+1,l,h=>by
  obtain ⟨x,y,z,w,r,rfl,hr⟩:=four h
  simp only [W,List.length_cons,jO b n r hr]
theorem yZ {x y z w:Nat} (hx:x<256) (hy:y<256) (hz:z<256) (hw:w<256):jk [x,y,z,w]<4294967296:=by
 simp only [jk,List.foldl];omega
theorem DZ (b:Bool): ∀(n:Nat) (l:List Nat),l.length=4*n→(∀x∈l,x<256)→ ∀x∈W b l,x<4294967296
 | 0,l,h,_=>by have:l=[]:=List.eq_nil_of_length_eq_zero (by omega);subst this;simp [W]
 | n+1,l,h,hl=>by
  obtain ⟨x,y,z,w,r,rfl,hr⟩:=four h
  have hx:=hl x (by simp);have hy:=hl y (by simp);have hz:=hl z (by simp);have hw:=hl w (by simp)
  intro v hv
  rcases List.mem_cons.1 hv with rfl | hv
  ·cases b
   ·exact yZ hx hy hz hw
   ·exact yZ hw hz hy hx
  ·exact DZ b n r hr (fun x hx=>hl x (by simp [hx])) v hv
theorem rT {k:Nat} (x y z w:Int) (hk:10≤k):dQ.f k [x,y,z,w]=some [w,z,y,x]:=by
 obtain ⟨j,rfl⟩: ∃j,k=j+10:=⟨k-10,by omega⟩
 kernel_rfl
theorem QB {x y z w k:Nat} (hx:x<256) (hy:y<256) (hz:z<256) (hw:w<256) (hk:10≤k):fj.f k (il [x,y,z,w])=some (((jk [w,z,y,x]:Nat):Int),true):=by
 unfold fj.f
 have:=rT (k:=k) (x:Int) (y:Int) (z:Int) (w:Int) hk
 show (dQ.f k [(x:Int),(y:Int),(z:Int),(w:Int)]).bind _=_
 rw [this,Option.bind_some]
 have q:iw.f k [(w:Int),(z:Int),(y:Int),(x:Int)]=some (((jk [w,z,y,x]:Nat):Int),true):=xc (l:=[w,z,y,x]) (k:=k) (by intro v hv;simp at hv;omega) rfl (by omega)
 rw [q];rfl
theorem vX (b:Bool): ∀(n:Nat) (l acc:List Nat) (k:Nat),l.length=4*n→(∀x∈l,x<256)→acc.length+n<1000→n+12<k→cY.l0 k b (il l) (il acc)=some (il (acc++W b l))
 | 0,l,acc,k,h,_,_,hk=>by
  obtain ⟨k,rfl⟩: ∃j,k=j+1:=⟨k-1,by omega⟩
  have:l=[]:=List.eq_nil_of_length_eq_zero (by omega)
  subst this
  (rw [cY.l0];unfold gd;rw [if_neg (by decide)]);simp [W]
 | n+1,l,acc,k,h,hl,ha,hk=>by
  obtain ⟨k,rfl⟩: ∃j,k=j+1:=⟨k-1,by omega⟩
  obtain ⟨x,y,z,w,r,rfl,hr⟩:=four h
  have hx:=hl x (by simp);have hy:=hl y (by simp);have hz:=hl z (by simp);have hw:=hl w (by simp)
  have e0:(il (x::y::z::w::r)).take 4=il [x,y,z,w]:=rfl
  have e1:(il (x::y::z::w::r)).drop 4=il r:=rfl
  have b1:=xc (l:=[x,y,z,w]) (k:=k) (by intro v hv;simp at hv;omega) rfl (by omega)
  have b2:=QB (k:=k) hx hy hz hw (by omega)
  have c0:decide (((il (x::y::z::w::r)).length:Int)≥4)=true:=by rw [decide_eq_true_eq,ag];simp only [List.length_cons];omega
  have c1:decide (4≤((il (x::y::z::w::r)).length:Int))=true:=c0
  have c2: ∀v:Int,decide ((il acc).length+[v].length≤1000000000)=true:=fun v=>by rw [decide_eq_true_eq,ag];simp only [List.length_cons,List.length_nil];omega
  have ih:=fun v=>vX b n r (acc++[v]) k hr (fun x hx=>hl x (by simp [hx])) (by simp;omega) (by omega)
  (rw [cY.l0];unfold gd;rw [if_pos c0,if_pos c1,e0,b1,Option.bind_some])
  cases b with
  | false=>
   rw [if_neg (by decide),if_pos (c2 _),if_pos c1,e1]
   have:=ih (jk [x,y,z,w])
   rw [gF] at this
   refine Eq.trans this ?_
   simp [W]
  | true=>
   rw [if_pos rfl,if_pos c1,b2,Option.bind_some,if_pos (c2 _),if_pos c1,e1]
   have:=ih (jk [w,z,y,x])
   rw [gF] at this
   refine Eq.trans this ?_
   simp [W]
theorem nC (b:Bool) {n:Nat} {l:List Nat} {k:Nat} (h:l.length=4*n) (hl: ∀x∈l,x<256) (hn:n<100) (hk:120≤k):cY.f k (il l) b=some (il (W b l)):=by
 unfold cY.f
 exact vX b n l [] k h hl (by simp;omega) (by omega)
theorem y7 {k:Nat} (a b c d e f g h:Int) (hk:60≤k):ai.f k [[a,b,c,d],[e,f,g,h]]=some [a,b,c,d,e,f,g,h]:=by
 obtain ⟨j,rfl⟩: ∃j,k=j+60:=⟨k-60,by omega⟩
 kernel_rfl
theorem Cj {v w k:Nat} (hv:v<4294967296) (hw:w<4294967296) (hk:60≤k):eh.f k (v:Int) (w:Int) false=some (il (vW v 4++vW w 4)):=by
 unfold eh.f
 have c:=y7 (k:=k) ((v >>> 24%256:Nat):Int) ((v >>> 16%256:Nat):Int) ((v >>> 8%256:Nat):Int) ((v%256:Nat):Int) ((w >>> 24%256:Nat):Int) ((w >>> 16%256:Nat):Int) ((w >>> 8%256:Nat):Int) ((w%256:Nat):Int) hk
 rw [if_neg (by decide),pt v hv (by omega),Option.bind_some,pt w hw (by omega),Option.bind_some,ri,ri]
 refine Eq.trans (?_:_=(ai.f k _).bind fun Sr=>some Sr) ((congrArg (fun o:Option (List Int)=>o.bind fun Sr=>some Sr) c).trans rfl)
 rfl
theorem Ss {m:List Nat} (h:m.length=16) (hm: ∀x∈m,x<256) {k:Nat} (hk:120≤k):ig.f k 4 (il m)=some (some (il (W false m),4),0):=by
 have l:=nC false (n:=4) (k:=k) (by omega) hm (by decide) hk
 unfold ig.f
 rw [if_pos (by decide),if_neg (by rw [ag,h];decide),show ((4:Int)==8)=false from by decide,l,Option.bind_some,if_neg (by decide)]
theorem Su {m:List Nat} (h:m.length=32) (hm: ∀x∈m,x<256) {k:Nat} (hk:120≤k):ig.f k 5 (il m)=some (some (il (W false m),5),0):=by
 have l:=nC false (n:=8) (k:=k) (by omega) hm (by decide) hk
 unfold ig.f
 rw [if_neg (by decide),if_neg (by decide),if_pos (by decide),if_neg (by rw [ag,h];decide),show ((5:Int)==8)=false from by decide,l,Option.bind_some,if_neg (by decide)]
def st (x s:Nat):Nat:=((x <<< 4%4294967296 ^^^ x >>> 5)+x)%4294967296 ^^^ s
theorem rU {x s:Nat} (hs:s<4294967296):st x s<4294967296:=ve (Nat.mod_lt _ (by decide)) hs
def kA (K:List Nat) (s:Nat):Nat:=wa s (K.getD (s%4) 0)
def kB (K:List Nat) (s:Nat):Nat:=wa s (K.getD ((s >>> 11)%4) 0)
def m6:Nat:=2654435769
def RU (K:List Nat) (s:Nat) (p:Nat×Nat):Nat×Nat:=(wa p.1 (st p.2 (kA K s)),wa p.2 (st (wa p.1 (st p.2 (kA K s))) (kB K (wa s m6))))
def RV (K:List Nat) (s:Nat) (p:Nat×Nat):Nat×Nat:=(ws p.1 (st (ws p.2 (st p.1 (kB K s))) (kA K (ws s m6))),ws p.2 (st p.1 (kB K s)))
def fw (K:List Nat):Nat→Nat→Nat×Nat→Nat×Nat
 | 0,_,p=>p
 | n+1,s,p=>fw K n (wa s m6) (RU K s p)
def bk (K:List Nat):Nat→Nat→Nat×Nat→Nat×Nat
 | 0,_,p=>p
 | n+1,s,p=>bk K n (ws s m6) (RV K s p)
def pI (p:Nat×Nat):Int×Int:=((p.1:Int),(p.2:Int))
def Wd (p:Nat×Nat):Prop:=p.1<4294967296∧p.2<4294967296
theorem Ab (K:List Nat) (s:Nat) (p:Nat×Nat):Wd (RU K s p):=⟨gk _ _,gk _ _⟩
theorem Ac (K:List Nat) (s:Nat) (p:Nat×Nat):Wd (RV K s p):=⟨m5 _ _,m5 _ _⟩
theorem K7 (K:List Nat): ∀n s p,Wd p→Wd (fw K n s p)
 | 0,_,_,h=>h
 | n+1,s,p,_=>K7 K n _ _ (Ab K s p)
theorem K8 (K:List Nat): ∀n s p,Wd p→Wd (bk K n s p)
 | 0,_,_,h=>h
 | n+1,s,p,_=>K8 K n _ _ (Ac K s p)
theorem Tg {x s:Nat} (hx:x<4294967296) (hs:s<4294967296):aK .u32 (fv ((aK .u32 (shl .u32 (x:Int) 4) (shr (x:Int) 5))+(x:Int))) (s:Int)=((st x s:Nat):Int):=by
 have h5:x >>> 5<4294967296:=Nat.lt_of_le_of_lt (Nat.shiftRight_le _ _) hx
 rw [yT,gW,nt (Nat.mod_lt _ (by decide)) h5,←Int.natCast_add,kI,nt (Nat.mod_lt _ (by decide)) hs];rfl
theorem tW {x s k:Nat} (hx:x<4294967296) (hs:s<4294967296):fY.f k (x:Int) (s:Int)=some ((st x s:Nat):Int):=by
 (unfold fY.f;(try dsimp only [gd,gb,Option.bind_some]));rw [Tg hx hs]
theorem GM (K:List Nat) {s:Nat} (hs:s<4294967296):fv ((s:Int)+rd (il K) (iT .u32 (s:Int) 3))=((kA K s:Nat):Int):=by
 rw [RT hs,bf,fL];rfl
theorem GN (K:List Nat) {s:Nat} (hs:s<4294967296):fv ((s:Int)+rd (il K) (iT .u32 (shr (s:Int) 11) 3))=((kB K s:Nat):Int):=by
 rw [gW,RT (Nat.lt_of_le_of_lt (Nat.shiftRight_le _ _) hs),bf,fL];rfl
theorem M1 (s:Nat) (hs:s<4294967296):decide (0≤iT .u32 (s:Int) 3)=true:=by rw [RT hs,decide_eq_true_eq];omega
theorem M2 (s:Nat) (hs:s<4294967296) {n:Nat} (h:n=4):decide (iT .u32 (s:Int) 3<(n:Int))=true:=by rw [RT hs,decide_eq_true_eq];omega
theorem rV (s:Nat):fv ((s:Int)+2654435769)=((wa s m6:Nat):Int):=fL s m6
theorem vY (s:Nat):fv ((s:Int)-2654435769)=((ws s m6:Nat):Int):=ln (x:=s) (y:=m6) (by decide)
theorem K9 (s:Nat) (hs:s<4294967296):decide (0≤iT .u32 (shr (s:Int) 11) 3)=true:=by rw [gW];exact M1 _ (Nat.lt_of_le_of_lt (Nat.shiftRight_le _ _) hs)
theorem La (s:Nat) (hs:s<4294967296) {n:Nat} (h:n=4):decide (iT .u32 (shr (s:Int) 11) 3<(n:Int))=true:=by rw [gW];exact M2 _ (Nat.lt_of_le_of_lt (Nat.shiftRight_le _ _) hs) h
theorem QC {K:List Nat} (h4:K.length=4) (tag:Int) (d:Nat) {k i s:Nat} {p:Nat×Nat} (hk:d<k) (hi:i+d=32) (hs:s<4294967296) (hp:Wd p):
 bC.l0 k (il K,tag) false (p.1:Int) (p.2:Int) (s:Int) (i:Int)=some (pI (fw K d s p)):=by
 induction d generalizing k i s p with
 | zero=>
  obtain ⟨k,rfl⟩: ∃j,k=j+1:=⟨k-1,by omega⟩
  have:i=32:=by omega
  subst this
  (rw [bC.l0];(try dsimp only [gd,gb,Option.bind_some]);rw [if_pos (by decide)]);rfl
 | succ d ih=>
  obtain ⟨k,rfl⟩: ∃j,k=j+1:=⟨k-1,by omega⟩
  have a2:ak ((i:Int)+1)=((i+1:Nat):Int):=au (n:=i+1) (by omega)
  have hl:(il K).length=4:=by rw [ag,h4]
  have hg:=gk s m6
  have q1:=tW (k:=k) hp.2 (gk s (K.getD (s%4) 0))
  have q2:=tW (k:=k) (gk p.1 (st p.2 (kA K s))) (gk (wa s m6) (K.getD ((wa s m6 >>> 11)%4) 0))
  have q3:fY.f k (p.2:Int) ((kA K s:Nat):Int)=some ((st p.2 (kA K s):Nat):Int):=q1
  have q4:fY.f k ((wa p.1 (st p.2 (kA K s)):Nat):Int) ((kB K (wa s m6):Nat):Int)=some ((st (wa p.1 (st p.2 (kA K s))) (kB K (wa s m6)):Nat):Int):=q2
  (rw [bC.l0];(try dsimp only [gd,gb,Option.bind_some]);rw [if_neg (by rw [beq_iff_eq];omega),if_neg (by decide),if_pos (M1 s hs),if_pos (M2 s hs hl),GM K hs,q3];(try rw [Option.bind_some]);rw [rV];(try rw [Option.bind_some]);rw [if_pos (K9 _ hg),if_pos (La _ hg hl),GN K hg];(try rw [Option.bind_some]);rw [fL,q4];(try rw [Option.bind_some]);rw [fL,a2])
  exact ih (p:=RU K s p) (by omega) (by omega) hg (Ab K s p)
theorem QD {K:List Nat} (h4:K.length=4) (tag:Int) (d:Nat) {k i s:Nat} {p:Nat×Nat} (hk:d<k) (hi:i+d=32) (hs:s<4294967296) (hp:Wd p):
 bC.l0 k (il K,tag) true (p.1:Int) (p.2:Int) (s:Int) (i:Int)=some (pI (bk K d s p)):=by
 induction d generalizing k i s p with
 | zero=>
  obtain ⟨k,rfl⟩: ∃j,k=j+1:=⟨k-1,by omega⟩
  have:i=32:=by omega
  subst this
  (rw [bC.l0];(try dsimp only [gd,gb,Option.bind_some]);rw [if_pos (by decide)]);rfl
 | succ d ih=>
  obtain ⟨k,rfl⟩: ∃j,k=j+1:=⟨k-1,by omega⟩
  have a2:ak ((i:Int)+1)=((i+1:Nat):Int):=au (n:=i+1) (by omega)
  have hl:(il K).length=4:=by rw [ag,h4]
  have hg:=m5 s m6
  have q1:=tW (k:=k) hp.1 (gk s (K.getD ((s >>> 11)%4) 0))
  have q2:=tW (k:=k) (m5 p.2 (st p.1 (kB K s))) (gk (ws s m6) (K.getD (ws s m6%4) 0))
  have q3:fY.f k (p.1:Int) ((kB K s:Nat):Int)=some ((st p.1 (kB K s):Nat):Int):=q1
  have q4:fY.f k ((ws p.2 (st p.1 (kB K s)):Nat):Int) ((kA K (ws s m6):Nat):Int)=some ((st (ws p.2 (st p.1 (kB K s))) (kA K (ws s m6)):Nat):Int):=q2
  have l1:st p.1 (kB K s)<4294967296:=rU (gk _ _)
  have l2:st (ws p.2 (st p.1 (kB K s))) (kA K (ws s m6))<4294967296:=rU (gk _ _)
  (rw [bC.l0];(try dsimp only [gd,gb,Option.bind_some]);rw [if_neg (by rw [beq_iff_eq];omega),if_pos rfl,if_pos (K9 s hs),if_pos (La s hs hl),GN K hs];(try rw [Option.bind_some]);rw [q3];(try rw [Option.bind_some]);rw [vY,if_pos (M1 _ hg),if_pos (M2 _ hg hl),GM K hg];(try rw [Option.bind_some]);rw [ln l1,q4];(try rw [Option.bind_some]);rw [ln l2,a2])
  exact ih (p:=RV K s p) (by omega) (by omega) hg (Ac K s p)
def xt (K:List Nat) (dir:Bool) (p:Nat×Nat):Nat×Nat:=if dir then bk K 32 3337565984 p else fw K 32 0 p
theorem QE (K:List Nat) (dir:Bool) {p:Nat×Nat} (hp:Wd p):Wd (xt K dir p):=by
 cases dir
 ·exact K7 K 32 0 p hp
 ·exact K8 K 32 _ p hp
theorem Jg {K:List Nat} (h4:K.length=4) (tag:Int) (dir:Bool) {k:Nat} {p:Nat×Nat} (hp:Wd p) (hk:40≤k):bC.f k (il K,tag) (p.1:Int) (p.2:Int) dir=some (pI (xt K dir p)):=by
 (unfold bC.f;(try dsimp only [gd,gb,Option.bind_some]))
 cases dir with
 | false=>rw [if_neg (by decide)];exact QC h4 tag 32 (i:=0) (s:=0) (by omega) (by omega) (by decide) hp
 | true=>rw [if_pos rfl];exact QD h4 tag 32 (i:=0) (s:=3337565984) (by omega) (by omega) (by decide) hp
def B2 (b:Bool) (l:List Nat):Nat×Nat:=((W b l).getD 0 0,(W b l).getD 1 0)
theorem vZ (b:Bool) {l:List Nat} (h:l.length=8) (hl: ∀x∈l,x<256):Wd (B2 b l):=⟨rR (DZ b 2 l h hl) 0,rR (DZ b 2 l h hl) 1⟩
def y8 (p:Nat×Nat):List Nat:=vW p.1 4++vW p.2 4
theorem M3 {K:List Nat} (h4:K.length=4) {m:List Nat} (h:m.length=8) (hm: ∀x∈m,x<256) (dir:Bool) {k:Nat} (hk:120≤k):
 cZ.f k (il K,4) (il m) dir=some (il (y8 (xt K dir (B2 false m))),0):=by
 have l:=nC false (n:=2) (k:=k) (by omega) hm (by decide) hk
 have wl:(il (W false m)).length=2:=by rw [ag,jO false 2 m h]
 have hp:=vZ false h hm
 have x:=Jg h4 4 dir (k:=k) hp (by omega)
 have r0:rd (il (W false m)) 0=((B2 false m).1:Int):=bf _ 0
 have r1:rd (il (W false m)) 1=((B2 false m).2:Int):=bf _ 1
 have ho:=QE K dir hp
 have s:=Cj (k:=k) ho.1 ho.2 (by omega)
 (unfold cZ.f;(try dsimp only [gd,gb,Option.bind_some]))
 (rw [if_neg (by rw [ag,h];decide),show ((4:Int)==8)=false from by decide,l];(try rw [Option.bind_some]);rw [if_pos (by rw [wl];decide),if_pos (by rw [wl];decide),if_pos (show (((il K,(4:Int)).2==4):Bool)=true from rfl),r0,r1,x];(try rw [Option.bind_some]))
 show (eh.f k (((xt K dir (B2 false m)).1:Nat):Int) (((xt K dir (B2 false m)).2:Nat):Int) false).bind _=_
 (rw [s];(try rw [Option.bind_some]));rfl
def HZ (L:List Nat):Nat→Nat→Nat×Nat→Nat×Nat
 | _,0,p=>p
 | i,d+1,p=>HZ L (i+1) d (p.2,p.1 ^^^ gN (wa p.2 (L.getD i 0)))
theorem GO {L:List Nat} {p:Nat×Nat} (hp:Wd p) (v:Nat):Wd (p.2,p.1 ^^^ gN (wa p.2 v)):=⟨hp.2,ve hp.1 (GB _)⟩
theorem Ad (L:List Nat): ∀(d i:Nat) (p:Nat×Nat),Wd p→Wd (HZ L i d p)
 | 0,_,_,h=>h
 | d+1,i,_,h=>Ad L d (i+1) _ (GO (L:=L) h _)
def qh (K:List Nat) (dir:Bool):List Nat:=if dir then (K++K++K++K.reverse).reverse else K++K++K++K.reverse
theorem uT {K:List Nat} (h:K.length=8): ∃a b c d e f g i,K=[a,b,c,d,e,f,g,i]:=by
 obtain ⟨a,b,c,d,r,rfl,h1⟩:=four (n:=1) h
 obtain ⟨e,f,g,i,r,rfl,h2⟩:=four (n:=0) h1
 have:r=[]:=List.eq_nil_of_length_eq_zero (by omega)
 subst this
 exact ⟨a,b,c,d,e,f,g,i,rfl⟩
theorem GP {K:List Nat} (h:K.length=8) (dir:Bool) {i:Nat} (hi:i<32):(qh K dir).getD i 0=K.getD (if dir then (if 24≤31-i then 7-(31-i)%8 else (31-i)%8) else (if 24≤i then 7-i%8 else i%8)) 0:=by
 obtain ⟨a,b,c,d,e,f,g,j,rfl⟩:=uT h
 have:i=0∨i=1∨i=2∨i=3∨i=4∨i=5∨i=6∨i=7∨i=8∨i=9∨i=10∨i=11∨i=12∨i=13∨i=14∨i=15∨i=16∨i=17∨i=18∨i=19∨i=20∨i=21∨i=22∨i=23∨i=24∨i=25∨i=26∨i=27∨i=28∨i=29∨i=30∨i=31:=by omega
 cases dir<;>(rcases this with rfl | rfl | rfl | rfl | rfl | rfl | rfl | rfl | rfl | rfl | rfl | rfl | rfl | rfl | rfl | rfl | rfl | rfl | rfl | rfl | rfl | rfl | rfl | rfl | rfl | rfl | rfl | rfl | rfl | rfl | rfl | rfl<;>rfl)
theorem M4 {k:Nat} (hk:60≤k) (a b c d e f g i:Int):bI.f k [a,b,c,d,e,f,g,i]=some [a,b,c,d,e,f,g,i]:=by
 obtain ⟨j,rfl⟩: ∃j,k=j+60:=⟨k-60,by omega⟩
 kernel_rfl
theorem Sv {k:Nat} (hk:60≤k) (a b c d e f g i:Int):aw.f k [a,b,c,d,e,f,g,i]=some [i,g,f,e,d,c,b,a]:=by
 obtain ⟨j,rfl⟩: ∃j,k=j+60:=⟨k-60,by omega⟩
 kernel_rfl
theorem Sw {k:Nat} (hk:60≤k) (a b c d e f g i:Int):aC.f k [[a,b,c,d,e,f,g,i],[a,b,c,d,e,f,g,i],[a,b,c,d,e,f,g,i],[i,g,f,e,d,c,b,a]]=some [a,b,c,d,e,f,g,i,a,b,c,d,e,f,g,i,a,b,c,d,e,f,g,i,i,g,f,e,d,c,b,a]:=by
 obtain ⟨j,rfl⟩: ∃j,k=j+60:=⟨k-60,by omega⟩
 kernel_rfl
theorem QF {k:Nat} (hk:60≤k) (a b c d e f g i:Int):aw.f k [a,b,c,d,e,f,g,i,a,b,c,d,e,f,g,i,a,b,c,d,e,f,g,i,i,g,f,e,d,c,b,a]=some [a,b,c,d,e,f,g,i,i,g,f,e,d,c,b,a,i,g,f,e,d,c,b,a,i,g,f,e,d,c,b,a]:=by
 obtain ⟨j,rfl⟩: ∃j,k=j+60:=⟨k-60,by omega⟩
 kernel_rfl
theorem Lb {L:List Nat} (h1:L.length=32) (d:Nat) {k i:Nat} {p:Nat×Nat} (hk:d+20<k) (hi:i+d=32) (hp:Wd p):
 bU.l0 k (p.1:Int) (p.2:Int) (il L) 32 (i:Int)=some (((HZ L i d p).2:Int),((HZ L i d p).1:Int)):=by
 induction d generalizing k i p with
 | zero=>
  obtain ⟨k,rfl⟩: ∃j,k=j+1:=⟨k-1,by omega⟩
  have:i=32:=by omega
  subst this
  rw [bU.l0,if_neg (by decide)];rfl
 | succ d ih=>
  obtain ⟨k,rfl⟩: ∃j,k=j+1:=⟨k-1,by omega⟩
  have a2:ak ((i:Int)+1)=((i+1:Nat):Int):=au (n:=i+1) (by omega)
  have c1:decide ((i:Int)<((il L).length:Int))=true:=by rw [decide_eq_true_eq,ag,h1];omega
  have c2:decide ((i:Int)<32)=true:=by rw [decide_eq_true_eq];omega
  have c3:decide (0≤(i:Int))=true:=by rw [decide_eq_true_eq];omega
  simp only [bU.l0,gd,c1,c2,c3,if_true,bf,Qy (k:=k) (by omega),Option.bind_some,nt hp.1 (GB _),a2]
  exact ih (p:=(p.2,p.1 ^^^ gN (wa p.2 (L.getD i 0)))) (by omega) (by omega) (GO (L:=L) hp _)
def Jh (K:List Nat) (dir:Bool) (p:Nat×Nat):Nat×Nat:=((HZ (qh K dir) 0 32 p).2,(HZ (qh K dir) 0 32 p).1)
theorem M5 (K:List Nat) (dir:Bool) {p:Nat×Nat} (hp:Wd p):Wd (Jh K dir p):=⟨(Ad _ 32 0 p hp).2,(Ad _ 32 0 p hp).1⟩
theorem GQ {K:List Nat} (h8:K.length=8) (tag:Int) (dir:Bool) {k:Nat} {p:Nat×Nat} (hp:Wd p) (hk:80≤k):bU.f k (il K,tag) (p.1:Int) (p.2:Int) dir=some (pI (Jh K dir p)):=by
 obtain ⟨a,b,c,d,e,f,g,i,rfl⟩:=uT h8
 (unfold bU.f;(try dsimp only [gd,gb,Option.bind_some]))
 have q1:=M4 (k:=k) (by omega) (a:Int) (b:Int) (c:Int) (d:Int) (e:Int) (f:Int) (g:Int) (i:Int)
 have q2:=Sv (k:=k) (by omega) (a:Int) (b:Int) (c:Int) (d:Int) (e:Int) (f:Int) (g:Int) (i:Int)
 have q3:=Sw (k:=k) (by omega) (a:Int) (b:Int) (c:Int) (d:Int) (e:Int) (f:Int) (g:Int) (i:Int)
 have q4:=QF (k:=k) (by omega) (a:Int) (b:Int) (c:Int) (d:Int) (e:Int) (f:Int) (g:Int) (i:Int)
 have e0:(il [a,b,c,d,e,f,g,i],tag).1=[(a:Int),(b:Int),(c:Int),(d:Int),(e:Int),(f:Int),(g:Int),(i:Int)]:=rfl
 have e1:il [a,b,c,d,e,f,g,i]=[(a:Int),(b:Int),(c:Int),(d:Int),(e:Int),(f:Int),(g:Int),(i:Int)]:=rfl
 (rw [e1,q1];(try rw [Option.bind_some]);rw [q2];(try rw [Option.bind_some]);rw [q3];(try rw [Option.bind_some]))
 cases dir with
 | false=>
  rw [if_neg (by decide)]
  exact Lb (L:=qh [a,b,c,d,e,f,g,i] false) rfl 32 (i:=0) (by omega) (by omega) hp
 | true=>
  (rw [if_pos rfl,q4];(try rw [Option.bind_some]))
  exact Lb (L:=qh [a,b,c,d,e,f,g,i] true) rfl 32 (i:=0) (by omega) (by omega) hp
theorem M6 {K:List Nat} (h8:K.length=8) {m:List Nat} (h:m.length=8) (hm: ∀x∈m,x<256) (dir:Bool) {k:Nat} (hk:120≤k):
 cZ.f k (il K,5) (il m) dir=some (il (y8 (Jh K dir (B2 false m))),0):=by
 have l:=nC false (n:=2) (k:=k) (by omega) hm (by decide) hk
 have wl:(il (W false m)).length=2:=by rw [ag,jO false 2 m h]
 have hp:=vZ false h hm
 have x:=GQ h8 5 dir (k:=k) hp (by omega)
 have r0:rd (il (W false m)) 0=((B2 false m).1:Int):=bf _ 0
 have r1:rd (il (W false m)) 1=((B2 false m).2:Int):=bf _ 1
 have ho:=M5 K dir hp
 have s:=Cj (k:=k) ho.1 ho.2 (by omega)
 (unfold cZ.f;(try dsimp only [gd,gb,Option.bind_some]))
 (rw [if_neg (by rw [ag,h];decide),show ((5:Int)==8)=false from by decide,l];(try rw [Option.bind_some]);rw [if_pos (by rw [wl];decide),if_pos (by rw [wl];decide),if_neg (show ¬(((il K,(5:Int)).2==4):Bool)=true from by show ¬(((5:Int)==4):Bool)=true;decide),if_pos (show (((il K,(5:Int)).2==5):Bool)=true from rfl),r0,r1,x];(try rw [Option.bind_some]))
 show (eh.f k (((Jh K dir (B2 false m)).1:Nat):Int) (((Jh K dir (B2 false m)).2:Nat):Int) false).bind _=_
 (rw [s];(try rw [Option.bind_some]));rfl
def c5 (j:Nat):Nat:=(3084996963+j*2654435769)%4294967296
def pl (n:Nat):List Nat:=(List.range n).map c5
theorem l7 (n:Nat):(pl n).length=n:=by simp [pl]
theorem xf (n:Nat):pl (n+1)=pl n++[c5 n]:=by simp [pl,List.range_succ]
theorem QG (j:Nat):c5 j<4294967296:=Nat.mod_lt _ (by decide)
theorem Lc (n:Nat): ∀x∈pl n,x<4294967296:=by
 intro x hx;unfold pl at hx;obtain ⟨j,_,rfl⟩:=List.mem_map.1 hx;exact QG j
theorem D0 (l:List Nat) (v:Nat):(l++[v]).getD l.length 0=v:=by
 rw [List.getD_eq_getElem?_getD,List.getElem?_append_right (Nat.le_refl _),Nat.sub_self];rfl
theorem Ji (n:Nat):(pl (n+1)).getD n 0=c5 n:=by
 have h:=D0 (pl n) (c5 n)
 rw [l7] at h
 rw [xf];exact h
def mA (S:List Nat) (i A B:Nat):Nat:=kz (wa (wa (S.getD (i%26) 0) A) B) 3
def mB (L:List Nat) (i a B:Nat):Nat:=kz (wa (wa (L.getD (i%4) 0) a) B) (wa a B%32)
theorem GR (S:List Nat) (i A B:Nat):mA S i A B<4294967296:=jD (gk _ _)
theorem Ld (L:List Nat) (i a B:Nat):mB L i a B<4294967296:=jD (gk _ _)
def mx:Nat→Nat→List Nat→List Nat→Nat→Nat→List Nat
 | 0,_,_,S,_,_=>S
 | d+1,i,L,S,A,B=>mx d (i+1) (L.set (i%4) (mB L i (mA S i A B) B)) (S.set (i%26) (mA S i A B)) (mA S i A B) (mB L i (mA S i A B) B)
theorem tX (d i:Nat) (L S:List Nat) (A B:Nat):mx (d+1) i L S A B=mx d (i+1) (L.set (i%4) (mB L i (mA S i A B) B)) (S.set (i%26) (mA S i A B)) (mA S i A B) (mB L i (mA S i A B) B):=rfl
theorem D1 (d:Nat): ∀i L S A B,(mx d i L S A B).length=S.length:=by
 induction d with
 | zero=>intros;rfl
 | succ d ih=>intro i L S A B;rw [tX,ih,List.length_set]
theorem QH (d:Nat): ∀i L S A B,(∀x∈S,x<4294967296)→ ∀x∈mx d i L S A B,x<4294967296:=by
 induction d with
 | zero=>intro _ _ _ _ _ h;exact h
 | succ d ih=>
  intro i L S A B h
  rw [tX]
  refine ih _ _ _ _ _ fun x hx=> ?_
  rcases List.mem_or_eq_of_mem_set hx with hx | rfl
  ·exact h x hx
  ·exact GR _ _ _ _
theorem xg (z:Nat):ak (Int.tmod (z:Int) 32)=((z%32:Nat):Int):=au (n:=z%32) (by omega)
theorem QI (z:Nat):(((z%32:Nat):Int)%32).toNat=z%32:=by omega
theorem Jj {a z k:Nat} (ha:a<4294967296):bF.f k (a:Int) ((z%32:Nat):Int)=some ((kz a (z%32):Nat):Int):=by
 rw [j0 ha,QI]
theorem QJ {a z k:Nat} (ha:a<4294967296):bF.f k (a:Int) (ak (0-((z%32:Nat):Int)))=some ((kz a ((32-z%32)%32):Nat):Int):=by
 have e:ak (0-((z%32:Nat):Int))=0-((z%32:Nat):Int):=cA (by omega) (by omega)
 have e2:((0-((z%32:Nat):Int))%32).toNat=(32-z%32)%32:=by omega
 rw [e,j0 ha,e2]
theorem Jk (d:Nat) {k i:Nat} {L S:List Nat} {A B:Nat} (h4:L.length=4) (h26:S.length=26) (hk:d+20<k) (hi:i+d=77) (hL: ∀x∈L,x<4294967296) (hS: ∀x∈S,x<4294967296) (hA:A<4294967296) (hB:B<4294967296):
 dk.l1 k (il L) (il S) (A:Int) (B:Int) (i:Int)=some (il (mx (d+1) i L S A B)):=by
 induction d generalizing k i L S A B with
 | zero=>
  obtain ⟨k,rfl⟩: ∃j,k=j+1:=⟨k-1,by omega⟩
  have lL:((il L).length:Int)=4:=by rw [ag,h4];rfl
  have lS:((il S).length:Int)=26:=by rw [ag,h26];rfl
  have QK:Int.tmod (i:Int) 26=((i%26:Nat):Int):=rfl
  have t4:Int.tmod (i:Int) 4=((i%4:Nat):Int):=rfl
  have a2:ak ((i:Int)+1)=((i+1:Nat):Int):=au (n:=i+1) (by omega)
  have c0: ∀z:Nat,decide (0≤(z:Int))=true:=fun z=>by rw [decide_eq_true_eq];omega
  have c26:decide (((i%26:Nat):Int)<26)=true:=by rw [decide_eq_true_eq];omega
  have c4:decide (((i%4:Nat):Int)<4)=true:=by rw [decide_eq_true_eq];omega
  have cz:(!decide ((4:Int)=0))=true:=rfl
  have ce:decide (((i+1:Nat):Int)<78)=false:=by rw [decide_eq_false_iff_not];omega
  have r3:bF.f k ((wa (wa (S.getD (i%26) 0) A) B:Nat):Int) 3=some ((mA S i A B:Nat):Int):=j0 (gk _ _) 3
  have r4:bF.f k ((wa (wa (L.getD (i%4) 0) (mA S i A B)) B:Nat):Int) ((wa (mA S i A B) B%32:Nat):Int)=some ((mB L i (mA S i A B) B:Nat):Int):=Jj (gk _ _)
  simp only [dk.l1,gd,gb,lL,lS,QK,t4,cz,c0,c26,c4,ce,if_true,Bool.false_eq_true,if_false,bf,fL,r3,r4,Option.bind_some,xg,a2,Int.toNat_natCast,kw]
  rfl
 | succ d ih=>
  obtain ⟨k,rfl⟩: ∃j,k=j+1:=⟨k-1,by omega⟩
  have lL:((il L).length:Int)=4:=by rw [ag,h4];rfl
  have lS:((il S).length:Int)=26:=by rw [ag,h26];rfl
  have QK:Int.tmod (i:Int) 26=((i%26:Nat):Int):=rfl
  have t4:Int.tmod (i:Int) 4=((i%4:Nat):Int):=rfl
  have a2:ak ((i:Int)+1)=((i+1:Nat):Int):=au (n:=i+1) (by omega)
  have c0: ∀z:Nat,decide (0≤(z:Int))=true:=fun z=>by rw [decide_eq_true_eq];omega
  have c26:decide (((i%26:Nat):Int)<26)=true:=by rw [decide_eq_true_eq];omega
  have c4:decide (((i%4:Nat):Int)<4)=true:=by rw [decide_eq_true_eq];omega
  have cz:(!decide ((4:Int)=0))=true:=rfl
  have ce:decide (((i+1:Nat):Int)<78)=true:=by rw [decide_eq_true_eq];omega
  have r3:bF.f k ((wa (wa (S.getD (i%26) 0) A) B:Nat):Int) 3=some ((mA S i A B:Nat):Int):=j0 (gk _ _) 3
  have r4:bF.f k ((wa (wa (L.getD (i%4) 0) (mA S i A B)) B:Nat):Int) ((wa (mA S i A B) B%32:Nat):Int)=some ((mB L i (mA S i A B) B:Nat):Int):=Jj (gk _ _)
  simp only [dk.l1,gd,gb,lL,lS,QK,t4,cz,c0,c26,c4,ce,if_true,bf,fL,r3,r4,Option.bind_some,xg,a2,Int.toNat_natCast,kw]
  refine Eq.trans (ih (by simpa using h4) (by simpa using h26) (by omega) (by omega) (fun x hx=> ?_) (fun x hx=> ?_) (GR _ _ _ _) (Ld _ _ _ _)) (by rw [tX (d+1)])
  ·rcases List.mem_or_eq_of_mem_set hx with hx | rfl
   ·exact hL x hx
   ·exact Ld _ _ _ _
  ·rcases List.mem_or_eq_of_mem_set hx with hx | rfl
   ·exact hS x hx
   ·exact GR _ _ _ _
theorem Jl {L0:List Nat} (h4:L0.length=4) (hL: ∀x∈L0,x<4294967296) (d:Nat) {k i:Nat} (hk:d+120<k) (hi:i+1+d=26):
 dk.l0 k (il L0) (il (pl (i+1)))=some (il (mx 78 0 L0 (pl 26) 0 0)):=by
 induction d generalizing k i with
 | zero=>
  obtain ⟨k,rfl⟩: ∃j,k=j+1:=⟨k-1,by omega⟩
  have:i=25:=by omega
  subst this
  (rw [dk.l0];(try dsimp only [gd,gb,Option.bind_some]);rw [if_neg (by rw [ag,l7];decide)])
  generalize hP:pl 26=P
  exact Jk 77 (i:=0) (L:=L0) (S:=P) (A:=0) (B:=0) h4 (by rw [←hP,l7]) (by omega) (by omega) hL (by rw [←hP];exact Lc 26) (by decide) (by decide)
 | succ d ih=>
  obtain ⟨k,rfl⟩: ∃j,k=j+1:=⟨k-1,by omega⟩
  have ll:((il (pl (i+1))).length:Int)=((i+1:Nat):Int):=by rw [ag,l7]
  have e1:ak (((i+1:Nat):Int)-1)=(i:Int):=by rw [cA (by omega) (by omega)];omega
  have e2:fv (((c5 i:Nat):Int)+2654435769)=((c5 (i+1):Nat):Int):=by
   have e:wa (c5 i) m6=c5 (i+1):=by unfold wa c5 m6;omega
   rw [rV,e]
  have e3:il (pl (i+1))++[((c5 (i+1):Nat):Int)]=il (pl (i+1+1)):=by rw [xf (i+1),gF];rfl
  (rw [dk.l0];(try dsimp only [gd,gb,Option.bind_some]);rw [ll,if_pos (by rw [decide_eq_true_eq];omega),e1,if_pos (by rw [decide_eq_true_eq];omega),if_pos (by rw [decide_eq_true_eq];omega),bf,Ji,e2];(try rw [Option.bind_some]);rw [if_pos (by rw [decide_eq_true_eq,ag,l7];simp only [List.length_cons,List.length_nil];omega),e3])
  exact ih (by omega) (by omega)
def s5 (K:List Nat):List Nat:=mx 78 0 K (pl 26) 0 0
theorem v7 (K:List Nat):(s5 K).length=26:=by unfold s5;rw [D1,l7]
theorem Lf (K:List Nat): ∀x∈s5 K,x<4294967296:=QH _ _ _ _ _ _ (Lc 26)
theorem xi {K:List Nat} (h4:K.length=4) (hK: ∀x∈K,x<4294967296) {k:Nat} (hk:200≤k):dk.f k (il K)=some (il (s5 K)):=by
 (unfold dk.f;(try dsimp only [gd,gb,Option.bind_some]))
 exact Jl h4 hK 25 (i:=0) (by omega) (by omega)
theorem Sx {m:List Nat} (h:m.length=16) (hm: ∀x∈m,x<256) {k:Nat} (hk:200≤k):ig.f k 8 (il m)=some (some (il (s5 (W true m)),8),0):=by
 have l:=nC true (n:=4) (k:=k) (by omega) hm (by decide) (by omega)
 have g:=xi (jO true 4 m h) (DZ true 4 m h hm) hk
 (unfold ig.f;(try dsimp only [gd,gb,Option.bind_some]))
 (rw [if_neg (by decide),if_pos (by decide),if_neg (by rw [ag,h];decide),show ((8:Int)==8)=true from by decide,l];(try rw [Option.bind_some]);rw [if_pos rfl,g];(try rw [Option.bind_some]))
def eS (S:List Nat) (i:Nat) (p:Nat×Nat):Nat×Nat:=(wa (kz (p.1 ^^^ p.2) (p.2%32)) (S.getD (2*i) 0),wa (kz (p.2 ^^^ wa (kz (p.1 ^^^ p.2) (p.2%32)) (S.getD (2*i) 0)) (wa (kz (p.1 ^^^ p.2) (p.2%32)) (S.getD (2*i) 0)%32)) (S.getD (2*i+1) 0))
def dB (S:List Nat) (i:Nat) (p:Nat×Nat):Nat:=kz (ws p.2 (S.getD (2*i+1) 0)) ((32-p.1%32)%32) ^^^ p.1
def dS (S:List Nat) (i:Nat) (p:Nat×Nat):Nat×Nat:=(kz (ws p.1 (S.getD (2*i) 0)) ((32-dB S i p%32)%32) ^^^ dB S i p,dB S i p)
theorem GT (S:List Nat) (i:Nat) (p:Nat×Nat):Wd (eS S i p):=⟨gk _ _,gk _ _⟩
theorem Ck (S:List Nat) (i:Nat) {p:Nat×Nat} (hp:Wd p):dB S i p<4294967296:=ve (jD (m5 _ _)) hp.1
theorem Lg (S:List Nat) (i:Nat) {p:Nat×Nat} (hp:Wd p):Wd (dS S i p):=⟨ve (jD (m5 _ _)) (Ck S i hp),Ck S i hp⟩
def e5 (S:List Nat):Nat→Nat→Nat×Nat→Nat×Nat
 | 0,_,p=>p
 | d+1,i,p=>e5 S d (i+1) (eS S i p)
def d5 (S:List Nat):Nat→Nat×Nat→Nat×Nat
 | 0,p=>p
 | i+1,p=>d5 S i (dS S (i+1) p)
theorem Lh (S:List Nat): ∀d i p,Wd p→Wd (e5 S d i p)
 | 0,_,_,h=>h
 | d+1,i,p,_=>Lh S d _ _ (GT S i p)
theorem QL {S:List Nat} (h:S.length=26) (tag:Int) (d:Nat) {k i:Nat} {p:Nat×Nat} (hk:d<k) (hi:i+d=13) (hp:Wd p):
 bp.l0 k (il S,tag) (p.1:Int) (p.2:Int) ((2*i:Nat):Int)=some (pI (e5 S d i p)):=by
 induction d generalizing k i p with
 | zero=>
  obtain ⟨k,rfl⟩: ∃j,k=j+1:=⟨k-1,by omega⟩
  (rw [bp.l0];(try dsimp only [gd,gb,Option.bind_some]);rw [if_neg (by rw [decide_eq_true_eq];omega)]);rfl
 | succ d ih=>
  obtain ⟨k,rfl⟩: ∃j,k=j+1:=⟨k-1,by omega⟩
  have lS:((il S).length:Int)=26:=by rw [ag,h];rfl
  have a1:ak (((2*i:Nat):Int)+1)=((2*i+1:Nat):Int):=au (n:=2*i+1) (by omega)
  have a2:ak (((2*i:Nat):Int)+2)=((2*(i+1):Nat):Int):=au (n:=2*i+2) (by omega)
  have c0: ∀z:Nat,decide (0≤(z:Int))=true:=fun z=>by rw [decide_eq_true_eq];omega
  have c1:decide (((2*i:Nat):Int)<26)=true:=by rw [decide_eq_true_eq];omega
  have c2:decide (((2*i+1:Nat):Int)<26)=true:=by rw [decide_eq_true_eq];omega
  have c3:decide (((2*i:Nat):Int)<((il S).length:Int))=true:=by rw [lS];exact c1
  have c4:decide (((2*i+1:Nat):Int)<((il S).length:Int))=true:=by rw [lS];exact c2
  simp only [bp.l0,gd,c0,c1,c3,c4,if_true,nt hp.1 hp.2,xg,Jj (ve hp.1 hp.2),Option.bind_some,a1,bf,fL,nt hp.2 (gk _ _),Jj (ve hp.2 (gk _ _)),a2]
  exact ih (p:=eS S i p) (by omega) (by omega) (GT S i p)
theorem QM {S:List Nat} (h:S.length=26) (hS: ∀x∈S,x<4294967296) (tag:Int) (i:Nat) {k:Nat} {p:Nat×Nat} (hk:i<k) (hi:i<13) (hp:Wd p):
 bp.l1 k (il S,tag) (p.1:Int) (p.2:Int) ((2*i:Nat):Int)=some (pI (ws (d5 S i p).1 (S.getD 0 0),ws (d5 S i p).2 (S.getD 1 0))):=by
 have lS:((il S).length:Int)=26:=by rw [ag,h];rfl
 have g:=fun j=>rR hS j
 induction i generalizing k p with
 | zero=>
  obtain ⟨k,rfl⟩: ∃j,k=j+1:=⟨k-1,by omega⟩
  have r0:rd (il S) 0=((S.getD 0 0:Nat):Int):=bf S 0
  have r1:rd (il S) 1=((S.getD 1 0:Nat):Int):=bf S 1
  (rw [bp.l1];(try dsimp only [gd,gb,Option.bind_some]);rw [if_neg (by decide),lS,if_pos (by decide),if_pos (by decide),r0,r1,ln (g 0),ln (g 1)]);rfl
 | succ i ih=>
  obtain ⟨k,rfl⟩: ∃j,k=j+1:=⟨k-1,by omega⟩
  have a1:ak (((2*(i+1):Nat):Int)+1)=((2*(i+1)+1:Nat):Int):=au (n:=2*(i+1)+1) (by omega)
  have a2:ak (((2*(i+1):Nat):Int)-2)=((2*i:Nat):Int):=by rw [cA (by omega) (by omega)];omega
  have c0: ∀z:Nat,decide (0≤(z:Int))=true:=fun z=>by rw [decide_eq_true_eq];omega
  have c1:decide (((2*(i+1):Nat):Int)<26)=true:=by rw [decide_eq_true_eq];omega
  have c2:decide (((2*(i+1)+1:Nat):Int)<26)=true:=by rw [decide_eq_true_eq];omega
  have c3:decide (((2*(i+1):Nat):Int)≥2)=true:=by rw [decide_eq_true_eq];omega
  have hb:=Ck S (i+1) hp
  have eb:aK .u32 ((kz (ws p.2 (S.getD (2*(i+1)+1) 0)) ((32-p.1%32)%32):Nat):Int) (p.1:Int)=((dB S (i+1) p:Nat):Int):=nt (jD (m5 _ _)) hp.1
  (rw [bp.l1];(try dsimp only [gd,gb,Option.bind_some]);rw [lS,if_pos c3,a1,if_pos (c0 _),if_pos c2,bf,ln (g _),xg,QJ (m5 _ _)];(try rw [Option.bind_some]);rw [if_pos (c0 _),if_pos c1,bf,ln (g _),eb,xg];(try rw [Option.bind_some]);rw [QJ (m5 _ _)];(try rw [Option.bind_some]);rw [nt (jD (m5 _ _)) hb,a2])
  exact ih (p:=dS S (i+1) p) (by omega) (by omega) (Lg S _ hp)
def r5 (S:List Nat) (dir:Bool) (p:Nat×Nat):Nat×Nat:=if dir then (ws (d5 S 12 p).1 (S.getD 0 0),ws (d5 S 12 p).2 (S.getD 1 0)) else e5 S 12 1 (wa p.1 (S.getD 0 0),wa p.2 (S.getD 1 0))
theorem QN (S:List Nat) (dir:Bool) {p:Nat×Nat} (hp:Wd p):Wd (r5 S dir p):=by
 cases dir
 ·exact Lh S 12 1 _ ⟨gk _ _,gk _ _⟩
 ·exact ⟨m5 _ _,m5 _ _⟩
theorem M7 {S:List Nat} (h:S.length=26) (hS: ∀x∈S,x<4294967296) (tag:Int) (dir:Bool) {k:Nat} {p:Nat×Nat} (hp:Wd p) (hk:40≤k):bp.f k (il S,tag) (p.1:Int) (p.2:Int) dir=some (pI (r5 S dir p)):=by
 have lS:((il S).length:Int)=26:=by rw [ag,h];rfl
 have r0:rd (il S) 0=((S.getD 0 0:Nat):Int):=bf S 0
 have r1:rd (il S) 1=((S.getD 1 0:Nat):Int):=bf S 1
 (unfold bp.f;(try dsimp only [gd,gb,Option.bind_some]))
 cases dir with
 | false=>
  rw [if_pos (by decide),lS,if_pos (by decide),if_pos (by decide),r0,r1,fL,fL]
  exact QL h tag 12 (i:=1) (p:=(wa p.1 (S.getD 0 0),wa p.2 (S.getD 1 0))) (by omega) (by omega) ⟨gk _ _,gk _ _⟩
 | true=>
  rw [if_neg (by decide)]
  exact QM h hS tag 12 (by omega) (by omega) hp
def rW (v:Nat):List Nat:=(vW v 4).reverse
theorem y9 {v k:Nat} (hv:v<4294967296) (hk:20≤k):dX.f k (v:Int)=some (il (rW v)):=by
 (unfold dX.f;(try dsimp only [gd,gb,Option.bind_some]))
 have:=rT (k:=k) ((v >>> 24%256:Nat):Int) ((v >>> 16%256:Nat):Int) ((v >>> 8%256:Nat):Int) ((v%256:Nat):Int) (by omega)
 have e:il (vW v 4)=[((v >>> 24%256:Nat):Int),((v >>> 16%256:Nat):Int),((v >>> 8%256:Nat):Int),((v%256:Nat):Int)]:=by rw [ri];rfl
 (rw [pt v hv (by omega)];(try rw [Option.bind_some]);rw [e,this];(try rw [Option.bind_some]))
 unfold rW;rw [ri];rfl
def D2 (p:Nat×Nat):List Nat:=rW p.1++rW p.2
theorem Jm {v w k:Nat} (hv:v<4294967296) (hw:w<4294967296) (hk:60≤k):eh.f k (v:Int) (w:Int) true=some (il (rW v++rW w)):=by
 (unfold eh.f;(try dsimp only [gd,gb,Option.bind_some]))
 have c:=y7 (k:=k) ((v%256:Nat):Int) ((v >>> 8%256:Nat):Int) ((v >>> 16%256:Nat):Int) ((v >>> 24%256:Nat):Int) ((w%256:Nat):Int) ((w >>> 8%256:Nat):Int) ((w >>> 16%256:Nat):Int) ((w >>> 24%256:Nat):Int) hk
 have e: ∀v,il (rW v)=[((v%256:Nat):Int),((v >>> 8%256:Nat):Int),((v >>> 16%256:Nat):Int),((v >>> 24%256:Nat):Int)]:=fun v=>by unfold rW;rw [ri];rfl
 (rw [if_pos rfl,y9 hv (by omega)];(try rw [Option.bind_some]);rw [y9 hw (by omega)];(try rw [Option.bind_some]);rw [e,e,c];(try rw [Option.bind_some]);rw [←xd,e,e])
 rfl
theorem M8 {S:List Nat} (h26:S.length=26) (hS: ∀x∈S,x<4294967296) {m:List Nat} (h:m.length=8) (hm: ∀x∈m,x<256) (dir:Bool) {k:Nat} (hk:120≤k):
 cZ.f k (il S,8) (il m) dir=some (il (D2 (r5 S dir (B2 true m))),0):=by
 have l:=nC true (n:=2) (k:=k) (by omega) hm (by decide) hk
 have wl:(il (W true m)).length=2:=by rw [ag,jO true 2 m h]
 have hp:=vZ true h hm
 have x:=M7 h26 hS 8 dir (k:=k) hp (by omega)
 have r0:rd (il (W true m)) 0=((B2 true m).1:Int):=bf _ 0
 have r1:rd (il (W true m)) 1=((B2 true m).2:Int):=bf _ 1
 have ho:=QN S dir hp
 have s:=Jm (k:=k) ho.1 ho.2 (by omega)
 (unfold cZ.f;(try dsimp only [gd,gb,Option.bind_some]))
 (rw [if_neg (by rw [ag,h];decide),show ((8:Int)==8)=true from by decide,l];(try rw [Option.bind_some]);rw [if_pos (by rw [wl];decide),if_pos (by rw [wl];decide),if_neg (show ¬(((il S,(8:Int)).2==4):Bool)=true from by show ¬(((8:Int)==4):Bool)=true;decide),if_neg (show ¬(((il S,(8:Int)).2==5):Bool)=true from by show ¬(((8:Int)==5):Bool)=true;decide),if_pos rfl,r0,r1,x];(try rw [Option.bind_some]))
 show (eh.f k (((r5 S dir (B2 true m)).1:Nat):Int) (((r5 S dir (B2 true m)).2:Nat):Int) true).bind _=_
 (rw [s];(try rw [Option.bind_some]));rfl
theorem Cl: ∀(k:Nat) (l:List Int) (v i:Int),dO.l0 k l v i=ez.l0 k l v i
 | 0,_,_,_=>rfl
 | k+1,l,v,i=>by simp only [dO.l0,ez.l0,Cl k,gd]
theorem Jn {l:List Nat} {k:Nat} (hl: ∀x∈l,x<256) (h8:l.length≤8) (hk:8<k):dO.f k (il l)=some ((jk l:Nat):Int):=by
 (unfold dO.f;(try dsimp only [gd,gb,Option.bind_some]));rw [Cl];exact tR hl h8 hk
theorem QO {k:Nat} (a b c d:Int) (hk:20≤k):bH.f k [a,b,c,d]=ez.f k [d,c,b,a]:=by
 obtain ⟨j,rfl⟩: ∃j,k=j+20:=⟨k-20,by omega⟩
 kernel_rfl
theorem xj (b:Bool): ∀(n:Nat) (l:List Nat) (j:Nat),l.length=4*n→j<n→ ∃x y z w,(l.take (4*j+4)).drop (4*j)=[x,y,z,w]∧(W b l).getD j 0=if b then jk [w,z,y,x] else jk [x,y,z,w]
 | 0,_,_,_,h=>by omega
 | n+1,l,j,h,hj=>by
  obtain ⟨x,y,z,w,r,rfl,hr⟩:=four h
  match j with
  | 0=>exact ⟨x,y,z,w,by simp,by simp [W]⟩
  | j+1=>
   obtain ⟨x',y',z',w',q1,q2⟩:=xj b n r j hr (by omega)
   have e1:(W b (x::y::z::w::r)).getD (j+1) 0=(W b r).getD j 0:=by rw [W,List.getD_cons_succ]
   have e2:(x::y::z::w::r).drop (4*(j+1))=r.drop (4*j):=by
    rw [show 4*(j+1)=4+4*j by omega,←List.drop_drop];rfl
   refine ⟨x',y',z',w',?_,by rw [e1,q2]⟩
   rw [←q1,List.drop_take,List.drop_take,e2,show 4*(j+1)+4-4*(j+1)=4 by omega,show 4*j+4-4*j=4 by omega]
theorem v8 (l:List Nat) {j:Nat} (h:j<l.length):l.take j++[l.getD j 0]=l.take (j+1):=by
 rw [List.take_succ_eq_append_getElem h,List.getD_eq_getElem?_getD,List.getElem?_eq_getElem h];rfl
theorem GU {m:List Nat} {n:Nat} (h:m.length=4*n) (hn:n<100) (hm: ∀x∈m,x<256) (d:Nat) {k j:Nat} (hk:d+20<k) (hi:j+d=n):
 cR.l0 k (il m) (il ((W false m).take j)) ((4*j:Nat):Int)=some (il (W false m)):=by
 have wl:=jO false n m h
 induction d generalizing k j with
 | zero=>
  obtain ⟨k,rfl⟩: ∃j,k=j+1:=⟨k-1,by omega⟩
  (rw [cR.l0];(try dsimp only [gd,gb,Option.bind_some]);rw [if_neg (by rw [decide_eq_true_eq,ag];omega),List.take_of_length_le (by omega)])
 | succ d ih=>
  obtain ⟨k,rfl⟩: ∃j,k=j+1:=⟨k-1,by omega⟩
  obtain ⟨x,y,z,w,q1,q2⟩:=xj false n m j h (by omega)
  have hmem: ∀v∈[x,y,z,w],v<256:=fun v hv=>by rw [←q1] at hv;exact hm v (List.mem_of_mem_take (List.mem_of_mem_drop hv))
  have a1:ak (((4*j:Nat):Int)+4)=((4*j+4:Nat):Int):=au (n:=4*j+4) (by omega)
  have b:=Jn (l:=[x,y,z,w]) (k:=k) hmem (by simp) (by omega)
  have q2':(W false m).getD j 0=jk [x,y,z,w]:=q2
  have u:fv (((W false m).getD j 0:Nat):Int)=(((W false m).getD j 0:Nat):Int):=by rw [kI,Nat.mod_eq_of_lt (rR (DZ false n m h hm) j)]
  (rw [cR.l0];(try dsimp only [gd,gb,Option.bind_some]);rw [if_pos (by rw [decide_eq_true_eq,ag];omega),a1,if_pos (by rw [decide_eq_true_eq];omega),if_pos (by rw [decide_eq_true_eq];omega),if_pos (by rw [decide_eq_true_eq,ag];omega),Int.toNat_natCast,Int.toNat_natCast,nv,tQ,q1,b];(try rw [Option.bind_some]);rw [←q2',u,if_pos (by rw [decide_eq_true_eq,ag,List.length_take];simp only [List.length_cons,List.length_nil];omega)])
  have e:il ((W false m).take j)++[(((W false m).getD j 0:Nat):Int)]=il ((W false m).take (j+1)):=by
   rw [←v8 (W false m) (by omega:j<(W false m).length),gF];rfl
  rw [e]
  exact ih (j:=j+1) (by omega) (by omega)
theorem Cm {m:List Nat} {n:Nat} (h:m.length=4*n) (hn:n<100) (hm: ∀x∈m,x<256) {k:Nat} (hk:130≤k):cR.f k (il m)=some (il (W false m)):=by
 (unfold cR.f;(try dsimp only [gd,gb,Option.bind_some]))
 exact GU h hn hm n (j:=0) (by omega) (by omega)
theorem QP {m:List Nat} {n:Nat} (h:m.length=4*n) (hn:n<100) (hm: ∀x∈m,x<256) (d:Nat) {k j:Nat} (hk:d+20<k) (hi:j+d=n):
 cC.l0 k (il m) (il ((W true m).take j)) ((4*j:Nat):Int)=some (il (W true m)):=by
 have wl:=jO true n m h
 induction d generalizing k j with
 | zero=>
  obtain ⟨k,rfl⟩: ∃j,k=j+1:=⟨k-1,by omega⟩
  (rw [cC.l0];(try dsimp only [gd,gb,Option.bind_some]);rw [if_neg (by rw [decide_eq_true_eq,ag];omega),List.take_of_length_le (by omega)])
 | succ d ih=>
  obtain ⟨k,rfl⟩: ∃j,k=j+1:=⟨k-1,by omega⟩
  obtain ⟨x,y,z,w,q1,q2⟩:=xj true n m j h (by omega)
  have hmem: ∀v∈[x,y,z,w],v<256:=fun v hv=>by rw [←q1] at hv;exact hm v (List.mem_of_mem_take (List.mem_of_mem_drop hv))
  have a1:ak (((4*j:Nat):Int)+4)=((4*j+4:Nat):Int):=au (n:=4*j+4) (by omega)
  have b0:=tR (l:=[w,z,y,x]) (k:=k) (fun v hv=>hmem v (by simp at hv ⊢;omega)) (by simp) (by omega)
  have b:bH.f k (il [x,y,z,w])=some ((jk [w,z,y,x]:Nat):Int):=(QO _ _ _ _ (by omega)).trans b0
  have q2':(W true m).getD j 0=jk [w,z,y,x]:=q2
  have u:fv (((W true m).getD j 0:Nat):Int)=(((W true m).getD j 0:Nat):Int):=by rw [kI,Nat.mod_eq_of_lt (rR (DZ true n m h hm) j)]
  (rw [cC.l0];(try dsimp only [gd,gb,Option.bind_some]);rw [if_pos (by rw [decide_eq_true_eq,ag];omega),a1,if_pos (by rw [decide_eq_true_eq];omega),if_pos (by rw [decide_eq_true_eq];omega),if_pos (by rw [decide_eq_true_eq,ag];omega),Int.toNat_natCast,Int.toNat_natCast,nv,tQ,q1,b];(try rw [Option.bind_some]);rw [←q2',u,if_pos (by rw [decide_eq_true_eq,ag,List.length_take];simp only [List.length_cons,List.length_nil];omega)])
  have e:il ((W true m).take j)++[(((W true m).getD j 0:Nat):Int)]=il ((W true m).take (j+1)):=by
   rw [←v8 (W true m) (by omega:j<(W true m).length),gF];rfl
  rw [e]
  exact ih (j:=j+1) (by omega) (by omega)
theorem Li {m:List Nat} {n:Nat} (h:m.length=4*n) (hn:n<100) (hm: ∀x∈m,x<256) {k:Nat} (hk:130≤k):cC.f k (il m)=some (il (W true m)):=by
 (unfold cC.f;(try dsimp only [gd,gb,Option.bind_some]))
 exact QP h hn hm n (j:=0) (by omega) (by omega)
theorem GV {a z k:Nat} (ha:a<4294967296):aH.f k (a:Int) ((z%32:Nat):Int)=some ((kz a (z%32):Nat):Int):=by
 rw [kC ha,QI]
theorem GW {l:List Nat} {i v:Nat} (h:i<l.length):(l.set i v).getD i 0=v:=by
 rw [List.getD_eq_getElem?_getD,List.getElem?_set_self h];rfl
theorem M9 (d:Nat) {k i:Nat} {L S:List Nat} {A B:Nat} (hk:d+20<k) (hi:i+d=78) (lL:L.length=4) (lS:S.length=26):
 aE.l1 k (il L) (il S) (A:Int) (B:Int) (i:Int)=some (il (mx d i L S A B)):=by
 induction d generalizing k i L S A B with
 | zero=>
  obtain ⟨k,rfl⟩: ∃j,k=j+1:=⟨k-1,by omega⟩
  (rw [aE.l1];(try dsimp only [gd,gb,Option.bind_some]);rw [if_neg (by rw [decide_eq_true_eq];omega)]);rfl
 | succ d ih=>
  obtain ⟨k,rfl⟩: ∃j,k=j+1:=⟨k-1,by omega⟩
  have eL:((il L).length:Int)=4:=by rw [ag,lL];rfl
  have eS:((il S).length:Int)=26:=by rw [ag,lS];rfl
  have eL2: ∀v,((il (L.set (i%4) v)).length:Int)=4:=fun v=>by rw [ag,List.length_set,lL];rfl
  have eS2: ∀v,((il (S.set (i%26) v)).length:Int)=26:=fun v=>by rw [ag,List.length_set,lS];rfl
  have ci:decide ((i:Int)<78)=true:=by rw [decide_eq_true_eq];omega
  have QK:Int.tmod (i:Int) 26=((i%26:Nat):Int):=rfl
  have t4:Int.tmod (i:Int) 4=((i%4:Nat):Int):=rfl
  have a2:ak ((i:Int)+1)=((i+1:Nat):Int):=au (n:=i+1) (by omega)
  have c0: ∀z:Nat,decide (0≤(z:Int))=true:=fun z=>by rw [decide_eq_true_eq];omega
  have c26:decide (((i%26:Nat):Int)<26)=true:=by rw [decide_eq_true_eq];omega
  have c4:decide (((i%4:Nat):Int)<4)=true:=by rw [decide_eq_true_eq];omega
  have r3:aH.f k ((wa (wa (S.getD (i%26) 0) A) B:Nat):Int) 3=some ((mA S i A B:Nat):Int):=kC (gk _ _) 3
  have r4:aH.f k ((wa (wa (L.getD (i%4) 0) (mA S i A B)) B:Nat):Int) ((wa (mA S i A B) B%32:Nat):Int)=some ((mB L i (mA S i A B) B:Nat):Int):=GV (gk _ _)
  have s1:rd (il (S.set (i%26) (mA S i A B))) ((i%26:Nat):Int)=((mA S i A B:Nat):Int):=by rw [bf,GW (by omega)]
  have s2:rd (il (L.set (i%4) (mB L i (mA S i A B) B))) ((i%4:Nat):Int)=((mB L i (mA S i A B) B:Nat):Int):=by rw [bf,GW (by omega)]
  simp only [aE.l1,gd,eL,eS,QK,t4,ci,c0,c26,c4,if_true,bf S,bf L,fL,r3,Option.bind_some,Int.toNat_natCast,kw,eL2,eS2,s1,xg,r4,s2,a2,tX]
  exact ih (by omega) (by omega) (by rw [List.length_set];exact lL) (by rw [List.length_set];exact lS)
theorem Na {L0:List Nat} (h4:L0.length=4) (d:Nat) {k i:Nat} (hk:d+120<k) (hi:i+d=26):
 aE.l0 k (il L0) (il (pl i)) (i:Int)=some (il (mx 78 0 L0 (pl 26) 0 0)):=by
 induction d generalizing k i with
 | zero=>
  obtain ⟨k,rfl⟩: ∃j,k=j+1:=⟨k-1,by omega⟩
  have:i=26:=by omega
  subst this
  (rw [aE.l0];(try dsimp only [gd,gb,Option.bind_some]);rw [if_neg (by decide)])
  generalize hP:pl 26=P
  exact M9 78 (i:=0) (L:=L0) (S:=P) (A:=0) (B:=0) (by omega) (by omega) h4 (by rw [←hP,l7])
 | succ d ih=>
  obtain ⟨k,rfl⟩: ∃j,k=j+1:=⟨k-1,by omega⟩
  have a2:ak ((i:Int)+1)=((i+1:Nat):Int):=au (n:=i+1) (by omega)
  have e2:fv (3084996963+(fv ((fv (i:Int))*2654435769)))=((c5 i:Nat):Int):=by
   rw [kI,Nat.mod_eq_of_lt (by omega),kD,kD];unfold c5;omega
  have e3:il (pl i)++[((c5 i:Nat):Int)]=il (pl (i+1)):=by rw [xf i,gF];rfl
  (rw [aE.l0];(try dsimp only [gd,gb,Option.bind_some]);rw [if_pos (by rw [decide_eq_true_eq];omega),e2];(try rw [Option.bind_some]);rw [if_pos (by rw [decide_eq_true_eq,ag,l7];simp only [List.length_cons,List.length_nil];omega),e3,a2])
  exact ih (by omega) (by omega)
theorem Nb {m:List Nat} (h:m.length=16) (hm: ∀x∈m,x<256) {k:Nat} (hk:200≤k):aE.f k (il m)=some (il (s5 (W true m))):=by
 (unfold aE.f;(try dsimp only [gd,gb,Option.bind_some]))
 (rw [Li (n:=4) (by omega) (by decide) hm (by omega)];(try rw [Option.bind_some]))
 exact Na (jO true 4 m h) 26 (i:=0) (by omega) (by omega)
theorem QQ {m:List Nat} (h:m.length=16) (hm: ∀x∈m,x<256) {k:Nat} (hk:200≤k):eH.f k 4 (il m)=some (some (4,il (W false m)),0):=by
 have l:=Cm (n:=4) (k:=k) (by omega) (by decide) hm (by omega)
 (unfold eH.f;(try dsimp only [gd,gb,Option.bind_some]))
 (rw [if_pos (by decide),if_neg (by rw [ag,h];decide),if_neg (by decide),l];(try rw [Option.bind_some]))
theorem QR {m:List Nat} (h:m.length=32) (hm: ∀x∈m,x<256) {k:Nat} (hk:200≤k):eH.f k 5 (il m)=some (some (5,il (W false m)),0):=by
 have l:=Cm (n:=8) (k:=k) (by omega) (by decide) hm (by omega)
 (unfold eH.f;(try dsimp only [gd,gb,Option.bind_some]))
 (rw [if_neg (by decide),if_neg (by decide),if_pos (by decide),if_neg (by rw [ag,h];decide),if_neg (by decide),l];(try rw [Option.bind_some]))
theorem QS {m:List Nat} (h:m.length=16) (hm: ∀x∈m,x<256) {k:Nat} (hk:200≤k):eH.f k 8 (il m)=some (some (8,il (s5 (W true m))),0):=by
 have l:=Nb h hm hk
 (unfold eH.f;(try dsimp only [gd,gb,Option.bind_some]))
 (rw [if_neg (by decide),if_pos (by decide),if_neg (by rw [ag,h];decide),if_pos (by decide),l];(try rw [Option.bind_some]))
theorem tY {v k:Nat}:cf.f k (v:Int)=some (il (vW v 4)):=by
 (unfold cf.f;(try dsimp only [gd,gb,Option.bind_some]))
 rw [gW,gW,gW,iR,iR,iR,iR,ri];rfl
theorem za {v k:Nat}:dv.f k (v:Int)=some (il (rW v)):=by
 unfold dv.f rW
 rw [gW,gW,gW,iR,iR,iR,iR,ri];rfl
theorem tZ {K:List Nat} (h4:K.length=4) (tag:Int) {x s t k:Nat} (hx:x<4294967296):dg.f k (tag,il K) (x:Int) (s:Int) (t:Int)=some ((st x (wa s (K.getD (t%4) 0)):Nat):Int):=by
 have lK:((il K).length:Int)=4:=by rw [ag,h4];rfl
 have t4:Int.tmod (t:Int) 4=((t%4:Nat):Int):=rfl
 (unfold dg.f;(try dsimp only [gd,gb,Option.bind_some]))
 ((try rw [Option.bind_some]);rw [t4,lK,if_pos (by rw [decide_eq_true_eq];omega),if_pos (by rw [decide_eq_true_eq];omega),bf,fL,Tg hx (gk _ _)])
theorem QT {K:List Nat} (h4:K.length=4) (tag:Int) (d:Nat) {k i s:Nat} {p:Nat×Nat} (hk:d<k) (hi:i+d=32) (hp:Wd p):
 av.l0 k (tag,il K) (p.1:Int) (p.2:Int) (s:Int) (i:Int)=some (pI (fw K d s p)):=by
 induction d generalizing k i s p with
 | zero=>
  obtain ⟨k,rfl⟩: ∃j,k=j+1:=⟨k-1,by omega⟩
  (rw [av.l0];(try dsimp only [gd,gb,Option.bind_some]);rw [if_neg (by rw [decide_eq_true_eq];omega)]);rfl
 | succ d ih=>
  obtain ⟨k,rfl⟩: ∃j,k=j+1:=⟨k-1,by omega⟩
  have a2:ak ((i:Int)+1)=((i+1:Nat):Int):=au (n:=i+1) (by omega)
  (rw [av.l0];(try dsimp only [gd,gb,Option.bind_some]);rw [if_pos (by rw [decide_eq_true_eq];omega),tZ h4 tag hp.2];(try rw [Option.bind_some]);rw [fL,rV,gW,tZ h4 tag (gk _ _)];(try rw [Option.bind_some]);rw [fL,a2])
  exact ih (p:=RU K s p) (by omega) (by omega) (Ab K s p)
theorem QU {K:List Nat} (h4:K.length=4) (tag:Int) (d:Nat) {k i s:Nat} {p:Nat×Nat} (hk:d<k) (hi:i+d=32) (hp:Wd p):
 av.l2 k (tag,il K) (p.1:Int) (p.2:Int) (s:Int) (i:Int)=some (pI (bk K d s p)):=by
 induction d generalizing k i s p with
 | zero=>
  obtain ⟨k,rfl⟩: ∃j,k=j+1:=⟨k-1,by omega⟩
  (rw [av.l2];(try dsimp only [gd,gb,Option.bind_some]);rw [if_neg (by rw [decide_eq_true_eq];omega)]);rfl
 | succ d ih=>
  obtain ⟨k,rfl⟩: ∃j,k=j+1:=⟨k-1,by omega⟩
  have a2:ak ((i:Int)+1)=((i+1:Nat):Int):=au (n:=i+1) (by omega)
  have l1:st p.1 (wa s (K.getD ((s >>> 11)%4) 0))<4294967296:=rU (gk _ _)
  have l2:st (ws p.2 (st p.1 (wa s (K.getD ((s >>> 11)%4) 0)))) (wa (ws s m6) (K.getD (ws s m6%4) 0))<4294967296:=rU (gk _ _)
  (rw [av.l2];(try dsimp only [gd,gb,Option.bind_some]);rw [if_pos (by rw [decide_eq_true_eq];omega),gW,tZ h4 tag hp.1];(try rw [Option.bind_some]);rw [ln l1,vY,tZ h4 tag (m5 _ _)];(try rw [Option.bind_some]);rw [ln l2,a2])
  exact ih (p:=RV K s p) (by omega) (by omega) (Ac K s p)
theorem QV {K:List Nat} (h4:K.length=4) (tag:Int) {p:Nat×Nat} (hp:Wd p) (d:Nat) {k i s:Nat} (hk:d+40<k) (hi:i+d=32) (hs:s=i*m6%4294967296):
 av.l1 k (tag,il K) (p.1:Int) (p.2:Int) (s:Int) (i:Int)=some (pI (bk K 32 3337565984 p)):=by
 induction d generalizing k i s with
 | zero=>
  obtain ⟨k,rfl⟩: ∃j,k=j+1:=⟨k-1,by omega⟩
  have:i=32:=by omega
  subst this
  have e:s=3337565984:=by rw [hs];unfold m6;omega
  (rw [av.l1];(try dsimp only [gd,gb,Option.bind_some]);rw [if_neg (by rw [decide_eq_true_eq];omega),e])
  exact QU h4 tag 32 (i:=0) (by omega) (by omega) hp
 | succ d ih=>
  obtain ⟨k,rfl⟩: ∃j,k=j+1:=⟨k-1,by omega⟩
  have a2:ak ((i:Int)+1)=((i+1:Nat):Int):=au (n:=i+1) (by omega)
  (rw [av.l1];(try dsimp only [gd,gb,Option.bind_some]);rw [if_pos (by rw [decide_eq_true_eq];omega),rV,a2])
  exact ih (by omega) (by omega) (by rw [hs];unfold wa m6;omega)
theorem GX {K:List Nat} (h4:K.length=4) (tag:Int) (dir:Bool) {k:Nat} {p:Nat×Nat} (hp:Wd p) (hk:100≤k):av.f k (tag,il K) (p.1:Int) (p.2:Int) dir=some (pI (xt K dir p)):=by
 (unfold av.f;(try dsimp only [gd,gb,Option.bind_some]))
 cases dir with
 | false=>rw [if_pos (by decide)];exact QT h4 tag 32 (i:=0) (s:=0) (by omega) (by omega) hp
 | true=>rw [if_neg (by decide)];exact QV h4 tag hp 32 (i:=0) (s:=0) (by omega) (by omega) (by decide)
theorem GY {K:List Nat} (h8:K.length=8) (tag:Int) (dir:Bool) (d:Nat) {k i:Nat} {p:Nat×Nat} (hk:d+20<k) (hi:i+d=32) (hp:Wd p):
 aF.l0 k (tag,il K) dir (p.1:Int) (p.2:Int) (i:Int)=some (((HZ (qh K dir) i d p).2:Int),((HZ (qh K dir) i d p).1:Int)):=by
 induction d generalizing k i p with
 | zero=>
  obtain ⟨k,rfl⟩: ∃j,k=j+1:=⟨k-1,by omega⟩
  (rw [aF.l0];(try dsimp only [gd,gb,Option.bind_some]);rw [if_neg (by rw [decide_eq_true_eq];omega)]);rfl
 | succ d ih=>
  obtain ⟨k,rfl⟩: ∃j,k=j+1:=⟨k-1,by omega⟩
  have a2:ak ((i:Int)+1)=((i+1:Nat):Int):=au (n:=i+1) (by omega)
  have next:=ih (k:=k) (i:=i+1) (p:=(p.2,p.1 ^^^ gN (wa p.2 ((qh K dir).getD i 0)))) (by omega) (by omega) (GO (L:=K) hp _)
  have e:HZ (qh K dir) i (d+1) p=HZ (qh K dir) (i+1) d (p.2,p.1 ^^^ gN (wa p.2 ((qh K dir).getD i 0))):=rfl
  rw [←e,GP h8 dir (by omega)] at next
  have lK:((il K).length:Int)=8:=by rw [ag,h8];rfl
  have c0:decide ((i:Int)<32)=true:=by rw [decide_eq_true_eq];omega
  have i31:ak (31-(i:Int))=((31-i:Nat):Int):=by rw [cA (by omega) (by omega)];omega
  have i32:ak (31-((31-i:Nat):Int))=(i:Int):=by rw [cA (by omega) (by omega)];omega
  have tm: ∀z:Nat,Int.tmod (z:Int) 8=((z%8:Nat):Int):=fun z=>rfl
  have z0: ∀z:Nat,decide (0≤(z:Int))=true:=fun z=>by rw [decide_eq_true_eq];omega
  have z8: ∀z:Nat,decide (((z%8:Nat):Int)<8)=true:=fun z=>by rw [decide_eq_true_eq];omega
  have bx:=fun v=>nt hp.1 (GB v)
  cases dir with
  | true=>
   rw [if_pos rfl] at next
   by_cases h24:24≤31-i
   ·rw [if_pos h24,show 7-(31-i)%8=i by omega] at next
    (rw [aF.l0];(try dsimp only [gd,gb,Option.bind_some]);rw [if_pos c0,if_pos rfl,i31,if_pos (by rw [decide_eq_true_eq];omega),i32,if_pos (z0 _),lK,if_pos (by rw [decide_eq_true_eq];omega),bf,Ci (by omega)];(try rw [Option.bind_some]);rw [bx,a2])
    exact next
   ·rw [if_neg h24] at next
    (rw [aF.l0];(try dsimp only [gd,gb,Option.bind_some]);rw [if_pos c0,if_pos rfl,i31,if_neg (by rw [decide_eq_true_eq];omega),tm,if_pos (z0 _),lK,if_pos (z8 _),bf,Ci (by omega)];(try rw [Option.bind_some]);rw [bx,a2])
    exact next
  | false=>
   rw [if_neg (by decide)] at next
   by_cases h24:24≤i
   ·rw [if_pos h24,show 7-i%8=31-i by omega] at next
    (rw [aF.l0];(try dsimp only [gd,gb,Option.bind_some]);rw [if_pos c0,if_neg (by decide),if_pos (by rw [decide_eq_true_eq];omega),i31,if_pos (z0 _),lK,if_pos (by rw [decide_eq_true_eq];omega),bf,Ci (by omega)];(try rw [Option.bind_some]);rw [bx,a2])
    exact next
   ·rw [if_neg h24] at next
    (rw [aF.l0];(try dsimp only [gd,gb,Option.bind_some]);rw [if_pos c0,if_neg (by decide),if_neg (by rw [decide_eq_true_eq];omega),tm,if_pos (z0 _),lK,if_pos (z8 _),bf,Ci (by omega)];(try rw [Option.bind_some]);rw [bx,a2])
    exact next
theorem Lj {a z k:Nat} (ha:a<4294967296):aH.f k (a:Int) (ak (32-((z%32:Nat):Int)))=some ((kz a ((32-z%32)%32):Nat):Int):=by
 have e:ak (32-((z%32:Nat):Int))=32-((z%32:Nat):Int):=cA (by omega) (by omega)
 have e2:((32-((z%32:Nat):Int))%32).toNat=(32-z%32)%32:=by omega
 rw [e,kC ha,e2]
theorem QW {S:List Nat} (h:S.length=26) (tag:Int) (d:Nat) {k i:Nat} {p:Nat×Nat} (hk:d<k) (hi:i+d=13) (hp:Wd p):
 aM.l0 k (tag,il S) (p.1:Int) (p.2:Int) (i:Int)=some (pI (e5 S d i p)):=by
 induction d generalizing k i p with
 | zero=>
  obtain ⟨k,rfl⟩: ∃j,k=j+1:=⟨k-1,by omega⟩
  (rw [aM.l0];(try dsimp only [gd,gb,Option.bind_some]);rw [if_neg (by rw [decide_eq_true_eq];omega)]);rfl
 | succ d ih=>
  obtain ⟨k,rfl⟩: ∃j,k=j+1:=⟨k-1,by omega⟩
  have lS:((il S).length:Int)=26:=by rw [ag,h];rfl
  have a0:ak (2*(i:Int))=((2*i:Nat):Int):=au (n:=2*i) (by omega)
  have a1:ak (((2*i:Nat):Int)+1)=((2*i+1:Nat):Int):=au (n:=2*i+1) (by omega)
  have a2:ak ((i:Int)+1)=((i+1:Nat):Int):=au (n:=i+1) (by omega)
  have c0: ∀z:Nat,decide (0≤(z:Int))=true:=fun z=>by rw [decide_eq_true_eq];omega
  have c1:decide (((2*i:Nat):Int)<26)=true:=by rw [decide_eq_true_eq];omega
  have c2:decide (((2*i+1:Nat):Int)<26)=true:=by rw [decide_eq_true_eq];omega
  have c3:decide ((i:Int)≤12)=true:=by rw [decide_eq_true_eq];omega
  simp only [aM.l0,gd,a0,a1,a2,lS,c0,c1,c2,c3,if_true,nt hp.1 hp.2,xg,GV (ve hp.1 hp.2),Option.bind_some,bf,fL,nt hp.2 (gk _ _),GV (ve hp.2 (gk _ _))]
  exact ih (p:=eS S i p) (by omega) (by omega) (GT S i p)
theorem QX {S:List Nat} (h:S.length=26) (hS: ∀x∈S,x<4294967296) (tag:Int) (i:Nat) {k:Nat} {p:Nat×Nat} (hk:i<k) (hi:i<13) (hp:Wd p):
 aM.l1 k (tag,il S) (p.1:Int) (p.2:Int) (i:Int)=some (pI (ws (d5 S i p).1 (S.getD 0 0),ws (d5 S i p).2 (S.getD 1 0))):=by
 have lS:((il S).length:Int)=26:=by rw [ag,h];rfl
 have g:=fun j=>rR hS j
 induction i generalizing k p with
 | zero=>
  obtain ⟨k,rfl⟩: ∃j,k=j+1:=⟨k-1,by omega⟩
  have r0:rd (il S) 0=((S.getD 0 0:Nat):Int):=bf S 0
  have r1:rd (il S) 1=((S.getD 1 0:Nat):Int):=bf S 1
  (rw [aM.l1];(try dsimp only [gd,gb,Option.bind_some]);rw [if_neg (by decide),lS,if_pos (by decide),if_pos (by decide),r0,r1,ln (g 0),ln (g 1)]);rfl
 | succ i ih=>
  obtain ⟨k,rfl⟩: ∃j,k=j+1:=⟨k-1,by omega⟩
  have a0:ak (2*((i+1:Nat):Int))=((2*(i+1):Nat):Int):=au (n:=2*(i+1)) (by omega)
  have a1:ak (((2*(i+1):Nat):Int)+1)=((2*(i+1)+1:Nat):Int):=au (n:=2*(i+1)+1) (by omega)
  have a2:ak (((i+1:Nat):Int)-1)=(i:Int):=by rw [cA (by omega) (by omega)];omega
  have c0: ∀z:Nat,decide (0≤(z:Int))=true:=fun z=>by rw [decide_eq_true_eq];omega
  have c1:decide (((2*(i+1):Nat):Int)<26)=true:=by rw [decide_eq_true_eq];omega
  have c2:decide (((2*(i+1)+1:Nat):Int)<26)=true:=by rw [decide_eq_true_eq];omega
  have c3:decide (((i+1:Nat):Int)≥1)=true:=by rw [decide_eq_true_eq];omega
  have hb:=Ck S (i+1) hp
  have eb:aK .u32 ((kz (ws p.2 (S.getD (2*(i+1)+1) 0)) ((32-p.1%32)%32):Nat):Int) (p.1:Int)=((dB S (i+1) p:Nat):Int):=nt (jD (m5 _ _)) hp.1
  (rw [aM.l1];(try dsimp only [gd,gb,Option.bind_some]);rw [lS,if_pos c3,a0,a1,if_pos (c0 _),if_pos c2,bf,ln (g _)];(try rw [Option.bind_some]);rw [xg,Lj (m5 _ _)];(try rw [Option.bind_some]);rw [if_pos (c0 _),if_pos c1,eb,xg];(try rw [Option.bind_some]);rw [bf,ln (g _),Lj (m5 _ _)];(try rw [Option.bind_some]);rw [nt (jD (m5 _ _)) hb,a2])
  exact ih (p:=dS S (i+1) p) (by omega) (by omega) (Lg S _ hp)
theorem Jo {S:List Nat} (h:S.length=26) (hS: ∀x∈S,x<4294967296) (tag:Int) (dir:Bool) {k:Nat} {p:Nat×Nat} (hp:Wd p) (hk:40≤k):aM.f k (tag,il S) (p.1:Int) (p.2:Int) dir=some (pI (r5 S dir p)):=by
 have lS:((il S).length:Int)=26:=by rw [ag,h];rfl
 have r0:rd (il S) 0=((S.getD 0 0:Nat):Int):=bf S 0
 have r1:rd (il S) 1=((S.getD 1 0:Nat):Int):=bf S 1
 (unfold aM.f;(try dsimp only [gd,gb,Option.bind_some]))
 cases dir with
 | false=>
  rw [if_pos (by decide),lS,if_pos (by decide),if_pos (by decide),r0,r1,fL,fL]
  exact QW h tag 12 (i:=1) (p:=(wa p.1 (S.getD 0 0),wa p.2 (S.getD 1 0))) (by omega) (by omega) ⟨gk _ _,gk _ _⟩
 | true=>
  rw [if_neg (by decide)]
  exact QX h hS tag 12 (by omega) (by omega) hp
theorem Jp {K:List Nat} (h4:K.length=4) {m:List Nat} (h:m.length=8) (hm: ∀x∈m,x<256) (dir:Bool) {k:Nat} (hk:200≤k):
 cH.f k (4,il K) (il m) dir=some (il (y8 (xt K dir (B2 false m))),0):=by
 have l:=Cm (n:=2) (k:=k) (by omega) (by decide) hm (by omega)
 have wl:(il (W false m)).length=2:=by rw [ag,jO false 2 m h]
 have hp:=vZ false h hm
 have x:=GX h4 4 dir (k:=k) hp (by omega)
 have r0:rd (il (W false m)) 0=((B2 false m).1:Int):=bf _ 0
 have r1:rd (il (W false m)) 1=((B2 false m).2:Int):=bf _ 1
 (unfold cH.f;(try dsimp only [gd,gb,Option.bind_some]))
 (rw [if_neg (by rw [ag,h];decide),show ((4:Int)==8)=false from by decide,show ((4:Int)==4)=true from by decide,if_neg (by decide),l];(try rw [Option.bind_some]);rw [if_pos (by rw [wl];decide),if_pos (by rw [wl];decide),if_pos rfl,r0,r1,x];(try rw [Option.bind_some]))
 show (cf.f k (((xt K dir (B2 false m)).1:Nat):Int)).bind _=_
 (rw [tY];(try rw [Option.bind_some]))
 show (cf.f k (((xt K dir (B2 false m)).2:Nat):Int)).bind _=_
 (rw [tY];(try rw [Option.bind_some]);rw [if_pos (by rw [decide_eq_true_eq,ag,ag,mP,mP];decide),xd]);rfl
theorem Jq {K:List Nat} (h8:K.length=8) {m:List Nat} (h:m.length=8) (hm: ∀x∈m,x<256) (dir:Bool) {k:Nat} (hk:200≤k):
 cH.f k (5,il K) (il m) dir=some (il (y8 (Jh K dir (B2 false m))),0):=by
 have l:=Cm (n:=2) (k:=k) (by omega) (by decide) hm (by omega)
 have wl:(il (W false m)).length=2:=by rw [ag,jO false 2 m h]
 have hp:=vZ false h hm
 have x:aF.f k (5,il K) ((B2 false m).1:Int) ((B2 false m).2:Int) dir=some (pI (Jh K dir (B2 false m))):=GY h8 5 dir 32 (i:=0) (by omega) (by omega) hp
 have r0:rd (il (W false m)) 0=((B2 false m).1:Int):=bf _ 0
 have r1:rd (il (W false m)) 1=((B2 false m).2:Int):=bf _ 1
 (unfold cH.f;(try dsimp only [gd,gb,Option.bind_some]))
 (rw [if_neg (by rw [ag,h];decide),show ((5:Int)==8)=false from by decide,show ((5:Int)==4)=false from by decide,if_neg (by decide),l];(try rw [Option.bind_some]);rw [if_pos (by rw [wl];decide),if_pos (by rw [wl];decide),if_neg (by decide),r0,r1,x];(try rw [Option.bind_some]))
 show (cf.f k (((Jh K dir (B2 false m)).1:Nat):Int)).bind _=_
 (rw [tY];(try rw [Option.bind_some]))
 show (cf.f k (((Jh K dir (B2 false m)).2:Nat):Int)).bind _=_
 (rw [tY];(try rw [Option.bind_some]);rw [if_pos (by rw [decide_eq_true_eq,ag,ag,mP,mP];decide),xd]);rfl
theorem tf (v:Nat):(rW v).length=4:=by unfold rW;rw [List.length_reverse,mP]
theorem Jr {S:List Nat} (h26:S.length=26) (hS: ∀x∈S,x<4294967296) {m:List Nat} (h:m.length=8) (hm: ∀x∈m,x<256) (dir:Bool) {k:Nat} (hk:200≤k):
 cH.f k (8,il S) (il m) dir=some (il (D2 (r5 S dir (B2 true m))),0):=by
 have l:=Li (n:=2) (k:=k) (by omega) (by decide) hm (by omega)
 have wl:(il (W true m)).length=2:=by rw [ag,jO true 2 m h]
 have hp:=vZ true h hm
 have x:=Jo h26 hS 8 dir (k:=k) hp (by omega)
 have r0:rd (il (W true m)) 0=((B2 true m).1:Int):=bf _ 0
 have r1:rd (il (W true m)) 1=((B2 true m).2:Int):=bf _ 1
 (unfold cH.f;(try dsimp only [gd,gb,Option.bind_some]))
 (rw [if_neg (by rw [ag,h];decide),show ((8:Int)==8)=true from by decide,if_pos rfl,l];(try rw [Option.bind_some]);rw [if_pos (by rw [wl];decide),if_pos (by rw [wl];decide),r0,r1,x];(try rw [Option.bind_some]))
 show (dv.f k (((r5 S dir (B2 true m)).1:Nat):Int)).bind _=_
 (rw [za];(try rw [Option.bind_some]))
 show (dv.f k (((r5 S dir (B2 true m)).2:Nat):Int)).bind _=_
 (rw [za];(try rw [Option.bind_some]);rw [if_pos (by rw [decide_eq_true_eq,ag,ag,tf,tf];decide),xd]);rfl
def sz:Nat→Nat | 1=>32 | _=>16
def Ae:Nat→Nat | 0=>4 | 1=>5 | _=>8
theorem Js {j:Nat} (hj:j<3) {m:List Nat} (h:m.length=sz j) (hm: ∀x∈m,x<256): ∃S R,(∀k,200≤k→ig.f k (Ae j:Int) (il m)=some (some S,0))∧(∀k,200≤k→eH.f k (Ae j:Int) (il m)=some (some R,0))∧
 ∀(dir:Bool) (n:List Nat),n.length=8→(∀x∈n,x<256)→ ∃o:List Nat,o.length=8∧(∀x∈o,x<256)∧ ∀k,200≤k→cZ.f k S (il n) dir=some (il o,0)∧cH.f k R (il n) dir=some (il o,0):=by
 have oB: ∀p,(y8 p).length=8:=fun p=>by unfold y8;rw [ri,ri];rfl
 have oL: ∀p,(D2 p).length=8:=fun p=>by unfold D2 rW;rw [ri,ri];rfl
 have dl: ∀v,∀x∈vW v 4,x<256:=fun v x hx=>by
  unfold vW at hx
  obtain ⟨j,_,rfl⟩:=List.mem_map.1 hx
  exact Nat.mod_lt _ (by decide)
 have bB: ∀p,∀x∈y8 p,x<256:=fun p x hx=>by
  unfold y8 at hx
  rcases List.mem_append.1 hx with hx | hx<;>exact dl _ x hx
 have bL: ∀p,∀x∈D2 p,x<256:=fun p x hx=>by
  unfold D2 rW at hx
  rcases List.mem_append.1 hx with hx | hx<;>exact dl _ x (by simpa using hx)
 match j,hj,h with
 | 0,_,h=>exact ⟨_,_,fun k hk=>Ss h hm (by omega),fun k hk=>QQ h hm hk,fun dir n hn hnb=>⟨_,oB _,bB _,fun k hk=>⟨M3 (jO false 4 m h) hn hnb dir (by omega),Jp (jO false 4 m h) hn hnb dir hk⟩⟩⟩
 | 1,_,h=>exact ⟨_,_,fun k hk=>Su h hm (by omega),fun k hk=>QR h hm hk,fun dir n hn hnb=>⟨_,oB _,bB _,fun k hk=>⟨M6 (jO false 8 m h) hn hnb dir (by omega),Jq (jO false 8 m h) hn hnb dir hk⟩⟩⟩
 | 2,_,h=>exact ⟨_,_,fun k hk=>Sx h hm hk,fun k hk=>QS h hm hk,fun dir n hn hnb=>⟨_,oL _,bL _,fun k hk=>⟨M8 (v7 _) (Lf _) hn hnb dir (by omega),Jr (v7 _) (Lf _) hn hnb dir hk⟩⟩⟩
end Go.Scr.S.Sm
