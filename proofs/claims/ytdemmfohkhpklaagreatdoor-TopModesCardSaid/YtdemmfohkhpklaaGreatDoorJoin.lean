/- The law's function returns true. -/
import Derived.Test.YtdemmfohkhpklaaGreatDoorWkb
import Derived.Test.YtdemmfohkhpklaaGreatDoorLe
set_option linter.unusedVariables false
set_option linter.unusedSimpArgs false
set_option linter.unnecessarySimpa false
set_option linter.unusedSectionVars false
namespace Go.Scr.A
open Go.Proofs.Tryz Go.Scr.S Go.RowKit
theorem AG {X:eQ} {W:World} {β:Be} {k:IntKind} {a:Option Addr} {n c:Nat} {z:List Int} (hX: ∀g,¬X g) (h:Rd W (.slice a n c) (nums k (z.take n))):VR X W β (.row (.N k (z.take n)) false) (.slice a n c):=by
 obtain ⟨h1,h2,h3⟩:=h
 exact ⟨a,n,c,_,rfl,rfl,h1,h2,(fun e=>by cases e),fun j v hj=>by
  obtain ⟨ad,e1,e2⟩:=h3 j v hj
  exact ⟨ad,e1,e2,hX _⟩⟩
theorem topModes (w:World) (x:Int×Int×Int×Int×Bool) (A:Option Addr) (l c:Nat) (y:List Int) (wa:IsRow .u8 w A l c y) (B:Option Addr) (m e:Nat) (z:List Int) (wb:IsRow .u8 w B m e z) (a1:Option Addr) (len1 cap1:Nat) (z1:List Int) (w1:IsRow .u8 w a1 len1 cap1 z1) (hG:Rg w 1 (nums .u8 [1,2,4,8,16,32,64,128])):
 Calls prog 3 #[.agg #[.int .i64 x.1,.int .i64 x.2.1,.int .i64 x.2.2.1,.int .i64 x.2.2.2.1,.bool x.2.2.2.2,.slice A l c,.slice B m e],.slice a1 len1 cap1] w fun e w'=>e= .returned (.bool true)∧Below w.heap.size w w':=by
 obtain ⟨ra,ia,_⟩:=wa.rd
 obtain ⟨rb,ib,_⟩:=wb.rd
 obtain ⟨r1,i1,_⟩:=w1.rd
 have t:=AF (a:=x.1) (b:=x.2.1) (c:=x.2.2.1) (d:=x.2.2.2.1) (dir:=x.2.2.2.2) ia ib i1 (Nat.le_refl 60000)
 have hX: ∀g,¬eI (fun _=>False) DK (TL []) g:=fun g h=>by
  rcases h with h | ⟨e,h,_⟩
  ·exact h
  ·cases h
 have hR:HR (fun _=>False) w DK (TL []):=⟨(fun e h=>by cases h),(fun e e' h=>by cases h),(fun e h=>by cases h),(fun g h=>h.elim)⟩
 have ac:=cM.ac t (fun _=>False) w DK [.agg #[.int .i64 x.1,.int .i64 x.2.1,.int .i64 x.2.2.1,.int .i64 x.2.2.2.1,.bool x.2.2.2.2,.slice A l c,.slice B m e],.slice a1 len1 cap1] hR
  (.cons ⟨_,rfl,⟨_,_,rfl,rfl,_,_,rfl,rfl,_,_,rfl,rfl,_,_,rfl,rfl,_,_,rfl,rfl,_,_,rfl,AG hX ra,_,_,rfl,AG hX rb,rfl⟩,rfl⟩ (.cons (AG hX r1) .nil))
  (fun β p hp=>by
   rw [List.mem_singleton.1 hp]
   exact ⟨1,0,_,rfl,rfl,by decide,fun j v hj=>⟨⟨1,0,none⟩,rfl,by rw [show Addr.add ⟨1,0,none⟩ j=⟨1,j,none⟩ by unfold Addr.add;split<;>simp_all];exact hG j v hj,hX _⟩⟩)
  (fun _ _=>rfl)
 refine ac.mono ?_
 rintro e w' ⟨u,rfl,β',hR',hv,ch,_⟩
 exact ⟨by rw [show u= .bool true from hv],ch.os,ch.tape,ch.output,ch.size,fun k hk=>ch.blk k hk (fun h=>by obtain ⟨e,h,_⟩:=h;cases h)⟩
end Go.Scr.A
