/- Part0 -/
set_option linter.unusedVariables false
set_option linter.unusedSectionVars false
set_option linter.unusedSimpArgs false
open _root_ renaming List → Ybt
open List renaming filter → Yby, filter_eq_nil_iff → Yb1
namespace Go.Lift
abbrev Af:=@Option.some.injEq
abbrev AB:=@Nat.eq_of_beq_eq_true
abbrev Ar:=@decide_eq_false
abbrev Ao:=@decide_eq_true
abbrev AQ:=@List.length_append
abbrev Av:=@Nat.le_refl
abbrev Bd:=@of_decide_eq_true
abbrev As:=@cond_true
abbrev Bh:=@Int.toNat_natCast
abbrev Aw:=@congrArg
abbrev B9:=@List.length_cons
abbrev Bl:=@List.mem_cons
abbrev C4:=@List.append_assoc
abbrev Dg:=@List.mem_of_getElem?
abbrev Cb:=@Prod.mk.injEq
abbrev DM:=@List.getElem?_cons_zero
abbrev C5:=@List.mem_append
abbrev EO:=@Int.tmod_eq_emod_of_nonneg
abbrev Er:=@List.getElem?_cons_succ
abbrev D5:=@List.mem_append_left
abbrev DW:=@List.mem_append_right
abbrev Fe:=@List.getElem?_eq_some_iff
abbrev F6:=@Array.getD_eq_getD_getElem?
abbrev Ff:=@List.getElem?_eq_getElem
abbrev F7:=@Int.tdiv_eq_ediv_of_nonneg
abbrev DX:=@List.mem_cons_of_mem
abbrev Dk:=@Bool.and_eq_true
abbrev E9:=@List.length_singleton
abbrev CH:=@List.map_cons
abbrev DY:=@List.mem_singleton
abbrev Dx:=@List.cons.injEq
abbrev Gy:=@List.getElem?_append_right
abbrev Es:=@List.not_mem_nil
abbrev C7:=@cond_false
abbrev Fs:=@List.pairwise_cons
abbrev FS:=@List.pairwise_append
abbrev HO:=@List.getElem?_append_left
abbrev DC:=@Nat.le_trans
abbrev GY:=@List.take_of_length_le
abbrev Ft:=@List.length_nil
abbrev DZ:=@Nat.zero_add
abbrev FG:=@List.all_eq_true
abbrev IN:=@Array.getElem?_eq_some_iff
abbrev F8:=@Option.map_some
abbrev GZ:=@Array.toArray_toList
abbrev JV:=@List.eq_nil_of_length_eq_zero
abbrev CN:=@if_false
abbrev Gz:=@List.getElem?_map
abbrev Ha:=@List.mem_cons_self
abbrev Hq:=@Array.length_toList
abbrev G0:=@List.cons_append
abbrev EA:=@Nat.zero_le
abbrev JW:=@List.drop_eq_getElem_cons
abbrev IP:=@Nat.le_of_ble_eq_true
abbrev L6:=@List.take_append_of_le_length
abbrev GA:=@List.nil_append
abbrev HP:=@List.length_take
abbrev IQ:=@Bool.false_eq_true
abbrev HQ:=@List.length_map
abbrev D6:=@if_true
abbrev L7:=@List.pairwise_singleton
abbrev In:=@List.append_nil
abbrev Jv:=@decide_eq_true_eq
abbrev KO:=@Nat.mul_le_mul_right
abbrev Hb:=@List.mem_map
abbrev IR:=@List.map_append
abbrev Hr:=@Nat.succ_mul
abbrev OY:=@List.drop_append_of_le_length
abbrev Fv:=@and_true
abbrev Jw:=@Nat.le_antisymm
abbrev M0:=@List.take_append_drop
abbrev N7:=@Nat.add_sub_cancel_left
abbrev L8:=@of_decide_eq_false
abbrev N8:=@List.length_replicate
abbrev KP:=@Nat.not_lt_zero
abbrev L9:=@List.take_length
abbrev LA:=@List.length_drop
abbrev IS:=@Int.le_refl
abbrev Io:=@Array.ext'
abbrev QZ:=@Array.getElem?_eq_getElem
abbrev Ra:=@List.getElem?_eq_none_iff
abbrev N9:=@List.getElem?_take
abbrev KQ:=@Bool.true_and
abbrev OZ:=@Bool.or_eq_false_iff
abbrev Pa:=@List.length_pos_iff
abbrev Rb:=@List.drop_of_length_le
abbrev LB:=@List.cons.inj
abbrev NA:=@Option.getD_some
abbrev Rc:=@List.mem_iff_getElem?
abbrev TG:=@List.pairwise_iff_getElem
abbrev TH:=@List.getElem?_take_of_lt
abbrev NB:=@List.nodup_cons
abbrev Pd:=@List.flatMap_cons
abbrev Jx:=@heq_eq_eq
abbrev ZM:=@Array.getElem?_setIfInBounds
abbrev LC:=@Nat.add_mul
abbrev TJ:=@Option.map_eq_some_iff
abbrev Rd:=@List.getElem?_drop
abbrev M4:=@Nat.le_of_eq
abbrev M6:=@List.map_nil
abbrev Pe:=@List.length_set
abbrev Pf:=@Bool.or_eq_true
abbrev TK:=@List.getElem?_eq_none
abbrev Pg:=@Option.some.inj
abbrev TL:=@Array.getElem?_modify
abbrev ZN:=@Array.getElem?_append_left
abbrev ZO:=@List.getD_eq_getElem?_getD
abbrev Re:=@Bool.not_eq_true'
abbrev Rf:=@decide_eq_decide
abbrev TM:=@beq_eq_false_iff_ne
abbrev TN:=@List.flatMap_append
abbrev Ph:=@Bool.false_or
abbrev ZP:=@List.drop_eq_nil_of_le
abbrev ZQ:=@List.flatMap_singleton
abbrev Pi:=@List.map_map
abbrev Pj:=@Nat.add_comm
abbrev ZR:=@List.getElem?_toArray
abbrev Rg:=@List.mem_range
abbrev TO:=@Array.toList_map
abbrev ZS:=@List.getElem?_of_mem
abbrev Rh:=@List.all_cons
abbrev ZT:=@List.map_congr_left
abbrev TP:=@List.foldl_cons
abbrev ZU:=@List.filter_append
abbrev Ri:=@Int.le_trans
abbrev ZV:=@Nat.lt_of_lt_of_le
abbrev ZW:=@Nat.eq_zero_or_pos
abbrev Rj:=@Nat.add_zero
abbrev ZX:=@decide_eq_true_iff
abbrev p8:=@Option.isSome_iff_exists
abbrev p9:=@Nat.le_mul_of_pos_right
abbrev ZY:=@List.ext_getElem?
abbrev ZZ:=@not_true_eq_false
abbrev a8:=@List.size_toArray
abbrev TQ:=@Nat.add_assoc
abbrev aA:=@List.take_append
abbrev aB:=@List.drop_append
abbrev aC:=@Array.mem_append
abbrev aD:=@Option.bind_some
abbrev AeG:=@Array.all_eq_true_iff_forall_mem
abbrev aF:=@List.mem_flatMap
abbrev pA:=@List.mem_iff_getElem
abbrev TR:=@Nat.mul_comm
abbrev TS:=@Nat.lt_or_ge
abbrev aG:=@List.append_inj
abbrev pB:=@List.range_eq_range'
abbrev pC:=@List.replicate_succ
abbrev aH:=@List.take_left
abbrev pD:=@Int.lt_of_le_of_lt
abbrev pE:=@Int.lt_of_lt_of_le
abbrev pF:=@Int.tmod_lt_of_pos
abbrev aI:=@Nat.mul_assoc
abbrev aJ:=@List.sum_cons
abbrev aK:=@Bool.not_true
abbrev pG:=@not_false_eq_true
abbrev pH:=@Int.emod_eq_of_lt
abbrev pI:=@List.foldl_append
abbrev pJ:=@List.pairwise_map
abbrev pK:=@List.mem_toArray
abbrev pL:=@List.perm_middle
abbrev AeH:=@List.eq_of_mem_replicate
abbrev AeI:=@Int.tmod_eq_zero_of_dvd
abbrev AeJ:=@Int.emod_eq_zero_of_dvd
abbrev AeK:=@Int.dvd_of_tmod_eq_zero
variable{α:Type}(key:α->Int)
abbrev SortK(l:Ybt α):Prop:=l.Pairwise λa b=>key a<=key b
abbrev atK(c:Int)(l:Ybt α):Ybt α:=l.filter λa=>decide (key a=c)
def SameK(l z:Ybt α):Prop:=∀c,atK key c l=atK key c z
variable{key}
theorem SameK.refl(l:Ybt α):SameK key l l:=λ_=>rfl
theorem SameK.symm{l z:Ybt α}(h:SameK key l z):SameK key z l:=λc=>(h c).symm
theorem SameK.trans{l z y:Ybt α}(h:SameK key l z)(k:SameK key z y):SameK key l y:=λc=>(h c).trans (k c)
theorem SameK.app{a b c d:Ybt α}(h:SameK key a b)(k:SameK key c d):SameK key (a++c) (b++d):=λx=>by show Yby _ _=Yby _ _;rw[ZU,ZU];exact congr (Aw _ (h x)) (k x)
theorem SameK.mem{l z:Ybt α}(h:SameK key l z){a:α}:a∈l↔a∈z:=by
 have e:=h (key a);have m:∀y:Ybt α,a∈y↔a∈atK key (key a) y:=λy=>by simp[atK]
 rw[m l,m z,e]
theorem SameK.swap{x y:α}(h:key x≠key y):SameK key [x,y] [y,x]:=λc=>by
 by_cases hx:key x=c
 ·have hy:key y≠c:=λe=>h (hx.trans e.symm)
  simp[atK,hx,hy]
 ·by_cases hy:key y=c
  ·simp[atK,hx,hy]
  ·simp[atK,hx,hy]
theorem SameK.length{l:Ybt α}:∀{z:Ybt α},SameK key l z->l.length=z.length:=by
 intro z h
 have hp:l.Perm z:=by
  classical
  rw[List.perm_iff_count];intro a;have e:=Aw (List.count a) (h (key a));have m:∀y:Ybt α,List.count a (atK key (key a) y)=List.count a y:=λy=>List.count_filter (by simp);rw[m l,m z]at e;exact e
 exact hp.length_eq
theorem SortK.uniq:∀{l z:Ybt α},SortK key l->SortK key z->SameK key l z->l=z
 |[],[],_,_,_=>rfl
 |[],b::z,_,_,h=>by have:=h.length;simp at this
 |a::l,[],_,_,h=>by have:=h.length;simp at this
 |a::l,b::z,hl,hz,h=>by
  have Nd:key a=key b:=by
   have h1:b∈a::l:=h.mem.2 (Ha ..);have h2:a∈b::z:=h.mem.1 (Ha ..)
   have g1:key a<=key b:=by
    rcases Bl.1 h1 with e|h1
    ·rw[e];exact IS _
    ·exact(Fs.1 hl).1 b h1
   have g2:key b<=key a:=by
    rcases Bl.1 h2 with e|h2
    ·rw[e];exact IS _
    ·exact(Fs.1 hz).1 a h2
   exact Int.le_antisymm g1 g2
  have e:=h (key a);have ea:atK key (key a) (a::l)=a::atK key (key a) l:=by simp[atK]
  have eb:atK key (key a) (b::z)=b::atK key (key a) z:=by simp[atK,Nd]
  rw[ea,eb]at e;injection e with e1 e2;subst e1
  have hs:SameK key l z:=λc=>by
   have e:=h c;by_cases hc:key a=c
   ·subst hc;exact e2
   ·have e1:atK key c (a::l)=atK key c l:=by simp[atK,hc]
    have e2:atK key c (a::z)=atK key c z:=by simp[atK,hc]
    rw[e1,e2]at e;exact e
  rw[SortK.uniq (Fs.1 hl).2 (Fs.1 hz).2 hs]
structure MergeK (key:α->Int) (x y z:Ybt α):Prop where
 s:SortK key z
 k:SameK key (x++y) z
theorem MergeK.nil_left{y:Ybt α}(h:SortK key y):MergeK key [] y y:=⟨h,.refl _⟩
theorem MergeK.nil_right{x:Ybt α}(h:SortK key x):MergeK key x [] x:=⟨h,by rw[In];exact .refl _⟩
theorem SameK.cross:∀{y x:Ybt α},(∀a∈y,∀b∈x,key a≠key b)->SameK key (x++y) (y++x):=by
 intro y x h c;show Yby _ _=Yby _ _;rw[ZU,ZU];by_cases hx:atK key c x=[]
 ·have hx:Yby (λa=>decide (key a=c)) x=[]:=hx
  rw[hx];simp
 ·have hy:Yby (λa=>decide (key a=c)) y=[]:=by rw[Yb1];intro a ha AKM;apply hx;show Yby _ _=_;rw[Yb1];intro b hb AKQ;exact h a ha b hb ((Bd AKM).trans (Bd AKQ).symm)
  rw[hy];simp
theorem MergeK.parts{x1 x2 y1 y2 z1 z2:Ybt α}(h1:MergeK key x1 y1 z1)(h2:MergeK key x2 y2 z2)(hx:SortK key (x1++x2))(hy:SortK key (y1++y2))(oE:∀a∈x1,∀b∈y2,key a<=key b)(ArR:∀a∈y1,∀b∈x2,key a<key b):MergeK key (x1++x2) (y1++y2) (z1++z2):=by
 refine⟨FS.2 ⟨h1.s,h2.s,λa ha b hb=>?_⟩,?_⟩
 ·have ha:=C5.1 (h1.k.mem.2 ha)
  have hb:=C5.1 (h2.k.mem.2 hb);rcases ha with ha|ha<;>rcases hb with hb|hb
  ·exact(FS.1 hx).2.2 a ha b hb
  ·exact oE a ha b hb
  ·exact Int.le_of_lt (ArR a ha b hb)
  ·exact(FS.1 hy).2.2 a ha b hb
 ·have e1:(x1++x2)++(y1++y2)=x1++((x2++y1)++y2):=by simp
  have e2:(x1++y1)++(x2++y2)=x1++((y1++x2)++y2):=by simp
  have hc:SameK key (x2++y1) (y1++x2):=SameK.cross λa ha b hb e=>by have:=ArR a ha b hb;omega
  refine SameK.trans (z:=(x1++y1)++(x2++y2)) ?_ (h1.k.app h2.k);rw[e1,e2];exact(SameK.refl x1).app (hc.app (.refl y2))
theorem MergeK.one_left{x:α}{y1 y2:Ybt α}(hy:SortK key (y1++y2))(h1:∀a∈y1,key a<key x)(h2:∀b∈y2,key x<=key b):MergeK key [x] (y1++y2) (y1++x::y2):=by
 have hp:=FS.1 hy
 have h:=MergeK.parts (x1:=[]) (x2:=[x]) (y1:=y1) (y2:=y2) (z1:=y1) (z2:=x::y2) (.nil_left hp.1) ⟨Fs.2 ⟨h2,hp.2.1⟩,.refl _⟩ (L7 ..) hy (λa ha=>absurd ha Es)
  (λa ha b hb=>by rw[DY.1 hb];exact h1 a ha)
 exact h
theorem MergeK.one_right{y:α}{x1 x2:Ybt α}(hx:SortK key (x1++x2))(h1:∀a∈x1,key a<=key y)(h2:∀b∈x2,key y<key b):MergeK key (x1++x2) [y] (x1++y::x2):=by
 have hp:=FS.1 hx
 have h:=MergeK.parts (x1:=x1) (x2:=x2) (y1:=[y]) (y2:=[]) (z1:=x1++[y]) (z2:=x2) ⟨FS.2 ⟨hp.1,L7 ..,λa ha b hb=>by rw[DY.1 hb];exact h1 a ha⟩,.refl _⟩ (.nil_right hp.2.1) hx
  (L7 ..) (λa _ b hb=>absurd hb Es) (λa ha b hb=>by rw[DY.1 ha];exact h2 b hb)
 simpa using h
theorem SameK.swap_at{p q:Ybt α}{x y:α}(h:key x≠key y):SameK key (p++x::y::q) (p++y::x::q):=
 (SameK.refl p).app ((SameK.swap h).app (.refl q))
end Go.Lift
namespace Go.Lift
variable{α:Type}
def insS(lt:α->α->Bool)(x:α):Ybt α->Ybt α
 |[]=>[x]
 |y::l=>bif lt x y then x::y::l else y::insS lt x l
def LD(lt:α->α->Bool)(l:Ybt α):Ybt α:=l.foldl (λo x=>insS lt x o) []
variable{key:α->Int}{lt:α->α->Bool}
theorem SameK.cons{x:α}{l z:Ybt α}(h:SameK key l z):SameK key (x::l) (x::z):=(SameK.refl [x]).app h
theorem pM(Ax:∀x y,lt x y=true↔key x<key y)(x:α):∀{l:Ybt α},SortK key l->SameK key (l++[x]) (insS lt x l)
 |[],_=>SameK.refl _
 |y::l,h=>by
  obtain⟨h1,h2⟩:=Fs.1 h;unfold insS;cases e:lt x y with
  |true=>
   have hx:=(Ax _ _).1 e
   have hc:SameK key ((y::l)++[x]) ([x]++(y::l)):=SameK.cross λa ha b hb=>by
    rw[DY.1 ha];rcases Bl.1 hb with rfl|hb
    ·omega
    ·have:=h1 b hb;omega
   exact hc
  |false=>exact(pM Ax x h2).cons
theorem AeL{x z:α}:∀{l:Ybt α},z∈insS lt x l->z=x\/z∈l
 |[],h=>.inl (DY.1 h)
 |y::l,h=>by
  unfold insS at h;cases e:lt x y with
  |true=>rw[e]at h;exact Bl.1 h
  |false=>
   rw[e]at h;rcases Bl.1 h with rfl|h
   ·exact .inr (Ha ..)
   ·rcases AeL h with h|h
    ·exact .inl h
    ·exact .inr (DX _ h)
theorem pN(Ax:∀x y,lt x y=true↔key x<key y)(x:α):∀{l:Ybt α},SortK key l->SortK key (insS lt x l)
 |[],_=>L7 ..
 |y::l,h=>by
  obtain⟨h1,h2⟩:=Fs.1 h;unfold insS;cases e:lt x y with
  |true=>
   have hx:=(Ax _ _).1 e;refine Fs.2 ⟨λb hb=>?_,h⟩;rcases Bl.1 hb with rfl|hb
   ·omega
   ·have:=h1 b hb;omega
  |false=>
   have hx:¬key x<key y:=λg=>by rw[(Ax _ _).2 g]at e;cases e
   refine Fs.2 ⟨λb hb=>?_,pN Ax x h2⟩;rcases AeL hb with rfl|hb
   ·omega
   ·exact h1 b hb
theorem pO(Ax:∀x y,lt x y=true↔key x<key y):∀(l o:Ybt α),SortK key o->SortK key (l.foldl (λo x=>insS lt x o) o)/\SameK key (o++l) (l.foldl (λo x=>insS lt x o) o)
 |[],o,h=>⟨h,by rw[In];exact .refl _⟩
 |x::l,o,h=>by
  obtain⟨h1,h2⟩:=pO Ax l (insS lt x o) (pN Ax x h);refine⟨h1,SameK.trans (z:=insS lt x o++l) ?_ h2⟩;have e:o++x::l=(o++[x])++l:=by simp
  rw[e];exact(pM Ax x h).app (.refl _)
theorem Ata(Ax:∀x y,lt x y=true↔key x<key y){l z:Ybt α}(h1:SortK key z)(h2:SameK key l z):z=LD lt l:=by obtain⟨g1,g2⟩:=pO Ax l [] List.Pairwise.nil;exact SortK.uniq h1 g1 (h2.symm.trans g2)
theorem AeM(x:α):∀(l:Ybt α),(insS lt x l).length=l.length+1
 |[]=>rfl
 |y::l=>by
  unfold insS;cases lt x y with
  |true=>rfl
  |false=>show(insS lt x l).length+1=_;rw[AeM x l];rfl
theorem AeN:∀(l o:Ybt α),(l.foldl (λo x=>insS lt x o) o).length=o.length+l.length
 |[],o=>rfl
 |x::l,o=>by show(l.foldl _ (insS lt x o)).length=_;rw[AeN l,AeM,B9];omega
theorem AeO(l:Ybt α):(LD lt l).length=l.length:=by unfold LD;rw[AeN];simp
end Go.Lift
