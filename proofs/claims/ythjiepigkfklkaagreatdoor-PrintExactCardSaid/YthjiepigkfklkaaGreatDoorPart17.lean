/- Part17 -/
import Derived.Test.YthjiepigkfklkaaGreatDoorProg
import Derived.Test.YthjiepigkfklkaaGreatDoorPart16
import Derived.Test.YthjiepigkfklkaaGreatDoorPart3
import Derived.Test.YthjiepigkfklkaaGreatDoorPart11
set_option linter.unusedVariables false
set_option linter.unusedSectionVars false
set_option linter.unusedSimpArgs false
open _root_ renaming Option → Ya, List → Ye, Int → Yh, UInt8 → Yj, cond → Yk, Nat → Yn, Bool → Ys, Array → YQ
open List renaming length → Yb, getD → Ym, drop → Y4, take → Y5, set → YG
open Go.IntKind renaming i64 → Yc, u64 → Yas, u8 → YaN
open Decidable renaming decide → Yd
open Option renaming none → Yf, some → Yg
open Bool renaming false → Yi, true → Yp
open Int renaming toNat → Yl, tmod → Yv, tdiv → Yz
open Nat renaming beq → Yo, ble → YI
open Go renaming TypeId → Yr, FuncId → YA
namespace Go.Lift
open Go.RowKit Go.Shelf Go.Sort Go.Lib Go.Proofs
theorem Aha{α:Type}[Inhabited α](d:YQ α):sgL (λq=>d[q]!) 0 d.size=d.toList:=by
 refine List.ext_getElem ?_ λi h1 h2=>?_
 ·rw[TT];simp
 ·have hi:i<d.size:=by rw[TT]at h1;omega
  simp[sgL,hi]
theorem SortK.map{α γ:Type}{key:α->Yh}{f:γ->α}{l:Ye γ}(h:SortK (λx=>key (f x)) l):SortK key (l.map f):=pJ.2 h
theorem SameK.map{α γ:Type}{key:α->Yh}{f:γ->α}{l z:Ye γ}(h:SameK (λx=>key (f x)) l z):SameK key (l.map f) (z.map f):=λc=>by
 have e:=Aw (List.map f) (h c)
 have m:∀y:Ye γ,atK key c (y.map f)=(atK (λx=>key (f x)) c y).map f:=λy=>by show List.filter _ _=List.map f (List.filter _ _);rw[List.filter_map];rfl
 rw[m,m,e]
theorem AvS{P:Program}{f:YA}{t:Yr}{e:Ty}{good:e.den->Ys}{d0:e.den}{h0:good d0=Yp}(key:e.den->Yh){g:YA}(N:Yn)(he:e.flat=Yp)(Ih:0<e.size)(DH:∀w,Calls P f #[.slice Yf 0 0,.func (.func g) #[] #[]] w λe w'=>e=.returned (.tuple #[])/\w'=w)(Ng:letI:Inhabited {x:e.den // good x=Yp}:=⟨⟨d0,h0⟩⟩
   ∀(gb cap:Yn)(d:YQ {x:e.den // good x=Yp})(w:World),HoldsK (λx=>encT e x.1) e.size w gb 0 d->gb<w.heap.size->d.size<N->
   Calls P f #[.slice (Yg ⟨gb,0,Yf⟩) d.size cap,.func (.func g) #[] #[]] w λe2 w'=>e2=.returned (.tuple #[])/\∃d':YQ {x:e.den // good x=Yp},d'.size=d.size/\SWK (λx=>encT e x.1) e.size w gb 0 d' w'/\
    SortK (λx=>key x.1) (sgL (λq=>d'[q]!) 0 d.size)/\SameK (λx=>key x.1) (sgL (λq=>d[q]!) 0 d.size) (sgL (λq=>d'[q]!) 0 d.size))
  (CD:∃fn,P.funcs[f]?=Yg fn/\(fn.name== "runtime.NumGoroutine")=Yi/\fn.body.isNone=Yi):RowOk P f ⟨t,e,Yi,λl=>l.all good&&Yd (l.length<N),LD λx y=>decide (key x<key y),Yg g⟩:=by
 refine⟨CD,he,λ_ l=>AeO l,λw base sv(l:Ye e.den) xs Ar1 Cs _ hd Aq=>?_⟩;have hd:DList (λx u=>DRep w (λ_=>True) e x u) l xs:=hd;have Aq:w.ownsRow base t e.size sv l.length xs:=Aq;have Ar2:(l.all good&&Yd (l.length<N))=Yp:=Ar1;obtain⟨Ard,XZ⟩:=andB Ar2;have XZ:=Bd XZ;have Arc:∀x∈l,good x=Yp:=FG.1 Ard;clear Ar1 Ar2 Ard;have Ae:xs=l.flatMap (encT e):=(DList.enc he).1 hd;subst Ae;change Calls P _ #[sv,.func (.func g) #[] #[]] w _
 letI:Inhabited {x:e.den // good x=Yp}:=⟨⟨d0,h0⟩⟩
 rcases Aq.2 with⟨rfl,GT⟩|⟨gb,cap,Ba,rfl,X9,hb,h1,h2,h3,h4⟩
 ·have hl:l=([]:Ye e.den):=JV GT
  subst hl;refine(DH w).mono λe2 w' ⟨Lm,hw⟩=>?_;subst hw;refine⟨.slice Yf 0 0,Lm,⟨rfl,rfl,rfl,Av _,λ_ _ _=>rfl⟩,λ_=>rfl,.inl rfl,[],?_,?_⟩
  ·show DList _ [] []
   rfl
  ·show World.ownsRow _ base t e.size _ 0 []
   exact⟨by simp,.inl ⟨rfl,rfl⟩⟩
 ·let enc:{x:e.den // good x=Yp}->Ye Value:=λx=>encT e x.1
  have hk:∀x,(enc x).length=e.size:=λx=>Ah7 he
  let d:YQ {x:e.den // good x=Yp}:=(l.attachWith _ Arc).toArray
  have Fy:d.size=l.length:=by simp[d]
  have HE:d.toList.map (·.1)=l:=by simp[d]
  have Q5:d.toList.flatMap enc=l.flatMap (encT e):=by
   have:l.flatMap (encT e)=((l.attachWith _ Arc).map (·.1)).flatMap (encT e):=by simp
   rw[this,List.flatMap_map]
  have JH:=Ah9 hk Ih d;have Q7:(flatK enc e.size d).size=l.length*e.size:=by rw[size_flatK,Fy]
  have hH:HoldsK enc e.size w gb 0 d:=AvR hb (by rw[Q7,JH,Q5];exact h4);have hg:gb<w.heap.size:=(IN.1 hb).1;have Ar0:=Ng gb cap d w hH hg (by rw[Fy];exact XZ);rw[Fy]at Ar0;refine Ar0.mono λe2 w' ⟨Lm,d',Cp,⟨n,os,hw⟩,ArI,AdX⟩=>?_;have Ar3:d'.size=l.length:=Cp
  have AJ:d'.toList.map (·.1)=LD (λx y=>decide (key x<key y)) l:=by have e1:=Aha d;have e2:=Aha d';rw[Fy]at e1;rw[Ar3]at e2;rw[e2]at ArI AdX;rw[e1]at AdX;have s2:=SameK.map (f:=λx:{x:e.den // good x=Yp}=>x.1) AdX;rw[HE]at s2;exact Ata (λ_ _=>ZX) (SortK.map (f:=λx:{x:e.den // good x=Yp}=>x.1) ArI) s2
  have Ar7:=Ah9 hk Ih d';have Ads:(flatK enc e.size d').size=l.length*e.size:=by rw[size_flatK,Ar3]
  have AU:(LD (λx y=>decide (key x<key y)) l).length=l.length:=AeO l;have Ar6:d'.toList.flatMap enc=(LD (λx y=>decide (key x<key y)) l).flatMap (encT e):=by rw[<-AJ,List.flatMap_map]
  have hw:w'=grow (putRow id (Sort.ahead w n) gb 0 (flatK enc e.size d')) os:=hw;subst hw;refine⟨.slice (Yg ⟨gb,0,Yf⟩) l.length cap,Lm,AvP _,λ_=>rfl,.inl rfl,(LD (λx y=>decide (key x<key y)) l).flatMap (encT e),(DList.enc he).2 rfl,?_⟩;show World.ownsRow _ base t e.size _ (LD (λx y=>decide (key x<key y)) l).length _;rw[AU];refine⟨?_,.inr ⟨gb,cap,_,rfl,X9,AvO _ hb,h1,h2,?_,?_⟩⟩
  ·rw[<-Ar6,<-Ar7,Hq,Ads]
  ·show(putCells id 0 (flatK enc e.size d') Ba).size=cap*e.size
   rw[<-h3];simp[putCells]
  ·have BF:(flatK enc e.size d').size<=Ba.size:=by rw[Ads,h3];exact KO _ h1
   have:=AvQ Ba (flatK enc e.size d') BF;rw[Ads,Ar7,Ar6]at this;exact this
end Go.Lift
namespace Go.Lift
open Go.Proofs
noncomputable section
variable[Sl]
set_option maxRecDepth 100000
abbrev Bm:=(Ye Yj×(Yh×Ye Yh))
abbrev EC:Ty:=(.prod .str (.prod (.int .i64) (.slice (.int .i64))))
abbrev Bz:=(Ye Yj×(Yh×((Yh×Yh)×(Yh×(Yh×(Ye Yh×(Ye (Yh×Yh)×(Yh×Yh))))))))
abbrev NT:Ty:=(.prod .str (.prod (.int .i64) (.prod (.prod (.int .i64) (.int .i64)) (.prod (.int .i64) (.prod (.int .i64) (.prod (.slice (.int .i64)) (.prod (.slice (.prod (.int .i64) (.int .i64))) (.prod (.int .i64) (.int .i64)))))))))
abbrev BC:=(Ye Yj×(Ye Bz×Ye (Yh×(Yh×(Yh×(Yh×Yh))))))
abbrev GF:Ty:=(.prod .str (.prod (.slice NT) (.slice (.prod (.int .i64) (.prod (.int .i64) (.prod (.int .i64) (.prod (.int .i64) (.int .i64))))))))
abbrev AN:=(Yh×(Ye Yj×Yh))
abbrev Dc:Ty:=(.prod (.int .i64) (.prod .str (.int .i64)))
abbrev Cj:=(Yh×(Yh×(Yh×(Yh×(Yh×(Yh×Yh))))))
abbrev KW:Ty:=(.prod (.int .i64) (.prod (.int .i64) (.prod (.int .i64) (.prod (.int .i64) (.prod (.int .i64) (.prod (.int .i64) (.int .i64)))))))
abbrev AF:=(Ye Yj×(Yh×Ye Cj))
abbrev ED:Ty:=(.prod .str (.prod (.int .i64) (.slice KW)))
abbrev Kj:=(Ye Yj×(Ye Yh×Ys))
abbrev MI:Ty:=(.prod .str (.prod (.slice (.int .i64)) .bool))
abbrev AV:=(Ye Yj×(Yh×(Ye (Yh×Yh)×(Yh×(Yh×Ys)))))
abbrev EE:Ty:=(.prod .str (.prod (.int .i64) (.prod (.slice (.prod (.int .i64) (.int .i64))) (.prod (.int .i64) (.prod (.int .i64) .bool)))))
abbrev Aj:=(Ye AF×(Ye AV×(Ye Bm×Ye BC)))
abbrev Iw:Ty:=(.prod (.slice ED) (.prod (.slice EE) (.prod (.slice EC) (.slice GF))))
abbrev AvT:=(Aj×Ye (Yh×Ye AN))
abbrev AvU:Ty:=(.prod Iw (.slice (.prod (.int .i64) (.slice Dc))))
abbrev H0:AN:=((0:Yh),(([]:Ye Yj),(0:Yh)))
abbrev AvV:Kj:=(([]:Ye Yj),(([]:Ye Yh),Yi))
abbrev AO4:Bm:=(([]:Ye Yj),((0:Yh),([]:Ye Yh)))
abbrev RH:AF:=(([]:Ye Yj),((0:Yh),([]:Ye Cj)))
abbrev AO5:Cj:=((0:Yh),((0:Yh),((0:Yh),((0:Yh),((0:Yh),((0:Yh),(0:Yh)))))))
abbrev AO6:AV:=(([]:Ye Yj),((0:Yh),(([]:Ye (Yh×Yh)),((0:Yh),((0:Yh),Yi)))))
abbrev BN:BC:=(([]:Ye Yj),(([]:Ye Bz),([]:Ye (Yh×(Yh×(Yh×(Yh×Yh)))))))
abbrev MJ:Aj:=(([]:Ye AF),(([]:Ye AV),(([]:Ye Bm),([]:Ye BC))))
abbrev AO7:AvT:=((([]:Ye AF),(([]:Ye AV),(([]:Ye Bm),([]:Ye BC)))),([]:Ye (Yh×Ye AN)))
abbrev NU:Bz:=(([]:Ye Yj),((0:Yh),(((0:Yh),(0:Yh)),((0:Yh),((0:Yh),(([]:Ye Yh),(([]:Ye (Yh×Yh)),((0:Yh),(0:Yh)))))))))
abbrev Am:=Ye Yj
abbrev Bb:=Ye Bm
abbrev Be:=Ye BC
abbrev AZ:=Ye AV
abbrev BG:=Yh×Yh
abbrev Bc:=Ye AF
abbrev Cm:=Ye AN
abbrev BX:=Ye Yh×Yh
abbrev Ch:=Ye BG
abbrev Ix:=Ye Cj
abbrev IY:=Ye Yj×Ys
abbrev Iy:=Yh×Ye AN
abbrev BO:=Ye Iy
abbrev DO:=Ye Cm
abbrev DP:=Ye Am
abbrev Et:=Ye Yh
abbrev GG:=Yh×BG
abbrev CO:=Yh×(Yh×GG)
abbrev Ahb:OT:=.p (.d .str) (.p (.d (.int .i64)) (.p (.d (.prod (.int .i64) (.int .i64))) (.p (.d (.int .i64)) (.p (.d (.int .i64)) (.p (.r 3 (.d (.int .i64))) (.p (.r 74 (.d (.prod (.int .i64) (.int .i64)))) (.d (.prod (.int .i64) (.int .i64)))))))))
abbrev Ahc:OT:=.p (.d .str) (.p (.r 61 Ahb) (.r 65 (.d (.prod (.int .i64) (.prod (.int .i64) (.prod (.int .i64) (.prod (.int .i64) (.int .i64))))))))
abbrev Ahd:OT:=.p (.d .str) (.p (.d (.int .i64)) (.p (.r 74 (.d (.prod (.int .i64) (.int .i64)))) (.d (.prod (.int .i64) (.prod (.int .i64) .bool)))))
abbrev Ahe:OT:=.p (.d .str) (.p (.d (.int .i64)) (.r 136 (.d KW)))
abbrev Ahf:OT:=.p (.d .str) (.p (.d (.int .i64)) (.r 3 (.d (.int .i64))))
abbrev IZ:OT:=.p (.d .str) (.p (.r 61 (.d NT)) (.r 65 (.d (.prod (.int .i64) (.prod (.int .i64) (.prod (.int .i64) (.prod (.int .i64) (.int .i64))))))))
abbrev NV:OT:=.r 90 (.d Dc)
abbrev LQ:OT:=.p (.d (.int .i64)) NV
abbrev Aa:Ys×Ye CT:=(Yi,[.data (.int .i64)])
abbrev RI:BT:=.cells 84 [.data (.slice ED),.data (.slice EE),.data (.slice EC),.data (.slice GF),.trowh 1]
abbrev CJ:BT:=.cells 49 [.data (.prod (.slice (.int .i64)) (.int .i64))]
abbrev An:Ys×Ye CT:=(Yi,[.ptr 0 0])
abbrev BR:BT:=.cells 28 [.data Iw]
abbrev AK:Ys×Ye CT:=(Yi,[.data .bool])
abbrev AI:Ys×Ye CT:=(Yi,[.data .str])
abbrev H3:BT:=.cells 65 [.data (.prod (.int .i64) (.prod (.int .i64) (.prod (.int .i64) (.prod (.int .i64) (.int .i64)))))]
abbrev AvW:BT:=.cells 161 [.trowh 1,.trowh 2,.trowh 3,.trowh 4]
abbrev Hf:Ys×Ye CT:=(Yi,[.data (.slice (.prod (.int .i64) (.slice Dc)))])
abbrev DQ:Ys×Ye CT:=(Yi,[.data (.slice Dc)])
abbrev tT:BT:=.cells 84 [.data (.slice ED),.data (.slice EE),.data (.slice EC),.data (.slice GF),.trowh 2]
abbrev BP:Ys×Ye CT:=(Yi,[.rowh 0])
abbrev BY:Ys×Ye CT:=(Yi,[.ptr 1 0])
abbrev Dm:Ys×Ye CT:=(Yp,[.data Iw])
abbrev AvX:BT:=.cells 61 [.data .str,.data (.int .i64),.data (.int .i64),.data (.int .i64),.data (.int .i64),.data (.int .i64),.rowh 6,.rowh 7,.data (.int .i64),.data (.int .i64)]
abbrev AvY:BT:=.cells 61 [.data .str,.data (.int .i64),.data (.int .i64),.data (.int .i64),.data (.int .i64),.data (.int .i64),.rowh 4,.rowh 5,.data (.int .i64),.data (.int .i64)]
abbrev KX:BT:=.cells 213 [.data (.prod (.int .i64) (.prod (.int .i64) (.int .i64)))]
abbrev C9:Ys×Ye CT:=(Yi,[.ptr 2 0])
abbrev EP:BT:=.cells 90 [.data Dc]
abbrev J5:Ys×Ye CT:=(Yi,[.data (.slice (.prod (.int .i64) (.int .i64)))])
abbrev HT:Ys×Ye CT:=(Yi,[.data (.slice KW)])
abbrev RJ:Ys×Ye CT:=(Yp,[.data (.prod (.int .i64) (.prod (.int .i64) (.prod (.int .i64) (.prod (.int .i64) (.int .i64)))))])
abbrev Dd:Ys×Ye CT:=(Yi,[.rowh 1])
abbrev UH:Ys×Ye CT:=(Yi,[.data (.slice (.prod (.int .i64) (.prod (.int .i64) (.prod (.int .i64) (.prod (.int .i64) (.int .i64))))))])
abbrev Iz:Ys×Ye CT:=(Yi,[.data (.slice (.int .i64))])
abbrev AvZ:BT:=.cells 28 [.data (.slice ED),.data (.slice EE),.data (.slice EC),.junk]
abbrev P7:Ys×Ye CT:=(Yp,[.data (.prod (.int .i64) (.prod (.int .i64) (.int .i64)))])
abbrev H4:Ys×Ye CT:=(Yp,[.data Dc])
abbrev Ahg:BT:=.cells 28 [.rowh 3,.rowh 4,.rowh 5,.rowh 6]
abbrev Aw0:BT:=.cells 28 [.data (.slice ED),.data (.slice EE),.data (.slice EC),.rowh 8]
abbrev I1:Ys×Ye CT:=(Yp,[.data ED])
abbrev LR:BT:=.cells 9 [.data .str]
abbrev J6:BT:=.cells 61 [.data NT]
abbrev MK:Ys×Ye CT:=(Yi,[.data (.slice GF)])
abbrev Aw1:BT:=.cells 28 [.rowh 7,.rowh 8,.rowh 9,.rowh 10]
abbrev tU:BT:=.cells 28 [.rowh 4,.rowh 5,.rowh 6,.rowh 7]
abbrev NW:Ys×Ye CT:=(Yi,[.data (.slice EE)])
abbrev P8:Ys×Ye CT:=(Yi,[.data (.slice EC)])
abbrev tV:BT:=.cells 28 [.data (.slice ED),.data (.slice EE),.data (.slice EC),.trowh 3]
abbrev ML:Ys×Ye CT:=(Yp,[.data EC])
abbrev RK:BT:=.cells 56 [.data GF]
abbrev P9:Ys×Ye CT:=(Yi,[.data (.slice ED)])
abbrev MM:BT:=.cells 70 [.data ED]
abbrev MN:Ys×Ye CT:=(Yp,[.data NT])
abbrev Ahh:BT:=.cells 61 [.data .str,.data (.int .i64),.data (.int .i64),.data (.int .i64),.data (.int .i64),.data (.int .i64),.rowh 2,.rowh 3,.data (.int .i64),.data (.int .i64)]
abbrev PA:BT:=.cells 76 [.data EC]
abbrev Kk:Ys×Ye CT:=(Yi,[.ptr 3 0])
abbrev PC:BT:=.cells 72 [.data EE]
abbrev PD:Ys×Ye CT:=(Yp,[.data EE])
abbrev UI:Ys×Ye CT:=(Yi,[.data (.slice NT)])
abbrev Aw2:BT:=.cells 56 [.data .str,.rowh 9,.rowh 10]
abbrev Aw3:BT:=.cells 28 [.data (.slice ED),.data (.slice EE),.data (.slice EC),.rowh 7]
abbrev UJ:Ys×Ye CT:=(Yp,[.data GF])
abbrev Ahi:Ys×Ye CT:=(Yp,[.data (.slice ED),.data (.slice EE),.data (.slice EC),.junk])
abbrev Ahj:BT:=.cells 28 [.rowh 8,.rowh 9,.rowh 10,.rowh 11]
abbrev Ahk:BT:=.cells 28 [.rowh 3,.rowh 4,.rowh 5,.trowh 6]
abbrev PE:Ys×Ye CT:=(Yi,[.rowh 3])
abbrev PF:Ys×Ye CT:=(Yi,[.rowh 2])
abbrev cL:Ys×Ye CT:=(Yi,[.data (.slice .str)])
abbrev FA:Ye BT:=[AvW,.tree 70 Ahe,.tree 72 Ahd,.tree 76 Ahf,.tree 56 Ahc]
abbrev PG:Ye BT:=[CJ,Ahg,Aw1,.row 70 ED,.row 72 EE,.row 76 EC,.row 56 GF,.row 70 ED,.row 72 EE,.row 76 EC,.row 56 GF]
abbrev cM:Ye BT:=[CJ,tU,Aw0,Aw2,.row 70 ED,.row 72 EE,.row 76 EC,.row 56 GF,.row 56 GF,.row 61 NT,.row 65 (.prod (.int .i64) (.prod (.int .i64) (.prod (.int .i64) (.prod (.int .i64) (.int .i64)))))]
abbrev UK:Ye BT:=[CJ,AvZ,AvY,AvX,.row 3 (.int .i64),.row 74 (.prod (.int .i64) (.int .i64)),.row 3 (.int .i64),.row 74 (.prod (.int .i64) (.int .i64))]
abbrev E1:Ye BT:=[RI,.tree 102 LQ]
abbrev Ahl:Ye BT:=[CJ,tU,Ahj,.cells 76 [.data .str,.data (.int .i64),.rowh 12],.row 70 ED,.row 72 EE,.row 76 EC,.row 56 GF,.row 70 ED,.row 72 EE,.row 76 EC,.row 56 GF,.row 3 (.int .i64)]
abbrev RL:Ye BT:=[.row 102 (.prod (.int .i64) (.slice Dc))]
abbrev PH:Ye BT:=[.row 262 (.prod (.int .i64) (.int .i64))]
abbrev NX:Ye BT:=[BR,.row 98 (.slice Dc)]
abbrev MO:Ye BT:=[.row 98 (.slice Dc)]
abbrev KY:Ye BT:=[.row 90 Dc]
abbrev UL:Ye BT:=[.row 266 (.prod (.int .i64) (.int .i64))]
abbrev UM:Ye BT:=[.row 260 (.prod (.int .i64) (.int .i64))]
abbrev Ahm:Ye BT:=[CJ,Ahg,Aw3,.row 70 ED,.row 72 EE,.row 76 EC,.row 56 GF,.row 56 GF]
abbrev RM:Ye BT:=[BR,tT,.tree 102 LQ]
abbrev UN:Ye BT:=[BR,.map 123 .str .bool Yi]
abbrev Ahn:Ye BT:=[CJ,BR,Ahk,.row 70 ED,.row 72 EE,.row 76 EC,.tree 56 IZ]
abbrev Aho:Ye BT:=[.row 266 (.prod (.int .i64) (.int .i64)),.cells 266 [.data (.prod (.int .i64) (.int .i64))]]
abbrev tW:Ye BT:=[CJ,.row 74 (.prod (.int .i64) (.int .i64))]
abbrev Ahp:Ye BT:=[.row 262 (.prod (.int .i64) (.int .i64)),.row 260 (.prod (.int .i64) (.int .i64))]
abbrev cN:Ye BT:=[.cells 283 [.fn 243 []],LR]
abbrev cO:Ye BT:=[.cells 127 [.fn 245 []],LR]
abbrev cP:Ye BT:=[.cells 121 [.fn 240 []],LR]
abbrev tX:Ye BT:=[BR,.row 98 (.slice Dc),RK]
abbrev LS:Ye BT:=[.row 9 .str]
abbrev Ee:Ye (Yr×OT):=[(56,Ahc),(61,Ahb),(70,Ahe),(72,Ahd),(76,Ahf)]
abbrev FV:Ye (Yr×OT):=[(102,LQ)]
def tab:Ye (Yn×TI):=[
 (3,⟨Yi,1,8,[.int .i64 (0:Yh)],[],Yf,Yf,(Yg (.int .i64)),(Yg .i64),Yi,Yi,Yf,Yf,Yi⟩),
 (4,⟨Yi,1,1,[.bool Yi],[],Yf,Yf,(Yg .bool),Yf,Yp,Yi,Yf,Yf,Yi⟩),
 (5,⟨Yi,1,1,[.int .u8 (0:Yh)],[],Yf,Yf,(Yg (.int .u8)),(Yg .u8),Yi,Yi,Yf,Yf,Yi⟩),
 (9,⟨Yi,1,16,[.str ([]:Ye Yj)],[],Yf,Yf,(Yg .str),Yf,Yi,Yp,Yf,Yf,Yi⟩),
 (22,⟨Yi,1,24,[.nils],[],(Yg 3),Yf,(Yg (.slice (.int .i64))),Yf,Yi,Yi,Yf,Yf,Yi⟩),
 (23,⟨Yi,1,24,[.nils],[],(Yg 70),Yf,(Yg (.slice ED)),Yf,Yi,Yi,Yf,Yf,Yi⟩),
 (24,⟨Yi,1,24,[.nils],[],(Yg 72),Yf,(Yg (.slice EE)),Yf,Yi,Yi,Yf,Yf,Yi⟩),
 (25,⟨Yi,1,24,[.nils],[],(Yg 76),Yf,(Yg (.slice EC)),Yf,Yi,Yi,Yf,Yf,Yi⟩),
 (26,⟨Yi,1,24,[.nils],[],(Yg 56),Yf,(Yg (.slice GF)),Yf,Yi,Yi,Yf,Yf,Yi⟩),
 (28,⟨Yp,4,96,[.nils,.nils,.nils,.nils],[(0,1,Yi),(1,1,Yi),(2,1,Yi),(3,1,Yi)],Yf,Yf,(Yg Iw),Yf,Yi,Yi,Yf,Yf,Yi⟩),
 (36,⟨Yp,16,384,[.nils,.nils,.nils,.nils,.nils,.nils,.nils,.nils,.nils,.nils,.nils,.nils,.nils,.nils,.nils,.nils],[],(Yg 28),(Yg 4),(Yg (.prod Iw (.prod Iw (.prod Iw Iw)))),Yf,Yi,Yi,Yf,Yf,Yi⟩),
 (37,⟨Yi,1,24,[.nils],[],(Yg 102),Yf,(Yg (.slice (.prod (.int .i64) (.slice Dc)))),Yf,Yi,Yi,Yf,Yf,Yi⟩),
 (49,⟨Yp,2,32,[.nils,.int .i64 (0:Yh)],[(0,1,Yi),(1,1,Yi)],Yf,Yf,(Yg (.prod (.slice (.int .i64)) (.int .i64))),Yf,Yi,Yi,Yf,Yf,Yi⟩),
 (52,⟨Yi,1,24,[.nils],[],(Yg 9),Yf,(Yg (.slice .str)),Yf,Yi,Yi,Yf,Yf,Yi⟩),
 (53,⟨Yi,1,24,[.nils],[],(Yg 61),Yf,(Yg (.slice NT)),Yf,Yi,Yi,Yf,Yf,Yi⟩),
 (54,⟨Yi,1,24,[.nils],[],(Yg 65),Yf,(Yg (.slice (.prod (.int .i64) (.prod (.int .i64) (.prod (.int .i64) (.prod (.int .i64) (.int .i64))))))),Yf,Yi,Yi,Yf,Yf,Yi⟩),
 (56,⟨Yp,3,64,[.str ([]:Ye Yj),.nils,.nils],[(0,1,Yi),(1,1,Yi),(2,1,Yi)],Yf,Yf,(Yg GF),Yf,Yi,Yi,Yf,Yf,Yi⟩),
 (58,⟨Yp,2,16,[.int .i64 (0:Yh),.int .i64 (0:Yh)],[(0,1,Yi),(1,1,Yi)],Yf,Yf,(Yg (.prod (.int .i64) (.int .i64))),Yf,Yi,Yi,(Yg [.i,.i]),Yf,Yi⟩),
 (59,⟨Yi,1,24,[.nils],[],(Yg 74),Yf,(Yg (.slice (.prod (.int .i64) (.int .i64)))),Yf,Yi,Yi,Yf,Yf,Yi⟩),
 (61,⟨Yp,10,120,[.str ([]:Ye Yj),.int .i64 (0:Yh),.int .i64 (0:Yh),.int .i64 (0:Yh),.int .i64 (0:Yh),.int .i64 (0:Yh),.nils,.nils,.int .i64 (0:Yh),.int .i64 (0:Yh)],[(0,1,Yi),(1,1,Yi),(2,2,Yp),(4,1,Yi),(5,1,Yi),(6,1,Yi),(7,1,Yi),(8,1,Yi),(9,1,Yi)],Yf,Yf,(Yg NT),Yf,Yi,Yi,Yf,Yf,Yi⟩),
 (65,⟨Yp,5,40,[.int .i64 (0:Yh),.int .i64 (0:Yh),.int .i64 (0:Yh),.int .i64 (0:Yh),.int .i64 (0:Yh)],[(0,1,Yi),(1,1,Yi),(2,1,Yi),(3,1,Yi),(4,1,Yi)],Yf,Yf,(Yg (.prod (.int .i64) (.prod (.int .i64) (.prod (.int .i64) (.prod (.int .i64) (.int .i64)))))),Yf,Yi,Yi,(Yg [.i,.i,.i,.i,.i]),Yf,Yi⟩),
 (68,⟨Yi,1,24,[.nils],[],(Yg 136),Yf,(Yg (.slice KW)),Yf,Yi,Yi,Yf,Yf,Yi⟩),
 (70,⟨Yp,3,48,[.str ([]:Ye Yj),.int .i64 (0:Yh),.nils],[(0,1,Yi),(1,1,Yi),(2,1,Yi)],Yf,Yf,(Yg ED),Yf,Yi,Yi,Yf,Yf,Yi⟩),
 (72,⟨Yp,6,72,[.str ([]:Ye Yj),.int .i64 (0:Yh),.nils,.int .i64 (0:Yh),.int .i64 (0:Yh),.bool Yi],[(0,1,Yi),(1,1,Yi),(2,1,Yi),(3,1,Yi),(4,1,Yi),(5,1,Yi)],Yf,Yf,(Yg EE),Yf,Yi,Yi,Yf,Yf,Yi⟩),
 (74,⟨Yp,2,16,[.int .i64 (0:Yh),.int .i64 (0:Yh)],[(0,1,Yi),(1,1,Yi)],Yf,Yf,(Yg (.prod (.int .i64) (.int .i64))),Yf,Yi,Yi,(Yg [.i,.i]),Yf,Yi⟩),
 (76,⟨Yp,3,48,[.str ([]:Ye Yj),.int .i64 (0:Yh),.nils],[(0,1,Yi),(1,1,Yi),(2,1,Yi)],Yf,Yf,(Yg EC),Yf,Yi,Yi,Yf,Yf,Yi⟩),
 (77,⟨Yi,1,8,[.nilp],[],Yf,Yf,Yf,Yf,Yi,Yi,Yf,Yf,Yp⟩),
 (78,⟨Yi,1,8,[.nilp],[],Yf,Yf,Yf,Yf,Yi,Yi,Yf,Yf,Yp⟩),
 (82,⟨Yi,1,8,[.nilp],[],Yf,Yf,Yf,Yf,Yi,Yi,Yf,Yf,Yp⟩),
 (84,⟨Yp,5,120,[.nils,.nils,.nils,.nils,.nils],[(0,4,Yp),(4,1,Yi)],Yf,Yf,(Yg AvU),Yf,Yi,Yi,Yf,Yf,Yi⟩),
 (90,⟨Yp,3,32,[.int .i64 (0:Yh),.str ([]:Ye Yj),.int .i64 (0:Yh)],[(0,1,Yi),(1,1,Yi),(2,1,Yi)],Yf,Yf,(Yg Dc),Yf,Yi,Yi,(Yg [.i,.s,.i]),Yf,Yi⟩),
 (94,⟨Yi,1,24,[.nils],[],(Yg 98),Yf,(Yg (.slice (.slice Dc))),Yf,Yi,Yi,Yf,Yf,Yi⟩),
 (98,⟨Yi,1,24,[.nils],[],(Yg 90),Yf,(Yg (.slice Dc)),Yf,Yi,Yi,Yf,Yf,Yi⟩),
 (102,⟨Yp,2,32,[.int .i64 (0:Yh),.nils],[(0,1,Yi),(1,1,Yi)],Yf,Yf,(Yg (.prod (.int .i64) (.slice Dc))),Yf,Yi,Yi,Yf,Yf,Yi⟩),
 (121,⟨Yi,1,8,[.nilfn],[],Yf,Yf,Yf,Yf,Yi,Yi,Yf,Yf,Yi⟩),
 (123,⟨Yi,1,8,[.junk],[],Yf,Yf,Yf,Yf,Yi,Yi,Yf,(Yg (9,4)),Yi⟩),
 (127,⟨Yi,1,8,[.nilfn],[],Yf,Yf,Yf,Yf,Yi,Yi,Yf,Yf,Yi⟩),
 (136,⟨Yp,7,56,[.int .i64 (0:Yh),.int .i64 (0:Yh),.int .i64 (0:Yh),.int .i64 (0:Yh),.int .i64 (0:Yh),.int .i64 (0:Yh),.int .i64 (0:Yh)],[(0,1,Yi),(1,1,Yi),(2,1,Yi),(3,1,Yi),(4,1,Yi),(5,1,Yi),(6,1,Yi)],Yf,Yf,(Yg KW),Yf,Yi,Yi,(Yg [.i,.i,.i,.i,.i,.i,.i]),Yf,Yi⟩),
 (145,⟨Yi,1,24,[.nils],[],(Yg 5),Yf,(Yg (.slice (.int .u8))),Yf,Yi,Yi,Yf,Yf,Yi⟩),
 (147,⟨Yp,2,32,[.nilp,.nils],[(0,1,Yi),(1,1,Yi)],Yf,Yf,Yf,Yf,Yi,Yi,Yf,Yf,Yi⟩),
 (150,⟨Yi,1,16,[.err Yp],[],Yf,Yf,(Yg .err),Yf,Yi,Yi,Yf,Yf,Yi⟩),
 (161,⟨Yp,4,96,[.nils,.nils,.nils,.nils],[(0,4,Yp)],Yf,Yf,(Yg Iw),Yf,Yi,Yi,Yf,Yf,Yi⟩),
 (162,⟨Yi,1,8,[.junk],[],Yf,Yf,Yf,Yf,Yi,Yi,Yf,(Yg (9,164)),Yi⟩),
 (164,⟨Yi,1,8,[.nilfn],[],Yf,Yf,Yf,Yf,Yi,Yi,Yf,Yf,Yi⟩),
 (188,⟨Yi,1,24,[.nils],[],(Yg 190),Yf,(Yg (.slice (.prod .str .str))),Yf,Yi,Yi,Yf,Yf,Yi⟩),
 (190,⟨Yp,2,32,[.str ([]:Ye Yj),.str ([]:Ye Yj)],[],(Yg 9),(Yg 2),(Yg (.prod .str .str)),Yf,Yi,Yi,(Yg [.s,.s]),Yf,Yi⟩),
 (201,⟨Yp,3,48,[.str ([]:Ye Yj),.nils,.bool Yi],[(0,1,Yi),(1,1,Yi),(2,1,Yi)],Yf,Yf,(Yg MI),Yf,Yi,Yi,Yf,Yf,Yi⟩),
 (206,⟨Yi,1,24,[.nils],[],(Yg 262),Yf,(Yg (.slice (.prod (.int .i64) (.int .i64)))),Yf,Yi,Yi,Yf,Yf,Yi⟩),
 (213,⟨Yp,3,24,[.int .i64 (0:Yh),.int .i64 (0:Yh),.int .i64 (0:Yh)],[(0,1,Yi),(1,1,Yi),(2,1,Yi)],Yf,Yf,(Yg (.prod (.int .i64) (.prod (.int .i64) (.int .i64)))),Yf,Yi,Yi,(Yg [.i,.i,.i]),Yf,Yi⟩),
 (222,⟨Yi,1,8,[.int .u64 (0:Yh)],[],Yf,Yf,(Yg (.int .u64)),(Yg .u64),Yi,Yi,Yf,Yf,Yi⟩),
 (232,⟨Yi,1,24,[.nils],[],(Yg 201),Yf,(Yg (.slice MI)),Yf,Yi,Yi,Yf,Yf,Yi⟩),
 (238,⟨Yi,1,8,[.nilp],[],Yf,Yf,Yf,Yf,Yi,Yi,Yf,Yf,Yp⟩),
 (244,⟨Yi,1,8,[.nilp],[],Yf,Yf,Yf,Yf,Yi,Yi,Yf,Yf,Yp⟩),
 (247,⟨Yi,1,8,[.nilp],[],Yf,Yf,Yf,Yf,Yi,Yi,Yf,Yf,Yp⟩),
 (256,⟨Yi,1,24,[.nils],[],(Yg 260),Yf,(Yg (.slice (.prod (.int .i64) (.int .i64)))),Yf,Yi,Yi,Yf,Yf,Yi⟩),
 (260,⟨Yp,2,16,[.int .i64 (0:Yh),.int .i64 (0:Yh)],[(0,1,Yi),(1,1,Yi)],Yf,Yf,(Yg (.prod (.int .i64) (.int .i64))),Yf,Yi,Yi,(Yg [.i,.i]),Yf,Yi⟩),
 (262,⟨Yp,2,16,[.int .i64 (0:Yh),.int .i64 (0:Yh)],[(0,1,Yi),(1,1,Yi)],Yf,Yf,(Yg (.prod (.int .i64) (.int .i64))),Yf,Yi,Yi,(Yg [.i,.i]),Yf,Yi⟩),
 (264,⟨Yi,1,24,[.nils],[],(Yg 266),Yf,(Yg (.slice (.prod (.int .i64) (.int .i64)))),Yf,Yi,Yi,Yf,Yf,Yi⟩),
 (266,⟨Yp,2,16,[.int .i64 (0:Yh),.int .i64 (0:Yh)],[(0,1,Yi),(1,1,Yi)],Yf,Yf,(Yg (.prod (.int .i64) (.int .i64))),Yf,Yi,Yi,(Yg [.i,.i]),Yf,Yi⟩),
 (283,⟨Yi,1,8,[.nilfn],[],Yf,Yf,Yf,Yf,Yi,Yi,Yf,Yf,Yi⟩),
 (289,⟨Yp,12,96,[.int .i64 (0:Yh),.int .i64 (0:Yh),.int .i64 (0:Yh),.int .i64 (0:Yh),.int .i64 (0:Yh),.int .i64 (0:Yh),.int .i64 (0:Yh),.int .i64 (0:Yh),.int .i64 (0:Yh),.int .i64 (0:Yh),.int .i64 (0:Yh),.int .i64 (0:Yh)],[],(Yg 3),(Yg 12),(Yg (.prod (.int .i64) (.prod (.int .i64) (.prod (.int .i64) (.prod (.int .i64) (.prod (.int .i64) KW)))))),Yf,Yi,Yi,(Yg [.i,.i,.i,.i,.i,.i,.i,.i,.i,.i,.i,.i]),Yf,Yi⟩)]
theorem Bu:TOk Tryz.prog (look tab):=Av1 (by kernel_rfl)
theorem mixed:Tryz.prog.follows .mixedOrders=Yp:=by kernel_rfl
abbrev OK(p:Pc)(G:p.G):Prop:=p.Ok Tryz.prog G
abbrev GO(X:Ctx):Prop:=ΓOk Tryz.prog X.Γ
@[reducible] def cx(l:Ye (Yn×Fun)):Ctx:=⟨look tab,EB l,Yi,Yi,Yi,Yi,[],Yf,0,[]⟩
@[reducible] def UO{A0 A1 B:Type}(f:(A0->A1->B)->A0->A1->B)(z:B):Yn->A0->A1->B
 |0=>λ_ _=>z
 |i+1=>f (UO f z i)
@[reducible] def D7{A0 A1 A2 B:Type}(f:(A0->A1->A2->B)->A0->A1->A2->B)(z:B):Yn->A0->A1->A2->B
 |0=>λ_ _ _=>z
 |i+1=>f (D7 f z i)
@[reducible] def FW{A0 A1 A2 A3 B:Type}(f:(A0->A1->A2->A3->B)->A0->A1->A2->A3->B)(z:B):Yn->A0->A1->A2->A3->B
 |0=>λ_ _ _ _=>z
 |i+1=>f (FW f z i)
@[reducible] def HU{A0 A1 A2 A3 A4 B:Type}(f:(A0->A1->A2->A3->A4->B)->A0->A1->A2->A3->A4->B)(z:B):Yn->A0->A1->A2->A3->A4->B
 |0=>λ_ _ _ _ _=>z
 |i+1=>f (HU f z i)
@[reducible] def UP{A0 A1 A2 A3 A4 A5 B:Type}(f:(A0->A1->A2->A3->A4->A5->B)->A0->A1->A2->A3->A4->A5->B)(z:B):Yn->A0->A1->A2->A3->A4->A5->B
 |0=>λ_ _ _ _ _ _=>z
 |i+1=>f (UP f z i)
@[reducible] def Ahq{A0 A1 A2 A3 A4 A5 A6 B:Type}(f:(A0->A1->A2->A3->A4->A5->A6->B)->A0->A1->A2->A3->A4->A5->A6->B)(z:B):Yn->A0->A1->A2->A3->A4->A5->A6->B
 |0=>λ_ _ _ _ _ _ _=>z
 |i+1=>f (Ahq f z i)
@[reducible] def Ahr{A0 A1 A2 A3 A4 A5 A6 A7 B:Type}(f:(A0->A1->A2->A3->A4->A5->A6->A7->B)->A0->A1->A2->A3->A4->A5->A6->A7->B)(z:B):Yn->A0->A1->A2->A3->A4->A5->A6->A7->B
 |0=>λ_ _ _ _ _ _ _ _=>z
 |i+1=>f (Ahr f z i)
@[reducible] def UQ{A0 A1 A2 A3 A4 A5 A6 A7 A8 B:Type}(f:(A0->A1->A2->A3->A4->A5->A6->A7->A8->B)->A0->A1->A2->A3->A4->A5->A6->A7->A8->B)(z:B):Yn->A0->A1->A2->A3->A4->A5->A6->A7->A8->B
 |0=>λ_ _ _ _ _ _ _ _ _=>z
 |i+1=>f (UQ f z i)
@[reducible] def PI{A0 A1 A2 A3 A4 A5 A6 A7 A8 A9 B:Type}(f:(A0->A1->A2->A3->A4->A5->A6->A7->A8->A9->B)->A0->A1->A2->A3->A4->A5->A6->A7->A8->A9->B)(z:B):Yn->A0->A1->A2->A3->A4->A5->A6->A7->A8->A9->B
 |0=>λ_ _ _ _ _ _ _ _ _ _=>z
 |i+1=>f (PI f z i)
@[reducible] def Ahs{A0 A1 A2 A3 A4 A5 A6 A7 A8 A9 A10 B:Type}(f:(A0->A1->A2->A3->A4->A5->A6->A7->A8->A9->A10->B)->A0->A1->A2->A3->A4->A5->A6->A7->A8->A9->A10->B)(z:B):Yn->A0->A1->A2->A3->A4->A5->A6->A7->A8->A9->A10->B
 |0=>λ_ _ _ _ _ _ _ _ _ _ _=>z
 |i+1=>f (Ahs f z i)
@[reducible] def Aht{A0 A1 A2 A3 A4 A5 A6 A7 A8 A9 A10 A11 B:Type}(f:(A0->A1->A2->A3->A4->A5->A6->A7->A8->A9->A10->A11->B)->A0->A1->A2->A3->A4->A5->A6->A7->A8->A9->A10->A11->B)(z:B):Yn->A0->A1->A2->A3->A4->A5->A6->A7->A8->A9->A10->A11->B
 |0=>λ_ _ _ _ _ _ _ _ _ _ _ _=>z
 |i+1=>f (Aht f z i)
@[reducible] def Aw4{A0 A1 A2 A3 A4 A5 A6 A7 A8 A9 A10 A11 A12 B:Type}(f:(A0->A1->A2->A3->A4->A5->A6->A7->A8->A9->A10->A11->A12->B)->A0->A1->A2->A3->A4->A5->A6->A7->A8->A9->A10->A11->A12->B)(z:B):Yn->A0->A1->A2->A3->A4->A5->A6->A7->A8->A9->A10->A11->A12->B
 |0=>λ_ _ _ _ _ _ _ _ _ _ _ _ _=>z
 |i+1=>f (Aw4 f z i)
@[reducible] def tY{A0 A1 A2 A3 A4 A5 A6 A7 A8 A9 A10 A11 A12 A13 B:Type}(f:(A0->A1->A2->A3->A4->A5->A6->A7->A8->A9->A10->A11->A12->A13->B)->A0->A1->A2->A3->A4->A5->A6->A7->A8->A9->A10->A11->A12->A13->B)(z:B):Yn->A0->A1->A2->A3->A4->A5->A6->A7->A8->A9->A10->A11->A12->A13->B
 |0=>λ_ _ _ _ _ _ _ _ _ _ _ _ _ _=>z
 |i+1=>f (tY f z i)
@[reducible] def Ahu{A0 A1 A2 A3 A4 A5 A6 A7 A8 A9 A10 A11 A12 A13 A14 B:Type}(f:(A0->A1->A2->A3->A4->A5->A6->A7->A8->A9->A10->A11->A12->A13->A14->B)->A0->A1->A2->A3->A4->A5->A6->A7->A8->A9->A10->A11->A12->A13->A14->B)(z:B):Yn->A0->A1->A2->A3->A4->A5->A6->A7->A8->A9->A10->A11->A12->A13->A14->B
 |0=>λ_ _ _ _ _ _ _ _ _ _ _ _ _ _ _=>z
 |i+1=>f (Ahu f z i)
@[reducible] def Ahv{A0 A1 A2 A3 A4 A5 A6 A7 A8 A9 A10 A11 A12 A13 A14 A15 A16 A17 A18 A19 A20 A21 A22 A23 A24 B:Type}(f:(A0->A1->A2->A3->A4->A5->A6->A7->A8->A9->A10->A11->A12->A13->A14->A15->A16->A17->A18->A19->A20->A21->A22->A23->A24->B)->A0->A1->A2->A3->A4->A5->A6->A7->A8->A9->A10->A11->A12->A13->A14->A15->A16->A17->A18->A19->A20->A21->A22->A23->A24->B)(z:B):Yn->A0->A1->A2->A3->A4->A5->A6->A7->A8->A9->A10->A11->A12->A13->A14->A15->A16->A17->A18->A19->A20->A21->A22->A23->A24->B
 |0=>λ_ _ _ _ _ _ _ _ _ _ _ _ _ _ _ _ _ _ _ _ _ _ _ _ _=>z
 |i+1=>f (Ahv f z i)
abbrev En:=Ent Tryz.prog
abbrev Pb:=PB Tryz.prog
@[reducible] noncomputable def ctx(es:Ye En):Ctx:=⟨look tab,gam es,Yi,Yi,Yi,Yi,[],Yf,0,[]⟩
theorem pf(es:Ye En)(cs:Ye Pb){ps rs:Ye (Ys×Ye CT)}{is os:Ye BT}{f:YA}{fn:Func}(vs:Ye RS){s:(β:Type)->VF (KF (Ya β) rs os->Ya β) ps is}(hf:Tryz.prog.funcs[f]?=Yg fn)(hc:((fn.name== "runtime.NumGoroutine"),fn.body,fn.results.toList,(Yo vs.length rs.length&&(ST.tidy rs&&YI ps.length fn.ntmps)),cs.map (λb=>(find b.q 1 (Au fn),b.p.v.m,b.p.n,b.p.m)))=(Yi,Yg (Au fn),vs.map RS.toVar,Yp,cs.map (λb=>([b.p.c],is.length,fn.ntmps,is.length))):=by kernel_rfl)(h:∀{β:Type}(x:ST.dens ps×BT.dens is)(k:ST.dens rs×BT.dens os->Ya β),exec (ctx es) fn.ntmps (cuts cs) 1 (Au fn) ((vIn (sgE ps is rs os s)).mk' x) (retK (ctx es).T (sgE ps is rs os s) vs k)=vapp ps is (s β) x (klam rs os k):=by intros;kernel_rfl):SpecOk Tryz.prog f (sgE ps is rs os λβ=>hid (s β)):=RG mixed (X:=ctx es) Bu es rfl cs vs hf hc h
theorem pfB(es:Ye En)(cs:Ye Pb){ps rs:Ye (Ys×Ye CT)}{is os:Ye BT}{f:YA}{fn:Func}(vs:Ye RS){s:(β:Type)->VF (KF (Ya β) rs os->Ya β) ps is}(hf:Tryz.prog.funcs[f]?=Yg fn)(hc:((fn.name== "runtime.NumGoroutine"),fn.body,fn.results.toList,(Yo vs.length rs.length&&(ST.tidy rs&&YI ps.length fn.ntmps)),cs.map (λb=>(find b.q 1 (Au fn),b.p.v.m,b.p.n,b.p.m)))=(Yi,Yg (Au fn),vs.map RS.toVar,Yp,cs.map (λb=>([b.p.c],is.length,fn.ntmps,is.length))):=by kernel_rfl)(h:∀{β:Type}(x:ST.dens ps×BT.dens is)(k:ST.dens rs×BT.dens os->Ya β),exec (ctx es) fn.ntmps (cuts cs) 1 (Au fn) ((vIn (sgE ps is rs os s)).mk' x) (retK (ctx es).T (sgE ps is rs os s) vs k)=vapp ps is (s β) x (klam rs os k):=by intros;kernel_rfl):SpecOkB Tryz.prog f (sgE ps is rs os λβ=>hid (s β)):=LO mixed (X:=ctx es) Bu es rfl cs vs hf hc h
theorem pl{p:Pc}(es:Ye En)(cs:Ye Pb){g:Yn->(β:Type)->p.T β}(hc:((p.o.all λx=>Yo x.2.m p.m),cs.map (λb=>(find b.q 1 (Eb p.c),b.p.v.m,b.p.n,b.p.m)))=(Yp,cs.map (λb=>([b.p.c],p.m,p.n,p.m))):=by kernel_rfl)(hv:p.v.m=p.m:=by rfl)(hl:p.c=.loop (Eb p.c):=by kernel_rfl)(h0:∀{β:Type}(d:p.v.den)(ks:Outs.K β p.o),p.un (g 0) d ks=Yf:=by exact λ_ _=>rfl)(h:∀(i:Yn){β:Type}(d:p.v.den)(ks:Outs.K β p.o),exec (ctx es) p.n (cuts cs) 1 (Eb p.c) (p.v.mk' d) (UA p.v (λd'=>p.un (g i) d' ks) p.o ks)=p.un (g (i+1)) d ks:=by intros;kernel_rfl):p.Ok Tryz.prog (p.un λβ=>hid (g fuel β)):=Ki mixed (X:=ctx es) Bu es rfl cs hc hv hl h0 h
theorem pe{p:Pc}(es:Ye En)(cs:Ye Pb)(q:Yn){g:(β:Type)->p.T β}(hc:((p.o.all λx=>Yo x.2.m p.m),cs.map (λb=>(find b.q q p.c,b.p.v.m,b.p.n,b.p.m)))=(Yp,cs.map (λb=>([b.p.c],p.m,p.n,p.m))):=by kernel_rfl)(h:∀{β:Type}(d:p.v.den)(ks:Outs.K β p.o),exec (ctx es) p.n (cuts cs) q p.c (p.v.mk' d) (outK p.o ks)=p.un g d ks:=by intros;kernel_rfl):p.Ok Tryz.prog (p.un λβ=>hid (g β)):=NQ mixed (X:=ctx es) Bu es rfl cs q hc h
def au(es:Ye En)(ps:Ye (Ys×Ye CT))(is:Ye BT)(rs:Ye (Ys×Ye CT))(os:Ye BT){f:YA}{fn:Func}(vs:Ye RS)(hf:Tryz.prog.funcs[f]?=Yg fn)(hc:((fn.name== "runtime.NumGoroutine"),fn.body,fn.results.toList,(Yo vs.length rs.length&&(ST.tidy rs&&YI ps.length fn.ntmps)))=(Yi,Yg (Au fn),vs.map RS.toVar,Yp)):En:=
 .auto mixed (X:=⟨look tab,gam es,Yi,Yi,Yi,Yi,[],Yf,100000,[]⟩) Bu es rfl ps is rs os vs hf hc
abbrev Aw5:={β:Type}->Et->(Ys->Ya β)->Ya β
def cQ:Aw5:=hid λl k=>let t:=(Yd ((Yb l:Yh)<=(500:Yh)));k t
def Aw6:En:=⟨4,.spec (sg [Iz] [] [AK] [] cQ),pf [] [] [.tmp 2] Tryz.func4⟩
abbrev Aw7:={β:Type}->Et->(BX->Ya β)->Ya β
def cR:Aw7:=hid λl k=>k (l,0)
def Aw8:En:=⟨6,.spec (sg [Iz] [] [An] [CJ] cR),pf [] [] [.tmp 2] Tryz.func6⟩
abbrev Aw9:={β:Type}->BO->BO->(Ys->Ya β)->Ya β
abbrev Ahw(β:Type):=Ys->Ya β
abbrev Ahx(β:Type):=Unit->Ya β
abbrev tZ(β:Type):=BO->BO->Yh->Yh->Ya β
def u6:Pc:=⟨71,0,Ay 58 (Au Tryz.f14),⟨0,[0,1,13,14],[Hf,Hf,Aa,Aa],[]⟩,[(.ret,⟨0,[4],[AK],[]⟩),(.exit 0,⟨0,[],[],[]⟩)]⟩
abbrev Ahy(β:Type):=Ys->Ya β
abbrev Ahz(β:Type):=BO->BO->Yh->Yh->Ya β
abbrev u7(β:Type):=BO->BO->Yh->Yh->Yh->Yh->Yh->Ya β
def AhA:Pc:=⟨71,0,Ay 462 (Eb u6.c),⟨0,[0,1,5,13,14,48,49],[Hf,Hf,Aa,Aa,Aa,Aa,Aa],[]⟩,[(.ret,⟨0,[4],[AK],[]⟩),(.exit 2,⟨0,[0,1,13,14],[Hf,Hf,Aa,Aa],[]⟩)]⟩
def cS{β:Type}(rec:u7 β)(k1:Ahy β)(k2:Ahz β):u7 β:=λa b i_ CW BM HN t49=>Yk (Yd (t49<HN)) (Yk (Yd (0<=i_)&&Yd (i_<(Yb a:Yh))) (let e:=Ym a (Yl i_) (0,([]:Ye AN));Yk (Yd (0<=t49)&&Yd (t49<(Yb e.2:Yh))) (let e2:=Ym e.2 (Yl t49) (0,(([]:Ye Yj),0));Yk (Yd (0<=i_)&&Yd (i_<(Yb b:Yh))) (let e3:=Ym b (Yl i_) (0,([]:Ye AN));Yk (Yd (0<=t49)&&Yd (t49<(Yb e3.2:Yh))) (let e4:=Ym e3.2 (Yl t49) (0,(([]:Ye Yj),0));Yk (!(Yd (e2.1=e4.1)&&(Yd (e2.2.1=e4.2.1)&&(Yd (e2.2.2=e4.2.2)&&Yp)))) (k1 Yi) (rec a b i_ CW BM HN (Yc.wrap (t49+(1:Yh))))) Yf) Yf) Yf) Yf) (k2 a b CW BM)
def UR(m:Yn){β:Type}(k1:Ahy β)(k2:Ahz β):u7 β:=Ahq (λr=>cS r k1 k2) Yf m
theorem AhB{β:Type}(i:Yn)(k1 k2):UR (β:=β) (i+1) k1 k2=cS (UR i k1 k2) k1 k2:=rfl
def uA{β:Type}:=hid (UR (β:=β) fuel)
def Awa:Pb:=⟨462,AhA,λ_=>uA,pl (p:=AhA) [] [] (g:=λi _=>UR i)⟩
def cT{β:Type}(rec:tZ β)(k1:Ahw β)(k2:Ahx β):tZ β:=λa b CW BM=>Yk (Yd (BM<CW)) (Yk (Yd (0<=BM)&&Yd (BM<(Yb a:Yh))) (let e:=Ym a (Yl BM) (0,([]:Ye AN));Yk (Yd (0<=BM)&&Yd (BM<(Yb b:Yh))) (let e2:=Ym b (Yl BM) (0,([]:Ye AN));Yk (!Yd (e.1=e2.1)) (k1 Yi) (Yk (Yd (0<=BM)&&Yd (BM<(Yb a:Yh))) (let e3:=Ym a (Yl BM) (0,([]:Ye AN));Yk (Yd (0<=BM)&&Yd (BM<(Yb b:Yh))) (let e4:=Ym b (Yl BM) (0,([]:Ye AN));Yk (!Yd ((Yb e3.2:Yh)=(Yb e4.2:Yh))) (k1 Yi) (Yk (Yd (0<=BM)&&Yd (BM<(Yb a:Yh))) (let e5:=Ym a (Yl BM) (0,([]:Ye AN));uA (λt4=>k1 t4) (λa2 b2 L2 L3=>rec a2 b2 L2 (Yc.wrap (L3+(1:Yh)))) a b BM CW BM (Yb e5.2:Yh) 0) Yf)) Yf) Yf)) Yf) Yf) (k2 ())
def PJ(m:Yn){β:Type}(k1:Ahw β)(k2:Ahx β):tZ β:=FW (λr=>cT r k1 k2) Yf m
theorem AhC{β:Type}(i:Yn)(k1 k2):PJ (β:=β) (i+1) k1 k2=cT (PJ i k1 k2) k1 k2:=rfl
def uB{β:Type}:=hid (PJ (β:=β) fuel)
def Awb:Pb:=⟨58,u6,λ_=>uB,pl (p:=u6) [] [Awa] (g:=λi _=>PJ i)⟩
def RN:Aw9:=hid λa b k=>Yk (!Yd ((Yb a:Yh)=(Yb b:Yh))) (k Yi) (uB (λt4=>k t4) (λ_=>k Yp) a b (Yb a:Yh) 0)
def AhD:En:=⟨14,.spec (sg [Hf,Hf] [] [AK] [] RN),pf [] [Awb] [.tmp 4] Tryz.func14⟩
theorem AO8:SpecOk Tryz.prog 14 (sg [Hf,Hf] [] [AK] [] RN):=AhD.ok
abbrev Awc:={β:Type}->Yh->BX->(Yh->BX->Ya β)->Ya β
def Ca:Awc:=hid λn d k=>Yk (Yd ((Yb d.1:Yh)<=d.2)) (k 0 d) (Yk (Yd (n<1)) (k 0 d) (Yk (Yd (0<=d.2)&&Yd (d.2<(Yb d.1:Yh))) (let e:=Ym d.1 (Yl d.2) 0;Yk (!Yd (n=0)) (Yk (Yd ((Yv e n)<0)) (let x:=(Yc.wrap ((Yv e n)+n));k x (d.1,(Yc.wrap (d.2+(1:Yh))))) (k (Yv e n) (d.1,(Yc.wrap (d.2+(1:Yh)))))) Yf) Yf))
def LT:En:=⟨18,.spec (sg [An,Aa] [CJ] [Aa] [CJ] Ca),pf [] [] [.tmp 4] Tryz.func18⟩
abbrev Awd:={β:Type}->(DP->Ya β)->Ya β
def US:Awd:=hid λk=>let l:=([([97,100,97]:Ye Yj),([98,111,98]:Ye Yj),([99,108,101,111]:Ye Yj),([100,97,110]:Ye Yj),([101,118,101]:Ye Yj),([102,97,121]:Ye Yj),([103,117,115]:Ye Yj),([104,97,108]:Ye Yj)]:Ye Am);k l
def AhE:En:=⟨20,.spec (sg [] [] [BP] LS US),pf [] [] [.tmp 0] Tryz.func20⟩
abbrev Awe:={β:Type}->Aj->(Bc->AZ->Bb->Be->Ya β)->Ya β
abbrev AhF(β:Type):=Bc->AZ->Bb->Be->Bc->AZ->Bb->Be->Ya β
abbrev uC(β:Type):=Yh->Aj->Bc->AZ->Bb->Be->Bc->AZ->Bb->Be->Ya β
def AhG:Pc:=⟨43,0,Ay 58 (Au Tryz.f22),⟨0,[1,2,3,4],[An,BY,C9,Aa],[BR,Ahk,.cells 28 [.rowh 7,.rowh 8,.rowh 9,.trowh 10],.row 70 ED,.row 72 EE,.row 76 EC,.tree 56 IZ,.row 70 ED,.row 72 EE,.row 76 EC,.tree 56 IZ]⟩,[(.exit 0,⟨0,[2,3],[An,BY],[.cells 28 [.rowh 2,.rowh 3,.rowh 4,.trowh 5],.cells 28 [.rowh 6,.rowh 7,.rowh 8,.trowh 9],.row 70 ED,.row 72 EE,.row 76 EC,.tree 56 IZ,.row 70 ED,.row 72 EE,.row 76 EC,.tree 56 IZ]⟩)]⟩
def cU{β:Type}(rec:uC β)(k1:AhF β):uC β:=λi_ c BD BQ BV Bf Cy DE D8 E2=>Yk (Yd (i_<(Yb c.2.2.2:Yh))) (Yk (Yd (0<=i_)&&Yd (i_<(Yb c.2.2.2:Yh))) (let e:=Ym c.2.2.2 (Yl i_) (([]:Ye Yj),(([]:Ye Bz),([]:Ye CO)));Yk (Yd (Yb e.2.1*120<=AR)) (Yk (Yd (Yb e.2.2*40<=AR)) (let l:=([e]:Ye BC);Yk (Yp&&Yd ((Yb E2+Yb l)*64<=AR)) (let l2:=(E2++l);let AT:=(Yc.wrap (i_+1));rec AT c BD BQ BV Bf Cy DE D8 l2) Yf) Yf) Yf) Yf) (k1 BD BQ BV Bf Cy DE D8 E2)
def UT(m:Yn){β:Type}(k1:AhF β):uC β:=PI (λr=>cU r k1) Yf m
theorem AhH{β:Type}(i:Yn)(k1):UT (β:=β) (i+1) k1=cU (UT i k1) k1:=rfl
def uD{β:Type}:=hid (UT (β:=β) fuel)
def Awf:Pb:=⟨58,AhG,λ_=>uD,Ki mixed (X:=⟨look tab,gam ([]:Ye En),Yi,Yi,Yi,Yi,[(56,IZ)],Yf,0,[]⟩) (p:=AhG) Bu [] rfl [] (g:=λi _=>UT i) (by kernel_rfl) rfl (by kernel_rfl) (λ_ _=>rfl) λ_ _ _ _=>by kernel_rfl⟩
def cV:Awe:=hid λc k=>Yk (Yd (Yb c.1*48<=AR)) (Yk (Yd (Yb c.2.1*72<=AR)) (Yk (Yd (Yb c.2.2.1*48<=AR)) (uD (λFm BD BQ BV Bf Cy DE D8=>k Bf Cy DE D8) 0 c ([]:Ye AF) ([]:Ye AV) ([]:Ye Bm) ([]:Ye BC) c.1 c.2.1 c.2.2.1 ([]:Ye BC)) Yf) Yf) Yf
def Awg:En:=⟨22,.spec (sg [Dm] [] [(Yp,[.rowh 0,.rowh 1,.rowh 2,.trowh 3])] [.row 70 ED,.row 72 EE,.row 76 EC,.tree 56 IZ] cV),RG mixed (X:=⟨look tab,gam ([]:Ye En),Yi,Yi,Yi,Yi,[(56,IZ)],Yf,0,[]⟩) Bu [] rfl [Awf] [.cell 2 28] Tryz.func22 (by kernel_rfl) λ_ _=>by kernel_rfl⟩
abbrev Awh:={β:Type}->Et->BX->(Yh->BX->Ya β)->Ya β
def Ef:Awh:=hid λl d k=>Ca (Yb l:Yh) d (λBJ C2=>Yk (Yd (0<=BJ)&&Yd (BJ<(Yb l:Yh))) (let e:=Ym l (Yl BJ) 0;k e C2) Yf)
def PK:En:=⟨23,.spec (sg [An,Iz] [CJ] [Aa] [CJ] Ef),pf [LT] [] [.tmp 4] Tryz.func23⟩
abbrev Awi:={β:Type}->Am->(AN->Ya β)->Ya β
def FX:Awi:=hid λs k=>k (0,(s,0))
def J7:En:=⟨30,.spec (sg [AI] [] [H4] [] FX),pf [] [] [.cell 2 90] Tryz.func30⟩
abbrev Awj:={β:Type}->Am->(AN->Ya β)->Ya β
def Dy:Awj:=hid λs k=>k (0,(s,0))
def PL:En:=⟨37,.spec (sg [AI] [] [H4] [] Dy),pf [] [] [.cell 2 90] Tryz.func37⟩
abbrev Awk:={β:Type}->Am->BX->(AF->BX->Ya β)->Ya β
def AhI:Ye En:=[LT,PK]
abbrev AhJ(β:Type):=BX->AF->Am->Yh->Ix->Ya β
abbrev Awl(β:Type):=Yh->BX->AF->AF->Ya β
def AhK:Pc:=⟨98,1,Ay 31483 (Au Tryz.f52),⟨1,[0,4,5,7],[An,BY,C9,Aa],[CJ,MM,MM]⟩,[(.normal,⟨1,[4,5],[BY,C9],[CJ,MM,.cells 70 [.data .str,.data (.int .i64),.rowh 3],.row 136 KW]⟩)]⟩
def uE{β:Type}(k1:AhJ β):Awl β:=λx d t4 z=>Ca 7 d (λBJ C2=>Ca 48 C2 (λBt Df=>let l:=([(2026,(2026,(1,(2,(BJ,((Yc.wrap (1800*Bt)),x))))))]:Ye Cj);k1 Df t4 z.1 z.2.1 l))
def PM{β:Type}:=hid (uE (β:=β))
def Awm:Pb:=⟨31483,AhK,λ_=>PM,pe (p:=AhK) AhI [] 31483 (g:=λ_=>uE)⟩
def cW:Awk:=hid λname d k=>let l:=([0,4,(-20),22,48,(-47)]:Ye Yh);Ef l d (λCu CL=>Ca 2 CL (λBJ C2=>Ca 3 C2 (λBt Df=>Ca 2 Df (λGd GW=>let last:=(Yc.wrap (2025+Gd));Ca 4 GW (λN3 Nz=>let t:=(Yd (N3=(1:Yh)));Yk t (let l2:=([(2025,(last,(3,(5,(6,(7200,(Yc.wrap ((Yc.wrap (900*(Yc.wrap (Cu+(Yc.wrap (BJ*Bt))))))+3600)))))))),(2025,(last,(10,(5,(6,(10800,(Yc.wrap (900*(Yc.wrap (Cu+(Yc.wrap (BJ*Bt))))))))))))]:Ye Cj);k (name,((Yc.wrap (900*(Yc.wrap (Cu+(Yc.wrap (BJ*Bt)))))),l2)) Nz) (let t2:=(Yd (N3=(2:Yh)));Yk t2 (Ca 4 Nz (λANA AMP=>Ca 7 AMP (λANB AMQ=>Ca 24 AMQ (λANC AMR=>Ca 8 AMR (λAND AMS=>Ca 2 AMS (λANE AMT=>let l2:=([2,3,5]:Ye Yh);Ef l2 AMT (λJR IJ=>Ca 7 IJ (λANy AMN=>Ca 24 AMN (λANz AMO=>let l3:=([(2025,(last,(1,((Yc.wrap (1+ANA)),(ANB,((Yc.wrap (3600*ANC)),(Yc.wrap ((Yc.wrap (900*(Yc.wrap (Cu+(Yc.wrap (BJ*Bt))))))+(Yc.wrap (1800*(Yc.wrap (1+AND)))))))))))),(2025,(last,((Yc.wrap (2+ANE)),(JR,(ANy,((Yc.wrap (3600*ANz)),(Yc.wrap (900*(Yc.wrap (Cu+(Yc.wrap (BJ*Bt))))))))))))]:Ye Cj);k (name,((Yc.wrap (900*(Yc.wrap (Cu+(Yc.wrap (BJ*Bt)))))),l3)) AMO))))))))) (let t3:=(Yd (N3=(3:Yh)));Yk t3 (let l2:=([3600,(-3600),82800,(-82800),43200]:Ye Yh);Ef l2 Nz (λJR IJ=>let x:=(Yc.wrap ((Yc.wrap (900*(Yc.wrap (Cu+(Yc.wrap (BJ*Bt))))))+JR));Yk (Yd ((64800:Yh)<x)) (PM (λAD t4 z z2 BD=>k (z,(z2,BD)) AD) 0 IJ RH (name,((Yc.wrap (900*(Yc.wrap (Cu+(Yc.wrap (BJ*Bt)))))),([]:Ye Cj)))) (Yk (Yd (x<(-64800))) (PM (λAD t4 z z2 BD=>k (z,(z2,BD)) AD) 0 IJ RH (name,((Yc.wrap (900*(Yc.wrap (Cu+(Yc.wrap (BJ*Bt)))))),([]:Ye Cj)))) (PM (λAD t4 z z2 BD=>k (z,(z2,BD)) AD) x IJ RH (name,((Yc.wrap (900*(Yc.wrap (Cu+(Yc.wrap (BJ*Bt)))))),([]:Ye Cj))))))) (k (name,((Yc.wrap (900*(Yc.wrap (Cu+(Yc.wrap (BJ*Bt)))))),([]:Ye Cj))) Nz))))))))
def Awn:En:=⟨52,.spec (sg [An,AI] [CJ] [I1] [CJ] cW),pf AhI [Awm] [.cell 4 70] Tryz.func52⟩
abbrev Awo:={β:Type}->Yh->BX->(Ys->BX->Ya β)->Ya β
def MP:Awo:=hid λn d k=>Ca n d (λBJ C2=>let t:=(Yd (BJ=(Yc.wrap (n-1))));k t C2)
def cX:En:=⟨53,.spec (sg [An,Aa] [CJ] [AK] [CJ] MP),pf [LT] [] [.tmp 4] Tryz.func53⟩
abbrev Awp:={β:Type}->BX->(BX->Ch->Ya β)->Ya β
def AhL:Ye En:=[LT,PK]
abbrev AhM(β:Type):=BX->Ch->Ya β
abbrev uF(β:Type):=Yh->Yh->BX->Ch->Ya β
def AhN:Pc:=⟨38,1,Ay 122 (Au Tryz.f54),⟨1,[0,3,4,5],[An,Dd,Aa,Aa],tW⟩,[(.exit 0,⟨1,[3],[Dd],tW⟩)]⟩
def cY{β:Type}(rec:uF β)(k1:AhM β):uF β:=λat_ i_ d out=>Yk (Yd ((0:Yh)<i_)) (Ca 30 d (λBJ C2=>Ca 2 C2 (λBt Df=>let from_:=(Yc.wrap ((Yc.wrap (at_+(Yc.wrap (3600*BJ))))+(Yc.wrap (60*Bt))));let l:=([3600,28800,43200,86400,61,1]:Ye Yh);Ef l Df (λCu CL=>let to_:=(Yc.wrap (from_+Cu));Yk (Yd ((604800:Yh)<to_)) (k1 CL out) (let l2:=([(from_,to_)]:Ye BG);Yk (Yd ((Yb out+Yb l2)*16<=AR)) (let l3:=(out++l2);let AT:=(Yc.wrap (i_-1));rec to_ AT CL l3) Yf))))) (k1 d out)
def UU(m:Yn){β:Type}(k1:AhM β):uF β:=FW (λr=>cY r k1) Yf m
theorem AhO{β:Type}(i:Yn)(k1):UU (β:=β) (i+1) k1=cY (UU i k1) k1:=rfl
def uG{β:Type}:=hid (UU (β:=β) fuel)
def Awq:Pb:=⟨122,AhN,λ_=>uG,pl (p:=AhN) AhL [] (g:=λi _=>UU i)⟩
def UV:Awp:=hid λd k=>Ca 4 d (λBJ C2=>uG (λAD out=>k AD out) 0 BJ C2 ([]:Ye BG))
def AhP:En:=⟨54,.spec (sg [An] [CJ] [Dd] tW UV),pf AhL [Awq] [.tmp 2] Tryz.func54⟩
abbrev Awr:={β:Type}->BX->(Yh->BX->Ya β)->Ya β
def cZ:Awr:=hid λd k=>Ca 576 d (λBJ C2=>let t:=(Yc.wrap (1767139200+(Yc.wrap (3600*BJ))));MP 3 C2 (λMu JQ=>Yk Mu (let l:=([(-1),1,1800,3599]:Ye Yh);Ef l JQ (λCu CL=>let t2:=(Yc.wrap (t+Cu));k t2 CL)) (k t JQ)))
def Aws:En:=⟨55,.spec (sg [An] [CJ] [Aa] [CJ] cZ),pf [cX,LT,PK] [] [.tmp 2] Tryz.func55⟩
abbrev Awt:={β:Type}->Aj->Yh->(Ye CO)->(Aj->Ya β)->Ya β
def dA:Awt:=hid λc Hp l k=>Yk (Yd (Yb c.2.2.2*64<=AR)) (Yk (Yd (0<=Hp)&&Yd (Hp<(Yb c.2.2.2:Yh))) (let l2:=(YG c.2.2.2 (Yl Hp) ((Ym c.2.2.2 (Yl Hp) (([]:Ye Yj),(([]:Ye Bz),([]:Ye CO)))).1,(((Ym c.2.2.2 (Yl Hp) (([]:Ye Yj),(([]:Ye Bz),([]:Ye CO)))).2).1,l)));k (c.1,(c.2.1,(c.2.2.1,l2)))) Yf) Yf
def Awu:En:=⟨56,.spec (sg [Dm,Aa,UH] [] [Dm] [] dA),pf [] [] [.cell 6 28] Tryz.func56⟩
abbrev Awv:={β:Type}->AF->(Am->Ya β)->Ya β
def uH:Awv:=hid λz k=>k z.1
def Aww:En:=⟨58,.spec (sg [I1] [] [AI] [] uH),pf [] [] [.tmp 2] Tryz.func58⟩
abbrev Awx:={β:Type}->Bm->(Am->Ya β)->Ya β
def uI:Awx:=hid λx k=>k x.1
def Awy:En:=⟨63,.spec (sg [ML] [] [AI] [] uI),pf [] [] [.tmp 2] Tryz.func63⟩
abbrev Awz:={β:Type}->BC->(Am->Ya β)->Ya β
def uJ:Awz:=hid λs k=>k s.1
def AwA:En:=⟨67,.spec (sg [UJ] [] [AI] [] uJ),pf [] [] [.tmp 2] Tryz.func67⟩
abbrev AwB:={β:Type}->Yh->(AN->Ya β)->Ya β
def UW:AwB:=hid λn k=>k (4,(([]:Ye Yj),n))
def AwC:En:=⟨70,.spec (sg [Aa] [] [H4] [] UW),pf [] [] [.cell 2 90] Tryz.func70⟩
abbrev AwD:={β:Type}->Yh->(AN->Ya β)->Ya β
def MQ:AwD:=hid λn k=>k (1,(([]:Ye Yj),n))
def uK:En:=⟨71,.spec (sg [Aa] [] [H4] [] MQ),pf [] [] [.cell 2 90] Tryz.func71⟩
abbrev AwE:={β:Type}->Yh->(AN->Ya β)->Ya β
def RO:AwE:=hid λn k=>let l:=([([109,111,110]:Ye Yj),([116,117,101]:Ye Yj),([119,101,100]:Ye Yj),([116,104,117]:Ye Yj),([102,114,105]:Ye Yj),([115,97,116]:Ye Yj),([115,117,110]:Ye Yj)]:Ye Am);Yk (Yd (0<=n)&&Yd (n<(Yb l:Yh))) (FX (Ym l (Yl n) ([]:Ye Yj)) (λCi=>k Ci)) Yf
def AhQ:En:=⟨72,.spec (sg [Aa] [] [H4] [] RO),pf [J7] [] [.cell 2 90] Tryz.func72⟩
abbrev AwF:={β:Type}->Yh->(AN->Ya β)->Ya β
def NY:AwF:=hid λn k=>k (2,(([]:Ye Yj),n))
def uL:En:=⟨73,.spec (sg [Aa] [] [H4] [] NY),pf [] [] [.cell 2 90] Tryz.func73⟩
abbrev AwG:={β:Type}->Yh->Bc->AZ->Bb->Be->BO->(AN->Bc->AZ->Bb->Be->BO->Ya β)->Ya β
def PN:AwG:=hid λi_ w w2 w3 w4 Ck k=>Yk (Yd (0<=i_)&&Yd (i_<(Yb w:Yh))) (let e:=Ym w (Yl i_) (([]:Ye Yj),(0,([]:Ye Cj)));FX e.1 (λCi=>k Ci w w2 w3 w4 Ck)) Yf
theorem AwH:SpecOkB Tryz.prog 74 (sg [An,Aa] E1 [H4] E1 PN):=LO mixed (X:=⟨look tab,gam [J7],Yi,Yi,Yi,Yi,FV,Yf,0,[]⟩) Bu [J7] rfl [] [.cell 4 90] Tryz.func74 (by kernel_rfl) λ_ _=>by kernel_rfl
def dB:En:=.handf AwH rfl (by kernel_rfl)
def AhR:En:=.inl mixed (X:=⟨look tab,gam ([]:Ye En),Yi,Yi,Yi,Yi,[],Yf,0,[]⟩) (rs:=[.tmp 4]) Bu ([]:Ye En) rfl 2 Tryz.func76 (by kernel_rfl)
abbrev AwI:={β:Type}->Yh->Bc->AZ->Bb->Be->BO->(AN->Bc->AZ->Bb->Be->BO->Ya β)->Ya β
def GH:AwI:=hid λi_ w w2 w3 w4 Ck k=>Yk (Yd (i_<0)) (FX ([110,111,98,111,100,121]:Ye Yj) (λCi=>k Ci w w2 w3 w4 Ck)) (Yk (Yd (0<=i_)&&Yd (i_<(Yb w2:Yh))) (let e:=Ym w2 (Yl i_) (([]:Ye Yj),(0,(([]:Ye BG),(0,(0,Yi)))));FX e.1 (λCi=>k Ci w w2 w3 w4 Ck)) Yf)
theorem AwJ:SpecOkB Tryz.prog 79 (sg [An,Aa] E1 [H4] E1 GH):=LO mixed (X:=⟨look tab,gam [J7],Yi,Yi,Yi,Yi,FV,Yf,0,[]⟩) Bu [J7] rfl [] [.cell 4 90] Tryz.func79 (by kernel_rfl) λ_ _=>by kernel_rfl
def uM:En:=.handf AwJ rfl (by kernel_rfl)
def AwK:En:=.inl mixed (X:=⟨look tab,gam [uM],Yi,Yi,Yi,Yi,[],Yf,13,[]⟩) (rs:=[.tmp 4]) Bu [uM] rfl 13 Tryz.func77 (by kernel_rfl)
abbrev AwL:={β:Type}->Yh->(AN->Ya β)->Ya β
def RP:AwL:=hid λn k=>k (3,(([]:Ye Yj),n))
def AhS:En:=⟨78,.spec (sg [Aa] [] [H4] [] RP),pf [] [] [.cell 2 90] Tryz.func78⟩
abbrev AwM:={β:Type}->Yh->(AN->Ya β)->Ya β
def UX:AwM:=hid λn k=>k (5,(([]:Ye Yj),n))
def AwN:En:=⟨80,.spec (sg [Aa] [] [H4] [] UX),pf [] [] [.cell 2 90] Tryz.func80⟩
abbrev AwO:={β:Type}->Yh->Yh->(AN->Ya β)->Ya β
def Hg:AwO:=hid λkind n k=>k (kind,(([]:Ye Yj),n))
def RQ:En:=⟨85,.spec (sg [Aa,Aa] [] [H4] [] Hg),pf [] [] [.cell 4 90] Tryz.func85⟩
abbrev AwP:={β:Type}->(DP->Ya β)->Ya β
def UY:AwP:=hid λk=>let l:=([([109,111,110]:Ye Yj),([116,117,101]:Ye Yj),([119,101,100]:Ye Yj),([116,104,117]:Ye Yj),([102,114,105]:Ye Yj),([115,97,116]:Ye Yj),([115,117,110]:Ye Yj)]:Ye Am);k l
def AhT:En:=⟨88,.spec (sg [] [] [BP] LS UY),pf [] [] [.tmp 0] Tryz.func88⟩
abbrev AwQ:={β:Type}->Am->BG->(Cm->Ya β)->Ya β
def UZ:AwQ:=hid λkey w k=>let a:=(Yc.wrap (Yz w.1 86400));let b:=(Yc.wrap (Yz (Yc.wrap (w.2-(1:Yh))) 86400));UY (λQR=>Dy key (λCi=>Yk (Yd (0<=a)&&Yd (a<(Yb QR:Yh))) (Dy (Ym QR (Yl a) ([]:Ye Yj)) (λFQ=>Hg 2 (Yc.wrap (w.1-(Yc.wrap (a*86400)))) (λrnum=>Yk (Yd (0<=b)&&Yd (b<(Yb QR:Yh))) (Dy (Ym QR (Yl b) ([]:Ye Yj)) (λLz=>Hg 2 (Yc.wrap (w.2-(Yc.wrap (b*86400)))) (λrnum2=>let l:=([Ci,FQ,rnum,Lz,rnum2]:Ye AN);k l))) Yf))) Yf))
def AhU:En:=⟨89,.spec (sg [AI,(Yp,[.data (.prod (.int .i64) (.int .i64))])] [] [BP] KY UZ),pf [AhT,RQ,PL] [] [.tmp 4] Tryz.func89⟩
def AwR:Shelf.Ren:=
   {
   f:=λx=>
    match x with
    |166=>91
    |240=>135
    |276=>175
    |n=>n,
   t:=λx=>
    match x with
    |70=>144
    |9=>9
    |0=>0
    |72=>147
    |37=>145
    |127=>186
    |3=>3
    |5=>5
    |80=>153
    |4=>4
    |164=>219
    |20=>20
    |75=>150
    |n=>n,
   g:=λx=>x}
theorem AwS:Go.Proofs.Lays.n166 Tryz.prog AwR:=
 {
  mixed:=by kernel_rfl,
  f166:=Eq.trans Tryz.func91 (Aw Yg (by kernel_rfl)),
  f240:=Eq.trans Tryz.func135 (Aw Yg (by kernel_rfl)),
  f276:=Eq.trans Tryz.func175 (Aw Yg (by kernel_rfl)),
  t0:=Tryz.underlying0,
  a0:=Tryz.isAgg0,
  z0:=Tryz.sizeOf0,
  v0:=Tryz.zeroValue0,
  t3:=Tryz.underlying3,
  a3:=Tryz.isAgg3,
  z3:=Tryz.sizeOf3,
  v3:=Tryz.zeroValue3,
  t4:=Tryz.underlying4,
  a4:=Tryz.isAgg4,
  z4:=Tryz.sizeOf4,
  v4:=Tryz.zeroValue4,
  t9:=Tryz.underlying9,
  a9:=Tryz.isAgg9,
  z9:=Tryz.sizeOf9,
  v9:=Tryz.zeroValue9,
  t20:=Tryz.underlying20,
  a20:=Tryz.isAgg20,
  z20:=Tryz.sizeOf20,
  v20:=Tryz.zeroValue20,
  t37:=Tryz.underlying145,
  a37:=Tryz.isAgg145,
  z37:=Tryz.sizeOf145,
  v37:=Tryz.zeroValue145,
  t70:=Tryz.underlying144,
  a70:=Tryz.isAgg144,
  z70:=Tryz.sizeOf144,
  v70:=Tryz.zeroValue144,
  t72:=Tryz.underlying147,
  a72:=Tryz.isAgg147,
  z72:=Tryz.sizeOf147,
  v72:=Tryz.zeroValue147,
  t75:=Tryz.underlying150,
  a75:=Tryz.isAgg150,
  z75:=Tryz.sizeOf150,
  v75:=Tryz.zeroValue150,
  t164:=Tryz.underlying219,
  a164:=Tryz.isAgg219,
  z164:=Tryz.sizeOf219,
  v164:=Tryz.zeroValue219}
def AhV:BldF:=⟨147,5,0⟩
theorem AwT:BldOk Tryz.prog 91 AhV:=
 AvI AwS {sizeBuilder:=by kernel_rfl,liesBuilder:=by kernel_rfl,t5:=Tryz.underlying5,a5:=Tryz.isAgg5,z5:=Tryz.sizeOf5,v5:=Tryz.zeroValue5,infoByte:=by kernel_rfl,cellsByte:=by kernel_rfl,sizeByte:=by kernel_rfl,neB5:=by decide} rfl rfl rfl ⟨_,Tryz.func91,by kernel_rfl,by kernel_rfl⟩
def AwU:En:=⟨_,.bld AhV,AwT⟩
def AwV:Shelf.Ren:=
   {
   f:=λx=>
    match x with
    |170=>92
    |n=>n,
   t:=λx=>
    match x with
    |70=>144
    |3=>3
    |0=>0
    |72=>147
    |37=>145
    |5=>5
    |n=>n,
   g:=λx=>x}
theorem AwW:Go.Proofs.Lays.n170 Tryz.prog AwV:=
 {
  mixed:=by kernel_rfl,
  f170:=Eq.trans Tryz.func92 (Aw Yg (by kernel_rfl)),
  t0:=Tryz.underlying0,
  a0:=Tryz.isAgg0,
  z0:=Tryz.sizeOf0,
  v0:=Tryz.zeroValue0,
  t3:=Tryz.underlying3,
  a3:=Tryz.isAgg3,
  z3:=Tryz.sizeOf3,
  v3:=Tryz.zeroValue3,
  t37:=Tryz.underlying145,
  a37:=Tryz.isAgg145,
  z37:=Tryz.sizeOf145,
  v37:=Tryz.zeroValue145,
  t70:=Tryz.underlying144,
  a70:=Tryz.isAgg144,
  z70:=Tryz.sizeOf144,
  v70:=Tryz.zeroValue144,
  t72:=Tryz.underlying147,
  a72:=Tryz.isAgg147,
  z72:=Tryz.sizeOf147,
  v72:=Tryz.zeroValue147}
def AhW:BldF:=⟨147,5,2⟩
theorem AwX:BldOk Tryz.prog 92 AhW:=
 AvK AwW rfl rfl rfl ⟨_,Tryz.func92,by kernel_rfl,by kernel_rfl⟩
def AwY:En:=⟨_,.bld AhW,AwX⟩
def AwZ:Shelf.Ren:=
   {
   f:=λx=>
    match x with
    |169=>93
    |n=>n,
   t:=λx=>
    match x with
    |70=>144
    |9=>9
    |0=>0
    |72=>147
    |37=>145
    |127=>186
    |3=>3
    |5=>5
    |n=>n,
   g:=λx=>x}
theorem Ax0:Go.Proofs.Lays.n169 Tryz.prog AwZ:=
 {
  mixed:=by kernel_rfl,
  f169:=Eq.trans Tryz.func93 (Aw Yg (by kernel_rfl)),
  t0:=Tryz.underlying0,
  a0:=Tryz.isAgg0,
  z0:=Tryz.sizeOf0,
  v0:=Tryz.zeroValue0,
  t3:=Tryz.underlying3,
  a3:=Tryz.isAgg3,
  z3:=Tryz.sizeOf3,
  v3:=Tryz.zeroValue3,
  t9:=Tryz.underlying9,
  a9:=Tryz.isAgg9,
  z9:=Tryz.sizeOf9,
  v9:=Tryz.zeroValue9,
  t37:=Tryz.underlying145,
  a37:=Tryz.isAgg145,
  z37:=Tryz.sizeOf145,
  v37:=Tryz.zeroValue145,
  t70:=Tryz.underlying144,
  a70:=Tryz.isAgg144,
  z70:=Tryz.sizeOf144,
  v70:=Tryz.zeroValue144,
  t72:=Tryz.underlying147,
  a72:=Tryz.isAgg147,
  z72:=Tryz.sizeOf147,
  v72:=Tryz.zeroValue147,
  t127:=Tryz.underlying186,
  a127:=Tryz.isAgg186,
  z127:=Tryz.sizeOf186,
  v127:=Tryz.zeroValue186}
def AhX:BldF:=⟨147,5,1⟩
theorem Ax1:BldOk Tryz.prog 93 AhX:=
 AvJ Ax0 {sizeBuilder:=by kernel_rfl,liesBuilder:=by kernel_rfl,t5:=Tryz.underlying5,a5:=Tryz.isAgg5,z5:=Tryz.sizeOf5,v5:=Tryz.zeroValue5,infoByte:=by kernel_rfl,cellsByte:=by kernel_rfl,sizeByte:=by kernel_rfl,neB5:=by decide} rfl rfl rfl ⟨_,Tryz.func93,by kernel_rfl,by kernel_rfl⟩
def Ax2:En:=⟨_,.bld AhX,Ax1⟩
def Ax3:Shelf.Ren:=
   {
   f:=λx=>
    match x with
    |146=>96
    |221=>144
    |268=>183
    |138=>184
    |143=>185
    |195=>227
    |197=>228
    |218=>229
    |219=>230
    |260=>258
    |217=>259
    |225=>260
    |224=>261
    |267=>262
    |266=>281
    |314=>282
    |n=>n,
   t:=λx=>
    match x with
    |9=>9
    |31=>52
    |3=>3
    |4=>4
    |0=>0
    |105=>270
    |21=>21
    |5=>5
    |46=>293
    |119=>227
    |139=>316
    |138=>315
    |146=>317
    |51=>276
    |n=>n,
   g:=λx=>
    match x with
    |1=>2
    |3=>3
    |4=>4
    |n=>n}
theorem Ax4:Go.Proofs.Lays.n146 Tryz.prog Ax3:=
 {
  mixed:=by kernel_rfl,
  f138:=Eq.trans Tryz.func184 (Aw Yg (by kernel_rfl)),
  f143:=Eq.trans Tryz.func185 (Aw Yg (by kernel_rfl)),
  f146:=Eq.trans Tryz.func96 (Aw Yg (by kernel_rfl)),
  f195:=Eq.trans Tryz.func227 (Aw Yg (by kernel_rfl)),
  f197:=Eq.trans Tryz.func228 (Aw Yg (by kernel_rfl)),
  f217:=Eq.trans Tryz.func259 (Aw Yg (by kernel_rfl)),
  f218:=Eq.trans Tryz.func229 (Aw Yg (by kernel_rfl)),
  f219:=Eq.trans Tryz.func230 (Aw Yg (by kernel_rfl)),
  f221:=Eq.trans Tryz.func144 (Aw Yg (by kernel_rfl)),
  f224:=Eq.trans Tryz.func261 (Aw Yg (by kernel_rfl)),
  f225:=Eq.trans Tryz.func260 (Aw Yg (by kernel_rfl)),
  f260:=Eq.trans Tryz.func258 (Aw Yg (by kernel_rfl)),
  f266:=Eq.trans Tryz.func281 (Aw Yg (by kernel_rfl)),
  f267:=Eq.trans Tryz.func262 (Aw Yg (by kernel_rfl)),
  f268:=Eq.trans Tryz.func183 (Aw Yg (by kernel_rfl)),
  f314:=Eq.trans Tryz.func282 (Aw Yg (by kernel_rfl)),
  t0:=Tryz.underlying0,
  a0:=Tryz.isAgg0,
  z0:=Tryz.sizeOf0,
  v0:=Tryz.zeroValue0,
  t3:=Tryz.underlying3,
  a3:=Tryz.isAgg3,
  z3:=Tryz.sizeOf3,
  v3:=Tryz.zeroValue3,
  t4:=Tryz.underlying4,
  a4:=Tryz.isAgg4,
  z4:=Tryz.sizeOf4,
  v4:=Tryz.zeroValue4,
  t5:=Tryz.underlying5,
  a5:=Tryz.isAgg5,
  z5:=Tryz.sizeOf5,
  v5:=Tryz.zeroValue5,
  t9:=Tryz.underlying9,
  a9:=Tryz.isAgg9,
  z9:=Tryz.sizeOf9,
  v9:=Tryz.zeroValue9,
  t21:=Tryz.underlying21,
  a21:=Tryz.isAgg21,
  z21:=Tryz.sizeOf21,
  v21:=Tryz.zeroValue21,
  t31:=Tryz.underlying52,
  a31:=Tryz.isAgg52,
  z31:=Tryz.sizeOf52,
  v31:=Tryz.zeroValue52,
  t46:=Tryz.underlying293,
  a46:=Tryz.isAgg293,
  z46:=Tryz.sizeOf293,
  v46:=Tryz.zeroValue293,
  t51:=Tryz.underlying276,
  a51:=Tryz.isAgg276,
  z51:=Tryz.sizeOf276,
  v51:=Tryz.zeroValue276,
  t105:=Tryz.underlying270,
  a105:=Tryz.isAgg270,
  z105:=Tryz.sizeOf270,
  v105:=Tryz.zeroValue270,
  t119:=Tryz.underlying227,
  a119:=Tryz.isAgg227,
  z119:=Tryz.sizeOf227,
  t138:=Tryz.underlying315,
  a138:=Tryz.isAgg315,
  z138:=Tryz.sizeOf315,
  v138:=Tryz.zeroValue315,
  t139:=Tryz.underlying316,
  a139:=Tryz.isAgg316,
  z139:=Tryz.sizeOf316,
  v139:=Tryz.zeroValue316,
  t146:=Tryz.underlying317,
  a146:=Tryz.isAgg317,
  z146:=Tryz.sizeOf317,
  v146:=Tryz.zeroValue317,
  g1:=by kernel_rfl,
  g3:=by kernel_rfl,
  g4:=by kernel_rfl}
abbrev AhY:=cJ
def Ax5(c:AhY):Spec:=Ah1 9 c
def uN:AhY:=λx y k=>tN x y k
theorem Ax6:SpecOk Tryz.prog 96 (Ax5 uN):=
 Avw Ax4 rfl rfl (by kernel_rfl) (Bd (by kernel_rfl)) (λw0 h0=>Go.Proofs.cell_of_shapedOpen_int (P:=Tryz.prog) (g:=2) (t:=3) (zero:=#[.int .i64 0]) h0 (Bd (by kernel_rfl)) (by kernel_rfl) rfl (by kernel_rfl) (by kernel_rfl) Tryz.underlying3) ⟨_,Tryz.func96,by kernel_rfl,by kernel_rfl⟩
def AhZ:En:=.of Ax6
def Ai0:En:=.inl mixed (X:=⟨look tab,gam ([]:Ye En),Yi,Yi,Yi,Yi,Ee,Yf,0,[]⟩) (rs:=[.tmp 2]) Bu ([]:Ye En) rfl 1 Tryz.func99 (by kernel_rfl)
def Ax7:En:=au ([]:Ye En) [HT,HT] [] [AK] [] [.tmp 4] Tryz.func100 (by kernel_rfl)
def Ai1:En:=au ([]:Ye En) [J5,J5] [] [AK] [] [.tmp 4] Tryz.func101 (by kernel_rfl)
def Ai2:En:=au ([]:Ye En) [Iz,Iz] [] [AK] [] [.tmp 4] Tryz.func102 (by kernel_rfl)
def Ax8:En:=au [Ai1,Ai2] [MN,MN] [] [AK] [] [.tmp 4] Tryz.func104 (by kernel_rfl)
def Ax9:En:=au ([]:Ye En) [UH,UH] [] [AK] [] [.tmp 4] Tryz.func105 (by kernel_rfl)
abbrev Axa:={β:Type}->Cj->(Ys->Ya β)->Ya β
def uO:Axa:=hid λr_ k=>let t:=(!Yd ((Yv r_.2.2.2.2.2.2 60)=0));k t
def Axb:En:=⟨108,.spec (sg [(Yp,[.data KW])] [] [AK] [] uO),pf [] [] [.tmp 2] Tryz.func108⟩
abbrev Axc:={β:Type}->Yh->Yh->(Ys->Ya β)->Ya β
def LU:Axc:=hid λi_ n k=>Yk (Yd ((0:Yh)<=i_)) (k (Yd (i_<n))) (k Yi)
def Va:En:=⟨110,.spec (sg [Aa,Aa] [] [AK] [] LU),pf [] [] [.tmp 4] Tryz.func110⟩
abbrev Axd:={β:Type}->Ch->(Yh->Ya β)->Ya β
abbrev Ai3(β:Type):=Yh->Ya β
abbrev Ai4(β:Type):=Unit->Ya β
abbrev uP(β:Type):=Ch->Ch->Yh->Yh->Ya β
def uQ:Pc:=⟨46,0,Ay 58 (Au Tryz.f111),⟨0,[0,8,9,10],[J5,J5,Aa,Aa],[]⟩,[(.ret,⟨0,[2],[Aa],[]⟩),(.exit 0,⟨0,[],[],[]⟩)]⟩
abbrev Axe(β:Type):=Yh->Ya β
abbrev Axf(β:Type):=Ch->Ch->Yh->Yh->Ya β
abbrev Axg(β:Type):=Ch->Yh->Ch->Yh->Yh->Ys->BG->Ya β
def Ai5:Pc:=⟨46,0,Ay 229 (Eb uQ.c),⟨0,[0,3,4,8,9,10,15],[J5,Aa,An,J5,Aa,Aa,AK],[.cells 74 [.data (.prod (.int .i64) (.int .i64))]]⟩,[(.ret,⟨0,[2],[Aa],[]⟩),(.normal,⟨0,[0,8,9,10],[J5,J5,Aa,Aa],[]⟩)]⟩
def uR{β:Type}(k1:Axe β)(k2:Axf β):Axg β:=λl i_ t8 t9 Ey BW w=>Yk BW (k1 1) (Yk (Yd ((0:Yh)<i_)) (Yk (Yd (0<=(Yc.wrap (i_-1)))&&Yd ((Yc.wrap (i_-1))<(Yb l:Yh))) (let e:=Ym l (Yl (Yc.wrap (i_-1))) (0,0);Yk (Yd (w.1<e.2)) (k1 6) (k2 l t8 t9 Ey)) Yf) (k2 l t8 t9 Ey))
def RR{β:Type}:=hid (uR (β:=β))
def Axh:Pb:=⟨229,Ai5,λ_=>RR,pe (p:=Ai5) [] [] 229 (g:=λ_=>uR)⟩
def dC{β:Type}(rec:uP β)(k1:Ai3 β)(k2:Ai4 β):uP β:=λl t8 t9 Ey=>Yk (Yd (Ey<t9)) (Yk (Yd (0<=Ey)&&Yd (Ey<(Yb t8:Yh))) (let e:=Ym t8 (Yl Ey) (0,0);Yk (Yd (e.1<(0:Yh))) (RR (λt2=>k1 t2) (λl2 QX QY QU=>rec l2 QX QY (Yc.wrap (QU+(1:Yh)))) l Ey t8 t9 Ey Yp e) (Yk (Yd (e.2<=e.1)) (RR (λt2=>k1 t2) (λl2 QX QY QU=>rec l2 QX QY (Yc.wrap (QU+(1:Yh)))) l Ey t8 t9 Ey Yp e) (let t:=(Yd ((604800:Yh)<e.2));RR (λt2=>k1 t2) (λl2 QX QY QU=>rec l2 QX QY (Yc.wrap (QU+(1:Yh)))) l Ey t8 t9 Ey t e))) Yf) (k2 ())
def PO(m:Yn){β:Type}(k1:Ai3 β)(k2:Ai4 β):uP β:=FW (λr=>dC r k1 k2) Yf m
theorem Ai6{β:Type}(i:Yn)(k1 k2):PO (β:=β) (i+1) k1 k2=dC (PO i k1 k2) k1 k2:=rfl
def uT{β:Type}:=hid (PO (β:=β) fuel)
def Axi:Pb:=⟨58,uQ,λ_=>uT,pl (p:=uQ) [] [Axh] (g:=λi _=>PO i)⟩
def Vb:Axd:=hid λl k=>Yk (Yd ((14:Yh)<(Yb l:Yh))) (k 5) (uT (λt2=>k t2) (λ_=>k 0) l l (Yb l:Yh) 0)
def Ai7:En:=⟨111,.spec (sg [J5] [] [Aa] [] Vb),pf [] [Axi] [.tmp 2] Tryz.func111⟩
abbrev Axj:={β:Type}->Bz->(Am->Ya β)->Ya β
def uU:Axj:=hid λl k=>k l.1
def Axk:En:=⟨117,.spec (sg [MN] [] [AI] [] uU),pf [] [] [.tmp 2] Tryz.func117⟩
abbrev Axl:={β:Type}->AF->(Ys->Ya β)->Ya β
abbrev Ai8(β:Type):=Ys->Ya β
abbrev uV(β:Type):=Ys->Yh->AF->Ya β
def Ai9:Pc:=⟨28,0,Ay 58 (Au Tryz.f124),⟨0,[1,3,4],[An,AK,Aa],[MM]⟩,[(.exit 0,⟨0,[3],[AK],[]⟩)]⟩
def dD{β:Type}(rec:uV β)(k1:Ai8 β):uV β:=λok i_ z=>Yk (Yd (i_<(Yb z.2.2:Yh))) (Yk ok (Yk (Yd (0<=i_)&&Yd (i_<(Yb z.2.2:Yh))) (let e:=Ym z.2.2 (Yl i_) (0,(0,(0,(0,(0,(0,0))))));let ok2:=(Yd ((Yv e.2.2.2.2.2.2 60)=0));let AT:=(Yc.wrap (i_+1));rec ok2 AT z) Yf) (let AT:=(Yc.wrap (i_+1));rec Yi AT z)) (k1 ok)
def Vc(m:Yn){β:Type}(k1:Ai8 β):uV β:=D7 (λr=>dD r k1) Yf m
theorem Aia{β:Type}(i:Yn)(k1):Vc (β:=β) (i+1) k1=dD (Vc i k1) k1:=rfl
def uW{β:Type}:=hid (Vc (β:=β) fuel)
def Axm:Pb:=⟨58,Ai9,λ_=>uW,pl (p:=Ai9) [] [] (g:=λi _=>Vc i)⟩
def Vd:Axl:=hid λz k=>let ok:=(Yd ((Yv z.2.1 60)=0));uW (λok2=>k ok2) ok 0 z
def Axn:En:=⟨124,.spec (sg [I1] [] [AK] [] Vd),pf [] [Axm] [.tmp 2] Tryz.func124⟩
abbrev Axo:={β:Type}->Yh->Yh->Yh->(Ys->Ya β)->Ya β
def FY:Axo:=hid λn lo hi k=>Yk (Yd (lo<=n)) (k (Yd (n<=hi))) (k Yi)
def Ve:En:=⟨125,.spec (sg [Aa,Aa,Aa] [] [AK] [] FY),pf [] [] [.tmp 6] Tryz.func125⟩
abbrev Axp:={β:Type}->Ch->(Yh->Ya β)->Ya β
abbrev Aib(β:Type):=Yh->Ya β
abbrev Aic(β:Type):=Unit->Ya β
abbrev uX(β:Type):=Ch->Yh->Ya β
def Aid:Pc:=⟨56,0,Ay 58 (Au Tryz.f126),⟨0,[0,3],[J5,Aa],[]⟩,[(.ret,⟨0,[2],[Aa],[]⟩),(.exit 0,⟨0,[],[],[]⟩)]⟩
def dE{β:Type}(rec:uX β)(k1:Aib β)(k2:Aic β):uX β:=λl i_=>Yk (Yd (i_<(Yb l:Yh))) (Yk (Yd (0<=i_)&&Yd (i_<(Yb l:Yh))) (let e:=Ym l (Yl i_) (0,0);Yk (Yd (e.1<(0:Yh))) (k1 1) (Yk (Yd (0<=i_)&&Yd (i_<(Yb l:Yh))) (let e2:=Ym l (Yl i_) (0,0);Yk (Yd (0<=i_)&&Yd (i_<(Yb l:Yh))) (let e3:=Ym l (Yl i_) (0,0);Yk (Yd (e3.2<=e2.1)) (k1 1) (Yk (Yd (0<=i_)&&Yd (i_<(Yb l:Yh))) (let e4:=Ym l (Yl i_) (0,0);Yk (Yd ((604800:Yh)<e4.2)) (k1 1) (Yk (Yd ((0:Yh)<i_)) (Yk (Yd (0<=i_)&&Yd (i_<(Yb l:Yh))) (let e5:=Ym l (Yl i_) (0,0);Yk (Yd (0<=(Yc.wrap (i_-1)))&&Yd ((Yc.wrap (i_-1))<(Yb l:Yh))) (let e6:=Ym l (Yl (Yc.wrap (i_-1))) (0,0);Yk (Yd (e5.1<e6.2)) (k1 6) (let AT:=(Yc.wrap (i_+1));rec l AT)) Yf) Yf) (let AT:=(Yc.wrap (i_+1));rec l AT))) Yf)) Yf) Yf)) Yf) (k2 ())
def Vf(m:Yn){β:Type}(k1:Aib β)(k2:Aic β):uX β:=UO (λr=>dE r k1 k2) Yf m
theorem Aie{β:Type}(i:Yn)(k1 k2):Vf (β:=β) (i+1) k1 k2=dE (Vf i k1 k2) k1 k2:=rfl
def uY{β:Type}:=hid (Vf (β:=β) fuel)
def Axq:Pb:=⟨58,Aid,λ_=>uY,pl (p:=Aid) [] [] (g:=λi _=>Vf i)⟩
def RT:Axp:=hid λl k=>Yk (Yd ((14:Yh)<(Yb l:Yh))) (k 5) (uY (λt2=>k t2) (λ_=>k 0) l 0)
def Aif:En:=⟨126,.spec (sg [J5] [] [Aa] [] RT),pf [] [Axq] [.tmp 2] Tryz.func126⟩
abbrev Axr:={β:Type}->Yh->(Ys->Ya β)->Ya β
def PQ:Axr:=hid λn k=>FY n 0 604800 (λD2=>Yk D2 (let t:=(Yd ((Yv n 3600)=0));k t) (k Yi))
def Axs:En:=⟨127,.spec (sg [Aa] [] [AK] [] PQ),pf [Ve] [] [.tmp 2] Tryz.func127⟩
abbrev Axt:={β:Type}->(DP->Ya β)->Ya β
def uZ:Axt:=hid λk=>let l:=([([106,97,110]:Ye Yj),([102,101,98]:Ye Yj),([109,97,114]:Ye Yj),([97,112,114]:Ye Yj),([109,97,121]:Ye Yj),([106,117,110]:Ye Yj),([106,117,108]:Ye Yj),([97,117,103]:Ye Yj),([115,101,112]:Ye Yj),([111,99,116]:Ye Yj),([110,111,118]:Ye Yj),([100,101,99]:Ye Yj)]:Ye Am);k l
def Axu:En:=⟨131,.spec (sg [] [] [BP] LS uZ),pf [] [] [.tmp 0] Tryz.func131⟩
abbrev Axv:={β:Type}->(DP->Ya β)->Ya β
def v6:Axv:=hid λk=>let l:=([([102,105,114,115,116]:Ye Yj),([115,101,99,111,110,100]:Ye Yj),([116,104,105,114,100]:Ye Yj),([102,111,117,114,116,104]:Ye Yj),([108,97,115,116]:Ye Yj)]:Ye Am);k l
def Axw:En:=⟨132,.spec (sg [] [] [BP] LS v6),pf [] [] [.tmp 0] Tryz.func132⟩
def Axx:Shelf.Ren:=
   {
   f:=λx=>
    match x with
    |156=>134
    |165=>174
    |166=>91
    |169=>93
    |240=>135
    |241=>224
    |276=>175
    |277=>255
    |n=>n,
   t:=λx=>
    match x with
    |31=>52
    |9=>9
    |3=>3
    |4=>4
    |0=>0
    |20=>20
    |72=>147
    |76=>151
    |70=>144
    |37=>145
    |75=>150
    |127=>186
    |164=>219
    |5=>5
    |80=>153
    |n=>n,
   g:=λx=>x}
theorem Axy:Go.Proofs.Lays.n156 Tryz.prog Axx:=
 {
  mixed:=by kernel_rfl,
  f156:=Eq.trans Tryz.func134 (Aw Yg (by kernel_rfl)),
  f165:=Eq.trans Tryz.func174 (Aw Yg (by kernel_rfl)),
  f166:=Eq.trans Tryz.func91 (Aw Yg (by kernel_rfl)),
  f169:=Eq.trans Tryz.func93 (Aw Yg (by kernel_rfl)),
  f240:=Eq.trans Tryz.func135 (Aw Yg (by kernel_rfl)),
  f241:=Eq.trans Tryz.func224 (Aw Yg (by kernel_rfl)),
  f276:=Eq.trans Tryz.func175 (Aw Yg (by kernel_rfl)),
  f277:=Eq.trans Tryz.func255 (Aw Yg (by kernel_rfl)),
  t0:=Tryz.underlying0,
  a0:=Tryz.isAgg0,
  z0:=Tryz.sizeOf0,
  v0:=Tryz.zeroValue0,
  t3:=Tryz.underlying3,
  a3:=Tryz.isAgg3,
  z3:=Tryz.sizeOf3,
  v3:=Tryz.zeroValue3,
  t4:=Tryz.underlying4,
  a4:=Tryz.isAgg4,
  z4:=Tryz.sizeOf4,
  v4:=Tryz.zeroValue4,
  t9:=Tryz.underlying9,
  a9:=Tryz.isAgg9,
  z9:=Tryz.sizeOf9,
  v9:=Tryz.zeroValue9,
  t20:=Tryz.underlying20,
  a20:=Tryz.isAgg20,
  z20:=Tryz.sizeOf20,
  v20:=Tryz.zeroValue20,
  t31:=Tryz.underlying52,
  a31:=Tryz.isAgg52,
  z31:=Tryz.sizeOf52,
  v31:=Tryz.zeroValue52,
  t37:=Tryz.underlying145,
  a37:=Tryz.isAgg145,
  z37:=Tryz.sizeOf145,
  v37:=Tryz.zeroValue145,
  t70:=Tryz.underlying144,
  a70:=Tryz.isAgg144,
  z70:=Tryz.sizeOf144,
  v70:=Tryz.zeroValue144,
  t72:=Tryz.underlying147,
  a72:=Tryz.isAgg147,
  z72:=Tryz.sizeOf147,
  v72:=Tryz.zeroValue147,
  t75:=Tryz.underlying150,
  a75:=Tryz.isAgg150,
  z75:=Tryz.sizeOf150,
  v75:=Tryz.zeroValue150,
  t76:=Tryz.underlying151,
  a76:=Tryz.isAgg151,
  z76:=Tryz.sizeOf151,
  v76:=Tryz.zeroValue151,
  t127:=Tryz.underlying186,
  a127:=Tryz.isAgg186,
  z127:=Tryz.sizeOf186,
  v127:=Tryz.zeroValue186,
  t164:=Tryz.underlying219,
  a164:=Tryz.isAgg219,
  z164:=Tryz.sizeOf219,
  v164:=Tryz.zeroValue219}
def Aig:BldF:=⟨9,0,3⟩
theorem Axz:BldOk Tryz.prog 134 Aig:=
 AvL Axy {sizeBuilder:=by kernel_rfl,liesBuilder:=by kernel_rfl,t5:=Tryz.underlying5,a5:=Tryz.isAgg5,z5:=Tryz.sizeOf5,v5:=Tryz.zeroValue5,infoByte:=by kernel_rfl,cellsByte:=by kernel_rfl,sizeByte:=by kernel_rfl,neB5:=by decide} rfl ⟨_,Tryz.func134,by kernel_rfl,by kernel_rfl⟩
def AxA:En:=⟨_,.bld Aig,Axz⟩
abbrev AxB:={β:Type}->Cm->(Am->Ya β)->Ya β
abbrev Aih(β:Type):=Am->Ya β
abbrev Aii(β:Type):=Am->Ya β
abbrev v7(β:Type):=Cm->Am->Yh->Ya β
def Aij:Pc:=⟨36,0,Ay 58 (Au Tryz.f137),⟨0,[0,3,4],[DQ,AI,Aa],[]⟩,[(.ret,⟨0,[2],[AI],[]⟩),(.exit 0,⟨0,[3],[AI],[]⟩)]⟩
def dF{β:Type}(rec:v7 β)(k1:Aih β)(k2:Aii β):v7 β:=λl s i_=>Yk (Yd (i_<(Yb l:Yh))) (Yk (Yd (0<=i_)&&Yd (i_<(Yb l:Yh))) (let e:=Ym l (Yl i_) (0,(([]:Ye Yj),0));Yk (Yd (e.1<(0:Yh))) (k1 ([63]:Ye Yj)) (Yk (Yd (0<=i_)&&Yd (i_<(Yb l:Yh))) (let e2:=Ym l (Yl i_) (0,(([]:Ye Yj),0));Yk (Yd ((5:Yh)<e2.1)) (k1 ([63]:Ye Yj)) (let l2:=([([119]:Ye Yj),([110]:Ye Yj),([99]:Ye Yj),([100]:Ye Yj),([111]:Ye Yj),([105]:Ye Yj)]:Ye Am);Yk (Yd (0<=i_)&&Yd (i_<(Yb l:Yh))) (let e3:=Ym l (Yl i_) (0,(([]:Ye Yj),0));Yk (Yd (0<=e3.1)&&Yd (e3.1<(Yb l2:Yh))) (Yk (Yd (Yb s+Yb (Ym l2 (Yl e3.1) ([]:Ye Yj))<=9223372036854775807)) (let s2:=(s++(Ym l2 (Yl e3.1) ([]:Ye Yj)));let AT:=(Yc.wrap (i_+1));rec l s2 AT) Yf) Yf) Yf)) Yf)) Yf) (k2 s)
def Vg(m:Yn){β:Type}(k1:Aih β)(k2:Aii β):v7 β:=D7 (λr=>dF r k1 k2) Yf m
theorem Aik{β:Type}(i:Yn)(k1 k2):Vg (β:=β) (i+1) k1 k2=dF (Vg i k1 k2) k1 k2:=rfl
def v8{β:Type}:=hid (Vg (β:=β) fuel)
def AxC:Pb:=⟨58,Aij,λ_=>v8,pl (p:=Aij) [] [] (g:=λi _=>Vg i)⟩
def PR:AxB:=hid λl k=>v8 (λt2=>k t2) (λs=>k s) l ([]:Ye Yj) 0
def Ail:En:=⟨137,.spec (sg [DQ] [] [AI] [] PR),pf [] [AxC] [.tmp 2] Tryz.func137⟩
abbrev AxD:={β:Type}->((Ye (Ye Yj×Ye Yj))->Ya β)->Ya β
def dG:AxD:=hid λk=>let l:=([(([122,111,110,101]:Ye Yj),([119,111]:Ye Yj)),(([114,117,108,101]:Ye Yj),([110,110,119,119,119,99,111]:Ye Yj)),(([113,117,105,101,116]:Ye Yj),([119,99,119,99]:Ye Yj)),(([99,97,108,101,110,100,97,114]:Ye Yj),([119,119]:Ye Yj)),(([100,97,121,115]:Ye Yj),([100,43]:Ye Yj)),(([115,99,104,101,100,117,108,101]:Ye Yj),([119]:Ye Yj)),(([108,97,121,101,114]:Ye Yj),([119,119,100,99,110,119]:Ye Yj)),(([109,101,109,98,101,114]:Ye Yj),([119,43]:Ye Yj)),(([111,110]:Ye Yj),([119,99,119,99]:Ye Yj)),(([110,111,116]:Ye Yj),([119]:Ye Yj)),(([111,110,108,121]:Ye Yj),([119]:Ye Yj)),(([108,101,97,118,101]:Ye Yj),([119,105,105]:Ye Yj)),(([111,118,101,114,114,105,100,101]:Ye Yj),([119,105,105]:Ye Yj)),(([115,119,97,112]:Ye Yj),([119,119,105,105]:Ye Yj))]:Ye (Ye Yj×Ye Yj));k l
def AxE:En:=⟨138,.spec (sg [] [] [BP] [.row 190 (.prod .str .str)] dG),pf [] [] [.tmp 0] Tryz.func138⟩
abbrev AxF:={β:Type}->Am->Am->(Ys->Ya β)->Ya β
abbrev Aim(β:Type):=Ys->Ya β
abbrev Ain(β:Type):=Am->Ya β
abbrev vA(β:Type):=Am->Am->Yh->Ya β
def Aio:Pc:=⟨21,0,Ay 26 (Au Tryz.f139),⟨0,[0,1,5],[AI,AI,Aa],[]⟩,[(.ret,⟨0,[4],[AK],[]⟩),(.exit 0,⟨0,[0],[AI],[]⟩)]⟩
def dH{β:Type}(rec:vA β)(k1:Aim β)(k2:Ain β):vA β:=λs b i_=>Yk (Yd (i_<(Yb s:Yh))) (Yk (Yd (0<=i_)&&(Yd (i_<=(Yc.wrap (i_+1)))&&Yd ((Yc.wrap (i_+1))<=(Yb s:Yh)))) (Yk (!Yd ((Y4 (Yl i_) (Y5 (Yl (Yc.wrap (i_+1))) s))=b)) (k1 Yi) (let AT:=(Yc.wrap (i_+1));rec s b AT)) Yf) (k2 s)
def Vh(m:Yn){β:Type}(k1:Aim β)(k2:Ain β):vA β:=D7 (λr=>dH r k1 k2) Yf m
theorem Aip{β:Type}(i:Yn)(k1 k2):Vh (β:=β) (i+1) k1 k2=dH (Vh i k1 k2) k1 k2:=rfl
def vB{β:Type}:=hid (Vh (β:=β) fuel)
def AxG:Pb:=⟨26,Aio,λ_=>vB,pl (p:=Aio) [] [] (g:=λi _=>Vh i)⟩
def Vi:AxF:=hid λs b k=>vB (λt4=>k t4) (λs2=>let t:=(!Yd (s2=([]:Ye Yj)));k t) s b 0
def AxH:En:=⟨139,.spec (sg [AI,AI] [] [AK] [] Vi),pf [] [AxG] [.tmp 4] Tryz.func139⟩
def AxI:Shelf.Ren:=
   {
   f:=λx=>
    match x with
    |145=>145
    |220=>186
    |219=>230
    |217=>259
    |225=>260
    |224=>261
    |267=>262
    |266=>281
    |314=>282
    |n=>n,
   t:=λx=>
    match x with
    |9=>9
    |4=>4
    |59=>197
    |3=>3
    |5=>5
    |46=>293
    |146=>317
    |51=>276
    |n=>n,
   g:=λx=>
    match x with
    |1=>2
    |n=>n}
theorem AxJ:Go.Proofs.Lays.n145 Tryz.prog AxI:=
 {
  mixed:=by kernel_rfl,
  f145:=Eq.trans Tryz.func145 (Aw Yg (by kernel_rfl)),
  f217:=Eq.trans Tryz.func259 (Aw Yg (by kernel_rfl)),
  f219:=Eq.trans Tryz.func230 (Aw Yg (by kernel_rfl)),
  f220:=Eq.trans Tryz.func186 (Aw Yg (by kernel_rfl)),
  f224:=Eq.trans Tryz.func261 (Aw Yg (by kernel_rfl)),
  f225:=Eq.trans Tryz.func260 (Aw Yg (by kernel_rfl)),
  f266:=Eq.trans Tryz.func281 (Aw Yg (by kernel_rfl)),
  f267:=Eq.trans Tryz.func262 (Aw Yg (by kernel_rfl)),
  f314:=Eq.trans Tryz.func282 (Aw Yg (by kernel_rfl)),
  t3:=Tryz.underlying3,
  a3:=Tryz.isAgg3,
  z3:=Tryz.sizeOf3,
  v3:=Tryz.zeroValue3,
  t4:=Tryz.underlying4,
  a4:=Tryz.isAgg4,
  z4:=Tryz.sizeOf4,
  v4:=Tryz.zeroValue4,
  t5:=Tryz.underlying5,
  a5:=Tryz.isAgg5,
  z5:=Tryz.sizeOf5,
  v5:=Tryz.zeroValue5,
  t9:=Tryz.underlying9,
  a9:=Tryz.isAgg9,
  z9:=Tryz.sizeOf9,
  v9:=Tryz.zeroValue9,
  t46:=Tryz.underlying293,
  a46:=Tryz.isAgg293,
  z46:=Tryz.sizeOf293,
  v46:=Tryz.zeroValue293,
  t51:=Tryz.underlying276,
  a51:=Tryz.isAgg276,
  z51:=Tryz.sizeOf276,
  v51:=Tryz.zeroValue276,
  t59:=Tryz.underlying197,
  a59:=Tryz.isAgg197,
  z59:=Tryz.sizeOf197,
  v59:=Tryz.zeroValue197,
  t146:=Tryz.underlying317,
  a146:=Tryz.isAgg317,
  z146:=Tryz.sizeOf317,
  v146:=Tryz.zeroValue317,
  g1:=by kernel_rfl}
abbrev Aiq:=cutT
def AxK(c:Aiq):Spec:=cutS c
def Air:Aiq:=λx y k=>cutF x y k
theorem AxL:SpecOk Tryz.prog 145 (AxK Air):=
 Avr AxJ rfl (Bd (by kernel_rfl)) (λw0 h0=>Go.Proofs.cell_of_shapedOpen_int (P:=Tryz.prog) (g:=2) (t:=3) (zero:=#[.int .i64 0]) h0 (Bd (by kernel_rfl)) (by kernel_rfl) rfl (by kernel_rfl) (by kernel_rfl) Tryz.underlying3) ⟨_,Tryz.func145,by kernel_rfl,by kernel_rfl⟩
def AxM:En:=.of AxL
def vC:Shelf.Ren:=
   {
   f:=λx=>
    match x with
    |157=>146
    |229=>187
    |199=>188
    |261=>231
    |311=>263
    |312=>264
    |n=>n,
   t:=λx=>
    match x with
    |9=>9
    |31=>52
    |3=>3
    |5=>5
    |4=>4
    |119=>227
    |0=>0
    |40=>229
    |152=>273
    |21=>21
    |154=>275
    |51=>276
    |141=>278
    |196=>297
    |193=>294
    |198=>300
    |49=>298
    |194=>295
    |201=>303
    |226=>319
    |46=>293
    |227=>320
    |n=>n,
   g:=λx=>
    match x with
    |0=>0
    |6=>1
    |n=>n}
theorem Ais:Go.Proofs.Lays.n157 Tryz.prog vC:=
 {
  mixed:=by kernel_rfl,
  f157:=Eq.trans Tryz.func146 (Aw Yg (by kernel_rfl)),
  f199:=Eq.trans Tryz.func188 (Aw Yg (by kernel_rfl)),
  f229:=Eq.trans Tryz.func187 (Aw Yg (by kernel_rfl)),
  f261:=Eq.trans Tryz.func231 (Aw Yg (by kernel_rfl)),
  f311:=Eq.trans Tryz.func263 (Aw Yg (by kernel_rfl)),
  f312:=Eq.trans Tryz.func264 (Aw Yg (by kernel_rfl)),
  t0:=Tryz.underlying0,
  a0:=Tryz.isAgg0,
  z0:=Tryz.sizeOf0,
  v0:=Tryz.zeroValue0,
  t3:=Tryz.underlying3,
  a3:=Tryz.isAgg3,
  z3:=Tryz.sizeOf3,
  v3:=Tryz.zeroValue3,
  t4:=Tryz.underlying4,
  a4:=Tryz.isAgg4,
  z4:=Tryz.sizeOf4,
  v4:=Tryz.zeroValue4,
  t5:=Tryz.underlying5,
  a5:=Tryz.isAgg5,
  z5:=Tryz.sizeOf5,
  v5:=Tryz.zeroValue5,
  t9:=Tryz.underlying9,
  a9:=Tryz.isAgg9,
  z9:=Tryz.sizeOf9,
  v9:=Tryz.zeroValue9,
  t21:=Tryz.underlying21,
  a21:=Tryz.isAgg21,
  z21:=Tryz.sizeOf21,
  v21:=Tryz.zeroValue21,
  t31:=Tryz.underlying52,
  a31:=Tryz.isAgg52,
  z31:=Tryz.sizeOf52,
  v31:=Tryz.zeroValue52,
  t40:=Tryz.underlying229,
  a40:=Tryz.isAgg229,
  z40:=Tryz.sizeOf229,
  v40:=Tryz.zeroValue229,
  t46:=Tryz.underlying293,
  a46:=Tryz.isAgg293,
  z46:=Tryz.sizeOf293,
  v46:=Tryz.zeroValue293,
  t49:=Tryz.underlying298,
  a49:=Tryz.isAgg298,
  z49:=Tryz.sizeOf298,
  v49:=Tryz.zeroValue298,
  t51:=Tryz.underlying276,
  a51:=Tryz.isAgg276,
  z51:=Tryz.sizeOf276,
  v51:=Tryz.zeroValue276,
  t119:=Tryz.underlying227,
  a119:=Tryz.isAgg227,
  z119:=Tryz.sizeOf227,
  t141:=Tryz.underlying278,
  a141:=Tryz.isAgg278,
  z141:=Tryz.sizeOf278,
  v141:=Tryz.zeroValue278,
  t152:=Tryz.underlying273,
  a152:=Tryz.isAgg273,
  z152:=Tryz.sizeOf273,
  v152:=Tryz.zeroValue273,
  t154:=Tryz.underlying275,
  a154:=Tryz.isAgg275,
  z154:=Tryz.sizeOf275,
  v154:=Tryz.zeroValue275,
  t193:=Tryz.underlying294,
  a193:=Tryz.isAgg294,
  z193:=Tryz.sizeOf294,
  v193:=Tryz.zeroValue294,
  t194:=Tryz.underlying295,
  a194:=Tryz.isAgg295,
  z194:=Tryz.sizeOf295,
  v194:=Tryz.zeroValue295,
  t196:=Tryz.underlying297,
  a196:=Tryz.isAgg297,
  z196:=Tryz.sizeOf297,
  v196:=Tryz.zeroValue297,
  t198:=Tryz.underlying300,
  a198:=Tryz.isAgg300,
  z198:=Tryz.sizeOf300,
  v198:=Tryz.zeroValue300,
  t201:=Tryz.underlying303,
  a201:=Tryz.isAgg303,
  z201:=Tryz.sizeOf303,
  v201:=Tryz.zeroValue303,
  t226:=Tryz.underlying319,
  a226:=Tryz.isAgg319,
  z226:=Tryz.sizeOf319,
  v226:=Tryz.zeroValue319,
  t227:=Tryz.underlying320,
  a227:=Tryz.isAgg320,
  z227:=Tryz.sizeOf320,
  v227:=Tryz.zeroValue320,
  g0:=by kernel_rfl,
  g6:=by kernel_rfl}
abbrev Ait:=tP
def AxN(c:Ait):Spec:=Ah3 9 c
def vD:Ait:=λx k=>tQ x k
theorem AxO:SpecOk Tryz.prog 146 (AxN vD):=
 Avz Ais rfl rfl (by kernel_rfl) (by kernel_rfl) (by kernel_rfl) (by kernel_rfl) ⟨_,Tryz.func146,by kernel_rfl,by kernel_rfl⟩
def Aiu:En:=.of AxO
def Aiv:En:=.hand (J4 mixed (X:=⟨look tab,gam ([]:Ye En),Yi,Yi,Yi,Yi,Ee,Yf,100000,[]⟩) Bu ([]:Ye En) rfl (ps:=[An,DQ]) (is:=FA) (rs:=[Aa]) (os:=FA) [.tmp 4] Tryz.func150 (by kernel_rfl)) rfl (by kernel_rfl)
def Aiw:En:=.hand (J4 mixed (X:=⟨look tab,gam ([]:Ye En),Yi,Yi,Yi,Yi,Ee,Yf,100000,[]⟩) Bu ([]:Ye En) rfl (ps:=[An,DQ]) (is:=FA) (rs:=[Aa]) (os:=FA) [.tmp 4] Tryz.func156 (by kernel_rfl)) rfl (by kernel_rfl)
abbrev AxP:={β:Type}->Yh->(Ys->Ya β)->Ya β
def RU:AxP:=hid λc k=>Yk (Yd ((97:Yh)<=c)) (let t:=(Yd (c<=122));k t) (k Yi)
def Aix:En:=⟨164,.spec (sg [(Yi,[.data (.int .u8)])] [] [AK] [] RU),pf [] [] [.tmp 2] Tryz.func164⟩
abbrev AxQ:={β:Type}->Yh->(Ys->Ya β)->Ya β
def Vj:AxQ:=hid λc k=>Yk (Yd ((48:Yh)<=c)) (let t:=(Yd (c<=57));k t) (k Yi)
def Aiy:En:=⟨165,.spec (sg [(Yi,[.data (.int .u8)])] [] [AK] [] Vj),pf [] [] [.tmp 2] Tryz.func165⟩
abbrev AxR:={β:Type}->Yh->Yh->Yh->(Ys->Ya β)->Ya β
def MR:AxR:=hid λn lo hi k=>Yk (Yd (lo<=n)) (k (Yd (n<=hi))) (k Yi)
def vE:En:=⟨166,.spec (sg [Aa,Aa,Aa] [] [AK] [] MR),pf [] [] [.tmp 6] Tryz.func166⟩
abbrev AxS:={β:Type}->Yh->Aj->(Ys->Aj->Ya β)->Ya β
def vF:AxS:=hid λm t1 k=>LU m (Yb t1.2.1:Yh) (λG8=>k (!G8) t1)
def AxT:En:=⟨169,.spec (sg [Aa,An] [BR] [AK] [BR] vF),pf [Va] [] [.tmp 3] Tryz.func169⟩
abbrev AxU:={β:Type}->Yh->(Yh->Ya β)->Ya β
def MS:AxU:=hid λy k=>let t:=(Yc.wrap ((Yc.wrap ((Yc.wrap ((Yc.wrap ((Yc.wrap (y-1970))*365))+(Yc.wrap (Yz (Yc.wrap (y-1969)) 4))))-(Yc.wrap (Yz (Yc.wrap (y-1901)) 100))))+(Yc.wrap (Yz (Yc.wrap (y-1601)) 400))));k t
def vG:En:=⟨172,.spec (sg [Aa] [] [Aa] [] MS),pf [] [] [.tmp 2] Tryz.func172⟩
abbrev AxV:={β:Type}->Yh->(Am->Ya β)->Ya β
def J8:AxV:=hid λn k=>let l:=([(YaN.wrap (Yc.wrap (48+(Yv (Yc.wrap (Yz n 10)) 10)))),(YaN.wrap (Yc.wrap (48+(Yv n 10))))]:Ye Yh);k (Hc l)
def Aiz:En:=⟨176,.spec (sg [Aa] [] [AI] [] J8),pf [] [] [.tmp 2] Tryz.func176⟩
abbrev RV:={β:Type}->Yh->(Am->Ya β)->Ya β
def RW(c:RV):Spec:=
 ⟨[(Yi,[.data (.int .u64)])],[],[AI],[],λx k=>c x.1.1.1 (λr0=>k (((r0,()),()),()))⟩
section
variable(zqlh:RV)
@[reducible] def AiA:Ctx:=cx [(177,.spec (RW zqlh))]
def dI:RV:=λn k=>let l:=([(YaN.wrap (Yas.wrap (48+(Yv n 10))))]:Ye Yh);Yk (Yd (n<10)) (k (Hc l)) (zqlh (Yas.wrap (Yz n 10)) (λrdigits=>Yk (Yd (Yb rdigits+Yb (Hc l)<=9223372036854775807)) (k (rdigits++(Hc l))) Yf))
theorem AxW(hΓ:GO (AiA zqlh)):SpecOk Tryz.prog 177 (RW (dI zqlh)):=
 pcS mixed (AiA zqlh) Bu hΓ (EB []) [.tmp 2] Tryz.func177 (by kernel_rfl) (by kernel_rfl) (by kernel_rfl) (by kernel_rfl) Agu (λ_ _=>by kernel_rfl)
end
theorem AxXΓ(me:RV)(Tl:SpecOk Tryz.prog 177 (RW me)):ΓOk Tryz.prog (EB [(177,.spec (RW me))]):=(ΓOk_cons Tl ΓOk_nil)
def NZ:Yn->RV
 |0=>λ_ _=>Yf
 |i+1=>dI (NZ i)
theorem AiB:∀i,SpecOk Tryz.prog 177 (RW (NZ i))
 |0=>SpecOk.never ⟨_,Tryz.func177,by kernel_rfl,by kernel_rfl⟩ (λ_ _=>rfl)
 |i+1=>
  have Tl:=AiB i;have me_ok:=Tl
  AxW (NZ i) (AxXΓ (NZ i) Tl)
theorem AxY{β:Type}(i:Yn)(n k):(NZ (i+1) n k:Ya β)=dI (NZ i) n k:=rfl
def dJ:RV:=NZ fuel
theorem AxZ:SpecOk Tryz.prog 177 (RW dJ):=AiB fuel
def Ay0:En:=.of AxZ
abbrev Ay1:={β:Type}->Am->(Yh->Ya β)->Ya β
abbrev AiC(β:Type):=Yh->Ya β
abbrev vH(β:Type):=Am->Yh->Yh->Ya β
def AiD:Pc:=⟨20,0,Ay 58 (Au Tryz.f182),⟨0,[0,3,4],[AI,Aa,Aa],[]⟩,[(.exit 0,⟨0,[3],[Aa],[]⟩)]⟩
def dK{β:Type}(rec:vH β)(k1:AiC β):vH β:=λs n i_=>Yk (Yd (i_<(Yb s:Yh))) (Yk (Yd (0<=i_)&&Yd (i_<(Yb s:Yh))) (let n2:=(Yc.wrap ((Yc.wrap (10*n))+(Yc.wrap (YaN.wrap (((Ym s (Yl i_) 0).toNat:Yh)-(48:Yh))))));let AT:=(Yc.wrap (i_+1));rec s n2 AT) Yf) (k1 n)
def Vk(m:Yn){β:Type}(k1:AiC β):vH β:=D7 (λr=>dK r k1) Yf m
theorem AiE{β:Type}(i:Yn)(k1):Vk (β:=β) (i+1) k1=dK (Vk i k1) k1:=rfl
def vI{β:Type}:=hid (Vk (β:=β) fuel)
def Ay2:Pb:=⟨58,AiD,λ_=>vI,pl (p:=AiD) [] [] (g:=λi _=>Vk i)⟩
def J9:Ay1:=hid λs k=>vI (λn=>k n) s 0 0
def vJ:En:=⟨182,.spec (sg [AI] [] [Aa] [] J9),pf [] [Ay2] [.tmp 2] Tryz.func182⟩
abbrev Ay3:={β:Type}->Kj->Am->(Ys->Am->Ya β)->Ya β
def AiF:Ay3:=hid λf t1 k=>k (Yd (f.1=t1)) t1
def Ay4:En:=⟨191,.spec (sg [(Yp,[.data MI]),An] [LR] [AK] [LR] AiF),pf [] [] [.tmp 3] Tryz.func191⟩
abbrev Ay5:={β:Type}->AN->Am->(Ys->Ya β)->Ya β
def vK:Ay5:=hid λt s k=>Yk (Yd (t.1=(0:Yh))) (k (Yd (t.2.1=s))) (k Yi)
def Ay6:En:=⟨192,.spec (sg [H4,AI] [] [AK] [] vK),pf [] [] [.tmp 4] Tryz.func192⟩
def AiG:En:=.inl mixed (X:=⟨look tab,gam ([]:Ye En),Yi,Yi,Yi,Yi,Ee,Yf,0,[]⟩) (rs:=[.tmp 2]) Bu ([]:Ye En) rfl 0 Tryz.func196 (by kernel_rfl)
def AiH:En:=.inl mixed (X:=⟨look tab,gam ([]:Ye En),Yi,Yi,Yi,Yi,Ee,Yf,0,[]⟩) (rs:=[.tmp 2]) Bu ([]:Ye En) rfl 0 Tryz.func197 (by kernel_rfl)
abbrev Ay7:={β:Type}->AF->(Am->Ya β)->Ya β
def Ay8:Ay7:=KV ⟨look tab,gam ([]:Ye En),Yi,Yi,Yi,Yi,Ee,Yf,100000,[]⟩ Tryz.f240 [I1] [] [AI] [] [.tmp 2]
def AiI:En:=⟨240,.spec (sg [I1] [] [AI] [] Ay8),(NR mixed (X:=⟨look tab,gam ([]:Ye En),Yi,Yi,Yi,Yi,Ee,Yf,100000,[]⟩) Bu ([]:Ye En) rfl [.tmp 2] Tryz.func240 (by kernel_rfl)).spec⟩
def vL:En:=.inl mixed (X:=⟨look tab,gam [AiI],Yi,Yi,Yi,Yi,[],Yf,0,[]⟩) (rs:=[.tmp 4]) Bu [AiI] rfl 1 Tryz.func269 (by kernel_rfl)
abbrev Ay9:={β:Type}->Bc->Am->(Yh->Am->Ya β)->Ya β
def Aya:Ay9:=KV ⟨look tab,gam [vL],Yi,Yi,Yi,Yi,[],Yf,100000,[]⟩ Tryz.f268 [P9,(Yi,[.fn 269 [0,1]])] cP [Aa] cP [.tmp 4]
def AiJ:En:=⟨268,.spec (sg [P9,(Yi,[.fn 269 [0,1]])] cP [Aa] cP Aya),(NR mixed (X:=⟨look tab,gam [vL],Yi,Yi,Yi,Yi,[],Yf,100000,[]⟩) Bu [vL] rfl [.tmp 4] Tryz.func268 (by kernel_rfl)).spec⟩
def AiK:En:=.inl mixed (X:=⟨look tab,gam [AiJ],Yi,Yi,Yi,Yi,[],Yf,0,[]⟩) (rs:=[.tmp 6,.tmp 7]) Bu [AiJ] rfl 2 Tryz.func239 (by kernel_rfl)
def RX:En:=.inl mixed (X:=⟨look tab,gam [AiK],Yi,Yi,Yi,Yi,Ee,Yf,0,[]⟩) (rs:=[.tmp 4,.tmp 5]) Bu [AiK] rfl 2 Tryz.func198 (by kernel_rfl)
def Kl:En:=au ([]:Ye En) [AK] [] [Aa] [] [.tmp 2] Tryz.func199 (by kernel_rfl)
def AiL:En:=.inl mixed (X:=⟨look tab,gam ([]:Ye En),Yi,Yi,Yi,Yi,Ee,Yf,0,[]⟩) (rs:=[.tmp 2]) Bu ([]:Ye En) rfl 0 Tryz.func201 (by kernel_rfl)
def AiM:En:=.inl mixed (X:=⟨look tab,gam ([]:Ye En),Yi,Yi,Yi,Yi,Ee,Yf,0,[]⟩) (rs:=[.tmp 2]) Bu ([]:Ye En) rfl 0 Tryz.func202 (by kernel_rfl)
def AiN:En:=.inl mixed (X:=⟨look tab,gam ([]:Ye En),Yi,Yi,Yi,Yi,Ee,Yf,0,[]⟩) (rs:=[.tmp 2]) Bu ([]:Ye En) rfl 0 Tryz.func203 (by kernel_rfl)
def AiO:En:=.inl mixed (X:=⟨look tab,gam ([]:Ye En),Yi,Yi,Yi,Yi,Ee,Yf,0,[]⟩) (rs:=[.tmp 2]) Bu ([]:Ye En) rfl 0 Tryz.func204 (by kernel_rfl)
abbrev Ayb:={β:Type}->DP->Am->(Yh->Ya β)->Ya β
def AiP:Ayb:=KV ⟨look tab,gam ([]:Ye En),Yi,Yi,Yi,Yi,[],Yf,100000,[]⟩ Tryz.f205 [cL,AI] [] [Aa] [] [.tmp 4]
def Vl:En:=⟨205,.spec (sg [cL,AI] [] [Aa] [] AiP),(NR mixed (X:=⟨look tab,gam ([]:Ye En),Yi,Yi,Yi,Yi,[],Yf,100000,[]⟩) Bu ([]:Ye En) rfl [.tmp 4] Tryz.func205 (by kernel_rfl)).spec⟩
def RY:En:=.inl mixed (X:=⟨look tab,gam ([]:Ye En),Yi,Yi,Yi,Yi,Ee,Yf,0,[]⟩) (rs:=[.tmp 2]) Bu ([]:Ye En) rfl 0 Tryz.func206 (by kernel_rfl)
def dL:En:=.inl mixed (X:=⟨look tab,gam ([]:Ye En),Yi,Yi,Yi,Yi,Ee,Yf,0,[]⟩) (rs:=[.tmp 2]) Bu ([]:Ye En) rfl 0 Tryz.func207 (by kernel_rfl)
def AiQ:En:=.inl mixed (X:=⟨look tab,gam ([]:Ye En),Yi,Yi,Yi,Yi,Ee,Yf,0,[]⟩) (rs:=[.tmp 2]) Bu ([]:Ye En) rfl 0 Tryz.func241 (by kernel_rfl)
def RZ:En:=.inl mixed (X:=⟨look tab,gam [AiQ,RY],Yi,Yi,Yi,Yi,Ee,Yf,0,[]⟩) (rs:=[.tmp 2]) Bu [AiQ,RY] rfl 0 Tryz.func208 (by kernel_rfl)
def Sa:En:=.inl mixed (X:=⟨look tab,gam ([]:Ye En),Yi,Yi,Yi,Yi,Ee,Yf,0,[]⟩) (rs:=[.tmp 2]) Bu ([]:Ye En) rfl 0 Tryz.func209 (by kernel_rfl)
abbrev Ayc:={β:Type}->Bm->(Am->Ya β)->Ya β
def Ayd:Ayc:=KV ⟨look tab,gam ([]:Ye En),Yi,Yi,Yi,Yi,Ee,Yf,100000,[]⟩ Tryz.f245 [ML] [] [AI] [] [.tmp 2]
def AiR:En:=⟨245,.spec (sg [ML] [] [AI] [] Ayd),(NR mixed (X:=⟨look tab,gam ([]:Ye En),Yi,Yi,Yi,Yi,Ee,Yf,100000,[]⟩) Bu ([]:Ye En) rfl [.tmp 2] Tryz.func245 (by kernel_rfl)).spec⟩
def vM:En:=.inl mixed (X:=⟨look tab,gam [AiR],Yi,Yi,Yi,Yi,[],Yf,0,[]⟩) (rs:=[.tmp 4]) Bu [AiR] rfl 1 Tryz.func273 (by kernel_rfl)
abbrev Aye:={β:Type}->Bb->Am->(Yh->Am->Ya β)->Ya β
def Ayf:Aye:=KV ⟨look tab,gam [vM],Yi,Yi,Yi,Yi,[],Yf,100000,[]⟩ Tryz.f272 [P8,(Yi,[.fn 273 [0,1]])] cO [Aa] cO [.tmp 4]
def AiS:En:=⟨272,.spec (sg [P8,(Yi,[.fn 273 [0,1]])] cO [Aa] cO Ayf),(NR mixed (X:=⟨look tab,gam [vM],Yi,Yi,Yi,Yi,[],Yf,100000,[]⟩) Bu [vM] rfl [.tmp 4] Tryz.func272 (by kernel_rfl)).spec⟩
def AiT:En:=.inl mixed (X:=⟨look tab,gam [AiS],Yi,Yi,Yi,Yi,[],Yf,0,[]⟩) (rs:=[.tmp 6,.tmp 7]) Bu [AiS] rfl 2 Tryz.func244 (by kernel_rfl)
def AiU:En:=.inl mixed (X:=⟨look tab,gam [AiT],Yi,Yi,Yi,Yi,Ee,Yf,0,[]⟩) (rs:=[.tmp 4,.tmp 5]) Bu [AiT] rfl 2 Tryz.func211 (by kernel_rfl)
abbrev Ayg:={β:Type}->Yh->Yh->Yh->(Ys->Ya β)->Ya β
def Km:Ayg:=hid λn lo hi k=>Yk (Yd (lo<=n)) (k (Yd (n<=hi))) (k Yi)
def vN:En:=⟨213,.spec (sg [Aa,Aa,Aa] [] [AK] [] Km),pf [] [] [.tmp 6] Tryz.func213⟩
abbrev Ayh:={β:Type}->Yh->(Ys->Ya β)->Ya β
def PS:Ayh:=hid λb k=>Yk (Yd ((48:Yh)<=b)) (let t:=(Yd (b<=57));k t) (k Yi)
def AiV:En:=⟨217,.spec (sg [(Yi,[.data (.int .u8)])] [] [AK] [] PS),pf [] [] [.tmp 2] Tryz.func217⟩
abbrev Ayi:={β:Type}->Yh->Yh->Yh->(Ys->Ya β)->Ya β
def JA:Ayi:=hid λn lo hi k=>Yk (Yd (lo<=n)) (k (Yd (n<=hi))) (k Yi)
def AiW:En:=⟨218,.spec (sg [Aa,Aa,Aa] [] [AK] [] JA),pf [] [] [.tmp 6] Tryz.func218⟩
abbrev Ayj:={β:Type}->Cj->(Ys->Ya β)->Ya β
def dM:Ayj:=hid λr_ k=>JA r_.1 1970 2240 (λD2=>Yk D2 (JA r_.2.1 r_.1 2240 (λJS=>Yk JS (JA r_.2.2.1 1 12 (λLy=>Yk Ly (JA r_.2.2.2.1 1 5 (λZA=>Yk ZA (JA r_.2.2.2.2.1 0 6 (λZB=>Yk ZB (JA r_.2.2.2.2.2.1 0 86399 (λAer=>Yk Aer (JA r_.2.2.2.2.2.2 (-64800) 64800 (λAes=>k Aes)) (k Yi))) (k Yi))) (k Yi))) (k Yi))) (k Yi))) (k Yi))
def Ayk:En:=⟨219,.spec (sg [(Yp,[.data KW])] [] [AK] [] dM),pf [AiW] [] [.tmp 2] Tryz.func219⟩
def Ayl:Shelf.Ren:=
   {
   f:=λx=>
    match x with
    |171=>221
    |243=>253
    |246=>279
    |283=>287
    |284=>288
    |285=>289
    |286=>290
    |129=>300
    |317=>299
    |318=>301
    |319=>302
    |320=>303
    |337=>311
    |338=>312
    |n=>n,
   t:=λx=>
    match x with
    |3=>3
    |9=>9
    |2=>2
    |4=>4
    |171=>324
    |0=>0
    |53=>222
    |37=>145
    |5=>5
    |173=>327
    |212=>338
    |51=>276
    |20=>20
    |213=>339
    |46=>293
    |232=>354
    |233=>355
    |n=>n,
   g:=λx=>
    match x with
    |17=>5
    |18=>8
    |19=>9
    |n=>n}
theorem Aym:Go.Proofs.LaysM.n171 Tryz.prog Ayl:=
 {
  mixed:=by kernel_rfl,
  f129:=Eq.trans Tryz.func300 (Aw Yg (by kernel_rfl)),
  f171:=Eq.trans Tryz.func221 (Aw Yg (by kernel_rfl)),
  f243:=Eq.trans Tryz.func253 (Aw Yg (by kernel_rfl)),
  f246:=Eq.trans Tryz.func279 (Aw Yg (by kernel_rfl)),
  f283:=Eq.trans Tryz.func287 (Aw Yg (by kernel_rfl)),
  f284:=Eq.trans Tryz.func288 (Aw Yg (by kernel_rfl)),
  f285:=Eq.trans Tryz.func289 (Aw Yg (by kernel_rfl)),
  f286:=Eq.trans Tryz.func290 (Aw Yg (by kernel_rfl)),
  f317:=Eq.trans Tryz.func299 (Aw Yg (by kernel_rfl)),
  f318:=Eq.trans Tryz.func301 (Aw Yg (by kernel_rfl)),
  f319:=Eq.trans Tryz.func302 (Aw Yg (by kernel_rfl)),
  f320:=Eq.trans Tryz.func303 (Aw Yg (by kernel_rfl)),
  f337:=Eq.trans Tryz.func311 (Aw Yg (by kernel_rfl)),
  f338:=Eq.trans Tryz.func312 (Aw Yg (by kernel_rfl)),
  t0:=Tryz.underlying0,
  a0:=Tryz.isAgg0,
  z0:=Tryz.sizeOf0,
  v0:=Tryz.zeroValue0,
  t2:=Tryz.underlying2,
  a2:=Tryz.isAgg2,
  z2:=Tryz.sizeOf2,
  v2:=Tryz.zeroValue2,
  t3:=Tryz.underlying3,
  a3:=Tryz.isAgg3,
  z3:=Tryz.sizeOf3,
  v3:=Tryz.zeroValue3,
  t4:=Tryz.underlying4,
  a4:=Tryz.isAgg4,
  z4:=Tryz.sizeOf4,
  v4:=Tryz.zeroValue4,
  t5:=Tryz.underlying5,
  a5:=Tryz.isAgg5,
  z5:=Tryz.sizeOf5,
  v5:=Tryz.zeroValue5,
  t9:=Tryz.underlying9,
  a9:=Tryz.isAgg9,
  z9:=Tryz.sizeOf9,
  v9:=Tryz.zeroValue9,
  t20:=Tryz.underlying20,
  a20:=Tryz.isAgg20,
  z20:=Tryz.sizeOf20,
  v20:=Tryz.zeroValue20,
  t37:=Tryz.underlying145,
  a37:=Tryz.isAgg145,
  z37:=Tryz.sizeOf145,
  v37:=Tryz.zeroValue145,
  t46:=Tryz.underlying293,
  a46:=Tryz.isAgg293,
  z46:=Tryz.sizeOf293,
  v46:=Tryz.zeroValue293,
  t51:=Tryz.underlying276,
  a51:=Tryz.isAgg276,
  z51:=Tryz.sizeOf276,
  v51:=Tryz.zeroValue276,
  t53:=Tryz.underlying222,
  a53:=Tryz.isAgg222,
  z53:=Tryz.sizeOf222,
  v53:=Tryz.zeroValue222,
  t171:=Tryz.underlying324,
  a171:=Tryz.isAgg324,
  z171:=Tryz.sizeOf324,
  v171:=Tryz.zeroValue324,
  t173:=Tryz.underlying327,
  a173:=Tryz.isAgg327,
  z173:=Tryz.sizeOf327,
  v173:=Tryz.zeroValue327,
  t212:=Tryz.underlying338,
  a212:=Tryz.isAgg338,
  z212:=Tryz.sizeOf338,
  v212:=Tryz.zeroValue338,
  t213:=Tryz.underlying339,
  a213:=Tryz.isAgg339,
  z213:=Tryz.sizeOf339,
  t232:=Tryz.underlying354,
  a232:=Tryz.isAgg354,
  z232:=Tryz.sizeOf354,
  v232:=Tryz.zeroValue354,
  t233:=Tryz.underlying355,
  a233:=Tryz.isAgg355,
  z233:=Tryz.sizeOf355,
  v233:=Tryz.zeroValue355,
  g17:=by kernel_rfl,
  g18:=by kernel_rfl,
  g19:=by kernel_rfl,
  i0:=by kernel_rfl,
  i2:=by kernel_rfl,
  i3:=by kernel_rfl,
  i4:=by kernel_rfl,
  i5:=by kernel_rfl,
  i9:=by kernel_rfl,
  i20:=by kernel_rfl,
  i37:=by kernel_rfl,
  i46:=by kernel_rfl,
  i51:=by kernel_rfl,
  i53:=by kernel_rfl,
  i171:=by kernel_rfl,
  i173:=by kernel_rfl,
  i212:=by kernel_rfl,
  i232:=by kernel_rfl,
  i233:=by kernel_rfl,
  m17:=by kernel_rfl,
  m18:=by kernel_rfl,
  m19:=by kernel_rfl}
abbrev AiX:=tH
def Ayn(c:AiX):Spec:=AgW c
def Vm:AiX:=λx k=>UF x k
theorem Ayo:SpecOk Tryz.prog 221 (Ayn Vm):=
 Avt Aym rfl (g:=5) (by kernel_rfl) ⟨_,Tryz.func221,by kernel_rfl,by kernel_rfl⟩
def AiY:En:=.of Ayo
def Ayp:Shelf.Ren:=
   {
   f:=λx=>
    match x with
    |144=>233
    |143=>185
    |219=>230
    |217=>259
    |225=>260
    |224=>261
    |267=>262
    |266=>281
    |314=>282
    |n=>n,
   t:=λx=>
    match x with
    |9=>9
    |4=>4
    |3=>3
    |5=>5
    |46=>293
    |146=>317
    |51=>276
    |n=>n,
   g:=λx=>
    match x with
    |1=>2
    |n=>n}
theorem Ayq:Go.Proofs.Lays.n144 Tryz.prog Ayp:=
 {
  mixed:=by kernel_rfl,
  f143:=Eq.trans Tryz.func185 (Aw Yg (by kernel_rfl)),
  f144:=Eq.trans Tryz.func233 (Aw Yg (by kernel_rfl)),
  f217:=Eq.trans Tryz.func259 (Aw Yg (by kernel_rfl)),
  f219:=Eq.trans Tryz.func230 (Aw Yg (by kernel_rfl)),
  f224:=Eq.trans Tryz.func261 (Aw Yg (by kernel_rfl)),
  f225:=Eq.trans Tryz.func260 (Aw Yg (by kernel_rfl)),
  f266:=Eq.trans Tryz.func281 (Aw Yg (by kernel_rfl)),
  f267:=Eq.trans Tryz.func262 (Aw Yg (by kernel_rfl)),
  f314:=Eq.trans Tryz.func282 (Aw Yg (by kernel_rfl)),
  t3:=Tryz.underlying3,
  a3:=Tryz.isAgg3,
  z3:=Tryz.sizeOf3,
  v3:=Tryz.zeroValue3,
  t4:=Tryz.underlying4,
  a4:=Tryz.isAgg4,
  z4:=Tryz.sizeOf4,
  v4:=Tryz.zeroValue4,
  t5:=Tryz.underlying5,
  a5:=Tryz.isAgg5,
  z5:=Tryz.sizeOf5,
  v5:=Tryz.zeroValue5,
  t9:=Tryz.underlying9,
  a9:=Tryz.isAgg9,
  z9:=Tryz.sizeOf9,
  v9:=Tryz.zeroValue9,
  t46:=Tryz.underlying293,
  a46:=Tryz.isAgg293,
  z46:=Tryz.sizeOf293,
  v46:=Tryz.zeroValue293,
  t51:=Tryz.underlying276,
  a51:=Tryz.isAgg276,
  z51:=Tryz.sizeOf276,
  v51:=Tryz.zeroValue276,
  t146:=Tryz.underlying317,
  a146:=Tryz.isAgg317,
  z146:=Tryz.sizeOf317,
  v146:=Tryz.zeroValue317,
  g1:=by kernel_rfl}
abbrev AiZ:=tK
def Ayr(c:AiZ):Spec:=AgY c
def dN:AiZ:=λx y k=>tL x y k
theorem Ays:SpecOk Tryz.prog 233 (Ayr dN):=
 Avv Ayq rfl (Bd (by kernel_rfl)) (λw0 h0=>Go.Proofs.cell_of_shapedOpen_int (P:=Tryz.prog) (g:=2) (t:=3) (zero:=#[.int .i64 0]) h0 (Bd (by kernel_rfl)) (by kernel_rfl) rfl (by kernel_rfl) (by kernel_rfl) Tryz.underlying3) ⟨_,Tryz.func233,by kernel_rfl,by kernel_rfl⟩
def Ayt:En:=.of Ays
abbrev Ayu:={β:Type}->Am->Am->(Yh->Ys->Ya β)->Ya β
def dO:Ayu:=hid λwords word k=>vD words (λoI=>AiP oI word (λAt0=>let t:=(Yc.wrap (At0+1));let t2:=(Yd ((0:Yh)<=At0));k t t2))
def vO:En:=⟨238,.spec (sg [AI,AI] [] [Aa,AK] [] dO),pf [Vl,Aiu] [] [.tmp 4,.tmp 5] Tryz.func238⟩
abbrev Ayv:={β:Type}->AV->(Am->Ya β)->Ya β
def Ayw:Ayv:=KV ⟨look tab,gam ([]:Ye En),Yi,Yi,Yi,Yi,[],Yf,100000,[]⟩ Tryz.f243 [PD] [] [AI] [] [.tmp 2]
def Aj0:En:=⟨243,.spec (sg [PD] [] [AI] [] Ayw),(NR mixed (X:=⟨look tab,gam ([]:Ye En),Yi,Yi,Yi,Yi,[],Yf,100000,[]⟩) Bu ([]:Ye En) rfl [.tmp 2] Tryz.func243 (by kernel_rfl)).spec⟩
def vP:En:=.inl mixed (X:=⟨look tab,gam [Aj0],Yi,Yi,Yi,Yi,[],Yf,0,[]⟩) (rs:=[.tmp 4]) Bu [Aj0] rfl 1 Tryz.func271 (by kernel_rfl)
abbrev Ayx:={β:Type}->AZ->Am->(Yh->Am->Ya β)->Ya β
def Ayy:Ayx:=KV ⟨look tab,gam [vP],Yi,Yi,Yi,Yi,[],Yf,100000,[]⟩ Tryz.f270 [NW,(Yi,[.fn 271 [0,1]])] cN [Aa] cN [.tmp 4]
def Aj1:En:=⟨270,.spec (sg [NW,(Yi,[.fn 271 [0,1]])] cN [Aa] cN Ayy),(NR mixed (X:=⟨look tab,gam [vP],Yi,Yi,Yi,Yi,[],Yf,100000,[]⟩) Bu [vP] rfl [.tmp 4] Tryz.func270 (by kernel_rfl)).spec⟩
def Ayz:En:=.inl mixed (X:=⟨look tab,gam [Aj1],Yi,Yi,Yi,Yi,[],Yf,0,[]⟩) (rs:=[.tmp 6,.tmp 7]) Bu [Aj1] rfl 2 Tryz.func242 (by kernel_rfl)
abbrev AyA:={β:Type}->Cj->(Yh->Ya β)->Ya β
def Sb:AyA:=hid λr_ k=>Km r_.1 1970 2240 (λD2=>Yk (!D2) (k 1) (Km r_.2.1 r_.1 2240 (λJS=>Yk (!JS) (k 1) (Km r_.2.2.1 1 12 (λLy=>Yk (!Ly) (k 1) (Km r_.2.2.2.1 1 5 (λZA=>Yk (!ZA) (k 1) (Km r_.2.2.2.2.1 0 6 (λZB=>Yk (!ZB) (k 1) (Km r_.2.2.2.2.2.1 0 86399 (λAer=>Yk (!Aer) (k 1) (Km r_.2.2.2.2.2.2 (-64800) 64800 (λAes=>Yk (!Aes) (k 1) (k 0))))))))))))))
def AyB:En:=⟨246,.spec (sg [(Yp,[.data KW])] [] [Aa] [] Sb),pf [vN] [] [.tmp 2] Tryz.func246⟩
abbrev AyC:={β:Type}->Yh->Yh->(Yh->Ya β)->Ya β
def PT:AyC:=hid λa b k=>Yk (!Yd (b=0)) (let q:=(Yc.wrap (Yz a b));Yk (!Yd (b=0)) (Yk (Yd ((Yv a b)<0)) (let q2:=(Yc.wrap (q-1));k q2) (k q)) Yf) Yf
def Aj2:En:=⟨250,.spec (sg [Aa,Aa] [] [Aa] [] PT),pf [] [] [.tmp 4] Tryz.func250⟩
abbrev AyD:={β:Type}->Yh->(Ys->Ya β)->Ya β
def dP:AyD:=hid λEp k=>Yk (Yd ((Yv Ep 4)=0)) (Yk (!Yd ((Yv Ep 100)=0)) (k Yp) (let t:=(Yd ((Yv Ep 400)=0));k t)) (k Yi)
def AyE:En:=⟨251,.spec (sg [Aa] [] [AK] [] dP),pf [] [] [.tmp 2] Tryz.func251⟩
abbrev AyF:={β:Type}->Yh->(Ys->Ya β)->Ya β
def Vn:AyF:=hid λEp k=>Yk (Yd ((Yv Ep 4)=0)) (Yk (!Yd ((Yv Ep 100)=0)) (k Yp) (let t:=(Yd ((Yv Ep 400)=0));k t)) (k Yi)
def AyG:En:=⟨256,.spec (sg [Aa] [] [AK] [] Vn),pf [] [] [.tmp 2] Tryz.func256⟩
def AyH:Shelf.Ren:=
   {
   f:=λx=>
    match x with
    |172=>267
    |244=>283
    |245=>284
    |247=>293
    |279=>294
    |280=>295
    |281=>296
    |282=>297
    |287=>307
    |316=>308
    |171=>221
    |205=>309
    |321=>313
    |322=>314
    |243=>253
    |246=>279
    |283=>287
    |284=>288
    |285=>289
    |286=>290
    |129=>300
    |317=>299
    |318=>301
    |319=>302
    |320=>303
    |337=>311
    |338=>312
    |n=>n,
   t:=λx=>
    match x with
    |9=>9
    |3=>3
    |75=>150
    |76=>151
    |4=>4
    |5=>5
    |167=>331
    |37=>145
    |0=>0
    |85=>332
    |2=>2
    |168=>334
    |53=>222
    |175=>344
    |46=>293
    |210=>347
    |127=>186
    |145=>353
    |143=>351
    |21=>21
    |171=>324
    |173=>327
    |212=>338
    |51=>276
    |20=>20
    |213=>339
    |232=>354
    |233=>355
    |80=>153
    |n=>n,
   g:=λx=>
    match x with
    |15=>6
    |16=>7
    |17=>5
    |18=>8
    |19=>9
    |n=>n}
theorem AyI:Go.Proofs.LaysC.n172 Tryz.prog AyH:=
 {
  mixed:=by kernel_rfl,
  f129:=Eq.trans Tryz.func300 (Aw Yg (by kernel_rfl)),
  f171:=Eq.trans Tryz.func221 (Aw Yg (by kernel_rfl)),
  f172:=Eq.trans Tryz.func267 (Aw Yg (by kernel_rfl)),
  f205:=Eq.trans Tryz.func309 (Aw Yg (by kernel_rfl)),
  f243:=Eq.trans Tryz.func253 (Aw Yg (by kernel_rfl)),
  f244:=Eq.trans Tryz.func283 (Aw Yg (by kernel_rfl)),
  f245:=Eq.trans Tryz.func284 (Aw Yg (by kernel_rfl)),
  f246:=Eq.trans Tryz.func279 (Aw Yg (by kernel_rfl)),
  f247:=Eq.trans Tryz.func293 (Aw Yg (by kernel_rfl)),
  f279:=Eq.trans Tryz.func294 (Aw Yg (by kernel_rfl)),
  f280:=Eq.trans Tryz.func295 (Aw Yg (by kernel_rfl)),
  f281:=Eq.trans Tryz.func296 (Aw Yg (by kernel_rfl)),
  f282:=Eq.trans Tryz.func297 (Aw Yg (by kernel_rfl)),
  f283:=Eq.trans Tryz.func287 (Aw Yg (by kernel_rfl)),
  f284:=Eq.trans Tryz.func288 (Aw Yg (by kernel_rfl)),
  f285:=Eq.trans Tryz.func289 (Aw Yg (by kernel_rfl)),
  f286:=Eq.trans Tryz.func290 (Aw Yg (by kernel_rfl)),
  f287:=Eq.trans Tryz.func307 (Aw Yg (by kernel_rfl)),
  f316:=Eq.trans Tryz.func308 (Aw Yg (by kernel_rfl)),
  f317:=Eq.trans Tryz.func299 (Aw Yg (by kernel_rfl)),
  f318:=Eq.trans Tryz.func301 (Aw Yg (by kernel_rfl)),
  f319:=Eq.trans Tryz.func302 (Aw Yg (by kernel_rfl)),
  f320:=Eq.trans Tryz.func303 (Aw Yg (by kernel_rfl)),
  f321:=Eq.trans Tryz.func313 (Aw Yg (by kernel_rfl)),
  f322:=Eq.trans Tryz.func314 (Aw Yg (by kernel_rfl)),
  f337:=Eq.trans Tryz.func311 (Aw Yg (by kernel_rfl)),
  f338:=Eq.trans Tryz.func312 (Aw Yg (by kernel_rfl)),
  t0:=Tryz.underlying0,
  a0:=Tryz.isAgg0,
  z0:=Tryz.sizeOf0,
  v0:=Tryz.zeroValue0,
  t2:=Tryz.underlying2,
  a2:=Tryz.isAgg2,
  z2:=Tryz.sizeOf2,
  v2:=Tryz.zeroValue2,
  t3:=Tryz.underlying3,
  a3:=Tryz.isAgg3,
  z3:=Tryz.sizeOf3,
  v3:=Tryz.zeroValue3,
  t4:=Tryz.underlying4,
  a4:=Tryz.isAgg4,
  z4:=Tryz.sizeOf4,
  v4:=Tryz.zeroValue4,
  t5:=Tryz.underlying5,
  a5:=Tryz.isAgg5,
  z5:=Tryz.sizeOf5,
  v5:=Tryz.zeroValue5,
  t9:=Tryz.underlying9,
  a9:=Tryz.isAgg9,
  z9:=Tryz.sizeOf9,
  v9:=Tryz.zeroValue9,
  t20:=Tryz.underlying20,
  a20:=Tryz.isAgg20,
  z20:=Tryz.sizeOf20,
  v20:=Tryz.zeroValue20,
  t21:=Tryz.underlying21,
  a21:=Tryz.isAgg21,
  z21:=Tryz.sizeOf21,
  v21:=Tryz.zeroValue21,
  t37:=Tryz.underlying145,
  a37:=Tryz.isAgg145,
  z37:=Tryz.sizeOf145,
  v37:=Tryz.zeroValue145,
  t46:=Tryz.underlying293,
  a46:=Tryz.isAgg293,
  z46:=Tryz.sizeOf293,
  v46:=Tryz.zeroValue293,
  t51:=Tryz.underlying276,
  a51:=Tryz.isAgg276,
  z51:=Tryz.sizeOf276,
  v51:=Tryz.zeroValue276,
  t53:=Tryz.underlying222,
  a53:=Tryz.isAgg222,
  z53:=Tryz.sizeOf222,
  v53:=Tryz.zeroValue222,
  t75:=Tryz.underlying150,
  a75:=Tryz.isAgg150,
  z75:=Tryz.sizeOf150,
  v75:=Tryz.zeroValue150,
  t76:=Tryz.underlying151,
  a76:=Tryz.isAgg151,
  z76:=Tryz.sizeOf151,
  v76:=Tryz.zeroValue151,
  t85:=Tryz.underlying332,
  a85:=Tryz.isAgg332,
  z85:=Tryz.sizeOf332,
  v85:=Tryz.zeroValue332,
  t127:=Tryz.underlying186,
  a127:=Tryz.isAgg186,
  z127:=Tryz.sizeOf186,
  v127:=Tryz.zeroValue186,
  t143:=Tryz.underlying351,
  a143:=Tryz.isAgg351,
  z143:=Tryz.sizeOf351,
  v143:=Tryz.zeroValue351,
  t145:=Tryz.underlying353,
  a145:=Tryz.isAgg353,
  z145:=Tryz.sizeOf353,
  v145:=Tryz.zeroValue353,
  t167:=Tryz.underlying331,
  a167:=Tryz.isAgg331,
  z167:=Tryz.sizeOf331,
  v167:=Tryz.zeroValue331,
  t168:=Tryz.underlying334,
  a168:=Tryz.isAgg334,
  z168:=Tryz.sizeOf334,
  v168:=Tryz.zeroValue334,
  t171:=Tryz.underlying324,
  a171:=Tryz.isAgg324,
  z171:=Tryz.sizeOf324,
  v171:=Tryz.zeroValue324,
  t173:=Tryz.underlying327,
  a173:=Tryz.isAgg327,
  z173:=Tryz.sizeOf327,
  v173:=Tryz.zeroValue327,
  t175:=Tryz.underlying344,
  a175:=Tryz.isAgg344,
  z175:=Tryz.sizeOf344,
  v175:=Tryz.zeroValue344,
  t210:=Tryz.underlying347,
  a210:=Tryz.isAgg347,
  z210:=Tryz.sizeOf347,
  v210:=Tryz.zeroValue347,
  t212:=Tryz.underlying338,
  a212:=Tryz.isAgg338,
  z212:=Tryz.sizeOf338,
  v212:=Tryz.zeroValue338,
  t213:=Tryz.underlying339,
  a213:=Tryz.isAgg339,
  z213:=Tryz.sizeOf339,
  t232:=Tryz.underlying354,
  a232:=Tryz.isAgg354,
  z232:=Tryz.sizeOf354,
  v232:=Tryz.zeroValue354,
  t233:=Tryz.underlying355,
  a233:=Tryz.isAgg355,
  z233:=Tryz.sizeOf355,
  v233:=Tryz.zeroValue355,
  g15:=by kernel_rfl,
  g16:=by kernel_rfl,
  g17:=by kernel_rfl,
  g18:=by kernel_rfl,
  g19:=by kernel_rfl,
  t80:=Tryz.underlying153,
  a80:=Tryz.isAgg153,
  z80:=Tryz.sizeOf153,
  v80:=Tryz.zeroValue153,
  i0:=by kernel_rfl,
  i2:=by kernel_rfl,
  i3:=by kernel_rfl,
  i4:=by kernel_rfl,
  i5:=by kernel_rfl,
  i9:=by kernel_rfl,
  i20:=by kernel_rfl,
  i21:=by kernel_rfl,
  i37:=by kernel_rfl,
  i46:=by kernel_rfl,
  i51:=by kernel_rfl,
  i53:=by kernel_rfl,
  i75:=by kernel_rfl,
  i76:=by kernel_rfl,
  i80:=by kernel_rfl,
  i85:=by kernel_rfl,
  i127:=by kernel_rfl,
  i143:=by kernel_rfl,
  i145:=by kernel_rfl,
  i167:=by kernel_rfl,
  i168:=by kernel_rfl,
  i171:=by kernel_rfl,
  i173:=by kernel_rfl,
  i175:=by kernel_rfl,
  i210:=by kernel_rfl,
  i212:=by kernel_rfl,
  i232:=by kernel_rfl,
  i233:=by kernel_rfl,
  m15:=by kernel_rfl,
  m16:=by kernel_rfl,
  m17:=by kernel_rfl,
  m18:=by kernel_rfl,
  m19:=by kernel_rfl,
  c0:=by kernel_rfl,
  c2:=by kernel_rfl,
  c3:=by kernel_rfl,
  c4:=by kernel_rfl,
  c5:=by kernel_rfl,
  c9:=by kernel_rfl,
  c20:=by kernel_rfl,
  c21:=by kernel_rfl,
  c37:=by kernel_rfl,
  c46:=by kernel_rfl,
  c51:=by kernel_rfl,
  c53:=by kernel_rfl,
  c75:=by kernel_rfl,
  c76:=by kernel_rfl,
  c80:=by kernel_rfl,
  c85:=by kernel_rfl,
  c127:=by kernel_rfl,
  c143:=by kernel_rfl,
  c145:=by kernel_rfl,
  c167:=by kernel_rfl,
  c168:=by kernel_rfl,
  c171:=by kernel_rfl,
  c173:=by kernel_rfl,
  c175:=by kernel_rfl,
  c210:=by kernel_rfl,
  c212:=by kernel_rfl,
  c213:=by kernel_rfl,
  c232:=by kernel_rfl,
  c233:=by kernel_rfl}
abbrev Aj3:=tI
def AyJ(c:Aj3):Spec:=AgX c
def Aj4:Aj3:=λx k=>tJ x k
theorem AyK:SpecOk Tryz.prog 267 (AyJ Aj4):=
 Avu AyI rfl (by kernel_rfl) (by kernel_rfl) ⟨_,Tryz.func267,by kernel_rfl,by kernel_rfl⟩
def AyL:En:=.of AyK
abbrev AyM:={β:Type}->Yh->(Yh->Ya β)->Ya β
def vQ:AyM:=hid λday k=>let t:=(Yv (Yc.wrap ((Yv day 7)+10)) 7);k t
def AyN:En:=⟨276,.spec (sg [Aa] [] [Aa] [] vQ),pf [] [] [.tmp 2] Tryz.func276⟩
abbrev AyO:={β:Type}->Yh->(Yh->Ya β)->Ya β
def dQ:AyO:=hid λday k=>let t:=(Yv (Yc.wrap ((Yv day 7)+10)) 7);k t
def AyP:En:=⟨278,.spec (sg [Aa] [] [Aa] [] dQ),pf [] [] [.tmp 2] Tryz.func278⟩
def AyQ:Shelf.Ren:=
   {
   f:=λx=>
    match x with
    |105=>280
    |212=>291
    |99=>292
    |165=>174
    |166=>91
    |170=>92
    |169=>93
    |263=>304
    |264=>305
    |206=>306
    |240=>135
    |241=>224
    |276=>175
    |277=>255
    |n=>n,
   t:=λx=>
    match x with
    |9=>9
    |3=>3
    |4=>4
    |20=>20
    |0=>0
    |46=>293
    |109=>329
    |5=>5
    |72=>147
    |76=>151
    |51=>276
    |146=>317
    |53=>222
    |148=>342
    |70=>144
    |37=>145
    |75=>150
    |127=>186
    |164=>219
    |80=>153
    |n=>n,
   g:=λx=>x}
theorem AyR:Go.Proofs.Lays.n105 Tryz.prog AyQ:=
 {
  mixed:=by kernel_rfl,
  f99:=Eq.trans Tryz.func292 (Aw Yg (by kernel_rfl)),
  f105:=Eq.trans Tryz.func280 (Aw Yg (by kernel_rfl)),
  f165:=Eq.trans Tryz.func174 (Aw Yg (by kernel_rfl)),
  f166:=Eq.trans Tryz.func91 (Aw Yg (by kernel_rfl)),
  f169:=Eq.trans Tryz.func93 (Aw Yg (by kernel_rfl)),
  f170:=Eq.trans Tryz.func92 (Aw Yg (by kernel_rfl)),
  f206:=Eq.trans Tryz.func306 (Aw Yg (by kernel_rfl)),
  f212:=Eq.trans Tryz.func291 (Aw Yg (by kernel_rfl)),
  f240:=Eq.trans Tryz.func135 (Aw Yg (by kernel_rfl)),
  f241:=Eq.trans Tryz.func224 (Aw Yg (by kernel_rfl)),
  f263:=Eq.trans Tryz.func304 (Aw Yg (by kernel_rfl)),
  f264:=Eq.trans Tryz.func305 (Aw Yg (by kernel_rfl)),
  f276:=Eq.trans Tryz.func175 (Aw Yg (by kernel_rfl)),
  f277:=Eq.trans Tryz.func255 (Aw Yg (by kernel_rfl)),
  t0:=Tryz.underlying0,
  a0:=Tryz.isAgg0,
  z0:=Tryz.sizeOf0,
  v0:=Tryz.zeroValue0,
  t3:=Tryz.underlying3,
  a3:=Tryz.isAgg3,
  z3:=Tryz.sizeOf3,
  v3:=Tryz.zeroValue3,
  t4:=Tryz.underlying4,
  a4:=Tryz.isAgg4,
  z4:=Tryz.sizeOf4,
  v4:=Tryz.zeroValue4,
  t5:=Tryz.underlying5,
  a5:=Tryz.isAgg5,
  z5:=Tryz.sizeOf5,
  v5:=Tryz.zeroValue5,
  t9:=Tryz.underlying9,
  a9:=Tryz.isAgg9,
  z9:=Tryz.sizeOf9,
  v9:=Tryz.zeroValue9,
  t20:=Tryz.underlying20,
  a20:=Tryz.isAgg20,
  z20:=Tryz.sizeOf20,
  v20:=Tryz.zeroValue20,
  t37:=Tryz.underlying145,
  a37:=Tryz.isAgg145,
  z37:=Tryz.sizeOf145,
  v37:=Tryz.zeroValue145,
  t46:=Tryz.underlying293,
  a46:=Tryz.isAgg293,
  z46:=Tryz.sizeOf293,
  v46:=Tryz.zeroValue293,
  t51:=Tryz.underlying276,
  a51:=Tryz.isAgg276,
  z51:=Tryz.sizeOf276,
  v51:=Tryz.zeroValue276,
  t53:=Tryz.underlying222,
  a53:=Tryz.isAgg222,
  z53:=Tryz.sizeOf222,
  v53:=Tryz.zeroValue222,
  t70:=Tryz.underlying144,
  a70:=Tryz.isAgg144,
  z70:=Tryz.sizeOf144,
  v70:=Tryz.zeroValue144,
  t72:=Tryz.underlying147,
  a72:=Tryz.isAgg147,
  z72:=Tryz.sizeOf147,
  v72:=Tryz.zeroValue147,
  t75:=Tryz.underlying150,
  a75:=Tryz.isAgg150,
  z75:=Tryz.sizeOf150,
  v75:=Tryz.zeroValue150,
  t76:=Tryz.underlying151,
  a76:=Tryz.isAgg151,
  z76:=Tryz.sizeOf151,
  v76:=Tryz.zeroValue151,
  t109:=Tryz.underlying329,
  a109:=Tryz.isAgg329,
  z109:=Tryz.sizeOf329,
  v109:=Tryz.zeroValue329,
  t127:=Tryz.underlying186,
  a127:=Tryz.isAgg186,
  z127:=Tryz.sizeOf186,
  v127:=Tryz.zeroValue186,
  t146:=Tryz.underlying317,
  a146:=Tryz.isAgg317,
  z146:=Tryz.sizeOf317,
  v146:=Tryz.zeroValue317,
  t148:=Tryz.underlying342,
  a148:=Tryz.isAgg342,
  z148:=Tryz.sizeOf342,
  v148:=Tryz.zeroValue342,
  t164:=Tryz.underlying219,
  a164:=Tryz.isAgg219,
  z164:=Tryz.sizeOf219,
  v164:=Tryz.zeroValue219}
abbrev Aj5:=tO
def AyS(c:Aj5):Spec:=Ah2 c
def vR:Aj5:=λx y k=>cK x y k
theorem AyT:SpecOk Tryz.prog 280 (AyS vR):=
 Avx AyR {sizeBuilder:=by kernel_rfl,liesBuilder:=by kernel_rfl,t5:=Tryz.underlying5,a5:=Tryz.isAgg5,z5:=Tryz.sizeOf5,v5:=Tryz.zeroValue5,infoByte:=by kernel_rfl,cellsByte:=by kernel_rfl,sizeByte:=by kernel_rfl,neB5:=by decide} rfl ⟨_,Tryz.func280,by kernel_rfl,by kernel_rfl⟩
def AyU:En:=.of AyT
abbrev AyV:={β:Type}->BX->(Bc->AZ->Bb->BX->Be->Ya β)->Ya β
def Sc:Ye En:=[cX,LT,PK,AhP,Awn,AhE]
abbrev vT(β:Type):=BX->Bc->AZ->Bb->Be->Bc->AZ->Bb->Be->Ya β
abbrev vU(β:Type):=Yh->BX->Bc->AZ->Bb->Be->Bc->AZ->Bb->Be->Ya β
def Aj6:Pc:=⟨109,1,Ay 58 (Au Tryz.f17),⟨1,[0,2,3,4],[An,BY,C9,Aa],PG⟩,[(.exit 0,⟨1,[0,2,3],[An,BY,C9],PG⟩)]⟩
abbrev vV(β:Type):=BX->Bc->AZ->Bb->Be->Bc->AZ->Bb->Be->Ya β
abbrev vW(β:Type):=Yh->BX->Bc->AZ->Bb->Be->Bc->AZ->Bb->Be->Ya β
def vX:Pc:=⟨109,1,Ay 122 (Au Tryz.f17),⟨1,[0,2,3,5],[An,BY,C9,Aa],PG⟩,[(.exit 2,⟨1,[0,2,3],[An,BY,C9],PG⟩)]⟩
abbrev vY(β:Type):=BX->Bc->AZ->Bb->Be->Bc->AZ->Bb->Be->Ya β
abbrev vZ(β:Type):=Yh->BX->Bc->AZ->Bb->Be->Bc->AZ->Bb->Be->Ya β
def wA:Pc:=⟨109,1,Ay 250 (Au Tryz.f17),⟨1,[0,2,3,7],[An,BY,C9,Aa],PG⟩,[(.exit 4,⟨1,[2,3],[BY,C9],PG⟩)]⟩
abbrev AyW(β:Type):=Yh->BX->Bc->AZ->Bb->Be->Bc->AZ->Bb->Be->Ya β
abbrev AyX(β:Type):=Yh->BX->Am->Yh->Yh->Yh->Ys->Bc->AZ->Bb->Be->Bc->AZ->Bb->Be->Ch->Ya β
def Aj7:Pc:=⟨109,1,Ay 51 (Eb vX.c),⟨1,[0,2,3,5,6],[An,BY,C9,Aa,Kk],[CJ,tU,Ahj,.cells 72 [.data .str,.data (.int .i64),.rowh 12,.data (.int .i64),.data (.int .i64),.data .bool],.row 70 ED,.row 72 EE,.row 76 EC,.row 56 GF,.row 70 ED,.row 72 EE,.row 76 EC,.row 56 GF,.row 74 (.prod (.int .i64) (.int .i64))]⟩,[(.normal,⟨1,[0,2,3,5],[An,BY,C9,Aa],PG⟩)]⟩
abbrev wB(β:Type):=Yh->BX->Am->Yh->Bc->AZ->Bb->Be->Bc->AZ->Bb->Be->Et->Ya β
abbrev wC(β:Type):=Yh->Yh->Yh->BX->Am->Yh->Bc->AZ->Bb->Be->Bc->AZ->Bb->Be->Et->Ya β
def Aj8:Pc:=⟨109,1,Ay 202 (Eb wA.c),⟨1,[0,2,3,7,8,9,10],[An,BY,C9,Aa,Kk,Aa,Aa],Ahl⟩,[(.exit 6,⟨1,[0,2,3,7,8],[An,BY,C9,Aa,Kk],Ahl⟩)]⟩
def dR{β:Type}(rec:vU β)(k1:vT β):vU β:=λi_ d BD BQ BV Bf Cy DE D8 E2=>Yk (Yd ((0:Yh)<i_)) (let l:=([([104,101,114,101]:Ye Yj),([116,104,101,114,101]:Ye Yj)]:Ye Am);Yk (Yd (0<=(Yb Cy:Yh))&&Yd ((Yb Cy:Yh)<(Yb l:Yh))) (cW (Ym l (Yl (Yb Cy:Yh)) ([]:Ye Yj)) d (λoX AMX=>let l2:=([oX]:Ye AF);Yk (Yd ((Yb Cy+Yb l2)*48<=AR)) (let l3:=(Cy++l2);let AT:=(Yc.wrap (i_-1));rec AT AMX BD BQ BV Bf l3 DE D8 E2) Yf)) Yf) (k1 d BD BQ BV Bf Cy DE D8 E2)
def Vo(m:Yn){β:Type}(k1:vT β):vU β:=PI (λr=>dR r k1) Yf m
theorem Aj9{β:Type}(i:Yn)(k1):Vo (β:=β) (i+1) k1=dR (Vo i k1) k1:=rfl
def wD{β:Type}:=hid (Vo (β:=β) fuel)
def AyY:Pb:=⟨58,Aj6,λ_=>wD,pl (p:=Aj6) Sc [] (g:=λi _=>Vo i)⟩
def wE{β:Type}(k1:AyW β):AyX β:=λi_ d p_ ANj AOZ AP0 ANk BQ BV Bf Cy DE D8 E2 Ta Qy=>let l:=([0,40,100,12]:Ye Yh);Ef l d (λCu CL=>let l2:=([0,11,24,1]:Ye Yh);Ef l2 CL (λJR IJ=>let l3:=([(p_,(ANj,(Qy,((Yc.wrap (3600*Cu)),((Yc.wrap (3600*JR)),ANk)))))]:Ye AV);Yk (Yd ((Yb D8+Yb l3)*72<=AR)) (let l4:=(D8++l3);k1 i_ IJ BQ BV Bf Cy DE l4 E2 Ta) Yf))
def Vp{β:Type}:=hid (wE (β:=β))
def AyZ:Pb:=⟨51,Aj7,λ_=>Vp,pe (p:=Aj7) Sc [] 51 (g:=λ_=>wE)⟩
def dS{β:Type}(rec:vW β)(k1:vV β):vW β:=λi_ d BD BQ BV Bf Cy DE D8 E2=>Yk (Yd ((0:Yh)<i_)) (US (λT3=>Yk (Yd (0<=(Yb DE:Yh))&&Yd ((Yb DE:Yh)<(Yb T3:Yh))) (Ca (Yb Cy:Yh) d (λBJ C2=>MP 3 C2 (λMu JQ=>MP 2 JQ (λANo As6=>Yk ANo (UV As6 (λAef Aec=>Vp (λAT d2 GL HZ Hk Hl JF KA Lg K9=>let Fc:=(Yc.wrap (AT-(1:Yh)));rec Fc d2 GL HZ Hk Hl JF KA Lg K9) i_ Aef (Ym T3 (Yl (Yb DE:Yh)) ([]:Ye Yj)) BJ 0 0 Mu BD BQ BV Bf Cy DE D8 E2 Aec)) (Vp (λAT d2 GL HZ Hk Hl JF KA Lg K9=>let Fc:=(Yc.wrap (AT-(1:Yh)));rec Fc d2 GL HZ Hk Hl JF KA Lg K9) i_ As6 (Ym T3 (Yl (Yb DE:Yh)) ([]:Ye Yj)) BJ 0 0 Mu BD BQ BV Bf Cy DE D8 E2 ([]:Ye BG)))))) Yf)) (k1 d BD BQ BV Bf Cy DE D8 E2)
def Sd(m:Yn){β:Type}(k1:vV β):vW β:=PI (λr=>dS r k1) Yf m
theorem Aja{β:Type}(i:Yn)(k1):Sd (β:=β) (i+1) k1=dS (Sd i k1) k1:=rfl
def wF{β:Type}:=hid (Sd (β:=β) fuel)
def Az0:Pb:=⟨122,vX,λ_=>wF,pl (p:=vX) Sc [AyZ] (g:=λi _=>Sd i)⟩
def dT{β:Type}(rec:wC β)(k1:wB β):wC β:=λi_ k_ day d x x2 BQ BV Bf Cy DE D8 E2 Ta Qy=>Yk (Yd ((0:Yh)<k_)) (Ca 6 d (λBJ C2=>let day2:=(Yc.wrap (day+(Yc.wrap (1+BJ))));let l:=([day2]:Ye Yh);Yk (Yd ((Yb Qy+Yb l)*8<=AR)) (let l2:=(Qy++l);let F5:=(Yc.wrap (k_-1));rec i_ F5 day2 C2 x x2 BQ BV Bf Cy DE D8 E2 Ta l2) Yf)) (k1 i_ d x x2 BQ BV Bf Cy DE D8 E2 Ta Qy)
def Vq(m:Yn){β:Type}(k1:wB β):wC β:=Ahu (λr=>dT r k1) Yf m
theorem Ajb{β:Type}(i:Yn)(k1):Vq (β:=β) (i+1) k1=dT (Vq i k1) k1:=rfl
def wG{β:Type}:=hid (Vq (β:=β) fuel)
def Az1:Pb:=⟨202,Aj8,λ_=>wG,pl (p:=Aj8) Sc [] (g:=λi _=>Vq i)⟩
def dU{β:Type}(rec:vZ β)(k1:vY β):vZ β:=λi_ d BD BQ BV Bf Cy DE D8 E2=>Yk (Yd ((0:Yh)<i_)) (Ca (Yb Cy:Yh) d (λBJ C2=>Ca 4 C2 (λBt Df=>wG (λAT d2 x x2 HZ Hk Hl JF KA Lg K9 Ta Qy=>let l:=([(x,(x2,Qy))]:Ye Bm);Yk (Yd ((Yb K9+Yb l)*48<=AR)) (let l2:=(K9++l);let Fc:=(Yc.wrap (AT-(1:Yh)));rec Fc d2 HZ Hk Hl JF KA Lg l2 Ta) Yf) i_ Bt 20454 Df ([100,97,121,115]:Ye Yj) BJ BD BQ BV Bf Cy DE D8 E2 ([]:Ye Yh)))) (k1 d BD BQ BV Bf Cy DE D8 E2)
def Vr(m:Yn){β:Type}(k1:vY β):vZ β:=PI (λr=>dU r k1) Yf m
theorem Ajc{β:Type}(i:Yn)(k1):Vr (β:=β) (i+1) k1=dU (Vr i k1) k1:=rfl
def wH{β:Type}:=hid (Vr (β:=β) fuel)
def Az2:Pb:=⟨250,wA,λ_=>wH,pl (p:=wA) Sc [Az1] (g:=λi _=>Vr i)⟩
def dV:AyV:=hid λd k=>Ca 2 d (λBJ C2=>let i_:=(Yc.wrap (1+BJ));wD (λd2 BD BQ BV Bf Cy DE D8 E2=>Ca 4 d2 (λBt Df=>let AT:=(Yc.wrap (1+Bt));wF (λd3 GL HZ Hk Hl JF KA Lg K9=>Ca 2 d3 (λGd GW=>wH (λAD AOh AqQ AqR AqS Ad8 AKD AKE AKA=>k Ad8 AKD AKE AD AKA) Gd GW GL HZ Hk Hl JF KA Lg K9)) AT Df BD BQ BV Bf Cy DE D8 E2)) i_ C2 ([]:Ye AF) ([]:Ye AV) ([]:Ye Bm) ([]:Ye BC) ([]:Ye AF) ([]:Ye AV) ([]:Ye Bm) ([]:Ye BC))
def Az3:En:=⟨17,.spec (sg [An] [CJ] [(Yp,[.data (.slice ED),.data (.slice EE),.data (.slice EC),.rowh 1])] [CJ,.row 56 GF] dV),pf Sc [AyY,Az0,Az2] [.cell 2 28] Tryz.func17⟩
abbrev Az4:={β:Type}->Bc->AZ->Bb->Am->BX->(Bz->BX->Ya β)->Ya β
def Vs:Ye En:=[cX,LT,PK,AhP]
abbrev Az5(β:Type):=BX->Am->Yh->Yh->Yh->Yh->Yh->Yh->Yh->Am->Yh->Yh->Yh->Yh->Yh->Yh->Yh->Et->Ch->Et->Ch->Ya β
abbrev Az6(β:Type):=Ys->BX->Bc->AZ->Bb->Am->Yh->Yh->Yh->Yh->Yh->Yh->Yh->Am->Yh->Yh->Yh->Yh->Yh->Yh->Yh->Et->Ch->Et->Ch->Ya β
def Ajd:Pc:=⟨77,1,Ay 253 (Au Tryz.f19),⟨1,[0,4,6,7,65],[An,BY,C9,Kk,AK],UK⟩,[(.normal,⟨1,[6,7],[BY,C9],[CJ,.cells 61 [.data .str,.data (.int .i64),.data (.int .i64),.data (.int .i64),.data (.int .i64),.data (.int .i64),.rowh 3,.rowh 4,.data (.int .i64),.data (.int .i64)],.cells 61 [.data .str,.data (.int .i64),.data (.int .i64),.data (.int .i64),.data (.int .i64),.data (.int .i64),.rowh 5,.rowh 6,.data (.int .i64),.data (.int .i64)],.row 3 (.int .i64),.row 74 (.prod (.int .i64) (.int .i64)),.row 3 (.int .i64),.row 74 (.prod (.int .i64) (.int .i64))]⟩)]⟩
abbrev Aje(β:Type):=BX->Am->Yh->Yh->Yh->Yh->Yh->Yh->Yh->Et->Ch->Ya β
abbrev Az7(β:Type):=BX->Bc->AZ->Bb->Am->Yh->Yh->Yh->Yh->Yh->Yh->Yh->Am->Yh->Yh->Yh->Yh->Yh->Yh->Yh->Et->Ch->Et->Ch->Ya β
def Ajf:Pc:=⟨77,1,Ay 63 (Au Tryz.f19),⟨1,[0,4,6,7],[An,BY,C9,Kk],UK⟩,[(.ret,⟨1,[6],[BY],[CJ,Ahh,.row 3 (.int .i64),.row 74 (.prod (.int .i64) (.int .i64))]⟩)]⟩
abbrev wI(β:Type):=BX->Bc->AZ->Bb->Am->Yh->Yh->Yh->Yh->Yh->Yh->Yh->Am->Yh->Yh->Yh->Yh->Yh->Yh->Yh->Et->Ch->Et->Ch->Ya β
abbrev wJ(β:Type):=Yh->BX->Bc->AZ->Bb->Am->Yh->Yh->Yh->Yh->Yh->Yh->Yh->Am->Yh->Yh->Yh->Yh->Yh->Yh->Yh->Et->Ch->Et->Ch->Ya β
def Ajg:Pc:=⟨77,1,Ay 122 (Au Tryz.f19),⟨1,[0,4,6,7,8],[An,BY,C9,Kk,Aa],UK⟩,[(.exit 0,⟨1,[0,4,6,7],[An,BY,C9,Kk],UK⟩)]⟩
abbrev Ajh(β:Type):=BX->Am->Yh->Yh->Yh->Yh->Yh->Yh->Yh->Et->Ch->Ya β
abbrev Az8(β:Type):=BX->Bc->AZ->Bb->Am->Yh->Yh->Yh->Yh->Yh->Yh->Yh->Am->Yh->Yh->Yh->Yh->Yh->Yh->Yh->Et->Ch->Et->Ch->Ya β
def Aji:Pc:=⟨77,1,Ay 15 (Au Tryz.f19),⟨1,[0,4,6,7],[An,BY,C9,Kk],UK⟩,[(.ret,⟨1,[6],[BY],[CJ,Ahh,.row 3 (.int .i64),.row 74 (.prod (.int .i64) (.int .i64))]⟩)]⟩
def wK{β:Type}(k1:Az5 β):Az6 β:=λGf d c c2 c3 t6 DL Gu FR Gv Gw Gx N6 l l2 l3 l4 l5 l6 l7 l8 BQ BV Bf Cy=>Yk Gf (Ca (Yb c3:Yh) d (λBJ C2=>Ca 2 C2 (λBt Df=>k1 Df t6 DL Gu FR Gv Gw Gx N6 l l2 l3 l4 l5 l6 BJ (Yc.wrap (1+Bt)) BQ BV Bf Cy))) (k1 d t6 DL Gu FR Gv Gw Gx N6 l l2 l3 l4 l5 l6 l7 l8 BQ BV Bf Cy)
def dW{β:Type}:=hid (wK (β:=β))
def Az9:Pb:=⟨253,Ajd,λ_=>dW,pe (p:=Ajd) Vs [] 253 (g:=λ_=>wK)⟩
def wL{β:Type}(k1:Aje β):Az7 β:=λd c c2 c3 t6 DL Gu FR Gf Gv Gw Gx l l2 l3 l4 l5 l6 l7 l8 BQ BV Bf Cy=>MP 4 d (λMu JQ=>Yk Mu (dW (λAD N6 oZ p4 OW My p5 p6 p7 l9 l10 l11 l12 l13 l14 l15 l16 BD HZ Hk Hl=>k1 AD l9 l10 l11 l12 l13 l14 l15 l16 Hk Hl) (Yd ((0:Yh)<(Yb c3:Yh))) JQ c c2 c3 t6 DL Gu FR Gf Gv Gw Gx l l2 l3 l4 l5 l6 l7 l8 BQ BV Bf Cy) (dW (λAD N6 oZ p4 OW My p5 p6 p7 l9 l10 l11 l12 l13 l14 l15 l16 BD HZ Hk Hl=>k1 AD l9 l10 l11 l12 l13 l14 l15 l16 Hk Hl) Yi JQ c c2 c3 t6 DL Gu FR Gf Gv Gw Gx l l2 l3 l4 l5 l6 l7 l8 BQ BV Bf Cy))
def Vt{β:Type}:=hid (wL (β:=β))
def Aza:Pb:=⟨63,Ajf,λ_=>Vt,pe (p:=Ajf) Vs [Az9] 63 (g:=λ_=>wL)⟩
def dX{β:Type}(rec:wJ β)(k1:wI β):wJ β:=λi_ d c c2 c3 t6 DL Gu FR Gf Gv Gw Gx l l2 l3 l4 l5 l6 l7 l8 BQ BV Bf Cy=>Yk (Yd ((0:Yh)<i_)) (Ca (Yb c2:Yh) d (λBJ C2=>let l9:=([BJ]:Ye Yh);Yk (Yd ((Yb Bf+Yb l9)*8<=AR)) (let l10:=(Bf++l9);let AT:=(Yc.wrap (i_-1));rec AT C2 c c2 c3 t6 DL Gu FR Gf Gv Gw Gx l l2 l3 l4 l5 l6 l7 l8 BQ BV l10 Cy) Yf)) (k1 d c c2 c3 t6 DL Gu FR Gf Gv Gw Gx l l2 l3 l4 l5 l6 l7 l8 BQ BV Bf Cy)
def Vu(m:Yn){β:Type}(k1:wI β):wJ β:=Ahv (λr=>dX r k1) Yf m
theorem Ajj{β:Type}(i:Yn)(k1):Vu (β:=β) (i+1) k1=dX (Vu i k1) k1:=rfl
def wM{β:Type}:=hid (Vu (β:=β) fuel)
def Azb:Pb:=⟨122,Ajg,λ_=>wM,pl (p:=Ajg) Vs [] (g:=λi _=>Vu i)⟩
def wN{β:Type}(k1:Ajh β):Az8 β:=λd c c2 c3 t6 DL Gu FR Gf Gv Gw Gx l l2 l3 l4 l5 l6 l7 l8 BQ BV Bf Cy=>Ca 3 d (λBJ C2=>let i_:=(Yc.wrap (1+BJ));wM (λd2 c4 c5 c6 N6 oZ p4 OW My p5 p6 p7 l9 l10 l11 l12 l13 l14 l15 l16 HZ Hk Hl JF=>MP 2 d2 (λMu JQ=>Yk Mu (UV JQ (λAef Aec=>Vt (λAD Aey Aez AeA AeB AeC QW N5 AeD Fm BD=>k1 AD Aey Aez AeA AeB AeC QW N5 AeD Fm BD) Aef c4 c5 c6 N6 oZ p4 OW My p5 p6 p7 l9 l10 l11 l12 l13 l14 l15 l16 HZ Hk Hl Aec)) (Vt (λAD Aey Aez AeA AeB AeC QW N5 AeD Fm BD=>k1 AD Aey Aez AeA AeB AeC QW N5 AeD Fm BD) JQ c4 c5 c6 N6 oZ p4 OW My p5 p6 p7 l9 l10 l11 l12 l13 l14 l15 l16 HZ Hk Hl JF))) i_ C2 c c2 c3 t6 DL Gu FR Gf Gv Gw Gx l l2 l3 l4 l5 l6 l7 l8 BQ BV Bf Cy)
def Vv{β:Type}:=hid (wN (β:=β))
def Azc:Pb:=⟨15,Aji,λ_=>Vv,pe (p:=Aji) Vs [Aza,Azb] 15 (g:=λ_=>wN)⟩
def dY:Az4:=hid λc c2 c3 name d k=>Ca (Yb c:Yh) d (λBJ C2=>Ca 6 C2 (λBt Df=>let l:=([0,32400,7200,9000,79200,1]:Ye Yh);Ef l Df (λCu CL=>Ca 3 CL (λGd GW=>Ca 2 GW (λN3 Nz=>Yk (Yd (Gd=(0:Yh))) (let l2:=([6,8,12,24,23,49]:Ye Yh);Ef l2 Nz (λJR IJ=>Vv (λAD t6 DL Gu FR Gf Gv Gw Gx Fm BD=>k (t6,(DL,((Gu,FR),(Gf,(Gv,(Fm,(BD,(Gw,Gx)))))))) AD) IJ c c2 c3 ([]:Ye Yj) 0 0 0 0 0 0 0 name BJ (Yc.wrap ((Yc.wrap (20454+Bt))-2)) Cu Gd JR 0 0 ([]:Ye Yh) ([]:Ye BG) ([]:Ye Yh) ([]:Ye BG))) (Vv (λAD t6 DL Gu FR Gf Gv Gw Gx Fm BD=>k (t6,(DL,((Gu,FR),(Gf,(Gv,(Fm,(BD,(Gw,Gx)))))))) AD) Nz c c2 c3 ([]:Ye Yj) 0 0 0 0 0 0 0 name BJ (Yc.wrap ((Yc.wrap (20454+Bt))-2)) Cu Gd (Yc.wrap (1+N3)) 0 0 ([]:Ye Yh) ([]:Ye BG) ([]:Ye Yh) ([]:Ye BG)))))))
def Azd:En:=⟨19,.spec (sg [An,Ahi,AI] [CJ] [MN] [CJ] dY),pf Vs [Azc] [.cell 6 61] Tryz.func19⟩
abbrev Aze:={β:Type}->Bc->AZ->Bb->BX->(CO->BX->Ya β)->Ya β
def Ajk:Ye En:=[cX,Aws,LT,PK]
abbrev Ajl(β:Type):=BX->CO->Ya β
abbrev Azf(β:Type):=BX->CO->CO->Ya β
def Ajm:Pc:=⟨52,1,Ay 63 (Au Tryz.f21),⟨1,[0,4,6],[An,BY,C9],[CJ,H3,H3]⟩,[(.ret,⟨1,[4],[BY],[CJ,H3]⟩)]⟩
def dZ{β:Type}(k1:Ajl β):Azf β:=λd t4 x=>Yk (Yd (x.1=(1:Yh))) (MP 4 d (λMu JQ=>Yk Mu (k1 JQ (x.1,((-1),x.2.2))) (k1 JQ x))) (k1 d x)
def Se{β:Type}:=hid (dZ (β:=β))
def Azg:Pb:=⟨63,Ajm,λ_=>Se,pe (p:=Ajm) Ajk [] 63 (g:=λ_=>dZ)⟩
def Sf:Aze:=hid λc c2 c3 d k=>Ca 3 d (λBJ C2=>Ca (Yb c2:Yh) C2 (λBt Df=>cZ Df (λTD AMM=>let l:=([3600,86400,7,259200,40000]:Ye Yh);Ef l AMM (λCu CL=>Yk (Yd (BJ=2)) (Yk (Yd ((Yb c2:Yh)<(2:Yh))) (k (0,(Bt,(0,(TD,(Yc.wrap (TD+Cu)))))) CL) (Ca (Yc.wrap ((Yb c2:Yh)-(1:Yh))) CL (λGd GW=>Yk (!Yd ((Yb c2:Yh)=0)) (Se (λAD t4=>k t4 AD) GW (0,(0,(0,(0,0)))) (BJ,(Bt,((Yv (Yc.wrap ((Yc.wrap (Bt+(1:Yh)))+Gd)) (Yb c2:Yh)),(TD,(Yc.wrap (TD+Cu))))))) Yf))) (Se (λAD t4=>k t4 AD) CL (0,(0,(0,(0,0)))) (BJ,(Bt,(0,(TD,(Yc.wrap (TD+Cu)))))))))))
def wO:En:=⟨21,.spec (sg [An,Ahi] [CJ] [RJ] [CJ] Sf),pf Ajk [Azg] [.cell 4 65] Tryz.func21⟩
abbrev Azh:={β:Type}->Am->Cm->Bc->AZ->Bb->Be->BO->(Bc->AZ->Bb->Be->BO->Ya β)->Ya β
def DR:Azh:=hid λkeyword tokens w w2 w3 w4 Ck k=>FX keyword (λCi=>let l:=([Ci]:Ye AN);Yk (Yd ((Yb l+Yb tokens)*32<=AR)) (let l2:=(l++tokens);let l3:=([((Yc.wrap ((Yb Ck:Yh)+(1:Yh))),l2)]:Ye Iy);Yk (Yp&&Yd ((Yb Ck+Yb l3)*32<=AR)) (let l4:=(Ck++l3);k w w2 w3 w4 l4) Yf) Yf)
theorem Azi:SpecOkB Tryz.prog 29 (sg [An,AI,DQ] E1 [] E1 DR):=LO mixed (X:=⟨look tab,gam [J7],Yi,Yi,Yi,Yi,FV,Yf,0,[]⟩) Bu [J7] rfl [] [] Tryz.func29 (by kernel_rfl) λ_ _=>by kernel_rfl
def Oa:En:=.handf Azi rfl (by kernel_rfl)
abbrev Azj:={β:Type}->CO->Bc->AZ->Bb->Be->BO->(Bc->AZ->Bb->Be->BO->Ya β)->Ya β
def eC:Ye En:=[AwN,Oa,uM]
abbrev Azk(β:Type):=Bc->AZ->Bb->Be->BO->Ya β
abbrev Azl(β:Type):=Bc->AZ->Bb->Be->BO->CO->Cm->Ya β
def Ajn:Pc:=⟨36,2,Ay 15 (Au Tryz.f32),⟨2,[0,3,4],[An,C9,PE],[RI,.tree 102 LQ,H3,.row 90 Dc]⟩,[(.normal,⟨2,[],[],E1⟩)]⟩
def wP{β:Type}(k1:Azk β):Azl β:=λw w2 w3 w4 Ck x l=>let l2:=([([108,101,97,118,101]:Ye Yj),([111,118,101,114,114,105,100,101]:Ye Yj),([115,119,97,112]:Ye Yj)]:Ye Am);Yk (Yd (0<=x.1)&&Yd (x.1<(Yb l2:Yh))) (UX x.2.2.2.1 (λrinstant=>UX x.2.2.2.2 (λrinstant2=>let l3:=([rinstant,rinstant2]:Ye AN);Yk (Yd ((Yb l+Yb l3)*32<=AR)) (let l4:=(l++l3);DR (Ym l2 (Yl x.1) ([]:Ye Yj)) l4 w w2 w3 w4 Ck (λGq Gr Gs Gt Gp=>k1 Gq Gr Gs Gt Gp)) Yf))) Yf
def Vw{β:Type}:=hid (wP (β:=β))
def Azm:Pb:=⟨15,Ajn,λ_=>Vw,NQ mixed (X:=⟨look tab,gam eC,Yi,Yi,Yi,Yi,FV,Yf,0,[]⟩) (p:=Ajn) Bu eC rfl [] 15 (g:=λ_=>wP) (by kernel_rfl) λ_ _=>by kernel_rfl⟩
def eD:Azj:=hid λx w w2 w3 w4 Ck k=>GH x.2.1 w w2 w3 w4 Ck (λrperson Zz Z0 Z4 Z5 OS=>let l:=([rperson]:Ye AN);Yk (Yd (x.1=(2:Yh))) (GH x.2.2.1 Zz Z0 Z4 Z5 OS (λrperson2 oL oM oN oO oK=>let l2:=([rperson2]:Ye AN);Yk (Yd ((Yb l+Yb l2)*32<=AR)) (let l3:=(l++l2);Vw (λAD BU CF CG C1=>k AD BU CF CG C1) oL oM oN oO oK x l3) Yf)) (Vw (λAD BU CF CG C1=>k AD BU CF CG C1) Zz Z0 Z4 Z5 OS x l))
theorem Azn:SpecOkB Tryz.prog 32 (sg [An,RJ] E1 [] E1 eD):=LO mixed (X:=⟨look tab,gam eC,Yi,Yi,Yi,Yi,FV,Yf,0,[]⟩) Bu eC rfl [Azm] [] Tryz.func32 (by kernel_rfl) λ_ _=>by kernel_rfl
def Azo:En:=.handf Azn rfl (by kernel_rfl)
abbrev Azp:={β:Type}->Aj->AV->(DO->Ya β)->Ya β
def Vx:Ye En:=[RQ,AhU,PL]
abbrev Ajo(β:Type):=DO->Ya β
abbrev wQ(β:Type):=Yh->AV->DO->Ya β
def Ajp:Pc:=⟨68,0,Ay 1018 (Au Tryz.f35),⟨0,[3,6,7],[An,Dd,Aa],[PC,.row 98 (.slice Dc)]⟩,[(.exit 0,⟨0,[6],[BP],MO⟩)]⟩
abbrev Azq(β:Type):=DO->Ya β
abbrev Azr(β:Type):=AV->Cm->Ya β
def Ajq:Pc:=⟨68,0,Ay 63 (Au Tryz.f35),⟨0,[3,5],[An,Dd],[PC,.row 90 Dc]⟩,[(.ret,⟨0,[4],[BP],MO⟩)]⟩
abbrev Azs(β:Type):=DO->Ya β
abbrev Azt(β:Type):=AV->Cm->Ya β
def Ajr:Pc:=⟨68,0,Ay 31 (Au Tryz.f35),⟨0,[3,5],[An,Dd],[PC,.row 90 Dc]⟩,[(.ret,⟨0,[4],[BP],MO⟩)]⟩
abbrev Azu(β:Type):=DO->Ya β
abbrev Azv(β:Type):=AV->Cm->Ya β
def Ajs:Pc:=⟨68,0,Ay 15 (Au Tryz.f35),⟨0,[3,5],[An,Dd],[PC,.row 90 Dc]⟩,[(.ret,⟨0,[4],[BP],MO⟩)]⟩
def eE{β:Type}(rec:wQ β)(k1:Ajo β):wQ β:=λi_ p_ out=>Yk (Yd (i_<(Yb p_.2.2.1:Yh))) (Yk (Yd (0<=i_)&&Yd (i_<(Yb p_.2.2.1:Yh))) (let e:=Ym p_.2.2.1 (Yl i_) (0,0);UZ ([113,117,105,101,116]:Ye Yj) e (λAed=>let l:=([Aed]:Ye Cm);Yk (Yd ((Yb out+Yb l)*24<=AR)) (let l2:=(out++l);let AT:=(Yc.wrap (i_+1));rec AT p_ l2) Yf)) Yf) (k1 out)
def Vy(m:Yn){β:Type}(k1:Ajo β):wQ β:=D7 (λr=>eE r k1) Yf m
theorem Ajt{β:Type}(i:Yn)(k1):Vy (β:=β) (i+1) k1=eE (Vy i k1) k1:=rfl
def wR{β:Type}:=hid (Vy (β:=β) fuel)
def Azw:Pb:=⟨1018,Ajp,λ_=>wR,pl (p:=Ajp) Vx [] (g:=λi _=>Vy i)⟩
def wS{β:Type}(k1:Azq β):Azr β:=λp_ t=>let l:=([t]:Ye Cm);wR (λout=>k1 out) 0 p_ l
def Vz{β:Type}:=hid (wS (β:=β))
def Azx:Pb:=⟨63,Ajq,λ_=>Vz,pe (p:=Ajq) Vx [Azw] 63 (g:=λ_=>wS)⟩
def wT{β:Type}(k1:Azs β):Azt β:=λp_ t=>Yk p_.2.2.2.2.2 (Dy ([99,111,110,115,101,110,116]:Ye Yj) (λCi=>let l:=([Ci]:Ye AN);Yk (Yd ((Yb t+Yb l)*32<=AR)) (let l2:=(t++l);Vz (λt4=>k1 t4) p_ l2) Yf)) (Vz (λt4=>k1 t4) p_ t)
def V0{β:Type}:=hid (wT (β:=β))
def Azy:Pb:=⟨31,Ajr,λ_=>V0,pe (p:=Ajr) Vx [Azx] 31 (g:=λ_=>wT)⟩
def wU{β:Type}(k1:Azu β):Azv β:=λp_ t=>Yk (!Yd (p_.2.2.2.2.1=(0:Yh))) (Dy ([114,101,115,116]:Ye Yj) (λCi=>Hg 1 (Yc.wrap (Yz p_.2.2.2.2.1 3600)) (λrnum=>let l:=([Ci,rnum]:Ye AN);Yk (Yd ((Yb t+Yb l)*32<=AR)) (let l2:=(t++l);V0 (λt4=>k1 t4) p_ l2) Yf))) (V0 (λt4=>k1 t4) p_ t)
def V1{β:Type}:=hid (wU (β:=β))
def Azz:Pb:=⟨15,Ajs,λ_=>V1,pe (p:=Ajs) Vx [Azy] 15 (g:=λ_=>wU)⟩
def eF:Azp:=hid λc p_ k=>Dy ([112,101,114,115,111,110]:Ye Yj) (λCi=>Dy p_.1 (λFQ=>Yk (Yd (0<=p_.2.1)&&Yd (p_.2.1<(Yb c.1:Yh))) (let e:=Ym c.1 (Yl p_.2.1) (([]:Ye Yj),(0,([]:Ye Cj)));Dy e.1 (λLz=>let l:=([Ci,FQ,Lz]:Ye AN);Yk (!Yd (p_.2.2.2.1=(0:Yh))) (Dy ([119,101,101,107]:Ye Yj) (λZD=>Hg 1 (Yc.wrap (Yz p_.2.2.2.1 3600)) (λrnum=>let l2:=([ZD,rnum]:Ye AN);Yk (Yd ((Yb l+Yb l2)*32<=AR)) (let l3:=(l++l2);V1 (λt4=>k t4) p_ l3) Yf))) (V1 (λt4=>k t4) p_ l))) Yf))
def AzA:En:=⟨35,.spec (sg [Dm,PD] [] [BP] MO eF),pf Vx [Azz] [.tmp 4] Tryz.func35⟩
abbrev AzB:={β:Type}->Aj->Bm->(DO->Ya β)->Ya β
def Sg:Ye En:=[RQ,PL]
abbrev Aju(β:Type):=DO->Ya β
abbrev wV(β:Type):=Yh->Bm->DO->Ya β
def wW:Pc:=⟨56,0,Ay 58 (Au Tryz.f36),⟨0,[3,5,6],[An,(Yi,[.trowh 1]),Aa],[PA,.tree 98 NV]⟩,[(.exit 0,⟨0,[5],[(Yi,[.trowh 0])],[.tree 98 NV]⟩)]⟩
abbrev Ajv(β:Type):=Yh->Bm->DO->Ya β
abbrev AzC(β:Type):=Yh->Bm->DO->Ya β
def Ajw:Pc:=⟨56,0,Ay 25 (Eb wW.c),⟨0,[3,5,6],[An,(Yi,[.trowh 1]),Aa],[PA,.tree 98 NV]⟩,[(.normal,⟨0,[3,5,6],[An,(Yi,[.trowh 1]),Aa],[PA,.tree 98 NV]⟩)]⟩
def wX{β:Type}(k1:Ajv β):AzC β:=λi_ x out=>let n:=(Yc.wrap ((Yb out:Yh)-(1:Yh)));Yk (Yd (0<=n)&&Yd (n<(Yb out:Yh))) (let e:=Ym out (Yl n) ([]:Ye AN);Yk (Yd (0<=i_)&&Yd (i_<(Yb x.2.2:Yh))) (let e2:=Ym x.2.2 (Yl i_) 0;Hg 3 e2 (λrnum=>let l:=([rnum]:Ye AN);let l2:=(Ym out (Yl n) ([]:Ye AN));Yk (Yp&&Yd ((Yb l2+Yb l)*32<=AR)) (let l3:=(l2++l);Yk (Yd (0<=n)&&Yd (n<(Yb out:Yh))) (let e3:=Ym out (Yl n) ([]:Ye AN);let l4:=YG out (Yl n) l3;Yk (Yd ((Yl n)=(Yl n))&&(Yp&&Yp)) (k1 i_ x l4) Yf) Yf) Yf)) Yf) Yf
def V2{β:Type}:=hid (wX (β:=β))
def AzD:Pb:=⟨25,Ajw,λ_=>V2,NQ mixed (X:=⟨look tab,gam Sg,Yi,Yi,Yi,Yi,[(98,NV)],Yf,0,[]⟩) (p:=Ajw) Bu Sg rfl [] 25 (g:=λ_=>wX) (by kernel_rfl) λ_ _=>by kernel_rfl⟩
def eG{β:Type}(rec:wV β)(k1:Aju β):wV β:=λi_ x out=>Yk (Yd (i_<(Yb x.2.2:Yh))) (Yk (Yd ((Yv i_ 32)=0)) (Dy ([100,97,121,115]:Ye Yj) (λCi=>let l:=([Ci]:Ye AN);let l2:=([l]:Ye Cm);Yk (Yp&&Yd ((Yb out+Yb l2)*24<=AR)) (let l3:=(out++l2);V2 (λAT x2 out2=>let Fc:=(Yc.wrap (AT+(1:Yh)));rec Fc x2 out2) i_ x l3) Yf)) (V2 (λAT x2 out2=>let Fc:=(Yc.wrap (AT+(1:Yh)));rec Fc x2 out2) i_ x out)) (k1 out)
def Sh(m:Yn){β:Type}(k1:Aju β):wV β:=D7 (λr=>eG r k1) Yf m
theorem Ajx{β:Type}(i:Yn)(k1):Sh (β:=β) (i+1) k1=eG (Sh i k1) k1:=rfl
def wY{β:Type}:=hid (Sh (β:=β) fuel)
def AzE:Pb:=⟨58,wW,λ_=>wY,Ki mixed (X:=⟨look tab,gam Sg,Yi,Yi,Yi,Yi,[(98,NV)],Yf,0,[]⟩) (p:=wW) Bu Sg rfl [AzD] (g:=λi _=>Sh i) (by kernel_rfl) rfl (by kernel_rfl) (λ_ _=>rfl) λ_ _ _ _=>by kernel_rfl⟩
def eH:AzB:=hid λc x k=>Dy ([99,97,108,101,110,100,97,114]:Ye Yj) (λCi=>Dy x.1 (λFQ=>Yk (Yd (0<=x.2.1)&&Yd (x.2.1<(Yb c.1:Yh))) (let e:=Ym c.1 (Yl x.2.1) (([]:Ye Yj),(0,([]:Ye Cj)));Dy e.1 (λLz=>let l:=([Ci,FQ,Lz]:Ye AN);let l2:=([l]:Ye Cm);wY (λout=>k out) 0 x l2)) Yf))
def AzF:En:=⟨36,.spec (sg [Dm,ML] [] [(Yi,[.data (.slice (.slice Dc))])] [] eH),RG mixed (X:=⟨look tab,gam Sg,Yi,Yi,Yi,Yi,[(98,NV)],Yf,0,[]⟩) Bu Sg rfl [AzE] [.tmp 4] Tryz.func36 (by kernel_rfl) λ_ _=>by kernel_rfl⟩
abbrev AzG:={β:Type}->Aj->Bz->(DO->Ya β)->Ya β
def wZ:Ye En:=[RQ,AhU,PL]
abbrev x5(β:Type):=Aj->Bz->DO->Cm->Ya β
abbrev x6(β:Type):=Yh->Aj->Bz->DO->Cm->Ya β
def Ajy:Pc:=⟨107,0,Ay 250 (Au Tryz.f38),⟨0,[2,3,6,7,8],[An,BY,PF,PE,Aa],[BR,J6,.row 98 (.slice Dc),.row 90 Dc]⟩,[(.exit 0,⟨0,[2,3,6,7],[An,BY,PF,PE],[BR,J6,.row 98 (.slice Dc),.row 90 Dc]⟩)]⟩
abbrev x7(β:Type):=Aj->Bz->DO->Ya β
abbrev x8(β:Type):=Yh->Aj->Bz->DO->Ya β
def Ajz:Pc:=⟨107,0,Ay 1018 (Au Tryz.f38),⟨0,[2,3,6,9],[An,BY,PF,Aa],[BR,J6,.row 98 (.slice Dc)]⟩,[(.exit 2,⟨0,[2,3,6],[An,BY,PF],[BR,J6,.row 98 (.slice Dc)]⟩)]⟩
def eI{β:Type}(rec:x6 β)(k1:x5 β):x6 β:=λi_ c l out m=>Yk (Yd (i_<(Yb l.2.2.2.2.2.1:Yh))) (Yk (Yd (0<=i_)&&Yd (i_<(Yb l.2.2.2.2.2.1:Yh))) (let e:=Ym l.2.2.2.2.2.1 (Yl i_) 0;Yk (Yd (0<=e)&&Yd (e<(Yb c.2.1:Yh))) (let e2:=Ym c.2.1 (Yl e) (([]:Ye Yj),(0,(([]:Ye BG),(0,(0,Yi)))));Dy e2.1 (λCi=>let l2:=([Ci]:Ye AN);Yk (Yd ((Yb m+Yb l2)*32<=AR)) (let l3:=(m++l2);let AT:=(Yc.wrap (i_+1));rec AT c l out l3) Yf)) Yf) Yf) (k1 c l out m)
def V3(m:Yn){β:Type}(k1:x5 β):x6 β:=HU (λr=>eI r k1) Yf m
theorem AjA{β:Type}(i:Yn)(k1):V3 (β:=β) (i+1) k1=eI (V3 i k1) k1:=rfl
def eJ{β:Type}:=hid (V3 (β:=β) fuel)
def AzH:Pb:=⟨250,Ajy,λ_=>eJ,pl (p:=Ajy) wZ [] (g:=λi _=>V3 i)⟩
def eK{β:Type}(rec:x8 β)(k1:x7 β):x8 β:=λi_ c l out=>Yk (Yd (i_<(Yb l.2.2.2.2.2.2.1:Yh))) (Yk (Yd (0<=i_)&&Yd (i_<(Yb l.2.2.2.2.2.2.1:Yh))) (let e:=Ym l.2.2.2.2.2.2.1 (Yl i_) (0,0);UZ ([111,110]:Ye Yj) e (λAed=>let l2:=([Aed]:Ye Cm);Yk (Yd ((Yb out+Yb l2)*24<=AR)) (let l3:=(out++l2);let AT:=(Yc.wrap (i_+1));rec AT c l l3) Yf)) Yf) (k1 c l out)
def V4(m:Yn){β:Type}(k1:x7 β):x8 β:=FW (λr=>eK r k1) Yf m
theorem AjB{β:Type}(i:Yn)(k1):V4 (β:=β) (i+1) k1=eK (V4 i k1) k1:=rfl
def eL{β:Type}:=hid (V4 (β:=β) fuel)
def AzI:Pb:=⟨1018,Ajz,λ_=>eL,pl (p:=Ajz) wZ [] (g:=λi _=>V4 i)⟩
def eM:AzG:=hid λc l k=>let l2:=([([104,111,117,114,115]:Ye Yj),([100,97,121,115]:Ye Yj),([119,101,101,107,115]:Ye Yj)]:Ye Am);Yk (Yd (0<=l.2.2.2.1)&&Yd (l.2.2.2.1<(Yb l2:Yh))) (let unit:=(Ym l2 (Yl l.2.2.2.1) ([]:Ye Yj));Dy ([108,97,121,101,114]:Ye Yj) (λCi=>Dy l.1 (λFQ=>Yk (Yd (0<=l.2.1)&&Yd (l.2.1<(Yb c.1:Yh))) (let e:=Ym c.1 (Yl l.2.1) (([]:Ye Yj),(0,([]:Ye Cj)));Dy e.1 (λLz=>Hg 3 l.2.2.1.1 (λrnum=>Hg 2 l.2.2.1.2 (λrnum2=>Hg 1 l.2.2.2.2.1 (λrnum3=>Dy unit (λZD=>let l3:=([Ci,FQ,Lz,rnum,rnum2,rnum3,ZD]:Ye AN);let l4:=([l3]:Ye Cm);Dy ([109,101,109,98,101,114]:Ye Yj) (λANR=>let l5:=([ANR]:Ye AN);eJ (λc2 l6 out m=>let l7:=([m]:Ye Cm);Yk (Yd ((Yb out+Yb l7)*24<=AR)) (let l8:=(out++l7);eL (λc3 l9 out2=>Yk (!Yd (l9.2.2.2.2.2.2.2.2=(0:Yh))) (let l10:=([([]:Ye Yj),([110,111,116]:Ye Yj),([111,110,108,121]:Ye Yj)]:Ye Am);Yk (Yd (0<=l9.2.2.2.2.2.2.2.2)&&Yd (l9.2.2.2.2.2.2.2.2<(Yb l10:Yh))) (Dy (Ym l10 (Yl l9.2.2.2.2.2.2.2.2) ([]:Ye Yj)) (λANS=>Yk (Yd (0<=l9.2.2.2.2.2.2.2.1)&&Yd (l9.2.2.2.2.2.2.2.1<(Yb c3.2.2.1:Yh))) (let e2:=Ym c3.2.2.1 (Yl l9.2.2.2.2.2.2.2.1) (([]:Ye Yj),(0,([]:Ye Yh)));Dy e2.1 (λANT=>let l11:=([ANS,ANT]:Ye AN);let l12:=([l11]:Ye Cm);Yk (Yd ((Yb out2+Yb l12)*24<=AR)) (let l13:=(out2++l12);k l13) Yf)) Yf)) Yf) (k out2)) 0 c2 l6 l8) Yf) 0 c l l4 l5))))))) Yf))) Yf
def AzJ:En:=⟨38,.spec (sg [Dm,MN] [] [BP] MO eM),pf wZ [AzH,AzI] [.tmp 4] Tryz.func38⟩
abbrev AzK:={β:Type}->Aj->CO->(Cm->Ya β)->Ya β
def x9:Ye En:=[RQ,PL]
abbrev AzL(β:Type):=Cm->Ya β
abbrev AzM(β:Type):=CO->Cm->Ya β
def AjC:Pc:=⟨49,0,Ay 63 (Au Tryz.f39),⟨0,[3,6],[An,Dd],[H3,.row 90 Dc]⟩,[(.ret,⟨0,[4],[BP],KY⟩)]⟩
abbrev AzN(β:Type):=Cm->Ya β
abbrev AzO(β:Type):=Am->Aj->CO->Ya β
def AjD:Pc:=⟨49,0,Ay 15 (Au Tryz.f39),⟨0,[2,3,5],[An,BY,AI],[BR,H3]⟩,[(.ret,⟨0,[4],[BP],KY⟩)]⟩
def xA{β:Type}(k1:AzL β):AzM β:=λx t=>Hg 5 x.2.2.2.1 (λrnum=>Hg 5 x.2.2.2.2 (λrnum2=>let l:=([rnum,rnum2]:Ye AN);Yk (Yd ((Yb t+Yb l)*32<=AR)) (let l2:=(t++l);k1 l2) Yf))
def V5{β:Type}:=hid (xA (β:=β))
def AzP:Pb:=⟨63,AjC,λ_=>V5,pe (p:=AjC) x9 [] 63 (g:=λ_=>xA)⟩
def xB{β:Type}(k1:AzN β):AzO β:=λname c x=>let l:=([([108,101,97,118,101]:Ye Yj),([111,118,101,114,114,105,100,101]:Ye Yj),([115,119,97,112]:Ye Yj)]:Ye Am);Yk (Yd (0<=x.1)&&Yd (x.1<(Yb l:Yh))) (Dy (Ym l (Yl x.1) ([]:Ye Yj)) (λCi=>Dy name (λFQ=>let l2:=([Ci,FQ]:Ye AN);Yk (Yd (x.1=(2:Yh))) (Yk (Yd (0<=x.2.2.1)&&Yd (x.2.2.1<(Yb c.2.1:Yh))) (let e:=Ym c.2.1 (Yl x.2.2.1) (([]:Ye Yj),(0,(([]:Ye BG),(0,(0,Yi)))));Dy e.1 (λLz=>let l3:=([Lz]:Ye AN);Yk (Yd ((Yb l2+Yb l3)*32<=AR)) (let l4:=(l2++l3);V5 (λt4=>k1 t4) x l4) Yf)) Yf) (V5 (λt4=>k1 t4) x l2)))) Yf
def V6{β:Type}:=hid (xB (β:=β))
def AzQ:Pb:=⟨15,AjD,λ_=>V6,pe (p:=AjD) x9 [AzP] 15 (g:=λ_=>xB)⟩
def eN:AzK:=hid λc x k=>let name:=([110,111,98,111,100,121]:Ye Yj);Yk (Yd ((0:Yh)<=x.2.1)) (Yk (Yd (0<=x.2.1)&&Yd (x.2.1<(Yb c.2.1:Yh))) (let e:=Ym c.2.1 (Yl x.2.1) (([]:Ye Yj),(0,(([]:Ye BG),(0,(0,Yi)))));V6 (λt4=>k t4) e.1 c x) Yf) (V6 (λt4=>k t4) name c x)
def AzR:En:=⟨39,.spec (sg [Dm,RJ] [] [BP] KY eN),pf x9 [AzQ] [.tmp 4] Tryz.func39⟩
def AzS:En:=au [Ax7] [I1,I1] [] [AK] [] [.tmp 4] Tryz.func45 (by kernel_rfl)
def AzT:En:=au [Ai1] [PD,PD] [] [AK] [] [.tmp 4] Tryz.func47 (by kernel_rfl)
def AzU:En:=au [Ai2] [ML,ML] [] [AK] [] [.tmp 4] Tryz.func49 (by kernel_rfl)
abbrev AzV:={β:Type}->Am->Ch->Bc->AZ->Bb->Be->BO->(Bc->AZ->Bb->Be->BO->Ya β)->Ya β
def eO:Ye En:=[uL,AhQ,Oa]
abbrev AjE(β:Type):=Bc->AZ->Bb->Be->BO->Ya β
abbrev xC(β:Type):=Am->Ch->Yh->Yh->Bc->AZ->Bb->Be->BO->Ya β
def AjF:Pc:=⟨40,2,Ay 6 (Au Tryz.f75),⟨2,[0,1,9,10,11],[An,AI,J5,Aa,Aa],E1⟩,[(.exit 0,⟨2,[],[],E1⟩)]⟩
def eP{β:Type}(rec:xC β)(k1:AjE β):xC β:=λkeyword t9 Ey JT w w2 w3 w4 Ck=>Yk (Yd (JT<Ey)) (Yk (Yd (0<=JT)&&Yd (JT<(Yb t9:Yh))) (let e:=Ym t9 (Yl JT) (0,0);let last:=(Yc.wrap (Yz (Yc.wrap (e.2-(1:Yh))) 86400));RO (Yc.wrap (Yz e.1 86400)) (λrweekday=>NY (Yv e.1 86400) (λD1=>RO last (λrweekday2=>NY (Yc.wrap (e.2-(Yc.wrap (last*86400)))) (λOV=>let l:=([rweekday,D1,rweekday2,OV]:Ye AN);DR keyword l w w2 w3 w4 Ck (λGq Gr Gs Gt Gp=>rec keyword t9 Ey (Yc.wrap (JT+(1:Yh))) Gq Gr Gs Gt Gp)))))) Yf) (k1 w w2 w3 w4 Ck)
def V7(m:Yn){β:Type}(k1:AjE β):xC β:=UQ (λr=>eP r k1) Yf m
theorem AjG{β:Type}(i:Yn)(k1):V7 (β:=β) (i+1) k1=eP (V7 i k1) k1:=rfl
def xD{β:Type}:=hid (V7 (β:=β) fuel)
def AzW:Pb:=⟨6,AjF,λ_=>xD,Ki mixed (X:=⟨look tab,gam eO,Yi,Yi,Yi,Yi,FV,Yf,0,[]⟩) (p:=AjF) Bu eO rfl [] (g:=λi _=>V7 i) (by kernel_rfl) rfl (by kernel_rfl) (λ_ _=>rfl) λ_ _ _ _=>by kernel_rfl⟩
def PU:AzV:=hid λkeyword l w w2 w3 w4 Ck k=>xD (λAD BU CF CG C1=>k AD BU CF CG C1) keyword l (Yb l:Yh) 0 w w2 w3 w4 Ck
theorem AzX:SpecOkB Tryz.prog 75 (sg [An,AI,J5] E1 [] E1 PU):=LO mixed (X:=⟨look tab,gam eO,Yi,Yi,Yi,Yi,FV,Yf,0,[]⟩) Bu eO rfl [AzW] [] Tryz.func75 (by kernel_rfl) λ_ _=>by kernel_rfl
def AjH:En:=.handf AzX rfl (by kernel_rfl)
abbrev AzY:={β:Type}->(DP->Ya β)->Ya β
def eQ:AzY:=hid λk=>uZ (λAMH=>k AMH)
def AzZ:En:=⟨86,.spec (sg [] [] [BP] LS eQ),pf [Axu] [] [.tmp 0] Tryz.func86⟩
abbrev AA0:={β:Type}->(DP->Ya β)->Ya β
def eR:AA0:=hid λk=>v6 (λAMI=>k AMI)
def AA1:En:=⟨87,.spec (sg [] [] [BP] LS eR),pf [Axw] [] [.tmp 0] Tryz.func87⟩
abbrev AA2:={β:Type}->Am->(Ys->Ya β)->Ya β
def AjI:Ye En:=[Aiy,Aix]
abbrev AjJ(β:Type):=Ys->Ya β
abbrev AjK(β:Type):=Unit->Ya β
abbrev xE(β:Type):=Am->Yh->Yh->Ya β
def AjL:Pc:=⟨43,0,Ay 58 (Au Tryz.f109),⟨0,[0,19,20],[AI,Aa,Aa],[]⟩,[(.ret,⟨0,[2],[AK],[]⟩),(.exit 0,⟨0,[],[],[]⟩)]⟩
def eS{β:Type}(rec:xE β)(k1:AjJ β)(k2:AjK β):xE β:=λs ZF t20=>Yk (Yd (t20<ZF)) (Yk (Yd (0<=t20)&&Yd (t20<(Yb s:Yh))) (let c:=((Ym s (Yl t20) 0).toNat:Yh);RU c (λrsmall=>Yk (!rsmall) (Vj c (λrdigit=>Yk (!rdigit) (Yk (!Yd (c=95)) (Yk (!Yd (c=45)) (k1 Yi) (rec s ZF (Yc.wrap (t20+(1:Yh))))) (rec s ZF (Yc.wrap (t20+(1:Yh))))) (rec s ZF (Yc.wrap (t20+(1:Yh)))))) (rec s ZF (Yc.wrap (t20+(1:Yh)))))) Yf) (k2 ())
def V8(m:Yn){β:Type}(k1:AjJ β)(k2:AjK β):xE β:=D7 (λr=>eS r k1 k2) Yf m
theorem AjM{β:Type}(i:Yn)(k1 k2):V8 (β:=β) (i+1) k1 k2=eS (V8 i k1 k2) k1 k2:=rfl
def eT{β:Type}:=hid (V8 (β:=β) fuel)
def AA3:Pb:=⟨58,AjL,λ_=>eT,pl (p:=AjL) AjI [] (g:=λi _=>V8 i)⟩
def Si:AA2:=hid λs k=>Yk (Yd (s=([]:Ye Yj))) (k Yi) (Yk (Yd ((24:Yh)<(Yb s:Yh))) (k Yi) (Yk (Yd (0<=(0:Yh))&&Yd ((0:Yh)<(Yb s:Yh))) (RU ((Ym s (Yl 0) 0).toNat:Yh) (λrsmall=>Yk (!rsmall) (k Yi) (eT (λt2=>k t2) (λ_=>k Yp) s (Yb s:Yh) 0))) Yf))
def xF:En:=⟨109,.spec (sg [AI] [] [AK] [] Si),pf AjI [AA3] [.tmp 2] Tryz.func109⟩
abbrev AA4:={β:Type}->Yh->(Ys->Ya β)->Ya β
def V9:AA4:=hid λn k=>MR n 0 604800 (λD2=>Yk D2 (let t:=(Yd ((Yv n 3600)=0));k t) (k Yi))
def AA5:En:=⟨112,.spec (sg [Aa] [] [AK] [] V9),pf [vE] [] [.tmp 2] Tryz.func112⟩
abbrev AA6:={β:Type}->(Yh->Ya β)->Ya β
def Ob:AA6:=hid λk=>MS 2241 (λryear=>let t:=(Yc.wrap (ryear-1));k t)
def VA:En:=⟨128,.spec (sg [] [] [Aa] [] Ob),pf [vG] [] [.tmp 0] Tryz.func128⟩
abbrev AA7:={β:Type}->Aj->Bz->(Yh->Ya β)->Ya β
def VB:Ye En:=[VA,Aif,Ve]
abbrev xG(β:Type):=Yh->Ya β
abbrev xH(β:Type):=Aj->Bz->Ya β
abbrev xI(β:Type):=Yh->Aj->Bz->Ya β
def AjN:Pc:=⟨102,0,Ay 58 (Au Tryz.f129),⟨0,[2,3,5],[An,BY,Aa],[BR,J6]⟩,[(.ret,⟨0,[4],[Aa],[]⟩),(.exit 1,⟨0,[2,3],[An,BY],[BR,J6]⟩)]⟩
abbrev AA8(β:Type):=Yh->Ya β
abbrev AA9(β:Type):=Unit->Ya β
abbrev AAa(β:Type):=Ys->Bz->Ya β
def AjO:Pc:=⟨102,0,Ay 1951 (Au Tryz.f129),⟨0,[3,79],[An,AK],[J6]⟩,[(.ret,⟨0,[4],[Aa],[]⟩),(.normal,⟨0,[],[],[]⟩)]⟩
abbrev AAb(β:Type):=Yh->Ya β
abbrev AAc(β:Type):=Aj->Bz->Ya β
def AjP:Pc:=⟨102,0,Ay 7 (Au Tryz.f129),⟨0,[2,3],[An,BY],[BR,J6]⟩,[(.ret,⟨0,[4],[Aa],[]⟩)]⟩
abbrev AAd(β:Type):=Yh->Ya β
abbrev AAe(β:Type):=Aj->Bz->Ya β
abbrev AAf(β:Type):=Ys->Aj->Bz->Ya β
def AjQ:Pc:=⟨102,0,Ay 103 (Au Tryz.f129),⟨0,[2,3,15],[An,BY,AK],[BR,J6]⟩,[(.ret,⟨0,[4],[Aa],[]⟩),(.normal,⟨0,[2,3],[An,BY],[BR,J6]⟩)]⟩
def eU{β:Type}(rec:xI β)(k1:xG β)(k2:xH β):xI β:=λi_ c l=>Yk (Yd (i_<(Yb l.2.2.2.2.2.1:Yh))) (Yk (Yd (0<=i_)&&Yd (i_<(Yb l.2.2.2.2.2.1:Yh))) (let e:=Ym l.2.2.2.2.2.1 (Yl i_) 0;FY e 0 (Yc.wrap ((Yb c.2.1:Yh)-(1:Yh))) (λD2=>Yk (!D2) (k1 3) (let AT:=(Yc.wrap (i_+1));rec AT c l))) Yf) (k2 c l)
def VC(m:Yn){β:Type}(k1:xG β)(k2:xH β):xI β:=D7 (λr=>eU r k1 k2) Yf m
theorem AjR{β:Type}(i:Yn)(k1 k2):VC (β:=β) (i+1) k1 k2=eU (VC i k1 k2) k1 k2:=rfl
def eV{β:Type}:=hid (VC (β:=β) fuel)
def AAg:Pb:=⟨58,AjN,λ_=>eV,pl (p:=AjN) VB [] (g:=λi _=>VC i)⟩
def xJ{β:Type}(k1:AA8 β)(k2:AA9 β):AAa β:=λAO0 l=>Yk AO0 (k1 3) (Yk (Yd (l.2.2.2.2.2.2.2.2=(0:Yh))) (let t:=(!Yd (l.2.2.2.2.2.2.2.1=(0:Yh)));Yk t (k1 1) (k2 ())) (k2 ()))
def VD{β:Type}:=hid (xJ (β:=β))
def AAh:Pb:=⟨1951,AjO,λ_=>VD,pe (p:=AjO) VB [] 1951 (g:=λ_=>xJ)⟩
def xK{β:Type}(k1:AAb β):AAc β:=λc l=>eV (λt4=>k1 t4) (λc2 l2=>RT l2.2.2.2.2.2.2.1 (λGX=>let t:=(!Yd (GX=0));Yk t (k1 8) (FY l2.2.2.2.2.2.2.2.2 0 2 (λD2=>Yk (!D2) (k1 1) (Yk (!Yd (l2.2.2.2.2.2.2.2.2=(0:Yh))) (FY l2.2.2.2.2.2.2.2.1 0 (Yc.wrap ((Yb c2.2.2.1:Yh)-(1:Yh))) (λJS=>VD (λt4=>k1 t4) (λ_=>k1 0) (!JS) l2)) (VD (λt4=>k1 t4) (λ_=>k1 0) Yi l2)))))) 0 c l
def PV{β:Type}:=hid (xK (β:=β))
def AAi:Pb:=⟨7,AjP,λ_=>PV,pe (p:=AjP) VB [AAg,AAh] 7 (g:=λ_=>xK)⟩
def xL{β:Type}(k1:AAd β)(k2:AAe β):AAf β:=λBW c l=>Yk BW (k1 1) (let t:=(Yd ((Yb l.2.2.2.2.2.1:Yh)=(0:Yh)));Yk t (k1 7) (let t2:=(Yd ((12:Yh)<(Yb l.2.2.2.2.2.1:Yh)));Yk t2 (k1 5) (k2 c l)))
def PW{β:Type}:=hid (xL (β:=β))
def AAj:Pb:=⟨103,AjQ,λ_=>PW,pe (p:=AjQ) VB [] 103 (g:=λ_=>xL)⟩
def eW:AA7:=hid λc l k=>FY l.2.1 0 (Yc.wrap ((Yb c.1:Yh)-(1:Yh))) (λD2=>Yk (!D2) (k 3) (Ob (λLx=>FY l.2.2.1.1 1 Lx (λJS=>Yk (!JS) (PW (λt4=>k t4) (λc2 l2=>PV (λt4=>k t4) c2 l2) Yp c l) (FY l.2.2.1.2 0 86399 (λLy=>Yk (!Ly) (PW (λt4=>k t4) (λc2 l2=>PV (λt4=>k t4) c2 l2) Yp c l) (FY l.2.2.2.1 0 2 (λZA=>Yk (!ZA) (PW (λt4=>k t4) (λc2 l2=>PV (λt4=>k t4) c2 l2) Yp c l) (FY l.2.2.2.2.1 1 400 (λZB=>PW (λt4=>k t4) (λc2 l2=>PV (λt4=>k t4) c2 l2) (!ZB) c l))))))))))
def AAk:En:=⟨129,.spec (sg [Dm,MN] [] [Aa] [] eW),pf VB [AAi,AAj] [.tmp 4] Tryz.func129⟩
abbrev AAl:={β:Type}->Aj->CO->(Yh->Ya β)->Ya β
def VE:Ye En:=[VA,Ve]
abbrev AAm(β:Type):=Yh->Ya β
abbrev AAn(β:Type):=Unit->Ya β
abbrev AAo(β:Type):=Ys->CO->Ya β
def AjS:Pc:=⟨86,0,Ay 14847 (Au Tryz.f130),⟨0,[3,64],[An,AK],[H3]⟩,[(.ret,⟨0,[4],[Aa],[]⟩),(.normal,⟨0,[],[],[]⟩)]⟩
abbrev AAp(β:Type):=Yh->Ya β
abbrev AAq(β:Type):=Unit->Ya β
abbrev AAr(β:Type):=Ys->CO->Ya β
def AjT:Pc:=⟨86,0,Ay 3711 (Au Tryz.f130),⟨0,[3,53],[An,AK],[H3]⟩,[(.ret,⟨0,[4],[Aa],[]⟩),(.normal,⟨0,[],[],[]⟩)]⟩
abbrev AAs(β:Type):=Yh->Ya β
abbrev AAt(β:Type):=Unit->Ya β
abbrev AAu(β:Type):=Ys->CO->Ya β
def AjU:Pc:=⟨86,0,Ay 927 (Au Tryz.f130),⟨0,[3,44],[An,AK],[H3]⟩,[(.ret,⟨0,[4],[Aa],[]⟩),(.normal,⟨0,[],[],[]⟩)]⟩
abbrev AAv(β:Type):=Yh->Ya β
abbrev AAw(β:Type):=Unit->Ya β
abbrev AAx(β:Type):=Ys->CO->Ya β
def AjV:Pc:=⟨86,0,Ay 231 (Au Tryz.f130),⟨0,[3,14],[An,AK],[H3]⟩,[(.ret,⟨0,[4],[Aa],[]⟩),(.normal,⟨0,[],[],[]⟩)]⟩
def xM{β:Type}(k1:AAm β)(k2:AAn β):AAo β:=λFR x=>Yk FR (k1 1) (let t:=(Yd (x.2.2.2.2<=x.2.2.2.1));Yk t (k1 6) (k2 ()))
def Sj{β:Type}:=hid (xM (β:=β))
def AAy:Pb:=⟨14847,AjS,λ_=>Sj,pe (p:=AjS) VE [] 14847 (g:=λ_=>xM)⟩
def xN{β:Type}(k1:AAp β)(k2:AAq β):AAr β:=λt53 x=>Yk t53 (k1 4) (Yk (Yd (x.2.2.2.1<(0:Yh))) (Sj (λt4=>k1 t4) (λ_=>k2 ()) Yp x) (Yk (Yd (x.2.2.2.2<(0:Yh))) (Sj (λt4=>k1 t4) (λ_=>k2 ()) Yp x) (Ob (λLx=>let t:=(Yd (Lx<(Yc.wrap (Yz x.2.2.2.2 86400))));Sj (λt4=>k1 t4) (λ_=>k2 ()) t x))))
def VG{β:Type}:=hid (xN (β:=β))
def AAz:Pb:=⟨3711,AjT,λ_=>VG,pe (p:=AjT) VE [AAy] 3711 (g:=λ_=>xN)⟩
def xO{β:Type}(k1:AAs β)(k2:AAt β):AAu β:=λANV x=>Yk ANV (k1 1) (Yk (Yd (x.1=(2:Yh))) (let t:=(Yd (x.2.1=x.2.2.1));VG (λt4=>k1 t4) (λ_=>k2 ()) t x) (VG (λt4=>k1 t4) (λ_=>k2 ()) Yi x))
def VH{β:Type}:=hid (xO (β:=β))
def AAA:Pb:=⟨927,AjU,λ_=>VH,pe (p:=AjU) VE [AAz] 927 (g:=λ_=>xO)⟩
def xP{β:Type}(k1:AAv β)(k2:AAw β):AAx β:=λBM x=>Yk BM (k1 3) (Yk (!Yd (x.1=(2:Yh))) (let t:=(!Yd (x.2.2.1=(0:Yh)));VH (λt4=>k1 t4) (λ_=>k2 ()) t x) (VH (λt4=>k1 t4) (λ_=>k2 ()) Yi x))
def KZ{β:Type}:=hid (xP (β:=β))
def AAB:Pb:=⟨231,AjV,λ_=>KZ,pe (p:=AjV) VE [AAA] 231 (g:=λ_=>xP)⟩
def eX:AAl:=hid λc x k=>FY x.1 0 2 (λD2=>Yk (!D2) (k 1) (FY x.2.1 0 (Yc.wrap ((Yb c.2.1:Yh)-(1:Yh))) (λJS=>Yk (!JS) (Yk (!Yd (x.1=(1:Yh))) (KZ (λt4=>k t4) (λ_=>k 0) Yp x) (Yk (!Yd (x.2.1=(-1:Yh))) (KZ (λt4=>k t4) (λ_=>k 0) Yp x) (Yk (Yd (x.1=(2:Yh))) (FY x.2.2.1 0 (Yc.wrap ((Yb c.2.1:Yh)-(1:Yh))) (λLy=>KZ (λt4=>k t4) (λ_=>k 0) (!Ly) x)) (KZ (λt4=>k t4) (λ_=>k 0) Yi x)))) (Yk (Yd (x.1=(2:Yh))) (FY x.2.2.1 0 (Yc.wrap ((Yb c.2.1:Yh)-(1:Yh))) (λLy=>KZ (λt4=>k t4) (λ_=>k 0) (!Ly) x)) (KZ (λt4=>k t4) (λ_=>k 0) Yi x)))))
def AAC:En:=⟨130,.spec (sg [Dm,RJ] [] [Aa] [] eX),pf VE [AAB] [.tmp 4] Tryz.func130⟩
abbrev AAD:={β:Type}->Cm->(Ys->Ya β)->Ya β
def AjW:Ye En:=[Ail]
abbrev AjX(β:Type):=Cm->Ya β
abbrev xQ(β:Type):=Cm->(Ye Yj×Ye Yj)->Yh->Ya β
def AjY:Pc:=⟨60,0,Ay 122 (Au Tryz.f136),⟨0,[0,16,17],[DQ,(Yp,[.data (.prod .str .str)]),Aa],[]⟩,[(.exit 0,⟨0,[0],[DQ],[]⟩)]⟩
def AjZ{β:Type}(rec:xQ β)(k1:AjX β):xQ β:=λl EN Im=>Yk (Yd (Im<(2:Yh))) (Yk (Yd (0<=Im)&&Yd (Im<(Yb ([EN.1,EN.2]:Ye Am):Yh))) (let e:=Ym ([EN.1,EN.2]:Ye Am) (Yl Im) ([]:Ye Yj);Yk (Yd ((2:Yh)<=(Yb l:Yh))) (Yk (Yd (0<=(0:Yh))&&(Yd ((0:Yh)<=(2:Yh))&&Yd ((2:Yh)<=(Yb l:Yh)))) (PR (Y4 (Yl 0) (Y5 (Yl 2) l)) (λrkinds=>Yk (Yd (rkinds=([119,110]:Ye Yj))) (Yk (Yd (0<=(0:Yh))&&Yd ((0:Yh)<(Yb l:Yh))) (let e2:=Ym l (Yl 0) (0,(([]:Ye Yj),0));Yk (Yd (e2.2.1=e)) (Yk (Yd (0<=(2:Yh))&&(Yd ((2:Yh)<=(Yb l:Yh))&&Yd ((Yb l:Yh)<=(Yb l:Yh)))) (let l2:=(Y4 (Yl 2) (Y5 (Yl (Yb l:Yh)) l));rec l2 EN (Yc.wrap (Im+(1:Yh)))) Yf) (rec l EN (Yc.wrap (Im+(1:Yh))))) Yf) (rec l EN (Yc.wrap (Im+(1:Yh)))))) Yf) (rec l EN (Yc.wrap (Im+(1:Yh))))) Yf) (k1 l)
def eY(m:Yn){β:Type}(k1:AjX β):xQ β:=D7 (λr=>AjZ r k1) Yf m
theorem AO9{β:Type}(i:Yn)(k1):eY (β:=β) (i+1) k1=AjZ (eY i k1) k1:=rfl
def Ak0{β:Type}:=hid (eY (β:=β) fuel)
def AAE:Pb:=⟨122,AjY,λ_=>Ak0,pl (p:=AjY) AjW [] (g:=λi _=>eY i)⟩
def Ak1:AAD:=hid λl k=>Yk (Yd ((Yb l:Yh)<(2:Yh))) (k Yi) (Yk (Yd (0<=(0:Yh))&&(Yd ((0:Yh)<=(2:Yh))&&Yd ((2:Yh)<=(Yb l:Yh)))) (PR (Y4 (Yl 0) (Y5 (Yl 2) l)) (λrkinds=>Yk (!Yd (rkinds=([119,119]:Ye Yj))) (k Yi) (Yk (Yd (0<=(2:Yh))&&(Yd ((2:Yh)<=(Yb l:Yh))&&Yd ((Yb l:Yh)<=(Yb l:Yh)))) (let l2:=(Y4 (Yl 2) (Y5 (Yl (Yb l:Yh)) l));Ak0 (λl3=>Yk (Yd ((Yb l3:Yh)=(0:Yh))) (k Yp) (Yk (Yd ((Yb l3:Yh)=(1:Yh))) (PR l3 (λrkinds2=>Yk (Yd (rkinds2=([119]:Ye Yj))) (Yk (Yd (0<=(0:Yh))&&Yd ((0:Yh)<(Yb l3:Yh))) (let e:=Ym l3 (Yl 0) (0,(([]:Ye Yj),0));let t:=(Yd (e.2.1=([99,111,110,115,101,110,116]:Ye Yj)));k t) Yf) (k Yi))) (k Yi))) l2 (([119,101,101,107]:Ye Yj),([114,101,115,116]:Ye Yj)) 0) Yf))) Yf)
def AAF:En:=⟨136,.spec (sg [DQ] [] [AK] [] Ak1),pf AjW [AAE] [.tmp 2] Tryz.func136⟩
abbrev AAG:={β:Type}->Yh->Ys->(Am->Ya β)->Ya β
def La:AAG:=hid λn long k=>J8 (Yc.wrap (Yz n 3600)) (λrtwo=>Yk (Yd (Yb rtwo+Yb ([58]:Ye Yj)<=9223372036854775807)) (J8 (Yv (Yc.wrap (Yz n 60)) 60) (λrtwo2=>Yk (Yd (Yb (rtwo++([58]:Ye Yj))+Yb rtwo2<=9223372036854775807)) (let s:=((rtwo++([58]:Ye Yj))++rtwo2);Yk long (J8 (Yv n 60) (λrtwo3=>Yk (Yd (Yb ([58]:Ye Yj)+Yb rtwo3<=9223372036854775807)) (Yk (Yd (Yb s+Yb (([58]:Ye Yj)++rtwo3)<=9223372036854775807)) (let s2:=(s++(([58]:Ye Yj)++rtwo3));k s2) Yf) Yf)) (Yk (!Yd ((Yv n 60)=0)) (J8 (Yv n 60) (λrtwo3=>Yk (Yd (Yb ([58]:Ye Yj)+Yb rtwo3<=9223372036854775807)) (Yk (Yd (Yb s+Yb (([58]:Ye Yj)++rtwo3)<=9223372036854775807)) (let s2:=(s++(([58]:Ye Yj)++rtwo3));k s2) Yf) Yf)) (k s))) Yf)) Yf)
def AAH:En:=⟨140,.spec (sg [Aa,AK] [] [AI] [] La),pf [Aiz] [] [.tmp 4] Tryz.func140⟩
abbrev AAI:={β:Type}->Yh->(Am->Ya β)->Ya β
def xR:AAI:=hid λn k=>Yk (Yd (n<0)) (dJ (Yas.wrap ((Yas.wrap (Yc.wrap (0-(Yc.wrap (n+1)))))+1)) (λrdigits=>Yk (Yd (Yb ([45]:Ye Yj)+Yb rdigits<=9223372036854775807)) (let t:=(([45]:Ye Yj)++rdigits);k t) Yf)) (dJ (Yas.wrap n) (λrdigits=>k rdigits))
def AAJ:En:=⟨141,.spec (sg [Aa] [] [AI] [] xR),pf [Ay0] [] [.tmp 2] Tryz.func141⟩
end
end Go.Lift
