/- Part20 -/
import Derived.KernelRfl
import Derived.Test.YtegofjgkamhgaaaGreatDoorPart18
set_option linter.unusedVariables false
set_option linter.unusedSectionVars false
set_option linter.unusedSimpArgs false
open _root_ renaming Option → Ybm, List → Ybp, Bool → Ybr, UInt8 → Ybt
open Bool renaming false → Ybo, true → Ybq
namespace Go.Lift
set_option maxRecDepth 100000
theorem tfk0{β:Type}(k:Ybr->Ybm β):@JY (Sl.mk 0) β [97,112,112] k=k Ybq:=by kernel_rfl
theorem tfk1{β:Type}(k:Ybr->Ybm β):@JY (Sl.mk 0) β [104,111,115,116] k=k Ybq:=by kernel_rfl
theorem tfk2{β:Type}(k:Ybr->Ybm β):@JY (Sl.mk 0) β [115,101,118] k=k Ybq:=by kernel_rfl
theorem tfk3{β:Type}(k:Ybr->Ybm β):@JY (Sl.mk 0) β [116,101,97,109] k=k Ybq:=by kernel_rfl
theorem tfk4{β:Type}(k:Ybr->Ybm β):@JY (Sl.mk 0) β [122,111,110,101] k=k Ybq:=by kernel_rfl
theorem tfv0{β:Type}(k:Ybr->Ybm β):@Fj (Sl.mk 0) β ([]:Ybp Ybt) k=k Ybq:=by kernel_rfl
theorem tfq0{β:Type}(k:Ybp Ybt->Ybm β):@Kb (Sl.mk 0) β ([]:Ybp Ybt) k=k (qV ([]:Ybp Ybt)):=by kernel_rfl
theorem tfv1{β:Type}(k:Ybr->Ybm β):@Fj (Sl.mk 0) β [97] k=k Ybq:=by kernel_rfl
theorem tfq1{β:Type}(k:Ybp Ybt->Ybm β):@Kb (Sl.mk 0) β [97] k=k (qV [97]):=by kernel_rfl
theorem tfv2{β:Type}(k:Ybr->Ybm β):@Fj (Sl.mk 0) β [98] k=k Ybq:=by kernel_rfl
theorem tfq2{β:Type}(k:Ybp Ybt->Ybm β):@Kb (Sl.mk 0) β [98] k=k (qV [98]):=by kernel_rfl
theorem tfv3{β:Type}(k:Ybr->Ybm β):@Fj (Sl.mk 0) β [99,114,105,116] k=k Ybq:=by kernel_rfl
theorem tfq3{β:Type}(k:Ybp Ybt->Ybm β):@Kb (Sl.mk 0) β [99,114,105,116] k=k (qV [99,114,105,116]):=by kernel_rfl
theorem tfv4{β:Type}(k:Ybr->Ybm β):@Fj (Sl.mk 0) β [97,34,98,92] k=k Ybq:=by kernel_rfl
theorem tfq4{β:Type}(k:Ybp Ybt->Ybm β):@Kb (Sl.mk 0) β [97,34,98,92] k=k (qV [97,34,98,92]):=by kernel_rfl
theorem tfv5{β:Type}(k:Ybr->Ybm β):@Fj (Sl.mk 0) β [119,101,98,45,49] k=k Ybq:=by kernel_rfl
theorem tfq5{β:Type}(k:Ybp Ybt->Ybm β):@Kb (Sl.mk 0) β [119,101,98,45,49] k=k (qV [119,101,98,45,49]):=by kernel_rfl
theorem tfv6{β:Type}(k:Ybr->Ybm β):@Fj (Sl.mk 0) β [109,105,110,101] k=k Ybq:=by kernel_rfl
theorem tfq6{β:Type}(k:Ybp Ybt->Ybm β):@Kb (Sl.mk 0) β [109,105,110,101] k=k (qV [109,105,110,101]):=by kernel_rfl
theorem tfp0{β:Type}(k:Ybr->Ybm β):@Fj (Sl.mk 0) β [97] k=k Ybq:=by kernel_rfl
theorem tfp1{β:Type}(k:Ybr->Ybm β):@Fj (Sl.mk 0) β [98] k=k Ybq:=by kernel_rfl
theorem tfp2{β:Type}(k:Ybr->Ybm β):@Fj (Sl.mk 0) β ([]:Ybp Ybt) k=k Ybq:=by kernel_rfl
theorem tfp3{β:Type}(k:Ybr->Ybm β):@Fj (Sl.mk 0) β [42] k=k Ybq:=by kernel_rfl
theorem tfp4{β:Type}(k:Ybr->Ybm β):@Fj (Sl.mk 0) β [99,114,105,116] k=k Ybq:=by kernel_rfl
theorem tfp5{β:Type}(k:Ybr->Ybm β):@Fj (Sl.mk 0) β [63] k=k Ybq:=by kernel_rfl
theorem tfp6{β:Type}(k:Ybr->Ybm β):@Fj (Sl.mk 0) β [119,101,98,45,42] k=k Ybq:=by kernel_rfl
theorem tfp7{β:Type}(k:Ybr->Ybm β):@Fj (Sl.mk 0) β [97,34,98,92] k=k Ybq:=by kernel_rfl
theorem AC0:∃b,∀{β:Type}(k:Ybr->Ybm β),@Bw (Sl.mk 0) β [97] ([]:Ybp Ybt) k=k b:=⟨Ybo,λk=>by kernel_rfl⟩
theorem AC1:∃b,∀{β:Type}(k:Ybr->Ybm β),@Bw (Sl.mk 0) β [97] [97] k=k b:=⟨Ybq,λk=>by kernel_rfl⟩
theorem AC2:∃b,∀{β:Type}(k:Ybr->Ybm β),@Bw (Sl.mk 0) β [97] [98] k=k b:=⟨Ybo,λk=>by kernel_rfl⟩
theorem AC3:∃b,∀{β:Type}(k:Ybr->Ybm β),@Bw (Sl.mk 0) β [97] [99,114,105,116] k=k b:=⟨Ybo,λk=>by kernel_rfl⟩
theorem AC4:∃b,∀{β:Type}(k:Ybr->Ybm β),@Bw (Sl.mk 0) β [97] [97,34,98,92] k=k b:=⟨Ybo,λk=>by kernel_rfl⟩
theorem AC5:∃b,∀{β:Type}(k:Ybr->Ybm β),@Bw (Sl.mk 0) β [97] [119,101,98,45,49] k=k b:=⟨Ybo,λk=>by kernel_rfl⟩
theorem AC6:∃b,∀{β:Type}(k:Ybr->Ybm β),@Bw (Sl.mk 0) β [97] [109,105,110,101] k=k b:=⟨Ybo,λk=>by kernel_rfl⟩
theorem AC7:∃b,∀{β:Type}(k:Ybr->Ybm β),@Bw (Sl.mk 0) β [98] ([]:Ybp Ybt) k=k b:=⟨Ybo,λk=>by kernel_rfl⟩
theorem AC8:∃b,∀{β:Type}(k:Ybr->Ybm β),@Bw (Sl.mk 0) β [98] [97] k=k b:=⟨Ybo,λk=>by kernel_rfl⟩
theorem AC9:∃b,∀{β:Type}(k:Ybr->Ybm β),@Bw (Sl.mk 0) β [98] [98] k=k b:=⟨Ybq,λk=>by kernel_rfl⟩
theorem ACa:∃b,∀{β:Type}(k:Ybr->Ybm β),@Bw (Sl.mk 0) β [98] [99,114,105,116] k=k b:=⟨Ybo,λk=>by kernel_rfl⟩
theorem ACb:∃b,∀{β:Type}(k:Ybr->Ybm β),@Bw (Sl.mk 0) β [98] [97,34,98,92] k=k b:=⟨Ybo,λk=>by kernel_rfl⟩
theorem ACc:∃b,∀{β:Type}(k:Ybr->Ybm β),@Bw (Sl.mk 0) β [98] [119,101,98,45,49] k=k b:=⟨Ybo,λk=>by kernel_rfl⟩
theorem ACd:∃b,∀{β:Type}(k:Ybr->Ybm β),@Bw (Sl.mk 0) β [98] [109,105,110,101] k=k b:=⟨Ybo,λk=>by kernel_rfl⟩
theorem ACe:∃b,∀{β:Type}(k:Ybr->Ybm β),@Bw (Sl.mk 0) β ([]:Ybp Ybt) ([]:Ybp Ybt) k=k b:=⟨Ybq,λk=>by kernel_rfl⟩
theorem ACf:∃b,∀{β:Type}(k:Ybr->Ybm β),@Bw (Sl.mk 0) β ([]:Ybp Ybt) [97] k=k b:=⟨Ybo,λk=>by kernel_rfl⟩
theorem ACg:∃b,∀{β:Type}(k:Ybr->Ybm β),@Bw (Sl.mk 0) β ([]:Ybp Ybt) [98] k=k b:=⟨Ybo,λk=>by kernel_rfl⟩
theorem ACh:∃b,∀{β:Type}(k:Ybr->Ybm β),@Bw (Sl.mk 0) β ([]:Ybp Ybt) [99,114,105,116] k=k b:=⟨Ybo,λk=>by kernel_rfl⟩
theorem ACi:∃b,∀{β:Type}(k:Ybr->Ybm β),@Bw (Sl.mk 0) β ([]:Ybp Ybt) [97,34,98,92] k=k b:=⟨Ybo,λk=>by kernel_rfl⟩
theorem ACj:∃b,∀{β:Type}(k:Ybr->Ybm β),@Bw (Sl.mk 0) β ([]:Ybp Ybt) [119,101,98,45,49] k=k b:=⟨Ybo,λk=>by kernel_rfl⟩
theorem ACk:∃b,∀{β:Type}(k:Ybr->Ybm β),@Bw (Sl.mk 0) β ([]:Ybp Ybt) [109,105,110,101] k=k b:=⟨Ybo,λk=>by kernel_rfl⟩
theorem ACl:∃b,∀{β:Type}(k:Ybr->Ybm β),@Bw (Sl.mk 0) β [42] ([]:Ybp Ybt) k=k b:=⟨Ybq,λk=>by kernel_rfl⟩
theorem ACm:∃b,∀{β:Type}(k:Ybr->Ybm β),@Bw (Sl.mk 0) β [42] [97] k=k b:=⟨Ybq,λk=>by kernel_rfl⟩
theorem ACn:∃b,∀{β:Type}(k:Ybr->Ybm β),@Bw (Sl.mk 0) β [42] [98] k=k b:=⟨Ybq,λk=>by kernel_rfl⟩
theorem ACo:∃b,∀{β:Type}(k:Ybr->Ybm β),@Bw (Sl.mk 0) β [42] [99,114,105,116] k=k b:=⟨Ybq,λk=>by kernel_rfl⟩
theorem ACp:∃b,∀{β:Type}(k:Ybr->Ybm β),@Bw (Sl.mk 0) β [42] [97,34,98,92] k=k b:=⟨Ybq,λk=>by kernel_rfl⟩
theorem ACq:∃b,∀{β:Type}(k:Ybr->Ybm β),@Bw (Sl.mk 0) β [42] [119,101,98,45,49] k=k b:=⟨Ybq,λk=>by kernel_rfl⟩
theorem ACr:∃b,∀{β:Type}(k:Ybr->Ybm β),@Bw (Sl.mk 0) β [42] [109,105,110,101] k=k b:=⟨Ybq,λk=>by kernel_rfl⟩
theorem ACs:∃b,∀{β:Type}(k:Ybr->Ybm β),@Bw (Sl.mk 0) β [99,114,105,116] ([]:Ybp Ybt) k=k b:=⟨Ybo,λk=>by kernel_rfl⟩
theorem ACt:∃b,∀{β:Type}(k:Ybr->Ybm β),@Bw (Sl.mk 0) β [99,114,105,116] [97] k=k b:=⟨Ybo,λk=>by kernel_rfl⟩
theorem ACu:∃b,∀{β:Type}(k:Ybr->Ybm β),@Bw (Sl.mk 0) β [99,114,105,116] [98] k=k b:=⟨Ybo,λk=>by kernel_rfl⟩
theorem ACv:∃b,∀{β:Type}(k:Ybr->Ybm β),@Bw (Sl.mk 0) β [99,114,105,116] [99,114,105,116] k=k b:=⟨Ybq,λk=>by kernel_rfl⟩
theorem ACw:∃b,∀{β:Type}(k:Ybr->Ybm β),@Bw (Sl.mk 0) β [99,114,105,116] [97,34,98,92] k=k b:=⟨Ybo,λk=>by kernel_rfl⟩
theorem ACx:∃b,∀{β:Type}(k:Ybr->Ybm β),@Bw (Sl.mk 0) β [99,114,105,116] [119,101,98,45,49] k=k b:=⟨Ybo,λk=>by kernel_rfl⟩
theorem ACy:∃b,∀{β:Type}(k:Ybr->Ybm β),@Bw (Sl.mk 0) β [99,114,105,116] [109,105,110,101] k=k b:=⟨Ybo,λk=>by kernel_rfl⟩
theorem ACz:∃b,∀{β:Type}(k:Ybr->Ybm β),@Bw (Sl.mk 0) β [63] ([]:Ybp Ybt) k=k b:=⟨Ybo,λk=>by kernel_rfl⟩
theorem ACA:∃b,∀{β:Type}(k:Ybr->Ybm β),@Bw (Sl.mk 0) β [63] [97] k=k b:=⟨Ybq,λk=>by kernel_rfl⟩
theorem ACB:∃b,∀{β:Type}(k:Ybr->Ybm β),@Bw (Sl.mk 0) β [63] [98] k=k b:=⟨Ybq,λk=>by kernel_rfl⟩
theorem ACC:∃b,∀{β:Type}(k:Ybr->Ybm β),@Bw (Sl.mk 0) β [63] [99,114,105,116] k=k b:=⟨Ybo,λk=>by kernel_rfl⟩
theorem ACD:∃b,∀{β:Type}(k:Ybr->Ybm β),@Bw (Sl.mk 0) β [63] [97,34,98,92] k=k b:=⟨Ybo,λk=>by kernel_rfl⟩
theorem ACE:∃b,∀{β:Type}(k:Ybr->Ybm β),@Bw (Sl.mk 0) β [63] [119,101,98,45,49] k=k b:=⟨Ybo,λk=>by kernel_rfl⟩
theorem ACF:∃b,∀{β:Type}(k:Ybr->Ybm β),@Bw (Sl.mk 0) β [63] [109,105,110,101] k=k b:=⟨Ybo,λk=>by kernel_rfl⟩
theorem ACG:∃b,∀{β:Type}(k:Ybr->Ybm β),@Bw (Sl.mk 0) β [119,101,98,45,42] ([]:Ybp Ybt) k=k b:=⟨Ybo,λk=>by kernel_rfl⟩
theorem ACH:∃b,∀{β:Type}(k:Ybr->Ybm β),@Bw (Sl.mk 0) β [119,101,98,45,42] [97] k=k b:=⟨Ybo,λk=>by kernel_rfl⟩
theorem ACI:∃b,∀{β:Type}(k:Ybr->Ybm β),@Bw (Sl.mk 0) β [119,101,98,45,42] [98] k=k b:=⟨Ybo,λk=>by kernel_rfl⟩
theorem ACJ:∃b,∀{β:Type}(k:Ybr->Ybm β),@Bw (Sl.mk 0) β [119,101,98,45,42] [99,114,105,116] k=k b:=⟨Ybo,λk=>by kernel_rfl⟩
theorem ACK:∃b,∀{β:Type}(k:Ybr->Ybm β),@Bw (Sl.mk 0) β [119,101,98,45,42] [97,34,98,92] k=k b:=⟨Ybo,λk=>by kernel_rfl⟩
theorem ACL:∃b,∀{β:Type}(k:Ybr->Ybm β),@Bw (Sl.mk 0) β [119,101,98,45,42] [119,101,98,45,49] k=k b:=⟨Ybq,λk=>by kernel_rfl⟩
theorem ACM:∃b,∀{β:Type}(k:Ybr->Ybm β),@Bw (Sl.mk 0) β [119,101,98,45,42] [109,105,110,101] k=k b:=⟨Ybo,λk=>by kernel_rfl⟩
theorem ACN:∃b,∀{β:Type}(k:Ybr->Ybm β),@Bw (Sl.mk 0) β [97,34,98,92] ([]:Ybp Ybt) k=k b:=⟨Ybo,λk=>by kernel_rfl⟩
theorem ACO:∃b,∀{β:Type}(k:Ybr->Ybm β),@Bw (Sl.mk 0) β [97,34,98,92] [97] k=k b:=⟨Ybo,λk=>by kernel_rfl⟩
theorem ACP:∃b,∀{β:Type}(k:Ybr->Ybm β),@Bw (Sl.mk 0) β [97,34,98,92] [98] k=k b:=⟨Ybo,λk=>by kernel_rfl⟩
theorem ACQ:∃b,∀{β:Type}(k:Ybr->Ybm β),@Bw (Sl.mk 0) β [97,34,98,92] [99,114,105,116] k=k b:=⟨Ybo,λk=>by kernel_rfl⟩
theorem ACR:∃b,∀{β:Type}(k:Ybr->Ybm β),@Bw (Sl.mk 0) β [97,34,98,92] [97,34,98,92] k=k b:=⟨Ybq,λk=>by kernel_rfl⟩
theorem ACS:∃b,∀{β:Type}(k:Ybr->Ybm β),@Bw (Sl.mk 0) β [97,34,98,92] [119,101,98,45,49] k=k b:=⟨Ybo,λk=>by kernel_rfl⟩
theorem ACT:∃b,∀{β:Type}(k:Ybr->Ybm β),@Bw (Sl.mk 0) β [97,34,98,92] [109,105,110,101] k=k b:=⟨Ybo,λk=>by kernel_rfl⟩
theorem tfm{β:Type}(k:Ybp Ybt->Ybm β):@Zp (Sl.mk 0) β Bm k=k Cy:=by kernel_rfl
theorem IW{α:Type}{P:α->Prop}:∀{l:Ybp α},(List.foldr (λx q=>P x/\q) True l)->∀x∈l,P x
 |[],_,x,h=>absurd h (by simp)
 |y::l,h,x,hx=>by
  rcases Bg.mp hx with rfl|hx
  ·exact h.1
  ·exact IW h.2 x hx
theorem tfK:∀s∈Kc,∀{β:Type}(k:Ybr->Ybm β),@JY (Sl.mk 0) β s k=k Ybq:=IW (P:=λs=>∀{β:Type}(k:Ybr->Ybm β),@JY (Sl.mk 0) β s k=k Ybq) (l:=Kc) ⟨tfk0,tfk1,tfk2,tfk3,tfk4,trivial⟩
theorem tfV:∀s∈DD,∀{β:Type}(k:Ybr->Ybm β),@Fj (Sl.mk 0) β s k=k Ybq:=IW (P:=λs=>∀{β:Type}(k:Ybr->Ybm β),@Fj (Sl.mk 0) β s k=k Ybq) (l:=DD) ⟨tfv0,tfv1,tfv2,tfv3,tfv4,tfv5,tfv6,trivial⟩
theorem tfP:∀s∈Ny,∀{β:Type}(k:Ybr->Ybm β),@Fj (Sl.mk 0) β s k=k Ybq:=IW (P:=λs=>∀{β:Type}(k:Ybr->Ybm β),@Fj (Sl.mk 0) β s k=k Ybq) (l:=Ny) ⟨tfp0,tfp1,tfp2,tfp3,tfp4,tfp5,tfp6,tfp7,trivial⟩
theorem tfQ:∀s∈DD,∀{β:Type}(k:Ybp Ybt->Ybm β),@Kb (Sl.mk 0) β s k=k (qV s):=IW (P:=λs=>∀{β:Type}(k:Ybp Ybt->Ybm β),@Kb (Sl.mk 0) β s k=k (qV s)) (l:=DD) ⟨tfq0,tfq1,tfq2,tfq3,tfq4,tfq5,tfq6,trivial⟩
theorem tfl0:∀v∈DD,∃b,∀{β:Type}(k:Ybr->Ybm β),@Bw (Sl.mk 0) β [97] v k=k b:=IW (P:=λv=>∃b,∀{β:Type}(k:Ybr->Ybm β),@Bw (Sl.mk 0) β [97] v k=k b) (l:=DD) ⟨AC0,AC1,AC2,AC3,AC4,AC5,AC6,trivial⟩
theorem tfl1:∀v∈DD,∃b,∀{β:Type}(k:Ybr->Ybm β),@Bw (Sl.mk 0) β [98] v k=k b:=IW (P:=λv=>∃b,∀{β:Type}(k:Ybr->Ybm β),@Bw (Sl.mk 0) β [98] v k=k b) (l:=DD) ⟨AC7,AC8,AC9,ACa,ACb,ACc,ACd,trivial⟩
theorem tfl2:∀v∈DD,∃b,∀{β:Type}(k:Ybr->Ybm β),@Bw (Sl.mk 0) β ([]:Ybp Ybt) v k=k b:=IW (P:=λv=>∃b,∀{β:Type}(k:Ybr->Ybm β),@Bw (Sl.mk 0) β ([]:Ybp Ybt) v k=k b) (l:=DD) ⟨ACe,ACf,ACg,ACh,ACi,ACj,ACk,trivial⟩
theorem tfl3:∀v∈DD,∃b,∀{β:Type}(k:Ybr->Ybm β),@Bw (Sl.mk 0) β [42] v k=k b:=IW (P:=λv=>∃b,∀{β:Type}(k:Ybr->Ybm β),@Bw (Sl.mk 0) β [42] v k=k b) (l:=DD) ⟨ACl,ACm,ACn,ACo,ACp,ACq,ACr,trivial⟩
theorem tfl4:∀v∈DD,∃b,∀{β:Type}(k:Ybr->Ybm β),@Bw (Sl.mk 0) β [99,114,105,116] v k=k b:=IW (P:=λv=>∃b,∀{β:Type}(k:Ybr->Ybm β),@Bw (Sl.mk 0) β [99,114,105,116] v k=k b) (l:=DD) ⟨ACs,ACt,ACu,ACv,ACw,ACx,ACy,trivial⟩
theorem tfl5:∀v∈DD,∃b,∀{β:Type}(k:Ybr->Ybm β),@Bw (Sl.mk 0) β [63] v k=k b:=IW (P:=λv=>∃b,∀{β:Type}(k:Ybr->Ybm β),@Bw (Sl.mk 0) β [63] v k=k b) (l:=DD) ⟨ACz,ACA,ACB,ACC,ACD,ACE,ACF,trivial⟩
theorem tfl6:∀v∈DD,∃b,∀{β:Type}(k:Ybr->Ybm β),@Bw (Sl.mk 0) β [119,101,98,45,42] v k=k b:=IW (P:=λv=>∃b,∀{β:Type}(k:Ybr->Ybm β),@Bw (Sl.mk 0) β [119,101,98,45,42] v k=k b) (l:=DD) ⟨ACG,ACH,ACI,ACJ,ACK,ACL,ACM,trivial⟩
theorem tfl7:∀v∈DD,∃b,∀{β:Type}(k:Ybr->Ybm β),@Bw (Sl.mk 0) β [97,34,98,92] v k=k b:=IW (P:=λv=>∃b,∀{β:Type}(k:Ybr->Ybm β),@Bw (Sl.mk 0) β [97,34,98,92] v k=k b) (l:=DD) ⟨ACN,ACO,ACP,ACQ,ACR,ACS,ACT,trivial⟩
theorem tfL:∀p∈Ny,∀v∈DD,∃b,∀{β:Type}(k:Ybr->Ybm β),@Bw (Sl.mk 0) β p v k=k b:=IW (P:=λp=>∀v∈DD,∃b,∀{β:Type}(k:Ybr->Ybm β),@Bw (Sl.mk 0) β p v k=k b) (l:=Ny) ⟨tfl0,tfl1,tfl2,tfl3,tfl4,tfl5,tfl6,tfl7,trivial⟩
theorem tfA{β:Type}(k:Ybr->Ybm β):@Rh (Sl.mk 0) β k=k Ybq:=by kernel_rfl
theorem ACU:@TopFacts (Sl.mk 0):=@TopFacts.mk (Sl.mk 0) tfA tfK tfV tfP tfQ tfL tfm
end Go.Lift
