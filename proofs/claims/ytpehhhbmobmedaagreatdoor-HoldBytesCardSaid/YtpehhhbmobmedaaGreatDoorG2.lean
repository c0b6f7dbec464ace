/- A machine of values over the model: bits of numbers. -/
import Derived.Test.YtpehhhbmobmedaaGreatDoorGQ
import Derived.Lib.Mul64
import Derived.Laws.Bits64b
namespace Go.Proofs.YtpehhhbmobmedaaGreatDoor
set_option linter.unusedVariables false
set_option linter.unusedSimpArgs false
set_option linter.unusedSectionVars false
open Go.RowKit
attribute [local irreducible] Tr Run RunD GS TG Le Wk Frz Fn' ImmG Flat WkFr WkSt
section
variable {P:Program} {t:TypeId} {x y:Operand}
theorem gb_and {k:IntKind} {a b:Int}:gbin P .and t x y (.lit (.int k a)) (.lit (.int k b)) = some (.lit (.int k (k.wrap ((BitVec.ofInt k.bits a &&& BitVec.ofInt k.bits b).toNat:Nat)))):=by simp [gbin,gval,eqGuard,binOp,Op.intBits,spure_pure,glit]
theorem and_mod (a n:Nat) (hn:n ≤ 64):(BitVec.ofInt IntKind.u64.bits (a:Int) &&& BitVec.ofInt IntKind.u64.bits (((2 ^ n - 1:Nat):Nat):Int)).toNat = a % 2 ^ n:=by
 have h1:(2:Nat) ^ n ≤ 2 ^ 64:=Nat.pow_le_pow_right (by omega) hn
 have h2:0 < 2 ^ n:=Nat.two_pow_pos n
 show (BitVec.ofInt 64 (a:Int) &&& BitVec.ofInt 64 (((2 ^ n - 1:Nat):Nat):Int)).toNat = a % 2 ^ n
 rw [BitVec.ofInt_natCast,BitVec.ofInt_natCast,BitVec.toNat_and,BitVec.toNat_ofNat,BitVec.toNat_ofNat,Nat.mod_eq_of_lt (a:=2 ^ n - 1) (by omega),Nat.and_two_pow_sub_one_eq_mod,Nat.mod_mod_of_dvd _ (Nat.pow_dvd_pow 2 hn)]
theorem gb_and32 {a:Nat}:gbin P .and t x y (.lit (.int .u64 (a:Int))) (.lit (.int .u64 4294967295)) = some (.lit (.int .u64 ((a % 4294967296:Nat):Int))):=by
 have h:=and_mod a 32 (by omega)
 have e:((2 ^ 32 - 1:Nat):Int) = 4294967295:=by decide
 rw [e] at h
 rw [gb_and,h,IntKind.wrap_u64]
 have:a % 2 ^ 32 = a % 4294967296:=rfl
 rw [this]
 congr 3
 omega
theorem gb_and61 {a:Nat}:gbin P .and t x y (.lit (.int .u64 (a:Int))) (.lit (.int .u64 2305843009213693951)) = some (.lit (.int .u64 ((a % 2305843009213693952:Nat):Int))):=by
 have h:=and_mod a 61 (by omega)
 have e:((2 ^ 61 - 1:Nat):Int) = 2305843009213693951:=by decide
 rw [e] at h
 rw [gb_and,h,IntKind.wrap_u64]
 have:a % 2 ^ 61 = a % 2305843009213693952:=rfl
 rw [this]
 congr 3
 omega
theorem gb_shr {k:IntKind} {a:Int} (n:Nat) (hn:n ≤ k.bits):gbin P .shr t x y (.lit (.int k a)) (.lit (.int k (n:Int))) = some (.lit (.int k (a.fdiv (2 ^ n)))):=by
 have h1:¬ ((n:Int) < 0):=by omega
 have h2:min n k.bits = n:=Nat.min_eq_left hn
 simp [gbin,gval,eqGuard,binOp,Op.shift,glit,h2,if_neg h1]
 exact ⟨_,rfl,rfl⟩
theorem gb_shl {k:IntKind} {a:Int} (n:Nat) (hn:n ≤ k.bits):gbin P .shl t x y (.lit (.int k a)) (.lit (.int k (n:Int))) = some (.lit (.int k (k.wrap (a * 2 ^ n)))):=by
 have h1:¬ ((n:Int) < 0):=by omega
 have h2:min n k.bits = n:=Nat.min_eq_left hn
 simp [gbin,gval,eqGuard,binOp,Op.shift,glit,h2,if_neg h1]
 exact ⟨_,rfl,rfl⟩
theorem gb_shr61 {a:Nat}:gbin P .shr t x y (.lit (.int .u64 (a:Int))) (.lit (.int .u64 61)) = some (.lit (.int .u64 ((a / 2305843009213693952:Nat):Int))):=by
 rw [show (61:Int) = ((61:Nat):Int) from rfl,gb_shr 61 (by decide)]
 have:(a:Int).fdiv (2 ^ 61) = ((a / 2305843009213693952:Nat):Int):=by
  rw [Int.fdiv_eq_ediv_of_nonneg _ (by decide)]
  have e:(2:Int) ^ 61 = 2305843009213693952:=by decide
  rw [e]; omega
 rw [this]
theorem gb_shr32 {a:Nat}:gbin P .shr t x y (.lit (.int .u64 (a:Int))) (.lit (.int .u64 32)) = some (.lit (.int .u64 ((a / 4294967296:Nat):Int))):=by
 rw [show (32:Int) = ((32:Nat):Int) from rfl,gb_shr 32 (by decide)]
 have:(a:Int).fdiv (2 ^ 32) = ((a / 4294967296:Nat):Int):=by
  rw [Int.fdiv_eq_ediv_of_nonneg _ (by decide)]
  have e:(2:Int) ^ 32 = 4294967296:=by decide
  rw [e]; omega
 rw [this]
theorem gb_or64 {a b:Nat} (ha:a < 2 ^ 63) (hb:b < 2 ^ 63):gbin P .or t x y (.lit (.int .i64 (a:Int))) (.lit (.int .i64 (b:Int))) = some (.lit (.int .i64 ((a ||| b:Nat):Int))):=by
 have h:gbin P .or t x y (.lit (.int .i64 (a:Int))) (.lit (.int .i64 (b:Int))) = some (.lit (.int .i64 (IntKind.i64.wrap ((BitVec.ofInt IntKind.i64.bits (a:Int) ||| BitVec.ofInt IntKind.i64.bits (b:Int)).toNat:Nat)))):=by simp [gbin,gval,eqGuard,binOp,Op.intBits,spure_pure,glit]
 have h1:(BitVec.ofInt IntKind.i64.bits (a:Int) ||| BitVec.ofInt IntKind.i64.bits (b:Int)).toNat = a ||| b:=by
  show (BitVec.ofInt 64 (a:Int) ||| BitVec.ofInt 64 (b:Int)).toNat = a ||| b
  rw [BitVec.ofInt_natCast,BitVec.ofInt_natCast,BitVec.toNat_or,BitVec.toNat_ofNat,BitVec.toNat_ofNat,Nat.mod_eq_of_lt (by omega),Nat.mod_eq_of_lt (by omega)]
 have h2:a ||| b < 2 ^ 63:=Nat.or_lt_two_pow ha hb
 rw [h,h1,w64 (by omega)]
theorem gb_and32I {a:Int} (h:0 ≤ a):gbin P .and t x y (.lit (.int .u64 a)) (.lit (.int .u64 4294967295)) = some (.lit (.int .u64 (a % 4294967296))):=by
 obtain ⟨n,rfl⟩:=Int.eq_ofNat_of_zero_le h
 rw [gb_and32]; rfl
theorem gb_and61I {a:Int} (h:0 ≤ a):gbin P .and t x y (.lit (.int .u64 a)) (.lit (.int .u64 2305843009213693951)) = some (.lit (.int .u64 (a % 2305843009213693952))):=by
 obtain ⟨n,rfl⟩:=Int.eq_ofNat_of_zero_le h
 rw [gb_and61]; rfl
theorem gb_shr32I {a:Int} (h:0 ≤ a):gbin P .shr t x y (.lit (.int .u64 a)) (.lit (.int .u64 32)) = some (.lit (.int .u64 (a / 4294967296))):=by
 obtain ⟨n,rfl⟩:=Int.eq_ofNat_of_zero_le h
 rw [gb_shr32]; rfl
theorem gb_shr61I {a:Int} (h:0 ≤ a):gbin P .shr t x y (.lit (.int .u64 a)) (.lit (.int .u64 61)) = some (.lit (.int .u64 (a / 2305843009213693952))):=by
 obtain ⟨n,rfl⟩:=Int.eq_ofNat_of_zero_le h
 rw [gb_shr61]; rfl
theorem gb_shl3I {a:Int}:gbin P .shl t x y (.lit (.int .u64 a)) (.lit (.int .u64 3)) = some (.lit (.int .u64 (IntKind.u64.wrap (a * 8)))):=by
 rw [show (3:Int) = ((3:Nat):Int) from rfl,gb_shl 3 (by decide)]
 rfl
end
section
variable {P:Program} {ops:Array Oper} {K:St → Prop} {rest:List Oper} {n:Nat} {gl:List (Nat × List G)} {fr:Fr} {σ:Sto} {c p:Nat} {rr:Bool} {d:Tmp} {ty:TypeId} {pos:String} {af:Array Edge}
theorem run_pc {f:FuncId} {xs:Array Operand} {ats:Array TypeId} {vs:List G} {r:G} (hv:xs.toList.map (gev ⟨n,gl,fr,σ,c,p,rr⟩) = vs) (hc:callable P f = true) (hi:∀ g ∈ vs,ImmG g) (hF:Fn' P gl f vs r) (hd:d < n) (h:Run P ops K rest ⟨n,gl,(d,r) :: fr,σ,c,p,rr⟩) :
  Run P ops K (⟨some d,.call { callee:=.value (.func f),args:=xs,argTypes:=ats },ty,pos,af,none⟩ :: rest) ⟨n,gl,fr,σ,c,p,rr⟩ :=
 run_e rfl (gs_call (f:=.func f) (fst:=[]) (cap:=[]) rfl (fun _ e => by cases e; exact hd) rfl hc (by simpa [hv] using hi) (by simpa [hv] using hF)) h
end
end Go.Proofs.YtpehhhbmobmedaaGreatDoor
