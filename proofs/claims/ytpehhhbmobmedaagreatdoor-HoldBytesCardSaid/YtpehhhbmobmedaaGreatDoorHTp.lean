/- The document's field: sums, products, powers, walked. -/
import Derived.Test.YtpehhhbmobmedaaGreatDoorGO
import Derived.Test.YtpehhhbmobmedaaGreatDoorG2
import Derived.Test.YtpehhhbmobmedaaGreatDoorEC
namespace Go.Proofs.YtpehhhbmobmedaaGreatDoor
set_option linter.unusedVariables false
set_option linter.unusedSimpArgs false
set_option linter.unusedSectionVars false
section
open Go.RowKit
attribute [local irreducible] Tr Run RunD GS TG Le Wk Frz Fn' ImmG Flat WkFr WkSt

set_option maxHeartbeats 400000 in
theorem add01_fn (a b:Nat) (ha:a < 18446744073709551616) (hb:b < 18446744073709551616):Fn' Tryz.prog [] 195 [gU a,gU b] (gU ((a + b) % 2305843009213693951)):=by
 refine fn_enter Tryz.func195 rfl (by simp [Tryz.ntmps195]) ?_
 simp only [St.enter,enterFr,Tryz.ntmps195]
 refine wW ?_
 exact ended_r rfl (frz_int (by omega))
theorem mul_mod (A B:Int) (hA:0 ≤ A) (hB:0 ≤ B) (L M H:Int) (hL:L = A % 4294967296 * (B % 4294967296)) (hM:M = A / 4294967296 * (B % 4294967296) + A % 4294967296 * (B / 4294967296)) (hH:H = A / 4294967296 * (B / 4294967296)) :
  (L % 2305843009213693951 + M % 536870912 * 4294967296 + M / 536870912 + 8 * H) % 2305843009213693951 = A * B % 2305843009213693951:=by
 have hx:A * B = L + M * 4294967296 + H * 18446744073709551616:=by
  have a1:=Int.emod_add_mul_ediv A 4294967296
  have b1:=Int.emod_add_mul_ediv B 4294967296
  subst hL; subst hM; subst hH
  generalize A % 4294967296 = a0 at *
  generalize A / 4294967296 = a2 at *
  generalize B % 4294967296 = b0 at *
  generalize B / 4294967296 = b2 at *
  rw [← a1,← b1]
  simp only [Int.add_mul,Int.mul_add]
  have e1:4294967296 * a2 * b0 = 4294967296 * (a2 * b0):=Int.mul_assoc ..
  have e2:a0 * (4294967296 * b2) = 4294967296 * (a0 * b2):=by rw [← Int.mul_assoc,Int.mul_comm a0,Int.mul_assoc]
  have e3:4294967296 * a2 * (4294967296 * b2) = 18446744073709551616 * (a2 * b2):=by rw [Int.mul_assoc,← Int.mul_assoc a2,Int.mul_comm a2,Int.mul_assoc,← Int.mul_assoc]; rfl
  rw [e1,e2,e3]
  omega
 rw [hx]
 omega
set_option maxHeartbeats 1000000 in
theorem mul01_fn (a b:Nat) (ha:a < 18446744073709551616) (hb:b < 18446744073709551616):Fn' Tryz.prog [] 166 [gU a,gU b] (gU (a * b % 2305843009213693951)):=by
 have e1:=mul_bd (x:=(a:Int) % 2305843009213693951 % 4294967296) (y:=(b:Int) % 2305843009213693951 % 4294967296) (m:=4294967295) (n:=4294967295) (by omega) (by omega) (by omega) (by omega)
 have e2:=mul_bd (x:=(a:Int) % 2305843009213693951 / 4294967296) (y:=(b:Int) % 2305843009213693951 % 4294967296) (m:=536870911) (n:=4294967295) (by omega) (by omega) (by omega) (by omega)
 have e3:=mul_bd (x:=(a:Int) % 2305843009213693951 % 4294967296) (y:=(b:Int) % 2305843009213693951 / 4294967296) (m:=4294967295) (n:=536870911) (by omega) (by omega) (by omega) (by omega)
 have e4:=mul_bd (x:=(a:Int) % 2305843009213693951 / 4294967296) (y:=(b:Int) % 2305843009213693951 / 4294967296) (m:=536870911) (n:=536870911) (by omega) (by omega) (by omega) (by omega)
 refine fn_enter Tryz.func166 rfl (by simp [Tryz.ntmps166]) ?_
 simp only [St.enter,enterFr,Tryz.ntmps166]
 refine wW ?_
 refine ended_r rfl (frz_int ?_)
 rw [mul_mod ((a:Int) % 2305843009213693951) ((b:Int) % 2305843009213693951) (by omega) (by omega) _ _ _ rfl rfl rfl,← Int.mul_emod]
 have e:((a * b:Nat):Int) = (a:Int) * b:=Int.natCast_mul a b
 rw [← e]
 omega
end
section
open Go.RowKit
attribute [local irreducible] Tr Run RunD GS TG Le Wk Frz Fn' ImmG Flat WkFr WkSt
attribute [local simp] gb_and32I gb_and61I gb_shr32I gb_shr61I gb_shl3I

theorem frz_two {P:Program} {st:St} {k k':IntKind} {x x' y y':Int} (h:x = x') (h':y = y'):Frz P st (.tup [.lit (.int k x),.lit (.int k' y)]) (.tup [.lit (.int k x'),.lit (.int k' y')]):=by
 subst h; subst h'
 refine frz_imm (imm_tup fun g hg => ?_)
 simp only [List.mem_cons,List.not_mem_nil,or_false] at hg
 rcases hg with rfl | rfl <;> exact imm_lit _
set_option maxHeartbeats 400000 in
theorem num_fn (a:Nat) (ha:a < 18446744073709551616):Fn' Tryz.prog [] 193 [gU a] (gU (a % 2305843009213693951)):=by
 refine fn_enter Tryz.func193 rfl (by simp [Tryz.ntmps193]) ?_
 simp only [St.enter,enterFr,Tryz.ntmps193]
 refine wW ?_
 refine tr_condP (p:=2305843009213693951 ≤ a % 2305843009213693952 + a / 2305843009213693952) ?_ (fun h => ?_) (fun h => ?_)
 ·simp; omega
 ·refine wW ?_
  exact ended_r rfl (frz_int (by omega))
 ·refine wW ?_
  exact ended_r rfl (frz_int (by omega))

set_option maxHeartbeats 1000000 in
theorem mul64_fn (x y:Nat) (hx:x < 18446744073709551616) (hy:y < 18446744073709551616):Fn' Tryz.prog [] 194 [gU x,gU y] (.tup [gU (x * y / 18446744073709551616),gU (x * y % 18446744073709551616)]):=by
 have e1:=mul_bd (x:=(x:Int) % 4294967296) (y:=(y:Int) % 4294967296) (m:=4294967295) (n:=4294967295) (by omega) (by omega) (by omega) (by omega)
 have e2:=mul_bd (x:=(x:Int) / 4294967296) (y:=(y:Int) % 4294967296) (m:=4294967295) (n:=4294967295) (by omega) (by omega) (by omega) (by omega)
 have e3:=mul_bd (x:=(x:Int) % 4294967296) (y:=(y:Int) / 4294967296) (m:=4294967295) (n:=4294967295) (by omega) (by omega) (by omega) (by omega)
 have e4:=mul_bd (x:=(x:Int) / 4294967296) (y:=(y:Int) / 4294967296) (m:=4294967295) (n:=4294967295) (by omega) (by omega) (by omega) (by omega)
 refine fn_enter Tryz.func194 rfl (by simp [Tryz.ntmps194]) ?_
 simp only [St.enter,enterFr,Tryz.ntmps194]
 refine wW ?_
 refine ended_r2 rfl (frz_two ?_ ?_)
 ·obtain ⟨_,_,_,h⟩:=Lib.mul64_hi x y hx hy
  have h':=congrArg Int.ofNat h
  exact h'
 ·rw [IntKind.wrap_u64]
  rfl

theorem fmul_law (a b:Nat) (hi lo:Nat) (h:hi * 18446744073709551616 + lo = a % 2305843009213693951 * (b % 2305843009213693951)) (hl:lo < 18446744073709551616):hi < 288230376151711744 ∧ (lo % 2305843009213693951 + hi * 8) % 2305843009213693951 = a * b % 2305843009213693951:=by
 have h1:a % 2305843009213693951 * (b % 2305843009213693951) ≤ 2305843009213693950 * 2305843009213693950:=Nat.mul_le_mul (by omega) (by omega)
 rw [Nat.mul_mod a b,← h]
 omega
theorem imm_two {x y:Nat}:∀ g ∈ [gU x,gU y],ImmG g:=fun g hg => by
 simp only [List.mem_cons,List.not_mem_nil,or_false] at hg
 rcases hg with rfl | rfl <;> exact imm_lit _
theorem imm_one {x:Nat}:∀ g ∈ [gU x],ImmG g:=fun g hg => by
 obtain rfl:=List.mem_singleton.1 hg
 exact imm_lit _
set_option maxHeartbeats 1000000 in
theorem fmul_fn (a b:Nat) (ha:a < 18446744073709551616) (hb:b < 18446744073709551616):Fn' Tryz.prog [] 146 [gU a,gU b] (gU (a * b % 2305843009213693951)):=by
 have hm:=mul64_fn (a % 2305843009213693951) (b % 2305843009213693951) (by omega) (by omega)
 obtain ⟨hi,hhi⟩:∃ hi,hi = a % 2305843009213693951 * (b % 2305843009213693951) / 18446744073709551616:=⟨_,rfl⟩
 obtain ⟨lo,hlo⟩:∃ lo,lo = a % 2305843009213693951 * (b % 2305843009213693951) % 18446744073709551616:=⟨_,rfl⟩
 rw [← hhi,← hlo] at hm
 have hl:lo < 18446744073709551616:=by rw [hlo]; exact Nat.mod_lt _ (by omega)
 obtain ⟨h1,h2⟩:=fmul_law a b hi lo (by rw [hhi,hlo]; exact Nat.div_add_mod' _ _) hl
 clear hhi hlo
 rw [← h2]
 refine fn_enter Tryz.func146 rfl (by simp [Tryz.ntmps146]) ?_
 simp only [St.enter,enterFr,Tryz.ntmps146]
 refine wW ?_
 refine run_pc rfl (by kernel_rfl) imm_one (num_fn a ha) (by decide) ?_
 refine wW ?_
 refine run_pc rfl (by kernel_rfl) imm_one (num_fn b hb) (by decide) ?_
 refine run_pc rfl (by kernel_rfl) imm_two hm (by decide) ?_
 refine wW ?_
 refine run_pc rfl (by kernel_rfl) imm_one (num_fn lo hl) (by decide) ?_
 refine wW ?_
 refine run_pc (vs:=[gU (lo % 2305843009213693951 + hi * 8)]) ?_ (by kernel_rfl) imm_one (num_fn _ (by omega)) (by decide) ?_
 ·simp [List.map]
  try omega
 refine wW ?_
 exact ended_r rfl (frz_int (by simp))
end
section
open Go.RowKit
theorem fn_gl {P:Program} {gl:List (Nat × List G)} {f:FuncId} {gs:List G} {r:G} (h:Fn' P [] f gs r):Fn' P gl f gs r:=fun w S vs hS _ hsz hvs => h w S vs hS (fun _ _ h => by cases h) hsz hvs
def is64 (n:Nat):Bool:=Nat.blt n 18446744073709551616
theorem is64_lt {n:Nat} (h:is64 n = true):n < 18446744073709551616:=Nat.le_of_ble_eq_true h
def tpA:XPure:=fun fid gs _ => match gs with
 | [.lit (.int .u64 (.ofNat a)),.lit (.int .u64 (.ofNat b))] => bif is64 a && is64 b then
   (bif Nat.beq fid 166 then some (gU (a * b % 2305843009213693951))
   else bif Nat.beq fid 146 then some (gU (a * b % 2305843009213693951))
   else bif Nat.beq fid 195 then some (gU ((a + b) % 2305843009213693951))
   else none) else none
 | [.lit (.int .u64 (.ofNat a))] => bif is64 a && Nat.beq fid 193 then some (gU (a % 2305843009213693951)) else none
 | _ => none
theorem tpA_ok:PureOk Tryz.prog tpA:=by
 intro fid gs gl r h
 unfold tpA at h
 split at h
 ·rename_i a b
  cases hc:(is64 a && is64 b) with
  | false => rw [hc] at h; cases h
  | true =>
   rw [hc] at h
   simp only [Bool.and_eq_true] at hc
   have ha:=is64_lt hc.1
   have hb:=is64_lt hc.2
   simp only [cond_true] at h
   cases h1:Nat.beq fid 166 with
   | true =>
    rw [h1] at h; cases h
    obtain rfl:=Nat.eq_of_beq_eq_true h1
    exact ⟨fn_gl (mul01_fn a b ha hb),flat_lit _,by kernel_rfl⟩
   | false =>
   rw [h1] at h
   simp only [cond_false] at h
   cases h2:Nat.beq fid 146 with
   | true =>
    rw [h2] at h; cases h
    obtain rfl:=Nat.eq_of_beq_eq_true h2
    exact ⟨fn_gl (fmul_fn a b ha hb),flat_lit _,by kernel_rfl⟩
   | false =>
   rw [h2] at h
   simp only [cond_false] at h
   cases h3:Nat.beq fid 195 with
   | true =>
    rw [h3] at h; cases h
    obtain rfl:=Nat.eq_of_beq_eq_true h3
    exact ⟨fn_gl (add01_fn a b ha hb),flat_lit _,by kernel_rfl⟩
   | false => rw [h3] at h; cases h
 ·rename_i a
  cases hc:(is64 a && Nat.beq fid 193) with
  | false => rw [hc] at h; cases h
  | true =>
   rw [hc] at h
   simp only [Bool.and_eq_true] at hc
   cases h
   obtain rfl:=Nat.eq_of_beq_eq_true hc.2
   exact ⟨fn_gl (num_fn a (is64_lt hc.1)),flat_lit _,by kernel_rfl⟩
 ·cases h
end
end Go.Proofs.YtpehhhbmobmedaaGreatDoor
